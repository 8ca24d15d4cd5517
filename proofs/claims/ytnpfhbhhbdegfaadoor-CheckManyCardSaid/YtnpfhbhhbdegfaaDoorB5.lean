/- Every operation but the call. -/
import Derived.Test.YtnpfhbhhbdegfaaDoorB4
set_option linter.unusedSimpArgs false
set_option linter.unusedVariables false
namespace Go.Abs

section
variable {P : Program} {g : G} {fr : Frame} {a : Act} {lo base : Nat} {gh : Nat → List (Nat × Nat × Nat)}

theorem put1_eq {h h' : Heap} {x : Option AV} {v : AV} (e : put1 h x = some (v, h')) : x = some v ∧ h' = h := by
  unfold put1 at e
  split at e
  · cases e; exact ⟨rfl, rfl⟩
  · cases e
theorem putU_eq {x : Option Heap} {v : AV} {h' : Heap} (e : putU x = some (v, h')) : x = some h' ∧ v = .undef := by
  unfold putU at e
  split at e
  · cases e; exact ⟨rfl, rfl⟩
  · cases e

def AOp.isCall : AOp → Bool
  | .call .. => true
  | _ => false

theorem step_builtin {cf : CallF} {o : Oper} {c : Call} {op' : AOp} {tgt : Nat} {v : AV} {h' : Heap} (ho : o.op = .call c) (hc : cCall P c = some op') (hnc : op'.isCall = false) (hf : FrRep g fr a) (hr : HRep lo g) (hb : base ≤ tgt)
    (h : stepOp cf lo base tgt op' fr g.h = some (v, h')) : Ok P o a lo base g v h' := by
  obtain ⟨callee, as, ats⟩ := c
  unfold cCall at hc
  split at hc
  · split at hc
    · cases hc; cases hnc
    · cases hc
  · rename_i b xs hb2 hxs
    simp only at hb2 hxs
    subst hb2
    split at hc
    · rename_i x t hts
      simp only at hts
      have has : ∃ y, as = #[y] ∧ opd y = some x := by
        obtain ⟨hl, hi⟩ := mapO_some hxs
        cases hA : as.toList with
        | nil => rw [hA] at hl; simp at hl
        | cons y ys =>
          have : ys = [] := by rw [hA] at hl; simp at hl; exact hl
          subst this
          obtain ⟨z, h1, h2⟩ := hi 0 y (by rw [hA]; rfl)
          cases h1
          exact ⟨y, by rw [← Array.toArray_toList (xs := as), hA], h2⟩
      obtain ⟨y, rfl, hy⟩ := has
      have hts' : ats = #[t] := by rw [← Array.toArray_toList (xs := ats), hts]
      subst hts'
      split at hc
      · rename_i hs
        cases hc
        simp only [stepOp] at h
        split at h
        · rename_i s hX
          cases h
          exact (yl_lenStr ho hy hf hs hX).ok hr
        · cases h
      · split at hc
        · rename_i e he
          cases hc
          simp only [stepOp] at h
          split at h
          · rename_i n hn
            cases h
            exact (yl_lenSl ho hy hf he hn).ok hr
          · cases h
        · cases hc
    · rename_i x y t u hts
      simp only at hts
      split at hc
      · rename_i e he
        split at hc
        · rename_i sz bs z hsz hbs hz
          split at hc
          · rename_i hcc
            obtain ⟨rfl, c2, c3, c4⟩ := hcc
            cases hc
            have has : ∃ p q, as.toList = [p, q] ∧ opd p = some x ∧ opd q = some y := by
              obtain ⟨hl, hi⟩ := mapO_some hxs
              match hA : as.toList with
              | [p, q] =>
                rw [hA] at hi
                obtain ⟨z1, h1, h2⟩ := hi 0 p rfl
                obtain ⟨z2, h3, h4⟩ := hi 1 q rfl
                cases h1
                cases h3
                exact ⟨p, q, rfl, h2, h4⟩
              | [] => rw [hA] at hl; simp at hl
              | [_] => rw [hA] at hl; simp at hl
              | _ :: _ :: _ :: _ => rw [hA] at hl; simp at hl
            obtain ⟨p, q, hA, hp, hq⟩ := has
            simp only [stepOp] at h
            split at h
            · rename_i ys hys
              exact ok_append ho hA hts hp hq (elT_of he hsz hbs hz c2 c3 c4) hf hr hb hys h
            · cases h
          · cases hc
        · cases hc
      · cases hc
    · rename_i x t hts
      simp only at hts
      split at hc
      · rename_i e he
        split at hc
        · rename_i sz z hsz hz
          split at hc
          · cases hc
            have has : ∃ p, as.toList = [p] ∧ opd p = some x := by
              obtain ⟨hl, hi⟩ := mapO_some hxs
              match hA : as.toList with
              | [p] =>
                rw [hA] at hi
                obtain ⟨z1, h1, h2⟩ := hi 0 p rfl
                cases h1
                exact ⟨p, rfl, h2⟩
              | [] => rw [hA] at hl; simp at hl
              | _ :: _ :: _ => rw [hA] at hl; simp at hl
            obtain ⟨p, hA, hp⟩ := has
            simp only [stepOp] at h
            obtain ⟨h1, rfl⟩ := putU_eq h
            exact ok_clear ho hA hts hp he hsz hz hf hr h1
          · cases hc
        · cases hc
      · cases hc
    · rename_i x xs' _
      cases hc
      simp only [stepOp] at h
      obtain ⟨h1, rfl⟩ := put1_eq h
      exact (yl_mx ho hxs hf h1).ok hr
    · rename_i x xs' _
      cases hc
      simp only [stepOp] at h
      obtain ⟨h1, rfl⟩ := put1_eq h
      exact (yl_mn ho hxs hf h1).ok hr
    · cases hc
  · cases hc

theorem isIntT_eq {t : Nat} (h : isIntT P t = true) : ∃ k, P.underlying t = some (.int k) := by
  unfold isIntT at h
  split at h
  · exact ⟨_, by assumption⟩
  · cases h

theorem step_sound {cf : CallF} {draw : Bool} {o : Oper} {op' : AOp} {tgt : Nat} {v : AV} {h' : Heap} (hc : compileOp P gh draw o.op = some op') (hnc : op'.isCall = false) (hf : FrRep g fr a) (hr : HRep lo g) (hb : base ≤ tgt)
    (h : stepOp cf lo base tgt op' fr g.h = some (v, h')) : Ok P o a lo base g v h' := by
  cases ho : o.op with
  | move x =>
    rw [ho] at hc
    simp only [compileOp, Option.map_eq_some_iff] at hc
    obtain ⟨y, hy, rfl⟩ := hc
    cases h
    exact (yl_move (.inl ho) hy hf).ok hr
  | assign x =>
    rw [ho] at hc
    simp only [compileOp, Option.map_eq_some_iff] at hc
    obtain ⟨y, hy, rfl⟩ := hc
    cases h
    exact (yl_move (.inr ho) hy hf).ok hr
  | pick c x y =>
    rw [ho] at hc
    simp only [compileOp] at hc
    split at hc
    · rename_i c' x' y' h1 h2 h3
      cases hc
      simp only [stepOp] at h
      split at h
      · rename_i t ht
        cases h
        exact (yl_pick ho h1 h2 h3 hf ht).ok hr
      · cases h
    · cases hc
  | box t x =>
    rw [ho] at hc
    simp only [compileOp] at hc
    split at hc
    · rename_i n x' h1 h2
      cases hc
      exact ok_box ho h2 hf hr hb h
    · cases hc
  | alloc t =>
    rw [ho] at hc
    simp only [compileOp] at hc
    split at hc
    · rename_i n z h1 h2
      cases hc
      exact ok_alloc ho h2 hr hb h
    · cases hc
  | build t ps =>
    rw [ho] at hc
    simp only [compileOp] at hc
    split at hc
    · rename_i z ps' h1 h2
      split at hc
      · rename_i hk
        cases hc
        simp only [stepOp] at h
        split at h
        · rename_i cs hcs
          cases h
          exact (yl_build ho h1 h2 hk hf hcs).ok hr
        · cases h
      · cases hc
    · cases hc
  | buildSlice t len ps =>
    rw [ho] at hc
    simp only [compileOp] at hc
    split at hc
    · rename_i e he
      split at hc
      · rename_i sz z ps' h1 h2 h3
        split at hc
        · rename_i hk
          obtain ⟨k1, k2, k3⟩ := hk
          cases hc
          simp only [stepOp] at h
          split at h
          · rename_i es hes
            rw [if_pos k3] at h
            exact ok_buildSl ho he h1 h2 h3 k1 k2 k3 hf hr hb hes h
          · cases h
        · cases hc
      · cases hc
    · cases hc
  | load t x =>
    rw [ho] at hc
    simp only [compileOp] at hc
    split at hc
    · rename_i ag n x' h1 h2 h3
      cases hc
      simp only [stepOp] at h
      obtain ⟨h4, rfl⟩ := put1_eq h
      exact (yl_load ho h3 hf hr h1 h2 h4).ok hr
    · cases hc
  | store t x y =>
    rw [ho] at hc
    simp only [compileOp] at hc
    split at hc
    · rename_i n x' y' h1 h2 h3
      cases hc
      simp only [stepOp] at h
      obtain ⟨h4, rfl⟩ := putU_eq h
      exact ok_store ho h2 h3 h1 hf hr h4
    · cases hc
  | nilCheck x =>
    rw [ho] at hc
    simp only [compileOp, Option.map_eq_some_iff] at hc
    obtain ⟨x', hx, rfl⟩ := hc
    simp only [stepOp] at h
    split at h
    · rename_i b k i q hX
      cases h
      have := (yl_nilChk (P := P) ho hx hf (.inl ⟨_, _, _, _, hX⟩)).ok (lo := lo) (base := base) hr
      rwa [hX] at this
    · rename_i s e q hX
      cases h
      have := (yl_nilChk (P := P) ho hx hf (.inr ⟨_, _, _, hX⟩)).ok (lo := lo) (base := base) hr
      rwa [hX] at this
    · cases h
  | binOp op t x y u =>
    rw [ho] at hc
    simp only [compileOp] at hc
    split at hc
    · rename_i x' y' h1 h2
      unfold cBin at hc
      split at hc
      · cases hc
        simp only [stepOp] at h
        obtain ⟨h4, rfl⟩ := put1_eq h
        exact (yl_bin ho h1 h2 hf h4).ok hr
      · split at hc
        · rename_i hbt
          simp only [Option.map_eq_some_iff] at hc
          obtain ⟨n, hn, rfl⟩ := hc
          simp only [stepOp] at h
          split at h
          · rename_i p q hp hq
            cases h
            exact (yl_eqB ho h1 h2 hf hn hbt hp hq).ok hr
          · cases h
        · split at hc
          · rename_i hel
            simp only [Bool.and_eq_true, Option.isSome_iff_exists] at hel
            obtain ⟨⟨e, he⟩, hem⟩ := hel
            simp only [Option.map_eq_some_iff] at hc
            obtain ⟨n, hn, rfl⟩ := hc
            simp only [stepOp] at h
            split at h
            · rename_i b hb
              cases h
              exact (yl_isNil_nn ho h1 h2 hem hf hn he hb).ok hr
            · split at h
              · rename_i m hm
                split at h
                · cases h
                · rename_i h0
                  cases h
                  exact (yl_isNil ho h1 h2 hem hf hn he hm h0).ok hr
              · cases h
          · cases hc
    · cases hc
  | unOp op t x =>
    rw [ho] at hc
    simp only [compileOp, Option.map_eq_some_iff] at hc
    obtain ⟨x', hx, rfl⟩ := hc
    simp only [stepOp] at h
    obtain ⟨h4, rfl⟩ := put1_eq h
    exact (yl_un ho hx hf h4).ok hr
  | convert s d x =>
    rw [ho] at hc
    simp only [compileOp] at hc
    split at hc
    · rename_i x' hx
      unfold cConv at hc
      split at hc
      · rename_i ks k hs hd
        cases hc
        simp only [stepOp] at h
        split at h
        · rename_i k' n hX
          cases h
          exact (yl_conv ho hx hf hs hd hX).ok hr
        · cases h
      · rename_i e hs hd
        split at hc
        · rename_i hu
          cases hc
          simp only [stepOp] at h
          split at h
          · rename_i xs hxs
            split at h
            · rename_i l hl
              cases h
              exact (yl_b2s ho hx hf hr hs hu hd hxs hl).ok hr
            · cases h
          · cases h
        · cases hc
      · rename_i e hs hd
        split at hc
        · rename_i hu
          cases hc
          simp only [stepOp] at h
          split at h
          · rename_i l hX
            split at h
            · cases h
              exact ok_s2b ho hx hf hr hs hd hu hX
            · cases h
          · cases h
        · cases hc
      · cases hc
    · cases hc
  | makeFunc f xs cs =>
    rw [ho] at hc
    cases f with
    | func f =>
      simp only [compileOp] at hc
      split at hc
      · rename_i xs' cs' h1 h2
        cases hc
        simp only [stepOp, Option.some.injEq, Prod.mk.injEq] at h
        obtain ⟨rfl, rfl⟩ := h
        exact (yl_mkfn ho h1 h2 hf).ok hr
      · cases hc
    | _ => simp [compileOp] at hc
  | makeSlice t l c =>
    rw [ho] at hc
    simp only [compileOp] at hc
    split at hc
    · rename_i e he
      split at hc
      · rename_i sz bs z l' c' h1 h2 h3 h4 h5
        split at hc
        · rename_i hk
          obtain ⟨k1, k2, k3⟩ := hk
          cases hc
          simp only [stepOp] at h
          split at h
          · rename_i n m hn hm
            split at h
            · rename_i hq
              obtain ⟨q1, q2, q3⟩ := hq
              split at h
              · rename_i h1' hp
                cases h
                exact ok_mksl ho he h1 h2 h3 k1 h4 h5 hf hr hb hn hm q1 q2 k3 hp rfl
              · cases h
            · cases h
          · cases h
        · cases hc
      · cases hc
    · cases hc
  | slice t x l r m =>
    rw [ho] at hc
    simp only [compileOp] at hc
    split at hc
    · rename_i x' lo' hi' mx' h1 h2 h3 h4
      split at hc
      · rename_i hs
        split at hc
        · cases hc
          have hm0 : m = none := by
            cases m with
            | none => rfl
            | some m => simp [opdO] at h4
          subst hm0
          simp only [stepOp] at h
          split at h
          · rename_i s hX
            split at h
            · rename_i p q hp hq
              split at h
              · rename_i hpq
                cases h
                exact (yl_slStr ho h1 h2 h3 hf hs hX hp hq hpq.1 hpq.2).ok hr
              · cases h
            · cases h
          · cases h
        · cases hc
      · split at hc
        · rename_i e he
          split at hc
          · rename_i sz hsz
            split at hc
            · cases hc
            · rename_i hmx
              cases hc
              simp only [stepOp] at h
              split at h
              · rename_i n hn
                split at h
                · rename_i p q hp hq
                  split at h
                  · have hm0 : m = none := by
                      cases m with
                      | none => rfl
                      | some m => simp [opdO] at h4
                    subst hm0
                    obtain ⟨h5, rfl⟩ := put1_eq h
                    exact (yl_slSl ho h1 h2 h3 hf he hsz hn hp hq h5).ok hr
                  · rename_i m1
                    split at h
                    · rename_i m' hm'
                      obtain ⟨mo, rfl, hmo⟩ : ∃ mo, m = some mo ∧ opd mo = some m1 := by
                        cases m with
                        | none => simp [opdO] at h4
                        | some mo => simp only [opdO, Option.map_eq_some_iff, Option.some.injEq, exists_eq_right] at h4; exact ⟨mo, rfl, h4⟩
                      obtain ⟨h5, rfl⟩ := put1_eq h
                      exact (yl_slMax ho h1 h2 h3 hmo hf he hsz hn hp hq hm' (by cases hi' with
                        | none => simp at hmx
                        | some _ => rfl) h5).ok hr
                    · cases h
                · cases h
              · cases h
          · cases hc
        · cases hc
    · cases hc
  | fieldAddr s x f =>
    rw [ho] at hc
    simp only [compileOp] at hc
    split at hc
    · rename_i off n b x' h1 h2
      split at hc
      · cases hc
      · rename_i hn
        cases hc
        simp only [stepOp] at h
        obtain ⟨h4, rfl⟩ := put1_eq h
        exact (yl_faddr ho h2 hf h1 hn h4).ok hr
    · cases hc
  | indexAddr t x i =>
    rw [ho] at hc
    simp only [compileOp] at hc
    split at hc
    · rename_i e x' i' h1 h2 h3
      split at hc
      · rename_i sz hsz
        cases hc
        simp only [stepOp] at h
        obtain ⟨h4, rfl⟩ := put1_eq h
        exact (yl_iaddr ho h2 h3 hf h1 hsz h4).ok hr
      · cases hc
    · rename_i x' i' h1 h2 h3
      split at hc
      · rename_i len e hu
        split at hc
        · rename_i sz hsz
          split at hc
          · rename_i h1l
            cases hc
            simp only [stepOp] at h
            split at h
            · rename_i j hj
              split at h
              · rename_i hl
                obtain ⟨h4, rfl⟩ := put1_eq h
                exact (yl_aaddr ho h2 h3 hf hu hsz hj hl h1l h4).ok hr
              · cases h
            · cases h
          · cases hc
        · cases hc
      · cases hc
    · cases hc
  | index t x i =>
    rw [ho] at hc
    simp only [compileOp] at hc
    split at hc
    · rename_i x' i' h1 h2
      split at hc
      · rename_i hs
        cases hc
        simp only [stepOp] at h
        obtain ⟨h4, rfl⟩ := put1_eq h
        exact (yl_istr ho h1 h2 hf hs h4).ok hr
      · cases hc
    · cases hc
  | extract x i =>
    rw [ho] at hc
    simp only [compileOp, Option.map_eq_some_iff] at hc
    obtain ⟨x', hx, rfl⟩ := hc
    simp only [stepOp] at h
    split at h
    · rename_i vs hX
      obtain ⟨h4, rfl⟩ := put1_eq h
      exact (yl_extract ho hx hf hX h4).ok hr
    · cases h
  | call c =>
    rw [ho] at hc
    simp only [compileOp] at hc
    exact step_builtin ho hc hnc hf hr hb h
  | _ =>
    rw [ho] at hc
    simp [compileOp] at hc

end
end Go.Abs
