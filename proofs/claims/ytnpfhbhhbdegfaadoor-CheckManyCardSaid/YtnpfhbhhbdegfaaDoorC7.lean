/- Results behind a call. -/
import Derived.Test.YtnpfhbhhbdegfaaDoorC6
set_option linter.unusedSimpArgs false
set_option linter.unusedVariables false
namespace Go.Abs

section
variable {lo1 n : Nat} {g1 gF : G}

theorem embed_sl {h : Heap} {np : Nat} {d : Nat} {x : AV} {sz b k off len : Nat} (e : embed h n np d x = some (.sl sz b k off len)) : x = .sl sz b k off len ∧ b < n := by
  cases d with
  | zero =>
    simp only [embed] at e
    split at e
    · rename_i hc; cases e; simp [AV.closed] at hc
    · cases e
  | succ d =>
    simp only [embed] at e
    split at e
    · rename_i hc; cases e; simp [AV.closed] at hc
    · split at e
      · split at e
        · rename_i hlt; cases e; exact ⟨rfl, hlt⟩
        · split at e
          · split at e
            · split at e
              · cases e
              · simp only [Option.map_eq_some_iff] at e
                obtain ⟨_, _, h⟩ := e
                cases h
            · cases e
          · cases e
      · split at e
        · cases e
        · split at e
          · split at e
            · split at e
              · cases e
              · simp only [Option.map_eq_some_iff] at e
                obtain ⟨_, _, h⟩ := e
                cases h
            · cases e
          · cases e
      all_goals first
        | (simp only [Option.map_eq_some_iff] at e; obtain ⟨_, _, h⟩ := e; cases h; done)
        | (split at e <;> cases e; done)
        | cases e

theorem embed_closed {h : Heap} {np d : Nat} {x : AV} (hc : x.closed = true) : embed h n np (d + 1) x = some x ∧ slIds h n (d + 1) x = [] := by
  simp [embed, slIds, hc]

/-- One result. -/
theorem seal1_rep (hr : HRep lo1 g1) {keep : Bool} {tgt : Nat} {v r : AV} {bs : List Blk} {v1 : Value} (hv : Rep g1 v v1) (h : seal1 keep g1.h n tgt v = some (r, bs)) {Gd : AV → Prop} {Em : Nat → Prop}
    (HE : ∀ x y u, embed g1.h n n depth x = some y → Rep g1 x u → (∀ b ∈ slIds g1.h n depth x, Em b) → Gd y → Rep gF y u)
    (HS : ∀ sz b k off len u, b < n → Rep g1 (.sl sz b k off len) u → Rep gF (.sl sz b k off len) u) (F2 : gF.w = g1.w) (hEm : ∀ b ∈ embIds1 keep g1.h n v, Em b)
    (hGr : (∀ s b k o l, r ≠ .sl s b k o l) → Gd r) (hGb : ∀ B ∈ bs, ∀ e ∈ B.es, Gd e)
    (F5 : ∀ B, bs = [B] → vblk gF.h gF.r tgt = some B ∧ ∀ kb, keptOf n v = [kb] → gF.r tgt = g1.r kb) :
    Rep gF r v1 ∧ ((bs = [] ∧ (keep = true → keptOf n v = [])) ∨ ∃ B kb B0, bs = [B] ∧ keep = true ∧ keptOf n v = [kb] ∧ vblk g1.h g1.r kb = some B0 ∧ B0.frz = false ∧ B.frz = false ∧ n ≤ kb ∧ BlkRep gF tgt B) := by
  have emb : ∀ {y : AV}, embed g1.h n n depth v = some y → (∀ b ∈ slIds g1.h n depth v, Em b) → ((∀ s b k o l, y ≠ .sl s b k o l) → Gd y) → Rep gF y v1 := by
    intro y hy hm hg
    cases y with
    | sl s b k o l =>
      obtain ⟨rfl, hlt⟩ := embed_sl hy
      exact HS _ _ _ _ _ _ hlt hv
    | _ => exact HE _ _ _ hy hv hm (hg (by simp))
  unfold seal1 at h
  split at h
  · rename_i sz b k off len
    split at h
    · rename_i hbn
      split at h
      · rename_i B hB
        split at h
        · cases h
        · rename_i hc
          simp only [Bool.or_eq_true, not_or, Bool.not_eq_true, Bool.not_eq_false', beq_iff_eq, decide_eq_true_eq] at hc
          obtain ⟨⟨c1, c2⟩, c3⟩ := hc
          subst c2
          obtain ⟨hBb, hBl⟩ := good_eq.1 hB
          have hBv : vblk g1.h g1.r b = some B := vblk_of hBb
          split at h
          · rename_i es hes
            cases h
            have hkept : keptOf n (.sl sz b k 0 len) = [b] := by simp [keptOf, hbn]
            obtain ⟨f1, f2⟩ := F5 _ rfl
            have f2 := f2 b hkept
            have hesl : es.length = len ∧ ∀ (i : Nat) (y : AV), es[i]? = some y → ∃ x, B.es[i]? = some x ∧ embed g1.h n n depth x = some y ∧ ∀ b ∈ slIds g1.h n depth x, Em b := by
              split at hes
              · rename_i hcl
                cases hes
                refine ⟨by simp; omega, fun i y hy => ?_⟩
                rw [List.getElem?_take] at hy
                split at hy
                · have hyc := closedL_iff.1 hcl i y hy
                  refine ⟨y, hy, (embed_closed hyc).1, fun b hb => ?_⟩
                  rw [show slIds g1.h n depth y = [] from (embed_closed (np := n) hyc).2] at hb
                  cases hb
                · cases hy
              · rename_i hcl
                obtain ⟨ml, mi⟩ := mapO_some hes
                refine ⟨by rw [ml]; simp; omega, fun i y hy => ?_⟩
                obtain ⟨x, hx, hxy⟩ := mapO_rep hes hy
                have hx2 := hx
                rw [List.getElem?_take] at hx2
                split at hx2
                · refine ⟨x, hx2, hxy, fun b' hb' => hEm b' ?_⟩
                  simp only [embIds1, if_pos hbn, hB, if_neg hcl]
                  exact List.mem_flatMap.2 ⟨x, List.mem_of_getElem? hx, hb'⟩
                · cases hx2
            obtain ⟨e1, e2⟩ := hesl
            cases hv with
            | sl r1 r2 r3 r6 r7 r4 r5 =>
              rename_i cap A
              have gd1 : vgood g1.h g1.r b k = some B := vgood_of hB
              refine ⟨.sl ⟨_, f1, by simp [e1]⟩ r2 (by simp) (fun C hC => ?_) r7 (fun hp C c hC hcc => ?_) (fun _ C hC => ?_), .inr ⟨_, b, B, rfl, rfl, hkept, hBv, c1, c1, hbn, ?_⟩⟩
              · have := (vgood_eq.1 hC).1
                rw [f1] at this
                cases this
                rfl
              · rw [f2] at hcc
                have := r4 hp B c gd1 hcc
                simpa using this
              · have := (vgood_eq.1 hC).1
                rw [f1] at this
                cases this
                obtain ⟨ha, hb⟩ := r5 rfl B gd1
                rw [F2, f2]
                exact ⟨ha, hb⟩
              · obtain ⟨hn1, hn2⟩ := hr.blks b B hBv
                refine ⟨fun hn => ?_, fun c hcc => ?_⟩
                · rw [f2] at hn
                  have := hn1 hn
                  rw [this] at hBl
                  simp only at hBl ⊢
                  exact List.length_eq_zero_iff.1 (by simp at hBl; omega)
                · rw [f2] at hcc
                  obtain ⟨cells, k1, k2, k3⟩ := hn2 c hcc
                  refine ⟨cells, by rw [F2]; exact k1, Nat.le_trans (Nat.mul_le_mul_right _ (by simp only; omega)) k2, fun i y hy => ?_⟩
                  obtain ⟨x, hx, hxy, hm⟩ := e2 i y hy
                  obtain ⟨u, u1, u2, u3⟩ := k3 i x hx
                  exact ⟨u, HE x y u hxy u1 hm (hGb _ (by simp) y (List.mem_of_getElem? hy)), u2, u3⟩
          · cases h
      · cases h
    · rename_i hbn
      cases h
      exact ⟨HS _ _ _ _ _ _ (by omega) hv, .inl ⟨rfl, fun _ => by simp [keptOf, hbn]⟩⟩
  · rename_i hnk
    split at h
    · rename_i y hy
      cases h
      have hk : keep = true → keptOf n v = [] := fun hk => by
        subst hk
        cases v with
        | sl s b k o l => exact absurd rfl (hnk s b k o l rfl)
        | _ => rfl
      refine ⟨emb hy (fun b hb => hEm b ?_) hGr, .inl ⟨rfl, hk⟩⟩
      unfold embIds1
      split
      · rename_i s b' k o l
        exact absurd rfl (hnk s b' k o l rfl)
      · exact hb
    · cases h

end
end Go.Abs
