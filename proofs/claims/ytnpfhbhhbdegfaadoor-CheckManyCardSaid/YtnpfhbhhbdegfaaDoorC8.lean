/- Results behind a call: several. -/
import Derived.Test.YtnpfhbhhbdegfaaDoorC7
set_option linter.unusedSimpArgs false
set_option linter.unusedVariables false
namespace Go.Abs

section
variable {lo1 n : Nat} {g1 gF : G}

/-- A kept block and what it was. -/
def KeptAt (n : Nat) (g1 gF : G) (tgt : Nat) (K : List Nat) (bs : List Blk) : Prop :=
  bs.length = K.length ∧ ∀ (j : Nat) (B : Blk), bs[j]? = some B → ∃ kb B0, K[j]? = some kb ∧ vblk g1.h g1.r kb = some B0 ∧ B0.frz = false ∧ B.frz = false ∧ n ≤ kb ∧ BlkRep gF (tgt + j) B
def Placed (g1 gF : G) (tgt : Nat) (K : List Nat) (bs : List Blk) : Prop :=
  ∀ (j : Nat) (B : Blk), bs[j]? = some B → vblk gF.h gF.r (tgt + j) = some B ∧ ∀ kb, K[j]? = some kb → gF.r (tgt + j) = g1.r kb

theorem seal1_emb {keep : Bool} {h : Heap} {tgt : Nat} {v r : AV} {bs : List Blk} (e : seal1 keep h n tgt v = some (r, bs)) (hn : keep = false ∨ ∀ s b k o l, v ≠ .sl s b k o l) : bs = [] := by
  unfold seal1 at e
  split at e
  · rename_i s b k o l
    rcases hn with hn | hn
    · cases hn
    · exact absurd rfl (hn s b k o l)
  · split at e
    · cases e; rfl
    · cases e
theorem seal1_len {h : Heap} {tgt : Nat} {v r : AV} {bs : List Blk} (e : seal1 true h n tgt v = some (r, bs)) : bs.length = (keptOf n v).length := by
  cases v with
  | sl sz b k off len =>
    simp only [seal1] at e
    split at e
    · rename_i hbn
      split at e
      · split at e
        · cases e
        · split at e
          · cases e; simp [keptOf, hbn]
          · cases e
      · cases e
    · rename_i hbn; cases e; simp [keptOf, hbn]
  | _ => rw [seal1_emb e (.inr (by simp))]; rfl

theorem seal1_kept (hr : HRep lo1 g1) {keep : Bool} {tgt : Nat} {v r : AV} {bs : List Blk} {v1 : Value} (hv : Rep g1 v v1) (h : seal1 keep g1.h n tgt v = some (r, bs)) {Gd : AV → Prop} {Em : Nat → Prop}
    (HE : ∀ x y u, embed g1.h n n depth x = some y → Rep g1 x u → (∀ b ∈ slIds g1.h n depth x, Em b) → Gd y → Rep gF y u)
    (HS : ∀ sz b k off len u, b < n → Rep g1 (.sl sz b k off len) u → Rep gF (.sl sz b k off len) u) (F2 : gF.w = g1.w) (hEm : ∀ b ∈ embIds1 keep g1.h n v, Em b)
    (hGr : (∀ s b k o l, r ≠ .sl s b k o l) → Gd r) (hGb : ∀ B ∈ bs, ∀ e ∈ B.es, Gd e) (F5 : Placed g1 gF tgt (if keep then keptOf n v else []) bs) :
    Rep gF r v1 ∧ KeptAt n g1 gF tgt (if keep then keptOf n v else []) bs := by
  obtain ⟨h1, h2⟩ := seal1_rep hr hv h HE HS F2 hEm hGr hGb (fun B hB => by
    subst hB
    obtain ⟨k1, k2⟩ := F5 0 B rfl
    refine ⟨k1, fun kb hk => ?_⟩
    cases keep with
    | true => exact k2 kb (by simp [hk])
    | false =>
      exfalso
      have := seal1_emb h (.inl rfl)
      cases this)
  refine ⟨h1, ?_⟩
  rcases h2 with ⟨rfl, hk⟩ | ⟨B, kb, B0, rfl, rfl, q1, q2, q3, q4, q5, q6⟩
  · refine ⟨?_, by simp⟩
    cases keep with
    | true => simp [hk rfl]
    | false => rfl
  · refine ⟨by simp [q1], fun j C hC => ?_⟩
    cases j with
    | zero =>
      simp at hC
      subst hC
      exact ⟨kb, B0, by simp [q1], q2, q3, q4, q5, q6⟩
    | succ j => simp at hC

theorem sealL_rep (hr : HRep lo1 g1) {Gd : AV → Prop} {Em : Nat → Prop}
    (HE : ∀ x y u, embed g1.h n n depth x = some y → Rep g1 x u → (∀ b ∈ slIds g1.h n depth x, Em b) → Gd y → Rep gF y u)
    (HS : ∀ sz b k off len u, b < n → Rep g1 (.sl sz b k off len) u → Rep gF (.sl sz b k off len) u) (F2 : gF.w = g1.w) :
    ∀ (vs : List AV) (us : List Value) (tgt : Nat) (xs : List AV) (bs : List Blk), vs.length = us.length → (∀ (j : Nat) (x : AV) (u : Value), vs[j]? = some x → us[j]? = some u → Rep g1 x u) → sealL true g1.h n tgt vs = some (xs, bs) →
      (∀ b ∈ vs.flatMap (embIds1 true g1.h n), Em b) → (∀ x ∈ xs, (∀ s b k o l, x ≠ .sl s b k o l) → Gd x) → (∀ B ∈ bs, ∀ e ∈ B.es, Gd e) → Placed g1 gF tgt (vs.flatMap (keptOf n)) bs →
      xs.length = vs.length ∧ (∀ (j : Nat) (x : AV) (u : Value), xs[j]? = some x → us[j]? = some u → Rep gF x u) ∧ KeptAt n g1 gF tgt (vs.flatMap (keptOf n)) bs
  | [], us, tgt, xs, bs, hl, hv, h, _, _, _, _ => by
    simp only [sealL, Option.some.injEq, Prod.mk.injEq] at h
    obtain ⟨rfl, rfl⟩ := h
    exact ⟨rfl, by simp, rfl, by simp⟩
  | v :: vs, [], tgt, xs, bs, hl, _, _, _, _, _, _ => by simp at hl
  | v :: vs, u :: us, tgt, xs, bs, hl, hv, h, hEm, hG, hGb, hP => by
    simp only [sealL] at h
    split at h
    · rename_i x b1 h1
      split at h
      · rename_i ys b2 h2
        cases h
        -- the first one's blocks are as many as it keeps
        have hlen : b1.length = (keptOf n v).length := seal1_len h1
        obtain ⟨q1, q2⟩ := seal1_kept (keep := true) hr (hv 0 v u rfl rfl) h1 HE HS F2 (fun b hb => hEm b (List.mem_flatMap.2 ⟨v, by simp, hb⟩)) (hG x (by simp)) (fun B hB => hGb B (List.mem_append_left _ hB)) (fun j B hB => by
          have hj := (List.getElem?_eq_some_iff.1 hB).1
          obtain ⟨k1, k2⟩ := hP j B (by rw [List.getElem?_append_left hj]; exact hB)
          refine ⟨k1, fun kb hk => k2 kb ?_⟩
          simp only [if_true] at hk
          rw [List.flatMap_cons, List.getElem?_append_left (by omega)]
          exact hk)
        simp only [if_true] at q2
        obtain ⟨p1, p2, p3⟩ := sealL_rep hr HE HS F2 vs us (tgt + b1.length) ys b2 (by simpa using hl) (fun j x u hx hu => hv (j + 1) x u (by simpa using hx) (by simpa using hu)) h2 (fun b hb => hEm b (by
          rw [List.flatMap_cons]; exact List.mem_append_right _ hb)) (fun x hx => hG x (List.mem_cons_of_mem _ hx)) (fun B hB => hGb B (List.mem_append_right _ hB)) (fun j B hB => by
          obtain ⟨k1, k2⟩ := hP (b1.length + j) B (by rw [List.getElem?_append_right (by omega)]; simpa using hB)
          rw [← Nat.add_assoc] at k1 k2
          refine ⟨k1, fun kb hk => k2 kb ?_⟩
          rw [List.flatMap_cons, List.getElem?_append_right (by omega)]
          rw [show b1.length + j - (keptOf n v).length = j by omega]
          exact hk)
        refine ⟨by simp [p1], fun j y w hy hw => ?_, by simp [List.flatMap_cons, hlen, p3.1], fun j B hB => ?_⟩
        · cases j with
          | zero =>
            simp at hy hw
            subst hy
            subst hw
            exact q1
          | succ j => exact p2 j y w (by simpa using hy) (by simpa using hw)
        · by_cases hj : j < b1.length
          · rw [List.getElem?_append_left hj] at hB
            obtain ⟨kb, B0, m1, m2⟩ := q2.2 j B hB
            exact ⟨kb, B0, by rw [List.flatMap_cons, List.getElem?_append_left (by omega)]; exact m1, m2⟩
          · rw [List.getElem?_append_right (by omega)] at hB
            obtain ⟨kb, B0, m1, m2, m3, m4, m5, m6⟩ := p3.2 _ B hB
            refine ⟨kb, B0, ?_, m2, m3, m4, m5, ?_⟩
            · rw [List.flatMap_cons, List.getElem?_append_right (by omega), ← hlen]
              exact m1
            · rwa [show tgt + b1.length + (j - b1.length) = tgt + j by omega] at m6
      · cases h
    · cases h

/-- All results of a call. -/
theorem sealAV_rep (hr : HRep lo1 g1) {keep : Bool} {tgt : Nat} {v r : AV} {bs : List Blk} {v1 : Value} (hv : Rep g1 v v1) (h : sealAV keep g1.h n tgt v = some (r, bs)) {Gd : AV → Prop} {Em : Nat → Prop}
    (HE : ∀ x y u, embed g1.h n n depth x = some y → Rep g1 x u → (∀ b ∈ slIds g1.h n depth x, Em b) → Gd y → Rep gF y u)
    (HS : ∀ sz b k off len u, b < n → Rep g1 (.sl sz b k off len) u → Rep gF (.sl sz b k off len) u) (F2 : gF.w = g1.w) (hEm : ∀ b ∈ embIds keep g1.h n v, Em b)
    (hGr : ∀ x, (x = r ∨ ∃ xs, r = .tup xs ∧ x ∈ xs) → (∀ s b k o l, x ≠ .sl s b k o l) → Gd x) (hGb : ∀ B ∈ bs, ∀ e ∈ B.es, Gd e) (F5 : Placed g1 gF tgt (keptIds keep n v) bs) :
    Rep gF r v1 ∧ KeptAt n g1 gF tgt (keptIds keep n v) bs := by
  unfold sealAV at h
  split at h
  · rename_i vs
    split at h
    · rename_i xs bs' hx
      cases h
      cases hv with
      | tup t1 t2 =>
        rename_i us
        obtain ⟨p1, p2, p3⟩ := sealL_rep hr HE HS F2 vs us.toList tgt xs bs (by simpa using t1) (fun j x u hx hu => t2 j x u hx (by simpa using hu)) hx hEm (fun x hx => hGr x (.inr ⟨xs, rfl, hx⟩)) hGb F5
        exact ⟨.tup (by rw [p1, t1]) fun j x u hx hu => p2 j x u hx (by simpa using hu), p3⟩
    · cases h
  · rename_i hnt
    have hk : keptIds keep n v = if keep then keptOf n v else [] := by
      cases keep with
      | false => rfl
      | true =>
        cases v with
        | tup vs => exact absurd rfl (hnt vs rfl)
        | _ => rfl
    have he : embIds keep g1.h n v = embIds1 keep g1.h n v := by
      cases keep with
      | false => cases v <;> rfl
      | true =>
        cases v with
        | tup vs => exact absurd rfl (hnt vs rfl)
        | _ => rfl
    rw [hk] at F5 ⊢
    rw [he] at hEm
    exact seal1_kept hr hv h HE HS F2 hEm (hGr r (.inl rfl)) hGb F5

end
end Go.Abs
