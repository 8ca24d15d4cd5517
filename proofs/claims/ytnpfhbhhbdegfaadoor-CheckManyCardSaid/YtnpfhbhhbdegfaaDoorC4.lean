/- A region that draws its order comes to what it comes to in the order of the text. -/
import Derived.Test.YtnpfhbhhbdegfaaDoorC3
set_option linter.unusedSimpArgs false
set_option linter.unusedVariables false
namespace Go.Abs

section
variable {P : Program} {gh : Nat → List (Nat × Nat × Nat)} {cf : CallF} {stOf : Nat → Bool} {lo base n0 N total : Nat} {fr0 : Frame} {ops : Array Oper} {ds : List DOper} {pre : List (List Nat)}

/-- What was checked of a region. -/
structure DOk (P : Program) (gh : Nat → List (Nat × Nat × Nat)) (ops : Array Oper) (ds : List DOper) (pre : List (List Nat)) (total : Nat) : Prop where
  len : ds.length = ops.size
  comp : ∀ (j : Nat) (x : DOper), ds[j]? = some x → ∃ o, ops[j]? = some o ∧ compileOper P gh true ops o = some x.o
  back : ∀ (j : Nat) (o : Oper), ops[j]? = some o → ∀ e ∈ o.after, e.on < j
  clo : ∀ (j : Nat) (o : Oper), ops[j]? = some o → ∀ i ∈ pre.getD j [], ∃ e ∈ o.after, Region.binds .any e = true ∧ (e.on = i ∨ i ∈ pre.getD e.on [])
  pair : ∀ (i j : Nat) (x y : DOper), i < j → ds[i]? = some x → ds[j]? = some y → i ∈ pre.getD j [] ∨ (apartA x.o y.o = true ∧ heapOk i x j y = true)
  wf : ∀ (j : Nat) (x : DOper), ds[j]? = some x → wfD total x = true

def runL (cf : CallF) (stOf : Nat → Bool) (lo base n0 : Nat) (fr0 : Frame) : List (Nat × DOper) → DSt → Option DSt
  | [], s => some s
  | (i, o) :: os, s => match stepD cf stOf lo base n0 fr0 i o s with
    | some s' => runL cf stOf lo base n0 fr0 os s'
    | none => none
def numbered {α : Type} : Nat → List α → List (Nat × α)
  | _, [] => []
  | i, x :: xs => (i, x) :: numbered (i + 1) xs
theorem runD_eq : ∀ (os : List DOper) (i : Nat) (s : DSt), runD cf stOf lo base n0 fr0 i os s = runL cf stOf lo base n0 fr0 (numbered i os) s
  | [], _, _ => rfl
  | o :: os, i, s => by
    simp only [runD, numbered, runL]
    split <;> simp [*, runD_eq os]

theorem stepD_some {i : Nat} {x : DOper} {s s1 : DSt} (h : stepD cf stOf lo base n0 fr0 i x s = some s1) : s1.h.length = s.h.length ∧ ∀ k, k ≠ i → s1.log k = s.log k := by
  rw [stepD_eq] at h
  simp only [Option.map_eq_some_iff] at h
  obtain ⟨⟨v, h2⟩, e, rfl⟩ := h
  exact ⟨eff_length e, fun k hk => logOf_other hk⟩

theorem bubble (hV : CfV cf stOf) {i : Nat} {x : DOper} (wx : wfD total x = true) : ∀ (A : List (Nat × DOper)) (s s2 : DSt), (∀ p ∈ A, p.1 ≠ i ∧ apartA p.2.o x.o = true ∧ heapOk p.1 p.2 i x = true ∧ wfD total p.2 = true) → A.Pairwise (fun p q => p.1 < q.1) →
    (∀ p ∈ A, s.log p.1 = none) → s.h.length = n0 + total → runL cf stOf lo base n0 fr0 (A ++ [(i, x)]) s = some s2 → ∃ s1, stepD cf stOf lo base n0 fr0 i x s = some s1 ∧ runL cf stOf lo base n0 fr0 A s1 = some s2
  | [], s, s2, _, _, _, _, h => by
    simp only [List.nil_append, runL] at h
    split at h
    · rename_i s' hs
      cases h
      exact ⟨_, hs, rfl⟩
    · cases h
  | (k, y) :: A, s, s2, hA, hp, hlog, hl, h => by
    simp only [List.cons_append, runL] at h
    split at h
    · rename_i s' hs
      obtain ⟨e1, e2⟩ := stepD_some hs
      obtain ⟨hk1, hk2⟩ := List.pairwise_cons.1 hp
      obtain ⟨s1', m1, m2⟩ := bubble hV wx A s' s2 (fun p hp => hA p (List.mem_cons_of_mem _ hp)) hk2 (fun p hp => by
        rw [e2 p.1 (Nat.ne_of_gt (hk1 p hp))]
        exact hlog p (List.mem_cons_of_mem _ hp)) (by omega) h
      obtain ⟨q1, q2, q3, q4⟩ := hA (k, y) (by simp)
      obtain ⟨s3, n1, n2⟩ := swapD hV q1 q2 q3 q4 wx hl (hlog (k, y) (by simp)) hs m1
      exact ⟨s3, n1, by simp only [runL, n2]; exact m2⟩
    · cases h

theorem runL_append : ∀ (A B : List (Nat × DOper)) (s : DSt), runL cf stOf lo base n0 fr0 (A ++ B) s = (runL cf stOf lo base n0 fr0 A s).bind (runL cf stOf lo base n0 fr0 B)
  | [], _, _ => rfl
  | (i, x) :: A, B, s => by
    simp only [List.cons_append, runL]
    split
    · exact runL_append A B _
    · rfl

theorem stepD_sound (hcs : CallSound P cf) (hlb : lo ≤ base) {i : Nat} {x : DOper} {o : Oper} {s s1 : DSt} {r : RM} {w : World} {St : Nat → Prop} {a : Act} {Q : Exit → Act → World → Prop} {K : Act → World → Prop}
    (hN : ∀ (i : Nat) (o : Oper) (d : Nat), ops[i]? = some o → o.dst = some d → d < N) (ho : ops[i]? = some o) (hc : compileOper P gh true ops o = some x.o) (wx : wfD total x = true) (hb : base ≤ n0) (hl : s.h.length = n0 + total)
    (hs : SR lo N ⟨s.h, r, w, St⟩ s.fr a) (h : stepD cf stOf lo base n0 fr0 i x s = some s1)
    (hK : ∀ r' w' St' a', SR lo N ⟨s1.h, r', w', St'⟩ s1.fr a' → Step lo base ⟨s.h, r, w, St⟩ ⟨s1.h, r', w', St'⟩ → K a' w') : wpOp P ops Q i K a w := by
  obtain ⟨hdst, hop, hg⟩ := compileOper_eq hc
  have hw := wants_eq hs.fr hg
  rw [stepD_eq] at h
  simp only [Option.map_eq_some_iff] at h
  obtain ⟨⟨v, h2⟩, e, rfl⟩ := h
  simp only at hK
  unfold wpOp
  simp only [ho]
  rw [hw]
  have fin : ∀ v' w', Post lo base ⟨s.h, r, w, St⟩ v h2 v' w' → K (a.put o.dst v') w' := by
    rintro v' w' ⟨r', St', p1, p2, p3⟩
    refine hK r' w' St' _ ?_ p3
    rw [hdst]
    exact hs.put p2 p3 p1 fun d hd => hN i o d ho hd
  unfold eff at e
  by_cases hwt : wants s.fr x.o.guard = true
  · rw [if_pos hwt] at e ⊢
    refine .inl ?_
    unfold Oper.wp
    by_cases hd : dCond stOf fr0 x s.fr s.log = true
    · rw [if_pos hd] at e
      unfold wfD at wx
      simp only [Bool.and_eq_true, beq_iff_eq] at wx
      by_cases hP : x.cls = .P
      · rw [if_pos hP] at e
        split at e
        · rename_i v0 h0 he
          cases e
          exact (op_does hcs hop hs.fr hs.hr hlb (show base ≤ n0 + x.slot by omega) (by simp only; omega) (P_indep (wx.1 ▸ hP) he s.h)).upon fin
        · cases e
      · rw [if_neg hP] at e
        split at e
        · rename_i v0 h' he
          split at e
          · rename_i hlen
            cases e
            have := op_does (g := ⟨hide (dIds n0 fr0 x) s.h, rHid (dIds n0 fr0 x) s.h r, w, St⟩) hcs hop (fun t => (hs.fr t).hide (dIds n0 fr0 x)) (hs.hr.hide (dIds n0 fr0 x)) hlb (show base ≤ n0 + x.slot by omega) (by simp only [hide_length]; omega) he
            exact (this.mono fun v' w' hp => hp.unhide hlen).upon fin
          · cases e
        · cases e
    · rw [if_neg hd] at e
      cases e
  · rw [if_neg hwt] at e ⊢
    cases e
    exact fin undef w ⟨r, St, .undef, hs.hr, Step.refl _ _ _⟩

theorem any_sound (hcs : CallSound P cf) (hlb : lo ≤ base) (hV : CfV cf stOf) (hD : DOk P gh ops ds pre total) (hN : ∀ (i : Nat) (o : Oper) (d : Nat), ops[i]? = some o → o.dst = some d → d < N) (hb : base ≤ n0) {Q : Exit → Act → World → Prop} {g0 : G} {sf : DSt}
    (hQ : ∀ r w St a, SR lo N ⟨sf.h, r, w, St⟩ sf.fr a → Step lo base g0 ⟨sf.h, r, w, St⟩ → Q .normal a w) :
    ∀ (fuel : Nat) (R : List (Nat × DOper)) (listed : Array Bool) (s : DSt) (a : Act) (r : RM) (w : World) (St : Nat → Prop), R.length ≤ fuel → R.Pairwise (fun p q => p.1 < q.1) → (∀ j x, (j, x) ∈ R ↔ ds[j]? = some x ∧ listed.getD j true = false) → listed.size = ops.size →
      (∀ j, listed.getD j false = true → ∀ i ∈ pre.getD j [], listed.getD i false = true) → (∀ p ∈ R, s.log p.1 = none) → s.h.length = n0 + total → runL cf stOf lo base n0 fr0 R s = some sf → SR lo N ⟨s.h, r, w, St⟩ s.fr a → Step lo base g0 ⟨s.h, r, w, St⟩ →
      wpAny P .any ops Q fuel listed a w := by
  have nil : ∀ {R : List (Nat × DOper)} {listed : Array Bool}, R = [] → (∀ j x, (j, x) ∈ R ↔ ds[j]? = some x ∧ listed.getD j true = false) → Region.ready .any ops listed = [] := by
    intro R listed hR hmem
    apply List.eq_nil_iff_forall_not_mem.2
    intro j hj
    obtain ⟨h1, o, h2, _⟩ := mem_ready.1 hj
    have hjl : j < ds.length := by rw [hD.len]; exact (Array.getElem?_eq_some_iff.1 h2).1
    have := (hmem j _).2 ⟨List.getElem?_eq_getElem hjl, h1⟩
    rw [hR] at this
    cases this
  intro fuel
  induction fuel with
  | zero =>
    intro R listed s a r w St hlen hpw hmem hsz hcl hlog hl hrun hs hst
    have hR : R = [] := List.length_eq_zero_iff.1 (by omega)
    subst hR
    simp only [runL, Option.some.injEq] at hrun
    subst hrun
    exact ⟨nil rfl hmem, hQ r w St a hs hst⟩
  | succ fuel ih =>
    intro R listed s a r w St hlen hpw hmem hsz hcl hlog hl hrun hs hst
    refine ⟨fun hre => ?_, fun i hi => ?_⟩
    · cases R with
      | nil =>
        simp only [runL, Option.some.injEq] at hrun
        subst hrun
        exact hQ r w St a hs hst
      | cons p R =>
        exfalso
        obtain ⟨j, x⟩ := p
        obtain ⟨hj1, hj2⟩ := (hmem j x).1 (by simp)
        obtain ⟨o, ho, _⟩ := hD.comp j x hj1
        have : j ∈ Region.ready .any ops listed := mem_ready.2 ⟨hj2, o, ho, fun e he _ => by
          have hlt := hD.back j o ho e he
          have hjs : j < ops.size := (Array.getElem?_eq_some_iff.1 ho).1
          cases hli : listed.getD e.on false with
          | true => rfl
          | false =>
            have hel : e.on < listed.size := by omega
            have h1 : listed.getD e.on true = false := by
              simp [Array.getD, hel] at hli ⊢
              exact hli
            have hed : e.on < ds.length := by rw [hD.len]; omega
            have := (hmem e.on _).2 ⟨List.getElem?_eq_getElem hed, h1⟩
            rcases List.mem_cons.1 this with h2 | h2
            · cases h2; omega
            · have := (List.pairwise_cons.1 hpw).1 _ h2
              simp only at this
              omega⟩
        rw [hre] at this
        cases this
    · obtain ⟨hi1, o, ho, hall⟩ := mem_ready.1 hi
      have hio : i < ops.size := (Array.getElem?_eq_some_iff.1 ho).1
      have hil : i < ds.length := by rw [hD.len]; exact hio
      obtain ⟨x, hx⟩ : ∃ x, ds[i]? = some x := ⟨_, List.getElem?_eq_getElem hil⟩
      obtain ⟨o', ho', hco⟩ := hD.comp i x hx
      rw [ho] at ho'
      cases ho'
      obtain ⟨A, B, hAB⟩ := List.append_of_mem ((hmem i x).2 ⟨hx, hi1⟩)
      subst hAB
      have hpw' := List.pairwise_append.1 hpw
      have hpwB := List.pairwise_cons.1 hpw'.2.1
      have hpre : ∀ k ∈ pre.getD i [], listed.getD k false = true := fun k hk => by
        obtain ⟨e, he, hbi, hor⟩ := hD.clo i o ho k hk
        have hle := hall e he hbi
        rcases hor with h | h
        · rw [← h]; exact hle
        · exact hcl _ hle k h
      have unl : ∀ {k : Nat}, k < ops.size → listed.getD k true = false → listed.getD k false = false := fun {k} hk hu => by
        have hks : k < listed.size := by omega
        simp [Array.getD, hks] at hu ⊢
        exact hu
      have hA : ∀ p ∈ A, p.1 ≠ i ∧ apartA p.2.o x.o = true ∧ heapOk p.1 p.2 i x = true ∧ wfD total p.2 = true := fun p hp => by
        obtain ⟨k, y⟩ := p
        have hlt : k < i := hpw'.2.2 _ hp (i, x) (by simp)
        obtain ⟨hk1, hk2⟩ := (hmem k y).1 (List.mem_append_left _ hp)
        have := hD.pair k i y x hlt hk1 hx
        rcases this with h | ⟨h1, h2⟩
        · have h3 := hpre k h
          rw [unl (by omega) hk2] at h3
          cases h3
        · exact ⟨by simp only; omega, h1, h2, hD.wf k y hk1⟩
      have hrun' : runL cf stOf lo base n0 fr0 ((A ++ [(i, x)]) ++ B) s = some sf := by rw [List.append_assoc]; exact hrun
      rw [runL_append] at hrun'
      cases hmid : runL cf stOf lo base n0 fr0 (A ++ [(i, x)]) s with
      | none => rw [hmid] at hrun'; cases hrun'
      | some s2 =>
        rw [hmid] at hrun'
        simp only [Option.bind_some] at hrun'
        obtain ⟨s1, e1, e2⟩ := bubble hV (hD.wf i x hx) A s s2 hA hpw'.1 (fun p hp => hlog p (List.mem_append_left _ hp)) hl hmid
        obtain ⟨d1, d2⟩ := stepD_some e1
        refine stepD_sound hcs hlb hN ho hco (hD.wf i x hx) hb hl hs e1 fun r' w' St' a' hs' hst' => ?_
        have hne : ∀ p ∈ A ++ B, p.1 ≠ i := fun p hp => by
          rcases List.mem_append.1 hp with h | h
          · have := hpw'.2.2 p h (i, x) (by simp)
            simp only at this
            omega
          · have := hpwB.1 p h
            simp only at this
            omega
        refine ih (A ++ B) (listed.setIfInBounds i true) s1 a' r' w' St' (by simp at hlen ⊢; omega) ?_ (fun j y => ?_) (by simpa using hsz) (fun j hj k hk => ?_) (fun p hp => ?_) (by omega) (by rw [runL_append, e2]; exact hrun') hs' (hst.trans hst')
        · refine List.pairwise_append.2 ⟨hpw'.1, hpwB.2, fun p hp q hq => hpw'.2.2 p hp q (List.mem_cons_of_mem _ hq)⟩
        · constructor
          · intro hm
            have hji := hne _ hm
            have hm2 : (j, y) ∈ A ++ (i, x) :: B := by
              rcases List.mem_append.1 hm with h | h
              · exact List.mem_append_left _ h
              · exact List.mem_append_right _ (List.mem_cons_of_mem _ h)
            obtain ⟨q1, q2⟩ := (hmem j y).1 hm2
            exact ⟨q1, by rw [getD_set_ne true (fun h => hji h.symm)]; exact q2⟩
          · rintro ⟨q1, q2⟩
            have hji : j ≠ i := fun h => by
              subst h
              have : j < listed.size := by omega
              simp [Array.getD, this] at q2
            rw [getD_set_ne true (fun h => hji h.symm)] at q2
            have := (hmem j y).2 ⟨q1, q2⟩
            rcases List.mem_append.1 this with h | h
            · exact List.mem_append_left _ h
            · rcases List.mem_cons.1 h with h | h
              · cases h; exact absurd rfl hji
              · exact List.mem_append_right _ h
        · by_cases hji : j = i
          · subst hji
            exact getD_set_true (hpre k hk)
          · rw [getD_set_ne false (fun h => hji h.symm)] at hj
            exact getD_set_true (hcl j hj k hk)
        · rw [d2 p.1 (hne p hp)]
          refine hlog p ?_
          rcases List.mem_append.1 hp with h | h
          · exact List.mem_append_left _ h
          · exact List.mem_append_right _ (List.mem_cons_of_mem _ h)

end
end Go.Abs
