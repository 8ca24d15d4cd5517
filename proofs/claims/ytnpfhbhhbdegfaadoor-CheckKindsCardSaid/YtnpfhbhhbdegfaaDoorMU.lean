/- What the reference's functions of chapter 7 answer, part 1. -/
import Derived.Test.YtnpfhbhhbdegfaaDoorMT
import Derived.Test.YtnpfhbhhbdegfaaDoorME
set_option maxRecDepth 100000
set_option linter.unusedSimpArgs false
set_option linter.unusedVariables false
namespace Go.Abs.T
open Go.Proofs.YtnpfhbhhbdegfaaDoor

/-! ### Names -/
theorem isLow_int (c : UInt8) : isLow c = (decide (97 ≤ (c.toNat : Int)) && decide ((c.toNat : Int) ≤ 122)) := by
  rw [Bool.eq_iff_iff]; simp [isLow]; omega
theorem isLD_int (c : UInt8) : isLD c = (isLow c || (decide (48 ≤ (c.toNat : Int)) && decide ((c.toNat : Int) ≤ 57))) := by
  unfold isLD; congr 1; rw [Bool.eq_iff_iff]; simp; omega
def nameB : Str → List Bool
  | [] => []
  | c :: t => isLow c :: t.map isLD
theorem nameB_len (s : Str) : (nameB s).length = s.length := by cases s <;> simp [nameB]
theorem nameB_get {s : Str} {i : Nat} {b : Bool} (h : (nameB s)[i]? = some b) : ∃ c, s[i]? = some c ∧ b = if i = 0 then isLow c else isLD c := by
  cases s with
  | nil => simp [nameB] at h
  | cons c t =>
    cases i with
    | zero => simp [nameB] at h; exact ⟨c, rfl, by simp [h]⟩
    | succ i =>
      simp only [nameB, List.getElem?_cons_succ, List.getElem?_map, Option.map_eq_some_iff] at h
      obtain ⟨d, hd, rfl⟩ := h
      exact ⟨d, by simpa using hd, by simp⟩
theorem nameS_B (s : Str) : nameS s = ((nameB s).all id && decide (1 ≤ s.length) && decide (s.length ≤ 8)) := by
  cases s with
  | nil => rfl
  | cons c t =>
    simp only [nameS, nameB, List.all_cons, List.all_map, id]
    have h1 : isLow c = true → isLD c = true := fun h => by simp [isLD, h]
    have h2 : (t.all (id ∘ isLD)) = t.all isLD := rfl
    rw [h2]
    cases hc : isLow c
    · simp
    · rw [h1 hc]
      simp [Bool.and_comm]
theorem rName (s : Str) (hb : s.length < big) : Val prg 43 [.str s] (.bool (nameS s)) := by
  refine Val.of_sat (fn := gc43) rfl rfl rfl ?_
  rw [nameS_B]
  have hlen := nameB_len s
  have key := scanB (b := exec (ctxW prg) 0 0 gl43_1) (l := nameB s) (p := id) (ex := 0) (fun i fr h => h = [] ∧ fr 0 = .str s ∧ fr 3 = I i) (fun fr h => h = [] ∧ fr 2 = .bool false)
    (by
      rintro fr h ⟨rfl, h0, h3⟩
      simp [gl43_1, h0, h3, hlen])
    (by
      rintro i b fr h hx hil ⟨rfl, h0, h3⟩
      obtain ⟨c, hc, hbc⟩ := nameB_get hx
      rw [hlen] at hil
      have ha := istr_str .i64 (i := (i : Int)) rfl hc
      have hw := wrapS hil hb
      have hlt := ltS hil
      have e0 : ((i : Int) = 0) = (i = 0) := by apply propext; omega
      have c1 := isLow_int c
      have c2 := isLD_int c
      by_cases hi : i = 0
      · rw [if_pos hi] at hbc
        by_cases a1 : (c.toNat : Int) < 97
        · have hb' : b = false := by rw [hbc, c1]; simp; omega
          subst hb'
          subst hi
          simp at ha hlt
          simp [gl43_1, h0, h3, hlt, ha, a1]
        · by_cases a2 : (122 : Int) < c.toNat
          · have hb' : b = false := by rw [hbc, c1]; simp; omega
            subst hb'
            subst hi
            simp at ha hlt
            simp [gl43_1, h0, h3, hlt, ha, a1, a2]
          · have hb' : b = true := by rw [hbc, c1]; simp; omega
            subst hb'
            subst hi
            simp at ha hlt hw
            simp [gl43_1, h0, h3, hlt, ha, a1, a2, hw]
      · rw [if_neg hi, c2] at hbc
        by_cases a1 : (c.toNat : Int) < 97
        · by_cases a3 : (c.toNat : Int) < 48
          · have hb' : b = false := by rw [hbc, c1]; simp; omega
            subst hb'
            simp [gl43_1, h0, h3, hlt, ha, a1, a3, e0, hi]
          · by_cases a4 : (57 : Int) < c.toNat
            · have hb' : b = false := by rw [hbc, c1]; simp; omega
              subst hb'
              simp [gl43_1, h0, h3, hlt, ha, a1, a3, a4, e0, hi]
            · have hb' : b = true := by rw [hbc, c1]; simp; omega
              subst hb'
              simp [gl43_1, h0, h3, hlt, ha, a1, a3, a4, e0, hi, hw]
        · by_cases a2 : (122 : Int) < c.toNat
          · have hb' : b = false := by rw [hbc, c1]; simp; omega
            have a3 : ¬ (c.toNat : Int) < 48 := by omega
            have a4 : (57 : Int) < c.toNat := by omega
            subst hb'
            simp [gl43_1, h0, h3, hlt, ha, a1, a2, a3, a4, e0, hi]
          · have hb' : b = true := by rw [hbc, c1]; simp; omega
            subst hb'
            simp [gl43_1, h0, h3, hlt, ha, a1, a2, e0, hi, hw])
    (fr := upd (upd (initFr [.str s]) 2 (.bool false)) 3 (I 0)) (h := []) ⟨rfl, by simp, by simp⟩
  generalize (nameB s).all id = r at *
  simp [gc43]
  refine sat_then (sat_blk (key.mono ?_))
  rintro o fr h (⟨rfl, rfl, rfl, h0, h3⟩ | ⟨rfl, rfl, rfl, h2⟩)
  · by_cases a1 : 1 ≤ s.length
    · by_cases a2 : s.length ≤ 8
      · have b1 : (1 : Int) ≤ s.length := by omega
        have b2 : (s.length : Int) ≤ 8 := by omega
        simp [h0, a1, a2, b1, b2]
      · have b1 : (1 : Int) ≤ s.length := by omega
        have b2 : ¬ (s.length : Int) ≤ 8 := by omega
        simp [h0, a1, a2, b1, b2]
    · have b1 : ¬ (1 : Int) ≤ s.length := by omega
      simp [h0, a1, b1]
  · simp [h2]
theorem crName (s : Str) (hb : s.length < big) (lo base tgt : Nat) (h : Heap) : callW prg 43 lo base tgt [.str s] h = some (.bool (nameS s), h) := (rName s hb).call (by simp) (by simp)
theorem crFits (n : Int) (lo base tgt : Nat) (h : Heap) : callW prg 44 lo base tgt [I n] h = some (.bool (fits32 n), h) := by
  have : Val prg 44 [I n] (.bool (fits32 n)) := by
    refine Val.of_sat (fn := gc44) rfl rfl rfl ?_
    unfold fits32
    by_cases h1 : -2147483648 ≤ n
    · simp [gc44, h1]
    · simp [gc44, h1]
  exact this.call (by simp) (by simp)
end Go.Abs.T

/- What the reference's functions of chapter 7 answer, part 2: expressions, conditions, statements. -/
set_option maxRecDepth 100000
set_option linter.unusedSimpArgs false
set_option linter.unusedVariables false
namespace Go.Abs.T
open Go.Proofs.YtnpfhbhhbdegfaaDoor

def kidsS (k : Int) : Int := if k = 1 ∨ k = 2 ∨ k = 4 then 0 else if k = 3 ∨ k = 6 then 1 else if k = 5 then 2 else -1
theorem crKids (k : Int) (lo base tgt : Nat) (h : Heap) : callW prg 90 lo base tgt [I k] h = some (I (kidsS k), h) := by
  have : Val prg 90 [I k] (I (kidsS k)) := by
    refine Val.of_sat (fn := gc90) rfl rfl rfl ?_
    unfold kidsS
    by_cases k1 : k = 1
    · subst k1; simp [gc90]
    · by_cases k2 : k = 2
      · subst k2; simp [gc90]
      · by_cases k3 : k = 3
        · subst k3; simp [gc90]
        · by_cases k4 : k = 4
          · subst k4; simp [gc90]
          · by_cases k5 : k = 5
            · subst k5; simp [gc90]
            · by_cases k6 : k = 6
              · subst k6; simp [gc90]
              · simp [gc90, k1, k2, k3, k4, k5, k6]
  exact this.call (by simp) (by simp)

theorem exprLoop (k n o : Int) (s : Str) (l : List Expr) (hb : l.length < big) (ty : Nat) (r : Bool) (hr : l.all exprOk = r) (hc : ∀ x ∈ l, ∀ lo base tgt h, callW prg 72 lo base tgt [encE x] h = some (.bool (exprOk x), h)) (fr : Frame) (h1 : fr 1 = .ptr 0 1 0 0) (h3 : fr 3 = I 0) :
    Sat (itW (exec (ctxW prg) 0 0 gl72_1) fr [.live ⟨ty, 5, false, [.agg [I k, I n, I o, .str s, mkRo 5 (l.map encE)]]⟩]) fun out fr' h' => (r = true ∧ out = .exit 0) ∨ (r = false ∧ out = .ret ∧ fr' 2 = .bool false) := by
  refine (scanB (l := l) (p := exprOk) (ex := 0) (fun i fr h => h = [.live ⟨ty, 5, false, [.agg [I k, I n, I o, .str s, mkRo 5 (l.map encE)]]⟩] ∧ fr 1 = .ptr 0 1 0 0 ∧ fr 3 = I i) (fun fr h => fr 2 = .bool false) ?_ ?_ ⟨rfl, h1, h3⟩).mono ?_
  · rintro fr h ⟨rfl, h1, h3⟩
    simp [gl72_1, h1, h3]
  · rintro i x fr h hx hil ⟨rfl, h1, h3⟩
    have ha := iaddrS (f := encE) (sz := 5) hx
    have hw := wrapS hil hb
    have hlt := ltS hil
    have hE := (elemE x).1
    unfold Elem at hE
    have hv := hc x (List.mem_of_getElem? hx)
    cases hp : exprOk x
    · rw [hp] at hv
      simp [gl72_1, h1, h3, ha, hlt, hE, hv]
    · rw [hp] at hv
      simp [gl72_1, h1, h3, ha, hlt, hE, hv, hw]
  · rintro o fr h (⟨h1, rfl, -⟩ | ⟨h1, rfl, h2⟩)
    · exact .inl ⟨hr.symm.trans h1, rfl⟩
    · exact .inr ⟨hr.symm.trans h1, rfl, h2⟩

theorem rExpr : (e : Expr) → okE e → Val prg 72 [encE e] (.bool (exprOk e))
  | .mk k n o s l, he => by
    obtain ⟨q1, q2, q3⟩ := he
    have hc : ∀ x ∈ l, ∀ lo base tgt h, callW prg 72 lo base tgt [encE x] h = some (.bool (exprOk x), h) := fun x hx => Val.c1 (rExpr x (okEL_iff.1 q3 x hx)) (plainE x)
    refine Val.of_sat (fn := gc72) rfl rfl rfl ?_
    rw [encE_mk]
    simp only [exprOk, exprsOk_eq]
    generalize hr : l.all exprOk = r
    have loop := fun ty fr h1 h3 => exprLoop k n o s l q2 ty r hr hc fr h1 h3
    have hk := crKids k
    have hn := crName s q1
    have fin : ∀ (ty : Nat) (fr : Frame), fr 1 = .ptr 0 1 0 0 → fr 3 = I 0 → Sat (andThen (inBlk 0 (itW (exec (ctxW prg) 0 0 gl72_1) fr [.live ⟨ty, 5, false, [.agg [I k, I n, I o, .str s, mkRo 5 (l.map encE)]]⟩])) (exec (ctxW prg) 0 0 (.seq (.region [⟨some 2, .move (.val (.bool true)), none⟩]) .ret))) fun o fr hp => (o = .normal ∨ o = .ret) ∧ ∃ a, embed hp 0 0 8 (fr 2) = some a ∧ a.canon = .bool r := by
      intro ty fr h1 h3
      refine sat_then (sat_blk ((loop ty fr h1 h3).mono ?_))
      rintro o fr h (⟨rfl, rfl⟩ | ⟨rfl, rfl, h2⟩)
      · simp
      · simp [h2]
    have e0 : ((0 : Int) = l.length) = (l.length = 0) := by apply propext; omega
    have e1 : ((1 : Int) = l.length) = (l.length = 1) := by apply propext; omega
    have e2 : ((2 : Int) = l.length) = (l.length = 2) := by apply propext; omega
    have em : ((-1 : Int) = l.length) = False := by apply propext; constructor <;> intro h <;> first | omega | cases h
    by_cases k1 : k = 1
    · subst k1
      simp only [kidsS] at hk
      by_cases a3 : l.length = 0
      · by_cases a1 : n < 0
        · have a1' : ¬ 0 ≤ n := by omega
          simp [gc72, hk, e0, a3, a1, a1', trim]
        · by_cases a2 : 2147483647 < n
          · have a2' : ¬ n ≤ 2147483647 := by omega
            simp [gc72, hk, e0, a3, a1, a2, a2', trim]
          · have a1' : 0 ≤ n := by omega
            have a2' : n ≤ 2147483647 := by omega
            simp [gc72, hk, e0, a3, a1, a2, a1', a2', trim]
            exact fin _ _ (by simp) (by simp)
      · simp [gc72, hk, e0, a3, trim]
    · by_cases k2 : k = 2
      · subst k2
        simp [kidsS] at hk
        by_cases a3 : l.length = 0
        · cases a1 : nameS s
          · rw [a1] at hn
            simp [gc72, hk, e0, a3, hn, trim]
          · rw [a1] at hn
            simp [gc72, hk, e0, a3, hn, trim]
            exact fin _ _ (by simp) (by simp)
        · simp [gc72, hk, e0, a3, trim]
      · by_cases k3 : k = 3
        · subst k3
          simp [kidsS] at hk
          by_cases a3 : l.length = 1
          · cases a1 : nameS s
            · rw [a1] at hn
              simp [gc72, hk, e1, a3, hn, trim]
            · rw [a1] at hn
              simp [gc72, hk, e1, a3, hn, trim]
              exact fin _ _ (by simp) (by simp)
          · simp [gc72, hk, e1, a3, trim]
        · by_cases k4 : k = 4
          · subst k4
            simp [kidsS] at hk
            by_cases a3 : l.length = 0
            · simp [gc72, hk, e0, a3, trim]
              exact fin _ _ (by simp) (by simp)
            · simp [gc72, hk, e0, a3, trim]
          · by_cases k5 : k = 5
            · subst k5
              simp [kidsS] at hk
              by_cases a3 : l.length = 2
              · by_cases a1 : o < 1
                · have a1' : ¬ 1 ≤ o := by omega
                  simp [gc72, hk, e2, a3, a1, a1', trim]
                · by_cases a2 : 5 < o
                  · have a2' : ¬ o ≤ 5 := by omega
                    simp [gc72, hk, e2, a3, a1, a2, a2', trim]
                  · have a1' : 1 ≤ o := by omega
                    have a2' : o ≤ 5 := by omega
                    simp [gc72, hk, e2, a3, a1, a2, a1', a2', trim]
                    exact fin _ _ (by simp) (by simp)
              · simp [gc72, hk, e2, a3, trim]
            · by_cases k6 : k = 6
              · subst k6
                simp [kidsS] at hk
                by_cases a3 : l.length = 1
                · simp [gc72, hk, e1, a3, trim]
                  exact fin _ _ (by simp) (by simp)
                · simp [gc72, hk, e1, a3, trim]
              · simp [kidsS, k1, k2, k3, k4, k5, k6] at hk
                simp [gc72, hk, em, k1, k2, k3, k4, k5, k6, trim]
termination_by e => e
decreasing_by
  have := List.sizeOf_lt_of_mem hx
  simp_wf
  omega
theorem crExpr (e : Expr) (he : okE e) (lo base tgt : Nat) (h : Heap) : callW prg 72 lo base tgt [encE e] h = some (.bool (exprOk e), h) := Val.c1 (rExpr e he) (plainE e) _ _ _ _
end Go.Abs.T

/- What the reference's functions of chapter 7 answer, part 3: conditions, statements. -/
set_option maxRecDepth 100000
set_option linter.unusedSimpArgs false
set_option linter.unusedVariables false
namespace Go.Abs.T
open Go.Proofs.YtnpfhbhhbdegfaaDoor

def condH (ty : Nat) (k rl : Int) (l : List Expr) (ks : List Cond) : Heap := [.live ⟨ty, 4, false, [.agg [I k, I rl, mkRo 5 (l.map encE), mkRo 4 (ks.map encC)]]⟩]
theorem condLoop1 (k rl : Int) (l : List Expr) (ks : List Cond) (hb : l.length < big) (ty : Nat) (r : Bool) (hr : l.all exprOk = r) (hc : ∀ x ∈ l, okE x) (fr : Frame) (h1 : fr 1 = .ptr 0 1 0 0) (h5 : fr 5 = I 0) (h3 : fr 3 = I l.length) (h4 : fr 4 = I ks.length) :
    Sat (itW (exec (ctxW prg) 0 0 gl73_1) fr [.live ⟨ty, 4, false, [.agg [I k, I rl, mkRo 5 (l.map encE), mkRo 4 (ks.map encC)]]⟩]) fun out fr' h' => (r = true ∧ out = .exit 1 ∧ h' = [.live ⟨ty, 4, false, [.agg [I k, I rl, mkRo 5 (l.map encE), mkRo 4 (ks.map encC)]]⟩] ∧ fr' 1 = .ptr 0 1 0 0 ∧ fr' 4 = I ks.length) ∨ (r = false ∧ out = .ret ∧ fr' 2 = .bool false) := by
  refine (scanB (l := l) (p := exprOk) (ex := 1) (fun i fr h => h = [.live ⟨ty, 4, false, [.agg [I k, I rl, mkRo 5 (l.map encE), mkRo 4 (ks.map encC)]]⟩] ∧ fr 1 = .ptr 0 1 0 0 ∧ fr 5 = I i ∧ fr 3 = I l.length ∧ fr 4 = I ks.length) (fun fr h => fr 2 = .bool false) ?_ ?_ ⟨rfl, h1, h5, h3, h4⟩).mono ?_
  · rintro fr h ⟨rfl, h1, h5, h3, h4⟩
    simp [gl73_1, h1, h5, h3, h4]
  · rintro i x fr h hx hil ⟨rfl, h1, h5, h3, h4⟩
    have ha := iaddrS (f := encE) (sz := 5) hx
    have hw := wrapS hil hb
    have hlt := ltS hil
    have hE := (elemE x).1
    unfold Elem at hE
    have hv := crExpr x (hc x (List.mem_of_getElem? hx))
    cases hp : exprOk x
    · rw [hp] at hv
      simp [gl73_1, h1, h5, h3, h4, ha, hlt, hE, hv]
    · rw [hp] at hv
      simp [gl73_1, h1, h5, h3, h4, ha, hlt, hE, hv, hw]
  · rintro o fr h (⟨h1, rfl, h2, h3, -, -, h4⟩ | ⟨h1, rfl, h2⟩)
    · exact .inl ⟨hr.symm.trans h1, rfl, h2, h3, h4⟩
    · exact .inr ⟨hr.symm.trans h1, rfl, h2⟩
theorem condLoop2 (k rl : Int) (l : List Expr) (ks : List Cond) (hb : ks.length < big) (ty : Nat) (r : Bool) (hr : ks.all condOk = r) (hc : ∀ x ∈ ks, ∀ lo base tgt h, callW prg 73 lo base tgt [encC x] h = some (.bool (condOk x), h)) (fr : Frame) (h1 : fr 1 = .ptr 0 1 0 0) (h6 : fr 6 = I 0) (h4 : fr 4 = I ks.length) :
    Sat (itW (exec (ctxW prg) 0 0 gl73_2) fr [.live ⟨ty, 4, false, [.agg [I k, I rl, mkRo 5 (l.map encE), mkRo 4 (ks.map encC)]]⟩]) fun out fr' h' => (r = true ∧ out = .exit 3) ∨ (r = false ∧ out = .ret ∧ fr' 2 = .bool false) := by
  refine (scanB (l := ks) (p := condOk) (ex := 3) (fun i fr h => h = [.live ⟨ty, 4, false, [.agg [I k, I rl, mkRo 5 (l.map encE), mkRo 4 (ks.map encC)]]⟩] ∧ fr 1 = .ptr 0 1 0 0 ∧ fr 6 = I i ∧ fr 4 = I ks.length) (fun fr h => fr 2 = .bool false) ?_ ?_ ⟨rfl, h1, h6, h4⟩).mono ?_
  · rintro fr h ⟨rfl, h1, h6, h4⟩
    simp [gl73_2, h1, h6, h4]
  · rintro i x fr h hx hil ⟨rfl, h1, h6, h4⟩
    have ha := iaddrS (f := encC) (sz := 4) hx
    have hw := wrapS hil hb
    have hlt := ltS hil
    have hE := (elemC x).1
    unfold Elem at hE
    have hv := hc x (List.mem_of_getElem? hx)
    cases hp : condOk x
    · rw [hp] at hv
      simp [gl73_2, h1, h6, h4, ha, hlt, hE, hv]
    · rw [hp] at hv
      simp [gl73_2, h1, h6, h4, ha, hlt, hE, hv, hw]
  · rintro o fr h (⟨h1, rfl, -⟩ | ⟨h1, rfl, h2⟩)
    · exact .inl ⟨hr.symm.trans h1, rfl⟩
    · exact .inr ⟨hr.symm.trans h1, rfl, h2⟩
theorem rCond : (c : Cond) → okC c → Val prg 73 [encC c] (.bool (condOk c))
  | .mk k rl l ks, he => by
    obtain ⟨q1, q2, q3, q4⟩ := he
    have hc : ∀ x ∈ ks, ∀ lo base tgt h, callW prg 73 lo base tgt [encC x] h = some (.bool (condOk x), h) := fun x hx => Val.c1 (rCond x (okCL_iff.1 q4 x hx)) (plainC x)
    refine Val.of_sat (fn := gc73) rfl rfl rfl ?_
    rw [encC_mk]
    simp only [condOk, exprsOk_eq, condsOk_eq]
    generalize hr1 : l.all exprOk = r1
    generalize hr2 : ks.all condOk = r2
    have loop1 := fun ty fr h1 h5 h3 h4 => condLoop1 k rl l ks q1 ty r1 hr1 (okEL_iff.1 q3) fr h1 h5 h3 h4
    have loop2 := fun ty fr h1 h6 h4 => condLoop2 k rl l ks q2 ty r2 hr2 hc fr h1 h6 h4
    have fin : ∀ (ty : Nat) (fr : Frame), fr 1 = .ptr 0 1 0 0 → fr 5 = I 0 → fr 3 = I l.length → fr 4 = I ks.length → Sat (andThen (inBlk 1 (itW (exec (ctxW prg) 0 0 gl73_1) fr [.live ⟨ty, 4, false, [.agg [I k, I rl, mkRo 5 (l.map encE), mkRo 4 (ks.map encC)]]⟩])) (exec (ctxW prg) 0 0 (.seq (.seq (.region [⟨some 6, .move (.val (.int .i64 0)), none⟩]) (.block 3 (.loop gl73_2))) (.seq (.region [⟨some 2, .move (.val (.bool true)), none⟩]) .ret)))) fun o fr hp => (o = .normal ∨ o = .ret) ∧ ∃ a, embed hp 0 0 8 (fr 2) = some a ∧ a.canon = .bool (r1 && r2) := by
      intro ty fr h1 h5 h3 h4
      refine sat_then (sat_blk ((loop1 ty fr h1 h5 h3 h4).mono ?_))
      rintro o fr h (⟨rfl, rfl, rfl, h1, h4⟩ | ⟨rfl, rfl, h2⟩)
      · simp [trim]
        refine sat_then (sat_blk ((loop2 ty _ (by simp [h1]) (by simp) (by simp [h4])).mono ?_))
        rintro o fr h (⟨rfl, rfl⟩ | ⟨rfl, rfl, h2⟩)
        · simp
        · simp [h2]
      · simp [h2]
    have e0 : ((l.length : Int) = 0) = (l.length = 0) := by apply propext; omega
    have e2 : ((l.length : Int) = 2) = (l.length = 2) := by apply propext; omega
    have k0 : ((ks.length : Int) = 0) = (ks.length = 0) := by apply propext; omega
    have k1' : ((ks.length : Int) = 1) = (ks.length = 1) := by apply propext; omega
    have k2' : ((ks.length : Int) = 2) = (ks.length = 2) := by apply propext; omega
    by_cases k1 : k = 1
    · subst k1
      by_cases a3 : l.length = 2
      · by_cases a4 : ks.length = 0
        · by_cases a1 : rl < 1
          · have a1' : ¬ 1 ≤ rl := by omega
            simp [gc73, e0, e2, k0, k1', k2', a3, a4, a1, a1', trim]
          · by_cases a2 : 6 < rl
            · have a2' : ¬ rl ≤ 6 := by omega
              simp [gc73, e0, e2, k0, k1', k2', a3, a4, a1, a2, a2', trim]
            · have a1' : 1 ≤ rl := by omega
              have a2' : rl ≤ 6 := by omega
              simp [gc73, e0, e2, k0, k1', k2', a3, a4, a1, a2, a1', a2', trim]
              exact fin _ _ (by simp) (by simp) (by simp [a3]) (by simp [a4])
        · simp [gc73, e0, e2, k0, k1', k2', a3, a4, trim]
      · simp [gc73, e0, e2, k0, k1', k2', a3, trim]
    · by_cases k2 : k = 2
      · subst k2
        by_cases a3 : l.length = 0
        · by_cases a4 : ks.length = 1
          · simp [gc73, e0, e2, k0, k1', k2', a3, a4, trim]
            exact fin _ _ (by simp) (by simp) (by simp [a3]) (by simp [a4])
          · simp [gc73, e0, e2, k0, k1', k2', a3, a4, trim]
        · simp [gc73, e0, e2, k0, k1', k2', a3, trim]
      · by_cases k3 : k = 3
        · subst k3
          by_cases a3 : l.length = 0
          · by_cases a4 : ks.length = 2
            · simp [gc73, e0, e2, k0, k1', k2', a3, a4, trim]
              exact fin _ _ (by simp) (by simp) (by simp [a3]) (by simp [a4])
            · simp [gc73, e0, e2, k0, k1', k2', a3, a4, trim]
          · simp [gc73, e0, e2, k0, k1', k2', a3, trim]
        · by_cases k4 : k = 4
          · subst k4
            by_cases a3 : l.length = 0
            · by_cases a4 : ks.length = 2
              · simp [gc73, e0, e2, k0, k1', k2', a3, a4, trim]
                exact fin _ _ (by simp) (by simp) (by simp [a3]) (by simp [a4])
              · simp [gc73, e0, e2, k0, k1', k2', a3, a4, trim]
            · simp [gc73, e0, e2, k0, k1', k2', a3, trim]
          · simp [gc73, k1, k2, k3, k4, trim]
termination_by c => c
decreasing_by
  have := List.sizeOf_lt_of_mem hx
  simp_wf
  omega
theorem crCond (c : Cond) (hc : okC c) (lo base tgt : Nat) (h : Heap) : callW prg 73 lo base tgt [encC c] h = some (.bool (condOk c), h) := Val.c1 (rCond c hc) (plainC c) _ _ _ _
end Go.Abs.T

/- What the reference's functions of chapter 7 answer, part 4: statements. -/
set_option maxRecDepth 100000
set_option linter.unusedSimpArgs false
set_option linter.unusedVariables false
namespace Go.Abs.T
open Go.Proofs.YtnpfhbhhbdegfaaDoor

theorem stmtStep (L : List Stmt) (hb : L.length < big) (x : Stmt) (j : Nat) (hx : L[j]? = some x) (hok : okS x)
    (hcb : ∀ k s i e c b l, x = .mk k s i e c b l → (∀ lo base tgt h, callW prg 45 lo base tgt [mkRo 18 (b.map encS)] h = some (.bool (b.all stmtOk), h)) ∧ (∀ lo base tgt h, callW prg 45 lo base tgt [mkRo 18 (l.map encS)] h = some (.bool (l.all stmtOk), h)))
    (fr : Frame) (h : Heap) (h0 : fr 0 = mkRo 18 (L.map encS)) (h3 : fr 3 = I j) :
    Sat (exec (ctxW prg) 0 0 gl45_1 fr h) fun o fr' h' => (stmtOk x = true ∧ o = .normal ∧ fr' 0 = mkRo 18 (L.map encS) ∧ fr' 3 = I (j + 1 : Nat)) ∨ (stmtOk x = false ∧ o = .ret ∧ fr' 2 = .bool false) := by
  have hil : j < L.length := (List.getElem?_eq_some_iff.1 hx).1
  have ha := iaddrS (f := encS) (sz := 18) hx
  have hw := wrapS hil hb
  have hlt := ltS hil
  have hE := (elemS x).1
  unfold Elem at hE
  obtain ⟨k, s, i, e, c, b, l⟩ := x
  obtain ⟨ib, il⟩ := hcb _ _ _ _ _ _ _ rfl
  obtain ⟨q1, q2, q3, q4, q5, q6, q7, q8⟩ := hok
  have ci := crExpr i q2
  have ce := crExpr e q3
  have cc := crCond c q4
  have hn := crName s q1
  simp only [stmtOk, stmtsOk_eq]
  generalize exprOk i = bi at *
  generalize exprOk e = be at *
  generalize condOk c = bc at *
  generalize b.all stmtOk = bb at *
  generalize l.all stmtOk = bl at *
  generalize nameS s = bn at *
  obtain ⟨ik, ni, oi, si, li⟩ := i
  obtain ⟨ek, ne, oe, se, le⟩ := e
  obtain ⟨ck, cr, cl, cks⟩ := c
  rw [encS_mk'] at ha hE
  rw [encE_mk] at ci ce
  rw [encC_mk] at cc
  by_cases k1 : k = 1
  · subst k1
    cases bn
    · simp [gl45_1, h0, h3, ha, hlt, hE, hw, hn]
    · cases be <;> simp [gl45_1, h0, h3, ha, hlt, hE, hw, hn, ce]
  · by_cases k2 : k = 2
    · subst k2
      cases bn
      · simp [gl45_1, h0, h3, ha, hlt, hE, hw, hn]
      · cases bi
        · simp [gl45_1, h0, h3, ha, hlt, hE, hw, hn, ci]
        · cases be <;> simp [gl45_1, h0, h3, ha, hlt, hE, hw, hn, ci, ce]
    · by_cases k3 : k = 3
      · subst k3
        cases bn <;> simp [gl45_1, h0, h3, ha, hlt, hE, hw, hn]
      · by_cases k4 : k = 4
        · subst k4
          cases bn <;> simp [gl45_1, h0, h3, ha, hlt, hE, hw, hn]
        · by_cases k5 : k = 5
          · subst k5
            cases bc
            · simp [gl45_1, h0, h3, ha, hlt, hE, hw, cc]
            · cases bb
              · simp [gl45_1, h0, h3, ha, hlt, hE, hw, cc, ib]
              · cases bl <;> simp [gl45_1, h0, h3, ha, hlt, hE, hw, cc, ib, il]
          · by_cases k6 : k = 6
            · subst k6
              cases bc
              · simp [gl45_1, h0, h3, ha, hlt, hE, hw, cc]
              · cases bb <;> simp [gl45_1, h0, h3, ha, hlt, hE, hw, cc, ib]
            · by_cases k7 : k = 7
              · subst k7
                cases bc <;> simp [gl45_1, h0, h3, ha, hlt, hE, hw, cc]
              · by_cases k8 : k = 8
                · subst k8
                  simp [gl45_1, h0, h3, ha, hlt, hE, hw]
                · simp [gl45_1, h0, h3, ha, hlt, hE, hw, k1, k2, k3, k4, k5, k6, k7, k8]
theorem rStmts : (L : List Stmt) → L.length < big → okSL L → Val prg 45 [mkRo 18 (L.map encS)] (.bool (L.all stmtOk))
  | L, hb, hL => by
    have hcb : ∀ x ∈ L, ∀ k s i e c b l, x = .mk k s i e c b l → (∀ lo base tgt h, callW prg 45 lo base tgt [mkRo 18 (b.map encS)] h = some (.bool (b.all stmtOk), h)) ∧ (∀ lo base tgt h, callW prg 45 lo base tgt [mkRo 18 (l.map encS)] h = some (.bool (l.all stmtOk), h)) := by
      intro x hx k s i e c b l hxe
      obtain ⟨-, -, -, -, q5, q6, q7, q8⟩ : okS (.mk k s i e c b l) := hxe ▸ okSL_iff.1 hL x hx
      exact ⟨Val.c1 (rStmts b q5 q7) (plain_ro fun y _ => plainS y), Val.c1 (rStmts l q6 q8) (plain_ro fun y _ => plainS y)⟩
    refine Val.of_sat (fn := gc45) rfl rfl rfl ?_
    generalize hr : L.all stmtOk = r
    simp [gc45]
    refine sat_then (sat_blk ((scanB (l := L) (p := stmtOk) (ex := 0) (fun i fr h => fr 0 = mkRo 18 (L.map encS) ∧ fr 3 = I i) (fun fr h => fr 2 = .bool false) ?_ ?_ ⟨by simp, by simp⟩).mono ?_))
    · rintro fr h ⟨h0, h3⟩
      simp [gl45_1, h0, h3]
    · rintro i x fr h hx hil ⟨h0, h3⟩
      exact stmtStep L hb x i hx (okSL_iff.1 hL x (List.mem_of_getElem? hx)) (hcb x (List.mem_of_getElem? hx)) fr h h0 h3
    · rintro o fr h (⟨h1, rfl, -⟩ | ⟨h1, rfl, h2⟩)
      · rw [h1] at hr
        simp [← hr]
      · rw [h1] at hr
        simp [← hr, h2]
termination_by L => L
decreasing_by
  · have := List.sizeOf_lt_of_mem hx
    subst hxe
    simp at this
    omega
  · have := List.sizeOf_lt_of_mem hx
    subst hxe
    simp at this
    omega
theorem crStmts (L : List Stmt) (hb : L.length < big) (hL : ∀ s ∈ L, okS s) (lo base tgt : Nat) (h : Heap) : callW prg 45 lo base tgt [mkRo 18 (L.map encS)] h = some (.bool (L.all stmtOk), h) := Val.c1 (rStmts L hb (okSL_iff.2 hL)) (plain_ro fun y _ => plainS y) _ _ _ _
end Go.Abs.T

/- What the reference's functions of chapter 7 answer, part 5: what is there. -/
set_option maxRecDepth 100000
set_option linter.unusedSimpArgs false
set_option linter.unusedVariables false
namespace Go.Abs.T
open Go.Proofs.YtnpfhbhhbdegfaaDoor

theorem place_all {α : Type} {f : α → Str} {l : List α} {s : Str} (h : (l.all fun x => !decide (f x = s)) = true) : placeS s (l.map f) = -1 := by
  have : (l.map f).findIdx? (fun t => decide (s = t)) = none := by
    rw [List.findIdx?_eq_none_iff]
    intro t ht
    obtain ⟨x, hx, rfl⟩ := List.mem_map.1 ht
    have := List.all_eq_true.1 h x hx
    simp at this
    simpa using fun h => this h.symm
  simp [placeS, this]
theorem place_at {α : Type} {f : α → Str} {l : List α} {s : Str} {i : Nat} {x : α} (hx : l[i]? = some x) (hp : (!decide (f x = s)) = false) (hn : ∀ j y, j < i → l[j]? = some y → (!decide (f y = s)) = true) : placeS s (l.map f) = i := by
  have hil : i < l.length := (List.getElem?_eq_some_iff.1 hx).1
  have hxe : l[i] = x := (List.getElem?_eq_some_iff.1 hx).2
  have : (l.map f).findIdx? (fun t => decide (s = t)) = some i := by
    rw [List.findIdx?_eq_some_iff_getElem]
    refine ⟨by simpa using hil, ?_, fun j hj => ?_⟩
    · simp only [List.getElem_map, hxe]
      simp at hp
      simp [hp]
    · have := hn j l[j] hj (List.getElem?_eq_getElem (by omega))
      simp at this
      simpa using fun h => this h.symm
  simp [placeS, this]
theorem rPlace (l : List Str) (s : Str) (hb : l.length < big) : Val prg 74 [encStrs l, .str s] (I (placeS s l)) := by
  refine Val.of_sat (fn := gc74) rfl rfl rfl ?_
  have hl : slLen (encStrs l) = some l.length := by simp [encStrs]
  simp [gc74]
  refine sat_then (sat_blk ((scan (l := l) (p := fun x => !decide (x = s)) (ex := 0) (fun i fr h => fr 0 = encStrs l ∧ fr 1 = .str s ∧ fr 5 = I i ∧ h = []) (fun i x fr h => fr 4 = I i ∧ h = []) ?_ ?_ ⟨by simp, by simp, by simp, rfl⟩).mono ?_))
  · rintro fr h ⟨h0, h1, h5, rfl⟩
    simp [gl74_1, h0, h1, h5, hl]
  · rintro i x fr h hx hil ⟨h0, h1, h5, rfl⟩
    have ha : iaddrAV 1 (encStrs l) (.int .i64 (i : Int)) = some (.rp 1 (.str x) 0) := iaddrS (f := AV.str) (sz := 1) hx
    have hw := wrapS hil hb
    have hlt := ltS hil
    by_cases hs : x = s
    · simp [gl74_1, h0, h1, h5, hl, ha, hlt, hs]
    · simp [gl74_1, h0, h1, h5, hl, ha, hlt, hs, hw]
  · rintro o fr h (⟨h1, rfl, -, -, -, rfl⟩ | ⟨h1, rfl, i, x, hx, hp, hn, h4, rfl⟩)
    · have := place_all (f := fun x : Str => x) h1
      rw [List.map_id'] at this
      simp [this]
    · have := place_at (f := fun x : Str => x) hx hp hn
      rw [List.map_id'] at this
      simp [this, h4]
theorem crPlace (s : Str) (l : List Str) (hb : l.length < big) (lo base tgt : Nat) (h : Heap) : callW prg 74 lo base tgt [encStrs l, .str s] h = some (I (placeS s l), h) := Val.c2 (rPlace l s hb) (plainStrs l) (plainStr s) _ _ _ _
theorem rLocal (t : Thr) (s : Str) (ht : okT t) : Val prg 47 [encT t, .str s] (I (locS t s)) := by
  have h := crPlace s t.locals ht.locals
  refine Val.of_sat (fn := gc47) rfl rfl rfl ?_
  simp [gc47, encT, h, locS]
theorem rMutex (p : Prg') (s : Str) (hp : okP p) : Val prg 51 [encP p, .str s] (I (mutS p s)) := by
  have h := crPlace s p.mutexes hp.mutexes
  refine Val.of_sat (fn := gc51) rfl rfl rfl ?_
  simp [gc51, encP, h, mutS]
theorem rGlobal (p : Prg') (s : Str) (hp : okP p) : Val prg 48 [encP p, .str s] (I (globS p s)) := by
  refine Val.of_sat (fn := gc48) rfl rfl rfl ?_
  simp [gc48, encP]
  refine sat_then (sat_blk ((scan (l := p.globals) (p := fun x => !decide (x.name = s)) (ex := 0) (fun i fr h => fr 2 = .ptr 0 1 0 0 ∧ fr 1 = .str s ∧ fr 5 = I i ∧ ∃ ty, h = [.live ⟨ty, 4, false, [.agg [mkRo 2 (p.globals.map encG), mkRo 2 (p.arrays.map encA), encStrs p.mutexes, mkRo 3 (p.threads.map encT)]]⟩]) (fun i x fr h => fr 4 = I i) ?_ ?_ ⟨by simp, by simp, by simp, _, rfl⟩).mono ?_))
  · rintro fr h ⟨h0, h1, h5, ty, rfl⟩
    simp [gl48_1, h0, h1, h5]
  · rintro i x fr h hx hil ⟨h0, h1, h5, ty, rfl⟩
    have ha := iaddrS (f := encG) (sz := 2) hx
    have hw := wrapS hil hp.globals
    have hlt := ltS hil
    simp only [encG] at ha
    by_cases hs : x.name = s
    · simp [gl48_1, h0, h1, h5, ha, hlt, hs]
    · simp [gl48_1, h0, h1, h5, ha, hlt, hs, hw]
  · rintro o fr h (⟨h1, rfl, -⟩ | ⟨h1, rfl, i, x, hx, hp, hn, h4⟩)
    · simp [globS, place_all h1]
    · simp [globS, place_at hx hp hn, h4]
theorem rArray (p : Prg') (s : Str) (hp : okP p) : Val prg 50 [encP p, .str s] (I (arrS p s)) := by
  refine Val.of_sat (fn := gc50) rfl rfl rfl ?_
  simp [gc50, encP]
  refine sat_then (sat_blk ((scan (l := p.arrays) (p := fun x => !decide (x.name = s)) (ex := 0) (fun i fr h => fr 2 = .ptr 0 1 0 0 ∧ fr 1 = .str s ∧ fr 5 = I i ∧ ∃ ty, h = [.live ⟨ty, 4, false, [.agg [mkRo 2 (p.globals.map encG), mkRo 2 (p.arrays.map encA), encStrs p.mutexes, mkRo 3 (p.threads.map encT)]]⟩]) (fun i x fr h => fr 4 = I i) ?_ ?_ ⟨by simp, by simp, by simp, _, rfl⟩).mono ?_))
  · rintro fr h ⟨h0, h1, h5, ty, rfl⟩
    simp [gl50_1, h0, h1, h5]
  · rintro i x fr h hx hil ⟨h0, h1, h5, ty, rfl⟩
    have ha := iaddrS (f := encA) (sz := 2) hx
    have hw := wrapS hil hp.arrays
    have hlt := ltS hil
    simp only [encA] at ha
    by_cases hs : x.name = s
    · simp [gl50_1, h0, h1, h5, ha, hlt, hs]
    · simp [gl50_1, h0, h1, h5, ha, hlt, hs, hw]
  · rintro o fr h (⟨h1, rfl, -⟩ | ⟨h1, rfl, i, x, hx, hp, hn, h4⟩)
    · simp [arrS, place_all h1]
    · simp [arrS, place_at hx hp hn, h4]
theorem crLocal (t : Thr) (s : Str) (ht : okT t) (lo base tgt : Nat) (h : Heap) : callW prg 47 lo base tgt [encT t, .str s] h = some (I (locS t s), h) := Val.c2 (rLocal t s ht) (plainT t) (plainStr s) _ _ _ _
theorem crMutex (p : Prg') (s : Str) (hp : okP p) (lo base tgt : Nat) (h : Heap) : callW prg 51 lo base tgt [encP p, .str s] h = some (I (mutS p s), h) := Val.c2 (rMutex p s hp) (plainP p) (plainStr s) _ _ _ _
theorem crGlobal (p : Prg') (s : Str) (hp : okP p) (lo base tgt : Nat) (h : Heap) : callW prg 48 lo base tgt [encP p, .str s] h = some (I (globS p s), h) := Val.c2 (rGlobal p s hp) (plainP p) (plainStr s) _ _ _ _
theorem crArray (p : Prg') (s : Str) (hp : okP p) (lo base tgt : Nat) (h : Heap) : callW prg 50 lo base tgt [encP p, .str s] h = some (I (arrS p s), h) := Val.c2 (rArray p s hp) (plainP p) (plainStr s) _ _ _ _
/-- Names twice: a row of whether each stood before. -/
def twB (l : List Str) : List Bool := l.mapIdx fun i x => !((l.take i).contains x)
theorem twB_all (l : List Str) : (twB l).all id = !twiceS l := by
  rw [Bool.eq_iff_iff, List.all_eq_true]
  constructor
  · intro h
    rw [Bool.not_eq_true', Bool.eq_false_iff]
    intro ht
    obtain ⟨j, i, x, h1, h2, h3⟩ := (twice_iff l).1 ht
    have : (!((l.take i).contains x)) = true := h (!((l.take i).contains x)) (List.mem_of_getElem? (i := i) (by simp only [twB, List.getElem?_mapIdx, h3, Option.map_some]))
    rw [Bool.not_eq_true', Bool.eq_false_iff] at this
    exact this (List.contains_iff_mem.2 (mem_take.2 ⟨j, h1, h2⟩))
  · intro h b hb
    rw [Bool.not_eq_true', Bool.eq_false_iff] at h
    obtain ⟨i, hi⟩ := List.getElem?_of_mem hb
    simp only [twB, List.getElem?_mapIdx, Option.map_eq_some_iff] at hi
    obtain ⟨x, hx, rfl⟩ := hi
    simp only [id, Bool.not_eq_true', Bool.eq_false_iff]
    intro hc
    obtain ⟨j, h1, h2⟩ := mem_take.1 (List.contains_iff_mem.1 hc)
    exact h ((twice_iff l).2 ⟨j, i, x, h1, h2, hx⟩)
theorem rTwice (l : List Str) (hb : l.length < big) : Val prg 46 [encStrs l] (.bool (twiceS l)) := by
  refine Val.of_sat (fn := gc46) rfl rfl rfl ?_
  have hl : slLen (encStrs l) = some l.length := by simp [encStrs]
  have hlen : (twB l).length = l.length := by simp [twB]
  have hr := twB_all l
  simp [gc46]
  refine sat_then (sat_blk ((scanB (l := twB l) (p := id) (ex := 0) (fun i fr h => fr 0 = encStrs l ∧ fr 3 = I i ∧ h = []) (fun fr h => fr 2 = .bool true) ?_ ?_ ⟨by simp, by simp, rfl⟩).mono ?_))
  · rintro fr h ⟨h0, h3, rfl⟩
    simp [gl46_1, h0, h3, hl, hlen]
  · rintro i b fr h hx hil ⟨h0, h3, rfl⟩
    simp only [twB, List.getElem?_mapIdx, Option.map_eq_some_iff] at hx
    obtain ⟨x, hx, rfl⟩ := hx
    rw [hlen] at hil
    have ha : iaddrAV 1 (encStrs l) (.int .i64 (i : Int)) = some (.rp 1 (.str x) 0) := iaddrS (f := AV.str) (sz := 1) hx
    have hw := wrapS hil hb
    have hlt := ltS hil
    have hs := fun h => slSl_strs (l := l) (i := i) (h := h) (by omega)
    have hp := crPlace x (l.take i) (by have : l.length < 9223372036854775808 := hb; show (l.take i).length < 9223372036854775808; simp; omega)
    have hm := place_mem x (l.take i)
    cases hc : (l.take i).contains x
    · rw [hc] at hm
      simp [gl46_1, h0, h3, hl, hlt, ha, hs, hp, hm, hw, trim]
    · rw [hc] at hm
      simp [gl46_1, h0, h3, hl, hlt, ha, hs, hp, hm, hw, trim]
  · rintro o fr h (⟨h1, rfl, -⟩ | ⟨h1, rfl, h2⟩)
    · have : twiceS l = false := by rw [h1] at hr; simpa using hr
      simp [this]
    · have : twiceS l = true := by rw [h1] at hr; simpa using hr
      simp [this, h2]
theorem crTwiceOwn {h : Heap} {ty b : Nat} {v : AV} {l : List Str} (o : Own h ty 1 b v (l.map .str)) (hb : l.length < big) (lo base tgt : Nat) : callW prg 46 lo base tgt [v] h = some (.bool (twiceS l), h) := by
  obtain ⟨y, hy, hy2⟩ := Option.map_eq_some_iff.1 (o.embed (closedL_map (fun _ => rfl) _) (plain_map (f := AV.str) fun s _ => plainStr s).2)
  exact (rTwice l hb).callG (as0 := [y]) (by rw [mapO_cons, hy]; rfl) (by simp only [List.map_cons, List.map_nil, hy2]; rfl) (by simp)
end Go.Abs.T

/- What the reference's functions of chapter 7 answer, part 6: is what is used there? -/
set_option maxRecDepth 100000
set_option linter.unusedSimpArgs false
set_option linter.unusedVariables false
namespace Go.Abs.T
open Go.Proofs.YtnpfhbhhbdegfaaDoor

theorem _root_.Go.Abs.Val.c3 {Q : Prg} {f : Nat} {a b c : AV} {r : AV} (hv : Val Q f [a, b, c] r) (h : Plain a) (h' : Plain b) (h'' : Plain c) : ∀ lo base tgt h, callW Q f lo base tgt [a, b, c] h = some (r, h) := fun _ _ _ _ => hv.call (by simp [h.cl, h'.cl, h''.cl]) (by simp [h.can, h'.can, h''.can])

theorem useELoop (q : Expr → Bool) (a1 a2 a3 a4 b1 b2 b3 : AV) (k n o : Int) (s : Str) (l : List Expr) (hb : l.length < big) (tp tt te : Nat) (r : Bool) (hr : l.all q = r)
    (hc : ∀ x ∈ l, ∀ lo base tgt h, callW prg 49 lo base tgt [.agg [a1, a2, a3, a4], .agg [b1, b2, b3], encE x] h = some (.bool (q x), h)) (fr : Frame) (h3 : fr 3 = .ptr 0 1 0 0) (h4 : fr 4 = .ptr 1 1 0 0) (h5 : fr 5 = .ptr 2 1 0 0) (h7 : fr 7 = I 0) :
    Sat (itW (exec (ctxW prg) 0 0 gl49_1) fr [.live ⟨tp, 4, false, [.agg [a1, a2, a3, a4]]⟩, .live ⟨tt, 3, false, [.agg [b1, b2, b3]]⟩, .live ⟨te, 5, false, [.agg [I k, I n, I o, .str s, mkRo 5 (l.map encE)]]⟩]) fun out fr' h' => (r = true ∧ out = .exit 0) ∨ (r = false ∧ out = .ret ∧ fr' 6 = .bool false) := by
  refine (scanB (l := l) (p := q) (ex := 0) (fun i fr h => h = [.live ⟨tp, 4, false, [.agg [a1, a2, a3, a4]]⟩, .live ⟨tt, 3, false, [.agg [b1, b2, b3]]⟩, .live ⟨te, 5, false, [.agg [I k, I n, I o, .str s, mkRo 5 (l.map encE)]]⟩] ∧ fr 3 = .ptr 0 1 0 0 ∧ fr 4 = .ptr 1 1 0 0 ∧ fr 5 = .ptr 2 1 0 0 ∧ fr 7 = I i) (fun fr h => fr 6 = .bool false) ?_ ?_ ⟨rfl, h3, h4, h5, h7⟩).mono ?_
  · rintro fr h ⟨rfl, h3, h4, h5, h7⟩
    simp [gl49_1, h3, h4, h5, h7]
  · rintro i x fr h hx hil ⟨rfl, h3, h4, h5, h7⟩
    have ha := iaddrS (f := encE) (sz := 5) hx
    have hw := wrapS hil hb
    have hlt := ltS hil
    have hE := (elemE x).1
    unfold Elem at hE
    have hv := hc x (List.mem_of_getElem? hx)
    cases hp : q x
    · rw [hp] at hv
      simp [gl49_1, h3, h4, h5, h7, ha, hlt, hE, hv, trim]
    · rw [hp] at hv
      simp [gl49_1, h3, h4, h5, h7, ha, hlt, hE, hv, hw, trim]
  · rintro o fr h (⟨h1, rfl, -⟩ | ⟨h1, rfl, h2⟩)
    · exact .inl ⟨hr.symm.trans h1, rfl⟩
    · exact .inr ⟨hr.symm.trans h1, rfl, h2⟩
theorem rUseE (p : Prg') (t : Thr) (hp : okP p) (ht : okT t) : (e : Expr) → okE e → Val prg 49 [encP p, encT t, encE e] (.bool (exprUses p t e))
  | .mk k n o s l, he => by
    obtain ⟨q1, q2, q3⟩ := he
    have hc : ∀ x ∈ l, ∀ lo base tgt h, callW prg 49 lo base tgt [encP p, encT t, encE x] h = some (.bool (exprUses p t x), h) := fun x hx => Val.c3 (rUseE p t hp ht x (okEL_iff.1 q3 x hx)) (plainP p) (plainT t) (plainE x)
    have hg := crGlobal p s hp
    have hlc := crLocal t s ht
    have har := crArray p s hp
    refine Val.of_sat (fn := gc49) rfl rfl rfl ?_
    rw [encE_mk]
    simp only [exprUses, exprsUse_eq, isVarS]
    generalize hq : exprUses p t = q at *
    generalize hr : l.all q = r
    generalize arrS p s = ar at *
    generalize globS p s = gl at *
    generalize locS t s = lc at *
    simp only [encP, encT] at hc hg hlc har ⊢
    generalize mkRo 2 (p.globals.map encG) = a1 at *
    generalize mkRo 2 (p.arrays.map encA) = a2 at *
    generalize encStrs p.mutexes = a3 at *
    generalize mkRo 3 (p.threads.map encT) = a4 at *
    generalize AV.str t.name = b1 at *
    generalize encStrs t.locals = b2 at *
    generalize mkRo 18 (t.body.map encS) = b3 at *
    have loop := fun tp tt te fr h3 h4 h5 h7 => useELoop q a1 a2 a3 a4 b1 b2 b3 k n o s l q2 tp tt te r hr hc fr h3 h4 h5 h7
    have fin : ∀ (tp tt te : Nat) (fr : Frame), fr 3 = .ptr 0 1 0 0 → fr 4 = .ptr 1 1 0 0 → fr 5 = .ptr 2 1 0 0 → fr 7 = I 0 → Sat (andThen (inBlk 0 (itW (exec (ctxW prg) 0 0 gl49_1) fr [.live ⟨tp, 4, false, [.agg [a1, a2, a3, a4]]⟩, .live ⟨tt, 3, false, [.agg [b1, b2, b3]]⟩, .live ⟨te, 5, false, [.agg [I k, I n, I o, .str s, mkRo 5 (l.map encE)]]⟩])) (exec (ctxW prg) 0 0 (.seq (.region [⟨some 6, .move (.val (.bool true)), none⟩]) .ret))) fun o fr hp => (o = .normal ∨ o = .ret) ∧ ∃ a, embed hp 0 0 8 (fr 6) = some a ∧ a.canon = .bool r := by
      intro tp tt te fr h3 h4 h5 h7
      refine sat_then (sat_blk ((loop tp tt te fr h3 h4 h5 h7).mono ?_))
      rintro o fr h (⟨rfl, rfl⟩ | ⟨rfl, rfl, h2⟩)
      · simp
      · simp [h2]
    by_cases k2 : k = 2
    · subst k2
      by_cases a1 : lc < 0
      · have a1' : ¬ 0 ≤ lc := by omega
        by_cases a2 : gl < 0
        · have a2' : ¬ 0 ≤ gl := by omega
          simp [gc49, hg, hlc, har, a1, a1', a2, a2', trim]
        · have a2' : 0 ≤ gl := by omega
          simp [gc49, hg, hlc, har, a1, a1', a2, a2', trim]
          exact fin _ _ _ _ (by simp) (by simp) (by simp) (by simp)
      · have a1' : 0 ≤ lc := by omega
        simp [gc49, hg, hlc, har, a1, a1', trim]
        exact fin _ _ _ _ (by simp) (by simp) (by simp) (by simp)
    · by_cases k3 : k = 3
      · subst k3
        by_cases a1 : ar < 0
        · have a1' : ¬ 0 ≤ ar := by omega
          simp [gc49, hg, hlc, har, a1, a1', trim]
        · have a1' : 0 ≤ ar := by omega
          simp [gc49, hg, hlc, har, a1, a1', trim]
          exact fin _ _ _ _ (by simp) (by simp) (by simp) (by simp)
      · simp [gc49, hg, hlc, har, k2, k3, trim]
        exact fin _ _ _ _ (by simp) (by simp) (by simp) (by simp)
termination_by e => e
decreasing_by
  have := List.sizeOf_lt_of_mem hx
  simp_wf
  omega
theorem crUseE (p : Prg') (t : Thr) (hp : okP p) (ht : okT t) (e : Expr) (he : okE e) (lo base tgt : Nat) (h : Heap) : callW prg 49 lo base tgt [encP p, encT t, encE e] h = some (.bool (exprUses p t e), h) := Val.c3 (rUseE p t hp ht e he) (plainP p) (plainT t) (plainE e) _ _ _ _
end Go.Abs.T

/- What the reference's functions of chapter 7 answer, part 7: conditions, statements. -/
set_option maxRecDepth 100000
set_option linter.unusedSimpArgs false
set_option linter.unusedVariables false
namespace Go.Abs.T
open Go.Proofs.YtnpfhbhhbdegfaaDoor

theorem useCLoop1 (q : Expr → Bool) (a1 a2 a3 a4 b1 b2 b3 : AV) (k rl : Int) (l : List Expr) (ks : List Cond) (hb : l.length < big) (tp tt te : Nat) (r : Bool) (hr : l.all q = r)
    (hc : ∀ x ∈ l, ∀ lo base tgt h, callW prg 49 lo base tgt [.agg [a1, a2, a3, a4], .agg [b1, b2, b3], encE x] h = some (.bool (q x), h)) (fr : Frame) (h3 : fr 3 = .ptr 0 1 0 0) (h4 : fr 4 = .ptr 1 1 0 0) (h5 : fr 5 = .ptr 2 1 0 0) (h7 : fr 7 = I 0) :
    Sat (itW (exec (ctxW prg) 0 0 gl52_1) fr [.live ⟨tp, 4, false, [.agg [a1, a2, a3, a4]]⟩, .live ⟨tt, 3, false, [.agg [b1, b2, b3]]⟩, .live ⟨te, 4, false, [.agg [I k, I rl, mkRo 5 (l.map encE), mkRo 4 (ks.map encC)]]⟩]) fun out fr' h' => (r = true ∧ out = .exit 0 ∧ h' = [.live ⟨tp, 4, false, [.agg [a1, a2, a3, a4]]⟩, .live ⟨tt, 3, false, [.agg [b1, b2, b3]]⟩, .live ⟨te, 4, false, [.agg [I k, I rl, mkRo 5 (l.map encE), mkRo 4 (ks.map encC)]]⟩] ∧ fr' 3 = .ptr 0 1 0 0 ∧ fr' 4 = .ptr 1 1 0 0 ∧ fr' 5 = .ptr 2 1 0 0) ∨ (r = false ∧ out = .ret ∧ fr' 6 = .bool false) := by
  refine (scanB (l := l) (p := q) (ex := 0) (fun i fr h => h = [.live ⟨tp, 4, false, [.agg [a1, a2, a3, a4]]⟩, .live ⟨tt, 3, false, [.agg [b1, b2, b3]]⟩, .live ⟨te, 4, false, [.agg [I k, I rl, mkRo 5 (l.map encE), mkRo 4 (ks.map encC)]]⟩] ∧ fr 3 = .ptr 0 1 0 0 ∧ fr 4 = .ptr 1 1 0 0 ∧ fr 5 = .ptr 2 1 0 0 ∧ fr 7 = I i) (fun fr h => fr 6 = .bool false) ?_ ?_ ⟨rfl, h3, h4, h5, h7⟩).mono ?_
  · rintro fr h ⟨rfl, h3, h4, h5, h7⟩
    simp [gl52_1, h3, h4, h5, h7]
  · rintro i x fr h hx hil ⟨rfl, h3, h4, h5, h7⟩
    have ha := iaddrS (f := encE) (sz := 5) hx
    have hw := wrapS hil hb
    have hlt := ltS hil
    have hE := (elemE x).1
    unfold Elem at hE
    have hv := hc x (List.mem_of_getElem? hx)
    cases hp : q x
    · rw [hp] at hv
      simp [gl52_1, h3, h4, h5, h7, ha, hlt, hE, hv, trim]
    · rw [hp] at hv
      simp [gl52_1, h3, h4, h5, h7, ha, hlt, hE, hv, hw, trim]
  · rintro o fr h (⟨h1, rfl, rfl, h3, h4, h5, -⟩ | ⟨h1, rfl, h2⟩)
    · exact .inl ⟨hr.symm.trans h1, rfl, rfl, h3, h4, h5⟩
    · exact .inr ⟨hr.symm.trans h1, rfl, h2⟩
theorem useCLoop2 (q : Cond → Bool) (a1 a2 a3 a4 b1 b2 b3 : AV) (k rl : Int) (l : List Expr) (ks : List Cond) (hb : ks.length < big) (tp tt te : Nat) (r : Bool) (hr : ks.all q = r)
    (hc : ∀ x ∈ ks, ∀ lo base tgt h, callW prg 52 lo base tgt [.agg [a1, a2, a3, a4], .agg [b1, b2, b3], encC x] h = some (.bool (q x), h)) (fr : Frame) (h3 : fr 3 = .ptr 0 1 0 0) (h4 : fr 4 = .ptr 1 1 0 0) (h5 : fr 5 = .ptr 2 1 0 0) (h8 : fr 8 = I 0) :
    Sat (itW (exec (ctxW prg) 0 0 gl52_2) fr [.live ⟨tp, 4, false, [.agg [a1, a2, a3, a4]]⟩, .live ⟨tt, 3, false, [.agg [b1, b2, b3]]⟩, .live ⟨te, 4, false, [.agg [I k, I rl, mkRo 5 (l.map encE), mkRo 4 (ks.map encC)]]⟩]) fun out fr' h' => (r = true ∧ out = .exit 2) ∨ (r = false ∧ out = .ret ∧ fr' 6 = .bool false) := by
  refine (scanB (l := ks) (p := q) (ex := 2) (fun i fr h => h = [.live ⟨tp, 4, false, [.agg [a1, a2, a3, a4]]⟩, .live ⟨tt, 3, false, [.agg [b1, b2, b3]]⟩, .live ⟨te, 4, false, [.agg [I k, I rl, mkRo 5 (l.map encE), mkRo 4 (ks.map encC)]]⟩] ∧ fr 3 = .ptr 0 1 0 0 ∧ fr 4 = .ptr 1 1 0 0 ∧ fr 5 = .ptr 2 1 0 0 ∧ fr 8 = I i) (fun fr h => fr 6 = .bool false) ?_ ?_ ⟨rfl, h3, h4, h5, h8⟩).mono ?_
  · rintro fr h ⟨rfl, h3, h4, h5, h8⟩
    simp [gl52_2, h3, h4, h5, h8]
  · rintro i x fr h hx hil ⟨rfl, h3, h4, h5, h8⟩
    have ha := iaddrS (f := encC) (sz := 4) hx
    have hw := wrapS hil hb
    have hlt := ltS hil
    have hE := (elemC x).1
    unfold Elem at hE
    have hv := hc x (List.mem_of_getElem? hx)
    cases hp : q x
    · rw [hp] at hv
      simp [gl52_2, h3, h4, h5, h8, ha, hlt, hE, hv, trim]
    · rw [hp] at hv
      simp [gl52_2, h3, h4, h5, h8, ha, hlt, hE, hv, hw, trim]
  · rintro o fr h (⟨h1, rfl, -⟩ | ⟨h1, rfl, h2⟩)
    · exact .inl ⟨hr.symm.trans h1, rfl⟩
    · exact .inr ⟨hr.symm.trans h1, rfl, h2⟩
theorem rUseC (p : Prg') (t : Thr) (hp : okP p) (ht : okT t) : (c : Cond) → okC c → Val prg 52 [encP p, encT t, encC c] (.bool (condUses p t c))
  | .mk k rl l ks, he => by
    obtain ⟨q1, q2, q3, q4⟩ := he
    have hc1 : ∀ x ∈ l, ∀ lo base tgt h, callW prg 49 lo base tgt [encP p, encT t, encE x] h = some (.bool (exprUses p t x), h) := fun x hx => crUseE p t hp ht x (okEL_iff.1 q3 x hx)
    have hc2 : ∀ x ∈ ks, ∀ lo base tgt h, callW prg 52 lo base tgt [encP p, encT t, encC x] h = some (.bool (condUses p t x), h) := fun x hx => Val.c3 (rUseC p t hp ht x (okCL_iff.1 q4 x hx)) (plainP p) (plainT t) (plainC x)
    refine Val.of_sat (fn := gc52) rfl rfl rfl ?_
    rw [encC_mk]
    simp only [condUses, exprsUse_eq, condsUse_eq]
    generalize hq1 : exprUses p t = e1 at *
    generalize hq2 : condUses p t = e2 at *
    generalize hr1 : l.all e1 = r1
    generalize hr2 : ks.all e2 = r2
    simp only [encP, encT] at hc1 hc2 ⊢
    generalize mkRo 2 (p.globals.map encG) = a1 at *
    generalize mkRo 2 (p.arrays.map encA) = a2 at *
    generalize encStrs p.mutexes = a3 at *
    generalize mkRo 3 (p.threads.map encT) = a4 at *
    generalize AV.str t.name = b1 at *
    generalize encStrs t.locals = b2 at *
    generalize mkRo 18 (t.body.map encS) = b3 at *
    simp [gc52, trim]
    refine sat_then (sat_blk ((useCLoop1 e1 a1 a2 a3 a4 b1 b2 b3 k rl l ks q1 _ _ _ r1 hr1 hc1 _ (by simp) (by simp) (by simp) (by simp)).mono ?_))
    rintro o fr h (⟨rfl, rfl, rfl, h3, h4, h5⟩ | ⟨rfl, rfl, h2⟩)
    · simp
      refine sat_then (sat_blk ((useCLoop2 e2 a1 a2 a3 a4 b1 b2 b3 k rl l ks q2 _ _ _ r2 hr2 hc2 _ (by simp [h3]) (by simp [h4]) (by simp [h5]) (by simp)).mono ?_))
      rintro o fr h (⟨rfl, rfl⟩ | ⟨rfl, rfl, h2⟩)
      · simp
      · simp [h2]
    · simp [h2]
termination_by c => c
decreasing_by
  have := List.sizeOf_lt_of_mem hx
  simp_wf
  omega
theorem crUseC (p : Prg') (t : Thr) (hp : okP p) (ht : okT t) (c : Cond) (hc : okC c) (lo base tgt : Nat) (h : Heap) : callW prg 52 lo base tgt [encP p, encT t, encC c] h = some (.bool (condUses p t c), h) := Val.c3 (rUseC p t hp ht c hc) (plainP p) (plainT t) (plainC c) _ _ _ _

theorem useStep (p : Prg') (t : Thr) (hp : okP p) (ht : okT t) (L : List Stmt) (hb : L.length < big) (x : Stmt) (j : Nat) (hx : L[j]? = some x) (hok : okS x)
    (hcb : ∀ k s i e c b l, x = .mk k s i e c b l → (∀ lo base tgt h, callW prg 20 lo base tgt [encP p, encT t, mkRo 18 (b.map encS)] h = some (.bool (b.all (stmtUses p t)), h)) ∧ (∀ lo base tgt h, callW prg 20 lo base tgt [encP p, encT t, mkRo 18 (l.map encS)] h = some (.bool (l.all (stmtUses p t)), h)))
    (fr : Frame) (tp tt : Nat) (g : Heap) (h2 : fr 2 = mkRo 18 (L.map encS)) (h3 : fr 3 = .ptr 0 1 0 0) (h4 : fr 4 = .ptr 1 1 0 0) (h7 : fr 7 = I j) :
    Sat (exec (ctxW prg) 0 0 gl20_1 fr (.live ⟨tp, 4, false, [encP p]⟩ :: .live ⟨tt, 3, false, [encT t]⟩ :: g)) fun o fr' h' => (stmtUses p t x = true ∧ o = .normal ∧ fr' 2 = mkRo 18 (L.map encS) ∧ fr' 3 = .ptr 0 1 0 0 ∧ fr' 4 = .ptr 1 1 0 0 ∧ fr' 7 = I (j + 1 : Nat) ∧ ∃ g', h' = .live ⟨tp, 4, false, [encP p]⟩ :: .live ⟨tt, 3, false, [encT t]⟩ :: g') ∨ (stmtUses p t x = false ∧ o = .ret ∧ fr' 6 = .bool false) := by
  have hil : j < L.length := (List.getElem?_eq_some_iff.1 hx).1
  have ha := iaddrS (f := encS) (sz := 18) hx
  have hw := wrapS hil hb
  have hlt := ltS hil
  have hE := (elemS x).1
  unfold Elem at hE
  obtain ⟨k, s, i, e, c, b, l⟩ := x
  obtain ⟨ib, il⟩ := hcb _ _ _ _ _ _ _ rfl
  obtain ⟨q1, q2, q3, q4, q5, q6, q7, q8⟩ := hok
  have ci := crUseE p t hp ht i q2
  have ce := crUseE p t hp ht e q3
  have cc := crUseC p t hp ht c q4
  have hg := crGlobal p s hp
  have hlc := crLocal t s ht
  have har := crArray p s hp
  have hmu := crMutex p s hp
  simp only [stmtUses, stmtsUse_eq, isVarS]
  generalize exprUses p t i = bi at *
  generalize exprUses p t e = be at *
  generalize condUses p t c = bc at *
  generalize b.all (stmtUses p t) = bb at *
  generalize l.all (stmtUses p t) = bl at *
  generalize arrS p s = ar at *
  generalize mutS p s = mu at *
  generalize globS p s = gl at *
  generalize locS t s = lc at *
  obtain ⟨ik, ni, oi, si, li⟩ := i
  obtain ⟨ek, ne, oe, se, le⟩ := e
  obtain ⟨ck, cr, cl, cks⟩ := c
  rw [encS_mk'] at ha hE
  rw [encE_mk] at ci ce
  rw [encC_mk] at cc
  simp only [encP, encT] at ib il ci ce cc hg hlc har hmu ⊢
  generalize mkRo 2 (p.globals.map encG) = a1 at *
  generalize mkRo 2 (p.arrays.map encA) = a2 at *
  generalize encStrs p.mutexes = a3 at *
  generalize mkRo 3 (p.threads.map encT) = a4 at *
  generalize AV.str t.name = b1 at *
  generalize encStrs t.locals = b2 at *
  generalize mkRo 18 (t.body.map encS) = b3 at *
  by_cases k1 : k = 1
  · subst k1
    by_cases a1 : 0 ≤ lc
    · cases be <;> simp [gl20_1, h2, h3, h4, h7, ha, hlt, hE, hw, hlc, a1, ce]
    · by_cases a2 : 0 ≤ gl
      · cases be <;> simp [gl20_1, h2, h3, h4, h7, ha, hlt, hE, hw, hlc, hg, a1, a2, ce]
      · simp [gl20_1, h2, h3, h4, h7, ha, hlt, hE, hw, hlc, hg, a1, a2]
  · by_cases k2 : k = 2
    · subst k2
      by_cases a1 : 0 ≤ ar
      · cases bi
        · simp [gl20_1, h2, h3, h4, h7, ha, hlt, hE, hw, har, a1, ci]
        · cases be <;> simp [gl20_1, h2, h3, h4, h7, ha, hlt, hE, hw, har, a1, ci, ce]
      · simp [gl20_1, h2, h3, h4, h7, ha, hlt, hE, hw, har, a1]
    · by_cases k3 : k = 3
      · subst k3
        by_cases a1 : 0 ≤ mu <;> simp [gl20_1, h2, h3, h4, h7, ha, hlt, hE, hw, hmu, a1]
      · by_cases k4 : k = 4
        · subst k4
          by_cases a1 : 0 ≤ mu <;> simp [gl20_1, h2, h3, h4, h7, ha, hlt, hE, hw, hmu, a1]
        · by_cases k5 : k = 5
          · subst k5
            cases bc
            · simp [gl20_1, h2, h3, h4, h7, ha, hlt, hE, hw, cc]
            · cases bb
              · simp [gl20_1, h2, h3, h4, h7, ha, hlt, hE, hw, cc, ib]
              · cases bl <;> simp [gl20_1, h2, h3, h4, h7, ha, hlt, hE, hw, cc, ib, il]
          · by_cases k6 : k = 6
            · subst k6
              cases bc
              · simp [gl20_1, h2, h3, h4, h7, ha, hlt, hE, hw, cc]
              · cases bb <;> simp [gl20_1, h2, h3, h4, h7, ha, hlt, hE, hw, cc, ib]
            · by_cases k7 : k = 7
              · subst k7
                cases bc <;> simp [gl20_1, h2, h3, h4, h7, ha, hlt, hE, hw, cc]
              · simp [gl20_1, h2, h3, h4, h7, ha, hlt, hE, hw, k1, k2, k3, k4, k5, k6, k7]
theorem rUses (p : Prg') (t : Thr) (hp : okP p) (ht : okT t) : (L : List Stmt) → L.length < big → okSL L → Val prg 20 [encP p, encT t, mkRo 18 (L.map encS)] (.bool (L.all (stmtUses p t)))
  | L, hb, hL => by
    have hcb : ∀ x ∈ L, ∀ k s i e c b l, x = .mk k s i e c b l → (∀ lo base tgt h, callW prg 20 lo base tgt [encP p, encT t, mkRo 18 (b.map encS)] h = some (.bool (b.all (stmtUses p t)), h)) ∧ (∀ lo base tgt h, callW prg 20 lo base tgt [encP p, encT t, mkRo 18 (l.map encS)] h = some (.bool (l.all (stmtUses p t)), h)) := by
      intro x hx k s i e c b l hxe
      obtain ⟨-, -, -, -, q5, q6, q7, q8⟩ : okS (.mk k s i e c b l) := hxe ▸ okSL_iff.1 hL x hx
      exact ⟨Val.c3 (rUses p t hp ht b q5 q7) (plainP p) (plainT t) (plain_ro fun y _ => plainS y), Val.c3 (rUses p t hp ht l q6 q8) (plainP p) (plainT t) (plain_ro fun y _ => plainS y)⟩
    refine Val.of_sat (fn := gc20) rfl rfl rfl ?_
    generalize hr : L.all (stmtUses p t) = r
    simp [gc20, encP, encT]
    refine sat_then (sat_blk ((scanB (l := L) (p := stmtUses p t) (ex := 0) (fun i fr h => fr 2 = mkRo 18 (L.map encS) ∧ fr 3 = .ptr 0 1 0 0 ∧ fr 4 = .ptr 1 1 0 0 ∧ fr 7 = I i ∧ ∃ tp tt g, h = .live ⟨tp, 4, false, [encP p]⟩ :: .live ⟨tt, 3, false, [encT t]⟩ :: g) (fun fr h => fr 6 = .bool false) ?_ ?_ ⟨by simp, by simp, by simp, by simp, _, _, [], rfl⟩).mono ?_))
    · rintro fr h ⟨h2, h3, h4, h7, tp, tt, g, rfl⟩
      simp [gl20_1, h2, h3, h4, h7]
    · rintro i x fr h hx hil ⟨h2, h3, h4, h7, tp, tt, g, rfl⟩
      refine (useStep p t hp ht L hb x i hx (okSL_iff.1 hL x (List.mem_of_getElem? hx)) (hcb x (List.mem_of_getElem? hx)) fr tp tt g h2 h3 h4 h7).mono ?_
      rintro o fr h (⟨h1, rfl, h2, h3, h4, h7, g', rfl⟩ | h1)
      · exact .inl ⟨h1, rfl, h2, h3, h4, h7, tp, tt, g', rfl⟩
      · exact .inr h1
    · rintro o fr h (⟨h1, rfl, -⟩ | ⟨h1, rfl, h2⟩)
      · rw [h1] at hr
        simp [← hr]
      · rw [h1] at hr
        simp [← hr, h2]
termination_by L => L
decreasing_by
  · have := List.sizeOf_lt_of_mem hx
    subst hxe
    simp at this
    omega
  · have := List.sizeOf_lt_of_mem hx
    subst hxe
    simp at this
    omega
theorem crUses (p : Prg') (t : Thr) (hp : okP p) (ht : okT t) (L : List Stmt) (hb : L.length < big) (hL : ∀ s ∈ L, okS s) (lo base tgt : Nat) (h : Heap) : callW prg 20 lo base tgt [encP p, encT t, mkRo 18 (L.map encS)] h = some (.bool (L.all (stmtUses p t)), h) := Val.c3 (rUses p t hp ht L hb (okSL_iff.2 hL)) (plainP p) (plainT t) (plain_ro fun y _ => plainS y) _ _ _ _
end Go.Abs.T

/- What the reference's functions of chapter 7 answer, part 8: shape, names alone. -/
set_option maxRecDepth 100000
set_option linter.unusedSimpArgs false
set_option linter.unusedVariables false
namespace Go.Abs.T
open Go.Proofs.YtnpfhbhhbdegfaaDoor

theorem aloneR1 (a2 a3 a4 : AV) (l : List Glob) (hl : l.length ≤ 6) (ns : List Str) (hns : l.map (·.name) = ns) (ty : Nat) (v4 : AV) (fr : Frame) (h : Heap) (b : Nat) (h5 : fr 5 = I 0) (h1 : fr 1 = .ptr 0 1 0 0) (h4 : fr 4 = v4) (h0 : h[0]? = some (.live ⟨ty, 4, false, [.agg [mkRo 2 (l.map encG), a2, a3, a4]]⟩))
    (ho : Own h 9 1 b (fr 3) (strs [])) (hb : 1 ≤ b) :
    Sat (itW (exec (ctxW prg) 0 0 gl19_1) fr h) fun o fr' h' => Left (.live ⟨ty, 4, false, [.agg [mkRo 2 (l.map encG), a2, a3, a4]]⟩) 3 4 v4 ns o 0 fr' h' := by
  refine (fold (l := l) (ex := 0) (fun i fr h => fr 1 = .ptr 0 1 0 0 ∧ fr 4 = v4 ∧ fr 5 = I i ∧ h[0]? = some (.live ⟨ty, 4, false, [.agg [mkRo 2 (l.map encG), a2, a3, a4]]⟩) ∧ ∃ b, 1 ≤ b ∧ Own h 9 1 b (fr 3) (strs (ns.take i))) ?_ ?_ ⟨h1, h4, h5, h0, b, hb, by simpa using ho⟩).mono ?_
  · rintro fr h ⟨h1, h4, h5, h0, b, hb, ho⟩
    have hh := lt_of_live h0
    have e0 : h[0]'hh = .live ⟨ty, 4, false, [.agg [mkRo 2 (l.map encG), a2, a3, a4]]⟩ := by
      rw [List.getElem?_eq_getElem hh, Option.some.injEq] at h0
      exact h0
    simp [gl19_1, h1, h5, h0, e0, hh, h4]
    exact ⟨b, hb, by simpa using ho⟩
  · rintro i x fr h hx hil ⟨h1, h4, h5, h0, b, hb, ho⟩
    have hh := lt_of_live h0
    have e0 : h[0]'hh = .live ⟨ty, 4, false, [.agg [mkRo 2 (l.map encG), a2, a3, a4]]⟩ := by
      rw [List.getElem?_eq_getElem hh, Option.some.injEq] at h0
      exact h0
    have ha := iaddrS (f := encG) (sz := 2) hx
    have hw := wrapS hil (n := l.length) (by show l.length < 9223372036854775808; omega)
    have hlt := ltS hil
    have hlen : ns.length = l.length := by rw [← hns]; simp
    have htake : ns.take (i + 1) = ns.take i ++ [x.name] := by
      rw [List.take_add_one, ← hns, List.getElem?_map, hx]; rfl
    simp only [encG] at ha
    simp [gl19_1, h1, h5, h0, e0, hh, ha, hlt]
    generalize hA : appendAV _ 0 0 _ _ _ (fr 3) _ = A
    obtain ⟨b', v', h', rfl, o', hk', hl', hp'⟩ := Own.appended hA ho.app hb (by simp) (by simp) (by simp [most]; omega) (by simp)
    simp [hw, h5, h1, h4]
    refine ⟨?_, b', hk', ?_⟩
    · rw [hp' 0 (by simp) (by omega), getE_left (by omega)]
      exact h0
    · rw [htake, strs_app]
      simpa using o'
  · rintro o fr h ⟨rfl, h1, h4, h5, h0, b, hb, ho⟩
    have hlen : ns.length = l.length := by rw [← hns]; simp
    refine ⟨rfl, h1, h4, lt_of_live h0, h0, b, hb, ?_⟩
    rwa [List.take_of_length_le (by omega)] at ho
theorem aloneR2 (a1 a3 a4 : AV) (l : List Arr) (hl : l.length ≤ 3) (pre : List Str) (hpre : pre.length ≤ 6) (ns : List Str) (hns : l.map (·.name) = ns) (ty : Nat) (v4 : AV) (fr : Frame) (h : Heap) (b : Nat) (h6 : fr 6 = I 0) (h1 : fr 1 = .ptr 0 1 0 0) (h4 : fr 4 = v4) (h0 : h[0]? = some (.live ⟨ty, 4, false, [.agg [a1, mkRo 2 (l.map encA), a3, a4]]⟩))
    (ho : Own h 9 1 b (fr 3) (strs pre)) (hb : 1 ≤ b) :
    Sat (itW (exec (ctxW prg) 0 0 gl19_2) fr h) fun o fr' h' => Left (.live ⟨ty, 4, false, [.agg [a1, mkRo 2 (l.map encA), a3, a4]]⟩) 3 4 v4 (pre ++ ns) o 2 fr' h' := by
  refine (fold (l := l) (ex := 2) (fun i fr h => fr 1 = .ptr 0 1 0 0 ∧ fr 4 = v4 ∧ fr 6 = I i ∧ h[0]? = some (.live ⟨ty, 4, false, [.agg [a1, mkRo 2 (l.map encA), a3, a4]]⟩) ∧ ∃ b, 1 ≤ b ∧ Own h 9 1 b (fr 3) (strs (pre ++ ns.take i))) ?_ ?_ ⟨h1, h4, h6, h0, b, hb, by simpa using ho⟩).mono ?_
  · rintro fr h ⟨h1, h4, h5, h0, b, hb, ho⟩
    have hh := lt_of_live h0
    have e0 : h[0]'hh = .live ⟨ty, 4, false, [.agg [a1, mkRo 2 (l.map encA), a3, a4]]⟩ := by
      rw [List.getElem?_eq_getElem hh, Option.some.injEq] at h0
      exact h0
    simp [gl19_2, h1, h5, h0, e0, hh, h4]
    exact ⟨b, hb, by simpa using ho⟩
  · rintro i x fr h hx hil ⟨h1, h4, h5, h0, b, hb, ho⟩
    have hh := lt_of_live h0
    have e0 : h[0]'hh = .live ⟨ty, 4, false, [.agg [a1, mkRo 2 (l.map encA), a3, a4]]⟩ := by
      rw [List.getElem?_eq_getElem hh, Option.some.injEq] at h0
      exact h0
    have ha := iaddrS (f := encA) (sz := 2) hx
    have hw := wrapS hil (n := l.length) (by show l.length < 9223372036854775808; omega)
    have hlt := ltS hil
    have hlen : ns.length = l.length := by rw [← hns]; simp
    have htake : pre ++ ns.take (i + 1) = (pre ++ ns.take i) ++ [x.name] := by
      rw [List.take_add_one, ← hns, List.getElem?_map, hx]; simp
    simp only [encA] at ha
    simp [gl19_2, h1, h5, h0, e0, hh, ha, hlt]
    generalize hA : appendAV _ 0 0 _ _ _ (fr 3) _ = A
    obtain ⟨b', v', h', rfl, o', hk', hl', hp'⟩ := Own.appended hA ho.app hb (by simp) (by simp) (by simp [most]; omega) (by simp)
    simp [hw, h5, h1, h4]
    refine ⟨?_, b', hk', ?_⟩
    · rw [hp' 0 (by simp) (by omega), getE_left (by omega)]
      exact h0
    · rw [htake, strs_app]
      simpa using o'
  · rintro o fr h ⟨rfl, h1, h4, h5, h0, b, hb, ho⟩
    have hlen : ns.length = l.length := by rw [← hns]; simp
    refine ⟨rfl, h1, h4, lt_of_live h0, h0, b, hb, ?_⟩
    rwa [List.take_of_length_le (by omega)] at ho
end Go.Abs.T

/- What the reference's functions of chapter 7 answer, part 9: the third loop of alone. -/
set_option maxRecDepth 100000
set_option linter.unusedSimpArgs false
set_option linter.unusedVariables false
namespace Go.Abs.T
open Go.Proofs.YtnpfhbhhbdegfaaDoor

theorem aloneR3 (a1 a2 a3 : AV) (l : List Thr) (hl : l.length ≤ 4) (sh : List Str) (hsh : sh.length ≤ 15) (hloc : ∀ t ∈ l, t.locals.length ≤ 6) (ns : List Str) (hns : l.map (·.name) = ns) (r : Bool) (hr : (l.all fun t => !twiceS (sh ++ t.locals)) = r) (ty : Nat) (v3 : AV)
    (fr : Frame) (h : Heap) (b b3 : Nat) (h7 : fr 7 = I 0) (h1 : fr 1 = .ptr 0 1 0 0) (h3 : fr 3 = v3) (h0 : h[0]? = some (.live ⟨ty, 4, false, [.agg [a1, a2, a3, mkRo 3 (l.map encT)]]⟩)) (ho3 : Own h 9 1 b3 v3 (strs sh)) (hb3 : b3 < h.length)
    (ho : Own h 9 1 b (fr 4) (strs [])) (hbb : b3 + 1 ≤ b) :
    Sat (itW (exec (ctxW prg) 0 0 gl19_3) fr h) fun o fr' h' => (o = .ret ∧ fr' 2 = .bool false ∧ r = false) ∨ (o = .exit 4 ∧ r = true ∧ fr' 3 = v3 ∧ Own h' 9 1 b3 v3 (strs sh) ∧ ∃ b', Own h' 9 1 b' (fr' 4) (strs ns)) := by
  have hlen : ns.length = l.length := by rw [← hns]; simp
  refine (scanB (l := l) (p := fun t => !twiceS (sh ++ t.locals)) (ex := 4) (fun i fr h => fr 1 = .ptr 0 1 0 0 ∧ fr 3 = v3 ∧ fr 7 = I i ∧ h[0]? = some (.live ⟨ty, 4, false, [.agg [a1, a2, a3, mkRo 3 (l.map encT)]]⟩) ∧ Own h 9 1 b3 v3 (strs sh) ∧ b3 < h.length ∧ ∃ b, b3 + 1 ≤ b ∧ Own h 9 1 b (fr 4) (strs (ns.take i))) (fun fr h => fr 2 = .bool false) ?_ ?_ ⟨h1, h3, h7, h0, ho3, hb3, b, hbb, by simpa using ho⟩).mono ?_
  · rintro fr h ⟨h1, h3, h7, h0, ho3, hb3, b, hbb, ho⟩
    have hh := lt_of_live h0
    have e0 : h[0]'hh = .live ⟨ty, 4, false, [.agg [a1, a2, a3, mkRo 3 (l.map encT)]]⟩ := by
      rw [List.getElem?_eq_getElem hh, Option.some.injEq] at h0
      exact h0
    simp [gl19_3, h1, h7, h0, e0, hh, h3]
    exact ⟨ho3, hb3, b, hbb, by simpa using ho⟩
  · rintro i x fr h hx hil ⟨h1, h3, h7, h0, ho3, hb3, b, hbb, ho⟩
    have hh := lt_of_live h0
    have e0 : h[0]'hh = .live ⟨ty, 4, false, [.agg [a1, a2, a3, mkRo 3 (l.map encT)]]⟩ := by
      rw [List.getElem?_eq_getElem hh, Option.some.injEq] at h0
      exact h0
    have hxm := List.mem_of_getElem? hx
    have ha := iaddrS (f := encT) (sz := 3) hx
    have hw := wrapS hil (n := l.length) (by show l.length < 9223372036854775808; omega)
    have hlt := ltS hil
    have htake : ns.take (i + 1) = ns.take i ++ [x.name] := by
      rw [List.take_add_one, ← hns, List.getElem?_map, hx]; rfl
    simp only [encT] at ha
    simp [gl19_3, h1, h7, h0, e0, hh, ha, hlt]
    generalize hA : appendAV _ 0 0 _ _ _ (fr 4) _ = A
    obtain ⟨b', v', h', rfl, o', hk', hl', hp', hq'⟩ := Own.grown (k := b3 + 1) hA ho hbb (by omega) (by simp) (by simp [most]; omega) (by simp)
    have h0' : h'[0]? = some (.live ⟨ty, 4, false, [.agg [a1, a2, a3, mkRo 3 (l.map encT)]]⟩) := (hp' 0 hh (by omega)).trans h0
    have hh' := lt_of_live h0'
    have e0' : h'[0]'hh' = .live ⟨ty, 4, false, [.agg [a1, a2, a3, mkRo 3 (l.map encT)]]⟩ := by
      rw [List.getElem?_eq_getElem hh', Option.some.injEq] at h0'
      exact h0'
    have ho3' : Own h' 9 1 b3 v3 (strs sh) := ho3.keep fun e he => hp' b3 hb3 (by omega)
    have hb3' : b3 < h'.length := by simp at hl'; omega
    have hloc1 := hloc x hxm
    have hrd : ∀ H : Heap, readSl H 1 (encStrs x.locals) = some (strs x.locals) := fun H => readSl_mkRo H 1 _
    have hrs : ∀ H : Heap, readSl (h' ++ H) 1 v3 = some (strs sh) := fun H => (ho3'.app).read
    have hsz : (sh ++ x.locals).length < big := by
      have : (sh ++ x.locals).length ≤ 21 := by simp; omega
      show (sh ++ x.locals).length < 9223372036854775808
      omega
    have htw : ∀ (H : Heap) (b : Nat) (v : AV) (lo base tgt : Nat), Own H 9 1 b v (strs (sh ++ x.locals)) → callW prg 46 lo base tgt [v] H = some (.bool (twiceS (sh ++ x.locals)), H) := fun H b v lo base tgt o => crTwiceOwn o hsz lo base tgt
    have hm1 : sh.length ≤ most := by simp [most]; omega
    have fin : ∀ (g : Heap), ∃ b, b3 + 1 ≤ b ∧ Own (h' ++ g) 9 1 b v' (strs (ns.take (i + 1))) := fun g => ⟨b', hk', by rw [htake, strs_app]; exact o'.app⟩
    have fin3 : ∀ (g : Heap), Own (h' ++ g) 9 1 b3 v3 (strs sh) := fun g => ho3'.app
    have fin4 : ∀ (g : Heap), b3 < (h' ++ g).length := fun g => by simp; omega
    have fin' := fin []
    rw [List.append_nil] at fin'
    by_cases hs : sh = []
    · have hs0 : strs sh = [] := by simp [hs, strs]
      by_cases hloc0 : x.locals = []
      · have ht : twiceS (sh ++ x.locals) = false := by simp [hs, hloc0, twiceS]
        have hc2 := fun (H : Heap) lo base tgt => htw H 0 .emp lo base tgt (by simp [hs, hloc0, strs]; exact Own.emp _ _ _ _)
        rw [ht] at hc2
        have hl0 : strs x.locals = [] := by simp [hloc0, strs]
        simp [h1, h3, h7, h0', e0', hh', ha, hw, hrs, hrd, trim_app, hs0, hl0, hc2, ht]
        exact ⟨by rw [← hs0]; exact ho3', hb3', fin'⟩
      · have hc2 := fun (H : Heap) (b : Nat) lo base tgt (o : H[b]? = some (.live ⟨9, 1, false, strs x.locals⟩)) => htw H b (.sl 1 b x.locals.length 0 x.locals.length) lo base tgt (by simp only [hs, List.nil_append]; exact .inr ⟨by simp, o⟩)
        have hl0 : strs x.locals ≠ [] := by simpa [strs] using hloc0
        have hl1 : x.locals.length ≤ most := by simp [most]; omega
        cases ht : twiceS (sh ++ x.locals)
        · rw [ht] at hc2
          simp [h1, h3, h7, h0', e0', hh', ha, hw, hrs, hrd, trim_app, hs0, hl0, hl1, hc2]
          exact ⟨by rw [← hs0]; exact fin3 _, by omega, fin _⟩
        · rw [ht] at hc2
          simp [h1, h3, h7, h0', e0', hh', ha, hw, hrs, hrd, trim_app, hs0, hl0, hl1, hc2]
    · have hsl : strs sh ≠ [] := by simpa [strs] using hs
      have hap := fun tgt => app_own (lo := 0) (base := 0) (tgt := tgt) (h := h' ++ [.live ⟨9, 1, false, strs sh⟩, .free, .free, .free]) (ty := 9) (sz := 1) (sz' := 1) (b := h'.length) (g := sh.length) (len := sh.length) (ys := strs x.locals) (es := strs sh) (by simp) (by simp) rfl (Nat.zero_le _) (Nat.zero_le _) (by simp [most]; omega) (by simp [strs])
      have hc2 := fun (H : Heap) (b : Nat) lo base tgt (o : H[b]? = some (.live ⟨9, 1, false, strs sh ++ strs x.locals⟩)) => htw H b (.sl 1 b (sh.length + x.locals.length) 0 (sh.length + x.locals.length)) lo base tgt (.inr ⟨by simp, by rw [o]; simp [strs]⟩)
      cases ht : twiceS (sh ++ x.locals)
      · rw [ht] at hc2
        simp [h1, h3, h7, h0', e0', hh', ha, hw, hrs, hrd, trim_app, hsl, hm1, hap, hc2]
        exact ⟨fin3 _, by omega, fin _⟩
      · rw [ht] at hc2
        simp [h1, h3, h7, h0', e0', hh', ha, hw, hrs, hrd, trim_app, hsl, hm1, hap, hc2]
  · rintro o fr h (⟨h1, rfl, -, h3, -, -, ho3, -, b, -, ho⟩ | ⟨h1, rfl, h2⟩)
    · rw [List.take_of_length_le (by omega)] at ho
      exact .inr ⟨rfl, hr.symm.trans h1, h3, ho3, b, ho⟩
    · exact .inl ⟨rfl, h2, hr.symm.trans h1⟩
end Go.Abs.T

/- What the reference's functions of chapter 7 answer, part 10: Check. -/
set_option maxRecDepth 100000
set_option linter.unusedSimpArgs false
set_option linter.unusedVariables false
namespace Go.Abs.T
open Go.Proofs.YtnpfhbhhbdegfaaDoor

theorem twice_app {a b : List Str} (h : twiceS (a ++ b) = false) : twiceS a = false := by
  rw [Bool.eq_false_iff] at h ⊢
  intro ht
  obtain ⟨j, i, x, h1, h2, h3⟩ := (twice_iff a).1 ht
  exact h ((twice_iff (a ++ b)).2 ⟨j, i, x, h1, by rw [List.getElem?_append_left (List.getElem?_eq_some_iff.1 h2).1, h2], by rw [List.getElem?_append_left (List.getElem?_eq_some_iff.1 h3).1, h3]⟩)
theorem rAlone (p : Prg') (hp : okP p) (hf : fitsOk p = true) (h0 : 0 < p.threads.length) : Val prg 19 [encP p] (.bool (aloneOk p)) := by
  simp only [fitsOk, Bool.and_eq_true, decide_eq_true_eq, List.all_eq_true] at hf
  obtain ⟨⟨⟨⟨f1, f2⟩, f3⟩, f4⟩, f5⟩ := hf
  refine Val.of_sat (fn := gc19) rfl rfl rfl ?_
  simp only [aloneOk]
  have hts : (p.threads.all fun t => !twiceS (sharedS p ++ t.locals)) = true → twiceS (sharedS p) = false := by
    intro h
    have := List.all_eq_true.1 h p.threads[0] (List.getElem_mem h0)
    rw [Bool.not_eq_true'] at this
    exact twice_app this
  generalize hr : (p.threads.all fun t => !twiceS (sharedS p ++ t.locals)) = r at *
  generalize hns : p.threads.map (·.name) = ns
  have hnl : ns.length ≤ 4 := by rw [← hns]; simpa using f4
  generalize hg : p.globals.map (·.name) = gs
  generalize ha : p.arrays.map (·.name) = ars
  have hgl : gs.length ≤ 6 := by rw [← hg]; simpa using f1
  have hal : ars.length ≤ 3 := by rw [← ha]; simpa using f2
  have hshared : sharedS p = gs ++ ars ++ p.mutexes := by rw [← hg, ← ha]; rfl
  simp [gc19, encP]
  refine sat_then (sat_blk ((aloneR1 (mkRo 2 (p.arrays.map encA)) (encStrs p.mutexes) (mkRo 3 (p.threads.map encT)) p.globals f1 gs hg 27 .emp _ _ 1 (by simp) (by simp) (by simp) (by simp) (by simp [strs]; exact Own.emp _ _ _ _) (by omega)).mono ?_))
  rintro o fr h ⟨rfl, h1, h4, hh, h0, b, hb, ho⟩
  simp only [blkQ_exit, if_true, thenQ_normal]
  simp
  refine sat_then (sat_blk ((aloneR2 _ _ _ p.arrays f2 gs hgl ars ha _ .emp _ _ b (by simp) (by simp [h1]) (by simp [h4]) h0 (by simpa using ho) hb).mono ?_))
  rintro o fr2 h2 ⟨rfl, h21, h24, hh2, h20, b2, hb2, ho2⟩
  simp only [blkQ_exit, if_true, thenQ_normal]
  have e2 := h20
  rw [List.getElem?_eq_getElem hh2, Option.some.injEq] at e2
  have hrd : ∀ H : Heap, readSl H 1 (encStrs p.mutexes) = some (strs p.mutexes) := fun H => readSl_mkRo H 1 _
  have hh2' : 0 < h2.length := hh2
  simp [h21, h24, h20, e2, hrd, hh2']
  generalize hA : appendAV h2 0 0 _ _ _ (fr2 3) _ = A
  have hA' : appendAV (h2 ++ []) 0 0 h2.length 9 1 (fr2 3) (strs p.mutexes) = A := by rw [List.append_nil]; exact hA
  obtain ⟨b3, v3, h3, rfl, o3, hk3, hl3, hp3, -⟩ := Own.grown (k := 1) hA' ho2 hb2 hh2 (by simp) (by simp [most]; omega) (by simp [strs])
  have hl3' : h2.length ≤ h3.length := by simpa using hl3
  have h30 := (hp3 0 (by omega) (by omega)).trans h20
  have o3' : Own h3 9 1 b3 v3 (strs (sharedS p)) := by
    rw [hshared]
    simpa [strs] using o3
  simp
  obtain ⟨b4, hb4, o4⟩ : ∃ b4, b4 < h3.length ∧ Own h3 9 1 b4 v3 (strs (sharedS p)) := by
    rcases o3' with ⟨q1, q2⟩ | ⟨q1, q2⟩
    · exact ⟨0, by omega, .inl ⟨q1, q2⟩⟩
    · exact ⟨b3, lt_of_live q2, .inr ⟨q1, q2⟩⟩
  refine sat_then (sat_blk ((aloneR3 _ _ _ p.threads f4 (sharedS p) (by rw [hshared]; simp; omega) (fun t ht => f5 t ht) ns hns r hr _ v3 _ h3 (b4 + 1) b4 (by simp) (by simp [h21]) (by simp) h30 o4 hb4 (by simp [h24, strs]; exact Own.emp _ _ _ _) (by omega)).mono ?_))
  rintro o fr4 h4' (⟨rfl, h42, rfl⟩ | ⟨rfl, rfl, h43, o6, b5, o5⟩)
  · simp [h42]
  · have ht1 := crTwiceOwn o6 (by rw [hshared]; show (gs ++ ars ++ p.mutexes).length < 9223372036854775808; simp; omega)
    have ht := crTwiceOwn o5 (by show ns.length < 9223372036854775808; omega)
    rw [hts rfl] at ht1
    simp [h43, ht, ht1]
theorem crAlone (p : Prg') (hp : okP p) (hf : fitsOk p = true) (h0 : 0 < p.threads.length) (lo base tgt : Nat) (h : Heap) : callW prg 19 lo base tgt [encP p] h = some (.bool (aloneOk p), h) := Val.c1 (rAlone p hp hf h0) (plainP p) _ _ _ _
end Go.Abs.T

/- What the reference's functions of chapter 7 answer, part 11: shape. -/
set_option maxRecDepth 100000
set_option linter.unusedSimpArgs false
set_option linter.unusedVariables false
namespace Go.Abs.T
open Go.Proofs.YtnpfhbhhbdegfaaDoor

theorem shape1 (a2 a3 a4 : AV) (l : List Glob) (hb : l.length < big) (hn : ∀ g ∈ l, g.name.length < big) (ty : Nat) (r : Bool) (hr : (l.all fun g => nameS g.name && fits32 g.init) = r) (fr : Frame) (h1 : fr 1 = .ptr 0 1 0 0) (h3 : fr 3 = I 0) :
    Sat (itW (exec (ctxW prg) 0 0 gl18_1) fr [.live ⟨ty, 4, false, [.agg [mkRo 2 (l.map encG), a2, a3, a4]]⟩]) fun o fr' h' => (r = true ∧ o = .exit 0 ∧ h' = [.live ⟨ty, 4, false, [.agg [mkRo 2 (l.map encG), a2, a3, a4]]⟩] ∧ fr' 1 = .ptr 0 1 0 0) ∨ (r = false ∧ o = .ret ∧ fr' 2 = .bool false) := by
  refine (scanB (l := l) (p := fun g => nameS g.name && fits32 g.init) (ex := 0) (fun i fr h => h = [.live ⟨ty, 4, false, [.agg [mkRo 2 (l.map encG), a2, a3, a4]]⟩] ∧ fr 1 = .ptr 0 1 0 0 ∧ fr 3 = I i) (fun fr h => fr 2 = .bool false) ?_ ?_ ⟨rfl, h1, h3⟩).mono ?_
  · rintro fr h ⟨rfl, h1, h3⟩
    simp [gl18_1, h1, h3]
  · rintro i x fr h hx hil ⟨rfl, h1, h3⟩
    have ha := iaddrS (f := encG) (sz := 2) hx
    have hw := wrapS hil hb
    have hlt := ltS hil
    simp only [encG] at ha
    have c1 := crName x.name (hn x (List.mem_of_getElem? hx))
    have c2 := crFits x.init
    generalize nameS x.name = b1 at *
    generalize fits32 x.init = b2 at *
    cases b1
    · simp [gl18_1, h1, h3, ha, hlt, c1]
    · cases b2 <;> simp [gl18_1, h1, h3, ha, hlt, c1, c2, hw]
  · rintro o fr h (⟨h1, rfl, h2, h3, -⟩ | ⟨h1, rfl, h2⟩)
    · exact .inl ⟨hr.symm.trans h1, rfl, h2, h3⟩
    · exact .inr ⟨hr.symm.trans h1, rfl, h2⟩
theorem shape2 (a1 a3 a4 : AV) (l : List Arr) (hb : l.length < big) (hn : ∀ g ∈ l, g.name.length < big) (ty : Nat) (r : Bool) (hr : (l.all fun a => nameS a.name && (decide (1 ≤ a.size) && decide (a.size ≤ 16))) = r) (fr : Frame) (h1 : fr 1 = .ptr 0 1 0 0) (h3 : fr 4 = I 0) :
    Sat (itW (exec (ctxW prg) 0 0 gl18_2) fr [.live ⟨ty, 4, false, [.agg [a1, mkRo 2 (l.map encA), a3, a4]]⟩]) fun o fr' h' => (r = true ∧ o = .exit 2 ∧ h' = [.live ⟨ty, 4, false, [.agg [a1, mkRo 2 (l.map encA), a3, a4]]⟩] ∧ fr' 1 = .ptr 0 1 0 0) ∨ (r = false ∧ o = .ret ∧ fr' 2 = .bool false) := by
  refine (scanB (l := l) (p := fun a => nameS a.name && (decide (1 ≤ a.size) && decide (a.size ≤ 16))) (ex := 2) (fun i fr h => h = [.live ⟨ty, 4, false, [.agg [a1, mkRo 2 (l.map encA), a3, a4]]⟩] ∧ fr 1 = .ptr 0 1 0 0 ∧ fr 4 = I i) (fun fr h => fr 2 = .bool false) ?_ ?_ ⟨rfl, h1, h3⟩).mono ?_
  · rintro fr h ⟨rfl, h1, h3⟩
    simp [gl18_2, h1, h3]
  · rintro i x fr h hx hil ⟨rfl, h1, h3⟩
    have ha := iaddrS (f := encA) (sz := 2) hx
    have hw := wrapS hil hb
    have hlt := ltS hil
    simp only [encA] at ha
    have c1 := crName x.name (hn x (List.mem_of_getElem? hx))
    generalize nameS x.name = b1 at *
    cases b1
    · simp [gl18_2, h1, h3, ha, hlt, c1]
    · by_cases s1 : x.size < 1
      · have s1' : ¬ 1 ≤ x.size := by omega
        simp [gl18_2, h1, h3, ha, hlt, c1, s1, s1']
      · have s1' : 1 ≤ x.size := by omega
        by_cases s2 : 16 < x.size
        · have s2' : ¬ x.size ≤ 16 := by omega
          simp [gl18_2, h1, h3, ha, hlt, c1, s1, s1', s2, s2']
        · have s2' : x.size ≤ 16 := by omega
          simp [gl18_2, h1, h3, ha, hlt, c1, s1, s1', s2, s2', hw]
  · rintro o fr h (⟨h1, rfl, h2, h3, -⟩ | ⟨h1, rfl, h2⟩)
    · exact .inl ⟨hr.symm.trans h1, rfl, h2, h3⟩
    · exact .inr ⟨hr.symm.trans h1, rfl, h2⟩
theorem shape3 (a1 a2 a4 : AV) (l : List Str) (hb : l.length < big) (hn : ∀ g ∈ l, g.length < big) (ty : Nat) (r : Bool) (hr : l.all nameS = r) (fr : Frame) (h1 : fr 1 = .ptr 0 1 0 0) (h3 : fr 5 = I 0) :
    Sat (itW (exec (ctxW prg) 0 0 gl18_3) fr [.live ⟨ty, 4, false, [.agg [a1, a2, encStrs l, a4]]⟩]) fun o fr' h' => (r = true ∧ o = .exit 4 ∧ h' = [.live ⟨ty, 4, false, [.agg [a1, a2, encStrs l, a4]]⟩] ∧ fr' 1 = .ptr 0 1 0 0) ∨ (r = false ∧ o = .ret ∧ fr' 2 = .bool false) := by
  have hl : slLen (encStrs l) = some l.length := by simp [encStrs]
  refine (scanB (l := l) (p := nameS) (ex := 4) (fun i fr h => h = [.live ⟨ty, 4, false, [.agg [a1, a2, encStrs l, a4]]⟩] ∧ fr 1 = .ptr 0 1 0 0 ∧ fr 5 = I i) (fun fr h => fr 2 = .bool false) ?_ ?_ ⟨rfl, h1, h3⟩).mono ?_
  · rintro fr h ⟨rfl, h1, h3⟩
    simp [gl18_3, h1, h3, hl]
  · rintro i x fr h hx hil ⟨rfl, h1, h3⟩
    have ha : iaddrAV 1 (encStrs l) (.int .i64 (i : Int)) = some (.rp 1 (.str x) 0) := iaddrS (f := AV.str) (sz := 1) hx
    have hw := wrapS hil hb
    have hlt := ltS hil
    have c1 := crName x (hn x (List.mem_of_getElem? hx))
    cases hp : nameS x <;> rw [hp] at c1 <;> simp [gl18_3, h1, h3, hl, ha, hlt, c1, hw]
  · rintro o fr h (⟨h1, rfl, h2, h3, -⟩ | ⟨h1, rfl, h2⟩)
    · exact .inl ⟨hr.symm.trans h1, rfl, h2, h3⟩
    · exact .inr ⟨hr.symm.trans h1, rfl, h2⟩
/-- The inner loop: a thread's locals. -/
theorem shape5 (l : List Str) (b1 b3 : AV) (hb : l.length < big) (hn : ∀ g ∈ l, g.length < big) (h : Heap) (b ty : Nat) (r : Bool) (hr : l.all nameS = r) (fr : Frame) (h7 : fr 7 = .ptr b 1 0 0) (h8 : fr 8 = I 0) (v1 v6 : AV) (h1 : fr 1 = v1) (h6 : fr 6 = v6) (hx : h[b]? = some (.live ⟨ty, 3, false, [.agg [b1, encStrs l, b3]]⟩)) :
    Sat (itW (exec (ctxW prg) 0 0 gl18_5) fr h) fun o fr' h' => (r = true ∧ o = .exit 8 ∧ h' = h ∧ fr' 1 = v1 ∧ fr' 6 = v6) ∨ (r = false ∧ o = .ret ∧ fr' 2 = .bool false) := by
  have hl : slLen (encStrs l) = some l.length := by simp [encStrs]
  have hbl := lt_of_live hx
  have ex := hx
  rw [List.getElem?_eq_getElem hbl, Option.some.injEq] at ex
  refine (scanB (l := l) (p := nameS) (ex := 8) (fun i fr h' => h' = h ∧ fr 7 = .ptr b 1 0 0 ∧ fr 1 = v1 ∧ fr 6 = v6 ∧ fr 8 = I i) (fun fr h => fr 2 = .bool false) ?_ ?_ ⟨rfl, h7, h1, h6, h8⟩).mono ?_
  · rintro fr h' ⟨rfl, h7, h1, h6, h8⟩
    simp [gl18_5, h7, h8, hl, hx, hbl, ex, h1, h6]
  · rintro i x fr h' hxx hil ⟨rfl, h7, h1, h6, h8⟩
    have ha : iaddrAV 1 (encStrs l) (.int .i64 (i : Int)) = some (.rp 1 (.str x) 0) := iaddrS (f := AV.str) (sz := 1) hxx
    have hw := wrapS hil hb
    have hlt := ltS hil
    have c1 := crName x (hn x (List.mem_of_getElem? hxx))
    cases hp : nameS x <;> rw [hp] at c1 <;> simp [gl18_5, h7, h8, hl, hx, hbl, ex, h1, h6, ha, hlt, c1, hw]
  · rintro o fr h (⟨h1, rfl, h2, h3, h4, h5, -⟩ | ⟨h1, rfl, h2⟩)
    · exact .inl ⟨hr.symm.trans h1, rfl, h2, h4, h5⟩
    · exact .inr ⟨hr.symm.trans h1, rfl, h2⟩
theorem shape4 (a1 a2 a3 : AV) (l : List Thr) (hb : l.length < big) (hn : ∀ t ∈ l, okT t) (ty : Nat) (r : Bool) (hr : (l.all fun t => nameS t.name && t.locals.all nameS && stmtsOk t.body) = r) (fr : Frame) (h1 : fr 1 = .ptr 0 1 0 0) (h6 : fr 6 = I 0) :
    Sat (itW (exec (ctxW prg) 0 0 gl18_4) fr [.live ⟨ty, 4, false, [.agg [a1, a2, a3, mkRo 3 (l.map encT)]]⟩]) fun o fr' h' => (r = true ∧ o = .exit 6 ∧ (∃ g, h' = .live ⟨ty, 4, false, [.agg [a1, a2, a3, mkRo 3 (l.map encT)]]⟩ :: g) ∧ fr' 1 = .ptr 0 1 0 0) ∨ (r = false ∧ o = .ret ∧ fr' 2 = .bool false) := by
  refine (scanB (l := l) (p := fun t => nameS t.name && t.locals.all nameS && stmtsOk t.body) (ex := 6) (fun i fr h => (∃ g, h = .live ⟨ty, 4, false, [.agg [a1, a2, a3, mkRo 3 (l.map encT)]]⟩ :: g) ∧ fr 1 = .ptr 0 1 0 0 ∧ fr 6 = I i) (fun fr h => fr 2 = .bool false) ?_ ?_ ⟨⟨[], rfl⟩, h1, h6⟩).mono ?_
  · rintro fr h ⟨⟨g, rfl⟩, h1, h6⟩
    simp [gl18_4, h1, h6]
  · rintro i x fr h hx hil ⟨⟨g, rfl⟩, h1, h6⟩
    have ha := iaddrS (f := encT) (sz := 3) hx
    have hw := wrapS hil hb
    have hlt := ltS hil
    simp only [encT] at ha
    have hxo := hn x (List.mem_of_getElem? hx)
    have c1 := crName x.name hxo.name
    have c2 := crStmts x.body hxo.body hxo.stmts
    rw [← stmtsOk_eq] at c2
    have hrd : ∀ H : Heap, readSl H 3 (AV.agg [AV.str x.name, encStrs x.locals, mkRo 18 (List.map encS x.body)]) = readSl H 3 (AV.agg [AV.str x.name, encStrs x.locals, mkRo 18 (List.map encS x.body)]) := fun _ => rfl
    generalize nameS x.name = q1 at *
    generalize stmtsOk x.body = q2 at *
    cases q1
    · simp [gl18_4, h1, h6, ha, hlt, c1]
    · cases q2
      · simp [gl18_4, h1, h6, ha, hlt, c1, c2]
      · have hl5 := fun h b ty fr h7 h8 h1 h6 hx => shape5 x.locals (.str x.name) (mkRo 18 (x.body.map encS)) hxo.locals hxo.locn h b ty (x.locals.all nameS) rfl fr h7 h8 (.ptr 0 1 0 0) (I i) h1 h6 hx
        generalize x.locals.all nameS = q3 at *
        simp [gl18_4, h1, h6, ha, hlt, c1, c2]
        refine sat_then (sat_blk (sat_blk ((hl5 _ _ _ _ (by simp; rfl) (by simp) (by simp [h1]) (by simp [h6]) (by simp; rfl)).mono ?_)))
        rintro o fr h (⟨rfl, rfl, rfl, h1, h6⟩ | ⟨rfl, rfl, h2⟩)
        · simp [h1, h6, hw]
        · simp [h2]
  · rintro o fr h (⟨h1, rfl, h2, h3, -⟩ | ⟨h1, rfl, h2⟩)
    · exact .inl ⟨hr.symm.trans h1, rfl, h2, h3⟩
    · exact .inr ⟨hr.symm.trans h1, rfl, h2⟩
end Go.Abs.T

/- What the reference's functions of chapter 7 answer, part 12: Check. -/
set_option maxRecDepth 100000
set_option linter.unusedSimpArgs false
set_option linter.unusedVariables false
namespace Go.Abs.T
open Go.Proofs.YtnpfhbhhbdegfaaDoor

theorem rShape (p : Prg') (hp : okP p) : Val prg 18 [encP p] (.bool (formOk p)) := by
  refine Val.of_sat (fn := gc18) rfl rfl rfl ?_
  unfold formOk
  generalize hr1 : (p.globals.all fun g => nameS g.name && fits32 g.init) = r1
  generalize hr2 : (p.arrays.all fun a => nameS a.name && (decide (1 ≤ a.size) && decide (a.size ≤ 16))) = r2
  generalize hr3 : p.mutexes.all nameS = r3
  generalize hr4 : (p.threads.all fun t => nameS t.name && t.locals.all nameS && stmtsOk t.body) = r4
  simp [gc18, encP]
  refine sat_then (sat_blk ((shape1 _ _ _ p.globals hp.globals hp.globn _ r1 hr1 _ (by simp) (by simp)).mono ?_))
  rintro o fr h (⟨rfl, rfl, rfl, h1⟩ | ⟨rfl, rfl, h2⟩)
  · simp
    refine sat_then (sat_blk ((shape2 _ _ _ p.arrays hp.arrays hp.arrn _ r2 hr2 _ (by simp [h1]) (by simp)).mono ?_))
    rintro o fr h (⟨rfl, rfl, rfl, h1⟩ | ⟨rfl, rfl, h2⟩)
    · simp
      refine sat_then (sat_blk ((shape3 _ _ _ p.mutexes hp.mutexes hp.mutn _ r3 hr3 _ (by simp [h1]) (by simp)).mono ?_))
      rintro o fr h (⟨rfl, rfl, rfl, h1⟩ | ⟨rfl, rfl, h2⟩)
      · simp
        refine sat_then (sat_blk ((shape4 _ _ _ p.threads hp.threads hp.thr _ r4 hr4 _ (by simp [h1]) (by simp)).mono ?_))
        rintro o fr h (⟨rfl, rfl, ⟨g, rfl⟩, h1⟩ | ⟨rfl, rfl, h2⟩)
        · simp [h1]
        · simp [h2]
      · simp [h2]
    · simp [h2]
  · simp [h2]
theorem crShape (p : Prg') (hp : okP p) (lo base tgt : Nat) (h : Heap) : callW prg 18 lo base tgt [encP p] h = some (.bool (formOk p), h) := Val.c1 (rShape p hp) (plainP p) _ _ _ _

theorem check1 (a1 a2 a3 : AV) (l : List Thr) (hb : l.length < big) (ty : Nat) (fr : Frame) (b0 : Bool) (h1 : fr 1 = .ptr 0 1 0 0) (h4 : fr 4 = I 0) (h3 : fr 3 = .bool b0) :
    Sat (itW (exec (ctxW prg) 0 0 gl9_1) fr [.live ⟨ty, 4, false, [.agg [a1, a2, a3, mkRo 3 (l.map encT)]]⟩]) fun o fr' h' => o = .exit 0 ∧ fr' 1 = .ptr 0 1 0 0 ∧ fr' 3 = .bool (b0 || !(l.all fun t => decide (t.locals.length ≤ 6))) ∧ h' = [.live ⟨ty, 4, false, [.agg [a1, a2, a3, mkRo 3 (l.map encT)]]⟩] := by
  refine (fold (l := l) (ex := 0) (fun i fr h => h = [.live ⟨ty, 4, false, [.agg [a1, a2, a3, mkRo 3 (l.map encT)]]⟩] ∧ fr 1 = .ptr 0 1 0 0 ∧ fr 4 = I i ∧ fr 3 = .bool (b0 || !((l.take i).all fun t => decide (t.locals.length ≤ 6)))) ?_ ?_ ⟨rfl, h1, h4, by simpa using h3⟩).mono ?_
  · rintro fr h ⟨rfl, h1, h4, h3⟩
    simp [gl9_1, h1, h4]
    rw [h3]
    simp
  · rintro i x fr h hx hil ⟨rfl, h1, h4, h3⟩
    have ha := iaddrS (f := encT) (sz := 3) hx
    have hw := wrapS hil hb
    have hlt := ltS hil
    have hl : slLen (encStrs x.locals) = some x.locals.length := by simp [encStrs]
    simp only [encT] at ha
    have htake : (l.take (i + 1)).all (fun t => decide (t.locals.length ≤ 6)) = ((l.take i).all (fun t => decide (t.locals.length ≤ 6)) && decide (x.locals.length ≤ 6)) := by
      rw [List.take_add_one, hx]; simp
    rw [htake]
    generalize (l.take i).all (fun t => decide (t.locals.length ≤ 6)) = q at *
    have h3' : fr 3 = .bool (b0 || !q) := h3
    by_cases a1 : x.locals.length ≤ 6
    · have a1' : ¬ (6 : Int) < x.locals.length := by omega
      cases hq : (b0 || !q)
      · rw [hq] at h3'
        simp [gl9_1, h1, h4, h3', ha, hlt, hl, a1, a1', hw]
        simpa using hq
      · rw [hq] at h3'
        simp [gl9_1, h1, h4, h3', ha, hlt, hl, a1, a1', hw]
        simpa using hq
    · have a1' : (6 : Int) < x.locals.length := by omega
      cases hq : (b0 || !q)
      · rw [hq] at h3'
        simp [gl9_1, h1, h4, h3', ha, hlt, hl, a1, a1', hw]
      · rw [hq] at h3'
        simp [gl9_1, h1, h4, h3', ha, hlt, hl, a1, a1', hw]
  · rintro o fr h ⟨rfl, rfl, h1, h4, h3⟩
    rw [List.take_length] at h3
    exact ⟨rfl, h1, h3, rfl⟩
theorem check2 (p : Prg') (hp : okP p) (ty : Nat) (r : Bool) (hr : (p.threads.all fun t => stmtsUse p t t.body) = r) (fr : Frame) (h1 : fr 1 = .ptr 0 1 0 0) (h5 : fr 5 = I 0) :
    Sat (itW (exec (ctxW prg) 0 0 gl9_2) fr [.live ⟨ty, 4, false, [encP p]⟩]) fun o fr' h' => (r = true ∧ o = .exit 3) ∨ (r = false ∧ o = .ret ∧ fr' 2 = I 6) := by
  refine (scanB (l := p.threads) (p := fun t => stmtsUse p t t.body) (ex := 3) (fun i fr h => h = [.live ⟨ty, 4, false, [encP p]⟩] ∧ fr 1 = .ptr 0 1 0 0 ∧ fr 5 = I i) (fun fr h => fr 2 = I 6) ?_ ?_ ⟨rfl, h1, h5⟩).mono ?_
  · rintro fr h ⟨rfl, h1, h5⟩
    simp [gl9_2, h1, h5, encP]
  · rintro i x fr h hx hil ⟨rfl, h1, h5⟩
    have ha := iaddrS (f := encT) (sz := 3) hx
    have hw := wrapS hil hp.threads
    have hlt := ltS hil
    have hxo := hp.thr x (List.mem_of_getElem? hx)
    have c1 := crUses p x hp hxo x.body hxo.body hxo.stmts
    rw [← stmtsUse_eq] at c1
    generalize stmtsUse p x x.body = q at *
    simp only [encP, encT] at ha c1 ⊢
    cases q <;> simp [gl9_2, h1, h5, ha, hlt, c1, hw, trim]
  · rintro o fr h (⟨h1, rfl, -⟩ | ⟨h1, rfl, h2⟩)
    · exact .inl ⟨hr.symm.trans h1, rfl⟩
    · exact .inr ⟨hr.symm.trans h1, rfl, h2⟩
def restOf : ACode → ACode
  | .seq _ b => b
  | c => c
theorem rCheck (p : Prg') (hp : okP p) : Val prg 9 [encP p] (I (checkS p)) := by
  have c2 := crShape p hp
  have c3 := crAlone p hp
  have l2 := fun ty fr h1 h5 => check2 p hp ty _ rfl fr h1 h5
  refine Val.of_sat (fn := gc9) rfl rfl rfl ?_
  have l1 := fun ty fr b0 h1 h4 h3 => check1 (mkRo 2 (p.globals.map encG)) (mkRo 2 (p.arrays.map encA)) (encStrs p.mutexes) p.threads hp.threads ty fr b0 h1 h4 h3
  unfold checkS
  have hform : formOk p = true → 0 < p.threads.length := by
    intro h
    simp only [formOk, Bool.and_eq_true, decide_eq_true_eq] at h
    exact h.1.1.1.1
  have hl : slLen (encStrs p.mutexes) = some p.mutexes.length := by simp [encStrs]
  have hfin : ∀ (ty : Nat) (fr : Frame) (b0 : Bool), fitsOk p = (!b0 && p.threads.all fun t => decide (t.locals.length ≤ 6)) → fr 1 = .ptr 0 1 0 0 → fr 4 = I 0 → fr 3 = .bool b0 → Sat (andThen (inBlk 0 (itW (exec (ctxW prg) 0 0 gl9_1) fr [.live ⟨ty, 4, false, [.agg [mkRo 2 (p.globals.map encG), mkRo 2 (p.arrays.map encA), encStrs p.mutexes, mkRo 3 (p.threads.map encT)]]⟩])) (exec (ctxW prg) 0 0 (restOf (restOf (restOf gc9.code))))) fun o fr hp => (o = .normal ∨ o = .ret) ∧ ∃ a, embed hp 0 0 8 (fr 2) = some a ∧ a.canon = I (if fitsOk p = false then 4 else if formOk p = false then 2 else if aloneOk p = false then 5 else if (p.threads.all fun t => stmtsUse p t t.body) = false then 6 else 0) := by
    intro ty fr b0 hfit h1 h4 h3
    have hA : fitsOk p = true → 0 < p.threads.length → ∀ lo base tgt h, callW prg 19 lo base tgt [encP p] h = some (.bool (aloneOk p), h) := fun a b lo base tgt h => c3 a b lo base tgt h
    refine sat_then (sat_blk ((l1 ty fr b0 h1 h4 h3).mono ?_))
    rintro o fr h ⟨rfl, h1, h3, rfl⟩
    have h3' : fr 3 = .bool (!fitsOk p) := by rw [h3, hfit]; cases b0 <;> simp
    clear h3 hfit c3
    cases hfi : fitsOk p
    · rw [hfi] at h3'
      simp [restOf, gc9, h1, h3']
    · rw [hfi] at h3'
      cases hfo : formOk p
      · rw [hfo] at c2
        simp only [encP] at c2
        simp [restOf, gc9, h1, h3', c2]
      · rw [hfo] at c2
        have c3 := hA hfi (hform hfo)
        cases hal : aloneOk p
        · rw [hal] at c3
          simp only [encP] at c2 c3
          simp [restOf, gc9, h1, h3', c2, c3]
        · rw [hal] at c3
          generalize (p.threads.all fun t => stmtsUse p t t.body) = bu at *
          simp only [encP] at c2 c3 l2
          simp [restOf, gc9, h1, h3', c2, c3]
          refine sat_then (sat_blk ((l2 _ _ (by simp [h1]) (by simp)).mono ?_))
          rintro o fr h (⟨rfl, rfl⟩ | ⟨rfl, rfl, h2⟩)
          · simp
          · simp [h2]
  have hfit : fitsOk p = ((decide (p.globals.length ≤ 6) && decide (p.arrays.length ≤ 3) && decide (p.mutexes.length ≤ 6) && decide (p.threads.length ≤ 4)) && p.threads.all fun t => decide (t.locals.length ≤ 6)) := rfl
  generalize (if fitsOk p = false then (4 : Int) else if formOk p = false then 2 else if aloneOk p = false then 5 else if (p.threads.all fun t => stmtsUse p t t.body) = false then 6 else 0) = ans at *
  by_cases s1 : p.globals.length ≤ 6
  · have s1' : ¬ (6 : Int) < p.globals.length := by omega
    by_cases s2 : p.arrays.length ≤ 3
    · have s2' : ¬ (3 : Int) < p.arrays.length := by omega
      by_cases s3 : p.mutexes.length ≤ 6
      · have s3' : ¬ (6 : Int) < p.mutexes.length := by omega
        by_cases s4 : p.threads.length ≤ 4
        · have s4' : ¬ (4 : Int) < p.threads.length := by omega
          simp [gc9, encP, hl, s1', s2', s3', s4']
          exact hfin _ _ false (by rw [hfit]; simp [s1, s2, s3, s4]) (by simp) (by simp) (by simp)
        · have s4' : (4 : Int) < p.threads.length := by omega
          simp [gc9, encP, hl, s1', s2', s3', s4']
          exact hfin _ _ true (by rw [hfit]; simp [s4]) (by simp) (by simp) (by simp)
      · have s3' : (6 : Int) < p.mutexes.length := by omega
        simp [gc9, encP, hl, s1', s2', s3']
        exact hfin _ _ true (by rw [hfit]; simp [s3]) (by simp) (by simp) (by simp)
    · have s2' : (3 : Int) < p.arrays.length := by omega
      simp [gc9, encP, hl, s1', s2']
      exact hfin _ _ true (by rw [hfit]; simp [s2]) (by simp) (by simp) (by simp)
  · have s1' : (6 : Int) < p.globals.length := by omega
    simp [gc9, encP, hl, s1']
    exact hfin _ _ true (by rw [hfit]; simp [s1]) (by simp) (by simp) (by simp)
theorem crCheck (p : Prg') (hp : okP p) (lo base tgt : Nat) (h : Heap) : callW prg 9 lo base tgt [encP p] h = some (I (checkS p), h) := Val.c1 (rCheck p hp) (plainP p) _ _ _ _
end Go.Abs.T
