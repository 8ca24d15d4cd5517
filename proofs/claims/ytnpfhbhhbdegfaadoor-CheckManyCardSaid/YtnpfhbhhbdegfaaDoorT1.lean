/- What the program's functions of package check answer, part 1. -/
import Derived.Test.YtnpfhbhhbdegfaaDoorL0
import Derived.Test.YtnpfhbhhbdegfaaDoorE7
set_option maxRecDepth 100000
set_option linter.unusedSimpArgs false
set_option linter.unusedVariables false
namespace Go.Abs.T
open Go.Proofs.YtnpfhbhhbdegfaaDoor

theorem Val.c {Q : Prg} {f : Nat} {xs : List AV} {r : AV} (hv : Val Q f xs r) (h1 : AV.closedL xs = true) (h2 : xs.map AV.canon = xs) : ∀ lo base tgt h, callW Q f lo base tgt xs h = some (r, h) := fun _ _ _ _ => hv.call h1 h2
theorem Val.c1 {Q : Prg} {f : Nat} {a : AV} {r : AV} (hv : Val Q f [a] r) (h : Plain a) : ∀ lo base tgt h, callW Q f lo base tgt [a] h = some (r, h) := fun _ _ _ _ => hv.call (by simp [h.cl]) (by simp [h.can])
theorem Val.c2 {Q : Prg} {f : Nat} {a b : AV} {r : AV} (hv : Val Q f [a, b] r) (h : Plain a) (h' : Plain b) : ∀ lo base tgt h, callW Q f lo base tgt [a, b] h = some (r, h) := fun _ _ _ _ => hv.call (by simp [h.cl, h'.cl]) (by simp [h.can, h'.can])
theorem plainStr (s : Str) : Plain (.str s) := ⟨rfl, rfl⟩
theorem plainF (f : Nat) : Plain (.fn f [] []) := ⟨rfl, rfl⟩

/-! ### Numbers, names -/
theorem vIsIn (n a b : Int) : Val prg 29 [I n, I a, I b] (.bool (decide (a ≤ n) && decide (n ≤ b))) := by
  refine Val.of_sat (fn := gc29) rfl rfl rfl ?_
  by_cases h1 : a ≤ n
  · simp [gc29, h1]
  · simp [gc29, h1]
@[simp] theorem cIsIn (n a b : Int) (lo base tgt : Nat) (h : Heap) : callW prg 29 lo base tgt [I n, I a, I b] h = some (.bool (decide (a ≤ n) && decide (n ≤ b)), h) := (vIsIn n a b).call (by simp) (by simp)

theorem fitsLoop (l : List Int) (hb : l.length < big) (r : Bool) (hr : l.all fits32 = r) : ∀ (m i : Nat) (fr : Frame), i + m = l.length → fr 5 = mkRo 1 (l.map I) → fr 6 = I l.length → fr 7 = I i → (∀ j, j < i → ∀ n, l[j]? = some n → fits32 n = true) →
    Sat (itW (exec (ctxW prg) 0 0 gl26_1) fr []) fun o fr' h' => h' = [] ∧ ((o = .ret ∧ fr' 2 = .bool false ∧ r = false) ∨ (o = .exit 0 ∧ r = true)) := by
  intro m
  induction m with
  | zero =>
    intro i fr hi h5 h6 h7 hn
    refine sat_it ?_
    have hlt : ¬ ((i : Int) < (l.length : Int)) := by omega
    simp [gl26_1, h6, h7, hlt]
    rw [← hr, List.all_eq_true]
    intro x hx
    obtain ⟨j, hj⟩ := List.getElem?_of_mem hx
    exact hn j (by have := (List.getElem?_eq_some_iff.1 hj).1; omega) x hj
  | succ m ih =>
    intro i fr hi h5 h6 h7 hn
    refine sat_it ?_
    have hlt : ((i : Int) < (l.length : Int)) := by omega
    obtain ⟨x, hx⟩ : ∃ x, l[i]? = some x := ⟨_, List.getElem?_eq_getElem (by omega)⟩
    have ha := iaddr_mkRo (sz := 1) .i64 (i := (i : Int)) (xs := l.map I) rfl (by rw [List.getElem?_map, hx]; rfl)
    have hw : IntKind.wrap .i64 ((i : Int) + 1) = ((i + 1 : Nat) : Int) := by rw [wrap64 (by omega) (by have : l.length < 4611686018427387904 := hb; omega)]; omega
    have hmem := List.mem_of_getElem? hx
    by_cases h1 : x < -2147483648
    · have hf : fits32 x = false := by simp [fits32]; omega
      simp [gl26_1, h5, h6, h7, hlt, ha, h1]
      rw [← hr]
      exact List.all_eq_false.2 ⟨x, hmem, by simp [hf]⟩
    · by_cases h2 : 2147483647 < x
      · have hf : fits32 x = false := by simp [fits32]; omega
        simp [gl26_1, h5, h6, h7, hlt, ha, h1, h2]
        rw [← hr]
        exact List.all_eq_false.2 ⟨x, hmem, by simp [hf]⟩
      · have hf : fits32 x = true := by simp [fits32]; omega
        simp [gl26_1, h5, h6, h7, hlt, ha, h1, h2, hw]
        refine ih (i + 1) _ (by omega) (by simp [h5]) (by simp [h6]) (by simp) fun j hj y hy => ?_
        by_cases hji : j < i
        · exact hn j hji y hy
        · obtain rfl : j = i := by omega
          rw [hx] at hy
          cases hy
          exact hf
theorem vFits (l : List Int) (hb : l.length < big) : Val prg 26 [mkRo 1 (l.map I)] (.bool (l.all fits32)) := by
  refine Val.of_sat (fn := gc26) rfl rfl rfl ?_
  generalize hr : l.all fits32 = r
  simp [gc26]
  refine sat_then (sat_blk ((fitsLoop l hb r hr l.length 0 _ (by omega) (by simp) (by simp) (by simp) (by omega)).mono ?_))
  rintro o fr h ⟨rfl, ⟨rfl, h2, h3⟩ | ⟨rfl, h3⟩⟩
  · simp [h2, h3]
  · simp [h3]

theorem vMk : Val prg 80 [.str sLD] (.tup [.agg tabLD, .bool true]) := Val.of_run (k := 60) (fn := gc80) (g := fun _ => true) rfl rfl rfl (by kernel_rfl)
theorem vName (s : Str) : Val prg 25 [.str s] (.bool (nameS s)) :=
  name_ok (ib := 57) (tr := 58) ⟨rfl, rfl, rfl⟩ (fun c => ib_ok (g := 77) (x := 91) ⟨rfl, rfl, rfl⟩ ⟨rfl, rfl, rfl⟩ rfl _ c)
    (fun s h1 h2 => trim_ok (mk := 80) (tl := 81) (tr := 82) (tlb := 78) (trb := 79) (tlu := 83) (tru := 84) (ct := 92) ⟨rfl, rfl, rfl⟩ ⟨rfl, rfl, rfl⟩ ⟨rfl, rfl, rfl⟩ ⟨rfl, rfl, rfl⟩ vMk s h1 h2) s
@[simp] theorem cName (s : Str) (lo base tgt : Nat) (h : Heap) : callW prg 25 lo base tgt [.str s] h = some (.bool (nameS s), h) := (vName s).call (by simp) (by simp)

theorem vNot54 (s : Str) : Val prg 54 [.str s] (.bool (!nameS s)) := by
  refine Val.of_sat (fn := gc54) rfl rfl rfl ?_
  simp [gc54]
theorem vNames (l : List Str) (hb : l.length < big) : Val prg 22 [encStrs l] (.bool (l.all nameS)) := by
  have hp : Pred prg (.fn 54 [] []) (l.map .str) (l.map fun s => !nameS s) := Pred.map (by simp) (by simp) fun s _ lo base tgt h => by
    rw [callAV_fn]
    exact (vNot54 s).call (by simp) (by simp)
  have hv := cf_ok (f := 53) (ix := 75) (agg := false) (n := 1) rfl rfl rfl rfl rfl rfl hp (fun e he => by
    obtain ⟨s, _, rfl⟩ := List.mem_map.1 he
    exact Elem.one rfl) (by simpa using hb) (closedL_map (fun _ => rfl) _) (by simp)
  have hc := Val.c2 hv (plainStrs l) (plainF _)
  refine Val.of_sat (fn := gc22) rfl rfl rfl ?_
  have e : (!((l.map fun s => !nameS s).any id)) = l.all nameS := by rw [Bool.eq_iff_iff]; simp
  simp only [encStrs]
  simp only [gc22]
  simp [hc, -List.any_map]
  rw [← e, Bool.not_not]
theorem cNames (l : List Str) (hb : l.length < big) (lo base tgt : Nat) (h : Heap) : callW prg 22 lo base tgt [encStrs l] h = some (.bool (l.all nameS), h) := Val.c1 (vNames l hb) (plainStrs l) _ _ _ _

/-! ### 'all' -/
theorem elemE (e : Expr) : Elem true 5 (encE e) ∧ (encE e).cells.length = 5 := by obtain ⟨k, n, o, s, l⟩ := e; rw [encE_mk]; exact ⟨Elem.agg, rfl⟩
theorem elemC (c : Cond) : Elem true 4 (encC c) ∧ (encC c).cells.length = 4 := by obtain ⟨k, r, l, ks⟩ := c; rw [encC_mk]; exact ⟨Elem.agg, rfl⟩
theorem elemS (s : Stmt) : Elem true 18 (encS s) ∧ (encS s).cells.length = 18 := by
  obtain ⟨k, s, ⟨ik, ni, oi, si, li⟩, ⟨ek, ne, oe, se, le⟩, ⟨ck, cr, cl, cc⟩, b, l⟩ := s
  rw [encS_mk']
  exact ⟨Elem.agg, rfl⟩
theorem allE {F : AV} {l : List Expr} {q : Expr → Bool} (hF : Plain F) (h3 : F.isAgg = false) (h : ∀ x ∈ l, ∀ lo base tgt h, callAV (callW prg) lo base tgt F [encE x] h = some (.bool (q x), h)) (hb : l.length < big) :
    ∀ lo base tgt h, callW prg 67 lo base tgt [mkRo 5 (l.map encE), F] h = some (.bool (l.all q), h) :=
  Val.c2 (all_map (g := 87) (cf := 86) (ix := 96) ⟨rfl, rfl, rfl⟩ ⟨rfl, rfl, rfl⟩ ⟨rfl, rfl, rfl⟩ ⟨rfl, rfl, rfl⟩ hF.cl hF.can h3 h (fun x _ => elemE x) hb (plain_map fun x _ => plainE x).1 (plain_map fun x _ => plainE x).2) (plain_ro fun x _ => plainE x) hF
theorem allC {F : AV} {l : List Cond} {q : Cond → Bool} (hF : Plain F) (h3 : F.isAgg = false) (h : ∀ x ∈ l, ∀ lo base tgt h, callAV (callW prg) lo base tgt F [encC x] h = some (.bool (q x), h)) (hb : l.length < big) :
    ∀ lo base tgt h, callW prg 70 lo base tgt [mkRo 4 (l.map encC), F] h = some (.bool (l.all q), h) :=
  Val.c2 (all_map (g := 89) (cf := 88) (ix := 97) ⟨rfl, rfl, rfl⟩ ⟨rfl, rfl, rfl⟩ ⟨rfl, rfl, rfl⟩ ⟨rfl, rfl, rfl⟩ hF.cl hF.can h3 h (fun x _ => elemC x) hb (plain_map fun x _ => plainC x).1 (plain_map fun x _ => plainC x).2) (plain_ro fun x _ => plainC x) hF
theorem allS {F : AV} {l : List Stmt} {q : Stmt → Bool} (hF : Plain F) (h3 : F.isAgg = false) (h : ∀ x ∈ l, ∀ lo base tgt h, callAV (callW prg) lo base tgt F [encS x] h = some (.bool (q x), h)) (hb : l.length < big) :
    ∀ lo base tgt h, callW prg 15 lo base tgt [mkRo 18 (l.map encS), F] h = some (.bool (l.all q), h) :=
  Val.c2 (all_map (g := 37) (cf := 36) (ix := 64) ⟨rfl, rfl, rfl⟩ ⟨rfl, rfl, rfl⟩ ⟨rfl, rfl, rfl⟩ ⟨rfl, rfl, rfl⟩ hF.cl hF.can h3 h (fun x _ => elemS x) hb (plain_map fun x _ => plainS x).1 (plain_map fun x _ => plainS x).2) (plain_ro fun x _ => plainS x) hF
theorem allG {F : AV} {l : List Glob} {q : Glob → Bool} (hF : Plain F) (h3 : F.isAgg = false) (h : ∀ x ∈ l, ∀ lo base tgt h, callAV (callW prg) lo base tgt F [encG x] h = some (.bool (q x), h)) (hb : l.length < big) :
    ∀ lo base tgt h, callW prg 23 lo base tgt [mkRo 2 (l.map encG), F] h = some (.bool (l.all q), h) :=
  Val.c2 (all_map (g := 56) (cf := 55) (ix := 76) ⟨rfl, rfl, rfl⟩ ⟨rfl, rfl, rfl⟩ ⟨rfl, rfl, rfl⟩ ⟨rfl, rfl, rfl⟩ hF.cl hF.can h3 h (fun x _ => ⟨Elem.agg, rfl⟩) hb (plain_map fun x _ => plainG x).1 (plain_map fun x _ => plainG x).2) (plain_ro fun x _ => plainG x) hF
theorem allA {F : AV} {l : List Arr} {q : Arr → Bool} (hF : Plain F) (h3 : F.isAgg = false) (h : ∀ x ∈ l, ∀ lo base tgt h, callAV (callW prg) lo base tgt F [encA x] h = some (.bool (q x), h)) (hb : l.length < big) :
    ∀ lo base tgt h, callW prg 27 lo base tgt [mkRo 2 (l.map encA), F] h = some (.bool (l.all q), h) :=
  Val.c2 (all_map (g := 60) (cf := 59) (ix := 68) ⟨rfl, rfl, rfl⟩ ⟨rfl, rfl, rfl⟩ ⟨rfl, rfl, rfl⟩ ⟨rfl, rfl, rfl⟩ hF.cl hF.can h3 h (fun x _ => ⟨Elem.agg, rfl⟩) hb (plain_map fun x _ => plainA x).1 (plain_map fun x _ => plainA x).2) (plain_ro fun x _ => plainA x) hF
theorem allT {F : AV} {l : List Thr} {q : Thr → Bool} (hF : Plain F) (h3 : F.isAgg = false) (h : ∀ x ∈ l, ∀ lo base tgt h, callAV (callW prg) lo base tgt F [encT x] h = some (.bool (q x), h)) (hb : l.length < big) :
    ∀ lo base tgt h, callW prg 13 lo base tgt [mkRo 3 (l.map encT), F] h = some (.bool (l.all q), h) :=
  Val.c2 (all_map (g := 35) (cf := 34) (ix := 63) ⟨rfl, rfl, rfl⟩ ⟨rfl, rfl, rfl⟩ ⟨rfl, rfl, rfl⟩ ⟨rfl, rfl, rfl⟩ hF.cl hF.can h3 h (fun x _ => ⟨Elem.agg, rfl⟩) hb (plain_map fun x _ => plainT x).1 (plain_map fun x _ => plainT x).2) (plain_ro fun x _ => plainT x) hF

/-! ### Expressions, conditions, statements -/
theorem vExpr : (e : Expr) → okE e → Val prg 61 [encE e] (.bool (exprOk e))
  | .mk k n o s l, he => by
    obtain ⟨h1, h2, h3⟩ := he
    have ih := allE (l := l) (q := exprOk) (plainF 61) rfl (fun x hx lo base tgt h => by
      rw [callAV_fn]
      exact Val.c1 (vExpr x (okEL_iff.1 h3 x hx)) (plainE x) _ _ _ _) h2
    refine Val.of_sat (fn := gc61) rfl rfl rfl ?_
    rw [encE_mk]
    simp only [exprOk, exprsOk_eq]
    by_cases k1 : k = 1
    · subst k1
      by_cases a1 : 0 ≤ n <;> by_cases a2 : n ≤ 2147483647 <;> by_cases a3 : l.length = 0 <;> simp [gc61, ih, a1, a2, a3]
    · by_cases k4 : k = 4
      · subst k4
        by_cases a3 : l.length = 0 <;> simp [gc61, ih, a3]
      · by_cases k2 : k = 2
        · subst k2
          cases a1 : nameS s <;> by_cases a3 : l.length = 0 <;> simp [gc61, ih, a1, a3]
        · by_cases k3 : k = 3
          · subst k3
            have e3 : ((l.length : Int) = 1) = (l.length = 1) := by apply propext; omega
            cases a1 : nameS s <;> by_cases a3 : l.length = 1 <;> simp [gc61, ih, a1, a3, e3]
          · by_cases k6 : k = 6
            · subst k6
              have e3 : ((l.length : Int) = 1) = (l.length = 1) := by apply propext; omega
              by_cases a3 : l.length = 1 <;> simp [gc61, ih, a3, e3]
            · by_cases k5 : k = 5
              · subst k5
                have e3 : ((l.length : Int) = 2) = (l.length = 2) := by apply propext; omega
                by_cases a1 : 1 ≤ o <;> by_cases a2 : o ≤ 5 <;> by_cases a3 : l.length = 2 <;> simp [gc61, ih, a1, a2, a3, e3]
              · simp [gc61, k1, k2, k3, k4, k5, k6]
termination_by e => e
decreasing_by
  have := List.sizeOf_lt_of_mem hx
  simp_wf
  omega
end Go.Abs.T
