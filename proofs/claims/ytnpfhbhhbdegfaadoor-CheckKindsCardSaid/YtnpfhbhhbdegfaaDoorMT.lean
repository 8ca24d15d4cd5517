/- What the program's functions of package check answer, part 1. -/
import Derived.Test.YtnpfhbhhbdegfaaDoorML
import Derived.Test.YtnpfhbhhbdegfaaDoorME
set_option maxRecDepth 100000
set_option linter.unusedSimpArgs false
set_option linter.unusedVariables false
namespace Go.Abs.T
open Go.Proofs.YtnpfhbhhbdegfaaDoor

theorem Val.c {Q : Prg} {f : Nat} {xs : List AV} {r : AV} (hv : Val Q f xs r) (h1 : AV.closedL xs = true) (h2 : xs.map AV.canon = xs) : ∀ lo base tgt h, callW Q f lo base tgt xs h = some (r, h) := fun _ _ _ _ => hv.call h1 h2
theorem Val.c1 {Q : Prg} {f : Nat} {a : AV} {r : AV} (hv : Val Q f [a] r) (h : Plain a) : ∀ lo base tgt h, callW Q f lo base tgt [a] h = some (r, h) := fun _ _ _ _ => hv.call (by simp [h.cl]) (by simp [h.can])
theorem Val.c2 {Q : Prg} {f : Nat} {a b : AV} {r : AV} (hv : Val Q f [a, b] r) (h : Plain a) (h' : Plain b) : ∀ lo base tgt h, callW Q f lo base tgt [a, b] h = some (r, h) := fun _ _ _ _ => hv.call (by simp [h.cl, h'.cl]) (by simp [h.can, h'.can])
theorem plainStr (s : Str) : Plain (.str s) := ⟨rfl, rfl⟩
theorem plainF (f : Nat) : Plain (.fn f [] []) := ⟨rfl, rfl⟩

/-! ### Numbers, names -/
theorem vIsIn (n a b : Int) : Val prg 29 [I n, I a, I b] (.bool (decide (a ≤ n) && decide (n ≤ b))) := by
  refine Val.of_sat (fn := gc29) rfl rfl rfl ?_
  by_cases h1 : a ≤ n
  · simp [gc29, h1]
  · simp [gc29, h1]
@[simp] theorem cIsIn (n a b : Int) (lo base tgt : Nat) (h : Heap) : callW prg 29 lo base tgt [I n, I a, I b] h = some (.bool (decide (a ≤ n) && decide (n ≤ b)), h) := (vIsIn n a b).call (by simp) (by simp)

theorem fitsLoop (l : List Int) (hb : l.length < big) (r : Bool) (hr : l.all fits32 = r) : ∀ (m i : Nat) (fr : Frame), i + m = l.length → fr 5 = mkRo 1 (l.map I) → fr 6 = I l.length → fr 7 = I i → (∀ j, j < i → ∀ n, l[j]? = some n → fits32 n = true) →
    Sat (itW (exec (ctxW prg) 0 0 gl26_1) fr []) fun o fr' h' => h' = [] ∧ ((o = .ret ∧ fr' 2 = .bool false ∧ r = false) ∨ (o = .exit 0 ∧ r = true)) := by
  intro m
  induction m with
  | zero =>
    intro i fr hi h5 h6 h7 hn
    refine sat_it ?_
    have hlt : ¬ ((i : Int) < (l.length : Int)) := by omega
    simp [gl26_1, h6, h7, hlt]
    rw [← hr, List.all_eq_true]
    intro x hx
    obtain ⟨j, hj⟩ := List.getElem?_of_mem hx
    exact hn j (by have := (List.getElem?_eq_some_iff.1 hj).1; omega) x hj
  | succ m ih =>
    intro i fr hi h5 h6 h7 hn
    refine sat_it ?_
    have hlt : ((i : Int) < (l.length : Int)) := by omega
    obtain ⟨x, hx⟩ : ∃ x, l[i]? = some x := ⟨_, List.getElem?_eq_getElem (by omega)⟩
    have ha := iaddr_mkRo (sz := 1) .i64 (i := (i : Int)) (xs := l.map I) rfl (by rw [List.getElem?_map, hx]; rfl)
    have hw : IntKind.wrap .i64 ((i : Int) + 1) = ((i + 1 : Nat) : Int) := by rw [wrap64 (by omega) (by have : l.length < 9223372036854775808 := hb; omega)]; omega
    have hmem := List.mem_of_getElem? hx
    by_cases h1 : x < -2147483648
    · have hf : fits32 x = false := by simp [fits32]; omega
      simp [gl26_1, h5, h6, h7, hlt, ha, h1]
      rw [← hr]
      exact List.all_eq_false.2 ⟨x, hmem, by simp [hf]⟩
    · by_cases h2 : 2147483647 < x
      · have hf : fits32 x = false := by simp [fits32]; omega
        simp [gl26_1, h5, h6, h7, hlt, ha, h1, h2]
        rw [← hr]
        exact List.all_eq_false.2 ⟨x, hmem, by simp [hf]⟩
      · have hf : fits32 x = true := by simp [fits32]; omega
        simp [gl26_1, h5, h6, h7, hlt, ha, h1, h2, hw]
        refine ih (i + 1) _ (by omega) (by simp [h5]) (by simp [h6]) (by simp) fun j hj y hy => ?_
        by_cases hji : j < i
        · exact hn j hji y hy
        · obtain rfl : j = i := by omega
          rw [hx] at hy
          cases hy
          exact hf
theorem vFits (l : List Int) (hb : l.length < big) : Val prg 26 [mkRo 1 (l.map I)] (.bool (l.all fits32)) := by
  refine Val.of_sat (fn := gc26) rfl rfl rfl ?_
  generalize hr : l.all fits32 = r
  simp [gc26]
  refine sat_then (sat_blk ((fitsLoop l hb r hr l.length 0 _ (by omega) (by simp) (by simp) (by simp) (by omega)).mono ?_))
  rintro o fr h ⟨rfl, ⟨rfl, h2, h3⟩ | ⟨rfl, h3⟩⟩
  · simp [h2, h3]
  · simp [h3]

theorem vMk : Val prg 80 [.str sLD] (.tup [.agg tabLD, .bool true]) := Val.of_run (k := 60) (fn := gc80) (g := fun _ => true) rfl rfl rfl (by kernel_rfl)
theorem vName (s : Str) : Val prg 25 [.str s] (.bool (nameS s)) :=
  name_ok (ib := 57) (tr := 58) ⟨rfl, rfl, rfl⟩ (fun c => ib_ok (g := 77) (x := 91) ⟨rfl, rfl, rfl⟩ ⟨rfl, rfl, rfl⟩ rfl _ c)
    (fun s h1 h2 => trim_ok (mk := 80) (tl := 81) (tr := 82) (tlb := 78) (trb := 79) (tlu := 83) (tru := 84) (ct := 92) ⟨rfl, rfl, rfl⟩ ⟨rfl, rfl, rfl⟩ ⟨rfl, rfl, rfl⟩ ⟨rfl, rfl, rfl⟩ vMk s h1 h2) s
@[simp] theorem cName (s : Str) (lo base tgt : Nat) (h : Heap) : callW prg 25 lo base tgt [.str s] h = some (.bool (nameS s), h) := (vName s).call (by simp) (by simp)

theorem vNot54 (s : Str) : Val prg 54 [.str s] (.bool (!nameS s)) := by
  refine Val.of_sat (fn := gc54) rfl rfl rfl ?_
  simp [gc54]
theorem vNames (l : List Str) (hb : l.length < big) : Val prg 22 [encStrs l] (.bool (l.all nameS)) := by
  have hp : Pred prg (.fn 54 [] []) (l.map .str) (l.map fun s => !nameS s) := Pred.map (by simp) (by simp) fun s _ lo base tgt h => by
    rw [callAV_fn]
    exact (vNot54 s).call (by simp) (by simp)
  have hv := cf_ok (f := 53) (ix := 75) (agg := false) (n := 1) rfl rfl rfl rfl rfl rfl hp (fun e he => by
    obtain ⟨s, _, rfl⟩ := List.mem_map.1 he
    exact Elem.one rfl) (by simpa using hb) (closedL_map (fun _ => rfl) _) (by simp)
  have hc := Val.c2 hv (plainStrs l) (plainF _)
  refine Val.of_sat (fn := gc22) rfl rfl rfl ?_
  have e : (!((l.map fun s => !nameS s).any id)) = l.all nameS := by rw [Bool.eq_iff_iff]; simp
  simp only [encStrs]
  simp only [gc22]
  simp [hc, -List.any_map]
  rw [← e, Bool.not_not]
theorem cNames (l : List Str) (hb : l.length < big) (lo base tgt : Nat) (h : Heap) : callW prg 22 lo base tgt [encStrs l] h = some (.bool (l.all nameS), h) := Val.c1 (vNames l hb) (plainStrs l) _ _ _ _

/-! ### 'all' -/
theorem elemE (e : Expr) : Elem true 5 (encE e) ∧ (encE e).cells.length = 5 := by obtain ⟨k, n, o, s, l⟩ := e; rw [encE_mk]; exact ⟨Elem.agg, rfl⟩
theorem elemC (c : Cond) : Elem true 4 (encC c) ∧ (encC c).cells.length = 4 := by obtain ⟨k, r, l, ks⟩ := c; rw [encC_mk]; exact ⟨Elem.agg, rfl⟩
theorem elemS (s : Stmt) : Elem true 18 (encS s) ∧ (encS s).cells.length = 18 := by
  obtain ⟨k, s, ⟨ik, ni, oi, si, li⟩, ⟨ek, ne, oe, se, le⟩, ⟨ck, cr, cl, cc⟩, b, l⟩ := s
  rw [encS_mk']
  exact ⟨Elem.agg, rfl⟩
theorem allE {F : AV} {l : List Expr} {q : Expr → Bool} (hF : Plain F) (h3 : F.isAgg = false) (h : ∀ x ∈ l, ∀ lo base tgt h, callAV (callW prg) lo base tgt F [encE x] h = some (.bool (q x), h)) (hb : l.length < big) :
    ∀ lo base tgt h, callW prg 67 lo base tgt [mkRo 5 (l.map encE), F] h = some (.bool (l.all q), h) :=
  Val.c2 (all_map (g := 87) (cf := 86) (ix := 96) ⟨rfl, rfl, rfl⟩ ⟨rfl, rfl, rfl⟩ ⟨rfl, rfl, rfl⟩ ⟨rfl, rfl, rfl⟩ hF.cl hF.can h3 h (fun x _ => elemE x) hb (plain_map fun x _ => plainE x).1 (plain_map fun x _ => plainE x).2) (plain_ro fun x _ => plainE x) hF
theorem allC {F : AV} {l : List Cond} {q : Cond → Bool} (hF : Plain F) (h3 : F.isAgg = false) (h : ∀ x ∈ l, ∀ lo base tgt h, callAV (callW prg) lo base tgt F [encC x] h = some (.bool (q x), h)) (hb : l.length < big) :
    ∀ lo base tgt h, callW prg 70 lo base tgt [mkRo 4 (l.map encC), F] h = some (.bool (l.all q), h) :=
  Val.c2 (all_map (g := 89) (cf := 88) (ix := 97) ⟨rfl, rfl, rfl⟩ ⟨rfl, rfl, rfl⟩ ⟨rfl, rfl, rfl⟩ ⟨rfl, rfl, rfl⟩ hF.cl hF.can h3 h (fun x _ => elemC x) hb (plain_map fun x _ => plainC x).1 (plain_map fun x _ => plainC x).2) (plain_ro fun x _ => plainC x) hF
theorem allS {F : AV} {l : List Stmt} {q : Stmt → Bool} (hF : Plain F) (h3 : F.isAgg = false) (h : ∀ x ∈ l, ∀ lo base tgt h, callAV (callW prg) lo base tgt F [encS x] h = some (.bool (q x), h)) (hb : l.length < big) :
    ∀ lo base tgt h, callW prg 15 lo base tgt [mkRo 18 (l.map encS), F] h = some (.bool (l.all q), h) :=
  Val.c2 (all_map (g := 37) (cf := 36) (ix := 64) ⟨rfl, rfl, rfl⟩ ⟨rfl, rfl, rfl⟩ ⟨rfl, rfl, rfl⟩ ⟨rfl, rfl, rfl⟩ hF.cl hF.can h3 h (fun x _ => elemS x) hb (plain_map fun x _ => plainS x).1 (plain_map fun x _ => plainS x).2) (plain_ro fun x _ => plainS x) hF
theorem allG {F : AV} {l : List Glob} {q : Glob → Bool} (hF : Plain F) (h3 : F.isAgg = false) (h : ∀ x ∈ l, ∀ lo base tgt h, callAV (callW prg) lo base tgt F [encG x] h = some (.bool (q x), h)) (hb : l.length < big) :
    ∀ lo base tgt h, callW prg 23 lo base tgt [mkRo 2 (l.map encG), F] h = some (.bool (l.all q), h) :=
  Val.c2 (all_map (g := 56) (cf := 55) (ix := 76) ⟨rfl, rfl, rfl⟩ ⟨rfl, rfl, rfl⟩ ⟨rfl, rfl, rfl⟩ ⟨rfl, rfl, rfl⟩ hF.cl hF.can h3 h (fun x _ => ⟨Elem.agg, rfl⟩) hb (plain_map fun x _ => plainG x).1 (plain_map fun x _ => plainG x).2) (plain_ro fun x _ => plainG x) hF
theorem allA {F : AV} {l : List Arr} {q : Arr → Bool} (hF : Plain F) (h3 : F.isAgg = false) (h : ∀ x ∈ l, ∀ lo base tgt h, callAV (callW prg) lo base tgt F [encA x] h = some (.bool (q x), h)) (hb : l.length < big) :
    ∀ lo base tgt h, callW prg 27 lo base tgt [mkRo 2 (l.map encA), F] h = some (.bool (l.all q), h) :=
  Val.c2 (all_map (g := 60) (cf := 59) (ix := 68) ⟨rfl, rfl, rfl⟩ ⟨rfl, rfl, rfl⟩ ⟨rfl, rfl, rfl⟩ ⟨rfl, rfl, rfl⟩ hF.cl hF.can h3 h (fun x _ => ⟨Elem.agg, rfl⟩) hb (plain_map fun x _ => plainA x).1 (plain_map fun x _ => plainA x).2) (plain_ro fun x _ => plainA x) hF
theorem allT {F : AV} {l : List Thr} {q : Thr → Bool} (hF : Plain F) (h3 : F.isAgg = false) (h : ∀ x ∈ l, ∀ lo base tgt h, callAV (callW prg) lo base tgt F [encT x] h = some (.bool (q x), h)) (hb : l.length < big) :
    ∀ lo base tgt h, callW prg 13 lo base tgt [mkRo 3 (l.map encT), F] h = some (.bool (l.all q), h) :=
  Val.c2 (all_map (g := 35) (cf := 34) (ix := 63) ⟨rfl, rfl, rfl⟩ ⟨rfl, rfl, rfl⟩ ⟨rfl, rfl, rfl⟩ ⟨rfl, rfl, rfl⟩ hF.cl hF.can h3 h (fun x _ => ⟨Elem.agg, rfl⟩) hb (plain_map fun x _ => plainT x).1 (plain_map fun x _ => plainT x).2) (plain_ro fun x _ => plainT x) hF

/-! ### Expressions, conditions, statements -/
theorem vExpr : (e : Expr) → okE e → Val prg 61 [encE e] (.bool (exprOk e))
  | .mk k n o s l, he => by
    obtain ⟨h1, h2, h3⟩ := he
    have ih := allE (l := l) (q := exprOk) (plainF 61) rfl (fun x hx lo base tgt h => by
      rw [callAV_fn]
      exact Val.c1 (vExpr x (okEL_iff.1 h3 x hx)) (plainE x) _ _ _ _) h2
    refine Val.of_sat (fn := gc61) rfl rfl rfl ?_
    rw [encE_mk]
    simp only [exprOk, exprsOk_eq]
    by_cases k1 : k = 1
    · subst k1
      by_cases a1 : 0 ≤ n <;> by_cases a2 : n ≤ 2147483647 <;> by_cases a3 : l.length = 0 <;> simp [gc61, ih, a1, a2, a3]
    · by_cases k4 : k = 4
      · subst k4
        by_cases a3 : l.length = 0 <;> simp [gc61, ih, a3]
      · by_cases k2 : k = 2
        · subst k2
          cases a1 : nameS s <;> by_cases a3 : l.length = 0 <;> simp [gc61, ih, a1, a3]
        · by_cases k3 : k = 3
          · subst k3
            have e3 : ((l.length : Int) = 1) = (l.length = 1) := by apply propext; omega
            cases a1 : nameS s <;> by_cases a3 : l.length = 1 <;> simp [gc61, ih, a1, a3, e3]
          · by_cases k6 : k = 6
            · subst k6
              have e3 : ((l.length : Int) = 1) = (l.length = 1) := by apply propext; omega
              by_cases a3 : l.length = 1 <;> simp [gc61, ih, a3, e3]
            · by_cases k5 : k = 5
              · subst k5
                have e3 : ((l.length : Int) = 2) = (l.length = 2) := by apply propext; omega
                by_cases a1 : 1 ≤ o <;> by_cases a2 : o ≤ 5 <;> by_cases a3 : l.length = 2 <;> simp [gc61, ih, a1, a2, a3, e3]
              · simp [gc61, k1, k2, k3, k4, k5, k6]
termination_by e => e
decreasing_by
  have := List.sizeOf_lt_of_mem hx
  simp_wf
  omega
end Go.Abs.T

/- What the program's functions of package check answer, part 2. -/
set_option maxRecDepth 100000
set_option linter.unusedSimpArgs false
set_option linter.unusedVariables false
namespace Go.Abs.T
open Go.Proofs.YtnpfhbhhbdegfaaDoor
attribute [simp] part_whole part_true

theorem vCond : (c : Cond) → okC c → Val prg 62 [encC c] (.bool (condOk c))
  | .mk k r l ks, hc => by
    obtain ⟨h1, h2, h3, h4⟩ := hc
    have ih := allC (l := ks) (q := condOk) (plainF 62) rfl (fun x hx lo base tgt h => by
      rw [callAV_fn]
      exact Val.c1 (vCond x (okCL_iff.1 h4 x hx)) (plainC x) _ _ _ _) h2
    have ie := allE (l := l) (q := exprOk) (plainF 61) rfl (fun x hx lo base tgt h => by
      rw [callAV_fn]
      exact Val.c1 (vExpr x (okEL_iff.1 h3 x hx)) (plainE x) _ _ _ _) h1
    refine Val.of_sat (fn := gc62) rfl rfl rfl ?_
    rw [encC_mk]
    simp only [condOk, exprsOk_eq, condsOk_eq]
    generalize l.all exprOk = be at *
    generalize ks.all condOk = bc at *
    have e1 : ((ks.length : Int) = 1) = (ks.length = 1) := by apply propext; omega
    have e2 : ((ks.length : Int) = 2) = (ks.length = 2) := by apply propext; omega
    have e3 : ((l.length : Int) = 2) = (l.length = 2) := by apply propext; omega
    by_cases k1 : k = 1
    · subst k1
      by_cases a1 : 1 ≤ r
      · by_cases a2 : r ≤ 6
        · by_cases a3 : ks.length = 0
          · by_cases a4 : l.length = 2
            · cases be <;> simp [gc62, ih, ie, a1, a2, a3, a4]
            · simp [gc62, ih, ie, a1, a2, a3, a4, e3]
          · simp [gc62, ih, ie, a1, a2, a3]
        · simp [gc62, ih, ie, a1, a2]
      · simp [gc62, ih, ie, a1]
    · by_cases k2 : k = 2
      · subst k2
        by_cases a3 : ks.length = 1
        · by_cases a4 : l.length = 0
          · cases be <;> simp [gc62, ih, ie, a3, a4]
          · simp [gc62, ih, ie, a3, a4]
        · simp [gc62, ih, ie, a3, e1]
      · by_cases k3 : k = 3
        · subst k3
          by_cases a3 : ks.length = 2
          · by_cases a4 : l.length = 0
            · cases be <;> simp [gc62, ih, ie, a3, a4]
            · simp [gc62, ih, ie, a3, a4]
          · simp [gc62, ih, ie, a3, e2]
        · by_cases k4 : k = 4
          · subst k4
            by_cases a3 : ks.length = 2
            · by_cases a4 : l.length = 0
              · cases be <;> simp [gc62, ih, ie, a3, a4]
              · simp [gc62, ih, ie, a3, a4]
            · simp [gc62, ih, ie, a3, e2]
          · simp [gc62, ih, ie, k1, k2, k3, k4]
termination_by c => c
decreasing_by
  have := List.sizeOf_lt_of_mem hx
  simp_wf
  omega
theorem cExpr (e : Expr) (he : okE e) (lo base tgt : Nat) (h : Heap) : callW prg 61 lo base tgt [encE e] h = some (.bool (exprOk e), h) := Val.c1 (vExpr e he) (plainE e) _ _ _ _
theorem cCond (c : Cond) (hc : okC c) (lo base tgt : Nat) (h : Heap) : callW prg 62 lo base tgt [encC c] h = some (.bool (condOk c), h) := Val.c1 (vCond c hc) (plainC c) _ _ _ _

theorem vStmt : (s : Stmt) → okS s → Val prg 31 [encS s] (.bool (stmtOk s))
  | .mk k s i e c b l, hs => by
    obtain ⟨h1, h2, h3, h4, h5, h6, h7, h8⟩ := hs
    have ib := allS (l := b) (q := stmtOk) (plainF 31) rfl (fun x hx lo base tgt h => by
      rw [callAV_fn]
      exact Val.c1 (vStmt x (okSL_iff.1 h7 x hx)) (plainS x) _ _ _ _) h5
    have il := allS (l := l) (q := stmtOk) (plainF 31) rfl (fun x hx lo base tgt h => by
      rw [callAV_fn]
      exact Val.c1 (vStmt x (okSL_iff.1 h8 x hx)) (plainS x) _ _ _ _) h6
    have ci := cExpr i h2
    have ce := cExpr e h3
    have cc := cCond c h4
    refine Val.of_sat (fn := gc31) rfl rfl rfl ?_
    simp only [stmtOk, stmtsOk_eq]
    generalize exprOk i = bi at *
    generalize exprOk e = be at *
    generalize condOk c = bc at *
    generalize b.all stmtOk = bb at *
    generalize l.all stmtOk = bl at *
    obtain ⟨ik, ni, oi, si, li⟩ := i
    obtain ⟨ek, ne, oe, se, le⟩ := e
    obtain ⟨ck, cr, cl, cks⟩ := c
    rw [encS_mk']
    rw [encE_mk] at ci ce
    rw [encC_mk] at cc
    by_cases k1 : k = 1
    · subst k1
      cases a1 : nameS s <;> simp [gc31, ci, ce, cc, a1]
    · by_cases k2 : k = 2
      · subst k2
        cases a1 : nameS s
        · simp [gc31, a1]
        · cases bi <;> simp [gc31, ci, ce, cc, a1]
      · by_cases k3 : k = 3
        · subst k3
          simp [gc31]
        · by_cases k4 : k = 4
          · subst k4
            simp [gc31]
          · by_cases k5 : k = 5
            · subst k5
              cases bc
              · simp [gc31, cc]
              · cases bb <;> simp [gc31, cc, ib, il]
            · by_cases k6 : k = 6
              · subst k6
                cases bc <;> simp [gc31, cc, ib, il]
              · by_cases k7 : k = 7
                · subst k7
                  simp [gc31, cc]
                · simp [gc31, k1, k2, k3, k4, k5, k6, k7]
termination_by s => s
decreasing_by
  · have := List.sizeOf_lt_of_mem hx
    simp_wf
    omega
  · have := List.sizeOf_lt_of_mem hx
    simp_wf
    omega
theorem cStmt (s : Stmt) (hs : okS s) (lo base tgt : Nat) (h : Heap) : callW prg 31 lo base tgt [encS s] h = some (.bool (stmtOk s), h) := Val.c1 (vStmt s hs) (plainS s) _ _ _ _

/-! ### Sizes, form -/
theorem vFits1 (t : Thr) : Val prg 21 [encT t] (.bool (decide (t.locals.length ≤ 6))) := by
  refine Val.of_sat (fn := gc21) rfl rfl rfl ?_
  have e : decide ((t.locals.length : Int) ≤ 6) = decide (t.locals.length ≤ 6) := by congr 1; apply propext; omega
  simp [gc21, encT, encStrs, e]
theorem vFitsP (p : Prg') (hp : okP p) : Val prg 10 [encP p] (.bool (fitsOk p)) := by
  have ht := allT (l := p.threads) (q := fun t => decide (t.locals.length ≤ 6)) (plainF 21) rfl (fun x hx lo base tgt h => by
    rw [callAV_fn]
    exact Val.c1 (vFits1 x) (plainT x) _ _ _ _) hp.threads
  refine Val.of_sat (fn := gc10) rfl rfl rfl ?_
  simp only [fitsOk]
  generalize (p.threads.all fun t => decide (t.locals.length ≤ 6)) = bt at *
  have e1 : ((p.globals.length : Int) ≤ 6) = (p.globals.length ≤ 6) := by apply propext; omega
  have e2 : ((p.arrays.length : Int) ≤ 3) = (p.arrays.length ≤ 3) := by apply propext; omega
  have e3 : ((p.mutexes.length : Int) ≤ 6) = (p.mutexes.length ≤ 6) := by apply propext; omega
  have e4 : ((p.threads.length : Int) ≤ 4) = (p.threads.length ≤ 4) := by apply propext; omega
  by_cases a1 : p.globals.length ≤ 6
  · by_cases a2 : p.arrays.length ≤ 3
    · by_cases a3 : p.mutexes.length ≤ 6
      · by_cases a4 : p.threads.length ≤ 4
        · simp [gc10, encP, encStrs, e1, e2, e3, e4, a1, a2, a3, a4, ht]
        · simp [gc10, encP, encStrs, e1, e2, e3, e4, a1, a2, a3, a4]
      · simp [gc10, encP, encStrs, e1, e2, e3, a1, a2, a3]
    · simp [gc10, encP, encStrs, e1, e2, a1, a2]
  · simp [gc10, encP, encStrs, e1, a1]

theorem cFits1 (x : Int) (B : Ent) (ty lo base tgt : Nat) : callW prg 26 lo base tgt [.sl 1 1 1 0 1] [B, .live ⟨ty, 1, false, [I x]⟩] = some (.bool (fits32 x), [B, .live ⟨ty, 1, false, [I x]⟩]) := by
  have h := (vFits [x] (by show 1 < 9223372036854775808; omega)).callG (lo := lo) (base := base) (tgt := tgt) (h := [B, .live ⟨ty, 1, false, [I x]⟩]) (h2 := [B, .live ⟨ty, 1, false, [I x]⟩]) (args := [.sl 1 1 1 0 1]) (as0 := [.ro 1 [I x]]) (by simp) (by simp) (by simp)
  simpa using h
theorem vForm1 (g : Glob) : Val prg 24 [encG g] (.bool (nameS g.name && fits32 g.init)) := by
  refine Val.of_sat (fn := gc24) rfl rfl rfl ?_
  cases a1 : nameS g.name <;> simp [gc24, encG, a1, cFits1]
theorem vForm2 (a : Arr) : Val prg 28 [encA a] (.bool (nameS a.name && (decide (1 ≤ a.size) && decide (a.size ≤ 16)))) := by
  refine Val.of_sat (fn := gc28) rfl rfl rfl ?_
  cases a1 : nameS a.name <;> simp [gc28, encA, a1]
theorem vForm3 (t : Thr) (ht : okT t) : Val prg 30 [encT t] (.bool (nameS t.name && t.locals.all nameS && stmtsOk t.body)) := by
  have hn := cNames t.locals ht.locals
  have hb := allS (l := t.body) (q := stmtOk) (plainF 31) rfl (fun x hx lo base tgt h => by
    rw [callAV_fn]
    exact cStmt x (ht.stmts x hx) _ _ _ _) ht.body
  refine Val.of_sat (fn := gc30) rfl rfl rfl ?_
  rw [stmtsOk_eq]
  generalize t.locals.all nameS = bl at *
  generalize t.body.all stmtOk = bb at *
  cases a1 : nameS t.name
  · simp [gc30, encT, a1]
  · cases bl <;> simp [gc30, encT, a1, hn, hb]
theorem vFormP (p : Prg') (hp : okP p) : Val prg 11 [encP p] (.bool (formOk p)) := by
  have hm := cNames p.mutexes hp.mutexes
  have hg := allG (l := p.globals) (q := fun g => nameS g.name && fits32 g.init) (plainF 24) rfl (fun x hx lo base tgt h => by
    rw [callAV_fn]
    exact Val.c1 (vForm1 x) (plainG x) _ _ _ _) hp.globals
  have ha := allA (l := p.arrays) (q := fun a => nameS a.name && (decide (1 ≤ a.size) && decide (a.size ≤ 16))) (plainF 28) rfl (fun x hx lo base tgt h => by
    rw [callAV_fn]
    exact Val.c1 (vForm2 x) (plainA x) _ _ _ _) hp.arrays
  have ht := allT (l := p.threads) (q := fun t => nameS t.name && t.locals.all nameS && stmtsOk t.body) (plainF 30) rfl (fun x hx lo base tgt h => by
    rw [callAV_fn]
    exact Val.c1 (vForm3 x (hp.thr x hx)) (plainT x) _ _ _ _) hp.threads
  refine Val.of_sat (fn := gc11) rfl rfl rfl ?_
  simp only [formOk]
  generalize p.mutexes.all nameS = b1 at *
  generalize (p.globals.all fun g => nameS g.name && fits32 g.init) = b2 at *
  generalize (p.arrays.all fun a => nameS a.name && (decide (1 ≤ a.size) && decide (a.size ≤ 16))) = b3 at *
  generalize (p.threads.all fun t => nameS t.name && t.locals.all nameS && stmtsOk t.body) = b4 at *
  have e1 : ((0 : Int) < (p.threads.length : Int)) = (0 < p.threads.length) := by apply propext; omega
  by_cases a1 : 0 < p.threads.length
  · cases b1
    · simp [gc11, encP, e1, a1, hm]
    · cases b2
      · simp [gc11, encP, e1, a1, hm, hg]
      · cases b3
        · simp [gc11, encP, e1, a1, hm, hg, ha]
        · simp [gc11, encP, e1, a1, hm, hg, ha, ht]
  · simp [gc11, encP, e1, a1]
end Go.Abs.T

/- What the program's functions of package check answer, part 3: what is there. -/
set_option maxRecDepth 100000
set_option linter.unusedSimpArgs false
set_option linter.unusedVariables false
namespace Go.Abs.T
open Go.Proofs.YtnpfhbhhbdegfaaDoor

/-! ### Places -/
theorem indexLoop (l : List Str) (s : Str) (hb : l.length < big) : ∀ (m i : Nat) (fr : Frame), i + m = l.length → fr 0 = encStrs l → fr 1 = .str s → fr 7 = I l.length → fr 8 = I i → (∀ j, j < i → ∀ t, l[j]? = some t → ¬ s = t) →
    Sat (itW (exec (ctxW prg) 0 0 gl71_1) fr []) fun o fr' h' => h' = [] ∧ ((o = .ret ∧ fr' 4 = I (placeS s l)) ∨ (o = .exit 0 ∧ placeS s l = -1)) := by
  intro m
  induction m with
  | zero =>
    intro i fr hi h0 h1 h7 h8 hn
    refine sat_it ?_
    have hlt : ¬ ((i : Int) < (l.length : Int)) := by omega
    simp [gl71_1, h7, h8, hlt]
    have : l.findIdx? (fun t => decide (s = t)) = none := by
      rw [List.findIdx?_eq_none_iff]
      intro x hx
      obtain ⟨j, hj⟩ := List.getElem?_of_mem hx
      simpa using hn j (by have := (List.getElem?_eq_some_iff.1 hj).1; omega) x hj
    simp [placeS, this]
  | succ m ih =>
    intro i fr hi h0 h1 h7 h8 hn
    refine sat_it ?_
    have hlt : ((i : Int) < (l.length : Int)) := by omega
    have hil : i < l.length := by omega
    obtain ⟨x, hx⟩ : ∃ x, l[i]? = some x := ⟨_, List.getElem?_eq_getElem hil⟩
    have ha : iaddrAV 1 (encStrs l) (.int .i64 (i : Int)) = some (.rp 1 (.str x) 0) := iaddr_mkRo (sz := 1) .i64 (i := (i : Int)) (xs := l.map .str) rfl (by rw [List.getElem?_map, hx]; rfl)
    have hw : IntKind.wrap .i64 ((i : Int) + 1) = ((i + 1 : Nat) : Int) := by rw [wrap64 (by omega) (by have : l.length < 9223372036854775808 := hb; omega)]; omega
    by_cases hs : s = x
    · simp [gl71_1, h0, h1, h7, h8, hlt, ha, hs]
      have : l.findIdx? (fun t => decide (x = t)) = some i := by
        rw [List.findIdx?_eq_some_iff_getElem]
        refine ⟨hil, ?_, fun j hj => ?_⟩
        · rw [List.getElem?_eq_getElem hil, Option.some.injEq] at hx; simp [hx]
        · have := hn j hj _ (List.getElem?_eq_getElem (by omega))
          rw [hs] at this
          simpa using this
      simp [placeS, this]
    · simp [gl71_1, h0, h1, h7, h8, hlt, ha, hs, hw]
      refine ih (i + 1) _ (by omega) (by simp [h0]) (by simp [h1]) (by simp [h7]) (by simp) fun j hj y hy => ?_
      by_cases hji : j < i
      · exact hn j hji y hy
      · obtain rfl : j = i := by omega
        rw [hx] at hy
        cases hy
        exact hs
theorem vIndex (l : List Str) (s : Str) (hb : l.length < big) : Val prg 71 [encStrs l, .str s] (I (placeS s l)) := by
  refine Val.of_sat (fn := gc71) rfl rfl rfl ?_
  have hl : slLen (encStrs l) = some l.length := by simp [encStrs]
  simp [gc71, hl]
  refine sat_then (sat_blk ((indexLoop l s hb l.length 0 _ (by omega) (by simp) (by simp) (by simp) (by simp) (by omega)).mono ?_))
  rintro o fr h ⟨rfl, ⟨rfl, h4⟩ | ⟨rfl, h4⟩⟩
  · simp [h4]
  · simp [h4]
theorem vPlace (s : Str) (l : List Str) (hb : l.length < big) : Val prg 42 [.str s, encStrs l] (I (placeS s l)) := by
  have h := Val.c2 (vIndex l s hb) (plainStrs l) (plainStr s)
  refine Val.of_sat (fn := gc42) rfl rfl rfl ?_
  simp [gc42, h]
theorem cPlace (s : Str) (l : List Str) (hb : l.length < big) (lo base tgt : Nat) (h : Heap) : callW prg 42 lo base tgt [.str s, encStrs l] h = some (I (placeS s l), h) := Val.c2 (vPlace s l hb) (plainStr s) (plainStrs l) _ _ _ _
theorem vLocal (t : Thr) (s : Str) (ht : okT t) : Val prg 65 [encT t, .str s] (I (locS t s)) := by
  have h := cPlace s t.locals ht.locals
  refine Val.of_sat (fn := gc65) rfl rfl rfl ?_
  simp [gc65, encT, h, locS]
theorem vMutex (p : Prg') (s : Str) (hp : okP p) : Val prg 17 [encP p, .str s] (I (mutS p s)) := by
  have h := cPlace s p.mutexes hp.mutexes
  refine Val.of_sat (fn := gc17) rfl rfl rfl ?_
  simp [gc17, encP, h, mutS]
theorem fidx_place {α : Type} (l : List α) (f : α → Str) (s : Str) : fidx (l.map fun x => decide (f x = s)) = placeS s (l.map f) := by
  unfold fidx placeS
  rw [List.findIdx?_map, List.findIdx?_map]
  have : (id ∘ fun x => decide (f x = s)) = ((fun t => decide (s = t)) ∘ f) := by
    funext x
    simp only [Function.comp, id, eq_comm]
  rw [this]
theorem vGlob1 (g : Glob) (s : Str) : Val prg 85 [encG g, .rp 1 (.str s) 0] (.bool (decide (g.name = s))) := by
  refine Val.of_sat (fn := gc85) rfl rfl rfl ?_
  simp [gc85, encG]
theorem vArr1 (g : Arr) (s : Str) : Val prg 69 [encA g, .rp 1 (.str s) 0] (.bool (decide (g.name = s))) := by
  refine Val.of_sat (fn := gc69) rfl rfl rfl ?_
  simp [gc69, encA]
theorem vGlobal (p : Prg') (s : Str) (hp : okP p) : Val prg 66 [encP p, .str s] (I (globS p s)) := by
  have hF : Pred prg (.fn 85 [] [.rp 1 (.str s) 0]) (p.globals.map encG) (p.globals.map fun g => decide (g.name = s)) := Pred.map (by simp) (by simp) fun x _ lo base tgt h => by
    rw [callAV_fn]
    exact Val.c2 (vGlob1 x s) (plainG x) ⟨by simp, by simp⟩ _ _ _ _
  have hx := ix_ok (f := 76) (agg := true) (n := 2) rfl rfl rfl hF (fun e he => by
    obtain ⟨x, _, rfl⟩ := List.mem_map.1 he
    exact Elem.agg) (by simpa using hp.globals)
  rw [fidx_place] at hx
  have hg := plain_ro (sz := 2) (f := encG) (l := p.globals) fun x _ => plainG x
  have hcl := hg.cl
  rw [closed_mkRo] at hcl
  refine Val.of_sat (fn := gc66) rfl rfl rfl ?_
  simp [gc66, encP]
  rw [hx.callG (h2 := _) (as0 := [mkRo 2 (p.globals.map encG), .fn 85 [] [.rp 1 (.str s) 0]]) (by simp [hcl]) (by simp only [List.map_cons, List.map_nil, hg.can]; simp) (by simp; rfl)]
  simp [globS]
theorem vArray (p : Prg') (s : Str) (hp : okP p) : Val prg 40 [encP p, .str s] (I (arrS p s)) := by
  have hF : Pred prg (.fn 69 [] [.rp 1 (.str s) 0]) (p.arrays.map encA) (p.arrays.map fun g => decide (g.name = s)) := Pred.map (by simp) (by simp) fun x _ lo base tgt h => by
    rw [callAV_fn]
    exact Val.c2 (vArr1 x s) (plainA x) ⟨by simp, by simp⟩ _ _ _ _
  have hx := ix_ok (f := 68) (agg := true) (n := 2) rfl rfl rfl hF (fun e he => by
    obtain ⟨x, _, rfl⟩ := List.mem_map.1 he
    exact Elem.agg) (by simpa using hp.arrays)
  rw [fidx_place] at hx
  have hg := plain_ro (sz := 2) (f := encA) (l := p.arrays) fun x _ => plainA x
  have hcl := hg.cl
  rw [closed_mkRo] at hcl
  refine Val.of_sat (fn := gc40) rfl rfl rfl ?_
  simp [gc40, encP]
  rw [hx.callG (h2 := _) (as0 := [mkRo 2 (p.arrays.map encA), .fn 69 [] [.rp 1 (.str s) 0]]) (by simp [hcl]) (by simp only [List.map_cons, List.map_nil, hg.can]; simp) (by simp; rfl)]
  simp [arrS]
theorem cLocal (t : Thr) (s : Str) (ht : okT t) (lo base tgt : Nat) (h : Heap) : callW prg 65 lo base tgt [encT t, .str s] h = some (I (locS t s), h) := Val.c2 (vLocal t s ht) (plainT t) (plainStr s) _ _ _ _
theorem cMutex (p : Prg') (s : Str) (hp : okP p) (lo base tgt : Nat) (h : Heap) : callW prg 17 lo base tgt [encP p, .str s] h = some (I (mutS p s), h) := Val.c2 (vMutex p s hp) (plainP p) (plainStr s) _ _ _ _
theorem cGlobal (p : Prg') (s : Str) (hp : okP p) (lo base tgt : Nat) (h : Heap) : callW prg 66 lo base tgt [encP p, .str s] h = some (I (globS p s), h) := Val.c2 (vGlobal p s hp) (plainP p) (plainStr s) _ _ _ _
theorem cArray (p : Prg') (s : Str) (hp : okP p) (lo base tgt : Nat) (h : Heap) : callW prg 40 lo base tgt [encP p, .str s] h = some (I (arrS p s), h) := Val.c2 (vArray p s hp) (plainP p) (plainStr s) _ _ _ _

/-! ### A thread of a program -/
def encX (p : Prg') (t : Thr) : AV := .agg ((encP p).cells ++ (encT t).cells)
theorem plainX (p : Prg') (t : Thr) : Plain (encX p t) := by
  have h1 := plainP p
  have h2 := plainT t
  simp only [encP, encT] at h1 h2
  have a1 := h1.cl
  have a2 := h1.can
  have b1 := h2.cl
  have b2 := h2.can
  simp only [closed_agg, closedL_cons, closed_str, closedL_nil, Bool.and_true, Bool.true_and, Bool.and_eq_true] at a1 b1
  simp only [canon_agg, List.map_cons, List.map_nil, canon_str, AV.agg.injEq, List.cons.injEq, and_true, true_and] at a2 b2
  refine ⟨?_, ?_⟩
  · simp only [encX, encP, encT, cells_agg, List.cons_append, List.nil_append, closed_agg, closedL_cons, closed_str, closedL_nil, a1, b1, Bool.and_self]
  · simp only [encX, encP, encT, cells_agg, List.cons_append, List.nil_append, canon_agg, List.map_cons, List.map_nil, canon_str, a2, b2]
theorem vIsVar (p : Prg') (t : Thr) (s : Str) (hp : okP p) (ht : okT t) : Val prg 38 [encX p t, .str s] (.bool (isVarS p t s)) := by
  have hl := cLocal t s ht
  have hg := cGlobal p s hp
  refine Val.of_sat (fn := gc38) rfl rfl rfl ?_
  unfold isVarS
  simp only [encT] at hl
  simp only [encP] at hg
  by_cases a1 : 0 ≤ locS t s
  · simp [gc38, encX, encP, encT, hl, hg, a1]
  · simp [gc38, encX, encP, encT, hl, hg, a1]
theorem cIsVar (p : Prg') (t : Thr) (s : Str) (hp : okP p) (ht : okT t) (lo base tgt : Nat) (h : Heap) : callW prg 38 lo base tgt [encX p t, .str s] h = some (.bool (isVarS p t s), h) := Val.c2 (vIsVar p t s hp ht) (plainX p t) (plainStr s) _ _ _ _
theorem plainM (f : Nat) {x : AV} (hx : Plain x) : Plain (.fn f [x] []) := ⟨by simp [hx.cl], by simp [hx.can]⟩

theorem vUseE (p : Prg') (t : Thr) (hp : okP p) (ht : okT t) : (e : Expr) → okE e → Val prg 39 [encX p t, encE e] (.bool (exprUses p t e))
  | .mk k n o s l, he => by
    obtain ⟨h1, h2, h3⟩ := he
    have ih := allE (l := l) (q := exprUses p t) (plainM 39 (plainX p t)) rfl (fun x hx lo base tgt h => by
      rw [callAV_fn]
      exact Val.c2 (vUseE p t hp ht x (okEL_iff.1 h3 x hx)) (plainX p t) (plainE x) _ _ _ _) h2
    have hv := cIsVar p t s hp ht
    have ha := cArray p s hp
    refine Val.of_sat (fn := gc39) rfl rfl rfl ?_
    rw [encE_mk]
    simp only [exprUses, exprsUse_eq]
    generalize l.all (exprUses p t) = bl at *
    generalize isVarS p t s = bv at *
    simp only [encX, encP, encT, cells_agg, List.cons_append, List.nil_append] at ih hv ha ⊢
    by_cases k2 : k = 2
    · subst k2
      cases bv
      · simp [gc39, hv]
      · simp [gc39, hv, ih]
    · by_cases k3 : k = 3
      · subst k3
        by_cases a1 : 0 ≤ arrS p s
        · simp [gc39, ha, ih, a1]
        · simp [gc39, ha, a1]
      · simp [gc39, k2, k3, ih]
termination_by e => e
decreasing_by
  have := List.sizeOf_lt_of_mem hx
  simp_wf
  omega
theorem cUseE (p : Prg') (t : Thr) (hp : okP p) (ht : okT t) (e : Expr) (he : okE e) (lo base tgt : Nat) (h : Heap) : callW prg 39 lo base tgt [encX p t, encE e] h = some (.bool (exprUses p t e), h) := Val.c2 (vUseE p t hp ht e he) (plainX p t) (plainE e) _ _ _ _
theorem vUseC (p : Prg') (t : Thr) (hp : okP p) (ht : okT t) : (c : Cond) → okC c → Val prg 41 [encX p t, encC c] (.bool (condUses p t c))
  | .mk k r l ks, hc => by
    obtain ⟨h1, h2, h3, h4⟩ := hc
    have ih := allC (l := ks) (q := condUses p t) (plainM 41 (plainX p t)) rfl (fun x hx lo base tgt h => by
      rw [callAV_fn]
      exact Val.c2 (vUseC p t hp ht x (okCL_iff.1 h4 x hx)) (plainX p t) (plainC x) _ _ _ _) h2
    have ie := allE (l := l) (q := exprUses p t) (plainM 39 (plainX p t)) rfl (fun x hx lo base tgt h => by
      rw [callAV_fn]
      exact cUseE p t hp ht x (okEL_iff.1 h3 x hx) _ _ _ _) h1
    refine Val.of_sat (fn := gc41) rfl rfl rfl ?_
    rw [encC_mk]
    simp only [condUses, exprsUse_eq, condsUse_eq]
    generalize l.all (exprUses p t) = bl at *
    generalize ks.all (condUses p t) = bk at *
    simp only [encX, encP, encT, cells_agg, List.cons_append, List.nil_append] at ih ie ⊢
    cases bl <;> simp [gc41, ih, ie]
termination_by c => c
decreasing_by
  have := List.sizeOf_lt_of_mem hx
  simp_wf
  omega
theorem cUseC (p : Prg') (t : Thr) (hp : okP p) (ht : okT t) (c : Cond) (hc : okC c) (lo base tgt : Nat) (h : Heap) : callW prg 41 lo base tgt [encX p t, encC c] h = some (.bool (condUses p t c), h) := Val.c2 (vUseC p t hp ht c hc) (plainX p t) (plainC c) _ _ _ _
theorem vUseS (p : Prg') (t : Thr) (hp : okP p) (ht : okT t) : (s : Stmt) → okS s → Val prg 16 [encX p t, encS s] (.bool (stmtUses p t s))
  | .mk k s i e c b l, hs => by
    obtain ⟨h1, h2, h3, h4, h5, h6, h7, h8⟩ := hs
    have ib := allS (l := b) (q := stmtUses p t) (plainM 16 (plainX p t)) rfl (fun x hx lo base tgt h => by
      rw [callAV_fn]
      exact Val.c2 (vUseS p t hp ht x (okSL_iff.1 h7 x hx)) (plainX p t) (plainS x) _ _ _ _) h5
    have il := allS (l := l) (q := stmtUses p t) (plainM 16 (plainX p t)) rfl (fun x hx lo base tgt h => by
      rw [callAV_fn]
      exact Val.c2 (vUseS p t hp ht x (okSL_iff.1 h8 x hx)) (plainX p t) (plainS x) _ _ _ _) h6
    have ci := cUseE p t hp ht i h2
    have ce := cUseE p t hp ht e h3
    have cc := cUseC p t hp ht c h4
    have hv := cIsVar p t s hp ht
    have ha := cArray p s hp
    have hm := cMutex p s hp
    refine Val.of_sat (fn := gc16) rfl rfl rfl ?_
    simp only [stmtUses, stmtsUse_eq]
    generalize exprUses p t i = bi at *
    generalize exprUses p t e = be at *
    generalize condUses p t c = bc at *
    generalize b.all (stmtUses p t) = bb at *
    generalize l.all (stmtUses p t) = bl at *
    generalize isVarS p t s = bv at *
    obtain ⟨ik, ni, oi, si, li⟩ := i
    obtain ⟨ek, ne, oe, se, le⟩ := e
    obtain ⟨ck, cr, cl, cks⟩ := c
    rw [encS_mk']
    rw [encE_mk] at ci ce
    rw [encC_mk] at cc
    simp only [encX, encP, encT, cells_agg, List.cons_append, List.nil_append] at ib il ci ce cc hv ha hm ⊢
    by_cases k1 : k = 1
    · subst k1
      cases bv <;> simp [gc16, ce, hv]
    · by_cases k2 : k = 2
      · subst k2
        by_cases a1 : 0 ≤ arrS p s
        · cases bi <;> simp [gc16, ci, ce, ha, a1]
        · simp [gc16, ha, a1]
      · by_cases k3 : k = 3
        · subst k3
          simp [gc16, hm]
        · by_cases k4 : k = 4
          · subst k4
            simp [gc16, hm]
          · by_cases k5 : k = 5
            · subst k5
              cases bc
              · simp [gc16, cc]
              · cases bb <;> simp [gc16, cc, ib, il]
            · by_cases k6 : k = 6
              · subst k6
                cases bc <;> simp [gc16, cc, ib, il]
              · by_cases k7 : k = 7
                · subst k7
                  simp [gc16, cc]
                · simp [gc16, k1, k2, k3, k4, k5, k6, k7]
termination_by s => s
decreasing_by
  · have := List.sizeOf_lt_of_mem hx
    simp_wf
    omega
  · have := List.sizeOf_lt_of_mem hx
    simp_wf
    omega
theorem vCheck1 (p : Prg') (t : Thr) (hp : okP p) (ht : okT t) : Val prg 14 [encT t, .rp 4 (encP p) 0] (.bool (stmtsUse p t t.body)) := by
  have hb := allS (l := t.body) (q := stmtUses p t) (plainM 16 (plainX p t)) rfl (fun x hx lo base tgt h => by
    rw [callAV_fn]
    exact Val.c2 (vUseS p t hp ht x (ht.stmts x hx)) (plainX p t) (plainS x) _ _ _ _) ht.body
  refine Val.of_sat (fn := gc14) rfl rfl rfl ?_
  rw [stmtsUse_eq]
  simp only [encX, encP, encT, cells_agg, List.cons_append, List.nil_append] at hb ⊢
  simp [gc14, hb]
end Go.Abs.T

/- What the program's functions of package check answer, part 4: names twice; Check. -/
set_option maxRecDepth 100000
set_option linter.unusedSimpArgs false
set_option linter.unusedVariables false
namespace Go.Abs.T
open Go.Proofs.YtnpfhbhhbdegfaaDoor

theorem place_mem (s : Str) (l : List Str) : decide (0 ≤ placeS s l) = l.contains s := by
  unfold placeS
  cases h : l.findIdx? (fun t => decide (s = t)) with
  | none =>
    rw [List.findIdx?_eq_none_iff] at h
    have : l.contains s = false := by
      rw [Bool.eq_false_iff]
      intro hc
      rw [List.contains_iff_mem] at hc
      simpa using h s hc
    simp only [optI_none, this]
    rfl
  | some j =>
    rw [List.findIdx?_eq_some_iff_getElem] at h
    obtain ⟨hj, h1, _⟩ := h
    have h1 : s = l[j] := by simpa using h1
    have : l.contains s = true := by
      rw [List.contains_iff_mem, h1]
      exact List.getElem_mem hj
    simp only [optI_some, this]
    simp
theorem twice_iff (l : List Str) : twiceS l = true ↔ ∃ (j i : Nat) (x : Str), j < i ∧ l[j]? = some x ∧ l[i]? = some x := by
  induction l with
  | nil => simp [twiceS]
  | cons s l ih =>
    simp only [twiceS, Bool.or_eq_true, List.contains_iff_mem, ih]
    constructor
    · rintro (h | ⟨j, i, x, h1, h2, h3⟩)
      · obtain ⟨i, hi⟩ := List.getElem?_of_mem h
        exact ⟨0, i + 1, s, by omega, rfl, by simpa using hi⟩
      · exact ⟨j + 1, i + 1, x, by omega, by simpa using h2, by simpa using h3⟩
    · rintro ⟨j, i, x, h1, h2, h3⟩
      cases i with
      | zero => omega
      | succ i =>
        cases j with
        | zero =>
          simp at h2 h3
          subst h2
          exact .inl (List.mem_of_getElem? h3)
        | succ j => exact .inr ⟨j, i, x, by omega, by simpa using h2, by simpa using h3⟩
theorem mem_take {l : List Str} {i : Nat} {x : Str} : x ∈ l.take i ↔ ∃ j, j < i ∧ l[j]? = some x := by
  constructor
  · intro h
    obtain ⟨j, hj⟩ := List.getElem?_of_mem h
    rw [List.getElem?_take] at hj
    split at hj
    · rename_i hji; exact ⟨j, hji, hj⟩
    · cases hj
  · rintro ⟨j, h1, h2⟩
    exact List.mem_of_getElem? (i := j) (by rw [List.getElem?_take, if_pos h1, h2])

theorem slSl_strs {l : List Str} {i : Nat} {h : Heap} (hi : i ≤ l.length) : slSlAV 1 (encStrs l) (some 0) (some i) h = some (encStrs (l.take i), h) := by
  unfold encStrs
  rw [slSl_mkRo (Nat.zero_le _) (by simpa using hi)]
  simp [List.map_take]
theorem twiceLoop (l : List Str) (hb : l.length < big) (r : Bool) (hr : twiceS l = r) : ∀ (m i : Nat) (fr : Frame), i + m = l.length → fr 0 = encStrs l → fr 5 = encStrs l → fr 6 = I l.length → fr 7 = I i → (∀ j, j < i → ∀ x, l[j]? = some x → ¬ x ∈ l.take j) →
    Sat (itW (exec (ctxW prg) 0 0 gl32_1) fr []) fun o fr' h' => h' = [] ∧ ((o = .ret ∧ fr' 2 = .bool true ∧ r = true) ∨ (o = .exit 0 ∧ r = false)) := by
  intro m
  induction m with
  | zero =>
    intro i fr hi h0 h5 h6 h7 hn
    refine sat_it ?_
    have hlt : ¬ ((i : Int) < (l.length : Int)) := by omega
    simp [gl32_1, h6, h7, hlt]
    rw [← hr, Bool.eq_false_iff]
    intro ht
    obtain ⟨j, k, x, h1, h2, h3⟩ := (twice_iff l).1 ht
    exact hn k (by have := (List.getElem?_eq_some_iff.1 h3).1; omega) x h3 (mem_take.2 ⟨j, h1, h2⟩)
  | succ m ih =>
    intro i fr hi h0 h5 h6 h7 hn
    refine sat_it ?_
    have hlt : ((i : Int) < (l.length : Int)) := by omega
    have hil : i < l.length := by omega
    obtain ⟨x, hx⟩ : ∃ x, l[i]? = some x := ⟨_, List.getElem?_eq_getElem hil⟩
    have ha : iaddrAV 1 (encStrs l) (.int .i64 (i : Int)) = some (.rp 1 (.str x) 0) := iaddr_mkRo (sz := 1) .i64 (i := (i : Int)) (xs := l.map .str) rfl (by rw [List.getElem?_map, hx]; rfl)
    have hw : IntKind.wrap .i64 ((i : Int) + 1) = ((i + 1 : Nat) : Int) := by rw [wrap64 (by omega) (by have : l.length < 9223372036854775808 := hb; omega)]; omega
    have hs := fun h => slSl_strs (l := l) (i := i) (h := h) (by omega)
    have hp := cPlace x (l.take i) (by have : l.length < 9223372036854775808 := hb; show (l.take i).length < 9223372036854775808; simp; omega)
    have hm := place_mem x (l.take i)
    cases hc : (l.take i).contains x
    · rw [hc] at hm
      simp [gl32_1, h0, h5, h6, h7, hlt, ha, hs, hp, hm, hw]
      refine ih (i + 1) _ (by omega) (by simp [h0]) (by simp [h5]) (by simp [h6]) (by simp) fun j hj y hy => ?_
      by_cases hji : j < i
      · exact hn j hji y hy
      · obtain rfl : j = i := by omega
        rw [hx] at hy
        cases hy
        intro hmem
        rw [← List.contains_iff_mem, hc] at hmem
        cases hmem
    · rw [hc] at hm
      simp [gl32_1, h0, h5, h6, h7, hlt, ha, hs, hp, hm]
      rw [← hr, twice_iff]
      obtain ⟨j, h1, h2⟩ := mem_take.1 (List.contains_iff_mem.1 hc)
      exact ⟨j, i, x, h1, h2, hx⟩
theorem vTwice (l : List Str) (hb : l.length < big) : Val prg 32 [encStrs l] (.bool (twiceS l)) := by
  refine Val.of_sat (fn := gc32) rfl rfl rfl ?_
  generalize hr : twiceS l = r
  have hl : slLen (encStrs l) = some l.length := by simp [encStrs]
  simp [gc32, hl]
  refine sat_then (sat_blk ((twiceLoop l hb r hr l.length 0 _ (by omega) (by simp) (by simp) (by simp) (by simp) (by omega)).mono ?_))
  rintro o fr h ⟨rfl, ⟨rfl, h2, h3⟩ | ⟨rfl, h3⟩⟩
  · simp [h2, h3]
  · simp [h3]

theorem cTwiceOwn {h : Heap} {ty b : Nat} {v : AV} {l : List Str} (o : Own h ty 1 b v (l.map .str)) (hb : l.length < big) (lo base tgt : Nat) : callW prg 32 lo base tgt [v] h = some (.bool (twiceS l), h) := by
  obtain ⟨y, hy, hy2⟩ := Option.map_eq_some_iff.1 (o.embed (closedL_map (fun _ => rfl) _) (plain_map (f := AV.str) fun s _ => plainStr s).2)
  exact (vTwice l hb).callG (as0 := [y]) (by rw [mapO_cons, hy]; rfl) (by simp only [List.map_cons, List.map_nil, hy2]; rfl) (by simp)

theorem hClone : ∃ ty bs z, gc33 = cloneFn ty 1 bs z ∧ z.cells.length = 1 ∧ ty = 9 := ⟨_, _, _, rfl, rfl, rfl⟩
theorem cClone {h : Heap} {ty' b : Nat} {v : AV} {l : List Str} (o : Own h ty' 1 b v (l.map .str)) (hm : l.length ≤ most) (lo base tgt : Nat) (r : Option (AV × Heap)) (hr : r = if l = [] then some (.emp, h) else (place h tgt [⟨9, 1, false, l.map .str⟩]).map fun h' => (.sl 1 tgt l.length 0 l.length, h')) (x : AV × Heap) (hx : r = some x) :
    callW prg 33 lo base tgt [v] h = some x := by
  obtain ⟨ty, bs, z, hg, hz, rfl⟩ := hClone
  refine callW_ext (ex := cloneX gc33) rfl ?_
  rw [hg, clone_own hz o (by simpa using hm) (flatL_map (fun _ => rfl) _) (closedL_map (fun _ => rfl) _) (plain_map (f := AV.str) fun s _ => plainStr s).2, ← hx, hr]
  simp
end Go.Abs.T

/- What the program's functions of package check answer, part 5: names that stand alone. -/
set_option maxRecDepth 100000
set_option linter.unusedSimpArgs false
set_option linter.unusedVariables false
namespace Go.Abs.T
open Go.Proofs.YtnpfhbhhbdegfaaDoor

def strs (l : List Str) : List AV := l.map .str
theorem strs_app (l : List Str) (x : Str) : strs (l ++ [x]) = strs l ++ [.str x] := by simp [strs]
@[simp] theorem strs_len (l : List Str) : (strs l).length = l.length := by simp [strs]

/-- What a loop that appends names leaves. -/
def Left (e0 : Ent) (d k : Nat) (vk : AV) (ns : List Str) (o : Out) (ex : Nat) (fr' : Frame) (h' : Heap) : Prop := o = .exit ex ∧ fr' 1 = .ptr 0 1 0 0 ∧ fr' k = vk ∧ 1 ≤ h'.length ∧ h'[0]? = some e0 ∧ ∃ b', 1 ≤ b' ∧ Own h' 9 1 b' (fr' d) (strs ns)

theorem aloneLoop1 (l : List Glob) (hl : l.length ≤ 6) (ns : List Str) (hns : l.map (·.name) = ns) (e0 : Ent) (v4 : AV) : ∀ (m i : Nat) (fr : Frame) (h : Heap) (b : Nat), i + m = l.length → fr 12 = mkRo 2 (l.map encG) → fr 13 = I l.length → fr 14 = I i → fr 1 = .ptr 0 1 0 0 → fr 4 = v4 → 1 ≤ h.length → h[0]? = some e0 →
      Own h 9 1 b (fr 3) (strs (ns.take i)) → 1 ≤ b →
    Sat (itW (exec (ctxW prg) 0 0 gl12_1) fr h) fun o fr' h' => Left e0 3 4 v4 ns o 0 fr' h' := by
  have hlen : ns.length = l.length := by rw [← hns]; simp
  intro m
  induction m with
  | zero =>
    intro i fr h b hi h12 h13 h14 h1 h4 hh h0 ho hb
    refine sat_it ?_
    have hlt : ¬ ((i : Int) < (l.length : Int)) := by omega
    simp [gl12_1, h13, h14, hlt]
    rw [List.take_of_length_le (by omega)] at ho
    exact ⟨rfl, by simp [h1], by simp [h4], hh, h0, b, hb, by simpa using ho⟩
  | succ m ih =>
    intro i fr h b hi h12 h13 h14 h1 h4 hh h0 ho hb
    refine sat_it ?_
    have hlt : ((i : Int) < (l.length : Int)) := by omega
    have hil : i < l.length := by omega
    obtain ⟨x, hx⟩ : ∃ x, l[i]? = some x := ⟨_, List.getElem?_eq_getElem hil⟩
    have ha := iaddr_mkRo (sz := 2) .i64 (i := (i : Int)) (xs := l.map encG) (e := encG x) rfl (by rw [List.getElem?_map, hx]; rfl)
    have hw : IntKind.wrap .i64 ((i : Int) + 1) = ((i + 1 : Nat) : Int) := by rw [wrap64 (by omega) (by omega)]; omega
    have htake : ns.take (i + 1) = ns.take i ++ [x.name] := by
      rw [List.take_add_one, ← hns, List.getElem?_map, hx]; rfl
    simp [gl12_1, h12, h13, h14, hlt, ha, encG]
    generalize hA : appendAV _ 0 0 _ _ _ (fr 3) _ = A
    obtain ⟨b', v', h', rfl, o', hk', hl', hp'⟩ := Own.appended hA ho.app hb (by simp) (by simp) (by simp [most]; omega) (by simp)
    simp [hw, h14]
    refine ih (i + 1) _ h' b' ?_ ?_ ?_ ?_ ?_ ?_ ?_ ?_ ?_ hk'
    · omega
    · simp [h12]
    · simp [h13]
    · simp
    · simp [h1]
    · simp [h4]
    · simp at hl'; omega
    · rw [hp' 0 (by simp) (by omega), getE_left (by omega)]
      exact h0
    · rw [htake, strs_app]
      simpa using o'

theorem aloneLoop2 (l : List Arr) (hl : l.length ≤ 3) (pre : List Str) (hpre : pre.length ≤ 6) (ns : List Str) (hns : l.map (·.name) = ns) (e0 : Ent) (v4 : AV) : ∀ (m i : Nat) (fr : Frame) (h : Heap) (b : Nat), i + m = l.length → fr 25 = mkRo 2 (l.map encA) → fr 26 = I l.length → fr 27 = I i → fr 1 = .ptr 0 1 0 0 → fr 4 = v4 → 1 ≤ h.length → h[0]? = some e0 →
      Own h 9 1 b (fr 3) (strs (pre ++ ns.take i)) → 1 ≤ b →
    Sat (itW (exec (ctxW prg) 0 0 gl12_2) fr h) fun o fr' h' => Left e0 3 4 v4 (pre ++ ns) o 2 fr' h' := by
  have hlen : ns.length = l.length := by rw [← hns]; simp
  intro m
  induction m with
  | zero =>
    intro i fr h b hi h12 h13 h14 h1 h4 hh h0 ho hb
    refine sat_it ?_
    have hlt : ¬ ((i : Int) < (l.length : Int)) := by omega
    simp [gl12_2, h13, h14, hlt]
    rw [List.take_of_length_le (by omega)] at ho
    exact ⟨rfl, by simp [h1], by simp [h4], hh, h0, b, hb, by simpa using ho⟩
  | succ m ih =>
    intro i fr h b hi h12 h13 h14 h1 h4 hh h0 ho hb
    refine sat_it ?_
    have hlt : ((i : Int) < (l.length : Int)) := by omega
    have hil : i < l.length := by omega
    obtain ⟨x, hx⟩ : ∃ x, l[i]? = some x := ⟨_, List.getElem?_eq_getElem hil⟩
    have ha := iaddr_mkRo (sz := 2) .i64 (i := (i : Int)) (xs := l.map encA) (e := encA x) rfl (by rw [List.getElem?_map, hx]; rfl)
    have hw : IntKind.wrap .i64 ((i : Int) + 1) = ((i + 1 : Nat) : Int) := by rw [wrap64 (by omega) (by omega)]; omega
    have htake : pre ++ ns.take (i + 1) = (pre ++ ns.take i) ++ [x.name] := by
      rw [List.take_add_one, ← hns, List.getElem?_map, hx]; simp
    simp [gl12_2, h12, h13, h14, hlt, ha, encA]
    generalize hA : appendAV _ 0 0 _ _ _ (fr 3) _ = A
    obtain ⟨b', v', h', rfl, o', hk', hl', hp'⟩ := Own.appended hA ho.app hb (by simp) (by simp) (by simp [most]; omega) (by simp)
    simp [hw, h14]
    refine ih (i + 1) _ h' b' ?_ ?_ ?_ ?_ ?_ ?_ ?_ ?_ ?_ hk'
    · omega
    · simp [h12]
    · simp [h13]
    · simp
    · simp [h1]
    · simp [h4]
    · simp at hl'; omega
    · rw [hp' 0 (by simp) (by omega), getE_left (by omega)]
      exact h0
    · rw [htake, strs_app]
      simpa using o'

/-- The third loop: threads. -/
theorem aloneLoop3 (l : List Thr) (hl : l.length ≤ 4) (sh : List Str) (hsh : sh.length ≤ 15) (hloc : ∀ t ∈ l, t.locals.length ≤ 6) (ns : List Str) (hns : l.map (·.name) = ns) (r : Bool) (hr : (l.all fun t => !twiceS (sh ++ t.locals)) = r) (v3 : AV) :
    ∀ (m i : Nat) (fr : Frame) (h : Heap) (b b3 : Nat), i + m = l.length → fr 42 = mkRo 3 (l.map encT) → fr 43 = I l.length → fr 44 = I i → fr 3 = v3 → Own h 9 1 b3 v3 (strs sh) → b3 < h.length →
      Own h 9 1 b (fr 4) (strs (ns.take i)) → b ≠ b3 → b3 + 1 ≤ b → (∀ t ∈ l.take i, twiceS (sh ++ t.locals) = false) →
    Sat (itW (exec (ctxW prg) 0 0 gl12_3) fr h) fun o fr' h' => (o = .ret ∧ fr' 2 = .bool false ∧ r = false) ∨ (o = .exit 4 ∧ r = true ∧ ∃ b', Own h' 9 1 b' (fr' 4) (strs ns)) := by
  have hlen : ns.length = l.length := by rw [← hns]; simp
  intro m
  induction m with
  | zero =>
    intro i fr h b b3 hi h42 h43 h44 h3 ho3 hb3 ho hne hbb hn
    refine sat_it ?_
    have hlt : ¬ ((i : Int) < (l.length : Int)) := by omega
    rw [List.take_of_length_le (by omega)] at ho hn
    have : r = true := by
      rw [← hr, List.all_eq_true]
      intro t ht
      simp [hn t ht]
    simp [gl12_3, h43, h44, hlt, this]
    exact ⟨b, by simpa using ho⟩
  | succ m ih =>
    intro i fr h b b3 hi h42 h43 h44 h3 ho3 hb3 ho hne hbb hn
    refine sat_it ?_
    have hlt : ((i : Int) < (l.length : Int)) := by omega
    have hil : i < l.length := by omega
    obtain ⟨x, hx⟩ : ∃ x, l[i]? = some x := ⟨_, List.getElem?_eq_getElem hil⟩
    have hxm := List.mem_of_getElem? hx
    have ha := iaddr_mkRo (sz := 3) .i64 (i := (i : Int)) (xs := l.map encT) (e := encT x) rfl (by rw [List.getElem?_map, hx]; rfl)
    have hw : IntKind.wrap .i64 ((i : Int) + 1) = ((i + 1 : Nat) : Int) := by rw [wrap64 (by omega) (by omega)]; omega
    have htake : ns.take (i + 1) = ns.take i ++ [x.name] := by
      rw [List.take_add_one, ← hns, List.getElem?_map, hx]; rfl
    simp [gl12_3, h42, h43, h44, hlt, ha, encT]
    generalize hA : appendAV _ 0 0 _ _ _ (fr 4) _ = A
    obtain ⟨b', v', h', rfl, o', hk', hl', hp', hq'⟩ := Own.grown (k := b3 + 1) hA ho hbb (by omega) (by simp) (by simp [most]; omega) (by simp)
    have hlen' : h.length + 2 ≤ h'.length := by simpa using hl'
    have hlt' : h.length < h'.length := by omega
    have hX := hq' 0 (by simp)
    simp only [Nat.add_zero, List.getElem?_cons_zero] at hX
    have hset := set_same hX
    have hX' := hX
    rw [List.getElem?_eq_getElem hlt', Option.some.injEq] at hX'
    have ho3' : Own h' 9 1 b3 v3 (strs sh) := ho3.keep fun e he => hp' b3 hb3 (by omega)
    have hne3 : h.length ≠ b3 := by omega
    have o3h : ∀ l : Heap, Own (h'.set h.length .hid ++ l) 9 1 b3 v3 (strs sh) := fun l => Own.app (ho3'.keep fun e he => List.getElem?_set_ne hne3)
    have hloc1 := hloc x hxm
    have hrd : ∀ H : Heap, readSl H 1 (encStrs x.locals) = some (strs x.locals) := fun H => readSl_mkRo H 1 _
    have hsz : (sh ++ x.locals).length < big := by
      have : (sh ++ x.locals).length ≤ 21 := by simp; omega
      show (sh ++ x.locals).length < 9223372036854775808
      omega
    have htw : ∀ (H : Heap) (b : Nat) (v : AV) (lo base tgt : Nat), Own H 9 1 b v (strs (sh ++ x.locals)) → callW prg 32 lo base tgt [v] H = some (.bool (twiceS (sh ++ x.locals)), H) := fun H b v lo base tgt o => cTwiceOwn o hsz lo base tgt
    have hnext : twiceS (sh ++ x.locals) = false → ∀ t ∈ l.take (i + 1), twiceS (sh ++ t.locals) = false := by
      intro ht t hm
      rw [List.take_add_one, hx, List.mem_append] at hm
      rcases hm with hm | hm
      · exact hn t hm
      · have : t = x := by simpa using hm
        subst this
        exact ht
    have hrf : twiceS (sh ++ x.locals) = true → r = false := by
      intro ht
      rw [← hr]
      exact List.all_eq_false.2 ⟨x, hxm, by simp [ht]⟩
    have stepB : ∀ (fr' : Frame) (G : Heap), twiceS (sh ++ x.locals) = false → fr' 42 = mkRo 3 (l.map encT) → fr' 43 = I l.length → fr' 44 = I (i + 1 : Nat) → fr' 3 = v3 → fr' 4 = v' →
        Sat (itW (exec (ctxW prg) 0 0 gl12_3) fr' (h' ++ G)) fun o fr' h' => (o = .ret ∧ fr' 2 = .bool false ∧ r = false) ∨ (o = .exit 4 ∧ r = true ∧ ∃ b', Own h' 9 1 b' (fr' 4) (strs ns)) := by
      intro fr' G ht q1 q2 q3 q4 q5
      refine ih (i + 1) fr' (h' ++ G) b' b3 (by omega) q1 q2 q3 q4 (ho3'.app) (by simp; omega) ?_ (by omega) hk' (hnext ht)
      rw [q5, htake, strs_app]
      exact o'.app
    by_cases hs : sh = []
    · have hcl := fun l lo base tgt => cClone (o3h l) (by simp [most]; omega) lo base tgt _ rfl (.emp, h'.set h.length .hid ++ l) (by simp [hs])
      by_cases hloc0 : x.locals = []
      · have ht : twiceS (sh ++ x.locals) = false := by simp [hs, hloc0, twiceS]
        have hc2 := fun (H : Heap) lo base tgt => htw H 0 .emp lo base tgt (by simp [hs, hloc0, strs]; exact Own.emp _ _ _ _)
        rw [ht] at hc2
        have hl0 : strs x.locals = [] := by simp [hloc0, strs]
        simp [h3, hcl, hlt', hX, hX', hset, hrd, hl0, hc2, trim_app, hw, h44]
        have h1 := fun fr' => stepB fr' []
        simp only [List.append_nil] at h1
        refine h1 _ ht ?_ ?_ ?_ ?_ ?_ <;> simp [h42, h43, h3]
      · have hc2 := fun (H : Heap) (b : Nat) lo base tgt (o : H[b]? = some (.live ⟨9, 1, false, strs x.locals⟩)) => htw H b (.sl 1 b x.locals.length 0 x.locals.length) lo base tgt (by simp only [hs, List.nil_append]; exact .inr ⟨by simp, o⟩)
        have hl0 : strs x.locals ≠ [] := by simpa [strs] using hloc0
        have hl1 : x.locals.length ≤ most := by simp [most]; omega
        cases ht : twiceS (sh ++ x.locals)
        · rw [ht] at hc2
          simp [h3, hcl, hlt', hX, hX', hset, hrd, hl0, hl1, hc2, trim_app, hw, h44]
          refine stepB _ _ ht ?_ ?_ ?_ ?_ ?_ <;> simp [h42, h43, h3]
        · rw [ht] at hc2
          simp [h3, hcl, hlt', hX, hX', hset, hrd, hl0, hl1, hc2, trim_app, hw, h44]
          exact hrf ht
    · have hsl : strs sh ≠ [] := by simpa [strs] using hs
      have hcl := fun lo base => cClone (o3h [.free, .free, .free, .free, .free]) (by simp [most]; omega) lo base h'.length _ rfl (.sl 1 h'.length sh.length 0 sh.length, h'.set h.length .hid ++ [.live ⟨9, 1, false, strs sh⟩, .free, .free, .free, .free]) (by simp [hs, strs])
      have hap := fun tgt => app_own (lo := 0) (base := 0) (tgt := tgt) (h := h' ++ [.live ⟨9, 1, false, strs sh⟩, .free, .free, .free, .free]) (ty := 9) (sz := 1) (sz' := 1) (b := h'.length) (g := sh.length) (len := sh.length) (ys := strs x.locals) (es := strs sh) (by simp) (by simp) rfl (Nat.zero_le _) (Nat.zero_le _) (by simp [most]; omega) (by simp [strs])
      have hc2 := fun (H : Heap) (b : Nat) lo base tgt (o : H[b]? = some (.live ⟨9, 1, false, strs sh ++ strs x.locals⟩)) => htw H b (.sl 1 b (sh.length + x.locals.length) 0 (sh.length + x.locals.length)) lo base tgt (.inr ⟨by simp, by rw [o]; simp [strs]⟩)
      cases ht : twiceS (sh ++ x.locals)
      · rw [ht] at hc2
        simp [h3, hcl, hlt', hX, hX', hset, hrd, hap, hc2, trim_app, hw, h44]
        refine stepB _ _ ht ?_ ?_ ?_ ?_ ?_ <;> simp [h42, h43, h3]
      · rw [ht] at hc2
        simp [h3, hcl, hlt', hX, hX', hset, hrd, hap, hc2, trim_app, hw, h44]
        exact hrf ht
end Go.Abs.T

/- What the program's functions of package check answer, part 6: Check. -/
set_option maxRecDepth 100000
set_option linter.unusedSimpArgs false
set_option linter.unusedVariables false
namespace Go.Abs.T
open Go.Proofs.YtnpfhbhhbdegfaaDoor

theorem vAlone (p : Prg') (hp : okP p) (hf : fitsOk p = true) : Val prg 12 [encP p] (.bool (aloneOk p)) := by
  simp only [fitsOk, Bool.and_eq_true, decide_eq_true_eq, List.all_eq_true] at hf
  obtain ⟨⟨⟨⟨f1, f2⟩, f3⟩, f4⟩, f5⟩ := hf
  refine Val.of_sat (fn := gc12) rfl rfl rfl ?_
  simp only [aloneOk]
  generalize hr : (p.threads.all fun t => !twiceS (sharedS p ++ t.locals)) = r
  generalize hns : p.threads.map (·.name) = ns
  have hnl : ns.length ≤ 4 := by rw [← hns]; simpa using f4
  generalize hg : p.globals.map (·.name) = gs
  generalize ha : p.arrays.map (·.name) = ars
  have hgl : gs.length ≤ 6 := by rw [← hg]; simpa using f1
  have hal : ars.length ≤ 3 := by rw [← ha]; simpa using f2
  have hshared : sharedS p = gs ++ ars ++ p.mutexes := by rw [← hg, ← ha]; rfl
  generalize hP : (AV.agg [mkRo 2 (p.globals.map encG), mkRo 2 (p.arrays.map encA), encStrs p.mutexes, mkRo 3 (p.threads.map encT)]) = P0
  have hP' : encP p = P0 := hP
  have hPc : P0.cells = [mkRo 2 (p.globals.map encG), mkRo 2 (p.arrays.map encA), encStrs p.mutexes, mkRo 3 (p.threads.map encT)] := by rw [← hP]; rfl
  rw [hP']
  simp [gc12, hPc]
  refine sat_then (sat_blk ((aloneLoop1 p.globals f1 gs hg (.live ⟨27, 4, false, [P0]⟩) .emp p.globals.length 0 _ _ 1 (by omega) ?_ ?_ ?_ ?_ ?_ ?_ ?_ ?_ ?_).mono ?_))
  · simp
  · simp
  · simp
  · simp
  · simp
  · simp
  · simp
  · simp [strs]; exact Own.emp _ _ _ _
  · omega
  rintro o fr h ⟨rfl, h1, h4, hh, h0, b, hb, ho⟩
  simp only [blkQ_exit, if_true, thenQ_normal]
  have e0 : h[0]'(by omega) = .live ⟨27, 4, false, [P0]⟩ := by
    rw [List.getElem?_eq_getElem (by omega), Option.some.injEq] at h0
    exact h0
  simp [h1, h4, h0, e0, hPc]
  refine sat_then (sat_blk ((aloneLoop2 p.arrays f2 gs hgl ars ha (.live ⟨27, 4, false, [P0]⟩) .emp p.arrays.length 0 _ h b (by omega) ?_ ?_ ?_ ?_ ?_ hh h0 ?_ hb).mono ?_))
  · simp
  · simp
  · simp
  · simp [h1]
  · simp [h4]
  · simpa using ho
  rintro o fr2 h2 ⟨rfl, h21, h24, hh2, h20, b2, hb2, ho2⟩
  simp only [blkQ_exit, if_true, thenQ_normal]
  have e2 : h2[0]'(by omega) = .live ⟨27, 4, false, [P0]⟩ := by
    rw [List.getElem?_eq_getElem (by omega), Option.some.injEq] at h20
    exact h20
  have hrd : ∀ H : Heap, readSl H 1 (encStrs p.mutexes) = some (strs p.mutexes) := fun H => readSl_mkRo H 1 _
  simp [h21, h24, h20, e2, hPc, hrd]
  generalize hA : appendAV h2 0 0 _ _ _ (fr2 3) _ = A
  have hA' : appendAV (h2 ++ []) 0 0 h2.length 9 1 (fr2 3) (strs p.mutexes) = A := by rw [List.append_nil]; exact hA
  obtain ⟨b3, v3, h3, rfl, o3, hk3, hl3, hp3, -⟩ := Own.grown (k := 1) hA' ho2 hb2 hh2 (by simp) (by simp [most]; omega) (by simp [strs])
  have hl3' : h2.length ≤ h3.length := by simpa using hl3
  have h30 : h3[0]? = some (.live ⟨27, 4, false, [P0]⟩) := (hp3 0 (by omega) (by omega)).trans h20
  have e3 : h3[0]'(by omega) = .live ⟨27, 4, false, [P0]⟩ := by
    rw [List.getElem?_eq_getElem (by omega), Option.some.injEq] at h30
    exact h30
  have o3' : Own h3 9 1 b3 v3 (strs (sharedS p)) := by
    rw [hshared]
    simpa [strs] using o3
  simp [h21, h24, h30, e3, hPc]
  obtain ⟨b4, hb4, o4⟩ : ∃ b4, b4 < h3.length ∧ Own h3 9 1 b4 v3 (strs (sharedS p)) := by
    rcases o3' with ⟨q1, q2⟩ | ⟨q1, q2⟩
    · exact ⟨0, by omega, .inl ⟨q1, q2⟩⟩
    · exact ⟨b3, lt_of_live q2, .inr ⟨q1, q2⟩⟩
  refine sat_then (sat_blk ((aloneLoop3 p.threads f4 (sharedS p) (by rw [hshared]; simp; omega) (fun t ht => f5 t ht) ns hns r hr v3 p.threads.length 0 _ h3 (b4 + 1) b4 (by omega) ?_ ?_ ?_ ?_ o4 hb4 ?_ (by omega) (by omega) (by simp)).mono ?_))
  · simp
  · simp
  · simp
  · simp
  · simp [h24, strs]; exact Own.emp _ _ _ _
  rintro o fr4 h4' (⟨rfl, h42, rfl⟩ | ⟨rfl, rfl, b5, o5⟩)
  · simp [h42]
  · have ht := cTwiceOwn o5 (by show ns.length < 9223372036854775808; omega)
    simp [ht]
theorem cAlone (p : Prg') (hp : okP p) (hf : fitsOk p = true) (lo base tgt : Nat) (h : Heap) : callW prg 12 lo base tgt [encP p] h = some (.bool (aloneOk p), h) := Val.c1 (vAlone p hp hf) (plainP p) _ _ _ _
theorem cFitsP (p : Prg') (hp : okP p) (lo base tgt : Nat) (h : Heap) : callW prg 10 lo base tgt [encP p] h = some (.bool (fitsOk p), h) := Val.c1 (vFitsP p hp) (plainP p) _ _ _ _
theorem cFormP (p : Prg') (hp : okP p) (lo base tgt : Nat) (h : Heap) : callW prg 11 lo base tgt [encP p] h = some (.bool (formOk p), h) := Val.c1 (vFormP p hp) (plainP p) _ _ _ _

theorem vCheck (p : Prg') (hp : okP p) : Val prg 7 [encP p] (I (checkS p)) := by
  have c1 := cFitsP p hp
  have c2 := cFormP p hp
  refine Val.of_sat (fn := gc7) rfl rfl rfl ?_
  unfold checkS
  cases hf : fitsOk p
  · rw [hf] at c1
    simp only [encP] at c1 ⊢
    simp [gc7, c1]
  · rw [hf] at c1
    cases h2 : formOk p
    · rw [h2] at c2
      simp only [encP] at c1 c2 ⊢
      simp [gc7, c1, c2]
    · rw [h2] at c2
      have c3 := cAlone p hp hf
      cases h3 : aloneOk p
      · rw [h3] at c3
        simp only [encP] at c1 c2 c3 ⊢
        simp [gc7, c1, c2, c3]
      · rw [h3] at c3
        have hF : Plain (.fn 14 [] [.rp 4 (encP p) 0]) := ⟨by simp [(plainP p).cl], by simp⟩
        have hall := all_map (f := 13) (g := 35) (cf := 34) (ix := 63) (l := p.threads) (enc := encT) (q := fun t => stmtsUse p t t.body) (n := 3) (agg := true) ⟨rfl, rfl, rfl⟩ ⟨rfl, rfl, rfl⟩ ⟨rfl, rfl, rfl⟩ ⟨rfl, rfl, rfl⟩ hF.cl hF.can rfl (fun x hx lo base tgt h => by
          rw [callAV_fn]
          exact Val.c2 (vCheck1 p x hp (hp.thr x hx)) (plainT x) ⟨by simp [(plainP p).cl], by simp⟩ _ _ _ _) (fun x _ => ⟨Elem.agg, rfl⟩) hp.threads (plain_map fun x _ => plainT x).1 (plain_map fun x _ => plainT x).2
        have hg := plain_ro (sz := 3) (f := encT) (l := p.threads) fun x _ => plainT x
        have hcl := hg.cl
        rw [closed_mkRo] at hcl
        have hpc := (plainP p).cl
        generalize (p.threads.all fun t => stmtsUse p t t.body) = bu at *
        simp only [encP] at c1 c2 c3 hall hpc ⊢
        simp [gc7, c1, c2, c3]
        rw [hall.callG (h2 := _) (as0 := [mkRo 3 (p.threads.map encT), .fn 14 [] [.rp 4 (.agg [mkRo 2 (p.globals.map encG), mkRo 2 (p.arrays.map encA), encStrs p.mutexes, mkRo 3 (p.threads.map encT)]) 0]]) (by simp [hcl, hpc]) (by simp only [List.map_cons, List.map_nil, hg.can]; simp) (by simp; rfl)]
        cases bu <;> simp
theorem cCheck (p : Prg') (hp : okP p) (lo base tgt : Nat) (h : Heap) : callW prg 7 lo base tgt [encP p] h = some (I (checkS p), h) := Val.c1 (vCheck p hp) (plainP p) _ _ _ _
end Go.Abs.T
