/- Concrete runs of the laws: what is known; CheckNames. -/
import Derived.Test.YtnpfhbhhbdegfaaDoorMT
import Derived.Test.YtnpfhbhhbdegfaaDoorME
import Derived.Test.YtnpfhbhhbdegfaaDoorMU
set_option maxRecDepth 100000
namespace Go.Abs.T
open Go.Proofs.YtnpfhbhhbdegfaaDoor
def toldK (f : Nat) : Option (Nat → Nat → Nat → List AV → Heap → Option (AV × Heap)) := if f == 25 then some nameX else none
theorem toldK_ok : ∀ f e, toldK f = some e → ∀ lo base tgt args h r, e lo base tgt args h = some r → callW prg f lo base tgt args h = some r := by
  intro f e he lo base tgt args h r hr
  unfold toldK at he
  split at he
  · rename_i hf
    have hf : f = 25 := by simpa using hf
    subst hf
    cases he
    unfold nameX at hr
    split at hr
    · cases hr; exact cName _ _ _ _ _
    · cases hr
  · cases he
theorem vKnown : Val prg 8 [] (.bool true) := Val.of_told (k := 60) (fn := gc8) toldK_ok rfl rfl rfl (by kernel_rfl)
theorem cKnown (lo base tgt : Nat) (h : Heap) : callW prg 8 lo base tgt [] h = some (.bool true, h) := vKnown.call rfl rfl
def toldT (f : Nat) : Option (Nat → Nat → Nat → List AV → Heap → Option (AV × Heap)) := if f == 8 then some trueX else toldK f
theorem toldT_ok : ∀ f e, toldT f = some e → ∀ lo base tgt args h r, e lo base tgt args h = some r → callW prg f lo base tgt args h = some r := by
  intro f e he lo base tgt args h r hr
  unfold toldT at he
  split at he
  · rename_i hf
    have hf : f = 8 := by simpa using hf
    subst hf
    cases he
    unfold trueX at hr
    split at hr
    · cases hr; exact cKnown _ _ _ _
    · cases hr
  · exact toldK_ok f e he lo base tgt args h r hr
end Go.Abs.T

/- CheckKinds. -/
set_option maxRecDepth 100000
set_option linter.unusedSimpArgs false
namespace Go.Abs.T
open Go.Proofs.YtnpfhbhhbdegfaaDoor

theorem cCheckG (p : Prg') (hp : okP p) {lo base tgt : Nat} {h : Heap} {args as0 : List AV} (he : mapO (embed h 0 0 depth) args = some as0) (hc : as0.map AV.canon = [encP p]) : callW prg 7 lo base tgt args h = some (I (checkS p), h) :=
  (vCheck p hp).callG he hc (by simp)
theorem crCheckG (p : Prg') (hp : okP p) {lo base tgt : Nat} {h : Heap} {args as0 : List AV} (he : mapO (embed h 0 0 depth) args = some as0) (hc : as0.map AV.canon = [encP p]) : callW prg 9 lo base tgt args h = some (I (checkS p), h) :=
  (rCheck p hp).callG he hc (by simp)
def exp0 : Expr := .mk 0 0 0 [] []
def cond0 : Cond := .mk 0 0 [] []
def kindS (s : Str) (u : Int) : Stmt := if u = 1 then .mk 3 s exp0 exp0 cond0 [] [] else if u = 2 then .mk 1 [118] exp0 (.mk 3 0 0 s [.mk 1 0 0 [] []]) cond0 [] [] else .mk 1 [118] exp0 (.mk 2 0 0 s []) cond0 [] []
def kindP (s : Str) (u : Int) (ls : List Str) : Prg' := ⟨[⟨[103], 0⟩], [⟨[97], 1⟩], [[109]], [⟨[116], ls, [kindS s u]⟩]⟩
theorem kindP_ok (s : Str) (u : Int) (ls : List Str) (hs : s.length < big) (hl : ls.length < big) (hl2 : ∀ t ∈ ls, t.length < big) : okP (kindP s u ls) := by
  have h0 : (0 : Nat) < big := by decide
  have h1 : (1 : Nat) < big := by decide
  refine ⟨h1, ?_, h1, ?_, h1, ?_, h1, ?_⟩
  · intro g hg; simp [kindP] at hg; subst hg; exact h1
  · intro g hg; simp [kindP] at hg; subst hg; exact h1
  · intro g hg; simp [kindP] at hg; subst hg; exact h1
  · intro t ht; simp [kindP] at ht; subst ht
    refine ⟨h1, hl, hl2, h1, ?_⟩
    intro x hx
    simp at hx
    subst hx
    unfold kindS
    split
    · simp [okS, okE, okEL, okC, okCL, okSL, exp0, cond0, hs, h1]
    · split
      · simp [okS, okE, okEL, okC, okCL, okSL, exp0, cond0, hs, h1]
      · simp [okS, okE, okEL, okC, okCL, okSL, exp0, cond0, hs, h1]
theorem place1 (s t : Str) : (0 ≤ placeS s [t]) ↔ s = t := by
  by_cases h : s = t <;> simp [placeS, h, List.findIdx?_cons]
theorem kinds_0 (s : Str) : checkS (kindP s 0 [[118]]) = if nameS s then (if s = [103] ∨ s = [118] then 0 else 6) else 2 := by
  have e1 : nameS [103] = true := rfl
  have e2 : nameS [97] = true := rfl
  have e3 : nameS [109] = true := rfl
  have e4 : nameS [116] = true := rfl
  have e5 : nameS [118] = true := rfl
  simp only [checkS, fitsOk, formOk, aloneOk, kindP, kindS]
  cases hn : nameS s <;> simp [fits32, stmtsOk, stmtOk, exprOk, exprsOk, e1, e2, e3, e4, e5, hn, twiceS, sharedS, stmtsUse, stmtUses, exprUses, exprsUse, isVarS, locS, globS, place1]
  by_cases h1 : s = [103]
  · simp [h1]
  · by_cases h2 : s = [118] <;> simp [h1, h2]
theorem kinds_1 (s : Str) : checkS (kindP s 1 [[118]]) = if nameS s then (if s = [109] then 0 else 6) else 2 := by
  have e1 : nameS [103] = true := rfl
  have e2 : nameS [97] = true := rfl
  have e3 : nameS [109] = true := rfl
  have e4 : nameS [116] = true := rfl
  have e5 : nameS [118] = true := rfl
  simp only [checkS, fitsOk, formOk, aloneOk, kindP, kindS]
  cases hn : nameS s <;> simp [fits32, stmtsOk, stmtOk, exprOk, exprsOk, e1, e2, e3, e4, e5, hn, twiceS, sharedS, stmtsUse, stmtUses, exprUses, exprsUse, isVarS, locS, globS, mutS, place1]
theorem kinds_2 (s : Str) : checkS (kindP s 2 [[118]]) = if nameS s then (if s = [97] then 0 else 6) else 2 := by
  have e1 : nameS [103] = true := rfl
  have e2 : nameS [97] = true := rfl
  have e3 : nameS [109] = true := rfl
  have e4 : nameS [116] = true := rfl
  have e5 : nameS [118] = true := rfl
  simp only [checkS, fitsOk, formOk, aloneOk, kindP, kindS]
  cases hn : nameS s <;> simp [fits32, stmtsOk, stmtOk, exprOk, exprsOk, e1, e2, e3, e4, e5, hn, twiceS, sharedS, stmtsUse, stmtUses, exprUses, exprsUse, isVarS, locS, globS, arrS, place1]
theorem kinds_tw (s : Str) (hn : nameS s = true) (u : Int) (hu : u = 0 ∨ u = 1 ∨ u = 2) : checkS (kindP s u [[118], [103]]) = 5 := by
  have e1 : nameS [103] = true := rfl
  have e2 : nameS [97] = true := rfl
  have e3 : nameS [109] = true := rfl
  have e4 : nameS [116] = true := rfl
  have e5 : nameS [118] = true := rfl
  rcases hu with rfl | rfl | rfl <;> simp only [checkS, fitsOk, formOk, aloneOk, kindP, kindS] <;>
  simp [fits32, stmtsOk, stmtOk, exprOk, exprsOk, e1, e2, e3, e4, e5, hn, twiceS, sharedS]
theorem mk5 : mkRo 5 [] = mkRo 0 [] := rfl
theorem mk4 : mkRo 4 [] = mkRo 0 [] := rfl
theorem mk18 : mkRo 18 [] = mkRo 0 [] := rfl
theorem cCheckS (p : Prg') (hp : okP p) {lo base tgt : Nat} {h : Heap} {args : List AV} (he : (mapO (embed h 0 0 depth) args).map (List.map AV.canon) = some [encP p]) : callW prg 7 lo base tgt args h = some (I (checkS p), h) := by
  obtain ⟨as0, e1, e2⟩ := Option.map_eq_some_iff.1 he
  exact cCheckG p hp e1 e2
theorem crCheckS (p : Prg') (hp : okP p) {lo base tgt : Nat} {h : Heap} {args : List AV} (he : (mapO (embed h 0 0 depth) args).map (List.map AV.canon) = some [encP p]) : callW prg 9 lo base tgt args h = some (I (checkS p), h) := by
  obtain ⟨as0, e1, e2⟩ := Option.map_eq_some_iff.1 he
  exact crCheckG p hp e1 e2
theorem vKinds0 (s : Str) (hs : s.length < big) : Val prg 4 [.str s, I 0] (.bool true) := by
  refine Val.of_sat (fn := gc4) rfl rfl rfl ?_
  have c1 := kindP_ok s 0 [[118]] hs (by decide) (by simp; decide)
  have c2 := kindP_ok s 0 [[118], [103]] hs (by decide) (by simp; decide)
  have hk := cKnown
  have d1 := fun lo base tgt h args he => @cCheckS (kindP s 0 [[118]]) c1 lo base tgt h args he
  have d2 := fun lo base tgt h args he => @cCheckS (kindP s 0 [[118], [103]]) c2 lo base tgt h args he
  have d3 := fun lo base tgt h args he => @crCheckS (kindP s 0 [[118]]) c1 lo base tgt h args he
  rw [kinds_0] at d1 d3
  by_cases a0 : s = [103]
  · subst a0
    have n1 : nameS [103] = true := rfl
    simp [n1] at d1 d3
    rw [kinds_tw _ n1 _ (by simp)] at d2
    simp [gc4, trim, d1, d2, d3, hk, encP, kindP, kindS, encT, encS_mk', encE_mk, encC_mk, exp0, cond0, encG, encA, encStrs, mk5, mk4, mk18, putPart_agg, splice]
  · skip
    by_cases a1 : s = [118]
    · subst a1
      have n1 : nameS [118] = true := rfl
      simp [n1] at d1 d3
      rw [kinds_tw _ n1 _ (by simp)] at d2
      simp [gc4, trim, d1, d2, d3, hk, encP, kindP, kindS, encT, encS_mk', encE_mk, encC_mk, exp0, cond0, encG, encA, encStrs, mk5, mk4, mk18, putPart_agg, splice]
    · skip
      cases hn : nameS s
      · simp [hn] at d1 d3
        by_cases hl : s.length ≤ 60
        · have hl' : ¬ (60 : Int) < s.length := by omega
          simp [gc4, trim, d1, d2, d3, hk, encP, kindP, kindS, encT, encS_mk', encE_mk, encC_mk, exp0, cond0, encG, encA, encStrs, mk5, mk4, mk18, putPart_agg, splice, a0, a1, hl']
        · have hl' : (60 : Int) < s.length := by omega
          simp [gc4, trim, d1, d2, d3, hk, encP, kindP, kindS, encT, encS_mk', encE_mk, encC_mk, exp0, cond0, encG, encA, encStrs, mk5, mk4, mk18, putPart_agg, splice, a0, a1, hl']
      · simp [hn, a0, a1] at d1 d3
        rw [kinds_tw _ hn _ (by simp)] at d2
        by_cases hl : s.length ≤ 60
        · have hl' : ¬ (60 : Int) < s.length := by omega
          simp [gc4, trim, d1, d2, d3, hk, encP, kindP, kindS, encT, encS_mk', encE_mk, encC_mk, exp0, cond0, encG, encA, encStrs, mk5, mk4, mk18, putPart_agg, splice, a0, a1, hl']
        · have hl' : (60 : Int) < s.length := by omega
          simp [gc4, trim, d1, d2, d3, hk, encP, kindP, kindS, encT, encS_mk', encE_mk, encC_mk, exp0, cond0, encG, encA, encStrs, mk5, mk4, mk18, putPart_agg, splice, a0, a1, hl']
theorem vKinds1 (s : Str) (hs : s.length < big) : Val prg 4 [.str s, I 1] (.bool true) := by
  refine Val.of_sat (fn := gc4) rfl rfl rfl ?_
  have c1 := kindP_ok s 1 [[118]] hs (by decide) (by simp; decide)
  have c2 := kindP_ok s 1 [[118], [103]] hs (by decide) (by simp; decide)
  have hk := cKnown
  have d1 := fun lo base tgt h args he => @cCheckS (kindP s 1 [[118]]) c1 lo base tgt h args he
  have d2 := fun lo base tgt h args he => @cCheckS (kindP s 1 [[118], [103]]) c2 lo base tgt h args he
  have d3 := fun lo base tgt h args he => @crCheckS (kindP s 1 [[118]]) c1 lo base tgt h args he
  rw [kinds_1] at d1 d3
  by_cases a0 : s = [109]
  · subst a0
    have n1 : nameS [109] = true := rfl
    simp [n1] at d1 d3
    rw [kinds_tw _ n1 _ (by simp)] at d2
    simp [gc4, trim, d1, d2, d3, hk, encP, kindP, kindS, encT, encS_mk', encE_mk, encC_mk, exp0, cond0, encG, encA, encStrs, mk5, mk4, mk18, putPart_agg, splice]
  · skip
    by_cases a1 : s = [103]
    · subst a1
      have n1 : nameS [103] = true := rfl
      simp [n1] at d1 d3
      rw [kinds_tw _ n1 _ (by simp)] at d2
      simp [gc4, trim, d1, d2, d3, hk, encP, kindP, kindS, encT, encS_mk', encE_mk, encC_mk, exp0, cond0, encG, encA, encStrs, mk5, mk4, mk18, putPart_agg, splice]
    · skip
      by_cases a2 : s = [118]
      · subst a2
        have n1 : nameS [118] = true := rfl
        simp [n1] at d1 d3
        rw [kinds_tw _ n1 _ (by simp)] at d2
        simp [gc4, trim, d1, d2, d3, hk, encP, kindP, kindS, encT, encS_mk', encE_mk, encC_mk, exp0, cond0, encG, encA, encStrs, mk5, mk4, mk18, putPart_agg, splice]
      · skip
        cases hn : nameS s
        · simp [hn] at d1 d3
          by_cases hl : s.length ≤ 60
          · have hl' : ¬ (60 : Int) < s.length := by omega
            simp [gc4, trim, d1, d2, d3, hk, encP, kindP, kindS, encT, encS_mk', encE_mk, encC_mk, exp0, cond0, encG, encA, encStrs, mk5, mk4, mk18, putPart_agg, splice, a0, a1, a2, hl']
          · have hl' : (60 : Int) < s.length := by omega
            simp [gc4, trim, d1, d2, d3, hk, encP, kindP, kindS, encT, encS_mk', encE_mk, encC_mk, exp0, cond0, encG, encA, encStrs, mk5, mk4, mk18, putPart_agg, splice, a0, a1, a2, hl']
        · simp [hn, a0, a1, a2] at d1 d3
          rw [kinds_tw _ hn _ (by simp)] at d2
          by_cases hl : s.length ≤ 60
          · have hl' : ¬ (60 : Int) < s.length := by omega
            simp [gc4, trim, d1, d2, d3, hk, encP, kindP, kindS, encT, encS_mk', encE_mk, encC_mk, exp0, cond0, encG, encA, encStrs, mk5, mk4, mk18, putPart_agg, splice, a0, a1, a2, hl']
          · have hl' : (60 : Int) < s.length := by omega
            simp [gc4, trim, d1, d2, d3, hk, encP, kindP, kindS, encT, encS_mk', encE_mk, encC_mk, exp0, cond0, encG, encA, encStrs, mk5, mk4, mk18, putPart_agg, splice, a0, a1, a2, hl']
theorem vKinds2 (s : Str) (hs : s.length < big) : Val prg 4 [.str s, I 2] (.bool true) := by
  refine Val.of_sat (fn := gc4) rfl rfl rfl ?_
  have c1 := kindP_ok s 2 [[118]] hs (by decide) (by simp; decide)
  have c2 := kindP_ok s 2 [[118], [103]] hs (by decide) (by simp; decide)
  have hk := cKnown
  have d1 := fun lo base tgt h args he => @cCheckS (kindP s 2 [[118]]) c1 lo base tgt h args he
  have d2 := fun lo base tgt h args he => @cCheckS (kindP s 2 [[118], [103]]) c2 lo base tgt h args he
  have d3 := fun lo base tgt h args he => @crCheckS (kindP s 2 [[118]]) c1 lo base tgt h args he
  rw [kinds_2] at d1 d3
  by_cases a0 : s = [97]
  · subst a0
    have n1 : nameS [97] = true := rfl
    simp [n1] at d1 d3
    rw [kinds_tw _ n1 _ (by simp)] at d2
    simp [gc4, trim, d1, d2, d3, hk, encP, kindP, kindS, encT, encS_mk', encE_mk, encC_mk, exp0, cond0, encG, encA, encStrs, mk5, mk4, mk18, putPart_agg, splice]
  · skip
    by_cases a1 : s = [103]
    · subst a1
      have n1 : nameS [103] = true := rfl
      simp [n1] at d1 d3
      rw [kinds_tw _ n1 _ (by simp)] at d2
      simp [gc4, trim, d1, d2, d3, hk, encP, kindP, kindS, encT, encS_mk', encE_mk, encC_mk, exp0, cond0, encG, encA, encStrs, mk5, mk4, mk18, putPart_agg, splice]
    · skip
      by_cases a2 : s = [118]
      · subst a2
        have n1 : nameS [118] = true := rfl
        simp [n1] at d1 d3
        rw [kinds_tw _ n1 _ (by simp)] at d2
        simp [gc4, trim, d1, d2, d3, hk, encP, kindP, kindS, encT, encS_mk', encE_mk, encC_mk, exp0, cond0, encG, encA, encStrs, mk5, mk4, mk18, putPart_agg, splice]
      · skip
        cases hn : nameS s
        · simp [hn] at d1 d3
          by_cases hl : s.length ≤ 60
          · have hl' : ¬ (60 : Int) < s.length := by omega
            simp [gc4, trim, d1, d2, d3, hk, encP, kindP, kindS, encT, encS_mk', encE_mk, encC_mk, exp0, cond0, encG, encA, encStrs, mk5, mk4, mk18, putPart_agg, splice, a0, a1, a2, hl']
          · have hl' : (60 : Int) < s.length := by omega
            simp [gc4, trim, d1, d2, d3, hk, encP, kindP, kindS, encT, encS_mk', encE_mk, encC_mk, exp0, cond0, encG, encA, encStrs, mk5, mk4, mk18, putPart_agg, splice, a0, a1, a2, hl']
        · simp [hn, a0, a1, a2] at d1 d3
          rw [kinds_tw _ hn _ (by simp)] at d2
          by_cases hl : s.length ≤ 60
          · have hl' : ¬ (60 : Int) < s.length := by omega
            simp [gc4, trim, d1, d2, d3, hk, encP, kindP, kindS, encT, encS_mk', encE_mk, encC_mk, exp0, cond0, encG, encA, encStrs, mk5, mk4, mk18, putPart_agg, splice, a0, a1, a2, hl']
          · have hl' : (60 : Int) < s.length := by omega
            simp [gc4, trim, d1, d2, d3, hk, encP, kindP, kindS, encT, encS_mk', encE_mk, encC_mk, exp0, cond0, encG, encA, encStrs, mk5, mk4, mk18, putPart_agg, splice, a0, a1, a2, hl']
theorem kinds_out (s : Str) (u : Int) (h : u < 0 ∨ 2 < u) : Val prg 4 [.str s, I u] (.bool true) := by
  refine Val.of_sat (fn := gc4) rfl rfl rfl ?_
  by_cases h0 : u < 0
  · simp [gc4, h0]
  · have h1 : 2 < u := by omega
    simp [gc4, h0, h1]
theorem kinds_true (s : Str) (hs : s.length < big) (u : Int) : ∃ h', callW prg 4 0 0 0 [.str s, I u] [] = some (.bool true, h') := by
  by_cases h : u < 0 ∨ 2 < u
  · exact ⟨[], (kinds_out s u h).call rfl rfl⟩
  · have : u = 0 ∨ u = 1 ∨ u = 2 := by omega
    rcases this with rfl | rfl | rfl
    · exact ⟨[], (vKinds0 s hs).call rfl rfl⟩
    · exact ⟨[], (vKinds1 s hs).call rfl rfl⟩
    · exact ⟨[], (vKinds2 s hs).call rfl rfl⟩
end Go.Abs.T
