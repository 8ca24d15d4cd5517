/- Go's library functions on slices, by their code. -/
import Derived.Test.YtnpfhbhhbdegfaaDoorE4
set_option linter.unusedSimpArgs false
set_option linter.unusedVariables false
namespace Go.Abs

/-- What is small enough to be counted by an int. -/
abbrev big : Nat := 4611686018427387904

section
variable {Q : Prg}

/-- Elements of n cells. -/
def Elem (agg : Bool) (n : Nat) (e : AV) : Prop := part agg n n 0 e = some e
theorem Elem.agg {n : Nat} {cs : List AV} : Elem true n (.agg cs) := part_whole
theorem Elem.one {e : AV} (h : e.isAgg = false) : Elem false 1 e := by
  simp only [Elem, part_false]
  cases e <;> first | rfl | (simp [AV.isAgg] at h)

/-- F is a function value that answers so of the elements. -/
structure Pred (Q : Prg) (F : AV) (es : List AV) (bs : List Bool) : Prop where
  cl : F.closed = true
  can : F.canon = F
  len : bs.length = es.length
  val : ∀ (i : Nat) (e : AV) (b : Bool), es[i]? = some e → bs[i]? = some b → ∀ lo base tgt h, callAV (callW Q) lo base tgt F [e] h = some (.bool b, h)

theorem Pred.map {α : Type} {F : AV} {l : List α} {enc : α → AV} {q : α → Bool} (h1 : F.closed = true) (h2 : F.canon = F) (h : ∀ x ∈ l, ∀ lo base tgt h, callAV (callW Q) lo base tgt F [enc x] h = some (.bool (q x), h)) : Pred Q F (l.map enc) (l.map q) :=
  ⟨h1, h2, by simp, fun i e b he hb => by
    rw [List.getElem?_map, Option.map_eq_some_iff] at he hb
    obtain ⟨x, hx, rfl⟩ := he
    obtain ⟨y, hy, rfl⟩ := hb
    rw [hx] at hy
    cases hy
    exact h x (List.mem_of_getElem? hx)⟩

def optI : Option Nat → Int
  | some j => j
  | none => -1
@[simp] theorem optI_some (j : Nat) : optI (some j) = j := rfl
@[simp] theorem optI_none : optI none = -1 := rfl
def fidx (bs : List Bool) : Int := optI (bs.findIdx? id)

/-! ### slices.IndexFunc -/
def ixLoop (agg : Bool) (n : Nat) : ACode := .seq (.region [
 ⟨(some 9), .bin .lss (.tmp 8) (.tmp 7), none⟩])
 (.seq (.cond (.tmp 9)
 (.skip)
 (.exit 0))
 (.seq (.block 1
 (.seq (.region [
 ⟨(some 10), .move (.tmp 8), none⟩,
 ⟨(some 5), .move (.tmp 10), none⟩])
 (.seq (.region [
 ⟨(some 11), .move (.tmp 1), none⟩,
 ⟨(some 12), .move (.tmp 0), none⟩,
 ⟨(some 13), .move (.tmp 5), none⟩,
 ⟨(some 14), .iaddr n (.tmp 12) (.tmp 13), none⟩,
 ⟨(some 15), .load agg n (.tmp 14), none⟩,
 ⟨(some 16), .call (.tmp 11) [(.tmp 15)], none⟩])
 (.cond (.tmp 16)
 (.seq (.region [
 ⟨(some 17), .move (.tmp 5), none⟩,
 ⟨(some 4), .move (.tmp 17), none⟩])
 (.ret))
 (.skip)))))
 (.region [
 ⟨(some 18), .bin .add (.tmp 8) (.val (.int .i64 1)), none⟩,
 ⟨(some 8), .move (.tmp 18), none⟩])))
def ixFn (agg : Bool) (n : Nat) : AFn := ⟨[.tmp 4],
 .seq (.region [
 ⟨(some 4), .move (.val (.int .i64 0)), none⟩])
 (.seq (.seq (.region [
 ⟨(some 6), .move (.tmp 0), none⟩,
 ⟨(some 7), .lenSl (.tmp 6), none⟩,
 ⟨(some 8), .move (.val (.int .i64 0)), none⟩])
 (.block 0
 (.loop (ixLoop agg n))))
 (.seq (.region [
 ⟨(some 4), .move (.val (.int .i64 (-1))), none⟩])
 (.ret)))⟩

theorem ixLoop_ok {agg : Bool} {n : Nat} {F : AV} {es : List AV} {bs : List Bool} (hF : Pred Q F es bs) (hE : ∀ e ∈ es, Elem agg n e) (hb : es.length < big) :
    ∀ (m i : Nat) (fr : Frame), i + m = es.length → fr 0 = mkRo n es → fr 1 = F → fr 7 = .int .i64 es.length → fr 8 = .int .i64 i → (∀ j, j < i → ∀ e, bs[j]? = some e → e = false) →
      Sat (itW (exec (ctxW Q) 0 0 (ixLoop agg n)) fr []) fun o fr' h' => h' = [] ∧ ((o = .ret ∧ fr' 4 = .int .i64 (fidx bs)) ∨ (o = .exit 0 ∧ fidx bs = -1)) := by
  have hlen := hF.len
  intro m
  induction m with
  | zero =>
    intro i fr hi h0 h1 h7 h8 hn
    refine sat_it ?_
    have hlt : ¬ ((i : Int) < (es.length : Int)) := by omega
    simp [ixLoop, h7, h8, hlt]
    have : bs.findIdx? id = none := by
      rw [List.findIdx?_eq_none_iff]
      intro x hx
      obtain ⟨j, hj⟩ := List.getElem?_of_mem hx
      exact hn j (by have := (List.getElem?_eq_some_iff.1 hj).1; omega) x hj
    simp [fidx, this]
  | succ m ih =>
    intro i fr hi h0 h1 h7 h8 hn
    refine sat_it ?_
    have hlt : ((i : Int) < (es.length : Int)) := by omega
    have hil : i < es.length := by omega
    obtain ⟨e, he⟩ : ∃ e, es[i]? = some e := ⟨_, List.getElem?_eq_getElem hil⟩
    obtain ⟨b, hbi⟩ : ∃ b, bs[i]? = some b := ⟨_, List.getElem?_eq_getElem (by omega)⟩
    have hm := List.mem_of_getElem? he
    have ha := iaddr_mkRo (sz := n) .i64 (i := (i : Int)) rfl he
    have hp := hE e hm
    unfold Elem at hp
    have hv := hF.val i e b he hbi
    have hw : IntKind.wrap .i64 ((i : Int) + 1) = ((i + 1 : Nat) : Int) := by rw [wrap64 (by omega) (by have : es.length < 4611686018427387904 := hb; omega)]; omega
    cases b
    · simp [ixLoop, h0, h1, h7, h8, hlt, ha, hp, hv, hw]
      refine ih (i + 1) _ (by omega) (by simp [h0]) (by simp [h1]) (by simp [h7]) (by simp) fun j hj e' he' => ?_
      by_cases hji : j < i
      · exact hn j hji e' he'
      · obtain rfl : j = i := by omega
        rw [hbi] at he'
        cases he'
        rfl
    · simp [ixLoop, h0, h1, h7, h8, hlt, ha, hp, hv]
      have : bs.findIdx? id = some i := by
        rw [List.findIdx?_eq_some_iff_getElem]
        refine ⟨by omega, ?_, fun j hj => ?_⟩
        · have hil' : i < bs.length := by omega
          rw [List.getElem?_eq_getElem hil', Option.some.injEq] at hbi; simp [hbi]
        · have := hn j hj _ (List.getElem?_eq_getElem (by omega))
          simp [this]
      simp [fidx, this]

theorem ix_ok {f : Nat} {agg : Bool} {n : Nat} (e1 : Q.ext f = none) (e2 : Q.fns f = some (ixFn agg n)) (e3 : Q.pol f = polP) {F : AV} {es : List AV} {bs : List Bool} (hF : Pred Q F es bs) (hE : ∀ e ∈ es, Elem agg n e) (hb : es.length < big) :
    Val Q f [mkRo n es, F] (.int .i64 (fidx bs)) := by
  refine Val.of_sat e1 e2 e3 ?_
  simp [ixFn]
  refine sat_then (sat_blk ?_)
  refine (ixLoop_ok hF hE hb es.length 0 _ (by omega) (by simp) (by simp) (by simp) (by simp) (by omega)).mono ?_
  rintro o fr h ⟨rfl, ⟨rfl, h4⟩ | ⟨rfl, h4⟩⟩
  · simp [h4]
  · simp [h4]

theorem fidx_any (bs : List Bool) : decide (0 ≤ fidx bs) = bs.any id := by
  unfold fidx
  cases h : bs.findIdx? id with
  | none =>
    rw [List.findIdx?_eq_none_iff] at h
    have : bs.any id = false := by simpa using h
    simp [this]
  | some j =>
    have : bs.any id = true := by
      rw [List.findIdx?_eq_some_iff_getElem] at h
      obtain ⟨hj, h1, _⟩ := h
      exact List.any_eq_true.2 ⟨_, List.getElem_mem hj, h1⟩
    simp [this]

/-! ### slices.ContainsFunc -/
def cfFn (ix : Nat) : AFn := ⟨[.tmp 4],
 .seq (.region [
 ⟨(some 4), .move (.val (.bool false)), none⟩])
 (.seq (.region [
 ⟨(some 5), .move (.tmp 0), none⟩,
 ⟨(some 6), .move (.tmp 1), none⟩,
 ⟨(some 7), .call (.val (.fn ix [] [])) [(.tmp 5), (.tmp 6)], none⟩,
 ⟨(some 8), .bin .geq (.tmp 7) (.val (.int .i64 0)), none⟩,
 ⟨(some 4), .move (.tmp 8), none⟩])
 (.ret))⟩
theorem cf_ok {f ix : Nat} {agg : Bool} {n : Nat} (i1 : Q.ext ix = none) (i2 : Q.fns ix = some (ixFn agg n)) (i3 : Q.pol ix = polP) (e1 : Q.ext f = none) (e2 : Q.fns f = some (cfFn ix)) (e3 : Q.pol f = polP) {F : AV} {es : List AV} {bs : List Bool} (hF : Pred Q F es bs) (hE : ∀ e ∈ es, Elem agg n e)
    (hb : es.length < big) (hc : AV.closedL es = true) (hk : es.map AV.canon = es) : Val Q f [mkRo n es, F] (.bool (bs.any id)) := by
  refine Val.of_sat e1 e2 e3 ?_
  have hx : ∀ lo base tgt h, callW Q ix lo base tgt [mkRo n es, F] h = some (.int .i64 (fidx bs), h) := fun lo base tgt h => (ix_ok i1 i2 i3 hF hE hb).call (by simp [hc, hF.cl]) (by simp [hk, hF.can])
  simp [cfFn, hx, fidx_any]

/-! ### 'all' by a function that says no -/
def allFn (box g cf : Nat) : AFn := ⟨[.tmp 4],
 .seq (.region [
 ⟨(some 3), .box box 1 [] (.tmp 1), none⟩,
 ⟨(some 4), .move (.val (.bool false)), none⟩])
 (.seq (.region [
 ⟨(some 5), .move (.tmp 0), none⟩,
 ⟨(some 6), .mkfn g [] [(.tmp 3)], none⟩,
 ⟨(some 7), .call (.val (.fn cf [] [])) [(.tmp 5), (.tmp 6)], none⟩,
 ⟨(some 8), .un .not (.tmp 7), none⟩,
 ⟨(some 4), .move (.tmp 8), none⟩])
 (.ret))⟩
def notFn (ty n : Nat) (agg : Bool) : AFn := ⟨[.tmp 3],
 .seq (.region [
 ⟨(some 2), .box ty n [] (.tmp 0), none⟩,
 ⟨(some 3), .move (.val (.bool false)), none⟩])
 (.seq (.region [
 ⟨(some 4), .load false 1 (.tmp 1), none⟩,
 ⟨(some 5), .load agg n (.tmp 2), none⟩,
 ⟨(some 6), .call (.tmp 4) [(.tmp 5)], none⟩,
 ⟨(some 7), .un .not (.tmp 6), none⟩,
 ⟨(some 3), .move (.tmp 7), none⟩])
 (.ret))⟩
def IsP (Q : Prg) (f : Nat) (fn : AFn) : Prop := Q.ext f = none ∧ Q.fns f = some fn ∧ Q.pol f = polP

theorem not_ok {f ty n : Nat} {agg : Bool} (e : IsP Q f (notFn ty n agg)) {F e0 : AV} {b : Bool} (hF1 : F.closed = true) (hF2 : F.isAgg = false) (hv : ∀ lo base tgt h, callAV (callW Q) lo base tgt F [e0] h = some (.bool b, h)) (hE : Elem agg n e0) (hl : e0.cells.length = n) :
    Val Q f [e0, .rp 1 F 0] (.bool (!b)) := by
  refine Val.of_sat e.1 e.2.1 e.2.2 ?_
  unfold Elem at hE
  have hc : F.cells[0]? = some F := by cases F <;> first | rfl | (simp [AV.isAgg] at hF2)
  simp [notFn, hl, hE, hc, hv]

theorem all_ok {f g cf ix box ty n : Nat} {agg : Bool} (ea : IsP Q f (allFn box g cf)) (eg : IsP Q g (notFn ty n agg)) (ec : IsP Q cf (cfFn ix)) (ei : IsP Q ix (ixFn agg n)) {F : AV} {es : List AV} {bs : List Bool} (hF : Pred Q F es bs) (hF2 : F.isAgg = false) (hE : ∀ e ∈ es, Elem agg n e ∧ e.cells.length = n)
    (hb : es.length < big) (hc : AV.closedL es = true) (hk : es.map AV.canon = es) : Val Q f [mkRo n es, F] (.bool (bs.all id)) := by
  refine Val.of_sat ea.1 ea.2.1 ea.2.2 ?_
  have hN : Pred Q (.fn g [] [.rp 1 F 0]) es (bs.map fun b => !b) := ⟨by simp [hF.cl], by simp, by simp [hF.len], fun i e b he hb lo base tgt h => by
    rw [callAV_fn]
    rw [List.getElem?_map, Option.map_eq_some_iff] at hb
    obtain ⟨b0, hb0, rfl⟩ := hb
    have hcl := closedL_iff.1 hc i e he
    have hcn : e.canon = e := by
      have := congrArg (fun l : List AV => l[i]?) hk
      simp only [List.getElem?_map, he, Option.map_some, Option.some.injEq] at this
      exact this
    have hm := List.mem_of_getElem? he
    exact (not_ok eg hF.cl hF2 (hF.val i e b0 he hb0) (hE e hm).1 (hE e hm).2).call (by simp [hcl, hF.cl]) (by simp [hcn])⟩
  have hx := cf_ok ei.1 ei.2.1 ei.2.2 ec.1 ec.2.1 ec.2.2 hN (fun e he => (hE e he).1) hb hc hk
  have hc1 : F.cells.length = 1 := by cases F <;> first | rfl | (simp [AV.isAgg] at hF2)
  have hany : (!((bs.map fun b => !b).any id)) = bs.all id := by
    rw [Bool.eq_iff_iff]; simp
  have hx : Val Q cf [mkRo n es, .fn g [] [.rp 1 F 0]] (.bool (!(bs.all id))) := by rw [← hany, Bool.not_not]; exact hx
  simp [allFn, hc1]
  rw [hx.callG (h2 := [.live ⟨box, 1, false, [F]⟩]) (as0 := [mkRo n es, .fn g [] [.rp 1 F 0]]) (by simp [hc, hF.cl]) (by simp [hk]) (by simp)]
  simp

/-- 'all', over a row of data. -/
theorem all_map {α : Type} {f g cf ix box ty n : Nat} {agg : Bool} (ea : IsP Q f (allFn box g cf)) (eg : IsP Q g (notFn ty n agg)) (ec : IsP Q cf (cfFn ix)) (ei : IsP Q ix (ixFn agg n)) {F : AV} {l : List α} {enc : α → AV} {q : α → Bool}
    (h1 : F.closed = true) (h2 : F.canon = F) (h3 : F.isAgg = false) (h : ∀ x ∈ l, ∀ lo base tgt h, callAV (callW Q) lo base tgt F [enc x] h = some (.bool (q x), h)) (hE : ∀ x ∈ l, Elem agg n (enc x) ∧ (enc x).cells.length = n)
    (hb : l.length < big) (hc : AV.closedL (l.map enc) = true) (hk : (l.map enc).map AV.canon = l.map enc) : Val Q f [mkRo n (l.map enc), F] (.bool (l.all q)) := by
  have := all_ok ea eg ec ei (Pred.map (enc := enc) h1 h2 h) h3 (fun e he => by
    obtain ⟨x, hx, rfl⟩ := List.mem_map.1 he
    exact hE x hx) (by simpa using hb) hc hk
  rw [List.all_map] at this
  exact this

end
end Go.Abs
