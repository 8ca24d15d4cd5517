/- A function's body. -/
import Derived.Test.YtnpfhbhhbdegfaaDoorC5
set_option linter.unusedSimpArgs false
set_option linter.unusedVariables false
namespace Go.Abs

section
variable {P : Program} {gh : Nat → List (Nat × Nat × Nat)} {lo base : Nat}

theorem dstsOk_mono {n N : Nat} (hn : n ≤ N) : ∀ c : Code, dstsOk n c = true → dstsOk N c = true := by
  intro c
  induction c with
  | region id ops draw =>
    intro h
    simp only [dstsOk] at h ⊢
    refine Array.all_eq_true_iff_forall_mem.2 fun o ho => ?_
    have := Array.all_eq_true_iff_forall_mem.1 h o ho
    cases hd : o.dst with
    | none => rfl
    | some d =>
      simp only [hd, decide_eq_true_eq] at this ⊢
      exact Nat.lt_of_lt_of_le this hn
  | seq a b iha ihb =>
    intro h
    simp only [dstsOk, Bool.and_eq_true] at h ⊢
    exact ⟨iha h.1, ihb h.2⟩
  | cond c a b iha ihb =>
    intro h
    simp only [dstsOk, Bool.and_eq_true] at h ⊢
    exact ⟨iha h.1, ihb h.2⟩
  | block id a ih => intro h; simp only [dstsOk] at h ⊢; exact ih h
  | loop a ih => intro h; simp only [dstsOk] at h ⊢; exact ih h
  | _ => intro _; rfl

/-- Values that stand for abstract ones, one by one. -/
def RepL (g : G) (xs : List AV) (vs : Array Value) : Prop := xs.length = vs.size ∧ ∀ (j : Nat) (x : AV) (y : Value), xs[j]? = some x → vs[j]? = some y → Rep g x y

theorem entry {N : Nat} {g : G} {args : List AV} {vals : Array Value} {k : Nat} (hr : HRep lo g) (ha : RepL g args vals) :
    SR lo (vals.size + (k - vals.size)) g (initFr args) { tmps := vals ++ Array.replicate (k - vals.size) undef, defers := [] } := by
  refine ⟨hr, fun t => ?_, by simp, rfl⟩
  simp only [initFr]
  by_cases ht : t < vals.size
  · have h1 : args[t]? = some (args[t]'(by rw [ha.1]; exact ht)) := List.getElem?_eq_getElem _
    have h2 : vals[t]? = some vals[t] := Array.getElem?_eq_getElem ht
    have := ha.2 t _ _ h1 h2
    have e1 : args.getD t .undef = args[t]'(by rw [ha.1]; exact ht) := by simp [List.getD, h1]
    have e2 : (vals ++ Array.replicate (k - vals.size) undef).getD t undef = vals[t] := by
      simp [Array.getD_eq_getD_getElem?, Array.getElem?_append_left ht, h2]
    rw [e1, e2]
    exact this
  · have h1 : args[t]? = none := List.getElem?_eq_none (by rw [ha.1]; omega)
    have e1 : args.getD t .undef = .undef := by simp [List.getD, h1]
    have e2 : (vals ++ Array.replicate (k - vals.size) undef).getD t undef = undef := by
      rw [Array.getD_eq_getD_getElem?, Array.getElem?_append_right (by omega)]
      by_cases h3 : t - vals.size < k - vals.size
      · simp [h3]
      · simp [h3]
    rw [e1, e2]
    exact .undef

theorem amapM_run {α β : Type} (f : α → Sem β) (w : World) (xs : Array α) (ys : List β) (hl : ys.length = xs.size) (h : ∀ (i : Nat) (x : α) (y : β), xs[i]? = some x → ys[i]? = some y → (f x).run P w = .ok y w) : (xs.mapM f).run P w = .ok ys.toArray w := by
  obtain ⟨xs⟩ := xs
  have key : ∀ (xs : List α) (ys : List β), ys.length = xs.length → (∀ (i : Nat) (x : α) (y : β), xs[i]? = some x → ys[i]? = some y → (f x).run P w = .ok y w) → (xs.mapM f).run P w = .ok ys w := by
    intro xs
    induction xs with
    | nil =>
      intro ys hl _
      have : ys = [] := List.length_eq_zero_iff.1 (by simpa using hl)
      subst this
      simp
    | cons x xs ih =>
      intro ys hl h
      cases ys with
      | nil => simp at hl
      | cons y ys =>
        simp only [List.mapM_cons, Sem.run_bind, h 0 x y rfl rfl, Result.andThen_ok, ih ys (by simpa using hl) (fun i a b ha hb => h (i + 1) a b (by simpa using ha) (by simpa using hb)), Sem.run_pure]
  have := key xs ys (by simpa using hl) (fun i x y hx hy => h i x y (by simpa using hx) hy)
  rw [List.mapM_toArray]
  simp only [Sem.run_map, this]
  rfl

def resOne (a : Act) : ResultVar → Sem Value
  | .tmp t => pure (a.tmps.getD t undef)
  | .cell c t => do loadVar t (← asAddr (a.tmps.getD c undef))
theorem results_eq (fn : Func) (a : Act) : results fn a.tmps = (do
    let vs ← fn.results.mapM (resOne a)
    pure (if h : vs.size = 1 then vs[0] else .tuple vs)) := by
  unfold results
  congr 1

/-- The results. -/
theorem results_rep {fn : Func} {rs : List ARes} {g : G} {fr : Frame} {a : Act} {N : Nat} {v : AV} (hs : SR lo N g fr a) (hc : mapO (compileRes P) fn.results.toList = some rs) (h : resultAV g.h fr rs = some v) :
    ∃ v', (results fn a.tmps).run P g.w = .ok v' g.w ∧ Rep g v v' := by
  unfold resultAV at h
  obtain ⟨hl, hi⟩ := mapO_some hc
  have hex : ∀ vs, mapO (resAV g.h fr) rs = some vs → ∃ us : List Value, us.length = rs.length ∧ (∀ (i : Nat) (x : AV) (u : Value), vs[i]? = some x → us[i]? = some u → Rep g x u) ∧
      ∀ (i : Nat) (q : ResultVar) (u : Value), fn.results[i]? = some q → us[i]? = some u → (resOne a q).run P g.w = .ok u g.w := by
    intro vs hvs
    obtain ⟨ml, mi⟩ := mapO_some hvs
    have each : ∀ (i : Nat), ∃ u : Value, ∀ q, fn.results[i]? = some q → (∀ x, vs[i]? = some x → Rep g x u) ∧ (resOne a q).run P g.w = .ok u g.w := by
      intro i
      cases hq : fn.results[i]? with
      | none => exact ⟨undef, fun q h => by cases h⟩
      | some q =>
        obtain ⟨r, hr1, hr2⟩ := hi i q (by simpa using hq)
        obtain ⟨x, hx1, hx2⟩ := mi i r hr1
        cases q with
        | tmp t =>
          simp only [compileRes, Option.some.injEq] at hr2
          subst hr2
          simp only [resAV, Option.some.injEq] at hx2
          subst hx2
          refine ⟨a.tmps.getD t undef, fun q' hq' => ?_⟩
          cases hq'
          exact ⟨fun y hy => by rw [hx1] at hy; cases hy; exact hs.fr t, by simp [resOne]⟩
        | cell c t =>
          simp only [compileRes] at hr2
          split at hr2
          · rename_i ag n hag hn
            cases hr2
            simp only [resAV] at hx2
            obtain ⟨ad, he, v', hv, hrep⟩ := load_rep hs.hr (hs.fr c) hag hn hx2
            refine ⟨v', fun q' hq' => ?_⟩
            cases hq'
            refine ⟨fun y hy => by rw [hx1] at hy; cases hy; exact hrep, ?_⟩
            simp only [resOne, he, asAddr, Sem.run_bind, Sem.run_pure, Result.andThen_ok, hv]
          · cases hr2
    refine ⟨(List.range rs.length).map fun i => Classical.choose (each i), by simp, fun i x u hx hu => ?_, fun i q u hq hu => ?_⟩
    · have hilt : i < rs.length := by rw [← ml]; exact (List.getElem?_eq_some_iff.1 hx).1
      simp only [List.getElem?_map, List.getElem?_range hilt, Option.map_some, Option.some.injEq] at hu
      subst hu
      have hq : i < fn.results.size := by rw [hl] at hilt; simpa using hilt
      exact (Classical.choose_spec (each i) _ (Array.getElem?_eq_getElem hq)).1 x hx
    · have hq2 : i < fn.results.size := (Array.getElem?_eq_some_iff.1 hq).1
      have hilt : i < rs.length := by rw [hl]; simpa using hq2
      simp only [List.getElem?_map, List.getElem?_range hilt, Option.map_some, Option.some.injEq] at hu
      subst hu
      exact (Classical.choose_spec (each i) q hq).2
  have run : ∀ us : List Value, us.length = rs.length → (∀ (i : Nat) (q : ResultVar) (u : Value), fn.results[i]? = some q → us[i]? = some u → (resOne a q).run P g.w = .ok u g.w) → (results fn a.tmps).run P g.w = .ok (if h : us.toArray.size = 1 then us.toArray[0] else .tuple us.toArray) g.w := by
    intro us hul hus
    rw [results_eq, Sem.run_bind, amapM_run _ g.w fn.results us (by rw [hul, hl]; simp) hus]
    rfl
  split at h
  · rename_i x hvs
    cases h
    obtain ⟨us, h1, h2, h3⟩ := hex _ hvs
    have hlen : us.length = 1 := by rw [h1, ← (mapO_some hvs).1]; rfl
    match us, hlen with
    | [u], _ => exact ⟨u, by rw [run [u] h1 h3]; rfl, h2 0 v u rfl rfl⟩
  · rename_i vs hn hvs
    cases h
    obtain ⟨us, h1, h2, h3⟩ := hex _ hvs
    have hvl := (mapO_some hvs).1
    have hlen : us.length ≠ 1 := fun h => by
      have hv1 : vs.length = 1 := by omega
      match vs, hv1 with
      | [x], _ => exact hn x rfl
    refine ⟨.tuple us.toArray, by rw [run us h1 h3, dif_neg (by simpa using hlen)], .tup (by simp; omega) fun j x u hx hu => h2 j x u hx (by simpa using hu)⟩
  · cases h

/-- A body: what it comes to. -/
theorem body_sound (hmix : P.follows .mixedOrders = true) {c : Ctx} (hcs : CallSound P c.cf) (hlb : lo ≤ base) (hV : CfV c.cf c.stOf) {k : Nat} (hit : c.it = iter k) {f : Nat} {fn : Func} {af : AFn} (hfn : P.funcs[f]? = some fn) (hcf : compileFn P gh fn = some af)
    {args : List AV} {vals : Array Value} {g : G} {v : AV} {h1 : Heap} (hr : HRep lo g) (ha : RepL g args vals) (hb : base ≤ g.h.length) (h : bodyAV c af lo base args g.h = some (v, h1)) :
    Calls P f vals g.w (Back (Post lo base g v h1)) ∧ (fn.name == "runtime.NumGoroutine") = false ∧ fn.body.isNone = false := by
  unfold compileFn at hcf
  split at hcf
  · cases hcf
  · rename_i code hbody
    split at hcf
    · rename_i hd
      simp only [Bool.and_eq_true, Bool.not_eq_true'] at hd
      split at hcf
      · rename_i rs ac hrs hac
        cases hcf
        refine ⟨?_, hd.2, by rw [hbody]; rfl⟩
        have hent := entry (N := 0) (k := fn.ntmps) hr ha
        have hd2 := dstsOk_mono (n := fn.ntmps) (N := vals.size + (fn.ntmps - vals.size)) (by omega) code hd.1
        have hex := exec_sound (N := vals.size + (fn.ntmps - vals.size)) (lo := lo) (base := base) hmix hcs hlb hV hit code ac hac hd2
        refine calls_of_wp hfn hbody ?_
        unfold bodyAV at h
        have fin : ∀ (out : Out) (fr' : Frame) (h' : Heap), out = .normal ∨ out = .ret → exec c lo base ac (initFr args) g.h = some (out, fr', h') → put1 h' (resultAV h' fr' rs) = some (v, h1) →
            code.wp P (bodyPost P fn (Back (Post lo base g v h1))) { tmps := vals ++ Array.replicate (fn.ntmps - vals.size) undef, defers := [] } g.w := by
          intro out fr' h' ho he hp
          obtain ⟨hp1, rfl⟩ := put1_eq hp
          refine wp_mono (hex (initFr args) g out fr' h1 _ he hent hb) fun e a1 w1 hq => ?_
          obtain ⟨rfl, r1, St1, s1, st1⟩ := hq
          obtain ⟨v', k1, k2⟩ := results_rep s1 hrs hp1
          rcases ho with rfl | rfl
          · exact ⟨s1.defers, v', k1, r1, St1, k2, s1.hr, st1⟩
          · exact ⟨s1.defers, v', k1, r1, St1, k2, s1.hr, st1⟩
        split at h
        · rename_i fr' h' he
          exact fin .normal fr' h' (.inl rfl) he h
        · rename_i fr' h' he
          exact fin .ret fr' h' (.inr rfl) he h
        · cases h
      · cases hcf
    · cases hcf

end
end Go.Abs
