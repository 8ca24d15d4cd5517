/- meddlerlaw7.CheckMany: for every n and kind, CheckMany returns true and its arguments read as they did. No condition; the card's listed tables are tied to the program's text. -/
import Derived.Test.YtnpfhbhhbdegfaaDoorRC
import Derived.Test.YtnpfhbhhbdegfaaDoorN3
set_option maxRecDepth 100000
namespace Go.Proofs.YtnpfhbhhbdegfaaDoor
open Go.ChangeShapes Go.WideShapes Go.ChangeAt Go.RowKit Go.Abs

theorem checkMany_lifted (os : Os) (started : os.Started) (H : Type) (enc : TypeId × Value → H) :
    ReturnsInHanded {} Tryd.checked os 5 .any (fun w args => (Rows.checkManySpec.pre enc Tryd.prog Tryd.f5 [] false w args ∧ laidMetH Tryd.prog laidL w) ∧ sizedMet enc Tryd.prog Tryd.f5 (OpenSpec.ofChange Rows.checkManySpec) false w args)
      (Rows.checkManySpec.post enc Tryd.prog Tryd.f5 false true false false) := by
  refine law_lifted (C := Tryd.checked) (X := fun w _ => laidMetH Tryd.prog laidL w) (af := gc5) prgOk started (fun _ _ _ hh h => h.of_heap hh) own' (by kernel_rfl) Tryd.func5
    (ChangeSpec.witness_shaped (enc := enc) (C := Tryd.checked) (os := os) (X := fun w _ => laidMetH Tryd.prog laidL w) false (World.laidAll Tryd.prog os laidL) #[.int .i64 0, .int .i64 0] 8 (World.laidAll_os _ _ _) (laid_shaped os _) (by kernel_rfl) (by kernel_rfl) (by kernel_rfl) (laid_met os _))
    laidOut' (by kernel_rfl) rfl Tryd.underlying4 rfl (fun ds hl => ?_) rfl rfl ?_
  · match ds, hl with
    | [d1, d2], _ => rfl
  · intro W base args ds ps hval hA
    have hval : ∀ (j : Nat) t v, Tryd.f5.params[j]? = some t → args[j]? = some v → Value.okWide Tryd.prog W .any base t v := hval
    have hA : DataW.TrodAll enc Tryd.prog W 0 (fun _ => true) true Tryd.f5.params.toList args.toList ds ps := hA
    rw [Tryd.params5] at hA hval
    obtain ⟨v0, v1, d0, d1, p0, p1, rfl, rfl, rfl, h0, h1⟩ := trodAll_two hA
    obtain ⟨n, rfl, rfl, rfl, wn⟩ := open_int Tryd.underlying3 (hval 0 3 v0 rfl rfl) h0
    obtain ⟨k, rfl, rfl, rfl, wk⟩ := open_int Tryd.underlying3 (hval 1 3 v1 rfl rfl) h1
    obtain ⟨h', hc⟩ := Go.Abs.T.many_true n k
    refine ⟨[.int .i64 n, .int .i64 k], h', ⟨rfl, fun j x y hx hy => ?_⟩, hc⟩
    match j, hx, hy with
    | 0, hx, hy => cases hx; cases hy; exact .int _ _
    | 1, hx, hy => cases hx; cases hy; exact .int _ _

theorem checkMany_holds : Rows.CheckManySaid :=
  OpenClaim.holds_of_wide 5 Tryd.f5 rfl rfl rfl rfl rfl rfl rfl ⟨rfl, rfl, rfl, rfl, rfl⟩ rfl rfl rfl rfl rfl (by kernel_rfl) Tryd.func5 (by kernel_rfl)
    (of_decide_eq_true (by kernel_rfl)) (by unfold Func.isWrapper; rw [if_neg (of_decide_eq_false (by kernel_rfl))]; exact ⟨rfl, rfl⟩)
    (fun os started H enc _ => checkMany_lifted os started H enc)

theorem checkMany_card : Rows.CheckManyCardSaid :=
  Claim7.holds_tied_plain_at .later [] [.data, .pinned] true (true, "d072a78bfa068f7b2a6c4c6113ba386be64ee9ab5bf15603bbaa2659a15d7f02") false
    checkMany_holds (fun _ h => by cases h) (by kernel_rfl) (fun _ h => by cases h) checkMany_row_tie rfl ⟨rfl, rfl⟩ (by kernel_rfl) rfl
    (fun f fn hf hfn => by
      obtain rfl : f = 5 := Option.some.inj ((show Tryd.prog.funcNamed "meddler/meddlerlaw7.CheckMany" = some 5 by kernel_rfl).symm.trans hf) |>.symm
      obtain rfl : fn = Tryd.f5 := (Option.some.inj (Tryd.func5.symm.trans hfn)).symm
      refine ⟨by kernel_rfl, fun j t ht => ?_⟩
      rw [Tryd.params5] at ht
      have h3 : (Tryd.f5.params.toList.all fun t => !(Tryd.prog.wantsStandIn t)) = true := by kernel_rfl
      rw [Tryd.params5] at h3
      have := List.all_eq_true.1 h3 t (by rw [Array.mem_toList_iff]; exact Array.mem_of_getElem? ht)
      have h4 : Tryd.prog.wantsStandIn t = false := by simpa using this
      exact h4)
    (by kernel_rfl)
#print axioms checkMany_card
end Go.Proofs.YtnpfhbhhbdegfaaDoor
