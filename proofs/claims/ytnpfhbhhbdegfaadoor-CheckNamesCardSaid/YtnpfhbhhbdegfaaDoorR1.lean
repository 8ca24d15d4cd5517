/- meddlerlaw7.CheckNames: for every kind, twice and gone, CheckNames returns true and its arguments read as they did. No condition; the card's listed tables are tied to the program's text. -/
import Derived.Test.YtnpfhbhhbdegfaaDoorN2
import Derived.Test.YtnpfhbhhbdegfaaDoorCards
import Derived.Test.YtnpfhbhhbdegfaaDoorTie
set_option maxRecDepth 100000
namespace Go.Proofs.YtnpfhbhhbdegfaaDoor
open Go.ChangeShapes Go.WideShapes Go.ChangeAt Go.RowKit Go.Abs

theorem own' : ownKnob Tryd.prog.godebug = none := by kernel_rfl
theorem laidOut' : laidOutB Tryd.prog = true := by kernel_rfl
def laidL : List (String × DataW Unit) := [("unicode/utf8.acceptRanges", Rows.laid_unicode_utf8_acceptRanges), ("unicode/utf8.first", Rows.laid_unicode_utf8_first)]
theorem laid_met (os : Os) (args : Array Value) : laidMetH Tryd.prog laidL ((World.laidAll Tryd.prog os laidL).forCall (fun _ _ => 0) ⟨#[], args, []⟩).memory := by
  refine laidMetH_of_parts ?_ (by kernel_rfl)
  have e : (laidL.filter fun x => x.2.handleName?.isNone) = laidL := List.filter_eq_self.2 fun x hx => by
    have : laidL.all (fun x => x.2.handleName?.isNone) = true := by kernel_rfl
    exact List.all_eq_true.1 this x hx
  rw [e]
  exact laidMet_laidAll args (by kernel_rfl) (by kernel_rfl)
theorem laid_shaped (os : Os) (args : Array Value) : ((World.laidAll Tryd.prog os laidL).forCall (fun _ _ => 0) ⟨#[], args, []⟩).Shaped Tryd.prog :=
  World.shaped_of_ZipB (by kernel_rfl) (by kernel_rfl)

theorem checkNames_lifted (os : Os) (started : os.Started) (H : Type) (enc : TypeId × Value → H) :
    ReturnsInHanded {} Tryd.checked os 3 .any (fun w args => (Rows.checkNamesSpec.pre enc Tryd.prog Tryd.f3 [] false w args ∧ laidMetH Tryd.prog laidL w) ∧ sizedMet enc Tryd.prog Tryd.f3 (OpenSpec.ofChange Rows.checkNamesSpec) false w args)
      (Rows.checkNamesSpec.post enc Tryd.prog Tryd.f3 false true false false) := by
  refine law_lifted (C := Tryd.checked) (X := fun w _ => laidMetH Tryd.prog laidL w) (af := gc3) prgOk started (fun _ _ _ hh h => h.of_heap hh) own' (by kernel_rfl) Tryd.func3
    (ChangeSpec.witness_shaped (enc := enc) (C := Tryd.checked) (os := os) (X := fun w _ => laidMetH Tryd.prog laidL w) false (World.laidAll Tryd.prog os laidL) #[.int .i64 0, .bool false, .bool false] 8 (World.laidAll_os _ _ _) (laid_shaped os _) (by kernel_rfl) (by kernel_rfl) (by kernel_rfl) (laid_met os _))
    laidOut' (by kernel_rfl) rfl Tryd.underlying4 rfl (fun ds hl => ?_) rfl rfl ?_
  · match ds, hl with
    | [d1, d2, d3], _ => rfl
  · intro W base args ds ps hval hA
    have hval : ∀ (j : Nat) t v, Tryd.f3.params[j]? = some t → args[j]? = some v → Value.okWide Tryd.prog W .any base t v := hval
    have hA : DataW.TrodAll enc Tryd.prog W 0 (fun _ => true) true Tryd.f3.params.toList args.toList ds ps := hA
    rw [Tryd.params3] at hA hval
    obtain ⟨v0, v1, v2, d0, d1, d2, p0, p1, p2, rfl, rfl, rfl, h0, h1, h2⟩ := trodAll_three hA
    obtain ⟨n, rfl, rfl, rfl, wn⟩ := open_int Tryd.underlying3 (hval 0 3 v0 rfl rfl) h0
    obtain ⟨a, rfl, -⟩ := open_bool Tryd.underlying4 (hval 1 4 v1 rfl rfl) h1
    obtain ⟨b, rfl, -⟩ := open_bool Tryd.underlying4 (hval 2 4 v2 rfl rfl) h2
    obtain ⟨h', hc⟩ := Go.Abs.T.names_true n a b
    refine ⟨[.int .i64 n, .bool a, .bool b], h', ⟨rfl, fun j x y hx hy => ?_⟩, hc⟩
    match j, hx, hy with
    | 0, hx, hy => cases hx; cases hy; exact .int _ _
    | 1, hx, hy => cases hx; cases hy; exact .bool _
    | 2, hx, hy => cases hx; cases hy; exact .bool _

theorem checkNames_holds : Rows.CheckNamesSaid :=
  OpenClaim.holds_of_wide 3 Tryd.f3 rfl rfl rfl rfl rfl rfl rfl ⟨rfl, rfl, rfl, rfl, rfl⟩ rfl rfl rfl rfl rfl (by kernel_rfl) Tryd.func3 (by kernel_rfl)
    (of_decide_eq_true (by kernel_rfl)) (by unfold Func.isWrapper; rw [if_neg (of_decide_eq_false (by kernel_rfl))]; exact ⟨rfl, rfl⟩)
    (fun os started H enc _ => checkNames_lifted os started H enc)

theorem checkNames_card : Rows.CheckNamesCardSaid :=
  Claim7.holds_tied_plain_at .later [] [.data, .pinned] true (true, "d072a78bfa068f7b2a6c4c6113ba386be64ee9ab5bf15603bbaa2659a15d7f02") false
    checkNames_holds (fun _ h => by cases h) (by kernel_rfl) (fun _ h => by cases h) checkNames_row_tie rfl ⟨rfl, rfl⟩ (by kernel_rfl) rfl
    (fun f fn hf hfn => by
      obtain rfl : f = 3 := Option.some.inj ((show Tryd.prog.funcNamed "meddler/meddlerlaw7.CheckNames" = some 3 by kernel_rfl).symm.trans hf) |>.symm
      obtain rfl : fn = Tryd.f3 := (Option.some.inj (Tryd.func3.symm.trans hfn)).symm
      refine ⟨by kernel_rfl, fun j t ht => ?_⟩
      rw [Tryd.params3] at ht
      have h3 : t = 3 ∨ t = 4 := by
        rcases j with _ | _ | _ | j
        · left; simpa using ht.symm
        · right; simpa using ht.symm
        · right; simpa using ht.symm
        · simp at ht
      rcases h3 with rfl | rfl
      · exact (show Tryd.prog.wantsStandIn 3 = false by kernel_rfl)
      · exact (show Tryd.prog.wantsStandIn 4 = false by kernel_rfl))
    (by kernel_rfl)
#print axioms checkNames_card
end Go.Proofs.YtnpfhbhhbdegfaaDoor
