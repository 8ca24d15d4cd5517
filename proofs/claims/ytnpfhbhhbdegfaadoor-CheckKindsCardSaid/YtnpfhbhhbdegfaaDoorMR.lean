/- What the rows share: the listed tables' world. -/
import Derived.Test.YtnpfhbhhbdegfaaDoorML
import Derived.Test.YtnpfhbhhbdegfaaDoorCards
import Derived.Test.YtnpfhbhhbdegfaaDoorTie
import Derived.Test.YtnpfhbhhbdegfaaDoorMN
set_option maxRecDepth 100000
namespace Go.Proofs.YtnpfhbhhbdegfaaDoor
open Go.ChangeShapes Go.WideShapes Go.ChangeAt Go.RowKit Go.Abs

theorem own' : ownKnob Tryd.prog.godebug = none := by kernel_rfl
theorem laidOut' : laidOutB Tryd.prog = true := by kernel_rfl
def laidL : List (String × DataW Unit) := [("unicode/utf8.acceptRanges", Rows.laid_unicode_utf8_acceptRanges), ("unicode/utf8.first", Rows.laid_unicode_utf8_first)]
theorem laid_met (os : Os) (args : Array Value) : laidMetH Tryd.prog laidL ((World.laidAll Tryd.prog os laidL).forCall (fun _ _ => 0) ⟨#[], args, []⟩).memory := by
  refine laidMetH_of_parts ?_ (by kernel_rfl)
  have e : (laidL.filter fun x => x.2.handleName?.isNone) = laidL := List.filter_eq_self.2 fun x hx => by
    have : laidL.all (fun x => x.2.handleName?.isNone) = true := by kernel_rfl
    exact List.all_eq_true.1 this x hx
  rw [e]
  exact laidMet_laidAll args (by kernel_rfl) (by kernel_rfl)
theorem laid_shaped (os : Os) (args : Array Value) : ((World.laidAll Tryd.prog os laidL).forCall (fun _ _ => 0) ⟨#[], args, []⟩).Shaped Tryd.prog :=
  World.shaped_of_ZipB (by kernel_rfl) (by kernel_rfl)

end Go.Proofs.YtnpfhbhhbdegfaaDoor

/- meddlerlaw7.CheckKinds: for every name and use, CheckKinds returns true and its arguments read as they did. No condition; the card's listed tables are tied to the program's text. -/
set_option maxRecDepth 100000
namespace Go.Proofs.YtnpfhbhhbdegfaaDoor
open Go.ChangeShapes Go.WideShapes Go.ChangeAt Go.RowKit Go.Abs

theorem checkKinds_lifted (os : Os) (started : os.Started) (H : Type) (enc : TypeId × Value → H) :
    ReturnsInHanded {} Tryd.checked os 4 .any (fun w args => (Rows.checkKindsSpec.pre enc Tryd.prog Tryd.f4 [] false w args ∧ laidMetH Tryd.prog laidL w) ∧ sizedMet enc Tryd.prog Tryd.f4 (OpenSpec.ofChange Rows.checkKindsSpec) false w args)
      (Rows.checkKindsSpec.post enc Tryd.prog Tryd.f4 false true false false) := by
  refine law_lifted (C := Tryd.checked) (X := fun w _ => laidMetH Tryd.prog laidL w) (af := gc4) prgOk started (fun _ _ _ hh h => h.of_heap hh) own' (by kernel_rfl) Tryd.func4
    (ChangeSpec.witness_shaped (enc := enc) (C := Tryd.checked) (os := os) (X := fun w _ => laidMetH Tryd.prog laidL w) false (World.laidAll Tryd.prog os laidL) #[.string ⟨#[]⟩, .int .i64 0] 8 (World.laidAll_os _ _ _) (laid_shaped os _) (by kernel_rfl) (by kernel_rfl) (by kernel_rfl) (laid_met os _))
    laidOut' (by kernel_rfl) rfl Tryd.underlying4 rfl (fun ds hl => ?_) rfl rfl ?_
  · match ds, hl with
    | [d1, d2], _ => rfl
  · intro W base args ds ps hval hA
    have hval : ∀ (j : Nat) t v, Tryd.f4.params[j]? = some t → args[j]? = some v → Value.okWide Tryd.prog W .any base t v := hval
    have hA : DataW.TrodAll enc Tryd.prog W 0 (fun _ => true) true Tryd.f4.params.toList args.toList ds ps := hA
    rw [Tryd.params4] at hA hval
    obtain ⟨v0, v1, d0, d1, p0, p1, rfl, rfl, rfl, h0, h1⟩ := trodAll_two hA
    obtain ⟨b, rfl, rfl, rfl, wb⟩ := Go.ChangeMaps.open_string Tryd.underlying9 (hval 0 9 v0 rfl rfl) h0
    obtain ⟨k, rfl, rfl, rfl, wk⟩ := open_int Tryd.underlying3 (hval 1 3 v1 rfl rfl) h1
    have hb : b.data.toList.length < big := by
      have h1 : b.data.size ≤ 9223372036854775807 := wb
      show b.data.toList.length < 9223372036854775808
      rw [Array.length_toList]
      omega
    obtain ⟨h', hc⟩ := Go.Abs.T.kinds_true b.data.toList hb k
    refine ⟨[.str b.data.toList, .int .i64 k], h', ⟨rfl, fun j x y hx hy => ?_⟩, hc⟩
    match j, hx, hy with
    | 0, hx, hy => cases hx; cases hy; exact Rep.str (g := gTop W) b.data.toList
    | 1, hx, hy => cases hx; cases hy; exact .int _ _

theorem checkKinds_holds : Rows.CheckKindsSaid :=
  OpenClaim.holds_of_wide 4 Tryd.f4 rfl rfl rfl rfl rfl rfl rfl ⟨rfl, rfl, rfl, rfl, rfl⟩ rfl rfl rfl rfl rfl (by kernel_rfl) Tryd.func4 (by kernel_rfl)
    (of_decide_eq_true (by kernel_rfl)) (by unfold Func.isWrapper; rw [if_neg (of_decide_eq_false (by kernel_rfl))]; exact ⟨rfl, rfl⟩)
    (fun os started H enc _ => checkKinds_lifted os started H enc)

theorem checkKinds_card : Rows.CheckKindsCardSaid :=
  Claim7.holds_tied_plain_at .later [] [.data, .pinned] true (true, "d072a78bfa068f7b2a6c4c6113ba386be64ee9ab5bf15603bbaa2659a15d7f02") false
    checkKinds_holds (fun _ h => by cases h) (by kernel_rfl) (fun _ h => by cases h) checkKinds_row_tie rfl ⟨rfl, rfl⟩ (by kernel_rfl) rfl
    (fun f fn hf hfn => by
      obtain rfl : f = 4 := Option.some.inj ((show Tryd.prog.funcNamed "meddler/meddlerlaw7.CheckKinds" = some 4 by kernel_rfl).symm.trans hf) |>.symm
      obtain rfl : fn = Tryd.f4 := (Option.some.inj (Tryd.func4.symm.trans hfn)).symm
      refine ⟨by kernel_rfl, fun j t ht => ?_⟩
      rw [Tryd.params4] at ht
      have h3 : (Tryd.f4.params.toList.all fun t => !(Tryd.prog.wantsStandIn t)) = true := by kernel_rfl
      rw [Tryd.params4] at h3
      have := List.all_eq_true.1 h3 t (by rw [Array.mem_toList_iff]; exact Array.mem_of_getElem? ht)
      have h4 : Tryd.prog.wantsStandIn t = false := by simpa using this
      exact h4)
    (by kernel_rfl)
#print axioms checkKinds_card
end Go.Proofs.YtnpfhbhhbdegfaaDoor
