/- The seat's program for the abstract interpreter. -/
import Derived.Test.YtnpfhbhhbdegfaaDoorME
import Derived.Test.YtnpfhbhhbdegfaaDoorMK
set_option maxRecDepth 100000
namespace Go.Proofs.YtnpfhbhhbdegfaaDoor
open Go Go.Abs Go.Proofs
def tab : List (Nat × AFn) := [(2, gc2), (3, gc3), (4, gc4), (5, gc5), (6, gc6), (7, gc7), (8, gc8), (9, gc9), (10, gc10), (11, gc11), (12, gc12), (13, gc13), (14, gc14), (15, gc15), (16, gc16), (17, gc17), (18, gc18), (19, gc19), (20, gc20), (21, gc21), (22, gc22), (23, gc23), (24, gc24), (25, gc25), (26, gc26), (27, gc27), (28, gc28), (29, gc29), (30, gc30), (31, gc31), (32, gc32), (33, gc33), (34, gc34), (35, gc35), (36, gc36), (37, gc37), (38, gc38), (39, gc39), (40, gc40), (41, gc41), (42, gc42), (43, gc43), (44, gc44), (45, gc45), (46, gc46), (47, gc47), (48, gc48), (49, gc49), (50, gc50), (51, gc51), (52, gc52), (53, gc53), (54, gc54), (55, gc55), (56, gc56), (57, gc57), (58, gc58), (59, gc59), (60, gc60), (61, gc61), (62, gc62), (63, gc63), (64, gc64), (65, gc65), (66, gc66), (67, gc67), (68, gc68), (69, gc69), (70, gc70), (71, gc71), (72, gc72), (73, gc73), (74, gc74), (75, gc75), (76, gc76), (77, gc77), (78, gc78), (79, gc79), (80, gc80), (81, gc81), (82, gc82), (83, gc83), (84, gc84), (85, gc85), (86, gc86), (87, gc87), (88, gc88), (89, gc89), (90, gc90), (92, gc92), (93, gc93), (94, gc94), (95, gc95), (96, gc96), (97, gc97), (100, gc100), (101, gc101), (102, gc102)]
theorem tabOk : ∀ x ∈ tab, ∃ fn, Tryd.prog.funcs[x.1]? = some fn ∧ compileFn Tryd.prog gh fn = some x.2 := by
  have nil : ∀ x ∈ ([] : List (Nat × AFn)), ∃ fn, Tryd.prog.funcs[x.1]? = some fn ∧ compileFn Tryd.prog gh fn = some x.2 := fun x h => by cases h
  exact List.forall_mem_cons.2 ⟨⟨_, ok2⟩, List.forall_mem_cons.2 ⟨⟨_, ok3⟩, List.forall_mem_cons.2 ⟨⟨_, ok4⟩, List.forall_mem_cons.2 ⟨⟨_, ok5⟩, List.forall_mem_cons.2 ⟨⟨_, ok6⟩, List.forall_mem_cons.2 ⟨⟨_, ok7⟩, List.forall_mem_cons.2 ⟨⟨_, ok8⟩, List.forall_mem_cons.2 ⟨⟨_, ok9⟩, List.forall_mem_cons.2 ⟨⟨_, ok10⟩, List.forall_mem_cons.2 ⟨⟨_, ok11⟩, List.forall_mem_cons.2 ⟨⟨_, ok12⟩, List.forall_mem_cons.2 ⟨⟨_, ok13⟩, List.forall_mem_cons.2 ⟨⟨_, ok14⟩, List.forall_mem_cons.2 ⟨⟨_, ok15⟩, List.forall_mem_cons.2 ⟨⟨_, ok16⟩, List.forall_mem_cons.2 ⟨⟨_, ok17⟩, List.forall_mem_cons.2 ⟨⟨_, ok18⟩, List.forall_mem_cons.2 ⟨⟨_, ok19⟩, List.forall_mem_cons.2 ⟨⟨_, ok20⟩, List.forall_mem_cons.2 ⟨⟨_, ok21⟩, List.forall_mem_cons.2 ⟨⟨_, ok22⟩, List.forall_mem_cons.2 ⟨⟨_, ok23⟩, List.forall_mem_cons.2 ⟨⟨_, ok24⟩, List.forall_mem_cons.2 ⟨⟨_, ok25⟩, List.forall_mem_cons.2 ⟨⟨_, ok26⟩, List.forall_mem_cons.2 ⟨⟨_, ok27⟩, List.forall_mem_cons.2 ⟨⟨_, ok28⟩, List.forall_mem_cons.2 ⟨⟨_, ok29⟩, List.forall_mem_cons.2 ⟨⟨_, ok30⟩, List.forall_mem_cons.2 ⟨⟨_, ok31⟩, List.forall_mem_cons.2 ⟨⟨_, ok32⟩, List.forall_mem_cons.2 ⟨⟨_, ok33⟩, List.forall_mem_cons.2 ⟨⟨_, ok34⟩, List.forall_mem_cons.2 ⟨⟨_, ok35⟩, List.forall_mem_cons.2 ⟨⟨_, ok36⟩, List.forall_mem_cons.2 ⟨⟨_, ok37⟩, List.forall_mem_cons.2 ⟨⟨_, ok38⟩, List.forall_mem_cons.2 ⟨⟨_, ok39⟩, List.forall_mem_cons.2 ⟨⟨_, ok40⟩, List.forall_mem_cons.2 ⟨⟨_, ok41⟩, List.forall_mem_cons.2 ⟨⟨_, ok42⟩, List.forall_mem_cons.2 ⟨⟨_, ok43⟩, List.forall_mem_cons.2 ⟨⟨_, ok44⟩, List.forall_mem_cons.2 ⟨⟨_, ok45⟩, List.forall_mem_cons.2 ⟨⟨_, ok46⟩, List.forall_mem_cons.2 ⟨⟨_, ok47⟩, List.forall_mem_cons.2 ⟨⟨_, ok48⟩, List.forall_mem_cons.2 ⟨⟨_, ok49⟩, List.forall_mem_cons.2 ⟨⟨_, ok50⟩, List.forall_mem_cons.2 ⟨⟨_, ok51⟩, List.forall_mem_cons.2 ⟨⟨_, ok52⟩, List.forall_mem_cons.2 ⟨⟨_, ok53⟩, List.forall_mem_cons.2 ⟨⟨_, ok54⟩, List.forall_mem_cons.2 ⟨⟨_, ok55⟩, List.forall_mem_cons.2 ⟨⟨_, ok56⟩, List.forall_mem_cons.2 ⟨⟨_, ok57⟩, List.forall_mem_cons.2 ⟨⟨_, ok58⟩, List.forall_mem_cons.2 ⟨⟨_, ok59⟩, List.forall_mem_cons.2 ⟨⟨_, ok60⟩, List.forall_mem_cons.2 ⟨⟨_, ok61⟩, List.forall_mem_cons.2 ⟨⟨_, ok62⟩, List.forall_mem_cons.2 ⟨⟨_, ok63⟩, List.forall_mem_cons.2 ⟨⟨_, ok64⟩, List.forall_mem_cons.2 ⟨⟨_, ok65⟩, List.forall_mem_cons.2 ⟨⟨_, ok66⟩, List.forall_mem_cons.2 ⟨⟨_, ok67⟩, List.forall_mem_cons.2 ⟨⟨_, ok68⟩, List.forall_mem_cons.2 ⟨⟨_, ok69⟩, List.forall_mem_cons.2 ⟨⟨_, ok70⟩, List.forall_mem_cons.2 ⟨⟨_, ok71⟩, List.forall_mem_cons.2 ⟨⟨_, ok72⟩, List.forall_mem_cons.2 ⟨⟨_, ok73⟩, List.forall_mem_cons.2 ⟨⟨_, ok74⟩, List.forall_mem_cons.2 ⟨⟨_, ok75⟩, List.forall_mem_cons.2 ⟨⟨_, ok76⟩, List.forall_mem_cons.2 ⟨⟨_, ok77⟩, List.forall_mem_cons.2 ⟨⟨_, ok78⟩, List.forall_mem_cons.2 ⟨⟨_, ok79⟩, List.forall_mem_cons.2 ⟨⟨_, ok80⟩, List.forall_mem_cons.2 ⟨⟨_, ok81⟩, List.forall_mem_cons.2 ⟨⟨_, ok82⟩, List.forall_mem_cons.2 ⟨⟨_, ok83⟩, List.forall_mem_cons.2 ⟨⟨_, ok84⟩, List.forall_mem_cons.2 ⟨⟨_, ok85⟩, List.forall_mem_cons.2 ⟨⟨_, ok86⟩, List.forall_mem_cons.2 ⟨⟨_, ok87⟩, List.forall_mem_cons.2 ⟨⟨_, ok88⟩, List.forall_mem_cons.2 ⟨⟨_, ok89⟩, List.forall_mem_cons.2 ⟨⟨_, ok90⟩, List.forall_mem_cons.2 ⟨⟨_, ok92⟩, List.forall_mem_cons.2 ⟨⟨_, ok93⟩, List.forall_mem_cons.2 ⟨⟨_, ok94⟩, List.forall_mem_cons.2 ⟨⟨_, ok95⟩, List.forall_mem_cons.2 ⟨⟨_, ok96⟩, List.forall_mem_cons.2 ⟨⟨_, ok97⟩, List.forall_mem_cons.2 ⟨⟨_, ok100⟩, List.forall_mem_cons.2 ⟨⟨_, ok101⟩, List.forall_mem_cons.2 ⟨⟨_, ok102⟩, nil⟩⟩⟩⟩⟩⟩⟩⟩⟩⟩⟩⟩⟩⟩⟩⟩⟩⟩⟩⟩⟩⟩⟩⟩⟩⟩⟩⟩⟩⟩⟩⟩⟩⟩⟩⟩⟩⟩⟩⟩⟩⟩⟩⟩⟩⟩⟩⟩⟩⟩⟩⟩⟩⟩⟩⟩⟩⟩⟩⟩⟩⟩⟩⟩⟩⟩⟩⟩⟩⟩⟩⟩⟩⟩⟩⟩⟩⟩⟩⟩⟩⟩⟩⟩⟩⟩⟩⟩⟩⟩⟩⟩⟩⟩⟩⟩⟩⟩
def prg : Prg := {
  fns := fun f => (tab.find? (·.1 == f)).map (·.2)
  pol := fun f => if f == 33 then polK else if f == 81 || f == 82 || f == 92 then { st := true, keep := false, raw := false, top := 0 } else { st := false, keep := false, raw := false, top := 0 }
  ext := fun f => if f == 33 then some (cloneX gc33) else if f == 91 then some indexX else none }

theorem cloneOk33 : CloneOk gc33 := by
  intro b lo base tgt h
  have hp : place h tgt [] = some h := by
    unfold place
    split
    · simp
    · rfl
  cases b
  · show callPol.put1' .emp (place h tgt []) = _
    rw [hp]; rfl
  · show callPol.put1' .emp (place h tgt []) = _
    rw [hp]; rfl

theorem prgOk : PrgOk Tryd.prog gh prg where
  mixed := by kernel_rfl
  fns := fun f af _ h => by
    have h : (tab.find? (·.1 == f)).map (·.2) = some af := h
    cases hx : tab.find? (·.1 == f) with
    | none => rw [hx] at h; cases h
    | some x =>
      rw [hx] at h
      cases h
      have h1 : x.1 = f := by have := List.find?_some hx; simpa using this
      have h2 := tabOk x (List.mem_of_find?_eq_some hx)
      rw [h1] at h2
      exact h2
  ext := fun f e he lo base tgt args g vals v h' h h1 h2 h3 h4 h5 => by
    have he : (if f == 33 then some (cloneX gc33) else if f == 91 then some indexX else none) = some e := he
    split at he
    · rename_i hf
      have hf : f = 33 := by simpa using hf
      subst hf
      cases he
      exact clone_sound (by kernel_rfl) ok33.1 ok33.2 cloneOk33 h h1 h2 h3 h4 h5
    · split at he
      · rename_i hf
        have hf : f = 91 := by simpa using hf
        subst hf
        cases he
        exact index_sound Tryd.func91 (by kernel_rfl) (by kernel_rfl) (by kernel_rfl) (by kernel_rfl) h h4 h5
      · cases he
  extV := fun f e he _ _ lo base tgt args h v h' h1 ht => by
    have he : (if f == 33 then some (cloneX gc33) else if f == 91 then some indexX else none) = some e := he
    split at he
    · cases he
      exact clone_V h1 ht
    · split at he
      · cases he
        rw [index_V h1]
        exact fun _ _ => .refl _
      · cases he
end Go.Proofs.YtnpfhbhhbdegfaaDoor
