/- Stores. -/
import Derived.Test.YtnpfhbhhbdegfaaDoorB1
set_option linter.unusedSimpArgs false
set_option linter.unusedVariables false
namespace Go.Abs

section
variable {P : Program} {g : G} {fr : Frame} {a : Act} {lo base : Nat}

theorem scopd_cells (n : Nat) (x : AV) : x.scopd n = AV.scopdL n x.cells := by
  cases x <;> simp [AV.cells, AV.scopd, AV.scopdL]

theorem okCells_scopd {n : Nat} : ∀ {xs ys : List AV}, okCells xs ys = true → AV.scopdL n ys = true → AV.scopdL n xs = true
  | [], _, _, _ => rfl
  | x :: xs, [], h, _ => by simp [okCells] at h
  | x :: xs, y :: ys, h, hy => by
    simp only [okCells, Bool.and_eq_true] at h
    simp only [AV.scopdL, Bool.and_eq_true] at hy ⊢
    refine ⟨?_, okCells_scopd h.2 hy.2⟩
    have h1 := h.1
    unfold okCell at h1
    simp only [Bool.or_eq_true] at h1
    rcases h1 with h1 | h1
    · exact scopd_of_closed n x h1
    · split at h1
      · simp only [beq_iff_eq] at h1
        subst h1
        simpa [AV.scopd] using hy.1
      · cases h1

/-- A part of an element is replaced. -/
theorem putPart_rep {g : G} {n sz o : Nat} {e v e' : AV} {ve val : Value} (he : Rep g e ve) (hs : ve.cells.size = sz) (hv : Rep g v val) (h : putPart n sz o e v = some e') :
    ∃ ve', Rep g e' ve' ∧ ve'.cells.size = sz ∧ val.cells.size = n ∧ o + n ≤ sz ∧ (∀ (j : Nat) (y : Value), val.cells[j]? = some y → y.oneCell' = true) ∧
      ∀ (j : Nat) (y : Value), ve'.cells[j]? = some y → (if o ≤ j ∧ j < o + n then val.cells[j - o]? else ve.cells[j]?) = some y := by
  unfold putPart at h
  obtain ⟨hvl, hvr⟩ := rep_cells hv
  obtain ⟨hel, her⟩ := rep_cells he
  split at h
  · rename_i hc
    obtain ⟨hc1, hc2⟩ := hc
    have hone := ok_one hv hc2
    split at h
    · rename_i hw
      simp only [Bool.and_eq_true, beq_iff_eq] at hw
      obtain ⟨⟨⟨rfl, rfl⟩, _⟩, _⟩ := hw
      cases h
      refine ⟨val, hv, by omega, by omega, by omega, hone, fun j y hy => ?_⟩
      have := (Array.getElem?_eq_some_iff.1 hy).1
      rw [if_pos (by omega)]
      exact hy
    · split at h
      · rename_i hle
        split at h
        · rename_i ha
          cases h
          obtain ⟨vs, rfl, h3⟩ := rep_agg he ha
          have hcr : CR g e.cells vs := ⟨hel, her, h3⟩
          have hp := hcr.put hv hc2 (off := o) (by omega)
          obtain ⟨s1, s2⟩ := arr_foldl_put o val.cells vs
          generalize val.cells.zipIdx.foldl (fun cs (x : Value × Nat) => cs.setIfInBounds (o + x.2) x.1) vs = W at hp s1 s2
          have hs' : vs.size = sz := hs
          have hel' : e.cells.length = vs.size := hel
          refine ⟨.agg W, .agg hp.1 hp.2.1 hp.2.2, s1.trans hs', by omega, by omega, hone, fun j y hy => ?_⟩
          have hy : W[j]? = some y := hy
          show (if o ≤ j ∧ j < o + n then val.cells[j - o]? else vs[j]?) = some y
          rw [s2] at hy
          split at hy
          · rename_i hj
            rw [if_pos (by omega)]
            exact hy
          · rename_i hj
            split
            · rename_i hj'
              omega
            · exact hy
        · rename_i ha
          split at h
          · cases h
          · rename_i ha2
            cases h
            have k1 := rep_notAgg he (by simpa using ha)
            have k2 := rep_notAgg hv (by simpa using ha2)
            have hn : n = 1 := by rw [← hc1, hvl, k2]; rfl
            have hl1 : e.cells.length = 1 := by rw [hel, k1]; rfl
            have hs1 : sz = 1 := by omega
            refine ⟨val, hv, by rw [k2, hs1]; rfl, by omega, by omega, hone, fun j y hy => ?_⟩
            have := (Array.getElem?_eq_some_iff.1 hy).1
            rw [if_pos (by omega)]
            rw [show j - o = j by omega]
            exact hy
      · cases h
  · cases h

theorem writeRow_get (cells : Array Value) (p : Nat) (vs : List Value) (h : p + vs.length ≤ cells.size) (j : Nat) :
    (cells.toList.take p ++ vs ++ cells.toList.drop (p + vs.length)).toArray[j]? = if p ≤ j ∧ j < p + vs.length then vs[j - p]? else cells[j]? := by
  simp only [List.getElem?_toArray]
  by_cases h1 : j < p
  · rw [if_neg (by omega), List.append_assoc, List.getElem?_append_left (by simp; omega), List.getElem?_take, if_pos h1]
    simp
  · by_cases h2 : j < p + vs.length
    · rw [if_pos (by omega), List.append_assoc, List.getElem?_append_right (by simp; omega), List.getElem?_append_left (by simp; omega)]
      congr 1
      simp
      omega
    · rw [if_neg (by omega), List.append_assoc, List.getElem?_append_right (by simp; omega), List.getElem?_append_right (by simp; omega), List.getElem?_drop]
      rw [Array.getElem?_toList]
      congr 1
      simp
      omega
theorem writeRow_size (cells : Array Value) (p : Nat) (vs : List Value) (h : p + vs.length ≤ cells.size) :
    (cells.toList.take p ++ vs ++ cells.toList.drop (p + vs.length)).toArray.size = cells.size := by
  simp
  omega

/-- An element's part is written. -/
theorem put_ok {b i o n c : Nat} {B : Blk} {e e' v : AV} {val : Value} (hr : HRep lo g) (hB : blk g.h b = some B) (hlo : lo ≤ b) (hf : B.frz = false) (hc : g.r b = some c) (he : B.es[i]? = some e) (hv : Rep g v val)
    (hp : putPart n B.sz o e v = some e') (hscp : b < base → ∀ n, e.scopd n = true → e'.scopd n = true) :
    ∃ w', (storeCells ⟨c, i * B.sz + o, none⟩ val.cells.toList).run P g.w = .ok () w' ∧ val.cells.size = n ∧
      HRep lo ⟨g.h.set b (.live { B with es := B.es.set i e' }), g.r, w', g.St⟩ ∧ Step lo base g ⟨g.h.set b (.live { B with es := B.es.set i e' }), g.r, w', g.St⟩ := by
  obtain ⟨cells, hh, hle, hes⟩ := (hr.blks b B (vblk_of hB)).2 c hc
  obtain ⟨ve, r1, r2, r3⟩ := hes i e he
  obtain ⟨ve', q1, q2, q3, q4, q5, q6⟩ := putPart_rep r1 r2 hv hp
  have hi : i < B.es.length := (List.getElem?_eq_some_iff.1 he).1
  have hrow : (i + 1) * B.sz ≤ B.es.length * B.sz := Nat.mul_le_mul_right _ hi
  rw [Nat.add_mul] at hrow
  have hfit : i * B.sz + o + val.cells.toList.length ≤ cells.size := by simp; omega
  have hst := run_storeCells_at P c (i * B.sz + o) B.ty val.cells.toList 0 cells g.w hh (by simpa using hfit) (fun u hu => by
    obtain ⟨j, hj⟩ := List.getElem?_of_mem hu
    exact q5 j u (by simpa using hj))
  simp only [Nat.add_zero] at hst
  obtain ⟨s, hb⟩ := modify_ok (lo := lo) (base := base) (es' := B.es.set i e') (cells' := (cells.toList.take (i * B.sz + o) ++ val.cells.toList ++ cells.toList.drop (i * B.sz + o + val.cells.toList.length)).toArray) hr hB hlo hf hc hh (writeRow_size _ _ _ hfit) (by simp) (fun hlt m hm => by
    refine scopdL_iff.2 fun k x hx => ?_
    by_cases hk : i = k
    · subst hk
      rw [List.getElem?_set_self hi] at hx
      cases hx
      exact hscp hlt m (scopdL_iff.1 hm _ _ he)
    · rw [List.getElem?_set_ne hk] at hx
      exact scopdL_iff.1 hm _ _ hx)
  refine ⟨_, hst, q3, hb ⟨fun hn => (by rw [show g.r b = none from hn] at hc; cases hc), fun c' hc' => ?_⟩, s⟩
  rw [show g.r b = some c' from hc'] at hc
  cases hc
  refine ⟨_, setRow_at hh, by rw [writeRow_size _ _ _ hfit]; simpa using hle, fun k x hx => ?_⟩
  by_cases hk : i = k
  · subst hk
    rw [List.getElem?_set_self hi] at hx
    cases hx
    refine ⟨ve', q1.step s hr, q2, fun j y hy => ?_⟩
    have hj : j < B.sz := q2 ▸ (Array.getElem?_eq_some_iff.1 hy).1
    have h6 := q6 j y hy
    rw [writeRow_get _ _ _ hfit]
    simp only [Array.length_toList, q3]
    split at h6
    · rename_i hjo
      rw [if_pos (by omega)]
      rw [show i * B.sz + j - (i * B.sz + o) = j - o by omega]
      simpa using h6
    · rename_i hjo
      rw [if_neg (by omega)]
      exact r3 j y h6
  · rw [List.getElem?_set_ne hk] at hx
    obtain ⟨u, u1, u2, u3⟩ := hes k x hx
    refine ⟨u, u1.step s hr, u2, fun j y hy => ?_⟩
    have hj : j < B.sz := u2 ▸ (Array.getElem?_eq_some_iff.1 hy).1
    have hap := apart_at (i := i) (k := k) (sz := B.sz) (j := j) (fun h => hk h.symm) hj
    rw [writeRow_get _ _ _ hfit]
    simp only [Array.length_toList, q3]
    rw [if_neg (by omega)]
    exact u3 j y hy

theorem slIds_ge (h : Heap) (ns : Nat) : ∀ (d : Nat) (x : AV) (b : Nat), b ∈ slIds h ns d x → ns ≤ b
  | 0, x, b, hb => by simp [slIds] at hb
  | d + 1, x, b, hb => by
    have ih := slIds_ge h ns d
    have fm : ∀ xs : List AV, b ∈ xs.flatMap (slIds h ns d) → ns ≤ b := fun xs hx => by
      obtain ⟨y, _, hy⟩ := List.mem_flatMap.1 hx
      exact ih y b hy
    simp only [slIds] at hb
    split at hb
    · cases hb
    · split at hb
      · split at hb
        · cases hb
        · split at hb
          · split at hb
            · simp only [List.mem_singleton] at hb; omega
            · rcases List.mem_cons.1 hb with rfl | hb
              · omega
              · exact fm _ hb
          · cases hb
      · split at hb
        · cases hb
        · split at hb
          · split at hb
            · split at hb
              · simp only [List.mem_singleton] at hb; omega
              · rcases List.mem_cons.1 hb with rfl | hb
                · omega
                · exact ih _ _ hb
            · cases hb
          · cases hb
      · exact fm _ hb
      · exact fm _ hb
      · exact fm _ hb
      · rcases List.mem_append.1 hb with hb | hb
        · exact fm _ hb
        · exact fm _ hb
      · cases hb

theorem freeze_other {b : Nat} : ∀ (bs : List Nat) (h h' : Heap), freeze lo h bs = some h' → (∀ i ∈ bs, i ≠ b) → h'[b]? = h[b]?
  | [], h, h', he, _ => by simp only [freeze, Option.some.injEq] at he; rw [he]
  | i :: bs, h, h', he, hn => by
    simp only [freeze] at he
    split at he
    · rename_i h1 h2
      rw [freeze_other bs h1 h' he fun j hj => hn j (List.mem_cons_of_mem _ hj)]
      unfold freeze1 at h2
      split at h2
      · split at h2
        · cases h2; rfl
        · split at h2
          · cases h2
            exact List.getElem?_set_ne (hn i (by simp))
          · cases h2
      · cases h2
    · cases he

theorem storeVar_run {t n : Nat} {ad : Addr} {val : Value} {w w' : World} (hn : tySize P t = some n) (hs : val.cells.size = n) (h : (storeCells ad val.cells.toList).run P w = .ok () w') : (storeVar t ad val).run P w = .ok () w' := by
  simp only [storeVar, Sem.run_bind, size_run hn, Result.andThen_ok, hs]
  simp [h]

theorem ok_store {o : Oper} {t n : Nat} {x y : Operand} {x' y' : Opd} {h' : Heap} (ho : o.op = .store t x y) (hx : opd x = some x') (hy : opd y = some y') (hn : tySize P t = some n) (hf : FrRep g fr a) (hr : HRep lo g)
    (h : storeAV g.h lo base n (x'.get fr) (y'.get fr) = some h') : Ok P o a lo base g .undef h' := by
  have h1 := opd_rep hf hx
  have h2 := opd_rep hf hy
  have fin : ∀ {ad : Addr} {w' : World} {r' : RM} {St' : Nat → Prop}, a.eval x = .pointer (some ad) → (a.eval y).cells.size = n → (storeCells ad (a.eval y).cells.toList).run P g.w = .ok () w' → HRep lo ⟨h', r', w', St'⟩ → Step lo base g ⟨h', r', w', St'⟩ → Ok P o a lo base g .undef h' := by
    intro ad w' r' St' e1 e2 e3 e4 e5
    refine ⟨.skip, undef, w', r', St', ?_, .inr ⟨rfl, rfl⟩, .undef, e4, e5⟩
    have := storeVar_run hn e2 e3
    simp [execOp, ho, Instr.storeAt, Instr.sureAddr, e1, this]
  generalize hX : x'.get fr = X at h h1
  unfold storeAV at h
  split at h
  · rename_i b k i off
    split at h
    · rename_i hlo
      split at h
      · rename_i B hB
        have hBb := (good_eq.1 hB).1
        split at h
        · cases h
        · rename_i hfz
          have hfz : B.frz = false := by simpa using hfz
          split at h
          · rename_i e he
            cases hcb : g.r b with
            | none =>
              have := (hr.blks b B (vblk_of hBb)).1 hcb
              rw [this] at he
              simp at he
            | some c =>
              cases hX2 : a.eval x with
              | pointer oa =>
                rw [hX2] at h1
                cases h1 with
                | ptr r1 r2 =>
                  rename_i ad
                  have had := r2 B c (vgood_of hB) hcb
                  subst had
                  split at h
                  · rename_i hbase
                    split at h
                    · rename_i e' hp
                      cases h
                      obtain ⟨w', q1, q2, q3, q4⟩ := put_ok (P := P) (lo := lo) (base := base) hr hBb hlo hfz hcb he h2 hp (fun hlt => by omega)
                      exact fin hX2 q2 q1 q3 q4
                    · cases h
                  · rename_i hbase
                    split at h
                    · rename_i v' hv'
                      split at h
                      · rename_i h1' e' hfr hp
                        split at h
                        · rename_i hok
                          cases h
                          obtain ⟨St1, s1, hr1, hS1⟩ := freeze_ok (lo := lo) (base := base) _ g h1' hr hfr
                          have h2' : Rep ⟨h1', g.r, g.w, St1⟩ v' (a.eval y) := embed_rep hr (m := base) (fun _ hx => hx.step s1 hr) s1.st (fun _ _ => rfl) base base (Nat.le_refl _) (Nat.le_refl _) depth _ _ _ hv' h2 hS1
                          have hb1 : blk h1' b = some B := blk_eq.2 ((freeze_other _ _ _ hfr fun i hi => by have := slIds_ge _ _ _ _ _ hi; omega).trans (blk_eq.1 hBb))
                          obtain ⟨w', q1, q2, q3, q4⟩ := put_ok (P := P) (g := ⟨h1', g.r, g.w, St1⟩) (lo := lo) (base := base) hr1 hb1 hlo hfz hcb he h2' hp (fun _ m hm => by
                            rw [scopd_cells] at hm ⊢
                            exact okCells_scopd hok hm)
                          exact fin hX2 q2 q1 q3 (s1.trans q4)
                        · cases h
                      · cases h
                    · cases h
              | _ => rw [hX2] at h1; cases h1
          · cases h
      · cases h
    · cases h
  · cases h

end
end Go.Abs
