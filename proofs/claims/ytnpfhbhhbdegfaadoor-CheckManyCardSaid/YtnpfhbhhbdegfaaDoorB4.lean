/- Append, clear and the slice that keeps nothing, as operations. -/
import Derived.Test.YtnpfhbhhbdegfaaDoorB3
set_option linter.unusedSimpArgs false
set_option linter.unusedVariables false
namespace Go.Abs

section
variable {P : Program} {g : G} {fr : Frame} {a : Act} {lo base : Nat}

theorem constAV_len {v : Value} {z : AV} (h : constAV v = some z) : z.cells.length = v.cells.size := by
  unfold constAV at h
  split at h
  · rename_i cs
    cases hm : mapO constAV1 cs.toList with
    | none => rw [hm] at h; cases h
    | some ys =>
      rw [hm] at h
      cases h
      simpa [AV.cells, Value.cells] using (mapO_some hm).1
  · unfold constAV1 at h
    split at h <;> cases h <;> rfl
theorem elT_of {t e sz bs : Nat} {z : AV} (ht : elemTy P t = some e) (hsz : tySize P e = some sz) (hbs : tyBytes P e = some bs) (hz : zeroAV P e = some z) (hb : bs ≤ 4096) (hp : 0 < sz) (hzs : z.cells.length = sz) : ElT P t e sz bs := by
  obtain ⟨zv, hzc, i, hi, hzi⟩ : ∃ v, constAV v = some z ∧ ∃ i, P.info? e = some i ∧ i.zero = some v := by
    unfold zeroAV at hz
    split at hz
    · rename_i i hi
      split at hz
      · rename_i v hv
        exact ⟨v, hz, i, hi, hv⟩
      · cases hz
    · cases hz
  refine ⟨elemTy_eq ht, ⟨i, zv, hi, hzi, ?_, ?_, ?_⟩, hb, hp⟩
  · simp only [tySize, hi, Option.map_some, Option.some.injEq] at hsz
    exact hsz
  · simp only [tyBytes, hi, Option.map_some, Option.some.injEq] at hbs
    exact hbs
  · rw [← constAV_len hzc, hzs]

theorem ok_append {o : Oper} {t e sz bs tgt : Nat} {x y : Operand} {x' y' : Opd} {ys : List AV} {v : AV} {h' : Heap} {as : Array Operand} {ts : Array TypeId} (ho : o.op = .call { callee := .builtin .append, args := as, argTypes := ts }) (has : as.toList = [x, y]) (hts : ts.toList = [t, t])
    (hx : opd x = some x') (hy : opd y = some y') (hE : ElT P t e sz bs) (hf : FrRep g fr a) (hr : HRep lo g) (hb : base ≤ tgt) (hys : readSl g.h sz (y'.get fr) = some ys)
    (h : appendAV g.h lo base tgt e sz (x'.get fr) ys = some (v, h')) : Ok P o a lo base g v h' := by
  have h1 := opd_rep hf hx
  obtain ⟨A2, cap2, row, ey, hl, hER, hone, hrow⟩ := readRow hr hys (opd_rep hf hy)
  have has' : as = #[x, y] := by rw [← Array.toArray_toList (xs := as), has]
  have hts' : ts = #[t, t] := by rw [← Array.toArray_toList (xs := ts), hts]
  have fin : ∀ {v' : Value} {w' : World} {r' : RM} {St' : Nat → Prop}, (Builtin.append_ #[t, t] o.type #[a.eval x, .slice A2 ys.length cap2]).run P g.w = .ok v' w' → Rep ⟨h', r', w', St'⟩ v v' → HRep lo ⟨h', r', w', St'⟩ → Step lo base g ⟨h', r', w', St'⟩ → Ok P o a lo base g v h' := by
    intro v' w' r' St' e1 e2 e3 e4
    refine ⟨_, v', w', r', St', ?_, .inl rfl, e2, e3, e4⟩
    simp [execOp, ho, resolve, invoke, builtin, has', hts', ey, e1]
  generalize hX : x'.get fr = X at h h1
  generalize hv : a.eval x = xv at h1 fin
  cases X with
  | emp =>
    cases h1
    obtain ⟨v', w', r', St', k1, k2, k3, k4⟩ := append_emp_ok (ty := o.type) (cap2 := cap2) hE hr hb hl hER hrow .emp h
    exact fin k1 k2 k3 k4
  | sl sz' b k off len =>
    simp only [appendAV] at h
    split at h
    · rename_i hlo
      split at h
      · rename_i B hB
        split at h
        · cases h
        · rename_i hc
          simp only [Bool.or_eq_true, not_or, Bool.not_eq_true, Bool.not_eq_false', beq_iff_eq, decide_eq_true_eq] at hc
          obtain ⟨⟨⟨⟨⟨⟨c1, c2⟩, c3⟩, c4⟩, c5⟩, c6⟩, c7⟩ := hc
          subst c2
          subst c3
          have hsz' : sz' = sz := by
            cases h1 with
            | sl r1 r2 r3 r6 r7 r4 r5 => rw [← r6 B (vgood_of hB), c4]
          subst hsz'
          split at h
          · rename_i hbs
            cases h
            obtain ⟨v', w', r', St', k1, k2, k3, k4⟩ := append_sl_ok (lo := lo) (base := base) (ty := o.type) (cap2 := cap2) hE hr hB hlo c1 c4 c5 c6 hl hER (hone c7) hrow h1 (fun hlt => by omega)
            exact fin k1 k2 k3 k4
          · rename_i hbs
            split at h
            · rename_i ys' hys'
              split at h
              · rename_i h1' hfr
                split at h
                · rename_i hcl
                  cases h
                  obtain ⟨St1, s1, hr1, hS1⟩ := freeze_ok (lo := lo) (base := base) _ g h1' hr hfr
                  have hb1 : good h1' b len = some B := good_eq.2 ⟨blk_eq.2 ((freeze_other _ _ _ hfr fun i hi => by
                    obtain ⟨q, _, hq⟩ := List.mem_flatMap.1 hi
                    have := slIds_ge _ _ _ _ _ hq
                    omega).trans (blk_eq.1 (good_eq.1 hB).1)), (good_eq.1 hB).2⟩
                  have hyl := (mapO_some hys').1
                  have hER' : ER ⟨h1', g.r, g.w, St1⟩ sz' ys' row.toArray := fun i z hz => by
                    obtain ⟨e', he', hez⟩ := mapO_rep hys' hz
                    obtain ⟨u, u1, u2, u3⟩ := hER i e' he'
                    exact ⟨u, embed_rep hr (m := base) (fun _ hx => hx.step s1 hr) s1.st (fun _ _ => rfl) base base (Nat.le_refl _) (Nat.le_refl _) depth _ _ _ hez u1 (fun b' hb' => hS1 b' (List.mem_flatMap.2 ⟨e', List.mem_of_getElem? he', hb'⟩)), u2, u3⟩
                  obtain ⟨v', w', r', St', k1, k2, k3, k4⟩ := append_sl_ok (g := ⟨h1', g.r, g.w, St1⟩) (lo := lo) (base := base) (ty := o.type) (cap2 := cap2) (ys := ys') hE hr1 hb1 hlo c1 c4 c5 (by omega) (by rw [hyl]; exact hl) hER' (hone c7) hrow (h1.step s1 hr) (fun _ => hcl)
                  rw [hyl] at k1 k2
                  exact fin k1 k2 k3 (s1.trans k4)
                · cases h
              · cases h
            · cases h
      · cases h
    · cases h
  | _ => simp [appendAV] at h

theorem constAV_one {v : Value} {z : AV} (h : constAV v = some z) : ∀ (j : Nat) (y : Value), v.cells[j]? = some y → y.oneCell' = true := by
  unfold constAV at h
  split at h
  · rename_i cs
    cases hm : mapO constAV1 cs.toList with
    | none => rw [hm] at h; cases h
    | some ys =>
      obtain ⟨_, hi⟩ := mapO_some hm
      intro j y hy
      obtain ⟨_, _, he⟩ := hi j y (by simpa [Value.cells] using hy)
      exact constAV1_one he
  · have h1 := constAV1_one h
    intro j y hy
    have hc : v.cells = #[v] := by
      cases v <;> first | rfl | (simp [Value.oneCell'] at h1)
    rw [hc] at hy
    cases j with
    | zero => simp at hy; subst hy; exact h1
    | succ j => simp at hy

theorem ok_clear {o : Oper} {t e sz : Nat} {x : Operand} {x' : Opd} {z : AV} {h' : Heap} {as : Array Operand} {ts : Array TypeId} (ho : o.op = .call { callee := .builtin .clear, args := as, argTypes := ts }) (has : as.toList = [x]) (hts : ts.toList = [t])
    (hx : opd x = some x') (ht : elemTy P t = some e) (hsz : tySize P e = some sz) (hz : zeroAV P e = some z) (hf : FrRep g fr a) (hr : HRep lo g)
    (h : clearAV g.h lo z (x'.get fr) = some h') : Ok P o a lo base g .undef h' := by
  have h1 := opd_rep hf hx
  have has' : as = #[x] := by rw [← Array.toArray_toList (xs := as), has]
  have hts' : ts = #[t] := by rw [← Array.toArray_toList (xs := ts), hts]
  obtain ⟨zv, hzr, hzc, _⟩ := zeroAV_run hz g.w
  have hz1 := constAV_one hzc
  have hzl := (rep_cells (constAV_rep (g := g) hzc)).1
  have hu := elemTy_eq ht
  have fin : ∀ {w' : World} {r' : RM} {St' : Nat → Prop}, (Builtin.clear_ #[t] o.type #[a.eval x]).run P g.w = .ok (.tuple #[]) w' → HRep lo ⟨h', r', w', St'⟩ → Step lo base g ⟨h', r', w', St'⟩ → Ok P o a lo base g .undef h' := by
    intro w' r' St' e1 e2 e3
    refine ⟨_, undef, w', r', St', ?_, .inl rfl, .undef, e2, e3⟩
    simp [execOp, ho, resolve, invoke, builtin, has', hts', e1]
    rfl
  generalize hX : x'.get fr = X at h h1
  generalize hV : a.eval x = V at h1 fin
  cases X with
  | emp =>
    simp only [clearAV, Option.some.injEq] at h
    subst h
    cases h1
    rename_i A
    refine fin (w' := g.w) (r' := g.r) (St' := g.St) ?_ hr (Step.refl lo base g)
    cases A <;> simp [Builtin.clear_, run_underlying hu]
  | sl s b k off len =>
    simp only [clearAV] at h
    split at h
    · rename_i hlo
      split at h
      · rename_i B hB
        split at h
        · cases h
        · rename_i hfz
          split at h
          · rename_i hc
            obtain ⟨hc1, hc2, hc3⟩ := hc
            cases h
            cases h1 with
            | sl r1 r2 r3 r6 r7 r4 r5 =>
              rename_i cap A
              obtain ⟨hBb, hBl⟩ := good_eq.1 hB
              obtain ⟨hn1, hn2⟩ := hr.blks b B (vblk_of hBb)
              rcases Nat.eq_zero_or_pos len with h0 | hp
              · subst h0
                have hes : B.es.take off ++ List.replicate 0 z ++ B.es.drop (off + 0) = B.es := by simp
                rw [hes, show ({ B with es := B.es } : Blk) = B from rfl, set_self (blk_eq.1 hBb)] at fin
                rw [hes, show ({ B with es := B.es } : Blk) = B from rfl, set_self (blk_eq.1 hBb)]
                refine fin (w' := g.w) (r' := g.r) (St' := g.St) ?_ hr (Step.refl lo base g)
                cases A <;> simp [Builtin.clear_, run_underlying hu]
              · cases hcb : g.r b with
                | none =>
                  have := hn1 hcb
                  rw [this] at hBl
                  simp at hBl
                  omega
                | some c =>
                  obtain ⟨cells, hh, hle, hes⟩ := hn2 c hcb
                  have hA := r4 hp B c (vgood_of hB) hcb
                  subst hA
                  rw [hBl] at hle
                  have hzs : zv.cells.size = B.sz := by rw [← hzl, hc2]
                  have hzc2 : Builtin.zeroCells zv.cells len = madeCells zv.cells (len * zv.cells.size) := rfl
                  have hfit : off * B.sz + (Builtin.zeroCells zv.cells len).toList.length ≤ cells.size := by
                    rw [Array.length_toList, size_zeroCells, hzs, ← Nat.add_mul]
                    exact Nat.le_trans (Nat.mul_le_mul_right _ hc3) hle
                  have hst := run_storeCells_at P c (off * B.sz) B.ty (Builtin.zeroCells zv.cells len).toList 0 cells g.w hh (by simpa using hfit) (fun u hu => by
                    simp only [Builtin.zeroCells, Array.toList_map, List.mem_map] at hu
                    obtain ⟨i, hi, rfl⟩ := hu
                    simp at hi
                    have hlt : i % zv.cells.size < zv.cells.size := Nat.mod_lt _ (by
                      rcases Nat.eq_zero_or_pos zv.cells.size with h | h
                      · rw [h] at hi; omega
                      · exact h)
                    refine hz1 (i % zv.cells.size) _ ?_
                    rw [Array.getElem?_eq_getElem hlt]
                    simp only [getElem!_pos, hlt])
                  simp only [Nat.add_zero] at hst
                  obtain ⟨s', hbr⟩ := modify_ok (lo := lo) (base := base) (es' := B.es.take off ++ List.replicate len z ++ B.es.drop (off + len)) (cells' := (cells.toList.take (off * B.sz) ++ (Builtin.zeroCells zv.cells len).toList ++ cells.toList.drop (off * B.sz + (Builtin.zeroCells zv.cells len).toList.length)).toArray)
                    hr hBb hlo (by simpa using hfz) hcb hh (writeRow_size _ _ _ hfit) (by simp; omega) (fun _ m hm => by
                      refine scopdL_iff.2 fun i y hy => ?_
                      have hsp := splice_get B.es off (List.replicate len z) (by simp; omega) i
                      simp only [splice, List.length_replicate] at hsp
                      rw [hsp] at hy
                      split at hy
                      · rw [List.getElem?_replicate_of_lt (by omega)] at hy
                        cases hy
                        exact scopd_of_closed m z hc1
                      · exact scopdL_iff.1 hm i y hy)
                  refine fin ?_ (hbr ⟨fun hn => (by rw [show g.r b = none from hn] at hcb; cases hcb), fun d hd => ?_⟩) s'
                  · obtain ⟨l, rfl⟩ : ∃ l, len = l + 1 := ⟨len - 1, by omega⟩
                    simp [Builtin.clear_, run_underlying hu, hzr]
                    simp at hst
                    simp [hst]
                  · have hdc : d = c := by rw [show g.r b = some d from hd] at hcb; cases hcb; rfl
                    subst hdc
                    refine ⟨_, setRow_at hh, by rw [writeRow_size _ _ _ hfit]; simp; rw [show min off B.es.length + (len + (B.es.length - (off + len))) = k by omega]; exact hle, fun i y hy => ?_⟩
                    have hsp := splice_get B.es off (List.replicate len z) (by simp; omega) i
                    simp only [splice, List.length_replicate] at hsp
                    simp only at hy
                    rw [hsp] at hy
                    split at hy
                    · rename_i hi
                      rw [List.getElem?_replicate_of_lt (by omega)] at hy
                      cases hy
                      refine ⟨zv, constAV_rep hzc, hzs, fun j u hju => ?_⟩
                      have hj : j < B.sz := hzs ▸ (Array.getElem?_eq_some_iff.1 hju).1
                      have h5 := made_get zv.cells len (i - off) j u (by omega) hju
                      rw [← hzc2, hzs] at h5
                      have hlt := (Array.getElem?_eq_some_iff.1 h5).1
                      have heq : off * B.sz + ((i - off) * B.sz + j) = i * B.sz + j := by
                        rw [Nat.sub_mul]
                        have : off * B.sz ≤ i * B.sz := Nat.mul_le_mul_right _ hi.1
                        omega
                      rw [writeRow_get _ _ _ hfit, if_pos (by simp only [Array.length_toList]; omega)]
                      rw [show i * B.sz + j - off * B.sz = (i - off) * B.sz + j by omega]
                      simpa using h5
                    · rename_i hi
                      obtain ⟨u, u1, u2, u3⟩ := hes i y hy
                      refine ⟨u, u1.step s' hr, u2, fun j q hq => ?_⟩
                      have hj : j < B.sz := u2 ▸ (Array.getElem?_eq_some_iff.1 hq).1
                      rw [writeRow_get _ _ _ hfit, if_neg ?_]
                      · exact u3 j q hq
                      · rw [Array.length_toList, size_zeroCells, hzs, ← Nat.add_mul]
                        show ¬(off * B.sz ≤ i * B.sz + j ∧ i * B.sz + j < (off + len) * B.sz)
                        rcases Nat.lt_or_ge i off with h | h
                        · have := row_lt (m := off * B.sz) h hj (Nat.le_refl _)
                          omega
                        · have : (off + len) * B.sz ≤ i * B.sz := Nat.mul_le_mul_right _ (by omega)
                          omega
          · cases h
      · cases h
    · cases h
  | _ => simp [clearAV] at h

theorem yl_slMax {o : Oper} {t e sz l r n m' : Nat} {x mo : Operand} {x' m : Opd} {lo hi : Option Operand} {lo' hi' : Option Opd} {v : AV} (ho : o.op = .slice t x lo hi (some mo)) (hx : opd x = some x') (hlo : opdO lo = some lo') (hhi : opdO hi = some hi') (hmo : opd mo = some m)
    (hf : FrRep g fr a) (ht : elemTy P t = some e) (hsz : tySize P e = some sz) (hn : slLen (x'.get fr) = some n) (hl : natOpt fr 0 lo' = some l) (hr : natOpt fr n hi' = some r) (hm : natArg (m.get fr) = some m') (hmx : hi'.isNone = false)
    (h : sliceAV sz (x'.get fr) l r (some m') = some v) : Yl P o a g v := by
  have h1 := opd_rep hf hx
  obtain ⟨A, cap, e1, hcap⟩ := slLen_of hn h1
  have hu := elemTy_eq ht
  obtain ⟨k, hk⟩ := nat_of hm (opd_rep hf hmo)
  simp only [sliceAV, hn] at h
  split at h
  · rename_i hc
    obtain ⟨rfl, rfl, hle⟩ := hc
    cases h
    have hb : (Instr.sliceBounds true n cap (lo.map a.eval) (hi.map a.eval) (some (a.eval mo))).run P g.w = .ok (l, l, l) g.w := by
      cases hi with
      | none => simp [opdO] at hhi; subst hhi; simp at hmx
      | some hi =>
        have e3 := bound_run (P := P) (x := a.eval mo) (k := k) (n := l) (y := cap) (code := .slice3Acap) hk (by omega) g.w
        rcases natOpt_of hhi hf hr with ⟨h, _⟩ | ⟨y, k2, h, h'⟩
        · simp at h
        · have e4 := bound_run (P := P) (x := a.eval hi) (k := k2) (n := l) (y := l) (code := .slice3B) (by simp at h; subst h; exact h') (Nat.le_refl _) g.w
          rcases natOpt_of hlo hf hl with ⟨h, h0⟩ | ⟨y2, k3, h2, h2'⟩
          · subst h
            subst h0
            simp [Instr.sliceBounds, e3, e4]
          · subst h2
            have e5 := bound_run (P := P) (x := a.eval y2) (k := k3) (n := l) (y := l) (code := .slice3C) h2' (Nat.le_refl _) g.w
            simp [Instr.sliceBounds, e3, e4, e5]
    refine ⟨.slice A 0 0, ?_, .emp⟩
    simp only [execOp, ho, e1]
    refine run_vv ?_
    simp only [Option.map_some, Instr.sliceAt, Sem.run_bind, und_run hu, Result.andThen_ok, Instr.slice]
    simp [hb, size_run hsz]
  · cases h

end
end Go.Abs
