/- Reading operations: loads, fields, strings, slices, results of several values. -/
import Derived.Test.YtnpfhbhhbdegfaaDoorA4
namespace Go.Abs

section
variable {P : Program} {g : G} {fr : Frame} {a : Act}

theorem rep_cells {e : AV} {v : Value} (h : Rep g e v) : e.cells.length = v.cells.size ∧ ∀ (j : Nat) (x : AV) (y : Value), e.cells[j]? = some x → v.cells[j]? = some y → Rep g x y := by
  have one : ∀ {e : AV} {v : Value}, Rep g e v → [e].length = (#[v] : Array Value).size ∧ ∀ (j : Nat) (x : AV) (y : Value), [e][j]? = some x → (#[v] : Array Value)[j]? = some y → Rep g x y := by
    intro e v h
    refine ⟨rfl, fun j x y hx hy => ?_⟩
    cases j with
    | zero => simp at hx hy; subst hx; subst hy; exact h
    | succ j => simp at hx
  cases h with
  | agg h1 h2 h3 => exact ⟨h1, h2⟩
  | undef => exact one .undef
  | int k n => exact one (.int k n)
  | bool b => exact one (.bool b)
  | str s => exact one (.str s)
  | nilp => exact one .nilp
  | ptr h1 h2 => exact one (.ptr h1 h2)
  | rp h1 h2 h3 h4 => exact one (.rp h1 h2 h3 h4)
  | emp => exact one .emp
  | nn => exact one .nn
  | ro vf h1 h2 h3 h4 => exact one (.ro vf h1 h2 h3 h4)
  | sl h1 h2 h3 h6 h7 h4 h5 => exact one (.sl h1 h2 h3 h6 h7 h4 h5)
  | tup h1 h2 => exact one (.tup h1 h2)
  | fn h1 h2 h3 h4 => exact one (.fn h1 h2 h3 h4)

theorem rep_agg {e : AV} {v : Value} (h : Rep g e v) (ha : e.isAgg = true) : ∃ vs, v = .agg vs ∧ ∀ (j : Nat) (x : Value), vs[j]? = some x → x.oneCell' = true := by
  cases h with
  | agg h1 h2 h3 => exact ⟨_, rfl, h3⟩
  | _ => simp [AV.isAgg] at ha
theorem rep_notAgg {e : AV} {v : Value} (h : Rep g e v) (ha : e.isAgg = false) : v.cells = #[v] := by
  cases h with
  | agg h1 h2 h3 => simp [AV.isAgg] at ha
  | _ => rfl

theorem loadVar_run {t n c o : Nat} {ag : Bool} (hag : tyAgg P t = some ag) (hn : tySize P t = some n) (w : World) (vs : List Value)
    (hl : ag = true → vs.length = n) (h1 : ag = false → 0 < vs.length) (hc : ∀ (j : Nat) (x : Value), vs[j]? = some x → w.cell? ⟨c, o + j, none⟩ = some x) :
    (loadVar t ⟨c, o, none⟩).run P w = .ok (if ag then .agg vs.toArray else vs.getD 0 undef) w := by
  cases ag with
  | true =>
    have := run_loadCells_list (P := P) w ⟨c, o, none⟩ vs (fun j x hx => by rw [add_off]; exact hc j x hx)
    simp only [loadVar, Sem.run_bind, agg_run hag, Result.andThen_ok, if_true, size_run hn, ← hl rfl, this, Sem.run_pure]
  | false =>
    have h0 := h1 rfl
    have := hc 0 (vs[0]) (List.getElem?_eq_getElem h0)
    simp only [Nat.add_zero] at this
    simp only [loadVar, Sem.run_bind, agg_run hag, Result.andThen_ok]
    simp [this, List.getD, List.getElem?_eq_getElem h0]

/-- A part of an element that lies in memory. -/
theorem part_run {t n c base o sz : Nat} {ag : Bool} {e v : AV} {ve : Value} (hag : tyAgg P t = some ag) (hn : tySize P t = some n) (hr : Rep g e ve) (hsz : ve.cells.size = sz)
    (hc : ∀ (j : Nat) (x : Value), ve.cells[j]? = some x → g.w.cell? ⟨c, base + j, none⟩ = some x) (h : part ag n sz o e = some v) :
    ∃ v', (loadVar t ⟨c, base + o, none⟩).run P g.w = .ok v' g.w ∧ Rep g v v' := by
  obtain ⟨hl, hp⟩ := rep_cells hr
  unfold part at h
  cases ag with
  | true =>
    simp only [if_true] at h
    split at h
    · rename_i hw
      simp only [Bool.and_eq_true, beq_iff_eq] at hw
      obtain ⟨⟨ho, hns⟩, ha⟩ := hw
      cases h
      subst ho
      obtain ⟨vs, rfl, _⟩ := rep_agg hr ha
      have := loadVar_run (P := P) (c := c) (o := base) hag hn g.w vs.toList (fun _ => by simpa [Value.cells, hns] using hsz) (by simp) (fun j x hx => hc j x (by simpa [Value.cells] using hx))
      exact ⟨.agg vs, by simpa using this, hr⟩
    · split at h
      · rename_i hw
        simp only [Bool.and_eq_true, decide_eq_true_eq] at hw
        obtain ⟨ha, hle⟩ := hw
        cases h
        obtain ⟨vs, rfl, h3⟩ := rep_agg hr ha
        have hlen : ((vs.toList.drop o).take n).length = n := by
          simp only [Value.cells] at hl
          simp only [List.length_take, List.length_drop, Array.length_toList]
          omega
        have hget : ∀ (j : Nat) (x : Value), ((vs.toList.drop o).take n)[j]? = some x → vs[o + j]? = some x := by
          intro j x hx
          rw [List.getElem?_take] at hx
          split at hx
          · simpa using hx
          · cases hx
        have := loadVar_run (P := P) (c := c) (o := base + o) hag hn g.w ((vs.toList.drop o).take n) (fun _ => hlen) (by simp) (fun j x hx => by rw [Nat.add_assoc]; exact hc (o + j) x (hget j x hx))
        refine ⟨.agg ((vs.toList.drop o).take n).toArray, by simpa using this, .agg ?_ (fun j x y hx hy => ?_) (fun j y hy => ?_)⟩
        · simp only [Value.cells] at hl
          simp only [List.length_take, List.length_drop, List.size_toArray, hl, Array.length_toList]
        · rw [List.getElem?_take] at hx
          split at hx
          · exact hp (o + j) x y (by simpa using hx) (hget j y (by simpa using hy))
          · cases hx
        · exact h3 (o + j) y (hget j y (by simpa using hy))
      · cases h
  | false =>
    simp only [Bool.false_eq_true, if_false] at h
    have hlt : o < ve.cells.size := hl ▸ (List.getElem?_eq_some_iff.1 h).1
    have := loadVar_run (P := P) (c := c) (o := base + o) hag hn g.w [ve.cells[o]] (by simp) (by simp) (fun j x hx => by
      cases j with
      | zero => simp at hx; subst hx; exact hc o _ (Array.getElem?_eq_getElem hlt)
      | succ j => simp at hx)
    exact ⟨ve.cells[o], by simpa using this, hp o v _ h (Array.getElem?_eq_getElem hlt)⟩

theorem cell_at {w : World} {c : Nat} {cells : Array Value} {ty : TypeId} {fz : Nat × Nat} (h : w.heap[c]? = some (.cells cells ty fz)) (j : Nat) : w.cell? ⟨c, j, none⟩ = cells[j]? := by
  simp [World.cell?, h]

theorem load_rep {t n lo : Nat} {ag : Bool} {X v : AV} {V : Value} (hr : HRep lo g) (h1 : Rep g X V) (hag : tyAgg P t = some ag) (hn : tySize P t = some n) (h : loadAV g.h ag n X = some v) :
    ∃ ad, V = .pointer (some ad) ∧ ∃ v', (loadVar t ad).run P g.w = .ok v' g.w ∧ Rep g v v' := by
  unfold loadAV at h
  split at h
  · rename_i b n' i o'
    split at h
    · rename_i B hB
      split at h
      · rename_i e he
        cases h1 with
        | ptr r1 r2 =>
          obtain ⟨hn1, hn2⟩ := hr.blks b B (vblk_of (good_eq.1 hB).1)
          cases hc : g.r b with
          | none => rw [hn1 hc] at he; simp at he
          | some c =>
            obtain ⟨cells, hh, _, hes⟩ := hn2 c hc
            obtain ⟨ve, hre, hsz, hcell⟩ := hes i e he
            have := r2 B c (vgood_of hB) hc
            subst this
            exact ⟨_, rfl, part_run hag hn hre hsz (fun j y hy => by rw [cell_at hh]; exact hcell j y hy) h⟩
      · cases h
    · cases h
  · cases h1 with
    | rp r1 r2 r3 r4 => exact ⟨_, rfl, part_run hag hn r1 r4 r3 h⟩
  · cases h

theorem yl_load {o : Oper} {t n lo : Nat} {ag : Bool} {x : Operand} {x' : Opd} {v : AV} (ho : o.op = .load t x) (hx : opd x = some x') (hf : FrRep g fr a) (hr : HRep lo g) (hag : tyAgg P t = some ag) (hn : tySize P t = some n)
    (h : loadAV g.h ag n (x'.get fr) = some v) : Yl P o a g v := by
  obtain ⟨ad, he, v', hv, hrep⟩ := load_rep hr (opd_rep hf hx) hag hn h
  refine ⟨v', ?_, hrep⟩
  simp only [execOp, ho, he]
  exact run_vv (by simp [Instr.loadAt, Instr.sureAddr, hv])

theorem yl_extract {o : Oper} {i : Nat} {x : Operand} {x' : Opd} {vs : List AV} {v : AV} (ho : o.op = .extract x i) (hx : opd x = some x') (hf : FrRep g fr a) (h : x'.get fr = .tup vs) (hv : vs[i]? = some v) : Yl P o a g v := by
  have h1 := opd_rep hf hx
  rw [h] at h1
  generalize he : a.eval x = V at h1
  cases h1 with
  | tup r1 r2 =>
    rename_i us
    have hlt : i < us.size := r1 ▸ (List.getElem?_eq_some_iff.1 hv).1
    refine ⟨us[i], ?_, r2 i v _ hv (Array.getElem?_eq_getElem hlt)⟩
    simp only [execOp, ho, he]
    exact run_vv (by simp [Instr.extract, Array.getElem?_eq_getElem hlt])

theorem yl_istr {o : Oper} {t : Nat} {x i : Operand} {x' i' : Opd} {v : AV} (ho : o.op = .index t x i) (hx : opd x = some x') (hi : opd i = some i') (hf : FrRep g fr a) (ht : isStrT P t = true)
    (h : istrAV (x'.get fr) (i'.get fr) = some v) : Yl P o a g v := by
  have h1 := opd_rep hf hx
  have h2 := opd_rep hf hi
  generalize x'.get fr = X at *
  generalize i'.get fr = I at *
  unfold istrAV at h
  split at h
  · rename_i j s hj
    obtain ⟨k, e2⟩ := nat_of hj h2
    have e1 := rep_str h1
    split at h
    · rename_i ch hch
      cases h
      refine ⟨.int .u8 ch.toNat, ?_, .int _ _⟩
      simp only [execOp, ho, e1, e2]
      refine run_vv ?_
      have hlt : j < s.length := (List.getElem?_eq_some_iff.1 hch).1
      have hb : (⟨s.toArray⟩ : ByteArray)[j]? = some ch := by
        have hs : (⟨s.toArray⟩ : ByteArray).size = s.length := rfl
        have : j < (⟨s.toArray⟩ : ByteArray).size := by rw [hs]; exact hlt
        rw [getElem?_pos (⟨s.toArray⟩ : ByteArray) j this]
        have : s[j] = ch := (List.getElem?_eq_some_iff.1 hch).2
        rw [← this]
        rfl
      simp only [Instr.index, asIntOf, Sem.run_bind, Sem.run_pure, und_run (isStrT_eq ht), Result.andThen_ok]
      simp [hb]
    · cases h
  · cases h

theorem str_extract (s : List UInt8) (l r : Nat) : (⟨s.toArray⟩ : ByteArray).extract l r = ⟨((s.take r).drop l).toArray⟩ := by
  apply ByteArray.ext
  rw [ByteArray.data_extract]
  simp [List.drop_take]

theorem bound_run {x : Value} {k : IntKind} {n y : Nat} {code : BoundsCode} (hx : x = .int k (n : Int)) (h : n ≤ y) (w : World) : (Instr.sliceBound x y code).run P w = .ok n w := by
  subst hx
  have : (0 : Int) ≤ (n : Int) ∧ (n : Int) ≤ (y : Int) := by omega
  simp [Instr.sliceBound, asIntOf, this]

theorem natOpt_of {d n : Nat} {x : Option Operand} {x' : Option Opd} (hx : opdO x = some x') (hf : FrRep g fr a) (h : natOpt fr d x' = some n) :
    (x = none ∧ n = d) ∨ ∃ y k, x = some y ∧ a.eval y = .int k (n : Int) := by
  unfold opdO at hx
  split at hx
  · cases hx
    simp only [natOpt, Option.some.injEq] at h
    exact .inl ⟨rfl, h.symm⟩
  · rename_i y
    simp only [Option.map_eq_some_iff] at hx
    obtain ⟨y', hy, rfl⟩ := hx
    simp only [natOpt] at h
    obtain ⟨k, hk⟩ := nat_of h (opd_rep hf hy)
    exact .inr ⟨y, k, rfl, hk⟩

theorem bounds_run {isS : Bool} {len cap l r : Nat} {lo hi : Option Value} (w : World) (hlo : (lo = none ∧ l = 0) ∨ ∃ k, lo = some (.int k (l : Int))) (hhi : (hi = none ∧ r = len) ∨ ∃ k, hi = some (.int k (r : Int)))
    (h1 : l ≤ r) (h2 : r ≤ cap) : (Instr.sliceBounds isS len cap lo hi none).run P w = .ok (l, r, cap) w := by
  rcases hlo with ⟨rfl, rfl⟩ | ⟨k, rfl⟩ <;> rcases hhi with ⟨rfl, rfl⟩ | ⟨k', rfl⟩ <;> simp [Instr.sliceBounds, bound_run rfl h1, bound_run rfl h2]

theorem yl_slStr {o : Oper} {t l r : Nat} {x : Operand} {x' : Opd} {lo hi : Option Operand} {lo' hi' : Option Opd} {s : List UInt8} (ho : o.op = .slice t x lo hi none) (hx : opd x = some x') (hlo : opdO lo = some lo') (hhi : opdO hi = some hi')
    (hf : FrRep g fr a) (ht : isStrT P t = true) (h : x'.get fr = .str s) (hl : natOpt fr 0 lo' = some l) (hr : natOpt fr s.length hi' = some r) (h1 : l ≤ r) (h2 : r ≤ s.length) : Yl P o a g (.str ((s.take r).drop l)) := by
  have e1 := opd_rep hf hx
  rw [h] at e1
  have e1 := rep_str e1
  refine ⟨.string ((⟨s.toArray⟩ : ByteArray).extract l r), ?_, by rw [str_extract]; exact .str _⟩
  have hb := bounds_run (P := P) (isS := false) (len := s.length) (cap := s.length) (l := l) (r := r) (lo := lo.map a.eval) (hi := hi.map a.eval) g.w
    (by rcases natOpt_of hlo hf hl with ⟨h, h'⟩ | ⟨y, k, h, h'⟩
        · exact .inl ⟨by simp [h], h'⟩
        · exact .inr ⟨k, by simp [h, h']⟩)
    (by rcases natOpt_of hhi hf hr with ⟨h, h'⟩ | ⟨y, k, h, h'⟩
        · exact .inl ⟨by simp [h], h'⟩
        · exact .inr ⟨k, by simp [h, h']⟩) h1 h2
  simp only [execOp, ho, e1]
  refine run_vv ?_
  have hs : (⟨s.toArray⟩ : ByteArray).size = s.length := rfl
  simp only [Option.map_none, Instr.sliceAt, Sem.run_bind, und_run (isStrT_eq ht), Result.andThen_ok, Instr.slice, hs]
  simp [hb]

theorem yl_slSl {o : Oper} {t e sz l r n : Nat} {x : Operand} {x' : Opd} {lo hi : Option Operand} {lo' hi' : Option Opd} {v : AV} (ho : o.op = .slice t x lo hi none) (hx : opd x = some x') (hlo : opdO lo = some lo') (hhi : opdO hi = some hi')
    (hf : FrRep g fr a) (ht : elemTy P t = some e) (hsz : tySize P e = some sz) (hn : slLen (x'.get fr) = some n) (hl : natOpt fr 0 lo' = some l) (hr : natOpt fr n hi' = some r)
    (h : sliceAV sz (x'.get fr) l r none = some v) : Yl P o a g v := by
  have h1 := opd_rep hf hx
  obtain ⟨A, cap, e1, hcap⟩ := slLen_of hn h1
  have hu := elemTy_eq ht
  simp only [sliceAV, hn] at h
  split at h
  · rename_i hlr
    obtain ⟨hl1, hr1⟩ := hlr
    have hb := bounds_run (P := P) (isS := true) (len := n) (cap := cap) (l := l) (r := r) (lo := lo.map a.eval) (hi := hi.map a.eval) g.w
      (by rcases natOpt_of hlo hf hl with ⟨h, h'⟩ | ⟨y, k, h, h'⟩
          · exact .inl ⟨by simp [h], h'⟩
          · exact .inr ⟨k, by simp [h, h']⟩)
      (by rcases natOpt_of hhi hf hr with ⟨h, h'⟩ | ⟨y, k, h, h'⟩
          · exact .inl ⟨by simp [h], h'⟩
          · exact .inr ⟨k, by simp [h, h']⟩) hl1 (by omega)
    have run : (execOp a.eval o).run P g.w = .ok (.value (.slice (if cap = l then A else A.map (·.add (l * sz))) (r - l) (cap - l))) g.w := by
      simp only [execOp, ho, e1]
      refine run_vv ?_
      simp only [Option.map_none, Instr.sliceAt, Sem.run_bind, und_run hu, Result.andThen_ok, Instr.slice]
      simp [hb, size_run hsz]
    refine ⟨_, run, ?_⟩
    unfold cut at h
    rw [e1] at h1
    split at h
    · cases h
      rename_i hX
      rw [hX] at h1
      cases h1
      have : l = 0 := by omega
      have : r = 0 := by omega
      subst l
      subst r
      exact .emp
    · rename_i s xs hX
      split at h
      · rename_i hs
        cases h
        rw [hX] at h1
        have hs' : s = sz ∨ (s ≠ sz ∧ xs = []) := by
          rcases hs with hs | hs
          · exact .inl hs
          · by_cases h' : s = sz
            · exact .inl h'
            · exact .inr ⟨h', List.isEmpty_iff.1 hs⟩
        rcases hs' with hs | ⟨_, hs⟩
        · subst hs
          refine Rep.mkRo ?_
          cases h1 with
          | ro vf r1 r2 r3 r4 =>
           have hlen : ((xs.take r).drop l).length = r - l := by simp; omega
           have hget : ∀ (i : Nat) (y : AV), ((xs.take r).drop l)[i]? = some y → xs[l + i]? = some y := by
             intro i y hy
             rw [List.getElem?_drop, List.getElem?_take] at hy
             split at hy
             · exact hy
             · cases hy
           rw [← hlen]
           refine .ro (fun i => vf (l + i)) (fun i y hy => r1 _ _ (hget i y hy)) (fun i hi => r2 _ (by rw [hlen] at hi; omega)) (by rw [hlen]; omega) fun hne => ?_
           have hpos : 0 < r - l := by rw [← hlen]; exact List.length_pos_iff.2 hne
           obtain ⟨c, off, rfl, hS, hc⟩ := r4 (by intro h; subst h; simp at hlen; omega)
           refine ⟨c, off + l * s, by rw [if_neg (by omega)]; simp [add_off], hS, fun i j y hi hy => ?_⟩
           rw [hlen] at hi
           have := hc (l + i) j y (by omega) hy
           rwa [Nat.add_mul, ← Nat.add_assoc] at this
        · subst hs
          cases h1 with
          | ro vf r1 r2 r3 r4 =>
            simp only [List.length_nil] at hr1
            rw [show r - l = ([] : List AV).length by simp; omega]
            simp only [List.take_nil, List.drop_nil]
            refine Rep.mkRo (.ro vf (by simp) (by simp) (by simp) (by simp))
      · cases h
    · rename_i s b k of m hX
      split at h
      · rename_i hs
        cases h
        subst hs
        rw [hX] at h1
        cases h1 with
        | sl r1 r2 r3 r6 r7 r4 r5 =>
          refine .sl r1 (by omega) (by omega) r6 (fun hp => ?_) (fun hp B c hg hc => ?_) (fun h0 B hg => ?_)
          · obtain ⟨ad, rfl⟩ := r7 (by omega)
            rw [if_neg (by omega)]
            exact ⟨_, rfl⟩
          · have := r4 (by omega) B c hg hc
            subst this
            rw [if_neg (by omega)]
            simp [add_off, r6 B hg, Nat.add_mul]
          · have h0' : of = 0 := by omega
            have hl0 : l = 0 := by omega
            obtain ⟨ha, hb'⟩ := r5 h0' B hg
            subst hl0
            refine ⟨fun hn => by rw [ha hn], fun c hc => ?_⟩
            obtain ⟨hA, m', hm', hle⟩ := hb' c hc
            refine ⟨fun hp => ?_, m', hm', by simpa using hle⟩
            rw [if_neg (by omega), hA (by omega)]
            simp [add_off]
      · cases h
    · cases h
  · cases h

end
end Go.Abs
