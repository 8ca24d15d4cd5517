/- Append, clear, the slice that keeps nothing. -/
import Derived.Test.YtnpfhbhhbdegfaaDoorB2
import Derived.Laws.AppendOwn
set_option linter.unusedSimpArgs false
set_option linter.unusedVariables false
namespace Go.Abs

section
variable {P : Program} {g : G} {fr : Frame} {a : Act} {lo base : Nat}

theorem run_append_gen (w : World) (t ty e : TypeId) (i : TypeInfo) (z : Value) (ht : P.underlying t = some (.slice e)) (hi : P.info? e = some i) (hz : i.zero = some z)
    (A A2 : Option Addr) (sLen sCap n c : Nat) (olds news : Array Value) (hfo : ∀ w' : World, w'.heap = w.heap → (Builtin.firstCells i.size sLen (.slice A sLen sCap)).run P w' = .ok olds w')
    (hf : ∀ w' : World, w'.heap = w.heap → (Builtin.firstCells i.size n (.slice A2 n c)).run P w' = .ok news w')
    (hg : sCap < sLen + n) (h63 : ((sLen + n : Nat) : Int) ≤ 9223372036854775807) (hfit : Builtin.nextslicecap (sLen + n) sCap * i.bytes ≤ 281474976710656) :
    (Builtin.append_ #[t, t] ty #[.slice A sLen sCap, .slice A2 n c]).run P w =
      .ok (.slice (some ⟨w.heap.size, 0, none⟩) (sLen + n) (grownCap w (sLen + n) sCap e))
        (w.drew.alloc (.cells (olds ++ news ++ Builtin.zeroCells z.cells (grownCap w (sLen + n) sCap e - (sLen + n))) e)) := by
  have hn : ¬ (sLen + n ≤ sCap) := by omega
  have h63' : ¬ (9223372036854775807 < ((sLen : Int) + (n : Int))) := by omega
  have h48' : ¬ (281474976710656 < Builtin.nextslicecap (sLen + n) sCap * i.bytes) := by omega
  have hf := hf w.drew rfl
  have hfo := hfo w.drew rfl
  simp [Builtin.append_, run_underlying ht, sizeOf, typeInfo, zeroValue, hi, hz, Builtin.lenOf, hn, h63', h48', Question.forced, hf, hfo, newRow, grownCap]

theorem set_self {α : Type} {h : List α} {b : Nat} {x : α} (hb : h[b]? = some x) : h.set b x = h := by
  apply List.ext_getElem?
  intro i
  by_cases hi : b = i
  · subst hi
    rw [List.getElem?_set_self (List.getElem?_eq_some_iff.1 hb).1, hb]
  · rw [List.getElem?_set_ne hi]

def rowOf (vf : Nat → Value) : Nat → List Value
  | 0 => []
  | n + 1 => rowOf vf n ++ (vf n).cells.toList

theorem rowOf_spec {vf : Nat → Value} {sz : Nat} : ∀ (n : Nat), (∀ i, i < n → (vf i).cells.size = sz) → (rowOf vf n).length = n * sz ∧
    (∀ (i j : Nat) (x : Value), i < n → (vf i).cells[j]? = some x → (rowOf vf n)[i * sz + j]? = some x) ∧
    ∀ (p : Nat) (y : Value), (rowOf vf n)[p]? = some y → ∃ i j, i < n ∧ p = i * sz + j ∧ (vf i).cells[j]? = some y
  | 0, _ => ⟨by simp [rowOf], fun i j x hi => by omega, fun p y hy => by simp [rowOf] at hy⟩
  | n + 1, h => by
    obtain ⟨h1, h2, h3⟩ := rowOf_spec n fun i hi => h i (by omega)
    have hn := h n (by omega)
    refine ⟨by simp [rowOf, h1, hn, Nat.add_mul], fun i j x hi hx => ?_, fun p y hy => ?_⟩
    · by_cases hin : i = n
      · subst hin
        simp only [rowOf]
        rw [List.getElem?_append_right (by omega), h1]
        rw [show i * sz + j - i * sz = j by omega]
        simpa using hx
      · have hk := h2 i j x (by omega) hx
        simp only [rowOf]
        rw [List.getElem?_append_left ((List.getElem?_eq_some_iff.1 hk).1)]
        exact hk
    · simp only [rowOf] at hy
      by_cases hp : p < n * sz
      · rw [List.getElem?_append_left (by omega)] at hy
        obtain ⟨i, j, hi, he, hx⟩ := h3 p y hy
        exact ⟨i, j, by omega, he, hx⟩
      · rw [List.getElem?_append_right (by omega), h1] at hy
        exact ⟨n, p - n * sz, by omega, by omega, by simpa using hy⟩

theorem first_run {A : Option Addr} {cap n sz : Nat} {row : List Value} {w : World} (hl : row.length = n * sz) (h : row ≠ [] → ∃ c off, A = some ⟨c, off, none⟩ ∧ ∀ (p : Nat) (v : Value), row[p]? = some v → w.cell? ⟨c, off + p, none⟩ = some v)
    (w' : World) (hw : w'.heap = w.heap) : (Builtin.firstCells sz n (.slice A n cap)).run P w' = .ok row.toArray w' := by
  cases A with
  | none =>
    have : row = [] := by
      by_cases hr : row = []
      · exact hr
      · obtain ⟨_, _, h', _⟩ := h hr
        cases h'
    subst this
    exact run_firstCells_none w' sz n n cap
  | some ad =>
    refine run_firstCells_some w' sz n ad n cap row hl fun j v hv => ?_
    obtain ⟨c, off, h', hc⟩ := h (by intro hr; subst hr; simp at hv)
    cases h'
    rw [add_off]
    exact (cell_of_heap (w := w) (w' := w') (by rw [hw])).trans (hc j v hv)

theorem ER.append {sz : Nat} {es ys : List AV} {X Y Z : List Value} (h1 : ER g sz es X.toArray) (h2 : ER g sz ys Y.toArray) (hl : X.length = es.length * sz) : ER g sz (es ++ ys) (X ++ Y ++ Z).toArray := by
  intro i e he
  by_cases hi : i < es.length
  · rw [List.getElem?_append_left hi] at he
    obtain ⟨v, k1, k2, k3⟩ := h1 i e he
    refine ⟨v, k1, k2, fun j x hx => ?_⟩
    have := k3 j x hx
    simp only [List.getElem?_toArray] at this ⊢
    have hlt := (List.getElem?_eq_some_iff.1 this).1
    rw [List.append_assoc, List.getElem?_append_left hlt]
    exact this
  · rw [List.getElem?_append_right (by omega)] at he
    obtain ⟨v, k1, k2, k3⟩ := h2 _ e he
    refine ⟨v, k1, k2, fun j x hx => ?_⟩
    have := k3 j x hx
    simp only [List.getElem?_toArray] at this ⊢
    have hlt := (List.getElem?_eq_some_iff.1 this).1
    have hm : es.length * sz ≤ i * sz := Nat.mul_le_mul_right _ (by omega)
    have hsub : i * sz + j - X.length = (i - es.length) * sz + j := by rw [hl, Nat.sub_mul]; omega
    rw [List.append_assoc, List.getElem?_append_right (by omega), hsub, List.getElem?_append_left hlt]
    exact this

/-- A slice to be read: its row. -/
theorem readRow {sz : Nat} {y : AV} {ys : List AV} {v : Value} (hr : HRep lo g) (h : readSl g.h sz y = some ys) (hy : Rep g y v) :
    ∃ A cap row, v = .slice A ys.length cap ∧ row.length = ys.length * sz ∧ ER g sz ys row.toArray ∧ (ys.all AV.ok = true → ∀ u ∈ row, u.oneCell' = true) ∧
      (row ≠ [] → ∃ c off, A = some ⟨c, off, none⟩ ∧ ∀ (p : Nat) (u : Value), row[p]? = some u → g.w.cell? ⟨c, off + p, none⟩ = some u) := by
  obtain ⟨A, cap, rfl, _, vf, h1, h2, h3⟩ := readSl_of hr h hy
  obtain ⟨k1, k2, k3⟩ := rowOf_spec (vf := vf) (sz := sz) ys.length h2
  refine ⟨A, cap, rowOf vf ys.length, rfl, k1, fun i e he => ?_, fun hok u hu => ?_, fun hne => ?_⟩
  · have hi := (List.getElem?_eq_some_iff.1 he).1
    exact ⟨vf i, h1 i e he, h2 i hi, fun j x hx => by simpa using k2 i j x hi hx⟩
  · obtain ⟨p, hp⟩ := List.getElem?_of_mem hu
    obtain ⟨i, j, hi, _, hx⟩ := k3 p u hp
    have he := List.getElem?_eq_getElem hi
    exact ok_one (h1 i _ he) (List.all_eq_true.1 hok _ (List.getElem_mem hi)) j u hx
  · have hn : ys ≠ [] := by intro hys; subst hys; exact hne rfl
    obtain ⟨c, off, hA, hc⟩ := h3 hn
    refine ⟨c, off, hA, fun p u hp => ?_⟩
    obtain ⟨i, j, hi, rfl, hx⟩ := k3 p u hp
    rw [← Nat.add_assoc]
    exact hc i j u hi hx

/-- What append needs of the element type. -/
structure ElT (P : Program) (t e sz bs : Nat) : Prop where
  t : P.underlying t = some (.slice e)
  i : ∃ i z, P.info? e = some i ∧ i.zero = some z ∧ i.size = sz ∧ i.bytes = bs ∧ z.cells.size = sz
  bs : bs ≤ 4096
  pos : 0 < sz

theorem append_emp_ok {t e sz bs tgt : Nat} {ty : TypeId} {A A2 : Option Addr} {cap2 : Nat} {ys : List AV} {row : List Value} {v : AV} {h' : Heap} (hE : ElT P t e sz bs) (hr : HRep lo g) (hb : base ≤ tgt)
    (hl : row.length = ys.length * sz) (hER : ER g sz ys row.toArray) (hrow : row ≠ [] → ∃ c off, A2 = some ⟨c, off, none⟩ ∧ ∀ (p : Nat) (u : Value), row[p]? = some u → g.w.cell? ⟨c, off + p, none⟩ = some u)
    (hx : Rep g .emp (.slice A 0 0)) (h : appendAV g.h lo base tgt e sz .emp ys = some (v, h')) :
    ∃ v' w' r' St', (Builtin.append_ #[t, t] ty #[.slice A 0 0, .slice A2 ys.length cap2]).run P g.w = .ok v' w' ∧ Rep ⟨h', r', w', St'⟩ v v' ∧ HRep lo ⟨h', r', w', St'⟩ ∧ Step lo base g ⟨h', r', w', St'⟩ := by
  obtain ⟨ht, ⟨i, z, hi, hz, hsz, hbs, hzs⟩, hbs2, hpos⟩ := hE
  simp only [appendAV] at h
  split at h
  · rename_i he
    cases h
    have hys : ys = [] := List.isEmpty_iff.1 he
    subst hys
    have hf := first_run (P := P) (A := A2) (cap := cap2) (n := 0) (sz := i.size) (row := row) (w := g.w) (by rw [hl, hsz]; rfl) hrow
    have hrow0 : row = [] := List.length_eq_zero_iff.1 (by simpa using hl)
    have run : (Builtin.append_ #[t, t] ty #[.slice A 0 0, .slice A2 0 cap2]).run P g.w = .ok (.slice A 0 0) g.w := by
      have hf := hf g.w rfl
      subst hrow0
      cases A <;> simp [Builtin.append_, run_underlying ht, sizeOf, typeInfo, hi, Builtin.lenOf, hf, storeCells]
    exact ⟨_, g.w, g.r, g.St, run, .emp, hr, Step.refl lo base g⟩
  rename_i hne
  split at h
  · rename_i hm
    unfold most at hm
    split at h
    · rename_i h1 hp
      cases h
      have hfo := first_run (P := P) (A := A) (cap := 0) (n := 0) (sz := i.size) (row := []) (w := g.w) (by simp) (by simp)
      have hf := first_run (P := P) (A := A2) (cap := cap2) (n := ys.length) (sz := i.size) (row := row) (w := g.w) (by rw [hl, hsz]) hrow
      have h0 : ¬ ys.length = 0 := fun h => hne (List.isEmpty_iff.2 (List.length_eq_zero_iff.1 h))
      · have run := run_append_gen g.w t ty e i z ht hi hz A A2 0 0 ys.length cap2 #[] row.toArray hfo hf (by omega) (by omega)
          (growslice_fits (by omega) (by
            rw [hbs]
            have : (0 + ys.length) * bs ≤ 1073741824 * 4096 := Nat.mul_le_mul (by omega) hbs2
            omega))
        simp only [Nat.zero_add] at run
        have hge := grownCap_ge g.w ys.length 0 e
        generalize grownCap g.w ys.length 0 e = nc at run hge
        have hcells : (#[] ++ row.toArray ++ Builtin.zeroCells z.cells (nc - ys.length)) = (([] : List Value) ++ row ++ (Builtin.zeroCells z.cells (nc - ys.length)).toList).toArray := by
          simp
        rw [hcells] at run
        have hE2 := ER.append (g := g) (sz := sz) (es := []) (ys := ys) (X := []) (Y := row) (Z := (Builtin.zeroCells z.cells (nc - ys.length)).toList) (by intro i e he; simp at he) hER (by simp)
        obtain ⟨r', St', q1, q2, q3⟩ := slice_new (lo := lo) (base := base) (n := ys.length) (cap := nc) (ty := e) hr hb (Grows.drewAlloc g.w (.cells (([] : List Value) ++ row ++ (Builtin.zeroCells z.cells (nc - ys.length)).toList).toArray e))
          (by simpa [World.drew, -World.drew_eq] using alloc_at g.w.drew _) hp rfl (by
            simp [hl, size_zeroCells, hzs]
            rw [← Nat.add_mul]
            congr 1
            omega) hge hE2
        exact ⟨_, _, r', St', run, q1, q2, q3⟩
    · cases h
  · cases h

/-- Appended to a block of its own. -/
theorem append_sl_ok {t e sz bs b k : Nat} {ty : TypeId} {B : Blk} {x : Value} {A2 : Option Addr} {cap2 : Nat} {ys : List AV} {row : List Value} (hE : ElT P t e sz bs) (hr : HRep lo g)
    (hB : good g.h b k = some B) (hlo : lo ≤ b) (hf : B.frz = false) (hsz2 : B.sz = sz) (hty : B.ty = e) (hm : k + ys.length ≤ most)
    (hl : row.length = ys.length * sz) (hER : ER g sz ys row.toArray) (h1c : ∀ u ∈ row, u.oneCell' = true)
    (hrow : row ≠ [] → ∃ c off, A2 = some ⟨c, off, none⟩ ∧ ∀ (p : Nat) (u : Value), row[p]? = some u → g.w.cell? ⟨c, off + p, none⟩ = some u)
    (hx : Rep g (.sl sz b k 0 k) x) (hscp : b < base → AV.closedL ys = true) :
    ∃ v' w' r' St', (Builtin.append_ #[t, t] ty #[x, .slice A2 ys.length cap2]).run P g.w = .ok v' w' ∧ Rep ⟨g.h.set b (.live { B with es := B.es ++ ys }), r', w', St'⟩ (.sl sz b (k + ys.length) 0 (k + ys.length)) v' ∧
      HRep lo ⟨g.h.set b (.live { B with es := B.es ++ ys }), r', w', St'⟩ ∧ Step lo base g ⟨g.h.set b (.live { B with es := B.es ++ ys }), r', w', St'⟩ := by
  obtain ⟨ht, ⟨i, z, hi, hz, hsz, hbs, hzs⟩, hbs2, hpos⟩ := hE
  unfold most at hm
  subst hsz2
  subst hty
  obtain ⟨hBb, hBl⟩ := good_eq.1 hB
  have hblt : b < g.h.length := (List.getElem?_eq_some_iff.1 (blk_eq.1 hBb)).1
  have hscp' : b < base → ∀ n, AV.scopdL n B.es = true → AV.scopdL n (B.es ++ ys) = true := fun hlt n hn => by
    refine scopdL_iff.2 fun j y hy => ?_
    by_cases hj : j < B.es.length
    · rw [List.getElem?_append_left hj] at hy
      exact scopdL_iff.1 hn j y hy
    · rw [List.getElem?_append_right (by omega)] at hy
      exact scopd_of_closed n y (closedL_iff.1 (hscp hlt) _ y hy)
  have self : (g.h.set b (.live { B with es := B.es ++ ys }))[b]? = some (.live { B with es := B.es ++ ys }) := List.getElem?_set_self hblt
  have okN : ∀ (r' : RM) (w' : World) (St' : Nat → Prop), refOk ⟨g.h.set b (.live { B with es := B.es ++ ys }), r', w', St'⟩ b (k + ys.length) := fun r' w' St' => ⟨_, vblk_live self, by simp; omega⟩
  have gdN : ∀ {C : Blk} {r' : RM}, vgood (g.h.set b (.live { B with es := B.es ++ ys })) r' b (k + ys.length) = some C → C = { B with es := B.es ++ ys } := fun {C r'} hC => by
    have := (vgood_eq.1 hC).1
    rw [vblk_live self] at this
    cases this
    rfl
  cases hx with
  | sl r1 r2 r3 r6 r7 r4 r5 =>
    rename_i cap A
    obtain ⟨ha, hb⟩ := r5 rfl B (vgood_of hB)
    obtain ⟨hn1, hn2⟩ := hr.blks b B (vblk_of hBb)
    have hf2 := first_run (P := P) (A := A2) (cap := cap2) (n := ys.length) (sz := i.size) (row := row) (w := g.w) (by rw [hl, hsz]) hrow
    by_cases hroom : k + ys.length ≤ cap
    · cases hcb : g.r b with
      | none =>
        have hc0 := ha hcb
        have hk0 : k = 0 := by omega
        have hy0 : ys.length = 0 := by omega
        have hys : ys = [] := List.length_eq_zero_iff.1 hy0
        have hrow0 : row = [] := List.length_eq_zero_iff.1 (by rw [hl, hy0]; simp)
        subst hys
        subst hrow0
        subst hc0
        have hes0 : B.es = [] := hn1 hcb
        have hset : g.h.set b (.live { B with es := B.es ++ [] }) = g.h := by
          rw [List.append_nil]
          exact set_self (blk_eq.1 hBb)
        have run : (Builtin.append_ #[t, t] ty #[.slice A k 0, .slice A2 ([] : List AV).length cap2]).run P g.w = .ok (.slice A k 0) g.w := by
          have hf := hf2 g.w rfl
          simp only [List.length_nil] at hf ⊢
          subst hk0
          cases A <;> simp [Builtin.append_, run_underlying ht, sizeOf, typeInfo, hi, Builtin.lenOf, hf, storeCells]
        refine ⟨_, g.w, g.r, g.St, run, ?_, ?_, ?_⟩
        · rw [hset]
          exact .sl r1 r2 r3 r6 r7 r4 r5
        · rw [hset]; exact hr
        · rw [hset]; exact Step.refl lo base g
      | some c =>
        obtain ⟨cells, hh, hle, hes⟩ := hn2 c hcb
        obtain ⟨hA, m, hm', hcap⟩ := hb c hcb
        have hmc : m = cells.size := by
          simp only [World.shape?, hh, Option.some.injEq, Prod.mk.injEq] at hm'
          exact hm'.2.symm
        subst hmc
        have hfit : k * B.sz + row.length ≤ cells.size := by
          rw [hl, ← Nat.add_mul]
          exact Nat.le_trans (Nat.mul_le_mul_right _ hroom) hcap
        obtain ⟨s, hbr⟩ := modify_ok (lo := lo) (base := base) (es' := B.es ++ ys) (cells' := (cells.toList.take (k * B.sz) ++ row ++ cells.toList.drop (k * B.sz + row.length)).toArray) hr hBb hlo hf hcb hh (writeRow_size _ _ _ hfit) (by simp) hscp'
        have hBR : BlkRep ⟨g.h.set b (.live { B with es := B.es ++ ys }), g.r, g.w.setRow c (cells.toList.take (k * B.sz) ++ row ++ cells.toList.drop (k * B.sz + row.length)).toArray, g.St⟩ b { B with es := B.es ++ ys } := by
          refine ⟨fun hn => (by rw [show g.r b = none from hn] at hcb; cases hcb), fun c' hc' => ?_⟩
          rw [show g.r b = some c' from hc'] at hcb
          cases hcb
          refine ⟨_, setRow_at hh, by rw [writeRow_size _ _ _ hfit]; simp; rw [hBl]; exact Nat.le_trans (Nat.mul_le_mul_right _ hroom) hcap, ?_⟩
          have hX : (cells.toList.take (k * B.sz)).length = B.es.length * B.sz := by
            simp
            rw [hBl]
            omega
          have hEX : ER g B.sz B.es (cells.toList.take (k * B.sz)).toArray := fun q f hq => by
            obtain ⟨u, u1, u2, u3⟩ := hes q f hq
            refine ⟨u, u1, u2, fun j y hy => ?_⟩
            have hqlt := (List.getElem?_eq_some_iff.1 hq).1
            have hj : j < B.sz := u2 ▸ (Array.getElem?_eq_some_iff.1 hy).1
            have := row_lt (m := k * B.sz) hqlt hj (by rw [hBl]; exact Nat.le_refl _)
            have h3 := u3 j y hy
            simp only [List.getElem?_toArray]
            rw [List.getElem?_take, if_pos this]
            simpa using h3
          exact (ER.append hEX hER hX).step s hr
        by_cases hc0 : cap = 0
        · have hk0 : k = 0 := by omega
          have hy0 : ys.length = 0 := by omega
          have hrow0 : row = [] := List.length_eq_zero_iff.1 (by rw [hl, hy0]; simp)
          have run : (Builtin.append_ #[t, t] ty #[.slice A k cap, .slice A2 ys.length cap2]).run P g.w = .ok (.slice A (k + ys.length) cap) (g.w.setRow c (cells.toList.take (k * B.sz) ++ row ++ cells.toList.drop (k * B.sz + row.length)).toArray) := by
            have hsr : g.w.setRow c (cells.toList.take (k * B.sz) ++ row ++ cells.toList.drop (k * B.sz + row.length)).toArray = g.w := by
              rw [hrow0]
              simp only [List.append_nil, List.length_nil, Nat.add_zero, List.take_append_drop, Array.toArray_toList]
              exact setRow_self g.w c cells B.ty (0, 0) hh
            have hf := hf2 g.w rfl
            rw [hsr]
            rw [hrow0] at hf
            rw [hy0] at hf ⊢
            subst hk0
            subst hc0
            cases A <;> simp [Builtin.append_, run_underlying ht, sizeOf, typeInfo, hi, Builtin.lenOf, hf, storeCells]
          refine ⟨_, _, g.r, g.St, run, ?_, hbr hBR, s⟩
          refine .sl (okN _ _ _) hroom (by simp) (fun C hC => by rw [gdN hC]) (fun hp => by omega) (fun hp => by omega) (fun _ C hC => ⟨fun hn => hc0, fun d hd => ?_⟩)
          have hdc : d = c := by rw [show g.r b = some d from hd] at hcb; cases hcb; rfl
          rw [gdN hC, hdc]
          exact ⟨fun hp => by omega, cells.size, by rw [s.shp c (shape_lt hm'), hm'], hcap⟩
        · have hA := hA (by omega)
          subst hA
          have hst := run_storeCells_at P c (k * B.sz) B.ty row 0 cells g.w hh (by simpa using hfit) h1c
          simp only [Nat.add_zero] at hst
          have run : (Builtin.append_ #[t, t] ty #[.slice (some ⟨c, 0, none⟩) k cap, .slice A2 ys.length cap2]).run P g.w = .ok (.slice (some ⟨c, 0, none⟩) (k + ys.length) cap) (g.w.setRow c (cells.toList.take (k * B.sz) ++ row ++ cells.toList.drop (k * B.sz + row.length)).toArray) := by
            have hf := hf2 g.w rfl
            rw [hsz] at hf
            simp [Builtin.append_, run_underlying ht, sizeOf, typeInfo, hi, Builtin.lenOf, hroom, hf, hsz, add_off, hst]
          refine ⟨_, _, g.r, g.St, run, ?_, hbr hBR, s⟩
          refine .sl (okN _ _ _) hroom (by simp) (fun C hC => by rw [gdN hC]) (fun hp => ⟨_, rfl⟩) (fun hp C d hC hd => ?_) (fun _ C hC => ⟨fun hn => ?_, fun d hd => ?_⟩)
          · have hdc : d = c := by rw [show g.r b = some d from hd] at hcb; cases hcb; rfl
            rw [hdc]
            simp
          · rw [show g.r b = none from hn] at hcb
            cases hcb
          · have hdc : d = c := by rw [show g.r b = some d from hd] at hcb; cases hcb; rfl
            rw [gdN hC, hdc]
            exact ⟨fun _ => rfl, cells.size, by rw [s.shp c (shape_lt hm'), hm'], hcap⟩
    · have hypos : 0 < ys.length := by omega
      have hold : ∃ olds : List Value, olds.length = k * B.sz ∧ ER g B.sz B.es olds.toArray ∧ (olds ≠ [] → ∃ c off, A = some ⟨c, off, none⟩ ∧ ∀ (p : Nat) (u : Value), olds[p]? = some u → g.w.cell? ⟨c, off + p, none⟩ = some u) := by
        cases hcb : g.r b with
        | none =>
          have hes0 : B.es = [] := hn1 hcb
          have hk0 : k = 0 := by rw [← hBl, hes0]; rfl
          exact ⟨[], by rw [hk0]; simp, fun q f hq => by rw [hes0] at hq; simp at hq, fun h => absurd rfl h⟩
        | some c =>
          obtain ⟨cells, hh, hle, hes⟩ := hn2 c hcb
          rw [hBl] at hle
          refine ⟨cells.toList.take (k * B.sz), by simp; omega, fun q f hq => ?_, fun hne => ⟨c, 0, ?_, fun p u hp => ?_⟩⟩
          · obtain ⟨u, u1, u2, u3⟩ := hes q f hq
            refine ⟨u, u1, u2, fun j y hy => ?_⟩
            have hqlt := (List.getElem?_eq_some_iff.1 hq).1
            have hj : j < B.sz := u2 ▸ (Array.getElem?_eq_some_iff.1 hy).1
            have := row_lt (m := k * B.sz) hqlt hj (by rw [hBl]; exact Nat.le_refl _)
            have h3 := u3 j y hy
            simp only [List.getElem?_toArray]
            rw [List.getElem?_take, if_pos this]
            simpa using h3
          · have hk : 0 < k := by
              rcases Nat.eq_zero_or_pos k with h | h
              · subst h; simp at hne
              · exact h
            have := r4 hk B c (vgood_of hB) hcb
            rw [this]
            simp
          · rw [List.getElem?_take] at hp
            split at hp
            · rw [cell_at hh, Nat.zero_add]
              simpa using hp
            · cases hp
      obtain ⟨olds, o1, o2, o3⟩ := hold
      have hfo := first_run (P := P) (A := A) (cap := cap) (n := k) (sz := i.size) (row := olds) (w := g.w) (by rw [o1, hsz]) o3
      have run := run_append_gen g.w t ty B.ty i z ht hi hz A A2 k cap ys.length cap2 olds.toArray row.toArray hfo hf2 (by omega) (by omega)
        (growslice_fits (by omega) (by
          rw [hbs]
          have : (k + ys.length) * bs ≤ 1073741824 * 4096 := Nat.mul_le_mul (by omega) hbs2
          omega))
      have hge := grownCap_ge g.w (k + ys.length) cap B.ty
      generalize grownCap g.w (k + ys.length) cap B.ty = nc at run hge
      have hcells : (olds.toArray ++ row.toArray ++ Builtin.zeroCells z.cells (nc - (k + ys.length))) = (olds ++ row ++ (Builtin.zeroCells z.cells (nc - (k + ys.length))).toList).toArray := by simp
      rw [hcells] at run
      have hE2 := ER.append (g := g) (Z := (Builtin.zeroCells z.cells (nc - (k + ys.length))).toList) o2 hER (by rw [o1, hBl])
      have hcsz : (olds ++ row ++ (Builtin.zeroCells z.cells (nc - (k + ys.length))).toList).toArray.size = nc * B.sz := by
        simp [hl, size_zeroCells, hzs, o1]
        rw [← Nat.add_mul, ← Nat.add_mul]
        congr 1
        omega
      generalize (olds ++ row ++ (Builtin.zeroCells z.cells (nc - (k + ys.length))).toList).toArray = cs at run hE2 hcsz
      have hat : (g.w.drew.alloc (.cells cs B.ty)).heap[g.w.heap.size]? = some (.cells cs B.ty (0, 0)) := by simpa [World.drew, -World.drew_eq] using alloc_at g.w.drew (.cells cs B.ty)
      obtain ⟨s, hbr⟩ := regrow_ok (lo := lo) (base := base) (es' := B.es ++ ys) hr hBb hlo hf (Grows.drewAlloc g.w (.cells cs B.ty)) ((Array.getElem?_eq_some_iff.1 hat).1) (by simp; omega) hscp'
      have hncl : (k + ys.length) * B.sz ≤ nc * B.sz := Nat.mul_le_mul_right _ hge
      refine ⟨_, _, _, g.St, run, ?_, hbr ⟨fun hn => (by simp at hn), fun d hd => ?_⟩, s⟩
      · refine .sl (okN _ _ _) hge (by simp) (fun C hC => by rw [gdN hC]) (fun hp => ⟨_, rfl⟩) (fun hp C d hC hd => ?_) (fun _ C hC => ⟨fun hn => (by simp at hn), fun d hd => ?_⟩)
        · simp only [if_true, Option.some.injEq] at hd
          subst hd
          simp
        · simp only [if_true, Option.some.injEq] at hd
          subst hd
          rw [gdN hC]
          exact ⟨fun _ => rfl, cs.size, by simp only [World.shape?, hat], by simp only [hcsz]; exact Nat.le_refl _⟩
      · simp only [if_true, Option.some.injEq] at hd
        subst hd
        exact ⟨cs, hat, by simp only [List.length_append, hBl]; rw [hcsz]; exact hncl, fun q f hq => hE2.step s hr q f hq⟩

end
end Go.Abs
