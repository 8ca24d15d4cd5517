/- Go's library functions on strings, by their code: Trim at letters and digits, IndexByte. -/
import Derived.Test.YtnpfhbhhbdegfaaDoorE5
import Derived.Test.YtnpfhbhhbdegfaaDoorE2
set_option linter.unusedSimpArgs false
set_option linter.unusedVariables false
set_option maxRecDepth 100000
namespace Go.Abs

def isLow (c : UInt8) : Bool := decide (97 ≤ c.toNat) && decide (c.toNat ≤ 122)
def isLD (c : UInt8) : Bool := isLow c || (decide (48 ≤ c.toNat) && decide (c.toNat ≤ 57))
def sLow : List UInt8 := [97, 98, 99, 100, 101, 102, 103, 104, 105, 106, 107, 108, 109, 110, 111, 112, 113, 114, 115, 116, 117, 118, 119, 120, 121, 122]
def sLD : List UInt8 := [97, 98, 99, 100, 101, 102, 103, 104, 105, 106, 107, 108, 109, 110, 111, 112, 113, 114, 115, 116, 117, 118, 119, 120, 121, 122, 48, 49, 50, 51, 52, 53, 54, 55, 56, 57]
def tabLD : List AV := (List.range 256).map fun i => .bool (isLD (UInt8.ofNat i))
theorem tabLD_get (c : UInt8) : tabLD[c.toNat]? = some (.bool (isLD c)) := by
  have hc : c.toNat < 256 := c.toNat_lt
  simp [tabLD, hc]
theorem tabLD_len : tabLD.length = 256 := by simp [tabLD]

def hLD (ty : Nat) : Heap := [.live ⟨ty, 256, false, [.agg tabLD]⟩]

section
variable {Q : Prg}
def polS : Pol := { st := true, keep := false, raw := false, top := 0 }
def IsS (Q : Prg) (f : Nat) (fn : AFn) : Prop := Q.ext f = none ∧ Q.fns f = some fn ∧ Q.pol f = polS

def contFn : AFn := ⟨[.tmp 4],
 .seq (.region [
 ⟨(some 4), .move (.val (.bool false)), none⟩])
 (.seq (.region [
 ⟨(some 5), .move (.tmp 0), none⟩,
 ⟨(some 6), .move (.tmp 1), none⟩,
 ⟨(some 7), .nilChk (.tmp 5), none⟩,
 ⟨(some 8), .aaddr 256 1 (.tmp 7) (.tmp 6), none⟩,
 ⟨(some 9), .load false 1 (.tmp 8), none⟩,
 ⟨(some 4), .move (.tmp 9), none⟩])
 (.ret))⟩

theorem lowOk_LD (ty : Nat) : lowOk 1 (hLD ty) = true := by
  have : AV.scopdL 1 [.agg tabLD] = true := by
    refine scopdL_of_closed 1 _ ?_
    simp only [closedL_cons, closed_agg, closedL_nil, Bool.and_true]
    exact closedL_map (fun x => rfl) _
  simp [lowOk, hLD, this]

theorem cont_ok {f ty : Nat} (e : IsS Q f contFn) (c : UInt8) {base tgt : Nat} : callW Q f 0 base tgt [.ptr 0 1 0 0, .int .u8 c.toNat] (hLD ty) = some (.bool (isLD c), hLD ty) := by
  have hl := tabLD_len
  have hg := tabLD_get c
  have hc : c.toNat < 256 := c.toNat_lt
  refine (st_call (k := 1) e.1 e.2.1 e.2.2 rfl rfl rfl rfl (h2 := hLD ty) (as0 := [.ptr 0 1 0 0, .int .u8 c.toNat]) (as := [.ptr 0 1 0 0, .int .u8 c.toNat]) (h1 := hLD ty) (v := .bool (isLD c)) (r0 := .bool (isLD c)) (by simp [freeze]) (by simp) (by simp) (lowOk_LD ty) (by omega) ?_ (by simp) (.inr trivial) rfl).trans ?_
  · unfold bodyW bodyAV
    simp [contFn, hLD, stepOp, hc, hg]
  · simp [hLD]

/-! ### trimLeftASCII, trimRightASCII -/
def tlLoop (g : Nat) : ACode := .seq (.seq (.region [
 ⟨(some 5), .move (.tmp 0), none⟩,
 ⟨(some 6), .lenStr (.tmp 5), none⟩,
 ⟨(some 7), .bin .gtr (.tmp 6) (.val (.int .i64 0)), none⟩])
 (.cond (.tmp 7)
 (.skip)
 (.exit 0)))
 (.block 1
 (.seq (.seq (.region [
 ⟨(some 8), .move (.tmp 1), none⟩,
 ⟨(some 9), .move (.tmp 0), none⟩,
 ⟨(some 10), .istr (.tmp 9) (.val (.int .i64 0)), none⟩,
 ⟨(some 11), .call (.val (.fn g [] [])) [(.tmp 8), (.tmp 10)], none⟩,
 ⟨(some 12), .un .not (.tmp 11), none⟩])
 (.cond (.tmp 12)
 (.exit 0)
 (.skip)))
 (.region [
 ⟨(some 13), .move (.tmp 0), none⟩,
 ⟨(some 14), .slStr (.tmp 13) (some (.val (.int .i64 1))) none, none⟩,
 ⟨(some 0), .move (.tmp 14), none⟩])))
def tlFn (g : Nat) : AFn := ⟨[.tmp 4],
 .seq (.region [
 ⟨(some 4), .move (.val (.str [])), none⟩])
 (.seq (.block 0
 (.loop (tlLoop g)))
 (.seq (.region [
 ⟨(some 15), .move (.tmp 0), none⟩,
 ⟨(some 4), .move (.tmp 15), none⟩])
 (.ret)))⟩

theorem tlLoop_ok {g ty : Nat} (e : IsS Q g contFn) : ∀ (s : List UInt8) (fr : Frame), fr 0 = .str s → fr 1 = .ptr 0 1 0 0 →
    Sat (itW (exec (ctxW Q) 0 1 (tlLoop g)) fr (hLD ty)) fun o fr' h' => o = .exit 0 ∧ h' = hLD ty ∧ fr' 0 = .str (s.dropWhile isLD) := by
  intro s
  induction s with
  | nil =>
    intro fr h0 h1
    refine sat_it ?_
    simp [tlLoop, h0]
  | cons c s ih =>
    intro fr h0 h1
    refine sat_it ?_
    have hp : (0 : Int) < (s.length : Int) + 1 := by omega
    cases hc : isLD c
    · simp [tlLoop, h0, h1, hp, cont_ok e, hc]
    · simp [tlLoop, h0, h1, hp, cont_ok e, hc]
      exact ih _ (by simp) (by simp [h1])

def trLoop (g : Nat) : ACode := .seq (.seq (.region [
 ⟨(some 5), .move (.tmp 0), none⟩,
 ⟨(some 6), .lenStr (.tmp 5), none⟩,
 ⟨(some 7), .bin .gtr (.tmp 6) (.val (.int .i64 0)), none⟩])
 (.cond (.tmp 7)
 (.skip)
 (.exit 0)))
 (.block 1
 (.seq (.seq (.region [
 ⟨(some 8), .move (.tmp 1), none⟩,
 ⟨(some 9), .move (.tmp 0), none⟩,
 ⟨(some 10), .move (.tmp 0), none⟩,
 ⟨(some 11), .lenStr (.tmp 10), none⟩,
 ⟨(some 12), .bin .sub (.tmp 11) (.val (.int .i64 1)), none⟩,
 ⟨(some 13), .istr (.tmp 9) (.tmp 12), none⟩,
 ⟨(some 14), .call (.val (.fn g [] [])) [(.tmp 8), (.tmp 13)], none⟩,
 ⟨(some 15), .un .not (.tmp 14), none⟩])
 (.cond (.tmp 15)
 (.exit 0)
 (.skip)))
 (.region [
 ⟨(some 16), .move (.tmp 0), none⟩,
 ⟨(some 17), .move (.tmp 0), none⟩,
 ⟨(some 18), .lenStr (.tmp 17), none⟩,
 ⟨(some 19), .bin .sub (.tmp 18) (.val (.int .i64 1)), none⟩,
 ⟨(some 20), .slStr (.tmp 16) none (some (.tmp 19)), none⟩,
 ⟨(some 0), .move (.tmp 20), none⟩])))
def trFn (g : Nat) : AFn := ⟨[.tmp 4],
 .seq (.region [
 ⟨(some 4), .move (.val (.str [])), none⟩])
 (.seq (.block 0
 (.loop (trLoop g)))
 (.seq (.region [
 ⟨(some 21), .move (.tmp 0), none⟩,
 ⟨(some 4), .move (.tmp 21), none⟩])
 (.ret)))⟩

theorem trLoop_ok {g ty : Nat} (e : IsS Q g contFn) : ∀ (t : List UInt8) (fr : Frame), t.length < big → fr 0 = .str t.reverse → fr 1 = .ptr 0 1 0 0 →
    Sat (itW (exec (ctxW Q) 0 1 (trLoop g)) fr (hLD ty)) fun o fr' h' => o = .exit 0 ∧ h' = hLD ty ∧ fr' 0 = .str (t.dropWhile isLD).reverse := by
  intro t
  induction t with
  | nil =>
    intro fr hb h0 h1
    refine sat_it ?_
    simp [trLoop, h0]
  | cons c t ih =>
    intro fr hb h0 h1
    refine sat_it ?_
    have hb' : t.length + 1 < 4611686018427387904 := by simpa using hb
    have hp : (0 : Int) < (t.length : Int) + 1 := by omega
    have hw : IntKind.wrap .i64 ((t.length : Int) + 1 - 1) = (t.length : Int) := by rw [wrap64 (by omega) (by omega)]; omega
    have hi : istrAV (.str (t.reverse ++ [c])) (.int .i64 (t.length : Int)) = some (.int .u8 c.toNat) := istr_str .i64 (j := t.length) rfl (by simp)
    simp only [List.reverse_cons] at h0
    cases hc : isLD c
    · simp [trLoop, h0, h1, hp, hw, hi, cont_ok e, hc, -Int.add_sub_cancel]
    · simp [trLoop, h0, h1, hp, hw, hi, cont_ok e, hc, -Int.add_sub_cancel]
      exact ih _ (by show t.length < 4611686018427387904; omega) (by simp) (by simp [h1])

theorem tl_ok {f g ty : Nat} (ef : IsS Q f (tlFn g)) (e : IsS Q g contFn) (s : List UInt8) {base tgt : Nat} : callW Q f 0 base tgt [.str s, .ptr 0 1 0 0] (hLD ty) = some (.str (s.dropWhile isLD), hLD ty) := by
  refine (st_call (k := 1) ef.1 ef.2.1 ef.2.2 rfl rfl rfl rfl (h2 := hLD ty) (as0 := [.str s, .ptr 0 1 0 0]) (as := [.str s, .ptr 0 1 0 0]) (h1 := hLD ty) (v := .str (s.dropWhile isLD)) (r0 := .str (s.dropWhile isLD)) (by simp [freeze]) (by simp) (by simp) (lowOk_LD ty) (by omega) ?_ (by simp) (.inr trivial) rfl).trans ?_
  · have : Sat (exec (ctxW Q) 0 1 (tlFn g).code (initFr [.str s, .ptr 0 1 0 0]) (hLD ty)) fun o fr' h' => o = .ret ∧ h' = hLD ty ∧ fr' 4 = .str (s.dropWhile isLD) := by
      simp [tlFn]
      refine sat_then (sat_blk ((tlLoop_ok e s _ (by simp) (by simp)).mono ?_))
      rintro o fr h ⟨rfl, rfl, h0⟩
      simp [h0]
    obtain ⟨o, fr', h', he, rfl, rfl, h4⟩ := this
    unfold bodyW bodyAV
    rw [show (hLD ty).take 1 = hLD ty from rfl, he]
    simp [tlFn, h4]
  · simp [hLD]

theorem tr_ok {f g ty : Nat} (ef : IsS Q f (trFn g)) (e : IsS Q g contFn) (s : List UInt8) (hb : s.length < big) {base tgt : Nat} : callW Q f 0 base tgt [.str s, .ptr 0 1 0 0] (hLD ty) = some (.str (s.reverse.dropWhile isLD).reverse, hLD ty) := by
  refine (st_call (k := 1) ef.1 ef.2.1 ef.2.2 rfl rfl rfl rfl (h2 := hLD ty) (as0 := [.str s, .ptr 0 1 0 0]) (as := [.str s, .ptr 0 1 0 0]) (h1 := hLD ty) (v := .str (s.reverse.dropWhile isLD).reverse) (r0 := .str (s.reverse.dropWhile isLD).reverse) (by simp [freeze]) (by simp) (by simp) (lowOk_LD ty) (by omega) ?_ (by simp) (.inr trivial) rfl).trans ?_
  · have : Sat (exec (ctxW Q) 0 1 (trFn g).code (initFr [.str s, .ptr 0 1 0 0]) (hLD ty)) fun o fr' h' => o = .ret ∧ h' = hLD ty ∧ fr' 4 = .str (s.reverse.dropWhile isLD).reverse := by
      simp [trFn]
      refine sat_then (sat_blk ((trLoop_ok e s.reverse _ (by simpa using hb) (by simp) (by simp)).mono ?_))
      rintro o fr h ⟨rfl, rfl, h0⟩
      simp [h0]
    obtain ⟨o, fr', h', he, rfl, rfl, h4⟩ := this
    unfold bodyW bodyAV
    rw [show (hLD ty).take 1 = hLD ty from rfl, he]
    simp [trFn, h4]
  · simp [hLD]

/-! ### Trim, at letters and digits -/
def trimFn (ty mk tl tr tlb trb tlu tru : Nat) : AFn := ⟨[.tmp 4],
 .seq (.region [
 ⟨(some 4), .move (.val (.str [])), none⟩])
 (.seq (.seq (.region [
 ⟨(some 7), .move (.tmp 0), none⟩,
 ⟨(some 8), .bin .eql (.tmp 7) (.val (.str [])), none⟩,
 ⟨(some 9), .move (.tmp 8), none⟩,
 ⟨(some 10), .move (.tmp 1), (some (9, false))⟩,
 ⟨(some 11), .bin .eql (.tmp 10) (.val (.str [])), (some (9, false))⟩,
 ⟨(some 12), .pick (.tmp 9) (.val (.bool true)) (.tmp 11), none⟩])
 (.cond (.tmp 12)
 (.seq (.region [
 ⟨(some 13), .move (.tmp 0), none⟩,
 ⟨(some 4), .move (.tmp 13), none⟩])
 (.ret))
 (.skip)))
 (.seq (.seq (.region [
 ⟨(some 14), .move (.tmp 1), none⟩,
 ⟨(some 15), .lenStr (.tmp 14), none⟩,
 ⟨(some 16), .bin .eql (.tmp 15) (.val (.int .i64 1)), none⟩,
 ⟨(some 17), .move (.tmp 16), none⟩,
 ⟨(some 18), .move (.tmp 1), (some (17, true))⟩,
 ⟨(some 19), .istr (.tmp 18) (.val (.int .i64 0)), (some (17, true))⟩,
 ⟨(some 20), .bin .lss (.tmp 19) (.val (.int .u8 128)), (some (17, true))⟩,
 ⟨(some 21), .pick (.tmp 17) (.tmp 20) (.val (.bool false)), none⟩])
 (.cond (.tmp 21)
 (.seq (.draw 4 [
 ⟨⟨(some 22), .move (.tmp 0), none⟩, .P, 0, [], [], false, none, []⟩,
 ⟨⟨(some 23), .move (.tmp 1), none⟩, .P, 0, [], [], false, none, []⟩,
 ⟨⟨(some 24), .istr (.tmp 23) (.val (.int .i64 0)), none⟩, .P, 0, [], [], false, none, []⟩,
 ⟨⟨(some 25), .call (.val (.fn trb [] [])) [(.tmp 22), (.tmp 24)], none⟩, .C, 0, [], [], false, none, []⟩,
 ⟨⟨(some 26), .move (.tmp 1), none⟩, .P, 2, [], [], false, none, []⟩,
 ⟨⟨(some 27), .istr (.tmp 26) (.val (.int .i64 0)), none⟩, .P, 2, [], [], false, none, []⟩,
 ⟨⟨(some 28), .call (.val (.fn tlb [] [])) [(.tmp 25), (.tmp 27)], none⟩, .C, 2, [], [], false, none, []⟩,
 ⟨⟨(some 4), .move (.tmp 28), none⟩, .P, 4, [], [], false, none, []⟩])
 (.ret))
 (.skip)))
 (.seq (.seq (.region [
 ⟨(some 30), .move (.tmp 1), none⟩,
 ⟨(some 31), .call (.val (.fn mk [] [])) [(.tmp 30)], none⟩,
 ⟨(some 29), .move (.tmp 31), none⟩,
 ⟨(some 32), .extract (.tmp 29) 0, none⟩,
 ⟨(some 33), .extract (.tmp 29) 1, none⟩,
 ⟨(some 5), .alloc ty 256 [] (.agg (List.replicate 256 (.bool false))), none⟩,
 ⟨none, .store 256 (.tmp 5) (.tmp 32), none⟩,
 ⟨(some 6), .move (.tmp 33), none⟩])
 (.seq (.region [
 ⟨(some 34), .move (.tmp 6), none⟩])
 (.cond (.tmp 34)
 (.seq (.region [
 ⟨(some 35), .move (.tmp 0), none⟩,
 ⟨(some 36), .call (.val (.fn tr [] [])) [(.tmp 35), (.tmp 5)], none⟩,
 ⟨(some 37), .call (.val (.fn tl [] [])) [(.tmp 36), (.tmp 5)], none⟩,
 ⟨(some 4), .move (.tmp 37), none⟩])
 (.ret))
 (.skip))))
 (.seq (.region [
 ⟨(some 38), .move (.tmp 0), none⟩,
 ⟨(some 39), .move (.tmp 1), none⟩,
 ⟨(some 40), .call (.val (.fn tru [] [])) [(.tmp 38), (.tmp 39)], none⟩,
 ⟨(some 41), .move (.tmp 1), none⟩,
 ⟨(some 42), .call (.val (.fn tlu [] [])) [(.tmp 40), (.tmp 41)], none⟩,
 ⟨(some 4), .move (.tmp 42), none⟩])
 (.ret)))))⟩

def trimS (s : List UInt8) : List UInt8 := ((s.reverse.dropWhile isLD).reverse).dropWhile isLD
theorem trim_ok {f ty mk tl tr tlb trb tlu tru ct : Nat} (ef : IsP Q f (trimFn ty mk tl tr tlb trb tlu tru)) (etl : IsS Q tl (tlFn ct)) (etr : IsS Q tr (trFn ct)) (ec : IsS Q ct contFn) (emk : Val Q mk [.str sLD] (.tup [.agg tabLD, .bool true])) (s : List UInt8) (hs : s ≠ []) (hb : s.length < big) :
    Val Q f [.str s, .str sLD] (.str (trimS s)) := by
  refine Val.of_sat ef.1 ef.2.1 ef.2.2 ?_
  have hmk : ∀ lo base tgt h, callW Q mk lo base tgt [.str sLD] h = some (.tup [.agg tabLD, .bool true], h) := fun lo base tgt h => emk.call (by simp) (by simp)
  have h1 : (sLD : List UInt8) ≠ [] := by simp [sLD]
  have h2 : sLD.length = 36 := rfl
  have hl := tabLD_len
  have hr := fun base tgt => tr_ok (base := base) (tgt := tgt) (ty := ty) etr ec s hb
  have ht := fun base tgt => tl_ok (base := base) (tgt := tgt) (ty := ty) etl ec (s.reverse.dropWhile isLD).reverse
  simp only [hLD] at hr ht
  simp [trimFn, hs, h1, h2, hmk, hl, hr, ht, trimS]

theorem dropWhile_nil {α : Type} {p : α → Bool} : ∀ {l : List α}, l.dropWhile p = [] ↔ ∀ x ∈ l, p x = true
  | [] => by simp
  | y :: l => by
    rw [List.dropWhile_cons]
    split
    · rename_i hy
      rw [dropWhile_nil]
      simp [hy]
    · rename_i hy
      simp [hy]
theorem trimS_iff (s : List UInt8) : trimS s = [] ↔ ∀ x ∈ s, isLD x = true := by
  unfold trimS
  constructor
  · intro h x hx
    rw [dropWhile_nil] at h
    cases hx' : isLD x with
    | true => rfl
    | false =>
      exfalso
      have hm : x ∈ s.reverse.dropWhile isLD := by
        have hx2 : x ∈ s.reverse := by simpa using hx
        generalize s.reverse = t at hx2
        induction t with
        | nil => cases hx2
        | cons y t ih =>
          rw [List.dropWhile_cons]
          split
          · rename_i hy
            rcases List.mem_cons.1 hx2 with rfl | hx3
            · rw [hx'] at hy; cases hy
            · exact ih hx3
          · exact hx2
      have := h x (by simpa using hm)
      rw [hx'] at this
      cases this
  · intro h
    have : s.reverse.dropWhile isLD = [] := by
      rw [dropWhile_nil]
      exact fun x hx => h x (by simpa using hx)
    rw [this]
    rfl
theorem trimS_nil (s : List UInt8) : decide (trimS s = []) = s.all isLD := by
  rw [Bool.eq_iff_iff, decide_eq_true_eq, trimS_iff, List.all_eq_true]

/-! ### IndexByte -/
def ibFn (g : Nat) : AFn := ⟨[.tmp 4],
 .seq (.region [
 ⟨(some 4), .move (.val (.int .i64 0)), none⟩])
 (.seq (.region [
 ⟨(some 5), .move (.tmp 0), none⟩,
 ⟨(some 6), .move (.tmp 1), none⟩,
 ⟨(some 7), .call (.val (.fn g [] [])) [(.tmp 5), (.tmp 6)], none⟩,
 ⟨(some 4), .move (.tmp 7), none⟩])
 (.ret))⟩
theorem ib_ok {f g x : Nat} (ef : IsP Q f (ibFn g)) (eg : IsP Q g (ibFn x)) (ex : Q.ext x = some indexX) (s : List UInt8) (c : UInt8) : Val Q f [.str s, .int .u8 c.toNat] (.int .i64 (Lib.indexByte s c)) := by
  have hx : ∀ lo base tgt h, callW Q x lo base tgt [.str s, .int .u8 c.toNat] h = some (.int .i64 (Lib.indexByte s c), h) := fun lo base tgt h => callW_ext ex (by simp [indexX])
  have hg : Val Q g [.str s, .int .u8 c.toNat] (.int .i64 (Lib.indexByte s c)) := by
    refine Val.of_sat eg.1 eg.2.1 eg.2.2 ?_
    simp [ibFn, hx]
  have hg' : ∀ lo base tgt h, callW Q g lo base tgt [.str s, .int .u8 c.toNat] h = some (.int .i64 (Lib.indexByte s c), h) := fun lo base tgt h => hg.call (by simp) (by simp)
  refine Val.of_sat ef.1 ef.2.1 ef.2.2 ?_
  simp [ibFn, hg']

theorem ib_low (c : UInt8) : decide (0 ≤ Lib.indexByte sLow c) = isLow c := by
  have key : ∀ n : Fin 256, decide (0 ≤ Lib.indexByte sLow (UInt8.ofNat n.val)) = isLow (UInt8.ofNat n.val) := by decide +kernel
  have := key ⟨c.toNat, c.toNat_lt⟩
  simpa using this

/-! ### A name -/
def nameS (s : List UInt8) : Bool :=
  match s with
  | [] => false
  | c :: t => decide ((c :: t).length ≤ 8) && isLow c && (c :: t).all isLD
def nameFn (ib tr : Nat) : AFn := ⟨[.tmp 2],
 .seq (.region [
 ⟨(some 2), .move (.val (.bool false)), none⟩])
 (.seq (.region [
 ⟨(some 3), .move (.tmp 0), none⟩,
 ⟨(some 4), .bin .neq (.tmp 3) (.val (.str [])), none⟩,
 ⟨(some 5), .move (.tmp 4), none⟩,
 ⟨(some 6), .move (.tmp 0), (some (5, true))⟩,
 ⟨(some 7), .lenStr (.tmp 6), (some (5, true))⟩,
 ⟨(some 8), .bin .leq (.tmp 7) (.val (.int .i64 8)), (some (5, true))⟩,
 ⟨(some 9), .pick (.tmp 5) (.tmp 8) (.val (.bool false)), none⟩,
 ⟨(some 10), .move (.tmp 9), none⟩,
 ⟨(some 11), .move (.tmp 0), (some (10, true))⟩,
 ⟨(some 12), .istr (.tmp 11) (.val (.int .i64 0)), (some (10, true))⟩,
 ⟨(some 13), .call (.val (.fn ib [] [])) [(.val (.str sLow)), (.tmp 12)], (some (10, true))⟩,
 ⟨(some 14), .bin .geq (.tmp 13) (.val (.int .i64 0)), (some (10, true))⟩,
 ⟨(some 15), .pick (.tmp 10) (.tmp 14) (.val (.bool false)), none⟩,
 ⟨(some 16), .move (.tmp 15), none⟩,
 ⟨(some 17), .move (.tmp 0), (some (16, true))⟩,
 ⟨(some 18), .call (.val (.fn tr [] [])) [(.tmp 17), (.val (.str sLD))], (some (16, true))⟩,
 ⟨(some 19), .bin .eql (.tmp 18) (.val (.str [])), (some (16, true))⟩,
 ⟨(some 20), .pick (.tmp 16) (.tmp 19) (.val (.bool false)), none⟩,
 ⟨(some 2), .move (.tmp 20), none⟩])
 (.ret))⟩
theorem name_ok {f ib tr : Nat} (ef : IsP Q f (nameFn ib tr)) (hib : ∀ c : UInt8, Val Q ib [.str sLow, .int .u8 c.toNat] (.int .i64 (Lib.indexByte sLow c))) (htr : ∀ s : List UInt8, s ≠ [] → s.length < big → Val Q tr [.str s, .str sLD] (.str (trimS s))) (s : List UInt8) :
    Val Q f [.str s] (.bool (nameS s)) := by
  refine Val.of_sat ef.1 ef.2.1 ef.2.2 ?_
  cases s with
  | nil => simp [nameFn, nameS]
  | cons c t =>
    have h1 : ∀ lo base tgt h, callW Q ib lo base tgt [.str sLow, .int .u8 c.toNat] h = some (.int .i64 (Lib.indexByte sLow c), h) := fun lo base tgt h => (hib c).call (by simp) (by simp)
    by_cases hl : (c :: t).length ≤ 8
    · have hsz : (c :: t).length < big := by show (c :: t).length < 4611686018427387904; omega
      have h2 : ∀ lo base tgt h, callW Q tr lo base tgt [.str (c :: t), .str sLD] h = some (.str (trimS (c :: t)), h) := fun lo base tgt h => (htr (c :: t) (by simp) hsz).call (by simp) (by simp)
      have hl' : (t.length : Int) + 1 ≤ 8 := by simp at hl; omega
      have h3 := ib_low c
      have h4 := trimS_nil (c :: t)
      cases hc : isLow c
      · rw [hc] at h3
        simp [nameFn, nameS, hl', h1, h3, hc]
      · rw [hc] at h3
        simp [nameFn, nameS, hl', h1, h2, h3, h4, hc]
        simp at hl
        simp [hl]
    · have hl' : ¬ (t.length : Int) + 1 ≤ 8 := by simp at hl; omega
      have hl2 : ¬ t.length + 1 ≤ 8 := by simpa using hl
      simp [nameFn, nameS, hl', hl2]

end
end Go.Abs
