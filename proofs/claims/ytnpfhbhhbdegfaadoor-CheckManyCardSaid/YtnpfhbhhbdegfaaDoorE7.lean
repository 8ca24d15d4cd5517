/- The program's data in Lean: expressions, conditions, statements, programs; how each stands as an abstract value. -/
import Derived.Test.YtnpfhbhhbdegfaaDoorE6
set_option linter.unusedSimpArgs false
set_option linter.unusedVariables false
namespace Go.Abs

abbrev Str := List UInt8
abbrev I (n : Int) : AV := .int .i64 n

inductive Expr where
  | mk (kind n op : Int) (name : Str) (kids : List Expr)
inductive Cond where
  | mk (kind rel : Int) (l : List Expr) (kids : List Cond)
inductive Stmt where
  | mk (kind : Int) (name : Str) (i e : Expr) (c : Cond) (body els : List Stmt)
structure Glob where
  name : Str
  init : Int
structure Arr where
  name : Str
  size : Int
structure Thr where
  name : Str
  locals : List Str
  body : List Stmt
structure Prg' where
  globals : List Glob
  arrays : List Arr
  mutexes : List Str
  threads : List Thr

/-! ### As abstract values -/
mutual
def encE : Expr → AV
  | .mk k n o s l => .agg [I k, I n, I o, .str s, mkRo 5 (encEL l)]
def encEL : List Expr → List AV
  | [] => []
  | e :: l => encE e :: encEL l
end
mutual
def encC : Cond → AV
  | .mk k r l ks => .agg [I k, I r, mkRo 5 (encEL l), mkRo 4 (encCL ks)]
def encCL : List Cond → List AV
  | [] => []
  | c :: l => encC c :: encCL l
end
mutual
def encS : Stmt → AV
  | .mk k s i e c b l => .agg ([I k, .str s] ++ (encE i).cells ++ (encE e).cells ++ (encC c).cells ++ [mkRo 18 (encSL b), mkRo 18 (encSL l)])
def encSL : List Stmt → List AV
  | [] => []
  | s :: l => encS s :: encSL l
end
def encG (g : Glob) : AV := .agg [.str g.name, I g.init]
def encA (a : Arr) : AV := .agg [.str a.name, I a.size]
def encStrs (l : List Str) : AV := mkRo 1 (l.map .str)
def encT (t : Thr) : AV := .agg [.str t.name, encStrs t.locals, mkRo 18 (t.body.map encS)]
def encP (p : Prg') : AV := .agg [mkRo 2 (p.globals.map encG), mkRo 2 (p.arrays.map encA), encStrs p.mutexes, mkRo 3 (p.threads.map encT)]

@[simp] theorem encEL_eq (l : List Expr) : encEL l = l.map encE := by
  induction l with
  | nil => rfl
  | cons e l ih => simp [encEL, ih]
@[simp] theorem encCL_eq (l : List Cond) : encCL l = l.map encC := by
  induction l with
  | nil => rfl
  | cons e l ih => simp [encCL, ih]
@[simp] theorem encSL_eq (l : List Stmt) : encSL l = l.map encS := by
  induction l with
  | nil => rfl
  | cons e l ih => simp [encSL, ih]
theorem encE_mk (k n o : Int) (s : Str) (l : List Expr) : encE (.mk k n o s l) = .agg [I k, I n, I o, .str s, mkRo 5 (l.map encE)] := nr (by simp [encE])
theorem encC_mk (k r : Int) (l : List Expr) (ks : List Cond) : encC (.mk k r l ks) = .agg [I k, I r, mkRo 5 (l.map encE), mkRo 4 (ks.map encC)] := nr (by simp [encC])
theorem encS_mk (k : Int) (s : Str) (i e : Expr) (c : Cond) (b l : List Stmt) : encS (.mk k s i e c b l) = .agg ([I k, .str s] ++ (encE i).cells ++ (encE e).cells ++ (encC c).cells ++ [mkRo 18 (b.map encS), mkRo 18 (l.map encS)]) := nr (by simp [encS])
theorem encS_mk' (k : Int) (s : Str) (ik ni oi : Int) (si : Str) (li : List Expr) (ek ne oe : Int) (se : Str) (le : List Expr) (ck cr : Int) (cl : List Expr) (cc : List Cond) (b l : List Stmt) :
    encS (.mk k s (.mk ik ni oi si li) (.mk ek ne oe se le) (.mk ck cr cl cc) b l) =
      .agg [I k, .str s, I ik, I ni, I oi, .str si, mkRo 5 (li.map encE), I ek, I ne, I oe, .str se, mkRo 5 (le.map encE), I ck, I cr, mkRo 5 (cl.map encE), mkRo 4 (cc.map encC), mkRo 18 (b.map encS), mkRo 18 (l.map encS)] := nr (by
  simp [encS, encE, encC])

/-! ### They lead to no block; they are spelt in the one way -/
structure Plain (x : AV) : Prop where
  cl : x.closed = true
  can : x.canon = x
theorem plain_list {xs : List AV} (h : ∀ x ∈ xs, Plain x) : AV.closedL xs = true ∧ xs.map AV.canon = xs := by
  induction xs with
  | nil => exact ⟨rfl, rfl⟩
  | cons x xs ih =>
    obtain ⟨h1, h2⟩ := ih fun y hy => h y (List.mem_cons_of_mem _ hy)
    have hx := h x (by simp)
    simp [h1, h2, hx.cl, hx.can]
theorem plain_map {α : Type} {f : α → AV} {l : List α} (h : ∀ x ∈ l, Plain (f x)) : AV.closedL (l.map f) = true ∧ (l.map f).map AV.canon = l.map f := plain_list (by
  intro x hx
  obtain ⟨y, hy, rfl⟩ := List.mem_map.1 hx
  exact h y hy)
theorem plain_ro {α : Type} {f : α → AV} {sz : Nat} {l : List α} (h : ∀ x ∈ l, Plain (f x)) : Plain (mkRo sz (l.map f)) := by
  obtain ⟨h1, h2⟩ := plain_map h
  exact ⟨by simp [h1], by rw [canon_mkRo, h2]⟩
theorem plainE : (e : Expr) → Plain (encE e)
  | .mk k n o s l => by
    have h := plain_ro (sz := 5) (f := encE) (l := l) fun x hx => plainE x
    exact ⟨by rw [encE_mk]; simpa using h.cl, by rw [encE_mk]; simpa using h.can⟩
termination_by e => e
decreasing_by
  have := List.sizeOf_lt_of_mem hx
  simp_wf
  omega
theorem plainC : (c : Cond) → Plain (encC c)
  | .mk k r l ks => by
    have h0 := plain_ro (sz := 5) (f := encE) (l := l) fun x _ => plainE x
    have h := plain_ro (sz := 4) (f := encC) (l := ks) fun x hx => plainC x
    refine ⟨?_, ?_⟩
    · rw [encC_mk]
      have h1 := h0.cl
      have h2 := h.cl
      simp only [closed_mkRo] at h1 h2
      simp [h1, h2]
    · rw [encC_mk]
      have h1 := h0.can
      have h2 := h.can
      simp only [canon_agg, List.map_cons, List.map_nil, canon_int, h1, h2]
termination_by c => c
decreasing_by
  have := List.sizeOf_lt_of_mem hx
  simp_wf
  omega
theorem plainS : (s : Stmt) → Plain (encS s)
  | .mk k s i e c b l => by
    have hb := plain_ro (sz := 18) (f := encS) (l := b) fun x hx => plainS x
    have hl := plain_ro (sz := 18) (f := encS) (l := l) fun x hx => plainS x
    have hi := plainE i
    have he := plainE e
    have hc := plainC c
    obtain ⟨ik, ni, oi, si, li⟩ := i
    obtain ⟨ek, ne, oe, se, le⟩ := e
    obtain ⟨ck, cr, cl, cc⟩ := c
    rw [encE_mk] at hi he
    rw [encC_mk] at hc
    have hi1 := hi.cl
    have he1 := he.cl
    have hc1 := hc.cl
    have hb1 := hb.cl
    have hl1 := hl.cl
    have hi2 := hi.can
    have he2 := he.can
    have hc2 := hc.can
    have hb2 := hb.can
    have hl2 := hl.can
    simp only [closed_agg, closedL_cons, closed_int, closed_str, closedL_nil, Bool.and_true, Bool.true_and, closed_mkRo, Bool.and_eq_true] at hi1 he1 hc1 hb1 hl1
    simp only [canon_agg, List.map_cons, List.map_nil, canon_int, canon_str, AV.agg.injEq, List.cons.injEq, and_true, true_and] at hi2 he2 hc2
    rw [encS_mk']
    refine ⟨?_, ?_⟩
    · simp only [closed_agg, closedL_cons, closed_int, closed_str, closedL_nil, Bool.and_true, Bool.true_and, closed_mkRo, hi1, he1, hc1.1, hc1.2, hb1, hl1]
    · simp only [canon_agg, List.map_cons, List.map_nil, canon_int, canon_str, hi2, he2, hc2.1, hc2.2, hb2, hl2]
termination_by s => s
decreasing_by
  · have := List.sizeOf_lt_of_mem hx
    simp_wf
    omega
  · have := List.sizeOf_lt_of_mem hx
    simp_wf
    omega
theorem plainStrs (l : List Str) : Plain (encStrs l) := plain_ro fun x _ => ⟨rfl, rfl⟩
theorem plainG (g : Glob) : Plain (encG g) := ⟨by simp [encG], by simp [encG]⟩
theorem plainA (a : Arr) : Plain (encA a) := ⟨by simp [encA], by simp [encA]⟩
theorem plainT (t : Thr) : Plain (encT t) := by
  have h1 := plainStrs t.locals
  have h2 := plain_ro (sz := 18) (f := encS) (l := t.body) fun x _ => plainS x
  exact ⟨by simp only [encT, closed_agg, closedL_cons, closed_str, closedL_nil, h1.cl, h2.cl]; rfl, by simp only [encT, canon_agg, List.map_cons, List.map_nil, canon_str, h1.can, h2.can]⟩
theorem plainP (p : Prg') : Plain (encP p) := by
  have h1 := plain_ro (sz := 2) (f := encG) (l := p.globals) fun x _ => plainG x
  have h2 := plain_ro (sz := 2) (f := encA) (l := p.arrays) fun x _ => plainA x
  have h3 := plainStrs p.mutexes
  have h4 := plain_ro (sz := 3) (f := encT) (l := p.threads) fun x _ => plainT x
  exact ⟨by simp only [encP, closed_agg, closedL_cons, closedL_nil, h1.cl, h2.cl, h3.cl, h4.cl]; rfl, by simp only [encP, canon_agg, List.map_cons, List.map_nil, h1.can, h2.can, h3.can, h4.can]⟩

/-! ### Small enough to be counted -/
mutual
def okE : Expr → Prop
  | .mk _ _ _ s l => s.length < big ∧ l.length < big ∧ okEL l
def okEL : List Expr → Prop
  | [] => True
  | e :: l => okE e ∧ okEL l
end
theorem okEL_iff {l : List Expr} : okEL l ↔ ∀ e ∈ l, okE e := by
  induction l with
  | nil => simp [okEL]
  | cons e l ih => simp [okEL, ih]
mutual
def okC : Cond → Prop
  | .mk _ _ l ks => l.length < big ∧ ks.length < big ∧ okEL l ∧ okCL ks
def okCL : List Cond → Prop
  | [] => True
  | e :: l => okC e ∧ okCL l
end
theorem okCL_iff {l : List Cond} : okCL l ↔ ∀ e ∈ l, okC e := by
  induction l with
  | nil => simp [okCL]
  | cons e l ih => simp [okCL, ih]
mutual
def okS : Stmt → Prop
  | .mk _ s i e c b l => s.length < big ∧ okE i ∧ okE e ∧ okC c ∧ b.length < big ∧ l.length < big ∧ okSL b ∧ okSL l
def okSL : List Stmt → Prop
  | [] => True
  | e :: l => okS e ∧ okSL l
end
theorem okSL_iff {l : List Stmt} : okSL l ↔ ∀ e ∈ l, okS e := by
  induction l with
  | nil => simp [okSL]
  | cons e l ih => simp [okSL, ih]
structure okT (t : Thr) : Prop where
  name : t.name.length < big
  locals : t.locals.length < big
  locn : ∀ s ∈ t.locals, s.length < big
  body : t.body.length < big
  stmts : ∀ s ∈ t.body, okS s
structure okP (p : Prg') : Prop where
  globals : p.globals.length < big
  globn : ∀ g ∈ p.globals, g.name.length < big
  arrays : p.arrays.length < big
  arrn : ∀ g ∈ p.arrays, g.name.length < big
  mutexes : p.mutexes.length < big
  mutn : ∀ s ∈ p.mutexes, s.length < big
  threads : p.threads.length < big
  thr : ∀ t ∈ p.threads, okT t

/-! ### What may be -/
mutual
def exprOk : Expr → Bool
  | .mk k n o s l =>
    (if k = 1 then decide (0 ≤ n) && decide (n ≤ 2147483647) && decide (l.length = 0)
     else if k = 4 then decide (l.length = 0)
     else if k = 2 then nameS s && decide (l.length = 0)
     else if k = 3 then nameS s && decide (l.length = 1)
     else if k = 6 then decide (l.length = 1)
     else if k = 5 then decide (1 ≤ o) && decide (o ≤ 5) && decide (l.length = 2)
     else false) && exprsOk l
def exprsOk : List Expr → Bool
  | [] => true
  | e :: l => exprOk e && exprsOk l
end
theorem exprsOk_eq (l : List Expr) : exprsOk l = l.all exprOk := by
  induction l with
  | nil => rfl
  | cons e l ih => simp [exprsOk, ih]
mutual
def condOk : Cond → Bool
  | .mk k r l ks =>
    (if k = 1 then decide (1 ≤ r) && decide (r ≤ 6) && decide (ks.length = 0) && decide (l.length = 2)
     else if k = 2 then decide (ks.length = 1) && decide (l.length = 0)
     else if k = 3 ∨ k = 4 then decide (ks.length = 2) && decide (l.length = 0)
     else false) && exprsOk l && condsOk ks
def condsOk : List Cond → Bool
  | [] => true
  | e :: l => condOk e && condsOk l
end
theorem condsOk_eq (l : List Cond) : condsOk l = l.all condOk := by
  induction l with
  | nil => rfl
  | cons e l ih => simp [condsOk, ih]
mutual
def stmtOk : Stmt → Bool
  | .mk k s i e c b l =>
    if k = 1 then nameS s && exprOk e
    else if k = 2 then nameS s && exprOk i && exprOk e
    else if k = 3 ∨ k = 4 then nameS s
    else if k = 5 then condOk c && stmtsOk b && stmtsOk l
    else if k = 6 then condOk c && stmtsOk b
    else if k = 7 then condOk c
    else decide (k = 8)
def stmtsOk : List Stmt → Bool
  | [] => true
  | e :: l => stmtOk e && stmtsOk l
end
theorem stmtsOk_eq (l : List Stmt) : stmtsOk l = l.all stmtOk := by
  induction l with
  | nil => rfl
  | cons e l ih => simp [stmtsOk, ih]
def fits32 (n : Int) : Bool := decide (-2147483648 ≤ n) && decide (n ≤ 2147483647)
def fitsOk (p : Prg') : Bool := decide (p.globals.length ≤ 6) && decide (p.arrays.length ≤ 3) && decide (p.mutexes.length ≤ 6) && decide (p.threads.length ≤ 4) && p.threads.all fun t => decide (t.locals.length ≤ 6)
def formOk (p : Prg') : Bool := decide (0 < p.threads.length) && p.mutexes.all nameS && p.globals.all (fun g => nameS g.name && fits32 g.init) && p.arrays.all (fun a => nameS a.name && (decide (1 ≤ a.size) && decide (a.size ≤ 16))) &&
  p.threads.all fun t => nameS t.name && t.locals.all nameS && stmtsOk t.body
/-- Does a text stand twice in a row? -/
def twiceS : List Str → Bool
  | [] => false
  | s :: l => l.contains s || twiceS l
def sharedS (p : Prg') : List Str := p.globals.map (·.name) ++ p.arrays.map (·.name) ++ p.mutexes
def aloneOk (p : Prg') : Bool := p.threads.all (fun t => !twiceS (sharedS p ++ t.locals)) && !twiceS (p.threads.map (·.name))
/-! ### What is there -/
def placeS (s : Str) (l : List Str) : Int := optI (l.findIdx? fun t => decide (s = t))
def globS (p : Prg') (s : Str) : Int := placeS s (p.globals.map (·.name))
def arrS (p : Prg') (s : Str) : Int := placeS s (p.arrays.map (·.name))
def mutS (p : Prg') (s : Str) : Int := placeS s p.mutexes
def locS (t : Thr) (s : Str) : Int := placeS s t.locals
def isVarS (p : Prg') (t : Thr) (s : Str) : Bool := decide (0 ≤ locS t s) || decide (0 ≤ globS p s)
mutual
def exprUses (p : Prg') (t : Thr) : Expr → Bool
  | .mk k _ _ s l => (!decide (k = 2) || isVarS p t s) && (!decide (k = 3) || decide (0 ≤ arrS p s)) && exprsUse p t l
def exprsUse (p : Prg') (t : Thr) : List Expr → Bool
  | [] => true
  | e :: l => exprUses p t e && exprsUse p t l
end
theorem exprsUse_eq (p : Prg') (t : Thr) (l : List Expr) : exprsUse p t l = l.all (exprUses p t) := by
  induction l with
  | nil => rfl
  | cons e l ih => simp [exprsUse, ih]
mutual
def condUses (p : Prg') (t : Thr) : Cond → Bool
  | .mk _ _ l ks => exprsUse p t l && condsUse p t ks
def condsUse (p : Prg') (t : Thr) : List Cond → Bool
  | [] => true
  | e :: l => condUses p t e && condsUse p t l
end
theorem condsUse_eq (p : Prg') (t : Thr) (l : List Cond) : condsUse p t l = l.all (condUses p t) := by
  induction l with
  | nil => rfl
  | cons e l ih => simp [condsUse, ih]
mutual
def stmtUses (p : Prg') (t : Thr) : Stmt → Bool
  | .mk k s i e c b l =>
    if k = 1 then isVarS p t s && exprUses p t e
    else if k = 2 then decide (0 ≤ arrS p s) && exprUses p t i && exprUses p t e
    else if k = 3 ∨ k = 4 then decide (0 ≤ mutS p s)
    else if k = 5 then condUses p t c && stmtsUse p t b && stmtsUse p t l
    else if k = 6 then condUses p t c && stmtsUse p t b
    else if k = 7 then condUses p t c
    else true
def stmtsUse (p : Prg') (t : Thr) : List Stmt → Bool
  | [] => true
  | e :: l => stmtUses p t e && stmtsUse p t l
end
theorem stmtsUse_eq (p : Prg') (t : Thr) (l : List Stmt) : stmtsUse p t l = l.all (stmtUses p t) := by
  induction l with
  | nil => rfl
  | cons e l ih => simp [stmtsUse, ih]
/-- Why a program may not be. -/
def checkS (p : Prg') : Int :=
  if fitsOk p = false then 4 else if formOk p = false then 2 else if aloneOk p = false then 5 else if (p.threads.all fun t => stmtsUse p t t.body) = false then 6 else 0

end Go.Abs
