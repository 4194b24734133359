/-
  An abstract evaluator of the program form, its values and how a state lies in memory; no condition.
-/
import Derived.Tactics
import Derived.Below
import Derived.Orders
import Derived.Laws.AppendOwn
import Derived.Laws.IdiomCopy
import Derived.Room.Entries
import Derived.ChangeKeysEq
import Derived.Laws.StructEq
set_option linter.unusedSectionVars false
set_option linter.unusedSimpArgs false
set_option linter.unusedVariables false
/-
  Aw, part A: the abstract values and how they are read in the model's memory.
-/
namespace Aw
open Go Go.RowKit

/-- Pure data: what a Go value says, without memory. A slice is its elements; a struct is its flat cells. -/
inductive DV where
  | bool (b : Bool)
  | int (k : IntKind) (n : Int)
  | str (s : List UInt8)
  | sl (xs : List DV)
  | agg (cs : List DV)
  | fn (f : FuncId)
  | raw (v : Value)
  | iface (t : TypeId) (v : DV)
  deriving Inhabited

def DV.cells : DV → List DV
  | .agg cs => cs
  | x => [x]
def DV.width (x : DV) : Nat := x.cells.length
def DV.atom : DV → Bool
  | .agg _ => false
  | _ => true
def atomV : Value → Bool
  | .agg _ => false
  | .tuple _ => false
  | _ => true
def flat (xs : List DV) : List DV := xs.flatMap DV.cells

/-- A table by numbers. -/
inductive Tr (α : Type) where
  | leaf
  | node (l : Tr α) (v : Option α) (r : Tr α)
namespace Tr
variable {α : Type}
def get : Tr α → Nat → Option α
  | .leaf, _ => none
  | .node l v r, n => match n with
    | 0 => v
    | m + 1 => match m % 2 with
      | 0 => l.get (m / 2)
      | _ => r.get (m / 2)
def put (f : Nat) (t : Tr α) (n : Nat) (x : Option α) : Tr α :=
  match f with
  | 0 => t
  | f + 1 =>
    match t with
    | .leaf => match n with
      | 0 => .node .leaf x .leaf
      | m + 1 => match m % 2 with
        | 0 => .node (put f .leaf (m / 2) x) none .leaf
        | _ => .node .leaf none (put f .leaf (m / 2) x)
    | .node l v r => match n with
      | 0 => .node l x r
      | m + 1 => match m % 2 with
        | 0 => .node (put f l (m / 2) x) v r
        | _ => .node l v (put f r (m / 2) x)
/-- As `put`, handing on what is written out. -/
def putK {β : Type} (f : Nat) (t : Tr α) (n : Nat) (x : Option α) (k : Tr α → β) : β :=
  match f with
  | 0 => k t
  | f + 1 =>
    match t with
    | .leaf => match n with
      | 0 => k (.node .leaf x .leaf)
      | m + 1 => match m % 2 with
        | 0 => putK f .leaf (m / 2) x fun l => k (.node l none .leaf)
        | _ => putK f .leaf (m / 2) x fun r => k (.node .leaf none r)
    | .node l v r => match n with
      | 0 => k (.node l x r)
      | m + 1 => match m % 2 with
        | 0 => putK f l (m / 2) x fun l => k (.node l v r)
        | _ => putK f r (m / 2) x fun r => k (.node l v r)
theorem putK_eq {β : Type} (f : Nat) : ∀ (t : Tr α) (n : Nat) (x : Option α) (k : Tr α → β), putK f t n x k = k (put f t n x) := by
  induction f with
  | zero => intros; rfl
  | succ f ih =>
    intro t n x k
    cases t <;> cases n <;> simp only [putK, put] <;> split <;> simp_all
/-- Numbers below 2^f - 1 fit. -/
theorem get_put (f : Nat) : ∀ (t : Tr α) (n : Nat) (x : Option α) (m : Nat), n + 1 < 2 ^ f → (put f t n x).get m = if m = n then x else t.get m := by
  induction f with
  | zero => intro t n x m h; omega
  | succ f ih =>
    intro t n x m h
    have key : ∀ (l r : Tr α) (v : Option α), t.get = (Tr.node l v r).get → put (f + 1) t n x = put (f + 1) (.node l v r) n x →
        (put (f + 1) t n x).get m = if m = n then x else t.get m := by
      intro l r v hg hp
      rw [hp, hg]
      cases n with
      | zero =>
        cases m with
        | zero => simp [put, get]
        | succ m => simp [put, get]
      | succ n =>
        have hn : n / 2 + 1 < 2 ^ f := by rw [Nat.pow_succ] at h; omega
        cases m with
        | zero => simp only [put]; split <;> simp [get]
        | succ m =>
          simp only [put]
          split
          · rename_i he
            simp only [get]
            split
            · rename_i hm
              rw [ih _ _ _ _ hn]
              have : (m / 2 = n / 2) ↔ (m + 1 = n + 1) := by omega
              simp only [this]
            · rename_i hm
              rw [if_neg]
              intro hc; apply hm; have : m = n := by omega
              rw [this]; exact he
          · rename_i he
            simp only [get]
            split
            · rename_i hm
              rw [if_neg]
              intro hc; apply he; have : m = n := by omega
              rw [← this]; exact hm
            · rename_i hm
              rw [ih _ _ _ _ hn]
              have : (m / 2 = n / 2) ↔ (m + 1 = n + 1) := by
                have h1 : m % 2 = 1 := by have := Nat.mod_two_eq_zero_or_one m; rcases this with h | h; exact absurd h (by simpa using hm); exact h
                have h2 : n % 2 = 1 := by have := Nat.mod_two_eq_zero_or_one n; rcases this with h | h; exact absurd h (by simpa using he); exact h
                omega
              simp only [this]
    cases t with
    | node l v r => exact key l r v rfl rfl
    | leaf =>
      refine key .leaf .leaf none ?_ ?_
      · funext k
        cases k with
        | zero => rfl
        | succ k => simp only [get]; split <;> rfl
      · cases n <;> rfl
end Tr

abbrev Seal := Nat → Nat → Prop

/-- The datum x is what the value v says, of sealed cells alone. -/
inductive DRel (S : Seal) (w : World) : DV → Value → Prop where
  | bool (b : Bool) : DRel S w (.bool b) (.bool b)
  | int (k : IntKind) (n : Int) : DRel S w (.int k n) (.int k n)
  | str (s : List UInt8) : DRel S w (.str s) (.string ⟨s.toArray⟩)
  | nilsl : DRel S w (.sl []) (.slice none 0 0)
  | emp (a : Addr) : DRel S w (.sl []) (.slice (some a) 0 0)
  | sl (xs : List DV) (b off cap k : Nat) (val : Nat → Value) (hk : ∀ x ∈ xs, x.width = k) (hc : xs.length ≤ cap)
      (hs : ∀ (i : Nat) (c : DV), (flat xs)[i]? = some c → S b (off + i)) (hv : ∀ (i : Nat) (c : DV), (flat xs)[i]? = some c → w.cell? ⟨b, off + i, none⟩ = some (val i))
      (hr : ∀ (i : Nat) (c : DV), (flat xs)[i]? = some c → DRel S w c (val i)) (ha : ∀ c ∈ flat xs, c.atom = true) :
      DRel S w (.sl xs) (.slice (some ⟨b, off, none⟩) xs.length cap)
  | agg (cs : List DV) (vs : List Value) (hl : cs.length = vs.length) (hr : ∀ (i : Nat) (c : DV) (v : Value), cs[i]? = some c → vs[i]? = some v → DRel S w c v)
      (ha : ∀ c ∈ cs, c.atom = true) : DRel S w (.agg cs) (.agg ⟨vs⟩)
  | fn (f : FuncId) : DRel S w (.fn f) (.func (.func f) #[] #[])
  | raw (v : Value) (h : atomV v = true) : DRel S w (.raw v) v
  | iface (t : TypeId) (x : DV) (v : Value) (h : DRel S w x v) : DRel S w (.iface t x) (.iface t v)

theorem DRel.atomV {S : Seal} {w : World} {x : DV} {v : Value} (h : DRel S w x v) (ha : x.atom = true) : Aw.atomV v = true := by
  cases h <;> first | rfl | assumption | simp [DV.atom] at ha

/-- What is sealed stays as it is: so does all data. -/
theorem DRel.mono {S S' : Seal} {w w' : World} (hS : ∀ b o, S b o → S' b o) (hw : ∀ b o, S b o → w'.cell? ⟨b, o, none⟩ = w.cell? ⟨b, o, none⟩)
    {x : DV} {v : Value} (h : DRel S w x v) : DRel S' w' x v := by
  induction h with
  | bool b => exact .bool b
  | int k n => exact .int k n
  | str s => exact .str s
  | nilsl => exact .nilsl
  | emp a => exact .emp a
  | sl xs b off cap k val hk hc hs hv hr ha ih =>
    exact .sl xs b off cap k val hk hc (fun i c hi => hS _ _ (hs i c hi)) (fun i c hi => (hw _ _ (hs i c hi)).trans (hv i c hi)) (fun i c hi => ih i c hi) ha
  | agg cs vs hl hr ha ih => exact .agg cs vs hl (fun i c v hc hv => ih i c v hc hv) ha
  | fn f => exact .fn f
  | raw v h => exact .raw v h
  | iface t x v h ih => exact .iface t x v ih

/-- The cells of a value are those of its datum. -/
theorem DRel.cells {S : Seal} {w : World} {x : DV} {v : Value} (h : DRel S w x v) :
    x.cells.length = v.cells.size ∧ (∀ (i : Nat) (c : DV) (u : Value), x.cells[i]? = some c → v.cells[i]? = some u → DRel S w c u) ∧ (∀ c ∈ x.cells, c.atom = true) := by
  by_cases hat : x.atom = true
  · have hv := h.atomV hat
    have h1 : x.cells = [x] := by cases x <;> first | rfl | simp [DV.atom] at hat
    have h2 : v.cells = #[v] := by cases v <;> first | rfl | simp [Aw.atomV] at hv
    rw [h1, h2]
    refine ⟨rfl, fun i c u hc hu => ?_, fun c hc => ?_⟩
    · cases i with
      | zero => simp at hc hu; subst hc; subst hu; exact h
      | succ i => simp at hc
    · simp at hc; subst hc; exact hat
  · cases h with
    | agg cs vs hl hr ha => exact ⟨by simpa [DV.cells, Value.cells] using hl, fun i c u hc hu => hr i c u hc (by simpa [Value.cells] using hu), ha⟩
    | _ => simp [DV.atom] at hat

theorem flat_cons (x : DV) (xs : List DV) : flat (x :: xs) = x.cells ++ flat xs := by simp [flat]
theorem flat_append (xs ys : List DV) : flat (xs ++ ys) = flat xs ++ flat ys := by simp [flat]
theorem flat_length {xs : List DV} {k : Nat} (h : ∀ x ∈ xs, x.width = k) : (flat xs).length = xs.length * k := by
  induction xs with
  | nil => simp [flat]
  | cons x xs ih =>
    rw [flat_cons, List.length_append, ih (fun y hy => h y (List.mem_cons_of_mem _ hy))]
    have : x.cells.length = k := h x (List.mem_cons_self ..)
    rw [this, List.length_cons, Nat.succ_mul, Nat.add_comm]
theorem flat_get {xs : List DV} {k : Nat} (h : ∀ x ∈ xs, x.width = k) {i : Nat} {x : DV} (hx : xs[i]? = some x) (j : Nat) (hj : j < k) :
    (flat xs)[i * k + j]? = x.cells[j]? := by
  induction xs generalizing i with
  | nil => simp at hx
  | cons y ys ih =>
    have hy : y.cells.length = k := h y (List.mem_cons_self ..)
    rw [flat_cons]
    cases i with
    | zero =>
      simp at hx; subst hx
      rw [List.getElem?_append_left (by omega)]; simp
    | succ i =>
      rw [List.getElem?_append_right (by rw [hy, Nat.succ_mul]; omega)]
      have e : (i + 1) * k + j - y.cells.length = i * k + j := by rw [hy, Nat.succ_mul]; omega
      rw [e]
      exact ih (fun z hz => h z (List.mem_cons_of_mem _ hz)) (by simpa using hx)
end Aw

/-
  Aw, part B: the symbolic evaluator: what the operations and the code of a function do to an abstract state. Written so that weak head normalization runs it.
-/
namespace Aw
open Go

/-- What a slot or a cell of a local variable holds. -/
inductive AV where
  | d (x : DV)
  | nil (k : Nat)                 -- the nil slice, of elements of k cells
  | ptr (key off : Nat)           -- into a box
  | ep (x : DV) (j : Nat)         -- to the j-th cell of a sealed element
  | lst (key : Nat)               -- an own list
  | lp (key i j : Nat)            -- to the j-th cell of the i-th element of an own list
  | agg (cs : List AV)
  | tup (vs : List AV)
  | clo (c : Option FuncId) (key off : Nat)   -- some f: a function over a sealed cell that points into a box; none: a pointer to such a cell
  | junk
  deriving Inhabited

/-- An object of the call's own. -/
inductive Ob where
  | box (cs : List AV)
  | list (k : Nat) (xs : List DV) (own : Bool)
  | iter (s : List UInt8) (pos : Nat)
  | dead

/-- A change of an object: a new one, or another state of one that is there. -/
inductive W where
  | new (key : Nat) (o : Ob)
  | upd (key : Nat) (o : Ob)
abbrev Ws := List W

/-- What passes the border of a call: data, or a list that is handed on to be added to. -/
inductive PV where
  | d (x : DV)
  | own (k : Nat) (xs : List DV) (o : Bool)
  | clo (c : Option FuncId) (off : Nat)          -- of the box that was handed in
  | new (xs : List DV)                           -- a pointer to a new box

structure AS where
  tm : Tr AV
  ob : Tr Ob

/-- Rows of the table of types. -/
inductive TD where
  | bool | int (k : IntKind) | str | slice (e : Nat) | ptr (e : Nat) | struct (fs : List (Nat × Nat)) | iface | func | map (k e : Nat) | array (n e : Nat) | other
structure TI where
  desc : TD
  size : Nat
  bytes : Nat
  zero : List AV
  cmp : Bool

/-- What an operation does. -/
inductive Eff where
  | ret (v : AV) (ws : Ws)
  | need (p : Prop) (e : Eff)
  | idx (xs : List DV) (i : Int) (sz : Nat) (f : DV → Eff)
  | get (xs : List DV) (i : Nat) (f : DV → Eff)
  | split (b : Bool) (t e : Eff)
  | call (f : FuncId) (os : List (List PV)) (args : List AV) (g : List PV → List (List PV) → Eff)
  | fail

structure Br (b : Bool) (p q : Prop) : Prop where
  t : b = true → p
  f : b = false → q
structure Need (p q : Prop) : Prop where
  l : p
  r : q
structure Idx (xs : List DV) (i : Int) (sz : Nat) (k : DV → Prop) : Prop where
  lo : 0 ≤ i
  hi : i.toNat < xs.length
  el : ∀ x, xs[i.toNat]? = some x → x.width = sz ∧ k x
structure Get (xs : List DV) (i : Nat) (k : DV → Prop) : Prop where
  el : ∀ x, xs[i]? = some x → k x

section
variable (TT : Tr TI)

def cv : Value → AV
  | .bool b => .d (.bool b)
  | .int k n => .d (.int k n)
  | .string s => .d (.str s.data.toList)
  | .slice none 0 0 => .nil 0
  | .pointer none => .d (.raw (.pointer none))
  | .nilIface => .d (.raw .nilIface)
  | .nilFunc => .d (.raw .nilFunc)
  | .map none => .d (.raw (.map none))
  | _ => .junk

def ev (t : Tr AV) : Operand → AV
  | .tmp i => match t.get i with | some v => v | none => .junk
  | .const v => cv v
  | .func f => .d (.fn f)
  | .global _ => .junk

def sz (t : Nat) : Option Nat := match TT.get t with | some i => some i.size | none => none
def isAgg (t : Nat) : Option Bool := match TT.get t with
  | some i => match i.desc with | .struct _ => some true | .array _ _ => some true | .other => none | _ => some false
  | none => none

/-- Lists handed on written out. -/
def outL {α β : Type} : List α → (List α → β) → β
  | [], k => k []
  | x :: r, k => outL r fun r => k (x :: r)
/-- n of the list's elements from j on; none where there are not so many. -/
def subK {α β : Type} (l : List α) (j n : Nat) (no : β) (k : List α → β) : β :=
  match j with
  | j + 1 => match l with | [] => no | _ :: r => subK r j n no k
  | 0 => match n with
    | 0 => k []
    | n + 1 => match l with | [] => no | x :: r => subK r 0 n no fun r => k (x :: r)
/-- The list with its elements from j on replaced. -/
def setK {α β : Type} (l : List α) (j : Nat) (xs : List α) (no : β) (k : List α → β) : β :=
  match l with
  | [] => match j, xs with | 0, [] => k [] | _, _ => no
  | y :: r => match j with
    | j + 1 => setK r j xs no fun r => k (y :: r)
    | 0 => match xs with
      | [] => outL r fun r => k (y :: r)
      | x :: xs => setK r 0 xs no fun r => k (x :: r)

def allD : List AV → Option (List DV)
  | [] => some []
  | .d x :: r => match allD r with | some r => some (x :: r) | none => none
  | _ => none
/-- A struct of these cells: data where all of them are. -/
def mkAgg (cs : List AV) (k : AV → Eff) : Eff :=
  match allD cs with
  | some xs => k (.d (.agg xs))
  | none => k (.agg cs)

def dcells (l : List DV) (k : List AV → Eff) : Eff :=
  match l with
  | [] => k []
  | x :: r => dcells r fun r => k (.d x :: r)
/-- The cells of a value. -/
def cellsK (v : AV) (k : List AV → Eff) : Eff :=
  match v with
  | .d x => match x with
    | .agg cs => dcells cs k
    | .bool b => k [.d (.bool b)]
    | .int a b => k [.d (.int a b)]
    | .str s => k [.d (.str s)]
    | .sl xs => k [.d (.sl xs)]
    | .fn f => k [.d (.fn f)]
    | .raw v => k [.d (.raw v)]
    | .iface t x => k [.d (.iface t x)]
  | .agg cs => k cs
  | .nil a => k [.nil a]
  | .ptr a b => k [.ptr a b]
  | .lst a => k [.lst a]
  | .clo c a b => k [.clo c a b]
  | .junk => .fail
  | .tup _ => .fail
  | .ep _ _ => .fail
  | .lp _ _ _ => .fail

/-- A value as data: own lists among it are sealed. -/
def sealK (ob : Nat → Option Ob) (v : AV) (k : DV → Ws → Eff) : Eff :=
  match v with
  | .d x => k x []
  | .nil _ => k (.sl []) []
  | .lst key => match ob key with
    | some (.list n xs _) => k (.sl xs) [.upd key (.list n xs false)]
    | _ => .fail
  | .agg cs => go ob cs fun xs ws => k (.agg xs) ws
  | _ => .fail
where
  go (ob : Nat → Option Ob) : List AV → (List DV → Ws → Eff) → Eff
    | [], k => k [] []
    | .d x :: r, k => go ob r fun xs ws => k (x :: xs) ws
    | .nil _ :: r, k => go ob r fun xs ws => k (.sl [] :: xs) ws
    | .lst key :: r, k => match ob key with
      | some (.list n xs' _) => go ob r fun xs ws => k (.sl xs' :: xs) (.upd key (.list n xs' false) :: ws)
      | _ => .fail
    | _, _ => .fail

def b1 (b : Bool) : Eff := .ret (.d (.bool b)) []
def i1 (k : IntKind) (n : Int) : Eff := .ret (.d (.int k n)) []

def binInt (op : BinOp) (k : IntKind) (a b : Int) : Eff :=
  match op with
  | .add => i1 k (k.wrap (a + b))
  | .sub => i1 k (k.wrap (a - b))
  | .mul => i1 k (k.wrap (a * b))
  | .quo => .need (b ≠ 0) (i1 k (k.wrap (a.tdiv b)))
  | .rem => .need (b ≠ 0) (i1 k (a.tmod b))
  | .and => i1 k (k.wrap (BitVec.ofInt k.bits a &&& BitVec.ofInt k.bits b).toNat)
  | .or => i1 k (k.wrap (BitVec.ofInt k.bits a ||| BitVec.ofInt k.bits b).toNat)
  | .xor => i1 k (k.wrap (BitVec.ofInt k.bits a ^^^ BitVec.ofInt k.bits b).toNat)
  | .andNot => i1 k (k.wrap (BitVec.ofInt k.bits a &&& ~~~(BitVec.ofInt k.bits b)).toNat)
  | .eql => b1 (a == b)
  | .neq => b1 (a != b)
  | .lss => b1 (decide (a < b))
  | .leq => b1 (decide (a ≤ b))
  | .gtr => b1 (decide (a > b))
  | .geq => b1 (decide (a ≥ b))
  | .shl => .fail
  | .shr => .fail
def shift (op : BinOp) (k : IntKind) (a b : Int) : Eff :=
  match op with
  | .shl => .need (0 ≤ b) (i1 k (k.wrap (a * 2 ^ min b.toNat k.bits)))
  | .shr => .need (0 ≤ b) (i1 k (a.fdiv (2 ^ min b.toNat k.bits)))
  | _ => .fail
def strLt (a b : List UInt8) : Bool := Go.Op.bytesLess a b
def binStr (op : BinOp) (a b : List UInt8) : Eff :=
  match op with
  | .add => .need (a.length + b.length ≤ 9223372036854775807) (.ret (.d (.str (a ++ b))) [])
  | .eql => b1 (a == b)
  | .neq => b1 (a != b)
  | .lss => b1 (strLt a b)
  | .leq => b1 (strLt a b || a == b)
  | .gtr => b1 (!(strLt a b || a == b))
  | .geq => b1 (!strLt a b)
  | _ => .fail
def kEq : IntKind → IntKind → Bool
  | .i8, .i8 => true | .i16, .i16 => true | .i32, .i32 => true | .i64, .i64 => true
  | .u8, .u8 => true | .u16, .u16 => true | .u32, .u32 => true | .u64, .u64 => true
  | _, _ => false
/-- Are these cells of a struct alike? (whole numbers and strings alone) -/
def eqFs (g : Nat → List DV → List DV → Option Bool) (xs ys : List DV) : List (Nat × Nat) → Option Bool
  | [] => some true
  | (off, ty) :: r => match sz TT ty with
    | some n => match g ty ((xs.drop off).take n) ((ys.drop off).take n) with
      | some b => match eqFs g xs ys r with
        | some c => some (b && c)
        | none => none
      | none => none
    | none => none
def eqD : Nat → Nat → List DV → List DV → Option Bool
  | 0, _, _, _ => none
  | f + 1, T, xs, ys => match TT.get T with
    | some i => match i.desc with
      | .int _ => match xs with
        | [.int k a] => match ys with
          | [.int k' b] => match kEq k k' with
            | true => some (a == b)
            | false => none
          | _ => none
        | _ => none
      | .str => match xs with
        | [.str a] => match ys with
          | [.str b] => some (a == b)
          | _ => none
        | _ => none
      | .struct fs => match i.cmp with
        | true => eqFs TT (eqD f) xs ys fs
        | false => none
      | _ => none
    | none => none
def isShift : BinOp → Bool
  | .shl => true | .shr => true | _ => false
def binop (op : BinOp) (T : Nat) (x y : AV) : Eff :=
  match x with
  | .d (.int k a) => match y with
    | .d (.int k' b) => match isShift op with
      | true => shift op k a b
      | false => match kEq k k' with
        | true => binInt op k a b
        | false => .fail
    | _ => .fail
  | .d (.str a) => match y with
    | .d (.str b) => binStr op a b
    | _ => .fail
  | .d (.bool a) => match y with
    | .d (.bool b) => match TT.get T with
      | some i => match i.desc with
        | .bool => match op with
          | .eql => b1 (a == b)
          | .neq => b1 (a != b)
          | _ => .fail
        | _ => .fail
      | none => .fail
    | _ => .fail
  | .d (.agg xs) => match y with
    | .d (.agg ys) => match isAgg TT T with
      | some true => match eqD TT 8 T xs ys with
        | some b => match op with
          | .eql => b1 b
          | .neq => b1 (!b)
          | _ => .fail
        | none => .fail
      | _ => .fail
    | _ => .fail
  | _ => .fail

def unop (op : UnOp) (x : AV) : Eff :=
  match op with
  | .not => match x with
    | .d (.bool b) => b1 (!b)
    | _ => .fail
  | .neg => match x with
    | .d (.int k a) => i1 k (k.wrap (0 - a))
    | _ => .fail
  | _ => .fail

def i2s (n : Int) : Nat := n.toNat

def sliceStr (s : List UInt8) (lo hi : Option AV) : Eff :=
  match lo with
  | none => match hi with
    | none => .ret (.d (.str s)) []
    | some (.d (.int _ h)) => .need (0 ≤ h ∧ h ≤ s.length) (.ret (.d (.str (s.take h.toNat))) [])
    | _ => .fail
  | some (.d (.int _ l)) => match hi with
    | none => .need (0 ≤ l ∧ l ≤ s.length) (.ret (.d (.str (s.drop l.toNat))) [])
    | some (.d (.int _ h)) => .need (0 ≤ l ∧ l ≤ h ∧ h ≤ s.length) (.ret (.d (.str ((s.take h.toNat).drop l.toNat))) [])
    | _ => .fail
  | _ => .fail
def sliceSl (n : Nat) (s : List DV) (ws : Ws) (lo hi : Option AV) : Eff :=
  match lo with
  | none => match hi with
    | none => .ret (.d (.sl s)) ws
    | some (.d (.int _ h)) => .need (0 ≤ h ∧ h ≤ s.length) (.ret (.d (.sl (s.take h.toNat))) ws)
    | _ => .fail
  | some (.d (.int _ l)) => match hi with
    | none => .need ((0 ≤ l ∧ l ≤ s.length) ∧ ∀ x ∈ s, x.width = n) (.ret (.d (.sl (s.drop l.toNat))) ws)
    | some (.d (.int _ h)) => .need ((0 ≤ l ∧ l ≤ h ∧ h ≤ s.length) ∧ ∀ x ∈ s, x.width = n) (.ret (.d (.sl ((s.take h.toNat).drop l.toNat))) ws)
    | _ => .fail
  | _ => .fail

def evO (ρ : Operand → AV) : Option Operand → Option AV
  | none => none
  | some o => some (ρ o)

def natEq : Nat → Nat → Bool := Nat.beq

def fieldAt (T f : Nat) : Option (Nat × Nat) :=
  match TT.get T with
  | some i => match i.desc with
    | .struct fs => match fs[f]? with
      | some (off, ty) => match sz TT ty with
        | some (n + 1) => some (off, n + 1)
        | _ => none
      | none => none
    | _ => none
  | none => none
def fieldTy (T f : Nat) : Option Nat :=
  match TT.get T with
  | some i => match i.desc with
    | .struct fs => match fs[f]? with | some (_, ty) => some ty | none => none
    | _ => none
  | none => none
def elemTy (T : Nat) : Option Nat :=
  match TT.get T with
  | some i => match i.desc with | .slice e => some e | _ => none
  | none => none

/-- A value of type T, of these cells (so many T has). -/
def asTy (T : Nat) (cs : List AV) (k : AV → Eff) : Eff :=
  match isAgg TT T with
  | some true => mkAgg cs k
  | some false => match cs with
    | [c] => k c
    | _ => .fail
  | none => .fail
def dAsTy (T : Nat) (cs : List DV) (k : AV → Eff) : Eff :=
  match isAgg TT T with
  | some true => k (.d (.agg cs))
  | some false => match cs with
    | [c] => k (.d c)
    | _ => .fail
  | none => .fail
def partAtom (T : Nat) (x : DV) (j : Nat) (k : AV → Eff) : Eff :=
  match j with
  | 0 => match isAgg TT T with
    | some false => k (.d x)
    | _ => .fail
  | _ + 1 => .fail
/-- Part of a datum. -/
def partK (T : Nat) (x : DV) (j : Nat) (k : AV → Eff) : Eff :=
  match sz TT T with
  | some n => match x with
    | .agg cs => subK cs j n .fail fun cs => dAsTy TT T cs k
    | x => partAtom TT T x j k
  | none => .fail

def loadE (ob : Nat → Option Ob) (T : Nat) (p : AV) : Eff :=
  match p with
  | .ptr key off => match ob key with
    | some (.box cs) => match sz TT T with
      | some n => subK cs off n .fail fun cs => asTy TT T cs fun v => .ret v []
      | none => .fail
    | _ => .fail
  | .ep x j => partK TT T x j fun v => .ret v []
  | .lp key i j => match ob key with
    | some (.list _ xs _) => .get xs i fun x => partK TT T x j fun v => .ret v []
    | _ => .fail
  | .clo none key off => match sz TT T with
    | some 1 => match isAgg TT T with
      | some false => .ret (.ptr key off) []
      | _ => .fail
    | _ => .fail
  | _ => .fail

def wsHas (key : Nat) : Ws → Bool
  | [] => false
  | .new n _ :: r => match natEq n key with | true => true | false => wsHas key r
  | .upd n _ :: r => match natEq n key with | true => true | false => wsHas key r
/-- The cells of a datum. -/
def dcellsK (x : DV) (k : List DV → Eff) : Eff :=
  match x with
  | .agg cs => k cs
  | .bool b => k [.bool b]
  | .int a b => k [.int a b]
  | .str s => k [.str s]
  | .sl xs => k [.sl xs]
  | .fn f => k [.fn f]
  | .raw v => k [.raw v]
  | .iface t x => k [.iface t x]
def and2 : Bool → Bool → Bool
  | true, true => true
  | _, _ => false

def storeE (ob : Nat → Option Ob) (T : Nat) (p v : AV) : Eff :=
  match sz TT T with
  | none => .fail
  | some n =>
    match p with
    | .ptr key off => match ob key with
      | some (.box cs) => cellsK v fun vs => match natEq vs.length n with
        | true => setK cs off vs .fail fun cs => .ret .junk [.upd key (.box cs)]
        | false => .fail
      | _ => .fail
    | .lp key i j => match ob key with
      | some (.list k xs true) => sealK ob v fun x ws => match wsHas key ws with
        | true => .fail
        | false => dcellsK x fun cs => match natEq cs.length n with
          | false => .fail
          | true => match and2 (natEq n k) (natEq j 0) with
            | true => .ret .junk (ws ++ [.upd key (.list k (xs.set i x) true)])
            | false => .get xs i fun y => match y with
              | .agg ys => setK ys j cs .fail fun ys => .ret .junk (ws ++ [.upd key (.list k (xs.set i (.agg ys)) true)])
              | _ => .fail
      | _ => .fail
    | _ => .fail

def partsK (ob : Nat → Option Ob) (ρ : Operand → AV) (n : Nat) : List (Nat × Operand) → (List DV → Ws → Eff) → Eff
  | [], k => k [] []
  | (i, o) :: r, k => match natEq i n with
    | true => sealK ob (ρ o) fun x ws => partsK ob ρ (n + 1) r fun xs ws' => k (x :: xs) (ws ++ ws')
    | false => .fail

/-- Where the fields lie. -/
def places : List (Nat × Nat) → Option (List (Nat × Nat))
  | [] => some []
  | (off, ty) :: r => match sz TT ty with
    | some n => match places r with
      | some ps => some ((off, n) :: ps)
      | none => none
    | none => none
/-- The fields of a struct, laid over its zero value. -/
def fillK (ps : List (Nat × Nat)) (ρ : Operand → AV) (cs : List AV) : List (Nat × Operand) → (List AV → Eff) → Eff
  | [], k => k cs
  | (f, o) :: r, k => match ps[f]? with
    | some (off, n) => cellsK (ρ o) fun vs => match natEq vs.length n with
      | true => setK cs off vs .fail fun cs => fillK ps ρ cs r k
      | false => .fail
    | none => .fail

/-- The list that a slice argument says; what must be shown of its elements. -/
def appArg (ob : Nat → Option Ob) (n : Nat) (v : AV) (k : Prop → List DV → Eff) : Eff :=
  match v with
  | .nil _ => k True []
  | .d (.sl ys) => k (∀ y ∈ ys, y.width = n) ys
  | .lst key => match ob key with
    | some (.list a ys _) => match natEq a n with
      | true => k True ys
      | false => .fail
    | _ => .fail
  | _ => .fail

def appendE (ob : Nat → Option Ob) (dst : Nat) (sT : Nat) (s x : AV) : Eff :=
  match elemTy TT sT with
  | none => .fail
  | some e => match TT.get e with
    | none => .fail
    | some ei => match ei.bytes with
     | 0 => .fail
     | _ + 1 => match s with
      | .nil _ => appArg ob ei.size x fun p ys => .need (p ∧ ys.length * ei.bytes ≤ 70368744177664) (.ret (.lst dst) [.new dst (.list ei.size ys true)])
      | .lst key => match ob key with
        | some (.list k xs own) => match natEq k ei.size with
          | true => appArg ob ei.size x fun p ys => .need (p ∧ (xs.length + ys.length) * ei.bytes ≤ 70368744177664)
              (.ret (.lst dst) [.upd key .dead, .new dst (.list ei.size (xs ++ ys) own)])
          | false => .fail
        | _ => .fail
      | _ => .fail

def byteOf : DV → UInt8
  | .int _ n => UInt8.ofNat n.toNat
  | _ => 0
def lenE (T : TD) (ob : Nat → Option Ob) (x : AV) : Eff :=
  match T with
  | .str => match x with
    | .d (.str s) => i1 .i64 s.length
    | _ => .fail
  | .slice _ => match x with
    | .nil _ => i1 .i64 0
    | .d (.sl xs) => i1 .i64 xs.length
    | .lst key => match ob key with
      | some (.list _ xs _) => i1 .i64 xs.length
      | _ => .fail
    | _ => .fail
  | _ => .fail

def udec (s : List UInt8) (pos : Nat) : Nat × Nat := Utf8.decode ⟨s.toArray⟩ pos

/-- Arguments of a call: pointers to boxes become numbers of the objects handed on. -/
def argsK (ob : Nat → Option Ob) (ρ : Operand → AV) (ks : List Nat) : List Operand → (List Nat → List AV → Ws → Eff) → Eff
  | [], k => k ks [] []
  | o :: r, k => match ρ o with
    | .ptr key off => match ks.idxOf? key with
      | some i => argsK ob ρ ks r fun ks vs ws => k ks (.ptr i off :: vs) ws
      | none => outL (ks ++ [key]) fun ks' => argsK ob ρ ks' r fun ks2 vs ws => k ks2 (.ptr ks.length off :: vs) ws
    | .clo c key off => match ks.idxOf? key with
      | some i => argsK ob ρ ks r fun ks vs ws => k ks (.clo c i off :: vs) ws
      | none => outL (ks ++ [key]) fun ks' => argsK ob ρ ks' r fun ks2 vs ws => k ks2 (.clo c ks.length off :: vs) ws
    | v => sealK ob v fun x ws => argsK ob ρ ks r fun ks vs ws' => k ks (.d x :: vs) (ws ++ ws')
def updO (ob : Nat → Option Ob) (n : Nat) (o : Ob) (key : Nat) : Option Ob := match natEq n key with | true => some o | false => ob key
/-- The objects, after changes. -/
def obW (ob : Nat → Option Ob) : Ws → Nat → Option Ob
  | [], key => ob key
  | .new n o :: r, key => obW (updO ob n o) r key
  | .upd n o :: r, key => obW (updO ob n o) r key
/-- The cells of a box as they pass the border; own lists are consumed, each once. -/
def passK (ob : Nat → Option Ob) (us : List Nat) : List AV → (List Nat → List PV → Ws → Eff) → Eff
  | [], k => k us [] []
  | .d x :: r, k => passK ob us r fun us ps ws => k us (.d x :: ps) ws
  | .nil a :: r, k => passK ob us r fun us ps ws => k us (.own a [] true :: ps) ws
  | .lst key :: r, k => match us.idxOf? key with
    | some _ => .fail
    | none => match ob key with
      | some (.list a xs o) => passK ob (key :: us) r fun us ps ws => k us (.own a xs o :: ps) (.upd key .dead :: ws)
      | _ => .fail
  | _, _ => .fail
/-- Cells that come back: own lists get keys from n on. -/
def mapD : List DV → List AV
  | [] => []
  | x :: r => .d x :: mapD r
/-- ck: none: the cells of a box; some none: results beside no box; some (some key): results beside this box. -/
def backK (ck : Option (Option Nat)) (n : Nat) : List PV → (List AV → Ws → Eff) → Eff
  | [], k => k [] []
  | .d x :: r, k => backK ck (n + 1) r fun vs ws => k (.d x :: vs) ws
  | .own a xs o :: r, k => backK ck (n + 1) r fun vs ws => k (.lst n :: vs) (.new n (.list a xs o) :: ws)
  | .clo c off :: r, k => match ck with
    | some (some key) => backK ck (n + 1) r fun vs ws => k (.clo c key off :: vs) ws
    | _ => .fail
  | .new xs :: r, k => match ck with
    | some none => backK ck (n + 1) r fun vs ws => k (.ptr n 0 :: vs) (.new n (.box (mapD xs)) :: ws)
    | _ => .fail
def resK (ck : Option (Option Nat)) (n : Nat) (rs : List PV) (k : AV → Ws → Eff) : Eff :=
  backK ck n rs fun vs ws => match vs with
    | [v] => k v ws
    | _ => k (.tup vs) ws

def callE (ob : Nat → Option Ob) (ρ : Operand → AV) (dst : Nat) (f : FuncId) (args : List Operand) : Eff :=
  argsK ob ρ [] args fun ks vs ws1 => match ks with
    | [] => .call f [] vs fun rs _ => resK (some none) (dst * 1000 + 100900) rs fun v ws4 => .ret v (ws1 ++ ws4)
    | [key] => match obW ob ws1 key with
      | some (.box cs) => passK (obW ob ws1) [] cs fun _ ps ws2 =>
        .call f [ps] vs fun rs os' => match os' with
          | [ps'] => backK none (dst * 1000 + 100000) ps' fun vs' ws3 => resK (some (some key)) (dst * 1000 + 100900) rs fun v ws4 =>
            .ret v (ws1 ++ (ws2 ++ (.upd key (.box vs') :: (ws3 ++ ws4))))
          | _ => .fail
      | _ => .fail
    | _ => .fail
def snocK {α β : Type} (l : List α) (x : α) (k : List α → β) : β :=
  match l with
  | [] => k [x]
  | y :: r => snocK r x fun r => k (y :: r)
/-- A function over a box is called, with data. -/
def callC (ob : Nat → Option Ob) (ρ : Operand → AV) (dst : Nat) (f : FuncId) (key off : Nat) (args : List Operand) : Eff :=
  argsK ob ρ [] args fun ks vs ws1 => match ks with
    | [] => match obW ob ws1 key with
      | some (.box cs) => passK (obW ob ws1) [] cs fun _ ps ws2 => snocK vs (.clo none 0 off) fun vs =>
        .call f [ps] vs fun rs os' => match os' with
          | [ps'] => backK none (dst * 1000 + 100000) ps' fun vs' ws3 => resK (some (some key)) (dst * 1000 + 100900) rs fun v ws4 =>
            .ret v (ws1 ++ (ws2 ++ (.upd key (.box vs') :: (ws3 ++ ws4))))
          | _ => .fail
      | _ => .fail
    | _ => .fail

def opE (ob : Nat → Option Ob) (ρ : Operand → AV) (o : Oper) : Eff :=
  match o.op with
  | .move x => .ret (ρ x) []
  | .assign x => .ret (ρ x) []
  | .pick c a b => match ρ c with
    | .d (.bool c) => .split c (.ret (ρ a) []) (.ret (ρ b) [])
    | _ => .fail
  | .alloc T => match o.dst with
    | some d => match ob d with
      | none => match TT.get T with
        | some i => .ret (.ptr d 0) [.new d (.box i.zero)]
        | none => .fail
      | some _ => .fail
    | none => .fail
  | .box _ x => match o.dst with
    | some d => match ob d with
      | none => cellsK (ρ x) fun cs => .ret (.ptr d 0) [.new d (.box cs)]
      | some _ => .fail
    | none => .fail
  | .build T parts => match TT.get T with
    | some i => match i.desc with
      | .struct fs => match places TT fs with
        | some ps => fillK ps ρ i.zero parts.toList fun cs => mkAgg cs fun v => .ret v []
        | none => .fail
      | _ => .fail
    | none => .fail
  | .buildSlice T len parts => match o.dst with
    | some d => match ob d with
      | none => match elemTy TT T with
        | some e => match sz TT e with
          | some k => match natEq parts.size len with
            | true => match k with
              | 0 => .fail
              | k + 1 => match Nat.ble (len * (k + 1)) 16777216 with
                | true => partsK ob ρ 0 parts.toList fun xs ws => .need (∀ x ∈ xs, x.width = k + 1) (.ret (.lst d) (ws ++ [.new d (.list (k + 1) xs true)]))
                | false => .fail
            | false => .fail
          | none => .fail
        | none => .fail
      | some _ => .fail
    | none => .fail
  | .load T a => loadE TT ob T (ρ a)
  | .store T a x => storeE TT ob T (ρ a) (ρ x)
  | .nilCheck x => match ρ x with
    | .ptr a b => .ret (.ptr a b) []
    | .ep a b => .ret (.ep a b) []
    | .lp a b c => match ob a with
      | some (.list _ _ _) => .ret (.lp a b c) []
      | _ => .fail
    | .d (.fn f) => .ret (.d (.fn f)) []
    | .clo c a b => .ret (.clo c a b) []
    | _ => .fail
  | .binOp op T x y _ => binop TT op T (ρ x) (ρ y)
  | .unOp op _ x => unop op (ρ x)
  | .convert sT dT x => match TT.get sT with
    | some si => match TT.get dT with
      | some i => match si.desc with
        | .int _ => match i.desc with
          | .int k => match ρ x with
            | .d (.int _ n) => i1 k (k.wrap n)
            | _ => .fail
          | _ => .fail
        | .str => match i.desc with
          | .str => match ρ x with
            | .d (.str s) => .ret (.d (.str s)) []
            | _ => .fail
          | _ => .fail
        | .slice e => match i.desc with
          | .str => match TT.get e with
            | some ei => match ei.desc with
              | .int .u8 => appArg ob 1 (ρ x) fun p ys => .need (p ∧ ∀ y ∈ ys, ∃ n, y = .int .u8 n) (.ret (.d (.str (ys.map byteOf))) [])
              | _ => .fail
            | none => .fail
          | _ => .fail
        | _ => .fail
      | none => .fail
    | none => .fail
  | .slice T x lo hi mx => match mx with
    | some _ => .fail
    | none => match TT.get T with
      | some i => match i.desc with
        | .str => match ρ x with
          | .d (.str s) => sliceStr s (evO ρ lo) (evO ρ hi)
          | _ => .fail
        | .slice e => match sz TT e with
          | some n => sealK ob (ρ x) fun x ws => match x with
            | .sl xs => sliceSl n xs ws (evO ρ lo) (evO ρ hi)
            | _ => .fail
          | none => .fail
        | _ => .fail
      | none => .fail
  | .fieldAddr T x f => match fieldAt TT T f with
    | some (off, _) => match ρ x with
      | .ptr key j => .ret (.ptr key (j + off)) []
      | .ep x j => .ret (.ep x (j + off)) []
      | .lp key i j => match ob key with
        | some (.list _ _ _) => .ret (.lp key i (j + off)) []
        | _ => .fail
      | _ => .fail
    | none => .fail
  | .field T x f => match fieldAt TT T f with
    | some (off, n) => match fieldTy TT T f with
      | some ty => match ρ x with
        | .d (.agg cs) => subK cs off n .fail fun cs => dAsTy TT ty cs fun v => .ret v []
        | .agg cs => subK cs off n .fail fun cs => asTy TT ty cs fun v => .ret v []
        | _ => .fail
      | none => .fail
    | none => .fail
  | .indexAddr T x i => match elemTy TT T with
    | some e => match sz TT e with
      | some (k + 1) => match ρ i with
        | .d (.int _ n) => match ρ x with
          | .d (.sl xs) => .idx xs n (k + 1) fun x => .ret (.ep x 0) []
          | .lst key => match ob key with
            | some (.list a xs _) => match natEq a (k + 1) with
              | true => .need (0 ≤ n ∧ n.toNat < xs.length) (.ret (.lp key n.toNat 0) [])
              | false => .fail
            | _ => .fail
          | _ => .fail
        | _ => .fail
      | _ => .fail
    | none => .fail
  | .index T x i => match TT.get T with
    | some ti => match ti.desc with
      | .str => match ρ x with
        | .d (.str s) => match ρ i with
          | .d (.int _ n) => .need (0 ≤ n ∧ n.toNat < s.length) (i1 .u8 ((s.getD n.toNat 0).toNat : Int))
          | _ => .fail
        | _ => .fail
      | _ => .fail
    | none => .fail
  | .range T x => match o.dst with
    | some d => match ob d with
      | none => match TT.get T with
        | some i => match i.desc with
          | .str => match ρ x with
            | .d (.str s) => .ret (.ptr d 0) [.new d (.iter s 0)]
            | _ => .fail
          | _ => .fail
        | none => .fail
      | some _ => .fail
    | none => .fail
  | .next it true => match ρ it with
    | .ptr key 0 => match ob key with
      | some (.iter s pos) => .split (decide (pos < s.length))
          (.ret (.tup [.d (.bool true), .d (.int .i64 pos), .d (.int .i32 (udec s pos).1)]) [.upd key (.iter s (pos + (udec s pos).2))])
          (.ret (.tup [.d (.bool false)]) [])
      | _ => .fail
    | _ => .fail
  | .extract x i => match ρ x with
    | .tup vs => match vs[i]? with
      | some v => .ret v []
      | none => .fail
    | _ => .fail
  | .call c => match o.dst with
    | none => .fail
    | some d => match c.callee with
      | .value f => match ρ f with
        | .d (.fn f) => callE ob ρ d f c.args.toList
        | .clo (some f) key off => callC ob ρ d f key off c.args.toList
        | _ => .fail
      | .builtin b => match b with
        | .len => match c.args.toList with
          | [x] => match c.argTypes.toList with
            | [T] => match TT.get T with
              | some i => lenE i.desc ob (ρ x)
              | none => .fail
            | _ => .fail
          | _ => .fail
        | .append => match c.args.toList with
          | [s, x] => match c.argTypes.toList with
            | [sT, xT] => match natEq sT xT with
              | true => appendE TT ob d sT (ρ s) (ρ x)
              | false => .fail
            | _ => .fail
          | _ => .fail
        | .min => match c.args.toList with
          | [x, y] => match ρ x with
            | .d (.int k a) => match ρ y with
              | .d (.int _ b) => i1 k (if b < a then b else a)
              | _ => .fail
            | _ => .fail
          | _ => .fail
        | .max => match c.args.toList with
          | [x, y] => match ρ x with
            | .d (.int k a) => match ρ y with
              | .d (.int _ b) => i1 k (if a < b then b else a)
              | _ => .fail
            | _ => .fail
          | _ => .fail
        | _ => .fail
      | .invoke _ _ => .fail
  | _ => .fail

end

section
variable (CG : FuncId → List (List PV) → List AV → (List PV → List (List PV) → Prop) → Prop)
def outAV (v : AV) (k : AV → Prop) : Prop :=
  match v with
  | .d x => k (.d x)
  | .nil a => k (.nil a)
  | .ptr a b => k (.ptr a b)
  | .ep a b => k (.ep a b)
  | .lst a => k (.lst a)
  | .lp a b c => k (.lp a b c)
  | .agg cs => k (.agg cs)
  | .tup vs => k (.tup vs)
  | .clo c a b => k (.clo c a b)
  | .junk => k .junk
theorem outAV_eq (v : AV) (k : AV → Prop) : outAV v k = k v := by cases v <;> rfl
/-- By the recursor itself, so that the kernel and the elaborator reduce it alike. -/
def Eff.wp (e : Eff) : (AV → Ws → Prop) → Prop :=
  @Eff.rec (fun _ => (AV → Ws → Prop) → Prop)
    (fun v ws k => outAV v fun v => k v ws)
    (fun p _ ih k => Need p (ih k))
    (fun xs i sz _ ih k => Idx xs i sz fun x => ih x k)
    (fun xs i _ ih k => Get xs i fun x => ih x k)
    (fun b _ _ iht ihe k => Br b (iht k) (ihe k))
    (fun f os args _ ih k => CG f os args fun rs os' => ih rs os' k)
    (fun _ => False) e
def small (n : Nat) : Bool := Nat.ble (n + 2) 16777216
def wsK : Ws → Tr Ob → (Tr Ob → Prop) → Prop
  | [], t, k => k t
  | .new n o :: r, t, k => match t.get n with
    | some _ => False
    | none => match small n with
      | true => Tr.putK 24 t n (some o) fun t => wsK r t k
      | false => False
  | .upd n o :: r, t, k => match small n with
    | true => Tr.putK 24 t n (some o) fun t => wsK r t k
    | false => False
def dstL : List Oper → Nat → Option Nat
  | [], _ => none
  | o :: r, j => match j with | 0 => o.dst | j + 1 => dstL r j
def dstOf (all : Array Oper) (j : Nat) : Option Nat := match all with | ⟨l⟩ => dstL l j
theorem dstL_eq : ∀ (l : List Oper) (j : Nat), dstL l j = match l[j]? with | some o => o.dst | none => none
  | [], _ => by simp [dstL]
  | o :: r, 0 => by simp [dstL]
  | o :: r, j + 1 => by simp [dstL, dstL_eq r j]
theorem dstOf_eq (all : Array Oper) (j : Nat) : dstOf all j = match all[j]? with | some o => o.dst | none => none := by
  obtain ⟨l⟩ := all
  show dstL l j = _
  rw [dstL_eq]; simp
/-- An operation, under its guard. -/
def opG (TT : Tr TI) (all : Array Oper) (ob : Nat → Option Ob) (tm : Tr AV) (o : Oper) : Eff :=
  match o.guard with
  | none => opE TT ob (ev tm) o
  | some (j, want) => match dstOf all j with
    | none => .fail
    | some d => match tm.get d with
      | some (.d (.bool b)) => match want with
        | true => .split b (opE TT ob (ev tm) o) (.ret (.tup []) [])
        | false => .split b (.ret (.tup []) []) (opE TT ob (ev tm) o)
      | some (.tup []) => .ret (.tup []) []
      | _ => .fail
/-- The result of an operation laid into its slot. -/
def putD (n : Nat) (tm : Tr AV) (d : Option Nat) (v : AV) (k : Tr AV → Prop) : Prop :=
  match d with
  | some d => match Nat.blt d n with
    | true => match small d with
      | true => Tr.putK 24 tm d (some v) k
      | false => False
    | false => False
  | none => k tm
def regE (TT : Tr TI) (n : Nat) (all : Array Oper) (l : List Oper) : Tr AV → Tr Ob → (Tr AV → Tr Ob → Prop) → Prop :=
  @List.rec Oper (fun _ => Tr AV → Tr Ob → (Tr AV → Tr Ob → Prop) → Prop)
    (fun tm ob k => k tm ob)
    (fun o _ ih tm ob k => (opG TT all ob.get tm o).wp CG fun v ws => wsK ws ob fun ob => putD n tm o.dst v fun tm => ih tm ob k) l

/-! Regions that draw their order: walked in the text's order; what may stand in another order must have nothing to do with one another. -/
structure CallD (f : FuncId) (os : List (List PV)) (args : List AV) (k : List PV → List (List PV) → Prop) : Prop where
  out : ∃ rs os', CG f os args (fun rs2 os2 => rs2 = rs ∧ os2 = os') ∧ k rs os'
structure GetD (xs : List DV) (i : Nat) (k : DV → Prop) : Prop where
  lt : i < xs.length
  el : ∀ x, xs[i]? = some x → k x
def Eff.dwp (e : Eff) : (AV → Ws → Prop) → Prop :=
  @Eff.rec (fun _ => (AV → Ws → Prop) → Prop)
    (fun v ws k => outAV v fun v => k v ws)
    (fun p _ ih k => Need p (ih k))
    (fun xs i sz _ ih k => Idx xs i sz fun x => ih x k)
    (fun xs i _ ih k => GetD xs i fun x => ih x k)
    (fun b _ _ iht ihe k => Br b (iht k) (ihe k))
    (fun f os args _ ih k => CallD CG f os args fun rs os' => ih rs os' k)
    (fun _ => False) e

/-- The objects that an operand leads to; none: it cannot be told. -/
def akey : AV → Option (List Nat)
  | .lst k => some [k]
  | .ptr k _ => some [k]
  | .lp k _ _ => some [k]
  | .agg _ => none
  | _ => some []
def lkey : AV → Option (List Nat)
  | .lp k _ _ => some [k]
  | _ => some []
def dkey : Option Nat → Option (List Nat)
  | some d => some [d]
  | none => none
def app2 : Option (List Nat) → Option (List Nat) → Option (List Nat)
  | some a, some b => some (a ++ b)
  | _, _ => none
def isData : AV → Bool
  | .d _ => true
  | .nil _ => true
  | _ => false
def allData (ρ : Operand → AV) : List Operand → Bool
  | [] => true
  | o :: r => match isData (ρ o) with | true => allData ρ r | false => false
/-- The boxes to which arguments point, among data. -/
def ptrKeys (ρ : Operand → AV) : List Operand → Option (List Nat)
  | [] => some []
  | o :: r => match ρ o with
    | .d _ => ptrKeys ρ r
    | .nil _ => ptrKeys ρ r
    | .ptr k _ => match ptrKeys ρ r with | some l => some (k :: l) | none => none
    | _ => none
def allDataL : List AV → Bool
  | [] => true
  | v :: r => match isData v with | true => allDataL r | false => false
def boxData (ob : Nat → Option Ob) (key : Nat) : Bool :=
  match ob key with
  | some (.box cs) => allDataL cs
  | _ => false
def boxesData (ob : Nat → Option Ob) : List Nat → Option (List Nat)
  | [] => some []
  | k :: r => match boxData ob k with
    | true => match boxesData ob r with | some l => some (k :: l) | none => none
    | false => none
/-- The objects that an operation looks at; none: any. -/
def touch (ob : Nat → Option Ob) (ρ : Operand → AV) (o : Oper) : Option (List Nat) :=
  match o.op with
  | .move _ => some []
  | .assign _ => some []
  | .pick _ _ _ => some []
  | .binOp _ _ _ _ _ => some []
  | .unOp _ _ _ => some []
  | .extract _ _ => some []
  | .field _ _ _ => some []
  | .index _ _ _ => some []
  | .build _ _ => some []
  | .load _ a => akey (ρ a)
  | .nilCheck x => lkey (ρ x)
  | .fieldAddr _ x _ => lkey (ρ x)
  | .convert _ _ x => akey (ρ x)
  | .indexAddr _ x _ => akey (ρ x)
  | .slice _ x _ _ _ => akey (ρ x)
  | .alloc _ => dkey o.dst
  | .box _ _ => dkey o.dst
  | .buildSlice _ _ ps => match allData ρ (ps.toList.map Prod.snd) with | true => dkey o.dst | false => none
  | .store _ a _ => match ρ a with | .ptr k _ => some [k] | _ => none
  | .call c => match c.callee with
    | .builtin .len => match c.args.toList with | [x] => akey (ρ x) | _ => none
    | .builtin .append => match c.args.toList with | [s, x] => app2 (akey (ρ s)) (akey (ρ x)) | _ => none
    | .builtin .min => some []
    | .builtin .max => some []
    | .value f => match ρ f with
      | .clo _ _ _ => none
      | _ => match ptrKeys ρ c.args.toList with
        | some l => boxesData ob l
        | none => none
    | _ => none
  | _ => none

def Ws.keys : Ws → List Nat
  | [] => []
  | .new n _ :: r => n :: Ws.keys r
  | .upd n _ :: r => n :: Ws.keys r
def noneOf (n : Nat) : List Nat → Bool
  | [] => true
  | m :: r => match natEq n m with | true => false | false => noneOf n r
def apartL : List Nat → List Nat → Bool
  | [], _ => true
  | n :: r, l => match noneOf n l with | true => apartL r l | false => false
/-- What one writes, the other does not look at. -/
def clear1 (wk : List Nat) (t : Option (List Nat)) (wk' : List Nat) : Bool :=
  match wk with
  | [] => true
  | n :: r => match t with
    | none => false
    | some ks => match apartL (n :: r) ks with | true => apartL (n :: r) wk' | false => false
/-- Operation j waits till i is done, by the edges. -/
def waits (all : Array Oper) : Nat → Nat → Nat → Bool
  | 0, _, _ => false
  | m + 1, i, j => match all[j]? with
    | some o => o.after.toList.any fun e => Region.binds .any e && (Nat.beq e.on i || waits all m i e.on)
    | none => false
structure DRec where
  i : Nat
  t : Option (List Nat)
  wk : List Nat
def okPair (all : Array Oper) (a b : DRec) : Bool :=
  match clear1 a.wk b.t b.wk with
  | true => match clear1 b.wk a.t a.wk with
    | true => true
    | false => waits all all.size a.i b.i
  | false => waits all all.size a.i b.i
def okAll (all : Array Oper) (b : DRec) : List DRec → Bool
  | [] => true
  | a :: r => match okPair all a b with | true => okAll all b r | false => false
/-- The slots and the edges are as a region needs it. -/
def drawOk (all : Array Oper) : Bool :=
  (List.range all.size).all fun i => match all[i]? with
    | some o => o.after.toList.all (fun e => !Region.binds .any e || Nat.blt e.on i) && (List.range i).all fun j => match all[j]? with
      | some oj => Oper.apart all oj o || waits all all.size j i
      | none => false
    | none => false
def touchK (t : Option (List Nat)) (k : Option (List Nat) → Prop) : Prop :=
  match t with
  | none => k none
  | some l => outL l fun l => k (some l)
def regD (TT : Tr TI) (n : Nat) (all : Array Oper) (l : List Oper) : Nat → List DRec → Tr AV → Tr Ob → (Tr AV → Tr Ob → Prop) → Prop :=
  @List.rec Oper (fun _ => Nat → List DRec → Tr AV → Tr Ob → (Tr AV → Tr Ob → Prop) → Prop)
    (fun _ _ tm ob k => k tm ob)
    (fun o _ ih i acc tm ob k => (opG TT all ob.get tm o).dwp CG fun v ws => touchK (touch ob.get (ev tm) o) fun t => outL (Ws.keys ws) fun wk =>
      match okAll all ⟨i, t, wk⟩ acc with
      | true => wsK ws ob fun ob => putD n tm o.dst v fun tm => ih (i + 1) (⟨i, t, wk⟩ :: acc) tm ob k
      | false => False) l

inductive Ex where
  | norm | exit (id : Nat) | ret

/-- What remains to be shown of a loop: what holds at each round's head, with a number that falls. -/
structure LoopG (W : Tr AV → Tr Ob → Tr AV → Tr Ob → Prop) (c : Code) (B : Tr AV → Tr Ob → (Ex → Tr AV → Tr Ob → Prop) → Prop) (tm : Tr AV) (ob : Tr Ob) (Q : Ex → Tr AV → Tr Ob → Prop) : Prop where
  out : ∃ (Inv : Nat → Tr AV → Tr Ob → Prop), (∃ m tm' ob', W tm ob tm' ob' ∧ Inv m tm' ob') ∧
    ∀ m tm ob, Inv m tm ob → B tm ob fun e tm' ob' => match e with
      | .norm => ∃ m' tm'' ob'', m' < m ∧ W tm' ob' tm'' ob'' ∧ Inv m' tm'' ob''
      | .exit i => Q (.exit i) tm' ob'
      | .ret => Q .ret tm' ob'

def awp (TT : Tr TI) (W : Tr AV → Tr Ob → Tr AV → Tr Ob → Prop) (n : Nat) (c : Code) : Tr AV → Tr Ob → (Ex → Tr AV → Tr Ob → Prop) → Prop :=
  @Code.rec (fun _ => Tr AV → Tr Ob → (Ex → Tr AV → Tr Ob → Prop) → Prop)
    (fun tm ob Q => Q .norm tm ob)
    (fun _ ops draw tm ob Q => match draw with
      | false => regE CG TT n ops ops.toList tm ob (Q .norm)
      | true => Need (drawOk ops = true) (regD CG TT n ops ops.toList 0 [] tm ob (Q .norm)))
    (fun _ _ iha ihb tm ob Q => iha tm ob fun e tm ob => match e with
      | .norm => ihb tm ob Q
      | .exit i => Q (.exit i) tm ob
      | .ret => Q .ret tm ob)
    (fun c _ _ iha ihb tm ob Q => match ev tm c with
      | .d (.bool x) => Br x (iha tm ob Q) (ihb tm ob Q)
      | _ => False)
    (fun id _ ih tm ob Q => ih tm ob fun e tm ob => match e with
      | .exit i => (match natEq i id with | true => Q .norm tm ob | false => Q (.exit i) tm ob)
      | .norm => Q .norm tm ob
      | .ret => Q .ret tm ob)
    (fun c ih tm ob Q => LoopG W c ih tm ob Q)
    (fun _ _ _ _ _ _ _ _ _ => False)
    (fun id tm ob Q => Q (.exit id) tm ob)
    (fun _ _ _ _ _ => False)
    (fun _ _ _ _ => False)
    (fun _ _ _ _ => False)
    (fun tm ob Q => Q .ret tm ob)
    (fun _ _ _ _ => False) c

/-- Results and the cells of the box, as they leave. -/
def outK (ob : Nat → Option Ob) (us : List Nat) : List AV → (List Nat → List PV → Ws → Prop) → Prop
  | [], k => k us [] []
  | .d x :: r, k => outK ob us r fun us ps ws => k us (.d x :: ps) ws
  | .nil a :: r, k => outK ob us r fun us ps ws => k us (.own a [] true :: ps) ws
  | .lst key :: r, k => match us.idxOf? key with
    | some _ => False
    | none => match ob key with
      | some (.list a xs o) => outK ob (key :: us) r fun us ps ws => k us (.own a xs o :: ps) ws
      | _ => False
  | .agg cs :: r, k => sealP ob us cs fun us xs ws => outK ob us r fun us ps ws' => k us (.d (.agg xs) :: ps) (ws ++ ws')
  | _, _ => False
where
  sealP (ob : Nat → Option Ob) (us : List Nat) : List AV → (List Nat → List DV → Ws → Prop) → Prop
    | [], k => k us [] []
    | .d x :: r, k => sealP ob us r fun us xs ws => k us (x :: xs) ws
    | .nil _ :: r, k => sealP ob us r fun us xs ws => k us (.sl [] :: xs) ws
    | .lst key :: r, k => match us.idxOf? key with
      | some _ => False
      | none => match ob key with
        | some (.list n xs' _) => sealP ob (key :: us) r fun us xs ws => k us (.sl xs' :: xs) (.upd key (.list n xs' false) :: ws)
        | _ => False
    | _, _ => False
end
end Aw

/-
  Aw, part C: how an abstract state is read in the model's memory; contracts.
-/
namespace Aw
open Go Go.RowKit

/-- What is known beside the state: sealed cells; the block of each box; the present value of each own list; who owns a block. -/
structure Gh where
  S : Seal
  B : Nat → Nat
  LV : Nat → Value
  ow : Nat → Option Nat

/-- Sealed cells from a place on hold the cells of x. -/
structure CellsAt (S : Seal) (w : World) (cs : List DV) (b off : Nat) : Prop where
  s : ∀ (i : Nat) (c : DV), cs[i]? = some c → S b (off + i)
  v : ∀ (i : Nat) (c : DV), cs[i]? = some c → ∃ u, w.cell? ⟨b, off + i, none⟩ = some u ∧ DRel S w c u
  a : ∀ c ∈ cs, c.atom = true

/-- A function over a cell; or the pointer to the cell. -/
def cloV (c : Option FuncId) (b o : Nat) : Value :=
  match c with
  | some f => .func (.func f) #[] #[.pointer (some ⟨b, o, none⟩)]
  | none => .pointer (some ⟨b, o, none⟩)
theorem cloV_atom (c : Option FuncId) (b o : Nat) : atomV (cloV c b o) = true := by cases c <;> rfl

inductive ARel (G : Gh) (ob : Nat → Option Ob) (w : World) : AV → Value → Prop where
  | d (x : DV) (v : Value) (h : DRel G.S w x v) : ARel G ob w (.d x) v
  | nil (k : Nat) : ARel G ob w (.nil k) (.slice none 0 0)
  | ptr (key off : Nat) (v : Value) (o : Ob) (ho : ob key = some o) (hv : v = .pointer (some ⟨G.B key, off, none⟩)) : ARel G ob w (.ptr key off) v
  | ep (x : DV) (j b off : Nat) (h : CellsAt G.S w x.cells b off) : ARel G ob w (.ep x j) (.pointer (some ⟨b, off + j, none⟩))
  | lst (key : Nat) (v : Value) (o : Ob) (ho : ob key = some o) (ha : atomV v = true) (hv : ∀ k xs own, o = .list k xs own → v = G.LV key) : ARel G ob w (.lst key) v
  | lp (key i j : Nat) (v : Value) (o : Ob) (ho : ob key = some o)
      (hv : ∀ k xs own, o = .list k xs own → i < xs.length ∧ ∃ b cap, G.LV key = .slice (some ⟨b, 0, none⟩) xs.length cap ∧ v = .pointer (some ⟨b, i * k + j, none⟩)) :
      ARel G ob w (.lp key i j) v
  | agg (cs : List AV) (vs : List Value) (hl : cs.length = vs.length) (hr : ∀ (i : Nat) (c : AV) (v : Value), cs[i]? = some c → vs[i]? = some v → ARel G ob w c v)
      (ha : ∀ v ∈ vs, atomV v = true) : ARel G ob w (.agg cs) (.agg ⟨vs⟩)
  | tup (cs : List AV) (vs : List Value) (hl : cs.length = vs.length) (hr : ∀ (i : Nat) (c : AV) (v : Value), cs[i]? = some c → vs[i]? = some v → ARel G ob w c v) :
      ARel G ob w (.tup cs) (.tuple ⟨vs⟩)
  | clo (c : Option FuncId) (key off b o : Nat) (v : Value) (x : Ob) (ho : ob key = some x) (hs : G.S b o)
      (hc : w.cell? ⟨b, o, none⟩ = some (.pointer (some ⟨G.B key, off, none⟩))) (hv : v = cloV c b o) : ARel G ob w (.clo c key off) v
  | junk (v : Value) : ARel G ob w .junk v

/-- A list of the call's own in its block. -/
structure ListB (S : Seal) (w : World) (k : Nat) (xs : List DV) (own : Bool) (b cap : Nat) : Prop where
  le : xs.length ≤ cap
  wid : ∀ x ∈ xs, x.width = k
  blk : ∃ cells T, w.heap[b]? = some (.cells cells T (0, 0)) ∧ cells.size = cap * k ∧
    (∀ (i : Nat) (c : DV), (flat xs)[i]? = some c → ∃ u, cells[i]? = some u ∧ DRel S w c u)
  atm : ∀ c ∈ flat xs, c.atom = true
  free : ∀ i, xs.length * k ≤ i → i < cap * k → ¬ S b i
  mine : own = true → ∀ i, i < cap * k → ¬ S b i

/-- A local variable's block. -/
structure BoxB (G : Gh) (ob : Nat → Option Ob) (w : World) (cs : List AV) (b : Nat) : Prop where
  blk : ∃ vs T, w.heap[b]? = some (.cells ⟨vs⟩ T (0, 0)) ∧ cs.length = vs.length ∧ (∀ (i : Nat) (c : AV) (v : Value), cs[i]? = some c → vs[i]? = some v → ARel G ob w c v) ∧
    (∀ v ∈ vs, atomV v = true)
  free : ∀ o, ¬ G.S b o

/-- The world of a call, seen from the law's own first world. -/
structure Base (W0 : World) (S : Seal) (w : World) : Prop where
  below : Below W0.heap.size W0 w
  all : ∀ b o, b < W0.heap.size → S b o
  old : ∀ b o, S b o → b < w.heap.size

/-- From one world of a call to a later one; F: the blocks that were handed on to be written. -/
structure Ext (F : Nat → Prop) (S : Seal) (w : World) (S' : Seal) (w' : World) : Prop where
  size : w.heap.size ≤ w'.heap.size
  grow : ∀ b o, S b o → S' b o
  keep : ∀ b o, S b o → w'.cell? ⟨b, o, none⟩ = w.cell? ⟨b, o, none⟩
  frame : ∀ b, b < w.heap.size → ¬ F b → w'.heap[b]? = w.heap[b]? ∧ ∀ o, S' b o → S b o

theorem Ext.refl (F : Nat → Prop) (S : Seal) (w : World) : Ext F S w S w := ⟨Nat.le_refl _, fun _ _ h => h, fun _ _ _ => rfl, fun _ _ _ => ⟨rfl, fun _ h => h⟩⟩
theorem Ext.trans {F F' : Nat → Prop} {S S' S'' : Seal} {w w' w'' : World} (h : Ext F S w S' w') (h' : Ext F' S' w' S'' w'')
    (hF : ∀ b, b < w.heap.size → F' b → F b) : Ext F S w S'' w'' :=
  ⟨Nat.le_trans h.size h'.size, fun b o hs => h'.grow b o (h.grow b o hs), fun b o hs => (h'.keep b o (h.grow b o hs)).trans (h.keep b o hs),
   fun b hb hF' => by
    obtain ⟨h1, h2⟩ := h.frame b hb hF'
    obtain ⟨h3, h4⟩ := h'.frame b (Nat.lt_of_lt_of_le hb h.size) (fun hc => hF' (hF b hb hc))
    exact ⟨h3.trans h1, fun o ho => h2 o (h4 o ho)⟩⟩

/-- One object, in memory. -/
structure KeyOk (G : Gh) (ob : Nat → Option Ob) (w : World) (key : Nat) : Prop where
  box : ∀ cs, ob key = some (.box cs) → G.ow (G.B key) = some key ∧ BoxB G ob w cs (G.B key)
  iter : ∀ s pos, ob key = some (.iter s pos) → G.ow (G.B key) = some key ∧ w.heap[G.B key]? = some (.stringIter ⟨s.toArray⟩ pos)
  list : ∀ k xs own, ob key = some (.list k xs own) → (xs = [] ∧ G.LV key = .slice none 0 0) ∨
    ∃ b cap, G.LV key = .slice (some ⟨b, 0, none⟩) xs.length cap ∧ G.ow b = some key ∧ ListB G.S w k xs own b cap

/-- The state, in memory. -/
structure Good (W0 : World) (G : Gh) (ob : Nat → Option Ob) (w : World) : Prop where
  base : Base W0 G.S w
  own : ∀ b key, G.ow b = some key → W0.heap.size ≤ b ∧ b < w.heap.size
  key : ∀ key, KeyOk G ob w key

/-- What passes the border, in memory. -/
inductive PRel (S : Seal) (w : World) (tgt : Nat → Prop) (mine : Nat → Prop) : PV → Value → Prop where
  | d (x : DV) (v : Value) (h : DRel S w x v) : PRel S w tgt mine (.d x) v
  | nil (k : Nat) (o : Bool) : PRel S w tgt mine (.own k [] o) (.slice none 0 0)
  | own (k : Nat) (xs : List DV) (o : Bool) (b cap : Nat) (hm : mine b) (h : ListB S w k xs o b cap) : PRel S w tgt mine (.own k xs o) (.slice (some ⟨b, 0, none⟩) xs.length cap)
  | clo (c : Option FuncId) (off b o b' : Nat) (v : Value) (ht : tgt b') (hs : S b o) (hc : w.cell? ⟨b, o, none⟩ = some (.pointer (some ⟨b', off, none⟩))) (hv : v = cloV c b o) : PRel S w tgt mine (.clo c off) v
  | new (xs : List DV) (b : Nat) (vs : List Value) (T : TypeId) (hm : mine b) (hf : ∀ o, ¬ S b o) (hb : w.heap[b]? = some (.cells ⟨vs⟩ T (0, 0))) (hl : xs.length = vs.length)
      (hr : ∀ (i : Nat) (c : DV) (v : Value), xs[i]? = some c → vs[i]? = some v → DRel S w c v) (ha : ∀ v ∈ vs, atomV v = true) : PRel S w tgt mine (.new xs) (.pointer (some ⟨b, 0, none⟩))

/-- Objects that pass the border: each box, and each own list in it, has a block of its own. -/
def PassAt (S : Seal) (w : World) (ow : Nat → Option (Nat × Nat)) (os : List (List PV)) (bs : List Nat) : Prop :=
  os.length = bs.length ∧ ∀ (i : Nat) (ps : List PV) (b : Nat), os[i]? = some ps → bs[i]? = some b → ow b = some (i, 0) ∧ (∀ o, ¬ S b o) ∧
    ∃ vs T, w.heap[b]? = some (.cells ⟨vs⟩ T (0, 0)) ∧ ps.length = vs.length ∧ (∀ v ∈ vs, atomV v = true) ∧
      ∀ (j : Nat) (p : PV) (v : Value), ps[j]? = some p → vs[j]? = some v → PRel S w (fun _ => False) (fun b => ow b = some (i, j + 1)) p v

/-- An argument: data, or a pointer to one of the objects. -/
inductive ArgRel (S : Seal) (w : World) (bs : List Nat) : AV → Value → Prop where
  | d (x : DV) (v : Value) (h : DRel S w x v) : ArgRel S w bs (.d x) v
  | ptr (i off b : Nat) (h : bs[i]? = some b) : ArgRel S w bs (.ptr i off) (.pointer (some ⟨b, off, none⟩))
  | clo (c : Option FuncId) (i off b o b' : Nat) (v : Value) (h : bs[i]? = some b') (hs : S b o) (hc : w.cell? ⟨b, o, none⟩ = some (.pointer (some ⟨b', off, none⟩))) (hv : v = cloV c b o) : ArgRel S w bs (.clo c i off) v

def packed (vs : List Value) : Value := match vs with | [v] => v | _ => .tuple ⟨vs⟩

/-- A contract: the call returns, and what it gives back is as R says; it writes nothing but the objects that are handed on. -/
structure CallsA (P : Program) (W0 : World) (f : FuncId) (os : List (List PV)) (args : List AV) (R : List PV → List (List PV) → Prop) : Prop where
  known : ∃ fn, P.funcs[f]? = some fn ∧ fn.body.isNone = false ∧ (fn.name == "runtime.NumGoroutine") = false
  out : ∀ (S : Seal) (w : World) (ow : Nat → Option (Nat × Nat)) (bs : List Nat) (as : List Value), Base W0 S w → PassAt S w ow os bs →
    (∀ b id, ow b = some id → W0.heap.size ≤ b ∧ b < w.heap.size) → as.length = args.length →
    (∀ (i : Nat) (a : AV) (v : Value), args[i]? = some a → as[i]? = some v → ArgRel S w bs a v) →
    Calls P f ⟨as⟩ w fun e w' => ∃ vs rs os' S' ow', e = .returned (packed vs) ∧ R rs os' ∧ Base W0 S' w' ∧ PassAt S' w' ow' os' bs ∧
      (vs.length = rs.length ∧ ∀ (j : Nat) (p : PV) (v : Value), rs[j]? = some p → vs[j]? = some v → PRel S' w' (fun b => bs = [b]) (fun b => ow' b = some (os.length, j + 1)) p v) ∧
      Ext (fun b => ow b ≠ none) S w S' w' ∧ (∀ b id, ow' b = some id → (ow b ≠ none ∨ w.heap.size ≤ b) ∧ b < w'.heap.size)

theorem CallsA.mono {P : Program} {W0 : World} {f : FuncId} {os : List (List PV)} {args : List AV} {R R' : List PV → List (List PV) → Prop}
    (h : CallsA P W0 f os args R) (hr : ∀ rs os', R rs os' → R' rs os') : CallsA P W0 f os args R' :=
  ⟨h.known, fun S w ow bs as h1 h2 h3 h4 h5 => (h.out S w ow bs as h1 h2 h3 h4 h5).mono fun _ _ ⟨vs, rs, os', S', ow', he, hR, hx⟩ => ⟨vs, rs, os', S', ow', he, hr _ _ hR, hx⟩⟩

/-- Where nothing is written: the contract at these results. -/
theorem CallsA.then {P : Program} {W0 : World} {f : FuncId} {args : List AV} {res : List PV} {R : List PV → List (List PV) → Prop}
    (h : CallsA P W0 f [] args fun rs os => rs = res ∧ os = []) (hr : R res []) : CallsA P W0 f [] args R :=
  h.mono fun _ _ ⟨h1, h2⟩ => by subst h1; subst h2; exact hr
end Aw

/-
  Aw, part D: steps of the state in memory: a list sealed, an object made, written, handed on.
-/
namespace Aw
open Go Go.RowKit

/-- How objects may turn without harm to what speaks of them. -/
def Turns (G : Gh) (ob : Nat → Option Ob) (G' : Gh) (ob' : Nat → Option Ob) : Prop :=
  ∀ key o, ob key = some o → ∃ o', ob' key = some o' ∧ G'.B key = G.B key ∧
    ∀ k xs own, o' = .list k xs own → G'.LV key = G.LV key ∧ ∃ xs' own', o = .list k xs' own' ∧ xs'.length = xs.length

theorem CellsAt.mono {S S' : Seal} {w w' : World} (hS : ∀ b o, S b o → S' b o) (hw : ∀ b o, S b o → w'.cell? ⟨b, o, none⟩ = w.cell? ⟨b, o, none⟩)
    {cs : List DV} {b off : Nat} (h : CellsAt S w cs b off) : CellsAt S' w' cs b off :=
  ⟨fun i c hc => hS _ _ (h.s i c hc), fun i c hc => by
    obtain ⟨u, hu, hd⟩ := h.v i c hc
    exact ⟨u, (hw _ _ (h.s i c hc)).trans hu, hd.mono hS hw⟩, h.a⟩

theorem ARel.mono {G G' : Gh} {ob ob' : Nat → Option Ob} {w w' : World} (hS : ∀ b o, G.S b o → G'.S b o)
    (hw : ∀ b o, G.S b o → w'.cell? ⟨b, o, none⟩ = w.cell? ⟨b, o, none⟩) (ht : Turns G ob G' ob') {x : AV} {v : Value} (h : ARel G ob w x v) :
    ARel G' ob' w' x v := by
  induction h with
  | d x v h => exact .d x v (h.mono hS hw)
  | nil k => exact .nil k
  | ptr key off v o ho hv =>
    obtain ⟨o', ho', hB, -⟩ := ht key o ho
    exact .ptr key off v o' ho' (by rw [hB]; exact hv)
  | ep x j b off h => exact .ep x j b off (h.mono hS hw)
  | lst key v o ho ha hv =>
    obtain ⟨o', ho', -, hl⟩ := ht key o ho
    refine .lst key v o' ho' ha fun k xs own e => ?_
    obtain ⟨hL, xs', own', e', -⟩ := hl k xs own e
    rw [hL]; exact hv k xs' own' e'
  | lp key i j v o ho hv =>
    obtain ⟨o', ho', -, hl⟩ := ht key o ho
    refine .lp key i j v o' ho' fun k xs own e => ?_
    obtain ⟨hL, xs', own', e', hlen⟩ := hl k xs own e
    rw [hL, ← hlen]; exact hv k xs' own' e'
  | agg cs vs hl hr ha ih => exact .agg cs vs hl (fun i c v hc hv => ih i c v hc hv) ha
  | tup cs vs hl hr ih => exact .tup cs vs hl (fun i c v hc hv => ih i c v hc hv)
  | clo c key off b o v x ho hs hc hv =>
    obtain ⟨o', ho', hB, -⟩ := ht key x ho
    exact .clo c key off b o v o' ho' (hS _ _ hs) (by rw [hw _ _ hs, hB]; exact hc) hv
  | junk v => exact .junk v

theorem ListB.mono {S S' : Seal} {w w' : World} (hS : ∀ b o, S b o → S' b o) (hw : ∀ b o, S b o → w'.cell? ⟨b, o, none⟩ = w.cell? ⟨b, o, none⟩)
    {k : Nat} {xs : List DV} {own : Bool} {b cap : Nat} (h : ListB S w k xs own b cap) (hb : w'.heap[b]? = w.heap[b]?) (hn : ∀ o, S' b o → S b o) :
    ListB S' w' k xs own b cap :=
  ⟨h.le, h.wid, by
    obtain ⟨cells, T, h1, h2, h4⟩ := h.blk
    exact ⟨cells, T, hb.trans h1, h2, fun i c hc => by obtain ⟨u, hu, hd⟩ := h4 i c hc; exact ⟨u, hu, hd.mono hS hw⟩⟩, h.atm,
   fun i h1 h2 h3 => h.free i h1 h2 (hn _ h3), fun ho i h1 h2 => h.mine ho i h1 (hn _ h2)⟩

/-- A step of the state. -/
structure Step (W0 : World) (G : Gh) (ob : Nat → Option Ob) (w : World) (G' : Gh) (ob' : Nat → Option Ob) (w' : World) : Prop where
  good : Good W0 G' ob' w'
  turns : Turns G ob G' ob'
  ext : Ext (fun b => G.ow b ≠ none) G.S w G'.S w'
  mine : ∀ b, G'.ow b ≠ none → G.ow b ≠ none ∨ w.heap.size ≤ b

theorem Step.mono {W0 : World} {G G' : Gh} {ob ob' : Nat → Option Ob} {w w' : World} (h : Step W0 G ob w G' ob' w') {x : AV} {v : Value} (hx : ARel G ob w x v) : ARel G' ob' w' x v :=
  hx.mono h.ext.grow h.ext.keep h.turns
theorem Step.dmono {W0 : World} {G G' : Gh} {ob ob' : Nat → Option Ob} {w w' : World} (h : Step W0 G ob w G' ob' w') {x : DV} {v : Value} (hx : DRel G.S w x v) : DRel G'.S w' x v :=
  hx.mono h.ext.grow h.ext.keep
theorem Turns.refl (G : Gh) (ob : Nat → Option Ob) : Turns G ob G ob := fun _ o ho => ⟨o, ho, rfl, fun _ xs own e => ⟨rfl, xs, own, e, rfl⟩⟩
theorem Turns.trans {G G' G'' : Gh} {ob ob' ob'' : Nat → Option Ob} (h : Turns G ob G' ob') (h' : Turns G' ob' G'' ob'') : Turns G ob G'' ob'' := by
  intro key o ho
  obtain ⟨o1, h1, hB1, hl1⟩ := h key o ho
  obtain ⟨o2, h2, hB2, hl2⟩ := h' key o1 h1
  refine ⟨o2, h2, hB2.trans hB1, fun k xs own e => ?_⟩
  obtain ⟨hL2, xs1, own1, e1, hlen1⟩ := hl2 k xs own e
  obtain ⟨hL1, xs0, own0, e0, hlen0⟩ := hl1 k xs1 own1 e1
  exact ⟨hL2.trans hL1, xs0, own0, e0, hlen0.trans hlen1⟩
theorem Step.refl {W0 : World} {G : Gh} {ob : Nat → Option Ob} {w : World} (h : Good W0 G ob w) : Step W0 G ob w G ob w :=
  ⟨h, .refl _ _, .refl _ _ _, fun _ hb => .inl hb⟩
theorem Step.trans {W0 : World} {G G' G'' : Gh} {ob ob' ob'' : Nat → Option Ob} {w w' w'' : World} (h : Step W0 G ob w G' ob' w') (h' : Step W0 G' ob' w' G'' ob'' w'') :
    Step W0 G ob w G'' ob'' w'' :=
  ⟨h'.good, h.turns.trans h'.turns, h.ext.trans h'.ext (fun b hb hF => (h.mine b hF).resolve_right (by omega)), fun b hb => by
    rcases h'.mine b hb with h1 | h1
    · exact h.mine b h1
    · exact .inr (Nat.le_trans h.ext.size h1)⟩

/-- Objects whose key is not in K are as they were; those in K must be shown. -/
theorem Good.transfer {W0 : World} {G G' : Gh} {ob ob' : Nat → Option Ob} {w w' : World} (hG : Good W0 G ob w) (K : Nat → Prop) (hbase : Base W0 G'.S w')
    (hS : ∀ b o, G.S b o → G'.S b o) (hw : ∀ b o, G.S b o → w'.cell? ⟨b, o, none⟩ = w.cell? ⟨b, o, none⟩) (ht : Turns G ob G' ob')
    (hown : ∀ b key, G'.ow b = some key → W0.heap.size ≤ b ∧ b < w'.heap.size)
    (hsame : ∀ key, ¬ K key → ob' key = ob key ∧ G'.B key = G.B key ∧ G'.LV key = G.LV key)
    (hblk : ∀ b key, ¬ K key → G.ow b = some key → G'.ow b = some key ∧ w'.heap[b]? = w.heap[b]? ∧ ∀ o, G'.S b o → G.S b o)
    (hnew : ∀ key, K key → KeyOk G' ob' w' key) : Good W0 G' ob' w' := by
  refine ⟨hbase, hown, fun key => ?_⟩
  by_cases hk : K key
  · exact hnew key hk
  · obtain ⟨ho, hB, hL⟩ := hsame key hk
    refine ⟨fun cs h => ?_, fun s pos h => ?_, fun k xs own h => ?_⟩
    · obtain ⟨h1, ⟨vs, T, h2, h3, h4, h5⟩, h6⟩ := (hG.key key).box cs (ho ▸ h)
      obtain ⟨b1, b2, b3⟩ := hblk _ key hk h1
      rw [hB]
      exact ⟨b1, ⟨vs, T, b2.trans h2, h3, fun i c v hc hv => (h4 i c v hc hv).mono hS hw ht, h5⟩, fun o hc => h6 o (b3 o hc)⟩
    · obtain ⟨h1, h2⟩ := (hG.key key).iter s pos (ho ▸ h)
      obtain ⟨b1, b2, b3⟩ := hblk _ key hk h1
      rw [hB]
      exact ⟨b1, b2.trans h2⟩
    · rcases (hG.key key).list k xs own (ho ▸ h) with h1 | ⟨b, cap, h1, h2, h3⟩
      · exact .inl (by rw [hL]; exact h1)
      · obtain ⟨b1, b2, b3⟩ := hblk _ key hk h2
        exact   .inr ⟨b, cap, by rw [hL]; exact h1, b1, h3.mono hS hw b2 b3⟩

theorem cell?_of_cells {w : World} {b o : Nat} {cells : Array Value} {T : TypeId} {fr : Nat × Nat} (h : w.heap[b]? = some (.cells cells T fr)) :
    w.cell? ⟨b, o, none⟩ = cells[o]? := by simp [World.cell?, h]

theorem natEq_true {a b : Nat} (h : natEq a b = true) : a = b := Nat.eq_of_beq_eq_true h
theorem natEq_self (a : Nat) : natEq a a = true := by simp [natEq]
theorem natEq_ne {a b : Nat} (h : b ≠ a) : natEq a b = false := by
  cases hh : natEq a b with
  | true => exact absurd (natEq_true hh).symm h
  | false => rfl
theorem updO_self (ob : Nat → Option Ob) (n : Nat) (o : Ob) : updO ob n o n = some o := by simp [updO, natEq]
theorem updO_ne (ob : Nat → Option Ob) {n key : Nat} (o : Ob) (h : key ≠ n) : updO ob n o key = ob key := by
  simp [updO, natEq_ne h]

/-- An own list is sealed: it is data from now on. -/
theorem seal_step {W0 : World} {G : Gh} {ob : Nat → Option Ob} {w : World} (hG : Good W0 G ob w) {key k : Nat} {xs : List DV} {own : Bool}
    (ho : ob key = some (.list k xs own)) : ∃ G', Step W0 G ob w G' (updO ob key (.list k xs false)) w ∧ DRel G'.S w (.sl xs) (G.LV key) ∧ G'.LV = G.LV ∧ G'.B = G.B ∧ G'.ow = G.ow := by
  have hT : ∀ S', Turns G ob { G with S := S' } (updO ob key (.list k xs false)) := by
    intro S' key' o' h'
    by_cases e : key' = key
    · subst e
      rw [ho] at h'; cases h'
      refine ⟨_, updO_self _ _ _, rfl, fun k' xs' own' e => ?_⟩
      cases e
      exact ⟨rfl, xs, own, rfl, rfl⟩
    · exact ⟨o', by rw [updO_ne _ _ e]; exact h', rfl, fun k' xs' own' e => ⟨rfl, xs', own', e, rfl⟩⟩
  rcases (hG.key key).list k xs own ho with ⟨h1, h2⟩ | ⟨b, cap, h1, h2, h3⟩
  · subst h1
    refine ⟨{ G with S := G.S }, ⟨?_, hT G.S, .refl _ _ _, fun _ hb => .inl hb⟩, by rw [h2]; exact .nilsl, rfl, rfl, rfl⟩
    refine hG.transfer (fun key' => key' = key) hG.base (fun _ _ h => h) (fun _ _ _ => rfl) (hT _) hG.own (fun key' hk => ⟨updO_ne _ _ hk, rfl, rfl⟩)
      (fun _ _ _ h => ⟨h, rfl, fun _ h => h⟩) ?_
    intro key' e
    subst e
    refine ⟨fun cs h => ?_, fun s pos h => ?_, fun k' xs' own' h => ?_⟩ <;> rw [updO_self] at h <;> cases h
    exact .inl ⟨rfl, h2⟩
  · let S' : Seal := fun b' o' => G.S b' o' ∨ (b' = b ∧ o' < xs.length * k)
    obtain ⟨cells, T, hb1, hb2, hb4⟩ := h3.blk
    have hb : b < w.heap.size := (hG.own _ _ h2).2
    have hbase : Base W0 S' w := ⟨hG.base.below, fun b' o' h => .inl (hG.base.all b' o' h), fun b' o' h => by
      rcases h with h | ⟨rfl, -⟩
      · exact hG.base.old b' o' h
      · exact hb⟩
    have hfl := flat_length h3.wid
    refine ⟨{ G with S := S' }, ⟨?_, hT S', ⟨Nat.le_refl _, fun _ _ h => .inl h, fun _ _ _ => rfl, ?_⟩, fun _ hb => .inl hb⟩, ?_, rfl, rfl, rfl⟩
    · refine hG.transfer (fun key' => key' = key) hbase (fun _ _ h => .inl h) (fun _ _ _ => rfl) (hT _) hG.own (fun key' hk => ⟨updO_ne _ _ hk, rfl, rfl⟩) ?_ ?_
      · intro b' key' hk h'
        refine ⟨h', rfl, fun o h => ?_⟩
        rcases h with h | ⟨rfl, -⟩
        · exact h
        · rw [h2] at h'; cases h'; exact absurd rfl hk
      · intro key' e
        subst e
        refine ⟨fun cs h => ?_, fun s pos h => ?_, fun k' xs' own' h => ?_⟩ <;> rw [updO_self] at h <;> cases h
        refine .inr ⟨b, cap, h1, h2, h3.le, h3.wid, ⟨cells, T, hb1, hb2, fun i c hc => ?_⟩, h3.atm, fun i hi1 hi2 h => ?_, fun h => by cases h⟩
        · obtain ⟨u, hu, hd⟩ := hb4 i c hc
          exact ⟨u, hu, hd.mono (fun _ _ h => .inl h) (fun _ _ _ => rfl)⟩
        · rcases h with h | ⟨-, h⟩
          · exact h3.free i hi1 hi2 h
          · omega
    · intro b' hb' hF
      refine ⟨rfl, fun o h => ?_⟩
      rcases h with h | ⟨rfl, -⟩
      · exact h
      · exact absurd (by rw [h2]; simp) hF
    · rw [h1]
      have hi : ∀ (i : Nat) (c : DV), (flat xs)[i]? = some c → i < xs.length * k := fun i c hc => by
        rw [← hfl]; exact (List.getElem?_eq_some_iff.1 hc).1
      refine .sl xs b 0 cap k (fun i => (cells[i]?).getD undef) h3.wid h3.le (fun i c hc => .inr ⟨rfl, by have := hi i c hc; omega⟩) (fun i c hc => ?_) (fun i c hc => ?_) h3.atm
      · obtain ⟨u, hu, hd⟩ := hb4 i c hc
        rw [cell?_of_cells hb1, Nat.zero_add, hu]; rfl
      · obtain ⟨u, hu, hd⟩ := hb4 i c hc
        rw [hu]; exact hd.mono (fun _ _ h => .inl h) (fun _ _ _ => rfl)
end Aw
namespace Aw
open Go Go.RowKit

theorem heap_alloc_self (w : World) (o : Obj) : (w.alloc o).heap[w.heap.size]? = some o := by
  show (w.heap.push o)[w.heap.size]? = _; simp
theorem heap_alloc_old (w : World) (o : Obj) {b : Nat} (h : b < w.heap.size) : (w.alloc o).heap[b]? = w.heap[b]? := Below.heap_alloc w o b h
theorem heap_alloc_size (w : World) (o : Obj) : (w.alloc o).heap.size = w.heap.size + 1 := by
  show (w.heap.push o).size = _; simp
theorem cell?_alloc_old (w : World) (o : Obj) {b : Nat} (h : b < w.heap.size) (i : Nat) : (w.alloc o).cell? ⟨b, i, none⟩ = w.cell? ⟨b, i, none⟩ :=
  World.cell?_of_block (w := w) (heap_alloc_old w o h)

theorem Turns.new {G G' : Gh} {ob : Nat → Option Ob} {d : Nat} (hd : ob d = none) (o' : Ob) (hB : ∀ key, key ≠ d → G'.B key = G.B key) (hL : ∀ key, key ≠ d → G'.LV key = G.LV key) :
    Turns G ob G' (updO ob d o') := by
  intro key o h
  have hne : key ≠ d := fun e => by rw [e, hd] at h; cases h
  exact ⟨o, by rw [updO_ne _ _ hne]; exact h, hB key hne, fun k xs own e => ⟨hL key hne, xs, own, e, rfl⟩⟩

/-- A new block of the call's own. -/
theorem alloc_step {W0 : World} {G : Gh} {ob : Nat → Option Ob} {w : World} (hG : Good W0 G ob w) {d : Nat} (hd : ob d = none) (o : Obj) (o' : Ob) (v : Value)
    (hK : ∀ G' : Gh, G'.S = G.S → G'.B d = w.heap.size → G'.LV d = v → G'.ow w.heap.size = some d →
      (∀ x u, ARel G ob w x u → ARel G' (updO ob d o') (w.alloc o) x u) → (∀ x u, DRel G.S w x u → DRel G.S (w.alloc o) x u) → KeyOk G' (updO ob d o') (w.alloc o) d) :
    ∃ G', Step W0 G ob w G' (updO ob d o') (w.alloc o) ∧ G'.S = G.S ∧ G'.B d = w.heap.size ∧ G'.LV d = v := by
  let G' : Gh := { S := G.S, B := fun key => if key = d then w.heap.size else G.B key, LV := fun key => if key = d then v else G.LV key, ow := fun b => if b = w.heap.size then some d else G.ow b }
  have hw : ∀ b o, G.S b o → (w.alloc (o := ‹Obj›)).cell? ⟨b, o, none⟩ = w.cell? ⟨b, o, none⟩ := fun b i h => cell?_alloc_old w _ (hG.base.old b i h) i
  have hT : Turns G ob G' (updO ob d o') := .new hd o' (fun key h => by simp [G', h]) (fun key h => by simp [G', h])
  refine ⟨G', ⟨?_, hT, ⟨by rw [heap_alloc_size]; omega, fun _ _ h => h, hw, fun b hb _ => ⟨heap_alloc_old w o hb, fun _ h => h⟩⟩, ?_⟩, rfl, by simp [G'], by simp [G']⟩
  · refine hG.transfer (fun key => key = d) ⟨hG.base.below.alloc hG.base.below.size o, hG.base.all, fun b i h => by rw [heap_alloc_size]; have := hG.base.old b i h; omega⟩
      (fun _ _ h => h) hw hT ?_ (fun key hk => ⟨updO_ne _ _ hk, by simp [G', hk], by simp [G', hk]⟩) ?_ ?_
    · intro b key h
      rw [heap_alloc_size]
      by_cases hb : b = w.heap.size
      · have := hG.base.below.size; omega
      · have := hG.own b key (by simpa [G', hb] using h); omega
    · intro b key hk h
      have hb := (hG.own b key h).2
      exact ⟨by simp [G', Nat.ne_of_lt hb, h], heap_alloc_old w o hb, fun _ h => h⟩
    · intro key e
      subst e
      exact hK G' rfl (by simp [G']) (by simp [G']) (by simp [G']) (fun x u h => ARel.mono (G := G) (G' := G') (ob := ob) (fun _ _ h => h) hw hT h) (fun x u h => h.mono (fun _ _ h => h) hw)
  · intro b hb
    by_cases hb' : b = w.heap.size
    · exact .inr (by omega)
    · exact .inl (by simpa [G', hb'] using hb)

/-- A new local variable. -/
theorem box_step {W0 : World} {G : Gh} {ob : Nat → Option Ob} {w : World} (hG : Good W0 G ob w) {d : Nat} (hd : ob d = none) (cs : List AV) (vs : List Value) (T : TypeId)
    (hl : cs.length = vs.length) (hr : ∀ (i : Nat) (c : AV) (v : Value), cs[i]? = some c → vs[i]? = some v → ARel G ob w c v) (ha : ∀ v ∈ vs, atomV v = true) :
    ∃ G', Step W0 G ob w G' (updO ob d (.box cs)) (w.alloc (.cells ⟨vs⟩ T)) ∧ ARel G' (updO ob d (.box cs)) (w.alloc (.cells ⟨vs⟩ T)) (.ptr d 0) (.pointer (some ⟨w.heap.size, 0, none⟩)) := by
  obtain ⟨G', h1, h2, h3, h4⟩ := alloc_step hG hd (.cells ⟨vs⟩ T) (.box cs) undef (fun G' hS hB hL how hm hdm => by
    refine ⟨fun cs' h => ?_, fun s pos h => ?_, fun k' xs' own' h => ?_⟩ <;> rw [updO_self] at h <;> cases h
    rw [hB]
    refine ⟨how, ⟨vs, T, heap_alloc_self _ _, hl, fun i c v hc hv => hm c v (hr i c v hc hv), ha⟩, fun o hc => ?_⟩
    rw [hS] at hc
    exact absurd (hG.base.old _ _ hc) (by omega))
  exact ⟨G', h1, .ptr d 0 _ (.box cs) (updO_self _ _ _) (by rw [h3])⟩

/-- A new walk over a string. -/
theorem iter_step {W0 : World} {G : Gh} {ob : Nat → Option Ob} {w : World} (hG : Good W0 G ob w) {d : Nat} (hd : ob d = none) (s : List UInt8) :
    ∃ G', Step W0 G ob w G' (updO ob d (.iter s 0)) (w.alloc (.stringIter ⟨s.toArray⟩ 0)) ∧
      ARel G' (updO ob d (.iter s 0)) (w.alloc (.stringIter ⟨s.toArray⟩ 0)) (.ptr d 0) (.pointer (some ⟨w.heap.size, 0, none⟩)) := by
  obtain ⟨G', h1, h2, h3, h4⟩ := alloc_step hG hd (.stringIter ⟨s.toArray⟩ 0) (.iter s 0) undef (fun G' hS hB hL how hm hdm => by
    refine ⟨fun cs' h => ?_, fun s pos h => ?_, fun k' xs' own' h => ?_⟩ <;> rw [updO_self] at h <;> cases h
    rw [hB]
    exact ⟨how, heap_alloc_self _ _⟩)
  exact ⟨G', h1, .ptr d 0 _ (.iter s 0) (updO_self _ _ _) (by rw [h3])⟩

/-- A new list, in a block of its own (with room to spare). -/
theorem list_step {W0 : World} {G : Gh} {ob : Nat → Option Ob} {w : World} (hG : Good W0 G ob w) {d : Nat} (hd : ob d = none) (k : Nat) (xs : List DV) (own : Bool) (cells : Array Value) (T : TypeId) (cap : Nat)
    (hc : xs.length ≤ cap) (hk : ∀ x ∈ xs, x.width = k) (hn : cells.size = cap * k) (ha : ∀ c ∈ flat xs, c.atom = true)
    (hr : ∀ (i : Nat) (c : DV), (flat xs)[i]? = some c → ∃ u, cells[i]? = some u ∧ DRel G.S w c u) :
    ∃ G', Step W0 G ob w G' (updO ob d (.list k xs own)) (w.alloc (.cells cells T)) ∧
      ARel G' (updO ob d (.list k xs own)) (w.alloc (.cells cells T)) (.lst d) (.slice (some ⟨w.heap.size, 0, none⟩) xs.length cap) := by
  obtain ⟨G', h1, h2, h3, h4⟩ := alloc_step hG hd (.cells cells T) (.list k xs own) (.slice (some ⟨w.heap.size, 0, none⟩) xs.length cap) (fun G' hS hB hL how hm hdm => by
    refine ⟨fun cs' h => ?_, fun s pos h => ?_, fun k' xs' own' h => ?_⟩ <;> rw [updO_self] at h <;> cases h
    have hno : ∀ i, ¬ G'.S w.heap.size i := fun i hc => by rw [hS] at hc; exact absurd (hG.base.old _ _ hc) (by omega)
    refine .inr ⟨w.heap.size, cap, hL, how, hc, hk, ⟨cells, T, heap_alloc_self _ _, hn, fun i c hi => ?_⟩, ha, fun i _ _ => hno _, fun _ i _ => hno _⟩
    obtain ⟨u, hu, hd⟩ := hr i c hi
    exact ⟨u, hu, by rw [hS]; exact hdm _ _ hd⟩)
  exact ⟨G', h1, .lst d _ (.list k xs own) (updO_self _ _ _) rfl (fun k' xs' own' e => by cases e; rw [h4])⟩

/-- The nil slice as a list. -/
theorem nil_step {W0 : World} {G : Gh} {ob : Nat → Option Ob} {w : World} (hG : Good W0 G ob w) {d : Nat} (hd : ob d = none) (k : Nat) (own : Bool) :
    ∃ G', Step W0 G ob w G' (updO ob d (.list k [] own)) w ∧ ARel G' (updO ob d (.list k [] own)) w (.lst d) (.slice none 0 0) := by
  let G' : Gh := { G with LV := fun key => if key = d then .slice none 0 0 else G.LV key }
  have hT : Turns G ob G' (updO ob d (.list k [] own)) := .new hd _ (fun key h => rfl) (fun key h => by simp [G', h])
  refine ⟨G', ⟨?_, hT, .refl _ _ _, fun _ hb => .inl hb⟩, .lst d _ (.list k [] own) (updO_self _ _ _) rfl (fun k' xs' own' e => by simp [G'])⟩
  refine hG.transfer (fun key => key = d) hG.base (fun _ _ h => h) (fun _ _ _ => rfl) hT hG.own (fun key hk => ⟨updO_ne _ _ hk, rfl, by simp [G', hk]⟩) (fun _ _ _ h => ⟨h, rfl, fun _ h => h⟩) ?_
  intro key e
  subst e
  refine ⟨fun cs' h => ?_, fun s pos h => ?_, fun k' xs' own' h => ?_⟩ <;> rw [updO_self] at h <;> cases h
  exact .inl ⟨rfl, by simp [G']⟩

/-- A list is given up. -/
theorem dead_step {W0 : World} {G : Gh} {ob : Nat → Option Ob} {w : World} (hG : Good W0 G ob w) {d : Nat} {o : Ob} (hd : ob d = some o) :
    Step W0 G ob w G (updO ob d .dead) w := by
  have hT : Turns G ob G (updO ob d .dead) := by
    intro key o' h
    by_cases e : key = d
    · subst e; exact ⟨.dead, updO_self _ _ _, rfl, fun k xs own e => by cases e⟩
    · exact ⟨o', by rw [updO_ne _ _ e]; exact h, rfl, fun k xs own e => ⟨rfl, xs, own, e, rfl⟩⟩
  refine ⟨?_, hT, .refl _ _ _, fun _ hb => .inl hb⟩
  refine hG.transfer (fun key => key = d) hG.base (fun _ _ h => h) (fun _ _ _ => rfl) hT hG.own (fun key hk => ⟨updO_ne _ _ hk, rfl, rfl⟩) (fun _ _ _ h => ⟨h, rfl, fun _ h => h⟩) ?_
  intro key e
  subst e
  refine ⟨fun cs' h => ?_, fun s pos h => ?_, fun k' xs' own' h => ?_⟩ <;> rw [updO_self] at h <;> cases h

/-- An own block is written where nothing is sealed: its object is another. -/
theorem write_step {W0 : World} {G : Gh} {ob : Nat → Option Ob} {w w' : World} (hG : Good W0 G ob w) {key b : Nat} {o o' : Ob} (ho : ob key = some o) (hb : G.ow b = some key)
    (hsz : w'.heap.size = w.heap.size) (hos : w'.os = w.os) (htape : w'.tape = w.tape) (hout : w'.output = w.output)
    (hother : ∀ b', b' ≠ b → w'.heap[b']? = w.heap[b']?) (hkeep : ∀ i, G.S b i → w'.cell? ⟨b, i, none⟩ = w.cell? ⟨b, i, none⟩)
    (hob : ∀ k xs own, o' = .list k xs own → ∃ xs' own', o = .list k xs' own' ∧ xs'.length = xs.length)
    (hK : (∀ x u, ARel G ob w x u → ARel G (updO ob key o') w' x u) → (∀ x u, DRel G.S w x u → DRel G.S w' x u) → KeyOk G (updO ob key o') w' key) :
    Step W0 G ob w G (updO ob key o') w' := by
  have hT : Turns G ob G (updO ob key o') := by
    intro key' o1 h
    by_cases e : key' = key
    · subst e; rw [ho] at h; cases h; exact ⟨o', updO_self _ _ _, rfl, fun k xs own e => ⟨rfl, hob k xs own e⟩⟩
    · exact ⟨o1, by rw [updO_ne _ _ e]; exact h, rfl, fun k xs own e => ⟨rfl, xs, own, e, rfl⟩⟩
  have hw : ∀ b' i, G.S b' i → w'.cell? ⟨b', i, none⟩ = w.cell? ⟨b', i, none⟩ := by
    intro b' i h
    by_cases e : b' = b
    · subst e; exact hkeep i h
    · exact World.cell?_of_block (w := w) (hother b' e)
  have hb0 := hG.own b key hb
  refine ⟨?_, hT, ⟨by omega, fun _ _ h => h, hw, fun b' hb' hF => ⟨hother b' (fun e => hF (by rw [e, hb]; simp)), fun _ h => h⟩⟩, fun _ hb => .inl hb⟩
  refine hG.transfer (fun key' => key' = key) ⟨hG.base.below.trans ⟨hos, htape, hout, by omega, fun b' hb' => hother b' (by omega)⟩, hG.base.all, fun b' i h => by rw [hsz]; exact hG.base.old b' i h⟩
    (fun _ _ h => h) hw hT (fun b' key' h => by rw [hsz]; exact hG.own b' key' h) (fun key' hk => ⟨updO_ne _ _ hk, rfl, rfl⟩) ?_ ?_
  · intro b' key' hk h
    have : b' ≠ b := fun e => by rw [e, hb] at h; cases h; exact hk rfl
    exact ⟨h, hother b' this, fun _ h => h⟩
  · intro key' e
    subst e
    exact hK (fun x u h => h.mono (fun _ _ h => h) hw hT) (fun x u h => h.mono (fun _ _ h => h) hw)
end Aw

/-
  Aw, part E: the operations that read and write memory, run.
-/
namespace Aw
open Go Go.RowKit

theorem oneCell_of_atomV {v : Value} (h : atomV v = true) : v.oneCell' = true := by cases v <;> first | rfl | simp [atomV] at h

theorem addr_add (b o n : Nat) : (⟨b, o, none⟩ : Addr).add n = ⟨b, o + n, none⟩ := by unfold Addr.add; split <;> simp_all

/-- The cells of sealed memory, as a list. -/
theorem CellsAt.list {S : Seal} {w : World} {cs : List DV} {b off : Nat} (h : CellsAt S w cs b off) :
    ∃ vs : List Value, vs.length = cs.length ∧ (∀ j u, vs[j]? = some u → w.cell? ⟨b, off + j, none⟩ = some u) ∧
      (∀ (j : Nat) (c : DV) (u : Value), cs[j]? = some c → vs[j]? = some u → DRel S w c u) ∧ ∀ u ∈ vs, atomV u = true := by
  induction cs generalizing off with
  | nil => exact ⟨[], rfl, by simp, by simp, by simp⟩
  | cons c cs ih =>
    obtain ⟨u, hu, hd⟩ := h.v 0 c rfl
    obtain ⟨vs, h1, h2, h3, h4⟩ := ih (off := off + 1) ⟨fun i c hc => by have := h.s (i + 1) c (by simpa using hc); rwa [show off + (i + 1) = off + 1 + i by omega] at this,
      fun i c hc => by have := h.v (i + 1) c (by simpa using hc); rwa [show off + (i + 1) = off + 1 + i by omega] at this, fun c hc => h.a c (List.mem_cons_of_mem _ hc)⟩
    refine ⟨u :: vs, by simp [h1], fun j v hv => ?_, fun j c' v hc hv => ?_, fun v hv => ?_⟩
    · cases j with
      | zero => simp at hv; subst hv; exact hu
      | succ j => have := h2 j v (by simpa using hv); rwa [show off + (j + 1) = off + 1 + j by omega]
    · cases j with
      | zero => simp at hc hv; subst hc; subst hv; exact hd
      | succ j => exact h3 j c' v (by simpa using hc) (by simpa using hv)
    · rcases List.mem_cons.1 hv with rfl | hv
      · exact hd.atomV (h.a c (List.mem_cons_self ..))
      · exact h4 v hv

/-- What a slice's datum says of memory. -/
theorem DRel.slice {S : Seal} {w : World} {xs : List DV} {v : Value} (h : DRel S w (.sl xs) v) :
    (xs = [] ∧ v = .slice none 0 0) ∨ (∃ a, xs = [] ∧ v = .slice (some a) 0 0) ∨ ∃ b off cap k, v = .slice (some ⟨b, off, none⟩) xs.length cap ∧ xs.length ≤ cap ∧ (∀ x ∈ xs, x.width = k) ∧ CellsAt S w (flat xs) b off := by
  cases h with
  | nilsl => exact .inl ⟨rfl, rfl⟩
  | emp a => exact .inr (.inl ⟨a, rfl, rfl⟩)
  | sl xs b off cap k val hk hc hs hv hr ha => exact .inr (.inr ⟨b, off, cap, k, rfl, hc, hk, hs, fun i c hi => ⟨_, hv i c hi, hr i c hi⟩, ha⟩)

/-- The cells of an own list's block. -/
theorem ListB.list {S : Seal} {w : World} {k : Nat} {xs : List DV} {own : Bool} {b cap : Nat} (h : ListB S w k xs own b cap) :
    ∃ vs : List Value, vs.length = xs.length * k ∧ (∀ j u, vs[j]? = some u → w.cell? ⟨b, j, none⟩ = some u) ∧
      (∀ (j : Nat) (c : DV) (u : Value), (flat xs)[j]? = some c → vs[j]? = some u → DRel S w c u) ∧ ∀ u ∈ vs, atomV u = true := by
  obtain ⟨cells, T, h1, h2, h3⟩ := h.blk
  have hfl := flat_length h.wid
  have hle : xs.length * k ≤ cap * k := Nat.mul_le_mul_right _ h.le
  refine ⟨cells.toList.take (xs.length * k), by rw [List.length_take, Array.length_toList (xs := cells), h2]; omega, fun j u hu => ?_, fun j c u hc hu => ?_, fun u hu => ?_⟩
  · rw [cell?_of_cells h1]
    have hj : j < xs.length * k := by have := (List.getElem?_eq_some_iff.1 hu).1; simp at this; omega
    rw [List.getElem?_take_of_lt hj] at hu
    simpa using hu
  · have hj : j < xs.length * k := by have := (List.getElem?_eq_some_iff.1 hu).1; simp at this; omega
    rw [List.getElem?_take_of_lt hj] at hu
    obtain ⟨u', hu', hd⟩ := h3 j c hc
    have : u = u' := by simpa [hu'] using hu.symm
    rw [this]; exact hd
  · obtain ⟨j, hj⟩ := List.getElem?_of_mem hu
    have hlt : j < xs.length * k := by have := (List.getElem?_eq_some_iff.1 hj).1; simp at this; omega
    rw [List.getElem?_take_of_lt hlt] at hj
    have hc : j < (flat xs).length := by omega
    obtain ⟨u', hu', hd⟩ := h3 j _ (List.getElem?_eq_getElem hc)
    have : u = u' := by simpa [hu'] using hj.symm
    rw [this]; exact hd.atomV (h.atm _ (List.getElem_mem _))

section
variable {P : Program}
/-- The value of a slice whose n elements (of 'size' cells each) are these values. -/
def Reads (w : World) (v : Value) (n size : Nat) (vs : List Value) : Prop :=
  vs.length = n * size ∧ ∃ a c, v = .slice a n c ∧ ((a = none ∧ c = 0 ∧ n = 0 ∧ vs = []) ∨ ∃ a', a = some a' ∧ n ≤ c ∧ ∀ j u, vs[j]? = some u → w.cell? (a'.add j) = some u)
theorem run_firstCells_reads {w : World} {v : Value} {n size : Nat} {vs : List Value} (h : Reads w v n size vs) : (Builtin.firstCells size n v).run P w = .ok vs.toArray w := by
  obtain ⟨hl, a, c, rfl, ⟨rfl, -, -, rfl⟩ | ⟨a', rfl, -, h⟩⟩ := h
  · exact run_firstCells_none ..
  · exact run_firstCells_some (P := P) w size n a' n c vs hl h
theorem run_lenOf_reads {w : World} {v : Value} {n size : Nat} {vs : List Value} (h : Reads w v n size vs) (w' : World) : (Builtin.lenOf v).run P w' = .ok n w' := by
  obtain ⟨hl, a, c, rfl, -⟩ := h
  rfl
theorem Reads.drew {w : World} {v : Value} {n size : Nat} {vs : List Value} (h : Reads w v n size vs) : Reads w.drew v n size vs := h

/-- append, where there is room. -/
theorem run_append_room' (w : World) (t ty e : TypeId) (i : TypeInfo) (ht : P.underlying t = some (.slice e)) (hi : P.info? e = some i)
    (g sLen sCap : Nat) (T : TypeId) (cur : Array Value) (hg : w.heap[g]? = some (.cells cur T (0, 0)))
    (x : Value) (m : Nat) (news : List Value) (hx : Reads w x m i.size news) (h1 : ∀ u ∈ news, u.oneCell' = true)
    (hroom : sLen + m ≤ sCap) (hfit : sLen * i.size + news.length ≤ cur.size) :
    (Builtin.append_ #[t, t] ty #[.slice (some ⟨g, 0, none⟩) sLen sCap, x]).run P w =
      .ok (.slice (some ⟨g, 0, none⟩) (sLen + m) sCap) (w.setRow g (cur.toList.take (sLen * i.size) ++ news ++ cur.toList.drop (sLen * i.size + news.length)).toArray) := by
  have hst := run_storeCells_at P g (sLen * i.size) T news 0 cur w hg (by simpa using hfit) h1
  simp only [Nat.add_zero] at hst
  simp [Builtin.append_, run_underlying ht, Go.sizeOf, typeInfo, hi, run_lenOf_reads hx, hroom, run_firstCells_reads hx, Addr.add_lit, hst]

/-- append, where a new array is made. -/
theorem run_append_new' (w : World) (t ty e : TypeId) (i : TypeInfo) (z : Value) (ht : P.underlying t = some (.slice e)) (hi : P.info? e = some i) (hz : i.zero = some z)
    (a : Option Addr) (sLen sCap : Nat) (olds : List Value) (hs : Reads w (.slice a sLen sCap) sLen i.size olds)
    (x : Value) (m : Nat) (news : List Value) (hx : Reads w x m i.size news)
    (hg : sCap < sLen + m) (h63 : ((sLen + m : Nat) : Int) ≤ 9223372036854775807) (hfit : Builtin.nextslicecap (sLen + m) sCap * i.bytes ≤ 281474976710656) :
    (Builtin.append_ #[t, t] ty #[.slice a sLen sCap, x]).run P w =
      .ok (.slice (some ⟨w.heap.size, 0, none⟩) (sLen + m) (grownCap w (sLen + m) sCap e))
        (w.drew.alloc (.cells (olds.toArray ++ news.toArray ++ Builtin.zeroCells z.cells (grownCap w (sLen + m) sCap e - (sLen + m))) e)) := by
  have hn : ¬ (sLen + m ≤ sCap) := by omega
  have h63' : ¬ (9223372036854775807 < ((sLen : Int) + (m : Int))) := by omega
  have h48' : ¬ (281474976710656 < Builtin.nextslicecap (sLen + m) sCap * i.bytes) := by omega
  have hf := run_firstCells_reads (P := P) hx.drew
  have hfo := run_firstCells_reads (P := P) hs.drew
  simp [Builtin.append_, run_underlying ht, Go.sizeOf, typeInfo, zeroValue, hi, hz, run_lenOf_reads hx, hn, h63', h48', Question.forced, hf, hfo, newRow, grownCap]
  congr 2
  apply Array.ext'
  simp [List.append_assoc]
end
end Aw

/-
  Aw, part F: the table of types; the operations without memory.
-/
namespace Aw
open Go Go.RowKit

def zOk : AV → Value → Bool
  | .d (.bool b), .bool b' => b == b'
  | .d (.int k n), .int k' n' => decide (k = k') && decide (n = n')
  | .d (.str []), .string s => s.size == 0
  | .nil _, .slice none 0 0 => true
  | .d (.raw (.pointer none)), .pointer none => true
  | .d (.raw .nilFunc), .nilFunc => true
  | .d (.raw .nilIface), .nilIface => true
  | .d (.raw (.map none)), .map none => true
  | _, _ => false
theorem zOk_rel {c : AV} {u : Value} (h : zOk c u = true) (G : Gh) (ob : Nat → Option Ob) (w : World) : ARel G ob w c u ∧ atomV u = true := by
  unfold zOk at h
  split at h
  · rename_i b b'
    have e : b = b' := by simpa using h
    subst e; exact ⟨.d _ _ (.bool _), rfl⟩
  · simp at h; obtain ⟨rfl, rfl⟩ := h; exact ⟨.d _ _ (.int _ _), rfl⟩
  · rename_i s
    have hs : s = ⟨#[]⟩ := by
      have h1 : s.size = 0 := by simpa using h
      exact ByteArray.ext (Array.eq_empty_of_size_eq_zero h1)
    subst hs
    exact ⟨.d _ _ (.str []), rfl⟩
  · exact ⟨.nil _, rfl⟩
  · exact ⟨.d _ _ (.raw _ rfl), rfl⟩
  · exact ⟨.d _ _ (.raw _ rfl), rfl⟩
  · exact ⟨.d _ _ (.raw _ rfl), rfl⟩
  · exact ⟨.d _ _ (.raw _ rfl), rfl⟩
  · cases h

def zsOk : List AV → List Value → Bool
  | [], [] => true
  | c :: cs, u :: us => zOk c u && zsOk cs us
  | _, _ => false
theorem zsOk_rel {cs : List AV} {us : List Value} (h : zsOk cs us = true) : cs.length = us.length ∧ (∀ (i : Nat) (c : AV) (u : Value), cs[i]? = some c → us[i]? = some u → zOk c u = true) := by
  induction cs generalizing us with
  | nil => cases us with
    | nil => exact ⟨rfl, by simp⟩
    | cons u us => simp [zsOk] at h
  | cons c cs ih => cases us with
    | nil => simp [zsOk] at h
    | cons u us =>
      simp only [zsOk, Bool.and_eq_true] at h
      obtain ⟨h1, h2⟩ := ih h.2
      refine ⟨by simp [h1], fun i c' u' hc hu => ?_⟩
      cases i with
      | zero => simp at hc hu; subst hc; subst hu; exact h.1
      | succ i => exact h2 i c' u' (by simpa using hc) (by simpa using hu)

def fieldsOk : List (Nat × Nat) → List Field → Bool
  | [], [] => true
  | (off, ty) :: r, f :: fs => natEq f.offset off && natEq f.type ty && fieldsOk r fs
  | _, _ => false
theorem fieldsOk_get {fs : List (Nat × Nat)} {gs : List Field} (h : fieldsOk fs gs = true) {i off ty : Nat} (hi : fs[i]? = some (off, ty)) : ∃ f, gs[i]? = some f ∧ f.offset = off ∧ f.type = ty := by
  induction fs generalizing gs i with
  | nil => simp at hi
  | cons x fs ih => cases gs with
    | nil => cases x; simp [fieldsOk] at h
    | cons g gs =>
      obtain ⟨o, t⟩ := x
      simp only [fieldsOk, Bool.and_eq_true] at h
      cases i with
      | zero => simp at hi; obtain ⟨rfl, rfl⟩ := hi; exact ⟨g, rfl, natEq_true h.1.1, natEq_true h.1.2⟩
      | succ i => exact ih h.2 (by simpa using hi)

def descOk (P : Program) (t : Nat) : TD → Bool
  | .bool => match P.underlying t with | some .bool => true | _ => false
  | .int k => match P.underlying t with | some (.int k') => decide (k = k') | _ => false
  | .str => match P.underlying t with | some .string => true | _ => false
  | .slice e => match P.underlying t with | some (.slice e') => natEq e e' | _ => false
  | .ptr e => match P.underlying t with | some (.pointer e') => natEq e e' | _ => false
  | .struct fs => match P.underlying t with | some (.struct gs) => fieldsOk fs gs.toList | _ => false
  | .iface => match P.underlying t with | some (.interface _) => true | _ => false
  | .func => match P.underlying t with | some (.func _ _ _) => true | _ => false
  | .map k e => match P.underlying t with | some (.map k' e') => natEq k k' && natEq e e' | _ => false
  | .array n e => match P.underlying t with | some (.array n' e') => natEq n n' && natEq e e' | _ => false
  | .other => true
def cmpOk (P : Program) (t : Nat) : Bool := !P.stoodInHeld t && !P.eqGuardType P.depth t && (P.fieldsOf t).toList.all fun f => f.name != "_"
def tiOk (P : Program) (t : Nat) (i : TI) : Bool :=
  match P.info? t with
  | some info => natEq info.size i.size && natEq info.bytes i.bytes && natEq i.zero.length i.size && descOk P t i.desc && (!i.cmp || cmpOk P t) && match info.zero with | some z => zsOk i.zero z.cells.toList | none => false
  | none => false
/-- The table says what the program's own says. -/
structure TOk (P : Program) (TT : Tr TI) : Prop where
  row' : ∀ t i, TT.get t = some i → tiOk P t i = true
  mix : P.follows .mixedOrders = true

def Tr.toL {α : Type} : Tr α → (Nat → Nat) → List (Nat × α)
  | .leaf, _ => []
  | .node l v r, f => (match v with | some x => [(f 0, x)] | none => []) ++ (l.toL (fun n => f (2 * n + 1)) ++ r.toL (fun n => f (2 * n + 2)))
theorem Tr.get_toL {α : Type} : ∀ (t : Tr α) (f : Nat → Nat) (n : Nat) (x : α), t.get n = some x → (f n, x) ∈ t.toL f
  | .leaf, _, _, _, h => by simp [Tr.get] at h
  | .node l v r, f, n, x, h => by
    simp only [Tr.toL]
    cases n with
    | zero =>
      simp only [Tr.get] at h
      subst h
      simp
    | succ m =>
      simp only [Tr.get] at h
      split at h
      · rename_i hm
        have := Tr.get_toL l (fun n => f (2 * n + 1)) (m / 2) x h
        have e : 2 * (m / 2) + 1 = m + 1 := by omega
        simp only [e] at this
        exact List.mem_append_right _ (List.mem_append_left _ this)
      · rename_i hm
        have := Tr.get_toL r (fun n => f (2 * n + 2)) (m / 2) x h
        have hm1 : m % 2 = 1 := by have := Nat.mod_two_eq_zero_or_one m; rcases this with h | h; exact absurd h (by simpa using hm); exact h
        have e : 2 * (m / 2) + 2 = m + 1 := by omega
        simp only [e] at this
        exact List.mem_append_right _ (List.mem_append_right _ this)
theorem TOk.of {P : Program} {TT : Tr TI} (h : ((TT.toL id).all (fun x => tiOk P x.1 x.2) && P.follows .mixedOrders) = true) : TOk P TT :=
  ⟨fun t i hi => List.all_eq_true.1 ((Bool.and_eq_true_iff).1 h).1 _ (Tr.get_toL TT id t i hi), ((Bool.and_eq_true_iff).1 h).2⟩

section
variable {P : Program} {TT : Tr TI} (hT : TOk P TT)
include hT
theorem TOk.row {t : Nat} {i : TI} (h : TT.get t = some i) : ∃ info z, P.info? t = some info ∧ info.size = i.size ∧ info.bytes = i.bytes ∧ descOk P t i.desc = true ∧ info.zero = some z ∧ zsOk i.zero z.cells.toList = true ∧ i.zero.length = i.size := by
  have := hT.row' t i h
  unfold tiOk at this
  split at this
  · rename_i info hi
    simp only [Bool.and_eq_true] at this
    obtain ⟨⟨⟨⟨⟨h1, h2⟩, h5⟩, h3⟩, -⟩, h4⟩ := this
    split at h4
    · rename_i z hz; exact ⟨info, z, hi, natEq_true h1, natEq_true h2, h3, hz, h4, natEq_true h5⟩
    · cases h4
  · cases this
theorem TOk.cmp {t : Nat} {i : TI} (h : TT.get t = some i) (hc : i.cmp = true) : cmpOk P t = true := by
  have := hT.row' t i h
  unfold tiOk at this
  split at this
  · simp only [Bool.and_eq_true, hc, Bool.not_true, Bool.false_or] at this
    exact this.1.2
  · cases this
theorem TOk.sz {t n : Nat} (h : sz TT t = some n) : ∃ info, P.info? t = some info ∧ info.size = n := by
  unfold Aw.sz at h
  split at h
  · rename_i i hi; cases h
    obtain ⟨info, z, h1, h2, -⟩ := hT.row hi
    exact ⟨info, h1, h2⟩
  · cases h
theorem TOk.run_sizeOf {t n : Nat} (h : Aw.sz TT t = some n) (w : World) : (Go.sizeOf t).run P w = .ok n w := by
  obtain ⟨info, h1, h2⟩ := hT.sz h
  simp [Go.sizeOf, typeInfo, h1, h2]
theorem TOk.run_isAgg {t : Nat} {b : Bool} (h : Aw.isAgg TT t = some b) (w : World) : (Go.isAgg t).run P w = .ok b w := by
  unfold Aw.isAgg at h
  split at h
  · rename_i i hi
    obtain ⟨info, z, h1, h2, h3, h4, -⟩ := hT.row hi
    unfold descOk at h4
    cases hd : i.desc <;> rw [hd] at h h4 <;> simp only at h h4 <;> first | (cases h; split at h4 <;> first | (rename_i hu; simp [Go.isAgg, run_underlying hu]; done) | (cases h4; done)) | skip
    all_goals cases h
  · cases h
theorem TOk.underlying_slice {t e : Nat} (h : elemTy TT t = some e) : P.underlying t = some (.slice e) := by
  unfold elemTy at h
  split at h
  · rename_i i hi
    obtain ⟨info, z, h1, h2, h3, h4, -⟩ := hT.row hi
    split at h
    · rename_i e' hd; cases h
      rw [hd] at h4
      simp only [descOk] at h4
      split at h4
      · rename_i e'' hu; rw [natEq_true h4]; exact hu
      · cases h4
    · cases h
  · cases h
end
end Aw

/-
  Aw, part G: what the pieces of the evaluator come to.
-/
namespace Aw
open Go Go.RowKit

abbrev CGT := FuncId → List (List PV) → List AV → (List PV → List (List PV) → Prop) → Prop

section
variable {CG : CGT} {K : AV → Ws → Prop}

theorem outL_eq {α β : Type} (l : List α) (k : List α → β) : outL l k = k l := by
  induction l generalizing k with
  | nil => rfl
  | cons x l ih => simp [outL, ih]

theorem subK_inv {α : Type} {l : List α} {j n : Nat} {k : List α → Eff} (h : (subK l j n .fail k).wp CG K) :
    j + n ≤ l.length ∧ (k ((l.drop j).take n)).wp CG K := by
  induction l generalizing j n k with
  | nil =>
    cases j with
    | succ j => exact absurd h (by simp [subK, Eff.wp])
    | zero => cases n with
      | zero => exact ⟨by simp, by simpa [subK] using h⟩
      | succ n => exact absurd h (by simp [subK, Eff.wp])
  | cons x l ih =>
    cases j with
    | succ j =>
      simp only [subK] at h
      obtain ⟨h1, h2⟩ := ih h
      exact ⟨by simp; omega, by simpa using h2⟩
    | zero => cases n with
      | zero => exact ⟨by simp, by simpa [subK] using h⟩
      | succ n =>
        simp only [subK] at h
        obtain ⟨h1, h2⟩ := ih h
        exact ⟨by simp; omega, by simpa using h2⟩

theorem setK_inv {α : Type} {l : List α} {j : Nat} {xs : List α} {k : List α → Eff} (h : (setK l j xs .fail k).wp CG K) :
    j + xs.length ≤ l.length ∧ ∃ r, (k r).wp CG K ∧ r.length = l.length ∧ ∀ i, r[i]? = if j ≤ i ∧ i < j + xs.length then xs[i - j]? else l[i]? := by
  induction l generalizing j xs k with
  | nil =>
    cases j with
    | succ j => exact absurd h (by simp [setK, Eff.wp])
    | zero => cases xs with
      | nil => exact ⟨by simp, [], by simpa [setK] using h, rfl, fun i => by simp⟩
      | cons x xs => exact absurd h (by simp [setK, Eff.wp])
  | cons y l ih =>
    cases j with
    | succ j =>
      simp only [setK] at h
      obtain ⟨h1, r, h2, h3, h4⟩ := ih h
      refine ⟨by simp; omega, y :: r, h2, by simp [h3], fun i => ?_⟩
      cases i with
      | zero => simp
      | succ i =>
        simp only [List.getElem?_cons_succ, h4 i]
        have e : (j ≤ i ∧ i < j + xs.length) ↔ (j + 1 ≤ i + 1 ∧ i + 1 < j + 1 + xs.length) := by omega
        simp only [e]
        have e2 : i + 1 - (j + 1) = i - j := by omega
        rw [e2]
    | zero => cases xs with
      | nil =>
        simp only [setK, outL_eq] at h
        exact ⟨by simp, y :: l, h, rfl, fun i => by simp⟩
      | cons x xs =>
        simp only [setK] at h
        obtain ⟨h1, r, h2, h3, h4⟩ := ih h
        refine ⟨by simp; omega, x :: r, h2, by simp [h3], fun i => ?_⟩
        cases i with
        | zero => simp
        | succ i =>
          simp only [List.getElem?_cons_succ, h4 i]
          have e : (0 ≤ i ∧ i < 0 + xs.length) ↔ (0 ≤ i + 1 ∧ i + 1 < 0 + (x :: xs).length) := by simp
          simp only [e]
          simp

theorem dcells_eq (l : List DV) (k : List AV → Eff) : dcells l k = k (l.map .d) := by
  induction l generalizing k with
  | nil => rfl
  | cons x l ih => simp [dcells, ih]

/-- Cells, one by one. -/
def ARels (G : Gh) (ob : Nat → Option Ob) (w : World) (cs : List AV) (us : List Value) : Prop :=
  cs.length = us.length ∧ (∀ (i : Nat) (c : AV) (u : Value), cs[i]? = some c → us[i]? = some u → ARel G ob w c u) ∧ ∀ u ∈ us, atomV u = true

theorem cellsK_inv {v : AV} {k : List AV → Eff} (h : (cellsK v k).wp CG K) :
    ∃ cs, (k cs).wp CG K ∧ ∀ (G : Gh) (ob : Nat → Option Ob) (w : World) (u : Value), ARel G ob w v u → ARels G ob w cs u.cells.toList := by
  have one : ∀ (v : AV), (k [v]).wp CG K → (∀ G ob w u, ARel G ob w v u → atomV u = true) →
      ∃ cs, (k cs).wp CG K ∧ ∀ (G : Gh) (ob : Nat → Option Ob) (w : World) (u : Value), ARel G ob w v u → ARels G ob w cs u.cells.toList := by
    intro v hk ha
    refine ⟨[v], hk, fun G ob w u hu => ?_⟩
    have h2 : u.cells.toList = [u] := by have := ha G ob w u hu; cases u <;> first | rfl | simp [atomV] at this
    rw [h2]
    refine ⟨rfl, fun i c u' hc hu' => ?_, fun u' hu' => ?_⟩
    · cases i with
      | zero => simp at hc hu'; subst hc; subst hu'; exact hu
      | succ i => simp at hc
    · simp at hu'; subst hu'; exact ha G ob w _ hu
  cases v with
  | d x =>
    cases x with
    | agg cs =>
      simp only [cellsK, dcells_eq] at h
      refine ⟨cs.map .d, h, fun G ob w u hu => ?_⟩
      cases hu with
      | d _ _ hd =>
        obtain ⟨h1, h2, h3⟩ := hd.cells
        refine ⟨by simpa [DV.cells] using h1, fun i c u' hc hu' => ?_, fun u' hu' => ?_⟩
        · simp only [List.getElem?_map, Option.map_eq_some_iff] at hc
          obtain ⟨c', hc', rfl⟩ := hc
          exact .d _ _ (h2 i c' u' hc' (by simpa using hu'))
        · obtain ⟨i, hi⟩ := List.getElem?_of_mem hu'
          have hlt : i < cs.length := by have := (List.getElem?_eq_some_iff.1 hi).1; simp at this; simp [DV.cells] at h1; omega
          exact (h2 i _ u' (List.getElem?_eq_getElem hlt) (by simpa using hi)).atomV (h3 _ (List.getElem_mem _))
    | _ => exact one _ h (fun G ob w u hu => by cases hu with | d _ _ hd => exact hd.atomV rfl)
  | agg cs =>
    refine ⟨cs, h, fun G ob w u hu => ?_⟩
    cases hu with
    | agg _ vs hl hr ha => exact ⟨hl, hr, ha⟩
  | nil a => exact one _ h (fun G ob w u hu => by cases hu; rfl)
  | ptr a b => exact one _ h (fun G ob w u hu => by cases hu with | ptr _ _ _ o ho hv => subst hv; rfl)
  | lst a => exact one _ h (fun G ob w u hu => by cases hu with | lst _ _ o ho ha hv => exact ha)
  | clo c a b => exact one _ h (fun G ob w u hu => by cases hu with | clo _ _ _ b o _ x ho hs hc hv => subst hv; exact cloV_atom _ _ _)
  | junk => exact absurd h (by simp [cellsK, Eff.wp])
  | tup vs => exact absurd h (by simp [cellsK, Eff.wp])
  | ep x j => exact absurd h (by simp [cellsK, Eff.wp])
  | lp a b c => exact absurd h (by simp [cellsK, Eff.wp])
end
end Aw
