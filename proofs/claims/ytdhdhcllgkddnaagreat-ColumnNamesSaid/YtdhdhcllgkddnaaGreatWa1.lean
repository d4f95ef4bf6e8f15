/-
  A semantics of the program's code over values, without memory (1): values, states, single operations, and that they are told rightly in every world.
-/
import Derived.Orders
import Derived.Below
import Derived.Laws.AppendOwn
import Derived.Laws.OwnMore
import Derived.Laws.Entries
import Derived.Laws.Cells
import Derived.Laws.Slices
import Derived.Laws.BytesArg
import Derived.Lib.ConvBytes
import Derived.Lib.LazyBuf
import Derived.WalkSpells
import Derived.Laws.BytesString
import Derived.Great.BuildSlice
import Derived.Laws.MakeOwn
import Derived.Lib.AppendStr
namespace Go.Proofs.YtdhdhcllgkddnaaGreat.Va
open Go Go.RowKit

/-- A deep value. 'sl sz xs': a slice of elements of sz cells each (nil or not, if it is empty); 'nil': the nil slice; 'ne sz': an empty slice that is not nil. 'agg': a struct or an array, its cells. 'raw': a model's value that leads nowhere. -/
inductive V where
  | int (k : IntKind) (n : Int)
  | bool (b : Bool)
  | str (s : ByteArray)
  | nil
  | sl (sz : Nat) (xs : List V)
  | ne (sz : Nat)
  | agg (cs : List V)
  | fn (f : Fn) (caps : List V)
  | raw (v : Value)

def V.cells : V → List V
  | .agg cs => cs
  | x => [x]

/-- What a slot holds. 'own r g off len': a slice of the row that region r (in its generation g) holds; 'ptr r g i c': cell c of element i of a region; 'cptr x c': cell c of an element that is not written any more. -/
inductive D where
  | v (x : V)
  | own (r g off len : Nat)
  | ptr (r g i c : Nat)
  | cptr (x : V) (c : Nat)
  | agg (cs : List D)
  | tup (ds : List D)
  | fn (f : Fn) (caps : List D)
  | any

/-- A region: a row of elements, or a variable's cells. -/
inductive Body where
  | row (sz : Nat) (els : List V)
  | box (cs : List D)

structure Reg where
  body : Body
  frozen : Bool

structure RS where
  gen : Nat
  reg : Option Reg

structure St where
  f : Nat → D
  m : Nat → RS

/-- 'x' is told at 'v' in the world w; all that it leads to lies in blocks of F. -/
inductive RV (w : World) (F : Nat → Prop) : V → Value → Prop where
  | int (k n) : RV w F (.int k n) (.int k n)
  | bool (b) : RV w F (.bool b) (.bool b)
  | str (s) : RV w F (.str s) (.string s)
  | nil : RV w F .nil (.slice none 0 0)
  | sl0 (sz) : RV w F (.sl sz []) (.slice none 0 0)
  | ne (sz) (ad : Addr) (cap : Nat) (hmax : cap ≤ maxLen) : RV w F (.ne sz) (.slice (some ad) 0 cap)
  | sl (sz : Nat) (xs : List V) (ad : Addr) (cap : Nat) (u : Nat → Nat → Value) (hF : xs ≠ [] → F ad.block) (hcap : xs.length ≤ cap) (hmax : cap ≤ maxLen)
      (hsz : ∀ x ∈ xs, x.cells.length = sz)
      (hc : ∀ (i c : Nat) (x y : V), xs[i]? = some x → x.cells[c]? = some y → w.cell? (ad.add (i * sz + c)) = some (u i c))
      (h1 : ∀ (i c : Nat) (x y : V), xs[i]? = some x → x.cells[c]? = some y → (u i c).oneCell' = true)
      (hr : ∀ (i c : Nat) (x y : V), xs[i]? = some x → x.cells[c]? = some y → RV w F y (u i c)) : RV w F (.sl sz xs) (.slice (some ad) xs.length cap)
  | agg (cs : List V) (vs : List Value) (hl : cs.length = vs.length) (h1 : ∀ u ∈ vs, u.oneCell' = true)
      (hr : ∀ (i : Nat) (y : V) (u : Value), cs[i]? = some y → vs[i]? = some u → RV w F y u) : RV w F (.agg cs) (.agg vs.toArray)
  | fn (f : Fn) (caps : List V) (vs : List Value) (hl : caps.length = vs.length)
      (hr : ∀ (i : Nat) (y : V) (u : Value), caps[i]? = some y → vs[i]? = some u → RV w F y u) : RV w F (.fn f caps) (.func f #[] vs.toArray)
  | raw (v) (h1 : v.oneCell' = true) : RV w F (.raw v) v

/-- The two worlds agree on the blocks of F. -/
def Keeps (F : Nat → Prop) (w w' : World) : Prop := ∀ b, F b → w'.heap[b]? = w.heap[b]?

theorem Keeps.refl (F : Nat → Prop) (w : World) : Keeps F w w := fun _ _ => rfl
theorem Keeps.trans {F : Nat → Prop} {a b c : World} (h : Keeps F a b) (k : Keeps F b c) : Keeps F a c := fun i hi => (k i hi).trans (h i hi)
theorem Keeps.mono {F F' : Nat → Prop} {a b : World} (h : Keeps F a b) (hF : ∀ i, F' i → F i) : Keeps F' a b := fun i hi => h i (hF i hi)

theorem block_add (a : Addr) (n : Nat) : (a.add n).block = a.block := by unfold Addr.add; split <;> rfl

theorem add_add (a : Addr) (i j : Nat) : (a.add i).add j = a.add (i + j) := by
  unfold Addr.add
  by_cases hi : i = 0 <;> by_cases hj : j = 0 <;> simp [hi, hj, Nat.add_assoc]

theorem Keeps.cell {F : Nat → Prop} {w w' : World} (h : Keeps F w w') {a : Addr} (ha : F a.block) : w'.cell? a = w.cell? a := World.cell?_of_block (h _ ha)

/-- What is told stays told, where its blocks are kept. -/
theorem RV.mono {w w' : World} {F F' : Nat → Prop} (hk : Keeps F w w') (hF : ∀ b, F b → F' b) {x : V} {v : Value} (h : RV w F x v) : RV w' F' x v := by
  induction h with
  | int k n => exact .int k n
  | bool b => exact .bool b
  | str s => exact .str s
  | nil => exact .nil
  | sl0 sz => exact .sl0 sz
  | ne sz ad cap hmax => exact .ne sz ad cap hmax
  | sl sz xs ad cap u hFb hcap hmax hsz hc h1 hr ih =>
    refine .sl sz xs ad cap u (fun hne => hF _ (hFb hne)) hcap hmax hsz (fun i c x y hx hy => ?_) h1 ih
    have hne : xs ≠ [] := by intro e; subst e; simp at hx
    rw [hk.cell (by rw [block_add]; exact hFb hne)]
    exact hc i c x y hx hy
  | agg cs vs hl h1 hr ih => exact .agg cs vs hl h1 ih
  | fn f caps vs hl hr ih => exact .fn f caps vs hl ih
  | raw v h1 => exact .raw v h1

/-- Where the live regions lie: the first address of each, its capacity in elements. -/
structure Lay where
  base : Nat → Option Addr
  cap : Nat → Nat

/-- Is the reference current? -/
def live (m : Nat → RS) (r g : Nat) : Option Reg := if (m r).gen = g then (m r).reg else none

inductive RD (w : World) (F : Nat → Prop) (m : Nat → RS) (L : Lay) : D → Value → Prop where
  | v {x v} (h : RV w F x v) : RD w F m L (.v x) v
  | any (v) : RD w F m L .any v
  | own (r g off len : Nat) (v : Value) (hg : g ≤ (m r).gen) (h1 : v.oneCell' = true)
      (h : ∀ (reg : Reg) (sz : Nat) (els : List V), live m r g = some reg → reg.body = .row sz els → off + len ≤ els.length ∧ els.length ≤ L.cap r ∧
        ∃ a, v = .slice a len (L.cap r - off) ∧ (off < L.cap r → a = (L.base r).map (·.add (off * sz)))) : RD w F m L (.own r g off len) v
  | ptr (r g i c : Nat) (v : Value) (hg : g ≤ (m r).gen) (h1 : v.oneCell' = true)
      (hrow : ∀ (reg : Reg) (sz : Nat) (els : List V), live m r g = some reg → reg.body = .row sz els → i < els.length ∧ v = .pointer ((L.base r).map (·.add (i * sz + c))))
      (hbox : ∀ (reg : Reg) (cs : List D), live m r g = some reg → reg.body = .box cs → i = 0 ∧ v = .pointer ((L.base r).map (·.add c))) : RD w F m L (.ptr r g i c) v
  | cptr (x : V) (c : Nat) (ad : Addr) (u : Nat → Value) (hF : F ad.block)
      (hc : ∀ (j : Nat) (y : V), x.cells[j]? = some y → w.cell? (ad.add j) = some (u j) ∧ (u j).oneCell' = true)
      (hr : ∀ (j : Nat) (y : V), x.cells[j]? = some y → RV w F y (u j)) : RD w F m L (.cptr x c) (.pointer (some (ad.add c)))
  | agg (cs : List D) (vs : List Value) (hl : cs.length = vs.length) (h1 : ∀ u ∈ vs, u.oneCell' = true)
      (hr : ∀ (i : Nat) (y : D) (u : Value), cs[i]? = some y → vs[i]? = some u → RD w F m L y u) : RD w F m L (.agg cs) (.agg vs.toArray)
  | tup (ds : List D) (vs : List Value) (hl : ds.length = vs.length)
      (hr : ∀ (i : Nat) (y : D) (u : Value), ds[i]? = some y → vs[i]? = some u → RD w F m L y u) : RD w F m L (.tup ds) (.tuple vs.toArray)
  | fn (f : Fn) (caps : List D) (vs : List Value) (hl : caps.length = vs.length)
      (hr : ∀ (i : Nat) (y : D) (u : Value), caps[i]? = some y → vs[i]? = some u → RD w F m L y u) : RD w F m L (.fn f caps) (.func f #[] vs.toArray)

/-- From one table of regions to another: whatever reference is current there was current here, and means the same place. -/
structure MLe (m : Nat → RS) (L : Lay) (m' : Nat → RS) (L' : Lay) : Prop where
  gen : ∀ r, (m r).gen ≤ (m' r).gen
  row : ∀ (r g : Nat) (reg' : Reg) (sz : Nat) (els' : List V), g ≤ (m r).gen → live m' r g = some reg' → reg'.body = .row sz els' →
    ∃ (reg : Reg) (els : List V), live m r g = some reg ∧ reg.body = .row sz els ∧ els.length ≤ els'.length ∧ els'.length ≤ L'.cap r ∧ L'.cap r = L.cap r ∧ L'.base r = L.base r
  box : ∀ (r g : Nat) (reg' : Reg) (cs' : List D), g ≤ (m r).gen → live m' r g = some reg' → reg'.body = .box cs' →
    ∃ (reg : Reg) (cs : List D), live m r g = some reg ∧ reg.body = .box cs ∧ L'.base r = L.base r

theorem RD.mono {w w' : World} {F F' : Nat → Prop} {m m' : Nat → RS} {L L' : Lay} (hk : Keeps F w w') (hF : ∀ b, F b → F' b) (hm : MLe m L m' L') {d : D} {v : Value} (h : RD w F m L d v) : RD w' F' m' L' d v := by
  induction h with
  | v h => exact .v (h.mono hk hF)
  | any v => exact .any v
  | own r g off len v hg h1 h =>
    refine .own r g off len v (Nat.le_trans hg (hm.gen r)) h1 fun reg' sz els' hl hb => ?_
    obtain ⟨reg, els, hl0, hb0, hle, hcap, hc, hbase⟩ := hm.row r g reg' sz els' hg hl hb
    obtain ⟨h2, _, a, h4, h5⟩ := h reg sz els hl0 hb0
    exact ⟨by omega, hcap, a, by rw [hc]; exact h4, by rw [hc, hbase]; exact h5⟩
  | ptr r g i c v hg h1 hrow hbox =>
    refine .ptr r g i c v (Nat.le_trans hg (hm.gen r)) h1 (fun reg' sz els' hl hb => ?_) (fun reg' cs' hl hb => ?_)
    · obtain ⟨reg, els, hl0, hb0, hle, _, _, hbase⟩ := hm.row r g reg' sz els' hg hl hb
      obtain ⟨h2, h3⟩ := hrow reg sz els hl0 hb0
      exact ⟨by omega, by rw [hbase]; exact h3⟩
    · obtain ⟨reg, cs, hl0, hb0, hbase⟩ := hm.box r g reg' cs' hg hl hb
      obtain ⟨h2, h3⟩ := hbox reg cs hl0 hb0
      exact ⟨h2, by rw [hbase]; exact h3⟩
  | cptr x c ad u hFb hc hr =>
    refine .cptr x c ad u (hF _ hFb) (fun j y hy => ?_) fun j y hy => (hr j y hy).mono hk hF
    obtain ⟨h1, h2⟩ := hc j y hy
    exact ⟨by rw [hk.cell (by rw [block_add]; exact hFb)]; exact h1, h2⟩
  | agg cs vs hl h1 hr ih => exact .agg cs vs hl h1 ih
  | tup ds vs hl hr ih => exact .tup ds vs hl ih
  | fn f caps vs hl hr ih => exact .fn f caps vs hl ih

/-- A live region lies in the world. -/
def RegOk (w : World) (F : Nat → Prop) (m : Nat → RS) (L : Lay) (r : Nat) (reg : Reg) : Prop :=
  match reg.body with
  | .row sz els => els.length ≤ L.cap r ∧ L.cap r ≤ maxLen ∧ (∀ x ∈ els, x.cells.length = sz) ∧ (L.cap r = 0 ∨ ∃ (g : Nat) (cur : Array Value) (ty : TypeId), L.base r = some ⟨g, 0, none⟩ ∧
      w.heap[g]? = some (.cells cur ty (0, 0)) ∧ (F g ↔ reg.frozen = true) ∧ cur.size = L.cap r * sz ∧
      ∀ (i c : Nat) (x y : V), els[i]? = some x → x.cells[c]? = some y → ∃ u, cur[i * sz + c]? = some u ∧ u.oneCell' = true ∧ RV w F y u)
  | .box cs => ∃ (g : Nat) (cur : Array Value) (ty : TypeId), L.base r = some ⟨g, 0, none⟩ ∧ w.heap[g]? = some (.cells cur ty (0, 0)) ∧ (F g ↔ reg.frozen = true) ∧ cur.size = cs.length ∧
      ∀ (c : Nat) (d : D), cs[c]? = some d → ∃ u, cur[c]? = some u ∧ u.oneCell' = true ∧ RD w F m L d u

/-- The block that a region holds for itself. -/
def blk (L : Lay) (r : Nat) (reg : Reg) : Option Nat :=
  if reg.frozen then none else
  match reg.body with
  | .row _ _ => if L.cap r = 0 then none else (L.base r).map (·.block)
  | .box _ => (L.base r).map (·.block)

/-- What stood when the call began: the world, the blocks that were read only, those that the call may write, and what some values told then. -/
structure Org where
  w0 : World
  F0 : Nat → Prop
  M : List Nat
  pins : List (D × Value)

/-- The state S is told by the frame a (n slots) and the world w, in a call that began as O says. -/
structure Sim (O : Org) (S : St) (n : Nat) (a : Act) (w : World) (F : Nat → Prop) (L : Lay) : Prop where
  os : w.os = O.w0.os
  tape : w.tape = O.w0.tape
  output : w.output = O.w0.output
  size0 : O.w0.heap.size ≤ w.heap.size
  old : ∀ b, b < O.w0.heap.size → b ∉ O.M → w.heap[b]? = O.w0.heap[b]?
  F0 : ∀ b, O.F0 b → F b
  Fold : ∀ b, b < O.w0.heap.size → F b → b ∉ O.M → O.F0 b
  Flt : ∀ b, F b → b < w.heap.size
  defers : a.defers = []
  tmps : a.tmps.size = n
  frame : ∀ t, RD w F S.m L (S.f t) (a.tmps.getD t undef)
  regs : ∀ r reg, (S.m r).reg = some reg → RegOk w F S.m L r reg
  mine : ∀ r reg b, (S.m r).reg = some reg → blk L r reg = some b → b < O.w0.heap.size → b ∈ O.M
  inj : ∀ r r' reg reg' b, (S.m r).reg = some reg → (S.m r').reg = some reg' → blk L r reg = some b → blk L r' reg' = some b → r = r'
  pins : ∀ p ∈ O.pins, RD w F S.m L p.1 p.2

end Go.Proofs.YtdhdhcllgkddnaaGreat.Va

namespace Go.Proofs.YtdhdhcllgkddnaaGreat.Va
open Go Go.RowKit

def V.ofCell : Value → V
  | .int k n => .int k n
  | .bool b => .bool b
  | .string s => .str s
  | .slice none 0 0 => .nil
  | v => .raw v
def V.ofValue : Value → V
  | .agg cs => .agg (cs.toList.map V.ofCell)
  | v => V.ofCell v
/-- A value that can be told: one cell, or an aggregate of such. -/
def plainV : Value → Bool
  | .agg cs => cs.toList.all Value.oneCell'
  | .tuple _ => false
  | _ => true
def constD (v : Value) : D := if plainV v then .v (V.ofValue v) else .any

def St.ev (S : St) : Operand → D
  | .tmp t => S.f t
  | .const v => constD v
  | .func f => .v (.fn (.func f) [])
  | .global _ => .any

def D.isV : D → Option V
  | .v x => some x
  | _ => none
/-- A list of cells as one value. -/
def mkAgg (cs : List D) : D :=
  match cs.mapM D.isV with
  | some vs => .v (.agg vs)
  | none => .agg cs
def mkFn (f : Fn) (cs : List D) : D :=
  match cs.mapM D.isV with
  | some vs => .v (.fn f vs)
  | none => .fn f cs
def D.cells : D → List D
  | .v x => x.cells.map .v
  | .agg cs => cs
  | d => [d]
def D.ridsC : D → List Nat
  | .own r _ _ _ => [r]
  | .ptr r _ _ _ => [r]
  | _ => []
def D.rids : D → List Nat
  | .agg cs => cs.flatMap D.ridsC
  | .fn _ cs => cs.flatMap D.ridsC
  | .tup cs => cs.flatMap D.ridsC
  | d => d.ridsC

/-- 'nil' as the empty slice, by the sizes of the elements that the cells' types have. -/
def V.normC : Option Nat → V → V
  | some sz, .nil => .sl sz []
  | _, x => x
def V.norm (sh : List (Option Nat)) : V → V
  | .agg cs => .agg (cs.zipIdx.map fun x => V.normC ((sh[x.2]?).join) x.1)
  | x => V.normC ((sh[0]?).join) x

def rowOf (m : Nat → RS) : D → Option (Nat × List V)
  | .v (.sl sz xs) => some (sz, xs)
  | .v (.ne sz) => some (sz, [])
  | .own r g off len =>
    match live m r g with
    | some ⟨.row sz els, _⟩ => some (sz, (els.drop off).take len)
    | _ => none
  | _ => none
def deepC (m : Nat → RS) : D → Option V
  | .v x => some x
  | .own r g off len => (rowOf m (.own r g off len)).map fun x => .sl x.1 x.2
  | _ => none
/-- The deep value of what a slot holds. -/
def deep (m : Nat → RS) : D → Option V
  | .agg cs => (cs.mapM (deepC m)).map .agg
  | .fn f cs => (cs.mapM (deepC m)).map (.fn f)
  | d => deepC m d

structure Eff where
  d : D
  up : List (Nat × RS)

def newReg (m : Nat → RS) (r : Nat) (reg : Reg) : Nat × RS := (r, ⟨(m r).gen + 1, some reg⟩)
def setReg (m : Nat → RS) (r : Nat) (reg : Reg) : Nat × RS := (r, ⟨(m r).gen, some reg⟩)
def killReg (m : Nat → RS) (r : Nat) : Nat × RS := (r, ⟨(m r).gen, none⟩)
/-- The own rows among some regions are not written any more. -/
def freezeAll (m : Nat → RS) : List Nat → List (Nat × RS)
  | [] => []
  | r :: rs =>
    match (m r).reg with
    | some ⟨.row sz els, _⟩ => setReg m r ⟨.row sz els, true⟩ :: freezeAll m rs
    | _ => freezeAll m rs

def V.bin (op : BinOp) : V → V → Option V
  | .int k a, .int k' b =>
    match op with
    | .shl => if b < 0 then none else some (.int k (k.wrap (a * 2 ^ (min b.toNat k.bits))))
    | .shr => if b < 0 then none else some (.int k (a.fdiv (2 ^ (min b.toNat k.bits))))
    | .add => if k = k' then some (.int k (k.wrap (a + b))) else none
    | .sub => if k = k' then some (.int k (k.wrap (a - b))) else none
    | .mul => if k = k' then some (.int k (k.wrap (a * b))) else none
    | .quo => if k = k' ∧ b ≠ 0 then some (.int k (k.wrap (a.tdiv b))) else none
    | .rem => if k = k' ∧ b ≠ 0 then some (.int k (a.tmod b)) else none
    | .and => if k = k' then some (.int k (bits .and k a b)) else none
    | .or => if k = k' then some (.int k (bits .or k a b)) else none
    | .xor => if k = k' then some (.int k (bits .xor k a b)) else none
    | .andNot => if k = k' then some (.int k (bits .andNot k a b)) else none
    | .eql => if k = k' then some (.bool (a == b)) else none
    | .neq => if k = k' then some (.bool (a != b)) else none
    | .lss => if k = k' then some (.bool (decide (a < b))) else none
    | .leq => if k = k' then some (.bool (decide (a ≤ b))) else none
    | .gtr => if k = k' then some (.bool (decide (a > b))) else none
    | .geq => if k = k' then some (.bool (decide (a ≥ b))) else none
  | .str a, .str b =>
    match op with
    | .add => if a.size + b.size ≤ 9223372036854775807 then some (.str (a ++ b)) else none
    | .eql => some (.bool (a.toList == b.toList))
    | .neq => some (.bool !(a.toList == b.toList))
    | .lss => some (.bool (Op.bytesLess a.toList b.toList))
    | .leq => some (.bool (Op.bytesLess a.toList b.toList || a.toList == b.toList))
    | .gtr => some (.bool !(Op.bytesLess a.toList b.toList || a.toList == b.toList))
    | .geq => some (.bool !(Op.bytesLess a.toList b.toList))
    | _ => none
  | _, _ => none

/-- Is a slice nil? 'none': an empty one may be. -/
def D.isNil (m : Nat → RS) : D → Option Bool
  | .v .nil => some true
  | .v (.sl _ xs) => if xs.length = 0 then none else some false
  | .v (.ne _) => some false
  | .own r g off len => if len = 0 ∨ (rowOf m (.own r g off len)).isSome = false then none else some false
  | _ => none

/-- What is known of a type of elements: it has a zero value of its size. -/
def elemOk (P : Program) (e : TypeId) : Bool :=
  match P.info? e with
  | some i => match i.zero with | some z => z.cells.size == i.size | none => false
  | none => false
/-- A slice type: the elements' type, their size in cells and in bytes. -/
def slcOf (P : Program) (t : TypeId) : Option (TypeId × Nat × Nat) :=
  match P.underlying t with
  | some (.slice e) => if elemOk P e then some (e, P.cellsOf e, P.bytesOf e) else none
  | _ => none
def isStrT (P : Program) (t : TypeId) : Bool :=
  match P.underlying t with
  | some .string => true
  | _ => false
def isBoolT (P : Program) (t : TypeId) : Bool :=
  match P.underlying t with
  | some .bool => true
  | _ => false
def isAggT (P : Program) (t : TypeId) : Option Bool :=
  match P.underlying t with
  | some (.struct _) => some true
  | some (.array _ _) => some true
  | some _ => some false
  | none => none
def binD (P : Program) (m : Nat → RS) (op : BinOp) (t : TypeId) (x y : D) : Option V :=
  match x, y with
  | .v (.bool a), .v (.bool b) =>
    if isBoolT P t then
      match op with
      | .eql => some (.bool (a == b))
      | .neq => some (.bool (!(a == b)))
      | _ => none
    else none
  | .v (.int k a), .v (.int k' b) => V.bin op (.int k a) (.int k' b)
  | .v (.str a), .v (.str b) => V.bin op (.str a) (.str b)
  | d, .v .nil =>
    match slcOf P t, op, d.isNil m with
    | some _, .eql, some b => some (.bool b)
    | some _, .neq, some b => some (.bool (!b))
    | _, _, _ => none
  | _, _ => none

def V.un (op : UnOp) : V → Option V
  | .int k n =>
    match op with
    | .neg => some (.int k (k.wrap (0 - n)))
    | .xor => some (.int k (bits .xor k (if k.signed then -1 else k.max) n))
    | _ => none
  | .bool b =>
    match op with
    | .not => some (.bool !b)
    | _ => none
  | _ => none

def V.isU8 : V → Bool
  | .int .u8 _ => true
  | _ => false
def V.byte : V → UInt8
  | .int _ n => UInt8.ofNat n.toNat
  | _ => 0
def strV (s : ByteArray) : List V := s.data.toList.map fun b => .int .u8 b.toNat

/-- n cells from place c on: one value. -/
def takeV (agg : Bool) (n c : Nat) (cells : List V) : Option V :=
  if agg then (if c + n ≤ cells.length then some (.agg ((cells.drop c).take n)) else none) else cells[c]?
def takeD (agg : Bool) (n c : Nat) (cells : List D) : Option D :=
  if agg then (if c + n ≤ cells.length then some (mkAgg ((cells.drop c).take n)) else none) else cells[c]?
/-- The cells with others from place c on. -/
def putCells {α : Type} (cells : List α) (c : Nat) (new : List α) : List α := cells.take c ++ new ++ cells.drop (c + new.length)
def V.setCells (x : V) (c : Nat) (new : List V) : V :=
  match x with
  | .agg cs => .agg (putCells cs c new)
  | _ => match new with | [y] => y | _ => x

def D.storable : D → Bool
  | .any => false
  | .agg _ => false
  | .tup _ => false
  | .v (.agg _) => false
  | .v (.raw u) => u.oneCell'
  | _ => true

/-- The sizes of the elements of the slices among a type's cells. -/
def cellShape (P : Program) : Nat → TypeId → List (Option Nat)
  | 0, _ => []
  | d + 1, t =>
    match P.underlying t with
    | some (.slice e) => [some (P.cellsOf e)]
    | some (.struct fs) => fs.toList.flatMap fun f => cellShape P d f.type
    | some (.array n e) => (List.replicate n (cellShape P d e)).flatten
    | _ => [none]
def shapeOf (P : Program) (t : TypeId) : List (Option Nat) := cellShape P 8 t

/-- How an argument goes into a call: read; a variable behind a pointer (it is read and written); an own row (read and written in place); an own row that the callee takes over. -/
inductive Mode where
  | rd (sh : List (Option Nat))
  | io (sh : List (Option Nat))
  | ios
  | take (sz : Nat)
/-- What comes back: a value; an own row of elements of sz cells; a pointer to a new variable. -/
inductive RK where
  | plain (sh : List (Option Nat))
  | own (sz : Nat)
  | new

structure Spec where
  modes : List Mode
  res : List RK
  /-- the results lead to nothing that the arguments lead to -/
  fresh : Bool
  fn : List V → Option (List V × List V)

/-- The zero value of a type. -/
def zeroV (P : Program) (t : TypeId) : Option V :=
  match (P.info? t).bind (·.zero) with
  | some z => if plainV z then some (V.ofValue z) else none
  | none => none

/-- The parts of a literal of a struct or an array: place and size in cells. -/
def placeOf (P : Program) (t : TypeId) (i : Nat) : Option (Nat × Nat) :=
  match P.underlying t with
  | some (.struct fs) => (fs[i]?).map fun f => (f.offset, P.cellsOf f.type)
  | some (.array _ e) => some (i * P.cellsOf e, P.cellsOf e)
  | _ => none
def fieldsKnown (P : Program) (t : TypeId) : Bool :=
  match P.underlying t with
  | some (.struct fs) => fs.toList.all fun f => (P.info? f.type).isSome
  | some (.array _ e) => (P.info? e).isSome
  | _ => false
def fillD (P : Program) (t : TypeId) : List D → List (Nat × D) → Option (List D)
  | cells, [] => some cells
  | cells, (i, d) :: rest =>
    match placeOf P t i with
    | some (off, size) => if d.cells.length = size ∧ off + size ≤ cells.length ∧ (d.cells.all D.storable) = true then fillD P t (putCells cells off d.cells) rest else none
    | none => none

/-- The elements of a slice literal. -/
def fillRow (sz : Nat) (sh : List (Option Nat)) (m : Nat → RS) : List V → List (Nat × D) → Option (List V)
  | els, [] => some els
  | els, (i, d) :: rest =>
    match deep m d with
    | some x => if x.cells.length = sz ∧ i < els.length ∧ (d.cells.all D.storable) = true then fillRow sz sh m (els.set i (x.norm sh)) rest else none
    | none => none

def intOfD : D → Option Int
  | .v (.int _ n) => some n
  | _ => none

def effLoad (P : Program) (m : Nat → RS) (t : TypeId) (p : D) : Option D :=
  match isAggT P t with
  | none => none
  | some agg =>
    match p with
    | .cptr x c => (takeV agg (P.cellsOf t) c x.cells).map .v
    | .ptr r g i c =>
      match live m r g with
      | some ⟨.box cs, _⟩ => takeD agg (P.cellsOf t) c cs
      | some ⟨.row _ els, _⟩ => (els[i]?).bind fun x => (takeV agg (P.cellsOf t) c x.cells).map .v
      | none => none
    | _ => none

def effStore (P : Program) (m : Nat → RS) (t : TypeId) (p x : D) : Option (List (Nat × RS)) :=
  if x.cells.length = P.cellsOf t ∧ 0 < x.cells.length ∧ (x.cells.all D.storable) = true then
    match p with
    | .ptr r g i c =>
      match live m r g with
      | some ⟨.box cs, false⟩ => if c + x.cells.length ≤ cs.length then some [setReg m r ⟨.box (putCells cs c x.cells), false⟩] else none
      | some ⟨.row sz els, false⟩ =>
        match els[i]?, deep m x with
        | some e, some y =>
          if c + y.cells.length ≤ e.cells.length ∧ r ∉ x.rids then
            some (setReg m r ⟨.row sz (els.set i (e.setCells c (y.norm (shapeOf P t)).cells)), false⟩ :: freezeAll m x.rids)
          else none
        | _, _ => none
      | _ => none
    | _ => none
  else none

def effIndexAddr (P : Program) (m : Nat → RS) (t : TypeId) (x i : D) : Option D :=
  match x, intOfD i with
  | .own r g off len, some n =>
    match slcOf P t, live m r g with
    | some (_, k, _), some ⟨.row sz _, _⟩ => if sz = k ∧ 0 ≤ n ∧ n < (len : Int) then some (.ptr r g (off + n.toNat) 0) else none
    | _, _ => none
  | .v (.sl sz xs), some n =>
    match slcOf P t with
    | some (_, k, _) => if sz = k ∧ 0 ≤ n ∧ n < (xs.length : Int) then (xs[n.toNat]?).map fun y => .cptr y 0 else none
    | none => none
  | .ptr r g j c, some n =>
    match P.underlying t, live m r g with
    | some (.array len e), some _ => if (P.info? e).isSome = true ∧ 0 ≤ n ∧ n < (len : Int) then some (.ptr r g j (c + n.toNat * P.cellsOf e)) else none
    | _, _ => none
  | _, _ => none

def boundOf (d : Option D) (dflt : Int) : Option Int :=
  match d with
  | none => some dflt
  | some d => intOfD d
def effSlice (P : Program) (m : Nat → RS) (t : TypeId) (x : D) (lo hi : Option D) : Option D :=
  match x with
  | .v (.str s) =>
    match isStrT P t, boundOf lo 0, boundOf hi s.size with
    | true, some l, some h => if 0 ≤ l ∧ l ≤ h ∧ h ≤ (s.size : Int) then some (.v (.str (s.extract l.toNat h.toNat))) else none
    | _, _, _ => none
  | .v (.sl sz xs) =>
    match slcOf P t, boundOf lo 0, boundOf hi xs.length with
    | some (_, k, _), some l, some h => if sz = k ∧ 0 ≤ l ∧ l ≤ h ∧ h ≤ (xs.length : Int) then some (.v (.sl sz ((xs.take h.toNat).drop l.toNat))) else none
    | _, _, _ => none
  | .v .nil =>
    match slcOf P t, boundOf lo 0, boundOf hi 0 with
    | some _, some l, some h => if l = 0 ∧ h = 0 then some (.v .nil) else none
    | _, _, _ => none
  | .own r g off len =>
    match slcOf P t, live m r g, boundOf lo 0, boundOf hi len with
    | some (_, k, _), some ⟨.row sz _, _⟩, some l, some h => if sz = k ∧ 0 ≤ l ∧ l ≤ h ∧ h ≤ (len : Int) then some (.own r g (off + l.toNat) (h - l).toNat) else none
    | _, _, _, _ => none
  | _ => none

/-- A slice with its capacity, of what is told. -/
def effSlice3 (P : Program) (t : TypeId) (x : D) (lo hi : Option D) (mx : D) : Option D :=
  match x, hi with
  | .v (.sl sz xs), some hd =>
    match slcOf P t, boundOf lo 0, intOfD hd, intOfD mx with
    | some (_, k, _), some l, some h, some q => if sz = k ∧ 0 ≤ l ∧ l ≤ h ∧ h ≤ q ∧ q ≤ (xs.length : Int) then some (.v (.sl sz ((xs.take h.toNat).drop l.toNat))) else none
    | _, _, _, _ => none
  | _, _ => none

/-- The row that is appended: its elements. -/
def srcOf (P : Program) (m : Nat → RS) (sz : Nat) (t : TypeId) (x : D) : Option (List V) :=
  match x with
  | .v (.str s) => if isStrT P t = true ∧ sz = 1 then some (strV s) else none
  | .v .nil => if (slcOf P t).isSome then some [] else none
  | d => match rowOf m d with | some (s, ys) => if (slcOf P t).isSome = true ∧ s = sz then some ys else none | none => none
def effAppend (P : Program) (m : Nat → RS) (dst : Nat) (ts tx : TypeId) (s x : D) : Option Eff :=
  match slcOf P ts with
  | none => none
  | some (_, k, bytes) =>
    match srcOf P m k tx x with
    | none => none
    | some ys =>
      match s with
      | .v .nil =>
        if ys.length * bytes ≤ 140737488355328 ∧ ys.length ≤ 9223372036854775807 then some ⟨.own dst ((m dst).gen + 1) 0 ys.length, [newReg m dst ⟨.row k ys, false⟩]⟩ else none
      | .own r g off len =>
        match live m r g with
        | some ⟨.row sz els, false⟩ =>
          if off = 0 ∧ len = els.length ∧ sz = k ∧ (els.length + ys.length) * bytes ≤ 140737488355328 ∧ els.length + ys.length ≤ 9223372036854775807 then
            some ⟨.own dst ((m dst).gen + 1) 0 (els.length + ys.length), [newReg m dst ⟨.row sz (els ++ ys), false⟩, killReg m r]⟩
          else none
        | _ => none
      | _ => none

def effLen (P : Program) (m : Nat → RS) (t : TypeId) (x : D) : Option Int :=
  match x with
  | .v (.str s) => if isStrT P t then some s.size else none
  | .v .nil => if (slcOf P t).isSome then some 0 else none
  | .v (.sl _ xs) => if (slcOf P t).isSome then some xs.length else none
  | .own r g off len => if (slcOf P t).isSome = true ∧ (rowOf m (.own r g off len)).isSome = true then some len else none
  | _ => match P.underlying t with | some (.array n _) => some n | _ => none

/-- The elements of an own row are set to zero. -/
def effClear (P : Program) (m : Nat → RS) (t : TypeId) (x : D) : Option (List (Nat × RS)) :=
  match x with
  | .own r g off len =>
    match slcOf P t, live m r g with
    | some (e, k, _), some ⟨.row sz els, false⟩ =>
      match zeroV P e with
      | some z => if sz = k ∧ z.cells.length = k ∧ off + len ≤ els.length then some [setReg m r ⟨.row sz (els.take off ++ List.replicate len (z.norm (shapeOf P e)) ++ els.drop (off + len)), false⟩] else none
      | none => none
    | _, _ => none
  | _ => none

/-- What copy does: how many elements, and the row behind it. -/
def effCopy (P : Program) (m : Nat → RS) (t : TypeId) (x y : D) : Option (Nat × List (Nat × RS)) :=
  match x with
  | .own r g off len =>
    match slcOf P t, live m r g, rowOf m y with
    | some (_, k, _), some ⟨.row sz els, false⟩, some (sz', ys) =>
      if sz = k ∧ sz' = k ∧ off + len ≤ els.length then some (min ys.length len, [setReg m r ⟨.row sz (els.take off ++ ys.take (min ys.length len) ++ els.drop (off + min ys.length len)), false⟩]) else none
    | _, _, _ => none
  | _ => none

def foldInts (f : Int → Int → Int) : List D → Option V
  | [] => none
  | d :: ds =>
    match d with
    | .v (.int k n) => ds.foldlM (fun (acc : V) e => match acc, e with | .int k a, .v (.int k' b) => if k = k' then some (V.int k (f a b)) else none | _, _ => none) (.int k n)
    | _ => none

/-- What goes into a call: the deep values of the arguments; the regions that are read; those that are written; those that are taken over. -/
def argOf (m : Nat → RS) : Mode → D → Option (V × List Nat × List Nat × List Nat)
  | .rd sh, d => (deep m d).map fun x => (x.norm sh, d.rids, [], [])
  | .io sh, .ptr r g i c =>
    match live m r g with
    | some ⟨.box cs, false⟩ => if i = 0 ∧ c = 0 then (cs.mapM (deepC m)).map fun ys => ((V.agg ys).norm sh, cs.flatMap D.ridsC, [r], []) else none
    | _ => none
  | .ios, .own r g off len =>
    match live m r g with
    | some ⟨.row sz els, false⟩ => if off = 0 ∧ len = els.length then some (.sl sz els, [], [r], []) else none
    | _ => none
  | .take sz, .own r g off len =>
    match live m r g with
    | some ⟨.row sz' els, false⟩ => if off = 0 ∧ len ≤ els.length ∧ sz' = sz then some (.sl sz (els.take len), [], [], [r]) else none
    | _ => none
  | .take sz, .v .nil => some (.sl sz [], [], [], [])
  | _, _ => none
def argsOf (m : Nat → RS) : List Mode → List D → Option (List V × List Nat × List Nat × List Nat)
  | [], [] => some ([], [], [], [])
  | md :: ms, d :: ds =>
    match argOf m md d, argsOf m ms ds with
    | some (x, r1, w1, k1), some (xs, rs, ws, ks) => some (x :: xs, r1 ++ rs, w1 ++ ws, k1 ++ ks)
    | _, _ => none
  | _, _ => none

/-- The regions that a call has written. -/
def iosOf (m : Nat → RS) : List Nat → List V → Option (List (Nat × RS))
  | [], [] => some []
  | r :: ws, y :: ys =>
    match (m r).reg, y, iosOf m ws ys with
    | some ⟨.box cs, _⟩, .agg vs, some l => if vs.length = cs.length then some (setReg m r ⟨.box (vs.map .v), false⟩ :: l) else none
    | some ⟨.row sz els, _⟩, .sl sz' els', some l => if sz' = sz ∧ els'.length = els.length then some (setReg m r ⟨.row sz els', false⟩ :: l) else none
    | _, _, _ => none
  | _, _ => none

/-- The results of a call: at most one is an own row or a new variable; it is region dst. -/
def resOf (m : Nat → RS) (dst : Nat) : List RK → List V → Option (List D × List (Nat × RS))
  | [], [] => some ([], [])
  | .plain _ :: ks, x :: xs => (resOf m dst ks xs).map fun r => (.v x :: r.1, r.2)
  | .own sz :: ks, .sl sz' els :: xs =>
    match resOf m dst ks xs with
    | some (ds, []) => if sz' = sz then some (.own dst ((m dst).gen + 1) 0 els.length :: ds, [newReg m dst ⟨.row sz els, false⟩]) else none
    | _ => none
  | .new :: ks, .agg cs :: xs =>
    match resOf m dst ks xs with
    | some (ds, []) => some (.ptr dst ((m dst).gen + 1) 0 0 :: ds, [newReg m dst ⟨.box (cs.map .v), false⟩])
    | _ => none
  | _, _ => none

def packD : List D → D
  | [d] => d
  | ds => .tup ds

def effCall (m : Nat → RS) (dst : Nat) (s : Spec) (args : List D) : Option Eff :=
  match argsOf m s.modes args with
  | none => none
  | some (xs, rs, ws, ks) =>
    if (ws ++ ks).Nodup ∧ (∀ w ∈ ws ++ ks, w ∉ rs) ∧ dst ∉ ws then
      match s.fn xs with
      | none => none
      | some (ys, zs) =>
        match iosOf m ws zs, resOf m dst s.res ys with
        | some up, some (ds, new) => some ⟨packD ds, new ++ (up ++ (ks.map (killReg m) ++ (if s.fresh = true then [] else freezeAll m rs)))⟩
        | _, _ => none
    else none

def D.flat : D → Bool
  | .agg _ => false
  | .fn _ _ => false
  | .tup _ => false
  | _ => true
def fnOf : D → Option (FuncId × List D)
  | .v (.fn (.func f) caps) => some (f, caps.map .v)
  | .fn (.func f) caps => if caps.all D.flat = true then some (f, caps) else none
  | _ => none

/-- An operation. -/
def eff (P : Program) (Γ : FuncId → Option Spec) (ev : Operand → D) (m : Nat → RS) (o : Oper) : Option Eff :=
  match o.op with
  | .move x => some ⟨ev x, []⟩
  | .assign x => some ⟨ev x, []⟩
  | .pick c a b => match ev c with | .v (.bool t) => some ⟨if t then ev a else ev b, []⟩ | _ => none
  | .alloc e =>
    match o.dst, zeroV P e with
    | some t, some z => some ⟨.ptr t ((m t).gen + 1) 0 0, [newReg m t ⟨.box (z.cells.map .v), false⟩]⟩
    | _, _ => none
  | .box _ x =>
    match o.dst with
    | some t => if ((ev x).cells.all D.storable) = true then some ⟨.ptr t ((m t).gen + 1) 0 0, [newReg m t ⟨.box (ev x).cells, false⟩]⟩ else none
    | none => none
  | .build t parts =>
    match zeroV P t with
    | some z => if fieldsKnown P t then (fillD P t (z.cells.map .v) (parts.toList.map fun x => (x.1, ev x.2))).map fun cs => ⟨mkAgg cs, []⟩ else none
    | none => none
  | .buildSlice t len parts =>
    match o.dst, slcOf P t with
    | some r, some (e, k, _) =>
      match zeroV P e with
      | some z =>
        if len * k ≤ 16777216 ∧ len ≤ 16777216 ∧ z.cells.length = k ∧ r ∉ parts.toList.flatMap (fun x => (ev x.2).rids) then
          (fillRow k (shapeOf P e) m (List.replicate len (z.norm (shapeOf P e))) (parts.toList.map fun x => (x.1, ev x.2))).map fun els =>
            ⟨.own r ((m r).gen + 1) 0 len, newReg m r ⟨.row k els, false⟩ :: freezeAll m (parts.toList.flatMap fun x => (ev x.2).rids)⟩
        else none
      | none => none
    | _, _ => none
  | .load t p => (effLoad P m t (ev p)).map fun d => ⟨d, []⟩
  | .store t p x => if o.dst = none then (effStore P m t (ev p) (ev x)).map fun up => ⟨.any, up⟩ else none
  | .nilCheck x =>
    match ev x with
    | .ptr r g i c => if (live m r g).isSome then some ⟨.ptr r g i c, []⟩ else none
    | .cptr y c => some ⟨.cptr y c, []⟩
    | .v (.fn f cs) => match f with | .func _ => some ⟨.v (.fn f cs), []⟩ | _ => none
    | _ => none
  | .binOp op t x y _ => (binD P m op t (ev x) (ev y)).map fun v => ⟨.v v, []⟩
  | .unOp op _ x => match ev x with | .v a => (V.un op a).map fun v => ⟨.v v, []⟩ | _ => none
  | .convert src dst x =>
    match P.underlying src, P.underlying dst, ev x with
    | some (.int _), some (.int k), .v (.int _ n) => some ⟨.v (.int k (k.wrap n)), []⟩
    | some .string, some .string, .v (.str s) => some ⟨.v (.str s), []⟩
    | some (.slice e), some .string, d =>
      match P.underlying e with
      | some (.int .u8) =>
        match d with
        | .v .nil => some ⟨.v (.str ByteArray.empty), []⟩
        | d =>
          match rowOf m d with
          | some (1, xs) => if xs.all V.isU8 then some ⟨.v (.str ⟨(xs.map V.byte).toArray⟩), []⟩ else none
          | _ => none
      | _ => none
    | some .string, some (.slice e), .v (.str s) =>
      match P.underlying e with
      | some (.int .u8) => if s.size ≤ 9223372036854775807 then some ⟨.v (.sl 1 (strV s)), []⟩ else none
      | _ => none
    | _, _, _ => none
  | .makeFunc f first caps => if first.size = 0 then some ⟨mkFn f (caps.toList.map ev), []⟩ else none
  | .makeSlice t l c =>
    match o.dst, slcOf P t, ev l, ev c with
    | some r, some (e, k, bytes), .v (.int _ n), .v (.int _ q) =>
      match zeroV P e with
      | some z => if 0 ≤ n ∧ n ≤ q ∧ (bytes : Int) * q ≤ 281474976710656 ∧ q ≤ 9223372036854775807 ∧ z.cells.length = k then
          some ⟨.own r ((m r).gen + 1) 0 n.toNat, [newReg m r ⟨.row k (List.replicate n.toNat (z.norm (shapeOf P e))), false⟩]⟩ else none
      | none => none
    | _, _, _, _ => none
  | .slice t x lo hi mx => match mx with | none => (effSlice P m t (ev x) (lo.map ev) (hi.map ev)).map fun d => ⟨d, []⟩ | some q => (effSlice3 P t (ev x) (lo.map ev) (hi.map ev) (ev q)).map fun d => ⟨d, []⟩
  | .fieldAddr s x f =>
    match P.underlying s with
    | some (.struct fs) =>
      match fs[f]? with
      | some fd => if P.cellsOf fd.type = 0 then none else
        match ev x with
        | .ptr r g i c => if (live m r g).isSome then some ⟨.ptr r g i (c + fd.offset), []⟩ else none
        | .cptr y c => some ⟨.cptr y (c + fd.offset), []⟩
        | _ => none
      | none => none
    | _ => none
  | .field t x f =>
    match P.underlying t with
    | some (.struct fs) =>
      match fs[f]? with
      | some fd =>
        match isAggT P fd.type, ev x with
        | some agg, .v (.agg cs) => (takeV agg (P.cellsOf fd.type) fd.offset cs).map fun v => ⟨.v v, []⟩
        | some agg, .agg cs => (takeD agg (P.cellsOf fd.type) fd.offset cs).map fun d => ⟨d, []⟩
        | _, _ => none
      | none => none
    | _ => none
  | .indexAddr t x i => (effIndexAddr P m t (ev x) (ev i)).map fun d => ⟨d, []⟩
  | .index t x i =>
    match P.underlying t, ev x, intOfD (ev i) with
    | some .string, .v (.str s), some n => if 0 ≤ n ∧ n < (s.size : Int) then (s.data.toList[n.toNat]?).map fun b => ⟨.v (.int .u8 b.toNat), []⟩ else none
    | some (.array len e), .v (.agg cs), some n =>
      if 0 ≤ n ∧ n < (len : Int) then
        match isAggT P e with
        | some agg => (takeV agg (P.cellsOf e) (n.toNat * P.cellsOf e) cs).map fun v => ⟨.v v, []⟩
        | none => none
      else none
    | _, _, _ => none
  | .extract x i => match ev x with | .tup ds => (ds[i]?).map fun d => ⟨d, []⟩ | _ => none
  | .call c =>
    match c.callee with
    | .builtin .len => match c.args.toList, c.argTypes.toList with | [x], [t] => (effLen P m t (ev x)).map fun n => ⟨.v (.int .i64 n), []⟩ | _, _ => none
    | .builtin .append => match o.dst, c.args.toList, c.argTypes.toList with | some r, [s, x], [ts, tx] => effAppend P m r ts tx (ev s) (ev x) | _, _, _ => none
    | .builtin .min => (foldInts (fun a b => if b < a then b else a) (c.args.toList.map ev)).map fun v => ⟨.v v, []⟩
    | .builtin .max => (foldInts (fun a b => if b > a then b else a) (c.args.toList.map ev)).map fun v => ⟨.v v, []⟩
    | .builtin .clear => match o.dst, c.args.toList, c.argTypes.toList with | none, [x], [t] => (effClear P m t (ev x)).map fun up => ⟨.tup [], up⟩ | _, _, _ => none
    | .builtin .copy => match c.args.toList, c.argTypes.toList with | [x, y], [t, _] => (effCopy P m t (ev x) (ev y)).map fun e => ⟨.v (.int .i64 e.1), e.2⟩ | _, _ => none
    | .value fo =>
      match o.dst, fnOf (ev fo) with
      | some r, some (f, caps) => (Γ f).bind fun s => effCall m r s (c.args.toList.map ev ++ caps)
      | _, _ => none
    | _ => none
  | _ => none

def upd (m : Nat → RS) : List (Nat × RS) → Nat → RS
  | [], r => m r
  | (k, x) :: l, r => if r = k then x else upd m l r

def St.put (S : St) (dst : Option Nat) (d : D) : St :=
  match dst with
  | some t => ⟨fun u => if u = t then d else S.f u, S.m⟩
  | none => S
def St.setM (S : St) (up : List (Nat × RS)) : St :=
  match up with
  | [] => S
  | l => ⟨S.f, upd S.m l⟩
def St.app (S : St) (dst : Option Nat) (E : Eff) : St := (S.put dst E.d).setM E.up

end Go.Proofs.YtdhdhcllgkddnaaGreat.Va

namespace Go.Proofs.YtdhdhcllgkddnaaGreat.Va
open Go Go.RowKit

/-- Is the operation carried out? -/
def wants (ops : List Oper) (S : St) (o : Oper) : Option Bool :=
  match o.guard with
  | none => some true
  | some (j, b) =>
    match (ops[j]?).bind (·.dst) with
    | none => some false
    | some d =>
      match S.f d with
      | .v (.bool x) => some (x == b)
      | .tup [] => some false
      | _ => none

def stepS (P : Program) (Γ : FuncId → Option Spec) (ops : List Oper) (S : St) (o : Oper) : Option St :=
  match wants ops S o with
  | some true => (eff P Γ S.ev S.m o).map (S.app o.dst)
  | some false => some (S.put o.dst (.tup []))
  | none => none

def runOps (P : Program) (Γ : FuncId → Option Spec) (ops : List Oper) : List Oper → St → Option St
  | [], S => some S
  | o :: rest, S => (stepS P Γ ops S o).bind (runOps P Γ ops rest)

/-- Operations that touch nothing but their own slot, and read no region that turns. -/
def calm1 (o : Oper) : Bool :=
  o.dst.isSome &&
  match o.op with
  | .move _ | .assign _ | .pick _ _ _ | .build _ _ | .load _ _ | .nilCheck _ | .binOp _ _ _ _ _ | .unOp _ _ _ | .convert _ _ _ | .slice _ _ _ _ _ | .fieldAddr _ _ _ | .field _ _ _ | .indexAddr _ _ _ | .index _ _ _ | .extract _ _ => true
  | .call c => match c.callee with | .builtin .len | .builtin .min | .builtin .max => true | _ => false
  | _ => false

/-- What K says of the state that is come to. -/
def Got (o : Option St) (K : St → Prop) : Prop :=
  match o with
  | some S => K S
  | none => False

section
variable {P : Program} {Γ : FuncId → Option Spec} {S : St}
@[simp] theorem Got_some (K : St → Prop) : Got (some S) K = K S := rfl
@[simp] theorem put_f (t u : Nat) (d : D) : (S.put (some t) d).f u = if u = t then d else S.f u := rfl
@[simp] theorem put_m (t : Nat) (d : D) : (S.put (some t) d).m = S.m := rfl
@[simp] theorem put_none (d : D) : S.put none d = S := rfl
@[simp] theorem setM_nil : S.setM [] = S := rfl
@[simp] theorem setM_f (l : List (Nat × RS)) : (S.setM l).f = S.f := by cases l <;> rfl
@[simp] theorem setM_m (l : List (Nat × RS)) : (S.setM l).m = upd S.m l := by cases l <;> rfl
@[simp] theorem upd_nil (m : Nat → RS) : upd m [] = m := rfl
@[simp] theorem upd_cons (m : Nat → RS) (k r : Nat) (x : RS) (l : List (Nat × RS)) : upd m ((k, x) :: l) r = if r = k then x else upd m l r := rfl
@[simp] theorem ev_tmp (t : Nat) : S.ev (.tmp t) = S.f t := rfl
@[simp] theorem ev_func (f : FuncId) : S.ev (.func f) = .v (.fn (.func f) []) := rfl
@[simp] theorem ev_int (k : IntKind) (n : Int) : S.ev (.const (.int k n)) = .v (.int k n) := rfl
@[simp] theorem ev_bool (b : Bool) : S.ev (.const (.bool b)) = .v (.bool b) := rfl
@[simp] theorem ev_str (s : ByteArray) : S.ev (.const (.string s)) = .v (.str s) := rfl
@[simp] theorem ev_nil : S.ev (.const (.slice none 0 0)) = .v .nil := rfl
@[simp] theorem runOps_nil (ops : List Oper) : runOps P Γ ops [] S = some S := rfl
@[simp] theorem runOps_cons (ops : List Oper) (o : Oper) (rest : List Oper) : runOps P Γ ops (o :: rest) S = (stepS P Γ ops S o).bind (runOps P Γ ops rest) := rfl
@[simp] theorem stepS_plain (ops : List Oper) (dst : Option Tmp) (op : Op) (ty : TypeId) (pos : String) (after : Array Edge) :
    stepS P Γ ops S ⟨dst, op, ty, pos, after, none⟩ = (eff P Γ S.ev S.m ⟨dst, op, ty, pos, after, none⟩).map (S.app dst) := rfl
@[simp] theorem live_now (m : Nat → RS) (r : Nat) : live m r (m r).gen = (m r).reg := by simp [live]
end
end Go.Proofs.YtdhdhcllgkddnaaGreat.Va

namespace Go.Proofs.YtdhdhcllgkddnaaGreat.Va
open Go Go.RowKit

variable {O : Org} {S S' : St} {n : Nat} {a : Act} {w w' : World} {F F' : Nat → Prop} {L L' : Lay} {P : Program}

theorem live_reg {m : Nat → RS} {r g : Nat} {reg : Reg} (h : live m r g = some reg) : (m r).gen = g ∧ (m r).reg = some reg := by
  unfold live at h; split at h
  · exact ⟨by assumption, h⟩
  · cases h

theorem MLe.refl (m : Nat → RS) (L : Lay) (h : ∀ r reg sz els, (m r).reg = some reg → reg.body = .row sz els → els.length ≤ L.cap r) : MLe m L m L :=
  ⟨fun _ => Nat.le_refl _, fun r _ reg' sz els' _ hl hb => ⟨reg', els', hl, hb, Nat.le_refl _, h r reg' sz els' (live_reg hl).2 hb, rfl, rfl⟩, fun _ _ reg' cs' _ hl hb => ⟨reg', cs', hl, hb, rfl⟩⟩

theorem Sim.rowLe (h : Sim O S n a w F L) {r : Nat} {reg : Reg} {sz : Nat} {els : List V} (hr : (S.m r).reg = some reg) (hb : reg.body = .row sz els) : els.length ≤ L.cap r := by
  have := h.regs r reg hr
  unfold RegOk at this
  rw [hb] at this
  exact this.1

theorem Sim.mle (h : Sim O S n a w F L) : MLe S.m L S.m L := MLe.refl _ _ fun _ _ _ _ hr hb => h.rowLe hr hb

theorem RegOk.mono {m m' : Nat → RS} (hk : Keeps F w w') (hF : ∀ b, F b → F' b) (hm : MLe m L m' L') {r : Nat} {reg : Reg} (h : RegOk w F m L r reg) (hb : L'.base r = L.base r) (hc : L'.cap r = L.cap r)
    (hblk : ∀ b, blk L r reg = some b → w'.heap[b]? = w.heap[b]? ∧ ¬ F' b) : RegOk w' F' m' L' r reg := by
  obtain ⟨body, frozen⟩ := reg
  cases body with
  | row sz els =>
    simp only [RegOk] at h ⊢
    rw [hb, hc]
    obtain ⟨h1, h2, h3, h4⟩ := h
    refine ⟨h1, h2, h3, ?_⟩
    rcases h4 with h4 | ⟨g, cur, ty, h5, h6, h7, h8, h9⟩
    · exact .inl h4
    · by_cases h0 : L.cap r = 0
      · exact .inl h0
      · refine .inr ⟨g, cur, ty, h5, ?_, ?_, h8, fun i c x y hx hy => ?_⟩
        · by_cases hfz : frozen = true
          · rw [hk g (h7.2 hfz)]; exact h6
          · rw [(hblk g (by simp [blk, hfz, h0, h5])).1]; exact h6
        · by_cases hfz : frozen = true
          · exact ⟨fun _ => hfz, fun _ => hF _ (h7.2 hfz)⟩
          · exact ⟨fun hf => absurd hf (hblk g (by simp [blk, hfz, h0, h5])).2, fun hf => absurd hf hfz⟩
        · obtain ⟨u, hu1, hu2, hu3⟩ := h9 i c x y hx hy
          exact ⟨u, hu1, hu2, hu3.mono hk hF⟩
  | box cs =>
    simp only [RegOk] at h ⊢
    obtain ⟨g, cur, ty, h5, h6, h7, h8, h9⟩ := h
    refine ⟨g, cur, ty, by rw [hb]; exact h5, ?_, ?_, h8, fun c d hd => ?_⟩
    · by_cases hfz : frozen = true
      · rw [hk g (h7.2 hfz)]; exact h6
      · rw [(hblk g (by simp [blk, hfz, h5])).1]; exact h6
    · by_cases hfz : frozen = true
      · exact ⟨fun _ => hfz, fun _ => hF _ (h7.2 hfz)⟩
      · exact ⟨fun hf => absurd hf (hblk g (by simp [blk, hfz, h5])).2, fun hf => absurd hf hfz⟩
    · obtain ⟨u, hu1, hu2, hu3⟩ := h9 c d hd
      exact ⟨u, hu1, hu2, hu3.mono hk hF hm⟩

theorem blk_lt {r : Nat} {reg : Reg} (h : RegOk w F S.m L r reg) {b : Nat} (hb : blk L r reg = some b) : b < w.heap.size := by
  obtain ⟨body, frozen⟩ := reg
  unfold blk at hb
  split at hb
  · cases hb
  · cases body with
    | row sz els =>
      simp only [RegOk] at h
      obtain ⟨_, _, _, h4⟩ := h
      simp only at hb
      split at hb
      · cases hb
      · rename_i h0
        obtain ⟨g, cur, ty, h5, h6, _⟩ := h4.resolve_left h0
        rw [h5] at hb
        simp at hb
        subst hb
        exact (Array.getElem?_eq_some_iff.1 h6).1
    | box cs =>
      simp only [RegOk] at h
      obtain ⟨g, cur, ty, h5, h6, _⟩ := h
      rw [h5] at hb
      simp at hb
      subst hb
      exact (Array.getElem?_eq_some_iff.1 h6).1

theorem blk_not_F {r : Nat} {reg : Reg} (h : RegOk w F S.m L r reg) {b : Nat} (hb : blk L r reg = some b) : ¬ F b := by
  obtain ⟨body, frozen⟩ := reg
  unfold blk at hb
  split at hb
  · cases hb
  · rename_i hfz
    cases body with
    | row sz els =>
      simp only [RegOk] at h
      obtain ⟨_, _, _, h4⟩ := h
      simp only at hb
      split at hb
      · cases hb
      · rename_i h0
        obtain ⟨g, cur, ty, h5, h6, h7, _⟩ := h4.resolve_left h0
        rw [h5] at hb
        simp at hb
        subst hb
        intro hF; exact hfz (h7.1 hF)
    | box cs =>
      simp only [RegOk] at h
      obtain ⟨g, cur, ty, h5, h6, h7, _⟩ := h
      rw [h5] at hb
      simp at hb
      subst hb
      intro hF; exact hfz (h7.1 hF)

/-- One step: X: the blocks that turn; Y: those that are not written any more. -/
theorem Sim.step (h : Sim O S n a w F L) (X Y : Nat → Prop) (hf : S'.f = S.f) (hos : w'.os = w.os) (htape : w'.tape = w.tape) (hout : w'.output = w.output) (hsz : w.heap.size ≤ w'.heap.size)
    (hX : ∀ b, b < w.heap.size → ¬ X b → w'.heap[b]? = w.heap[b]?) (hXF : ∀ b, X b → ¬ F b) (hXold : ∀ b, X b → b < O.w0.heap.size → b ∈ O.M)
    (hF : ∀ b, F b → F' b) (hF' : ∀ b, F' b → F b ∨ Y b ∨ w.heap.size ≤ b) (hFlt : ∀ b, F' b → b < w'.heap.size) (hYold : ∀ b, Y b → b < O.w0.heap.size → b ∈ O.M)
    (hm : MLe S.m L S'.m L')
    (hr : ∀ r reg', (S'.m r).reg = some reg' → RegOk w' F' S'.m L' r reg' ∨ ((S.m r).reg = some reg' ∧ L'.base r = L.base r ∧ L'.cap r = L.cap r ∧ ∀ b, blk L r reg' = some b → ¬ X b ∧ ¬ Y b))
    (hmine : ∀ r reg b, (S'.m r).reg = some reg → blk L' r reg = some b → b < O.w0.heap.size → b ∈ O.M)
    (hi : ∀ r r' reg reg' b, (S'.m r).reg = some reg → (S'.m r').reg = some reg' → blk L' r reg = some b → blk L' r' reg' = some b → r = r') : Sim O S' n a w' F' L' := by
  have hk : Keeps F w w' := fun b hb => hX b (h.Flt b hb) fun hx => hXF b hx hb
  refine ⟨hos.trans h.os, htape.trans h.tape, hout.trans h.output, Nat.le_trans h.size0 hsz, fun b hb hM => ?_, fun b hb => hF b (h.F0 b hb), fun b hb hF1 hM => ?_, hFlt, h.defers, h.tmps, fun t => ?_, fun r reg hreg => ?_, hmine, hi, fun p hp => (h.pins p hp).mono hk hF hm⟩
  · rw [hX b (Nat.lt_of_lt_of_le hb h.size0) fun hx => hM (hXold b hx hb)]
    exact h.old b hb hM
  · rcases hF' b hF1 with h1 | h1 | h1
    · exact h.Fold b hb h1 hM
    · exact absurd (hYold b h1 hb) hM
    · have := h.size0; omega
  · rw [hf]
    exact (h.frame t).mono hk hF hm
  · rcases hr r reg hreg with h1 | ⟨h1, h2, h3, h4⟩
    · exact h1
    · refine RegOk.mono hk hF hm (h.regs r reg h1) h2 h3 fun b hb => ?_
      have hlt := blk_lt (h.regs r reg h1) hb
      have hnF := blk_not_F (h.regs r reg h1) hb
      obtain ⟨h5, h6⟩ := h4 b hb
      refine ⟨hX b hlt h5, fun hf' => ?_⟩
      rcases hF' b hf' with h7 | h7 | h7
      · exact hnF h7
      · exact h6 h7
      · omega

/-- The world has drawn. -/
theorem Sim.drew (h : Sim O S n a w F L) : Sim O S n a w.drew F L := by
  have hk : Keeps F w w.drew := fun _ _ => rfl
  exact ⟨h.os, h.tape, h.output, h.size0, h.old, h.F0, h.Fold, h.Flt, h.defers, h.tmps, fun t => (h.frame t).mono hk (fun _ hb => hb) h.mle,
    fun r reg hr => (h.regs r reg hr).mono hk (fun _ hb => hb) h.mle rfl rfl fun _ hb => ⟨rfl, blk_not_F (h.regs r reg hr) hb⟩, h.mine, h.inj, fun p hp => (h.pins p hp).mono hk (fun _ hb => hb) h.mle⟩

/-- A slot is written. -/
theorem Sim.put (h : Sim O S n a w F L) {t : Nat} (ht : t < n) {d : D} {v : Value} (hd : RD w F S.m L d v) : Sim O (S.put (some t) d) n (a.put (some t) v) w F L := by
  refine ⟨h.os, h.tape, h.output, h.size0, h.old, h.F0, h.Fold, h.Flt, h.defers, by simp [Act.put, h.tmps], fun u => ?_, h.regs, h.mine, h.inj, h.pins⟩
  simp only [put_f, put_m, Act.put]
  by_cases hu : u = t
  · subst hu
    rw [if_pos rfl]
    have : (a.tmps.setIfInBounds u v).getD u undef = v := by
      simp [Array.getD_eq_getD_getElem?, h.tmps, ht]
    rw [this]; exact hd
  · rw [if_neg hu]
    have : (a.tmps.setIfInBounds t v).getD u undef = a.tmps.getD u undef := by
      simp [Array.getD_eq_getD_getElem?, Ne.symm hu]
    rw [this]; exact h.frame u

theorem RV.ofCell (u : Value) (hu : u.oneCell' = true) : RV w F (V.ofCell u) u := by
  unfold V.ofCell
  split
  · exact .int _ _
  · exact .bool _
  · exact .str _
  · exact .nil
  · exact .raw _ hu

theorem RV.ofValue (v : Value) (hp : plainV v = true) : RV w F (V.ofValue v) v := by
  cases v with
  | agg cs =>
    have hp' : ∀ u ∈ cs.toList, u.oneCell' = true := by
      simpa only [plainV, List.all_eq_true] using hp
    have := RV.agg (w := w) (F := F) (cs.toList.map V.ofCell) cs.toList (by simp) hp' (by
      intro i y u hy hu
      rw [List.getElem?_map, hu] at hy
      simp at hy
      subst hy
      exact RV.ofCell u (hp' u (List.mem_of_getElem? hu)))
    simpa [V.ofValue] using this
  | tuple vs => simp [plainV] at hp
  | _ => simp only [V.ofValue]; exact RV.ofCell _ rfl

theorem Sim.ev (h : Sim O S n a w F L) (x : Operand) : RD w F S.m L (S.ev x) (a.eval x) := by
  cases x with
  | tmp t => exact h.frame t
  | const v =>
    simp only [St.ev, Act.eval, constD]
    split
    · rename_i hp
      exact .v (RV.ofValue v hp)
    · exact .any _
  | global g => exact .any _
  | func f => exact .v (.fn (.func f) [] [] rfl (by simp))

end Go.Proofs.YtdhdhcllgkddnaaGreat.Va

namespace Go.Proofs.YtdhdhcllgkddnaaGreat.Va
open Go Go.RowKit

variable {O : Org} {S S' : St} {n : Nat} {a : Act} {w w' : World} {F F' : Nat → Prop} {L L' : Lay} {P : Program} {m : Nat → RS}

theorem RD.v_inv {x : V} {v : Value} (h : RD w F m L (.v x) v) : RV w F x v := by cases h; assumption
theorem RV.int_inv {k : IntKind} {i : Int} {v : Value} (h : RV w F (.int k i) v) : v = .int k i := by cases h; rfl
theorem RV.bool_inv {b : Bool} {v : Value} (h : RV w F (.bool b) v) : v = .bool b := by cases h; rfl
theorem RV.str_inv {s : ByteArray} {v : Value} (h : RV w F (.str s) v) : v = .string s := by cases h; rfl
theorem RV.nil_inv {v : Value} (h : RV w F .nil v) : v = .slice none 0 0 := by cases h; rfl
theorem RD.int_inv {k : IntKind} {i : Int} {v : Value} (h : RD w F m L (.v (.int k i)) v) : v = .int k i := h.v_inv.int_inv
theorem RD.bool_inv {b : Bool} {v : Value} (h : RD w F m L (.v (.bool b)) v) : v = .bool b := h.v_inv.bool_inv
theorem RD.str_inv {s : ByteArray} {v : Value} (h : RD w F m L (.v (.str s)) v) : v = .string s := h.v_inv.str_inv

/-- A step that answers a value and turns nothing. -/
theorem wp_value {o : Oper} {v : Value} {K : Act → World → Prop} {Q : Exit → Act → World → Prop} (hr : (execOp a.eval o).run P w = .ok (.value v) w') (hK : K (a.put o.dst v) w') : o.wp P a w K Q := by
  unfold Oper.wp
  rw [hr]
  exact hK

theorem Sim.putO (h : Sim O S n a w F L) {dst : Option Nat} (ht : ∀ t, dst = some t → t < n) {d : D} {v : Value} (hd : RD w F S.m L d v) : Sim O (S.put dst d) n (a.put dst v) w F L := by
  cases dst with
  | none => exact h
  | some t => exact h.put (ht t rfl) hd

theorem run_bin {op : BinOp} {x y z : V} {vx vy : Value} (t : TypeId) (ox oy : Operand) (hz : V.bin op x y = some z) (hx : RV w F x vx) (hy : RV w F y vy) :
    (eqGuard op t ox oy vx vy).run P w = .ok () w ∧ ∃ vz, (binOp op t vx vy).run P w = .ok vz w ∧ RV w F z vz := by
  unfold V.bin at hz
  split at hz
  · rename_i k i k' j
    obtain rfl := hx.int_inv
    obtain rfl := hy.int_inv
    rw [eqGuard_at_int]
    refine ⟨rfl, ?_⟩
    cases op <;> simp only at hz <;> (try split at hz) <;> simp only [Option.some.injEq, reduceCtorEq] at hz <;> subst hz <;> (try (rename_i hk; subst hk)) <;> (try (rename_i hk; obtain ⟨rfl, hk⟩ := hk))
    all_goals first
      | (refine ⟨_, ?_, .int _ _⟩; simp [binOp, Op.intArith]; done)
      | (refine ⟨_, ?_, .int _ _⟩; simp [binOp, Op.intDiv, *]; done)
      | (refine ⟨_, ?_, .int _ _⟩; simp [binOp, Op.intBits, bits]; done)
      | (refine ⟨_, ?_, .bool _⟩; simp [binOp, Op.intCmp]; done)
      | (refine ⟨_, ?_, .int _ _⟩; simp [binOp, Op.shift, *]; done)
  · rename_i s r
    obtain rfl := hx.str_inv
    obtain rfl := hy.str_inv
    rw [eqGuard_at_string]
    refine ⟨rfl, ?_⟩
    cases op <;> simp only at hz <;> (try split at hz) <;> simp only [Option.some.injEq, reduceCtorEq] at hz <;> subst hz
    all_goals first
      | (refine ⟨_, ?_, .bool _⟩; simp [binOp, Op.stringOp]; done)
      | (refine ⟨_, ?_, .str _⟩; simp [binOp, Op.stringOp]; omega)
  · cases hz

/-- The slice value v reads as the elements xs: its address, its capacity, its cells. -/
structure Row (w : World) (F : Nat → Prop) (sz : Nat) (xs : List V) (v : Value) (ad : Option Addr) (cap : Nat) (us : List Value) : Prop where
  val : v = .slice ad xs.length cap
  le : xs.length ≤ cap
  max : cap ≤ maxLen
  len : us.length = xs.length * sz
  sizes : ∀ x ∈ xs, x.cells.length = sz
  one : ∀ u ∈ us, u.oneCell' = true
  cell : ∀ b, ad = some b → ∀ j u, us[j]? = some u → w.cell? (b.add j) = some u
  none : ad = none → xs = []
  at_ : ∀ (i c : Nat) (x y : V), xs[i]? = some x → x.cells[c]? = some y → ∃ u, us[i * sz + c]? = some u ∧ RV w F y u

theorem idx_lt {i c k sz : Nat} (hi : i < k) (hc : c < sz) : i * sz + c < k * sz := by
  have : (i + 1) * sz ≤ k * sz := Nat.mul_le_mul_right _ hi
  rw [Nat.add_mul] at this; omega

theorem row_sl {sz : Nat} {xs : List V} {v : Value} (h : RV w F (.sl sz xs) v) : ∃ ad cap us, Row w F sz xs v ad cap us ∧ (∀ b, ad = some b → xs ≠ [] → F b.block) := by
  cases h with
  | sl0 => exact ⟨none, 0, [], ⟨rfl, by simp, by simp [maxLen], by simp, by simp, by simp, by simp, by simp, by simp⟩, by simp⟩
  | sl _ _ ad cap u hF hcap hmax hsz hc h1 hr =>
    have key : ∀ j, j < xs.length * sz → ∃ x y, xs[j / sz]? = some x ∧ x.cells[j % sz]? = some y := by
      intro j hj
      have h0 : 0 < sz := by
        rcases Nat.eq_zero_or_pos sz with h | h
        · subst h; omega
        · exact h
      have hi : j / sz < xs.length := (Nat.div_lt_iff_lt_mul h0).2 hj
      have hcl := hsz xs[j / sz] (List.getElem_mem hi)
      have hm := Nat.mod_lt j h0
      exact ⟨xs[j / sz], xs[j / sz].cells[j % sz]'(by omega), List.getElem?_eq_getElem hi, List.getElem?_eq_getElem (by omega)⟩
    refine ⟨some ad, cap, (List.range (xs.length * sz)).map fun j => u (j / sz) (j % sz), ⟨rfl, hcap, hmax, by simp, hsz, ?_, ?_, by simp, ?_⟩, fun b hb hne => by cases hb; exact hF hne⟩
    · intro z hz
      obtain ⟨j, hj, rfl⟩ := List.mem_map.1 hz
      obtain ⟨x, y, hx, hy⟩ := key j (List.mem_range.1 hj)
      exact h1 _ _ x y hx hy
    · intro b hb j z hz
      cases hb
      rw [List.getElem?_map] at hz
      rcases Nat.lt_or_ge j (xs.length * sz) with hj | hj
      · rw [List.getElem?_range hj] at hz
        simp at hz
        subst hz
        obtain ⟨x, y, hx, hy⟩ := key j hj
        have := hc _ _ x y hx hy
        rw [Nat.div_add_mod'] at this
        exact this
      · rw [List.getElem?_eq_none (by simpa using hj)] at hz; simp at hz
    · intro i c x y hx hy
      have hi := (List.getElem?_eq_some_iff.1 hx).1
      have hcl := hsz x (List.mem_of_getElem? hx)
      have hcy := (List.getElem?_eq_some_iff.1 hy).1
      have hlt : i * sz + c < xs.length * sz := idx_lt hi (by omega)
      refine ⟨u i c, ?_, hr i c x y hx hy⟩
      rw [List.getElem?_map, List.getElem?_range hlt]
      have h0 : 0 < sz := by omega
      have e1 : (i * sz + c) / sz = i := by rw [Nat.add_comm, Nat.add_mul_div_right _ _ h0, Nat.div_eq_of_lt (by omega)]; simp
      have e2 : (i * sz + c) % sz = c := by rw [Nat.add_comm, Nat.add_mul_mod_self_right, Nat.mod_eq_of_lt (by omega)]
      simp [e1, e2]

theorem row_own (h : Sim O S n a w F L) {r g off len : Nat} {v : Value} (hd : RD w F S.m L (.own r g off len) v) {sz : Nat} {els : List V} {fz : Bool} (hl : live S.m r g = some ⟨.row sz els, fz⟩) :
    off + len ≤ els.length ∧ ∃ ad us, Row w F sz ((els.drop off).take len) v ad (L.cap r - off) us ∧ (off < L.cap r → ad = (L.base r).map (·.add (off * sz))) := by
  cases hd with
  | own _ _ _ _ _ hg h1 hh =>
    obtain ⟨h2, h3, ad, h4, h5⟩ := hh _ sz els hl rfl
    have hr := h.regs r _ (live_reg hl).2
    simp only [RegOk] at hr
    obtain ⟨_, hmax, hsz, hblk⟩ := hr
    have hlen : ((els.drop off).take len).length = len := by simp; omega
    refine ⟨h2, ad, ?_⟩
    by_cases h0 : len = 0
    · subst h0
      refine ⟨[], ⟨by simp [h4], by simp, by omega, by simp, by simp, by simp, by simp, by simp, by simp⟩, h5⟩
    · have hcap : L.cap r ≠ 0 := by omega
      obtain ⟨b, cur, ty, hb, hw, _, hcs, hat⟩ := hblk.resolve_left hcap
      have had := h5 (by omega)
      rw [hb] at had
      simp only [Option.map_some] at had
      refine ⟨(cur.toList.drop (off * sz)).take (len * sz), ⟨by rw [h4, hlen], by rw [hlen]; omega, by omega, ?_, ?_, ?_, ?_, ?_, ?_⟩, h5⟩
      · rw [hlen, List.length_take, List.length_drop, Array.length_toList, hcs]
        have : off * sz + len * sz ≤ L.cap r * sz := by rw [← Nat.add_mul]; exact Nat.mul_le_mul_right _ (by omega)
        omega
      · intro x hx
        exact hsz x (List.mem_of_mem_drop (List.mem_of_mem_take hx))
      · intro u hu
        obtain ⟨j, hj⟩ := List.mem_iff_getElem?.1 hu
        rw [List.getElem?_take] at hj
        split at hj
        · rename_i hjl
          rw [List.getElem?_drop] at hj
          have hs0 : 0 < sz := by
            rcases Nat.eq_zero_or_pos sz with h | h
            · subst h; omega
            · exact h
          have hi : off + j / sz < els.length := by
            have : j / sz < len := (Nat.div_lt_iff_lt_mul hs0).2 hjl
            omega
          have hcl := hsz els[off + j / sz] (List.getElem_mem hi)
          have hm := Nat.mod_lt j hs0
          obtain ⟨u', hu1, hu2, _⟩ := hat (off + j / sz) (j % sz) _ (els[off + j / sz].cells[j % sz]'(by omega)) (List.getElem?_eq_getElem hi) (List.getElem?_eq_getElem (by omega))
          have e : (off + j / sz) * sz + j % sz = off * sz + j := by
            rw [Nat.add_mul, Nat.add_assoc, Nat.div_add_mod']
          rw [e] at hu1
          rw [← Array.getElem?_toList, hj] at hu1
          cases hu1
          exact hu2
        · cases hj
      · intro b' hb' j u hj
        rw [had] at hb'
        cases hb'
        rw [List.getElem?_take] at hj
        split at hj
        · rw [List.getElem?_drop] at hj
          rw [add_add, Addr.add_lit, cell_of_row w b _ cur ty (0, 0) hw]
          rw [← Array.getElem?_toList]
          simpa using hj
        · cases hj
      · intro hn; rw [had] at hn; cases hn
      · intro i c x y hx hy
        rw [List.getElem?_take] at hx
        split at hx
        · rename_i hil
          rw [List.getElem?_drop] at hx
          obtain ⟨u, hu1, _, hu3⟩ := hat (off + i) c x y hx hy
          have hcl := hsz x (List.mem_of_getElem? hx)
          have hcy := (List.getElem?_eq_some_iff.1 hy).1
          refine ⟨u, ?_, hu3⟩
          rw [List.getElem?_take, if_pos (idx_lt hil (by omega)), List.getElem?_drop, Array.getElem?_toList]
          rw [show off * sz + (i * sz + c) = (off + i) * sz + c by rw [Nat.add_mul]; omega]
          exact hu1
        · cases hx

end Go.Proofs.YtdhdhcllgkddnaaGreat.Va

namespace Go.Proofs.YtdhdhcllgkddnaaGreat.Va
open Go Go.RowKit

variable {O : Org} {S S' : St} {n : Nat} {a : Act} {w w' : World} {F F' : Nat → Prop} {L L' : Lay} {P : Program}

theorem Sim.row (h : Sim O S n a w F L) {d : D} {v : Value} (hd : RD w F S.m L d v) {sz : Nat} {xs : List V} (hr : rowOf S.m d = some (sz, xs)) :
    ∃ ad cap us, Row w F sz xs v ad cap us := by
  unfold rowOf at hr
  split at hr
  · simp only [Option.some.injEq, Prod.mk.injEq] at hr
    obtain ⟨rfl, rfl⟩ := hr
    obtain ⟨ad, cap, us, h1, _⟩ := row_sl hd.v_inv
    exact ⟨ad, cap, us, h1⟩
  · simp only [Option.some.injEq, Prod.mk.injEq] at hr
    obtain ⟨rfl, rfl⟩ := hr
    have hv := hd.v_inv
    cases hv with
    | ne _ ad cap hmax => exact ⟨some ad, cap, [], ⟨rfl, Nat.zero_le _, hmax, by simp, by simp, by simp, by simp, by simp, by simp⟩⟩
  · split at hr
    · rename_i r g off len sz' els fz hl
      simp only [Option.some.injEq, Prod.mk.injEq] at hr
      obtain ⟨rfl, rfl⟩ := hr
      obtain ⟨_, ad, us, h1, _⟩ := row_own h hd hl
      exact ⟨ad, _, us, h1⟩
    · cases hr
  · cases hr

theorem Sim.isNil (h : Sim O S n a w F L) {d : D} {v : Value} (hd : RD w F S.m L d v) {b : Bool} (hb : d.isNil S.m = some b) : ∃ ad l c, v = .slice ad l c ∧ ad.isNone = b := by
  unfold D.isNil at hb
  split at hb
  · cases hb
    have := hd.v_inv.nil_inv
    exact ⟨none, 0, 0, this, rfl⟩
  · rename_i sz xs
    split at hb
    · cases hb
    · cases hb
      obtain ⟨ad, cap, us, hr, _⟩ := row_sl hd.v_inv
      refine ⟨ad, _, cap, hr.val, ?_⟩
      cases ad with
      | none => have := hr.none rfl; subst this; simp at *
      | some _ => rfl
  · cases hb
    have hv := hd.v_inv
    cases hv with
    | ne _ ad cap hmax => exact ⟨some ad, 0, cap, rfl, rfl⟩
  · rename_i r g off len
    split at hb
    · cases hb
    · rename_i hne
      cases hb
      simp only [not_or] at hne
      obtain ⟨hl0, hs⟩ := hne
      cases hro : rowOf S.m (.own r g off len) with
      | none => simp [hro] at hs
      | some x =>
        obtain ⟨sz, xs⟩ := x
        have hr' := hro
        unfold rowOf at hr'
        simp only at hr'
        split at hr'
        · rename_i sz' els fz hl
          simp only [Option.some.injEq, Prod.mk.injEq] at hr'
          obtain ⟨rfl, rfl⟩ := hr'
          obtain ⟨hle, ad, us, hrow, _⟩ := row_own h hd hl
          refine ⟨ad, _, _, hrow.val, ?_⟩
          cases ad with
          | none =>
            have h1 := hrow.none rfl
            have h2 := congrArg List.length h1
            simp at h2
            omega
          | some _ => rfl
        · cases hr'
  · cases hb

theorem slc_inv {t e : TypeId} {k by_ : Nat} (h : slcOf P t = some (e, k, by_)) : P.underlying t = some (.slice e) ∧ k = P.cellsOf e ∧ by_ = P.bytesOf e ∧ ∃ i z, P.info? e = some i ∧ i.zero = some z ∧ z.cells.size = i.size := by
  unfold slcOf at h
  split at h
  · rename_i e' hu
    split at h
    · rename_i hok
      simp only [Option.some.injEq, Prod.mk.injEq] at h
      obtain ⟨rfl, rfl, rfl⟩ := h
      refine ⟨hu, rfl, rfl, ?_⟩
      unfold elemOk at hok
      split at hok
      · rename_i i hi
        split at hok
        · rename_i z hz
          exact ⟨i, z, hi, hz, by simpa using hok⟩
        · cases hok
      · cases hok
    · cases h
  · cases h
theorem slc_size {t e : TypeId} {k by_ : Nat} (h : slcOf P t = some (e, k, by_)) (w : World) : (sizeOf e).run P w = .ok k w := by
  obtain ⟨_, rfl, _, i, z, hi, _⟩ := slc_inv h
  simp [sizeOf, typeInfo, hi, Program.cellsOf]
theorem str_inv {t : TypeId} (h : isStrT P t = true) : P.underlying t = some .string := by
  unfold isStrT at h
  split at h
  · assumption
  · cases h

theorem Sim.binD (h : Sim O S n a w F L) {op : BinOp} {t : TypeId} {x y : D} {z : V} {vx vy : Value} (ox oy : Operand) (hz : Va.binD P S.m op t x y = some z) (hx : RD w F S.m L x vx) (hy : RD w F S.m L y vy) :
    (eqGuard op t ox oy vx vy).run P w = .ok () w ∧ ∃ vz, (binOp op t vx vy).run P w = .ok vz w ∧ RV w F z vz := by
  unfold Va.binD at hz
  split at hz
  · rename_i p q
    obtain rfl := hx.bool_inv
    obtain rfl := hy.bool_inv
    rw [eqGuard_at_bool]
    refine ⟨rfl, ?_⟩
    split at hz
    · rename_i hbt
      have ht : P.underlying t = some .bool := by
        unfold isBoolT at hbt
        split at hbt
        · assumption
        · cases hbt
      cases op <;> simp only [Option.some.injEq, reduceCtorEq] at hz <;> subst hz
      · exact ⟨_, run_eql_bool w t p q ht, .bool _⟩
      · refine ⟨_, ?_, .bool _⟩
        have he := run_equal_bool (P := P) w t p q ht
        simp [binOp, he]
    · cases hz
  · exact run_bin t ox oy hz hx.v_inv hy.v_inv
  · exact run_bin t ox oy hz hx.v_inv hy.v_inv
  · have hyv := hy.v_inv.nil_inv
    subst hyv
    split at hz
    · rename_i e b hk hb
      obtain ⟨e, k, by_⟩ := e
      obtain ⟨ad, l, c, rfl, hn⟩ := h.isNil hx hb
      cases hz
      rw [eqGuard_at_slice]
      refine ⟨rfl, _, Lib.run_eql_slice_nil w t e ad l c 0 0 (slc_inv hk).1, ?_⟩
      rw [hn]; exact .bool _
    · rename_i e b hk hb
      obtain ⟨e, k, by_⟩ := e
      obtain ⟨ad, l, c, rfl, hn⟩ := h.isNil hx hb
      cases hz
      rw [eqGuard_at_slice]
      refine ⟨rfl, _, run_neq_slice_nil_any w t e ad l c 0 0 (slc_inv hk).1, ?_⟩
      subst hn
      cases ad <;> exact .bool _
    · cases hz
  · cases hz

theorem run_un {op : UnOp} {x z : V} {v : Value} (hz : V.un op x = some z) (hx : RV w F x v) : ∃ u, (Op.unary op v).run P w = .ok u w ∧ RV w F z u := by
  unfold V.un at hz
  split at hz
  · obtain rfl := hx.int_inv
    split at hz
    · cases hz; exact ⟨_, by simp [Op.unary, Op.intArith], .int _ _⟩
    · cases hz; exact ⟨_, by simp [Op.unary, Op.intBits, bits], .int _ _⟩
    · cases hz
  · obtain rfl := hx.bool_inv
    split at hz
    · cases hz; exact ⟨_, by simp [Op.unary], .bool _⟩
    · cases hz
  · cases hz

end Go.Proofs.YtdhdhcllgkddnaaGreat.Va

namespace Go.Proofs.YtdhdhcllgkddnaaGreat.Va
open Go Go.RowKit

variable {O : Org} {S S' : St} {n : Nat} {a : Act} {w w' : World} {F F' : Nat → Prop} {L L' : Lay} {P : Program} {m : Nat → RS}

structure VCells (w : World) (F : Nat → Prop) (ys : List V) (us : List Value) : Prop where
  len : ys.length = us.length
  at_ : ∀ (c : Nat) (y : V) (u : Value), ys[c]? = some y → us[c]? = some u → RV w F y u ∧ u.oneCell' = true
structure DCells (w : World) (F : Nat → Prop) (m : Nat → RS) (L : Lay) (ys : List D) (us : List Value) : Prop where
  len : ys.length = us.length
  at_ : ∀ (c : Nat) (y : D) (u : Value), ys[c]? = some y → us[c]? = some u → RD w F m L y u ∧ u.oneCell' = true

theorem RV.cells_ {x : V} {v : Value} (h : RV w F x v) : VCells w F x.cells v.cells.toList := by
  have one : ∀ (y : V) (u : Value), RV w F y u → u.oneCell' = true → VCells w F [y] [u] := fun y u hr h1 => ⟨rfl, fun c z t hz ht => by
    cases c with
    | zero => simp at hz ht; subst hz; subst ht; exact ⟨hr, h1⟩
    | succ c => simp at hz⟩
  cases h with
  | agg cs vs hl h1 hr => exact ⟨hl, fun c y u hy hu => ⟨hr c y u hy hu, h1 u (List.mem_of_getElem? hu)⟩⟩
  | int k n => exact one _ _ (.int k n) rfl
  | bool b => exact one _ _ (.bool b) rfl
  | str s => exact one _ _ (.str s) rfl
  | nil => exact one _ _ .nil rfl
  | sl0 sz => exact one _ _ (.sl0 sz) rfl
  | ne sz ad cap hmax => exact one _ _ (.ne sz ad cap hmax) rfl
  | sl sz xs ad cap u hF hcap hmax hsz hc h1 hr => exact one _ _ (.sl sz xs ad cap u hF hcap hmax hsz hc h1 hr) rfl
  | fn f caps vs hl hr => exact one _ _ (.fn f caps vs hl hr) rfl
  | raw v h1 =>
    have e : v.cells.toList = [v] := by cases v <;> first | rfl | (simp [Value.oneCell'] at h1)
    rw [e]
    exact one _ _ (.raw v h1) h1

theorem VCells.agg {ys : List V} {us : List Value} (h : VCells w F ys us) : RV w F (.agg ys) (.agg us.toArray) :=
  .agg ys us h.len (fun u hu => by
    obtain ⟨j, hj⟩ := List.mem_iff_getElem?.1 hu
    have hlt := (List.getElem?_eq_some_iff.1 hj).1
    exact (h.at_ j (ys[j]'(by rw [h.len]; exact hlt)) u (List.getElem?_eq_getElem _) hj).2) fun i y u hy hu => (h.at_ i y u hy hu).1

theorem VCells.sub {ys : List V} {us : List Value} (h : VCells w F ys us) (c k : Nat) : VCells w F ((ys.drop c).take k) ((us.drop c).take k) := by
  refine ⟨by simp [h.len], fun i y u hy hu => ?_⟩
  rw [List.getElem?_take] at hy hu
  split at hy
  · rename_i hi
    rw [if_pos hi] at hu
    rw [List.getElem?_drop] at hy hu
    exact h.at_ _ y u hy hu
  · cases hy

theorem takeV_ok {ys : List V} {us : List Value} (h : VCells w F ys us) {agg : Bool} {k c : Nat} {x : V} (hx : takeV agg k c ys = some x) :
    (agg = true ∧ c + k ≤ us.length ∧ RV w F x (.agg ((us.drop c).take k).toArray)) ∨ (agg = false ∧ ∃ u, us[c]? = some u ∧ RV w F x u) := by
  unfold takeV at hx
  split at hx
  · rename_i hagg
    split at hx
    · rename_i hle
      cases hx
      exact .inl ⟨hagg, by rw [← h.len]; exact hle, (h.sub c k).agg⟩
    · cases hx
  · rename_i hagg
    have hlt := (List.getElem?_eq_some_iff.1 hx).1
    refine .inr ⟨by simpa using hagg, us[c]'(by rw [← h.len]; exact hlt), List.getElem?_eq_getElem _, (h.at_ c x _ hx (List.getElem?_eq_getElem _)).1⟩

theorem info_of_under {t : TypeId} {d : TypeDesc} (h : P.underlying t = some d) : ∃ i, P.info? t = some i := by
  unfold Program.underlying at h
  cases hi : P.info? t with
  | none => rw [hi] at h; cases h
  | some i => exact ⟨i, rfl⟩

theorem run_sizeOf {t : TypeId} {d : TypeDesc} (h : P.underlying t = some d) : (sizeOf t).run P w = .ok (P.cellsOf t) w := by
  obtain ⟨i, hi⟩ := info_of_under h
  simp [sizeOf, typeInfo, hi, Program.cellsOf]

theorem isAggT_under {t : TypeId} {agg : Bool} (h : isAggT P t = some agg) : ∃ d, P.underlying t = some d ∧ (∀ w : World, (isAgg t).run P w = .ok agg w) := by
  unfold isAggT at h
  split at h
  · rename_i fs hu
    cases h
    exact ⟨_, hu, fun w => by simp [isAgg, run_underlying hu]⟩
  · rename_i k e hu
    cases h
    exact ⟨_, hu, fun w => by simp [isAgg, run_underlying hu]⟩
  · rename_i d h1 h2 hu
    cases h
    refine ⟨d, hu, fun w => ?_⟩
    simp only [isAgg, Sem.run_bind, run_underlying hu, Result.andThen_ok]
    rfl
  · cases h

theorem run_loadVar_agg {t : TypeId} (ha : isAggT P t = some true) (ad : Addr) (us : List Value) (hc : ∀ j u, us[j]? = some u → w.cell? (ad.add j) = some u) (c : Nat) (hle : c + P.cellsOf t ≤ us.length) :
    (loadVar t (ad.add c)).run P w = .ok (.agg ((us.drop c).take (P.cellsOf t)).toArray) w := by
  obtain ⟨d, hu, hag⟩ := isAggT_under ha
  have hl := run_loadCells_list (P := P) w (ad.add c) ((us.drop c).take (P.cellsOf t)) (fun j u hj => by
    rw [List.getElem?_take] at hj
    split at hj
    · rw [List.getElem?_drop] at hj
      rw [add_add]
      exact hc _ u hj
    · cases hj)
  have hlen : ((us.drop c).take (P.cellsOf t)).length = P.cellsOf t := by simp; omega
  rw [hlen] at hl
  simp [loadVar, hag, run_sizeOf hu, hl]

theorem run_loadVar_one {t : TypeId} (ha : isAggT P t = some false) (ad : Addr) (us : List Value) (hc : ∀ j u, us[j]? = some u → w.cell? (ad.add j) = some u) (c : Nat) {u : Value} (h : us[c]? = some u) :
    (loadVar t (ad.add c)).run P w = .ok u w := by
  obtain ⟨d, hu, hag⟩ := isAggT_under ha
  have := hc c u h
  simp [loadVar, hag, this]

/-- What a pointer into a row means. -/
theorem Sim.ptr_row (h : Sim O S n a w F L) {r g i c : Nat} {v : Value} (hd : RD w F S.m L (.ptr r g i c) v) {sz : Nat} {els : List V} {fz : Bool} (hl : live S.m r g = some ⟨.row sz els, fz⟩) :
    ∃ b cur ty x, L.base r = some ⟨b, 0, none⟩ ∧ w.heap[b]? = some (.cells cur ty (0, 0)) ∧ (F b ↔ fz = true) ∧ cur.size = L.cap r * sz ∧ els.length ≤ L.cap r ∧ els[i]? = some x ∧ x.cells.length = sz ∧
      v = .pointer (some ⟨b, i * sz + c, none⟩) ∧ VCells w F x.cells ((cur.toList.drop (i * sz)).take sz) := by
  cases hd with
  | ptr _ _ _ _ _ hg h1 hrow hbox =>
    obtain ⟨hi, hv⟩ := hrow _ sz els hl rfl
    have hr := h.regs r _ (live_reg hl).2
    simp only [RegOk] at hr
    obtain ⟨hle, hmax, hsz, hblk⟩ := hr
    obtain ⟨b, cur, ty, hb, hw, hF, hcs, hat⟩ := hblk.resolve_left (by omega)
    have hx : els[i]? = some els[i] := List.getElem?_eq_getElem hi
    have hxl := hsz els[i] (List.getElem_mem hi)
    refine ⟨b, cur, ty, els[i], hb, hw, hF, hcs, hle, hx, hxl, ?_, ?_, ?_⟩
    · rw [hv, hb]; simp [Addr.add_lit]
    · rw [hxl, List.length_take, List.length_drop, Array.length_toList, hcs]
      have : (i + 1) * sz ≤ L.cap r * sz := Nat.mul_le_mul_right _ (by omega)
      rw [Nat.add_mul] at this
      omega
    · intro j y u hy hu
      rw [List.getElem?_take] at hu
      split at hu
      · rw [List.getElem?_drop, Array.getElem?_toList] at hu
        obtain ⟨u', h5, h6, h7⟩ := hat i j _ y hx hy
        rw [h5] at hu
        cases hu
        exact ⟨h7, h6⟩
      · cases hu

theorem Sim.ptr_box (h : Sim O S n a w F L) {r g i c : Nat} {v : Value} (hd : RD w F S.m L (.ptr r g i c) v) {cs : List D} {fz : Bool} (hl : live S.m r g = some ⟨.box cs, fz⟩) :
    ∃ b cur ty, L.base r = some ⟨b, 0, none⟩ ∧ w.heap[b]? = some (.cells cur ty (0, 0)) ∧ (F b ↔ fz = true) ∧ i = 0 ∧ v = .pointer (some ⟨b, c, none⟩) ∧ DCells w F S.m L cs cur.toList := by
  cases hd with
  | ptr _ _ _ _ _ hg h1 hrow hbox =>
    obtain ⟨hi, hv⟩ := hbox _ cs hl rfl
    have hr := h.regs r _ (live_reg hl).2
    simp only [RegOk] at hr
    obtain ⟨b, cur, ty, hb, hw, hF, hcs, hat⟩ := hr
    refine ⟨b, cur, ty, hb, hw, hF, hi, by rw [hv, hb]; simp [Addr.add_lit], by simp [hcs], fun j y u hy hu => ?_⟩
    obtain ⟨u', h5, h6, h7⟩ := hat j y hy
    rw [Array.getElem?_toList, h5] at hu
    cases hu
    exact ⟨h7, h6⟩

theorem isV_all : ∀ (ds : List D) (vs : List V), ds.mapM D.isV = some vs → ds = vs.map .v
  | [], vs, h => by simp at h; subst h; rfl
  | d :: ds, vs, h => by
    simp only [List.mapM_cons, Option.bind_eq_bind, Option.bind_eq_some_iff, Option.pure_def, Option.some.injEq] at h
    obtain ⟨x, hx, xs, hxs, rfl⟩ := h
    cases d <;> simp [D.isV] at hx
    subst hx
    simp [isV_all ds xs hxs]

theorem DCells.agg {ys : List D} {us : List Value} (h : DCells w F m L ys us) : RD w F m L (mkAgg ys) (.agg us.toArray) := by
  have one : ∀ u ∈ us, u.oneCell' = true := fun u hu => by
    obtain ⟨j, hj⟩ := List.mem_iff_getElem?.1 hu
    have hlt := (List.getElem?_eq_some_iff.1 hj).1
    exact (h.at_ j (ys[j]'(by rw [h.len]; exact hlt)) u (List.getElem?_eq_getElem _) hj).2
  unfold mkAgg
  split
  · rename_i vs hvs
    have e := isV_all ys vs hvs
    subst e
    refine .v (.agg vs us (by simpa using h.len) one fun i y u hy hu => ?_)
    exact (h.at_ i (.v y) u (by simp [hy]) hu).1.v_inv
  · exact .agg ys us h.len one fun i y u hy hu => (h.at_ i y u hy hu).1

theorem DCells.sub {ys : List D} {us : List Value} (h : DCells w F m L ys us) (c k : Nat) : DCells w F m L ((ys.drop c).take k) ((us.drop c).take k) := by
  refine ⟨by simp [h.len], fun i y u hy hu => ?_⟩
  rw [List.getElem?_take] at hy hu
  split at hy
  · rename_i hi
    rw [if_pos hi] at hu
    rw [List.getElem?_drop] at hy hu
    exact h.at_ _ y u hy hu
  · cases hy

theorem takeD_ok {ys : List D} {us : List Value} (h : DCells w F m L ys us) {agg : Bool} {k c : Nat} {x : D} (hx : takeD agg k c ys = some x) :
    (agg = true ∧ c + k ≤ us.length ∧ RD w F m L x (.agg ((us.drop c).take k).toArray)) ∨ (agg = false ∧ ∃ u, us[c]? = some u ∧ RD w F m L x u) := by
  unfold takeD at hx
  split at hx
  · rename_i hagg
    split at hx
    · rename_i hle
      cases hx
      exact .inl ⟨hagg, by rw [← h.len]; exact hle, (h.sub c k).agg⟩
    · cases hx
  · rename_i hagg
    have hlt := (List.getElem?_eq_some_iff.1 hx).1
    refine .inr ⟨by simpa using hagg, us[c]'(by rw [← h.len]; exact hlt), List.getElem?_eq_getElem _, (h.at_ c x _ hx (List.getElem?_eq_getElem _)).1⟩

/-- A load. -/
theorem Sim.load (h : Sim O S n a w F L) {t : TypeId} {p d : D} {v : Value} (hp : RD w F S.m L p v) (hd : effLoad P S.m t p = some d) : ∃ u, (Instr.loadAt t v).run P w = .ok u w ∧ RD w F S.m L d u := by
  unfold effLoad at hd
  split at hd
  · cases hd
  rename_i agg hagg
  split at hd
  · -- an element that is not written
    rename_i x c
    simp only [Option.map_eq_some_iff] at hd
    obtain ⟨y, hy, rfl⟩ := hd
    cases hp with
    | cptr _ _ ad u hF hc hr =>
      have hV : VCells w F x.cells ((List.range x.cells.length).map u) := ⟨by simp, fun j z t hz ht => by
        have hlt := (List.getElem?_eq_some_iff.1 hz).1
        rw [List.getElem?_map, List.getElem?_range hlt] at ht
        simp at ht
        subst ht
        exact ⟨hr j z hz, (hc j z hz).2⟩⟩
      have hcell : ∀ j t, ((List.range x.cells.length).map u)[j]? = some t → w.cell? (ad.add j) = some t := by
        intro j t ht
        have hlt : j < x.cells.length := by have := (List.getElem?_eq_some_iff.1 ht).1; simpa using this
        rw [List.getElem?_map, List.getElem?_range hlt] at ht
        simp at ht
        subst ht
        exact (hc j _ (List.getElem?_eq_getElem hlt)).1
      rcases takeV_ok hV hy with ⟨rfl, hle, hrv⟩ | ⟨rfl, z, hz, hrv⟩
      · exact ⟨_, by simpa [Instr.loadAt, Instr.sureAddr] using run_loadVar_agg hagg ad _ hcell c hle, .v hrv⟩
      · exact ⟨_, by simpa [Instr.loadAt, Instr.sureAddr] using run_loadVar_one hagg ad _ hcell c hz, .v hrv⟩
  · rename_i r g i c
    split at hd
    · rename_i cs fz hl
      obtain ⟨b, cur, ty, hb, hw, _, rfl, rfl, hD⟩ := h.ptr_box hp hl
      have hcell : ∀ j u, cur.toList[j]? = some u → w.cell? ((⟨b, 0, none⟩ : Addr).add j) = some u := by
        intro j u hj
        rw [Addr.add_lit, Nat.zero_add, cell_of_row w b j cur ty (0, 0) hw]
        simpa using hj
      have hadd : (⟨b, 0, none⟩ : Addr).add c = ⟨b, c, none⟩ := by rw [Addr.add_lit, Nat.zero_add]
      rcases takeD_ok hD hd with ⟨rfl, hle, hrv⟩ | ⟨rfl, z, hz, hrv⟩
      · have := run_loadVar_agg hagg (⟨b, 0, none⟩ : Addr) _ hcell c hle
        rw [hadd] at this
        exact ⟨_, by simpa [Instr.loadAt, Instr.sureAddr] using this, hrv⟩
      · have := run_loadVar_one hagg (⟨b, 0, none⟩ : Addr) _ hcell c hz
        rw [hadd] at this
        exact ⟨_, by simpa [Instr.loadAt, Instr.sureAddr] using this, hrv⟩
    · rename_i sz els fz hl
      obtain ⟨b, cur, ty, x, hb, hw, _, _, _, hx, hxl, rfl, hV⟩ := h.ptr_row hp hl
      rw [hx] at hd
      simp only [Option.bind_some, Option.map_eq_some_iff] at hd
      obtain ⟨y, hy, rfl⟩ := hd
      have hcell : ∀ j u, ((cur.toList.drop (i * sz)).take sz)[j]? = some u → w.cell? ((⟨b, i * sz, none⟩ : Addr).add j) = some u := by
        intro j u hj
        rw [List.getElem?_take] at hj
        split at hj
        · rw [List.getElem?_drop] at hj
          rw [Addr.add_lit, cell_of_row w b _ cur ty (0, 0) hw]
          simpa using hj
        · cases hj
      have hadd : (⟨b, i * sz, none⟩ : Addr).add c = ⟨b, i * sz + c, none⟩ := Addr.add_lit _ _ _
      rcases takeV_ok hV hy with ⟨rfl, hle, hrv⟩ | ⟨rfl, z, hz, hrv⟩
      · have := run_loadVar_agg hagg (⟨b, i * sz, none⟩ : Addr) _ hcell c hle
        rw [hadd] at this
        exact ⟨_, by simpa [Instr.loadAt, Instr.sureAddr] using this, .v hrv⟩
      · have := run_loadVar_one hagg (⟨b, i * sz, none⟩ : Addr) _ hcell c hz
        rw [hadd] at this
        exact ⟨_, by simpa [Instr.loadAt, Instr.sureAddr] using this, .v hrv⟩
    · cases hd
  · cases hd

end Go.Proofs.YtdhdhcllgkddnaaGreat.Va

namespace Go.Proofs.YtdhdhcllgkddnaaGreat.Va
open Go Go.RowKit

variable {O : Org} {S S' : St} {n : Nat} {a : Act} {w w' : World} {F F' : Nat → Prop} {L L' : Lay} {P : Program} {m : Nat → RS}

theorem intOfD_inv {d : D} {v : Value} {i : Int} (hd : RD w F m L d v) (h : intOfD d = some i) : ∃ k, v = .int k i := by
  unfold intOfD at h
  split at h
  · cases h; exact ⟨_, hd.int_inv⟩
  · cases h

/-- A pointer that is current points somewhere, whatever is added to its place. -/
theorem Sim.ptr_val (h : Sim O S n a w F L) {r g i c : Nat} {v : Value} (hd : RD w F S.m L (.ptr r g i c) v) (hl : (live S.m r g).isSome = true) :
    ∃ b k, v = .pointer (some ⟨b, k, none⟩) ∧ ∀ x, RD w F S.m L (.ptr r g i (c + x)) (.pointer (some ⟨b, k + x, none⟩)) := by
  cases hlr : live S.m r g with
  | none => rw [hlr] at hl; cases hl
  | some reg =>
    obtain ⟨body, fz⟩ := reg
    have hg : g ≤ (S.m r).gen := by cases hd with | ptr _ _ _ _ _ hg => exact hg
    cases body with
    | row sz els =>
      obtain ⟨b, cur, ty, x, hb, _, _, _, _, hx, _, hv, _⟩ := h.ptr_row hd hlr
      refine ⟨b, _, hv, fun y => .ptr _ _ _ _ _ hg rfl (fun reg' sz' els' hl' hb' => ?_) fun reg' cs' hl' hb' => ?_⟩
      · rw [hlr] at hl'; cases hl'; cases hb'
        exact ⟨(List.getElem?_eq_some_iff.1 hx).1, by rw [hb]; simp [Addr.add_lit, Nat.add_assoc]⟩
      · rw [hlr] at hl'; cases hl'; cases hb'
    | box cs =>
      obtain ⟨b, cur, ty, hb, _, _, hi, hv, _⟩ := h.ptr_box hd hlr
      refine ⟨b, _, hv, fun y => .ptr _ _ _ _ _ hg rfl (fun reg' sz' els' hl' hb' => ?_) fun reg' cs' hl' hb' => ?_⟩
      · rw [hlr] at hl'; cases hl'; cases hb'
      · rw [hlr] at hl'; cases hl'; cases hb'
        exact ⟨hi, by rw [hb]; simp [Addr.add_lit]⟩

theorem cptr_val {x : V} {c : Nat} {v : Value} (hd : RD w F m L (.cptr x c) v) : ∃ ad, v = .pointer (some ad) ∧ ∀ y, RD w F m L (.cptr x (c + y)) (.pointer (some (ad.add y))) := by
  cases hd with
  | cptr _ _ ad u hF hc hr => exact ⟨ad.add c, rfl, fun y => by rw [add_add]; exact .cptr x _ ad u hF hc hr⟩

theorem Sim.fieldAddr (h : Sim O S n a w F L) {s : TypeId} {f : Nat} {fs : Array Field} {fd : Field} (hu : P.underlying s = some (.struct fs)) (hf : fs[f]? = some fd) (hz : P.cellsOf fd.type ≠ 0) {d e : D} {v : Value}
    (hd : RD w F S.m L d v) (he : (match d with | .ptr r g i c => if (live S.m r g).isSome then some (D.ptr r g i (c + fd.offset)) else none | .cptr y c => some (.cptr y (c + fd.offset)) | _ => none) = some e) :
    ∃ u, (Instr.fieldAt s v f).run P w = .ok u w ∧ RD w F S.m L e u := by
  have hso : (sizeOf fd.type).run P w = .ok (P.cellsOf fd.type) w := by
    unfold Program.cellsOf at hz ⊢
    cases hi : P.info? fd.type with
    | none => simp [hi] at hz
    | some i => simp [sizeOf, typeInfo, hi]
  cases d with
  | ptr r g i c =>
    simp only at he
    split at he
    · rename_i hl
      cases he
      obtain ⟨b, k, rfl, hall⟩ := h.ptr_val hd hl
      refine ⟨_, ?_, hall fd.offset⟩
      simp [Instr.fieldAt, run_underlying hu, hf, Instr.sureAddr, fieldPlace, hso, hz, Addr.add_lit]
    · cases he
  | cptr y c =>
    simp only [Option.some.injEq] at he
    subst he
    obtain ⟨ad, rfl, hall⟩ := cptr_val hd
    refine ⟨_, ?_, hall fd.offset⟩
    simp [Instr.fieldAt, run_underlying hu, hf, Instr.sureAddr, fieldPlace, hso, hz]
  | _ => simp only [reduceCtorEq] at he

theorem cellsOf_run {t : TypeId} (h : P.cellsOf t ≠ 0) : (sizeOf t).run P w = .ok (P.cellsOf t) w := by
  unfold Program.cellsOf at h ⊢
  cases hi : P.info? t with
  | none => simp [hi] at h
  | some i => simp [sizeOf, typeInfo, hi]

theorem Sim.indexAddr (h : Sim O S n a w F L) {t : TypeId} {x i d : D} {vx vi : Value} (hx : RD w F S.m L x vx) (hi : RD w F S.m L i vi) (hd : effIndexAddr P S.m t x i = some d) :
    ∃ u, (Instr.indexAt t vx vi).run P w = .ok u w ∧ RD w F S.m L d u := by
  unfold effIndexAddr at hd
  split at hd
  · rename_i r g off len j hj
    obtain ⟨kk, rfl⟩ := intOfD_inv hi hj
    split at hd
    · rename_i e k by_ sz els fz hk hl
      have hu := (slc_inv hk).1
      have hs := slc_size hk
      split at hd
      · rename_i hc
        obtain ⟨hsz, h0, h1⟩ := hc
        cases hd
        obtain ⟨hle, ad, us, hrow, had⟩ := row_own h hx hl
        have hreg := h.regs r _ (live_reg hl).2
        simp only [RegOk] at hreg
        have hg : g ≤ (S.m r).gen := by cases hx with | own _ _ _ _ _ hg => exact hg
        have hcap : off < L.cap r := by have := hreg.1; omega
        obtain ⟨b, cur, ty, hb, _⟩ := hreg.2.2.2.resolve_left (by omega)
        have had' := had hcap
        rw [hb] at had'
        simp only [Option.map_some, Addr.add_lit, Nat.zero_add] at had'
        have hv := hrow.val
        have hlen : ((els.drop off).take len).length = len := by simp; omega
        rw [hlen, had'] at hv
        subst hv
        refine ⟨.pointer (some ⟨b, (off + j.toNat) * sz + 0, none⟩), ?_, .ptr _ _ _ _ _ hg rfl (fun reg' sz' els' hl' hb' => ?_) fun reg' cs' hl' hb' => ?_⟩
        · have e2 : off * sz + j.toNat * k = (off + j.toNat) * sz := by rw [← hsz, Nat.add_mul]
          simp [Instr.indexAt, asIntOf, run_underlying hu, h0, h1, hs, Addr.add_lit, e2]
        · rw [hl] at hl'; cases hl'; cases hb'
          exact ⟨by omega, by rw [hb]; simp [Addr.add_lit]⟩
        · rw [hl] at hl'; cases hl'; cases hb'
      · cases hd
    · cases hd
  · rename_i sz xs j hj
    obtain ⟨kk, rfl⟩ := intOfD_inv hi hj
    split at hd
    · rename_i e k by_ hk
      have hu := (slc_inv hk).1
      have hs := slc_size hk
      split at hd
      · rename_i hc
        obtain ⟨hsz, h0, h1⟩ := hc
        simp only [Option.map_eq_some_iff] at hd
        obtain ⟨y, hy, rfl⟩ := hd
        have hne : xs ≠ [] := by intro e; subst e; simp at hy
        obtain ⟨ad, cap, us, hrow, hF⟩ := row_sl hx.v_inv
        cases ad with
        | none => exact absurd (hrow.none rfl) hne
        | some ad =>
          have hv := hrow.val
          subst hv
          have hyl := hrow.sizes y (List.mem_of_getElem? hy)
          refine ⟨.pointer (some ((ad.add (j.toNat * sz)).add 0)), ?_, .cptr y 0 (ad.add (j.toNat * sz)) (fun c => us.getD (j.toNat * sz + c) undef) (by rw [block_add]; exact hF ad rfl hne) (fun c z hz => ?_) fun c z hz => ?_⟩
          · subst hsz
            simp [Instr.indexAt, asIntOf, run_underlying hu, h0, h1, hs, add_add]
          · obtain ⟨u, hu1, _⟩ := hrow.at_ j.toNat c y z hy hz
            rw [add_add, List.getD_eq_getElem?_getD, hu1]
            exact ⟨hrow.cell ad rfl _ u hu1, hrow.one u (List.mem_of_getElem? hu1)⟩
          · obtain ⟨u, hu1, hu2⟩ := hrow.at_ j.toNat c y z hy hz
            rw [List.getD_eq_getElem?_getD, hu1]
            exact hu2
      · cases hd
    · cases hd
  · rename_i r g j' c j hj
    obtain ⟨kk, rfl⟩ := intOfD_inv hi hj
    split at hd
    · rename_i len e reg hu hl
      split at hd
      · rename_i hc
        obtain ⟨hi, h0, h1⟩ := hc
        have hs : (sizeOf e).run P w = .ok (P.cellsOf e) w := by
          cases hie : P.info? e with
          | none => rw [hie] at hi; cases hi
          | some i => simp [sizeOf, typeInfo, hie, Program.cellsOf]
        cases hd
        obtain ⟨b, k, rfl, hall⟩ := h.ptr_val hx (by rw [hl]; rfl)
        refine ⟨_, ?_, hall _⟩
        simp [Instr.indexAt, asIntOf, run_underlying hu, Instr.sureAddr, h0, h1, hs, Addr.add_lit]
      · cases hd
    · cases hd
  · cases hd

theorem run_bounds (b : Bool) (len cap : Nat) {lo hi : Option D} {vlo vhi : Option Value} (hlo : ∀ d, lo = some d → ∃ v, vlo = some v ∧ RD w F m L d v) (hlo0 : lo = none → vlo = none)
    (hhi : ∀ d, hi = some d → ∃ v, vhi = some v ∧ RD w F m L d v) (hhi0 : hi = none → vhi = none) {l h : Int} (hl : boundOf lo 0 = some l) (hh : boundOf hi len = some h) (h0 : 0 ≤ l) (h1 : l ≤ h) (h2 : h ≤ cap) :
    (Instr.sliceBounds b len cap vlo vhi none).run P w = .ok (l.toNat, h.toNat, cap) w := by
  have eh : (h.toNat : Int) = h := Int.toNat_of_nonneg (by omega)
  have hl' : (lo = none ∧ l = 0) ∨ ∃ d k, lo = some d ∧ vlo = some (.int k l) := by
    cases lo with
    | none => simp [boundOf] at hl; exact .inl ⟨rfl, hl.symm⟩
    | some d =>
      obtain ⟨v, hv, hrd⟩ := hlo d rfl
      obtain ⟨k, rfl⟩ := intOfD_inv hrd hl
      exact .inr ⟨d, k, rfl, hv⟩
  have hh' : (hi = none ∧ h = len) ∨ ∃ d k, hi = some d ∧ vhi = some (.int k h) := by
    cases hi with
    | none => simp [boundOf] at hh; exact .inl ⟨rfl, hh.symm⟩
    | some d =>
      obtain ⟨v, hv, hrd⟩ := hhi d rfl
      obtain ⟨k, rfl⟩ := intOfD_inv hrd hh
      exact .inr ⟨d, k, rfl, hv⟩
  rcases hl' with ⟨rfl, rfl⟩ | ⟨d, k, rfl, rfl⟩ <;> rcases hh' with ⟨rfl, rfl⟩ | ⟨d', k', rfl, rfl⟩
  · rw [hlo0 rfl, hhi0 rfl]; simp [Instr.sliceBounds]
  · rw [hlo0 rfl]; simp [Instr.sliceBounds, run_sliceBound, show 0 ≤ h by omega, h2]
  · rw [hhi0 rfl]; simp [Instr.sliceBounds, run_sliceBound, h0, h1]
  · simp [Instr.sliceBounds, run_sliceBound, h0, h1, show 0 ≤ h by omega, h2, eh]

theorem opt_rd {h : Sim O S n a w F L} (x : Option Operand) : (∀ d, x.map S.ev = some d → ∃ v, x.map a.eval = some v ∧ RD w F S.m L d v) ∧ (x.map S.ev = none → x.map a.eval = none) := by
  cases x with
  | none => exact ⟨fun d hd => (by cases hd), fun _ => rfl⟩
  | some x => exact ⟨fun d hd => by simp at hd; subst hd; exact ⟨_, rfl, h.ev x⟩, fun hd => (by cases hd)⟩

theorem Sim.slice (h : Sim O S n a w F L) {t : TypeId} {x d : D} {vx : Value} {lo hi : Option Operand}
    (hx : RD w F S.m L x vx) (hd : effSlice P S.m t x (lo.map S.ev) (hi.map S.ev) = some d) :
    ∃ u, (Instr.sliceAt t vx (lo.map a.eval) (hi.map a.eval) none).run P w = .ok u w ∧ RD w F S.m L d u := by
  obtain ⟨hl1, hl2⟩ := opt_rd (h := h) lo
  obtain ⟨hh1, hh2⟩ := opt_rd (h := h) hi
  unfold effSlice at hd
  split at hd
  · rename_i s
    obtain rfl := hx.str_inv
    split at hd
    · rename_i l hh hst hbl hbh
      have hu := str_inv hst
      split at hd
      · rename_i hc
        cases hd
        have hb := run_bounds (P := P) false s.size s.size hl1 hl2 hh1 hh2 hbl hbh hc.1 hc.2.1 hc.2.2
        exact ⟨_, by simp [Instr.sliceAt, run_underlying hu, Instr.slice, hb], .v (.str _)⟩
      · cases hd
    · cases hd
  · rename_i sz xs
    obtain ⟨ad, cap, us, hrow, hF⟩ := row_sl hx.v_inv
    obtain rfl := hrow.val
    split at hd
    · rename_i e k by_ l hh hk hbl hbh
      have hu := (slc_inv hk).1
      have hs := slc_size hk
      split at hd
      · rename_i hc
        obtain ⟨hsz, h0, h1, h2⟩ := hc
        cases hd
        have hle := hrow.le
        have hb := run_bounds (P := P) true xs.length cap hl1 hl2 hh1 hh2 hbl hbh h0 h1 (by omega)
        refine ⟨.slice (if cap = l.toNat then ad else ad.map (·.add (l.toNat * k))) (hh.toNat - l.toNat) (cap - l.toNat), by simp [Instr.sliceAt, run_underlying hu, Instr.slice, hb, hs], .v ?_⟩
        have hlen : ((xs.take hh.toNat).drop l.toNat).length = hh.toNat - l.toNat := by simp; omega
        rw [← hlen]
        cases ad with
        | none =>
          have := hrow.none rfl
          subst this
          have hl0 : l = 0 := by simp at h2; omega
          have hh0 : hh = 0 := by simp at h2; omega
          subst hl0; subst hh0
          have hv := hx.v_inv
          have hcap : cap = 0 := by
            cases hv with
            | sl0 => rfl
          subst hcap
          simp
          exact .sl0 sz
        | some ad =>
          by_cases hcl : cap = l.toNat
          · rw [if_pos hcl]
            have hemp : (xs.take hh.toNat).drop l.toNat = [] := by
              apply List.eq_nil_of_length_eq_zero; omega
            rw [hemp]
            exact .sl sz [] ad (cap - l.toNat) (fun _ _ => undef) (by simp) (by simp) (by have := hrow.max; omega) (by simp) (by simp) (by simp) (by simp)
          · rw [if_neg hcl]
            refine .sl sz _ (ad.add (l.toNat * k)) _ (fun i c => us.getD ((l.toNat + i) * sz + c) undef) (fun hne => ?_) (by omega) (by have := hrow.max; omega) (fun y hy => hrow.sizes y (List.mem_of_mem_take (List.mem_of_mem_drop hy))) ?_ ?_ ?_
            · rw [block_add]
              exact hF ad rfl (by intro e; subst e; simp at hne)
            all_goals
              intro i c y z hy hz
              rw [List.getElem?_drop, List.getElem?_take] at hy
              split at hy
              · obtain ⟨u, hu1, hu2⟩ := hrow.at_ (l.toNat + i) c y z hy hz
                rw [List.getD_eq_getElem?_getD, hu1]
                first
                  | (rw [← hsz, add_add, show l.toNat * sz + (i * sz + c) = (l.toNat + i) * sz + c by rw [Nat.add_mul]; omega]; exact hrow.cell ad rfl _ u hu1)
                  | exact hrow.one u (List.mem_of_getElem? hu1)
                  | exact hu2
              · cases hy
      · cases hd
    · cases hd
  · obtain rfl := hx.v_inv.nil_inv
    split at hd
    · rename_i ek l hh hk hbl hbh
      obtain ⟨e, k, by_⟩ := ek
      have hu := (slc_inv hk).1
      have hs := slc_size hk
      split at hd
      · rename_i hc
        obtain ⟨rfl, rfl⟩ := hc
        cases hd
        have hb := run_bounds (P := P) true 0 0 hl1 hl2 hh1 hh2 hbl hbh (by omega) (by omega) (by omega)
        exact ⟨.slice none 0 0, by simp [Instr.sliceAt, run_underlying hu, Instr.slice, hb, hs], .v .nil⟩
      · cases hd
    · cases hd
  · rename_i r g off len
    split at hd
    · rename_i e k by_ sz els fz l hh hk hl hbl hbh
      · have hu := (slc_inv hk).1
        have hs := slc_size hk
        split at hd
        · rename_i hc
          obtain ⟨hsz, h0, h1, h2⟩ := hc
          cases hd
          obtain ⟨hle, ad, us, hrow, had⟩ := row_own h hx hl
          have hreg := h.regs r _ (live_reg hl).2
          simp only [RegOk] at hreg
          have hg : g ≤ (S.m r).gen := by cases hx with | own _ _ _ _ _ hg => exact hg
          have hlen : ((els.drop off).take len).length = len := by simp; omega
          have hv := hrow.val
          rw [hlen] at hv
          subst hv
          have hcl := hreg.1
          have hb := run_bounds (P := P) true len (L.cap r - off) hl1 hl2 hh1 hh2 hbl hbh h0 h1 (by omega)
          refine ⟨.slice (if L.cap r - off = l.toNat then ad else ad.map (·.add (l.toNat * k))) (hh.toNat - l.toNat) (L.cap r - off - l.toNat), by simp [Instr.sliceAt, run_underlying hu, Instr.slice, hb, hs], .own _ _ _ _ _ hg rfl fun reg' sz' els' hl' hb' => ?_⟩
          rw [hl] at hl'; cases hl'; cases hb'
          refine ⟨by omega, hcl, _, by rw [show L.cap r - (off + l.toNat) = L.cap r - off - l.toNat by omega, show (hh - l).toNat = hh.toNat - l.toNat by omega], fun hlt => ?_⟩
          rw [if_neg (by omega), had (by omega)]
          cases L.base r with
          | none => rfl
          | some b => simp [add_add, ← hsz, Nat.add_mul]
        · cases hd
    · cases hd
  · cases hd

theorem Sim.slice3 (h : Sim O S n a w F L) {t : TypeId} {x d mxd : D} {vx vm : Value} {lo hi : Option Operand}
    (hx : RD w F S.m L x vx) (hm : RD w F S.m L mxd vm) (hd : effSlice3 P t x (lo.map S.ev) (hi.map S.ev) mxd = some d) :
    ∃ u, (Instr.sliceAt t vx (lo.map a.eval) (hi.map a.eval) (some vm)).run P w = .ok u w ∧ RD w F S.m L d u := by
  obtain ⟨hl1, hl2⟩ := opt_rd (h := h) lo
  obtain ⟨hh1, hh2⟩ := opt_rd (h := h) hi
  unfold effSlice3 at hd
  split at hd
  · rename_i sz xs hdd hhe
    obtain ⟨vh, hvh, hrh⟩ := hh1 hdd hhe
    obtain ⟨ad, cap, us, hrow, hF⟩ := row_sl hx.v_inv
    obtain rfl := hrow.val
    split at hd
    · rename_i e k by_ l hh q hk hbl hbh hbq
      have hu := (slc_inv hk).1
      have hs := slc_size hk
      split at hd
      · rename_i hc
        obtain ⟨hsz, h0, h1, h2, h3⟩ := hc
        cases hd
        have hle := hrow.le
        obtain ⟨kh, rfl⟩ := intOfD_inv hrh hbh
        obtain ⟨kq, rfl⟩ := intOfD_inv hm hbq
        have hl' : (lo = none ∧ l = 0) ∨ ∃ k, lo.map a.eval = some (.int k l) := by
          cases lo with
          | none => simp [boundOf] at hbl; exact .inl ⟨rfl, hbl.symm⟩
          | some y =>
            obtain ⟨v, hv, hrd⟩ := hl1 _ rfl
            obtain ⟨k, rfl⟩ := intOfD_inv hrd hbl
            exact .inr ⟨k, hv⟩
        have eq1 : (q.toNat : Int) = q := Int.toNat_of_nonneg (by omega)
        have eh1 : (hh.toNat : Int) = hh := Int.toNat_of_nonneg (by omega)
        have hb : (Instr.sliceBounds true xs.length cap (lo.map a.eval) (hi.map a.eval) (some (.int kq q))).run P w = .ok (l.toNat, hh.toNat, q.toNat) w := by
          rw [hvh]
          rcases hl' with ⟨rfl, rfl⟩ | ⟨k', hlv⟩
          · simp [Instr.sliceBounds, run_sliceBound, show 0 ≤ q by omega, show q ≤ (cap : Int) by omega, show 0 ≤ hh by omega, eq1, h2]
          · rw [hlv]
            simp [Instr.sliceBounds, run_sliceBound, show 0 ≤ q by omega, show q ≤ (cap : Int) by omega, show 0 ≤ hh by omega, eq1, h2, eh1, h0, h1]
        refine ⟨.slice (if q.toNat = l.toNat then ad else ad.map (·.add (l.toNat * k))) (hh.toNat - l.toNat) (q.toNat - l.toNat), by simp [Instr.sliceAt, run_underlying hu, Instr.slice, hb, hs], .v ?_⟩
        have hlen : ((xs.take hh.toNat).drop l.toNat).length = hh.toNat - l.toNat := by simp; omega
        rw [← hlen]
        cases ad with
        | none =>
          have := hrow.none rfl
          subst this
          have hl0 : l = 0 := by simp at h3; omega
          have hh0 : hh = 0 := by simp at h3; omega
          have hq0 : q = 0 := by simp at h3; omega
          subst hl0; subst hh0; subst hq0
          simp
          exact .sl0 sz
        | some ad =>
          by_cases hcl : q.toNat = l.toNat
          · rw [if_pos hcl]
            have hemp : (xs.take hh.toNat).drop l.toNat = [] := by
              apply List.eq_nil_of_length_eq_zero; omega
            rw [hemp]
            exact .sl sz [] ad (q.toNat - l.toNat) (fun _ _ => undef) (by simp) (by simp) (by have := hrow.max; omega) (by simp) (by simp) (by simp) (by simp)
          · rw [if_neg hcl]
            refine .sl sz _ (ad.add (l.toNat * k)) _ (fun i c => us.getD ((l.toNat + i) * sz + c) undef) (fun hne => ?_) (by omega) (by have := hrow.max; omega) (fun y hy => hrow.sizes y (List.mem_of_mem_take (List.mem_of_mem_drop hy))) ?_ ?_ ?_
            · rw [block_add]
              exact hF ad rfl (by intro e; subst e; simp at hne)
            all_goals
              intro i c y z hy hz
              rw [List.getElem?_drop, List.getElem?_take] at hy
              split at hy
              · obtain ⟨u, hu1, hu2⟩ := hrow.at_ (l.toNat + i) c y z hy hz
                rw [List.getD_eq_getElem?_getD, hu1]
                first
                  | (rw [← hsz, add_add, show l.toNat * sz + (i * sz + c) = (l.toNat + i) * sz + c by rw [Nat.add_mul]; omega]; exact hrow.cell ad rfl _ u hu1)
                  | exact hrow.one u (List.mem_of_getElem? hu1)
                  | exact hu2
              · cases hy
      · cases hd
    · cases hd
  · cases hd

end Go.Proofs.YtdhdhcllgkddnaaGreat.Va

namespace Go.Proofs.YtdhdhcllgkddnaaGreat.Va
open Go Go.RowKit

variable {O : Org} {S S' : St} {n : Nat} {a : Act} {w w' : World} {F F' : Nat → Prop} {L L' : Lay} {P : Program} {m : Nat → RS}

theorem run_part {t : TypeId} {agg : Bool} (ha : isAggT P t = some agg) (us : List Value) (c : Nat) :
    (agg = true → c + P.cellsOf t ≤ us.length → (part t us.toArray c).run P w = .ok (.agg ((us.drop c).take (P.cellsOf t)).toArray) w) ∧ (agg = false → ∀ u, us[c]? = some u → (part t us.toArray c).run P w = .ok u w) := by
  obtain ⟨d, hu, hag⟩ := isAggT_under ha
  refine ⟨fun e hle => ?_, fun e u h => ?_⟩
  · subst e
    simp [part, hag, run_sizeOf hu]
  · subst e
    simp [part, hag, h]

theorem RD.dcells {d : D} {v : Value} (h : RD w F m L d v) (hs : d.cells.all D.storable = true) : DCells w F m L d.cells v.cells.toList := by
  have one : ∀ (y : D) (u : Value), RD w F m L y u → u.oneCell' = true → DCells w F m L [y] [u] := fun y u hr h1 => ⟨rfl, fun c z t hz ht => by
    cases c with
    | zero => simp at hz ht; subst hz; subst ht; exact ⟨hr, h1⟩
    | succ c => simp at hz⟩
  cases h with
  | v h =>
    have := h.cells_
    refine ⟨by simpa [D.cells] using this.len, fun c y u hy hu => ?_⟩
    simp only [D.cells, List.getElem?_map, Option.map_eq_some_iff] at hy
    obtain ⟨x, hx, rfl⟩ := hy
    exact ⟨.v (this.at_ c x u hx hu).1, (this.at_ c x u hx hu).2⟩
  | any => simp [D.cells, D.storable] at hs
  | own r g off len v hg h1 hh =>
    have e : v.cells.toList = [v] := by cases v <;> first | rfl | (simp [Value.oneCell'] at h1)
    rw [e]
    exact one _ _ (.own r g off len v hg h1 hh) h1
  | ptr r g i c v hg h1 hr hb =>
    have e : v.cells.toList = [v] := by cases v <;> first | rfl | (simp [Value.oneCell'] at h1)
    rw [e]
    exact one _ _ (.ptr r g i c v hg h1 hr hb) h1
  | cptr x c ad u hF hc hr => exact one _ _ (.cptr x c ad u hF hc hr) rfl
  | agg cs vs hl h1 hr => exact ⟨hl, fun c y u hy hu => ⟨hr c y u hy hu, h1 u (List.mem_of_getElem? hu)⟩⟩
  | tup => simp [D.cells, D.storable] at hs
  | fn f caps vs hl hr => exact one _ _ (.fn f caps vs hl hr) rfl

theorem RD.agg_inv {cs : List D} {v : Value} (h : RD w F m L (.agg cs) v) : ∃ us : List Value, v = .agg us.toArray ∧ DCells w F m L cs us := by
  cases h with
  | agg _ vs hl h1 hr => exact ⟨vs, rfl, hl, fun c y u hy hu => ⟨hr c y u hy hu, h1 u (List.mem_of_getElem? hu)⟩⟩
theorem RV.agg_inv {cs : List V} {v : Value} (h : RV w F (.agg cs) v) : ∃ us : List Value, v = .agg us.toArray ∧ VCells w F cs us := by
  cases h with
  | agg _ vs hl h1 hr => exact ⟨vs, rfl, hl, fun c y u hy hu => ⟨hr c y u hy hu, h1 u (List.mem_of_getElem? hu)⟩⟩

theorem run_field {t : TypeId} {f : Nat} {fs : Array Field} {fd : Field} {agg : Bool} (hu : P.underlying t = some (.struct fs)) (hf : fs[f]? = some fd) (ha : isAggT P fd.type = some agg) {d e : D} {v : Value} (hd : RD w F m L d v)
    (he : (match d with | .v (.agg cs) => (takeV agg (P.cellsOf fd.type) fd.offset cs).map D.v | .agg cs => takeD agg (P.cellsOf fd.type) fd.offset cs | _ => none) = some e) :
    ∃ u, (Instr.field t v f).run P w = .ok u w ∧ RD w F m L e u := by
  cases d with
  | v x =>
    cases x with
    | agg cs =>
      obtain ⟨us, rfl, hV⟩ := hd.v_inv.agg_inv
      simp only [Option.map_eq_some_iff] at he
      obtain ⟨y, hy, rfl⟩ := he
      rcases takeV_ok hV hy with ⟨rfl, hle, hrv⟩ | ⟨rfl, z, hz, hrv⟩
      · exact ⟨_, by simp [Instr.field, run_underlying hu, hf, asAgg, (run_part (w := w) ha us fd.offset).1 rfl hle], .v hrv⟩
      · exact ⟨_, by simp [Instr.field, run_underlying hu, hf, asAgg, (run_part (w := w) ha us fd.offset).2 rfl z hz], .v hrv⟩
    | _ => simp only [reduceCtorEq] at he
  | agg cs =>
    simp only at he
    obtain ⟨us, rfl, hD⟩ := hd.agg_inv
    rcases takeD_ok hD he with ⟨rfl, hle, hrv⟩ | ⟨rfl, z, hz, hrv⟩
    · exact ⟨_, by simp [Instr.field, run_underlying hu, hf, asAgg, (run_part (w := w) ha us fd.offset).1 rfl hle], hrv⟩
    · exact ⟨_, by simp [Instr.field, run_underlying hu, hf, asAgg, (run_part (w := w) ha us fd.offset).2 rfl z hz], hrv⟩
  | _ => simp only [reduceCtorEq] at he

theorem run_index_str {t : TypeId} (hu : P.underlying t = some .string) {s : ByteArray} {k : IntKind} {i : Int} (h0 : 0 ≤ i) {b : UInt8} (hb : s.data.toList[i.toNat]? = some b) :
    (Instr.index t (.string s) (.int k i)).run P w = .ok (.int .u8 b.toNat) w := by
  have : s[i.toNat]? = some b := by
    have hlt := (List.getElem?_eq_some_iff.1 hb).1
    have hlt' : i.toNat < s.size := by simp only [Array.length_toList] at hlt; exact hlt
    have h2 := (List.getElem?_eq_some_iff.1 hb).2
    rw [getElem?_pos s i.toNat hlt']
    exact congrArg some h2
  simp [Instr.index, asIntOf, run_underlying hu, h0, this]

theorem run_index_arr {t e : TypeId} {len : Nat} (hu : P.underlying t = some (.array len e)) {agg : Bool} (ha : isAggT P e = some agg) {cs : List V} {v : Value} {x : V} (hv : RV w F (.agg cs) v) {k : IntKind} {i : Int} (h0 : 0 ≤ i) (h1 : i < (len : Int))
    (hx : takeV agg (P.cellsOf e) (i.toNat * P.cellsOf e) cs = some x) : ∃ u, (Instr.index t v (.int k i)).run P w = .ok u w ∧ RV w F x u := by
  obtain ⟨us, rfl, hV⟩ := hv.agg_inv
  obtain ⟨d, hue, hag⟩ := isAggT_under ha
  rcases takeV_ok hV hx with ⟨rfl, hle, hrv⟩ | ⟨rfl, z, hz, hrv⟩
  · exact ⟨_, by simp [Instr.index, asIntOf, run_underlying hu, h0, h1, run_sizeOf hue, (run_part (w := w) ha us _).1 rfl hle], hrv⟩
  · exact ⟨_, by simp [Instr.index, asIntOf, run_underlying hu, h0, h1, run_sizeOf hue, (run_part (w := w) ha us _).2 rfl z hz], hrv⟩

theorem Sim.len (h : Sim O S n a w F L) {t : TypeId} {x : D} {v : Value} {i : Int} (hx : RD w F S.m L x v) (hi : effLen P S.m t x = some i) (ty : TypeId) : (Builtin.len_ #[t] ty #[v]).run P w = .ok (.int .i64 i) w := by
  have sl : (slcOf P t).isSome = true → ∃ e, P.underlying t = some (.slice e) := fun hs => by
    cases hk : slcOf P t with
    | none => rw [hk] at hs; cases hs
    | some x => obtain ⟨e, k, by_⟩ := x; exact ⟨e, (slc_inv hk).1⟩
  unfold effLen at hi
  split at hi
  · split at hi
    · rename_i hst; cases hi; obtain rfl := hx.str_inv; simp [Builtin.len_, run_underlying (str_inv hst), goInt]
    · cases hi
  · split at hi
    · rename_i hs
      obtain ⟨e, hu⟩ := sl hs
      cases hi; obtain rfl := hx.v_inv.nil_inv; simp [Builtin.len_, run_underlying hu, goInt]
    · cases hi
  · rename_i sz xs
    split at hi
    · rename_i hs
      obtain ⟨e, hu⟩ := sl hs
      cases hi
      obtain ⟨ad, cap, us, hrow, _⟩ := row_sl hx.v_inv
      obtain rfl := hrow.val
      simp [Builtin.len_, run_underlying hu, goInt]
    · cases hi
  · rename_i r g off len
    split at hi
    · rename_i hs
      obtain ⟨hs1, hs⟩ := hs
      obtain ⟨e, hu⟩ := sl hs1
      cases hi
      cases hro : rowOf S.m (.own r g off len) with
      | none => rw [hro] at hs; cases hs
      | some x =>
        have hr' := hro
        unfold rowOf at hr'
        simp only at hr'
        split at hr'
        · rename_i sz' els fz hl
          obtain ⟨hle, ad, us, hrow, _⟩ := row_own h hx hl
          have hv := hrow.val
          have hlen : ((els.drop off).take len).length = len := by simp; omega
          rw [hlen] at hv
          subst hv
          simp [Builtin.len_, run_underlying hu, goInt]
        · cases hr'
    · cases hi
  · split at hi
    · rename_i k e hu
      cases hi
      simp [Builtin.len_, run_underlying hu, goInt]
    · cases hi

/-- Cells written one behind the other. -/
theorem foldl_cells : ∀ (vs : List Value) (k off : Nat) (cur : Array Value), off + k + vs.length ≤ cur.size →
    ((vs.zipIdx k).foldl (fun cs (x : Value × Nat) => cs.setIfInBounds (off + x.2) x.1) cur).toList = cur.toList.take (off + k) ++ vs ++ cur.toList.drop (off + k + vs.length)
  | [], k, off, cur, _ => by simp
  | v :: vs, k, off, cur, h => by
    simp only [List.zipIdx_cons, List.foldl_cons]
    rw [foldl_cells vs (k + 1) off _ (by simp at h ⊢; omega)]
    simp only [Array.toList_setIfInBounds, List.length_cons] at h ⊢
    have hlt : off + k < cur.toList.length := by simp; omega
    rw [show off + (k + 1) = off + k + 1 by omega, List.take_set, List.drop_set_of_lt (by omega), List.take_succ_eq_append_getElem hlt]
    rw [List.set_append_right _ _ (by simp; omega)]
    simp only [List.length_take, Array.length_toList]
    rw [show off + k - min (off + k) cur.size = 0 by omega]
    simp [show off + k + 1 + vs.length = off + k + (vs.length + 1) by omega]

theorem DCells.put {ys new : List D} {us nu : List Value} (h : DCells w F m L ys us) (hn : DCells w F m L new nu) (c : Nat) (hc : c + new.length ≤ ys.length) : DCells w F m L (putCells ys c new) (us.take c ++ nu ++ us.drop (c + nu.length)) := by
  have h1 := h.len
  have h2 := hn.len
  refine ⟨by simp [putCells]; omega, fun j y u hy hu => ?_⟩
  unfold putCells at hy
  rw [List.append_assoc] at hy hu
  rw [List.getElem?_append] at hy hu
  simp only [List.length_take, h1] at hy hu
  split at hy
  · rename_i hj
    rw [if_pos hj] at hu
    rw [List.getElem?_take_of_lt (by omega)] at hy hu
    exact h.at_ _ y u hy hu
  · rename_i hj
    rw [if_neg hj] at hu
    rw [List.getElem?_append] at hy hu
    rw [← h2] at hu
    split at hy
    · rename_i hj2
      rw [if_pos hj2] at hu
      exact hn.at_ _ y u hy hu
    · rename_i hj2
      rw [if_neg hj2] at hu
      rw [List.getElem?_drop] at hy hu
      exact h.at_ _ y u hy hu

theorem fill_ok {t : TypeId} {place : Nat → Option (Nat × Nat)} (hpl : ∀ i p, placeOf P t i = some p → place i = some p) : ∀ (parts : List (Nat × Operand)) (cells out : List D) (us : List Value), (∀ x ∈ parts, RD w F S.m L (S.ev x.2) (a.eval x.2)) →
    DCells w F S.m L cells us → fillD P t cells (parts.map fun x => (x.1, S.ev x.2)) = some out →
    ∃ vs : List Value, Instr.fill place us.toArray (parts.map fun x => (x.1, a.eval x.2)) = some vs.toArray ∧ DCells w F S.m L out vs
  | [], cells, out, us, _, hD, h => by simp [fillD] at h; subst h; exact ⟨us, rfl, hD⟩
  | (i, x) :: rest, cells, out, us, hr, hD, h => by
    simp only [List.map_cons, fillD] at h
    split at h
    · rename_i off size hp
      split at h
      · rename_i hc
        obtain ⟨h1, h2, h3⟩ := hc
        have hd : RD w F S.m L (S.ev x) (a.eval x) := hr (i, x) (by simp)
        have hDx := hd.dcells h3
        have hlen := hDx.len
        have hp' := hpl i _ hp
        have hD' := hD.put hDx off (by omega)
        obtain ⟨vs, hv1, hv2⟩ := fill_ok hpl rest _ out _ (fun y hy => hr y (by simp [hy])) hD' h
        refine ⟨vs, ?_, hv2⟩
        simp only [List.map_cons, Instr.fill, hp']
        have hcs : (a.eval x).cells.size = size := by rw [← h1, hlen]; simp
        have hus : us.length = cells.length := hD.len.symm
        have hsz : (a.eval x).cells.size ≤ us.length - off := by omega
        rw [if_neg (by simp [hcs]; omega)]
        rw [← hv1]
        congr 1
        have hf := foldl_cells (a.eval x).cells.toList 0 off us.toArray (by simp only [Array.length_toList, hcs, List.size_toArray]; omega)
        rw [← Array.toList_inj, ← Array.foldl_toList]
        simp only [Array.toList_zipIdx, Nat.add_zero] at hf ⊢
        rw [hf]
      · cases h
    · cases h

theorem mapM_sizes : ∀ (fs : List Field), (fs.all fun f => (P.info? f.type).isSome) = true →
    (fs.mapM fun f => do pure (f.offset, ← sizeOf f.type) : Sem (List (Nat × Nat))).run P w = .ok (fs.map fun f => (f.offset, P.cellsOf f.type)) w
  | [], _ => by simp
  | f :: fs, h => by
    simp only [List.all_cons, Bool.and_eq_true] at h
    have ih := mapM_sizes fs h.2
    cases hi : P.info? f.type with
    | none => rw [hi] at h; simp at h
    | some i =>
      have hs : (sizeOf f.type).run P w = .ok (P.cellsOf f.type) w := by simp [sizeOf, typeInfo, hi, Program.cellsOf]
      simp only [List.mapM_cons, Sem.run_bind, Sem.run_pure, hs, ih, Result.andThen_ok, List.map_cons]

theorem zeroV_run {t : TypeId} {z : V} (h : zeroV P t = some z) : ∃ zv, (∀ w : World, (zeroValue t).run P w = .ok zv w) ∧ plainV zv = true ∧ z = V.ofValue zv ∧ ∃ i, P.info? t = some i ∧ i.zero = some zv := by
  unfold zeroV at h
  split at h
  · rename_i zv hz
    split at h
    · rename_i hp
      cases h
      cases hi : P.info? t with
      | none => rw [hi] at hz; cases hz
      | some i =>
        rw [hi] at hz
        simp only [Option.bind_some] at hz
        exact ⟨zv, fun w => by simp [zeroValue, typeInfo, hi, hz], hp, rfl, i, rfl, hz⟩
    · cases h
  · cases h

theorem Sim.build (h : Sim O S n a w F L) {t : TypeId} {parts : Array (Nat × Operand)} {z : V} {cs : List D} (hz : zeroV P t = some z) (hk : fieldsKnown P t = true)
    (hc : fillD P t (z.cells.map .v) (parts.toList.map fun x => (x.1, S.ev x.2)) = some cs) :
    ∃ u, (Instr.build t (parts.map fun (i, x) => (i, a.eval x))).run P w = .ok u w ∧ RD w F S.m L (mkAgg cs) u := by
  obtain ⟨zv, hzr, hp, rfl, _⟩ := zeroV_run hz
  have hV := (RV.ofValue (w := w) (F := F) zv hp).cells_
  have hD : DCells w F S.m L ((V.ofValue zv).cells.map .v) zv.cells.toList := ⟨by simpa using hV.len, fun c y u hy hu => by
    simp only [List.getElem?_map, Option.map_eq_some_iff] at hy
    obtain ⟨x, hx, rfl⟩ := hy
    exact ⟨.v (hV.at_ c x u hx hu).1, (hV.at_ c x u hx hu).2⟩⟩
  unfold fieldsKnown at hk
  split at hk
  · rename_i fs hu
    obtain ⟨vs, hv1, hv2⟩ := fill_ok (P := P) (t := t) (a := a) (place := ((fs.toList.map fun f => (f.offset, P.cellsOf f.type)).toArray[·]?)) (fun i p hip => by
      unfold placeOf at hip
      rw [hu] at hip
      simp only at hip
      simpa using hip) parts.toList _ cs _ (fun x _ => h.ev x.2) hD hc
    refine ⟨.agg vs.toArray, ?_, hv2.agg⟩
    have hm : (fs.mapM fun f => do pure (f.offset, ← sizeOf f.type) : Sem (Array (Nat × Nat))).run P w = .ok (fs.toList.map fun f => (f.offset, P.cellsOf f.type)).toArray w := by
      rw [Array.mapM_eq_mapM_toList]
      simp only [Sem.run_map, mapM_sizes fs.toList hk, Result.andThen_ok]
    unfold Instr.build
    simp only [Sem.run_bind, hzr, Result.andThen_ok, run_underlying hu, hm, Array.toList_map]
    simp only [Array.toArray_toList] at hv1
    simp only [hv1]
    rfl
  · rename_i k e hu
    cases hi : P.info? e with
    | none => rw [hi] at hk; cases hk
    | some i =>
      obtain ⟨vs, hv1, hv2⟩ := fill_ok (P := P) (t := t) (a := a) (place := fun i => some (i * P.cellsOf e, P.cellsOf e)) (fun i p hip => by
        unfold placeOf at hip
        rw [hu] at hip
        exact hip) parts.toList _ cs _ (fun x _ => h.ev x.2) hD hc
      refine ⟨.agg vs.toArray, ?_, hv2.agg⟩
      have hs : (sizeOf e).run P w = .ok (P.cellsOf e) w := by simp [sizeOf, typeInfo, hi, Program.cellsOf]
      unfold Instr.build
      simp only [Sem.run_bind, hzr, Result.andThen_ok, run_underlying hu, hs, Array.toList_map]
      simp only [Array.toArray_toList] at hv1
      simp only [hv1]
      rfl
  · cases hk

end Go.Proofs.YtdhdhcllgkddnaaGreat.Va

namespace Go.Proofs.YtdhdhcllgkddnaaGreat.Va
open Go Go.RowKit

variable {O : Org} {S S' : St} {n : Nat} {a : Act} {w w' : World} {F F' : Nat → Prop} {L L' : Lay} {P : Program} {m : Nat → RS}

def Lay.set (L : Lay) (t : Nat) (b : Option Addr) (k : Nat) : Lay := ⟨fun r => if r = t then b else L.base r, fun r => if r = t then k else L.cap r⟩

theorem blk_congr {r : Nat} {reg : Reg} (hb : L'.base r = L.base r) (hc : L'.cap r = L.cap r) : blk L' r reg = blk L r reg := by
  unfold blk; rw [hb, hc]

/-- A region is made over the block g: a new one, or one that nothing else holds. -/
theorem Sim.adopt (h : Sim O S n a w F L) (t : Nat) (reg : Reg) (g : Nat) (κ : Nat) (b : Option Addr)
    (hos : w'.os = w.os) (htape : w'.tape = w.tape) (hout : w'.output = w.output) (hsz : w.heap.size ≤ w'.heap.size) (hX : ∀ b, b < w.heap.size → b ≠ g → w'.heap[b]? = w.heap[b]?)
    (hgF : ¬ F g) (hg0 : g < O.w0.heap.size → g ∈ O.M) (hown : ∀ r reg', (S.m r).reg = some reg' → r ≠ t → blk L r reg' ≠ some g)
    (hreg : RegOk w' F (upd S.m [newReg S.m t reg]) (L.set t b κ) t reg) (hblk : ∀ x, blk (L.set t b κ) t reg = some x → x = g) :
    Sim O (S.setM [newReg S.m t reg]) n a w' F (L.set t b κ) := by
  have hne : ∀ r, r ≠ t → (upd S.m [newReg S.m t reg]) r = S.m r := fun r hr => by simp [newReg, hr]
  have heq : (upd S.m [newReg S.m t reg]) t = ⟨(S.m t).gen + 1, some reg⟩ := by simp [newReg]
  have hbase : ∀ r, r ≠ t → (L.set t b κ).base r = L.base r := fun r hr => by simp [Lay.set, hr]
  have hcap : ∀ r, r ≠ t → (L.set t b κ).cap r = L.cap r := fun r hr => by simp [Lay.set, hr]
  refine Sim.step h (fun x => x = g) (fun _ => False) (by simp) hos htape hout hsz (fun x hx hn => hX x hx hn) (fun x hx => by subst hx; exact hgF) (fun x hx h0 => by subst hx; exact hg0 h0) (fun _ hb => hb)
    (fun _ hb => .inl hb) (fun x hx => Nat.lt_of_lt_of_le (h.Flt x hx) hsz) (fun _ hx => hx.elim) ⟨fun r => ?_, fun r g' reg' sz els' hg hl hb => ?_, fun r g' reg' cs' hg hl hb => ?_⟩ (fun r reg' hr => ?_) (fun r reg' x hr hx h0 => ?_) fun r r' reg1 reg2 x hr hr' hx hx' => ?_
  · simp only [setM_m]
    by_cases hr : r = t
    · subst hr; rw [heq]; simp
    · rw [hne r hr]; exact Nat.le_refl _
  · simp only [setM_m] at hl
    by_cases hr : r = t
    · subst hr
      obtain ⟨h1, h2⟩ := live_reg hl
      rw [heq] at h1
      simp at h1; omega
    · have hl' : live S.m r g' = some reg' := by unfold live at hl ⊢; rw [hne r hr] at hl; exact hl
      exact ⟨reg', els', hl', hb, Nat.le_refl _, by rw [hcap r hr]; exact h.rowLe (live_reg hl').2 hb, hcap r hr, hbase r hr⟩
  · simp only [setM_m] at hl
    by_cases hr : r = t
    · subst hr
      obtain ⟨h1, h2⟩ := live_reg hl
      rw [heq] at h1
      simp at h1; omega
    · have hl' : live S.m r g' = some reg' := by unfold live at hl ⊢; rw [hne r hr] at hl; exact hl
      exact ⟨reg', cs', hl', hb, hbase r hr⟩
  · simp only [setM_m] at hr
    by_cases hrt : r = t
    · subst hrt
      rw [heq] at hr
      cases hr
      exact .inl (by simpa using hreg)
    · rw [hne r hrt] at hr
      exact .inr ⟨hr, hbase r hrt, hcap r hrt, fun x hx => ⟨fun e => hown r reg' hr hrt (e ▸ hx), fun e => e⟩⟩
  · simp only [setM_m] at hr
    by_cases hrt : r = t
    · subst hrt
      rw [heq] at hr
      cases hr
      have := hblk x hx
      subst this
      exact hg0 h0
    · rw [hne r hrt] at hr
      rw [blk_congr (hbase r hrt) (hcap r hrt)] at hx
      exact h.mine r reg' x hr hx h0
  · simp only [setM_m] at hr hr'
    by_cases h1 : r = t <;> by_cases h2 : r' = t
    · rw [h1, h2]
    · subst h1
      rw [heq] at hr; cases hr
      rw [hne r' h2] at hr'
      rw [blk_congr (hbase r' h2) (hcap r' h2)] at hx'
      have := hblk x hx
      subst this
      exact absurd hx' (hown r' reg2 hr' h2)
    · subst h2
      rw [heq] at hr'; cases hr'
      rw [hne r h1] at hr
      rw [blk_congr (hbase r h1) (hcap r h1)] at hx
      have := hblk x hx'
      subst this
      exact absurd hx (hown r reg1 hr h1)
    · rw [hne r h1] at hr
      rw [hne r' h2] at hr'
      rw [blk_congr (hbase r h1) (hcap r h1)] at hx
      rw [blk_congr (hbase r' h2) (hcap r' h2)] at hx'
      exact h.inj r r' reg1 reg2 x hr hr' hx hx'

/-- A region is let go. -/
theorem Sim.kill (h : Sim O S n a w F L) (t : Nat) : Sim O (S.setM [killReg S.m t]) n a w F L := by
  have hne : ∀ r, r ≠ t → (upd S.m [killReg S.m t]) r = S.m r := fun r hr => by simp [killReg, hr]
  have heq : (upd S.m [killReg S.m t]) t = ⟨(S.m t).gen, none⟩ := by simp [killReg]
  have hlive : ∀ r g reg', live (upd S.m [killReg S.m t]) r g = some reg' → r ≠ t ∧ live S.m r g = some reg' := by
    intro r g reg' hl
    by_cases hr : r = t
    · subst hr
      have := (live_reg hl).2
      rw [heq] at this
      cases this
    · exact ⟨hr, by unfold live at hl ⊢; rw [hne r hr] at hl; exact hl⟩
  have hreg : ∀ r reg', ((upd S.m [killReg S.m t]) r).reg = some reg' → (S.m r).reg = some reg' := by
    intro r reg' hr
    by_cases hrt : r = t
    · subst hrt; rw [heq] at hr; cases hr
    · rw [hne r hrt] at hr; exact hr
  refine Sim.step h (fun _ => False) (fun _ => False) (by simp) rfl rfl rfl (Nat.le_refl _) (fun _ _ _ => rfl) (fun _ hx => hx.elim) (fun _ hx => hx.elim) (fun _ hb => hb) (fun _ hb => .inl hb) h.Flt (fun _ hx => hx.elim)
    ⟨fun r => ?_, fun r g reg' sz els' hg hl hb => ?_, fun r g reg' cs' hg hl hb => ?_⟩ (fun r reg' hr => ?_) (fun r reg' x hr hx h0 => ?_) fun r r' reg1 reg2 x hr hr' hx hx' => ?_
  · simp only [setM_m]
    by_cases hr : r = t
    · subst hr; rw [heq]; exact Nat.le_refl _
    · rw [hne r hr]; exact Nat.le_refl _
  · simp only [setM_m] at hl
    obtain ⟨_, hl'⟩ := hlive r g reg' hl
    exact ⟨reg', els', hl', hb, Nat.le_refl _, h.rowLe (live_reg hl').2 hb, rfl, rfl⟩
  · simp only [setM_m] at hl
    obtain ⟨_, hl'⟩ := hlive r g reg' hl
    exact ⟨reg', cs', hl', hb, rfl⟩
  · simp only [setM_m] at hr
    exact .inr ⟨hreg r reg' hr, rfl, rfl, fun _ _ => ⟨id, id⟩⟩
  · simp only [setM_m] at hr
    exact h.mine r reg' x (hreg r reg' hr) hx h0
  · simp only [setM_m] at hr hr'
    exact h.inj r r' reg1 reg2 x (hreg r _ hr) (hreg r' _ hr') hx hx'

/-- A region that is not frozen is written: the same region, other contents. -/
theorem Sim.turn (h : Sim O S n a w F L) (t : Nat) {reg reg' : Reg} (hr0 : (S.m t).reg = some reg) (g : Nat) (hg : blk L t reg = some g) (hg' : ∀ x, blk L t reg' = some x → x = g)
    (hos : w'.os = w.os) (htape : w'.tape = w.tape) (hout : w'.output = w.output) (hsz : w.heap.size ≤ w'.heap.size) (hX : ∀ b, b < w.heap.size → b ≠ g → w'.heap[b]? = w.heap[b]?)
    (hrow : ∀ sz els', reg'.body = .row sz els' → ∃ els, reg.body = .row sz els ∧ els.length ≤ els'.length ∧ els'.length ≤ L.cap t) (hbox : ∀ cs', reg'.body = .box cs' → ∃ cs, reg.body = .box cs)
    (hreg : RegOk w' F (upd S.m [setReg S.m t reg']) L t reg') : Sim O (S.setM [setReg S.m t reg']) n a w' F L := by
  have hne : ∀ r, r ≠ t → (upd S.m [setReg S.m t reg']) r = S.m r := fun r hr => by simp [setReg, hr]
  have heq : (upd S.m [setReg S.m t reg']) t = ⟨(S.m t).gen, some reg'⟩ := by simp [setReg]
  refine Sim.step h (fun x => x = g) (fun _ => False) (by simp) hos htape hout hsz (fun x hx hn => hX x hx hn) (fun x hx => by subst hx; exact blk_not_F (h.regs t reg hr0) hg) (fun x hx h0 => by subst hx; exact h.mine t reg _ hr0 hg h0) (fun _ hb => hb)
    (fun _ hb => .inl hb) (fun x hx => Nat.lt_of_lt_of_le (h.Flt x hx) hsz) (fun _ hx => hx.elim) ⟨fun r => ?_, fun r g' reg1 sz els' hg1 hl hb => ?_, fun r g' reg1 cs' hg1 hl hb => ?_⟩ (fun r reg1 hr => ?_) (fun r reg1 x hr hx h0 => ?_) fun r r' reg1 reg2 x hr hr' hx hx' => ?_
  · simp only [setM_m]
    by_cases hr : r = t
    · subst hr; rw [heq]; exact Nat.le_refl _
    · rw [hne r hr]; exact Nat.le_refl _
  · simp only [setM_m] at hl
    by_cases hr : r = t
    · subst hr
      obtain ⟨h1, h2⟩ := live_reg hl
      rw [heq] at h1 h2
      simp only [Option.some.injEq] at h1 h2
      subst h2
      obtain ⟨els, he1, he2, he3⟩ := hrow sz els' hb
      exact ⟨reg, els, by unfold live; rw [if_pos h1]; exact hr0, he1, he2, he3, rfl, rfl⟩
    · have hl' : live S.m r g' = some reg1 := by unfold live at hl ⊢; rw [hne r hr] at hl; exact hl
      exact ⟨reg1, els', hl', hb, Nat.le_refl _, h.rowLe (live_reg hl').2 hb, rfl, rfl⟩
  · simp only [setM_m] at hl
    by_cases hr : r = t
    · subst hr
      obtain ⟨h1, h2⟩ := live_reg hl
      rw [heq] at h1 h2
      simp only [Option.some.injEq] at h1 h2
      subst h2
      obtain ⟨cs, hc⟩ := hbox cs' hb
      exact ⟨reg, cs, by unfold live; rw [if_pos h1]; exact hr0, hc, rfl⟩
    · have hl' : live S.m r g' = some reg1 := by unfold live at hl ⊢; rw [hne r hr] at hl; exact hl
      exact ⟨reg1, cs', hl', hb, rfl⟩
  · simp only [setM_m] at hr
    by_cases hrt : r = t
    · subst hrt
      rw [heq] at hr
      cases hr
      exact .inl (by simpa using hreg)
    · rw [hne r hrt] at hr
      exact .inr ⟨hr, rfl, rfl, fun x hx => ⟨fun e => by subst e; exact hrt (h.inj r t reg1 reg _ hr hr0 hx hg), fun e => e⟩⟩
  · simp only [setM_m] at hr
    by_cases hrt : r = t
    · subst hrt
      rw [heq] at hr
      cases hr
      have := hg' x hx
      subst this
      exact h.mine r reg _ hr0 hg h0
    · rw [hne r hrt] at hr
      exact h.mine r reg1 x hr hx h0
  · simp only [setM_m] at hr hr'
    by_cases h1 : r = t <;> by_cases h2 : r' = t
    · rw [h1, h2]
    · subst h1
      rw [heq] at hr; cases hr
      rw [hne r' h2] at hr'
      have := hg' x hx
      subst this
      exact h.inj r r' reg reg2 _ hr0 hr' hg hx'
    · subst h2
      rw [heq] at hr'; cases hr'
      rw [hne r h1] at hr
      have := hg' x hx'
      subst this
      exact h.inj r r' reg1 reg _ hr hr0 hx hg
    · rw [hne r h1] at hr
      rw [hne r' h2] at hr'
      exact h.inj r r' reg1 reg2 x hr hr' hx hx'

/-- A row is not written any more. -/
theorem Sim.freeze (h : Sim O S n a w F L) (t : Nat) {sz : Nat} {els : List V} {fz : Bool} (hr0 : (S.m t).reg = some ⟨.row sz els, fz⟩) :
    ∃ F', Sim O (S.setM [setReg S.m t ⟨.row sz els, true⟩]) n a w F' L ∧ (∀ b, F b → F' b) ∧ (∀ b, blk L t ⟨.row sz els, fz⟩ = some b → F' b) := by
  have hne : ∀ r, r ≠ t → (upd S.m [setReg S.m t ⟨.row sz els, true⟩]) r = S.m r := fun r hr => by simp [setReg, hr]
  have heq : (upd S.m [setReg S.m t ⟨.row sz els, true⟩]) t = ⟨(S.m t).gen, some ⟨.row sz els, true⟩⟩ := by simp [setReg]
  refine ⟨fun b => F b ∨ blk L t ⟨.row sz els, fz⟩ = some b, ?_, fun _ hb => .inl hb, fun _ hb => .inr hb⟩
  refine Sim.step h (fun _ => False) (fun b => blk L t ⟨.row sz els, fz⟩ = some b) (by simp) rfl rfl rfl (Nat.le_refl _) (fun _ _ _ => rfl) (fun _ hx => hx.elim) (fun _ hx => hx.elim) (fun _ hb => .inl hb) (fun _ hb => hb.imp id .inl)
    (fun x hx => ?_) (fun x hx h0 => h.mine t _ x hr0 hx h0) ⟨fun r => ?_, fun r g' reg1 sz' els' hg1 hl hb => ?_, fun r g' reg1 cs' hg1 hl hb => ?_⟩ (fun r reg1 hr => ?_) (fun r reg1 x hr hx h0 => ?_) fun r r' reg1 reg2 x hr hr' hx hx' => ?_
  · rcases hx with hx | hx
    · exact h.Flt x hx
    · exact blk_lt (h.regs t _ hr0) hx
  · simp only [setM_m]
    by_cases hr : r = t
    · subst hr; rw [heq]; exact Nat.le_refl _
    · rw [hne r hr]; exact Nat.le_refl _
  · simp only [setM_m] at hl
    by_cases hr : r = t
    · subst hr
      obtain ⟨h1, h2⟩ := live_reg hl
      rw [heq] at h1 h2
      simp only [Option.some.injEq] at h1 h2
      subst h2
      cases hb
      exact ⟨_, els, by unfold live; rw [if_pos h1]; exact hr0, rfl, Nat.le_refl _, h.rowLe hr0 rfl, rfl, rfl⟩
    · have hl' : live S.m r g' = some reg1 := by unfold live at hl ⊢; rw [hne r hr] at hl; exact hl
      exact ⟨reg1, els', hl', hb, Nat.le_refl _, h.rowLe (live_reg hl').2 hb, rfl, rfl⟩
  · simp only [setM_m] at hl
    by_cases hr : r = t
    · subst hr
      obtain ⟨h1, h2⟩ := live_reg hl
      rw [heq] at h1 h2
      simp only [Option.some.injEq] at h1 h2
      subst h2
      cases hb
    · have hl' : live S.m r g' = some reg1 := by unfold live at hl ⊢; rw [hne r hr] at hl; exact hl
      exact ⟨reg1, cs', hl', hb, rfl⟩
  · simp only [setM_m] at hr
    by_cases hrt : r = t
    · subst hrt
      rw [heq] at hr
      cases hr
      left
      have h5 := h.regs r _ hr0
      simp only [RegOk] at h5 ⊢
      obtain ⟨h6, h7, h8, h9⟩ := h5
      refine ⟨h6, h7, h8, ?_⟩
      by_cases h0 : L.cap r = 0
      · exact .inl h0
      obtain ⟨g, cur, ty, k1, k2, k3, k4, k5⟩ := h9.resolve_left h0
      refine .inr ⟨g, cur, ty, k1, k2, ⟨fun _ => trivial, fun _ => ?_⟩, k4, fun i c x y hx hy => ?_⟩
      · cases fz with
        | true => exact .inl (k3.2 rfl)
        | false => exact .inr (by simp [blk, h0, k1])
      · obtain ⟨u, u1, u2, u3⟩ := k5 i c x y hx hy
        exact ⟨u, u1, u2, u3.mono (Keeps.refl _ _) fun _ hb => .inl hb⟩
    · rw [hne r hrt] at hr
      refine .inr ⟨hr, rfl, rfl, fun x hx => ⟨id, fun e => ?_⟩⟩
      exact hrt (h.inj r t reg1 _ x hr hr0 hx e)
  · simp only [setM_m] at hr
    by_cases hrt : r = t
    · subst hrt
      rw [heq] at hr
      cases hr
      simp [blk] at hx
    · rw [hne r hrt] at hr
      exact h.mine r reg1 x hr hx h0
  · simp only [setM_m] at hr hr'
    by_cases h1 : r = t <;> by_cases h2 : r' = t
    · rw [h1, h2]
    · subst h1
      rw [heq] at hr; cases hr
      simp [blk] at hx
    · subst h2
      rw [heq] at hr'; cases hr'
      simp [blk] at hx'
    · rw [hne r h1] at hr
      rw [hne r' h2] at hr'
      exact h.inj r r' reg1 reg2 x hr hr' hx hx'

end Go.Proofs.YtdhdhcllgkddnaaGreat.Va

namespace Go.Proofs.YtdhdhcllgkddnaaGreat.Va
open Go Go.RowKit

variable {O : Org} {S S' : St} {n : Nat} {a : Act} {w w' : World} {F F' : Nat → Prop} {L L' : Lay} {P : Program} {m : Nat → RS}

theorem Sim.mle_new (h : Sim O S n a w F L) (t : Nat) (reg : Reg) (b : Option Addr) (κ : Nat) : MLe S.m L (upd S.m [newReg S.m t reg]) (L.set t b κ) := by
  have hne : ∀ r, r ≠ t → (upd S.m [newReg S.m t reg]) r = S.m r := fun r hr => by simp [newReg, hr]
  have heq : (upd S.m [newReg S.m t reg]) t = ⟨(S.m t).gen + 1, some reg⟩ := by simp [newReg]
  refine ⟨fun r => ?_, fun r g' reg' sz els' hg hl hb => ?_, fun r g' reg' cs' hg hl hb => ?_⟩
  · by_cases hr : r = t
    · subst hr; rw [heq]; simp
    · rw [hne r hr]; exact Nat.le_refl _
  · by_cases hr : r = t
    · subst hr
      obtain ⟨h1, h2⟩ := live_reg hl
      rw [heq] at h1
      simp at h1; omega
    · have hl' : live S.m r g' = some reg' := by unfold live at hl ⊢; rw [hne r hr] at hl; exact hl
      exact ⟨reg', els', hl', hb, Nat.le_refl _, by simp [Lay.set, hr]; exact h.rowLe (live_reg hl').2 hb, by simp [Lay.set, hr], by simp [Lay.set, hr]⟩
  · by_cases hr : r = t
    · subst hr
      obtain ⟨h1, h2⟩ := live_reg hl
      rw [heq] at h1
      simp at h1; omega
    · have hl' : live S.m r g' = some reg' := by unfold live at hl ⊢; rw [hne r hr] at hl; exact hl
      exact ⟨reg', cs', hl', hb, by simp [Lay.set, hr]⟩

theorem keeps_alloc (h : Sim O S n a w F L) (o : Obj) : Keeps F w (w.alloc o) := fun b hb => Below.heap_alloc w o b (h.Flt b hb)

theorem live_new (t : Nat) (reg : Reg) : live (upd m [newReg m t reg]) t ((m t).gen + 1) = some reg := by simp [live, newReg]

/-- A new variable. -/
theorem Sim.newBox (h : Sim O S n a w F L) (t : Nat) (cs : List D) (us : List Value) (ty : TypeId) (hD : DCells w F S.m L cs us) :
    ∃ L', Sim O (S.setM [newReg S.m t ⟨.box cs, false⟩]) n a (w.alloc (.cells us.toArray ty)) F L' ∧
      RD (w.alloc (.cells us.toArray ty)) F (upd S.m [newReg S.m t ⟨.box cs, false⟩]) L' (.ptr t ((S.m t).gen + 1) 0 0) (.pointer (some ⟨w.heap.size, 0, none⟩)) := by
  have hm := h.mle_new t ⟨.box cs, false⟩ (some ⟨w.heap.size, 0, none⟩) 1
  refine ⟨L.set t (some ⟨w.heap.size, 0, none⟩) 1, ?_, ?_⟩
  · refine h.adopt t ⟨.box cs, false⟩ w.heap.size 1 _ rfl rfl rfl (by simp) (fun b hb _ => Below.heap_alloc w _ b hb) (fun hF => absurd (h.Flt _ hF) (Nat.lt_irrefl _)) (fun hlt => absurd h.size0 (by omega))
      (fun r reg' hr _ hb => absurd (blk_lt (h.regs r reg' hr) hb) (Nat.lt_irrefl _)) ?_ (fun x hx => by simpa [blk, Lay.set] using hx.symm)
    refine ⟨w.heap.size, us.toArray, ty, by simp [Lay.set], heap_alloc_new w _, ⟨fun hF => absurd (h.Flt _ hF) (Nat.lt_irrefl _), fun hf => (by cases hf)⟩, by simp [hD.len], fun c d hd => ?_⟩
    have hlt := (List.getElem?_eq_some_iff.1 hd).1
    have hlt' : c < us.length := by rw [← hD.len]; exact hlt
    obtain ⟨h1, h2⟩ := hD.at_ c d us[c] hd (List.getElem?_eq_getElem hlt')
    exact ⟨us[c], by simp [hlt'], h2, h1.mono (keeps_alloc h _) (fun _ hb => hb) hm⟩
  · refine .ptr _ _ _ _ _ (by simp [newReg]) rfl (fun reg' sz els' hl hb => ?_) fun reg' cs' hl hb => ?_
    · rw [live_new] at hl; cases hl; cases hb
    · rw [live_new] at hl; cases hl; cases hb
      exact ⟨rfl, by simp [Lay.set, Addr.add_lit]⟩

/-- The cells of a row's elements. -/
structure ECells (w : World) (F : Nat → Prop) (sz : Nat) (els : List V) (us : List Value) : Prop where
  len : us.length = els.length * sz
  sizes : ∀ x ∈ els, x.cells.length = sz
  one : ∀ u ∈ us, u.oneCell' = true
  at_ : ∀ (i c : Nat) (x y : V), els[i]? = some x → x.cells[c]? = some y → ∃ u, us[i * sz + c]? = some u ∧ RV w F y u

theorem Row.ecells {sz : Nat} {xs : List V} {v : Value} {ad : Option Addr} {cap : Nat} {us : List Value} (h : Row w F sz xs v ad cap us) : ECells w F sz xs us := ⟨h.len, h.sizes, h.one, h.at_⟩

theorem ECells.mono {sz : Nat} {els : List V} {us : List Value} (h : ECells w F sz els us) (hk : Keeps F w w') (hF : ∀ b, F b → F' b) : ECells w' F' sz els us :=
  ⟨h.len, h.sizes, h.one, fun i c x y hx hy => let ⟨u, h1, h2⟩ := h.at_ i c x y hx hy; ⟨u, h1, h2.mono hk hF⟩⟩

theorem ECells.append {sz : Nat} {xs ys : List V} {us vs : List Value} (h : ECells w F sz xs us) (k : ECells w F sz ys vs) : ECells w F sz (xs ++ ys) (us ++ vs) := by
  refine ⟨by rw [List.length_append, List.length_append, h.len, k.len, Nat.add_mul], fun x hx => ?_, fun u hu => ?_, fun i c x y hx hy => ?_⟩
  · rcases List.mem_append.1 hx with hx | hx
    · exact h.sizes x hx
    · exact k.sizes x hx
  · rcases List.mem_append.1 hu with hu | hu
    · exact h.one u hu
    · exact k.one u hu
  · rw [List.getElem?_append] at hx
    split at hx
    · rename_i hi
      obtain ⟨u, h1, h2⟩ := h.at_ i c x y hx hy
      exact ⟨u, by rw [List.getElem?_append_left (List.getElem?_eq_some_iff.1 h1).1]; exact h1, h2⟩
    · rename_i hi
      obtain ⟨u, h1, h2⟩ := k.at_ _ c x y hx hy
      refine ⟨u, ?_, h2⟩
      have e : i * sz + c = us.length + ((i - xs.length) * sz + c) := by
        rw [h.len, ← Nat.add_assoc, ← Nat.add_mul]; congr 2; omega
      rw [e, List.getElem?_append_right (by omega), Nat.add_sub_cancel_left]
      exact h1

/-- A new row. -/
theorem Sim.newRow (h : Sim O S n a w F L) (t : Nat) (sz : Nat) (els : List V) (us rest : List Value) (κ : Nat) (ty : TypeId) (hE : ECells w F sz els us) (hle : els.length ≤ κ) (hmax : κ ≤ maxLen) (hlen : us.length + rest.length = κ * sz) :
    ∃ L', Sim O (S.setM [newReg S.m t ⟨.row sz els, false⟩]) n a (w.alloc (.cells (us ++ rest).toArray ty)) F L' ∧
      RD (w.alloc (.cells (us ++ rest).toArray ty)) F (upd S.m [newReg S.m t ⟨.row sz els, false⟩]) L' (.own t ((S.m t).gen + 1) 0 els.length) (.slice (some ⟨w.heap.size, 0, none⟩) els.length κ) := by
  refine ⟨L.set t (some ⟨w.heap.size, 0, none⟩) κ, ?_, ?_⟩
  · refine h.adopt t ⟨.row sz els, false⟩ w.heap.size κ _ rfl rfl rfl (by simp) (fun b hb _ => Below.heap_alloc w _ b hb) (fun hF => absurd (h.Flt _ hF) (Nat.lt_irrefl _)) (fun hlt => absurd h.size0 (by omega))
      (fun r reg' hr _ hb => absurd (blk_lt (h.regs r reg' hr) hb) (Nat.lt_irrefl _)) ?_ (fun x hx => by
        unfold blk at hx
        simp only [Bool.false_eq_true, if_false] at hx
        split at hx
        · cases hx
        · simpa [Lay.set] using hx.symm)
    refine ⟨by simpa [Lay.set] using hle, by simpa [Lay.set] using hmax, hE.sizes, .inr ⟨w.heap.size, (us ++ rest).toArray, ty, by simp [Lay.set], heap_alloc_new w _, ⟨fun hF => absurd (h.Flt _ hF) (Nat.lt_irrefl _), fun hf => (by cases hf)⟩, by simp [Lay.set, hlen], fun i c x y hx hy => ?_⟩⟩
    obtain ⟨u, h1, h2⟩ := hE.at_ i c x y hx hy
    have hlt := (List.getElem?_eq_some_iff.1 h1).1
    exact ⟨u, by simp [List.getElem?_append_left hlt, h1], hE.one u (List.mem_of_getElem? h1), h2.mono (keeps_alloc h _) fun _ hb => hb⟩
  · refine .own _ _ _ _ _ (by simp [newReg]) rfl fun reg' sz' els' hl hb => ?_
    rw [live_new] at hl; cases hl; cases hb
    exact ⟨by omega, by simpa [Lay.set] using hle, some ⟨w.heap.size, 0, none⟩, by simp [Lay.set], fun _ => by simp [Lay.set, Addr.add_lit]⟩

theorem Row.rv {sz : Nat} {xs : List V} {v : Value} {ad : Option Addr} {cap : Nat} {us : List Value} (h : Row w F sz xs v ad cap us) (hF : ∀ b, F b → F' b) (hb : ∀ b, ad = some b → xs ≠ [] → F' b.block) (hn : ad = Option.none → cap = 0) : RV w F' (.sl sz xs) v := by
  rw [h.val]
  cases ad with
  | none =>
    have := h.none rfl
    subst this
    have := hn rfl
    subst this
    exact .sl0 sz
  | some b =>
    refine .sl sz xs b cap (fun i c => us.getD (i * sz + c) undef) (hb b rfl) h.le h.max h.sizes ?_ ?_ ?_
    all_goals
      intro i c x y hx hy
      obtain ⟨u, h1, h2⟩ := h.at_ i c x y hx hy
      rw [List.getD_eq_getElem?_getD, h1]
      first
        | exact h.cell b rfl _ u h1
        | exact h.one u (List.mem_of_getElem? h1)
        | exact h2.mono (Keeps.refl _ _) hF

end Go.Proofs.YtdhdhcllgkddnaaGreat.Va

namespace Go.Proofs.YtdhdhcllgkddnaaGreat.Va
open Go Go.RowKit

variable {O : Org} {S S' : St} {n : Nat} {a : Act} {w w' : World} {F F' : Nat → Prop} {L L' : Lay} {P : Program} {m : Nat → RS}

/-- F' holds the blocks of the regions rs. -/
def Covers (m : Nat → RS) (L : Lay) (F' : Nat → Prop) (rs : List Nat) : Prop := ∀ r ∈ rs, ∀ reg b, (m r).reg = some reg → (∃ sz els, reg.body = .row sz els) → blk L r reg = some b → F' b

theorem setM_setM (S : St) (l k : List (Nat × RS)) : (S.setM l).setM k = S.setM (k ++ l) := by
  cases l with
  | nil => simp
  | cons x l =>
    cases k with
    | nil => rfl
    | cons y k =>
      show (⟨S.f, upd (upd S.m (x :: l)) (y :: k)⟩ : St) = ⟨S.f, upd S.m (y :: k ++ x :: l)⟩
      congr 1
      funext r
      have : ∀ k' : List (Nat × RS), upd (upd S.m (x :: l)) k' r = upd S.m (k' ++ x :: l) r := by
        intro k'
        induction k' with
        | nil => rfl
        | cons z k' ih =>
          obtain ⟨i, z⟩ := z
          simp only [List.cons_append, upd_cons]
          split
          · rfl
          · exact ih
      exact this (y :: k)

theorem Sim.freezeAll (h : Sim O S n a w F L) : ∀ rs : List Nat, ∃ F', Sim O (S.setM (freezeAll S.m rs)) n a w F' L ∧ (∀ b, F b → F' b) ∧ Covers S.m L F' rs ∧
    (∀ r, (upd S.m (freezeAll S.m rs) r).gen = (S.m r).gen) ∧
    (∀ r reg, (S.m r).reg = some reg → ∃ fz, (upd S.m (freezeAll S.m rs) r).reg = some ⟨reg.body, fz⟩ ∧ (reg.frozen = true → fz = true)) ∧ (∀ r, r ∉ rs → upd S.m (freezeAll S.m rs) r = S.m r)
  | [] => ⟨F, h, fun _ hb => hb, fun _ hr => (by cases hr), fun _ => rfl, fun _ reg hr => ⟨reg.frozen, hr, id⟩, fun _ _ => rfl⟩
  | r :: rs => by
    obtain ⟨F1, h1, hF1, hc1, hg1, hb1, hn1⟩ := h.freezeAll rs
    unfold Va.freezeAll
    split
    · rename_i sz els fz hr
      obtain ⟨fz1, hr1, hfz1⟩ := hb1 r _ hr
      have hr1' : ((S.setM (Va.freezeAll S.m rs)).m r).reg = some ⟨.row sz els, fz1⟩ := by rw [setM_m]; exact hr1
      obtain ⟨F2, h2, hF2, hb2⟩ := h1.freeze r hr1'
      have e : setReg (S.setM (Va.freezeAll S.m rs)).m r ⟨.row sz els, true⟩ = setReg S.m r ⟨.row sz els, true⟩ := by
        simp only [setReg, setM_m, hg1]
      rw [e, setM_setM] at h2
      refine ⟨F2, h2, fun b hb => hF2 b (hF1 b hb), fun r' hr' reg b hreg hrow hblk => ?_, fun r' => ?_, fun r' reg hreg => ?_, fun r' hr' => ?_⟩
      · rcases List.mem_cons.1 hr' with rfl | hr'
        · rw [hr] at hreg
          cases hreg
          cases hfz : fz1 with
          | true =>
            -- it was frozen by the rest already
            subst hfz
            cases fz with
            | true => simp [blk] at hblk
            | false =>
              have hok := h1.regs r' _ hr1'
              simp only [RegOk] at hok
              obtain ⟨_, _, _, hok⟩ := hok
              unfold blk at hblk
              simp only [Bool.false_eq_true, if_false] at hblk
              split at hblk
              · cases hblk
              · rename_i h0
                obtain ⟨g, cur, ty, k1, k2, k3, _⟩ := hok.resolve_left h0
                rw [k1] at hblk
                simp at hblk
                subst hblk
                exact hF2 _ (k3.2 trivial)
          | false =>
            subst hfz
            have : fz = false := by cases fz with | true => have := hfz1 rfl; cases this | false => rfl
            subst this
            exact hb2 b hblk
        · exact hF2 b (hc1 r' hr' reg b hreg hrow hblk)
      · simp only [setReg, upd_cons]
        split
        · rename_i e; subst e; rfl
        · exact hg1 r'
      · simp only [setReg, upd_cons]
        split
        · rename_i e
          subst e
          rw [hr] at hreg
          cases hreg
          exact ⟨true, rfl, fun _ => rfl⟩
        · exact hb1 r' reg hreg
      · simp only [List.mem_cons, not_or] at hr'
        simp only [setReg, upd_cons]
        rw [if_neg hr'.1]
        exact hn1 r' hr'.2
    · rename_i hno
      refine ⟨F1, h1, hF1, fun r' hr' reg b hreg hrow hblk => ?_, hg1, hb1, fun r' hr' => hn1 r' fun hm => hr' (List.mem_cons_of_mem _ hm)⟩
      rcases List.mem_cons.1 hr' with rfl | hr'
      · obtain ⟨sz, els, hrow⟩ := hrow
        obtain ⟨body, fz⟩ := reg
        simp only at hrow
        subst hrow
        exact absurd hreg (hno sz els fz)
      · exact hc1 r' hr' reg b hreg hrow hblk

theorem Sim.deepC (h : Sim O S n a w F L) {d : D} {v : Value} {x : V} (hd : RD w F S.m L d v) (hx : deepC S.m d = some x) (hF : ∀ b, F b → F' b) (hc : Covers S.m L F' d.ridsC) : RV w F' x v := by
  cases d with
  | v y =>
    simp only [Va.deepC, Option.some.injEq] at hx
    subst hx
    exact hd.v_inv.mono (Keeps.refl _ _) hF
  | own r g off len =>
    simp only [Va.deepC, rowOf, Option.map_eq_some_iff] at hx
    obtain ⟨y, hy, rfl⟩ := hx
    split at hy
    · rename_i sz els fz hl
      simp only [Option.some.injEq] at hy
      subst hy
      obtain ⟨hle, ad, us, hrow, had⟩ := row_own h hd hl
      have hok := h.regs r _ (live_reg hl).2
      refine hrow.rv hF (fun b hb hne => ?_) fun hn => ?_
      · have hlen : (els.drop off).take len ≠ [] := hne
        have hoff : off < L.cap r := by
          rcases Nat.lt_or_ge off (L.cap r) with h1 | h1
          · exact h1
          · simp only [RegOk] at hok
            exact absurd (by rw [List.drop_of_length_le (by omega)]; simp) hlen
        have hbase := had hoff
        simp only [RegOk] at hok
        obtain ⟨g', cur, ty, k1, k2, k3, _⟩ := hok.2.2.2.resolve_left (by omega)
        rw [k1, hb] at hbase
        simp only [Option.map_some, Option.some.injEq] at hbase
        subst hbase
        rw [block_add]
        cases fz with
        | true => exact hF _ (k3.2 rfl)
        | false => exact hc r (by simp [D.ridsC]) _ g' (live_reg hl).2 ⟨sz, els, rfl⟩ (by simp [blk, k1]; omega)
      · rcases Nat.lt_or_ge off (L.cap r) with h1 | h1
        · have hbase := had h1
          simp only [RegOk] at hok
          obtain ⟨g', cur, ty, k1, _⟩ := hok.2.2.2.resolve_left (by omega)
          rw [k1, hn] at hbase
          cases hbase
        · omega
    · cases hy
  | _ => simp only [Va.deepC, reduceCtorEq] at hx

theorem mapM_getElem {α β : Type} {f : α → Option β} : ∀ {l : List α} {r : List β}, l.mapM f = some r → l.length = r.length ∧ ∀ (i : Nat) (y : β), r[i]? = some y → ∃ x, l[i]? = some x ∧ f x = some y
  | [], r, h => by simp at h; subst h; exact ⟨rfl, by simp⟩
  | x :: l, r, h => by
    simp only [List.mapM_cons, Option.bind_eq_bind, Option.bind_eq_some_iff, Option.pure_def, Option.some.injEq] at h
    obtain ⟨y, hy, ys, hys, rfl⟩ := h
    obtain ⟨h1, h2⟩ := mapM_getElem hys
    refine ⟨by simp [h1], fun i z hz => ?_⟩
    cases i with
    | zero => simp at hz; subst hz; exact ⟨x, rfl, hy⟩
    | succ i => simpa using h2 i z (by simpa using hz)

theorem Sim.deep (h : Sim O S n a w F L) {d : D} {v : Value} {x : V} (hd : RD w F S.m L d v) (hx : deep S.m d = some x) (hF : ∀ b, F b → F' b) (hc : Covers S.m L F' d.rids) : RV w F' x v := by
  cases d with
  | agg cs =>
    simp only [Va.deep, Option.map_eq_some_iff] at hx
    obtain ⟨ys, hys, rfl⟩ := hx
    obtain ⟨h1, h2⟩ := mapM_getElem hys
    cases hd with
    | agg _ vs hl hone hr =>
      refine .agg ys vs (by omega) hone fun i y u hy hu => ?_
      obtain ⟨e, he, hey⟩ := h2 i y hy
      exact h.deepC (hr i e u he hu) hey hF fun r hr' => hc r (by simp only [D.rids, List.mem_flatMap]; exact ⟨e, List.mem_of_getElem? he, hr'⟩)
  | fn f cs =>
    simp only [Va.deep, Option.map_eq_some_iff] at hx
    obtain ⟨ys, hys, rfl⟩ := hx
    obtain ⟨h1, h2⟩ := mapM_getElem hys
    cases hd with
    | fn _ _ vs hl hr =>
      refine .fn f ys vs (by omega) fun i y u hy hu => ?_
      obtain ⟨e, he, hey⟩ := h2 i y hy
      exact h.deepC (hr i e u he hu) hey hF fun r hr' => hc r (by simp only [D.rids, List.mem_flatMap]; exact ⟨e, List.mem_of_getElem? he, hr'⟩)
  | v y => exact h.deepC hd hx hF hc
  | own r g off len => exact h.deepC hd hx hF hc
  | ptr r g i c => simp only [Va.deep, Va.deepC, reduceCtorEq] at hx
  | cptr y c => simp only [Va.deep, Va.deepC, reduceCtorEq] at hx
  | tup ds => simp only [Va.deep, Va.deepC, reduceCtorEq] at hx
  | any => simp only [Va.deep, Va.deepC, reduceCtorEq] at hx

theorem normC_ok {x : V} {v : Value} (k : Option Nat) (h : RV w F x v) : RV w F (V.normC k x) v := by
  unfold V.normC
  split
  · obtain rfl := h.nil_inv; exact .sl0 _
  · exact h

theorem norm_ok {x : V} {v : Value} (sh : List (Option Nat)) (h : RV w F x v) : RV w F (x.norm sh) v := by
  unfold V.norm
  split
  · cases h with
    | agg cs vs hl h1 hr =>
      refine .agg _ vs (by simp [hl]) h1 fun i y u hy hu => ?_
      simp only [List.getElem?_map, List.getElem?_zipIdx, Option.map_eq_some_iff] at hy
      obtain ⟨z, ⟨x, hx, rfl⟩, rfl⟩ := hy
      exact normC_ok _ (hr i x u hx hu)
  · exact normC_ok _ h

theorem norm_cells_length (x : V) (sh : List (Option Nat)) : (x.norm sh).cells.length = x.cells.length := by
  unfold V.norm
  split
  · simp [V.cells]
  · rename_i h
    unfold V.normC
    split
    · rfl
    · rfl

end Go.Proofs.YtdhdhcllgkddnaaGreat.Va

namespace Go.Proofs.YtdhdhcllgkddnaaGreat.Va
open Go Go.RowKit

variable {O : Org} {S S' : St} {n : Nat} {a : Act} {w w' : World} {F F' : Nat → Prop} {L L' : Lay} {P : Program} {m : Nat → RS}

theorem ECells.replicate {z : V} {zv : List Value} {sz : Nat} (hV : VCells w F z.cells zv) (hsz : z.cells.length = sz) (k : Nat) : ECells w F sz (List.replicate k z) ((List.range (k * sz)).map fun j => zv.getD (j % sz) undef) := by
  have hl := hV.len
  refine ⟨by simp, fun x hx => by rw [(List.mem_replicate.1 hx).2]; exact hsz, fun u hu => ?_, fun i c x y hx hy => ?_⟩
  · obtain ⟨j, hj, rfl⟩ := List.mem_map.1 hu
    have hj := List.mem_range.1 hj
    have h0 : 0 < sz := by
      rcases Nat.eq_zero_or_pos sz with h | h
      · rw [h, Nat.mul_zero] at hj; omega
      · exact h
    have hm := Nat.mod_lt j h0
    have hlt : j % sz < zv.length := by omega
    rw [List.getD_eq_getElem?_getD, List.getElem?_eq_getElem hlt]
    exact (hV.at_ (j % sz) (z.cells[j % sz]'(by omega)) _ (List.getElem?_eq_getElem _) (List.getElem?_eq_getElem hlt)).2
  · rw [List.getElem?_replicate] at hx
    split at hx
    · rename_i hi
      cases hx
      have hc := (List.getElem?_eq_some_iff.1 hy).1
      have hlt : i * sz + c < k * sz := idx_lt hi (by omega)
      have e2 : (i * sz + c) % sz = c := by rw [Nat.add_comm, Nat.add_mul_mod_self_right, Nat.mod_eq_of_lt (by omega)]
      have hcz : c < zv.length := by omega
      refine ⟨zv[c], ?_, (hV.at_ c y _ hy (List.getElem?_eq_getElem hcz)).1⟩
      rw [List.getElem?_map, List.getElem?_range hlt]
      simp [e2, List.getD_eq_getElem?_getD, List.getElem?_eq_getElem hcz]
    · cases hx

/-- One element is replaced. -/
theorem ECells.set {sz : Nat} {els : List V} {us : List Value} (h : ECells w F sz els us) {x : V} {nu : List Value} (hV : VCells w F x.cells nu) (hsz : x.cells.length = sz) (i : Nat) (hi : i < els.length) :
    ECells w F sz (els.set i x) (us.take (i * sz) ++ nu ++ us.drop (i * sz + sz)) := by
  have hl := hV.len
  have hlen := h.len
  have hle : i * sz + sz ≤ els.length * sz := by
    have : (i + 1) * sz ≤ els.length * sz := Nat.mul_le_mul_right _ hi
    rw [Nat.add_mul] at this; omega
  refine ⟨by simp only [List.length_append, List.length_take, List.length_drop, List.length_set]; omega, fun y hy => ?_, fun u hu => ?_, fun j c y z hy hz => ?_⟩
  · rcases List.mem_or_eq_of_mem_set hy with hy | rfl
    · exact h.sizes y hy
    · exact hsz
  · rcases List.mem_append.1 hu with hu | hu
    · rcases List.mem_append.1 hu with hu | hu
      · exact h.one u (List.mem_of_mem_take hu)
      · obtain ⟨j, hj⟩ := List.mem_iff_getElem?.1 hu
        have hjl := (List.getElem?_eq_some_iff.1 hj).1
        exact (hV.at_ j (x.cells[j]'(by omega)) u (List.getElem?_eq_getElem _) hj).2
    · exact h.one u (List.mem_of_mem_drop hu)
  · rw [List.getElem?_set] at hy
    split at hy
    · rename_i e
      subst e
      simp only [Option.some.injEq] at hy
      subst hy
      have hc := (List.getElem?_eq_some_iff.1 hz).1
      have hcn : c < nu.length := by omega
      refine ⟨nu[c], ?_, (hV.at_ c z _ hz (List.getElem?_eq_getElem hcn)).1⟩
      rw [List.append_assoc, List.getElem?_append_right (by simp; omega)]
      simp only [List.length_take]
      rw [show i * sz + c - min (i * sz) us.length = c by omega, List.getElem?_append_left hcn]
      exact List.getElem?_eq_getElem hcn
    · rename_i hne
      obtain ⟨u, h1, h2⟩ := h.at_ j c y z hy hz
      have hjl := (List.getElem?_eq_some_iff.1 hy).1
      have hc := (List.getElem?_eq_some_iff.1 hz).1
      have hys := h.sizes y (List.mem_of_getElem? hy)
      refine ⟨u, ?_, h2⟩
      rw [List.append_assoc, List.getElem?_append]
      simp only [List.length_take]
      rcases Nat.lt_or_ge j i with hji | hji
      · have : j * sz + c < i * sz := idx_lt hji (by omega)
        rw [if_pos (by omega), List.getElem?_take_of_lt this]
        exact h1
      · have hji' : i + 1 ≤ j := by omega
        have : (i + 1) * sz ≤ j * sz := Nat.mul_le_mul_right _ hji'
        rw [Nat.add_mul] at this
        rw [if_neg (by omega), List.getElem?_append_right (by omega), List.getElem?_drop]
        rw [show i * sz + sz + (j * sz + c - min (i * sz) us.length - nu.length) = j * sz + c by omega]
        exact h1

theorem fillRow_ok (h : Sim O S n a w F L) (hF : ∀ b, F b → F' b) {sz : Nat} {sh : List (Option Nat)} : ∀ (parts : List (Nat × Operand)) (els out : List V) (us : List Value), Covers S.m L F' (parts.flatMap fun x => (S.ev x.2).rids) →
    ECells w F' sz els us → fillRow sz sh S.m els (parts.map fun x => (x.1, S.ev x.2)) = some out →
    ∃ vs : List Value, Instr.fill (fun i => some (i * sz, sz)) us.toArray (parts.map fun x => (x.1, a.eval x.2)) = some vs.toArray ∧ ECells w F' sz out vs ∧ out.length = els.length
  | [], els, out, us, _, hE, hf => by simp [fillRow] at hf; subst hf; exact ⟨us, rfl, hE, rfl⟩
  | (i, x) :: rest, els, out, us, hc, hE, hf => by
    simp only [List.map_cons, fillRow] at hf
    split at hf
    · rename_i y hy
      split at hf
      · rename_i hcond
        obtain ⟨h1, h2, h3⟩ := hcond
        have hrv := h.deep (h.ev x) hy hF fun r hr => hc r (by simp only [List.flatMap_cons]; exact List.mem_append_left _ hr)
        have hV := (norm_ok sh hrv).cells_
        have hnl := norm_cells_length y sh
        have hE' := hE.set hV (by omega) i h2
        obtain ⟨vs, hv1, hv2, hv3⟩ := fillRow_ok h hF rest _ out _ (fun r hr => hc r (by simp only [List.flatMap_cons]; exact List.mem_append_right _ hr)) hE' hf
        refine ⟨vs, ?_, hv2, by rw [hv3, List.length_set]⟩
        have hlen := hE.len
        have hvl := hV.len
        have hle : i * sz + sz ≤ els.length * sz := by
          have : (i + 1) * sz ≤ els.length * sz := Nat.mul_le_mul_right _ h2
          rw [Nat.add_mul] at this; omega
        have hcs : (a.eval x).cells.size = sz := by
          have : (a.eval x).cells.toList.length = sz := by omega
          simpa using this
        simp only [List.map_cons, Instr.fill]
        rw [if_neg (by simp [hcs]; omega)]
        rw [← hv1]
        congr 1
        have hf := foldl_cells (a.eval x).cells.toList 0 (i * sz) us.toArray (by simp only [Array.length_toList, hcs, List.size_toArray]; omega)
        rw [← Array.toList_inj, ← Array.foldl_toList]
        simp only [Array.toList_zipIdx, Nat.add_zero] at hf ⊢
        rw [hf]
        simp only [Array.length_toList, hcs]
      · cases hf
    · cases hf

theorem range_map_eq (zv : Array Value) (k sz : Nat) (hz : zv.size = sz) : ((Array.range (k * sz)).map (zv[· % zv.size]!)).toList = (List.range (k * sz)).map fun j => zv.toList.getD (j % sz) undef := by
  apply List.ext_getElem?
  intro j
  simp only [Array.toList_map, Array.toList_range, List.getElem?_map]
  rcases Nat.lt_or_ge j (k * sz) with hj | hj
  · rw [List.getElem?_range hj]
    simp only [Option.map_some]
    have h0 : 0 < sz := by
      rcases Nat.eq_zero_or_pos sz with h | h
      · rw [h, Nat.mul_zero] at hj; omega
      · exact h
    have hm := Nat.mod_lt j h0
    have hlt : j % sz < zv.size := by omega
    rw [hz, List.getD_eq_getElem?_getD, Array.getElem?_toList, Array.getElem?_eq_getElem hlt]
    simp [hlt]
  · rw [List.getElem?_eq_none (by simpa using hj)]; rfl

theorem Sim.buildSlice (h : Sim O S n a w F L) {t e : TypeId} {r len : Nat} {parts : Array (Nat × Operand)} {z : V} {els : List V} {k by_ : Nat} (hk : slcOf P t = some (e, k, by_)) (hz : zeroV P e = some z) (hsmall : len * k ≤ 16777216) (hsmall2 : len ≤ 16777216) (hzl : z.cells.length = k)
    (hf : fillRow (k) (shapeOf P e) S.m (List.replicate len (z.norm (shapeOf P e))) (parts.toList.map fun x => (x.1, S.ev x.2)) = some els) :
    ∃ v w' F' L', (Instr.buildSlice t len (parts.map fun (i, x) => (i, a.eval x))).run P w = .ok v w' ∧
      Sim O (S.setM (newReg S.m r ⟨.row (k) els, false⟩ :: Va.freezeAll S.m (parts.toList.flatMap fun x => (S.ev x.2).rids))) n a w' F' L' ∧
      RD w' F' (upd S.m (newReg S.m r ⟨.row (k) els, false⟩ :: Va.freezeAll S.m (parts.toList.flatMap fun x => (S.ev x.2).rids))) L' (.own r ((S.m r).gen + 1) 0 len) v := by
  obtain ⟨hu, rfl, _, _⟩ := slc_inv hk
  obtain ⟨zv, hzr, hp, rfl, i, hi, hiz⟩ := zeroV_run hz
  have hsz : P.cellsOf e = i.size := by simp [Program.cellsOf, hi]
  obtain ⟨F', h1, hF, hc, hg, hb, hn⟩ := h.freezeAll (parts.toList.flatMap fun x => (S.ev x.2).rids)
  have hV := (norm_ok (shapeOf P e) (RV.ofValue (w := w) (F := F') zv hp)).cells_
  have hnl := norm_cells_length (V.ofValue zv) (shapeOf P e)
  have hvl := hV.len
  have hzs : zv.cells.size = P.cellsOf e := by
    have : zv.cells.toList.length = P.cellsOf e := by omega
    simpa using this
  have hE := ECells.replicate hV (by omega : ((V.ofValue zv).norm (shapeOf P e)).cells.length = P.cellsOf e) len
  obtain ⟨vs, hv1, hv2, hv3⟩ := fillRow_ok h hF parts.toList _ els _ hc hE hf
  have hel : els.length = len := by rw [hv3, List.length_replicate]
  have hg' : (S.setM (Va.freezeAll S.m (parts.toList.flatMap fun x => (S.ev x.2).rids))).m r = upd S.m (Va.freezeAll S.m (parts.toList.flatMap fun x => (S.ev x.2).rids)) r := by rw [setM_m]
  have en : newReg (S.setM (Va.freezeAll S.m (parts.toList.flatMap fun x => (S.ev x.2).rids))).m r ⟨.row (P.cellsOf e) els, false⟩ = newReg S.m r ⟨.row (P.cellsOf e) els, false⟩ := by
    simp only [newReg, setM_m, hg]
  have hmx : len ≤ maxLen := by unfold maxLen; omega
  · obtain ⟨L', h2, hrd⟩ := h1.newRow r (P.cellsOf e) els vs [] len e hv2 (by omega) hmx (by have := hv2.len; rw [hel] at this; simp [this])
    rw [en, setM_setM] at h2
    simp only [List.append_nil] at h2 hrd
    rw [en] at hrd
    simp only [setM_m, hg, hel] at hrd
    refine ⟨.slice (some ⟨w.heap.size, 0, none⟩) len len, _, F', L', ?_, h2, ?_⟩
    · have hu2 : (sizeOf e).run P w = .ok (P.cellsOf e) w := by simp [sizeOf, typeInfo, hi, Program.cellsOf]
      unfold Instr.buildSlice
      have hnb : ¬ (len * P.cellsOf e > 2 ^ 24) := by omega
      by_cases h0 : len * P.cellsOf e = 0
      · have hvs : vs = [] := by
          have := hv2.len; rw [hel, h0] at this
          exact List.eq_nil_of_length_eq_zero this
        subst hvs
        simp only [Sem.run_bind, run_underlying hu, Result.andThen_ok, hu2, h0]
        simp only [h0, List.range_zero, List.map_nil] at hv1
        simp only [Array.toList_map]
        simp [Array.range_zero', hv1, Go.newRow]
      · have hr := range_map_eq zv.cells len (P.cellsOf e) hzs
        have hr' : (Array.range (len * P.cellsOf e)).map (zv.cells[· % zv.cells.size]!) = ((List.range (len * P.cellsOf e)).map fun j => zv.cells.toList.getD (j % P.cellsOf e) undef).toArray := by
          rw [← hr]
        simp only [Sem.run_bind, run_underlying hu, Result.andThen_ok, hu2, hnb, h0, if_false, Sem.run_pure, hzr, hr', Array.toList_map, hv1]
        simp [Go.newRow]
    · rw [show upd S.m (newReg S.m r ⟨.row (P.cellsOf e) els, false⟩ :: Va.freezeAll S.m (parts.toList.flatMap fun x => (S.ev x.2).rids)) = upd (upd S.m (Va.freezeAll S.m (parts.toList.flatMap fun x => (S.ev x.2).rids))) [newReg S.m r ⟨.row (P.cellsOf e) els, false⟩] from rfl]
      exact hrd

end Go.Proofs.YtdhdhcllgkddnaaGreat.Va

namespace Go.Proofs.YtdhdhcllgkddnaaGreat.Va
open Go Go.RowKit

variable {O : Org} {S S' : St} {n : Nat} {a : Act} {w w' : World} {F F' : Nat → Prop} {L L' : Lay} {P : Program} {m : Nat → RS}

theorem take_cells (zv : List Value) (sz : Nat) {j k : Nat} (hjk : j ≤ k) :
    ∃ rest, ((List.range (k * sz)).map fun i => zv.getD (i % sz) undef) = ((List.range (j * sz)).map fun i => zv.getD (i % sz) undef) ++ rest ∧ (j * sz) + rest.length = k * sz := by
  have hle : j * sz ≤ k * sz := Nat.mul_le_mul_right _ hjk
  refine ⟨((List.range (k * sz)).map fun i => zv.getD (i % sz) undef).drop (j * sz), ?_, by simp; omega⟩
  conv => lhs; rw [← List.take_append_drop (j * sz) ((List.range (k * sz)).map fun i => zv.getD (i % sz) undef)]
  congr 1
  rw [← List.map_take, List.take_range, Nat.min_eq_left hle]

theorem Sim.makeSlice (h : Sim O S n a w F L) {t e : TypeId} {k by_ r : Nat} {i q : Int} {k1 k2 : IntKind} {z : V} (hk : slcOf P t = some (e, k, by_)) (hz : zeroV P e = some z)
    (h0 : 0 ≤ i) (h1 : i ≤ q) (h2 : (by_ : Int) * q ≤ 281474976710656) (h3 : q ≤ 9223372036854775807) (hzl : z.cells.length = k) :
    ∃ v w' L', (Instr.makeSlice t (.int k1 i) (.int k2 q)).run P w = .ok v w' ∧
      Sim O (S.setM [newReg S.m r ⟨.row k (List.replicate i.toNat (z.norm (shapeOf P e))), false⟩]) n a w' F L' ∧
      RD w' F (upd S.m [newReg S.m r ⟨.row k (List.replicate i.toNat (z.norm (shapeOf P e))), false⟩]) L' (.own r ((S.m r).gen + 1) 0 i.toNat) v := by
  obtain ⟨hu, rfl, rfl, i0, z0, hi, hz0, hzs⟩ := slc_inv hk
  obtain ⟨zv, hzr, hp, rfl, i1, hi1, hz1⟩ := zeroV_run hz
  rw [hi] at hi1; cases hi1
  rw [hz0] at hz1; cases hz1
  have hsz : P.cellsOf e = i0.size := by simp [Program.cellsOf, hi]
  have hby : P.bytesOf e = i0.bytes := by simp [Program.bytesOf, hi]
  have hV := (norm_ok (shapeOf P e) (RV.ofValue (w := w) (F := F) z0 hp)).cells_
  have hnl := norm_cells_length (V.ofValue z0) (shapeOf P e)
  have hE := ECells.replicate hV (by omega : ((V.ofValue z0).norm (shapeOf P e)).cells.length = P.cellsOf e) i.toNat
  obtain ⟨rest, hr1, hr2⟩ := take_cells z0.cells.toList (P.cellsOf e) (j := i.toNat) (k := q.toNat) (by omega)
  obtain ⟨L', h4, h5⟩ := h.newRow r (P.cellsOf e) _ _ rest q.toNat e hE (by simp; omega) (by unfold maxLen; omega) (by simp; exact hr2)
  refine ⟨.slice (some ⟨w.heap.size, 0, none⟩) i.toNat q.toNat, _, L', ?_, h4, by simpa using h5⟩
  · have hrm := run_make (P := P) w t e i0 z0 hu hi hz0 k1 k2 i q h0 h1 (by rw [← hby]; exact h2) h3
    rw [hrm]
    congr 2
    have hm := range_map_eq z0.cells q.toNat (P.cellsOf e) (by omega)
    rw [← hr1, ← hm, hsz]
    rfl

/-- What is appended: how many elements, their cells, and that the model reads them. -/
theorem Sim.src (h : Sim O S n a w F L) {k : Nat} {t : TypeId} {x : D} {v : Value} {ys : List V} (hx : RD w F S.m L x v) (hs : srcOf P S.m k t x = some ys) :
    ∃ us : List Value, ECells w F k ys us ∧ (∀ w' : World, (Builtin.lenOf v).run P w' = .ok ys.length w') ∧ (∀ w' : World, w'.heap = w.heap → (Builtin.firstCells k ys.length v).run P w' = .ok us.toArray w') ∧
      (P.underlying t = some .string ∨ ∃ e, P.underlying t = some (.slice e)) := by
  have sl : (slcOf P t).isSome = true → ∃ e, P.underlying t = some (.slice e) := fun hs => by
    cases hk : slcOf P t with
    | none => rw [hk] at hs; cases hs
    | some x => obtain ⟨e, k, by_⟩ := x; exact ⟨e, (slc_inv hk).1⟩
  unfold srcOf at hs
  split at hs
  · rename_i s
    obtain rfl := hx.str_inv
    split at hs
    · rename_i hc
      obtain ⟨hst, rfl⟩ := hc
      cases hs
      have hl : (strV s).length = s.size := by unfold strV; rw [List.length_map, Array.length_toList]; rfl
      refine ⟨Lib.strCells s, ⟨by rw [hl, Nat.mul_one, Lib.strCells_length], fun y hy => ?_, Lib.strCells_oneCell s, fun i c y z hy hz => ?_⟩, fun w' => by rw [hl]; simp [Builtin.lenOf], fun w' _ => by rw [hl]; exact Lib.run_firstCells_string w' 1 s, .inl (str_inv hst)⟩
      · simp only [strV, List.mem_map] at hy
        obtain ⟨b, _, rfl⟩ := hy
        rfl
      · simp only [strV, List.getElem?_map, Option.map_eq_some_iff] at hy
        obtain ⟨b, hb, rfl⟩ := hy
        cases c with
        | zero =>
          simp only [V.cells, List.getElem?_cons_zero, Option.some.injEq] at hz
          subst hz
          refine ⟨.int .u8 b.toNat, ?_, .int _ _⟩
          simp only [Lib.strCells, Nat.mul_one, Nat.add_zero, List.getElem?_map, hb, Option.map_some]
        | succ c => simp [V.cells] at hz
    · cases hs
  · obtain rfl := hx.v_inv.nil_inv
    split at hs
    · rename_i hc
      obtain ⟨e, hu⟩ := sl hc
      cases hs
      exact ⟨[], ⟨by simp, by simp, by simp, by simp⟩, fun w' => by simp [Builtin.lenOf], fun w' _ => by simp [Builtin.firstCells], .inr ⟨_, hu⟩⟩
    · cases hs
  · split at hs
    · rename_i sz ys' hro
      split at hs
      · rename_i hc
        obtain ⟨hc1, rfl⟩ := hc
        cases hs
        obtain ⟨e, hu⟩ := sl hc1
        obtain ⟨ad, cap, us, hrow⟩ := h.row hx hro
        obtain rfl := hrow.val
        refine ⟨us, hrow.ecells, fun w' => by simp [Builtin.lenOf], fun w' hw' => ?_, .inr ⟨_, hu⟩⟩
        cases ad with
        | none =>
          have := hrow.none rfl
          subst this
          have := hrow.len
          simp at this
          subst this
          simp [Builtin.firstCells]
        | some ad =>
          refine run_firstCells_some (P := P) w' sz _ ad _ cap us hrow.len fun j u hj => ?_
          rw [World.cell?_of_block (w := w) (by rw [hw'])]
          exact hrow.cell ad rfl j u hj
      · cases hs
    · cases hs

/-- The model's append, the source read. -/
theorem run_append_gen {ts tx ty e : TypeId} {i : TypeInfo} {z : Value} (hu : P.underlying ts = some (.slice e)) (hi : P.info? e = some i) (hz : i.zero = some z) (hut : P.underlying tx = some .string ∨ ∃ e', P.underlying tx = some (.slice e'))
    {A : Option Addr} {k κ mm : Nat} {xv : Value} {us os : List Value} (hlen : ∀ w' : World, (Builtin.lenOf xv).run P w' = .ok mm w') (hfc : ∀ w' : World, w'.heap = w.heap → (Builtin.firstCells i.size mm xv).run P w' = .ok us.toArray w')
    (hos : ∀ w' : World, w'.heap = w.heap → (Builtin.firstCells i.size k (.slice A k κ)).run P w' = .ok os.toArray w') :
    (k + mm ≤ κ → (Builtin.append_ #[ts, tx] ty #[.slice A k κ, xv]).run P w = ((match A with | some ad => (storeCells (ad.add (k * i.size)) us).run P w | none => .ok () w).andThen fun _ w' => .ok (.slice A (k + mm) κ) w')) ∧
    (κ < k + mm → k + mm ≤ 9223372036854775807 → Builtin.nextslicecap (k + mm) κ * i.bytes ≤ 281474976710656 → (Builtin.append_ #[ts, tx] ty #[.slice A k κ, xv]).run P w =
      .ok (.slice (some ⟨w.heap.size, 0, none⟩) (k + mm) (grownCap w (k + mm) κ e)) (w.drew.alloc (.cells (os.toArray ++ us.toArray ++ Builtin.zeroCells z.cells (grownCap w (k + mm) κ e - (k + mm))) e))) := by
  refine ⟨fun hroom => ?_, fun hgrow h63 hfit => ?_⟩
  · have hf := hfc w rfl
    rcases hut with hut | ⟨e', hut⟩ <;> cases A with
    | none => simp [Builtin.append_, run_underlying hu, run_underlying hut, sizeOf, typeInfo, hi, hlen, hroom, hf]
    | some ad => simp [Builtin.append_, run_underlying hu, run_underlying hut, sizeOf, typeInfo, hi, hlen, hroom, hf]
  · have hn : ¬ (k + mm ≤ κ) := by omega
    have h63' : ¬ (9223372036854775807 < ((k : Int) + (mm : Int))) := by omega
    have h48' : ¬ (281474976710656 < Builtin.nextslicecap (k + mm) κ * i.bytes) := by omega
    have hf := hfc w.drew rfl
    have hfo := hos w.drew rfl
    rcases hut with hut | ⟨e', hut⟩
    all_goals
      simp [Builtin.append_, run_underlying hu, run_underlying hut, sizeOf, typeInfo, zeroValue, hi, hz, hlen, hn, h63', h48', Question.forced, hf, hfo, newRow, grownCap]
      congr 2
      apply Array.ext'
      simp

theorem zeroCells_len (z : Array Value) (k : Nat) : (Builtin.zeroCells z k).toList.length = k * z.size := by simp [Builtin.zeroCells]

/-- Behind an append that found no room. -/
theorem Sim.grown (h : Sim O S n a w F L) {dst k κ mm sz : Nat} {e : TypeId} {z : Array Value} {os us : List Value} {xs ys : List V} (hx : ECells w F sz xs os) (hy : ECells w F sz ys us) (hk : xs.length = k) (hm : ys.length = mm) (hz : z.size = sz)
    (h63 : k + mm ≤ 9223372036854775807) :
    ∃ L', Sim O (S.setM [newReg S.m dst ⟨.row sz (xs ++ ys), false⟩]) n a (w.drew.alloc (.cells (os.toArray ++ us.toArray ++ Builtin.zeroCells z (grownCap w (k + mm) κ e - (k + mm))) e)) F L' ∧
      RD (w.drew.alloc (.cells (os.toArray ++ us.toArray ++ Builtin.zeroCells z (grownCap w (k + mm) κ e - (k + mm))) e)) F (upd S.m [newReg S.m dst ⟨.row sz (xs ++ ys), false⟩]) L' (.own dst ((S.m dst).gen + 1) 0 (k + mm)) (.slice (some ⟨w.heap.size, 0, none⟩) (k + mm) (grownCap w (k + mm) κ e)) := by
  have hge := grownCap_ge w (k + mm) κ e
  have hmx := grownCap_le_maxLen w (k + mm) κ e (by unfold maxLen; omega)
  have hE : ECells w.drew F sz (xs ++ ys) (os ++ us) := (hx.append hy).mono (fun _ _ => rfl) fun _ hb => hb
  obtain ⟨L', h1, h2⟩ := h.drew.newRow dst sz (xs ++ ys) (os ++ us) (Builtin.zeroCells z (grownCap w (k + mm) κ e - (k + mm))).toList (grownCap w (k + mm) κ e) e hE (by simp [hk, hm]; exact hge) hmx (by
    rw [hE.len, zeroCells_len, hz, ← Nat.add_mul, List.length_append, hk, hm]
    congr 1; omega)
  have e1 : (os ++ us ++ (Builtin.zeroCells z (grownCap w (k + mm) κ e - (k + mm))).toList).toArray = os.toArray ++ us.toArray ++ Builtin.zeroCells z (grownCap w (k + mm) κ e - (k + mm)) := by
    apply Array.ext'; simp
  rw [e1] at h1 h2
  have e2 : (xs ++ ys).length = k + mm := by simp [hk, hm]
  rw [e2] at h2
  exact ⟨L', h1, h2⟩

theorem Sim.append (h : Sim O S n a w F L) {dst : Nat} {ts tx ty : TypeId} {s x : D} {sv xv : Value} {E : Eff} (hs : RD w F S.m L s sv) (hx : RD w F S.m L x xv) (hE : effAppend P S.m dst ts tx s x = some E) :
    ∃ v w' L', (Builtin.append_ #[ts, tx] ty #[sv, xv]).run P w = .ok v w' ∧ Sim O (S.setM E.up) n a w' F L' ∧ RD w' F (upd S.m E.up) L' E.d v := by
  unfold effAppend at hE
  split at hE
  · cases hE
  rename_i e k by_ hk
  obtain ⟨hu, rfl, rfl, i, z, hi, hz, hzs⟩ := slc_inv hk
  have hsz : P.cellsOf e = i.size := by simp [Program.cellsOf, hi]
  have hby : P.bytesOf e = i.bytes := by simp [Program.bytesOf, hi]
  rw [hsz, hby] at hE
  split at hE
  · cases hE
  rename_i ys hsrc
  obtain ⟨us, hU, hlen, hfc, hut⟩ := h.src hx hsrc
  split at hE
  · -- onto nil
    obtain rfl := hs.v_inv.nil_inv
    split at hE
    · rename_i hc
      cases hE
      have hrun := run_append_gen (P := P) (w := w) (ty := ty) hu hi hz hut (A := none) (k := 0) (κ := 0) (os := []) hlen hfc (fun w' _ => by simp [Builtin.firstCells])
      by_cases h0 : ys.length = 0
      · have hys : ys = [] := List.eq_nil_of_length_eq_zero h0
        subst hys
        refine ⟨.slice none 0 0, w, L.set dst none 0, by simpa using hrun.1 (by simp), ?_, .own _ _ _ _ _ (by simp [newReg]) rfl fun reg' sz els hl hb => ?_⟩
        · exact h.adopt dst _ w.heap.size 0 none rfl rfl rfl (Nat.le_refl _) (fun _ _ _ => rfl) (fun hF => absurd (h.Flt _ hF) (Nat.lt_irrefl _)) (fun hlt => absurd h.size0 (by omega)) (fun r reg' hr _ hb => absurd (blk_lt (h.regs r reg' hr) hb) (Nat.lt_irrefl _))
            ⟨by simp, by simp [Lay.set], by simp, .inl (by simp [Lay.set])⟩ (fun x hx => by simp [blk, Lay.set] at hx)
        · rw [live_new] at hl; cases hl; cases hb
          exact ⟨by simp, by simp, none, by simp [Lay.set], fun hlt => by simp [Lay.set] at hlt⟩
      · have hfit : Builtin.nextslicecap (0 + ys.length) 0 * i.bytes ≤ 281474976710656 := by
          rw [Nat.zero_add, nextslicecap_zero (by omega)]; omega
        obtain ⟨L', h1, h2⟩ := h.grown (dst := dst) (κ := 0) (e := e) (z := z.cells) (os := []) (xs := []) (k := 0) ⟨by simp, by simp, by simp, by simp⟩ hU rfl rfl hzs (by omega)
        refine ⟨_, _, L', hrun.2 (by omega) (by omega) hfit, ?_, ?_⟩
        · simpa using h1
        · simpa using h2
    · cases hE
  · -- onto a row of the call's own
    rename_i r g off len
    split at hE
    · rename_i sz els hl
      split at hE
      · rename_i hc
        obtain ⟨rfl, rfl, rfl, hb1, hb2⟩ := hc
        cases hE
        obtain ⟨_, ad, os, hrow, had⟩ := row_own h hs hl
        simp only [List.drop_zero, List.take_length, Nat.sub_zero] at hrow
        have hreg := h.regs r _ (live_reg hl).2
        simp only [RegOk] at hreg
        obtain ⟨hle, hmax, hsizes, hblk⟩ := hreg
        obtain rfl := hrow.val
        have hos : ∀ w' : World, w'.heap = w.heap → (Builtin.firstCells i.size els.length (.slice ad els.length (L.cap r))).run P w' = .ok os.toArray w' := fun w' hw' => by
          cases ad with
          | none =>
            have := hrow.none rfl
            subst this
            have := hrow.len
            simp at this
            subst this
            simp [Builtin.firstCells]
          | some ad =>
            refine run_firstCells_some (P := P) w' _ _ ad _ _ os hrow.len fun j u hj => ?_
            rw [World.cell?_of_block (w := w) (by rw [hw'])]
            exact hrow.cell ad rfl j u hj
        have hrun := run_append_gen (P := P) (w := w) (ty := ty) hu hi hz hut hlen hfc hos
        have hkill := h.kill r
        have hkd : ∀ reg, newReg (S.setM [killReg S.m r]).m dst reg = newReg S.m dst reg := fun reg => by
          simp only [newReg, setM_m, killReg, upd_cons, upd_nil]
          split <;> simp_all
        have hgen : ((S.setM [killReg S.m r]).m dst).gen = (S.m dst).gen := by
          simp only [setM_m, killReg, upd_cons, upd_nil]
          split <;> simp_all
        have hdead : ∀ r' reg', ((S.setM [killReg S.m r]).m r').reg = some reg' → r' ≠ r ∧ (S.m r').reg = some reg' := fun r' reg' hr' => by
          simp only [setM_m, killReg, upd_cons, upd_nil] at hr'
          split at hr'
          · cases hr'
          · rename_i hne; exact ⟨hne, hr'⟩
        by_cases hroom : els.length + ys.length ≤ L.cap r
        · by_cases h0 : L.cap r = 0
          · -- nothing onto nothing
            have hys : ys = [] := List.eq_nil_of_length_eq_zero (by omega)
            have hel : els = [] := List.eq_nil_of_length_eq_zero (by omega)
            subst hys; subst hel
            have hus : us = [] := List.eq_nil_of_length_eq_zero (by simpa using hU.len)
            subst hus
            refine ⟨.slice ad 0 (L.cap r), w, L.set dst none 0, ?_, ?_, .own _ _ _ _ _ (by simp [newReg]) rfl fun reg' sz els hl hb => ?_⟩
            · have := hrun.1 hroom
              cases ad with
              | none => simpa using this
              | some ad => simpa [storeCells] using this
            · have := hkill.adopt dst ⟨.row i.size ([] ++ []), false⟩ w.heap.size 0 none rfl rfl rfl (Nat.le_refl _) (fun _ _ _ => rfl) (fun hF => absurd (h.Flt _ hF) (Nat.lt_irrefl _)) (fun hlt => absurd h.size0 (by omega)) (fun r' reg' hr' _ hb => absurd (blk_lt (hkill.regs r' reg' hr') hb) (Nat.lt_irrefl _))
                ⟨by simp, by simp [Lay.set], by simp, .inl (by simp [Lay.set])⟩ (fun x hx => by simp [blk, Lay.set] at hx)
              rw [hkd, setM_setM] at this
              exact this
            · unfold live at hl
              simp only [newReg, upd_cons, if_true] at hl
              cases hl; cases hb
              exact ⟨by simp, by simp, ad, by simp [Lay.set, h0], fun hlt => by simp [Lay.set] at hlt⟩
          · obtain ⟨b, cur, tyb, hb, hw, hF, hcs, hat⟩ := hblk.resolve_left h0
            have had' := had (by omega)
            rw [hb] at had'
            simp only [Option.map_some, Addr.add_lit, Nat.zero_mul, Nat.add_zero] at had'
            subst had'
            have hst := run_storeCells_at P b (els.length * i.size) tyb us 0 cur w hw (by rw [hU.len, hcs, Nat.add_zero, ← Nat.add_mul]; exact Nat.mul_le_mul_right _ hroom) hU.one
            simp only [Nat.add_zero] at hst
            have hbF : ¬ F b := fun hf => by have := hF.1 hf; cases this
            have hrb : blk L r ⟨.row i.size els, false⟩ = some b := by simp [blk, h0, hb]
            have hloc : els.length * i.size ≤ cur.size := by rw [hcs]; exact Nat.mul_le_mul_right _ hle
            have hulen : els.length * i.size + us.length ≤ cur.size := by rw [hU.len, hcs, ← Nat.add_mul]; exact Nat.mul_le_mul_right _ hroom
            refine ⟨.slice (some ⟨b, 0, none⟩) (els.length + ys.length) (L.cap r), w.setRow b (cur.toList.take (els.length * i.size) ++ us ++ cur.toList.drop (els.length * i.size + us.length)).toArray, L.set dst (some ⟨b, 0, none⟩) (L.cap r), ?_, ?_, .own _ _ _ _ _ (by simp [newReg]) rfl fun reg' sz els' hl hb' => ?_⟩
            · rw [hrun.1 hroom]
              simp only [Addr.add_lit, Nat.zero_add, hst, Result.andThen_ok]
            · have hkeep : Keeps F w (w.setRow b (cur.toList.take (els.length * i.size) ++ us ++ cur.toList.drop (els.length * i.size + us.length)).toArray) := fun x hx => setRow_other w b x _ fun e => hbF (e ▸ hx)
              have := hkill.adopt (w' := w.setRow b (cur.toList.take (els.length * i.size) ++ us ++ cur.toList.drop (els.length * i.size + us.length)).toArray) dst ⟨.row i.size (els ++ ys), false⟩ b (L.cap r) (some ⟨b, 0, none⟩) rfl rfl rfl (by simp) (fun x hx hne => setRow_other w b x _ hne) hbF (h.mine r _ b (live_reg hl).2 hrb)
                (fun r' reg' hr' _ hbk => by
                  obtain ⟨hne, hr''⟩ := hdead r' reg' hr'
                  exact hne (h.inj r' r reg' _ b hr'' (live_reg hl).2 hbk hrb))
                ⟨by simpa [Lay.set] using hroom, by simpa [Lay.set] using hmax, fun x hx => by
                    rcases List.mem_append.1 hx with hx | hx
                    · exact hsizes x hx
                    · exact hU.sizes x hx, .inr ⟨b, _, tyb, by simp [Lay.set], setRow_heap w b cur _ tyb (0, 0) hw, ⟨fun hf => absurd hf hbF, fun hf => (by cases hf)⟩, by simp [Lay.set]; omega, fun p c x y hx hy => ?_⟩⟩
                (fun x hx => by simpa [blk, Lay.set, h0] using hx.symm)
              · rw [hkd, setM_setM] at this
                exact this
              · have hc := (List.getElem?_eq_some_iff.1 hy).1
                rw [List.getElem?_append] at hx
                split at hx
                · rename_i hp
                  obtain ⟨u, u1, u2, u3⟩ := hat p c x y hx hy
                  have hxs := hsizes x (List.mem_of_getElem? hx)
                  have hlt : p * i.size + c < els.length * i.size := idx_lt hp (by omega)
                  refine ⟨u, ?_, u2, u3.mono hkeep fun _ hb => hb⟩
                  simp only [List.getElem?_toArray]
                  rw [List.append_assoc, List.getElem?_append_left (by simp; omega), List.getElem?_take_of_lt hlt, Array.getElem?_toList]
                  exact u1
                · rename_i hp
                  obtain ⟨u, u1, u2⟩ := hU.at_ _ c x y hx hy
                  refine ⟨u, ?_, hU.one u (List.mem_of_getElem? u1), u2.mono hkeep fun _ hb => hb⟩
                  have e2 : p * i.size + c = els.length * i.size + ((p - els.length) * i.size + c) := by
                    rw [← Nat.add_assoc, ← Nat.add_mul]; congr 2; omega
                  simp only [List.getElem?_toArray]
                  rw [e2, List.append_assoc, List.getElem?_append_right (by simp; omega)]
                  simp only [List.length_take, Array.length_toList]
                  rw [show els.length * i.size + ((p - els.length) * i.size + c) - min (els.length * i.size) cur.size = (p - els.length) * i.size + c by omega]
                  rw [List.getElem?_append_left (List.getElem?_eq_some_iff.1 u1).1]
                  exact u1
            · unfold live at hl
              simp only [newReg, upd_cons, if_true] at hl
              cases hl; cases hb'
              exact ⟨by simp, by simpa [Lay.set] using hroom, some ⟨b, 0, none⟩, by simp [Lay.set], fun _ => by simp [Lay.set, Addr.add_lit]⟩
        · have hfit : Builtin.nextslicecap (els.length + ys.length) (L.cap r) * i.bytes ≤ 281474976710656 := growslice_fits (by omega) hb1
          obtain ⟨L', h1, h2⟩ := hkill.grown (dst := dst) (κ := L.cap r) (e := e) (z := z.cells) hrow.ecells hU rfl rfl hzs hb2
          rw [hkd, setM_setM] at h1
          refine ⟨_, _, L', hrun.2 (by omega) hb2 hfit, h1, ?_⟩
          rw [hkd, hgen, setM_m] at h2
          exact h2
      · cases hE
    · cases hE
  · cases hE

end Go.Proofs.YtdhdhcllgkddnaaGreat.Va

namespace Go.Proofs.YtdhdhcllgkddnaaGreat.Va
open Go Go.RowKit

variable {O : Org} {S S' : St} {n : Nat} {a : Act} {w w' : World} {F F' : Nat → Prop} {L L' : Lay} {P : Program} {m : Nat → RS}

theorem RV.single {y : V} {u : Value} (h : RV w F y u) (h1 : u.oneCell' = true) : y.cells = [y] := by
  cases h <;> first | rfl | (simp [Value.oneCell'] at h1)

theorem setCells_cells {x : V} {c : Nat} {new : List V} (hle : c + new.length ≤ x.cells.length) (hs : ∀ y ∈ new, y.cells = [y]) : (x.setCells c new).cells = putCells x.cells c new := by
  unfold V.setCells
  split
  · rfl
  · rename_i hx
    have hc : x.cells = [x] := by cases x <;> first | rfl | exact absurd rfl (hx _)
    rw [hc] at hle ⊢
    simp only [List.length_singleton] at hle
    split
    · rename_i y
      have : c = 0 := by simp at hle; omega
      subst this
      rw [hs y (by simp)]
      simp [putCells]
    · rename_i hnew
      cases new with
      | nil => simp [putCells, hc]
      | cons y new =>
        cases new with
        | nil => exact absurd rfl (hnew y)
        | cons z new => simp at hle; omega

theorem getElem?_putCells {α : Type} {cells new : List α} {c : Nat} (hle : c + new.length ≤ cells.length) (j : Nat) : (putCells cells c new)[j]? = if j < c then cells[j]? else if j < c + new.length then new[j - c]? else cells[j]? := by
  unfold putCells
  rw [List.append_assoc, List.getElem?_append]
  simp only [List.length_take]
  split
  · rename_i h
    rw [if_pos (by omega), List.getElem?_take_of_lt (by omega)]
  · rename_i h
    rw [if_neg (by omega), List.getElem?_append]
    split
    · rename_i h2
      rw [if_pos (by omega)]
      congr 1; omega
    · rename_i h2
      rw [if_neg (by omega), List.getElem?_drop]
      congr 1; omega

theorem run_storeVar_at (t : TypeId) (v : Value) (b o : Nat) (cur : Array Value) (ty : TypeId) (hw : w.heap[b]? = some (.cells cur ty (0, 0))) (hs : v.cells.size = P.cellsOf t) (h0 : 0 < v.cells.size) (hle : o + v.cells.size ≤ cur.size) (h1 : ∀ u ∈ v.cells.toList, u.oneCell' = true) :
    (storeVar t ⟨b, o, none⟩ v).run P w = .ok () (w.setRow b (putCells cur.toList o v.cells.toList).toArray) := by
  have hst := run_storeCells_at P b o ty v.cells.toList 0 cur w hw (by simpa using hle) h1
  simp only [Nat.add_zero] at hst
  have hso := cellsOf_run (P := P) (w := w) (t := t) (by omega)
  simp only [storeVar, Sem.run_bind, hso, Result.andThen_ok, hs, ne_eq, not_true_eq_false, if_false]
  simpa [putCells] using hst

theorem Sim.store (h : Sim O S n a w F L) {t : TypeId} {p x : D} {vp vx : Value} {up : List (Nat × RS)} (hp : RD w F S.m L p vp) (hx : RD w F S.m L x vx) (hup : effStore P S.m t p x = some up) :
    ∃ w' F' L', (Instr.storeAt t vp vx).run P w = .ok () w' ∧ Sim O (S.setM up) n a w' F' L' := by
  unfold effStore at hup
  split at hup
  · rename_i hc
    obtain ⟨hlen, hpos, hst⟩ := hc
    have hD := hx.dcells hst
    have hDl : x.cells.length = vx.cells.size := by simpa using hD.len
    have hone : ∀ u ∈ vx.cells.toList, u.oneCell' = true := fun u hu => by
      obtain ⟨j, hj⟩ := List.mem_iff_getElem?.1 hu
      have hjl := (List.getElem?_eq_some_iff.1 hj).1
      exact (hD.at_ j (x.cells[j]'(by rw [hD.len]; exact hjl)) u (List.getElem?_eq_getElem _) hj).2
    split at hup
    · rename_i r g i c
      split at hup
      · -- a variable
        rename_i cs hl
        split at hup
        · rename_i hle
          cases hup
          obtain ⟨b, cur, ty, hb, hw, hF, rfl, rfl, hC⟩ := h.ptr_box hp hl
          have hcl : cs.length = cur.size := by simpa using hC.len
          have hrun := run_storeVar_at (P := P) t vx b c cur ty hw (by omega) (by omega) (by omega) hone
          have hrb : blk L r ⟨.box cs, false⟩ = some b := by simp [blk, hb]
          have hbF : ¬ F b := fun hf => by have := hF.1 hf; cases this
          have hkeep : Keeps F w (w.setRow b (putCells cur.toList c vx.cells.toList).toArray) := fun y hy => setRow_other w b y _ fun e => hbF (e ▸ hy)
          have hP : DCells w F S.m L (putCells cs c x.cells) (putCells cur.toList c vx.cells.toList) := hC.put hD c hle
          have hreg := (live_reg hl).2
          have hm : MLe S.m L (upd S.m [setReg S.m r ⟨.box (putCells cs c x.cells), false⟩]) L := by
            refine ⟨fun r' => ?_, fun r' g' reg' sz els' hg' hl' hb' => ?_, fun r' g' reg' cs' hg' hl' hb' => ?_⟩
            · by_cases e : r' = r
              · subst e; simp [setReg]
              · simp [setReg, e]
            · by_cases e : r' = r
              · subst e
                have := (live_reg hl').2
                simp [setReg] at this
                subst this
                cases hb'
              · have hl2 : live S.m r' g' = some reg' := by unfold live at hl' ⊢; simpa [setReg, e] using hl'
                exact ⟨reg', els', hl2, hb', Nat.le_refl _, h.rowLe (live_reg hl2).2 hb', rfl, rfl⟩
            · by_cases e : r' = r
              · subst e
                have h1 := (live_reg hl').1
                simp [setReg] at h1
                exact ⟨_, cs, by unfold live; rw [if_pos h1]; exact hreg, rfl, rfl⟩
              · have hl2 : live S.m r' g' = some reg' := by unfold live at hl' ⊢; simpa [setReg, e] using hl'
                exact ⟨reg', cs', hl2, hb', rfl⟩
          refine ⟨_, F, L, by simpa [Instr.storeAt, Instr.sureAddr] using hrun, ?_⟩
          refine h.turn r hreg b hrb (fun y hy => by simpa [blk, hb] using hy.symm) rfl rfl rfl (by simp) (fun y hy hne => setRow_other w b y _ hne) (fun sz els' he => by cases he) (fun cs' he => ⟨cs, rfl⟩) ?_
          refine ⟨b, _, ty, hb, setRow_heap w b cur _ ty (0, 0) hw, ⟨fun hf => absurd hf hbF, fun hf => (by cases hf)⟩, by have := hP.len; simpa using this.symm, fun j d hd => ?_⟩
          have hjl := (List.getElem?_eq_some_iff.1 hd).1
          have hjl' : j < (putCells cur.toList c vx.cells.toList).length := by rw [← hP.len]; exact hjl
          obtain ⟨k1, k2⟩ := hP.at_ j d _ hd (List.getElem?_eq_getElem hjl')
          exact ⟨_, by rw [List.getElem?_toArray]; exact List.getElem?_eq_getElem hjl', k2, k1.mono hkeep (fun _ hb => hb) hm⟩
        · cases hup
      · -- an element of a row
        rename_i sz els hl
        split at hup
        · rename_i e y he hy
          split at hup
          · rename_i hcond
            obtain ⟨hle, hnot⟩ := hcond
            cases hup
            obtain ⟨b, cur, ty, e', hb, hw, hF, hcs, hel, he', hes, rfl, hV⟩ := h.ptr_row hp hl
            rw [he] at he'; cases he'
            obtain ⟨F', h1, hFF, hcov, hg1, hb1, hn1⟩ := h.freezeAll x.rids
            have hrv := norm_ok (shapeOf P t) (h.deep hx hy hFF hcov)
            have hVn := hrv.cells_
            have hnl := norm_cells_length y (shapeOf P t)
            have hVl : (y.norm (shapeOf P t)).cells.length = vx.cells.size := by simpa using hVn.len
            have hil := (List.getElem?_eq_some_iff.1 he).1
            have hrow1 : (i + 1) * sz ≤ L.cap r * sz := Nat.mul_le_mul_right _ (by omega)
            rw [Nat.add_mul, Nat.one_mul] at hrow1
            have hcz : c + vx.cells.size ≤ sz := by rw [← hes]; omega
            have hrun := run_storeVar_at (P := P) t vx b (i * sz + c) cur ty hw (by omega) (by omega) (by omega) hone
            have hr1 : ((S.setM (Va.freezeAll S.m x.rids)).m r).reg = some ⟨.row sz els, false⟩ := by rw [setM_m, hn1 r hnot]; exact (live_reg hl).2
            have e1 : ∀ reg, setReg (S.setM (Va.freezeAll S.m x.rids)).m r reg = setReg S.m r reg := fun reg => by simp only [setReg, setM_m, hg1]
            have hcap : L.cap r ≠ 0 := by omega
            have hrb : blk L r ⟨.row sz els, false⟩ = some b := by simp [blk, hb, hcap]
            have hbF : ¬ F' b := by
              have := blk_not_F (h1.regs r _ hr1) hrb
              exact this
            have hkeep : Keeps F' w (w.setRow b (putCells cur.toList (i * sz + c) vx.cells.toList).toArray) := fun y hy => setRow_other w b y _ fun e => hbF (e ▸ hy)
            have hsing : ∀ z ∈ (y.norm (shapeOf P t)).cells, z.cells = [z] := fun z hz => by
              obtain ⟨j, hj⟩ := List.mem_iff_getElem?.1 hz
              have hjl := (List.getElem?_eq_some_iff.1 hj).1
              have hjl' : j < vx.cells.toList.length := by rw [← hVn.len]; exact hjl
              obtain ⟨k1, k2⟩ := hVn.at_ j z _ hj (List.getElem?_eq_getElem hjl')
              exact k1.single k2
            have hec := setCells_cells (x := e) (c := c) (new := (y.norm (shapeOf P t)).cells) (by omega) hsing
            have hecl : (e.setCells c (y.norm (shapeOf P t)).cells).cells.length = sz := by
              rw [hec]; simp [putCells]; omega
            have hok := h1.regs r _ hr1
            simp only [RegOk] at hok
            obtain ⟨ho1, ho2, ho3, ho4⟩ := hok
            obtain ⟨b2, cur2, ty2, k1, k2, k3, k4, k5⟩ := ho4.resolve_left hcap
            rw [hb] at k1
            simp only [Option.some.injEq, Addr.mk.injEq, and_true] at k1
            subst k1
            rw [hw] at k2
            cases k2
            refine ⟨_, F', L, by simpa [Instr.storeAt, Instr.sureAddr] using hrun, ?_⟩
            have := h1.turn (w' := w.setRow b (putCells cur.toList (i * sz + c) vx.cells.toList).toArray) r (reg' := ⟨.row sz (els.set i (e.setCells c (y.norm (shapeOf P t)).cells)), false⟩) hr1 b hrb (fun z hz => by simpa [blk, hb, hcap] using hz.symm) rfl rfl rfl (by simp) (fun z hz hne => setRow_other w b z _ hne)
              (fun sz' els' he => by cases he; exact ⟨els, rfl, by simp, by simpa using ho1⟩) (fun cs' he => by cases he)
              ⟨by simpa using ho1, ho2, fun z hz => by
                  rcases List.mem_or_eq_of_mem_set hz with hz | rfl
                  · exact ho3 z hz
                  · exact hecl, .inr ⟨b, _, ty, hb, setRow_heap w b cur _ ty (0, 0) hw, ⟨fun hf => absurd hf hbF, fun hf => (by cases hf)⟩, by
                    have : (putCells cur.toList (i * sz + c) vx.cells.toList).length = cur.size := by simp [putCells]; omega
                    simpa [this] using hcs, fun p q z z' hz hz' => ?_⟩⟩
            · rw [e1, setM_setM] at this
              exact this
            · simp only [List.getElem?_toArray]
              rw [getElem?_putCells (by simp; omega)]
              simp only [Array.length_toList]
              rw [List.getElem?_set] at hz
              split at hz
              · rename_i hpi
                subst hpi
                simp only [Option.some.injEq] at hz
                subst hz
                rw [hec] at hz'
                rw [getElem?_putCells (by omega)] at hz'
                have hql : q < sz := by
                  have hq := (List.getElem?_eq_some_iff.1 (by rw [← getElem?_putCells (by omega : c + (y.norm (shapeOf P t)).cells.length ≤ e.cells.length)] at hz'; exact hz')).1
                  simp [putCells] at hq
                  omega
                split at hz'
                · rename_i hq
                  obtain ⟨u, u1, u2, u3⟩ := k5 i q e z' he hz'
                  rw [if_pos (by omega)]
                  exact ⟨u, by rw [Array.getElem?_toList]; exact u1, u2, u3.mono hkeep fun _ hb => hb⟩
                · rename_i hq
                  rw [if_neg (by omega)]
                  split at hz'
                  · rename_i hq2
                    rw [if_pos (by omega)]
                    have hjl := (List.getElem?_eq_some_iff.1 hz').1
                    have hjl' : q - c < vx.cells.toList.length := by rw [← hVn.len]; exact hjl
                    obtain ⟨k1, k2⟩ := hVn.at_ (q - c) z' _ hz' (List.getElem?_eq_getElem hjl')
                    refine ⟨_, ?_, k2, k1.mono hkeep fun _ hb => hb⟩
                    rw [show i * sz + q - (i * sz + c) = q - c by omega]
                    exact List.getElem?_eq_getElem hjl'
                  · rename_i hq2
                    rw [if_neg (by omega)]
                    obtain ⟨u, u1, u2, u3⟩ := k5 i q e z' he hz'
                    exact ⟨u, by rw [Array.getElem?_toList]; exact u1, u2, u3.mono hkeep fun _ hb => hb⟩
              · rename_i hpi
                obtain ⟨u, u1, u2, u3⟩ := k5 p q z z' hz hz'
                have hq := (List.getElem?_eq_some_iff.1 hz').1
                have hzs := ho3 z (List.mem_of_getElem? hz)
                have hout : p * sz + q < i * sz + c ∨ i * sz + c + vx.cells.size ≤ p * sz + q := by
                  rcases Nat.lt_or_ge p i with hp1 | hp1
                  · left
                    have : p * sz + q < i * sz := idx_lt hp1 (by omega)
                    omega
                  · right
                    have hp2 : i + 1 ≤ p := by omega
                    have : (i + 1) * sz ≤ p * sz := Nat.mul_le_mul_right _ hp2
                    rw [Nat.add_mul] at this
                    omega
                refine ⟨u, ?_, u2, u3.mono hkeep fun _ hb => hb⟩
                rw [← Array.getElem?_toList] at u1
                rcases hout with ho | ho
                · rw [if_pos ho]; exact u1
                · rw [if_neg (by omega), if_neg (by omega)]; exact u1
          · cases hup
        · cases hup
      · cases hup
    · cases hup
  · cases hup

def V.num : V → Int
  | .int _ n => n
  | _ => 0

theorem Sim.toStr (h : Sim O S n a w F L) {src dst e : TypeId} {x : D} {v : Value} {xs : List V} (hs : P.underlying src = some (.slice e)) (he : P.underlying e = some (.int .u8)) (hd : P.underlying dst = some .string)
    (hx : RD w F S.m L x v) (hr : rowOf S.m x = some (1, xs)) (hu : xs.all V.isU8 = true) : (convert src dst v).run P w = .ok (.string ⟨(xs.map V.byte).toArray⟩) w := by
  obtain ⟨ad, cap, us, hrow⟩ := h.row hx hr
  obtain rfl := hrow.val
  cases ad with
  | none =>
    have := hrow.none rfl
    subst this
    rw [run_convert_bytes_nil w src e hs he _ _ dst hd]
    rfl
  | some ad =>
    have hus : us = xs.map (fun x => Value.int .u8 x.num) := by
      apply List.ext_getElem?
      intro i
      have hlen := hrow.len
      rw [Nat.mul_one] at hlen
      rw [List.getElem?_map]
      rcases Nat.lt_or_ge i xs.length with hi | hi
      · have hxi : xs[i]? = some xs[i] := List.getElem?_eq_getElem hi
        have h8 : xs[i].isU8 = true := List.all_eq_true.1 hu _ (List.getElem_mem hi)
        have hc : xs[i].cells = [xs[i]] := by
          revert h8
          cases xs[i] <;> intro h8 <;> first | rfl | (simp [V.isU8] at h8)
        obtain ⟨u, u1, u2⟩ := hrow.at_ i 0 xs[i] xs[i] hxi (by rw [hc]; rfl)
        rw [Nat.mul_one, Nat.add_zero] at u1
        rw [u1, hxi, Option.map_some]
        congr 1
        revert h8 u2
        generalize xs[i] = x
        intro h8 u2
        unfold V.isU8 at h8
        split at h8
        · exact u2.int_inv
        · cases h8
      · rw [List.getElem?_eq_none (by omega), List.getElem?_eq_none hi]; rfl
    have hl := run_loadCells_list (P := P) w ad us (hrow.cell ad rfl)
    rw [show us.length = xs.length by rw [hus, List.length_map], hus, show (xs.map fun x => Value.int .u8 x.num) = (xs.map V.num).map (Value.int .u8) by rw [List.map_map]; rfl] at hl
    rw [run_convert_bytes_string w src dst e _ _ _ hs he hd, run_bytesToString w ad _ cap (xs.map V.num) hl, foldl_push_bytes]
    have : (xs.map V.num).map (fun n => UInt8.ofNat n.toNat) = xs.map V.byte := by
      rw [List.map_map]
      apply List.map_congr_left
      intro x hx
      have h8 := List.all_eq_true.1 hu _ hx
      unfold V.isU8 at h8
      split at h8
      · rfl
      · cases h8
    rw [this]
    simp [ByteArray.empty, ByteArray.emptyWithCapacity]
    rfl

theorem Sim.toBytes (h : Sim O S n a w F L) {src dst e : TypeId} {s : ByteArray} (hs : P.underlying src = some .string) (he : P.underlying e = some (.int .u8)) (hd : P.underlying dst = some (.slice e)) (hle : s.size ≤ 9223372036854775807) :
    ∃ v w' F', (convert src dst (.string s)).run P w = .ok v w' ∧ Sim O S n a w' F' L ∧ RD w' F' S.m L (.v (.sl 1 (strV s))) v := by
  have hrun := Lib.run_convert_string_bytes w src dst e s hs hd he
  have hsz := Lib.bytesWorld_size w e s
  have hF : ∀ b, F b → F b ∨ b = w.heap.size := fun _ hb => .inl hb
  have hgc := grownCap_ge w s.size 0 e
  have hgm := grownCap_le_maxLen w s.size 0 e (by unfold maxLen; omega)
  have hlen : (strV s).length = s.size := by unfold strV; rw [List.length_map, Array.length_toList]; rfl
  refine ⟨_, _, fun b => F b ∨ b = w.heap.size, hrun, ?_, .v ?_⟩
  · refine Sim.step h (fun _ => False) (fun _ => False) rfl rfl rfl rfl (by omega) (fun b hb _ => Lib.bytesWorld_at_old w e s b hb) (fun _ hx => hx.elim) (fun _ hx => hx.elim) hF (fun b hb => hb.imp id fun e => .inr (by omega)) (fun b hb => ?_) (fun _ hx => hx.elim) h.mle (fun r reg hr => .inr ⟨hr, rfl, rfl, fun _ _ => ⟨id, id⟩⟩) h.mine h.inj
    rcases hb with hb | hb
    · have := h.Flt b hb; omega
    · omega
  · rw [← hlen]
    rw [← hlen] at hgc hgm
    refine .sl 1 (strV s) ⟨w.heap.size, 0, none⟩ _ (fun i _ => .int .u8 (s.data.toList.getD i 0).toNat) (fun _ => .inr rfl) hgc hgm (fun x hx => ?_) (fun i c x y hx hy => ?_) (fun _ _ _ _ _ _ => rfl) (fun i c x y hx hy => ?_)
    · simp only [strV, List.mem_map] at hx
      obtain ⟨b, _, rfl⟩ := hx
      rfl
    all_goals
      have hi := (List.getElem?_eq_some_iff.1 hx).1
      simp only [strV, List.getElem?_map, Option.map_eq_some_iff] at hx
      obtain ⟨b, hb, rfl⟩ := hx
      cases c with
      | succ c => simp [V.cells] at hy
      | zero =>
        simp only [V.cells, List.getElem?_cons_zero, Option.some.injEq] at hy
        subst hy
        first
          | (rw [Addr.add_lit, Nat.mul_one]; simp only [Nat.zero_add, Nat.add_zero]; exact Lib.bytesWorld_cell w e s i (by omega))
          | (rw [List.getD_eq_getElem?_getD, hb]; exact .int _ _)

end Go.Proofs.YtdhdhcllgkddnaaGreat.Va

namespace Go.Proofs.YtdhdhcllgkddnaaGreat.Va
open Go Go.RowKit

variable {O : Org} {S S' : St} {n : Nat} {a : Act} {w w' : World} {F F' : Nat → Prop} {L L' : Lay} {P : Program} {m : Nat → RS}

/-- An own row in the world: the slice value v; nothing else leads to its block g. -/
structure OwnRow (w : World) (F : Nat → Prop) (sz : Nat) (els : List V) (v : Value) (κ g : Nat) : Prop where
  le : els.length ≤ κ
  max : κ ≤ maxLen
  sizes : ∀ x ∈ els, x.cells.length = sz
  place : (κ = 0 ∧ ∃ ad, v = .slice ad 0 0) ∨ (κ ≠ 0 ∧ v = .slice (some ⟨g, 0, none⟩) els.length κ ∧ ¬ F g ∧ ∃ cur ty, w.heap[g]? = some (.cells cur ty (0, 0)) ∧ cur.size = κ * sz ∧
    ∀ (i c : Nat) (x y : V), els[i]? = some x → x.cells[c]? = some y → ∃ u, cur[i * sz + c]? = some u ∧ u.oneCell' = true ∧ RV w F y u)

/-- The arguments of a call: the values vs are told by the deep values; the blocks M may be written. -/
inductive ArgsOk (w : World) (F : Nat → Prop) : List Mode → List V → List Value → List Nat → List Nat → Prop where
  | nil : ArgsOk w F [] [] [] [] []
  | rd {sh ms x xs v vs M T} (h : RV w F x v) (hs : ArgsOk w F ms xs vs M T) : ArgsOk w F (.rd sh :: ms) (x :: xs) (v :: vs) M T
  | io {sh ms cs xs b cur ty vs M T} (hw : w.heap[b]? = some (.cells cur ty (0, 0))) (h : VCells w F cs cur.toList) (hs : ArgsOk w F ms xs vs M T) :
      ArgsOk w F (.io sh :: ms) (.agg cs :: xs) (.pointer (some ⟨b, 0, none⟩) :: vs) (b :: M) T
  | ios {ms sz els xs v κ g vs M T} (h : OwnRow w F sz els v κ g) (hs : ArgsOk w F ms xs vs M T) : ArgsOk w F (.ios :: ms) (.sl sz els :: xs) (v :: vs) (if κ = 0 then M else g :: M) T
  | take {ms sz els xs v κ g vs M T} (h : OwnRow w F sz els v κ g) (hs : ArgsOk w F ms xs vs M T) : ArgsOk w F (.take sz :: ms) (.sl sz els :: xs) (v :: vs) (if κ = 0 then M else g :: M) (if κ = 0 then T else g :: T)

/-- What was written holds what the contract says. -/
inductive IosOk (w : World) (F : Nat → Prop) : List Mode → List V → List Value → List V → Prop where
  | nil : IosOk w F [] [] [] []
  | rd {sh ms x xs v vs zs} (hs : IosOk w F ms xs vs zs) : IosOk w F (.rd sh :: ms) (x :: xs) (v :: vs) zs
  | io {sh ms cs xs b cur ty cs' vs zs} (hw : w.heap[b]? = some (.cells cur ty (0, 0))) (hF : ¬ F b) (hl : cs'.length = cs.length) (h : VCells w F cs' cur.toList) (hs : IosOk w F ms xs vs zs) :
      IosOk w F (.io sh :: ms) (.agg cs :: xs) (.pointer (some ⟨b, 0, none⟩) :: vs) (.agg cs' :: zs)
  | ios {ms sz els els' xs v κ g vs zs} (hl : els'.length = els.length) (h : OwnRow w F sz els' v κ g) (hs : IosOk w F ms xs vs zs) : IosOk w F (.ios :: ms) (.sl sz els :: xs) (v :: vs) (.sl sz els' :: zs)
  | take {sz ms x xs v vs zs} (hs : IosOk w F ms xs vs zs) : IosOk w F (.take sz :: ms) (x :: xs) (v :: vs) zs

/-- The results. 'N': the blocks that are new, or were taken over. -/
inductive ResOk (w : World) (F : Nat → Prop) (N : Nat → Prop) : List RK → List V → List Value → Prop where
  | nil : ResOk w F N [] [] []
  | plain {sh ks x xs v vs} (h : RV w F x v) (hs : ResOk w F N ks xs vs) : ResOk w F N (.plain sh :: ks) (x :: xs) (v :: vs)
  | own {sz els ks xs v κ g vs} (h : OwnRow w F sz els v κ g) (hN : κ ≠ 0 → N g) (hs : ResOk w F N ks xs vs) : ResOk w F N (.own sz :: ks) (.sl sz els :: xs) (v :: vs)
  | new {cs ks xs b cur ty vs} (hw : w.heap[b]? = some (.cells cur ty (0, 0))) (hF : ¬ F b) (hN : N b) (h : VCells w F cs cur.toList) (hs : ResOk w F N ks xs vs) :
      ResOk w F N (.new :: ks) (.agg cs :: xs) (.pointer (some ⟨b, 0, none⟩) :: vs)

def packV : List Value → Value
  | [v] => v
  | vs => .tuple vs.toArray

def callOk (P : Program) (f : FuncId) : Bool :=
  match P.funcs[f]? with
  | some fn => fn.name != "runtime.NumGoroutine" && fn.body.isSome
  | none => false

/-- The function f does what the contract s says, in every world. -/
def Sound (P : Program) (f : FuncId) (s : Spec) : Prop :=
  callOk P f = true ∧ ∀ (xs rs zs : List V), s.fn xs = some (rs, zs) → ∀ (w : World) (F : Nat → Prop) (vals : List Value) (M T : List Nat), (∀ b, F b → b < w.heap.size) → (∀ b ∈ M, ¬ F b ∧ b < w.heap.size) → M.Nodup →
    ArgsOk w F s.modes xs vals M T → Calls P f vals.toArray w fun e w' => ∃ (vs : List Value) (F' : Nat → Prop), e = .returned (packV vs) ∧ w'.os = w.os ∧ w'.tape = w.tape ∧ w'.output = w.output ∧ w.heap.size ≤ w'.heap.size ∧
      (∀ b, b < w.heap.size → b ∉ M → w'.heap[b]? = w.heap[b]?) ∧ (∀ b, F b → F' b) ∧ (∀ b, F' b → b < w.heap.size → b ∉ T → F b) ∧ (∀ b, F' b → b < w'.heap.size) ∧
      IosOk w' F' s.modes xs vals zs ∧ ResOk w' F' (fun b => w.heap.size ≤ b ∨ b ∈ T) s.res rs vs ∧
      (s.fresh = true → ∀ F2 : Nat → Prop, (∀ b, F' b → (w.heap.size ≤ b ∨ b ∈ T) → F2 b) → (∀ b, F2 b → F' b) → IosOk w' F2 s.modes xs vals zs ∧ ResOk w' F2 (fun b => w.heap.size ≤ b ∨ b ∈ T) s.res rs vs)

theorem nd_tail {w1 ws k1 ks : List Nat} (h : ((w1 ++ ws) ++ (k1 ++ ks)).Nodup) : (ws ++ ks).Nodup ∧ (∀ r ∈ w1, r ∉ ws ∧ r ∉ ks) ∧ (∀ r ∈ k1, r ∉ ws ∧ r ∉ ks) := by
  simp only [List.nodup_append, List.mem_append] at h ⊢
  obtain ⟨⟨h1, h2, h3⟩, ⟨h4, h5, h6⟩, h7⟩ := h
  refine ⟨⟨h2, h5, fun a ha b hb => h7 a (.inr ha) b (.inr hb)⟩, fun r hr => ⟨fun hm => h3 r hr r hm rfl, fun hm => h7 r (.inl hr) r (.inr hm) rfl⟩, fun r hr => ⟨fun hm => h7 r (.inr hm) r (.inl hr) rfl, fun hm => h6 r hr r hm rfl⟩⟩

/-- What an argument leads to, where more blocks are named. -/
def ArgRV (w : World) (F F1 : Nat → Prop) (m : Nat → RS) (L : Lay) : Mode → D → Value → Prop
  | .rd _, d, v => ∀ y, deep m d = some y → RV w F1 y v
  | .io _, .ptr r g _ _, _ => ∀ cs fz, live m r g = some ⟨.box cs, fz⟩ → ∀ (j : Nat) (e : D) (u : Value) (y : V), cs[j]? = some e → deepC m e = some y → RD w F m L e u → RV w F1 y u
  | _, .own r g _ _, _ => ∀ sz els fz, live m r g = some ⟨.row sz els, fz⟩ → ∀ (i c : Nat) (x y : V) (u : Value), els[i]? = some x → x.cells[c]? = some y → RV w F y u → RV w F1 y u
  | _, _, _ => True

theorem args_gen (h : Sim O S n a w F L) {F1 : Nat → Prop} : ∀ (modes : List Mode) (ds : List D) (vs : List Value) (xs : List V) (rs ws ks : List Nat), ds.length = vs.length → (∀ (i : Nat) (d : D) (v : Value), ds[i]? = some d → vs[i]? = some v → RD w F S.m L d v) →
    argsOf S.m modes ds = some (xs, rs, ws, ks) → (∀ (i : Nat) (md : Mode) (d : D) (v : Value), modes[i]? = some md → ds[i]? = some d → vs[i]? = some v → ArgRV w F F1 S.m L md d v) → (ws ++ ks).Nodup → (∀ r, r ∈ ws ∨ r ∈ ks → ∀ reg b, (S.m r).reg = some reg → blk L r reg = some b → ¬ F1 b) →
    ∃ M T, ArgsOk w F1 modes xs vs M T ∧ M.Nodup ∧ (∀ b ∈ M, ∃ r, (r ∈ ws ∨ r ∈ ks) ∧ ∃ reg, (S.m r).reg = some reg ∧ blk L r reg = some b) ∧ (∀ b ∈ T, ∃ r ∈ ks, ∃ reg, (S.m r).reg = some reg ∧ blk L r reg = some b)
  | [], [], vs, xs, rs, ws, ks, hl, hr, he, hc, hn, hw => by
    simp only [argsOf, Option.some.injEq, Prod.mk.injEq] at he
    obtain ⟨rfl, rfl, rfl, rfl⟩ := he
    have : vs = [] := List.eq_nil_of_length_eq_zero hl.symm
    subst this
    exact ⟨[], [], .nil, List.nodup_nil, by simp, by simp⟩
  | md :: ms, d :: ds, vs, xs, rs, ws, ks, hl, hr, he, hc, hn, hw => by
    cases vs with
    | nil => simp at hl
    | cons v vs =>
      simp only [argsOf] at he
      split at he
      · rename_i x r1 w1 k1 xs' rs' ws' ks' hx hrest
        simp only [Option.some.injEq, Prod.mk.injEq] at he
        obtain ⟨rfl, rfl, rfl, rfl⟩ := he
        obtain ⟨hn1, hn2, hn3⟩ := nd_tail hn
        obtain ⟨M, T, h1, h2, h3, h4⟩ := args_gen h ms ds vs xs' rs' ws' ks' (by simpa using hl) (fun i d v hd hv => hr (i + 1) d v (by simpa using hd) (by simpa using hv)) hrest (fun i md d v h1 h2 h3 => hc (i + 1) md d v (by simpa using h1) (by simpa using h2) (by simpa using h3))
          hn1 (fun r hr => hw r (hr.imp (List.mem_append_right _) (List.mem_append_right _)))
        have hd := hr 0 d v rfl rfl
        have hH := hc 0 md d v rfl rfl rfl
        have h3' : ∀ b ∈ M, ∃ r, (r ∈ w1 ++ ws' ∨ r ∈ k1 ++ ks') ∧ ∃ reg, (S.m r).reg = some reg ∧ blk L r reg = some b := fun b hb => by
          obtain ⟨r, hr1, hr2⟩ := h3 b hb
          exact ⟨r, hr1.imp (List.mem_append_right _) (List.mem_append_right _), hr2⟩
        have h4' : ∀ b ∈ T, ∃ r ∈ k1 ++ ks', ∃ reg, (S.m r).reg = some reg ∧ blk L r reg = some b := fun b hb => by
          obtain ⟨r, hr1, hr2⟩ := h4 b hb
          exact ⟨r, List.mem_append_right _ hr1, hr2⟩
        unfold argOf at hx
        split at hx
        · -- read
          simp only [Option.map_eq_some_iff, Prod.mk.injEq] at hx
          obtain ⟨y, hy, rfl, rfl, rfl, rfl⟩ := hx
          exact ⟨M, T, .rd (norm_ok _ (hH y hy)) h1, h2, h3', h4'⟩
        · -- a variable
          rename_i sh r g i c
          split at hx
          · rename_i cs hlv
            split at hx
            · rename_i hic
              obtain ⟨rfl, rfl⟩ := hic
              simp only [Option.map_eq_some_iff, Prod.mk.injEq] at hx
              obtain ⟨ys, hys, rfl, rfl, rfl, rfl⟩ := hx
              obtain ⟨b, cur, ty, hb, hwb, hFb, _, rfl, hC⟩ := h.ptr_box hd hlv
              obtain ⟨k1, k2⟩ := mapM_getElem hys
              have hV : VCells w F1 ys cur.toList := ⟨by rw [← hC.len, k1], fun j y u hy hu => by
                obtain ⟨e, he, hey⟩ := k2 j y hy
                obtain ⟨k3, k4⟩ := hC.at_ j e u he hu
                exact ⟨hH _ _ hlv j e u y he hey k3, k4⟩⟩
              have hreg := (live_reg hlv).2
              have hrb : blk L r ⟨.box cs, false⟩ = some b := by simp [blk, hb]
              have hV' : VCells w F1 (ys.zipIdx.map fun x => V.normC ((sh[x.2]?).join) x.1) cur.toList := ⟨by simp [hV.len], fun j y u hy hu => by
                simp only [List.getElem?_map, List.getElem?_zipIdx, Option.map_eq_some_iff] at hy
                obtain ⟨z, ⟨x, hx, rfl⟩, rfl⟩ := hy
                obtain ⟨k5, k6⟩ := hV.at_ j x u hx hu
                exact ⟨normC_ok _ k5, k6⟩⟩
              refine ⟨b :: M, T, .io hwb hV' h1, List.nodup_cons.2 ⟨fun hm => ?_, h2⟩, fun b' hb' => ?_, h4'⟩
              · obtain ⟨r', hr1, reg, hr2, hr3⟩ := h3 b hm
                have := h.inj r r' _ reg b hreg hr2 hrb hr3
                subst this
                have := hn2 r (by simp)
                exact hr1.elim this.1 this.2
              · rcases List.mem_cons.1 hb' with rfl | hb'
                · exact ⟨r, by simp, _, hreg, hrb⟩
                · exact h3' b' hb'
            · cases hx
          · cases hx
        · -- a row
          rename_i r g off len
          split at hx
          · rename_i sz els hlv
            split at hx
            · rename_i hic
              obtain ⟨rfl, rfl⟩ := hic
              simp only [Option.some.injEq, Prod.mk.injEq] at hx
              obtain ⟨rfl, rfl, rfl, rfl⟩ := hx
              obtain ⟨_, ad, us, hrow, had⟩ := row_own h hd hlv
              simp only [List.drop_zero, List.take_length, Nat.sub_zero] at hrow
              have hreg := (live_reg hlv).2
              have hok := h.regs r _ hreg
              simp only [RegOk] at hok
              obtain ⟨ho1, ho2, ho3, ho4⟩ := hok
              by_cases h0 : L.cap r = 0
              · have hOwn : OwnRow w F1 sz els v (L.cap r) 0 := ⟨ho1, ho2, ho3, .inl ⟨h0, ad, by rw [hrow.val, h0]; simp [show els.length = 0 by omega]⟩⟩
                have := ArgsOk.ios hOwn h1
                rw [if_pos h0] at this
                exact ⟨M, T, this, h2, h3', h4'⟩
              · obtain ⟨b, cur, ty, k1, k2, k3, k4, k5⟩ := ho4.resolve_left h0
                have hrb : blk L r ⟨.row sz els, false⟩ = some b := by simp [blk, h0, k1]
                have had' := had (by omega)
                rw [k1] at had'
                simp only [Option.map_some, Addr.add_lit, Nat.zero_mul, Nat.add_zero] at had'
                have hOwn : OwnRow w F1 sz els v (L.cap r) b := ⟨ho1, ho2, ho3, .inr ⟨h0, by rw [hrow.val, had'], hw r (by simp) _ b hreg hrb, cur, ty, k2, k4, fun i c x y hx hy => by
                  obtain ⟨u, u1, u2, u3⟩ := k5 i c x y hx hy
                  exact ⟨u, u1, u2, hH _ _ _ hlv i c x y u hx hy u3⟩⟩⟩
                have := ArgsOk.ios hOwn h1
                rw [if_neg h0] at this
                refine ⟨b :: M, T, this, List.nodup_cons.2 ⟨fun hm => ?_, h2⟩, fun b' hb' => ?_, h4'⟩
                · obtain ⟨r', hr1, reg, hr2, hr3⟩ := h3 b hm
                  have := h.inj r r' _ reg b hreg hr2 hrb hr3
                  subst this
                  have := hn2 r (by simp)
                  exact hr1.elim this.1 this.2
                · rcases List.mem_cons.1 hb' with rfl | hb'
                  · exact ⟨r, by simp, _, hreg, hrb⟩
                  · exact h3' b' hb'
            · cases hx
          · cases hx
        · -- a row that is taken over
          rename_i sz0 r g off len
          split at hx
          · rename_i sz els hlv
            split at hx
            · rename_i hic
              obtain ⟨rfl, hcut, rfl⟩ := hic
              simp only [Option.some.injEq, Prod.mk.injEq] at hx
              obtain ⟨rfl, rfl, rfl, rfl⟩ := hx
              obtain ⟨_, ad, us, hrow, had⟩ := row_own h hd hlv
              simp only [List.drop_zero, Nat.sub_zero] at hrow
              have htl : (els.take len).length = len := by simp; omega
              have hreg := (live_reg hlv).2
              have hok := h.regs r _ hreg
              simp only [RegOk] at hok
              obtain ⟨ho1, ho2, ho3, ho4⟩ := hok
              by_cases h0 : L.cap r = 0
              · have hOwn : OwnRow w F1 sz (els.take len) v (L.cap r) 0 := ⟨by omega, ho2, fun x hx => ho3 x (List.mem_of_mem_take hx), .inl ⟨h0, ad, by rw [hrow.val, h0, htl]; simp [show len = 0 by omega]⟩⟩
                have := ArgsOk.take hOwn h1
                rw [if_pos h0, if_pos h0] at this
                exact ⟨M, T, this, h2, h3', h4'⟩
              · obtain ⟨b, cur, ty, k1, k2, k3, k4, k5⟩ := ho4.resolve_left h0
                have hrb : blk L r ⟨.row sz els, false⟩ = some b := by simp [blk, h0, k1]
                have had' := had (by omega)
                rw [k1] at had'
                simp only [Option.map_some, Addr.add_lit, Nat.zero_mul, Nat.add_zero] at had'
                have hOwn : OwnRow w F1 sz (els.take len) v (L.cap r) b := ⟨by omega, ho2, fun x hx => ho3 x (List.mem_of_mem_take hx), .inr ⟨h0, by rw [hrow.val, had'], hw r (by simp) _ b hreg hrb, cur, ty, k2, k4, fun i c x y hx hy => by
                  have hx : els[i]? = some x := by
                    rw [List.getElem?_take] at hx
                    split at hx
                    · exact hx
                    · cases hx
                  obtain ⟨u, u1, u2, u3⟩ := k5 i c x y hx hy
                  exact ⟨u, u1, u2, hH _ _ _ hlv i c x y u hx hy u3⟩⟩⟩
                have := ArgsOk.take hOwn h1
                rw [if_neg h0, if_neg h0] at this
                refine ⟨b :: M, b :: T, this, List.nodup_cons.2 ⟨fun hm => ?_, h2⟩, fun b' hb' => ?_, fun b' hb' => ?_⟩
                · obtain ⟨r', hr1, reg, hr2, hr3⟩ := h3 b hm
                  have := h.inj r r' _ reg b hreg hr2 hrb hr3
                  subst this
                  have := hn3 r (by simp)
                  exact hr1.elim this.1 this.2
                · rcases List.mem_cons.1 hb' with rfl | hb'
                  · exact ⟨r, by simp, _, hreg, hrb⟩
                  · exact h3' b' hb'
                · rcases List.mem_cons.1 hb' with rfl | hb'
                  · exact ⟨r, by simp, _, hreg, hrb⟩
                  · exact h4' b' hb'
            · cases hx
          · cases hx
        · -- a nil row that is taken over
          rename_i sz0
          simp only [Option.some.injEq, Prod.mk.injEq] at hx
          obtain ⟨rfl, rfl, rfl, rfl⟩ := hx
          have hv := hd.v_inv.nil_inv
          subst hv
          have := ArgsOk.take (w := w) (F := F1) (sz := sz0) (els := []) (v := .slice none 0 0) (κ := 0) (g := 0) ⟨Nat.le_refl _, by unfold maxLen; omega, by simp, .inl ⟨rfl, none, rfl⟩⟩ h1
          rw [if_pos rfl, if_pos rfl] at this
          exact ⟨M, T, this, h2, h3', h4'⟩
        · cases hx
      · cases he
  | [], d :: ds, vs, xs, rs, ws, ks, hl, hr, he, hc, hn, hw => by simp [argsOf] at he
  | md :: ms, [], vs, xs, rs, ws, ks, hl, hr, he, hc, hn, hw => by simp [argsOf] at he

theorem argsOf_at {m : Nat → RS} : ∀ {modes : List Mode} {ds : List D} {xs : List V} {rs ws ks : List Nat}, argsOf m modes ds = some (xs, rs, ws, ks) → ∀ (i : Nat) (md : Mode) (d : D), modes[i]? = some md → ds[i]? = some d →
    ∃ x r1 w1 k1, argOf m md d = some (x, r1, w1, k1) ∧ xs[i]? = some x ∧ (∀ r ∈ r1, r ∈ rs) ∧ (∀ r ∈ w1, r ∈ ws) ∧ (∀ r ∈ k1, r ∈ ks)
  | [], _, _, _, _, _, _, i, md, d, h1, _ => by simp at h1
  | _ :: _, [], _, _, _, _, _, i, md, d, _, h2 => by simp at h2
  | md0 :: ms, d0 :: ds, xs, rs, ws, ks, he, i, md, d, h1, h2 => by
    simp only [argsOf] at he
    split at he
    · rename_i x r1 w1 k1 xs' rs' ws' ks' hx hrest
      simp only [Option.some.injEq, Prod.mk.injEq] at he
      obtain ⟨rfl, rfl, rfl, rfl⟩ := he
      cases i with
      | zero =>
        simp at h1 h2
        subst h1; subst h2
        exact ⟨x, r1, w1, k1, hx, rfl, fun r hr => List.mem_append_left _ hr, fun r hr => List.mem_append_left _ hr, fun r hr => List.mem_append_left _ hr⟩
      | succ i =>
        obtain ⟨y, r2, w2, k2, j1, j2, j3, j4, j5⟩ := argsOf_at hrest i md d (by simpa using h1) (by simpa using h2)
        exact ⟨y, r2, w2, k2, j1, by simpa using j2, fun r hr => List.mem_append_right _ (j3 r hr), fun r hr => List.mem_append_right _ (j4 r hr), fun r hr => List.mem_append_right _ (j5 r hr)⟩
    · cases he

theorem args_ok (h : Sim O S n a w F L) {F1 : Nat → Prop} (hF : ∀ b, F b → F1 b) (modes : List Mode) (ds : List D) (vs : List Value) (xs : List V) (rs ws ks : List Nat) (hl : ds.length = vs.length) (hr : ∀ (i : Nat) (d : D) (v : Value), ds[i]? = some d → vs[i]? = some v → RD w F S.m L d v)
    (he : argsOf S.m modes ds = some (xs, rs, ws, ks)) (hc : Covers S.m L F1 rs) (hn : (ws ++ ks).Nodup) (hw : ∀ r, r ∈ ws ∨ r ∈ ks → ∀ reg b, (S.m r).reg = some reg → blk L r reg = some b → ¬ F1 b) :
    ∃ M T, ArgsOk w F1 modes xs vs M T ∧ M.Nodup ∧ (∀ b ∈ M, ∃ r, (r ∈ ws ∨ r ∈ ks) ∧ ∃ reg, (S.m r).reg = some reg ∧ blk L r reg = some b) ∧ (∀ b ∈ T, ∃ r ∈ ks, ∃ reg, (S.m r).reg = some reg ∧ blk L r reg = some b) := by
  refine args_gen h modes ds vs xs rs ws ks hl hr he (fun i md d v h1 h2 h3 => ?_) hn hw
  obtain ⟨x, r1, w1, k1, j1, _, j3, _, _⟩ := argsOf_at he i md d h1 h2
  have hd := hr i d v h2 h3
  cases md with
  | rd sh =>
    simp only [argOf, Option.map_eq_some_iff, Prod.mk.injEq] at j1
    obtain ⟨y, hy, _, rfl, _, _⟩ := j1
    intro y' hy'
    exact h.deep hd hy' hF fun r hr => hc r (j3 r hr)
  | io sh =>
    cases d with
    | ptr r g i c =>
      intro cs fz hlv j e u y he' hey hru
      simp only [argOf] at j1
      split at j1
      · rename_i cs' hlv'
        rw [hlv] at hlv'
        cases hlv'
        split at j1
        · simp only [Option.map_eq_some_iff, Prod.mk.injEq] at j1
          obtain ⟨ys, _, _, rfl, _, _⟩ := j1
          exact h.deepC hru hey hF fun r hr => hc r (j3 r (List.mem_flatMap.2 ⟨e, List.mem_of_getElem? he', hr⟩))
        · cases j1
      · cases j1
    | own r g off len => simp [argOf] at j1
    | _ => trivial
  | ios =>
    cases d with
    | own r g off len => exact fun sz els fz _ i c x y u _ _ hu => hu.mono (Keeps.refl _ _) hF
    | _ => trivial
  | take sz =>
    cases d with
    | own r g off len => exact fun sz els fz _ i c x y u _ _ hu => hu.mono (Keeps.refl _ _) hF
    | _ => trivial

end Go.Proofs.YtdhdhcllgkddnaaGreat.Va

namespace Go.Proofs.YtdhdhcllgkddnaaGreat.Va
open Go Go.RowKit

variable {O : Org} {S S' : St} {n : Nat} {a : Act} {w w' : World} {F F' : Nat → Prop} {L L' : Lay} {P : Program} {m : Nat → RS}

/-- A written region holds what the contract says. -/
def NewOk (w' : World) (F' : Nat → Prop) (L : Lay) (r : Nat) (reg reg' : Reg) : Prop :=
  reg.frozen = false ∧ reg'.frozen = false ∧ (∀ m', RegOk w' F' m' L r reg') ∧
  ((∃ sz els els', reg.body = .row sz els ∧ reg'.body = .row sz els' ∧ els'.length = els.length) ∨ (∃ cs cs', reg.body = .box cs ∧ reg'.body = .box cs'))

theorem ios_ok (h : Sim O S n a w F L) : ∀ (modes : List Mode) (ds : List D) (vs : List Value) (xs : List V) (rs ws ks : List Nat) (zs : List V) (up : List (Nat × RS)), ds.length = vs.length → (∀ (i : Nat) (d : D) (v : Value), ds[i]? = some d → vs[i]? = some v → RD w F S.m L d v) →
    argsOf S.m modes ds = some (xs, rs, ws, ks) → (ws ++ ks).Nodup → IosOk w' F' modes xs vs zs → iosOf S.m ws zs = some up →
    (∀ r ∈ ws, ∃ reg reg', (S.m r).reg = some reg ∧ upd S.m up r = ⟨(S.m r).gen, some reg'⟩ ∧ NewOk w' F' L r reg reg') ∧ (∀ r, r ∉ ws → ∀ m' : Nat → RS, upd m' up r = m' r) ∧ (∀ r ∈ ws, ∀ m' : Nat → RS, upd m' up r = upd S.m up r)
  | [], [], vs, xs, rs, ws, ks, zs, up, hl, hr, he, hn, hi, hu => by
    simp only [argsOf, Option.some.injEq, Prod.mk.injEq] at he
    obtain ⟨rfl, rfl, rfl, rfl⟩ := he
    cases hi
    simp only [iosOf, Option.some.injEq] at hu
    subst hu
    exact ⟨by simp, fun _ _ _ => rfl, by simp⟩
  | md :: ms, d :: ds, vs, xs, rs, ws, ks, zs, up, hl, hr, he, hn, hi, hu => by
    cases vs with
    | nil => simp at hl
    | cons v vs =>
      simp only [argsOf] at he
      split at he
      · rename_i x r1 w1 k1 xs' rs' ws' ks' hx hrest
        simp only [Option.some.injEq, Prod.mk.injEq] at he
        obtain ⟨rfl, rfl, rfl, rfl⟩ := he
        have hd := hr 0 d v rfl rfl
        obtain ⟨hn2, hn3, _⟩ := nd_tail hn
        have ih := fun zs' up' hi' hu' => ios_ok h ms ds vs xs' rs' ws' ks' zs' up' (by simpa using hl) (fun i d v hd hv => hr (i + 1) d v (by simpa using hd) (by simpa using hv)) hrest hn2 hi' hu'
        unfold argOf at hx
        split at hx
        · simp only [Option.map_eq_some_iff, Prod.mk.injEq] at hx
          obtain ⟨y, hy, rfl, rfl, rfl, rfl⟩ := hx
          cases hi with
          | rd hs => simpa using ih zs up hs (by simpa using hu)
        · rename_i sh r g i c
          split at hx
          · rename_i cs hlv
            split at hx
            · rename_i hic
              obtain ⟨rfl, rfl⟩ := hic
              simp only [Option.map_eq_some_iff, Prod.mk.injEq] at hx
              obtain ⟨ys, hys, rfl, rfl, rfl, rfl⟩ := hx
              obtain ⟨b, cur, ty, hb, hwb, hFb, _, hv, hC⟩ := h.ptr_box hd hlv
              have hreg := (live_reg hlv).2
              obtain ⟨k1, k2⟩ := mapM_getElem hys
              cases hi with
              | io hw2 hF2 hl2 hV2 hs =>
                rename_i b2 cur2 ty2 cs2 zs2
                cases hv
                simp only [List.singleton_append, iosOf, hreg] at hu
                split at hu
                · rename_i cs0 fz0 vs0 l0 e1 e2 e3
                  cases e1
                  cases e2
                  split at hu
                  · rename_i hlen
                    cases hu
                    obtain ⟨i1, i2, i3⟩ := ih zs2 l0 hs e3
                    have hnr : r ∉ ws' := (hn3 r (by simp)).1
                    refine ⟨fun r' hr' => ?_, fun r' hr' m' => ?_, fun r' hr' m' => ?_⟩
                    · simp only [List.singleton_append, List.mem_cons] at hr'
                      by_cases e : r' = r
                      · subst e
                        refine ⟨_, ⟨.box (cs2.map .v), false⟩, hreg, by simp [setReg], rfl, rfl, fun m' => ?_, .inr ⟨_, _, rfl, rfl⟩⟩
                        refine ⟨_, cur2, ty2, hb, hw2, ⟨fun hf => absurd hf hF2, fun hf => (by cases hf)⟩, by have := hV2.len; simp at this; simp [this], fun j e hj => ?_⟩
                        simp only [List.getElem?_map, Option.map_eq_some_iff] at hj
                        obtain ⟨y, hy, rfl⟩ := hj
                        have hjl := (List.getElem?_eq_some_iff.1 hy).1
                        have hjl' : j < cur2.toList.length := by rw [← hV2.len]; exact hjl
                        obtain ⟨k3, k4⟩ := hV2.at_ j y _ hy (List.getElem?_eq_getElem hjl')
                        refine ⟨_, ?_, k4, .v k3⟩
                        rw [← Array.getElem?_toList]
                        exact List.getElem?_eq_getElem hjl'
                      · obtain ⟨reg, reg', j1, j2, j3⟩ := i1 r' (hr'.resolve_left e)
                        exact ⟨reg, reg', j1, by simp only [setReg, upd_cons, if_neg e]; exact j2, j3⟩
                    · simp only [List.singleton_append, List.mem_cons, not_or] at hr'
                      simp only [setReg, upd_cons, if_neg hr'.1]
                      exact i2 r' hr'.2 m'
                    · simp only [List.singleton_append, List.mem_cons] at hr'
                      simp only [setReg, upd_cons]
                      split
                      · rfl
                      · rename_i e
                        exact i3 r' (hr'.resolve_left e) m'
                  · cases hu
                · rename_i e1 _ _; cases e1
                · cases hu
            · cases hx
          · cases hx
        · rename_i r g off len
          split at hx
          · rename_i sz els hlv
            split at hx
            · rename_i hic
              obtain ⟨rfl, rfl⟩ := hic
              simp only [Option.some.injEq, Prod.mk.injEq] at hx
              obtain ⟨rfl, rfl, rfl, rfl⟩ := hx
              obtain ⟨_, ad, us, hrow, had⟩ := row_own h hd hlv
              simp only [List.drop_zero, List.take_length, Nat.sub_zero] at hrow
              have hreg := (live_reg hlv).2
              have hok := h.regs r _ hreg
              simp only [RegOk] at hok
              obtain ⟨ho1, ho2, ho3, ho4⟩ := hok
              cases hi with
              | ios hl2 hO hs =>
                rename_i els2 κ2 g2 zs2
                simp only [List.singleton_append, iosOf, hreg] at hu
                split at hu
                · rename_i e1 _ _; cases e1
                · rename_i sz0 els0 fz0 sz1 els1 l0 e1 e2 e3
                  cases e1
                  cases e2
                  split at hu
                  · rename_i hlen
                    have hlen := hlen.2
                    cases hu
                    obtain ⟨i1, i2, i3⟩ := ih zs2 l0 hs e3
                    have hnr : r ∉ ws' := (hn3 r (by simp)).1
                    have hv := hrow.val
                    have hκ : κ2 = L.cap r := by
                      rcases hO.place with ⟨p1, ad2, p2⟩ | ⟨p1, p2, _⟩
                      · rw [hv] at p2; simp only [Value.slice.injEq] at p2; omega
                      · rw [hv] at p2; simp only [Value.slice.injEq] at p2; omega
                    refine ⟨fun r' hr' => ?_, fun r' hr' m' => ?_, fun r' hr' m' => ?_⟩
                    · simp only [List.singleton_append, List.mem_cons] at hr'
                      by_cases e : r' = r
                      · subst e
                        refine ⟨_, ⟨.row sz els2, false⟩, hreg, by simp [setReg], rfl, rfl, fun m' => ?_, .inl ⟨_, _, _, rfl, rfl, hlen⟩⟩
                        refine ⟨by omega, ho2, hO.sizes, ?_⟩
                        by_cases h0 : L.cap r' = 0
                        · exact .inl h0
                        · obtain ⟨b, cur, ty, q1, q2, q3, q4, q5⟩ := ho4.resolve_left h0
                          have had' := had (by omega)
                          rw [q1] at had'
                          simp only [Option.map_some, Addr.add_lit, Nat.zero_mul, Nat.add_zero] at had'
                          rcases hO.place with ⟨p1, _⟩ | ⟨p1, p2, p3, cur2, ty2, p4, p5, p6⟩
                          · omega
                          · rw [hv, had'] at p2
                            simp only [Value.slice.injEq, Option.some.injEq, Addr.mk.injEq] at p2
                            obtain ⟨⟨rfl, _⟩, _⟩ := p2
                            exact .inr ⟨_, cur2, ty2, q1, p4, ⟨fun hf => absurd hf p3, fun hf => (by cases hf)⟩, by rw [p5, hκ], p6⟩
                      · obtain ⟨reg, reg', j1, j2, j3⟩ := i1 r' (hr'.resolve_left e)
                        exact ⟨reg, reg', j1, by simp only [setReg, upd_cons, if_neg e]; exact j2, j3⟩
                    · simp only [List.singleton_append, List.mem_cons, not_or] at hr'
                      simp only [setReg, upd_cons, if_neg hr'.1]
                      exact i2 r' hr'.2 m'
                    · simp only [List.singleton_append, List.mem_cons] at hr'
                      simp only [setReg, upd_cons]
                      split
                      · rfl
                      · rename_i e
                        exact i3 r' (hr'.resolve_left e) m'
                  · cases hu
                · cases hu
            · cases hx
          · cases hx
        · split at hx
          · split at hx
            · simp only [Option.some.injEq, Prod.mk.injEq] at hx
              obtain ⟨rfl, rfl, rfl, rfl⟩ := hx
              cases hi with
              | take hs => simpa using ih zs up hs (by simpa using hu)
            · cases hx
          · cases hx
        · simp only [Option.some.injEq, Prod.mk.injEq] at hx
          obtain ⟨rfl, rfl, rfl, rfl⟩ := hx
          cases hi with
          | take hs => simpa using ih zs up hs (by simpa using hu)
        · cases hx
      · cases he
  | [], d :: ds, vs, xs, rs, ws, ks, zs, up, hl, hr, he, hn, hi, hu => by simp [argsOf] at he
  | md :: ms, [], vs, xs, rs, ws, ks, zs, up, hl, hr, he, hn, hi, hu => by simp [argsOf] at he

/-- The results of a call: at most one new region. -/
theorem res_ok {S2 : St} {F2 N : Nat → Prop} {dst : Nat} (h2 : Sim O S2 n a w' F2 L) (hblk : ∀ r reg b, (S2.m r).reg = some reg → blk L r reg = some b → ¬ N b) (hB0 : ∀ b, N b → b < O.w0.heap.size → b ∈ O.M) (hgen : (S2.m dst).gen = (m dst).gen) :
    ∀ (ks : List RK) (xs : List V) (vs : List Value) (ds : List D) (new : List (Nat × RS)), ResOk w' F2 N ks xs vs → resOf m dst ks xs = some (ds, new) →
    ∃ L', Sim O (S2.setM new) n a w' F2 L' ∧ ds.length = vs.length ∧ (∀ (i : Nat) (d : D) (v : Value), ds[i]? = some d → vs[i]? = some v → RD w' F2 (S2.setM new).m L' d v) ∧ (new = [] → L' = L)
  | [], xs, vs, ds, new, hr, he => by
    cases hr
    simp only [resOf, Option.some.injEq, Prod.mk.injEq] at he
    obtain ⟨rfl, rfl⟩ := he
    exact ⟨L, h2, rfl, by simp, fun _ => rfl⟩
  | .plain sh :: ks, xs, vs, ds, new, hr, he => by
    cases hr with
    | plain h hs =>
      rename_i x xs v vs
      simp only [resOf, Option.map_eq_some_iff, Prod.mk.injEq] at he
      obtain ⟨⟨ds', new'⟩, he', rfl, rfl⟩ := he
      obtain ⟨L', i1, i2, i3, i4⟩ := res_ok h2 hblk hB0 hgen ks xs vs ds' new' hs he'
      refine ⟨L', i1, by simp [i2], fun i d u hd hu => ?_, i4⟩
      cases i with
      | zero => simp at hd hu; subst hd; subst hu; exact .v h
      | succ i => exact i3 i d u (by simpa using hd) (by simpa using hu)
  | .own sz :: ks, xs, vs, ds, new, hr, he => by
    cases hr with
    | own h hN hs =>
      rename_i els xs v κ g vs
      simp only [resOf] at he
      split at he
      · rename_i ds' he'
        simp only [if_true, Option.some.injEq, Prod.mk.injEq] at he
        obtain ⟨rfl, rfl⟩ := he
        obtain ⟨L', i1, i2, i3, i4⟩ := res_ok h2 hblk hB0 hgen ks xs vs ds' [] hs he'
        have := i4 rfl
        subst this
        simp only [setM_nil] at i1 i3
        have en : newReg S2.m dst ⟨.row sz els, false⟩ = newReg m dst ⟨.row sz els, false⟩ := by simp only [newReg, hgen]
        by_cases h0 : κ = 0
        · have hel : els = [] := List.eq_nil_of_length_eq_zero (by have := h.le; omega)
          have hv : ∃ ad, v = .slice ad 0 0 := by
            rcases h.place with ⟨_, p⟩ | ⟨p, _⟩
            · exact p
            · exact absurd h0 p
          obtain ⟨ad, rfl⟩ := hv
          subst hel
          have hA := i1.adopt dst ⟨.row sz [], false⟩ w'.heap.size 0 none rfl rfl rfl (Nat.le_refl _) (fun _ _ _ => rfl) (fun hF => absurd (i1.Flt _ hF) (Nat.lt_irrefl _)) (fun hlt => absurd i1.size0 (by omega)) (fun r' reg' hr' _ hb => absurd (blk_lt (i1.regs r' reg' hr') hb) (Nat.lt_irrefl _))
            ⟨by simp, by simp [Lay.set], by simp, .inl (by simp [Lay.set])⟩ (fun x hx => by simp [blk, Lay.set] at hx)
          have hm := i1.mle_new dst ⟨.row sz [], false⟩ none 0
          rw [en] at hA hm
          refine ⟨_, hA, by simp [i2], fun i d u hd hu => ?_, fun e => by cases e⟩
          cases i with
          | zero =>
            simp at hd hu; subst hd; subst hu
            refine .own _ _ _ _ _ (by simp [newReg]) rfl fun reg' sz' els' hl hb => ?_
            simp only [setM_m] at hl
            have : live (upd S2.m [newReg m dst ⟨.row sz [], false⟩]) dst ((m dst).gen + 1) = some ⟨.row sz [], false⟩ := by simp [live, newReg]
            rw [this] at hl; cases hl; cases hb
            exact ⟨by simp, by simp, ad, by simp [Lay.set], fun hlt => by simp [Lay.set] at hlt⟩
          | succ i => 
            have := (i3 i d u (by simpa using hd) (by simpa using hu)).mono (Keeps.refl F2 w') (fun _ hb => hb) hm
            simpa using this
        · obtain ⟨_, hv, hnF, cur, ty, hw, hcs, hat⟩ := h.place.resolve_left (fun p => h0 p.1)
          have hA := i1.adopt dst ⟨.row sz els, false⟩ g κ (some ⟨g, 0, none⟩) rfl rfl rfl (Nat.le_refl _) (fun _ _ _ => rfl) hnF (fun hlt => hB0 _ (hN h0) hlt) (fun r' reg' hr' _ hb => hblk r' reg' g hr' hb (hN h0))
            ⟨by simpa [Lay.set] using h.le, by simpa [Lay.set] using h.max, h.sizes, .inr ⟨g, cur, ty, by simp [Lay.set], hw, ⟨fun hf => absurd hf hnF, fun hf => (by cases hf)⟩, by simp [Lay.set, hcs], hat⟩⟩ (fun x hx => by simpa [blk, Lay.set, h0] using hx.symm)
          have hm := i1.mle_new dst ⟨.row sz els, false⟩ (some ⟨g, 0, none⟩) κ
          rw [en] at hA hm
          refine ⟨_, hA, by simp [i2], fun i d u hd hu => ?_, fun e => by cases e⟩
          cases i with
          | zero =>
            simp at hd hu; subst hd; subst hu
            refine .own _ _ _ _ _ (by simp [newReg]) (by rw [hv]; rfl) fun reg' sz' els' hl hb => ?_
            simp only [setM_m] at hl
            have : live (upd S2.m [newReg m dst ⟨.row sz els, false⟩]) dst ((m dst).gen + 1) = some ⟨.row sz els, false⟩ := by simp [live, newReg]
            rw [this] at hl; cases hl; cases hb
            exact ⟨by omega, by simpa [Lay.set] using h.le, some ⟨g, 0, none⟩, by simp [Lay.set, hv], fun _ => by simp [Lay.set, Addr.add_lit]⟩
          | succ i =>
            have := (i3 i d u (by simpa using hd) (by simpa using hu)).mono (Keeps.refl F2 w') (fun _ hb => hb) hm
            simpa using this
      · cases he
  | .new :: ks, xs, vs, ds, new, hr, he => by
    cases hr with
    | new hw hF hN h hs =>
      rename_i cs xs b cur ty vs
      simp only [resOf] at he
      split at he
      · rename_i ds' he'
        simp only [Option.some.injEq, Prod.mk.injEq] at he
        obtain ⟨rfl, rfl⟩ := he
        obtain ⟨L', i1, i2, i3, i4⟩ := res_ok h2 hblk hB0 hgen ks xs vs ds' [] hs he'
        have := i4 rfl
        subst this
        simp only [setM_nil] at i1 i3
        have en : newReg S2.m dst ⟨.box (cs.map .v), false⟩ = newReg m dst ⟨.box (cs.map .v), false⟩ := by simp only [newReg, hgen]
        have hA := i1.adopt dst ⟨.box (cs.map .v), false⟩ b 1 (some ⟨b, 0, none⟩) rfl rfl rfl (Nat.le_refl _) (fun _ _ _ => rfl) hF (fun hlt => hB0 _ hN hlt) (fun r' reg' hr' _ hb => hblk r' reg' b hr' hb hN)
          ⟨b, cur, ty, by simp [Lay.set], hw, ⟨fun hf => absurd hf hF, fun hf => (by cases hf)⟩, by have := h.len; simp at this; simp [this], fun j e hj => by
            simp only [List.getElem?_map, Option.map_eq_some_iff] at hj
            obtain ⟨y, hy, rfl⟩ := hj
            have hjl := (List.getElem?_eq_some_iff.1 hy).1
            have hjl' : j < cur.toList.length := by rw [← h.len]; exact hjl
            obtain ⟨k3, k4⟩ := h.at_ j y _ hy (List.getElem?_eq_getElem hjl')
            refine ⟨_, ?_, k4, .v k3⟩
            rw [← Array.getElem?_toList]
            exact List.getElem?_eq_getElem hjl'⟩ (fun x hx => by simpa [blk, Lay.set] using hx.symm)
        have hm := i1.mle_new dst ⟨.box (cs.map .v), false⟩ (some ⟨b, 0, none⟩) 1
        rw [en] at hA hm
        refine ⟨_, hA, by simp [i2], fun i d u hd hu => ?_, fun e => by cases e⟩
        cases i with
        | zero =>
          simp at hd hu; subst hd; subst hu
          have hl0 : live (upd S2.m [newReg m dst ⟨.box (cs.map .v), false⟩]) dst ((m dst).gen + 1) = some ⟨.box (cs.map .v), false⟩ := by simp [live, newReg]
          refine .ptr _ _ _ _ _ (by simp [newReg]) rfl (fun reg' sz els hl hb => ?_) fun reg' cs' hl hb => ?_
          · simp only [setM_m] at hl
            rw [hl0] at hl; cases hl; cases hb
          · simp only [setM_m] at hl
            rw [hl0] at hl; cases hl; cases hb
            exact ⟨rfl, by simp [Lay.set, Addr.add_lit]⟩
        | succ i =>
          have := (i3 i d u (by simpa using hd) (by simpa using hu)).mono (Keeps.refl F2 w') (fun _ hb => hb) hm
          simpa using this
      · cases he

end Go.Proofs.YtdhdhcllgkddnaaGreat.Va
