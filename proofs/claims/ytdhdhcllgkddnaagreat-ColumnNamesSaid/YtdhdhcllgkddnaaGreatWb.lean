/-
  A machine that works functions out over values, and that what it answers is a contract of the function.
-/
import Derived.Test.YtdhdhcllgkddnaaGreatWa2
namespace Go.Proofs.YtdhdhcllgkddnaaGreat.Va
open Go Go.RowKit

/-- What a cell holds. -/
inductive CK where
  | int (k : IntKind)
  | bool
  | str
  | sl (sz : Nat)
  | any

/-- What the answers are made of. -/
structure Alg (A : Type) where
  fail : A
  ret : List V → List V → A
  br : Bool → A → A → A
  req : (p : Prop) → Decidable p → A → A
  bind : {α : Type} → Option α → (α → A) → A
  loop : Nat → St → A → A
  join : Nat → St → A → A

def optAlg : Alg (Option (List V × List V)) where
  fail := none
  ret r z := some (r, z)
  br b x y := cond b x y
  req p d x := @ite _ p d x none
  bind o f := o.bind f
  loop _ _ a := a
  join _ _ a := a

def asInt (k : IntKind) : V → Option Int
  | .int k' n => if k' = k then some n else none
  | _ => none
def asBool : V → Option Bool
  | .bool b => some b
  | _ => none
def asStr : V → Option ByteArray
  | .str s => some s
  | _ => none
def asSl (sz : Nat) : V → Option (List V)
  | .sl sz' xs => if sz' = sz then some xs else none
  | _ => none
def asAgg : V → Option (List V)
  | .agg cs => some cs
  | _ => none

/-- Is there room for a row of n elements of b bytes? -/
def room (n b : Nat) : Prop := n * b ≤ 140737488355328 ∧ n ≤ 9223372036854775807
instance (n b : Nat) : Decidable (room n b) := by unfold room; exact inferInstance

section
variable {A : Type} (alg : Alg A) (P : Program)

def destr : CK → V → (V → A) → A
  | .int k, v, f => alg.bind (asInt k v) fun n => f (.int k n)
  | .bool, v, f => alg.bind (asBool v) fun b => f (.bool b)
  | .str, v, f => alg.bind (asStr v) fun s => f (.str s)
  | .sl sz, v, f => alg.bind (asSl sz v) fun xs => f (.sl sz xs)
  | .any, v, f => f v
/-- A list of values, one by one. -/
def destrs : List CK → Nat → List V → (List V → A) → A
  | [], _, _, f => f []
  | c :: cs, i, xs, f => alg.bind (xs[i]?) fun y => destr alg c y fun z => destrs cs (i + 1) xs fun zs => f (z :: zs)
def destrL (cs : List CK) (xs : List V) (f : List V → A) : A := alg.req (xs.length = cs.length) inferInstance (destrs alg cs 0 xs f)

def kindsT : Nat → TypeId → List CK
  | 0, _ => []
  | d + 1, t =>
    match P.underlying t with
    | some (.int k) => [.int k]
    | some .bool => [.bool]
    | some .string => [.str]
    | some (.slice e) => [.sl (P.cellsOf e)]
    | some (.struct fs) => fs.toList.flatMap fun f => kindsT d f.type
    | some (.array n e) => (List.replicate n (kindsT d e)).flatten
    | _ => [.any]
def kindT (t : TypeId) : CK :=
  match kindsT P 8 t with
  | [c] => c
  | _ => .any

/-- A value whose cells are known one by one. -/
def openV (t : TypeId) (x : V) (f : V → A) : A :=
  match isAggT P t with
  | some true => alg.bind (asAgg x) fun cs => destrL alg (kindsT P 8 t) cs fun zs => f (.agg zs)
  | _ => f x
def openD (t : TypeId) (d : D) (f : D → A) : A :=
  match d with
  | .v x => openV alg P t x fun y => f (.v y)
  | d => f d

def takeK (agg : Bool) (t : TypeId) (c : Nat) (cs : List V) (f : D → A) : A :=
  if agg then alg.bind (takeV true (P.cellsOf t) c cs) fun y => f (.v y)
  else alg.bind (cs[c]?) fun y => destr alg (kindT P t) y fun z => f (.v z)

def loadK (m : Nat → RS) (t : TypeId) (p : D) (f : D → A) : A :=
  match isAggT P t with
  | none => alg.fail
  | some agg =>
    match p with
    | .cptr x c => takeK alg P agg t c x.cells f
    | .ptr r g i c =>
      match live m r g with
      | some ⟨.box cs, _⟩ => match takeD agg (P.cellsOf t) c cs with | some d => f d | none => alg.fail
      | some ⟨.row _ els, _⟩ => alg.bind (els[i]?) fun x => takeK alg P agg t c x.cells f
      | none => alg.fail
    | _ => alg.fail

def storeK (m : Nat → RS) (t : TypeId) (p x : D) (f : List (Nat × RS) → A) : A :=
  openD alg P t x fun x =>
  alg.req (x.cells.length = P.cellsOf t ∧ 0 < x.cells.length ∧ (x.cells.all D.storable) = true) inferInstance <|
    match p with
    | .ptr r g i c =>
      match live m r g with
      | some ⟨.box cs, false⟩ => alg.req (c + x.cells.length ≤ cs.length) inferInstance (f [setReg m r ⟨.box (putCells cs c x.cells), false⟩])
      | some ⟨.row sz els, false⟩ =>
        match deep m x with
        | some y => alg.bind (els[i]?) fun e =>
          alg.req (r ∉ x.rids) inferInstance <| alg.req (c + y.cells.length ≤ e.cells.length) inferInstance (f (setReg m r ⟨.row sz (els.set i (e.setCells c (y.norm (shapeOf P t)).cells)), false⟩ :: freezeAll m x.rids))
        | none => alg.fail
      | _ => alg.fail
    | _ => alg.fail

def indexAddrK (m : Nat → RS) (t : TypeId) (x i : D) (f : D → A) : A :=
  match x, intOfD i with
  | .own r g off len, some n =>
    match slcOf P t, live m r g with
    | some (_, k, _), some ⟨.row sz _, _⟩ => alg.req (sz = k) inferInstance (alg.req (0 ≤ n ∧ n < (len : Int)) inferInstance (f (.ptr r g (off + n.toNat) 0)))
    | _, _ => alg.fail
  | .v (.sl sz xs), some n =>
    match slcOf P t with
    | some (_, k, _) => alg.req (sz = k) inferInstance (alg.req (0 ≤ n ∧ n < (xs.length : Int)) inferInstance (alg.bind (xs[n.toNat]?) fun y => f (.cptr y 0)))
    | none => alg.fail
  | .ptr r g j c, some n =>
    match P.underlying t, live m r g with
    | some (.array len e), some _ => alg.req ((P.info? e).isSome = true) inferInstance (alg.req (0 ≤ n ∧ n < (len : Int)) inferInstance (f (.ptr r g j (c + n.toNat * P.cellsOf e))))
    | _, _ => alg.fail
  | _, _ => alg.fail

def sliceK (m : Nat → RS) (t : TypeId) (x : D) (lo hi : Option D) (f : D → A) : A :=
  match x with
  | .v (.str s) =>
    match isStrT P t, boundOf lo 0, boundOf hi s.size with
    | true, some l, some h => alg.req (0 ≤ l ∧ l ≤ h ∧ h ≤ (s.size : Int)) inferInstance (f (.v (.str (s.extract l.toNat h.toNat))))
    | _, _, _ => alg.fail
  | .v (.sl sz xs) =>
    match slcOf P t, boundOf lo 0, boundOf hi xs.length with
    | some (_, k, _), some l, some h => alg.req (sz = k) inferInstance (alg.req (0 ≤ l ∧ l ≤ h ∧ h ≤ (xs.length : Int)) inferInstance (f (.v (.sl sz ((xs.take h.toNat).drop l.toNat)))))
    | _, _, _ => alg.fail
  | .v .nil =>
    match slcOf P t, boundOf lo 0, boundOf hi 0 with
    | some _, some l, some h => alg.req (l = 0 ∧ h = 0) inferInstance (f (.v .nil))
    | _, _, _ => alg.fail
  | .own r g off len =>
    match slcOf P t, live m r g, boundOf lo 0, boundOf hi len with
    | some (_, k, _), some ⟨.row sz _, _⟩, some l, some h => alg.req (sz = k) inferInstance (alg.req (0 ≤ l ∧ l ≤ h ∧ h ≤ (len : Int)) inferInstance (f (.own r g (off + l.toNat) (h - l).toNat)))
    | _, _, _, _ => alg.fail
  | _ => alg.fail

def slice3K (t : TypeId) (x : D) (lo hi : Option D) (mx : D) (f : D → A) : A :=
  match x, hi with
  | .v (.sl sz xs), some hd =>
    match slcOf P t, boundOf lo 0, intOfD hd, intOfD mx with
    | some (_, k, _), some l, some h, some q => alg.req (sz = k) inferInstance (alg.req (0 ≤ l ∧ l ≤ h ∧ h ≤ q ∧ q ≤ (xs.length : Int)) inferInstance (f (.v (.sl sz ((xs.take h.toNat).drop l.toNat)))))
    | _, _, _, _ => alg.fail
  | _, _ => alg.fail

def appendK (m : Nat → RS) (dst : Nat) (ts tx : TypeId) (s x : D) (f : Eff → A) : A :=
  match slcOf P ts with
  | none => alg.fail
  | some (_, k, bytes) =>
    match srcOf P m k tx x with
    | none => alg.fail
    | some ys =>
      match s with
      | .v .nil => alg.req (room ys.length bytes) inferInstance (f ⟨.own dst ((m dst).gen + 1) 0 ys.length, [newReg m dst ⟨.row k ys, false⟩]⟩)
      | .own r g off len =>
        match live m r g with
        | some ⟨.row sz els, false⟩ =>
          alg.req (sz = k) inferInstance <| alg.req (off = 0 ∧ len = els.length) inferInstance <| alg.req (room (els.length + ys.length) bytes) inferInstance
            (f ⟨.own dst ((m dst).gen + 1) 0 (els ++ ys).length, [newReg m dst ⟨.row sz (els ++ ys), false⟩, killReg m r]⟩)
        | _ => alg.fail
      | _ => alg.fail

def clearK (m : Nat → RS) (t : TypeId) (x : D) (f : List (Nat × RS) → A) : A :=
  match x with
  | .own r g off len =>
    match slcOf P t, live m r g with
    | some (e, k, _), some ⟨.row sz els, false⟩ =>
      match zeroV P e with
      | some z => alg.req (sz = k ∧ z.cells.length = k) inferInstance <| alg.req (off + len ≤ els.length) inferInstance
          (f [setReg m r ⟨.row sz (els.take off ++ List.replicate len (z.norm (shapeOf P e)) ++ els.drop (off + len)), false⟩])
      | none => alg.fail
    | _, _ => alg.fail
  | _ => alg.fail

def copyK (m : Nat → RS) (t : TypeId) (x y : D) (f : Nat → List (Nat × RS) → A) : A :=
  match x with
  | .own r g off len =>
    match slcOf P t, live m r g, rowOf m y with
    | some (_, k, _), some ⟨.row sz els, false⟩, some (sz', ys) =>
      alg.req (sz = k ∧ sz' = k) inferInstance <| alg.req (off + len ≤ els.length) inferInstance
        (f (min ys.length len) [setReg m r ⟨.row sz (els.take off ++ ys.take (min ys.length len) ++ els.drop (off + min ys.length len)), false⟩])
    | _, _, _ => alg.fail
  | _ => alg.fail

def intK (op : BinOp) (k : IntKind) (a b : Int) (e : Option V) (f : V → A) : A :=
  match op with
  | .shl => alg.req (¬ b < 0) inferInstance (f (.int k (k.wrap (a * 2 ^ (min b.toNat k.bits)))))
  | .shr => alg.req (¬ b < 0) inferInstance (f (.int k (a.fdiv (2 ^ (min b.toNat k.bits)))))
  | .quo => alg.req (b ≠ 0) inferInstance (match e with | some _ => f (.int k (k.wrap (a.tdiv b))) | none => alg.fail)
  | .rem => alg.req (b ≠ 0) inferInstance (match e with | some _ => f (.int k (a.tmod b)) | none => alg.fail)
  | _ => match e with | some v => f v | none => alg.fail
def kindEq (k k' : IntKind) : Option V := if k = k' then some (.bool true) else none
def binK (m : Nat → RS) (op : BinOp) (t : TypeId) (x y : D) (f : V → A) : A :=
  match x, y with
  | .v (.int k a), .v (.int k' b) => intK alg op k a b (match op with | .quo => kindEq k k' | .rem => kindEq k k' | _ => V.bin op (.int k a) (.int k' b)) f
  | .v (.str a), .v (.str b) =>
    match op with
    | .add => alg.req (a.size + b.size ≤ 9223372036854775807) inferInstance (f (.str (a ++ b)))
    | _ => match V.bin op (.str a) (.str b) with | some v => f v | none => alg.fail
  | .v (.sl _ xs), .v .nil =>
    match slcOf P t, op with
    | some _, .eql => alg.req (xs.length ≠ 0) inferInstance (f (.bool false))
    | some _, .neq => alg.req (xs.length ≠ 0) inferInstance (f (.bool true))
    | _, _ => alg.fail
  | .own r g _ len, .v .nil =>
    match slcOf P t, op, live m r g with
    | some _, .eql, some ⟨.row _ _, _⟩ => alg.req (len ≠ 0) inferInstance (f (.bool false))
    | some _, .neq, some ⟨.row _ _, _⟩ => alg.req (len ≠ 0) inferInstance (f (.bool true))
    | _, _, _ => alg.fail
  | x, y => match binD P m op t x y with | some v => f v | none => alg.fail

def convK (m : Nat → RS) (src dst : TypeId) (d : D) (f : V → A) : A :=
  match P.underlying src, P.underlying dst, d with
  | some (.int _), some (.int k), .v (.int _ n) => f (.int k (k.wrap n))
  | some .string, some .string, .v (.str s) => f (.str s)
  | some (.slice e), some .string, d =>
    match P.underlying e with
    | some (.int .u8) =>
      match d with
      | .v .nil => f (.str ByteArray.empty)
      | d =>
        match rowOf m d with
        | some (1, xs) => alg.req (xs.all V.isU8 = true) inferInstance (f (.str ⟨(xs.map V.byte).toArray⟩))
        | _ => alg.fail
    | _ => alg.fail
  | some .string, some (.slice e), .v (.str s) =>
    match P.underlying e with
    | some (.int .u8) => alg.req (s.size ≤ 9223372036854775807) inferInstance (f (.sl 1 (strV s)))
    | _ => alg.fail
  | _, _, _ => alg.fail

def fieldK (t : TypeId) (d : D) (i : Nat) (f : D → A) : A :=
  match P.underlying t with
  | some (.struct fs) =>
    match fs[i]? with
    | some fd =>
      match isAggT P fd.type, d with
      | some agg, .v x => alg.bind (asAgg x) fun cs => takeK alg P agg fd.type fd.offset cs f
      | some agg, .agg cs => match takeD agg (P.cellsOf fd.type) fd.offset cs with | some d => f d | none => alg.fail
      | _, _ => alg.fail
    | none => alg.fail
  | _ => alg.fail

/-- Case by case. -/
def splitK (n : Int) (f : Nat → A) : Nat → Nat → A
  | _, 0 => alg.fail
  | i, k + 1 => alg.br (decide (n = (i : Int))) (f i) (splitK n f (i + 1) k)
def CK.isAny : CK → Bool
  | .any => true
  | _ => false
def indexK (t : TypeId) (d i : D) (f : D → A) : A :=
  match P.underlying t, d, intOfD i with
  | some .string, .v (.str s), some n => alg.req (0 ≤ n ∧ n < (s.size : Int)) inferInstance (alg.bind (s.data.toList[n.toNat]?) fun b => f (.v (.int .u8 b.toNat)))
  | some (.array len e), .v x, some n =>
    alg.req (0 ≤ n ∧ n < (len : Int)) inferInstance
      (match isAggT P e with
      | some agg =>
        match (kindsT P 8 e).any CK.isAny with
        | true => splitK alg n (fun i => alg.bind (asAgg x) fun cs => takeK alg P agg e (i * P.cellsOf e) cs f) 0 len
        | false => alg.bind (asAgg x) fun cs => takeK alg P agg e (n.toNat * P.cellsOf e) cs f
      | none => alg.fail)
  | _, _, _ => alg.fail

def fillK (t : TypeId) : List D → List (Nat × D) → (List D → A) → A
  | cells, [], f => f cells
  | cells, (i, d) :: rest, f =>
    match placeOf P t i with
    | some (off, size) => alg.req (d.cells.length = size ∧ off + size ≤ cells.length ∧ (d.cells.all D.storable) = true) inferInstance (fillK t (putCells cells off d.cells) rest f)
    | none => alg.fail
def partT (t : TypeId) (i : Nat) : TypeId :=
  match P.underlying t with
  | some (.struct fs) => match fs[i]? with | some f => f.type | none => 0
  | some (.array _ e) => e
  | some (.slice e) => e
  | _ => 0
def openParts (t : TypeId) : List (Nat × D) → (List (Nat × D) → A) → A
  | [], f => f []
  | (i, d) :: rest, f => openD alg P (partT P t i) d fun d => openParts t rest fun r => f ((i, d) :: r)
def fillRowK (sz : Nat) (sh : List (Option Nat)) (m : Nat → RS) : List V → List (Nat × D) → (List V → A) → A
  | els, [], f => f els
  | els, (i, d) :: rest, f =>
    match deep m d with
    | some x => alg.req (x.cells.length = sz ∧ i < els.length ∧ (d.cells.all D.storable) = true) inferInstance (fillRowK sz sh m (els.set i (x.norm sh)) rest f)
    | none => alg.fail
end

/-- A contract, and the kinds of what comes back: results, what is written. -/
structure Con where
  spec : Spec
  rk : List (List CK)
  zk : List (List CK)
  /-- the results, where they are always the same -/
  const : Option (List V) := none

section
variable {A : Type} (alg : Alg A) (P : Program)

def argK (m : Nat → RS) : Mode → D → (V × List Nat × List Nat × List Nat → A) → A
  | .rd sh, d, f => match deep m d with | some x => f (x.norm sh, d.rids, [], []) | none => alg.fail
  | .io sh, .ptr r g i c, f =>
    match live m r g with
    | some ⟨.box cs, false⟩ => if i = 0 ∧ c = 0 then (match cs.mapM (deepC m) with | some ys => f ((V.agg ys).norm sh, cs.flatMap D.ridsC, [r], []) | none => alg.fail) else alg.fail
    | _ => alg.fail
  | .ios, .own r g off len, f =>
    match live m r g with
    | some ⟨.row sz els, false⟩ => alg.req (off = 0 ∧ len = els.length) inferInstance (f (.sl sz els, [], [r], []))
    | _ => alg.fail
  | .take sz, .own r g off len, f =>
    match live m r g with
    | some ⟨.row sz' els, false⟩ => alg.req (sz' = sz) inferInstance (alg.req (off = 0 ∧ len ≤ els.length) inferInstance (f (.sl sz (els.take len), [], [], [r])))
    | _ => alg.fail
  | .take sz, .v .nil, f => f (.sl sz [], [], [], [])
  | _, _, _ => alg.fail
def argsK (m : Nat → RS) : List Mode → List D → (List V × List Nat × List Nat × List Nat → A) → A
  | [], [], f => f ([], [], [], [])
  | md :: ms, d :: ds, f => argK alg m md d fun a => argsK m ms ds fun b => f (a.1 :: b.1, a.2.1 ++ b.2.1, a.2.2.1 ++ b.2.2.1, a.2.2.2 ++ b.2.2.2)
  | _, _, _ => alg.fail

def aggK (cks : List CK) (x : V) (g : V → A) : A := alg.bind (asAgg x) fun l => destrL alg cks l fun zs => g (.agg zs)
def resOneK (k : RK) (cs : List CK) (x : V) (g : V → A) : A :=
  match k with
  | .plain _ => (match cs with | [c] => destr alg c x g | _ => g x)
  | .own sz => destr alg (.sl sz) x g
  | .new => aggK alg cs x g
def outOneK (m : Nat → RS) (r : Nat) (cs : List CK) (x : V) (g : V → A) : A :=
  match (m r).reg with
  | some ⟨.box _, _⟩ => aggK alg cs x g
  | some ⟨.row sz _, _⟩ => destr alg (.sl sz) x g
  | none => alg.fail
/-- The results, the written values: their cells. -/
def resK : List RK → List (List CK) → Nat → List V → (List V → A) → A
  | [], _, _, _, f => f []
  | k :: ks, cs, i, xs, f => alg.bind (xs[i]?) fun x => resOneK alg k (cs.headD []) x fun y => resK ks (cs.drop 1) (i + 1) xs fun ys => f (y :: ys)
def resAllK (c : Con) (xs : List V) (f : List V → A) : A :=
  match c.const with
  | some ys => f ys
  | none => resK alg c.spec.res c.rk 0 xs f
def outK (m : Nat → RS) : List Nat → List (List CK) → Nat → List V → (List V → A) → A
  | [], _, _, _, f => f []
  | r :: rs, cs, i, xs, f => alg.bind (xs[i]?) fun x => outOneK alg m r (cs.headD []) x fun y => outK m rs (cs.drop 1) (i + 1) xs fun ys => f (y :: ys)
def iosK (m : Nat → RS) : List Nat → List V → (List (Nat × RS) → A) → A
  | [], [], f => f []
  | r :: ws, y :: ys, f =>
    match (m r).reg, y with
    | some ⟨.box cs, _⟩, .agg vs => alg.req (vs.length = cs.length) inferInstance (iosK m ws ys fun l => f (setReg m r ⟨.box (vs.map .v), false⟩ :: l))
    | some ⟨.row sz els, _⟩, .sl sz' els' => alg.req (sz' = sz ∧ els'.length = els.length) inferInstance (iosK m ws ys fun l => f (setReg m r ⟨.row sz els', false⟩ :: l))
    | _, _ => alg.fail
  | _, _, _ => alg.fail

def nodupB : List Nat → Bool
  | [] => true
  | x :: xs => !xs.contains x && nodupB xs

def callK (m : Nat → RS) (dst : Nat) (c : Con) (args : List D) (f : Eff → A) : A :=
  argsK alg m c.spec.modes args fun a =>
    match nodupB (a.2.2.1 ++ a.2.2.2) && ((a.2.2.1 ++ a.2.2.2).all fun w => !a.2.1.contains w) && !a.2.2.1.contains dst with
    | true =>
      alg.bind (c.spec.fn a.1) fun p =>
        alg.req (p.1.length = c.spec.res.length ∧ p.2.length = a.2.2.1.length) inferInstance <| resAllK alg c p.1 fun ys =>
        outK alg m a.2.2.1 c.zk 0 p.2 fun zs =>
        iosK alg m a.2.2.1 zs fun up =>
          match resOf m dst c.spec.res ys with
          | some (ds, new) => f ⟨packD ds, new ++ (up ++ (a.2.2.2.map (killReg m) ++ (if c.spec.fresh = true then [] else freezeAll m a.2.1)))⟩
          | none => alg.fail
    | false => alg.fail

def St.refine (S : St) (x : Operand) (b : Bool) : St :=
  match x with
  | .tmp t => S.put (some t) (.v (.bool b))
  | _ => S

/-- An operation. -/
def effK (Γ : FuncId → Option Con) (S : St) (o : Oper) (f : St → Eff → A) : A :=
  match o.op with
  | .pick c a b =>
    match S.ev c with
    | .v (.bool t) => alg.br t (f (S.refine c true) ⟨S.ev a, []⟩) (f (S.refine c false) ⟨S.ev b, []⟩)
    | _ => alg.fail
  | .load t p => loadK alg P S.m t (S.ev p) fun d => f S ⟨d, []⟩
  | .store t p x =>
    match o.dst with
    | none => storeK alg P S.m t (S.ev p) (S.ev x) fun up => f S ⟨.any, up⟩
    | some _ => alg.fail
  | .box e x =>
    match o.dst with
    | some t => openD alg P e (S.ev x) fun d => alg.req ((d.cells.all D.storable) = true) inferInstance (f S ⟨.ptr t ((S.m t).gen + 1) 0 0, [newReg S.m t ⟨.box d.cells, false⟩]⟩)
    | none => alg.fail
  | .build t parts =>
    match zeroV P t, fieldsKnown P t with
    | some z, true => openParts alg P t (parts.toList.map fun x => (x.1, S.ev x.2)) fun ps => fillK alg P t (z.cells.map .v) ps fun cs => f S ⟨mkAgg cs, []⟩
    | _, _ => alg.fail
  | .buildSlice t len parts =>
    match o.dst, slcOf P t with
    | some r, some (e, k, _) =>
      match zeroV P e with
      | some z =>
        match decide (len * k ≤ 16777216 ∧ len ≤ 16777216 ∧ z.cells.length = k ∧ r ∉ parts.toList.flatMap (fun x => (S.ev x.2).rids)) with
        | true => openParts alg P t (parts.toList.map fun x => (x.1, S.ev x.2)) fun ps =>
          fillRowK alg k (shapeOf P e) S.m (List.replicate len (z.norm (shapeOf P e))) ps fun els =>
            f S ⟨.own r ((S.m r).gen + 1) 0 len, newReg S.m r ⟨.row k els, false⟩ :: freezeAll S.m (parts.toList.flatMap fun x => (S.ev x.2).rids)⟩
        | false => alg.fail
      | none => alg.fail
    | _, _ => alg.fail
  | .binOp op t x y _ => binK alg P S.m op t (S.ev x) (S.ev y) fun v => f S ⟨.v v, []⟩
  | .convert src dst x => convK alg P S.m src dst (S.ev x) fun v => f S ⟨.v v, []⟩
  | .makeSlice t l c =>
    match o.dst, slcOf P t, S.ev l, S.ev c with
    | some r, some (e, k, bytes), .v (.int _ n), .v (.int _ q) =>
      match zeroV P e with
      | some z => alg.req (z.cells.length = k) inferInstance <| alg.req (0 ≤ n ∧ n ≤ q ∧ (bytes : Int) * q ≤ 281474976710656 ∧ q ≤ 9223372036854775807) inferInstance
          (f S ⟨.own r ((S.m r).gen + 1) 0 n.toNat, [newReg S.m r ⟨.row k (List.replicate n.toNat (z.norm (shapeOf P e))), false⟩]⟩)
      | none => alg.fail
    | _, _, _, _ => alg.fail
  | .slice t x lo hi mx =>
    match mx with
    | none => sliceK alg P S.m t (S.ev x) (lo.map S.ev) (hi.map S.ev) fun d => f S ⟨d, []⟩
    | some q => slice3K alg P t (S.ev x) (lo.map S.ev) (hi.map S.ev) (S.ev q) fun d => f S ⟨d, []⟩
  | .field t x i => fieldK alg P t (S.ev x) i fun d => f S ⟨d, []⟩
  | .indexAddr t x i => indexAddrK alg P S.m t (S.ev x) (S.ev i) fun d => f S ⟨d, []⟩
  | .index t x i => indexK alg P t (S.ev x) (S.ev i) fun d => f S ⟨d, []⟩
  | .call c =>
    match c.callee with
    | .builtin .append =>
      match o.dst, c.args.toList, c.argTypes.toList with
      | some r, [s, x], [ts, tx] => appendK alg P S.m r ts tx (S.ev s) (S.ev x) fun E => f S E
      | _, _, _ => alg.fail
    | .builtin .clear =>
      match o.dst, c.args.toList, c.argTypes.toList with
      | none, [x], [t] => clearK alg P S.m t (S.ev x) fun up => f S ⟨.tup [], up⟩
      | _, _, _ => alg.fail
    | .builtin .copy =>
      match c.args.toList, c.argTypes.toList with
      | [x, y], [t, _] => copyK alg P S.m t (S.ev x) (S.ev y) fun n up => f S ⟨.v (.int .i64 n), up⟩
      | _, _ => alg.fail
    | .value fo =>
      match o.dst, fnOf (S.ev fo) with
      | some r, some (g, caps) => match Γ g with | some s => callK alg S.m r s (c.args.toList.map S.ev ++ caps) fun E => f S E | none => alg.fail
      | _, _ => alg.fail
    | _ => match eff P (fun _ => none) S.ev S.m o with | some E => f S E | none => alg.fail
  | _ => match eff P (fun _ => none) S.ev S.m o with | some E => f S E | none => alg.fail

def wantsK (ops : List Oper) (S : St) (o : Oper) (f : St → Bool → A) : A :=
  match o.guard with
  | none => f S true
  | some (j, b) =>
    match (ops[j]?).bind (·.dst) with
    | none => f S false
    | some d =>
      match S.f d with
      | .v (.bool x) => alg.br x (f (S.put (some d) (.v (.bool true))) (true == b)) (f (S.put (some d) (.v (.bool false))) (false == b))
      | .tup [] => f S false
      | _ => alg.fail

def runK (Γ : FuncId → Option Con) (ops : List Oper) (ws : List Nat) : List Oper → Nat → St → List (Nat × List Nat × List Nat) → (St → List (Nat × List Nat × List Nat) → A) → A
  | [], _, S, fs, f => f S fs
  | o :: rest, k, S, fs, f =>
    wantsK alg ops S o fun S1 b =>
      match b with
      | true => effK alg P Γ S1 o fun S2 E => runK Γ ops ws rest (k + 1) (S2.app o.dst E) (if ws.contains k then (k, foot S2 o, E.up.map (·.1)) :: fs else fs) f
      | false => runK Γ ops ws rest (k + 1) (S1.app o.dst ⟨.tup [], []⟩) (if ws.contains k then (k, foot S1 o, []) :: fs else fs) f

end
end Go.Proofs.YtdhdhcllgkddnaaGreat.Va

namespace Go.Proofs.YtdhdhcllgkddnaaGreat.Va
open Go Go.RowKit

abbrev Ans := Option (List V × List V)
variable {P : Program} {m : Nat → RS} {r : List V × List V}

@[simp] theorem oa_bind {α : Type} (o : Option α) (f : α → Ans) : optAlg.bind o f = o.bind f := rfl
@[simp] theorem oa_req (p : Prop) (d : Decidable p) (x : Ans) : optAlg.req p d x = @ite _ p d x none := rfl
@[simp] theorem oa_br (b : Bool) (x y : Ans) : optAlg.br b x y = cond b x y := rfl
@[simp] theorem oa_fail : optAlg.fail = none := rfl
@[simp] theorem oa_ret (x y : List V) : optAlg.ret x y = some (x, y) := rfl
@[simp] theorem oa_loop (n : Nat) (S : St) (x : Ans) : optAlg.loop n S x = x := rfl
@[simp] theorem oa_join (n : Nat) (S : St) (x : Ans) : optAlg.join n S x = x := rfl

theorem of_req {p : Prop} {d : Decidable p} {x : Ans} (h : optAlg.req p d x = some r) : p ∧ x = some r := by
  simp only [oa_req] at h
  split at h
  · exact ⟨by assumption, h⟩
  · cases h
theorem of_bind {α : Type} {o : Option α} {f : α → Ans} (h : optAlg.bind o f = some r) : ∃ a, o = some a ∧ f a = some r := by
  simpa [Option.bind_eq_some_iff] using h
theorem of_fail (h : optAlg.fail = some r) : False := by cases h
theorem of_br {b : Bool} {x y : Ans} (h : optAlg.br b x y = some r) : (b = true ∧ x = some r) ∨ (b = false ∧ y = some r) := by
  cases b <;> simp at h ⊢ <;> exact h

theorem asInt_eq {k : IntKind} {v : V} {n : Int} (h : asInt k v = some n) : v = .int k n := by
  unfold asInt at h
  split at h
  · split at h
    · rename_i e; cases h; rw [e]
    · cases h
  · cases h
theorem asBool_eq {v : V} {b : Bool} (h : asBool v = some b) : v = .bool b := by unfold asBool at h; split at h <;> cases h; rfl
theorem asStr_eq {v : V} {b : ByteArray} (h : asStr v = some b) : v = .str b := by unfold asStr at h; split at h <;> cases h; rfl
theorem asAgg_eq {v : V} {b : List V} (h : asAgg v = some b) : v = .agg b := by unfold asAgg at h; split at h <;> cases h; rfl
theorem asSl_eq {sz : Nat} {v : V} {b : List V} (h : asSl sz v = some b) : v = .sl sz b := by
  unfold asSl at h
  split at h
  · split at h
    · rename_i e; cases h; rw [e]
    · cases h
  · cases h

theorem destr_ok {c : CK} {v : V} {f : V → Ans} (h : destr optAlg c v f = some r) : f v = some r := by
  cases c with
  | int k => obtain ⟨n, h1, h2⟩ := of_bind h; rw [asInt_eq h1]; exact h2
  | bool => obtain ⟨n, h1, h2⟩ := of_bind h; rw [asBool_eq h1]; exact h2
  | str => obtain ⟨n, h1, h2⟩ := of_bind h; rw [asStr_eq h1]; exact h2
  | sl sz => obtain ⟨n, h1, h2⟩ := of_bind h; rw [asSl_eq h1]; exact h2
  | any => exact h
theorem destrs_ok : ∀ {cs : List CK} {i : Nat} {xs : List V} {f : List V → Ans}, destrs optAlg cs i xs f = some r → i + cs.length = xs.length → f (xs.drop i) = some r
  | [], i, xs, f, h, hl => by rw [List.drop_eq_nil_of_le (by simp at hl; omega)]; exact h
  | c :: cs, i, xs, f, h, hl => by
    obtain ⟨y, h1, h2⟩ := of_bind h
    have h3 := destrs_ok (destr_ok h2) (by simp at hl; omega)
    have hi := (List.getElem?_eq_some_iff.1 h1)
    obtain ⟨hi, he⟩ := hi
    rw [List.drop_eq_getElem_cons hi, he]
    exact h3
theorem destrL_ok {cs : List CK} {xs : List V} {f : List V → Ans} (h : destrL optAlg cs xs f = some r) : f xs = some r := by
  obtain ⟨h1, h2⟩ := of_req h
  simpa using destrs_ok h2 (by omega)
theorem openV_ok {t : TypeId} {x : V} {f : V → Ans} (h : openV optAlg P t x f = some r) : f x = some r := by
  unfold openV at h
  split at h
  · obtain ⟨cs, h1, h2⟩ := of_bind h
    rw [asAgg_eq h1]
    exact destrL_ok (f := fun zs => f (.agg zs)) h2
  · exact h
theorem openD_ok {t : TypeId} {d : D} {f : D → Ans} (h : openD optAlg P t d f = some r) : f d = some r := by
  unfold openD at h
  split at h
  · exact openV_ok (f := fun y => f (.v y)) h
  · exact h
theorem takeK_ok {agg : Bool} {t : TypeId} {c : Nat} {cs : List V} {f : D → Ans} (h : takeK optAlg P agg t c cs f = some r) : ∃ y, takeV agg (P.cellsOf t) c cs = some y ∧ f (.v y) = some r := by
  unfold takeK at h
  split at h
  · rename_i ha
    obtain ⟨y, h1, h2⟩ := of_bind h
    exact ⟨y, by rw [ha]; exact h1, h2⟩
  · rename_i ha
    obtain ⟨y, h1, h2⟩ := of_bind h
    refine ⟨y, ?_, destr_ok (f := fun z => f (.v z)) h2⟩
    simp only [Bool.not_eq_true] at ha
    rw [ha]; simpa [takeV] using h1

theorem loadK_ok {t : TypeId} {p : D} {f : D → Ans} (h : loadK optAlg P m t p f = some r) : ∃ d, effLoad P m t p = some d ∧ f d = some r := by
  unfold loadK at h
  unfold effLoad
  split at h
  · cases h
  · rename_i agg ha
    simp only [ha]
    split at h
    · rename_i x c
      obtain ⟨y, h1, h2⟩ := takeK_ok h
      exact ⟨.v y, by simp [h1], h2⟩
    · rename_i r g i c
      split at h
      · rename_i cs fz hl
        simp only [hl]
        split at h
        · rename_i d hd
          exact ⟨d, hd, h⟩
        · cases h
      · rename_i sz els fz hl
        simp only [hl]
        obtain ⟨x, h1, h2⟩ := of_bind h
        obtain ⟨y, h3, h4⟩ := takeK_ok h2
        exact ⟨.v y, by simp [h1, h3], h4⟩
      · cases h
    · cases h

theorem storeK_ok {t : TypeId} {p x : D} {f : List (Nat × RS) → Ans} (h : storeK optAlg P m t p x f = some r) : ∃ up, effStore P m t p x = some up ∧ f up = some r := by
  have h := openD_ok h
  obtain ⟨h0, h⟩ := of_req h
  unfold effStore
  rw [if_pos h0]
  split at h
  · rename_i r g i c
    split at h
    · rename_i cs hl
      obtain ⟨h1, h⟩ := of_req h
      simp only [hl]
      exact ⟨_, if_pos h1, h⟩
    · rename_i sz els hl
      simp only [hl]
      split at h
      · rename_i y hy
        obtain ⟨e, he, h⟩ := of_bind h
        obtain ⟨h1, h⟩ := of_req h
        obtain ⟨h2, h⟩ := of_req h
        simp only [he, hy]
        exact ⟨_, if_pos ⟨h2, h1⟩, h⟩
      · cases h
    · cases h
  · cases h

theorem indexAddrK_ok {t : TypeId} {x i : D} {f : D → Ans} (h : indexAddrK optAlg P m t x i f = some r) : ∃ d, effIndexAddr P m t x i = some d ∧ f d = some r := by
  unfold indexAddrK at h
  unfold effIndexAddr
  split at h
  · rename_i n hn
    simp only [hn]
    split at h
    · rename_i e k by_ sz els fz h1 h2
      simp only [h1, h2]
      obtain ⟨h3, h⟩ := of_req h
      obtain ⟨h4, h⟩ := of_req h
      exact ⟨_, if_pos ⟨h3, h4⟩, h⟩
    · cases h
  · rename_i n hn
    simp only [hn]
    split at h
    · rename_i e k by_ h1
      simp only [h1]
      obtain ⟨h3, h⟩ := of_req h
      obtain ⟨h4, h⟩ := of_req h
      obtain ⟨y, hy, h⟩ := of_bind h
      exact ⟨_, by rw [if_pos ⟨h3, h4⟩, hy]; rfl, h⟩
    · cases h
  · rename_i n hn
    simp only [hn]
    split at h
    · rename_i len e reg h1 h2
      simp only [h1, h2]
      obtain ⟨h3, h⟩ := of_req h
      obtain ⟨h4, h⟩ := of_req h
      exact ⟨_, if_pos ⟨h3, h4⟩, h⟩
    · cases h
  · cases h

theorem sliceK_ok {t : TypeId} {x : D} {lo hi : Option D} {f : D → Ans} (h : sliceK optAlg P m t x lo hi f = some r) : ∃ d, effSlice P m t x lo hi = some d ∧ f d = some r := by
  unfold sliceK at h
  unfold effSlice
  split at h
  · split at h
    · rename_i h1 h2 h3
      obtain ⟨h4, h5⟩ := of_req h
      exact ⟨_, by simp only [h1, h2, h3]; rw [if_pos h4], h5⟩
    · cases h
  · split at h
    · rename_i h1 h2 h3
      obtain ⟨h4, h5⟩ := of_req h
      obtain ⟨h6, h7⟩ := of_req h5
      exact ⟨_, by simp only [h1, h2, h3]; rw [if_pos ⟨h4, h6⟩], h7⟩
    · cases h
  · split at h
    · rename_i h1 h2 h3
      obtain ⟨h4, h5⟩ := of_req h
      exact ⟨_, by simp only [h1, h2, h3]; rw [if_pos h4], h5⟩
    · cases h
  · split at h
    · rename_i h1 h2 h3 h8
      obtain ⟨h4, h5⟩ := of_req h
      obtain ⟨h6, h7⟩ := of_req h5
      exact ⟨_, by simp only [h1, h2, h3, h8]; rw [if_pos ⟨h4, h6⟩], h7⟩
    · cases h
  · cases h

theorem slice3K_ok {t : TypeId} {x : D} {lo hi : Option D} {mx : D} {f : D → Ans} (h : slice3K optAlg P t x lo hi mx f = some r) : ∃ d, effSlice3 P t x lo hi mx = some d ∧ f d = some r := by
  unfold slice3K at h
  unfold effSlice3
  split at h
  · split at h
    · rename_i h1 h2 h3 h7
      obtain ⟨h4, h5⟩ := of_req h
      obtain ⟨h6, h8⟩ := of_req h5
      exact ⟨_, by simp only [h1, h2, h3, h7]; rw [if_pos ⟨h4, h6⟩], h8⟩
    · cases h
  · cases h

theorem appendK_ok {dst : Nat} {ts tx : TypeId} {s x : D} {f : Eff → Ans} (h : appendK optAlg P m dst ts tx s x f = some r) : ∃ E, effAppend P m dst ts tx s x = some E ∧ f E = some r := by
  unfold appendK at h
  unfold effAppend
  split at h
  · cases h
  · rename_i e k by_ h1
    simp only [h1]
    split at h
    · cases h
    · rename_i ys h2
      simp only [h2]
      split at h
      · obtain ⟨h3, h⟩ := of_req h
        exact ⟨_, if_pos h3, h⟩
      · split at h
        · rename_i sz els h4
          simp only [h4]
          obtain ⟨h3, h⟩ := of_req h
          obtain ⟨h5, h⟩ := of_req h
          obtain ⟨h6, h⟩ := of_req h
          refine ⟨_, if_pos ⟨h5.1, h5.2, h3, h6.1, h6.2⟩, ?_⟩
          rw [← List.length_append]
          exact h
        · cases h
      · cases h

theorem clearK_ok {t : TypeId} {x : D} {f : List (Nat × RS) → Ans} (h : clearK optAlg P m t x f = some r) : ∃ up, effClear P m t x = some up ∧ f up = some r := by
  unfold clearK at h
  unfold effClear
  split at h
  · split at h
    · rename_i h1 h2
      split at h
      · rename_i z hz
        obtain ⟨h3, h⟩ := of_req h
        obtain ⟨h4, h⟩ := of_req h
        simp only [h1, h2, hz]
        exact ⟨_, if_pos ⟨h3.1, h3.2, h4⟩, h⟩
      · cases h
    · cases h
  · cases h

theorem copyK_ok {t : TypeId} {x y : D} {f : Nat → List (Nat × RS) → Ans} (h : copyK optAlg P m t x y f = some r) : ∃ n up, effCopy P m t x y = some (n, up) ∧ f n up = some r := by
  unfold copyK at h
  unfold effCopy
  split at h
  · split at h
    · rename_i h1 h2 h5
      obtain ⟨h3, h⟩ := of_req h
      obtain ⟨h4, h⟩ := of_req h
      simp only [h1, h2, h5]
      exact ⟨_, _, if_pos ⟨h3.1, h3.2, h4⟩, h⟩
    · cases h
  · cases h

theorem kindEq_eq {k k' : IntKind} {v : V} (h : kindEq k k' = some v) : k = k' := by
  unfold kindEq at h
  split at h
  · assumption
  · cases h
theorem binK_ok {op : BinOp} {t : TypeId} {x y : D} {f : V → Ans} (h : binK optAlg P m op t x y f = some r) : ∃ v, binD P m op t x y = some v ∧ f v = some r := by
  unfold binK at h
  split at h
  · rename_i k a k' b
    simp only [binD]
    unfold intK at h
    cases op with
    | shl => obtain ⟨h1, h⟩ := of_req h; exact ⟨_, by simp only [V.bin]; rw [if_neg h1], h⟩
    | shr => obtain ⟨h1, h⟩ := of_req h; exact ⟨_, by simp only [V.bin]; rw [if_neg h1], h⟩
    | quo =>
      obtain ⟨h1, h⟩ := of_req h
      simp only at h
      split at h
      · rename_i e; exact ⟨_, by simp only [V.bin]; rw [if_pos ⟨kindEq_eq e, h1⟩], h⟩
      · cases h
    | rem =>
      obtain ⟨h1, h⟩ := of_req h
      simp only at h
      split at h
      · rename_i e; exact ⟨_, by simp only [V.bin]; rw [if_pos ⟨kindEq_eq e, h1⟩], h⟩
      · cases h
    | _ =>
      simp only at h
      split at h
      · rename_i v hv; exact ⟨v, hv, h⟩
      · cases h
  · rename_i a b
    simp only [binD]
    split at h
    · obtain ⟨h1, h⟩ := of_req h
      exact ⟨_, by simp only [V.bin]; rw [if_pos h1], h⟩
    · split at h
      · rename_i v hv; exact ⟨v, hv, h⟩
      · cases h
  · rename_i sz xs
    simp only [binD]
    split at h
    all_goals first
      | (cases h; done)
      | (rename_i h1
         obtain ⟨h2, h⟩ := of_req h
         exact ⟨_, by simp [h1, D.isNil, h2], h⟩)
  · rename_i r g off len
    simp only [binD]
    split at h
    all_goals first
      | (cases h; done)
      | (rename_i h1 h3
         obtain ⟨h2, h⟩ := of_req h
         exact ⟨_, by simp [h1, D.isNil, rowOf, h3, h2], h⟩)
  · split at h
    · rename_i v hv; exact ⟨v, hv, h⟩
    · cases h

end Go.Proofs.YtdhdhcllgkddnaaGreat.Va

namespace Go.Proofs.YtdhdhcllgkddnaaGreat.Va
open Go Go.RowKit

variable {P : Program} {m : Nat → RS} {r : List V × List V}

theorem convK_ok {Γ : FuncId → Option Spec} {S : St} {src dst : TypeId} {x : Operand} {o : Oper} (ho : o.op = .convert src dst x) {f : V → Ans} (h : convK optAlg P S.m src dst (S.ev x) f = some r) : ∃ v, eff P Γ S.ev S.m o = some ⟨.v v, []⟩ ∧ f v = some r := by
  unfold convK at h
  unfold eff
  rw [ho]
  simp only
  split at h
  · rename_i k h1 h2 h3
    simp only [h1, h2, h3]
    exact ⟨_, rfl, h⟩
  · rename_i h1 h2 h3
    simp only [h1, h2, h3]
    exact ⟨_, rfl, h⟩
  · rename_i e d h1 h2
    simp only [h1, h2]
    split at h
    · rename_i h4
      simp only [h4]
      split at h
      · rename_i h5
        exact ⟨_, by simp only [h5], h⟩
      · rename_i hne
        split at h
        · rename_i xs h5
          obtain ⟨h6, h⟩ := of_req h
          refine ⟨_, ?_, h⟩
          split
          · rename_i he; exact absurd he hne
          · simp only [h5, h6, if_true]
        · cases h
    · cases h
  · rename_i e s h1 h2 h3
    simp only [h1, h2, h3]
    split at h
    · rename_i h4
      obtain ⟨h6, h⟩ := of_req h
      simp only [h4, h6, if_true]
      exact ⟨_, rfl, h⟩
    · cases h
  · cases h

theorem fieldK_ok {Γ : FuncId → Option Spec} {S : St} {t : TypeId} {x : Operand} {i : Nat} {o : Oper} (ho : o.op = .field t x i) {f : D → Ans} (h : fieldK optAlg P t (S.ev x) i f = some r) : ∃ d, eff P Γ S.ev S.m o = some ⟨d, []⟩ ∧ f d = some r := by
  unfold fieldK at h
  unfold eff
  rw [ho]
  simp only
  split at h
  · rename_i fs h1
    simp only [h1]
    split at h
    · rename_i fd h2
      simp only [h2]
      split at h
      · rename_i agg x h3 h4
        obtain ⟨cs, h5, h7⟩ := of_bind h
        obtain ⟨y, h6, h8⟩ := takeK_ok h7
        have := asAgg_eq h5
        subst this
        simp only [h3, h4, h6]
        exact ⟨_, rfl, h8⟩
      · rename_i agg cs h3 h4
        simp only [h3, h4]
        split at h
        · rename_i d hd; simp only [hd]; exact ⟨_, rfl, h⟩
        · cases h
      · cases h
    · cases h
  · cases h

theorem splitK_ok {n : Int} {f : Nat → Ans} : ∀ {k i : Nat}, splitK optAlg n f i k = some r → ∃ j : Nat, n = (j : Int) ∧ f j = some r
  | 0, i, h => by cases h
  | k + 1, i, h => by
    rcases of_br h with ⟨e, h⟩ | ⟨_, h⟩
    · exact ⟨i, of_decide_eq_true e, h⟩
    · exact splitK_ok h

theorem indexK_ok {Γ : FuncId → Option Spec} {S : St} {t : TypeId} {x i : Operand} {o : Oper} (ho : o.op = .index t x i) {f : D → Ans} (h : indexK optAlg P t (S.ev x) (S.ev i) f = some r) : ∃ d, eff P Γ S.ev S.m o = some ⟨d, []⟩ ∧ f d = some r := by
  unfold indexK at h
  unfold eff
  rw [ho]
  simp only
  split at h
  · rename_i s n h1 h2 h3
    obtain ⟨h4, h⟩ := of_req h
    obtain ⟨b, h5, h⟩ := of_bind h
    simp only [h1, h2, h3]
    exact ⟨_, by rw [if_pos h4, h5]; rfl, h⟩
  · rename_i len e x n h1 h2 h3
    obtain ⟨h4, h⟩ := of_req h
    split at h
    · rename_i agg h5
      have h : optAlg.bind (asAgg x) (fun cs => takeK optAlg P agg e (n.toNat * P.cellsOf e) cs f) = some r := by
        split at h
        · obtain ⟨j, hj, h⟩ := splitK_ok h
          rw [hj, Int.toNat_natCast]
          exact h
        · exact h
      obtain ⟨cs, h6, h8⟩ := of_bind h
      have := asAgg_eq h6
      subst this
      obtain ⟨y, h7, h9⟩ := takeK_ok h8
      simp only [h1, h2, h3]
      exact ⟨_, by rw [if_pos h4]; simp only [h5, h7]; rfl, h9⟩
    · cases h
  · cases h

theorem openParts_ok {t : TypeId} : ∀ {ps : List (Nat × D)} {f : List (Nat × D) → Ans}, openParts optAlg P t ps f = some r → f ps = some r
  | [], f, h => h
  | (i, d) :: rest, f, h => openParts_ok (f := fun q => f ((i, d) :: q)) (openD_ok (f := fun d => openParts optAlg P t rest fun q => f ((i, d) :: q)) h)
theorem fillK_ok {t : TypeId} : ∀ {ps : List (Nat × D)} {cells : List D} {f : List D → Ans}, fillK optAlg P t cells ps f = some r → ∃ cs, fillD P t cells ps = some cs ∧ f cs = some r
  | [], cells, f, h => ⟨cells, rfl, h⟩
  | (i, d) :: rest, cells, f, h => by
    unfold fillK at h
    unfold fillD
    split at h
    · rename_i off size h1
      obtain ⟨h2, h⟩ := of_req h
      simp only [h1]
      rw [if_pos h2]
      exact fillK_ok h
    · cases h
theorem fillRowK_ok {sz : Nat} {sh : List (Option Nat)} : ∀ {ps : List (Nat × D)} {els : List V} {f : List V → Ans}, fillRowK optAlg sz sh m els ps f = some r → ∃ cs, fillRow sz sh m els ps = some cs ∧ f cs = some r
  | [], els, f, h => ⟨els, rfl, h⟩
  | (i, d) :: rest, els, f, h => by
    unfold fillRowK at h
    unfold fillRow
    split at h
    · rename_i x h1
      obtain ⟨h2, h⟩ := of_req h
      simp only [h1]
      rw [if_pos h2]
      exact fillRowK_ok h
    · cases h

theorem argK_ok {md : Mode} {d : D} {f : V × List Nat × List Nat × List Nat → Ans} (h : argK optAlg m md d f = some r) : ∃ a, argOf m md d = some a ∧ f a = some r := by
  unfold argK at h
  unfold argOf
  split at h
  · split at h
    · rename_i x hx
      simp only [hx]
      exact ⟨_, rfl, h⟩
    · cases h
  · split at h
    · rename_i cs hl
      split at h
      · rename_i hic
        split at h
        · rename_i ys hy
          simp only [hl]
          rw [if_pos hic]
          simp only [hy]
          exact ⟨_, rfl, h⟩
        · cases h
      · cases h
    · cases h
  · split at h
    · rename_i sz els hl
      obtain ⟨h1, h⟩ := of_req h
      simp only [hl]
      exact ⟨_, if_pos h1, h⟩
    · cases h
  · split at h
    · rename_i sz els hl
      obtain ⟨h1, h⟩ := of_req h
      obtain ⟨h2, h⟩ := of_req h
      simp only [hl]
      exact ⟨_, if_pos ⟨h2.1, h2.2, h1⟩, h⟩
    · cases h
  · exact ⟨_, rfl, h⟩
  · cases h
theorem argsK_ok : ∀ {ms : List Mode} {ds : List D} {f : List V × List Nat × List Nat × List Nat → Ans}, argsK optAlg m ms ds f = some r → ∃ a, argsOf m ms ds = some a ∧ f a = some r
  | [], [], f, h => ⟨_, rfl, h⟩
  | md :: ms, d :: ds, f, h => by
    obtain ⟨a, h1, h⟩ := argK_ok (f := fun a => argsK optAlg m ms ds fun b => f (a.1 :: b.1, a.2.1 ++ b.2.1, a.2.2.1 ++ b.2.2.1, a.2.2.2 ++ b.2.2.2)) h
    obtain ⟨b, h2, h⟩ := argsK_ok h
    unfold argsOf
    simp only [h1, h2]
    exact ⟨_, rfl, h⟩
  | [], _ :: _, f, h => by cases h
  | _ :: _, [], f, h => by cases h

theorem aggK_ok {cks : List CK} {x : V} {g : V → Ans} (h : aggK optAlg cks x g = some r) : g x = some r := by
  obtain ⟨l, h1, h⟩ := of_bind h
  rw [asAgg_eq h1]
  exact destrL_ok (f := fun zs => g (.agg zs)) h
theorem resOneK_ok {k : RK} {cs : List CK} {x : V} {g : V → Ans} (h : resOneK optAlg k cs x g = some r) : g x = some r := by
  unfold resOneK at h
  split at h
  · split at h
    · exact destr_ok h
    · exact h
  · exact destr_ok h
  · exact aggK_ok h
theorem outOneK_ok {w : Nat} {cs : List CK} {x : V} {g : V → Ans} (h : outOneK optAlg m w cs x g = some r) : g x = some r := by
  unfold outOneK at h
  split at h
  · exact aggK_ok h
  · exact destr_ok h
  · cases h
theorem resK_ok : ∀ {ks : List RK} {cs : List (List CK)} {i : Nat} {xs : List V} {f : List V → Ans}, resK optAlg ks cs i xs f = some r → i + ks.length = xs.length → f (xs.drop i) = some r
  | [], _, i, xs, f, h, hl => by rw [List.drop_eq_nil_of_le (by simp at hl; omega)]; exact h
  | k :: ks, cs, i, xs, f, h, hl => by
    obtain ⟨y, h1, h2⟩ := of_bind h
    have h3 := resK_ok (resOneK_ok h2) (by simp at hl; omega)
    obtain ⟨hi, he⟩ := List.getElem?_eq_some_iff.1 h1
    rw [List.drop_eq_getElem_cons hi, he]
    exact h3
theorem outK_ok : ∀ {ws : List Nat} {cs : List (List CK)} {i : Nat} {xs : List V} {f : List V → Ans}, outK optAlg m ws cs i xs f = some r → i + ws.length = xs.length → f (xs.drop i) = some r
  | [], _, i, xs, f, h, hl => by rw [List.drop_eq_nil_of_le (by simp at hl; omega)]; exact h
  | k :: ks, cs, i, xs, f, h, hl => by
    obtain ⟨y, h1, h2⟩ := of_bind h
    have h3 := outK_ok (outOneK_ok h2) (by simp at hl; omega)
    obtain ⟨hi, he⟩ := List.getElem?_eq_some_iff.1 h1
    rw [List.drop_eq_getElem_cons hi, he]
    exact h3
theorem iosK_ok : ∀ {ws : List Nat} {ys : List V} {f : List (Nat × RS) → Ans}, iosK optAlg m ws ys f = some r → ∃ up, iosOf m ws ys = some up ∧ f up = some r
  | [], [], f, h => ⟨_, rfl, h⟩
  | w :: ws, y :: ys, f, h => by
    unfold iosK at h
    unfold iosOf
    split at h
    · rename_i cs fz vs h1
      obtain ⟨h2, h⟩ := of_req h
      obtain ⟨l, h3, h⟩ := iosK_ok h
      simp only [h1, h3]
      exact ⟨_, if_pos h2, h⟩
    · rename_i sz els fz sz' els' h1
      obtain ⟨h2, h⟩ := of_req h
      obtain ⟨l, h3, h⟩ := iosK_ok h
      simp only [h1, h3]
      exact ⟨_, if_pos h2, h⟩
    · cases h
  | [], _ :: _, f, h => by cases h
  | _ :: _, [], f, h => by cases h

theorem nodupB_ok : ∀ {l : List Nat}, nodupB l = true → l.Nodup
  | [], _ => List.nodup_nil
  | x :: xs, h => by
    simp only [nodupB, Bool.and_eq_true, Bool.not_eq_true', List.contains_eq_mem, decide_eq_false_iff_not] at h
    exact List.nodup_cons.2 ⟨h.1, nodupB_ok h.2⟩

/-- The results that are always the same are so. -/
def ConstOk (Γ : FuncId → Option Con) : Prop := ∀ f c ys, Γ f = some c → c.const = some ys → ∀ xs p, c.spec.fn xs = some p → p.1 = ys

theorem callK_ok {dst : Nat} {c : Con} {args : List D} {f : Eff → Ans} (hC : ∀ ys, c.const = some ys → ∀ xs p, c.spec.fn xs = some p → p.1 = ys) (h : callK optAlg m dst c args f = some r) : ∃ E, effCall m dst c.spec args = some E ∧ f E = some r := by
  unfold callK at h
  obtain ⟨⟨xs, rs, ws, ks⟩, h1, h⟩ := argsK_ok h
  simp only at h
  split at h
  · rename_i hB
    simp only [Bool.and_eq_true, Bool.not_eq_true', List.contains_eq_mem, decide_eq_false_iff_not, List.all_eq_true] at hB
    obtain ⟨⟨hB1, hB2⟩, hB3⟩ := hB
    obtain ⟨⟨ys, zs⟩, h2, h⟩ := of_bind h
    obtain ⟨⟨h3, h4⟩, h⟩ := of_req h
    have h : outK optAlg m ws c.zk 0 zs (fun zs => iosK optAlg m ws zs fun up =>
          match resOf m dst c.spec.res ys with
          | some (ds, new) => f ⟨packD ds, new ++ (up ++ (ks.map (killReg m) ++ (if c.spec.fresh = true then [] else freezeAll m rs)))⟩
          | none => optAlg.fail) = some r := by
      unfold resAllK at h
      split at h
      · rename_i ys' hc
        have := hC ys' hc _ _ h2
        simp only at this
        subst this
        exact h
      · have h := resK_ok h (by simpa using h3.symm)
        rw [List.drop_zero] at h
        exact h
    have h := outK_ok h (by simpa using h4.symm)
    obtain ⟨up, h5, h⟩ := iosK_ok h
    simp only [List.drop_zero] at h h5
    split at h
    · rename_i ds new h6
      unfold effCall
      simp only [h1]
      rw [if_pos ⟨nodupB_ok hB1, hB2, hB3⟩]
      simp only [h2, h5, h6]
      exact ⟨_, rfl, h⟩
    · cases h
  · cases h

theorem refine_eq {S : St} {x : Operand} {b : Bool} (h : S.ev x = .v (.bool b)) : S.refine x b = S := by
  unfold St.refine
  split
  · rename_i t
    have h : S.f t = .v (.bool b) := h
    refine St.ext_ (fun u => ?_) fun _ => rfl
    simp only [put_f]
    split
    · rename_i e; rw [e, h]
    · rfl
  · rfl
theorem put_eq {S : St} {t : Nat} {d : D} (h : S.f t = d) : S.put (some t) d = S := by
  refine St.ext_ (fun u => ?_) fun _ => rfl
  simp only [put_f]
  split
  · rename_i e; rw [e, h]
  · rfl

/-- The contracts as the walk has them. -/
def specs (Γ : FuncId → Option Con) (f : FuncId) : Option Spec := (Γ f).map (·.spec)

theorem eff_none {Γ : FuncId → Option Spec} {S : St} {o : Oper} {E : Eff} (hc : ∀ c fo, o.op = .call c → c.callee ≠ .value fo) (h : eff P (fun _ => none) S.ev S.m o = some E) : eff P Γ S.ev S.m o = some E := by
  rw [← h]
  unfold eff
  split <;> try rfl
  rename_i c ho
  split <;> try rfl
  rename_i fo hf
  exact absurd hf (hc c fo ho)

theorem effK_ok {Γ : FuncId → Option Con} (hC : ConstOk Γ) {S : St} {o : Oper} {f : St → Eff → Ans} (h : effK optAlg P Γ S o f = some r) : ∃ E, eff P (specs Γ) S.ev S.m o = some E ∧ f S E = some r := by
  unfold effK at h
  split at h
  · rename_i c a b ho
    split at h
    · rename_i t ht
      rcases of_br h with ⟨e, h⟩ | ⟨e, h⟩
      · subst e
        rw [refine_eq ht] at h
        exact ⟨_, by unfold eff; rw [ho]; simp only [ht, if_true], h⟩
      · subst e
        rw [refine_eq ht] at h
        exact ⟨_, by unfold eff; rw [ho]; simp only [ht, Bool.false_eq_true, if_false], h⟩
    · cases h
  · rename_i t p ho
    obtain ⟨d, h1, h⟩ := loadK_ok h
    exact ⟨_, by unfold eff; rw [ho]; simp only [h1]; rfl, h⟩
  · rename_i t p x ho
    split at h
    · rename_i hd
      obtain ⟨d, h1, h⟩ := storeK_ok h
      exact ⟨_, by unfold eff; rw [ho]; simp only [h1, hd, if_true]; rfl, h⟩
    · cases h
  · rename_i e x ho
    split at h
    · rename_i t hd
      have h := openD_ok h
      obtain ⟨h1, h⟩ := of_req h
      exact ⟨_, by unfold eff; rw [ho]; simp only [hd]; rw [if_pos h1], h⟩
    · cases h
  · rename_i t parts ho
    split at h
    · rename_i z hz hk
      have h := openParts_ok h
      obtain ⟨cs, h1, h⟩ := fillK_ok h
      exact ⟨_, by unfold eff; rw [ho]; simp only [hz, hk, if_true, h1]; rfl, h⟩
    · cases h
  · rename_i t len parts ho
    split at h
    · rename_i q e k by_ hd hs
      split at h
      · rename_i z hz
        split at h
        · rename_i hc
          have h := openParts_ok h
          obtain ⟨cs, h1, h⟩ := fillRowK_ok h
          exact ⟨_, by unfold eff; rw [ho]; simp only [hd, hs, hz]; rw [if_pos (of_decide_eq_true hc), h1]; rfl, h⟩
        · cases h
      · cases h
    · cases h
  · rename_i op t x y yt ho
    obtain ⟨v, h1, h⟩ := binK_ok h
    exact ⟨_, by unfold eff; rw [ho]; simp only [h1]; rfl, h⟩
  · rename_i src dst x ho
    obtain ⟨v, h1, h⟩ := convK_ok ho h
    exact ⟨_, h1, h⟩
  · rename_i t l c ho
    split at h
    · rename_i q e k by_ kd n kq qn hd hs h1 h2
      split at h
      · rename_i z hz
        obtain ⟨h4, h⟩ := of_req h
        obtain ⟨h3, h⟩ := of_req h
        exact ⟨_, by unfold eff; rw [ho]; simp only [hd, hs, h1, h2, hz]; rw [if_pos ⟨h3.1, h3.2.1, h3.2.2.1, h3.2.2.2, h4⟩], h⟩
      · cases h
    · cases h
  · rename_i t x lo hi mx ho
    split at h
    · obtain ⟨d, h1, h⟩ := sliceK_ok h
      exact ⟨_, by unfold eff; rw [ho]; simp only [h1]; rfl, h⟩
    · obtain ⟨d, h1, h⟩ := slice3K_ok h
      exact ⟨_, by unfold eff; rw [ho]; simp only [h1]; rfl, h⟩
  · rename_i t x i ho
    exact (fieldK_ok ho h).elim fun d h => ⟨_, h.1, h.2⟩
  · rename_i t x i ho
    obtain ⟨d, h1, h⟩ := indexAddrK_ok h
    exact ⟨_, by unfold eff; rw [ho]; simp only [h1]; rfl, h⟩
  · rename_i t x i ho
    exact (indexK_ok ho h).elim fun d h => ⟨_, h.1, h.2⟩
  · rename_i c ho
    split at h
    · rename_i hb
      split at h
      · rename_i q s x ts tx hd ha ht
        obtain ⟨E, h1, h⟩ := appendK_ok h
        exact ⟨_, by unfold eff; rw [ho]; simp only [hb, hd, ha, ht, h1], h⟩
      · cases h
    · rename_i hb
      split at h
      · rename_i x t hd ha ht
        obtain ⟨up, h1, h⟩ := clearK_ok h
        exact ⟨_, by unfold eff; rw [ho]; simp only [hb, hd, ha, ht, h1]; rfl, h⟩
      · cases h
    · rename_i hb
      split at h
      · rename_i x y t t' ha ht
        obtain ⟨k, up, h1, h⟩ := copyK_ok h
        exact ⟨_, by unfold eff; rw [ho]; simp only [hb, ha, ht, h1]; rfl, h⟩
      · cases h
    · rename_i fo hb
      split at h
      · rename_i q g caps hd hf
        split at h
        · rename_i s hs
          obtain ⟨E, h1, h⟩ := callK_ok (hC _ _ · hs) h
          exact ⟨_, by unfold eff; rw [ho]; simp only [hb, hd, hf, specs, hs, Option.map_some, Option.bind_some, h1], h⟩
        · cases h
      · cases h
    · rename_i hne1 hne0 hne3 hne2
      split at h
      · rename_i E hE
        exact ⟨E, eff_none (fun c' fo hc hv => by rw [ho] at hc; cases hc; exact hne2 fo hv) hE, h⟩
      · cases h
  · rename_i hne
    split at h
    · rename_i E hE
      exact ⟨E, eff_none (fun c' fo hc hv => by simp_all) hE, h⟩
    · cases h

theorem wantsK_ok {ops : List Oper} {S : St} {o : Oper} {f : St → Bool → Ans} (h : wantsK optAlg ops S o f = some r) : ∃ b, wants ops S o = some b ∧ f S b = some r := by
  unfold wantsK at h
  unfold wants
  split at h
  · rename_i hg; simp only [hg]; exact ⟨_, rfl, h⟩
  · rename_i j b hg
    simp only [hg]
    split at h
    · rename_i hd; simp only [hd]; exact ⟨_, rfl, h⟩
    · rename_i d hd
      simp only [hd]
      split at h
      · rename_i x hx
        simp only [hx]
        rcases of_br h with ⟨e, h⟩ | ⟨e, h⟩ <;> subst e <;> rw [put_eq hx] at h <;> exact ⟨_, rfl, h⟩
      · rename_i hx; simp only [hx]; exact ⟨_, rfl, h⟩
      · cases h

theorem runK_ok {Γ : FuncId → Option Con} (hC : ConstOk Γ) {ops : List Oper} {ws : List Nat} : ∀ {rest : List Oper} {k : Nat} {S : St} {fs : List (Nat × List Nat × List Nat)} {f : St → List (Nat × List Nat × List Nat) → Ans}, runK optAlg P Γ ops ws rest k S fs f = some r →
    ∃ S' fs', runD P (specs Γ) ops ws rest k S fs = some (S', fs') ∧ f S' fs' = some r
  | [], k, S, fs, f, h => ⟨S, fs, rfl, h⟩
  | o :: rest, k, S, fs, f, h => by
    obtain ⟨b, h1, h⟩ := wantsK_ok h
    cases b with
    | true =>
      obtain ⟨E, h2, h⟩ := effK_ok hC h
      obtain ⟨S', fs', h3, h4⟩ := runK_ok hC h
      refine ⟨S', fs', ?_, h4⟩
      unfold runD stepE
      simp only [h1, h2, Option.bind_some]
      exact h3
    | false =>
      obtain ⟨S', fs', h3, h4⟩ := runK_ok hC h
      refine ⟨S', fs', ?_, h4⟩
      unfold runD stepE
      simp only [h1, Option.bind_some]
      exact h3

end Go.Proofs.YtdhdhcllgkddnaaGreat.Va

namespace Go.Proofs.YtdhdhcllgkddnaaGreat.Va
open Go Go.RowKit

def look {α : Type} (d : α) : List (Nat × α) → Nat → α
  | [], _ => d
  | (k, x) :: l, i => if i = k then x else look d l i
/-- A state told by lists. -/
def mkSt (l : List (Nat × D)) (rl : List (Nat × RS)) : St := ⟨look .any l, look ⟨0, none⟩ rl⟩

def rfind : List (Nat × Nat) → Nat → Option Nat
  | [], _ => none
  | (a, b) :: l, r => if r = a then some b else rfind l r
def rback : List (Nat × Nat) → Nat → Option Nat
  | [], _ => none
  | (a, b) :: l, R => if R = b then some a else rback l R

def renC (np : Nat) (m : Nat → RS) (ρ : List (Nat × Nat)) : D → D
  | .own r g off len =>
    match live m r g with
    | some ⟨.row sz els, true⟩ => .v (.sl sz ((els.drop off).take len))
    | _ =>
      match rfind ρ r with
      | some R => if (m r).gen = g then .own R (if r < np then g else 0) off len else .any
      | none => .any
  | .ptr r g i c =>
    match rfind ρ r with
    | some R => if (m r).gen = g then .ptr R (if r < np then g else 0) i c else .any
    | none => .any
  | .v x => .v x
  | .cptr x c => .cptr x c
  | _ => .any
def renD (np : Nat) (m : Nat → RS) (ρ : List (Nat × Nat)) : D → D
  | .agg cs => .agg (cs.map (renC np m ρ))
  | .fn f cs => .fn f (cs.map (renC np m ρ))
  | d => renC np m ρ d
def renReg (np : Nat) (m : Nat → RS) (ρ : List (Nat × Nat)) : Option Reg → Option Reg
  | some ⟨.box cs, fz⟩ => some ⟨.box (cs.map (renD np m ρ)), fz⟩
  | x => x
def renM (np : Nat) (m : Nat → RS) (ρ : List (Nat × Nat)) : List (Nat × RS) := ρ.map fun p => (p.2, ⟨if p.1 < np then (m p.1).gen else 0, renReg np m ρ (m p.1).reg⟩)
def chk (np : Nat) (ρ : List (Nat × Nat)) : Bool := nodupB (ρ.map (·.1)) && nodupB (ρ.map (·.2)) && ρ.all fun p => !(decide (p.1 < np) || decide (p.2 < np)) || p.1 == p.2

variable {O : Org} {S S' : St} {n : Nat} {a : Act} {w w' : World} {F F' : Nat → Prop} {L L' : Lay} {P : Program} {m : Nat → RS} {np : Nat} {ρ : List (Nat × Nat)}

theorem rfind_mem : ∀ {ρ : List (Nat × Nat)} {r R : Nat}, rfind ρ r = some R → (r, R) ∈ ρ
  | (x, y) :: l, r, R, h => by
    unfold rfind at h
    split at h
    · rename_i e; cases h; subst e; simp
    · exact List.mem_cons_of_mem _ (rfind_mem h)
theorem rfind_of : ∀ {ρ : List (Nat × Nat)} {r R : Nat}, (ρ.map (·.1)).Nodup → (r, R) ∈ ρ → rfind ρ r = some R
  | (x, y) :: l, r, R, hn, h => by
    simp only [List.map_cons, List.nodup_cons] at hn
    unfold rfind
    rcases List.mem_cons.1 h with h | h
    · cases h; rw [if_pos rfl]
    · rw [if_neg, rfind_of hn.2 h]
      intro e
      exact hn.1 (List.mem_map.2 ⟨(r, R), h, e⟩)
theorem rback_of : ∀ {ρ : List (Nat × Nat)} {r R : Nat}, (ρ.map (·.2)).Nodup → (r, R) ∈ ρ → rback ρ R = some r
  | (x, y) :: l, r, R, hn, h => by
    simp only [List.map_cons, List.nodup_cons] at hn
    unfold rback
    rcases List.mem_cons.1 h with h | h
    · cases h; rw [if_pos rfl]
    · rw [if_neg, rback_of hn.2 h]
      intro e
      exact hn.1 (List.mem_map.2 ⟨(r, R), h, e⟩)
theorem look_map {α β : Type} {d : α} {g : β → Nat × α} : ∀ {l : List β} {i : Nat}, ((l.map g).map (·.1)).Nodup → (∀ x ∈ l, (g x).1 = i → look d (l.map g) i = (g x).2) ∧ ((∀ x ∈ l, (g x).1 ≠ i) → look d (l.map g) i = d)
  | [], i, _ => ⟨by simp, fun _ => rfl⟩
  | y :: l, i, hn => by
    simp only [List.map_cons, List.nodup_cons] at hn
    obtain ⟨h1, h2⟩ := look_map (d := d) (g := g) (l := l) (i := i) hn.2
    refine ⟨fun x hx e => ?_, fun hne => ?_⟩
    · simp only [List.map_cons, look]
      rcases List.mem_cons.1 hx with rfl | hx
      · rw [if_pos e.symm]
      · rw [if_neg]
        · exact h1 x hx e
        · intro e'
          exact hn.1 (List.mem_map.2 ⟨g x, List.mem_map.2 ⟨x, hx, rfl⟩, e.trans e'⟩)
    · simp only [List.map_cons, look]
      rw [if_neg fun e => hne y (by simp) e.symm]
      exact h2 fun x hx => hne x (List.mem_cons_of_mem _ hx)

/-- Where things lie, under the new names. -/
def renL (L : Lay) (ρ : List (Nat × Nat)) : Lay := ⟨fun R => (rback ρ R).bind L.base, fun R => ((rback ρ R).map L.cap).getD 0⟩

structure Ren (np : Nat) (m : Nat → RS) (L : Lay) (ρ : List (Nat × Nat)) (m' : Nat → RS) (L' : Lay) : Prop where
  to : ∀ {r R}, rfind ρ r = some R → m' R = ⟨if r < np then (m r).gen else 0, renReg np m ρ (m r).reg⟩ ∧ L'.base R = L.base r ∧ L'.cap R = L.cap r
  back : ∀ {R reg'}, (m' R).reg = some reg' → ∃ r, rfind ρ r = some R ∧ renReg np m ρ (m r).reg = some reg'
  low : ∀ {r R}, rfind ρ r = some R → r < np ∨ R < np → r = R
  inj : ∀ {r r' R}, rfind ρ r = some R → rfind ρ r' = some R → r = r'

theorem ren_of (h : chk np ρ = true) : Ren np m L ρ (look ⟨0, none⟩ (renM np m ρ)) (renL L ρ) := by
  simp only [chk, Bool.and_eq_true, List.all_eq_true] at h
  obtain ⟨⟨h1, h2⟩, h3⟩ := h
  have h1 := nodupB_ok h1
  have h2 := nodupB_ok h2
  have hn : (((ρ.map fun p : Nat × Nat => (p.2, (⟨if p.1 < np then (m p.1).gen else 0, renReg np m ρ (m p.1).reg⟩ : RS))).map (·.1))).Nodup := by simpa [List.map_map, Function.comp_def] using h2
  refine ⟨fun {r R} hr => ?_, fun {R reg'} hr => ?_, fun {r R} hr hlt => ?_, fun {r r' R} hr hr' => ?_⟩
  · have hm := rfind_mem hr
    have hb := rback_of h2 hm
    exact ⟨(look_map (d := ⟨0, none⟩) hn).1 (r, R) hm rfl, by simp [renL, hb], by simp [renL, hb]⟩
  · by_cases hx : ∃ x ∈ ρ, x.2 = R
    · obtain ⟨⟨r, R'⟩, hx, rfl⟩ := hx
      have := (look_map (d := (⟨0, none⟩ : RS)) hn (i := R')).1 (r, R') hx rfl
      unfold renM at hr
      rw [this] at hr
      exact ⟨r, rfind_of h1 hx, hr⟩
    · have := (look_map (d := (⟨0, none⟩ : RS)) hn (i := R)).2 fun x hx' e => hx ⟨x, hx', e⟩
      unfold renM at hr
      rw [this] at hr
      cases hr
  · have hm := rfind_mem hr
    have := h3 _ hm
    simp only [Bool.or_eq_true, Bool.not_eq_true', Bool.or_eq_false_iff, decide_eq_false_iff_not, beq_iff_eq] at this
    rcases this with ⟨h4, h5⟩ | h4
    · exact absurd hlt (by omega)
    · exact h4
  · have := rback_of h2 (rfind_mem hr)
    rw [rback_of h2 (rfind_mem hr')] at this
    cases this; rfl

theorem renReg_row {np : Nat} {m : Nat → RS} {ρ : List (Nat × Nat)} {x : Option Reg} {reg' : Reg} {sz : Nat} {els : List V} (h : renReg np m ρ x = some reg') (hb : reg'.body = .row sz els) : x = some reg' := by
  unfold renReg at h
  split at h
  · cases h; cases hb
  · exact h
theorem renReg_box {np : Nat} {m : Nat → RS} {ρ : List (Nat × Nat)} {x : Option Reg} {reg' : Reg} {cs' : List D} (h : renReg np m ρ x = some reg') (hb : reg'.body = .box cs') : ∃ cs, x = some ⟨.box cs, reg'.frozen⟩ ∧ cs' = cs.map (renD np m ρ) := by
  unfold renReg at h
  split at h
  · rename_i cs fz
    cases h; cases hb
    exact ⟨cs, rfl, rfl⟩
  · rename_i x' hne
    subst h
    obtain ⟨b, fz⟩ := reg'
    simp only at hb
    subst hb
    exact absurd rfl (hne cs' fz)

theorem renC_ok (h : Sim O S n a w F L) {m' : Nat → RS} {L' : Lay} (k : Ren np S.m L ρ m' L') {d : D} {v : Value} (hd : RD w F S.m L d v) : RD w F m' L' (renC np S.m ρ d) v := by
  cases hd with
  | v h => exact .v h
  | any v => exact .any v
  | own r g off len v hg h1 hh =>
    simp only [renC]
    split
    · rename_i sz els hl
      refine .v (h.deepC (d := .own r g off len) (F' := F) (.own r g off len v hg h1 hh) (by simp [Va.deepC, rowOf, hl]) (fun _ hb => hb) ?_)
      intro r' hr' reg b hreg hrow hb
      simp only [D.ridsC, List.mem_singleton] at hr'
      subst hr'
      have hreg' := (live_reg hl).2
      rw [hreg'] at hreg
      cases hreg
      simp [blk] at hb
    · split
      · rename_i R hR
        split
        · rename_i hgen
          obtain ⟨k1, k2, k3⟩ := k.to hR
          refine .own R _ off len v ?_ h1 fun reg' sz els hl hb => ?_
          · rw [k1]; simp only; split <;> simp [hgen]
          · have hreg' := (live_reg hl).2
            rw [k1] at hreg'
            have hreg := renReg_row hreg' hb
            have hl0 : live S.m r g = some reg' := by unfold live; rw [if_pos hgen]; exact hreg
            rw [k2, k3]
            exact hh reg' sz els hl0 hb
        · exact .any _
      · exact .any _
  | ptr r g i c v hg h1 hrow hbox =>
    simp only [renC]
    split
    · rename_i R hR
      split
      · rename_i hgen
        obtain ⟨k1, k2, k3⟩ := k.to hR
        refine .ptr R _ i c v ?_ h1 (fun reg' sz els hl hb => ?_) fun reg' cs' hl hb => ?_
        · rw [k1]; simp only; split <;> simp [hgen]
        · have hreg' := (live_reg hl).2
          rw [k1] at hreg'
          have hreg := renReg_row hreg' hb
          have hl0 : live S.m r g = some reg' := by unfold live; rw [if_pos hgen]; exact hreg
          rw [k2]
          exact hrow reg' sz els hl0 hb
        · have hreg' := (live_reg hl).2
          rw [k1] at hreg'
          obtain ⟨cs, hreg, _⟩ := renReg_box hreg' hb
          have hl0 : live S.m r g = some ⟨.box cs, reg'.frozen⟩ := by unfold live; rw [if_pos hgen]; exact hreg
          rw [k2]
          exact hbox _ cs hl0 rfl
      · exact .any _
    · exact .any _
  | cptr x c ad u hF hc hr => exact .cptr x c ad u hF hc hr
  | agg => exact .any _
  | tup => exact .any _
  | fn => exact .any _

theorem renD_ok (h : Sim O S n a w F L) {m' : Nat → RS} {L' : Lay} (k : Ren np S.m L ρ m' L') {d : D} {v : Value} (hd : RD w F S.m L d v) : RD w F m' L' (renD np S.m ρ d) v := by
  unfold renD
  split
  · cases hd with
    | agg cs vs hl h1 hr =>
      refine .agg _ vs (by simpa using hl) h1 fun i y u hy hu => ?_
      simp only [List.getElem?_map, Option.map_eq_some_iff] at hy
      obtain ⟨z, hz, rfl⟩ := hy
      exact renC_ok h k (hr i z u hz hu)
  · cases hd with
    | fn _ _ vs hl hr =>
      refine .fn _ _ vs (by simpa using hl) fun i y u hy hu => ?_
      simp only [List.getElem?_map, Option.map_eq_some_iff] at hy
      obtain ⟨z, hz, rfl⟩ := hy
      exact renC_ok h k (hr i z u hz hu)
  · exact renC_ok h k hd

/-- What a call's own pins look like. -/
def PinsNp (O : Org) (np : Nat) : Prop := ∀ p ∈ O.pins, (∃ i, p.1 = .ptr i 0 0 0 ∧ i < np) ∨ (∃ i len, p.1 = .own i 0 0 len ∧ i < np)

theorem Sim.ren (h : Sim O S n a w F L) (hp : PinsNp O np) (hc : chk np ρ = true) {f' : Nat → D} (hf : ∀ t, f' t = .any ∨ f' t = renD np S.m ρ (S.f t)) : ∃ L', Sim O ⟨f', look ⟨0, none⟩ (renM np S.m ρ)⟩ n a w F L' := by
  have k : Ren np S.m L ρ (look ⟨0, none⟩ (renM np S.m ρ)) (renL L ρ) := ren_of hc
  have hblk : ∀ {r R reg reg'}, rfind ρ r = some R → (S.m r).reg = some reg → renReg np S.m ρ (some reg) = some reg' → blk (renL L ρ) R reg' = blk L r reg := by
    intro r R reg reg' hR hreg hren
    obtain ⟨k1, k2, k3⟩ := k.to hR
    obtain ⟨body, fz⟩ := reg
    cases body with
    | row sz els => cases hren; simp [blk, k2, k3]
    | box cs => cases hren; simp [blk, k2]
  have hback : ∀ {R reg'}, (look (⟨0, none⟩ : RS) (renM np S.m ρ) R).reg = some reg' → ∃ r reg, rfind ρ r = some R ∧ (S.m r).reg = some reg ∧ renReg np S.m ρ (some reg) = some reg' := by
    intro R reg' hR
    obtain ⟨r, h1, h2⟩ := k.back hR
    cases hreg : (S.m r).reg with
    | none => rw [hreg] at h2; cases h2
    | some reg => exact ⟨r, reg, h1, hreg, by rw [← hreg]; exact h2⟩
  refine ⟨renL L ρ, h.os, h.tape, h.output, h.size0, h.old, h.F0, h.Fold, h.Flt, h.defers, h.tmps, fun t => ?_, fun R reg' hR => ?_, fun R reg' b hR hb hlt => ?_, fun R R' reg reg' b hR hR' hb hb' => ?_, fun p hpm => ?_⟩
  · simp only
    rcases hf t with e | e
    · rw [e]; exact .any _
    · rw [e]; exact renD_ok h k (h.frame t)
  · obtain ⟨r, reg, h1, h2, h3⟩ := hback hR
    have hok := h.regs r reg h2
    obtain ⟨k1, k2, k3⟩ := k.to h1
    obtain ⟨body, fz⟩ := reg
    cases body with
    | row sz els =>
      cases h3
      simp only [RegOk] at hok ⊢
      rw [k2, k3]
      exact hok
    | box cs =>
      cases h3
      simp only [RegOk] at hok ⊢
      rw [k2]
      obtain ⟨g, cur, ty, j1, j2, j3, j4, j5⟩ := hok
      refine ⟨g, cur, ty, j1, j2, j3, by simpa using j4, fun c d hd => ?_⟩
      simp only [List.getElem?_map, Option.map_eq_some_iff] at hd
      obtain ⟨e, he, rfl⟩ := hd
      obtain ⟨u, u1, u2, u3⟩ := j5 c e he
      exact ⟨u, u1, u2, renD_ok h k u3⟩
  · obtain ⟨r, reg, h1, h2, h3⟩ := hback hR
    rw [hblk h1 h2 h3] at hb
    exact h.mine r reg b h2 hb hlt
  · obtain ⟨r, reg0, h1, h2, h3⟩ := hback hR
    obtain ⟨r', reg0', h1', h2', h3'⟩ := hback hR'
    rw [hblk h1 h2 h3] at hb
    rw [hblk h1' h2' h3'] at hb'
    have := h.inj r r' reg0 reg0' b h2 h2' hb hb'
    subst this
    rw [h1] at h1'
    cases h1'; rfl
  · have hq := h.pins p hpm
    have key : ∀ i, i < np → ∀ reg', live (look (⟨0, none⟩ : RS) (renM np S.m ρ)) i 0 = some reg' → ∃ reg, live S.m i 0 = some reg ∧ renReg np S.m ρ (some reg) = some reg' ∧ (renL L ρ).base i = L.base i ∧ (renL L ρ).cap i = L.cap i := by
      intro i hi reg' hl
      obtain ⟨hg, hr⟩ := live_reg hl
      obtain ⟨r, reg, h1, h2, h3⟩ := hback hr
      have := k.low h1 (.inr hi)
      subst this
      obtain ⟨k1, k2, k3⟩ := k.to h1
      rw [k1] at hg
      simp only [hi, if_true] at hg
      exact ⟨reg, by unfold live; rw [if_pos hg]; exact h2, h3, k2, k3⟩
    rcases hp p hpm with ⟨i, e, hi⟩ | ⟨i, len, e, hi⟩
    · rw [e] at hq ⊢
      cases hq with
      | ptr _ _ _ _ _ hg h1 hrow hbox =>
        refine .ptr i 0 0 0 _ (Nat.zero_le _) h1 (fun reg' sz els hl hb => ?_) fun reg' cs' hl hb => ?_
        · obtain ⟨reg, j1, j2, j3, j4⟩ := key i hi reg' hl
          have j5 := renReg_row j2 hb
          cases j5
          rw [j3]
          exact hrow _ sz els j1 hb
        · obtain ⟨reg, j1, j2, j3, j4⟩ := key i hi reg' hl
          obtain ⟨cs, j5, _⟩ := renReg_box j2 hb
          cases j5
          rw [j3]
          exact hbox _ cs j1 rfl
    · rw [e] at hq ⊢
      cases hq with
      | own _ _ _ _ _ hg h1 hh =>
        refine .own i 0 0 len _ (Nat.zero_le _) h1 fun reg' sz els hl hb => ?_
        obtain ⟨reg, j1, j2, j3, j4⟩ := key i hi reg' hl
        have j5 := renReg_row j2 hb
        cases j5
        rw [j3, j4]
        exact hh _ sz els j1 hb

end Go.Proofs.YtdhdhcllgkddnaaGreat.Va

namespace Go.Proofs.YtdhdhcllgkddnaaGreat.Va
open Go Go.RowKit

inductive LM where
  | told (sz : Nat)
  | own (sz : Nat)
/-- A slot, or a cell of a variable. -/
abbrev Place := Nat × Option Nat

def getP (S : St) : Place → D
  | (t, none) => S.f t
  | (r, some c) => match (S.m r).reg with | some ⟨.box cs, false⟩ => cs.getD c .any | _ => .any
def setP (S : St) : Place → D → St
  | (t, none), d => S.put (some t) d
  | (r, some c), d => match (S.m r).reg with | some ⟨.box cs, false⟩ => S.setM [setReg S.m r ⟨.box (cs.set c d), false⟩] | _ => S
def ghostId : Place → Nat
  | (t, none) => 50000 + t
  | (r, some c) => 60000 + 100 * r + c
def coerce (S : St) (p : Place) : LM → St
  | .told sz =>
    match getP S p with
    | .v .nil => setP S p (.v (.sl sz []))
    | .own r g off len =>
      match live S.m r g with
      | some ⟨.row sz' els, _⟩ => setP (S.setM [setReg S.m r ⟨.row sz' els, true⟩]) p (.v (.sl sz' ((els.drop off).take len)))
      | _ => S
    | _ => S
  | .own sz =>
    match getP S p with
    | .v .nil =>
      match getP (S.setM [newReg S.m (ghostId p) ⟨.row sz [], false⟩]) p with
      | .v .nil => setP (S.setM [newReg S.m (ghostId p) ⟨.row sz [], false⟩]) p (.own (ghostId p) ((S.m (ghostId p)).gen + 1) 0 0)
      | _ => S
    | _ => S

structure Ann where
  lv : List Nat
  co : List (Place × LM)
  /-- worked out round by round -/
  un : Bool := false

/-- The names of the regions that live on. -/
def addRho (np : Nat) (m : Nat → RS) : Nat → List (Nat × Nat) → Nat → D → List (Nat × Nat)
  | 0, ρ, _, _ => ρ
  | k + 1, ρ, base, d =>
    let one := fun (ρ : List (Nat × Nat)) (r : Nat) =>
      match rfind ρ r with
      | some _ => ρ
      | none =>
        match (m r).reg with
        | some ⟨.row _ _, true⟩ => ρ
        | some ⟨.row _ _, false⟩ => ρ ++ [(r, match decide (r < np) with | true => r | false => base)]
        | some ⟨.box cs, _⟩ => cs.zipIdx.foldl (fun ρ x => addRho np m k ρ ((r + 1) * 1000000 + x.2) x.1) (ρ ++ [(r, r)])
        | none => ρ
    match d with
    | .own r _ _ _ => one ρ r
    | .ptr r _ _ _ => one ρ r
    | .agg cs => cs.zipIdx.foldl (fun ρ x => addRho np m k ρ (base + 1 + x.2) x.1) ρ
    | .fn _ cs => cs.zipIdx.foldl (fun ρ x => addRho np m k ρ (base + 1 + x.2) x.1) ρ
    | _ => ρ
def rhoOf (np : Nat) (io : List D) (lv : List Nat) (S : St) : List (Nat × Nat) :=
  lv.foldl (fun ρ t => addRho np S.m 4 ρ (100000 + 1000 * t) (S.f t)) (io.foldl (fun ρ d => addRho np S.m 4 ρ 99000 d) [])

def canonSt (np : Nat) (ρ : List (Nat × Nat)) (lv : List Nat) (S : St) : St := mkSt (lv.map fun t => (t, renD np S.m ρ (S.f t))) (renM np S.m ρ)
def canonL {A : Type} (alg : Alg A) (np : Nat) (io : List D) (an : Ann) (S : St) (k : St → A) : A :=
  let S1 := an.co.foldl (fun S c => coerce S c.1 c.2) S
  let ρ := rhoOf np io an.lv S1
  match chk np ρ with
  | true => k (canonSt np ρ an.lv S1)
  | false => alg.fail

variable {O : Org} {S S' : St} {n : Nat} {a : Act} {w w' : World} {F F' : Nat → Prop} {L L' : Lay} {P : Program} {m : Nat → RS} {np : Nat} {ρ : List (Nat × Nat)} {r : List V × List V}

theorem mle_set (h : Sim O S n a w F L) {t : Nat} {cs cs' : List D} (hr : (S.m t).reg = some ⟨.box cs, false⟩) : MLe S.m L (upd S.m [setReg S.m t ⟨.box cs', false⟩]) L := by
  have hne : ∀ r, r ≠ t → (upd S.m [setReg S.m t ⟨.box cs', false⟩]) r = S.m r := fun r hr => by simp [setReg, hr]
  have heq : (upd S.m [setReg S.m t ⟨.box cs', false⟩]) t = ⟨(S.m t).gen, some ⟨.box cs', false⟩⟩ := by simp [setReg]
  refine ⟨fun r => ?_, fun r g reg' sz els' hg hl hb => ?_, fun r g reg' cs1 hg hl hb => ?_⟩
  · by_cases hrt : r = t
    · subst hrt; rw [heq]; exact Nat.le_refl _
    · rw [hne r hrt]; exact Nat.le_refl _
  · by_cases hrt : r = t
    · subst hrt
      have := (live_reg hl).2
      rw [heq] at this
      cases this; cases hb
    · have hl' : live S.m r g = some reg' := by unfold live at hl ⊢; rw [hne r hrt] at hl; exact hl
      exact ⟨reg', els', hl', hb, Nat.le_refl _, h.rowLe (live_reg hl').2 hb, rfl, rfl⟩
  · by_cases hrt : r = t
    · subst hrt
      have hg' := (live_reg hl).1
      rw [heq] at hg'
      exact ⟨_, cs, by unfold live; rw [if_pos hg']; exact hr, rfl, rfl⟩
    · have hl' : live S.m r g = some reg' := by unfold live at hl ⊢; rw [hne r hrt] at hl; exact hl
      exact ⟨reg', cs1, hl', hb, rfl⟩

theorem setP_ok (h : Sim O S n a w F L) {p : Place} {d : D} (hd : ∀ v, RD w F S.m L (getP S p) v → RD w F S.m L d v) : Sim O (setP S p d) n a w F L := by
  obtain ⟨t, c⟩ := p
  cases c with
  | none =>
    refine ⟨h.os, h.tape, h.output, h.size0, h.old, h.F0, h.Fold, h.Flt, h.defers, h.tmps, fun u => ?_, h.regs, h.mine, h.inj, h.pins⟩
    simp only [setP, put_f, put_m]
    split
    · rename_i e; subst e; exact hd _ (h.frame u)
    · exact h.frame u
  | some c =>
    simp only [setP]
    split
    · rename_i cs hr
      have hok := h.regs t _ hr
      simp only [RegOk] at hok
      obtain ⟨g, cur, ty, j1, j2, j3, j4, j5⟩ := hok
      have hm := mle_set (cs' := cs.set c d) h hr
      refine h.turn t hr g (by simp [blk, j1]) (fun x hx => by simpa [blk, j1] using hx.symm) rfl rfl rfl (Nat.le_refl _) (fun _ _ _ => rfl) (fun sz els' hb => by cases hb) (fun cs' hb => ⟨cs, rfl⟩) ?_
      simp only [RegOk]
      refine ⟨g, cur, ty, j1, j2, j3, by simpa using j4, fun c' e he => ?_⟩
      rw [List.getElem?_set] at he
      split at he
      · rename_i ec
        subst ec
        split at he
        · rename_i hlt
          cases he
          obtain ⟨u, u1, u2, u3⟩ := j5 c cs[c] (List.getElem?_eq_getElem hlt)
          refine ⟨u, u1, u2, (hd u ?_).mono (Keeps.refl _ _) (fun _ hb => hb) hm⟩
          simp only [getP, hr, List.getD_eq_getElem?_getD, List.getElem?_eq_getElem hlt, Option.getD_some]
          exact u3
        · cases he
      · obtain ⟨u, u1, u2, u3⟩ := j5 c' e he
        exact ⟨u, u1, u2, u3.mono (Keeps.refl _ _) (fun _ hb => hb) hm⟩
    · exact h

theorem Sim.newNil (h : Sim O S n a w F L) (t sz : Nat) : ∃ L', Sim O (S.setM [newReg S.m t ⟨.row sz [], false⟩]) n a w F L' ∧ RD w F (upd S.m [newReg S.m t ⟨.row sz [], false⟩]) L' (.own t ((S.m t).gen + 1) 0 0) (.slice none 0 0) := by
  refine ⟨L.set t none 0, h.adopt t ⟨.row sz [], false⟩ w.heap.size 0 none rfl rfl rfl (Nat.le_refl _) (fun _ _ _ => rfl) (fun hF => absurd (h.Flt _ hF) (Nat.lt_irrefl _)) (fun hlt => absurd h.size0 (by omega))
    (fun r reg' hr _ hb => absurd (blk_lt (h.regs r reg' hr) hb) (Nat.lt_irrefl _)) ?_ (fun x hx => by simp [blk, Lay.set] at hx), ?_⟩
  · simp only [RegOk]
    exact ⟨by simp, by simp [Lay.set], by simp, .inl (by simp [Lay.set])⟩
  · refine .own _ _ _ _ _ (by simp [newReg]) rfl fun reg' sz' els' hl hb => ?_
    rw [live_new] at hl; cases hl; cases hb
    exact ⟨by simp, by simp, none, by simp [Lay.set], fun hlt => by simp [Lay.set] at hlt⟩

theorem coerce_ok (h : Sim O S n a w F L) (p : Place) (lm : LM) : ∃ F' L', Sim O (coerce S p lm) n a w F' L' := by
  cases lm with
  | told sz =>
    simp only [coerce]
    split
    · rename_i hg
      refine ⟨F, L, setP_ok h fun v hv => ?_⟩
      rw [hg] at hv
      have := hv.v_inv.nil_inv
      subst this
      exact .v (.sl0 sz)
    · rename_i r g off len hg
      split
      · rename_i sz' els fz hl
        have hr := (live_reg hl).2
        obtain ⟨F', h1, hF, hb⟩ := h.freeze r hr
        refine ⟨F', L, setP_ok h1 fun v hv => ?_⟩
        have hl1 : live (S.setM [setReg S.m r ⟨.row sz' els, true⟩]).m r g = some ⟨.row sz' els, true⟩ := by
          simp [live, setReg, (live_reg hl).1]
        have hgp : getP (S.setM [setReg S.m r ⟨.row sz' els, true⟩]) p = .own r g off len := by
          rw [← hg]
          obtain ⟨t, c⟩ := p
          cases c with
          | none => simp [getP]
          | some c =>
            by_cases e : t = r
            · subst e
              simp [getP, hr] at hg
            · simp [getP, setReg, e]
        rw [hgp] at hv
        refine .v (h1.deepC hv (by simp [Va.deepC, rowOf, hl1, -setM_m]) (fun _ hb => hb) ?_)
        intro r' hr' reg b hreg _ hblk
        simp only [D.ridsC, List.mem_singleton] at hr'
        subst hr'
        rw [(live_reg hl1).2] at hreg
        cases hreg
        simp [blk] at hblk
      · exact ⟨F, L, h⟩
    · exact ⟨F, L, h⟩
  | own sz =>
    simp only [coerce]
    split
    · split
      · rename_i hg2
        obtain ⟨L', h1, h2⟩ := h.newNil (ghostId p) sz
        refine ⟨F, L', setP_ok h1 fun v hv => ?_⟩
        rw [hg2] at hv
        have := hv.v_inv.nil_inv
        subst this
        simpa using h2
      · exact ⟨F, L, h⟩
    · exact ⟨F, L, h⟩
theorem coerces_ok : ∀ {co : List (Place × LM)} {S : St} {F : Nat → Prop} {L : Lay}, Sim O S n a w F L → ∃ F' L', Sim O (co.foldl (fun S c => coerce S c.1 c.2) S) n a w F' L'
  | [], S, F, L, h => ⟨F, L, h⟩
  | c :: co, S, F, L, h => by
    obtain ⟨F', L', h'⟩ := coerce_ok h c.1 c.2
    exact coerces_ok (co := co) h'

theorem look_or {g : Nat → D} : ∀ {lv : List Nat} {t : Nat}, look .any (lv.map fun t => (t, g t)) t = .any ∨ look .any (lv.map fun t => (t, g t)) t = g t
  | [], t => .inl rfl
  | x :: lv, t => by
    simp only [List.map_cons, look]
    split
    · rename_i e; subst e; exact .inr rfl
    · exact look_or

theorem canonL_ok {io : List D} {an : Ann} {k : St → Ans} (h : Sim O S n a w F L) (hp : PinsNp O np) (hk : canonL optAlg np io an S k = some r) : ∃ S' F' L', Sim O S' n a w F' L' ∧ k S' = some r := by
  unfold canonL at hk
  obtain ⟨F', L', h1⟩ := coerces_ok (co := an.co) h
  simp only at hk
  split at hk
  · rename_i hc
    obtain ⟨L2, h2⟩ := h1.ren hp hc (f' := look .any (an.lv.map fun t => (t, renD np (an.co.foldl (fun S c => coerce S c.1 c.2) S).m (rhoOf np io an.lv (an.co.foldl (fun S c => coerce S c.1 c.2) S)) ((an.co.foldl (fun S c => coerce S c.1 c.2) S).f t)))) fun t => look_or
    exact ⟨_, F', L2, h2, hk⟩
  · cases hk

end Go.Proofs.YtdhdhcllgkddnaaGreat.Va

namespace Go.Proofs.YtdhdhcllgkddnaaGreat.Va
open Go Go.RowKit

/-- The first region of a code. -/
def firstId : Code → Option Nat
  | .region id _ _ => some id
  | .seq a _ => firstId a
  | _ => none

section
variable {A : Type} (alg : Alg A) (P : Program) (Γ : FuncId → Option Con) (np : Nat) (io : List D) (an : Nat → Option Ann) (aj : Nat → Option Ann) (N : Nat)

def kSeq (g : St → A) (k : AExit → St → A) : AExit → St → A
  | .normal, S => g S
  | e, S => k e S
def kBlock (id : Nat) (k : AExit → St → A) : AExit → St → A
  | .exit j, S => match decide (j = id) with | true => k .normal S | false => k (.exit j) S
  | e, S => k e S
def kLoop (can : St → (St → A) → A) (go : St → A) (k : AExit → St → A) : AExit → St → A
  | .normal, S => can S go
  | e, S => k e S
def iter (step : St → (AExit → St → A) → A) (can : St → (St → A) → A) : Nat → (AExit → St → A) → St → A
  | 0, _, _ => alg.fail
  | n + 1, k, S => step S (kLoop can (iter step can n k) k)
/-- How many rounds: where the head is not named, the loop is worked out round by round. -/
def roundsOf (b : Nat) : Nat :=
  match an b with
  | some x => match x.un with | true => 300 | false => N
  | none => 300
/-- The head of loop b. -/
def headK (b : Nat) (S : St) (g : St → A) : A :=
  match an b with
  | some x => canonL alg np io x S fun S' => match x.un with | true => g S' | false => alg.loop b S' (g S')
  | none => g S
/-- A joint. -/
def joinK (j : Option Nat) (g : St → A) (S : St) : A :=
  match j with
  | some j => match aj j with | some x => canonL alg np io x S fun S' => alg.join j S' (g S') | none => g S
  | none => g S

def exec : Nat → Code → St → (AExit → St → A) → A
  | _, .skip, S, k => k .normal S
  | _, .region _ ops draw, S, k =>
    match draw with
    | false => runK alg P Γ ops.toList [] ops.toList 0 S [] fun S' _ => k .normal S'
    | true =>
      match drawOk ops.toList with
      | true => runK alg P Γ ops.toList ((pairs ops.toList).flatMap fun p => [p.1, p.2]) ops.toList 0 S [] fun S' fs => match (pairs ops.toList).all (disj fs) with | true => k .normal S' | false => alg.fail
      | false => alg.fail
  | b, .seq x y, S, k => exec b x S (kSeq (joinK alg np io aj (firstId y) fun S' => exec b y S' k) k)
  | b, .cond c x y, S, k =>
    match S.ev c with
    | .v (.bool t) => alg.br t (exec b x (S.refine c true) k) (exec b y (S.refine c false) k)
    | _ => alg.fail
  | _, .block id c, S, k => exec id c S (kBlock id k)
  | b, .loop c, S, k => headK alg np io an b S (iter alg (exec b c) (headK alg np io an b) (roundsOf an N b) k)
  | _, .exit id, S, k => k (.exit id) S
  | _, .ret, S, k => k .ret S
  | _, _, _, _ => alg.fail

/-- The rest of the function, from the head of loop t on (the rounds that are left: fu), or from joint t on. -/
def goAt (fu : Nat → Nat) (t : Nat) (j : Bool) : Nat → Code → (AExit → St → A) → Option (St → A)
  | b, .seq x y, k =>
    match j && (firstId y == some t) with
    | true => some fun S => exec alg P Γ np io an aj N b y S k
    | false =>
      match goAt fu t j b x (kSeq (joinK alg np io aj (firstId y) fun S' => exec alg P Γ np io an aj N b y S' k) k) with
      | some g => some g
      | none => goAt fu t j b y k
  | b, .cond _ x y, k => match goAt fu t j b x k with | some g => some g | none => goAt fu t j b y k
  | _, .block id c, k => goAt fu t j id c (kBlock id k)
  | b, .loop c, k =>
    match !j && b == t with
    | true => some (iter alg (exec alg P Γ np io an aj N b c) (headK alg np io an b) (fu b) k)
    | false => goAt fu t j b c (kLoop (headK alg np io an b) (iter alg (exec alg P Γ np io an aj N b c) (headK alg np io an b) (fu b) k) k)
  | _, _, _ => none

/-- What of the arguments the end looks at. -/
def maskIo : List Mode → List V → List V
  | .io _ :: ms, .agg cs :: xs => .agg (cs.map fun _ => .bool false) :: maskIo ms xs
  | .ios :: ms, x :: xs => x :: maskIo ms xs
  | _ :: ms, _ :: xs => .bool false :: maskIo ms xs
  | _, _ => []

def freshK (m : Nat → RS) : List (Mode × D) → A → A
  | [], x => x
  | (md, d) :: l, x =>
    match md, d with
    | .rd _, .v y => alg.req (y.bare = true) inferInstance (freshK m l x)
    | .take _, .v .nil => freshK m l x
    | .rd _, .own r g _ _ => match live m r g with | some ⟨.row _ els, false⟩ => alg.req (els.all V.bare = true) inferInstance (freshK m l x) | _ => alg.fail
    | .take _, .own r g _ _ => match live m r g with | some ⟨.row _ els, false⟩ => alg.req (els.all V.bare = true) inferInstance (freshK m l x) | _ => alg.fail
    | .ios, .own r g _ _ => match live m r g with | some ⟨.row _ els, false⟩ => alg.req (els.all V.bare = true) inferInstance (freshK m l x) | _ => alg.fail
    | .io _, .ptr r g _ _ => match live m r g with | some ⟨.box cs, false⟩ => alg.req (cs.all leafD = true) inferInstance (freshK m l x) | _ => alg.fail
    | _, _ => alg.fail
def lenK : List Mode → List V → List V → A → A
  | .io _ :: ms, .agg cs :: xs, .agg cs' :: zs, x => alg.req (cs'.length = cs.length) inferInstance (lenK ms xs zs x)
  | .ios :: ms, .sl sz els :: xs, .sl sz' els' :: zs, x => alg.req (sz' = sz ∧ els'.length = els.length) inferInstance (lenK ms xs zs x)
  | .rd _ :: ms, _ :: xs, zs, x => lenK ms xs zs x
  | .take _ :: ms, _ :: xs, zs, x => lenK ms xs zs x
  | [], [], [], x => x
  | _, _, _, _ => alg.fail

def endK (modes : List Mode) (res : List RK) (fresh : Bool) (slots : List ResultVar) (mx : List V) (e : AExit) (S : St) : A :=
  match e with
  | .exit _ => alg.fail
  | _ =>
    match slots.mapM (resD P S) with
    | none => alg.fail
    | some ds =>
      argsK alg S.m (res.map RK.mode ++ ioModes modes) (ds ++ ioDs 0 modes mx) fun a =>
        match nodupB (a.2.2.1 ++ a.2.2.2) && (a.2.2.1 ++ a.2.2.2).all fun w => !a.2.1.contains w with
        | true =>
          (match fresh with | true => freshK alg S.m ((res.map RK.mode ++ ioModes modes).zip (ds ++ ioDs 0 modes mx)) | false => fun x => x) <|
          alg.req ((a.1.take res.length).length = res.length) inferInstance <| lenK alg modes mx (a.1.drop res.length) <| alg.ret (a.1.take res.length) (a.1.drop res.length)
        | false => alg.fail

def openArg (md : Mode) (cks : List CK) (x : V) (g : V → A) : A :=
  match md with
  | .io _ => aggK alg cks x g
  | _ => match cks with | [c] => destr alg c x g | _ => g x
def openArgs : List Mode → List (List CK) → Nat → List V → (List V → A) → A
  | [], _, _, _, g => g []
  | md :: ms, cs, i, xs, g => alg.bind (xs[i]?) fun x => openArg alg md (cs.headD []) x fun y => openArgs ms (cs.drop 1) (i + 1) xs fun ys => g (y :: ys)

end

/-- A function, as the machine runs it. -/
structure Fun where
  modes : List Mode
  res : List RK
  fresh : Bool
  pk : List (List CK)
  body : Code
  slots : List ResultVar
  an : List (Nat × Ann)
  aj : List (Nat × Ann)

def anOf (l : List (Nat × Ann)) (b : Nat) : Option Ann := look none (l.map fun x => (x.1, some x.2)) b

section
variable {A : Type} (alg : Alg A) (P : Program) (Γ : FuncId → Option Con) (N : Nat) (f : Fun)
def Fun.run (xs : List V) : A :=
  alg.req (xs.length = f.modes.length) inferInstance <| openArgs alg f.modes f.pk 0 xs fun ys =>
    exec alg P Γ f.modes.length (ioDs 0 f.modes (maskIo f.modes ys)) (anOf f.an) (anOf f.aj) N 0 f.body (St.init f.modes ys) (endK alg P f.modes f.res f.fresh f.slots (maskIo f.modes ys))
/-- From a loop's head, from a joint. mx: what the end looks at of the arguments. -/
def Fun.go (mx : List V) (fu : Nat → Nat) (t : Nat) (j : Bool) (S : St) : A :=
  match goAt alg P Γ f.modes.length (ioDs 0 f.modes mx) (anOf f.an) (anOf f.aj) N fu t j 0 f.body (endK alg P f.modes f.res f.fresh f.slots mx) with
  | some g => g S
  | none => alg.fail
end
def Fun.spec (P : Program) (Γ : FuncId → Option Con) (N : Nat) (f : Fun) : Spec := ⟨f.modes, f.res, f.fresh, f.run optAlg P Γ N⟩

variable {O : Org} {S S' : St} {n : Nat} {a : Act} {w w' : World} {F F' : Nat → Prop} {L L' : Lay} {P : Program} {Γ : FuncId → Option Con} {m : Nat → RS} {np : Nat} {io : List D} {an aj : Nat → Option Ann} {N : Nat} {r : List V × List V}

theorem joinK_ok {j : Option Nat} {g : St → Ans} (h : Sim O S n a w F L) (hp : PinsNp O np) (hk : joinK optAlg np io aj j g S = some r) : ∃ S' F' L', Sim O S' n a w F' L' ∧ g S' = some r := by
  unfold joinK at hk
  split at hk
  · split at hk
    · exact canonL_ok (k := fun S' => g S') h hp hk
    · exact ⟨S, F, L, h, hk⟩
  · exact ⟨S, F, L, h, hk⟩
theorem headK_ok {b : Nat} {g : St → Ans} (h : Sim O S n a w F L) (hp : PinsNp O np) (hk : headK optAlg np io an b S g = some r) : ∃ S' F' L', Sim O S' n a w F' L' ∧ g S' = some r := by
  unfold headK at hk
  split at hk
  · rename_i x _
    refine canonL_ok (io := io) (an := x) (k := fun S' => g S') h hp ?_
    cases hx : x.un <;> simp only [hx] at hk <;> exact hk
  · exact ⟨S, F, L, h, hk⟩

theorem exec_ok (hm : P.follows .mixedOrders = true) (hC : ConstOk Γ) (hΓ : ∀ f s, specs Γ f = some s → Sound P f s) (hp : PinsNp O np) {c : Code} (hn : slotsIn n c = true) :
    ∀ {b : Nat} {S : St} {k : AExit → St → Ans} {a : Act} {w : World} {F : Nat → Prop} {L : Lay} {R : Exit → Act → World → Prop}, exec optAlg P Γ np io an aj N b c S k = some r → Sim O S n a w F L →
      (∀ e S' a' w' F' L', k e S' = some r → Sim O S' n a' w' F' L' → R e.out a' w') → c.wp P R a w := by
  induction c with
  | skip => exact fun h hS hR => wp_skip (hR .normal _ _ _ _ _ h hS)
  | region id ops draw =>
    intro b S k a w F L R h hS hR
    have hn' : ∀ o ∈ ops.toList, ∀ t, o.dst = some t → t < n := fun o ho t ht => by
      have := List.all_eq_true.1 hn o ho
      simpa [ht] using this
    unfold exec at h
    split at h
    · obtain ⟨S', fs, h1, h2⟩ := runK_ok hC (f := fun S' _ => k .normal S') h
      rw [runD_nil] at h1
      simp only [Option.map_eq_some_iff, Prod.mk.injEq] at h1
      obtain ⟨S1, h1, rfl, rfl⟩ := h1
      have := region_ok (id := id) (Q := R) hΓ hS hn' h1 fun a' w' F' L' h' => hR .normal _ _ _ _ _ h2 h'
      simpa using this
    · split at h
      · rename_i hd
        obtain ⟨S', fs, h1, h2⟩ := runK_ok hC (f := fun S' fs => match (pairs ops.toList).all (disj fs) with | true => k .normal S' | false => optAlg.fail) h
        split at h2
        · rename_i hdj
          have := draw_ok (id := id) (Q := R) hm hΓ hS hn' hd h1 hdj fun a' w' F' L' h' => hR .normal _ _ _ _ _ h2 h'
          simpa using this
        · cases h2
      · cases h
  | seq x y ihx ihy =>
    intro b S k a w F L R h hS hR
    simp only [slotsIn, Bool.and_eq_true] at hn
    unfold exec at h
    refine wp_seq (ihx hn.1 h hS fun e S' a' w' F' L' he hS' => ?_)
    cases e with
    | normal =>
      obtain ⟨S2, F2, L2, hS2, h2⟩ := joinK_ok hS' hp he
      exact ihy hn.2 h2 hS2 hR
    | exit j => exact hR (.exit j) _ _ _ _ _ he hS'
    | ret => exact hR .ret _ _ _ _ _ he hS'
  | cond c x y ihx ihy =>
    intro b S k a w F L R h hS hR
    simp only [slotsIn, Bool.and_eq_true] at hn
    unfold exec at h
    split at h
    · rename_i t ht
      have hv := hS.ev c
      rw [ht] at hv
      refine wp_cond_split hv.bool_inv (fun hb => ?_) fun hb => ?_
      · subst hb
        rw [refine_eq ht] at h
        exact ihx hn.1 h hS hR
      · subst hb
        rw [refine_eq ht] at h
        exact ihy hn.2 h hS hR
    · cases h
  | block id c ih =>
    intro b S k a w F L R h hS hR
    unfold exec at h
    refine wp_block (ih hn h hS fun e S' a' w' F' L' he hS' => ?_)
    cases e with
    | normal => exact hR .normal _ _ _ _ _ he hS'
    | exit j =>
      simp only [kBlock] at he
      simp only [AExit.out, Exit.inBlock]
      split at he <;> rename_i hj
      · rw [if_pos (of_decide_eq_true hj)]
        exact hR .normal _ _ _ _ _ he hS'
      · rw [if_neg (of_decide_eq_false hj)]
        exact hR (.exit j) _ _ _ _ _ he hS'
    | ret => exact hR .ret _ _ _ _ _ he hS'
  | loop c ih =>
    intro b S k a w F L R h hS hR
    unfold exec at h
    obtain ⟨S1, F1, L1, hS1, h1⟩ := headK_ok hS hp h
    refine wp_loop_down (fun j a w => ∃ S F L, iter optAlg (exec optAlg P Γ np io an aj N b c) (headK optAlg np io an b) j k S = some r ∧ Sim O S n a w F L) (k := roundsOf an N b) ⟨S1, F1, L1, h1, hS1⟩ fun j a1 w1 hI => ?_
    obtain ⟨S2, F2, L2, h2, hS2⟩ := hI
    cases j with
    | zero => cases h2
    | succ j =>
      refine ih hn h2 hS2 fun e S' a' w' F' L' he hS' => ?_
      cases e with
      | normal =>
        obtain ⟨S3, F3, L3, hS3, h3⟩ := headK_ok hS' hp he
        exact ⟨j, Nat.lt_succ_self _, S3, F3, L3, h3, hS3⟩
      | exit j => exact hR (.exit j) _ _ _ _ _ he hS'
      | ret => exact hR .ret _ _ _ _ _ he hS'
  | exit id => exact fun h hS hR => wp_exit (hR (.exit id) _ _ _ _ _ h hS)
  | ret => exact fun h hS hR => wp_ret (hR .ret _ _ _ _ _ h hS)
  | rangeFunc => intro b S k a w F L R h; cases h
  | scope => intro b S k a w F L R h; cases h
  | label => intro b S k a w F L R h; cases h
  | goto => intro b S k a w F L R h; cases h
  | refuse => intro b S k a w F L R h; cases h

end Go.Proofs.YtdhdhcllgkddnaaGreat.Va

namespace Go.Proofs.YtdhdhcllgkddnaaGreat.Va
open Go Go.RowKit

variable {O : Org} {S S' : St} {n : Nat} {a : Act} {w w' : World} {F F' : Nat → Prop} {L L' : Lay} {P : Program} {Γ : FuncId → Option Con} {m : Nat → RS} {N : Nat} {r : List V × List V}

theorem ioDs_mask : ∀ {modes : List Mode} {xs : List V} {i : Nat}, ioDs i modes (maskIo modes xs) = ioDs i modes xs
  | [], xs, i => by cases xs <;> rfl
  | md :: ms, [], i => by cases md <;> rfl
  | md :: ms, x :: xs, i => by
    have := ioDs_mask (modes := ms) (xs := xs) (i := i + 1)
    cases md with
    | rd sh => simpa [maskIo, ioDs] using this
    | take sz => simpa [maskIo, ioDs] using this
    | ios => simp [maskIo, ioDs, this]
    | io sh =>
      cases x <;> first
        | simp [maskIo, ioDs, this]; done
        | simpa [maskIo, ioDs] using this

theorem lenK_ok : ∀ {modes : List Mode} {xs zs : List V} {x : Ans}, xs.length = modes.length → lenK optAlg modes (maskIo modes xs) zs x = some r → ioLen modes xs zs ∧ x = some r
  | [], [], [], x, _, h => ⟨trivial, h⟩
  | [], [], z :: zs, x, _, h => by cases h
  | [], _ :: _, _, x, hl, h => by simp at hl
  | _ :: _, [], _, x, hl, h => by simp at hl
  | md :: ms, y :: xs, zs, x, hl, h => by
    have hl' : xs.length = ms.length := by simpa using hl
    cases md with
    | rd sh => exact lenK_ok (modes := ms) hl' (by simpa [maskIo, lenK] using h)
    | take sz => exact lenK_ok (modes := ms) hl' (by simpa [maskIo, lenK] using h)
    | ios =>
      simp only [maskIo] at h
      cases y with
      | sl sz els =>
        cases zs with
        | nil => cases h
        | cons z zs =>
          cases z with
          | sl sz' els' =>
            simp only [lenK] at h
            obtain ⟨h2, h⟩ := of_req h
            obtain ⟨h3, h4⟩ := lenK_ok hl' h
            exact ⟨⟨h2.1, h2.2, h3⟩, h4⟩
          | _ => cases h
      | _ => cases h
    | io sh =>
      cases y with
      | agg cs =>
        simp only [maskIo] at h
        cases zs with
        | nil => cases h
        | cons z zs =>
          cases z with
          | agg cs' =>
            simp only [lenK] at h
            obtain ⟨h2, h⟩ := of_req h
            obtain ⟨h3, h4⟩ := lenK_ok hl' h
            exact ⟨⟨by simpa using h2, h3⟩, h4⟩
          | _ => cases h
      | _ => cases h

theorem freshK_ok : ∀ {l : List (Mode × D)} {x : Ans}, freshK optAlg m l x = some r → (∀ p ∈ l, freshD m p.1 p.2) ∧ x = some r
  | [], x, h => ⟨by simp, h⟩
  | (md, d) :: l, x, h => by
    have key : ∀ {q : Prop}, q → (∀ {y : Ans}, freshK optAlg m l x = some r → q → freshD m md d) → freshK optAlg m l x = some r → (∀ p ∈ (md, d) :: l, freshD m p.1 p.2) ∧ x = some r := fun {q} hq hf h => by
      obtain ⟨h1, h2⟩ := freshK_ok h
      refine ⟨fun p hp => ?_, h2⟩
      rcases List.mem_cons.1 hp with rfl | hp
      · exact hf (y := none) h hq
      · exact h1 p hp
    unfold freshK at h
    split at h
    · obtain ⟨h1, h⟩ := of_req h
      exact key h1 (fun _ h => h) h
    · exact key trivial (fun _ _ => trivial) h
    · split at h
      · rename_i hl
        obtain ⟨h1, h⟩ := of_req h
        exact key h1 (fun _ h => by simp only [freshD, RowBare, hl]; exact fun x hx => List.all_eq_true.1 h x hx) h
      · cases h
    · split at h
      · rename_i hl
        obtain ⟨h1, h⟩ := of_req h
        exact key h1 (fun _ h => by simp only [freshD, RowBare, hl]; exact fun x hx => List.all_eq_true.1 h x hx) h
      · cases h
    · split at h
      · rename_i hl
        obtain ⟨h1, h⟩ := of_req h
        exact key h1 (fun _ h => by simp only [freshD, RowBare, hl]; exact fun x hx => List.all_eq_true.1 h x hx) h
      · cases h
    · split at h
      · rename_i hl
        obtain ⟨h1, h⟩ := of_req h
        exact key h1 (fun _ h => by simp only [freshD, BoxBare, hl]; exact h) h
      · cases h
    · cases h

theorem endK_ok {modes : List Mode} {res : List RK} {fresh : Bool} {fn : List V → Option (List V × List V)} {slots : List ResultVar} {xs : List V} {e : AExit} (hl : xs.length = modes.length) (h : endK optAlg P modes res fresh slots (maskIo modes xs) e S = some r) :
    (∀ j, e ≠ .exit j) ∧ Ends P ⟨modes, res, fresh, fn⟩ xs slots r.1 r.2 S := by
  unfold endK at h
  split at h
  · cases h
  · rename_i hne
    refine ⟨hne, ?_⟩
    split at h
    · cases h
    · rename_i ds hds
      obtain ⟨⟨vals, rids, ws, ks⟩, h1, h⟩ := argsK_ok h
      simp only at h
      rw [ioDs_mask] at h1 h
      split at h
      · rename_i hB
        simp only [Bool.and_eq_true, List.all_eq_true, Bool.not_eq_true', List.contains_eq_mem, decide_eq_false_iff_not] at hB
        obtain ⟨hB1, hB2⟩ := hB
        have hfr : (fresh = true → ∀ p ∈ (res.map RK.mode ++ ioModes modes).zip (ds ++ ioDs 0 modes xs), freshD S.m p.1 p.2) ∧
            (optAlg.req ((vals.take res.length).length = res.length) inferInstance <| lenK optAlg modes (maskIo modes xs) (vals.drop res.length) <| optAlg.ret (vals.take res.length) (vals.drop res.length)) = some r := by
          cases fresh with
          | true =>
            obtain ⟨k1, k2⟩ := freshK_ok h
            exact ⟨fun _ => k1, k2⟩
          | false => exact ⟨fun hf => (by cases hf), h⟩
        obtain ⟨k1, k2⟩ := hfr
        obtain ⟨k3, k2⟩ := of_req k2
        obtain ⟨k4, k2⟩ := lenK_ok hl k2
        cases k2
        exact ⟨⟨ds, rids, ws, ks, hds, by simp only [List.take_append_drop]; exact h1, nodupB_ok hB1, hB2, k1⟩, k3, k4⟩
      · cases h

theorem openArg_ok {md : Mode} {cks : List CK} {x : V} {g : V → Ans} (h : openArg optAlg md cks x g = some r) : g x = some r := by
  unfold openArg at h
  split at h
  · exact aggK_ok h
  · split at h
    · exact destr_ok h
    · exact h
theorem openArgs_ok : ∀ {ms : List Mode} {cs : List (List CK)} {i : Nat} {xs : List V} {g : List V → Ans}, openArgs optAlg ms cs i xs g = some r → i + ms.length = xs.length → g (xs.drop i) = some r
  | [], _, i, xs, f, h, hl => by rw [List.drop_eq_nil_of_le (by simp at hl; omega)]; exact h
  | k :: ks, cs, i, xs, f, h, hl => by
    obtain ⟨y, h1, h2⟩ := of_bind h
    have h3 := openArgs_ok (openArg_ok h2) (by simp at hl; omega)
    obtain ⟨hi, he⟩ := List.getElem?_eq_some_iff.1 h1
    rw [List.drop_eq_getElem_cons hi, he]
    exact h3

theorem init_pins {F : Nat → Prop} {modes : List Mode} {xs : List V} {vs : List Value} {M : List Nat} (hx : xs.length = modes.length) (hv : vs.length = modes.length) : PinsNp ⟨w, F, M, (ioDs 0 modes xs).zip (ioVals modes vs)⟩ modes.length := fun p hp => by
  obtain ⟨i, v, h1, h2, h3⟩ := mem_pins hp hx hv
  have hi : i < modes.length := by rw [← hv]; exact (List.getElem?_eq_some_iff.1 h1).1
  rcases h3 with ⟨sh, x, h4, h5, h6⟩ | ⟨x, h4, h5, h6⟩
  · exact .inl ⟨i, by rw [h6, Nat.zero_add], hi⟩
  · exact .inr ⟨i, x.len, by rw [h6, Nat.zero_add], hi⟩

/-- The rule for a function. -/
theorem sound_fun {f : FuncId} {fn : Func} {u : Fun} {nt : Nat} (hm : P.follows .mixedOrders = true) (hC : ConstOk Γ) (hΓ : ∀ f s, specs Γ f = some s → Sound P f s) (hf : P.funcs[f]? = some fn) (hb : fn.body = some u.body) (hname : (fn.name != "runtime.NumGoroutine") = true)
    (hnt : fn.ntmps = nt) (hres : fn.results.toList = u.slots) (hin : slotsIn nt u.body = true) (hmodes : u.modes.length ≤ nt) (hsl : u.slots.length = u.res.length) : Sound P f (u.spec P Γ N) := by
  refine ⟨by simp [callOk, hf, hname, hb], fun xs rs zs hfn w F vals M T hF hM hn ha => ?_⟩
  obtain ⟨hx0, hv0⟩ := ha.lens
  subst hnt
  have hsim := init_sim ha hn hM hF hmodes
  refine calls_of_wp hf hb ?_
  simp only [Fun.spec] at hfn ha hsim hx0 hv0
  unfold Fun.run at hfn
  obtain ⟨_, hfn⟩ := of_req hfn
  have hfn := openArgs_ok hfn (by simpa using hx0.symm)
  simp only [List.drop_zero] at hfn
  refine exec_ok (r := (rs, zs)) hm hC hΓ (init_pins hx0 hv0) hin hfn hsim fun e S' a' w' F' L' he hS => ?_
  have he := endK_ok (fn := u.run optAlg P Γ N) hx0 he
  have fin : bodyPost P fn (fun e w' => ∃ (vs : List Value) (F' : Nat → Prop), e = .returned (packV vs) ∧ w'.os = w.os ∧ w'.tape = w.tape ∧ w'.output = w.output ∧ w.heap.size ≤ w'.heap.size ∧
      (∀ b, b < w.heap.size → b ∉ M → w'.heap[b]? = w.heap[b]?) ∧ (∀ b, F b → F' b) ∧ (∀ b, F' b → b < w.heap.size → b ∉ T → F b) ∧ (∀ b, F' b → b < w'.heap.size) ∧
      IosOk w' F' u.modes xs vals zs ∧ ResOk w' F' (fun b => w.heap.size ≤ b ∨ b ∈ T) u.res rs vs ∧
      (u.fresh = true → ∀ F2 : Nat → Prop, (∀ b, F' b → (w.heap.size ≤ b ∨ b ∈ T) → F2 b) → (∀ b, F2 b → F' b) → IosOk w' F2 u.modes xs vals zs ∧ ResOk w' F2 (fun b => w.heap.size ≤ b ∨ b ∈ T) u.res rs vs)) .ret a' w' := by
    obtain ⟨vs, F3, k1, k⟩ := end_ok (s := ⟨u.modes, u.res, u.fresh, u.run optAlg P Γ N⟩) ha hsl hres hS he.2
    exact ⟨hS.defers, _, k1, vs, F3, rfl, k⟩
  cases e with
  | normal => exact fin
  | exit k => exact absurd rfl (he.1 k)
  | ret => exact fin

end Go.Proofs.YtdhdhcllgkddnaaGreat.Va

namespace Go.Proofs.YtdhdhcllgkddnaaGreat.Va
open Go Go.RowKit

def conTab : List (Nat × Con) → FuncId → Option Con
  | [], _ => none
  | (g, c) :: l, f => match decide (f = g) with | true => some c | false => conTab l f
theorem conTab_ok {P : Program} : ∀ {l : List (Nat × Con)}, (∀ p ∈ l, Sound P p.1 p.2.spec) → ∀ f s, specs (conTab l) f = some s → Sound P f s
  | [], _, f, s, h => by simp [conTab, specs] at h
  | (g, t) :: r, hl, f, s, h => by
    unfold specs conTab at h
    split at h
    · rename_i e
      have e := of_decide_eq_true e
      subst e
      simp only [Option.map_some, Option.some.injEq] at h
      subst h
      exact hl (f, t) (by simp)
    · exact conTab_ok (fun p hp => hl p (List.mem_cons_of_mem _ hp)) f s h

theorem const_nil : ConstOk (conTab []) := fun f c ys h => by cases h
theorem const_cons {l : List (Nat × Con)} {g : Nat} {c : Con} (hc : ∀ ys, c.const = some ys → ∀ xs p, c.spec.fn xs = some p → p.1 = ys) (hl : ConstOk (conTab l)) : ConstOk (conTab ((g, c) :: l)) := fun f c' ys h h' => by
  unfold conTab at h
  split at h
  · cases h; exact hc ys h'
  · exact hl f c' ys h h'
theorem const_none {c : Con} (h : c.const = none) : ∀ ys, c.const = some ys → ∀ xs p, c.spec.fn xs = some p → p.1 = ys := fun ys h' => by rw [h] at h'; cases h'

/-- Rounds enough for every loop. -/
@[irreducible] def N0 : Nat := 18446744073709551616
/-- No function. -/
def noG : Nat → List V → Ans := fun _ _ => none

end Go.Proofs.YtdhdhcllgkddnaaGreat.Va

namespace Go.Proofs.YtdhdhcllgkddnaaGreat.Va
open Go Go.RowKit

theorem rd1_inv {w : World} {F : Nat → Prop} {sh : List (Option Nat)} {x : V} {vals : List Value} {M T : List Nat} (h : ArgsOk w F [.rd sh] [x] vals M T) : ∃ v, vals = [v] ∧ RV w F x v ∧ M = [] ∧ T = [] := by
  cases h with
  | rd h hs => cases hs; exact ⟨_, rfl, h, rfl, rfl⟩

theorem iosRd {w : World} {F : Nat → Prop} {sh sh' : List (Option Nat)} {x x' : V} {vals : List Value} {zs : List V} (h : IosOk w F [.rd sh] [x] vals zs) : IosOk w F [.rd sh'] [x'] vals zs := by
  cases h with
  | rd hs => cases hs; exact .rd .nil

/-- One slice as the argument. -/
theorem sound_split {P : Program} {f : FuncId} {sz : Nat} {res : List RK} {fresh : Bool} {fn0 fn1 : List V → Ans} (h : Sound P f ⟨[.rd []], res, fresh, fn0⟩)
    (h0 : ∀ r, fn1 [.sl sz []] = some r → fn0 [.nil] = some r ∧ fn0 [.ne sz] = some r) (h1 : ∀ xs r, xs ≠ [] → fn1 [.sl sz xs] = some r → fn0 [.sl sz xs] = some r)
    (h2 : ∀ xs r, fn1 xs = some r → ∃ l, xs = [.sl sz l]) : Sound P f ⟨[.rd [some sz]], res, fresh, fn1⟩ := by
  refine ⟨h.1, fun xs rs zs hfn w F vals M T hF hM hn ha => ?_⟩
  simp only at hfn ha ⊢
  obtain ⟨l, rfl⟩ := h2 xs _ hfn
  obtain ⟨v, rfl, hv, rfl, rfl⟩ := rd1_inv ha
  have key : ∀ x, fn0 [x] = some (rs, zs) → RV w F x v → Calls P f [v].toArray w fun e w' => ∃ (vs : List Value) (F' : Nat → Prop), e = .returned (packV vs) ∧ w'.os = w.os ∧ w'.tape = w.tape ∧ w'.output = w.output ∧ w.heap.size ≤ w'.heap.size ∧
      (∀ b, b < w.heap.size → b ∉ ([] : List Nat) → w'.heap[b]? = w.heap[b]?) ∧ (∀ b, F b → F' b) ∧ (∀ b, F' b → b < w.heap.size → b ∉ ([] : List Nat) → F b) ∧ (∀ b, F' b → b < w'.heap.size) ∧
      IosOk w' F' [.rd [some sz]] [.sl sz l] [v] zs ∧ ResOk w' F' (fun b => w.heap.size ≤ b ∨ b ∈ ([] : List Nat)) res rs vs ∧
      (fresh = true → ∀ F2 : Nat → Prop, (∀ b, F' b → (w.heap.size ≤ b ∨ b ∈ ([] : List Nat)) → F2 b) → (∀ b, F2 b → F' b) → IosOk w' F2 [.rd [some sz]] [.sl sz l] [v] zs ∧ ResOk w' F2 (fun b => w.heap.size ≤ b ∨ b ∈ ([] : List Nat)) res rs vs) := by
    intro x hx hr
    refine (h.2 [x] rs zs hx w F [v] [] [] hF hM hn (.rd hr .nil)).mono fun e w' he => ?_
    obtain ⟨vs, F', e1, e2, e3, e4, e5, e6, e7, e8, e9, e10, e11, e12⟩ := he
    exact ⟨vs, F', e1, e2, e3, e4, e5, e6, e7, e8, e9, iosRd e10, e11, fun hf F2 k1 k2 => by
      obtain ⟨k3, k4⟩ := e12 hf F2 k1 k2
      exact ⟨iosRd k3, k4⟩⟩
  by_cases hl : l = []
  · subst hl
    obtain ⟨g1, g2⟩ := h0 _ hfn
    generalize hx : V.sl sz [] = x at hv
    cases hv with
    | sl0 => cases hx; exact key .nil g1 .nil
    | sl sz' xs ad cap u hF' hcap hmax hsz hc hone hr =>
      cases hx
      exact key (.ne sz) g2 (.ne sz ad cap hmax)
    | raw v h1 => cases hx
    | _ => cases hx
  · exact key _ (h1 l _ hl hfn) hv

end Go.Proofs.YtdhdhcllgkddnaaGreat.Va
