/- A function's operations in a short form (types resolved), and what each does to abstract values. -/
import Derived.Test.YtjankibepgnbfaaGreatDoorPBackPlainAb2
import Derived.ArgAppend
import Derived.Laws.Tables
import Derived.Laws.IdiomCopy
import Derived.Laws.Slices
import Derived.Laws.StructEq
set_option linter.unusedVariables false
namespace Go.Ab

inductive X where
  | t (n : Nat)
  | c (x : AV)

def X.ev (F : Nat → AV) : X → AV
  | .t n => F n
  | .c x => x

inductive KC where
  | int | str | bool
  deriving DecidableEq

inductive Cls where
  | none | bool | ptr | slice | func | flat (ks : List KC)
  deriving DecidableEq

inductive IOp where
  | mov (x : X)
  | pick (c a b : X)
  | box (ty : TypeId) (x : X)
  | bld (zero : List AV) (ps : List (Nat × Nat × X))
  | row (ety : TypeId) (sz : Nat) (xs : List X)
  | ld (n : Option Nat) (x : X)
  | st (n : Nat) (x v : X)
  | fa (off : Nat) (x : X)
  | fld (off : Nat) (n : Option Nat) (x : X)
  | ia (sz : Nat) (x i : X)
  | iar (len sz : Nat) (x i : X)
  | ixs (x i : X)
  | ixa (len sz : Nat) (n : Option Nat) (x i : X)
  | bin (op : BinOp) (cls : Cls) (x y : X)
  | un (op : UnOp) (x : X)
  | cvi (k : IntKind) (x : X)
  | b2s (x : X)
  | s2b (ety : TypeId) (x : X)
  | cid (x : X)
  | mkf (f : Fn) (first caps : List X)
  | mkm
  | ins (kc : KC) (x k v : X)
  | lkp (kc : KC) (zero : AV) (ok : Bool) (x k : X)
  | sls (x : X) (lo hi : Option X)
  | sll (sz : Nat) (x : X) (lo hi mx : Option X)
  | len (x : X)
  | lns (x : X)
  | app (ety : TypeId) (sz bytes : Nat) (x y : X)
  | aps (ety : TypeId) (x y : X)
  | mm (isMin : Bool) (x y : X)
  | ext (x : X) (i : Nat)
  | nck (x : X)
  | rng (x : X)
  | nxt (x : X)
  | cvs (x : X)
  | mks (ety : TypeId) (bytes : Nat) (z : AV) (x : X)
  | mkc (ety : TypeId) (sz bytes : Nat) (x : X)
  | mkr (ety : TypeId) (bytes : Nat) (z : AV) (x : X)
  | call (f : X) (args : List X)

def X.cst : X → Bool
  | .c (.int _ _) => true
  | _ => false

/-! ### Constants -/
def ofV1 : Value → AV
  | .int k n => .int k n
  | .bool b => .bool b
  | .string s => .str s.data.toList
  | .pointer none => .nilp
  | .slice none 0 0 => .nils
  | .nilFunc => .nilf
  | v => .raw v
def ofV : Value → AV
  | .agg cs => .agg (cs.toList.map ofV1)
  | v => ofV1 v

theorem rep_ofV1 (g : Gh) (v : Value) : Rep g (ofV1 v) v := by
  unfold ofV1
  split <;> first | rfl | exact trivial
theorem repL_ofV1 (g : Gh) : ∀ vs : List Value, RepL g (vs.map ofV1) vs
  | [] => rfl
  | v :: vs => ⟨v, vs, rfl, rep_ofV1 g v, repL_ofV1 g vs⟩
theorem rep_ofV (g : Gh) (v : Value) : Rep g (ofV v) v := by
  unfold ofV
  split
  · exact ⟨_, rfl, repL_ofV1 g _⟩
  · exact rep_ofV1 g _

def compX : Operand → Option X
  | .tmp t => some (.t t)
  | .const v => some (.c (ofV v))
  | .func f => some (.c (.fn (.func f) [] []))
  | .global _ => none

def FOK (g : Gh) (F : Nat → AV) (a : Act) : Prop := ∀ t, Rep g (F t) (a.tmps.getD t undef)

theorem rep_compX {g : Gh} {F : Nat → AV} {a : Act} (hF : FOK g F a) {x : Operand} {y : X} (h : compX x = some y) : Rep g (y.ev F) (a.eval x) := by
  cases x with
  | tmp t => cases h; exact hF t
  | const v => cases h; exact rep_ofV g v
  | func f => cases h; exact ⟨#[], #[], rfl, rfl, rfl⟩
  | global _ => cases h

def compXs : List Operand → Option (List X)
  | [] => some []
  | x :: xs => match compX x, compXs xs with
    | some y, some ys => some (y :: ys)
    | _, _ => none
theorem rep_compXs {g : Gh} {F : Nat → AV} {a : Act} (hF : FOK g F a) : ∀ {xs : List Operand} {ys : List X}, compXs xs = some ys → RepL g (ys.map (X.ev F)) (xs.map a.eval)
  | [], _, h => by cases h; exact rfl
  | x :: xs, _, h => by
    unfold compXs at h
    split at h
    · rename_i y ys h1 h2; cases h; exact ⟨_, _, rfl, rep_compX hF h1, rep_compXs hF h2⟩
    · cases h

def compO : Option Operand → Option (Option X)
  | none => some none
  | some x => (compX x).map some

def aggOf (P : Program) (t : TypeId) : Option (Option Nat) :=
  match P.underlying t, P.info? t with
  | some (.struct _), some i | some (.array ..), some i => some (some i.size)
  | some _, some _ => some none
  | _, _ => none

def flatK (P : Program) (t : TypeId) : Option KC := match P.underlying t with
  | some .bool => some .bool
  | some (.int _) => some .int
  | some .string => some .str
  | _ => none
def flatKs (P : Program) : List Field → Nat → Option (List KC)
  | [], _ => some []
  | f :: fs, i => if f.name != "_" && f.offset == i then match flatK P f.type, flatKs P fs (i + 1) with
      | some k, some ks => some (k :: ks)
      | _, _ => none
    else none
def clsOf (P : Program) (t : TypeId) : Cls :=
  match P.underlying t with
  | some (.struct fs) => match flatKs P fs.toList 0 with
    | some ks => if P.stoodInHeld t || P.eqGuardType P.depth t then .none else .flat ks
    | none => .none
  | some .bool => .bool
  | some (.pointer _) => .ptr
  | some (.slice _) => .slice
  | some (.func ..) => .func
  | _ => .none

def compParts (places : List (Nat × Nat)) : List (Nat × Operand) → Option (List (Nat × Nat × X))
  | [] => some []
  | (i, x) :: ps => match places[i]?, compX x, compParts places ps with
    | some f, some y, some rest => some ((f.1, f.2, y) :: rest)
    | _, _, _ => none

def isU8 (P : Program) (e : TypeId) : Bool := match P.underlying e with
  | some (.int .u8) => true
  | _ => false

def kcOf (P : Program) (t : TypeId) : Option KC := match P.underlying t with
  | some (.int _) => some .int
  | some .string => some .str
  | some .bool => some .bool
  | _ => none

def sameX : Operand → Operand → Bool
  | .tmp a, .tmp b => a == b
  | .const (.int _ a), .const (.int _ b) => a == b
  | _, _ => false
def zeroX : Operand → Bool
  | .const (.int _ a) => a == 0
  | _ => false

def compOp (P : Program) (o : Oper) : Option IOp :=
  match o.op with
  | .move x | .assign x => (compX x).map .mov
  | .pick c a b => match compX c, compX a, compX b with
    | some c, some a, some b => some (.pick c a b)
    | _, _, _ => none
  | .alloc t => match P.info? t with
    | some i => match i.zero with
      | some z => some (.box t (.c (ofV z)))
      | none => none
    | none => none
  | .box t x => (compX x).map (.box t)
  | .build t ps => match P.underlying t, P.info? t with
    | some (.struct fields), some i => match i.zero, fields.toList.mapM (fun f => (P.info? f.type).map fun i => (f.offset, i.size)) with
      | some z, some places => match compParts places ps.toList with
        | some qs => some (.bld (z.cells.toList.map ofV1) qs)
        | none => none
      | _, _ => none
    | some (.array n e), some i => match i.zero, P.info? e with
      | some z, some ie => match compParts ((List.range n).map fun k => (k * ie.size, ie.size)) ps.toList with
        | some qs => some (.bld (z.cells.toList.map ofV1) qs)
        | none => none
      | _, _ => none
    | _, _ => none
  | .buildSlice t n ps => match P.underlying t with
    | some (.slice e) => match P.info? e with
      | some i => match i.zero, compXs (ps.toList.map (·.2)) with
        | some z, some xs => if ps.toList.map (·.1) = List.range n ∧ z.cells.size = i.size ∧ 0 < i.size ∧ n * i.size ≤ 16777216 then some (.row e i.size xs) else none
        | _, _ => none
      | none => none
    | _ => none
  | .load t x => match aggOf P t, compX x with
    | some n, some y => some (.ld n y)
    | _, _ => none
  | .store t x v => match P.info? t, compX x, compX v with
    | some i, some y, some u => some (.st i.size y u)
    | _, _, _ => none
  | .fieldAddr s x f => match P.underlying s, compX x with
    | some (.struct fields), some y => match fields[f]? with
      | some fd => match P.info? fd.type with
        | some i => if i.size = 0 then none else some (.fa fd.offset y)
        | none => none
      | none => none
    | _, _ => none
  | .field s x f => match P.underlying s, compX x with
    | some (.struct fields), some y => match fields[f]? with
      | some fd => match aggOf P fd.type with
        | some n => some (.fld fd.offset n y)
        | none => none
      | none => none
    | _, _ => none
  | .indexAddr t x i => match P.underlying t, compX x, compX i with
    | some (.slice e), some y, some j => match P.info? e with
      | some inf => some (.ia inf.size y j)
      | none => none
    | some (.array n e), some y, some j => match P.info? e with
      | some inf => some (.iar n inf.size y j)
      | none => none
    | _, _, _ => none
  | .index t x i => match P.underlying t, compX x, compX i with
    | some .string, some y, some j => some (.ixs y j)
    | some (.array n e), some y, some j => match P.info? e, aggOf P e with
      | some inf, some m => some (.ixa n inf.size m y j)
      | _, _ => none
    | _, _, _ => none
  | .binOp op t x y _ => match compX x, compX y with
    | some x, some y => some (.bin op (clsOf P t) x y)
    | _, _ => none
  | .unOp op _ x => (compX x).map (.un op)
  | .convert s d x => match P.underlying s, P.underlying d, compX x with
    | some (.int _), some (.int k), some y => some (.cvi k y)
    | some (.slice e), some .string, some y => if isU8 P e then some (.b2s y) else none
    | some .string, some (.slice e), some y => if isU8 P e then some (.s2b e y) else none
    | some .string, some .string, some y => some (.cid y)
    | some (.slice _), some (.slice e), some y => if isU8 P e = true ∧ s = d then some (.cvs y) else none
    | _, _, _ => none
  | .makeFunc f first caps => match compXs first.toList, compXs caps.toList with
    | some a, some b => some (.mkf f a b)
    | _, _ => none
  | .makeMap _ none => some .mkm
  | .makeMap t (some (.const (.int _ _))) => match P.underlying t with
    | some (.map ..) => some .mkm
    | _ => none
  | .insert t m k v | .mapUpdate t m k v => match P.underlying t, compX m, compX k, compX v with
    | some (.map kt _), some m, some k, some v => match kcOf P kt with
      | some kc => some (.ins kc m k v)
      | none => none
    | _, _, _, _ => none
  | .lookup t m k ok => match P.underlying t, compX m, compX k with
    | some (.map kt e), some m, some k => match kcOf P kt, P.info? e with
      | some kc, some i => match i.zero with
        | some z => some (.lkp kc (ofV z) ok m k)
        | none => none
      | _, _ => none
    | _, _, _ => none
  | .slice t x lo hi mx => match P.underlying t, compX x, compO lo, compO hi, compO mx with
    | some .string, some y, some lo, some hi, some none => some (.sls y lo hi)
    | some (.slice e), some y, some lo, some hi, some mx => match P.info? e with
      | some i => if mx.isSome = true → hi.isSome = true then some (.sll i.size y lo hi mx) else none
      | none => none
    | _, _, _, _, _ => none
  | .makeSlice t l c => match P.underlying t with
    | some (.slice e) => match P.info? e with
      | some i => match i.zero, compX c with
        | some z, some y => if z.cells.size = i.size ∧ i.size = 1 ∧ 0 < i.bytes then if sameX l c = true then some (if y.cst = true then .mkr e i.bytes (.agg (z.cells.toList.map ofV1)) y else .mks e i.bytes (.agg (z.cells.toList.map ofV1)) y) else if zeroX l = true then some (.mkc e i.size i.bytes y) else none else none
        | _, _ => none
      | none => none
    | _ => none
  | .extract x i => (compX x).map (.ext · i)
  | .nilCheck x => (compX x).map .nck
  | .range t x => match P.underlying t, compX x with
    | some .string, some y => some (.rng y)
    | _, _ => none
  | .next x true => (compX x).map .nxt
  | .call c => match c.callee with
    | .value f => match compX f, compXs c.args.toList with
      | some f, some xs => some (.call f xs)
      | _, _ => none
    | .builtin .len => match c.args.toList, c.argTypes.toList with
      | [x], [t] => match P.underlying t, compX x with
        | some .string, some y => some (.lns y)
        | some (.slice _), some y => some (.len y)
        | some (.array n _), _ => some (.mov (.c (.int .i64 n)))
        | _, _ => none
      | _, _ => none
    | .builtin .append => match c.args.toList, c.argTypes.toList with
      | [x, y], [t, u] => match P.underlying t, P.underlying u, compX x, compX y with
        | some (.slice e), some (.slice _), some x, some y => match P.info? e with
          | some i => match i.zero with
            | some z => if z.cells.size = i.size ∧ 0 < i.size ∧ 0 < i.bytes ∧ u = t then some (.app e i.size i.bytes x y) else none
            | none => none
          | none => none
        | some (.slice e), some .string, some x, some y => match P.info? e with
          | some i => match i.zero with
            | some (.int .u8 0) => if i.size = 1 ∧ i.bytes = 1 then some (.aps e x y) else none
            | _ => none
          | none => none
        | _, _, _, _ => none
      | _, _ => none
    | .builtin .min => match c.args.toList with
      | [x, y] => match compX x, compX y with
        | some x, some y => some (.mm true x y)
        | _, _ => none
      | _ => none
    | .builtin .max => match c.args.toList with
      | [x, y] => match compX x, compX y with
        | some x, some y => some (.mm false x y)
        | _, _ => none
      | _ => none
    | _ => none
  | _ => none

/-! ### What an operation does -/
inductive Eff where
  | no
  | blk (hb : HB)
  | own
  | app (t : Option Nm)
  | set (id : Nm) (hb : HB)
  | eat (t : Nm)

def Eff.H (nm : Nm) (H : Hp) : Eff → Hp
  | .blk hb => (nm, hb) :: H
  | .set id hb => setH H id hb
  | _ => H
def Eff.T (nm : Nm) (T : Tk) : Eff → Tk
  | .own => fun s => s = nm ∨ T s
  | .app none => fun s => s = nm ∨ T s
  | .app (some t) => fun s => s = nm ∨ (T s ∧ s ≠ t)
  | .eat t => fun s => T s ∧ s ≠ t
  | _ => T

structure SR where
  pre : Prop
  v : AV
  e : Eff

def bytesAV (s : List UInt8) : List (List AV) := s.map fun c => [AV.int .u8 (c.toNat : Int)]
def isByte : List AV → Prop
  | [.int .u8 n] => 0 ≤ n ∧ n < 256
  | _ => False
def unbyte : List AV → UInt8
  | [.int .u8 n] => UInt8.ofNat n.toNat
  | _ => 0

def intOp (op : BinOp) (k : IntKind) (a b : Int) : Option (Prop × AV) :=
  match op with
  | .add => some (True, .int k (k.wrap (a + b)))
  | .sub => some (True, .int k (k.wrap (a - b)))
  | .mul => some (True, .int k (k.wrap (a * b)))
  | .quo => some (b ≠ 0, .int k (k.wrap (a.tdiv b)))
  | .rem => some (b ≠ 0, .int k (a.tmod b))
  | .and => some (True, .int k (bits .and k a b))
  | .or => some (True, .int k (bits .or k a b))
  | .xor => some (True, .int k (bits .xor k a b))
  | .andNot => some (True, .int k (bits .andNot k a b))
  | .eql => some (True, .bool (a == b))
  | .neq => some (True, .bool (a != b))
  | .lss => some (True, .bool (decide (a < b)))
  | .leq => some (True, .bool (decide (a ≤ b)))
  | .gtr => some (True, .bool (decide (a > b)))
  | .geq => some (True, .bool (decide (a ≥ b)))
  | .shl | .shr => none

def shOp (op : BinOp) (k : IntKind) (a b : Int) : Option (Prop × AV) :=
  match op with
  | .shl => some (0 ≤ b ∧ b ≤ k.bits, .int k (k.wrap (a * 2 ^ b.toNat)))
  | .shr => some (0 ≤ b ∧ b ≤ k.bits, .int k (a / 2 ^ b.toNat))
  | _ => none

def eqCells : List KC → List AV → List AV → Bool → Option Bool
  | [], [], [], r => some r
  | .int :: ks, .int k a :: xs, .int k' b :: ys, r => if k = k' then eqCells ks xs ys (r && (a == b)) else none
  | .bool :: ks, .bool a :: xs, .bool b :: ys, r => eqCells ks xs ys (r && (a == b))
  | .str :: ks, .str a :: xs, .str b :: ys, r => eqCells ks xs ys (r && decide (a = b))
  | _, _, _, _ => none
def Cls.eqs : Cls → List AV → List AV → Option Bool
  | .flat ks, xs, ys => eqCells ks xs ys true
  | _, _, _ => Option.none
def eqRes (op : BinOp) : Option Bool → Option (Prop × AV)
  | some b => match op with
    | .eql => some (True, .bool b)
    | .neq => some (True, .bool (!b))
    | _ => none
  | none => none
def binStep (op : BinOp) (cls : Cls) : AV → AV → Option (Prop × AV)
  | .int k a, .int k' b => if op = .shl ∨ op = .shr then shOp op k a b else if k = k' then intOp op k a b else none
  | .str a, .str b => match op with
    | .add => some (a.length + b.length ≤ 9223372036854775807, .str (a ++ b))
    | .eql => some (True, .bool (decide (a = b)))
    | .neq => some (True, .bool (!decide (a = b)))
    | _ => none
  | .bool a, .bool b => if cls = .bool then match op with
      | .eql => some (True, .bool (a == b))
      | .neq => some (True, .bool (!(a == b)))
      | _ => none
    else none
  | .nilp, .nilp => if cls = .ptr then match op with
      | .eql => some (True, .bool true)
      | .neq => some (True, .bool false)
      | _ => none
    else none
  | .ptr _ _, .nilp | .el _, .nilp | .nilp, .ptr _ _ | .nilp, .el _ => if cls = .ptr then match op with
      | .eql => some (True, .bool false)
      | .neq => some (True, .bool true)
      | _ => none
    else none
  | .nils, .nils => if cls = .slice then match op with
      | .eql => some (True, .bool true)
      | .neq => some (True, .bool false)
      | _ => none
    else none
  | .sl _ _ rows, .nils => if cls = .slice then match op with
      | .eql => some (rows ≠ [], .bool false)
      | .neq => some (rows ≠ [], .bool true)
      | _ => none
    else none
  | .nilf, .nilf => if cls = .func then match op with
      | .eql => some (True, .bool true)
      | .neq => some (True, .bool false)
      | _ => none
    else none
  | .fn .., .nilf => if cls = .func then match op with
      | .eql => some (True, .bool false)
      | .neq => some (True, .bool true)
      | _ => none
    else none
  | .agg xs, .agg ys => eqRes op (cls.eqs xs ys)
  | .slr .., .nils => if cls = .slice then match op with
      | .eql => some (True, .bool false)
      | .neq => some (True, .bool true)
      | _ => none
    else none
  | _, _ => none

def keyEq : KC → AV → AV → Option Bool
  | .int, .int k a, .int k' b => if k = k' then some (a == b) else none
  | .str, .str a, .str b => some (decide (a = b))
  | .bool, .bool a, .bool b => some (a == b)
  | _, _, _ => none
def findE (kc : KC) (k : AV) : List (AV × AV) → Option (Option AV)
  | [] => some none
  | e :: es => match keyEq kc k e.1 with
    | some true => some (some e.2)
    | some false => findE kc k es
    | none => none
def isKey : KC → AV → Bool
  | .int, .int .. => true
  | .str, .str _ => true
  | .bool, .bool _ => true
  | _, _ => false

def fillA : List AV → List (Nat × Nat × AV) → Option (List AV)
  | cells, [] => some cells
  | cells, (off, size, x) :: ps => if x.cells.length = size ∧ off + size ≤ cells.length then fillA (cells.take off ++ x.cells ++ cells.drop (off + size)) ps else none

def loX (F : Nat → AV) : Option X → Option Int
  | none => some 0
  | some x => match x.ev F with
    | .int _ n => some n
    | _ => none
def hiX (F : Nat → AV) (len : Nat) : Option X → Option Int
  | none => some (len : Int)
  | some x => match x.ev F with
    | .int _ n => some n
    | _ => none

def aggv (n : Option Nat) (cs : List AV) : Option (Prop × AV) :=
  match n with
  | some m => some (m ≤ cs.length, .agg (cs.take m))
  | none => match cs with
    | c :: _ => some (True, c)
    | [] => none

def oneL (xs : List AV) : Prop := ∀ x ∈ xs, x.one = true

def step (io : IOp) (F : Nat → AV) (H : Hp) (T : Tk) (nm : Nm) : Option SR :=
  match io with
  | .mov x => some ⟨True, x.ev F, .no⟩
  | .pick c a b => match c.ev F with
    | .bool t => some ⟨True, if t then a.ev F else b.ev F, .no⟩
    | _ => none
  | .box _ x => some ⟨oneL (x.ev F).cells, .ptr nm 0, .blk (.cells (x.ev F).cells)⟩
  | .bld zero ps => match fillA zero (ps.map fun p => (p.1, p.2.1, p.2.2.ev F)) with
    | some cs => some ⟨∀ p ∈ ps, oneL (p.2.2.ev F).cells, .agg cs, .no⟩
    | none => none
  | .row _ sz xs => some ⟨∀ x ∈ xs.map (fun x => AV.stripL (x.ev F).cells), x.length = sz ∧ AV.closedL x = true, .sl (some nm) sz (xs.map fun x => AV.stripL (x.ev F).cells), .own⟩
  | .ld n x => match x.ev F with
    | .el cs => match aggv n cs with
      | some (p, v) => some ⟨p, v, .no⟩
      | none => none
    | .ptr id off => match getH H id with
      | some (.cells cs) => match aggv n (cs.drop off) with
        | some (p, v) => some ⟨p, v, .no⟩
        | none => none
      | _ => none
    | _ => none
  | .st n x v => match x.ev F with
    | .ptr id off => match getH H id with
      | some (.cells cs) => some ⟨(v.ev F).cells.length = n ∧ off + n ≤ cs.length ∧ oneL (v.ev F).cells, .und, .set id (.cells (cs.take off ++ (v.ev F).cells ++ cs.drop (off + n)))⟩
      | _ => none
    | _ => none
  | .fa off x => match x.ev F with
    | .ptr id o => some ⟨True, .ptr id (o + off), .no⟩
    | .el cs => some ⟨True, .el (cs.drop off), .no⟩
    | _ => none
  | .fld off n x => match x.ev F with
    | .agg cs => match aggv n (cs.drop off) with
      | some (p, v) => some ⟨p, v, .no⟩
      | none => none
    | _ => none
  | .ia sz x i => match x.ev F, i.ev F with
    | .sl _ sz' rows, .int _ j => some ⟨sz' = sz ∧ 0 ≤ j ∧ j < rows.length, .el (rows.getD j.toNat []), .no⟩
    | .ms id sz' n, .int _ j => some ⟨sz' = sz ∧ 0 ≤ j ∧ j < n, .ptr id (j.toNat * sz), .no⟩
    | .slr _ sz' rows, .int _ j => some ⟨sz' = sz ∧ 0 ≤ j ∧ j < rows.length, .el (rows.getD j.toNat []), .no⟩
    | _, _ => none
  | .iar len sz x i => match x.ev F, i.ev F with
    | .ptr id o, .int _ j => some ⟨0 ≤ j ∧ j < len, .ptr id (o + j.toNat * sz), .no⟩
    | _, _ => none
  | .ixs x i => match x.ev F, i.ev F with
    | .str s, .int _ j => some ⟨0 ≤ j ∧ j < s.length, .int .u8 ((s.getD j.toNat 0).toNat : Int), .no⟩
    | _, _ => none
  | .ixa len sz n x i => match x.ev F, i.ev F with
    | .agg cs, .int _ j => match aggv n (cs.drop (j.toNat * sz)) with
      | some (p, v) => some ⟨0 ≤ j ∧ j < len ∧ p, v, .no⟩
      | none => none
    | _, _ => none
  | .bin op cls x y => match binStep op cls (x.ev F) (y.ev F) with
    | some (p, v) => some ⟨p, v, .no⟩
    | none => none
  | .un op x => match op, x.ev F with
    | .not, .bool b => some ⟨True, .bool (!b), .no⟩
    | .neg, .int k n => some ⟨True, .int k (k.wrap (0 - n)), .no⟩
    | _, _ => none
  | .cvi k x => match x.ev F with
    | .int _ n => some ⟨True, .int k (k.wrap n), .no⟩
    | _ => none
  | .b2s x => match x.ev F with
    | .nils => some ⟨True, .str [], .no⟩
    | .sl _ sz rows => some ⟨sz = 1 ∧ ∀ r ∈ rows, isByte r, .str (rows.map unbyte), .no⟩
    | .slr _ sz rows => some ⟨sz = 1 ∧ ∀ r ∈ rows, isByte r, .str (rows.map unbyte), .no⟩
    | _ => none
  | .s2b _ x => match x.ev F with
    | .str s => some ⟨s.length ≤ maxLen, .sl none 1 (bytesAV s), .no⟩
    | _ => none
  | .cid x => match x.ev F with
    | .str s => some ⟨True, .str s, .no⟩
    | _ => none
  | .mkf f first caps => some ⟨True, .fn f (first.map (X.ev F)) (caps.map (X.ev F)), .no⟩
  | .mkm => some ⟨True, .mp nm, .blk (.mapp [])⟩
  | .ins kc x k v => match x.ev F with
    | .mp id => match getH H id with
      | some (.mapp es) => match findE kc (k.ev F) es with
        | some none => some ⟨isKey kc (k.ev F) = true, .und, .set id (.mapp (es ++ [(k.ev F, v.ev F)]))⟩
        | _ => none
      | _ => none
    | _ => none
  | .lkp kc zero ok x k => match x.ev F with
    | .mp id => match getH H id with
      | some (.mapp es) => match findE kc (k.ev F) es with
        | some r => some ⟨isKey kc (k.ev F) = true, (match r with | some v => if ok then .tup [v, .bool true] else v | none => if ok then .tup [zero, .bool false] else zero), .no⟩
        | none => none
      | _ => none
    | _ => none
  | .sls x lo hi => match x.ev F with
    | .str s => match loX F lo, hiX F s.length hi with
      | some l, some h => some ⟨0 ≤ l ∧ l ≤ h ∧ h ≤ s.length, .str ((s.take h.toNat).drop l.toNat), .no⟩
      | _, _ => none
    | _ => none
  | .sll sz x lo hi mx => match x.ev F with
    | .sl _ sz' rows => match loX F lo, hiX F rows.length hi, hiX F rows.length mx with
      | some l, some h, some m => some ⟨sz' = sz ∧ 0 ≤ l ∧ l ≤ h ∧ h ≤ rows.length ∧ h ≤ m ∧ m ≤ rows.length, .sl none sz ((rows.take h.toNat).drop l.toNat), .no⟩
      | _, _, _ => none
    | .nils => match loX F lo, hiX F 0 hi, hiX F 0 mx with
      | some l, some h, some m => some ⟨l = 0 ∧ h = 0 ∧ m = 0, .nils, .no⟩
      | _, _, _ => none
    | .slr room sz' rows => match loX F lo, hiX F rows.length hi, mx with
      | some l, some h, none => some ⟨sz' = sz ∧ 0 ≤ l ∧ l ≤ h ∧ h ≤ rows.length + room ∧ (h ≤ rows.length ∨ l = h), .slr (rows.length + room - h.toNat) sz ((rows.take h.toNat).drop l.toNat), .no⟩
      | _, _, _ => none
    | _ => none
  | .lns x => match x.ev F with
    | .str s => some ⟨True, .int .i64 s.length, .no⟩
    | _ => none
  | .len x => match x.ev F with
    | .sl _ _ rows => some ⟨True, .int .i64 rows.length, .no⟩
    | .ms _ _ n => some ⟨True, .int .i64 n, .no⟩
    | .slr _ _ rows => some ⟨True, .int .i64 rows.length, .no⟩
    | .nils => some ⟨True, .int .i64 0, .no⟩
    | _ => none
  | .app _ sz bytes x y => match x.ev F, y.ev F with
    | .nils, .sl _ sz' rows' => some ⟨sz' = sz ∧ rows'.length * bytes ≤ 140737488355328, .sl (some nm) sz rows', .app none⟩
    | .sl (some t) sz0 rows, .sl _ sz' rows' => some ⟨T t ∧ sz0 = sz ∧ sz' = sz ∧ (rows.length + rows'.length) * bytes ≤ 140737488355328, .sl (some nm) sz (rows ++ rows'), .app (some t)⟩
    | .sl (some t) sz0 rows, .nils => some ⟨T t, .sl (some t) sz0 rows, .no⟩
    | .nils, .nils => some ⟨True, .nils, .no⟩
    | .nils, .slr _ sz' rows' => some ⟨sz' = sz ∧ rows'.length * bytes ≤ 140737488355328, .sl (some nm) sz rows', .app none⟩
    | .sl (some t) sz0 rows, .slr _ sz' rows' => some ⟨T t ∧ sz0 = sz ∧ sz' = sz ∧ (rows.length + rows'.length) * bytes ≤ 140737488355328, .sl (some nm) sz (rows ++ rows'), .app (some t)⟩
    | _, _ => none
  | .aps _ x y => match x.ev F, y.ev F with
    | .nils, .str s => some ⟨s.length ≤ 140737488355328, .sl (some nm) 1 (bytesAV s), .app none⟩
    | .sl (some t) sz0 rows, .str s => some ⟨T t ∧ sz0 = 1 ∧ rows.length + s.length ≤ 140737488355328, .sl (some nm) 1 (rows ++ bytesAV s), .app (some t)⟩
    | _, _ => none
  | .mm isMin x y => match x.ev F, y.ev F with
    | .int k a, .int k' b => if k = k' then some ⟨True, .int k (if isMin then (if b < a then b else a) else (if b > a then b else a)), .no⟩ else none
    | _, _ => none
  | .ext x i => match x.ev F with
    | .tup vs => match vs[i]? with
      | some v => some ⟨True, v, .no⟩
      | none => none
    | _ => none
  | .nck x => match x.ev F with
    | .ptr id off => some ⟨True, .ptr id off, .no⟩
    | .el cs => some ⟨True, .el cs, .no⟩
    | .fn (.func f) a b => some ⟨True, .fn (.func f) a b, .no⟩
    | _ => none
  | .rng x => match x.ev F with
    | .str s => some ⟨True, .ptr nm 0, .blk (.obj (.stringIter ⟨s.toArray⟩ 0))⟩
    | _ => none
  | .nxt x => match x.ev F with
    | .ptr id 0 => match getH H id with
      | some (.obj (.stringIter s pos)) => if pos < s.size then some ⟨True, .tup [.bool true, .int .i64 pos, .int .i32 (Utf8.decode s pos).1], .set id (.obj (.stringIter s (pos + (Utf8.decode s pos).2)))⟩ else some ⟨True, .tup [.bool false], .no⟩
      | _ => none
    | _ => none
  | .mks _ b z x => match x.ev F with
    | .int _ n => some ⟨0 ≤ n ∧ n * b ≤ 140737488355328 ∧ oneL z.cells, .ms nm 1 n.toNat, .blk (.cells (List.replicate n.toNat z.cells).flatten)⟩
    | _ => none
  | .mkc _ sz b x => match x.ev F with
    | .int _ n => some ⟨0 ≤ n ∧ n * b ≤ 140737488355328, .sl (some nm) sz [], .own⟩
    | _ => none
  | .mkr _ b z x => match x.ev F with
    | .int _ n => some ⟨0 ≤ n ∧ n * b ≤ 140737488355328 ∧ AV.closedL z.cells = true, .sl (some nm) 1 (List.replicate n.toNat z.cells), .own⟩
    | _ => none
  | .cvs x => match x.ev F with
    | .sl (some t) sz rows => some ⟨T t ∧ rows ≠ [], .sl (some nm) sz rows, .app (some t)⟩
    | _ => none
  | .call .. => none
end Go.Ab

