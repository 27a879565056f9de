/-
  The small machine: its values, its operations, how it stands to the program's own. No condition.
-/
import Derived.WalkKit
import Derived.Maps.AppendAt
set_option linter.all false
section
namespace Go.VM
open Go

/-- A value: plain ones are trees; 'box', 'arr', 'aptr', 'mp' point into the small store. -/
inductive D where
  | undef
  | bool (b : Bool)
  | int (k : IntKind) (n : Int)
  | str (s : ByteArray)
  | nilsl
  | sl (ex : Bool) (es : List (List D))
  | agg (cs : List D)
  | tup (vs : List D)
  | fn (f : FuncId) (caps : List D)
  | fnS (f : FuncId) (caps : List D)
  | nilfn
  | nilptr
  | nilif
  | nilmp
  | ref (cs : List D)
  | imap (es : List (D × D))
  | opq (v : Value)
  | box (k off : Nat)
  | arr (k g n : Nat)
  | aptr (k g i j : Nat)
  | mp (k : Nat)
  deriving Inhabited

/-- What lies in the store: variables; an array that grows (its version, its elements); both may be frozen; a map. -/
inductive HC where
  | vars (cs : List D)
  | fvars (cs : List D)
  | arr (sz g : Nat) (es : List (List D))
  | farr (sz g : Nat) (es : List (List D))
  | mp (es : List (D × D))
  deriving Inhabited

abbrev Hp := Nat → Option HC

def Hp.set (H : Hp) (k : Nat) (c : HC) : Hp := fun j => if j = k then some c else H j

abbrev Env := Nat → Option D
def Env.set (e : Env) (k : Nat) (d : D) : Env := fun j => if j = k then some d else e j

inductive Opd where
  | t (n : Nat)
  | c (d : D)
  deriving Inhabited

inductive FK where
  | i | b | s
  deriving DecidableEq, Inhabited
inductive EqK where
  | none | bool | flat (ks : List FK) | slice | func
  deriving DecidableEq, Inhabited

/-- Keys of a map: of one cell; structs. -/
inductive MK where
  | one (k : FK)
  | flat (ks : List FK)
  deriving DecidableEq, Inhabited

inductive VOp where
  | mov (x : Opd)
  | pick (c a b : Opd)
  | alloc (zs : List D)
  | bx (x : Opd)
  | build (zero : List D) (parts : List (Nat × Nat × Opd))
  | bslice (zero : List D) (n : Nat) (parts : List (Nat × Opd))
  | bsliceA (zero : List D) (n : Nat) (parts : List (Nat × Opd))
  | load (agg : Bool) (sz : Nat) (a : Opd)
  | store (sz : Nat) (a x : Opd)
  | nilchk (x : Opd)
  | bin (op : BinOp) (k : EqK) (x y : Opd)
  | un (op : UnOp) (x : Opd)
  | faddr (off : Nat) (x : Opd)
  | fld (agg : Bool) (sz off : Nat) (x : Opd)
  | iaddr (sz : Nat) (x i : Opd)
  | iaddrA (len sz : Nat) (x i : Opd)
  | idxA (len : Nat) (agg : Bool) (sz : Nat) (x i : Opd)
  | idxS (x i : Opd)
  | slc (sz : Nat) (x : Opd) (lo hi : Option Opd) (mx : Option Opd)
  | slcS (x : Opd) (lo hi : Option Opd)
  | ext (x : Opd) (n : Nat)
  | mkfn (f : FuncId) (caps : List Opd)
  | call (f : Opd) (args : List Opd)
  | len (s : Bool) (x : Opd)
  | append (sz bytes : Nat) (s x : Opd)
  | mkmap
  | mapset (mk : MK) (m k v : Opd)
  | mapdel (mk : MK) (m k : Opd)
  | lookup (mk : MK) (zero : D) (ok : Bool) (m k : Opd)
  | conv (k : IntKind) (x : Opd)
  | fail
  deriving Inhabited

structure VOper where
  dst : Option Nat
  op : VOp
  guard : Option (Nat × Bool)
  after : List Nat
  deriving Inhabited

inductive VCode where
  | skip
  | region (ops : List VOper) (draw : Bool)
  | seq (a b : VCode)
  | cond (c : Opd) (x y : VCode)
  | block (id : Nat) (body : VCode)
  | loop (keep : Option (List Nat × List Nat)) (body : VCode)
  | exit (id : Nat)
  | ret
  deriving Inhabited

/-! ### Cells, plain values -/
/-- One cell, without the store. -/
def D.plain1 : D → Bool
  | .box .. | .arr .. | .aptr .. | .mp _ | .agg _ | .tup _ | .fnS .. => false
  | _ => true
def D.plainA : D → Bool
  | .agg cs => cs.all D.plain1
  | d => d.plain1
def D.plain : D → Bool
  | .tup vs => vs.all D.plainA
  | d => d.plainA
/-- A result that holds no memory. -/
def D.scalar1 : D → Bool
  | .undef | .bool _ | .int .. | .str _ | .nilsl | .nilfn | .nilptr | .nilif | .nilmp => true
  | _ => false
def D.scalarA : D → Bool
  | .agg cs => cs.all D.scalar1
  | d => d.scalar1
def D.scalar : D → Bool
  | .tup vs => vs.all D.scalarA
  | d => d.scalarA

def D.cells : D → List D
  | .agg cs => cs
  | d => [d]

/-- How it lies in an element. -/
def D.norm : D → D
  | .sl _ es => .sl false es
  | d => d
def frzL {α β : Type} (f : Hp → α → Option (β × Hp)) (H : Hp) : List α → Option (List β × Hp)
  | [] => some ([], H)
  | d :: ds => (f H d).bind fun p => (frzL f p.2 ds).bind fun q => some (p.1 :: q.1, q.2)
/-- A cell's plain look; what it is made of is frozen. -/
def frz1 : Nat → Hp → D → Option (D × Hp)
  | 0, H, d => if d.plain1 then some (d.norm, H) else none
  | m + 1, H, d => match d with
    | .arr k g n => match H k with
      | some (.arr sz g' es) =>
        if g = g' ∧ n ≤ es.length then
          if es.all (fun c => c.all D.plain1) then some (.sl false (es.take n), H.set k (.farr sz g es))
          else (frzL (frzL (frz1 m)) H es).bind fun p => match p.2 k with
            | some (.arr sz' g'' es') => if sz' = sz ∧ g'' = g ∧ es'.length = es.length then some (.sl false (p.1.take n), p.2.set k (.farr sz g p.1)) else none
            | _ => none
        else none
      | some (.farr _ g' es) => if g = g' ∧ n ≤ es.length then some (.sl false (es.take n), H) else none
      | _ => none
    | d => if d.plain1 then some (d.norm, H) else none
/-- A value's plain look: a variable that is pointed at is frozen, too. -/
def frz (H : Hp) : D → Option (D × Hp)
  | .box k off => match H k with
    | some (.vars cs) => (frzL (frz1 3) H cs).bind fun p => some (.ref (p.1.drop off), p.2.set k (.fvars p.1))
    | some (.fvars cs) => some (.ref (cs.drop off), H)
    | _ => none
  | .agg cs => (frzL (frz1 3) H cs).bind fun p => some (.agg p.1, p.2)
  | .tup vs => if (D.tup vs).plain then some (.tup vs, H) else none
  | d => frz1 3 H d

/-! ### Operations -/
def bytesLess := Go.Op.bytesLess
def binD (op : BinOp) (k : EqK) : D → D → Option D
  | .int q a, .int q' b =>
    if q = q' then
      match op with
      | .add => some (.int q (q.wrap (a + b)))
      | .sub => some (.int q (q.wrap (a - b)))
      | .mul => some (.int q (q.wrap (a * b)))
      | .eql => some (.bool (a == b))
      | .neq => some (.bool (a != b))
      | .lss => some (.bool (decide (a < b)))
      | .leq => some (.bool (decide (a ≤ b)))
      | .gtr => some (.bool (decide (a > b)))
      | .geq => some (.bool (decide (a ≥ b)))
      | .quo => if b = 0 then none else some (.int q (q.wrap (a.tdiv b)))
      | .rem => if b = 0 then none else some (.int q (a.tmod b))
      | .shr => if b < 0 then none else some (.int q (a.fdiv (2 ^ (min b.toNat q.bits))))
      | _ => none
    else none
  | .str a, .str b =>
    match op with
    | .eql => some (.bool (a == b))
    | .neq => some (.bool (a != b))
    | .lss => some (.bool (bytesLess a.data.toList b.data.toList))
    | .leq => some (.bool (bytesLess a.data.toList b.data.toList || a == b))
    | .gtr => some (.bool (!(bytesLess a.data.toList b.data.toList || a == b)))
    | .geq => some (.bool (!bytesLess a.data.toList b.data.toList))
    | .add => if a.size + b.size ≤ 140737488355328 then some (.str (a ++ b)) else none
    | _ => none
  | .bool a, .bool b =>
    match op, k with
    | .eql, .bool => some (.bool (a == b))
    | .neq, .bool => some (.bool (a != b))
    | _, _ => none
  | .agg xs, .agg ys =>
    match op, k with
    | .eql, .flat ks => (eqL ks xs ys).map .bool
    | .neq, .flat ks => (eqL ks xs ys).map fun b => .bool (!b)
    | _, _ => none
  | x, .nilsl =>
    match op, k, x with
    | .eql, .slice, .nilsl => some (.bool true)
    | .neq, .slice, .nilsl => some (.bool false)
    | .eql, .slice, .sl .. => some (.bool false)
    | .neq, .slice, .sl .. => some (.bool true)
    | _, _, _ => none
  | _, _ => none
where
  eq1 : FK → D → D → Option Bool
    | .i, .int q a, .int q' b => if q = q' then some (a == b) else none
    | .s, .str a, .str b => some (a == b)
    | .b, .bool a, .bool b => some (a == b)
    | _, _, _ => none
  eqL : List FK → List D → List D → Option Bool
    | [], [], [] => some true
    | k :: ks, x :: xs, y :: ys => (eq1 k x y).bind fun b => (eqL ks xs ys).map fun c => b && c
    | _, _, _ => none

def unD (op : UnOp) : D → Option D
  | .bool b => match op with | .not => some (.bool (!b)) | _ => none
  | .int q n => match op with | .neg => some (.int q (q.wrap (0 - n))) | _ => none
  | _ => none

/-- What a pointer's cells are. -/
def look (H : Hp) : D → Option (List D)
  | .ref cs => some cs
  | .box k off => match H k with
    | some (.vars cs) | some (.fvars cs) => some (cs.drop off)
    | _ => none
  | .aptr k g i j => match H k with
    | some (.arr _ g' es) | some (.farr _ g' es) => if g = g' then (es[i]?).map (·.drop j) else none
    | _ => none
  | _ => none

def putCells (cs : List D) (off : Nat) : List D → List D
  | [] => cs
  | d :: ds => putCells (cs.set off d) (off + 1) ds

def partD (agg : Bool) (sz : Nat) (cs : List D) : Option D :=
  if agg then (if sz ≤ cs.length then some (.agg (cs.take sz)) else none) else cs.head?

/-- The elements of a slice, as far as it goes. -/
def elems (H : Hp) : D → Option (List (List D))
  | .nilsl => some []
  | .sl _ es => some es
  | .arr k g n => match H k with
    | some (.arr _ g' es) | some (.farr _ g' es) => if g = g' ∧ n ≤ es.length then some (es.take n) else none
    | _ => none
  | _ => none

/-- May it lie in one cell? -/
def D.cellOk : D → Bool
  | .agg _ | .tup _ | .undef => false
  | _ => true

def setParts (zero : List D) : List (Nat × Nat × D) → Option (List D)
  | [] => some zero
  | (off, sz, d) :: ps => if d.cells.length = sz ∧ off + sz ≤ zero.length ∧ d.cells.all D.cellOk then setParts (putCells zero off d.cells) ps else none

def zerosD (zero : List D) : Nat → List D
  | 0 => []
  | n + 1 => zero ++ zerosD zero n

def roomBytes : Nat := 140737488355328

def Opd.ev (e : Env) : Opd → Option D
  | .t n => e n
  | .c d => some d
def Opd.evL (e : Env) : List Opd → Option (List D)
  | [] => some []
  | x :: xs => (x.ev e).bind fun d => (Opd.evL e xs).bind fun ds => some (d :: ds)

def natIdx : D → Option (IntKind × Int)
  | .int q n => some (q, n)
  | _ => none

/-- What an operation did to the store: nothing; a new thing; it changed one. -/
inductive Eff where
  | none | new | write
  deriving DecidableEq, Inhabited

def keyCmp : MK → D → D → Option Bool
  | .one k, x, y => binD.eq1 k x y
  | .flat ks, .agg xs, .agg ys => binD.eqL ks xs ys
  | _, _, _ => none
def mapPut (mk : MK) (k v : D) : List (D × D) → Option (List (D × D))
  | [] => some [(k, v)]
  | p :: ps => (keyCmp mk k p.1).bind fun b => if b then some ((k, v) :: ps) else (mapPut mk k v ps).map fun q => p :: q
def mapDel (mk : MK) (k : D) : List (D × D) → Option (List (D × D))
  | [] => some []
  | p :: ps => (keyCmp mk k p.1).bind fun b => if b then some ps else (mapDel mk k ps).map fun q => p :: q
def mapGet (mk : MK) (k : D) : List (D × D) → Option (Option D)
  | [] => some none
  | p :: ps => (keyCmp mk k p.1).bind fun b => if b then some (some p.2) else mapGet mk k ps
/-- Is it a key? -/
def keyOk (mk : MK) (k : D) : Bool := keyCmp mk k k == some true

def hdef (H : Hp) (k : Nat) : Bool := (H k).isSome

/-- What calls come to: in a store of their own; in the caller's (shared). g: the next number for things, and the other part's state. -/
structure Pc (G : Type) where
  sh : FuncId → Bool
  pure : FuncId → List D → G → Option (D × G)
  shared : FuncId → List D → Hp → Nat × G → Option (D × Hp × (Nat × G))

def roomKeys : Nat := 4096

section
variable {G : Type} (pc : Pc G)

/-- Where all is plain nothing was frozen. -/
def effOf (ds : List D) : Eff := if ds.all D.plain then .none else .write

structure Res (G : Type) where
  d : D
  H : Hp
  g : Nat × G
  eff : Eff

def okD {G : Type} (d : D) (H : Hp) (g : Nat × G) : Option (Res G) := some ⟨d, H, g, .none⟩

def act (dst : Option Nat) (op : VOp) (e : Env) (H : Hp) (g : Nat × G) : Option (Res G) :=
  match op with
  | .mov x => (x.ev e).bind fun d => okD d H g
  | .pick c a b => (c.ev e).bind fun | .bool t => ((if t then a.ev e else b.ev e)).bind fun d => okD d H g | _ => none
  | .alloc zs => dst.bind fun k => if hdef H k then none else some ⟨.box k 0, H.set k (.vars zs), g, .new⟩
  | .bx x => dst.bind fun k => (x.ev e).bind fun d => if hdef H k || !d.cells.all D.cellOk then none else some ⟨.box k 0, H.set k (.vars d.cells), g, .new⟩
  | .build zero parts =>
    (Opd.evL e (parts.map (·.2.2))).bind fun ds => (setParts zero ((parts.zip ds).map fun p => (p.1.1, p.1.2.1, p.2))).bind fun cs => okD (.agg cs) H g
  | .bslice zero n parts =>
    (Opd.evL e (parts.map (·.2))).bind fun ds => (frzL frz H ds).bind fun p =>
      (setParts (zerosD zero n) ((parts.zip p.1).map fun q => (q.1.1 * zero.length, zero.length, q.2))).bind fun cs =>
        if n * zero.length ≤ 16777216 then some ⟨.sl true (chunks zero.length n cs), p.2, g, effOf ds⟩ else none
  | .bsliceA zero n parts => dst.bind fun k =>
    (Opd.evL e (parts.map (·.2))).bind fun ds =>
      (setParts (zerosD zero n) ((parts.zip ds).map fun q => (q.1.1 * zero.length, zero.length, q.2))).bind fun cs =>
        if n * zero.length ≤ 16777216 ∧ hdef H k = false then some ⟨.arr k 0 n, H.set k (.arr zero.length 0 (chunks zero.length n (cs.map D.norm))), g, .new⟩ else none
  | .load agg sz a => (a.ev e).bind fun p => (look H p).bind fun cs => (partD agg sz cs).bind fun d => okD d H g
  | .store sz a x =>
    (a.ev e).bind fun p => (x.ev e).bind fun d =>
      if d.cells.length = sz ∧ d.cells.all D.cellOk then
        match p with
        | .box k off => match H k with
          | some (.vars cs) => if off + sz ≤ cs.length then some ⟨.undef, H.set k (.vars (putCells cs off d.cells)), g, .write⟩ else none
          | _ => none
        | .aptr k q i j => match H k with
          | some (.arr z q' es) => if q = q' then (es[i]?).bind fun c => if j + sz ≤ c.length then some ⟨.undef, H.set k (.arr z q (es.set i (putCells c j (d.cells.map D.norm)))), g, .write⟩ else none else none
          | _ => none
        | _ => none
      else none
  | .nilchk x => (x.ev e).bind fun d => match d with
    | .box .. | .ref _ | .aptr .. => okD d H g
    | _ => none
  | .bin op k x y => (x.ev e).bind fun a => (y.ev e).bind fun b => (binD op k a b).bind fun d => okD d H g
  | .un op x => (x.ev e).bind fun a => (unD op a).bind fun d => okD d H g
  | .faddr off x => (x.ev e).bind fun d => match d with
    | .ref cs => okD (.ref (cs.drop off)) H g
    | .box k o => okD (.box k (o + off)) H g
    | .aptr k q i j => okD (.aptr k q i (j + off)) H g
    | _ => none
  | .fld agg sz off x => (x.ev e).bind fun d => match d with
    | .agg cs => (partD agg sz (cs.drop off)).bind fun d => okD d H g
    | _ => none
  | .iaddr sz x i => (x.ev e).bind fun d => ((i.ev e).bind natIdx).bind fun n => match d with
    | .sl _ es => if 0 ≤ n.2 ∧ n.2 < es.length then (es[n.2.toNat]?).bind fun c => if c.length = sz then okD (.ref c) H g else none else none
    | .arr k q m => match H k with
      | some (.arr z q' es) | some (.farr z q' es) => if q = q' ∧ z = sz ∧ m ≤ es.length ∧ 0 ≤ n.2 ∧ n.2 < m then okD (.aptr k q n.2.toNat 0) H g else none
      | _ => none
    | _ => none
  | .iaddrA len sz x i => (x.ev e).bind fun d => ((i.ev e).bind natIdx).bind fun n =>
    if 0 ≤ n.2 ∧ n.2 < (len : Int) then match d with
      | .ref cs => okD (.ref (cs.drop (n.2.toNat * sz))) H g
      | .box k o => okD (.box k (o + n.2.toNat * sz)) H g
      | _ => none
    else none
  | .idxA len agg sz x i => (x.ev e).bind fun d => ((i.ev e).bind natIdx).bind fun n =>
    if 0 ≤ n.2 ∧ n.2 < (len : Int) then match d with
      | .agg cs => (partD agg sz (cs.drop (n.2.toNat * sz))).bind fun d => okD d H g
      | _ => none
    else none
  | .idxS x i => (x.ev e).bind fun d => ((i.ev e).bind natIdx).bind fun n => match d with
    | .str s => if h : 0 ≤ n.2 ∧ n.2 < (s.size : Int) then okD (.int .u8 ((s[n.2.toNat]'(by omega)).toNat : Int)) H g else none
    | _ => none
  | .slc sz x lo hi mx => (x.ev e).bind fun d => (optIdx e lo).bind fun l => (optIdx e hi).bind fun h => (optIdx e mx).bind fun m =>
    match d, m with
    | .sl _ es, none =>
      let b := h.getD es.length
      let a := l.getD 0
      if 0 ≤ a ∧ a ≤ b ∧ b ≤ es.length ∧ (a = 0 ∨ es.all (fun c => c.length = sz)) then okD (.sl false ((es.take b.toNat).drop a.toNat)) H g else none
    | .sl _ es, some m =>
      let b := h.getD es.length
      let a := l.getD 0
      if 0 ≤ a ∧ a ≤ b ∧ b = m ∧ b ≤ es.length ∧ (a = 0 ∨ es.all (fun c => c.length = sz)) then okD (.sl true ((es.take b.toNat).drop a.toNat)) H g else none
    | .nilsl, _ => if l.getD 0 = 0 ∧ h.getD 0 = 0 ∧ m.getD 0 = 0 then okD .nilsl H g else none
    | .arr k q n, none => match H k with
      | some (.arr _ q' es) => if q = q' ∧ n ≤ es.length ∧ l.getD 0 = 0 ∧ 0 ≤ h.getD n ∧ h.getD n ≤ n then okD (.arr k q (h.getD n).toNat) H g else none
      | _ => none
    | _, _ => none
  | .slcS x lo hi => (x.ev e).bind fun d => (optIdx e lo).bind fun l => (optIdx e hi).bind fun h => match d with
    | .str s =>
      let b := h.getD s.size
      let a := l.getD 0
      if 0 ≤ a ∧ a ≤ b ∧ b ≤ s.size then okD (.str (s.extract a.toNat b.toNat)) H g else none
    | _ => none
  | .ext x n => (x.ev e).bind fun d => match d with
    | .tup vs => (vs[n]?).bind fun d => okD d H g
    | _ => none
  | .mkfn f caps => (Opd.evL e caps).bind fun ds => if pc.sh f then okD (.fnS f ds) H g else (frzL frz H ds).bind fun p => some ⟨.fn f p.1, p.2, g, effOf ds⟩
  | .call f args => (f.ev e).bind fun d => (Opd.evL e args).bind fun ds => match d with
    | .fn f caps =>
      if pc.sh f then (pc.shared f (ds ++ caps) H g).bind fun r => some ⟨r.1, r.2.1, r.2.2, .write⟩
      else (frzL frz H ds).bind fun p => (pc.pure f (p.1 ++ caps) g.2).bind fun r =>
        if r.1.plain then (if r.1.scalar then some ⟨r.1, H, (g.1, r.2), .none⟩ else some ⟨r.1, p.2, (g.1, r.2), effOf ds⟩) else none
    | .fnS f caps => (pc.shared f (ds ++ caps) H g).bind fun r => some ⟨r.1, r.2.1, r.2.2, .write⟩
    | _ => none
  | .len str x => (x.ev e).bind fun d => match str, d with
    | true, .str s => okD (.int .i64 s.size) H g
    | false, .nilsl => okD (.int .i64 0) H g
    | false, .sl _ es => okD (.int .i64 es.length) H g
    | false, .arr _ _ n => okD (.int .i64 n) H g
    | _, _ => none
  | .append sz bytes s x => (s.ev e).bind fun d => (x.ev e).bind fun y => (elems H d).bind fun os => (elems H y).bind fun ys0 =>
    let ys := ys0.map (·.map D.norm)
    if ys0.isEmpty then okD d H g else
    if ys.all (fun c => c.length = sz) then
      match d with
      | .nilsl => dst.bind fun k => if hdef H k || bytes * ys.length > roomBytes then none else some ⟨.arr k 0 ys.length, H.set k (.arr sz 0 ys), g, .new⟩
      | .sl true _ => dst.bind fun k => if hdef H k || bytes * (os.length + ys.length) > roomBytes then none else
          if os.all (fun c => c.length = sz) then some ⟨.arr k 0 (os.length + ys.length), H.set k (.arr sz 0 (os.map (·.map D.norm) ++ ys)), g, .new⟩ else none
      | .arr k q n => match H k with
        | some (.arr z q' _) => if q = q' ∧ z = sz ∧ ¬ bytes * (os.length + ys.length) > roomBytes then
            some ⟨.arr k (q + 1) (n + ys.length), H.set k (.arr sz (q + 1) (os ++ ys)), g, .write⟩ else none
        | _ => none
      | _ => none
    else none
  | .conv q x => (x.ev e).bind fun d => match d with
    | .int _ n => okD (.int q (q.wrap n)) H g
    | _ => none
  | .mkmap => dst.bind fun k => if hdef H k then none else some ⟨.mp k, H.set k (.mp []), g, .new⟩
  | .mapset mk m x y => (m.ev e).bind fun m => (x.ev e).bind fun kd => (y.ev e).bind fun v => match m with
    | .mp k => match H k with
      | some (.mp es) => if keyOk mk kd ∧ v.cells.all D.cellOk then (mapPut mk kd v es).bind fun q => some ⟨.undef, H.set k (.mp q), g, .write⟩ else none
      | _ => none
    | _ => none
  | .mapdel mk m x => (m.ev e).bind fun m => (x.ev e).bind fun kd => match m with
    | .mp k => match H k with
      | some (.mp es) => if keyOk mk kd then (mapDel mk kd es).bind fun q => some ⟨.tup [], H.set k (.mp q), g, .write⟩ else none
      | _ => none
    | _ => none
  | .lookup mk zero ok m x => (m.ev e).bind fun m => (x.ev e).bind fun kd => match m with
    | .mp k => match H k with
      | some (.mp es) => if keyOk mk kd then
          (mapGet mk kd es).bind fun v => okD (if ok then .tup [v.getD zero, .bool v.isSome] else v.getD zero) H g else none
      | _ => none
    | _ => none
  | .fail => none
where
  optIdx (e : Env) : Option Opd → Option (Option Int)
    | none => some none
    | some x => ((x.ev e).bind natIdx).bind fun n => some (some n.2)
  chunks (sz : Nat) : Nat → List D → List (List D)
    | 0, _ => []
    | n + 1, cs => cs.take sz :: chunks sz n (cs.drop sz)

structure St (G : Type) where
  env : Env
  H : Hp
  g : Nat × G
  b : Nat

def Env.put (e : Env) : Option Nat → D → Env
  | some k, d => e.set k d
  | none, _ => e
def St.put {G : Type} (st : St G) (dst : Option Nat) (d : D) : Env := st.env.put dst d

def runOp (o : VOper) (st : St G) : Option (St G × Eff) :=
  let go := (act pc (o.dst.map (st.b + ·)) o.op st.env st.H st.g).bind fun r => some (⟨st.put o.dst r.d, r.H, r.g, st.b⟩, r.eff)
  match o.guard with
  | none => go
  | some (j, want) => match st.env j with
    | some (.bool b) => if b = want then go else some (⟨st.put o.dst .undef, st.H, st.g, st.b⟩, .none)
    | some .undef => some (⟨st.put o.dst .undef, st.H, st.g, st.b⟩, .none)
    | _ => none

def runOps : List VOper → St G → Option (St G)
  | [], st => some st
  | o :: os, st => (runOp pc o st).bind fun p => runOps os p.1

inductive Ex where
  | normal
  | exit (id : Nat)
  | ret
  deriving DecidableEq

/-- What a chain of ever better answers comes to. -/
noncomputable def lim {α : Type} (f : Nat → Option α) : Option α :=
  open Classical in if h : ∃ n r, f n = some r then some (Classical.choose (Classical.choose_spec h)) else none

/-- Which values live on at a loop's head: those of the slots that are kept, if what they point at is kept. -/
def D.okH1 (keepH : List Nat) : D → Bool
  | .box k _ | .arr k _ _ | .aptr k _ _ _ | .mp k => keepH.contains k
  | .agg _ | .tup _ | .fnS .. => false
  | _ => true
def D.okH (keepH : List Nat) : D → Bool
  | .agg cs => cs.all (D.okH1 keepH)
  | .tup vs => (D.tup vs).plain
  | d => d.okH1 keepH
def HC.okH (keepH : List Nat) : HC → Bool
  | .vars cs | .fvars cs => cs.all (D.okH1 keepH)
  | .arr _ _ es => es.all fun c => c.all (D.okH1 keepH)
  | .farr .. => true
  | .mp es => es.all fun p => p.2.okH keepH
def keepEnv (keep keepH : List Nat) (e : Env) : Env := fun s =>
  if keep.contains s then (match e s with | some d => if d.okH keepH then some d else none | none => none) else none
def keepHp (keepH : List Nat) (H : Hp) : Hp := fun k => if keepH.contains k then H k else none
def trim (keep keepH : List Nat) (st : St G) : Option (St G) :=
  if keepH.all (fun k => match st.H k with | some c => c.okH keepH | none => true) then some ⟨keepEnv keep keepH st.env, keepHp keepH st.H, st.g, st.b⟩ else none

/-- A new round's numbers. -/
def anew (st : St G) : St G := ⟨st.env, st.H, (st.g.1 + roomKeys, st.g.2), st.g.1⟩
def atHead : Option (List Nat × List Nat) → St G → Option (St G)
  | some (keep, keepH), st => trim keep keepH st
  | none, st => some (anew st)

def loopN (F : St G → Option (Ex × St G)) (tr : St G → Option (St G)) : Nat → St G → Option (Ex × St G)
  | 0, _ => none
  | n + 1, st => (tr st).bind fun st => (F st).bind fun r => match r.1 with
    | .normal => loopN F tr n r.2
    | _ => some r

/-! ### Regions whose order is drawn -/
def VOp.opds : VOp → List Opd
  | .mov x | .bx x | .nilchk x | .un _ x | .faddr _ x | .fld _ _ _ x | .ext x _ | .len _ x | .load _ _ x | .conv _ x => [x]
  | .pick c a b => [c, a, b]
  | .alloc _ | .mkmap | .fail => []
  | .build _ ps => ps.map (·.2.2)
  | .bslice _ _ ps | .bsliceA _ _ ps => ps.map (·.2)
  | .store _ a x | .bin _ _ a x | .iaddr _ a x | .iaddrA _ _ a x | .idxA _ _ _ a x | .idxS a x | .append _ _ a x => [a, x]
  | .slc sz x lo hi mx => x :: (lo.toList ++ hi.toList ++ mx.toList)
  | .slcS x lo hi => x :: (lo.toList ++ hi.toList)
  | .mkfn _ cs => cs
  | .call f as => f :: as
  | .mapset _ a b c => [a, b, c]
  | .mapdel _ a b => [a, b]
  | .lookup _ _ _ a b => [a, b]
def VOper.reads (o : VOper) : List Nat := (o.op.opds.filterMap fun | .t n => some n | .c _ => none) ++ (match o.guard with | some (j, _) => [j] | none => [])
/-- What it may freeze. -/
def VOp.frs : VOp → List Opd
  | .bslice _ _ ps => ps.map (·.2)
  | _ => []
/-- Does it freeze nothing? -/
def quietL (e : Env) (xs : List Opd) : Bool := xs.all fun x => match x.ev e with | some d => d.plain | none => false
def VOp.quiet (sh : FuncId → Bool) (op : VOp) (e : Env) : Bool := match op with
  | .call f as => (match f.ev e with | some (.fn f _) => !sh f | _ => false) && quietL e as
  | .mkfn f cs => sh f || quietL e cs
  | op => quietL e op.frs
/-- Does it look at the store at all? -/
def VOp.saw (sh : FuncId → Bool) (op : VOp) (e : Env) : Bool :=
  match op with
  | .mov _ | .pick .. | .build .. | .nilchk _ | .bin .. | .un .. | .faddr .. | .fld .. | .iaddrA .. | .idxA .. | .idxS .. | .slcS .. | .ext .. | .len .. | .conv .. => false
  | .load _ _ a => match a.ev e with | some (.ref _) => false | _ => true
  | .iaddr _ x _ => match x.ev e with | some (.sl ..) => false | _ => true
  | .slc _ x _ _ _ => match x.ev e with | some (.sl ..) => false | some .nilsl => false | _ => true
  | .bslice .. | .mkfn .. | .call .. => !op.quiet sh e
  | _ => true
def D.key1 : D → List Nat
  | .box k _ | .arr k _ _ | .aptr k _ _ _ | .mp k => [k]
  | _ => []
/-- The things of the store that it is handed. -/
def VOp.keys (op : VOp) (e : Env) : List Nat := op.opds.flatMap fun x => match x.ev e with | some d => d.key1 | none => []
/-- It writes one thing at most: a new one, or the first that it is handed. -/
def VOp.isLocal : VOp → Bool
  | .alloc _ | .bx _ | .bsliceA .. | .store .. | .append .. | .mkmap | .mapset .. | .mapdel .. => true
  | _ => false
def VOp.isCall : VOp → Bool
  | .call .. => true
  | _ => false
/-- All that each hangs on, directly or not, as bits. -/
def ancs : List VOper → List Nat → List Nat
  | [], acc => acc
  | o :: os, acc => ancs os (acc ++ [o.after.foldl (fun m j => m ||| (1 <<< j) ||| acc.getD j 0) 0])
/-- What is noted of an operation that was run. -/
structure Nt where
  eff : Eff
  saw : Bool
  quiet : Bool
  keys : List Nat
  key : Option Nat
/-- What it writes: that is not known; nothing; one thing. -/
def wkey (o : VOper) (nt : Nt) : Option (Option Nat) := match nt.eff with
  | .none => some none
  | .new => if o.op.isLocal then nt.key.map some else none
  | .write => if o.op.isLocal then nt.keys.head?.map some else none
/-- Nobody misses that it is written. -/
def clearOf (w : Option (Option Nat)) (i : Nt) : Bool := match w with
  | none => false
  | some none => true
  | some (some k) => i.quiet && !i.keys.contains k && i.key != some k
/-- May two operations that nothing orders change places? a stands first. -/
def swaps (a i : VOper) (na ni : Nt) : Bool :=
  (match a.dst with | some d => !i.reads.contains d && i.dst != some d | none => true) &&
  (match i.dst with | some d => !a.reads.contains d | none => true) &&
  !(a.op.isCall && i.op.isCall) &&
  (((na.eff == .none || !ni.saw) && (ni.eff == .none || !na.saw)) || (clearOf (wkey a na) ni && clearOf (wkey i ni) na))

def noteOf (sh : FuncId → Bool) (b : Nat) (o : VOper) (e : Env) (ef : Eff) : Nt := ⟨ef, o.op.saw sh e, o.op.quiet sh e, o.op.keys e, o.dst.map (b + ·)⟩
/-- Whether it is wanted at all. -/
def VOper.on (o : VOper) (e : Env) : Bool := match o.guard with
  | none => true
  | some (j, want) => match e j with
    | some (.bool b) => b = want
    | _ => false
def runEff : List VOper → St G → Option (St G × List Nt)
  | [], st => some (st, [])
  | o :: os, st => (runOp pc o st).bind fun p => (runEff os p.1).bind fun q => some (q.1, (if o.on st.env then noteOf pc.sh st.b o st.env p.2 else ⟨.none, false, true, [], none⟩) :: q.2)

/-- Every two of a list that nothing orders may change places. -/
def drawL (T : List Nat) : List (Nat × VOper × Nt) → Bool
  | [] => true
  | x :: xs => xs.all (fun y => (T.getD y.1 0).testBit x.1 || swaps x.2.1 y.2.1 x.2.2 y.2.2) && drawL T xs
def backOk : Nat → List VOper → Bool
  | _, [] => true
  | i, o :: os => o.after.all (fun j => decide (j < i)) && backOk (i + 1) os
def number : Nat → List VOper → List Nt → List (Nat × VOper × Nt)
  | i, o :: os, e :: es => (i, o, e) :: number (i + 1) os es
  | _, _, _ => []
def drawOk (ops : List VOper) (effs : List Nt) : Bool := backOk 0 ops && drawL (ancs ops []) (number 0 ops effs)

def runDraw (ops : List VOper) (st : St G) : Option (St G) :=
  (runEff pc ops st).bind fun p => if drawOk ops p.2 then some p.1 else none

/-- What code does; 'lp' tells what a loop comes to. -/
def den (lp : (St G → Option (Ex × St G)) → (St G → Option (St G)) → St G → Option (Ex × St G)) : VCode → St G → Option (Ex × St G)
  | .skip, st => some (.normal, st)
  | .region ops draw, st => ((if draw then runDraw pc ops st else runOps pc ops st)).bind fun st => some (.normal, st)
  | .seq a b, st => (den lp a st).bind fun r => match r.1 with
    | .normal => den lp b r.2
    | _ => some r
  | .cond c x y, st => match c.ev st.env with
    | some (.bool t) => if t then den lp x st else den lp y st
    | _ => none
  | .block id c, st => (den lp c st).bind fun r => match r.1 with
    | .exit j => if j = id then some (.normal, r.2) else some r
    | _ => some r
  | .loop keep c, st => lp (den lp c) (atHead keep) st
  | .exit id, st => some (.exit id, st)
  | .ret, st => some (.ret, st)
end

inductive VResult where
  | tmp (t : Nat)
  | cell (t : Nat) (agg : Bool) (sz : Nat)
  deriving Inhabited

structure VFunc where
  body : VCode
  results : List VResult
  ntmps : Nat
  deriving Inhabited

section
variable {G : Type}
/-- The results, as they are. -/
def rawD (st : St G) : List VResult → Option (List D)
  | [] => some []
  | .tmp t :: rs => (st.env t).bind fun d => (rawD st rs).bind fun q => some (d :: q)
  | .cell t agg sz :: rs => (st.env t).bind fun a => (look st.H a).bind fun cs => (partD agg sz cs).bind fun d => (rawD st rs).bind fun q => some (d :: q)
def tupD : List D → D
  | [d] => d
  | ds => .tup ds
/-- The results, frozen. -/
def resultD (st : St G) (rs : List VResult) : Option D :=
  (rawD st rs).bind fun ds => (frzL frz st.H ds).bind fun p => some (tupD p.1)
def args0 (as : List D) : Env := fun i => as[i]?
def bodyD (pc : Pc G) (lp : (St G → Option (Ex × St G)) → (St G → Option (St G)) → St G → Option (Ex × St G)) (f : VFunc) (as : List D) (g : G) : Option (D × G) :=
  if as.all D.plain ∧ as.length ≤ f.ntmps then
    (den pc lp f.body ⟨args0 as, fun _ => none, (roomKeys, g), 0⟩).bind fun r => match r.1 with
      | .exit _ => none
      | _ => (resultD r.2 f.results).bind fun d => if d.plain then some (d, r.2.g.2) else none
  else none
/-- No loop forgets things. -/
def VCode.whole : VCode → Bool
  | .seq a b | .cond _ a b => a.whole && b.whole
  | .block _ c => c.whole
  | .loop keep c => keep.isNone && c.whole
  | _ => true
/-- In the caller's store. -/
def bodyS (pc : Pc G) (lp : (St G → Option (Ex × St G)) → (St G → Option (St G)) → St G → Option (Ex × St G)) (f : VFunc) (as : List D) (H : Hp) (g : Nat × G) : Option (D × Hp × (Nat × G)) :=
  if f.body.whole ∧ as.length ≤ f.ntmps then
    (den pc lp f.body ⟨args0 as, H, (g.1 + roomKeys, g.2), g.1⟩).bind fun r => match r.1 with
      | .exit _ => none
      | _ => (rawD r.2 f.results).bind fun ds => some (tupD ds, r.2.H, r.2.g)
  else none
end
end Go.VM
end

section
namespace Go.VM
open Go

def D.ofVal1 : Value → Option D
  | .bool b => some (.bool b)
  | .int k n => some (.int k n)
  | .string s => some (.str s)
  | .slice none 0 0 => some .nilsl
  | .nilFunc => some .nilfn
  | .pointer none => some .nilptr
  | .nilIface => some .nilif
  | .map none => some .nilmp
  | _ => none
def D.ofVal : Value → Option D
  | .agg cs => (cs.toList.mapM D.ofVal1).map .agg
  | v => D.ofVal1 v

section
variable (P : Program)
def szOf (t : TypeId) : Option Nat := (P.info? t).map (·.size)
def aggOf (t : TypeId) : Option Bool := (P.underlying t).map fun | .struct _ | .array _ _ => true | _ => false
def zeroOf (t : TypeId) : Option D := ((P.info? t).bind (·.zero)).bind D.ofVal
def opdOf : Operand → Option Opd
  | .tmp t => some (.t t)
  | .const v => (D.ofVal v).map .c
  | .func f => some (.c (.fn f []))
  | .global _ => none
def opdsOf : List Operand → Option (List Opd)
  | [] => some []
  | x :: xs => (opdOf x).bind fun a => (opdsOf xs).bind fun as => some (a :: as)
def optOf : Option Operand → Option (Option Opd)
  | none => some none
  | some x => (opdOf x).map some
def partsOf (fields : Nat → Option (Nat × Nat)) : List (Nat × Operand) → Option (List (Nat × Nat × Opd))
  | [] => some []
  | (i, x) :: ps => (fields i).bind fun f => (opdOf x).bind fun a => (partsOf fields ps).bind fun r => some ((f.1, f.2, a) :: r)
def partsOfS : List (Nat × Operand) → Option (List (Nat × Opd))
  | [] => some []
  | (i, x) :: ps => (opdOf x).bind fun a => (partsOfS ps).bind fun r => some ((i, a) :: r)
def fieldOf (s : TypeId) (f : Nat) : Option Field := match P.underlying s with
  | some (.struct fs) => fs[f]?
  | _ => none
def flatField (f : Field) (i : Nat) : Option FK :=
  if f.name != "_" && f.offset == i && szOf P f.type == some 1 then
    match P.underlying f.type with
    | some (.int _) => some .i
    | some .bool => some .b
    | some .string => some .s
    | _ => none
  else none
def flatFrom : List Field → Nat → Option (List FK)
  | [], _ => some []
  | f :: fs, i => (flatField P f i).bind fun k => (flatFrom fs (i + 1)).map fun ks => k :: ks
def eqKOf (t : TypeId) : EqK := match P.underlying t with
  | some .bool => .bool
  | some (.struct fs) => if !P.stoodInHeld t && !P.eqGuardType P.depth t then (match flatFrom P fs.toList 0 with | some ks => .flat ks | none => .none) else .none
  | some (.slice _) => .slice
  | _ => .none

/-- Keys' types: all cells are numbers, truth values, strings. -/
def flatFs (F : TypeId → Option (List FK)) : List Field → Nat → Option (List FK)
  | [], _ => some []
  | f :: fs, i => if f.name != "_" && f.offset == i then (F f.type).bind fun ks => if szOf P f.type == some ks.length then (flatFs F fs (i + ks.length)).map (ks ++ ·) else none else none
def flatT : Nat → TypeId → Option (List FK)
  | 0, _ => none
  | d + 1, t => match P.underlying t with
    | some (.int _) => some [.i]
    | some .bool => some [.b]
    | some .string => some [.s]
    | some (.struct fs) => if P.stoodInHeld t then none else flatFs P (flatT d) fs.toList 0
    | _ => none
def keyK (t : TypeId) : Option MK := match P.underlying t with
  | some (.int _) => some (.one .i)
  | some .bool => some (.one .b)
  | some .string => some (.one .s)
  | some (.struct _) => (flatT P 8 t).map .flat
  | _ => none
def mapOf (t : TypeId) : Option (MK × TypeId) := match P.underlying t with
  | some (.map kt et) => (keyK P kt).map fun mk => (mk, et)
  | _ => none

def vopOf (own : Bool) (o : Oper) : Option VOp :=
  match o.op with
  | .move x | .assign x => (opdOf x).map .mov
  | .pick c a b => (opdOf c).bind fun c => (opdOf a).bind fun a => (opdOf b).bind fun b => some (.pick c a b)
  | .alloc t => (zeroOf P t).map fun z => .alloc z.cells
  | .box _ x => (opdOf x).map .bx
  | .build t parts => (zeroOf P t).bind fun z => match P.underlying t with
    | some (.struct fs) => if fs.toList.all (fun f => (P.info? f.type).isSome) then (partsOf (fun i => (fs[i]?).bind fun f => (szOf P f.type).map fun s => (f.offset, s)) parts.toList).map (.build z.cells ·) else none
    | some (.array _ e) => (szOf P e).bind fun s => (partsOf (fun i => some (i * s, s)) parts.toList).map (.build z.cells ·)
    | _ => none
  | .buildSlice t n parts => match P.underlying t with
    | some (.slice e) => (zeroOf P e).bind fun z => (szOf P e).bind fun s => if s = z.cells.length ∧ 0 < s then (partsOfS parts.toList).map fun ps => if own then .bsliceA z.cells n ps else .bslice z.cells n ps else none
    | _ => none
  | .load t a => (opdOf a).bind fun a => (aggOf P t).bind fun g => (szOf P t).bind fun s => some (.load g s a)
  | .store t a x => (opdOf a).bind fun a => (opdOf x).bind fun x => (szOf P t).bind fun s => some (.store s a x)
  | .nilCheck x => (opdOf x).map .nilchk
  | .binOp op t x y _ => (opdOf x).bind fun x => (opdOf y).bind fun y => some (.bin op (eqKOf P t) x y)
  | .unOp op _ x => (opdOf x).map (.un op)
  | .fieldAddr s x f => (opdOf x).bind fun x => (fieldOf P s f).bind fun f => (szOf P f.type).bind fun z => if 0 < z then some (.faddr f.offset x) else none
  | .field s x f => (opdOf x).bind fun x => (fieldOf P s f).bind fun f => (szOf P f.type).bind fun z => (aggOf P f.type).bind fun g => some (.fld g z f.offset x)
  | .indexAddr t x i => (opdOf x).bind fun x => (opdOf i).bind fun i => match P.underlying t with
    | some (.slice e) => (szOf P e).bind fun s => if 0 < s then some (.iaddr s x i) else none
    | some (.array n e) => (szOf P e).bind fun s => if 0 < s ∧ 1 < n then some (.iaddrA n s x i) else none
    | _ => none
  | .index t x i => (opdOf x).bind fun x => (opdOf i).bind fun i => match P.underlying t with
    | some (.array n e) => (szOf P e).bind fun s => (aggOf P e).bind fun g => some (.idxA n g s x i)
    | some .string => some (.idxS x i)
    | _ => none
  | .slice t x lo hi mx => (opdOf x).bind fun x => (optOf lo).bind fun lo => (optOf hi).bind fun hi => (optOf mx).bind fun mx => match P.underlying t with
    | some (.slice e) => (szOf P e).bind fun s => if 0 < s ∧ (mx.isSome → hi.isSome) then some (.slc s x lo hi mx) else none
    | some .string => if mx.isSome then none else some (.slcS x lo hi)
    | _ => none
  | .extract x n => (opdOf x).map fun x => .ext x n
  | .makeFunc (.func f) first caps => if first.isEmpty then (opdsOf caps.toList).map (.mkfn f) else none
  | .makeMap _ none => some .mkmap
  | .mapUpdate t m k v | .insert t m k v => (opdOf m).bind fun m => (opdOf k).bind fun k => (opdOf v).bind fun v => (mapOf P t).map fun q => .mapset q.1 m k v
  | .lookup t m k ok => (opdOf m).bind fun m => (opdOf k).bind fun k => (mapOf P t).bind fun q => (zeroOf P q.2).map fun z => .lookup q.1 z ok m k
  | .call c => match c.callee with
    | .builtin .delete => match c.args.toList, c.argTypes.toList with
      | [m, k], [t, _] => (opdOf m).bind fun m => (opdOf k).bind fun k => (mapOf P t).map fun q => .mapdel q.1 m k
      | _, _ => none
    | .value f => (opdOf f).bind fun f => (opdsOf c.args.toList).map (.call f)
    | .builtin .len => match c.args.toList, c.argTypes.toList with
      | [x], [t] => (opdOf x).bind fun x => match P.underlying t with
        | some (.slice _) => some (.len false x)
        | some .string => some (.len true x)
        | _ => none
      | _, _ => none
    | .builtin .append => match c.args.toList, c.argTypes.toList with
      | [s, x], [t, u] => if t = u then (opdOf s).bind fun s => (opdOf x).bind fun x => match P.underlying t with
        | some (.slice e) => (P.info? e).bind fun i => match i.zero with
          | some z => if z.cells.size = i.size ∧ 0 < i.size ∧ 0 < i.bytes then some (.append i.size i.bytes s x) else none
          | none => none
        | _ => none
        else none
      | _, _ => none
    | _ => none
  | .convert s d x => (opdOf x).bind fun x => match P.underlying s, P.underlying d with
    | some (.int _), some (.int k) => some (.conv k x)
    | _, _ => none
  | .panic _ | .makeInterface .. => some .fail
  | _ => none

def voperOf (own : Bool) (n : Nat) (ops : Array Oper) (o : Oper) : Option VOper :=
  if o.dst.all (fun d => decide (d < n)) then (vopOf P own o).bind fun v =>
    match o.guard with
    | none => some { dst := o.dst, op := v, guard := none, after := ((o.after.toList.filter (Region.binds .any)).map (·.on)) }
    | some (j, b) => ((ops[j]?).bind (·.dst)).map fun d => { dst := o.dst, op := v, guard := some (d, b), after := ((o.after.toList.filter (Region.binds .any)).map (·.on)) }
  else none
def vopsOf (own : Bool) (n : Nat) (ops : Array Oper) : List Oper → Option (List VOper)
  | [] => some []
  | o :: os => (voperOf P own n ops o).bind fun v => (vopsOf own n ops os).bind fun vs => some (v :: vs)

def firstRegion : Code → Nat
  | .region i _ _ => i
  | .seq a _ => firstRegion a
  | .block _ c | .loop c => firstRegion c
  | _ => 0

/-- Where ann tells whether a function's slices lie in the store. -/
def ownAt : Nat := 1000000
/-- ann: which slots, and which of the store's things, live on at the head of the loop that begins with a region. -/
def vcodeOf (n : Nat) (ann : Nat → Option (List Nat × List Nat)) : Code → Option VCode
  | .skip => some .skip
  | .region _ ops draw => (vopsOf P (ann ownAt).isNone n ops ops.toList).map fun v => .region v draw
  | .seq a b => (vcodeOf n ann a).bind fun x => (vcodeOf n ann b).bind fun y => some (.seq x y)
  | .cond c a b => (opdOf c).bind fun c => (vcodeOf n ann a).bind fun x => (vcodeOf n ann b).bind fun y => some (.cond c x y)
  | .block i c => (vcodeOf n ann c).map (.block i)
  | .loop c => (vcodeOf n ann c).map fun x => .loop (ann (firstRegion c)) x
  | .exit i => some (.exit i)
  | .ret => some .ret
  | _ => none

def vresOf : List ResultVar → Option (List VResult)
  | [] => some []
  | .tmp t :: rs => (vresOf rs).map fun r => .tmp t :: r
  | .cell a t :: rs => (aggOf P t).bind fun g => (szOf P t).bind fun s => (vresOf rs).map fun r => .cell a g s :: r

def vfuncOf (ann : Nat → Option (List Nat × List Nat)) (f : Func) : Option VFunc :=
  f.body.bind fun c => (vcodeOf P f.ntmps ann c).bind fun b => (vresOf P f.results.toList).bind fun r => some { body := b, results := r, ntmps := f.ntmps }
end
end Go.VM
end

section
namespace Go.VM
open Go Go.RowKit

abbrev Im := Nat → Nat → Prop

/-- A plain value in memory: all that it is made of lies in cells that nobody writes any more (I). -/
inductive VR0 (I : Im) (w : World) : D → Value → Prop
  | undef : VR0 I w .undef Go.undef
  | bool (b : Bool) : VR0 I w (.bool b) (.bool b)
  | int (k : IntKind) (n : Int) : VR0 I w (.int k n) (.int k n)
  | str (s : ByteArray) : VR0 I w (.str s) (.string s)
  | nilsl : VR0 I w .nilsl (.slice none 0 0)
  | nilfn : VR0 I w .nilfn .nilFunc
  | nilptr : VR0 I w .nilptr (.pointer none)
  | nilif : VR0 I w .nilif .nilIface
  | nilmp : VR0 I w .nilmp (.map none)
  | opq (v : Value) (h : v.oneCell' = true) : VR0 I w (.opq v) v
  | sl {ex : Bool} {es : List (List D)} {a : Addr} {n c : Nat} (sz : Nat) (f : Nat → Nat → Value) (hn : es.length = n) (hc : n ≤ c) (hex : ex = true → c = n) (hm : c ≤ maxLen) (hsz : 0 < sz)
      (hl : ∀ i (h : i < es.length), (es[i]).length = sz) (hs : 0 < n → a.spot = none)
      (hI : ∀ i j, i < n → j < sz → I a.block (a.off + (i * sz + j)))
      (hcell : ∀ i j, i < n → j < sz → w.cell? ⟨a.block, a.off + (i * sz + j), none⟩ = some (f i j))
      (h1 : ∀ i j, i < n → j < sz → (f i j).oneCell' = true)
      (hv : ∀ i (h : i < es.length) j (h' : j < (es[i]).length), VR0 I w ((es[i])[j]) (f i j)) : VR0 I w (.sl ex es) (.slice (some a) n c)
  | agg {cs : List D} {vs : Array Value} (hl : cs.length = vs.size) (h1 : ∀ i (h : i < vs.size), (vs[i]).oneCell' = true) (hv : ∀ i (h : i < cs.length), VR0 I w (cs[i]) (vs[i]'(hl ▸ h))) : VR0 I w (.agg cs) (.agg vs)
  | tup {cs : List D} {vs : Array Value} (hl : cs.length = vs.size) (hv : ∀ i (h : i < cs.length), VR0 I w (cs[i]) (vs[i]'(hl ▸ h))) : VR0 I w (.tup cs) (.tuple vs)
  | fn {f : FuncId} {cs : List D} {vs : Array Value} (hl : cs.length = vs.size) (hv : ∀ i (h : i < cs.length), VR0 I w (cs[i]) (vs[i]'(hl ▸ h))) : VR0 I w (.fn f cs) (.func (.func f) #[] vs)
  | ref {cs : List D} {a : Addr} (f : Nat → Value) (hs : a.spot = none) (hI : ∀ j, j < cs.length → I a.block (a.off + j)) (hcell : ∀ j, j < cs.length → w.cell? ⟨a.block, a.off + j, none⟩ = some (f j))
      (h1 : ∀ j, j < cs.length → (f j).oneCell' = true) (hv : ∀ j (h : j < cs.length), VR0 I w (cs[j]) (f j)) : VR0 I w (.ref cs) (.pointer (some a))

theorem VR0.mono {I I' : Im} {w w' : World} (hI : ∀ b o, I b o → I' b o) (hw : ∀ b o, I b o → w'.cell? ⟨b, o, none⟩ = w.cell? ⟨b, o, none⟩) {d : D} {v : Value} (h : VR0 I w d v) : VR0 I' w' d v := by
  induction h with
  | undef => exact .undef
  | bool b => exact .bool b
  | int k n => exact .int k n
  | str s => exact .str s
  | nilsl => exact .nilsl
  | nilfn => exact .nilfn
  | nilptr => exact .nilptr
  | nilif => exact .nilif
  | nilmp => exact .nilmp
  | opq v h => exact .opq v h
  | sl sz f hn hc hex hm hsz hl hs hI' hcell h1 _ ih =>
    exact .sl sz f hn hc hex hm hsz hl hs (fun i j a b => hI _ _ (hI' i j a b)) (fun i j a b => (hw _ _ (hI' i j a b)).trans (hcell i j a b)) h1 (fun i h j h' => ih i h j h')
  | agg hl h1 _ ih => exact .agg hl h1 (fun i h => ih i h)
  | tup hl _ ih => exact .tup hl (fun i h => ih i h)
  | fn hl _ ih => exact .fn hl (fun i h => ih i h)
  | ref f hs hI' hcell h1 _ ih => exact .ref f hs (fun j h => hI _ _ (hI' j h)) (fun j h => (hw _ _ (hI' j h)).trans (hcell j h)) h1 (fun j h => ih j h)

/-- Lists of plain values. -/
def VR0L (I : Im) (w : World) (ds : List D) (vs : List Value) : Prop := ds.length = vs.length ∧ ∀ i (h : i < ds.length) (h' : i < vs.length), VR0 I w (ds[i]) (vs[i])

def HC.isV : HC → Bool
  | .vars _ | .fvars _ | .mp _ => true
  | _ => false
def HC.asArr : HC → Option (Nat × Nat × List (List D))
  | .arr sz g es | .farr sz g es => some (sz, g, es)
  | _ => none
/-- Is it still written? -/
def HC.live : HC → Bool
  | .vars _ | .arr .. | .mp _ => true
  | _ => false

abbrev Sg := Nat → Nat × Nat

/-- Any value. σ: where a thing of the store lies (its block; an array's room). -/
inductive VR (σ : Sg) (H : Hp) (I : Im) (w : World) : D → Value → Prop
  | imm {d : D} {v : Value} (h : VR0 I w d v) : VR σ H I w d v
  | box {k off : Nat} {c : HC} (h : H k = some c) (hv : c.isV = true) : VR σ H I w (.box k off) (.pointer (some ⟨(σ k).1, off, none⟩))
  | mp {k : Nat} {c : HC} (h : H k = some c) (hv : c.isV = true) : VR σ H I w (.mp k) (.map (some (σ k).1))
  | arr {k g n cap : Nat} {a : Addr} {hc : HC} {sz g0 : Nat} {es : List (List D)} (h : H k = some hc) (ha : hc.asArr = some (sz, g0, es)) (hg : g ≤ g0) (hat : g = g0 → a = ⟨(σ k).1, 0, none⟩ ∧ cap = (σ k).2) : VR σ H I w (.arr k g n) (.slice (some a) n cap)
  | aptr {k g i j : Nat} {a : Addr} {hc : HC} {sz g0 : Nat} {es : List (List D)} (h : H k = some hc) (ha : hc.asArr = some (sz, g0, es)) (hg : g ≤ g0) (hat : g = g0 → a = ⟨(σ k).1, i * sz + j, none⟩) : VR σ H I w (.aptr k g i j) (.pointer (some a))
  | agg {cs : List D} {vs : Array Value} (hl : cs.length = vs.size) (h1 : ∀ i (h : i < vs.size), (vs[i]).oneCell' = true) (hv : ∀ i (h : i < cs.length), VR σ H I w (cs[i]) (vs[i]'(hl ▸ h))) : VR σ H I w (.agg cs) (.agg vs)
  | tup {cs : List D} {vs : Array Value} (hl : cs.length = vs.size) (hv : ∀ i (h : i < cs.length), VR σ H I w (cs[i]) (vs[i]'(hl ▸ h))) : VR σ H I w (.tup cs) (.tuple vs)
  | fnS {f : FuncId} {cs : List D} {vs : Array Value} (hl : cs.length = vs.size) (hv : ∀ i (h : i < cs.length), VR σ H I w (cs[i]) (vs[i]'(hl ▸ h))) : VR σ H I w (.fnS f cs) (.func (.func f) #[] vs)

/-- How one key's thing may have turned. -/
structure KStep (σ σ' : Sg) (c : HC) (k : Nat) (c' : Option HC) : Prop where
  there : ∃ x, c' = some x ∧ (c.isV = true → x.isV = true ∧ (σ' k).1 = (σ k).1) ∧
    (∀ sz g es, c.asArr = some (sz, g, es) → ∃ g' es', x.asArr = some (sz, g', es') ∧ g ≤ g' ∧ (g = g' → σ' k = σ k))

theorem KStep.refl (σ : Sg) (c : HC) (k : Nat) : KStep σ σ c k (some c) := ⟨⟨c, rfl, fun h => ⟨h, rfl⟩, fun sz g es h => ⟨g, es, h, Nat.le_refl _, fun _ => rfl⟩⟩⟩
theorem KStep.same {σ σ' : Sg} {c : HC} {k : Nat} (h : σ' k = σ k) : KStep σ σ' c k (some c) := ⟨⟨c, rfl, fun hv => ⟨hv, by rw [h]⟩, fun sz g es ha => ⟨g, es, ha, Nat.le_refl _, fun _ => h⟩⟩⟩

theorem VR.step {σ σ' : Sg} {H H' : Hp} {I I' : Im} {w w' : World} (hI : ∀ b o, I b o → I' b o) (hw : ∀ b o, I b o → w'.cell? ⟨b, o, none⟩ = w.cell? ⟨b, o, none⟩)
    (hk : ∀ k c, H k = some c → KStep σ σ' c k (H' k)) {d : D} {v : Value} (h : VR σ H I w d v) : VR σ' H' I' w' d v := by
  induction h with
  | imm h => exact .imm (h.mono hI hw)
  | @box k off c h hv =>
    obtain ⟨x, hx, h1, _⟩ := (hk _ _ h).there
    rw [← (h1 hv).2]
    exact .box hx (h1 hv).1
  | @mp k c h hv =>
    obtain ⟨x, hx, h1, _⟩ := (hk _ _ h).there
    rw [← (h1 hv).2]
    exact .mp hx (h1 hv).1
  | @arr k g n cap a hc _ g0 es h ha hg hat =>
    obtain ⟨x, hx, _, h2⟩ := (hk _ _ h).there
    obtain ⟨g', es', ha', hle, hs⟩ := h2 _ _ _ ha
    refine .arr hx ha' (Nat.le_trans hg hle) (fun he => ?_)
    have h3 : g = g0 := by omega
    have h4 : g0 = g' := by omega
    rw [hs h4]
    exact hat h3
  | @aptr k g i j a hc _ g0 es h ha hg hat =>
    obtain ⟨x, hx, _, h2⟩ := (hk _ _ h).there
    obtain ⟨g', es', ha', hle, hs⟩ := h2 _ _ _ ha
    refine .aptr hx ha' (Nat.le_trans hg hle) (fun he => ?_)
    have h3 : g = g0 := by omega
    have h4 : g0 = g' := by omega
    rw [hs h4]
    exact hat h3
  | agg hl h1 _ ih => exact .agg hl h1 (fun i h => ih i h)
  | tup hl _ ih => exact .tup hl (fun i h => ih i h)
  | fnS hl _ ih => exact .fnS hl (fun i h => ih i h)

/-- What a program's part that is not ours knows of memory: a state, what it says, which blocks it is about. -/
structure Gh where
  G : Type
  J : G → World → Prop
  F : G → Nat → Prop
  keep : ∀ g w w', (∀ b, F g b → w'.heap[b]? = w.heap[b]?) → w.heap.size ≤ w'.heap.size → J g w → J g w'
  lt : ∀ g w b, J g w → F g b → b < w.heap.size

def noGh : Gh where
  G := Unit
  J := fun _ _ => True
  F := fun _ _ => False
  keep := fun _ _ _ _ _ _ => trivial
  lt := fun _ _ _ _ h => h.elim

/-- One thing of the store in memory. -/
def KeyOk (σ : Sg) (H : Hp) (I : Im) (w : World) (k : Nat) : HC → Prop
  | .vars cs => ∃ (t : TypeId) (vs : Array Value) (hl : cs.length = vs.size), w.heap[(σ k).1]? = some (.cells vs t (0, 0)) ∧ (∀ i (h : i < vs.size), (vs[i]).oneCell' = true) ∧ ∀ i (h : i < cs.length), VR σ H I w (cs[i]) (vs[i]'(hl ▸ h))
  | .fvars cs => ∃ f : Nat → Value, ∀ i (h : i < cs.length), I (σ k).1 i ∧ w.cell? ⟨(σ k).1, i, none⟩ = some (f i) ∧ (f i).oneCell' = true ∧ VR0 I w (cs[i]) (f i)
  | .arr sz _ es => 0 < sz ∧ (∀ c ∈ es, c.length = sz) ∧ ∃ (t : TypeId) (vs : Array Value), w.heap[(σ k).1]? = some (.cells vs t (0, 0)) ∧ vs.size = (σ k).2 * sz ∧ es.length ≤ (σ k).2 ∧ (σ k).2 ≤ maxLen ∧
      ∀ i (h : i < es.length) j (h' : j < (es[i]).length), ∃ v, vs[i * sz + j]? = some v ∧ v.oneCell' = true ∧ VR σ H I w ((es[i])[j]) v
  | .farr sz _ es => 0 < sz ∧ (∀ c ∈ es, c.length = sz) ∧ es.length ≤ (σ k).2 ∧ (σ k).2 ≤ maxLen ∧ ∃ f : Nat → Nat → Value,
      ∀ i (h : i < es.length) j (h' : j < (es[i]).length), I (σ k).1 (i * sz + j) ∧ w.cell? ⟨(σ k).1, i * sz + j, none⟩ = some (f i j) ∧ (f i j).oneCell' = true ∧ VR0 I w ((es[i])[j]) (f i j)
  | .mp es => ∃ (en : Array MapEntry) (clock : Nat) (hl : es.length = en.size), w.heap[(σ k).1]? = some (.map en clock) ∧ ∀ i (h : i < es.length), VR0 I w (es[i]).1 (en[i]'(hl ▸ h)).key ∧ VR σ H I w (es[i]).2 (en[i]'(hl ▸ h)).val

structure Inv (gh : Gh) (σ : Sg) (H : Hp) (I : Im) (g : gh.G) (w : World) : Prop where
  key : ∀ k c, H k = some c → KeyOk σ H I w k c
  lt : ∀ k, H k ≠ none → (σ k).1 < w.heap.size
  inj : ∀ k k', H k ≠ none → H k' ≠ none → (σ k).1 = (σ k').1 → k = k'
  imm : ∀ b o, I b o → ∃ v, w.cell? ⟨b, o, none⟩ = some v
  disj : ∀ b o k c, I b o → H k = some c → c.live = true → b ≠ (σ k).1
  ghost : gh.J g w
  ghostH : ∀ k b, H k ≠ none → gh.F g b → b ≠ (σ k).1
  ghostI : ∀ b o, I b o → ¬ gh.F g b

/-- One key's thing stays if its block, and what it points at, stay. -/
theorem KeyOk.step {σ σ' : Sg} {H H' : Hp} {I I' : Im} {w w' : World} {k : Nat} {c : HC} (h : KeyOk σ H I w k c) (hσ : σ' k = σ k) (hI : ∀ b o, I b o → I' b o) (hw : ∀ b o, I b o → w'.cell? ⟨b, o, none⟩ = w.cell? ⟨b, o, none⟩)
    (hk : ∀ k c, H k = some c → KStep σ σ' c k (H' k)) (hb : c.live = true → w'.heap[(σ k).1]? = w.heap[(σ k).1]?) : KeyOk σ' H' I' w' k c := by
  cases c with
  | vars cs =>
    obtain ⟨t, vs, hl, h1, h2, h3⟩ := h
    exact ⟨t, vs, hl, by rw [hσ, hb rfl]; exact h1, h2, fun i hi => (h3 i hi).step hI hw hk⟩
  | fvars cs =>
    obtain ⟨f, h1⟩ := h
    refine ⟨f, fun i hi => ?_⟩
    obtain ⟨a, b, c, d⟩ := h1 i hi
    rw [hσ]
    exact ⟨hI _ _ a, (hw _ _ a).trans b, c, d.mono hI hw⟩
  | arr sz g es =>
    obtain ⟨h0, h1, t, vs, h2, h3, h4, h5, h6⟩ := h
    refine ⟨h0, h1, t, vs, by rw [hσ, hb rfl]; exact h2, by rw [hσ]; exact h3, by rw [hσ]; exact h4, by rw [hσ]; exact h5, fun i hi j hj => ?_⟩
    obtain ⟨v, a, b, c⟩ := h6 i hi j hj
    exact ⟨v, a, b, c.step hI hw hk⟩
  | farr sz g es =>
    obtain ⟨h0, h1, h2, h3, f, h4⟩ := h
    refine ⟨h0, h1, by rw [hσ]; exact h2, by rw [hσ]; exact h3, f, fun i hi j hj => ?_⟩
    obtain ⟨a, b, c, d⟩ := h4 i hi j hj
    rw [hσ]
    exact ⟨hI _ _ a, (hw _ _ a).trans b, c, d.mono hI hw⟩
  | mp es =>
    obtain ⟨en, clock, hl, h1, h2⟩ := h
    exact ⟨en, clock, hl, by rw [hσ, hb rfl]; exact h1, fun i hi => ⟨(h2 i hi).1.mono hI hw, (h2 i hi).2.step hI hw hk⟩⟩

/-- A world that has grown, and in which the given block may have been written. -/
theorem cell_of_block {w w' : World} {b o : Nat} (h : w'.heap[b]? = w.heap[b]?) : w'.cell? ⟨b, o, none⟩ = w.cell? ⟨b, o, none⟩ := World.cell?_of_block (w := w) (a := ⟨b, o, none⟩) h

theorem Inv.ltI {gh : Gh} {σ : Sg} {H : Hp} {I : Im} {g : gh.G} {w : World} (h : Inv gh σ H I g w) {b o : Nat} (hi : I b o) : b < w.heap.size := by
  obtain ⟨v, hv⟩ := h.imm b o hi
  exact World.block_lt_of_cell? w ⟨b, o, none⟩ hv
end Go.VM
end

section
namespace Go.VM
open Go Go.RowKit

variable {gh : Gh}

/-- What a step leaves as it was. -/
structure StepOk (gh : Gh) (σ : Sg) (H : Hp) (I : Im) (g : gh.G) (w : World) (σ' : Sg) (H' : Hp) (I' : Im) (g' : gh.G) (w' : World) : Prop where
  hI : ∀ b o, I b o → I' b o
  hw : ∀ b o, I b o → w'.cell? ⟨b, o, none⟩ = w.cell? ⟨b, o, none⟩
  hk : ∀ k c, H k = some c → KStep σ σ' c k (H' k)
  size : w.heap.size ≤ w'.heap.size
  os : w'.os = w.os
  tape : w'.tape = w.tape
  output : w'.output = w.output
  blk : ∀ b, b < w.heap.size → ¬ gh.F g b → (∀ k, H k ≠ none → b ≠ (σ k).1) → w'.heap[b]? = w.heap[b]?
  newI : ∀ b o, I' b o → I b o ∨ w.heap.size ≤ b ∨ ∃ k, H k ≠ none ∧ b = (σ k).1
  newK : ∀ k, H' k ≠ none → w.heap.size ≤ (σ' k).1 ∨ (H k ≠ none ∧ (σ' k).1 = (σ k).1)
  newF : ∀ b, gh.F g' b → gh.F g b ∨ w.heap.size ≤ b

theorem StepOk.refl (σ : Sg) (H : Hp) (I : Im) (g : gh.G) (w : World) : StepOk gh σ H I g w σ H I g w :=
  ⟨fun _ _ h => h, fun _ _ _ => rfl, fun k c h => by rw [h]; exact .refl _ _ _, Nat.le_refl _, rfl, rfl, rfl, fun _ _ _ _ => rfl, fun _ _ h => .inl h, fun _ h => .inr ⟨h, rfl⟩, fun _ h => .inl h⟩

theorem KStep.trans {σ σ1 σ2 : Sg} {c : HC} {k : Nat} {c1 : HC} {x : Option HC} (h : KStep σ σ1 c k (some c1)) (h' : KStep σ1 σ2 c1 k x) : KStep σ σ2 c k x := by
  obtain ⟨y, hy, a, b⟩ := h.there
  obtain rfl := Option.some.inj hy
  obtain ⟨z, hz, a', b'⟩ := h'.there
  refine ⟨⟨z, hz, fun hv => ⟨(a' (a hv).1).1, (a' (a hv).1).2.trans (a hv).2⟩, fun sz g es ha => ?_⟩⟩
  obtain ⟨g1, e1, h1, l1, s1⟩ := b _ _ _ ha
  obtain ⟨g2, e2, h2, l2, s2⟩ := b' _ _ _ h1
  exact ⟨g2, e2, h2, Nat.le_trans l1 l2, fun he => (s2 (by omega)).trans (s1 (by omega))⟩

theorem StepOk.trans {σ σ1 σ2 : Sg} {H H1 H2 : Hp} {I I1 I2 : Im} {g g1 g2 : gh.G} {w w1 w2 : World} (h : StepOk gh σ H I g w σ1 H1 I1 g1 w1) (h' : StepOk gh σ1 H1 I1 g1 w1 σ2 H2 I2 g2 w2) : StepOk gh σ H I g w σ2 H2 I2 g2 w2 where
  hI := fun b o hi => h'.hI _ _ (h.hI _ _ hi)
  hw := fun b o hi => (h'.hw _ _ (h.hI _ _ hi)).trans (h.hw _ _ hi)
  hk := fun k c hc => by
    have a := h.hk k c hc
    obtain ⟨y, hy, _⟩ := a.there
    rw [hy] at a
    exact a.trans (h'.hk k y hy)
  size := Nat.le_trans h.size h'.size
  os := h'.os.trans h.os
  tape := h'.tape.trans h.tape
  output := h'.output.trans h.output
  blk := fun b hb hF hk => by
    have h1 := h.blk b hb hF hk
    refine (h'.blk b (Nat.lt_of_lt_of_le hb h.size) (fun hf => ?_) (fun k hk' => ?_)).trans h1
    · rcases h.newF b hf with x | x
      · exact hF x
      · omega
    · rcases h.newK k hk' with x | ⟨x, y⟩
      · omega
      · rw [y]; exact hk k x
  newI := fun b o hi => by
    rcases h'.newI b o hi with x | x | ⟨k, x, y⟩
    · exact h.newI b o x
    · exact .inr (.inl (Nat.le_trans h.size x))
    · rcases h.newK k x with z | ⟨z, u⟩
      · exact .inr (.inl (by omega))
      · exact .inr (.inr ⟨k, z, y.trans u⟩)
  newK := fun k hk => by
    rcases h'.newK k hk with x | ⟨x, y⟩
    · exact .inl (Nat.le_trans h.size x)
    · rcases h.newK k x with z | ⟨z, u⟩
      · exact .inl (by omega)
      · exact .inr ⟨z, y.trans u⟩
  newF := fun b hb => by
    rcases h'.newF b hb with x | x
    · exact h.newF b x
    · exact .inr (Nat.le_trans h.size x)

/-- One key is made, written or frozen. -/
theorem Inv.put {σ σ' : Sg} {H H' : Hp} {I I' : Im} {g : gh.G} {w w' : World} (h : Inv gh σ H I g w) (k : Nat) (c : HC)
    (hH : ∀ j, j ≠ k → H' j = H j) (hk : H' k = some c) (hσ : ∀ j, j ≠ k → σ' j = σ j) (hI : ∀ b o, I b o → I' b o)
    (hsz : w.heap.size ≤ w'.heap.size) (hos : w'.os = w.os) (htape : w'.tape = w.tape) (hout : w'.output = w.output)
    (hb : ∀ b, b < w.heap.size → (∀ c0, H k = some c0 → c0.live = true → b ≠ (σ k).1) → w'.heap[b]? = w.heap[b]?)
    (hkb : (σ' k).1 < w'.heap.size) (hnew : (H k ≠ none ∧ (σ' k).1 = (σ k).1) ∨ w.heap.size ≤ (σ' k).1)
    (hlive : c.live = true → ∀ c0, H k = some c0 → c0.live = true)
    (hst : ∀ c0, H k = some c0 → KStep σ σ' c0 k (some c))
    (hI' : ∀ b o, I' b o → I b o ∨ (b = (σ' k).1 ∧ c.live = false ∧ ∃ v, w'.cell? ⟨b, o, none⟩ = some v))
    (hkey : (∀ b o, I b o → w'.cell? ⟨b, o, none⟩ = w.cell? ⟨b, o, none⟩) → (∀ k c, H k = some c → KStep σ σ' c k (H' k)) → KeyOk σ' H' I' w' k c) :
    Inv gh σ' H' I' g w' ∧ StepOk gh σ H I g w σ' H' I' g w' := by
  have hw : ∀ b o, I b o → w'.cell? ⟨b, o, none⟩ = w.cell? ⟨b, o, none⟩ := fun b o hi => cell_of_block (hb b (h.ltI hi) (fun c0 h0 hl => h.disj b o k c0 hi h0 hl))
  have hks : ∀ j x, H j = some x → KStep σ σ' x j (H' j) := by
    intro j x hx
    by_cases hj : j = k
    · subst hj; rw [hk]; exact hst x hx
    · rw [hH j hj, hx]; exact .same (hσ j hj)
  have hne : ∀ j, j ≠ k → H j ≠ none → (σ' k).1 ≠ (σ j).1 := by
    intro j hj hjn he
    rcases hnew with ⟨a, b⟩ | a
    · exact hj (h.inj j k hjn a (by rw [← he, b]))
    · have := h.lt j hjn; omega
  have hnF : ∀ b, gh.F g b → b ≠ (σ' k).1 := by
    intro b hF he
    rcases hnew with ⟨a, b'⟩ | a
    · exact h.ghostH k b a hF (by rw [he, b'])
    · have := gh.lt g w b h.ghost hF; omega
  constructor
  · constructor
    · intro j x hx
      by_cases hj : j = k
      · subst hj
        rw [hk] at hx
        obtain rfl := Option.some.inj hx
        exact hkey hw hks
      · rw [hH j hj] at hx
        exact (h.key j x hx).step (hσ j hj) hI hw hks (fun hl => hb _ (h.lt j (by simp [hx])) (fun c0 h0 hl0 he => hj (h.inj j k (by simp [hx]) (by simp [h0]) he)))
    · intro j hj
      by_cases hjk : j = k
      · subst hjk; exact hkb
      · rw [hH j hjk] at hj
        rw [hσ j hjk]
        exact Nat.lt_of_lt_of_le (h.lt j hj) hsz
    · intro j j' hj hj' he
      by_cases hjk : j = k
      · subst hjk
        by_cases hjk' : j' = j
        · exact hjk'.symm
        · rw [hH j' hjk'] at hj'
          rw [hσ j' hjk'] at he
          exact absurd he (hne j' hjk' hj')
      · by_cases hjk' : j' = k
        · subst hjk'
          rw [hH j hjk] at hj
          rw [hσ j hjk] at he
          exact absurd he.symm (hne j hjk hj)
        · rw [hH j hjk] at hj
          rw [hH j' hjk'] at hj'
          rw [hσ j hjk, hσ j' hjk'] at he
          exact h.inj j j' hj hj' he
    · intro b o hi
      rcases hI' b o hi with x | ⟨_, _, x⟩
      · rw [hw b o x]; exact h.imm b o x
      · exact x
    · intro b o j x hi hx hl
      rcases hI' b o hi with y | ⟨y, z, _⟩
      · by_cases hj : j = k
        · subst hj
          rw [hk] at hx
          obtain rfl := Option.some.inj hx
          rcases hnew with ⟨a, b'⟩ | a
          · rw [b']
            obtain ⟨c0, h0⟩ := Option.ne_none_iff_exists'.1 a
            exact h.disj b o j c0 y h0 (hlive hl c0 h0)
          · have := h.ltI y; omega
        · rw [hH j hj] at hx
          rw [hσ j hj]
          exact h.disj b o j x y hx hl
      · by_cases hj : j = k
        · subst hj
          rw [hk] at hx
          obtain rfl := Option.some.inj hx
          rw [hl] at z; cases z
        · rw [hH j hj] at hx
          rw [hσ j hj, y]
          exact hne j hj (by simp [hx])
    · exact gh.keep g w w' (fun b hF => hb b (gh.lt g w b h.ghost hF) (fun c0 h0 _ => h.ghostH k b (by simp [h0]) hF)) hsz h.ghost
    · intro j b hj hF
      by_cases hjk : j = k
      · subst hjk; exact hnF b hF
      · rw [hH j hjk] at hj
        rw [hσ j hjk]
        exact h.ghostH j b hj hF
    · intro b o hi hF
      rcases hI' b o hi with x | ⟨x, _⟩
      · exact h.ghostI b o x hF
      · exact hnF b hF x
  · refine ⟨hI, hw, hks, hsz, hos, htape, hout, fun b hlt _ hk' => hb b hlt (fun c0 h0 _ => hk' k (by simp [h0])), fun b o hi => ?_, fun j hj => ?_, fun b hF => .inl hF⟩
    · rcases hI' b o hi with x | ⟨x, _⟩
      · exact .inl x
      · rcases hnew with ⟨a, b'⟩ | a
        · exact .inr (.inr ⟨k, a, x.trans b'⟩)
        · exact .inr (.inl (by omega))
    · by_cases hjk : j = k
      · subst hjk
        rcases hnew with a | a
        · exact .inr a
        · exact .inl a
      · rw [hH j hjk] at hj
        exact .inr ⟨hj, by rw [hσ j hjk]⟩

/-- Memory has grown; no key turned; the other part's memory may have. -/
theorem Inv.grow {σ : Sg} {H : Hp} {I I' : Im} {g g' : gh.G} {w w' : World} (h : Inv gh σ H I g w) (hI : ∀ b o, I b o → I' b o)
    (hsz : w.heap.size ≤ w'.heap.size) (hos : w'.os = w.os) (htape : w'.tape = w.tape) (hout : w'.output = w.output)
    (hb : ∀ b, b < w.heap.size → ¬ gh.F g b → w'.heap[b]? = w.heap[b]?)
    (hI' : ∀ b o, I' b o → I b o ∨ (w.heap.size ≤ b ∧ ¬ gh.F g' b ∧ ∃ v, w'.cell? ⟨b, o, none⟩ = some v))
    (hJ : gh.J g' w') (hF : ∀ b, gh.F g' b → gh.F g b ∨ w.heap.size ≤ b) :
    Inv gh σ H I' g' w' ∧ StepOk gh σ H I g w σ H I' g' w' := by
  have hw : ∀ b o, I b o → w'.cell? ⟨b, o, none⟩ = w.cell? ⟨b, o, none⟩ := fun b o hi => cell_of_block (hb b (h.ltI hi) (h.ghostI b o hi))
  have hks : ∀ j x, H j = some x → KStep σ σ x j (H j) := fun j x hx => by rw [hx]; exact .refl _ _ _
  constructor
  · constructor
    · intro j x hx
      exact (h.key j x hx).step rfl hI hw hks (fun _ => hb _ (h.lt j (by simp [hx])) (fun hf => h.ghostH j _ (by simp [hx]) hf rfl))
    · exact fun j hj => Nat.lt_of_lt_of_le (h.lt j hj) hsz
    · exact h.inj
    · intro b o hi
      rcases hI' b o hi with x | ⟨_, _, x⟩
      · rw [hw b o x]; exact h.imm b o x
      · exact x
    · intro b o j x hi hx hl
      rcases hI' b o hi with y | ⟨y, _⟩
      · exact h.disj b o j x y hx hl
      · have := h.lt j (by simp [hx]); omega
    · exact hJ
    · intro j b hj hf
      rcases hF b hf with x | x
      · exact h.ghostH j b hj x
      · have := h.lt j hj; omega
    · intro b o hi hf
      rcases hI' b o hi with x | ⟨_, x, _⟩
      · rcases hF b hf with y | y
        · exact h.ghostI b o x y
        · have := h.ltI x; omega
      · exact x hf
  · refine ⟨hI, hw, hks, hsz, hos, htape, hout, fun b hlt hf _ => hb b hlt hf, fun b o hi => ?_, fun j hj => .inr ⟨hj, rfl⟩, hF⟩
    rcases hI' b o hi with x | ⟨x, _⟩
    · exact .inl x
    · exact .inr (.inl x)
end Go.VM
end

section
namespace Go.VM
open Go Go.RowKit

variable {gh : Gh} {σ : Sg} {H H' : Hp} {I : Im} {g : gh.G} {w : World}

theorem cellAt {w : World} {b : Nat} {vs : Array Value} {t : TypeId} (h : w.heap[b]? = some (.cells vs t (0, 0))) (o : Nat) : w.cell? ⟨b, o, none⟩ = vs[o]? := cell_of_row w b o vs t (0, 0) h

theorem VR.box_inv {k off : Nat} {v : Value} (h : VR σ H I w (.box k off) v) : ∃ c, H k = some c ∧ c.isV = true ∧ v = .pointer (some ⟨(σ k).1, off, none⟩) := by
  cases h with
  | imm h => cases h
  | box h hv => exact ⟨_, h, hv, rfl⟩
theorem VR.arr_inv {k q n : Nat} {v : Value} (h : VR σ H I w (.arr k q n) v) : ∃ a cap hc sz g0 es, v = .slice (some a) n cap ∧ H k = some hc ∧ hc.asArr = some (sz, g0, es) ∧ q ≤ g0 ∧ (q = g0 → a = ⟨(σ k).1, 0, none⟩ ∧ cap = (σ k).2) := by
  cases h with
  | imm h => cases h
  | arr h ha hg hat => exact ⟨_, _, _, _, _, _, rfl, h, ha, hg, hat⟩
theorem VR.aptr_inv {k q i j : Nat} {v : Value} (h : VR σ H I w (.aptr k q i j) v) : ∃ a hc sz g0 es, v = .pointer (some a) ∧ H k = some hc ∧ hc.asArr = some (sz, g0, es) ∧ q ≤ g0 ∧ (q = g0 → a = ⟨(σ k).1, i * sz + j, none⟩) := by
  cases h with
  | imm h => cases h
  | aptr h ha hg hat => exact ⟨_, _, _, _, _, rfl, h, ha, hg, hat⟩

/-- The cells of an array's thing. -/
theorem arr_cells (h : Inv gh σ H I g w) {k : Nat} {hc : HC} {sz q : Nat} {es : List (List D)} (hk : H k = some hc) (ha : hc.asArr = some (sz, q, es)) :
    0 < sz ∧ (∀ c ∈ es, c.length = sz) ∧ es.length ≤ (σ k).2 ∧ (σ k).2 ≤ maxLen ∧ ∃ f : Nat → Nat → Value, ∀ i (hi : i < es.length) j (_ : j < (es[i]).length), w.cell? ⟨(σ k).1, i * sz + j, none⟩ = some (f i j) ∧ (f i j).oneCell' = true ∧ VR σ H I w ((es[i])[j]) (f i j) := by
  have hkey := h.key k hc hk
  cases hc with
  | vars cs => simp [HC.asArr] at ha
  | fvars cs => simp [HC.asArr] at ha
  | mp es => simp [HC.asArr] at ha
  | arr sz' q' es' =>
    simp only [HC.asArr, Option.some.injEq, Prod.mk.injEq] at ha
    obtain ⟨rfl, rfl, rfl⟩ := ha
    obtain ⟨h0, h1, t, vs, h2, h3, h4, h5, h6⟩ := hkey
    refine ⟨h0, h1, h4, h5, fun i j => (vs[i * sz' + j]?).getD Go.undef, fun i hi j hj => ?_⟩
    obtain ⟨v, a, b, c⟩ := h6 i hi j hj
    rw [cellAt h2]
    dsimp only
    rw [a]
    exact ⟨rfl, b, c⟩
  | farr sz' q' es' =>
    simp only [HC.asArr, Option.some.injEq, Prod.mk.injEq] at ha
    obtain ⟨rfl, rfl, rfl⟩ := ha
    obtain ⟨h0, h1, h4, h5, f, h6⟩ := hkey
    exact ⟨h0, h1, h4, h5, f, fun i hi j hj => ⟨(h6 i hi j hj).2.1, (h6 i hi j hj).2.2.1, .imm (h6 i hi j hj).2.2.2⟩⟩

/-- A pointer's cells, in memory. -/
theorem look_ok (h : Inv gh σ H I g w) {p : D} {v : Value} {cs : List D} (hv : VR σ H I w p v) (hl : look H p = some cs) :
    ∃ a : Addr, v = .pointer (some a) ∧ (a.spot = none) ∧ ∃ f : Nat → Value, ∀ j (hj : j < cs.length), w.cell? ⟨a.block, a.off + j, none⟩ = some (f j) ∧ (f j).oneCell' = true ∧ VR σ H I w (cs[j]) (f j) := by
  cases p with
  | ref cs' =>
    simp only [look, Option.some.injEq] at hl
    subst hl
    cases hv with
    | imm hv =>
      cases hv with
      | ref f hs hI hcell h1 hv => exact ⟨_, rfl, hs, f, fun j hj => ⟨hcell j hj, h1 j hj, .imm (hv j hj)⟩⟩
  | box k off =>
    obtain ⟨c, hc, hV, rfl⟩ := hv.box_inv
    have hkey := h.key k c hc
    simp only [look, hc] at hl
    cases c with
    | vars cs' =>
      simp only [Option.some.injEq] at hl
      subst hl
      obtain ⟨t, vs, hlen, h1, h2, h3⟩ := hkey
      refine ⟨_, rfl, rfl, fun j => (vs[off + j]?).getD Go.undef, fun j hj => ?_⟩
      simp only [List.length_drop] at hj
      have hlt : off + j < vs.size := by omega
      rw [cellAt h1]
      simp only [Array.getElem?_eq_getElem hlt, Option.getD_some, true_and, List.getElem_drop]
      exact ⟨h2 _ hlt, h3 _ (by omega)⟩
    | fvars cs' =>
      simp only [Option.some.injEq] at hl
      subst hl
      obtain ⟨f, h1⟩ := hkey
      refine ⟨_, rfl, rfl, fun j => f (off + j), fun j hj => ?_⟩
      simp only [List.length_drop] at hj
      obtain ⟨a, b, c, d⟩ := h1 (off + j) (by omega)
      refine ⟨b, c, ?_⟩
      simp only [List.getElem_drop]
      exact .imm d
    | arr _ _ _ => simp at hl
    | farr _ _ _ => simp at hl
    | mp _ => simp at hl
  | aptr k q i j =>
    obtain ⟨a, hc, sz, g0, es, rfl, hk, ha, hg, hat⟩ := hv.aptr_inv
    obtain ⟨h0, h1, h2, _, f, h3⟩ := arr_cells h hk ha
    have key : q = g0 → (es[i]?).map (·.drop j) = some cs → ∃ a' : Addr, Value.pointer (some a) = .pointer (some a') ∧ (a'.spot = none) ∧ ∃ f : Nat → Value, ∀ j (hj : j < cs.length), w.cell? ⟨a'.block, a'.off + j, none⟩ = some (f j) ∧ (f j).oneCell' = true ∧ VR σ H I w (cs[j]) (f j) := by
      intro he hm
      obtain ⟨c, hc1, hc2⟩ := Option.map_eq_some_iff.1 hm
      subst hc2
      obtain ⟨hi, hci⟩ := List.getElem?_eq_some_iff.1 hc1
      have hA := hat he
      refine ⟨a, rfl, by rw [hA], fun m => f i (j + m), fun m hm => ?_⟩
      simp only [List.length_drop] at hm
      have hm' : j + m < (es[i]).length := by rw [hci]; omega
      obtain ⟨x, y, z⟩ := h3 i hi (j + m) hm'
      rw [hA]
      refine ⟨by rw [Nat.add_assoc]; exact x, y, ?_⟩
      simp only [List.getElem_drop]
      have : (es[i])[j + m] = c[j + m]'(by omega) := by simp [hci]
      rw [this] at z
      exact z
    simp only [look, hk] at hl
    cases hc with
    | vars _ => simp [HC.asArr] at ha
    | fvars _ => simp [HC.asArr] at ha
    | mp _ => simp [HC.asArr] at ha
    | arr sz' q' es' =>
      simp only [HC.asArr, Option.some.injEq, Prod.mk.injEq] at ha
      obtain ⟨rfl, rfl, rfl⟩ := ha
      dsimp only at hl
      split at hl
      · exact key (by assumption) hl
      · simp at hl
    | farr sz' q' es' =>
      simp only [HC.asArr, Option.some.injEq, Prod.mk.injEq] at ha
      obtain ⟨rfl, rfl, rfl⟩ := ha
      dsimp only at hl
      split at hl
      · exact key (by assumption) hl
      · simp at hl
  | _ => simp [look] at hl

theorem Hp.set_same (H : Hp) (k : Nat) (c : HC) : (H.set k c) k = some c := by simp [Hp.set]
theorem Hp.set_other (H : Hp) {k j : Nat} (c : HC) (h : j ≠ k) : (H.set k c) j = H j := by simp [Hp.set, h]

theorem VR.plain1 {d : D} {v : Value} (h : VR σ H I w d v) (hp : d.plain1 = true) : VR0 I w d v := by
  cases h with
  | imm h => exact h
  | _ => simp [D.plain1] at hp

theorem VR.plainA {d : D} {v : Value} (h : VR σ H I w d v) (hp : d.plainA = true) : VR0 I w d v := by
  cases h with
  | imm h => exact h
  | agg hl h1 hv => exact .agg hl h1 fun i hi => (hv i hi).plain1 (by
      simp only [D.plainA, List.all_eq_true] at hp
      exact hp _ (List.getElem_mem hi))
  | _ => simp [D.plainA, D.plain1] at hp
theorem VR.plain {d : D} {v : Value} (h : VR σ H I w d v) (hp : d.plain = true) : VR0 I w d v := by
  cases h with
  | imm h => exact h
  | agg hl h1 hv => exact (VR.agg hl h1 hv).plainA hp
  | tup hl hv => exact .tup hl fun i hi => (hv i hi).plainA (by
      simp only [D.plain, List.all_eq_true] at hp
      exact hp _ (List.getElem_mem hi))
  | _ => simp [D.plain, D.plainA, D.plain1] at hp

theorem VR0.exact {ex : Bool} {es : List (List D)} {v : Value} (h : VR0 I w (.sl ex es) v) : VR0 I w (.sl false es) v := by
  cases h with
  | sl sz f hn hc hex hm hsz hl hs hI hcell h1 hv => exact .sl sz f hn hc (fun h => by cases h) hm hsz hl hs hI hcell h1 hv

theorem VR0.norm {d : D} {v : Value} (h : VR0 I w d v) : VR0 I w d.norm v := by
  cases d with
  | sl ex es => exact h.exact
  | _ => exact h

/-- A frozen array's slice is a plain value. -/
theorem farr_plain (h : Inv gh σ H I g w) {k q n sz : Nat} {es : List (List D)} {v : Value} (hv : VR σ H I w (.arr k q n) v) (hk : H k = some (.farr sz q es)) (hn : n ≤ es.length) : VR0 I w (.sl false (es.take n)) v := by
  obtain ⟨a, cap, hc', sz', g0', es', rfl, hk', ha', hg, hat⟩ := hv.arr_inv
  rw [hk] at hk'
  obtain rfl := Option.some.inj hk'
  simp only [HC.asArr, Option.some.injEq, Prod.mk.injEq] at ha'
  obtain ⟨rfl, rfl, rfl⟩ := ha'
  obtain ⟨rfl, rfl⟩ := hat rfl
  obtain ⟨h0, h1, h2, hm, f, h3⟩ := h.key k _ hk
  have hlen : ∀ i (hi : i < es.length), (es[i]).length = sz := fun i hi => h1 _ (List.getElem_mem hi)
  have at_ : ∀ i j, i < n → j < sz → ∀ (hi : i < es.length), j < (es[i]).length := fun i j _ hj hi => by rw [hlen i hi]; exact hj
  refine .sl sz f (by simp; omega) (by omega) (fun h => by cases h) hm h0 (fun i hi => ?_) (fun _ => rfl) (fun i j hi hj => ?_) (fun i j hi hj => ?_) (fun i j hi hj => ?_) (fun i hi j hj => ?_)
  · simp only [List.getElem_take]; exact hlen i (by simp at hi; omega)
  · simpa using (h3 i (by omega) j (at_ i j hi hj (by omega))).1
  · simpa using (h3 i (by omega) j (at_ i j hi hj (by omega))).2.1
  · exact (h3 i (by omega) j (at_ i j hi hj (by omega))).2.2.1
  · simp only [List.getElem_take] at hj ⊢
    exact (h3 i (by simp at hi; omega) j hj).2.2.2

/-- An array is frozen, what its elements are made of is plain. -/
theorem frzA (h : Inv gh σ H I g w) {k sz q : Nat} {es es' : List (List D)} (hk : H k = some (.arr sz q es)) (hl : es'.length = es.length) (hl2 : ∀ c ∈ es', c.length = sz)
    (hp : ∀ i (hi : i < es'.length) j (hj : j < (es'[i]).length) v, w.cell? ⟨(σ k).1, i * sz + j, none⟩ = some v → VR0 I w ((es'[i])[j]) v) :
    ∃ I', Inv gh σ (H.set k (.farr sz q es')) I' g w ∧ StepOk gh σ H I g w σ (H.set k (.farr sz q es')) I' g w ∧ ∀ {n : Nat} {v : Value}, VR σ H I w (.arr k q n) v → n ≤ es.length → VR0 I' w (.sl false (es'.take n)) v := by
  obtain ⟨h0, h1, h2, hm, f, h3⟩ := arr_cells h hk rfl
  let I' : Im := fun b o => I b o ∨ (b = (σ k).1 ∧ ∃ i j, i < es.length ∧ j < sz ∧ o = i * sz + j)
  have hlen : ∀ i (hi : i < es.length), (es[i]).length = sz := fun i hi => h1 _ (List.getElem_mem hi)
  have hlen' : ∀ i (hi : i < es'.length), (es'[i]).length = sz := fun i hi => hl2 _ (List.getElem_mem hi)
  have h3' : ∀ i j, i < es.length → j < sz → w.cell? ⟨(σ k).1, i * sz + j, none⟩ = some (f i j) ∧ (f i j).oneCell' = true := fun i j hi hj => by
    obtain ⟨a, b, _⟩ := h3 i hi j (by rw [hlen i hi]; exact hj)
    exact ⟨a, b⟩
  obtain ⟨p1, p2⟩ := h.put (σ' := σ) (H' := H.set k (.farr sz q es')) (I' := I') (w' := w) k (.farr sz q es') (fun j hj => Hp.set_other H _ hj) (Hp.set_same H k _) (fun _ _ => rfl) (fun b o x => .inl x)
    (Nat.le_refl _) rfl rfl rfl (fun _ _ _ => rfl) (h.lt k (by simp [hk])) (.inl ⟨by simp [hk], rfl⟩) (fun hl => by simp [HC.live] at hl)
    (fun c0 h0 => by rw [hk] at h0; obtain rfl := Option.some.inj h0; exact ⟨⟨_, rfl, fun hv => by simp [HC.isV] at hv, fun sz g es ha => by
      simp only [HC.asArr, Option.some.injEq, Prod.mk.injEq] at ha
      obtain ⟨rfl, rfl, rfl⟩ := ha
      exact ⟨_, _, rfl, Nat.le_refl _, fun _ => rfl⟩⟩⟩)
    (fun b o hi => by
      rcases hi with x | ⟨rfl, i, j, hi, hj, rfl⟩
      · exact .inl x
      · exact .inr ⟨rfl, rfl, _, (h3' i j hi hj).1⟩)
    (fun _ _ => ⟨h0, hl2, by omega, hm, f, fun i hi j hj => by
      have hj' : j < sz := by rw [hlen' i hi] at hj; exact hj
      have hi' : i < es.length := by omega
      exact ⟨.inr ⟨rfl, i, j, hi', hj', rfl⟩, (h3' i j hi' hj').1, (h3' i j hi' hj').2, (hp i hi j hj _ (h3' i j hi' hj').1).mono (fun _ _ x => .inl x) (fun _ _ _ => rfl)⟩⟩)
  refine ⟨I', p1, p2, fun {n v} hv hn => ?_⟩
  exact farr_plain p1 (hv.step p2.hI p2.hw p2.hk) (Hp.set_same H k _) (by omega)

/-- A list is frozen, one by one. -/
theorem frzL_gen {α β γ : Type} {f : Hp → α → Option (β × Hp)} {A : Hp → Im → α → γ → Prop} {B : Im → β → γ → Prop}
    (stepA : ∀ {H I H' I' a c}, StepOk gh σ H I g w σ H' I' g w → A H I a c → A H' I' a c) (stepB : ∀ {H I H' I' b c}, StepOk gh σ H I g w σ H' I' g w → B I b c → B I' b c)
    (hf : ∀ {H H' : Hp} {I : Im} {a : α} {b : β} {c : γ}, Inv gh σ H I g w → A H I a c → f H a = some (b, H') → ∃ I', Inv gh σ H' I' g w ∧ StepOk gh σ H I g w σ H' I' g w ∧ B I' b c) :
    ∀ (ds : List α) (vs : List γ) {H H' : Hp} {I : Im} {ds' : List β}, Inv gh σ H I g w → ds.length = vs.length → (∀ i (h : i < ds.length) (h' : i < vs.length), A H I (ds[i]) (vs[i])) → frzL f H ds = some (ds', H') →
      ∃ I', Inv gh σ H' I' g w ∧ StepOk gh σ H I g w σ H' I' g w ∧ ds'.length = vs.length ∧ ∀ i (h : i < ds'.length) (h' : i < vs.length), B I' ds'[i] vs[i]
  | [], vs, H, H', I, ds', h, hl, _, he => by
    simp only [frzL, Option.some.injEq, Prod.mk.injEq] at he
    obtain ⟨rfl, rfl⟩ := he
    exact ⟨I, h, .refl _ _ _ _ _, by simpa using hl, fun i hi => by simp at hi⟩
  | d :: ds, [], H, H', I, ds', h, hl, _, he => by simp at hl
  | d :: ds, v :: vs, H, H', I, ds', h, hl, hv, he => by
    simp only [frzL] at he
    obtain ⟨⟨d1, H1⟩, e1, he⟩ := Option.bind_eq_some_iff.1 he
    obtain ⟨⟨ds1, H2⟩, e2, he⟩ := Option.bind_eq_some_iff.1 he
    simp only [Option.some.injEq, Prod.mk.injEq] at he
    obtain ⟨rfl, rfl⟩ := he
    obtain ⟨I1, a1, b1, c1⟩ := hf h (hv 0 (by simp) (by simp)) e1
    obtain ⟨I2, a2, b2, c2, c3⟩ := frzL_gen (@stepA) (@stepB) (@hf) ds vs a1 (by simpa using hl) (fun i hi hi' => by
      have := hv (i + 1) (by simp; omega) (by simp; omega)
      simp only [List.getElem_cons_succ] at this
      exact stepA b1 this) e2
    refine ⟨I2, a2, b1.trans b2, by simp [c2], fun i hi hi' => ?_⟩
    cases i with
    | zero => exact stepB b2 c1
    | succ i => exact c3 i (by simpa using hi) (by simpa using hi')

theorem frzL_ok {f : Hp → D → Option (D × Hp)}
    (hf : ∀ {H H' : Hp} {I : Im} {d d' : D} {v : Value}, Inv gh σ H I g w → VR σ H I w d v → f H d = some (d', H') → ∃ I', Inv gh σ H' I' g w ∧ StepOk gh σ H I g w σ H' I' g w ∧ VR0 I' w d' v)
    (ds : List D) (vs : List Value) {H H' : Hp} {I : Im} {ds' : List D} (h : Inv gh σ H I g w) (hl : ds.length = vs.length) (hv : ∀ i (h : i < ds.length) (h' : i < vs.length), VR σ H I w (ds[i]) (vs[i])) (he : frzL f H ds = some (ds', H')) :
      ∃ I', Inv gh σ H' I' g w ∧ StepOk gh σ H I g w σ H' I' g w ∧ VR0L I' w ds' vs := by
  obtain ⟨I', a, b, c, d⟩ := frzL_gen (A := fun H I d v => VR σ H I w d v) (B := fun I d v => VR0 I w d v) (fun s x => x.step s.hI s.hw s.hk) (fun s x => x.mono s.hI s.hw) hf ds vs h hl hv he
  exact ⟨I', a, b, c, d⟩

theorem frz1_ok : ∀ (m : Nat) {H H' : Hp} {I : Im} {d d' : D} {v : Value}, Inv gh σ H I g w → VR σ H I w d v → frz1 m H d = some (d', H') →
    ∃ I', Inv gh σ H' I' g w ∧ StepOk gh σ H I g w σ H' I' g w ∧ VR0 I' w d' v := by
  have dflt : ∀ {H H' : Hp} {I : Im} {d d' : D} {v : Value}, Inv gh σ H I g w → VR σ H I w d v → (if d.plain1 then some (d.norm, H) else none) = some (d', H') → ∃ I', Inv gh σ H' I' g w ∧ StepOk gh σ H I g w σ H' I' g w ∧ VR0 I' w d' v := by
    intro H H' I d d' v h hv hf
    split at hf
    · rename_i hp
      simp only [Option.some.injEq, Prod.mk.injEq] at hf
      obtain ⟨rfl, rfl⟩ := hf
      exact ⟨I, h, .refl _ _ _ _ _, (hv.plain1 hp).norm⟩
    · simp at hf
  intro m
  induction m with
  | zero => exact fun h hv hf => dflt h hv hf
  | succ m ih =>
    intro H H' I d d' v h hv hf
    cases d with
    | arr k q n =>
      obtain ⟨a, cap, hc, sz, g0, es, rfl, hk, ha, hg, hat⟩ := hv.arr_inv
      simp only [frz1, hk] at hf
      cases hc with
      | vars _ => simp [HC.asArr] at ha
      | fvars _ => simp [HC.asArr] at ha
      | mp _ => simp [HC.asArr] at ha
      | farr sz' q' es' =>
        dsimp only at hf
        split at hf
        · rename_i hcond
          obtain ⟨rfl, hn⟩ := hcond
          simp only [Option.some.injEq, Prod.mk.injEq] at hf
          obtain ⟨rfl, rfl⟩ := hf
          exact ⟨I, h, .refl _ _ _ _ _, farr_plain h hv hk hn⟩
        · simp at hf
      | arr sz' q' es' =>
        dsimp only at hf
        split at hf
        · rename_i hcond
          obtain ⟨rfl, hn⟩ := hcond
          obtain ⟨h0, h1, h2, hm, f, h3⟩ := arr_cells h hk rfl
          split at hf
          · rename_i hall
            simp only [Option.some.injEq, Prod.mk.injEq] at hf
            obtain ⟨rfl, rfl⟩ := hf
            obtain ⟨I', x, y, z⟩ := frzA h hk rfl h1 (fun i hi j hj v hv' => by
              obtain ⟨a1, a2, a3⟩ := h3 i hi j hj
              rw [a1] at hv'
              obtain rfl := Option.some.inj hv'
              have h4 := List.all_eq_true.1 hall _ (List.getElem_mem hi)
              have h5 := List.all_eq_true.1 h4 _ (List.getElem_mem hj)
              exact a3.plain1 h5)
            exact ⟨I', x, y, z hv hn⟩
          · obtain ⟨⟨es1, H1⟩, e1, hf⟩ := Option.bind_eq_some_iff.1 hf
            simp only at hf
            let rowOf : Nat → List Value := fun i => (List.range sz').map (f i)
            obtain ⟨I1, a1, b1, c1, c2⟩ := frzL_gen (A := fun H I (row : List D) (vs : List Value) => row.length = vs.length ∧ ∀ i (h : i < row.length) (h' : i < vs.length), VR σ H I w row[i] vs[i]) (B := fun I row vs => VR0L I w row vs)
              (fun s x => ⟨x.1, fun i hi hi' => (x.2 i hi hi').step s.hI s.hw s.hk⟩) (fun s x => ⟨x.1, fun i hi hi' => (x.2 i hi hi').mono s.hI s.hw⟩)
              (fun {H H' I row row' vs} hh hr hq => frzL_ok (f := frz1 m) (fun a b c => ih a b c) row vs hh hr.1 hr.2 hq) es' ((List.range es'.length).map rowOf) h (by simp) (fun i hi hi' => by
                have hl := h1 _ (List.getElem_mem hi)
                refine ⟨by simp [rowOf, hl], fun j hj hj' => ?_⟩
                simp only [List.getElem_map, List.getElem_range, rowOf]
                exact (h3 i hi j hj).2.2) e1
            split at hf
            · rename_i sz2 q2 es2 hk1
              split at hf
              · rename_i hc2
                obtain ⟨rfl, rfl, hl2⟩ := hc2
                simp only [Option.some.injEq, Prod.mk.injEq] at hf
                obtain ⟨rfl, rfl⟩ := hf
                have hl1 : es1.length = es'.length := by simpa using c1
                have hrow : ∀ i (hi : i < es1.length), VR0L I1 w es1[i] (rowOf i) := fun i hi => by
                  have := c2 i hi (by simp; omega)
                  simpa using this
                obtain ⟨I', x, y, z⟩ := frzA a1 hk1 (es' := es1) (by omega) (fun c hc => by
                    obtain ⟨i, hi, rfl⟩ := List.getElem_of_mem hc
                    simpa [rowOf] using (hrow i hi).1) (fun i hi j hj v hv' => by
                  have hr := hrow i hi
                  have hj' : j < sz2 := by have := hr.1; simp [rowOf] at this; omega
                  have hi' : i < es'.length := by omega
                  have hj2 : j < (es'[i]).length := by rw [h1 _ (List.getElem_mem hi')]; exact hj'
                  rw [(h3 i hi' j hj2).1] at hv'
                  obtain rfl := Option.some.inj hv'
                  have := hr.2 j hj (by simp [rowOf]; exact hj')
                  simpa [rowOf] using this)
                exact ⟨I', x, b1.trans y, z (hv.step b1.hI b1.hw b1.hk) (by omega)⟩
              · simp at hf
            · simp at hf
        · simp at hf
    | _ => exact dflt h hv (by simpa only [frz1] using hf)

theorem frz_ok (h : Inv gh σ H I g w) {d d' : D} {v : Value} (hv : VR σ H I w d v) (hf : frz H d = some (d', H')) :
    ∃ I', Inv gh σ H' I' g w ∧ StepOk gh σ H I g w σ H' I' g w ∧ VR0 I' w d' v := by
  have dflt : frz1 3 H d = some (d', H') → ∃ I', Inv gh σ H' I' g w ∧ StepOk gh σ H I g w σ H' I' g w ∧ VR0 I' w d' v := fun hf => frz1_ok 3 h hv hf
  cases d with
  | box k off =>
    obtain ⟨c, hc, hV, rfl⟩ := hv.box_inv
    have hkey := h.key k c hc
    simp only [frz, hc] at hf
    cases c with
    | arr _ _ _ => simp at hf
    | farr _ _ _ => simp at hf
    | mp _ => simp at hf
    | fvars cs =>
      simp only [Option.some.injEq, Prod.mk.injEq] at hf
      obtain ⟨rfl, rfl⟩ := hf
      obtain ⟨f, h1⟩ := hkey
      refine ⟨I, h, .refl _ _ _ _ _, .ref (fun j => f (off + j)) rfl (fun j hj => ?_) (fun j hj => ?_) (fun j hj => ?_) (fun j hj => ?_)⟩
      · simp only [List.length_drop] at hj; exact (h1 (off + j) (by omega)).1
      · simp only [List.length_drop] at hj; exact (h1 (off + j) (by omega)).2.1
      · simp only [List.length_drop] at hj; exact (h1 (off + j) (by omega)).2.2.1
      · simp only [List.length_drop] at hj; simp only [List.getElem_drop]; exact (h1 (off + j) (by omega)).2.2.2
    | vars cs =>
      obtain ⟨t, vs, hlen, h1, h2, h3⟩ := hkey
      obtain ⟨⟨cs1, H1⟩, e1, he⟩ := Option.bind_eq_some_iff.1 hf
      simp only [Option.some.injEq, Prod.mk.injEq] at he
      obtain ⟨rfl, rfl⟩ := he
      obtain ⟨I1, a1, b1, c1⟩ := frzL_ok (f := frz1 3) (fun hh hv hf => frz1_ok 3 hh hv hf) cs vs.toList h (by simpa using hlen) (fun i hi hi' => by simpa using h3 i hi) e1
      have hH1 : ∃ x, H1 k = some x ∧ x.isV = true := by
        obtain ⟨x, hx, hv, _⟩ := (b1.hk k _ hc).there
        exact ⟨x, hx, (hv rfl).1⟩
      obtain ⟨x, hx, hxV⟩ := hH1
      have hl1 : cs1.length = vs.size := by simpa using c1.1
      let I' : Im := fun b o => I1 b o ∨ (b = (σ k).1 ∧ o < vs.size)
      have hcell : ∀ o (ho : o < vs.size), w.cell? ⟨(σ k).1, o, none⟩ = some vs[o] := fun o ho => by rw [cellAt h1, Array.getElem?_eq_getElem ho]
      obtain ⟨p1, p2⟩ := a1.put (σ' := σ) (H' := H1.set k (.fvars cs1)) (I' := I') (w' := w) k (.fvars cs1) (fun j hj => Hp.set_other _ _ hj) (Hp.set_same _ k _) (fun _ _ => rfl) (fun b o x => .inl x)
          (Nat.le_refl _) rfl rfl rfl (fun _ _ _ => rfl) (a1.lt k (by simp [hx])) (.inl ⟨by simp [hx], rfl⟩) (fun hl => by simp [HC.live] at hl)
          (fun c0 h0 => by rw [hx] at h0; obtain rfl := Option.some.inj h0; exact ⟨⟨_, rfl, fun _ => ⟨rfl, rfl⟩, fun sz g es ha => by cases x <;> simp [HC.isV, HC.asArr] at hxV ha⟩⟩)
          (fun b o hi => by
            rcases hi with x | ⟨rfl, ho⟩
            · exact .inl x
            · exact .inr ⟨rfl, rfl, _, hcell o ho⟩)
          (fun _ _ => ⟨fun i => (vs[i]?).getD Go.undef, fun i hi => by
            have hi' : i < vs.size := by omega
            refine ⟨.inr ⟨rfl, hi'⟩, ?_, ?_, ?_⟩
            · dsimp only; rw [hcell i hi', Array.getElem?_eq_getElem hi']; rfl
            · dsimp only; rw [Array.getElem?_eq_getElem hi']; exact h2 i hi'
            · have := c1.2 i hi (by simpa using hi')
              simp only [Array.getElem_toList] at this
              dsimp only
              rw [Array.getElem?_eq_getElem hi']
              exact this.mono (fun _ _ x => .inl x) (fun _ _ _ => rfl)⟩)
      have hd : ∀ j, j < (cs1.drop off).length → off + j < vs.size ∧ off + j < cs1.length := fun j hj => by
        simp only [List.length_drop] at hj
        omega
      have hg : ∀ o (ho : o < vs.size), (vs[o]?).getD Go.undef = vs[o] := fun o ho => by rw [Array.getElem?_eq_getElem ho]; rfl
      refine ⟨I', p1, b1.trans p2, .ref (fun j => (vs[off + j]?).getD Go.undef) rfl (fun j hj => .inr ⟨rfl, (hd j hj).1⟩) (fun j hj => ?_) (fun j hj => ?_) (fun j hj => ?_)⟩
      · show w.cell? ⟨(σ k).1, off + j, none⟩ = some ((vs[off + j]?).getD Go.undef)
        rw [hcell _ (hd j hj).1, hg _ (hd j hj).1]
      · show ((vs[off + j]?).getD Go.undef).oneCell' = true
        rw [hg _ (hd j hj).1]; exact h2 _ (hd j hj).1
      · have := c1.2 (off + j) (hd j hj).2 (by simpa using (hd j hj).1)
        simp only [Array.getElem_toList] at this
        show VR0 I' w ((cs1.drop off)[j]) ((vs[off + j]?).getD Go.undef)
        rw [hg _ (hd j hj).1, List.getElem_drop]
        exact this.mono (fun _ _ x => .inl x) (fun _ _ _ => rfl)
  | agg cs =>
    simp only [frz] at hf
    obtain ⟨⟨cs1, H1⟩, e1, he⟩ := Option.bind_eq_some_iff.1 hf
    simp only [Option.some.injEq, Prod.mk.injEq] at he
    obtain ⟨rfl, rfl⟩ := he
    obtain ⟨vs, rfl, hl, h1, h3⟩ : ∃ vs, v = .agg vs ∧ ∃ hl : cs.length = vs.size, (∀ i (h : i < vs.size), (vs[i]).oneCell' = true) ∧ ∀ i (h : i < cs.length), VR σ H I w (cs[i]) (vs[i]'(hl ▸ h)) := by
      cases hv with
      | imm hv => cases hv with
        | agg hl h1 hv => exact ⟨_, rfl, hl, h1, fun i hi => .imm (hv i hi)⟩
      | agg hl h1 hv => exact ⟨_, rfl, hl, h1, hv⟩
    obtain ⟨I1, a1, b1, c1⟩ := frzL_ok (f := frz1 3) (fun hh hv hf => frz1_ok 3 hh hv hf) cs vs.toList h (by simpa using hl) (fun i hi hi' => by simpa using h3 i hi) e1
    refine ⟨I1, a1, b1, .agg (by simpa using c1.1) h1 (fun i hi => ?_)⟩
    have := c1.2 i hi (by rw [← c1.1]; exact hi)
    simpa using this
  | tup vs =>
    simp only [frz] at hf
    split at hf
    · simp only [Option.some.injEq, Prod.mk.injEq] at hf
      obtain ⟨rfl, rfl⟩ := hf
      exact ⟨I, h, .refl _ _ _ _ _, hv.plain (by assumption)⟩
    · simp at hf
  | _ => exact dflt (by simpa only [frz] using hf)
end Go.VM
end
