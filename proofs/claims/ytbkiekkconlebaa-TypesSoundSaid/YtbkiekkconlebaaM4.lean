/-
  Stepping through code of the small machine; the library's functions. No condition.
-/
import Derived.Test.YtbkiekkconlebaaM3
import Derived.IntWalk
import Derived.Laws.Externs
import Derived.Lib.Bytealg
import GoSem.Extern.BytealgCompare
set_option linter.all false
section
namespace Go.VM
open Go

section
variable {G : Type} (pc : Pc G)
/-- What code comes to. -/
def Wp (c : VCode) (st : St G) (Q : Ex → St G → Prop) : Prop := ∃ ex st', den pc lpL c st = some (ex, st') ∧ Q ex st'
def WpO (ops : List VOper) (st : St G) (Q : St G → Prop) : Prop := ∃ st', runOps pc ops st = some st' ∧ Q st'
end
section
variable {G : Type} {pc : Pc G} {st : St G} {Q : Ex → St G → Prop}
theorem Wp.skip (h : Q .normal st) : Wp pc .skip st Q := ⟨_, _, rfl, h⟩
theorem Wp.ret (h : Q .ret st) : Wp pc .ret st Q := ⟨_, _, rfl, h⟩
theorem Wp.exit {i : Nat} (h : Q (.exit i) st) : Wp pc (.exit i) st Q := ⟨_, _, rfl, h⟩
theorem Wp.mono {c : VCode} {Q' : Ex → St G → Prop} (h : Wp pc c st Q) (hQ : ∀ ex st', Q ex st' → Q' ex st') : Wp pc c st Q' := by
  obtain ⟨ex, st', h1, h2⟩ := h
  exact ⟨ex, st', h1, hQ _ _ h2⟩
/-- What follows a part. -/
def andThen (pc : Pc G) (b : VCode) (Q : Ex → St G → Prop) : Ex → St G → Prop
  | .normal, st => Wp pc b st Q
  | ex, st => Q ex st
def inBlock (id : Nat) (Q : Ex → St G → Prop) : Ex → St G → Prop
  | .exit j, st => if j = id then Q .normal st else Q (.exit j) st
  | ex, st => Q ex st
theorem Wp.seq {a b : VCode} (h : Wp pc a st (andThen pc b Q)) : Wp pc (.seq a b) st Q := by
  obtain ⟨ex, st', h1, h2⟩ := h
  cases ex with
  | normal =>
    obtain ⟨ex2, st2, h3, h4⟩ := h2
    exact ⟨ex2, st2, by simp only [den, h1, Option.bind_some, h3], h4⟩
  | exit j => exact ⟨_, _, by simp only [den, h1, Option.bind_some], h2⟩
  | ret => exact ⟨_, _, by simp only [den, h1, Option.bind_some], h2⟩
theorem Wp.block {id : Nat} {c : VCode} (h : Wp pc c st (inBlock id Q)) : Wp pc (.block id c) st Q := by
  obtain ⟨ex, st', h1, h2⟩ := h
  cases ex with
  | normal => exact ⟨_, _, by simp only [den, h1, Option.bind_some], h2⟩
  | exit j =>
    simp only [inBlock] at h2
    by_cases hj : j = id
    · rw [if_pos hj] at h2
      exact ⟨_, _, by simp only [den, h1, Option.bind_some]; rw [if_pos hj], h2⟩
    · rw [if_neg hj] at h2
      exact ⟨_, _, by simp only [den, h1, Option.bind_some]; rw [if_neg hj], h2⟩
  | ret => exact ⟨_, _, by simp only [den, h1, Option.bind_some], h2⟩
theorem Wp.cond {x : Opd} {a b : VCode} {t : Bool} (h : x.ev st.env = some (.bool t)) (ha : t = true → Wp pc a st Q) (hb : t = false → Wp pc b st Q) : Wp pc (.cond x a b) st Q := by
  cases t with
  | true =>
    obtain ⟨ex, st', h1, h2⟩ := ha rfl
    exact ⟨ex, st', by simp only [den, h, if_true]; exact h1, h2⟩
  | false =>
    obtain ⟨ex, st', h1, h2⟩ := hb rfl
    exact ⟨ex, st', by simp only [den, h, Bool.false_eq_true, if_false]; exact h1, h2⟩
theorem Wp.region {ops : List VOper} {st' : St G} (h : runOps pc ops st = some st') (hQ : Q .normal st') : Wp pc (.region ops false) st Q := ⟨_, _, by simp only [den, Bool.false_eq_true, if_false, h, Option.bind_some], hQ⟩
theorem Wp.regionO {ops : List VOper} (h : WpO pc ops st (Q .normal)) : Wp pc (.region ops false) st Q := by
  obtain ⟨st', h1, h2⟩ := h
  exact .region h1 h2
theorem WpO.nil {Q : St G → Prop} (h : Q st) : WpO pc [] st Q := ⟨_, rfl, h⟩
theorem WpO.cons {o : VOper} {os : List VOper} {Q : St G → Prop} {st' : St G} {e : Eff} (h : runOp pc o st = some (st', e)) (hQ : WpO pc os st' Q) : WpO pc (o :: os) st Q := by
  obtain ⟨st2, h1, h2⟩ := hQ
  exact ⟨st2, by simp only [runOps, h, Option.bind_some, h1], h2⟩
theorem Wp.draw {ops : List VOper} {st' : St G} (h : runDraw pc ops st = some st') (hQ : Q .normal st') : Wp pc (.region ops true) st Q := ⟨_, _, by simp only [den, if_true, h, Option.bind_some], hQ⟩
/-- A loop: what holds at its head holds there again, with less to do. -/
theorem Wp.loop {keep : Option (List Nat × List Nat)} {c : VCode} {Inv : Nat → St G → Prop}
    (hround : ∀ n st, Inv n st → ∃ st1, atHead keep st = some st1 ∧ Wp pc c st1 (fun ex st' => match ex with | .normal => ∃ m, m < n ∧ Inv m st' | ex => Q ex st')) {n : Nat} (h : Inv n st) : Wp pc (.loop keep c) st Q := by
  have : ∀ n st, Inv n st → ∃ ex st', lpL (den pc lpL c) (atHead keep) st = some (ex, st') ∧ Q ex st' := by
    intro n
    induction n using Nat.strongRecOn with
    | ind n ih =>
      intro st h
      obtain ⟨st1, h1, ex, st2, h2, h3⟩ := hround n st h
      cases ex with
      | normal =>
        obtain ⟨m, hm, h4⟩ := h3
        obtain ⟨ex, st3, h5, h6⟩ := ih m hm st2 h4
        exact ⟨ex, st3, lpL_round h1 h2 h5, h6⟩
      | exit j => exact ⟨_, _, lpL_round h1 h2 rfl, h3⟩
      | ret => exact ⟨_, _, lpL_round h1 h2 rfl, h3⟩
  obtain ⟨ex, st', h1, h2⟩ := this n st h
  exact ⟨ex, st', by simp only [den]; exact h1, h2⟩

/-- A function's answer, by its body. -/
theorem body_of {vf : VFunc} {as : List D} {g : G} {r : D × G} (ha : as.all D.plain = true) (hl : as.length ≤ vf.ntmps)
    (h : Wp pc vf.body ⟨args0 as, fun _ => none, (roomKeys, g), 0⟩ (fun ex st' => (match ex with | .exit _ => False | _ => True) ∧ resultD st' vf.results = some r.1 ∧ r.1.plain = true ∧ st'.g.2 = r.2)) : bodyD pc lpL vf as g = some r := by
  obtain ⟨ex, st', h1, h2, h3, h4, h5⟩ := h
  unfold bodyD
  rw [if_pos ⟨ha, hl⟩, h1, Option.bind_some]
  cases ex with
  | exit j => exact absurd h2 (by simp)
  | normal => simp only [h3, Option.bind_some]; rw [if_pos h4, h5]
  | ret => simp only [h3, Option.bind_some]; rw [if_pos h4, h5]
end
end Go.VM
end

section
namespace Go.VM
open Go

/-! ### Values by constructors that are looked through -/
def SlOf.ln {A : Type} : SlOf A → Nat := fun x => x.list.length
/-- A slice. -/
def slD {A : Type} (enc : A → List D) : SlOf A → D
  | .nil => .nilsl
  | .of l _ => .sl false (l.map enc)

section
variable {G : Type} {pc : Pc G} {dst : Option Nat} {e : Env} {H : Hp} {g : Nat × G}

def okO (x : Option D) (H : Hp) (g : Nat × G) : Option (Res G) := x.bind fun d => okD d H g
theorem okO_some {d : D} : okO (some d) H g = some ⟨d, H, g, .none⟩ := rfl

def consO (x : Option D) (xs : Option (List D)) : Option (List D) := x.bind fun d => xs.bind fun ds => some (d :: ds)
theorem consO_some {d : D} {ds : List D} : consO (some d) (some ds) = some (d :: ds) := rfl
theorem evL_nil : Opd.evL e [] = some [] := rfl
theorem evL_cons {x : Opd} {xs : List Opd} : Opd.evL e (x :: xs) = consO (x.ev e) (Opd.evL e xs) := rfl
theorem ev_t {n : Nat} : (Opd.t n).ev e = e n := rfl
theorem ev_c {d : D} : (Opd.c d).ev e = some d := rfl

theorem set_eq {k j : Nat} {d : D} : (e.set k d) j = if j = k then some d else e j := rfl
theorem put_some {k : Nat} {d : D} : e.put (some k) d = e.set k d := rfl
theorem put_none {d : D} : e.put none d = e := rfl
theorem hset_eq {k j : Nat} {c : HC} : (H.set k c) j = if j = k then some c else H j := rfl

theorem act_mov {x : Opd} : act pc dst (.mov x) e H g = okO (x.ev e) H g := rfl

def pickO (c a b : Option D) : Option D := match c with | some (.bool t) => (if t then a else b) | _ => none
theorem pickO_true {a b : Option D} : pickO (some (.bool true)) a b = a := rfl
theorem pickO_false {a b : Option D} : pickO (some (.bool false)) a b = b := rfl
theorem act_pick {c a b : Opd} : act pc dst (.pick c a b) e H g = okO (pickO (c.ev e) (a.ev e) (b.ev e)) H g := by
  simp only [act, okO, pickO]
  cases c.ev e with
  | none => rfl
  | some d => cases d <;> rfl

def newO (old : Option HC) (k : Nat) (c : HC) (d : D) (H : Hp) (g : Nat × G) : Option (Res G) := match old with | none => some ⟨d, H.set k c, g, .new⟩ | some _ => none
theorem newO_none {k : Nat} {c : HC} {d : D} : newO none k c d H g = some ⟨d, H.set k c, g, .new⟩ := rfl
theorem act_alloc {k : Nat} {zs : List D} : act pc (some k) (.alloc zs) e H g = newO (H k) k (.vars zs) (.box k 0) H g := by
  simp only [act, Option.bind_some]
  obtain h | ⟨c, h⟩ : H k = none ∨ ∃ c, H k = some c := by
    rcases H k with _ | c
    · exact .inl rfl
    · exact .inr ⟨c, rfl⟩
  · simp [newO, hdef, h]
  · simp [newO, hdef, h]
theorem act_mkmap {k : Nat} : act pc (some k) .mkmap e H g = newO (H k) k (.mp []) (.mp k) H g := by
  simp only [act, Option.bind_some]
  obtain h | ⟨c, h⟩ : H k = none ∨ ∃ c, H k = some c := by
    rcases H k with _ | c
    · exact .inl rfl
    · exact .inr ⟨c, rfl⟩
  · simp [newO, hdef, h]
  · simp [newO, hdef, h]
def bxO (x : Option D) (k : Nat) (H : Hp) (g : Nat × G) : Option (Res G) := x.bind fun d => if d.cells.all D.cellOk then newO (H k) k (.vars d.cells) (.box k 0) H g else none
theorem bxO_some {d : D} {k : Nat} : bxO (some d) k H g = if d.cells.all D.cellOk then newO (H k) k (.vars d.cells) (.box k 0) H g else none := rfl
theorem act_bx {k : Nat} {x : Opd} : act pc (some k) (.bx x) e H g = bxO (x.ev e) k H g := by
  simp only [act, Option.bind_some, bxO]
  cases x.ev e with
  | none => rfl
  | some d =>
    simp only [Option.bind_some]
    obtain h | ⟨c, h⟩ : H k = none ∨ ∃ c, H k = some c := by
      rcases H k with _ | c
      · exact .inl rfl
      · exact .inr ⟨c, rfl⟩
    · by_cases h2 : d.cells.all D.cellOk = true <;> simp [newO, hdef, h, h2]
    · by_cases h2 : d.cells.all D.cellOk = true <;> simp [newO, hdef, h, h2]

def buildO (zero : List D) (parts : List (Nat × Nat × Opd)) (ds : Option (List D)) : Option D := ds.bind fun ds => (setParts zero ((parts.zip ds).map fun p => (p.1.1, p.1.2.1, p.2))).map .agg
def pairUp (parts : List (Nat × Nat × Opd)) (ds : List D) : List (Nat × Nat × D) := (parts.zip ds).map fun p => (p.1.1, p.1.2.1, p.2)
theorem buildO_some {zero : List D} {parts : List (Nat × Nat × Opd)} {ds : List D} : buildO zero parts (some ds) = (setParts zero (pairUp parts ds)).map .agg := rfl
theorem act_build {zero : List D} {parts : List (Nat × Nat × Opd)} : act pc dst (.build zero parts) e H g = okO (buildO zero parts (Opd.evL e (parts.map (·.2.2)))) H g := by
  simp only [act, okO, buildO]
  cases Opd.evL e (parts.map (·.2.2)) with
  | none => rfl
  | some ds =>
    simp only [Option.bind_some]
    cases setParts zero ((parts.zip ds).map fun p => (p.1.1, p.1.2.1, p.2)) <;> rfl

def loadO (agg : Bool) (sz : Nat) (cs : Option (List D)) : Option D := cs.bind fun cs => partD agg sz cs
theorem loadO_some {agg : Bool} {sz : Nat} {cs : List D} : loadO agg sz (some cs) = partD agg sz cs := rfl
def lookH (c : Option HC) (off : Nat) : Option (List D) := match c with
  | some (.vars cs) | some (.fvars cs) => some (cs.drop off)
  | _ => none
def lookA (c : Option HC) (g i j : Nat) : Option (List D) := match c with
  | some (.arr _ g' es) | some (.farr _ g' es) => if g = g' then (es[i]?).map (·.drop j) else none
  | _ => none
def lookO (H : Hp) (p : Option D) : Option (List D) := p.bind fun p => look H p
theorem lookO_ref {cs : List D} : lookO H (some (.ref cs)) = some cs := rfl
theorem lookO_box {k off : Nat} : lookO H (some (.box k off)) = lookH (H k) off := rfl
theorem lookO_aptr {k q i j : Nat} : lookO H (some (.aptr k q i j)) = lookA (H k) q i j := rfl
theorem lookH_vars {cs : List D} {off : Nat} : lookH (some (.vars cs)) off = some (cs.drop off) := rfl
theorem lookH_fvars {cs : List D} {off : Nat} : lookH (some (.fvars cs)) off = some (cs.drop off) := rfl
theorem lookA_arr {sz q i j : Nat} {es : List (List D)} : lookA (some (.arr sz q es)) q i j = (es[i]?).map (·.drop j) := by simp [lookA]
theorem act_load {agg : Bool} {sz : Nat} {a : Opd} : act pc dst (.load agg sz a) e H g = okO (loadO agg sz (lookO H (a.ev e))) H g := by
  simp only [act, okO, loadO, lookO]
  cases a.ev e with
  | none => rfl
  | some d =>
    simp only [Option.bind_some]
    cases look H d <;> rfl
theorem partD_one {sz : Nat} {c : D} {cs : List D} : partD false sz (c :: cs) = some c := rfl
theorem partD_agg {sz : Nat} {cs : List D} (h : sz ≤ cs.length) : partD true sz cs = some (.agg (cs.take sz)) := by simp [partD, h]

def storeH (c : Option HC) (sz k off : Nat) (d : D) (H : Hp) (g : Nat × G) : Option (Res G) := match c with
  | some (.vars cs) => if off + sz ≤ cs.length then some ⟨.undef, H.set k (.vars (putCells cs off d.cells)), g, .write⟩ else none
  | _ => none
def storeA (c : Option HC) (sz k q i j : Nat) (d : D) (H : Hp) (g : Nat × G) : Option (Res G) := match c with
  | some (.arr z q' es) => if q = q' then (es[i]?).bind fun c => if j + sz ≤ c.length then some ⟨.undef, H.set k (.arr z q (es.set i (putCells c j (d.cells.map D.norm)))), g, .write⟩ else none else none
  | _ => none
def storeD (sz : Nat) (p : D) (d : D) (H : Hp) (g : Nat × G) : Option (Res G) := match p with
  | .box k off => storeH (H k) sz k off d H g
  | .aptr k q i j => storeA (H k) sz k q i j d H g
  | _ => none
def storeO (sz : Nat) (p d : Option D) (H : Hp) (g : Nat × G) : Option (Res G) := p.bind fun p => d.bind fun d => if d.cells.length = sz ∧ d.cells.all D.cellOk then storeD sz p d H g else none
theorem storeO_some {sz : Nat} {p d : D} : storeO sz (some p) (some d) H g = if d.cells.length = sz ∧ d.cells.all D.cellOk then storeD sz p d H g else none := rfl
theorem storeD_box {sz k off : Nat} {d : D} : storeD sz (.box k off) d H g = storeH (H k) sz k off d H g := rfl
theorem storeD_aptr {sz k q i j : Nat} {d : D} : storeD sz (.aptr k q i j) d H g = storeA (H k) sz k q i j d H g := rfl
theorem storeH_vars {cs : List D} {sz k off : Nat} {d : D} : storeH (some (.vars cs)) sz k off d H g = if off + sz ≤ cs.length then some ⟨.undef, H.set k (.vars (putCells cs off d.cells)), g, .write⟩ else none := rfl
theorem act_store {sz : Nat} {a x : Opd} : act pc dst (.store sz a x) e H g = storeO sz (a.ev e) (x.ev e) H g := by
  simp only [act, storeO]
  cases a.ev e with
  | none => rfl
  | some p =>
    cases x.ev e with
    | none => rfl
    | some d => cases p <;> rfl

def nilchkO (x : Option D) : Option D := x.bind fun d => match d with
  | .box .. | .ref _ | .aptr .. => some d
  | _ => none
theorem nilchkO_box {k o : Nat} : nilchkO (some (.box k o)) = some (.box k o) := rfl
theorem nilchkO_ref {cs : List D} : nilchkO (some (.ref cs)) = some (.ref cs) := rfl
theorem act_nilchk {x : Opd} : act pc dst (.nilchk x) e H g = okO (nilchkO (x.ev e)) H g := by
  simp only [act, okO, nilchkO]
  cases x.ev e with
  | none => rfl
  | some d => cases d <;> rfl

def binO (op : BinOp) (k : EqK) (x y : Option D) : Option D := x.bind fun a => y.bind fun b => binD op k a b
theorem binO_some {op : BinOp} {k : EqK} {a b : D} : binO op k (some a) (some b) = binD op k a b := rfl
theorem act_bin {op : BinOp} {k : EqK} {x y : Opd} : act pc dst (.bin op k x y) e H g = okO (binO op k (x.ev e) (y.ev e)) H g := by
  simp only [act, okO, binO]
  cases x.ev e with
  | none => rfl
  | some a =>
    cases y.ev e with
    | none => rfl
    | some b => rfl
def unO (op : UnOp) (x : Option D) : Option D := x.bind fun a => unD op a
theorem unO_not {b : Bool} : unO .not (some (.bool b)) = some (.bool (!b)) := rfl
theorem unO_neg {q : IntKind} {n : Int} : unO .neg (some (.int q n)) = some (.int q (q.wrap (0 - n))) := rfl
theorem act_un {op : UnOp} {x : Opd} : act pc dst (.un op x) e H g = okO (unO op (x.ev e)) H g := by
  simp only [act, okO, unO]
  cases x.ev e <;> rfl
def faddrO (off : Nat) (x : Option D) : Option D := match x with
  | some (.ref cs) => some (.ref (cs.drop off))
  | some (.box k o) => some (.box k (o + off))
  | some (.aptr k q i j) => some (.aptr k q i (j + off))
  | _ => none
theorem faddrO_ref {off : Nat} {cs : List D} : faddrO off (some (.ref cs)) = some (.ref (cs.drop off)) := rfl
theorem faddrO_box {off k o : Nat} : faddrO off (some (.box k o)) = some (.box k (o + off)) := rfl
theorem faddrO_aptr {off k q i j : Nat} : faddrO off (some (.aptr k q i j)) = some (.aptr k q i (j + off)) := rfl
theorem act_faddr {off : Nat} {x : Opd} : act pc dst (.faddr off x) e H g = okO (faddrO off (x.ev e)) H g := by
  simp only [act, okO, faddrO]
  cases x.ev e with
  | none => rfl
  | some d => cases d <;> rfl
def fldO (agg : Bool) (sz off : Nat) (x : Option D) : Option D := match x with
  | some (.agg cs) => partD agg sz (cs.drop off)
  | _ => none
theorem fldO_agg {agg : Bool} {sz off : Nat} {cs : List D} : fldO agg sz off (some (.agg cs)) = partD agg sz (cs.drop off) := rfl
theorem act_fld {agg : Bool} {sz off : Nat} {x : Opd} : act pc dst (.fld agg sz off x) e H g = okO (fldO agg sz off (x.ev e)) H g := by
  simp only [act, okO, fldO]
  cases x.ev e with
  | none => rfl
  | some d => cases d <;> rfl

def iaA (c : Option HC) (sz k q m : Nat) (n : Int) : Option D := match c with
  | some (.arr z q' es) | some (.farr z q' es) => if q = q' ∧ z = sz ∧ m ≤ es.length ∧ 0 ≤ n ∧ n < m then some (.aptr k q n.toNat 0) else none
  | _ => none
def iaD (H : Hp) (sz : Nat) (d : D) (n : Int) : Option D := match d with
  | .sl _ es => if 0 ≤ n ∧ n < es.length then (es[n.toNat]?).bind fun c => if c.length = sz then some (.ref c) else none else none
  | .arr k q m => iaA (H k) sz k q m n
  | _ => none
def iaO (H : Hp) (sz : Nat) (x i : Option D) : Option D := x.bind fun d => (i.bind natIdx).bind fun n => iaD H sz d n.2
theorem iaO_some {sz : Nat} {d : D} {q : IntKind} {n : Int} : iaO H sz (some d) (some (.int q n)) = iaD H sz d n := rfl
theorem act_iaddr {sz : Nat} {x i : Opd} : act pc dst (.iaddr sz x i) e H g = okO (iaO H sz (x.ev e) (i.ev e)) H g := by
  simp only [act, okO, iaO]
  cases x.ev e with
  | none => rfl
  | some d =>
    simp only [Option.bind_some]
    cases (i.ev e).bind natIdx with
    | none => rfl
    | some n =>
      simp only [Option.bind_some]
      cases d with
      | sl ex es =>
        simp only [iaD]
        split
        · cases es[n.2.toNat]? with
          | none => rfl
          | some c => simp only [Option.bind_some]; split <;> rfl
        · rfl
      | arr k q m =>
        simp only [iaD]
        cases H k with
        | none => rfl
        | some c => cases c <;> first | rfl | (simp only [iaA]; split <;> rfl)
      | _ => rfl
theorem iaD_sl {A : Type} {enc : A → List D} {x : SlOf A} {sz : Nat} {n : Int} (h0 : 0 ≤ n) (h : n.toNat < x.list.length) (hs : (enc (x.list[n.toNat])).length = sz) : iaD H sz (slD enc x) n = some (.ref (enc (x.list[n.toNat]))) := by
  cases x with
  | nil => simp [SlOf.list] at h
  | of l hl =>
    simp only [SlOf.list] at h hs ⊢
    have : n < l.length := by omega
    simp [slD, iaD, h0, h, this, hs]
theorem iaD_nat {A : Type} {enc : A → List D} {x : SlOf A} {sz : Nat} {i : Nat} (h : i < x.list.length) (hs : (enc (x.list[i])).length = sz) : iaD H sz (slD enc x) (i : Int) = some (.ref (enc (x.list[i]))) := by
  have := iaD_sl (H := H) (enc := enc) (x := x) (sz := sz) (n := (i : Int)) (by omega) (by simpa using h) (by simpa using hs)
  simpa using this

def lenO (str : Bool) (x : Option D) : Option D := match str, x with
  | true, some (.str s) => some (.int .i64 s.size)
  | false, some .nilsl => some (.int .i64 0)
  | false, some (.sl _ es) => some (.int .i64 es.length)
  | false, some (.arr _ _ n) => some (.int .i64 n)
  | _, _ => none
theorem lenO_str {s : ByteArray} : lenO true (some (.str s)) = some (.int .i64 s.size) := rfl
theorem lenO_nil : lenO false (some .nilsl) = some (.int .i64 0) := rfl
theorem lenO_lit {b : Bool} {es : List (List D)} : lenO false (some (.sl b es)) = some (.int .i64 es.length) := rfl
theorem lenO_arr {k q n : Nat} : lenO false (some (.arr k q n)) = some (.int .i64 n) := rfl
theorem lenO_sl {A : Type} {enc : A → List D} {x : SlOf A} : lenO false (some (slD enc x)) = some (.int .i64 x.list.length) := by
  cases x with
  | nil => rfl
  | of l h => simp [slD, lenO, SlOf.list]
theorem act_len {b : Bool} {x : Opd} : act pc dst (.len b x) e H g = okO (lenO b (x.ev e)) H g := by
  simp only [act, okO, lenO]
  cases x.ev e with
  | none => cases b <;> rfl
  | some d => cases b <;> cases d <;> rfl
def extO (n : Nat) (x : Option D) : Option D := match x with
  | some (.tup vs) => vs[n]?
  | _ => none
theorem extO_tup {n : Nat} {vs : List D} : extO n (some (.tup vs)) = vs[n]? := rfl
theorem act_ext {x : Opd} {n : Nat} : act pc dst (.ext x n) e H g = okO (extO n (x.ev e)) H g := by
  simp only [act, okO, extO]
  cases x.ev e with
  | none => rfl
  | some d => cases d <;> rfl
def convO (q : IntKind) (x : Option D) : Option D := match x with
  | some (.int _ n) => some (.int q (q.wrap n))
  | _ => none
theorem convO_int {q k : IntKind} {n : Int} : convO q (some (.int k n)) = some (.int q (q.wrap n)) := rfl
theorem act_conv {q : IntKind} {x : Opd} : act pc dst (.conv q x) e H g = okO (convO q (x.ev e)) H g := by
  simp only [act, okO, convO]
  cases x.ev e with
  | none => rfl
  | some d => cases d <;> rfl

/-! ### Closures, calls -/
def mkO (sh : Bool) (f : FuncId) (ds : Option (List D)) (H : Hp) (g : Nat × G) : Option (Res G) := ds.bind fun ds => if sh then okD (.fnS f ds) H g else (frzL frz H ds).bind fun p => some ⟨.fn f p.1, p.2, g, effOf ds⟩
theorem mkO_sh {f : FuncId} {ds : List D} : mkO true f (some ds) H g = some ⟨.fnS f ds, H, g, .none⟩ := rfl
def mkP (f : FuncId) (ds : List D) (p : Option (List D × Hp)) (g : Nat × G) : Option (Res G) := p.bind fun p => some ⟨.fn f p.1, p.2, g, effOf ds⟩
theorem mkO_pure {f : FuncId} {ds : List D} : mkO false f (some ds) H g = mkP f ds (frzL frz H ds) g := rfl
theorem mkP_some {f : FuncId} {ds ds' : List D} {H' : Hp} : mkP f ds (some (ds', H')) g = some ⟨.fn f ds', H', g, effOf ds⟩ := rfl
theorem act_mkfn {f : FuncId} {caps : List Opd} : act pc dst (.mkfn f caps) e H g = mkO (pc.sh f) f (Opd.evL e caps) H g := rfl

def pureR (r : Option (D × G)) (ds : List D) (H H' : Hp) (g : Nat × G) : Option (Res G) := r.bind fun r => if r.1.plain then (if r.1.scalar then some ⟨r.1, H, (g.1, r.2), .none⟩ else some ⟨r.1, H', (g.1, r.2), effOf ds⟩) else none
theorem pureR_some {d : D} {u : G} {ds : List D} {H' : Hp} : pureR (some (d, u)) ds H H' g = if d.plain then (if d.scalar then some ⟨d, H, (g.1, u), .none⟩ else some ⟨d, H', (g.1, u), effOf ds⟩) else none := rfl
def pureP (pc : Pc G) (f : FuncId) (caps ds : List D) (p : Option (List D × Hp)) (H : Hp) (g : Nat × G) : Option (Res G) := p.bind fun p => pureR (pc.pure f (p.1 ++ caps) g.2) ds H p.2 g
theorem pureP_some {f : FuncId} {caps ds ds' : List D} {H' : Hp} : pureP pc f caps ds (some (ds', H')) H g = pureR (pc.pure f (ds' ++ caps) g.2) ds H H' g := rfl
def shR (r : Option (D × Hp × (Nat × G))) : Option (Res G) := r.bind fun r => some ⟨r.1, r.2.1, r.2.2, .write⟩
theorem shR_some {d : D} {H' : Hp} {g' : Nat × G} : shR (some (d, H', g')) = some ⟨d, H', g', .write⟩ := rfl
def callFn (sh : Bool) (pc : Pc G) (f : FuncId) (caps ds : List D) (H : Hp) (g : Nat × G) : Option (Res G) := if sh then shR (pc.shared f (ds ++ caps) H g) else pureP pc f caps ds (frzL frz H ds) H g
theorem callFn_sh {f : FuncId} {caps ds : List D} : callFn true pc f caps ds H g = shR (pc.shared f (ds ++ caps) H g) := rfl
theorem callFn_pure {f : FuncId} {caps ds : List D} : callFn false pc f caps ds H g = pureP pc f caps ds (frzL frz H ds) H g := rfl
def callO (pc : Pc G) (f : Option D) (ds : Option (List D)) (H : Hp) (g : Nat × G) : Option (Res G) := match f, ds with
  | some (.fn f caps), some ds => callFn (pc.sh f) pc f caps ds H g
  | some (.fnS f caps), some ds => shR (pc.shared f (ds ++ caps) H g)
  | _, _ => none
theorem callO_fn {f : FuncId} {caps ds : List D} : callO pc (some (.fn f caps)) (some ds) H g = callFn (pc.sh f) pc f caps ds H g := rfl
theorem callO_fnS {f : FuncId} {caps ds : List D} : callO pc (some (.fnS f caps)) (some ds) H g = shR (pc.shared f (ds ++ caps) H g) := rfl
theorem act_call {f : Opd} {args : List Opd} : act pc dst (.call f args) e H g = callO pc (f.ev e) (Opd.evL e args) H g := by
  simp only [act, callO]
  cases f.ev e with
  | none => rfl
  | some d =>
    cases Opd.evL e args with
    | none => cases d <;> rfl
    | some ds =>
      cases d <;> first | rfl | skip
/-- Freezing, value by value. -/
def frzC (p : Option (D × Hp)) (ds : List D) : Option (List D × Hp) := p.bind fun p => (frzL frz p.2 ds).bind fun q => some (p.1 :: q.1, q.2)
def frzK (d : D) (q : Option (List D × Hp)) : Option (List D × Hp) := q.bind fun q => some (d :: q.1, q.2)
theorem frzL_nil : frzL frz H ([] : List D) = some ([], H) := rfl
theorem frzL_cons {d : D} {ds : List D} : frzL frz H (d :: ds) = frzC (frz H d) ds := rfl
theorem frzC_some {d : D} {H' : Hp} {ds : List D} : frzC (some (d, H')) ds = frzK d (frzL frz H' ds) := rfl
theorem frzK_some {d : D} {H' : Hp} {ds : List D} : frzK d (some (ds, H')) = some (d :: ds, H') := rfl
theorem frz_bool {b : Bool} : frz H (.bool b) = some (.bool b, H) := rfl
theorem frz_int {q : IntKind} {n : Int} : frz H (.int q n) = some (.int q n, H) := rfl
theorem frz_str {s : ByteArray} : frz H (.str s) = some (.str s, H) := rfl
theorem frz_lit {b : Bool} {es : List (List D)} : frz H (.sl b es) = some (.sl false es, H) := rfl
theorem frz_nil : frz H .nilsl = some (.nilsl, H) := rfl
theorem frz_fn {f : FuncId} {cs : List D} : frz H (.fn f cs) = some (.fn f cs, H) := rfl
theorem frz_ref {cs : List D} : frz H (.ref cs) = some (.ref cs, H) := rfl
theorem frz_sl {A : Type} {enc : A → List D} {x : SlOf A} : frz H (slD enc x) = some (slD enc x, H) := by cases x <;> rfl
def aggK (p : Option (List D × Hp)) : Option (D × Hp) := p.bind fun p => some (.agg p.1, p.2)
theorem aggK_some {cs : List D} {H' : Hp} : aggK (some (cs, H')) = some (.agg cs, H') := rfl
theorem frz_agg {cs : List D} : frz H (.agg cs) = aggK (frzL (frz1 3) H cs) := rfl
def frzC1 (p : Option (D × Hp)) (ds : List D) : Option (List D × Hp) := p.bind fun p => (frzL (frz1 3) p.2 ds).bind fun q => some (p.1 :: q.1, q.2)
theorem frzL1_nil : frzL (frz1 3) H ([] : List D) = some ([], H) := rfl
theorem frzL1_cons {d : D} {ds : List D} : frzL (frz1 3) H (d :: ds) = frzC1 (frz1 3 H d) ds := rfl
theorem frzC1_some {d : D} {H' : Hp} {ds : List D} : frzC1 (some (d, H')) ds = frzK d (frzL (frz1 3) H' ds) := rfl
theorem frz1_bool {b : Bool} : frz1 3 H (.bool b) = some (.bool b, H) := rfl
theorem frz1_int {q : IntKind} {n : Int} : frz1 3 H (.int q n) = some (.int q n, H) := rfl
theorem frz1_str {s : ByteArray} : frz1 3 H (.str s) = some (.str s, H) := rfl
theorem frz1_lit {b : Bool} {es : List (List D)} : frz1 3 H (.sl b es) = some (.sl false es, H) := rfl
theorem frz1_nil : frz1 3 H .nilsl = some (.nilsl, H) := rfl
theorem frz1_sl {A : Type} {enc : A → List D} {x : SlOf A} : frz1 3 H (slD enc x) = some (slD enc x, H) := by cases x <;> rfl

/-! ### What values are -/
theorem cells_sl {A : Type} {enc : A → List D} {x : SlOf A} : (slD enc x).cells = [slD enc x] := by cases x <;> rfl
theorem cellOk_sl {A : Type} {enc : A → List D} {x : SlOf A} : (slD enc x).cellOk = true := by cases x <;> rfl
theorem plain_sl {A : Type} {enc : A → List D} {x : SlOf A} : (slD enc x).plain = true := by cases x <;> rfl
theorem plainA_sl {A : Type} {enc : A → List D} {x : SlOf A} : (slD enc x).plainA = true := by cases x <;> rfl
theorem plain1_sl {A : Type} {enc : A → List D} {x : SlOf A} : (slD enc x).plain1 = true := by cases x <;> rfl
theorem okH_sl {A : Type} {enc : A → List D} {x : SlOf A} {l : List Nat} : (slD enc x).okH l = true := by cases x <;> rfl
theorem okH1_sl {A : Type} {enc : A → List D} {x : SlOf A} {l : List Nat} : (slD enc x).okH1 l = true := by cases x <;> rfl
theorem norm_sl {A : Type} {enc : A → List D} {x : SlOf A} : (slD enc x).norm = slD enc x := by cases x <;> rfl
theorem key1_sl {A : Type} {enc : A → List D} {x : SlOf A} : (slD enc x).key1 = [] := by cases x <;> rfl

theorem plain_bool {b : Bool} : D.plain (.bool b) = true := rfl
theorem plain_int {q : IntKind} {n : Int} : D.plain (.int q n) = true := rfl
theorem plain_str {s : ByteArray} : D.plain (.str s) = true := rfl
theorem plain_lit {b : Bool} {es : List (List D)} : D.plain (.sl b es) = true := rfl
theorem plain_nil  : D.plain (.nilsl) = true := rfl
theorem plain_fn {f : FuncId} {cs : List D} : D.plain (.fn f cs) = true := rfl
theorem plain_ref {cs : List D} : D.plain (.ref cs) = true := rfl
theorem plain_un  : D.plain (.undef) = true := rfl
theorem plain_box {k o : Nat} : D.plain (.box k o) = false := rfl
theorem plain_arr {k q n : Nat} : D.plain (.arr k q n) = false := rfl
theorem plain_fnS {f : FuncId} {cs : List D} : D.plain (.fnS f cs) = false := rfl
theorem plainA_bool {b : Bool} : D.plainA (.bool b) = true := rfl
theorem plainA_int {q : IntKind} {n : Int} : D.plainA (.int q n) = true := rfl
theorem plainA_str {s : ByteArray} : D.plainA (.str s) = true := rfl
theorem plainA_lit {b : Bool} {es : List (List D)} : D.plainA (.sl b es) = true := rfl
theorem plainA_nil  : D.plainA (.nilsl) = true := rfl
theorem plainA_fn {f : FuncId} {cs : List D} : D.plainA (.fn f cs) = true := rfl
theorem plainA_ref {cs : List D} : D.plainA (.ref cs) = true := rfl
theorem plainA_un  : D.plainA (.undef) = true := rfl
theorem plainA_box {k o : Nat} : D.plainA (.box k o) = false := rfl
theorem plainA_arr {k q n : Nat} : D.plainA (.arr k q n) = false := rfl
theorem plainA_fnS {f : FuncId} {cs : List D} : D.plainA (.fnS f cs) = false := rfl
theorem plain1_bool {b : Bool} : D.plain1 (.bool b) = true := rfl
theorem plain1_int {q : IntKind} {n : Int} : D.plain1 (.int q n) = true := rfl
theorem plain1_str {s : ByteArray} : D.plain1 (.str s) = true := rfl
theorem plain1_lit {b : Bool} {es : List (List D)} : D.plain1 (.sl b es) = true := rfl
theorem plain1_nil  : D.plain1 (.nilsl) = true := rfl
theorem plain1_fn {f : FuncId} {cs : List D} : D.plain1 (.fn f cs) = true := rfl
theorem plain1_ref {cs : List D} : D.plain1 (.ref cs) = true := rfl
theorem plain1_un  : D.plain1 (.undef) = true := rfl
theorem plain1_box {k o : Nat} : D.plain1 (.box k o) = false := rfl
theorem plain1_arr {k q n : Nat} : D.plain1 (.arr k q n) = false := rfl
theorem plain1_fnS {f : FuncId} {cs : List D} : D.plain1 (.fnS f cs) = false := rfl
theorem plain_agg {cs : List D} : D.plain (.agg cs) = cs.all D.plain1 := rfl
theorem plainA_agg {cs : List D} : D.plainA (.agg cs) = cs.all D.plain1 := rfl
theorem plain_tup {cs : List D} : D.plain (.tup cs) = cs.all D.plainA := rfl
theorem scalar_bool {b : Bool} : D.scalar (.bool b) = true := rfl
theorem scalar_int {q : IntKind} {n : Int} : D.scalar (.int q n) = true := rfl
theorem scalar_str {s : ByteArray} : D.scalar (.str s) = true := rfl
theorem scalar_lit {b : Bool} {es : List (List D)} : D.scalar (.sl b es) = false := rfl
theorem scalar_nil  : D.scalar (.nilsl) = true := rfl
theorem scalar_ref {cs : List D} : D.scalar (.ref cs) = false := rfl
theorem scalarA_bool {b : Bool} : D.scalarA (.bool b) = true := rfl
theorem scalarA_int {q : IntKind} {n : Int} : D.scalarA (.int q n) = true := rfl
theorem scalarA_str {s : ByteArray} : D.scalarA (.str s) = true := rfl
theorem scalarA_lit {b : Bool} {es : List (List D)} : D.scalarA (.sl b es) = false := rfl
theorem scalarA_nil  : D.scalarA (.nilsl) = true := rfl
theorem scalarA_ref {cs : List D} : D.scalarA (.ref cs) = false := rfl
theorem scalar1_bool {b : Bool} : D.scalar1 (.bool b) = true := rfl
theorem scalar1_int {q : IntKind} {n : Int} : D.scalar1 (.int q n) = true := rfl
theorem scalar1_str {s : ByteArray} : D.scalar1 (.str s) = true := rfl
theorem scalar1_lit {b : Bool} {es : List (List D)} : D.scalar1 (.sl b es) = false := rfl
theorem scalar1_nil  : D.scalar1 (.nilsl) = true := rfl
theorem scalar1_ref {cs : List D} : D.scalar1 (.ref cs) = false := rfl
theorem scalar_agg {cs : List D} : D.scalar (.agg cs) = cs.all D.scalar1 := rfl
theorem scalarA_agg {cs : List D} : D.scalarA (.agg cs) = cs.all D.scalar1 := rfl
theorem scalar_tup {cs : List D} : D.scalar (.tup cs) = cs.all D.scalarA := rfl
theorem cells_bool {b : Bool} : D.cells (.bool b) = [.bool b] := rfl
theorem cellOk_bool {b : Bool} : D.cellOk (.bool b) = true := rfl
theorem cells_int {q : IntKind} {n : Int} : D.cells (.int q n) = [.int q n] := rfl
theorem cellOk_int {q : IntKind} {n : Int} : D.cellOk (.int q n) = true := rfl
theorem cells_str {s : ByteArray} : D.cells (.str s) = [.str s] := rfl
theorem cellOk_str {s : ByteArray} : D.cellOk (.str s) = true := rfl
theorem cells_lit {b : Bool} {es : List (List D)} : D.cells (.sl b es) = [.sl b es] := rfl
theorem cellOk_lit {b : Bool} {es : List (List D)} : D.cellOk (.sl b es) = true := rfl
theorem cells_nil  : D.cells (.nilsl) = [.nilsl] := rfl
theorem cellOk_nil  : D.cellOk (.nilsl) = true := rfl
theorem cells_fn {f : FuncId} {cs : List D} : D.cells (.fn f cs) = [.fn f cs] := rfl
theorem cellOk_fn {f : FuncId} {cs : List D} : D.cellOk (.fn f cs) = true := rfl
theorem cells_ref {cs : List D} : D.cells (.ref cs) = [.ref cs] := rfl
theorem cellOk_ref {cs : List D} : D.cellOk (.ref cs) = true := rfl
theorem cells_box {k o : Nat} : D.cells (.box k o) = [.box k o] := rfl
theorem cellOk_box {k o : Nat} : D.cellOk (.box k o) = true := rfl
theorem cells_arr {k q n : Nat} : D.cells (.arr k q n) = [.arr k q n] := rfl
theorem cellOk_arr {k q n : Nat} : D.cellOk (.arr k q n) = true := rfl
theorem cells_fnS {f : FuncId} {cs : List D} : D.cells (.fnS f cs) = [.fnS f cs] := rfl
theorem cellOk_fnS {f : FuncId} {cs : List D} : D.cellOk (.fnS f cs) = true := rfl
theorem cells_mp {k : Nat} : D.cells (.mp k) = [.mp k] := rfl
theorem cellOk_mp {k : Nat} : D.cellOk (.mp k) = true := rfl
theorem cells_nilfn  : D.cells (.nilfn) = [.nilfn] := rfl
theorem cellOk_nilfn  : D.cellOk (.nilfn) = true := rfl
theorem cells_nilmp  : D.cells (.nilmp) = [.nilmp] := rfl
theorem cellOk_nilmp  : D.cellOk (.nilmp) = true := rfl
theorem cells_nilptr  : D.cells (.nilptr) = [.nilptr] := rfl
theorem cellOk_nilptr  : D.cellOk (.nilptr) = true := rfl
theorem cells_agg {cs : List D} : D.cells (.agg cs) = cs := rfl
theorem norm_bool {b : Bool} : D.norm (.bool b) = .bool b := rfl
theorem norm_int {q : IntKind} {n : Int} : D.norm (.int q n) = .int q n := rfl
theorem norm_str {s : ByteArray} : D.norm (.str s) = .str s := rfl
theorem norm_lit {b : Bool} {es : List (List D)} : D.norm (.sl b es) = .sl false es := rfl
theorem norm_nil  : D.norm (.nilsl) = .nilsl := rfl
theorem norm_arr {k q n : Nat} : D.norm (.arr k q n) = .arr k q n := rfl
theorem norm_box {k o : Nat} : D.norm (.box k o) = .box k o := rfl
theorem norm_fn {f : FuncId} {cs : List D} : D.norm (.fn f cs) = .fn f cs := rfl

/-! ### Numbers -/
section
variable {k : EqK} {q : IntKind} {a b : Int}
theorem bin_add : binD .add k (.int q a) (.int q b) = some (.int q (q.wrap (a + b))) := by simp [binD]
theorem bin_sub : binD .sub k (.int q a) (.int q b) = some (.int q (q.wrap (a - b))) := by simp [binD]
theorem bin_mul : binD .mul k (.int q a) (.int q b) = some (.int q (q.wrap (a * b))) := by simp [binD]
theorem bin_eql : binD .eql k (.int q a) (.int q b) = some (.bool (decide (a = b))) := by simp [binD]; rfl
theorem bin_neq : binD .neq k (.int q a) (.int q b) = some (.bool (!decide (a = b))) := by simp [binD]; rfl
theorem bin_lss : binD .lss k (.int q a) (.int q b) = some (.bool (decide (a < b))) := by simp [binD]
theorem bin_leq : binD .leq k (.int q a) (.int q b) = some (.bool (decide (a ≤ b))) := by simp [binD]
theorem bin_gtr : binD .gtr k (.int q a) (.int q b) = some (.bool (decide (b < a))) := by simp [binD]
theorem bin_geq : binD .geq k (.int q a) (.int q b) = some (.bool (decide (b ≤ a))) := by simp [binD]
end
theorem bin_seql {k : EqK} {a b : ByteArray} : binD .eql k (.str a) (.str b) = some (.bool (a == b)) := rfl
theorem bin_sneq {k : EqK} {a b : ByteArray} : binD .neq k (.str a) (.str b) = some (.bool (a != b)) := rfl
theorem bin_slss {k : EqK} {a b : ByteArray} : binD .lss k (.str a) (.str b) = some (.bool (bytesLess a.data.toList b.data.toList)) := rfl
theorem bin_sgeq {k : EqK} {a b : ByteArray} : binD .geq k (.str a) (.str b) = some (.bool (!bytesLess a.data.toList b.data.toList)) := rfl

/-! ### Steps -/
def gdO (v : Option D) (want : Bool) (A U : Option (St G × Eff)) : Option (St G × Eff) := match v with
  | some (.bool b) => if b = want then A else U
  | some .undef => U
  | _ => none
theorem gdO_tt {A U : Option (St G × Eff)} : gdO (some (.bool true)) true A U = A := rfl
theorem gdO_ff {A U : Option (St G × Eff)} : gdO (some (.bool false)) false A U = A := rfl
theorem gdO_tf {A U : Option (St G × Eff)} : gdO (some (.bool true)) false A U = U := rfl
theorem gdO_ft {A U : Option (St G × Eff)} : gdO (some (.bool false)) true A U = U := rfl
theorem gdO_un {b : Bool} {A U : Option (St G × Eff)} : gdO (some .undef) b A U = U := rfl
def putO (r : Option (Res G)) (dst : Option Nat) (e : Env) (b : Nat) : Option (St G × Eff) := r.bind fun r => some (⟨e.put dst r.d, r.H, r.g, b⟩, r.eff)
theorem putO_some {d : D} {ef : Eff} {b : Nat} : putO (some ⟨d, H, g, ef⟩) dst e b = some (⟨e.put dst d, H, g, b⟩, ef) := rfl
def dk (b : Nat) : Option Nat → Option Nat := fun d => d.map (b + ·)
theorem dk_some {b k : Nat} : dk b (some k) = some (b + k) := rfl
theorem dk_none {b : Nat} : dk b none = none := rfl
theorem runOp_none {op : VOp} {af : List Nat} {b : Nat} : runOp pc ⟨dst, op, none, af⟩ ⟨e, H, g, b⟩ = putO (act pc (dk b dst) op e H g) dst e b := rfl
theorem runOp_some {op : VOp} {af : List Nat} {b j : Nat} {w : Bool} : runOp pc ⟨dst, op, some (j, w), af⟩ ⟨e, H, g, b⟩ = gdO (e j) w (putO (act pc (dk b dst) op e H g) dst e b) (some (⟨e.put dst .undef, H, g, b⟩, .none)) := rfl
def stepO (pc : Pc G) (r : Option (St G × Eff)) (os : List VOper) : Option (St G) := r.bind fun p => runOps pc os p.1
theorem stepO_some {st : St G} {ef : Eff} {os : List VOper} : stepO pc (some (st, ef)) os = runOps pc os st := rfl
theorem runOps_nil {st : St G} : runOps pc [] st = some st := rfl
theorem runOps_cons {o : VOper} {os : List VOper} {st : St G} : runOps pc (o :: os) st = stepO pc (runOp pc o st) os := rfl

/-! ### Code -/
variable {st : St G} {Q : Ex → St G → Prop}
def Aft (pc : Pc G) (r : Option (St G)) (Q : Ex → St G → Prop) : Prop := ∃ st', r = some st' ∧ Q .normal st'
theorem Aft_some : Aft pc (some st) Q = Q .normal st := by simp [Aft]
theorem Wp_region {ops : List VOper} : Aft pc (runOps pc ops st) Q → Wp pc (.region ops false) st Q := fun ⟨_, h1, h2⟩ => .region h1 h2
theorem Wp_draw {ops : List VOper} : Aft pc (runDraw pc ops st) Q → Wp pc (.region ops true) st Q := fun ⟨_, h1, h2⟩ => .draw h1 h2
theorem andThen_normal {b : VCode} : andThen pc b Q .normal st = Wp pc b st Q := rfl
theorem andThen_ret {b : VCode} : andThen pc b Q .ret st = Q .ret st := rfl
theorem andThen_exit {b : VCode} {i : Nat} : andThen pc b Q (.exit i) st = Q (.exit i) st := rfl
theorem inBlock_normal {i : Nat} : inBlock i Q .normal st = Q .normal st := rfl
theorem inBlock_ret {i : Nat} : inBlock i Q .ret st = Q .ret st := rfl
theorem inBlock_exit {i j : Nat} : inBlock i Q (.exit j) st = if j = i then Q .normal st else Q (.exit j) st := rfl
theorem Wp.condT {x : Opd} {a b : VCode} (h : x.ev st.env = some (.bool true)) (ha : Wp pc a st Q) : Wp pc (.cond x a b) st Q := .cond h (fun _ => ha) (fun h => by cases h)
theorem Wp.condF {x : Opd} {a b : VCode} (h : x.ev st.env = some (.bool false)) (hb : Wp pc b st Q) : Wp pc (.cond x a b) st Q := .cond h (fun h => by cases h) (fun _ => hb)

/-- A round's end. -/
def Round (b : Nat) (R : Env → Hp → Nat × G → Prop) (Q : Ex → St G → Prop) : Ex → St G → Prop
  | .normal, st => st.b = b ∧ R st.env st.H st.g
  | ex, st => Q ex st
theorem Round_normal {b : Nat} {R : Env → Hp → Nat × G → Prop} {Q : Ex → St G → Prop} (h : R e H g) : Round b R Q .normal ⟨e, H, g, b⟩ := ⟨rfl, h⟩
theorem Round_ret {b : Nat} {R : Env → Hp → Nat × G → Prop} {Q : Ex → St G → Prop} {st : St G} : Round b R Q .ret st = Q .ret st := rfl
theorem Round_exit {b i : Nat} {R : Env → Hp → Nat × G → Prop} {Q : Ex → St G → Prop} {st : St G} : Round b R Q (.exit i) st = Q (.exit i) st := rfl
def hOk (keepH : List Nat) (H : Hp) : Bool := keepH.all (fun k => match H k with | some c => c.okH keepH | none => true)
theorem hOk_nil : hOk [] H = true := rfl
theorem trim_ok {keep keepH : List Nat} {st : St G} (h : hOk keepH st.H = true) : trim keep keepH st = some ⟨keepEnv keep keepH st.env, keepHp keepH st.H, st.g, st.b⟩ := if_pos h
/-- A loop that forgets things. -/
theorem Wp.loopT {keep keepH : List Nat} {c : VCode} {b : Nat} {Inv : Nat → Env → Hp → Nat × G → Prop}
    (hround : ∀ n e H g, Inv n e H g → hOk keepH H = true ∧ Wp pc c ⟨keepEnv keep keepH e, keepHp keepH H, g, b⟩ (Round b (fun e H g => ∃ m, m < n ∧ Inv m e H g) Q))
    {n : Nat} {e : Env} {H : Hp} {g : Nat × G} (h : Inv n e H g) : Wp pc (.loop (some (keep, keepH)) c) ⟨e, H, g, b⟩ Q := by
  refine Wp.loop (Inv := fun n st => st.b = b ∧ Inv n st.env st.H st.g) (n := n) ?_ ⟨rfl, h⟩
  rintro n ⟨e, H, g, b'⟩ ⟨rfl, h⟩
  obtain ⟨h1, h2⟩ := hround n e H g h
  refine ⟨_, trim_ok h1, h2.mono ?_⟩
  intro ex st' hq
  cases ex with
  | normal =>
    obtain ⟨h3, m, h4, h5⟩ := hq
    exact ⟨m, h4, h3, h5⟩
  | _ => exact hq
theorem keepEnv_some {keep keepH : List Nat} {s : Nat} {d : D} (h : e s = some d) (hs : keep.contains s = true) (hd : d.okH keepH = true) : keepEnv keep keepH e s = some d := by
  simp only [keepEnv, hs, if_true, h, hd]
theorem keepHp_nil : keepHp [] H = fun _ => none := by funext k; simp [keepHp]
end

/-! ### A function's answer -/
def Ends (rs : List VResult) (r : D) (ex : Ex) (st : St Unit) : Prop := (match ex with | .exit _ => False | _ => True) ∧ resultD st rs = some r
def resO (H : Hp) (ds : Option (List D)) : Option D := ds.bind fun ds => (frzL frz H ds).bind fun p => some (tupD p.1)
def resP (p : Option (List D × Hp)) : Option D := p.bind fun p => some (tupD p.1)
theorem resO_some {H : Hp} {ds : List D} : resO H (some ds) = resP (frzL frz H ds) := rfl
theorem resP_some {H : Hp} {ds : List D} : resP (some (ds, H)) = some (tupD ds) := rfl
theorem tupD_one {d : D} : tupD [d] = d := rfl
theorem tupD_two {d d' : D} : tupD [d, d'] = .tup [d, d'] := rfl
theorem tupD_three {d d' d'' : D} : tupD [d, d', d''] = .tup [d, d', d''] := rfl
section
variable {G : Type} {e : Env} {H : Hp} {g : Nat × G} {b : Nat} {rs : List VResult}
theorem rawD_nil : rawD (⟨e, H, g, b⟩ : St G) [] = some [] := rfl
theorem rawD_tmp {t : Nat} : rawD (⟨e, H, g, b⟩ : St G) (.tmp t :: rs) = consO (e t) (rawD (⟨e, H, g, b⟩ : St G) rs) := rfl
theorem rawD_cell {t sz : Nat} {agg : Bool} : rawD (⟨e, H, g, b⟩ : St G) (.cell t agg sz :: rs) = consO (loadO agg sz (lookO H (e t))) (rawD (⟨e, H, g, b⟩ : St G) rs) := by
  simp only [rawD, consO, loadO, lookO]
  cases e t with
  | none => rfl
  | some a =>
    simp only [Option.bind_some]
    cases look H a with
    | none => rfl
    | some cs => rfl
end
section
variable {e : Env} {H : Hp} {g : Nat × Unit} {b : Nat} {rs : List VResult} {r : D}
theorem Ends_ret : Ends rs r .ret ⟨e, H, g, b⟩ = (resO H (rawD (⟨e, H, g, b⟩ : St Unit) rs) = some r) := by
  simp [Ends, resultD, resO]
theorem Ends_normal : Ends rs r .normal ⟨e, H, g, b⟩ = (resO H (rawD (⟨e, H, g, b⟩ : St Unit) rs) = some r) := by
  simp [Ends, resultD, resO]
end
theorem args0_0 {x : D} {xs : List D} : args0 (x :: xs) 0 = some x := rfl
theorem args0_1 {x y : D} {xs : List D} : args0 (x :: y :: xs) 1 = some y := rfl
theorem args0_2 {x y z : D} {xs : List D} : args0 (x :: y :: z :: xs) 2 = some z := rfl
theorem args0_3 {x y z u : D} {xs : List D} : args0 (x :: y :: z :: u :: xs) 3 = some u := rfl
theorem args0_4 {x y z u v : D} {xs : List D} : args0 (x :: y :: z :: u :: v :: xs) 4 = some v := rfl
theorem fn_of {T : Tab Unit} {f : FuncId} {vf : VFunc} {as : List D} {r : D} (hp : T.prim f = none) (hf : T.code f = some vf) (ha : as.all D.plain = true) (hl : Nat.ble as.length vf.ntmps = true) (hr : r.plain = true)
    (h : Wp (callL T) vf.body ⟨args0 as, fun _ => none, (roomKeys, ()), 0⟩ (Ends vf.results r)) : (callL T).pure f as () = some (r, ()) := by
  refine callL_body hp hf (body_of ha (Nat.le_of_ble_eq_true hl) (h.mono ?_))
  intro ex st' hE
  exact ⟨hE.1, hE.2, hr, rfl⟩
/-- Numbers at a loop. -/
theorem wrap_in {n : Int} (h : -9223372036854775808 ≤ n ∧ n ≤ 9223372036854775807) : IntKind.wrap .i64 n = n := IntWalk.i64_in n h
theorem wrap_nat {n : Nat} (h : n < maxLen) : IntKind.wrap .i64 ((n : Int) + 1) = ((n + 1 : Nat) : Int) := by
  have h : n < 9223372036854775807 := h
  rw [wrap_in (by omega)]; omega
theorem SlOf.len_le {A : Type} (x : SlOf A) : x.list.length ≤ maxLen := by
  cases x with
  | nil => simp [SlOf.list]
  | of l h => exact h

section
variable {G : Type} {pc : Pc G} {e : Env} {H : Hp} {g : Nat × G} {b : Nat} {Q : Ex → St G → Prop}
/-- What a region leaves, in short. -/
theorem Wp_cut {ops : List VOper} (P : Env → Prop) (h : Aft pc (runOps pc ops ⟨e, H, g, b⟩) (fun _ st => st.H = H ∧ st.g = g ∧ st.b = b ∧ P st.env)) (k : ∀ e', P e' → Q .normal ⟨e', H, g, b⟩) : Wp pc (.region ops false) ⟨e, H, g, b⟩ Q := by
  obtain ⟨⟨e', H', g', b'⟩, h1, h2, h3, h4, h5⟩ := h
  simp only at h2 h3 h4 h5
  subst h2; subst h3; subst h4
  exact .region h1 (k e' h5)
/-- A loop that counts, in a function that owns no memory. -/
theorem Wp.loopN {keep : List Nat} {c : VCode} (N : Nat) {P : Nat → Env → Prop}
    (hround : ∀ i e g, i ≤ N → P i e → Wp pc c ⟨keepEnv keep [] e, fun _ => none, g, b⟩ (Round b (fun e _ _ => i < N ∧ P (i + 1) e) Q)) (h : P 0 e) : Wp pc (.loop (some (keep, [])) c) ⟨e, H, g, b⟩ Q := by
  refine Wp.loopT (Inv := fun n e _ _ => ∃ i, i ≤ N ∧ n = N - i ∧ P i e) ?_ (n := N) ⟨0, by omega, rfl, h⟩
  rintro n e H g ⟨i, hi, rfl, hP⟩
  refine ⟨rfl, ?_⟩
  rw [keepHp_nil]
  refine (hround i e g hi hP).mono ?_
  intro ex st' hq
  cases ex with
  | normal =>
    obtain ⟨h2, h1, h3⟩ := hq
    exact ⟨h2, N - (i + 1), by omega, i + 1, by omega, rfl, h3⟩
  | _ => exact hq
end
/-- A proposition, as a truth value. -/
noncomputable def dec (p : Prop) : Bool := @decide p (Classical.propDecidable p)
theorem dec_true {p : Prop} (h : p) : dec p = true := by unfold dec; simp [h]
theorem dec_false {p : Prop} (h : ¬ p) : dec p = false := by unfold dec; simp [h]
theorem dec_iff {p : Prop} : dec p = true ↔ p := by unfold dec; simp
theorem dec_congr {p q : Prop} (h : p ↔ q) : dec p = dec q := by
  by_cases hp : p
  · rw [dec_true hp, dec_true (h.1 hp)]
  · rw [dec_false hp, dec_false (fun x => hp (h.2 x))]

/-! ### Freezing what a pointer points at -/
section
variable {H : Hp}
def frzB (c : Option HC) (k off : Nat) (H : Hp) : Option (D × Hp) := match c with
  | some (.vars cs) => (frzL (frz1 3) H cs).bind fun p => some (.ref (p.1.drop off), p.2.set k (.fvars p.1))
  | some (.fvars cs) => some (.ref (cs.drop off), H)
  | _ => none
def frzBK (k off : Nat) (p : Option (List D × Hp)) : Option (D × Hp) := p.bind fun p => some (.ref (p.1.drop off), p.2.set k (.fvars p.1))
theorem frz_box {k off : Nat} : frz H (.box k off) = frzB (H k) k off H := by
  simp only [frz, frzB]
  rcases H k with _ | c
  · rfl
  · cases c <;> rfl
theorem frzB_vars {cs : List D} {k off : Nat} : frzB (some (.vars cs)) k off H = frzBK k off (frzL (frz1 3) H cs) := rfl
theorem frzB_fvars {cs : List D} {k off : Nat} : frzB (some (.fvars cs)) k off H = some (.ref (cs.drop off), H) := rfl
theorem frzBK_some {k off : Nat} {cs : List D} {H' : Hp} : frzBK k off (some (cs, H')) = some (.ref (cs.drop off), H'.set k (.fvars cs)) := rfl
end

/-! ### Drawn regions that only read -/
section
variable {G : Type} {pc : Pc G}
def runQ (pc : Pc G) : List VOper → St G → Option (St G)
  | [], st => some st
  | o :: os, st => (runOp pc o st).bind fun p => if p.2 = .none then runQ pc os p.1 else none
def stepQ (pc : Pc G) (r : Option (St G × Eff)) (os : List VOper) : Option (St G) := r.bind fun p => if p.2 = .none then runQ pc os p.1 else none
theorem runQ_nil {st : St G} : runQ pc [] st = some st := rfl
theorem runQ_cons {o : VOper} {os : List VOper} {st : St G} : runQ pc (o :: os) st = stepQ pc (runOp pc o st) os := rfl
theorem stepQ_some {st : St G} {os : List VOper} : stepQ pc (some (st, .none)) os = runQ pc os st := rfl

def nt0 : Nt := ⟨.none, true, true, [], none⟩
def drawS (ops : List VOper) : Bool := drawOk ops (ops.map fun _ => nt0)
theorem swaps_none {a i : VOper} {na ni : Nt} (h : swaps a i nt0 nt0 = true) (ha : na.eff = .none) (hi : ni.eff = .none) : swaps a i na ni = true := by
  simp only [swaps, Bool.and_eq_true] at h ⊢
  refine ⟨h.1, ?_⟩
  simp [ha, hi]
theorem drawL_none {T : List Nat} : ∀ {os : List VOper} {n : Nat} {nts : List Nt}, (∀ x ∈ nts, x.eff = .none) → drawL T (number n os (os.map fun _ => nt0)) = true → drawL T (number n os nts) = true
  | [], n, nts, _, _ => by cases nts <;> rfl
  | o :: os, n, [], _, _ => rfl
  | o :: os, n, x :: nts, hx, h => by
    simp only [List.map_cons, number, drawL, Bool.and_eq_true] at h ⊢
    refine ⟨?_, drawL_none (fun y hy => hx y (by simp [hy])) h.2⟩
    have hall := h.1
    have hx0 := hx x (by simp)
    have key : ∀ (os : List VOper) (m : Nat) (nts : List Nt), (∀ y ∈ nts, y.eff = .none) → ((number m os (os.map fun _ => nt0)).all fun y => (T.getD y.1 0).testBit n || swaps o y.2.1 nt0 y.2.2) = true → ((number m os nts).all fun y => (T.getD y.1 0).testBit n || swaps o y.2.1 x y.2.2) = true := by
      intro os
      induction os with
      | nil => intro m nts _ _; cases nts <;> rfl
      | cons o2 os ih =>
        intro m nts hn h
        cases nts with
        | nil => rfl
        | cons y ys =>
          simp only [List.map_cons, number, List.all_cons, Bool.and_eq_true, Bool.or_eq_true] at h ⊢
          refine ⟨?_, ih (m + 1) ys (fun z hz => hn z (by simp [hz])) h.2⟩
          rcases h.1 with h1 | h1
          · exact .inl h1
          · exact .inr (swaps_none h1 hx0 (hn y (by simp)))
    exact key os (n + 1) nts (fun y hy => hx y (by simp [hy])) hall
theorem runQ_eff : ∀ {os : List VOper} {st st' : St G}, runQ pc os st = some st' → ∃ nts, runEff pc os st = some (st', nts) ∧ ∀ x ∈ nts, x.eff = .none
  | [], st, st', h => by
    simp only [runQ, Option.some.injEq] at h
    subst h
    exact ⟨[], rfl, by simp⟩
  | o :: os, st, st', h => by
    simp only [runQ] at h
    obtain ⟨p, h1, h⟩ := Option.bind_eq_some_iff.1 h
    split at h
    · rename_i he
      obtain ⟨nts, h2, h3⟩ := runQ_eff h
      refine ⟨_, by simp only [runEff, h1, Option.bind_some, h2]; rfl, fun x hx => ?_⟩
      rcases List.mem_cons.1 hx with rfl | hx
      · split
        · simpa [noteOf] using he
        · rfl
      · exact h3 x hx
    · cases h
theorem runDraw_quiet {ops : List VOper} {st st' : St G} (hs : drawS ops = true) (h : runQ pc ops st = some st') : runDraw pc ops st = some st' := by
  obtain ⟨nts, h1, h2⟩ := runQ_eff h
  simp only [runDraw, h1, Option.bind_some]
  simp only [drawS, drawOk, Bool.and_eq_true] at hs
  rw [if_pos]
  simp only [drawOk, Bool.and_eq_true]
  exact ⟨hs.1, drawL_none h2 hs.2⟩
theorem Wp_quiet {ops : List VOper} {st : St G} {Q : Ex → St G → Prop} (hs : drawS ops = true) (h : Aft pc (runQ pc ops st) Q) : Wp pc (.region ops true) st Q := by
  obtain ⟨st', h1, h2⟩ := h
  exact .draw (runDraw_quiet hs h1) h2
theorem Wp_cutQ {e : Env} {H : Hp} {g : Nat × G} {b : Nat} {Q : Ex → St G → Prop} {ops : List VOper} (P : Env → Prop) (hs : drawS ops = true) (h : Aft pc (runQ pc ops ⟨e, H, g, b⟩) (fun _ st => st.H = H ∧ st.g = g ∧ st.b = b ∧ P st.env)) (k : ∀ e', P e' → Q .normal ⟨e', H, g, b⟩) : Wp pc (.region ops true) ⟨e, H, g, b⟩ Q := by
  obtain ⟨⟨e', H', g', b'⟩, h1, h2, h3, h4, h5⟩ := h
  simp only at h2 h3 h4 h5
  subst h2; subst h3; subst h4
  exact .draw (runDraw_quiet hs h1) (k e' h5)
end

theorem putCells_nil {cs : List D} {off : Nat} : putCells cs off [] = cs := rfl
theorem putCells_cons {cs ds : List D} {d : D} {off : Nat} : putCells cs off (d :: ds) = putCells (cs.set off d) (off + 1) ds := rfl
theorem keepHp_in {keepH : List Nat} {H : Hp} {k : Nat} {c : HC} (h : H k = some c) (hk : keepH.contains k = true) : keepHp keepH H k = some c := by simp only [keepHp, hk, if_true, h]
theorem keepHp_out {keepH : List Nat} {H : Hp} {k : Nat} (hk : keepH.contains k = false) : keepHp keepH H k = none := by simp only [keepHp, hk, Bool.false_eq_true, if_false]
theorem hOk_cons {k : Nat} {c : HC} {ks keepH : List Nat} {H : Hp} (h : H k = some c) (hc : c.okH keepH = true) (hs : (ks.all (fun k => match H k with | some c => c.okH keepH | none => true)) = true) : ((k :: ks).all (fun k => match H k with | some c => c.okH keepH | none => true)) = true := by
  simp only [List.all_cons, h, hc, hs, Bool.and_self]
/-- All of these, for simp. -/
def vm :=
  And.intro (And.intro (And.intro (And.intro (And.intro (And.intro (And.intro (And.intro (@runOps_cons) (@runOps_nil)) (And.intro (@runOp_none) (@runOp_some))) (And.intro (And.intro (@stepO_some)
    (@putO_some)) (And.intro (@gdO_tt) (And.intro (@gdO_ff) (@gdO_tf))))) (And.intro (And.intro (And.intro (@gdO_ft) (@gdO_un)) (And.intro (@dk_some) (@dk_none))) (And.intro (And.intro (@okO_some)
    (@consO_some)) (And.intro (@evL_nil) (And.intro (@evL_cons) (@ev_t)))))) (And.intro (And.intro (And.intro (And.intro (@ev_c) (@set_eq)) (And.intro (@put_some) (@put_none))) (And.intro (And.intro
    (@act_mov) (@act_pick)) (And.intro (@pickO_true) (And.intro (@pickO_false) (@act_alloc))))) (And.intro (And.intro (And.intro (@newO_none) (@act_mkmap)) (And.intro (@act_bx) (@bxO_some))) (And.intro
    (And.intro (@act_build) (@buildO_some)) (And.intro (@act_load) (And.intro (@loadO_some) (@lookO_ref))))))) (And.intro (And.intro (And.intro (And.intro (And.intro (@lookO_box) (@lookO_aptr)) (And.intro
    (@lookH_vars) (@lookH_fvars))) (And.intro (And.intro (@lookA_arr) (@partD_one)) (And.intro (@act_store) (And.intro (@storeO_some) (@storeD_box))))) (And.intro (And.intro (And.intro (@storeD_aptr)
    (@storeH_vars)) (And.intro (@act_nilchk) (@nilchkO_box))) (And.intro (And.intro (@nilchkO_ref) (@act_bin)) (And.intro (@binO_some) (And.intro (@act_un) (@unO_not)))))) (And.intro (And.intro (And.intro
    (And.intro (@unO_neg) (@act_faddr)) (And.intro (@faddrO_ref) (@faddrO_box))) (And.intro (And.intro (@faddrO_aptr) (@act_fld)) (And.intro (@fldO_agg) (And.intro (@act_iaddr) (@iaO_some))))) (And.intro
    (And.intro (And.intro (@act_len) (@lenO_str)) (And.intro (@lenO_nil) (And.intro (@lenO_lit) (@lenO_arr)))) (And.intro (And.intro (@lenO_sl) (@act_ext)) (And.intro (@extO_tup) (And.intro (@act_conv)
    (@convO_int)))))))) (And.intro (And.intro (And.intro (And.intro (And.intro (And.intro (@act_mkfn) (@mkO_sh)) (And.intro (@mkO_pure) (@mkP_some))) (And.intro (And.intro (@pureR_some) (@pureP_some))
    (And.intro (@shR_some) (And.intro (@callFn_sh) (@callFn_pure))))) (And.intro (And.intro (And.intro (@callO_fn) (@callO_fnS)) (And.intro (@act_call) (@frzL_nil))) (And.intro (And.intro (@frzL_cons)
    (@frzC_some)) (And.intro (@frzK_some) (And.intro (@frz_bool) (@frz_int)))))) (And.intro (And.intro (And.intro (And.intro (@frz_str) (@frz_lit)) (And.intro (@frz_nil) (@frz_fn))) (And.intro (And.intro
    (@frz_ref) (@frz_sl)) (And.intro (@aggK_some) (And.intro (@frz_agg) (@frzL1_nil))))) (And.intro (And.intro (And.intro (@frzL1_cons) (@frzC1_some)) (And.intro (@frz1_bool) (And.intro (@frz1_int)
    (@frz1_str)))) (And.intro (And.intro (@frz1_lit) (@frz1_nil)) (And.intro (@frz1_sl) (And.intro (@cells_sl) (@cellOk_sl))))))) (And.intro (And.intro (And.intro (And.intro (And.intro (@plain_sl)
    (@plainA_sl)) (And.intro (@plain1_sl) (@okH_sl))) (And.intro (And.intro (@okH1_sl) (@norm_sl)) (And.intro (@key1_sl) (And.intro (@bin_add) (@bin_sub))))) (And.intro (And.intro (And.intro (@bin_mul)
    (@bin_eql)) (And.intro (@bin_neq) (@bin_lss))) (And.intro (And.intro (@bin_leq) (@bin_gtr)) (And.intro (@bin_geq) (And.intro (@bin_seql) (@bin_sneq)))))) (And.intro (And.intro (And.intro (And.intro
    (@bin_slss) (@bin_sgeq)) (And.intro (@Aft_some) (@andThen_normal))) (And.intro (And.intro (@andThen_ret) (@andThen_exit)) (And.intro (@inBlock_normal) (And.intro (@inBlock_ret) (@inBlock_exit)))))
    (And.intro (And.intro (And.intro (@hset_eq) (@List.drop_zero.{0})) (And.intro (@List.drop_succ_cons.{0}) (And.intro (@List.drop_nil.{0}) (@List.nil_append.{0})))) (And.intro (And.intro
    (@List.append_nil.{0}) (@List.cons_append.{0})) (And.intro (@List.take_zero.{0}) (And.intro (@List.take_succ_cons.{0}) (@List.length_cons.{0}))))))))) (And.intro (And.intro (And.intro (And.intro
    (And.intro (And.intro (And.intro (@List.length_nil.{0}) (@if_true.{1})) (And.intro (@if_false.{1}) (@decide_true))) (And.intro (And.intro (@decide_false) (@Bool.not_true)) (And.intro (@Bool.not_false)
    (And.intro (@Option.map_some.{0,0}) (@List.all_cons.{0}))))) (And.intro (And.intro (And.intro (@List.all_nil.{0}) (@Bool.and_true)) (And.intro (@Bool.true_and) (@plain_bool))) (And.intro (And.intro
    (@plain_int) (@plain_str)) (And.intro (@plain_lit) (And.intro (@plain_nil) (@plain_fn)))))) (And.intro (And.intro (And.intro (And.intro (@plain_ref) (@plain_un)) (And.intro (@plain_box) (@plain_arr)))
    (And.intro (And.intro (@plain_fnS) (@plainA_bool)) (And.intro (@plainA_int) (And.intro (@plainA_str) (@plainA_lit))))) (And.intro (And.intro (And.intro (@plainA_nil) (@plainA_fn)) (And.intro
    (@plainA_ref) (And.intro (@plainA_un) (@plainA_box)))) (And.intro (And.intro (@plainA_arr) (@plainA_fnS)) (And.intro (@plain1_bool) (And.intro (@plain1_int) (@plain1_str))))))) (And.intro (And.intro
    (And.intro (And.intro (And.intro (@plain1_lit) (@plain1_nil)) (And.intro (@plain1_fn) (@plain1_ref))) (And.intro (And.intro (@plain1_un) (@plain1_box)) (And.intro (@plain1_arr) (And.intro (@plain1_fnS)
    (@plain_agg))))) (And.intro (And.intro (And.intro (@plainA_agg) (@plain_tup)) (And.intro (@scalar_bool) (@scalar_int))) (And.intro (And.intro (@scalar_str) (@scalar_lit)) (And.intro (@scalar_nil)
    (And.intro (@scalar_ref) (@scalarA_bool)))))) (And.intro (And.intro (And.intro (And.intro (@scalarA_int) (@scalarA_str)) (And.intro (@scalarA_lit) (@scalarA_nil))) (And.intro (And.intro (@scalarA_ref)
    (@scalar1_bool)) (And.intro (@scalar1_int) (And.intro (@scalar1_str) (@scalar1_lit))))) (And.intro (And.intro (And.intro (@scalar1_nil) (@scalar1_ref)) (And.intro (@scalar_agg) (And.intro
    (@scalarA_agg) (@scalar_tup)))) (And.intro (And.intro (@cells_bool) (@cellOk_bool)) (And.intro (@cells_int) (And.intro (@cellOk_int) (@cells_str)))))))) (And.intro (And.intro (And.intro (And.intro
    (And.intro (And.intro (@cellOk_str) (@cells_lit)) (And.intro (@cellOk_lit) (@cells_nil))) (And.intro (And.intro (@cellOk_nil) (@cells_fn)) (And.intro (@cellOk_fn) (And.intro (@cells_ref)
    (@cellOk_ref))))) (And.intro (And.intro (And.intro (@cells_box) (@cellOk_box)) (And.intro (@cells_arr) (@cellOk_arr))) (And.intro (And.intro (@cells_fnS) (@cellOk_fnS)) (And.intro (@cells_mp)
    (And.intro (@cellOk_mp) (@cells_nilfn)))))) (And.intro (And.intro (And.intro (And.intro (@cellOk_nilfn) (@cells_nilmp)) (And.intro (@cellOk_nilmp) (@cells_nilptr))) (And.intro (And.intro
    (@cellOk_nilptr) (@cells_agg)) (And.intro (@norm_bool) (And.intro (@norm_int) (@norm_str))))) (And.intro (And.intro (And.intro (@norm_lit) (@norm_nil)) (And.intro (@norm_arr) (And.intro (@norm_box)
    (@norm_fn)))) (And.intro (And.intro (@and_true) (@true_and)) (And.intro (@and_self) (And.intro (@List.map_cons.{0,0}) (@List.map_nil.{0,0}))))))) (And.intro (And.intro (And.intro (And.intro (And.intro
    (@List.zip_cons_cons.{0,0}) (@List.zip_nil_left.{0,0})) (And.intro (@Bool.false_eq_true) (@Bool.and_false))) (And.intro (And.intro (@Bool.false_and) (@Nat.zero_add)) (And.intro (@Nat.add_zero)
    (And.intro (@rawD_nil) (@rawD_tmp))))) (And.intro (And.intro (And.intro (@rawD_cell) (@resO_some)) (And.intro (@resP_some) (@tupD_one))) (And.intro (And.intro (@tupD_two) (@tupD_three)) (And.intro
    (@Ends_ret) (And.intro (@Ends_normal) (@args0_0)))))) (And.intro (And.intro (And.intro (And.intro (@args0_1) (@args0_2)) (And.intro (@args0_3) (@args0_4))) (And.intro (And.intro (@Round_ret)
    (@Round_exit)) (And.intro (@frz_box) (And.intro (@frzB_vars) (@frzB_fvars))))) (And.intro (And.intro (And.intro (@frzBK_some) (@runQ_nil)) (And.intro (@runQ_cons) (And.intro (@stepQ_some)
    (@putCells_nil)))) (And.intro (And.intro (@putCells_cons) (@List.set_cons_zero.{0})) (And.intro (@List.set_cons_succ.{0}) (And.intro (@partD_agg) (@Nat.le_refl)))))))))
end Go.VM
end

section
namespace Go.VM
open Go
def annL (l : List (Nat × (List Nat × List Nat))) : Nat → Option (List Nat × List Nat) := fun i => some ((l.lookup i).getD ([], []))
def CodeIs (P : Program) (ann : Nat → Option (List Nat × List Nat)) (f : FuncId) (v : VFunc) : Prop := ∃ fn, P.funcs[f]? = some fn ∧ (fn.name == "runtime.NumGoroutine") = false ∧ vfuncOf P ann fn = some v
end Go.VM
end

section
namespace Go.VM
open Go Go.RowKit

def cmpL : List UInt8 → List UInt8 → Int
  | [], [] => 0
  | [], _ :: _ => -1
  | _ :: _, [] => 1
  | x :: xs, y :: ys => if x = y then cmpL xs ys else if x < y then -1 else 1

theorem cmpL_find (a b : List UInt8) : ∀ (k : Nat), (match ((List.range (min a.length b.length)).map (· + k)).find? (fun i => a.getD (i - k) 0 != b.getD (i - k) 0) with
    | some i => if a.getD (i - k) 0 < b.getD (i - k) 0 then (-1 : Int) else 1
    | none => if a.length < b.length then -1 else if a.length > b.length then 1 else 0) = cmpL a b := by
  induction a generalizing b with
  | nil =>
    intro k
    cases b with
    | nil => rfl
    | cons y ys => simp [cmpL]
  | cons x xs ih =>
    intro k
    cases b with
    | nil => simp [cmpL]
    | cons y ys =>
      have hmin : min (x :: xs).length (y :: ys).length = min xs.length ys.length + 1 := by simp [Nat.succ_min_succ]
      rw [hmin, List.range_succ_eq_map, List.map_cons, List.find?_cons]
      simp only [Nat.zero_add, Nat.sub_self, List.getD_cons_zero]
      by_cases hxy : x = y
      · subst hxy
        simp only [bne_self_eq_false, cmpL, if_true]
        rw [← ih ys (k + 1)]
        rw [List.map_map]
        have e1 : (List.range (min xs.length ys.length)).map ((fun x => x + k) ∘ Nat.succ) = (List.range (min xs.length ys.length)).map (· + (k + 1)) := by
          apply List.map_congr_left
          intro i _
          simp only [Function.comp]
          omega
        rw [e1]
        have e2 : ((List.range (min xs.length ys.length)).map (· + (k + 1))).find? (fun i => (x :: xs).getD (i - k) 0 != (x :: ys).getD (i - k) 0) = ((List.range (min xs.length ys.length)).map (· + (k + 1))).find? (fun i => xs.getD (i - (k + 1)) 0 != ys.getD (i - (k + 1)) 0) := by
          refine Lib.find_congr ?_
          intro i hi
          obtain ⟨j, _, rfl⟩ := List.mem_map.1 hi
          have : j + (k + 1) - k = (j + (k + 1) - (k + 1)) + 1 := by omega
          rw [this, List.getD_cons_succ, List.getD_cons_succ]
        rw [e2]
        cases hf : ((List.range (min xs.length ys.length)).map (· + (k + 1))).find? (fun i => xs.getD (i - (k + 1)) 0 != ys.getD (i - (k + 1)) 0) with
        | none => simp [Nat.succ_lt_succ_iff]
        | some i =>
          obtain ⟨j, _, rfl⟩ := List.mem_map.1 (List.mem_of_find?_eq_some hf)
          have : j + (k + 1) - k = (j + (k + 1) - (k + 1)) + 1 := by omega
          simp only [this, List.getD_cons_succ]
      · have hb : (x != y) = true := by simpa using hxy
        simp only [hb, cmpL, Nat.sub_self, List.getD_cons_zero]
        rw [if_neg hxy]

theorem cmp_eq (a b : ByteArray) : Extern.BytealgCompare.cmp a b = cmpL a.data.toList b.data.toList := by
  obtain ⟨⟨a⟩⟩ := a
  obtain ⟨⟨b⟩⟩ := b
  rw [← cmpL_find a b 0]
  unfold Extern.BytealgCompare.cmp
  simp only [Nat.add_zero, List.map_id', Nat.sub_zero]
  have sz : ∀ l : List UInt8, (ByteArray.mk l.toArray).size = l.length := fun l => rfl
  have get : ∀ (l : List UInt8) (i : Nat), i < l.length → (ByteArray.mk l.toArray)[i]! = l.getD i 0 := by
    intro l i hi
    have e1 : (ByteArray.mk l.toArray)[i]! = l[i] := getElem!_pos (ByteArray.mk l.toArray) i hi
    rw [e1]; simp [List.getD, List.getElem?_eq_getElem hi]
  rw [sz, sz]
  have e : (List.range (min a.length b.length)).find? (fun i => (ByteArray.mk a.toArray)[i]! != (ByteArray.mk b.toArray)[i]!) = (List.range (min a.length b.length)).find? (fun i => a.getD i 0 != b.getD i 0) := by
    refine Lib.find_congr ?_
    intro i hi
    have hi' := List.mem_range.1 hi
    rw [get a i (by omega), get b i (by omega)]
  rw [e]
  cases hf : (List.range (min a.length b.length)).find? (fun i => a.getD i 0 != b.getD i 0) with
  | none => rfl
  | some i =>
    have hi' := List.mem_range.1 (List.mem_of_find?_eq_some hf)
    simp only
    rw [get a i (by omega), get b i (by omega)]

def cmpP {G : Type} : List D → G → Option (D × G)
  | [.str a, .str b], g => some (.int .i64 (cmpL a.data.toList b.data.toList), g)
  | _, _ => none

theorem CallPost.same {gh : Gh} {I : Im} {g : gh.G} {w : World} {r : D} {v : Value} (himm : ∀ b o, I b o → ∃ u, w.cell? ⟨b, o, none⟩ = some u) (hJ : gh.J g w) (hI : ∀ b o, I b o → ¬ gh.F g b) (hv : VR0 I w r v) : CallPost gh I g w r g v w :=
  ⟨⟨I, fun _ _ h => h, himm, fun _ _ h => .inl h, hI, hv⟩, hJ, fun _ h => .inl h, Nat.le_refl _, rfl, rfl, rfl, fun _ _ _ => rfl⟩

theorem cmp_does {P : Program} {gh : Gh} {f : FuncId} {fn : Func} (hf : P.funcs[f]? = some fn) (hname : (fn.name == "runtime.NumGoroutine") = false) (hb : fn.body.isNone = true) (hn : Extern.findNext fn = none) (he : Extern.find fn = some Extern.BytealgCompare.compare)
    {ds : List D} {g g' : gh.G} {r : D} (hp : cmpP ds g = some (r, g')) {I : Im} {w : World} {vs : List Value} (himm : ∀ b o, I b o → ∃ u, w.cell? ⟨b, o, none⟩ = some u) (hJ : gh.J g w) (hI : ∀ b o, I b o → ¬ gh.F g b) (hvs : VR0L I w ds vs) :
    Does P f vs w fun v w' => CallPost gh I g w r g' v w' := by
  unfold cmpP at hp
  split at hp
  · rename_i a b
    simp only [Option.some.injEq, Prod.mk.injEq] at hp
    obtain ⟨rfl, rfl⟩ := hp
    obtain ⟨hl, hv⟩ := hvs
    obtain ⟨v0, v1, rfl⟩ : ∃ v0 v1, vs = [v0, v1] := by
      match vs, hl with
      | [v0, v1], _ => exact ⟨v0, v1, rfl⟩
    have h0 := hv 0 (by simp) (by simp)
    have h1 := hv 1 (by simp) (by simp)
    simp only [List.getElem_cons_zero, List.getElem_cons_succ] at h0 h1
    cases h0
    cases h1
    refine .inr ⟨_, w, ?_, CallPost.same himm hJ hI (.int .i64 _)⟩
    rw [run_callFunc_extern hf hname hb hn he]
    change Result.andThen (Sem.run P (do pure (goInt (Extern.BytealgCompare.cmp (← Extern.Bytes.bytesOf (.string a)) (← Extern.Bytes.bytesOf (.string b))))) w) _ = _
    simp [Extern.Bytes.bytesOf, cmp_eq, goInt]
  · simp at hp
end Go.VM
end

section
namespace Go.VM
open Go

def lpK {G : Type} (m : Nat) (F : St G → Option (Ex × St G)) (tr : St G → Option (St G)) (st : St G) : Option (Ex × St G) := loopN F tr m st
def callK {G : Type} (T : Tab G) (m : Nat) : Nat → Pc G
  | 0 => ⟨T.sh, fun _ _ _ => none, fun _ _ _ _ => none⟩
  | n + 1 => ⟨T.sh, fun f as g => match T.prim f with
      | some p => p as g
      | none => match T.code f with
        | some v => bodyD (callK T m n) (lpK m) v as g
        | none => none, fun f as H g => match T.primS f with
      | some p => p as H g
      | none => match T.code f with
        | some v => bodyS (callK T m n) (lpK m) v as H g
        | none => none⟩

section
variable {G : Type} {pc : Pc G} {T : Tab G}
theorem loopN_mono {F F' : St G → Option (Ex × St G)} (h : ∀ st r, F st = some r → F' st = some r) {tr : St G → Option (St G)} : ∀ (n : Nat) (st : St G) (r : Ex × St G), loopN F tr n st = some r → loopN F' tr n st = some r
  | 0, st, r, hr => by simp [loopN] at hr
  | n + 1, st, r, hr => by
    rw [loopN] at hr ⊢
    obtain ⟨s1, h1, hr⟩ := Option.bind_eq_some_iff.1 hr
    obtain ⟨r2, h2, hr⟩ := Option.bind_eq_some_iff.1 hr
    rw [h1, Option.bind_some, h _ _ h2, Option.bind_some]
    obtain ⟨ex, s2⟩ := r2
    cases ex with
    | normal => exact loopN_mono h n s2 r hr
    | exit j => exact hr
    | ret => exact hr
theorem den_kern {m : Nat} : ∀ (c : VCode) (st : St G) (r : Ex × St G), den pc (lpK m) c st = some r → den pc lpL c st = some r := by
  intro c
  induction c with
  | skip => intro st r h; exact h
  | region ops d => intro st r h; exact h
  | seq a b iha ihb =>
    intro st r h
    simp only [den] at h ⊢
    obtain ⟨r1, h1, h⟩ := Option.bind_eq_some_iff.1 h
    rw [iha _ _ h1, Option.bind_some]
    obtain ⟨ex, s⟩ := r1
    cases ex with
    | normal => exact ihb _ _ h
    | _ => exact h
  | cond x a b iha ihb =>
    intro st r h
    simp only [den] at h ⊢
    split at h
    · rename_i t ht
      cases t with
      | true => exact iha _ _ h
      | false => exact ihb _ _ h
    · cases h
  | block i c ih =>
    intro st r h
    simp only [den] at h ⊢
    obtain ⟨r1, h1, h⟩ := Option.bind_eq_some_iff.1 h
    rw [ih _ _ h1, Option.bind_some]
    exact h
  | loop k c ih =>
    intro st r h
    simp only [den, lpK] at h ⊢
    exact lpL_of (loopN_mono (fun st r hr => ih st r hr) m st r h)
  | exit i => intro st r h; exact h
  | ret => intro st r h; exact h
theorem bodyD_kern {m : Nat} {v : VFunc} {as : List D} {g : G} {r : D × G} (h : bodyD pc (lpK m) v as g = some r) : bodyD pc lpL v as g = some r := by
  unfold bodyD at h ⊢
  split at h
  · rename_i hc
    rw [if_pos hc]
    obtain ⟨r1, h1, h⟩ := Option.bind_eq_some_iff.1 h
    rw [den_kern _ _ _ h1, Option.bind_some]
    exact h
  · cases h
theorem bodyS_kern {m : Nat} {v : VFunc} {as : List D} {H : Hp} {g : Nat × G} {r : D × Hp × (Nat × G)} (h : bodyS pc (lpK m) v as H g = some r) : bodyS pc lpL v as H g = some r := by
  unfold bodyS at h ⊢
  split at h
  · rename_i hc
    rw [if_pos hc]
    obtain ⟨r1, h1, h⟩ := Option.bind_eq_some_iff.1 h
    rw [den_kern _ _ _ h1, Option.bind_some]
    exact h
  · cases h
theorem callK_sh {m : Nat} : ∀ n, (callK T m n).sh = T.sh
  | 0 => rfl
  | _ + 1 => rfl
theorem callK_le {m : Nat} : ∀ n, (∀ (f : FuncId) (as : List D) (g : G) (r : D × G), (callK T m n).pure f as g = some r → (callN T n).pure f as g = some r) ∧
    ∀ (f : FuncId) (as : List D) (H : Hp) (g : Nat × G) (r : D × Hp × (Nat × G)), (callK T m n).shared f as H g = some r → (callN T n).shared f as H g = some r
  | 0 => ⟨fun f as g r h => by simp [callK] at h, fun f as H g r h => by simp [callK] at h⟩
  | n + 1 => by
    obtain ⟨u1, u2⟩ := callK_le (m := m) n
    have ev : Evly (callK T m n) (fun _ => callN T n) := ⟨fun _ => by rw [callN_sh, callK_sh], fun f as g r hr => ⟨0, fun _ _ => u1 f as g r hr⟩, fun f as H g r hr => ⟨0, fun _ _ => u2 f as H g r hr⟩⟩
    refine ⟨fun f as g r h => ?_, fun f as H g r h => ?_⟩
    · rw [callK] at h
      rw [callN]
      simp only at h ⊢
      cases hp : T.prim f with
      | some p => rw [hp] at h; exact h
      | none =>
        rw [hp] at h
        cases hf : T.code f with
        | none => rw [hf] at h; simp at h
        | some v =>
          rw [hf] at h
          obtain ⟨k, x⟩ := body_ev ev (bodyD_kern h)
          exact x k (Nat.le_refl _)
    · rw [callK] at h
      rw [callN]
      simp only at h ⊢
      cases hp : T.primS f with
      | some p => rw [hp] at h; exact h
      | none =>
        rw [hp] at h
        cases hf : T.code f with
        | none => rw [hf] at h; simp at h
        | some v =>
          rw [hf] at h
          obtain ⟨k, x⟩ := bodyS_ev ev (bodyS_kern h)
          exact x k (Nat.le_refl _)
/-- A closed call. -/
theorem call_kern (m n : Nat) {f : FuncId} {as : List D} {g : G} {r : D × G} (h : (callK T m n).pure f as g = some r) : (callL T).pure f as g = some r := callL_of ((callK_le n).1 f as g r h)
end
end Go.VM
end

section
namespace Go.VM
open Go

def slt (a b : ByteArray) : Bool := bytesLess a.data.toList b.data.toList
theorem bytesLess_eq (a b : List UInt8) : bytesLess a b = Go.Op.bytesLess a b := rfl
theorem less_irrefl : ∀ a : List UInt8, bytesLess a a = false
  | [] => rfl
  | x :: xs => by
    have := less_irrefl xs
    rw [bytesLess_eq] at this ⊢
    simp [Go.Op.bytesLess, this]
theorem less_trans : ∀ {a b c : List UInt8}, bytesLess a b = true → bytesLess b c = true → bytesLess a c = true
  | _, [], _, h, _ => by rw [bytesLess_eq] at h; cases ‹List UInt8› <;> simp [Go.Op.bytesLess] at h
  | _, _ :: _, [], _, h => by rw [bytesLess_eq] at h; simp [Go.Op.bytesLess] at h
  | [], y :: ys, z :: zs, _, _ => by rw [bytesLess_eq]; rfl
  | x :: xs, y :: ys, z :: zs, h1, h2 => by
    rw [bytesLess_eq] at h1 h2 ⊢
    simp only [Go.Op.bytesLess, Bool.or_eq_true, Bool.and_eq_true, decide_eq_true_eq, beq_iff_eq] at h1 h2 ⊢
    rcases h1 with h1 | ⟨rfl, h1⟩
    · rcases h2 with h2 | ⟨rfl, h2⟩
      · exact .inl (UInt8.lt_trans h1 h2)
      · exact .inl h1
    · rcases h2 with h2 | ⟨rfl, h2⟩
      · exact .inl h2
      · exact .inr ⟨rfl, less_trans h1 h2⟩
theorem cmpL_lt : ∀ a b : List UInt8, cmpL a b < 0 ↔ bytesLess a b = true
  | [], [] => by rw [bytesLess_eq]; simp [cmpL, Go.Op.bytesLess]
  | [], y :: ys => by rw [bytesLess_eq]; simp [cmpL, Go.Op.bytesLess]
  | x :: xs, [] => by rw [bytesLess_eq]; simp [cmpL, Go.Op.bytesLess]
  | x :: xs, y :: ys => by
    have ih := cmpL_lt xs ys
    rw [bytesLess_eq] at ih ⊢
    simp only [cmpL, Go.Op.bytesLess, Bool.or_eq_true, Bool.and_eq_true, decide_eq_true_eq, beq_iff_eq]
    by_cases h : x = y
    · subst h
      simp [ih]
    · rw [if_neg h]
      by_cases h2 : x < y
      · simp [h2]
      · simp [h2, h]
theorem cmpL_eq : ∀ a b : List UInt8, cmpL a b = 0 ↔ a = b
  | [], [] => by simp [cmpL]
  | [], y :: ys => by simp [cmpL]
  | x :: xs, [] => by simp [cmpL]
  | x :: xs, y :: ys => by
    simp only [cmpL]
    by_cases h : x = y
    · subst h
      simp [cmpL_eq xs ys]
    · rw [if_neg h]
      by_cases h2 : x < y
      · simp [h2, h]
      · simp [h2, h]
theorem ba_ext {a b : ByteArray} (h : a.data.toList = b.data.toList) : a = b := by
  obtain ⟨⟨a⟩⟩ := a
  obtain ⟨⟨b⟩⟩ := b
  simp only at h
  rw [h]
theorem slt_irrefl (a : ByteArray) : slt a a = false := less_irrefl _
theorem slt_trans {a b c : ByteArray} (h : slt a b = true) (h' : slt b c = true) : slt a c = true := less_trans h h'
theorem slt_tri (a b : ByteArray) : slt a b = true ∨ a = b ∨ slt b a = true := by
  have key : ∀ x y : List UInt8, bytesLess x y = true ∨ x = y ∨ bytesLess y x = true := by
    intro x
    induction x with
    | nil => intro y; cases y <;> simp [bytesLess_eq, Go.Op.bytesLess]
    | cons x xs ih =>
      intro y
      cases y with
      | nil => simp [bytesLess_eq, Go.Op.bytesLess]
      | cons y ys =>
        have h := ih ys
        rw [bytesLess_eq, bytesLess_eq] at h ⊢
        simp only [Go.Op.bytesLess, Bool.or_eq_true, Bool.and_eq_true, decide_eq_true_eq, beq_iff_eq, List.cons.injEq]
        have tri : x < y ∨ x = y ∨ y < x := by
          rcases Nat.lt_trichotomy x.toNat y.toNat with h1 | h1 | h1
          · exact .inl (UInt8.lt_iff_toNat_lt.2 h1)
          · exact .inr (.inl (UInt8.toNat_inj.1 h1))
          · exact .inr (.inr (UInt8.lt_iff_toNat_lt.2 h1))
        rcases tri with h1 | h1 | h1
        · exact .inl (.inl h1)
        · subst h1
          rcases h with h | h | h
          · exact .inl (.inr ⟨rfl, h⟩)
          · exact .inr (.inl ⟨rfl, h⟩)
          · exact .inr (.inr (.inr ⟨rfl, h⟩))
        · exact .inr (.inr (.inl h1))
  rcases key a.data.toList b.data.toList with h | h | h
  · exact .inl h
  · exact .inr (.inl (ba_ext h))
  · exact .inr (.inr h)
theorem slt_asymm {a b : ByteArray} (h : slt a b = true) : slt b a = false := by
  cases h2 : slt b a with
  | false => rfl
  | true =>
    have h3 := slt_trans h h2
    rw [slt_irrefl] at h3
    cases h3
theorem slt_ne {a b : ByteArray} (h : slt a b = true) : a ≠ b := by
  rintro rfl
  rw [slt_irrefl] at h; cases h
/-- Names that rise. -/
def Rising {A : Type} (nm : A → ByteArray) (l : List A) : Prop := ∀ i (h : i + 1 < l.length), slt (nm l[i]) (nm l[i + 1]) = true
theorem Rising.lt {A : Type} {nm : A → ByteArray} {l : List A} (h : Rising nm l) : ∀ {j i : Nat} (hj : j < l.length) (hij : i < j), slt (nm (l[i]'(by omega))) (nm l[j]) = true := by
  intro j
  induction j with
  | zero => intro i hj hij; omega
  | succ j ih =>
    intro i hj hij
    by_cases he : i = j
    · subst he; exact h i hj
    · exact slt_trans (ih (by omega) (by omega)) (h j hj)
end Go.VM
end

section
set_option linter.all false
set_option maxRecDepth 100000
namespace Go.VM
open Go

/-- slices.BinarySearchFunc. -/
def bsCode (sz : Nat) : VFunc := ⟨(.seq (.region [⟨some 6, .mov (.c (.int .i64 0)), none, []⟩,
  ⟨some 7, .mov (.c (.bool false)), none, [0]⟩] false)
 (.seq (.region [⟨some 12, .mov (.t 0), none, []⟩,
  ⟨some 13, .len false (.t 12), none, [0]⟩,
  ⟨some 8, .mov (.t 13), none, [1, 0, 1]⟩] false)
 (.seq (.region [⟨some 14, .mov (.t 8), none, []⟩,
  ⟨some 9, .mov (.c (.int .i64 0)), none, []⟩,
  ⟨some 10, .mov (.t 14), none, [0, 1, 0, 1]⟩] false)
 (.seq (.block 0 (.loop (some ([0, 1, 2, 8, 9, 10], [])) (.seq (.seq (.region [⟨some 15, .mov (.t 9), none, []⟩,
  ⟨some 16, .mov (.t 10), none, []⟩,
  ⟨some 17, .bin .lss .none (.t 15) (.t 16), none, [0, 1]⟩] false)
 (.cond (.t 17) .skip (.exit 0)))
 (.block 1 (.seq (.region [⟨some 18, .mov (.t 9), none, []⟩,
  ⟨some 19, .mov (.t 10), none, []⟩,
  ⟨some 20, .bin .add .none (.t 18) (.t 19), none, [0, 1]⟩,
  ⟨some 21, .conv .u64 (.t 20), none, [2]⟩,
  ⟨some 22, .bin .shr .none (.t 21) (.c (.int .u64 1)), none, [3]⟩,
  ⟨some 23, .conv .i64 (.t 22), none, [4]⟩,
  ⟨some 11, .mov (.t 23), none, [5, 0, 1, 2, 3, 4, 5]⟩] false)
 (.seq (.region [⟨some 24, .mov (.t 2), none, []⟩,
  ⟨some 25, .mov (.t 0), none, []⟩,
  ⟨some 26, .mov (.t 11), none, []⟩,
  ⟨some 27, .iaddr sz (.t 25) (.t 26), none, [1, 2]⟩,
  ⟨some 28, .load true sz (.t 27), none, [3]⟩,
  ⟨some 29, .mov (.t 1), none, []⟩,
  ⟨some 30, .call (.t 24) [(.t 28), (.t 29)], none, [0, 4, 5]⟩,
  ⟨some 31, .bin .lss .none (.t 30) (.c (.int .i64 0)), none, [6]⟩] false)
 (.cond (.t 31) (.region [⟨some 32, .mov (.t 11), none, []⟩,
  ⟨some 33, .bin .add .none (.t 32) (.c (.int .i64 1)), none, [0]⟩,
  ⟨some 9, .mov (.t 33), none, [1, 0, 1]⟩] false) (.region [⟨some 34, .mov (.t 11), none, []⟩,
  ⟨some 10, .mov (.t 34), none, [0, 0]⟩] false))))))))
 (.seq (.region [⟨some 35, .mov (.t 9), none, []⟩,
  ⟨some 36, .mov (.t 9), none, []⟩,
  ⟨some 37, .mov (.t 8), none, []⟩,
  ⟨some 38, .bin .lss .none (.t 36) (.t 37), none, [1, 2]⟩,
  ⟨some 39, .mov (.t 38), none, [3]⟩,
  ⟨some 40, .mov (.t 2), some (39, true), [4]⟩,
  ⟨some 41, .mov (.t 0), some (39, true), [4]⟩,
  ⟨some 42, .mov (.t 9), some (39, true), [4]⟩,
  ⟨some 43, .iaddr sz (.t 41) (.t 42), some (39, true), [6, 7, 4]⟩,
  ⟨some 44, .load true sz (.t 43), some (39, true), [8, 4]⟩,
  ⟨some 45, .mov (.t 1), some (39, true), [4]⟩,
  ⟨some 46, .call (.t 40) [(.t 44), (.t 45)], some (39, true), [5, 9, 10, 4, 4]⟩,
  ⟨some 47, .bin .eql .none (.t 46) (.c (.int .i64 0)), some (39, true), [11, 4]⟩,
  ⟨some 48, .pick (.t 39) (.t 47) (.c (.bool false)), none, [4, 12]⟩,
  ⟨some 6, .mov (.t 35), none, [0, 11, 0]⟩,
  ⟨some 7, .mov (.t 48), none, [13, 14, 0, 1, 2, 3, 4, 5, 6, 7, 8, 9, 10, 11, 12, 13, 14]⟩] false)
 .ret))))),
 [.tmp 6, .tmp 7], 49⟩

theorem bin_shr1 {k : EqK} {a : Int} : binD .shr k (.int .u64 a) (.int .u64 1) = some (.int .u64 (a.fdiv 2)) := by simp [binD, IntKind.bits]
theorem mid_ok {i j : Nat} (hi : i ≤ maxLen) (hj : j ≤ maxLen) : IntKind.wrap .i64 ((IntKind.wrap .u64 (IntKind.wrap .i64 ((i : Int) + (j : Int)))).fdiv 2) = (((i + j) / 2 : Nat) : Int) := by
  have hi : i ≤ 9223372036854775807 := hi
  have hj : j ≤ 9223372036854775807 := hj
  rw [Int.fdiv_eq_ediv_of_nonneg _ (by omega)]
  rw [IntKind.wrap_i64, IntKind.wrap_u64, IntKind.wrap_i64]
  omega

/-- Cells of an element. -/
theorem take_all {l : List D} {n : Nat} (h : l.length = n) : l.take n = l := List.take_of_length_le (by omega)

structure BsOk {A : Type} (nm : A → ByteArray) (l : List A) (name : ByteArray) (k : Nat) (found : Bool) : Prop where
  le : k ≤ l.length
  lo : ∀ j (h : j < l.length), j < k → slt (nm l[j]) name = true
  hi : ∀ j (h : j < l.length), k ≤ j → slt (nm l[j]) name = false
  is : found = true ↔ ∃ h : k < l.length, nm l[k] = name

theorem bs_c {T : Tab Unit} {A : Type} {enc : A → List D} {sz : Nat} (hs : ∀ a, (enc a).length = sz) (hp : ∀ a, (enc a).all D.plain1 = true) (hfz : ∀ a (H : Hp), frzL (frz1 3) H (enc a) = some (enc a, H)) (nm : A → ByteArray) {f fid : FuncId} (hsh : T.sh fid = false) (h1 : T.prim f = none) (h2 : T.code f = some (bsCode sz)) (x : SlOf A) (name : ByteArray)
    (hcmp : ∀ a u, (callL T).pure fid [.agg (enc a), .str name] u = some (.int .i64 (cmpL (nm a).data.toList name.data.toList), u)) (hr : Rising nm x.list) (u : Unit) :
    ∃ k found, (callL T).pure f [slD enc x, .str name, .fn fid []] u = some (.tup [.int .i64 (k : Nat), .bool found], u) ∧ BsOk nm x.list name k found := by
  have hm := x.len_le
  have hshf : (callL T).sh fid = false := hsh
  -- the place
  obtain ⟨k, hk1, hk2, hk3⟩ : ∃ k, k ≤ x.list.length ∧ (∀ j (h : j < x.list.length), j < k → slt (nm x.list[j]) name = true) ∧ ∀ j (h : j < x.list.length), k ≤ j → slt (nm x.list[j]) name = false := by
    have : ∀ n, n ≤ x.list.length → ∃ k, k ≤ n ∧ (∀ j (h : j < x.list.length), j < k → slt (nm x.list[j]) name = true) ∧ ∀ j (h : j < x.list.length), k ≤ j → j < n → slt (nm x.list[j]) name = false := by
      intro n
      induction n with
      | zero => exact fun _ => ⟨0, by omega, fun j _ h => by omega, fun j _ _ h => by omega⟩
      | succ n ih =>
        intro hn
        obtain ⟨k, a, b, c⟩ := ih (by omega)
        by_cases hkn : k = n
        · cases hlt : slt (nm (x.list[n]'(by omega))) name with
          | true => exact ⟨n + 1, by omega, fun j h hj => by
              by_cases e : j = n
              · subst e; exact hlt
              · exact b j h (by omega), fun j _ _ h => by omega⟩
          | false => exact ⟨k, by omega, b, fun j h hj h' => by
              have e : j = n := by omega
              subst e; exact hlt⟩
        · refine ⟨k, by omega, b, fun j h hj h' => ?_⟩
          by_cases e : j = n
          · subst e
            have h3 := c k (by omega) (by omega) (by omega)
            cases hlt : slt (nm (x.list[j]'(by omega))) name with
            | true =>
              have h4 := slt_trans (hr.lt (i := k) (j := j) (by omega) (by omega)) hlt
              rw [h3] at h4; cases h4
            | false => rfl
          · exact c j h hj (by omega)
    obtain ⟨k, a, b, c⟩ := this x.list.length (by omega)
    exact ⟨k, a, b, fun j h hj => c j h hj h⟩
  have hc : ∀ j (h : j < x.list.length), (cmpL (nm x.list[j]).data.toList name.data.toList < 0) ↔ j < k := by
    intro j h
    rw [cmpL_lt]
    constructor
    · intro h'
      rcases Nat.lt_or_ge j k with y | y
      · exact y
      · have := hk3 j h y
        unfold slt at this
        rw [this] at h'; cases h'
    · exact fun h' => hk2 j h h'
  have hload : ∀ j (h : j < x.list.length), partD true sz (enc x.list[j]) = some (.agg (enc x.list[j])) := fun j h => by
    rw [partD_agg (by rw [hs]; exact Nat.le_refl _), take_all (hs _)]
  refine ⟨k, dec (∃ h : k < x.list.length, nm x.list[k] = name), ?_, ⟨hk1, hk2, hk3, dec_iff⟩⟩
  refine fn_of h1 h2 (by simp -implicitDefEqProofs only [vm, pairUp, Nat.reduceEqDiff, Nat.reduceAdd, Nat.reduceLeDiff, reduceIte]) rfl rfl ?_
  unfold bsCode
  refine Wp.seq (Wp_region ?_)
  simp -implicitDefEqProofs only [vm, pairUp, Nat.reduceEqDiff, Nat.reduceAdd, Nat.reduceLeDiff, reduceIte]
  refine Wp.seq (Wp_region ?_)
  simp -implicitDefEqProofs only [vm, pairUp, Nat.reduceEqDiff, Nat.reduceAdd, Nat.reduceLeDiff, reduceIte]
  refine Wp.seq (Wp_region ?_)
  simp -implicitDefEqProofs only [vm, pairUp, Nat.reduceEqDiff, Nat.reduceAdd, Nat.reduceLeDiff, reduceIte]
  refine Wp.seq (Wp.block (Wp.loopT (Inv := fun n e _ _ => ∃ i j : Nat, i ≤ k ∧ k ≤ j ∧ j ≤ x.list.length ∧ n = j - i ∧ e 0 = some (slD enc x) ∧ e 1 = some (.str name) ∧ e 2 = some (.fn fid []) ∧ e 8 = some (.int .i64 (x.list.length : Nat)) ∧ e 9 = some (.int .i64 i) ∧ e 10 = some (.int .i64 j)) ?_ (n := x.list.length) ⟨0, x.list.length, by omega, hk1, by omega, by omega, rfl, rfl, rfl, rfl, rfl, rfl⟩))
  rintro n e H g ⟨i, j, hik, hkj, hj, rfl, h0, h1', h2', h8, h9, h10⟩
  refine ⟨rfl, ?_⟩
  have k0 : keepEnv [0, 1, 2, 8, 9, 10] [] e 0 = some (slD enc x) := keepEnv_some h0 rfl okH_sl
  have k1 : keepEnv [0, 1, 2, 8, 9, 10] [] e 1 = some (.str name) := keepEnv_some h1' rfl rfl
  have k2 : keepEnv [0, 1, 2, 8, 9, 10] [] e 2 = some (.fn fid []) := keepEnv_some h2' rfl rfl
  have k8 : keepEnv [0, 1, 2, 8, 9, 10] [] e 8 = some (.int .i64 (x.list.length : Nat)) := keepEnv_some h8 rfl rfl
  have k9 : keepEnv [0, 1, 2, 8, 9, 10] [] e 9 = some (.int .i64 i) := keepEnv_some h9 rfl rfl
  have k10 : keepEnv [0, 1, 2, 8, 9, 10] [] e 10 = some (.int .i64 j) := keepEnv_some h10 rfl rfl
  generalize keepEnv [0, 1, 2, 8, 9, 10] [] e = e' at k0 k1 k2 k8 k9 k10
  rw [keepHp_nil]
  refine Wp.seq (Wp.seq (Wp_region ?_))
  simp -implicitDefEqProofs only [vm, pairUp, Nat.reduceEqDiff, Nat.reduceAdd, Nat.reduceLeDiff, reduceIte, k9, k10]
  by_cases hij : i < j
  · refine Wp.condT (by simp -implicitDefEqProofs only [vm, pairUp, Nat.reduceEqDiff, Nat.reduceAdd, Nat.reduceLeDiff, reduceIte]; simp [hij]) (Wp.skip ?_)
    simp -implicitDefEqProofs only [vm, pairUp, Nat.reduceEqDiff, Nat.reduceAdd, Nat.reduceLeDiff, reduceIte]
    have hmid := mid_ok (i := i) (j := j) (by omega) (by omega)
    have hmlt : (i + j) / 2 < x.list.length := by omega
    refine Wp.block (Wp.seq (Wp_region ?_))
    simp -implicitDefEqProofs only [vm, pairUp, Nat.reduceEqDiff, Nat.reduceAdd, Nat.reduceLeDiff, reduceIte, k9, k10, bin_shr1, hmid]
    have ia := iaD_nat (H := fun _ => none) (enc := enc) (sz := sz) hmlt (hs _)
    refine Wp.seq (Wp_region ?_)
    simp -implicitDefEqProofs only [vm, pairUp, Nat.reduceEqDiff, Nat.reduceAdd, Nat.reduceLeDiff, reduceIte, k0, k1, k2, ia, hload _ hmlt, hfz, hshf, hcmp]
    by_cases hlk : (i + j) / 2 < k
    · refine Wp.condT (by simp -implicitDefEqProofs only [vm, pairUp, Nat.reduceEqDiff, Nat.reduceAdd, Nat.reduceLeDiff, reduceIte]; simp [(hc _ hmlt).2 hlk]) (Wp_region ?_)
      have hw := wrap_nat (n := (i + j) / 2) (by omega)
      simp -implicitDefEqProofs only [vm, pairUp, Nat.reduceEqDiff, Nat.reduceAdd, Nat.reduceLeDiff, reduceIte, hw]
      exact Round_normal ⟨j - ((i + j) / 2 + 1), by omega, (i + j) / 2 + 1, j, by omega, hkj, hj, rfl, k0, k1, k2, k8, rfl, k10⟩
    · refine Wp.condF (by simp -implicitDefEqProofs only [vm, pairUp, Nat.reduceEqDiff, Nat.reduceAdd, Nat.reduceLeDiff, reduceIte]; simp [fun h => hlk ((hc _ hmlt).1 h)]; exact Int.not_lt.1 fun h => hlk ((hc _ hmlt).1 h)) (Wp_region ?_)
      simp -implicitDefEqProofs only [vm, pairUp, Nat.reduceEqDiff, Nat.reduceAdd, Nat.reduceLeDiff, reduceIte]
      exact Round_normal ⟨(i + j) / 2 - i, by omega, i, (i + j) / 2, hik, by omega, by omega, rfl, k0, k1, k2, k8, k9, rfl⟩
  · obtain rfl : i = k := by omega
    refine Wp.condF (by simp -implicitDefEqProofs only [vm, pairUp, Nat.reduceEqDiff, Nat.reduceAdd, Nat.reduceLeDiff, reduceIte]; simp [hij]) (Wp.exit ?_)
    simp -implicitDefEqProofs only [vm, pairUp, Nat.reduceEqDiff, Nat.reduceAdd, Nat.reduceLeDiff, reduceIte]
    refine Wp.seq (Wp_region ?_)
    by_cases hlt : i < x.list.length
    · have hlt' : (i : Int) < ((x.list.length : Nat) : Int) := by omega
      have ia := iaD_nat (H := fun _ => none) (enc := enc) (sz := sz) hlt (hs _)
      simp -implicitDefEqProofs only [vm, pairUp, Nat.reduceEqDiff, Nat.reduceAdd, Nat.reduceLeDiff, reduceIte, k0, k1, k2, k8, k9, hlt', ia, hload _ hlt, hfz, hshf, hcmp]
      refine Wp.ret ?_
      simp -implicitDefEqProofs only [vm, pairUp, Nat.reduceEqDiff, Nat.reduceAdd, Nat.reduceLeDiff, reduceIte]
      have he : decide (cmpL (nm x.list[i]).data.toList name.data.toList = 0) = dec (∃ h : i < x.list.length, nm x.list[i] = name) := by
        by_cases hh : nm x.list[i] = name
        · rw [dec_true ⟨hlt, hh⟩]
          simp [(cmpL_eq _ _).2 (congrArg (fun b : ByteArray => b.data.toList) hh)]
        · rw [dec_false (fun ⟨_, h⟩ => hh h)]
          simp only [decide_eq_false_iff_not]
          exact fun h => hh (ba_ext ((cmpL_eq _ _).1 h))
      rw [he]
    · have hlt' : ¬ (i : Int) < ((x.list.length : Nat) : Int) := by omega
      simp -implicitDefEqProofs only [vm, pairUp, Nat.reduceEqDiff, Nat.reduceAdd, Nat.reduceLeDiff, reduceIte, k0, k1, k2, k8, k9, hlt']
      refine Wp.ret ?_
      simp -implicitDefEqProofs only [vm, pairUp, Nat.reduceEqDiff, Nat.reduceAdd, Nat.reduceLeDiff, reduceIte]
      rw [dec_false (fun ⟨h, _⟩ => hlt h)]

/-- slices.IndexFunc. -/
def idxCode (ag : Bool) (sz : Nat) : VFunc := ⟨(.seq (.region [⟨some 4, .mov (.c (.int .i64 0)), none, []⟩] false)
 (.seq (.seq (.region [⟨some 6, .mov (.t 0), none, []⟩,
  ⟨some 7, .len false (.t 6), none, [0]⟩,
  ⟨some 8, .mov (.c (.int .i64 0)), none, []⟩] false)
 (.block 0 (.loop (some ([0, 1, 7, 8], [])) (.seq (.region [⟨some 9, .bin .lss .none (.t 8) (.t 7), none, []⟩] false)
 (.seq (.cond (.t 9) .skip (.exit 0))
 (.seq (.block 1 (.seq (.region [⟨some 10, .mov (.t 8), none, []⟩,
  ⟨some 5, .mov (.t 10), none, [0, 0]⟩] false)
 (.seq (.region [⟨some 11, .mov (.t 1), none, []⟩,
  ⟨some 12, .mov (.t 0), none, []⟩,
  ⟨some 13, .mov (.t 5), none, []⟩,
  ⟨some 14, .iaddr sz (.t 12) (.t 13), none, [1, 2]⟩,
  ⟨some 15, .load ag sz (.t 14), none, [3]⟩,
  ⟨some 16, .call (.t 11) [(.t 15)], none, [0, 4]⟩] false)
 (.cond (.t 16) (.seq (.region [⟨some 17, .mov (.t 5), none, []⟩,
  ⟨some 4, .mov (.t 17), none, [0, 0]⟩] false)
 .ret) .skip))))
 (.region [⟨some 18, .bin .add .none (.t 8) (.c (.int .i64 1)), none, []⟩,
  ⟨some 8, .mov (.t 18), none, [0]⟩] false)))))))
 (.seq (.region [⟨some 4, .mov (.c (.int .i64 (-1))), none, []⟩] false)
 .ret))),
 [.tmp 4], 19⟩
/-- slices.ContainsFunc. -/
def hasCode (f : FuncId) : VFunc := ⟨(.seq (.region [⟨some 4, .mov (.c (.bool false)), none, []⟩] false)
 (.seq (.region [⟨some 5, .mov (.t 0), none, []⟩,
  ⟨some 6, .mov (.t 1), none, []⟩,
  ⟨some 7, .call (.c (.fn f [])) [(.t 5), (.t 6)], none, [0, 1]⟩,
  ⟨some 8, .bin .geq .none (.t 7) (.c (.int .i64 0)), none, [2]⟩,
  ⟨some 4, .mov (.t 8), none, [3, 2, 0, 1, 2, 3]⟩] false)
 .ret)),
 [.tmp 4], 9⟩
/-- An element as a value. -/
structure ElOk {A : Type} (enc : A → List D) (ag : Bool) (sz : Nat) (d : A → D) : Prop where
  len : ∀ a, (enc a).length = sz
  load : ∀ a, partD ag sz (enc a) = some (d a)
  frz : ∀ a (H : Hp), frz H (d a) = some (d a, H)
theorem idx_c {T : Tab Unit} {A : Type} {enc : A → List D} {ag : Bool} {sz : Nat} {d : A → D} (hd : ElOk enc ag sz d) {f fid : FuncId} {caps : List D} (hsh : T.sh fid = false) (h1 : T.prim f = none) (h2 : T.code f = some (idxCode ag sz)) (x : SlOf A) (p : A → Prop)
    (hcall : ∀ a ∈ x.list, ∀ u, (callL T).pure fid (d a :: caps) u = some (.bool (dec (p a)), u)) (u : Unit) :
    ∃ n : Int, (callL T).pure f [slD enc x, .fn fid caps] u = some (.int .i64 n, u) ∧ ((n = -1 ∧ ∀ a ∈ x.list, ¬ p a) ∨ ∃ i, ∃ h : i < x.list.length, n = (i : Int) ∧ p x.list[i] ∧ ∀ j (h : j < x.list.length), j < i → ¬ p x.list[j]) := by
  have hm := x.len_le
  have hshf : (callL T).sh fid = false := hsh
  obtain ⟨N, hN, hcase⟩ : ∃ N, N ≤ x.list.length ∧ (∀ j (h : j < x.list.length), j < N → ¬ p x.list[j]) ∧ ∀ h : N < x.list.length, p x.list[N] := by
    have : ∀ n, n ≤ x.list.length → (∀ j (h : j < x.list.length), j < n → ¬ p x.list[j]) ∨ ∃ i, i < n ∧ (∃ h : i < x.list.length, p x.list[i]) ∧ ∀ j (h : j < x.list.length), j < i → ¬ p x.list[j] := by
      intro n
      induction n with
      | zero => exact fun _ => .inl fun j _ h => by omega
      | succ n ih =>
        intro hn
        rcases ih (by omega) with h | ⟨i, a, b, c⟩
        · by_cases hp : p (x.list[n]'(by omega))
          · exact .inr ⟨n, by omega, ⟨by omega, hp⟩, h⟩
          · refine .inl fun j hj hjn => ?_
            by_cases e : j = n
            · subst e; exact hp
            · exact h j hj (by omega)
        · exact .inr ⟨i, by omega, b, c⟩
    rcases this x.list.length (by omega) with h | ⟨i, a, ⟨b, b'⟩, c⟩
    · exact ⟨_, Nat.le_refl _, h, fun h => absurd h (by omega)⟩
    · exact ⟨i, by omega, c, fun _ => b'⟩
  refine ⟨if N < x.list.length then (N : Int) else -1, ?_, ?_⟩
  · refine fn_of h1 h2 (by simp -implicitDefEqProofs only [vm, pairUp, Nat.reduceEqDiff, Nat.reduceAdd, Nat.reduceLeDiff, reduceIte]) rfl rfl ?_
    unfold idxCode
    refine Wp.seq (Wp_region ?_)
    simp -implicitDefEqProofs only [vm, pairUp, Nat.reduceEqDiff, Nat.reduceAdd, Nat.reduceLeDiff, reduceIte]
    refine Wp.seq (Wp.seq (Wp_region ?_))
    simp -implicitDefEqProofs only [vm, pairUp, Nat.reduceEqDiff, Nat.reduceAdd, Nat.reduceLeDiff, reduceIte]
    refine Wp.block (Wp.loopN x.list.length (P := fun i e => i ≤ N ∧ e 0 = some (slD enc x) ∧ e 1 = some (.fn fid caps) ∧ e 7 = some (.int .i64 (x.list.length : Nat)) ∧ e 8 = some (.int .i64 i)) ?_ ⟨by omega, rfl, rfl, rfl, rfl⟩)
    rintro i e g hi ⟨hiN, h0, h1', h7, h8⟩
    have k0 : keepEnv [0, 1, 7, 8] [] e 0 = some (slD enc x) := keepEnv_some h0 rfl okH_sl
    have k1 : keepEnv [0, 1, 7, 8] [] e 1 = some (.fn fid caps) := keepEnv_some h1' rfl rfl
    have k7 : keepEnv [0, 1, 7, 8] [] e 7 = some (.int .i64 (x.list.length : Nat)) := keepEnv_some h7 rfl rfl
    have k8 : keepEnv [0, 1, 7, 8] [] e 8 = some (.int .i64 i) := keepEnv_some h8 rfl rfl
    generalize keepEnv [0, 1, 7, 8] [] e = e' at k0 k1 k7 k8
    refine Wp.seq (Wp_region ?_)
    simp -implicitDefEqProofs only [vm, pairUp, Nat.reduceEqDiff, Nat.reduceAdd, Nat.reduceLeDiff, reduceIte, k7, k8]
    by_cases hlt : i < x.list.length
    · refine Wp.seq (Wp.condT (by simp -implicitDefEqProofs only [vm, pairUp, Nat.reduceEqDiff, Nat.reduceAdd, Nat.reduceLeDiff, reduceIte]; simp [hlt]) (Wp.skip ?_))
      simp -implicitDefEqProofs only [vm, pairUp, Nat.reduceEqDiff, Nat.reduceAdd, Nat.reduceLeDiff, reduceIte]
      refine Wp.seq (Wp.block (Wp.seq (Wp_region ?_)))
      simp -implicitDefEqProofs only [vm, pairUp, Nat.reduceEqDiff, Nat.reduceAdd, Nat.reduceLeDiff, reduceIte, k8]
      have ia := iaD_nat (H := fun _ => none) (enc := enc) (sz := sz) hlt (hd.len _)
      have hc := hcall _ (List.getElem_mem hlt)
      refine Wp.seq (Wp_region ?_)
      simp -implicitDefEqProofs only [vm, pairUp, Nat.reduceEqDiff, Nat.reduceAdd, Nat.reduceLeDiff, reduceIte, k0, k1, ia, hd.load, hd.frz, hshf, hc]
      by_cases hp : p x.list[i]
      · have hiN' : i = N := by
          rcases Nat.lt_or_ge i N with y | y
          · exact absurd hp (hcase.1 i hlt y)
          · omega
        subst hiN'
        refine Wp.condT (by simp -implicitDefEqProofs only [vm, pairUp, Nat.reduceEqDiff, Nat.reduceAdd, Nat.reduceLeDiff, reduceIte, dec_true hp]) (Wp.seq (Wp_region ?_))
        simp -implicitDefEqProofs only [vm, pairUp, Nat.reduceEqDiff, Nat.reduceAdd, Nat.reduceLeDiff, reduceIte]
        refine Wp.ret ?_
        simp -implicitDefEqProofs only [vm, pairUp, Nat.reduceEqDiff, Nat.reduceAdd, Nat.reduceLeDiff, reduceIte, if_pos hlt]
      · have hiN' : i < N := by
          rcases Nat.lt_or_ge i N with y | y
          · exact y
          · have e : i = N := by omega
            subst e
            exact absurd (hcase.2 hlt) hp
        refine Wp.condF (by simp -implicitDefEqProofs only [vm, pairUp, Nat.reduceEqDiff, Nat.reduceAdd, Nat.reduceLeDiff, reduceIte, dec_false hp]) (Wp.skip ?_)
        simp -implicitDefEqProofs only [vm, pairUp, Nat.reduceEqDiff, Nat.reduceAdd, Nat.reduceLeDiff, reduceIte]
        have hw := wrap_nat (n := i) (by omega)
        refine Wp_region ?_
        simp -implicitDefEqProofs only [vm, pairUp, Nat.reduceEqDiff, Nat.reduceAdd, Nat.reduceLeDiff, reduceIte, k8, hw]
        exact Round_normal ⟨hlt, hiN', k0, k1, k7, rfl⟩
    · refine Wp.seq (Wp.condF (by simp -implicitDefEqProofs only [vm, pairUp, Nat.reduceEqDiff, Nat.reduceAdd, Nat.reduceLeDiff, reduceIte]; simp [hlt]) (Wp.exit ?_))
      simp -implicitDefEqProofs only [vm, pairUp, Nat.reduceEqDiff, Nat.reduceAdd, Nat.reduceLeDiff, reduceIte]
      refine Wp.seq (Wp_region ?_)
      simp -implicitDefEqProofs only [vm, pairUp, Nat.reduceEqDiff, Nat.reduceAdd, Nat.reduceLeDiff, reduceIte]
      refine Wp.ret ?_
      have : ¬ N < x.list.length := by omega
      simp -implicitDefEqProofs only [vm, pairUp, Nat.reduceEqDiff, Nat.reduceAdd, Nat.reduceLeDiff, reduceIte, if_neg this]
  · by_cases hlt : N < x.list.length
    · rw [if_pos hlt]
      exact .inr ⟨N, hlt, rfl, hcase.2 hlt, hcase.1⟩
    · rw [if_neg hlt]
      refine .inl ⟨rfl, fun a ha => ?_⟩
      obtain ⟨i, hi, rfl⟩ := List.getElem_of_mem ha
      exact hcase.1 i hi (by omega)
theorem has_c {T : Tab Unit} {A : Type} {enc : A → List D} {ag : Bool} {sz : Nat} {d : A → D} (hd : ElOk enc ag sz d) {f f2 fid : FuncId} {caps : List D} (hsh : T.sh fid = false) (hsh2 : T.sh f2 = false) (h1 : T.prim f = none) (h2 : T.code f = some (hasCode f2)) (h3 : T.prim f2 = none) (h4 : T.code f2 = some (idxCode ag sz)) (x : SlOf A) (p : A → Prop)
    (hcall : ∀ a ∈ x.list, ∀ u, (callL T).pure fid (d a :: caps) u = some (.bool (dec (p a)), u)) (u : Unit) : (callL T).pure f [slD enc x, .fn fid caps] u = some (.bool (dec (∃ a ∈ x.list, p a)), u) := by
  obtain ⟨n, hn, hcase⟩ := idx_c hd hsh h3 h4 x p hcall u
  have hshf : (callL T).sh f2 = false := hsh2
  have hn' : ∀ v, (callL T).pure f2 [slD enc x, .fn fid caps] v = some (.int .i64 n, v) := fun v => hn
  refine fn_of h1 h2 (by simp -implicitDefEqProofs only [vm, pairUp, Nat.reduceEqDiff, Nat.reduceAdd, Nat.reduceLeDiff, reduceIte]) rfl rfl ?_
  unfold hasCode
  refine Wp.seq (Wp_region ?_)
  simp -implicitDefEqProofs only [vm, pairUp, Nat.reduceEqDiff, Nat.reduceAdd, Nat.reduceLeDiff, reduceIte]
  refine Wp.seq (Wp_region ?_)
  simp -implicitDefEqProofs only [vm, pairUp, Nat.reduceEqDiff, Nat.reduceAdd, Nat.reduceLeDiff, reduceIte, hshf, hn']
  refine Wp.ret ?_
  simp -implicitDefEqProofs only [vm, pairUp, Nat.reduceEqDiff, Nat.reduceAdd, Nat.reduceLeDiff, reduceIte]
  rcases hcase with ⟨rfl, h⟩ | ⟨i, hi, rfl, h, _⟩
  · rw [dec_false (fun ⟨a, ha, hp⟩ => h a ha hp)]
    rfl
  · rw [dec_true ⟨_, List.getElem_mem hi, h⟩]
    simp
end Go.VM
end

section
namespace Go.VM
open Go

section
variable {G : Type} {pc : Pc G}
def statOk (a i : VOper) : Bool :=
  (match a.dst with | some d => !i.reads.contains d && i.dst != some d | none => true) &&
  (match i.dst with | some d => !a.reads.contains d | none => true) &&
  !(a.op.isCall && i.op.isCall)
def dynOk (a i : VOper) (na ni : Nt) : Bool :=
  ((na.eff == .none || !ni.saw) && (ni.eff == .none || !na.saw)) || (clearOf (wkey a na) ni && clearOf (wkey i ni) na)
theorem swaps_eq (a i : VOper) (na ni : Nt) : swaps a i na ni = (statOk a i && dynOk a i na ni) := rfl
/-- Pairs that nothing orders, and that could never change places. -/
def openL (T : List Nat) : List (Nat × VOper) → List (Nat × Nat)
  | [] => []
  | x :: xs => (xs.filterMap fun y => if (T.getD y.1 0).testBit x.1 then none else some (x.1, y.1)) ++ openL T xs
def statL (T : List Nat) : List (Nat × VOper) → Bool
  | [] => true
  | x :: xs => (xs.all fun y => (T.getD y.1 0).testBit x.1 || statOk x.2 y.2) && statL T xs
def nums : Nat → List VOper → List (Nat × VOper)
  | _, [] => []
  | i, o :: os => (i, o) :: nums (i + 1) os
def openPairs (ops : List VOper) : List (Nat × Nat) := openL (ancs ops []) (nums 0 ops)
def drawB (ops : List VOper) : Bool := backOk 0 ops && statL (ancs ops []) (nums 0 ops)
theorem mem_openL {T : List Nat} : ∀ {l : List (Nat × VOper)} {x y : Nat × VOper} {l1 l2 l3 : List (Nat × VOper)}, l = l1 ++ x :: (l2 ++ y :: l3) → (T.getD y.1 0).testBit x.1 = false → (x.1, y.1) ∈ openL T l
  | l, x, y, [], l2, l3, h, hb => by
    subst h
    simp only [List.nil_append, openL]
    exact List.mem_append.2 (.inl (List.mem_filterMap.2 ⟨y, by simp, by rw [hb]; rfl⟩))
  | l, x, y, z :: l1, l2, l3, h, hb => by
    subst h
    simp only [List.cons_append, openL]
    exact List.mem_append.2 (.inr (mem_openL rfl hb))
theorem drawL_of {T : List Nat} : ∀ {os : List VOper} {n : Nat} {nts : List Nt}, statL T (nums n os) = true → (∀ i j a b na nb, (i, j) ∈ openL T (nums n os) → n ≤ i → n ≤ j → os[i - n]? = some a → os[j - n]? = some b → nts[i - n]? = some na → nts[j - n]? = some nb → dynOk a b na nb = true) → drawL T (number n os nts) = true
  | [], n, nts, _, _ => by cases nts <;> rfl
  | o :: os, n, [], _, _ => rfl
  | o :: os, n, x :: nts, hs, h => by
    simp only [nums, statL, Bool.and_eq_true] at hs
    simp only [number, drawL, Bool.and_eq_true]
    refine ⟨?_, drawL_of hs.2 fun i j a b na nb hij hi hj ha hb hna hnb => h i j a b na nb ?_ (by omega) (by omega) ?_ ?_ ?_ ?_⟩
    · rw [List.all_eq_true]
      intro y hy
      obtain ⟨m, hm⟩ := List.getElem_of_mem hy
      have key : ∀ (os : List VOper) (k : Nat) (nts : List Nt) (m : Nat) (hm : m < (number k os nts).length), ∃ a b, os[m]? = some a ∧ nts[m]? = some b ∧ (number k os nts)[m] = (k + m, a, b) := by
        intro os
        induction os with
        | nil => intro k nts m hm; cases nts <;> simp [number] at hm
        | cons o os ih =>
          intro k nts m hm
          cases nts with
          | nil => simp [number] at hm
          | cons nt nts =>
            cases m with
            | zero => exact ⟨o, nt, rfl, rfl, rfl⟩
            | succ m =>
              obtain ⟨a, b, h1, h2, h3⟩ := ih (k + 1) nts m (by simpa [number] using hm)
              exact ⟨a, b, by simpa using h1, by simpa using h2, by simp only [number, List.getElem_cons_succ, h3]; congr 1; omega⟩
      obtain ⟨hm, he⟩ := hm
      obtain ⟨a, b, h1, h2, h3⟩ := key os (n + 1) nts m hm
      rw [he] at h3
      subst h3
      simp only [Bool.or_eq_true]
      by_cases hb : (T.getD (n + 1 + m) 0).testBit n = true
      · exact .inl hb
      · right
        rw [swaps_eq, Bool.and_eq_true]
        have nget : ∀ (os : List VOper) (k m : Nat) (a : VOper), os[m]? = some a → (nums k os)[m]? = some (k + m, a) := by
          intro os
          induction os with
          | nil => intro k m a h; simp at h
          | cons o os ih =>
            intro k m a h
            cases m with
            | zero => simp at h; simp [nums, h]
            | succ m =>
              have := ih (k + 1) m a (by simpa using h)
              simp only [nums, List.getElem?_cons_succ, this]
              congr 2; omega
        have hn := nget os (n + 1) m a h1
        have hmem : (n + 1 + m, a) ∈ nums (n + 1) os := List.mem_of_getElem? hn
        constructor
        · have := List.all_eq_true.1 hs.1 _ hmem
          simp only [Bool.or_eq_true] at this
          exact this.resolve_left hb
        · obtain ⟨l2, l3, hsplit⟩ := List.append_of_mem hmem
          refine h n (n + 1 + m) o a x b ?_ (by omega) (by omega) (by simp) ?_ (by simp) ?_
          · have hb' : (T.getD (n + 1 + m) 0).testBit n = false := by simpa using hb
            exact mem_openL (x := (n, o)) (y := (n + 1 + m, a)) (l1 := []) (l2 := l2) (l3 := l3) (by simp only [nums, List.nil_append, hsplit]) hb'
          · rw [show n + 1 + m - n = m + 1 by omega, List.getElem?_cons_succ]; exact h1
          · rw [show n + 1 + m - n = m + 1 by omega, List.getElem?_cons_succ]; exact h2
    · simp only [nums, openL]
      exact List.mem_append.2 (.inr hij)
    · rw [show i - n = (i - (n + 1)) + 1 by omega, List.getElem?_cons_succ]; exact ha
    · rw [show j - n = (j - (n + 1)) + 1 by omega, List.getElem?_cons_succ]; exact hb
    · rw [show i - n = (i - (n + 1)) + 1 by omega, List.getElem?_cons_succ]; exact hna
    · rw [show j - n = (j - (n + 1)) + 1 by omega, List.getElem?_cons_succ]; exact hnb
/-- Pairs' check, by places. -/
def dynAt (ops : List VOper) (nts : List Nt) (p : Nat × Nat) : Bool := match ops[p.1]?, ops[p.2]?, nts[p.1]?, nts[p.2]? with
  | some a, some b, some na, some nb => dynOk a b na nb
  | _, _, _, _ => true
theorem drawOk_of {ops : List VOper} {nts : List Nt} (hb : drawB ops = true) (h : ∀ p ∈ openPairs ops, dynAt ops nts p = true) : drawOk ops nts = true := by
  simp only [drawB, Bool.and_eq_true] at hb
  simp only [drawOk, Bool.and_eq_true]
  refine ⟨hb.1, drawL_of hb.2 fun i j a b na nb hij _ _ ha hb' hna hnb => ?_⟩
  have := h (i, j) hij
  simp only [Nat.sub_zero] at ha hb' hna hnb
  simp only [dynAt, ha, hb', hna, hnb] at this
  exact this

/-! ### What a region does, with its effects alone -/
def runEs (pc : Pc G) : List VOper → St G → Option (St G × List Eff)
  | [], st => some (st, [])
  | o :: os, st => (runOp pc o st).bind fun p => (runEs pc os p.1).bind fun q => some (q.1, p.2 :: q.2)
def goE (pc : Pc G) (os : List VOper) (acc : List Eff) (st : St G) : Option (St G × List Eff) := (runEs pc os st).map fun q => (q.1, acc ++ q.2)
def stepE (pc : Pc G) (r : Option (St G × Eff)) (os : List VOper) (acc : List Eff) : Option (St G × List Eff) := r.bind fun p => goE pc os (acc ++ [p.2]) p.1
theorem goE_nil {acc : List Eff} {st : St G} : goE pc [] acc st = some (st, acc) := by simp [goE, runEs]
theorem goE_cons {o : VOper} {os : List VOper} {acc : List Eff} {st : St G} : goE pc (o :: os) acc st = stepE pc (runOp pc o st) os acc := by
  simp only [goE, stepE, runEs]
  cases runOp pc o st with
  | none => rfl
  | some p =>
    simp only [Option.bind_some]
    cases runEs pc os p.1 <;> simp
theorem stepE_some {st : St G} {ef : Eff} {os : List VOper} {acc : List Eff} : stepE pc (some (st, ef)) os acc = goE pc os (acc ++ [ef]) st := rfl
theorem goE_runEs {os : List VOper} {st : St G} : goE pc os [] st = runEs pc os st := by
  unfold goE; cases runEs pc os st <;> simp
theorem runEs_eff : ∀ {os : List VOper} {st st' : St G} {efs : List Eff}, runEs pc os st = some (st', efs) → ∃ nts, runEff pc os st = some (st', nts) ∧ nts.length = efs.length ∧ ∀ (i : Nat) (nt : Nt) (ef : Eff), nts[i]? = some nt → efs[i]? = some ef → ef = Eff.none → nt.eff = Eff.none
  | [], st, st', efs, h => by
    simp only [runEs, Option.some.injEq, Prod.mk.injEq] at h
    obtain ⟨rfl, rfl⟩ := h
    exact ⟨[], rfl, rfl, fun i nt ef h => by simp at h⟩
  | o :: os, st, st', efs, h => by
    simp only [runEs] at h
    obtain ⟨p, h1, h⟩ := Option.bind_eq_some_iff.1 h
    obtain ⟨q, h2, h⟩ := Option.bind_eq_some_iff.1 h
    simp only [Option.some.injEq, Prod.mk.injEq] at h
    obtain ⟨rfl, rfl⟩ := h
    obtain ⟨nts, h3, h4, h5⟩ := runEs_eff (st' := q.1) (efs := q.2) (by rw [h2])
    refine ⟨_, by simp only [runEff, h1, Option.bind_some, h3]; rfl, by simp [h4], fun i nt ef hn he hz => ?_⟩
    cases i with
    | zero =>
      simp only [List.getElem?_cons_zero, Option.some.injEq] at hn he
      subst hn
      split
      · simp [noteOf, he, hz]
      · rfl
    | succ i => exact h5 i nt ef (by simpa using hn) (by simpa using he) hz
theorem runDraw_effs {ops : List VOper} {st st' : St G} {efs : List Eff} (hb : drawB ops = true) (h : goE pc ops [] st = some (st', efs)) (hp : ((openPairs ops).all fun p => efs.getD p.1 .write == .none && efs.getD p.2 .write == .none) = true) : runDraw pc ops st = some st' := by
  rw [goE_runEs] at h
  obtain ⟨nts, h1, h2, h3⟩ := runEs_eff h
  simp only [runDraw, h1, Option.bind_some]
  rw [if_pos]
  refine drawOk_of hb fun p hpm => ?_
  have := List.all_eq_true.1 hp p hpm
  simp only [Bool.and_eq_true, beq_iff_eq] at this
  unfold dynAt
  split
  · rename_i a b na nb ha hb hna hnb
    have l1 : p.1 < efs.length := by rw [← h2]; exact (List.getElem?_eq_some_iff.1 hna).1
    have l2 : p.2 < efs.length := by rw [← h2]; exact (List.getElem?_eq_some_iff.1 hnb).1
    have e1 := h3 p.1 na efs[p.1] hna (List.getElem?_eq_getElem l1) (by have := this.1; simpa [List.getD_eq_getElem?_getD, List.getElem?_eq_getElem l1] using this)
    have e2 := h3 p.2 nb efs[p.2] hnb (List.getElem?_eq_getElem l2) (by have := this.2; simpa [List.getD_eq_getElem?_getD, List.getElem?_eq_getElem l2] using this)
    simp [dynOk, e1, e2]
  · rfl
theorem Wp_effs {ops : List VOper} {st st' : St G} {efs : List Eff} {Q : Ex → St G → Prop} (hb : drawB ops = true) (h : goE pc ops [] st = some (st', efs)) (hp : ((openPairs ops).all fun p => efs.getD p.1 .write == .none && efs.getD p.2 .write == .none) = true) (hQ : Q .normal st') : Wp pc (.region ops true) st Q := .draw (runDraw_effs hb h hp) hQ

/-! ### With notes -/
def goN (pc : Pc G) (os : List VOper) (acc : List Nt) (st : St G) : Option (St G × List Nt) := (runEff pc os st).map fun q => (q.1, acc ++ q.2)
def ntO (pc : Pc G) (o : VOper) (st : St G) (ef : Eff) : Nt := if o.on st.env then noteOf pc.sh st.b o st.env ef else ⟨.none, false, true, [], none⟩
def stepN (pc : Pc G) (r : Option (St G × Eff)) (o : VOper) (st : St G) (os : List VOper) (acc : List Nt) : Option (St G × List Nt) := r.bind fun p => goN pc os (acc ++ [ntO pc o st p.2]) p.1
theorem goN_nil {acc : List Nt} {st : St G} : goN pc [] acc st = some (st, acc) := by simp [goN, runEff]
theorem goN_cons {o : VOper} {os : List VOper} {acc : List Nt} {st : St G} : goN pc (o :: os) acc st = stepN pc (runOp pc o st) o st os acc := by
  simp only [goN, stepN, runEff, ntO]
  cases runOp pc o st with
  | none => rfl
  | some p =>
    simp only [Option.bind_some]
    cases runEff pc os p.1 <;> simp
theorem stepN_some {o : VOper} {st st' : St G} {ef : Eff} {os : List VOper} {acc : List Nt} : stepN pc (some (st', ef)) o st os acc = goN pc os (acc ++ [ntO pc o st ef]) st' := rfl
theorem ntO_none {dst : Option Nat} {op : VOp} {af : List Nat} {e : Env} {H : Hp} {g : Nat × G} {b : Nat} {ef : Eff} : ntO pc ⟨dst, op, none, af⟩ ⟨e, H, g, b⟩ ef = ⟨ef, op.saw pc.sh e, op.quiet pc.sh e, op.keys e, dk b dst⟩ := rfl
theorem runDraw_notes {ops : List VOper} {st st' : St G} {nts : List Nt} (hb : drawB ops = true) (h : goN pc ops [] st = some (st', nts)) (hp : ((openPairs ops).all (dynAt ops nts)) = true) : runDraw pc ops st = some st' := by
  have h' : runEff pc ops st = some (st', nts) := by
    unfold goN at h
    cases hr : runEff pc ops st with
    | none => rw [hr] at h; simp at h
    | some q =>
      rw [hr] at h
      simp only [Option.map_some, List.nil_append, Option.some.injEq, Prod.mk.injEq] at h
      obtain ⟨rfl, rfl⟩ := h
      rfl
  simp only [runDraw, h', Option.bind_some]
  rw [if_pos (drawOk_of hb fun p hpm => List.all_eq_true.1 hp p hpm)]
end
end Go.VM
end
