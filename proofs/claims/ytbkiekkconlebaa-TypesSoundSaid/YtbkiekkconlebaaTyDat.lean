/-
  The data of the Types laws: tables of types, stores of objects.
-/
import Derived.Test.YtbkiekkconlebaaM4
set_option linter.all false
namespace Go.VM
open Go

structure TF where
  name : ByteArray
  type : Int
structure Ty where
  kind : Int
  fields : SlOf TF
  elems : SlOf Int
structure Va where
  kind : Int
  n : Int
structure Pr where
  name : ByteArray
  val : Va
structure Ob where
  props : SlOf Pr
  proto : Va
def encI (n : Int) : List D := [.int .i64 n]
def encTF (f : TF) : List D := [.str f.name, .int .i64 f.type]
def encTy (t : Ty) : List D := [.int .i64 t.kind, slD encTF t.fields, slD encI t.elems]
def encVa (v : Va) : List D := [.int .i64 v.kind, .int .i64 v.n]
def encPr (p : Pr) : List D := [.str p.name, .int .i64 p.val.kind, .int .i64 p.val.n]
def encOb (o : Ob) : List D := [slD encPr o.props, .int .i64 o.proto.kind, .int .i64 o.proto.n]

theorem encSl_eq {A : Type} (enc : A → List D) (x : SlOf A) : encSl enc x = [slD enc x] := by cases x <;> rfl

section
variable {P : Program}
theorem opens_i {t : TypeId} (h : P.underlying t = some (.int .i64)) : Opens P t Int encI := Opens.iso (opens_int h) (·.1) fun _ => rfl
theorem opens_s {t : TypeId} (h : P.underlying t = some .string) : Opens P t ByteArray (fun s => [.str s]) := Opens.iso (opens_str h) (·.1) fun _ => rfl
theorem opens_sl {t e : TypeId} {A : Type} {enc : A → List D} {n : Nat} (h : P.underlying t = some (.slice e)) (he : Opens P e A enc) (hc : P.cellsOf e = n) (hl : ∀ a, (enc a).length = n) (h0 : 0 < n) : Opens P t (SlOf A) (fun x => [slD enc x]) :=
  Opens.iso (opens_slice h he (fun a => by rw [hc]; exact hl a) (by omega)) id fun x => (encSl_eq enc x).symm
/-- A struct of two, of three parts. -/
theorem opens_two {t : TypeId} {fs : Array Field} {f0 f1 : Field} {A B : Type} {e0 : A → List D} {e1 : B → List D} {n0 n1 : Nat} (h : P.underlying t = some (.struct fs)) (hfs : fs.toList = [f0, f1]) (o0 : f0.offset = 0) (o1 : f1.offset = n0) (c0 : P.cellsOf f0.type = n0) (c1 : P.cellsOf f1.type = n1) (ct : P.cellsOf t = n0 + n1)
    (h0 : Opens P f0.type A e0) (h1 : Opens P f1.type B e1) : Opens P t (A × B) (fun p => e0 p.1 ++ e1 p.2) := by
  have hf : OpensF P (P.cellsOf t) fs.toList 0 (A × B × Unit) (fun p => e0 p.1 ++ (e1 p.2.1 ++ [])) := by
    rw [hfs]
    refine opensF_cons o0 c0 h0 (opensF_cons (enc' := fun _ => []) (by omega) c1 h1 ?_)
    rw [ct, Nat.zero_add]
    exact opensF_nil _
  exact Opens.iso (A := A × B × Unit) (enc := fun p => e0 p.1 ++ (e1 p.2.1 ++ [])) (enc' := fun p : A × B => e0 p.1 ++ e1 p.2) (opens_struct h hf) (fun p => (p.1, p.2.1)) fun p => by simp
theorem opens_three {t : TypeId} {fs : Array Field} {f0 f1 f2 : Field} {A B C : Type} {e0 : A → List D} {e1 : B → List D} {e2 : C → List D} {n0 n1 n2 : Nat} (h : P.underlying t = some (.struct fs)) (hfs : fs.toList = [f0, f1, f2]) (o0 : f0.offset = 0) (o1 : f1.offset = n0) (o2 : f2.offset = n0 + n1) (c0 : P.cellsOf f0.type = n0) (c1 : P.cellsOf f1.type = n1) (c2 : P.cellsOf f2.type = n2) (ct : P.cellsOf t = n0 + n1 + n2)
    (h0 : Opens P f0.type A e0) (h1 : Opens P f1.type B e1) (h2 : Opens P f2.type C e2) : Opens P t (A × B × C) (fun p => e0 p.1 ++ (e1 p.2.1 ++ e2 p.2.2)) := by
  have hf : OpensF P (P.cellsOf t) fs.toList 0 (A × B × C × Unit) (fun p => e0 p.1 ++ (e1 p.2.1 ++ (e2 p.2.2.1 ++ []))) := by
    rw [hfs]
    refine opensF_cons (enc' := fun p : B × C × Unit => e1 p.1 ++ (e2 p.2.1 ++ [])) o0 c0 h0 (opensF_cons (enc' := fun p : C × Unit => e2 p.1 ++ []) (by omega) c1 h1 (opensF_cons (enc' := fun _ => []) (by omega) c2 h2 ?_))
    rw [ct, Nat.zero_add]
    exact opensF_nil _
  exact Opens.iso (A := A × B × C × Unit) (enc := fun p => e0 p.1 ++ (e1 p.2.1 ++ (e2 p.2.2.1 ++ []))) (enc' := fun p : A × B × C => e0 p.1 ++ (e1 p.2.1 ++ e2 p.2.2)) (opens_struct h hf) (fun p => (p.1, p.2.1, p.2.2.1)) fun p => by simp
end
end Go.VM
