/-
  The functions of the Types laws, one by one: small ones.
-/
import Derived.Test.YtbkiekkconlebaaTyT
import Derived.Test.YtbkiekkconlebaaTyDat
set_option linter.all false
set_option linter.all false
set_option maxRecDepth 100000
namespace Go.VM
open Go

theorem sh_TT {f : FuncId} : (callL TT).sh f = shTy f := rfl

theorem place_c {A : Type} (enc : A → List D) (x : SlOf A) (n : Int) (u : Unit) : (callL TT).pure 57 [slD enc x, .int .i64 n] u = some (.bool (decide (0 ≤ n) && decide (n < x.list.length)), u) := by
  refine fn_of rfl rfl (by simp -implicitDefEqProofs only [vm, pairUp, Nat.reduceEqDiff, Nat.reduceAdd, Nat.reduceLeDiff, reduceIte]) rfl rfl ?_
  by_cases h : 0 ≤ n
  all_goals
    unfold v57
    refine Wp.seq (Wp_region ?_)
    simp -implicitDefEqProofs only [vm, pairUp, Nat.reduceEqDiff, Nat.reduceAdd, Nat.reduceLeDiff, reduceIte]
    refine Wp.seq (Wp_region ?_)
    simp -implicitDefEqProofs only [vm, pairUp, Nat.reduceEqDiff, Nat.reduceAdd, Nat.reduceLeDiff, reduceIte, h]
    refine Wp.ret ?_
    simp -implicitDefEqProofs only [vm, pairUp, Nat.reduceEqDiff, Nat.reduceAdd, Nat.reduceLeDiff, reduceIte]

def SmallP (t : List Ty) : Prop := (∀ i (h : i < t.length), (t[i]).fields.list.length ≤ 10 ∧ (t[i]).elems.list.length ≤ 10) ∧ t.length ≤ 16

theorem small_c (t : SlOf Ty) (u : Unit) : (callL TT).pure 13 [slD encTy t] u = some (.bool (dec (SmallP t.list)), u) := by
  refine fn_of rfl rfl (by simp -implicitDefEqProofs only [vm, pairUp, Nat.reduceEqDiff, Nat.reduceAdd, Nat.reduceLeDiff, reduceIte]) rfl rfl ?_
  have hm := t.len_le
  unfold v13
  refine Wp.seq (Wp_region ?_)
  simp -implicitDefEqProofs only [vm, pairUp, Nat.reduceEqDiff, Nat.reduceAdd, Nat.reduceLeDiff, reduceIte]
  refine Wp.seq (Wp.seq (Wp_region ?_))
  simp -implicitDefEqProofs only [vm, pairUp, Nat.reduceEqDiff, Nat.reduceAdd, Nat.reduceLeDiff, reduceIte]
  refine Wp.block (Wp.loopN t.list.length (P := fun i e => e 0 = some (slD encTy t) ∧ e 3 = some (.int .i64 i) ∧ ∀ j (h : j < t.list.length), j < i → (t.list[j]).fields.list.length ≤ 10 ∧ (t.list[j]).elems.list.length ≤ 10) ?_ ⟨rfl, rfl, fun j _ h => by omega⟩)
  rintro i e g hi ⟨h0, h3, hall⟩
  have k0 : keepEnv [0, 3] [] e 0 = some (slD encTy t) := keepEnv_some h0 rfl okH_sl
  have k3 : keepEnv [0, 3] [] e 3 = some (.int .i64 i) := keepEnv_some h3 rfl rfl
  generalize keepEnv [0, 3] [] e = e' at k0 k3
  refine Wp.seq (Wp.seq (Wp_region ?_))
  simp -implicitDefEqProofs only [vm, pairUp, Nat.reduceEqDiff, Nat.reduceAdd, Nat.reduceLeDiff, reduceIte, k0, k3]
  by_cases hlt : i < t.list.length
  · refine Wp.condT (by simp -implicitDefEqProofs only [vm, pairUp, Nat.reduceEqDiff, Nat.reduceAdd, Nat.reduceLeDiff, reduceIte]; simp [hlt]) (Wp.skip ?_)
    simp -implicitDefEqProofs only [vm, pairUp, Nat.reduceEqDiff, Nat.reduceAdd, Nat.reduceLeDiff, reduceIte]
    have ia := iaD_nat (H := fun _ => none) (enc := encTy) (sz := 3) hlt rfl
    have hw := wrap_nat (n := i) (by omega)
    refine Wp.seq (Wp.block (Wp.seq (Wp_cut (fun e2 => e2 0 = some (slD encTy t) ∧ e2 3 = some (.int .i64 i) ∧ e2 25 = some (.bool (dec (¬ ((t.list[i]).fields.list.length ≤ 10 ∧ (t.list[i]).elems.list.length ≤ 10))))) ?_ ?_)))
    · by_cases hf : (t.list[i]).fields.list.length ≤ 10
      · have hf' : ¬ (10 : Int) < ((t.list[i]).fields.list.length : Int) := by omega
        simp -implicitDefEqProofs only [vm, pairUp, Nat.reduceEqDiff, Nat.reduceAdd, Nat.reduceLeDiff, reduceIte, k0, k3, ia, encTy, hf']
        by_cases hg : (t.list[i]).elems.list.length ≤ 10
        · have hg' : ¬ (10 : Int) < ((t.list[i]).elems.list.length : Int) := by omega
          simp [hg', dec_false, hf, hg]
        · have hg' : (10 : Int) < ((t.list[i]).elems.list.length : Int) := by omega
          simp [hg', dec_true, hf, hg]
      · have hf' : (10 : Int) < ((t.list[i]).fields.list.length : Int) := by omega
        simp -implicitDefEqProofs only [vm, pairUp, Nat.reduceEqDiff, Nat.reduceAdd, Nat.reduceLeDiff, reduceIte, k0, k3, ia, encTy, hf']
        simp [dec_true, hf]
    · rintro e2 ⟨m0, m3, m25⟩
      simp -implicitDefEqProofs only [vm, pairUp, Nat.reduceEqDiff, Nat.reduceAdd, Nat.reduceLeDiff, reduceIte]
      refine Wp.cond m25 (fun hc => ?_) (fun hc => ?_)
      · refine Wp.seq (Wp_region ?_)
        simp -implicitDefEqProofs only [vm, pairUp, Nat.reduceEqDiff, Nat.reduceAdd, Nat.reduceLeDiff, reduceIte]
        refine Wp.ret ?_
        simp -implicitDefEqProofs only [vm, pairUp, Nat.reduceEqDiff, Nat.reduceAdd, Nat.reduceLeDiff, reduceIte]
        rw [dec_false]
        exact fun h => dec_iff.1 hc (h.1 i hlt)
      · refine Wp.skip ?_
        simp -implicitDefEqProofs only [vm, pairUp, Nat.reduceEqDiff, Nat.reduceAdd, Nat.reduceLeDiff, reduceIte]
        refine Wp_region ?_
        simp -implicitDefEqProofs only [vm, pairUp, Nat.reduceEqDiff, Nat.reduceAdd, Nat.reduceLeDiff, reduceIte, m0, m3, hw]
        refine Round_normal ⟨hlt, m0, rfl, fun j h hj => ?_⟩
        by_cases hji : j = i
        · subst hji
          exact Classical.byContradiction fun h => by rw [dec_true h] at hc; cases hc
        · exact hall j h (by omega)
  · refine Wp.condF (by simp -implicitDefEqProofs only [vm, pairUp, Nat.reduceEqDiff, Nat.reduceAdd, Nat.reduceLeDiff, reduceIte]; simp [hlt]) (Wp.exit ?_)
    simp -implicitDefEqProofs only [vm, pairUp, Nat.reduceEqDiff, Nat.reduceAdd, Nat.reduceLeDiff, reduceIte]
    refine Wp.seq (Wp_region ?_)
    simp -implicitDefEqProofs only [vm, pairUp, Nat.reduceEqDiff, Nat.reduceAdd, Nat.reduceLeDiff, reduceIte, k0]
    refine Wp.ret ?_
    simp -implicitDefEqProofs only [vm, pairUp, Nat.reduceEqDiff, Nat.reduceAdd, Nat.reduceLeDiff, reduceIte]
    by_cases h16 : t.list.length ≤ 16
    · rw [dec_true ⟨fun j h => hall j h (by omega), h16⟩]; simp; omega
    · rw [dec_false (fun h => h16 h.2)]; simp; omega
end Go.VM
