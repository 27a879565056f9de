/-
  Stores: which values are right, which stores are small.
-/
import Derived.Test.YtbkiekkconlebaaTyF4
import Derived.Test.YtbkiekkconlebaaM5
set_option linter.all false
set_option linter.all false
set_option maxRecDepth 100000
namespace Go.VM
open Go Go.Sv

theorem dec_as {p q : Prop} [Decidable q] (h : p ↔ q) : dec p = decide q := by
  by_cases hq : q
  · rw [dec_true (h.2 hq)]; simp [hq]
  · rw [dec_false (fun hp => hq (h.1 hp))]; simp [hq]
def RightP (n : Nat) (v : Va) : Prop := (v.kind = 0 ∧ v.n = 0) ∨ (v.kind = 1 ∧ (v.n = 0 ∨ v.n = 1)) ∨ v.kind = 2 ∨ (v.kind = 3 ∧ 0 ≤ v.n) ∨ (v.kind = 4 ∧ 0 ≤ v.n ∧ v.n < n)

theorem right_c (s : SlOf Ob) (v : Va) (u : Unit) : (callL TT).pure 68 [slD encOb s, .agg (encVa v)] u = some (.bool (dec (RightP s.list.length v)), u) := by
  obtain ⟨k, n⟩ := v
  refine fn_of rfl rfl (by simp -implicitDefEqProofs only [vm, vs, pairUp, Nat.reduceEqDiff, Nat.reduceAdd, Nat.reduceLeDiff, reduceIte, encVa]) rfl rfl ?_
  unfold v68
  refine Wp.seq (Wp_region ?_)
  simp -implicitDefEqProofs only [vm, vs, pairUp, Nat.reduceEqDiff, Nat.reduceAdd, Nat.reduceLeDiff, reduceIte, encVa]
  refine Wp.seq (Wp.seq (Wp_region ?_))
  simp -implicitDefEqProofs only [vm, vs, pairUp, Nat.reduceEqDiff, Nat.reduceAdd, Nat.reduceLeDiff, reduceIte, hset_eq, if_true, List.drop_zero, List.drop_succ_cons]
  refine Wp.block (Wp.seq (Wp_region ?_))
  simp -implicitDefEqProofs only [vm, vs, pairUp, Nat.reduceEqDiff, Nat.reduceAdd, Nat.reduceLeDiff, reduceIte]
  by_cases k0 : k = 0
  · have hr : dec (RightP s.list.length ⟨k, n⟩) = decide (n = 0) := dec_as (by unfold RightP; simp only; omega)
    rw [hr]
    refine Wp.condT (by simp -implicitDefEqProofs only [vm, vs, pairUp, Nat.reduceEqDiff, Nat.reduceAdd, Nat.reduceLeDiff, reduceIte]; simp [k0]) (Wp.seq (Wp_region ?_))
    simp -implicitDefEqProofs only [vm, vs, pairUp, Nat.reduceEqDiff, Nat.reduceAdd, Nat.reduceLeDiff, reduceIte, hset_eq, if_true, List.drop_zero, List.drop_succ_cons]
    refine Wp.ret ?_
    simp -implicitDefEqProofs only [vm, vs, pairUp, Nat.reduceEqDiff, Nat.reduceAdd, Nat.reduceLeDiff, reduceIte]
  refine Wp.condF (by simp -implicitDefEqProofs only [vm, vs, pairUp, Nat.reduceEqDiff, Nat.reduceAdd, Nat.reduceLeDiff, reduceIte]; simp [k0]) (Wp.seq (Wp_region ?_))
  simp -implicitDefEqProofs only [vm, vs, pairUp, Nat.reduceEqDiff, Nat.reduceAdd, Nat.reduceLeDiff, reduceIte]
  by_cases k1 : k = 1
  · refine Wp.condT (by simp -implicitDefEqProofs only [vm, vs, pairUp, Nat.reduceEqDiff, Nat.reduceAdd, Nat.reduceLeDiff, reduceIte]; simp [k1]) (Wp.seq (Wp_region ?_))
    by_cases n0 : n = 0
    · have hr : dec (RightP s.list.length ⟨k, n⟩) = true := dec_true (by unfold RightP; simp only; omega)
      rw [hr]
      subst n0
      simp -implicitDefEqProofs only [vm, vs, pairUp, Nat.reduceEqDiff, Nat.reduceAdd, Nat.reduceLeDiff, reduceIte, hset_eq, if_true, List.drop_zero, List.drop_succ_cons]
      refine Wp.ret ?_
      simp -implicitDefEqProofs only [vm, vs, pairUp, Nat.reduceEqDiff, Nat.reduceAdd, Nat.reduceLeDiff, reduceIte]
    · have hr : dec (RightP s.list.length ⟨k, n⟩) = decide (n = 1) := dec_as (by unfold RightP; simp only; omega)
      rw [hr]
      simp -implicitDefEqProofs only [vm, vs, pairUp, Nat.reduceEqDiff, Nat.reduceAdd, Nat.reduceLeDiff, reduceIte, n0, hset_eq, if_true, List.drop_zero, List.drop_succ_cons]
      refine Wp.ret ?_
      simp -implicitDefEqProofs only [vm, vs, pairUp, Nat.reduceEqDiff, Nat.reduceAdd, Nat.reduceLeDiff, reduceIte]
  refine Wp.condF (by simp -implicitDefEqProofs only [vm, vs, pairUp, Nat.reduceEqDiff, Nat.reduceAdd, Nat.reduceLeDiff, reduceIte]; simp [k1]) (Wp.seq (Wp_region ?_))
  simp -implicitDefEqProofs only [vm, vs, pairUp, Nat.reduceEqDiff, Nat.reduceAdd, Nat.reduceLeDiff, reduceIte]
  by_cases k2 : k = 2
  · have hr : dec (RightP s.list.length ⟨k, n⟩) = true := dec_true (by unfold RightP; simp only; omega)
    rw [hr]
    refine Wp.condT (by simp -implicitDefEqProofs only [vm, vs, pairUp, Nat.reduceEqDiff, Nat.reduceAdd, Nat.reduceLeDiff, reduceIte]; simp [k2]) (Wp.seq (Wp_region ?_))
    simp -implicitDefEqProofs only [vm, vs, pairUp, Nat.reduceEqDiff, Nat.reduceAdd, Nat.reduceLeDiff, reduceIte]
    refine Wp.ret ?_
    simp -implicitDefEqProofs only [vm, vs, pairUp, Nat.reduceEqDiff, Nat.reduceAdd, Nat.reduceLeDiff, reduceIte]
  refine Wp.condF (by simp -implicitDefEqProofs only [vm, vs, pairUp, Nat.reduceEqDiff, Nat.reduceAdd, Nat.reduceLeDiff, reduceIte]; simp [k2]) (Wp.seq (Wp_region ?_))
  simp -implicitDefEqProofs only [vm, vs, pairUp, Nat.reduceEqDiff, Nat.reduceAdd, Nat.reduceLeDiff, reduceIte]
  by_cases k3 : k = 3
  · have hr : dec (RightP s.list.length ⟨k, n⟩) = decide (n ≥ 0) := dec_as (by unfold RightP; simp only; omega)
    rw [hr]
    refine Wp.condT (by simp -implicitDefEqProofs only [vm, vs, pairUp, Nat.reduceEqDiff, Nat.reduceAdd, Nat.reduceLeDiff, reduceIte]; simp [k3]) (Wp.seq (Wp_region ?_))
    simp -implicitDefEqProofs only [vm, vs, pairUp, Nat.reduceEqDiff, Nat.reduceAdd, Nat.reduceLeDiff, reduceIte, hset_eq, if_true, List.drop_zero, List.drop_succ_cons]
    refine Wp.ret ?_
    simp -implicitDefEqProofs only [vm, vs, pairUp, Nat.reduceEqDiff, Nat.reduceAdd, Nat.reduceLeDiff, reduceIte]
  refine Wp.condF (by simp -implicitDefEqProofs only [vm, vs, pairUp, Nat.reduceEqDiff, Nat.reduceAdd, Nat.reduceLeDiff, reduceIte]; simp [k3]) (Wp.seq (Wp_region ?_))
  simp -implicitDefEqProofs only [vm, vs, pairUp, Nat.reduceEqDiff, Nat.reduceAdd, Nat.reduceLeDiff, reduceIte]
  by_cases k4 : k = 4
  · refine Wp.condT (by simp -implicitDefEqProofs only [vm, vs, pairUp, Nat.reduceEqDiff, Nat.reduceAdd, Nat.reduceLeDiff, reduceIte]; simp [k4]) (Wp.seq (Wp_region ?_))
    cases n0 : decide (n ≥ 0) with
    | false =>
      have hr : dec (RightP s.list.length ⟨k, n⟩) = false := dec_false (by unfold RightP; simp at n0; simp only; omega)
      rw [hr]
      simp -implicitDefEqProofs only [vm, vs, pairUp, Nat.reduceEqDiff, Nat.reduceAdd, Nat.reduceLeDiff, reduceIte, n0, hset_eq, if_true, List.drop_zero, List.drop_succ_cons]
      refine Wp.ret ?_
      simp -implicitDefEqProofs only [vm, vs, pairUp, Nat.reduceEqDiff, Nat.reduceAdd, Nat.reduceLeDiff, reduceIte]
    | true =>
      have hr : dec (RightP s.list.length ⟨k, n⟩) = decide (n < s.list.length) := dec_as (by unfold RightP; simp at n0; simp only; omega)
      rw [hr]
      simp -implicitDefEqProofs only [vm, vs, pairUp, Nat.reduceEqDiff, Nat.reduceAdd, Nat.reduceLeDiff, reduceIte, n0, hset_eq, if_true, List.drop_zero, List.drop_succ_cons]
      refine Wp.ret ?_
      simp -implicitDefEqProofs only [vm, vs, pairUp, Nat.reduceEqDiff, Nat.reduceAdd, Nat.reduceLeDiff, reduceIte]
  have hr : dec (RightP s.list.length ⟨k, n⟩) = false := dec_false (by unfold RightP; simp only; omega)
  rw [hr]
  refine Wp.condF (by simp -implicitDefEqProofs only [vm, vs, pairUp, Nat.reduceEqDiff, Nat.reduceAdd, Nat.reduceLeDiff, reduceIte]; simp [k4]) (Wp.skip ?_)
  simp -implicitDefEqProofs only [vm, vs, pairUp, Nat.reduceEqDiff, Nat.reduceAdd, Nat.reduceLeDiff, reduceIte]
  refine Wp.seq (Wp_region ?_)
  simp -implicitDefEqProofs only [vm, vs, pairUp, Nat.reduceEqDiff, Nat.reduceAdd, Nat.reduceLeDiff, reduceIte]
  refine Wp.ret ?_
  simp -implicitDefEqProofs only [vm, vs, pairUp, Nat.reduceEqDiff, Nat.reduceAdd, Nat.reduceLeDiff, reduceIte]
theorem rightR_c (s : SlOf Ob) (v : Va) (u : Unit) : (callL TT).pure 40 [slD encOb s, .agg (encVa v)] u = some (.bool (dec (RightP s.list.length v)), u) := by
  obtain ⟨k, n⟩ := v
  refine fn_of rfl rfl (by simp -implicitDefEqProofs only [vm, vs, pairUp, Nat.reduceEqDiff, Nat.reduceAdd, Nat.reduceLeDiff, reduceIte, encVa]) rfl rfl ?_
  unfold v40
  refine Wp.seq (Wp_region ?_)
  simp -implicitDefEqProofs only [vm, vs, pairUp, Nat.reduceEqDiff, Nat.reduceAdd, Nat.reduceLeDiff, reduceIte, encVa]
  refine Wp.seq (Wp.seq (Wp_region ?_))
  simp -implicitDefEqProofs only [vm, vs, pairUp, Nat.reduceEqDiff, Nat.reduceAdd, Nat.reduceLeDiff, reduceIte, hset_eq, if_true, List.drop_zero, List.drop_succ_cons]
  refine Wp.block (Wp.seq (Wp_region ?_))
  simp -implicitDefEqProofs only [vm, vs, pairUp, Nat.reduceEqDiff, Nat.reduceAdd, Nat.reduceLeDiff, reduceIte]
  by_cases k0 : k = 0
  · have hr : dec (RightP s.list.length ⟨k, n⟩) = decide (n = 0) := dec_as (by unfold RightP; simp only; omega)
    rw [hr]
    refine Wp.condT (by simp -implicitDefEqProofs only [vm, vs, pairUp, Nat.reduceEqDiff, Nat.reduceAdd, Nat.reduceLeDiff, reduceIte]; simp [k0]) (Wp.seq (Wp_region ?_))
    simp -implicitDefEqProofs only [vm, vs, pairUp, Nat.reduceEqDiff, Nat.reduceAdd, Nat.reduceLeDiff, reduceIte, hset_eq, if_true, List.drop_zero, List.drop_succ_cons]
    refine Wp.ret ?_
    simp -implicitDefEqProofs only [vm, vs, pairUp, Nat.reduceEqDiff, Nat.reduceAdd, Nat.reduceLeDiff, reduceIte]
  refine Wp.condF (by simp -implicitDefEqProofs only [vm, vs, pairUp, Nat.reduceEqDiff, Nat.reduceAdd, Nat.reduceLeDiff, reduceIte]; simp [k0]) (Wp.seq (Wp_region ?_))
  simp -implicitDefEqProofs only [vm, vs, pairUp, Nat.reduceEqDiff, Nat.reduceAdd, Nat.reduceLeDiff, reduceIte]
  by_cases k1 : k = 1
  · refine Wp.condT (by simp -implicitDefEqProofs only [vm, vs, pairUp, Nat.reduceEqDiff, Nat.reduceAdd, Nat.reduceLeDiff, reduceIte]; simp [k1]) (Wp.seq (Wp_region ?_))
    by_cases n0 : n = 0
    · have hr : dec (RightP s.list.length ⟨k, n⟩) = true := dec_true (by unfold RightP; simp only; omega)
      rw [hr]
      subst n0
      simp -implicitDefEqProofs only [vm, vs, pairUp, Nat.reduceEqDiff, Nat.reduceAdd, Nat.reduceLeDiff, reduceIte, hset_eq, if_true, List.drop_zero, List.drop_succ_cons]
      refine Wp.ret ?_
      simp -implicitDefEqProofs only [vm, vs, pairUp, Nat.reduceEqDiff, Nat.reduceAdd, Nat.reduceLeDiff, reduceIte]
    · have hr : dec (RightP s.list.length ⟨k, n⟩) = decide (n = 1) := dec_as (by unfold RightP; simp only; omega)
      rw [hr]
      simp -implicitDefEqProofs only [vm, vs, pairUp, Nat.reduceEqDiff, Nat.reduceAdd, Nat.reduceLeDiff, reduceIte, n0, hset_eq, if_true, List.drop_zero, List.drop_succ_cons]
      refine Wp.ret ?_
      simp -implicitDefEqProofs only [vm, vs, pairUp, Nat.reduceEqDiff, Nat.reduceAdd, Nat.reduceLeDiff, reduceIte]
  refine Wp.condF (by simp -implicitDefEqProofs only [vm, vs, pairUp, Nat.reduceEqDiff, Nat.reduceAdd, Nat.reduceLeDiff, reduceIte]; simp [k1]) (Wp.seq (Wp_region ?_))
  simp -implicitDefEqProofs only [vm, vs, pairUp, Nat.reduceEqDiff, Nat.reduceAdd, Nat.reduceLeDiff, reduceIte]
  by_cases k2 : k = 2
  · have hr : dec (RightP s.list.length ⟨k, n⟩) = true := dec_true (by unfold RightP; simp only; omega)
    rw [hr]
    refine Wp.condT (by simp -implicitDefEqProofs only [vm, vs, pairUp, Nat.reduceEqDiff, Nat.reduceAdd, Nat.reduceLeDiff, reduceIte]; simp [k2]) (Wp.seq (Wp_region ?_))
    simp -implicitDefEqProofs only [vm, vs, pairUp, Nat.reduceEqDiff, Nat.reduceAdd, Nat.reduceLeDiff, reduceIte]
    refine Wp.ret ?_
    simp -implicitDefEqProofs only [vm, vs, pairUp, Nat.reduceEqDiff, Nat.reduceAdd, Nat.reduceLeDiff, reduceIte]
  refine Wp.condF (by simp -implicitDefEqProofs only [vm, vs, pairUp, Nat.reduceEqDiff, Nat.reduceAdd, Nat.reduceLeDiff, reduceIte]; simp [k2]) (Wp.seq (Wp_region ?_))
  simp -implicitDefEqProofs only [vm, vs, pairUp, Nat.reduceEqDiff, Nat.reduceAdd, Nat.reduceLeDiff, reduceIte]
  by_cases k3 : k = 3
  · have hr : dec (RightP s.list.length ⟨k, n⟩) = decide (n ≥ 0) := dec_as (by unfold RightP; simp only; omega)
    rw [hr]
    refine Wp.condT (by simp -implicitDefEqProofs only [vm, vs, pairUp, Nat.reduceEqDiff, Nat.reduceAdd, Nat.reduceLeDiff, reduceIte]; simp [k3]) (Wp.seq (Wp_region ?_))
    simp -implicitDefEqProofs only [vm, vs, pairUp, Nat.reduceEqDiff, Nat.reduceAdd, Nat.reduceLeDiff, reduceIte, hset_eq, if_true, List.drop_zero, List.drop_succ_cons]
    refine Wp.ret ?_
    simp -implicitDefEqProofs only [vm, vs, pairUp, Nat.reduceEqDiff, Nat.reduceAdd, Nat.reduceLeDiff, reduceIte]
  refine Wp.condF (by simp -implicitDefEqProofs only [vm, vs, pairUp, Nat.reduceEqDiff, Nat.reduceAdd, Nat.reduceLeDiff, reduceIte]; simp [k3]) (Wp.skip ?_)
  simp -implicitDefEqProofs only [vm, vs, pairUp, Nat.reduceEqDiff, Nat.reduceAdd, Nat.reduceLeDiff, reduceIte]
  by_cases k4 : k = 4
  · cases n0 : decide (n ≥ 0) with
    | false =>
      have hr : dec (RightP s.list.length ⟨k, n⟩) = false := dec_false (by unfold RightP; simp at n0; simp only; omega)
      rw [hr]
      refine Wp.seq (Wp_region ?_)
      simp -implicitDefEqProofs only [vm, vs, pairUp, Nat.reduceEqDiff, Nat.reduceAdd, Nat.reduceLeDiff, reduceIte, k4, n0, hset_eq, if_true, List.drop_zero, List.drop_succ_cons]
      refine Wp.ret ?_
      simp -implicitDefEqProofs only [vm, vs, pairUp, Nat.reduceEqDiff, Nat.reduceAdd, Nat.reduceLeDiff, reduceIte]
    | true =>
      have hr : dec (RightP s.list.length ⟨k, n⟩) = decide (n < s.list.length) := dec_as (by unfold RightP; simp at n0; simp only; omega)
      rw [hr]
      refine Wp.seq (Wp_region ?_)
      simp -implicitDefEqProofs only [vm, vs, pairUp, Nat.reduceEqDiff, Nat.reduceAdd, Nat.reduceLeDiff, reduceIte, k4, n0, hset_eq, if_true, List.drop_zero, List.drop_succ_cons]
      refine Wp.ret ?_
      simp -implicitDefEqProofs only [vm, vs, pairUp, Nat.reduceEqDiff, Nat.reduceAdd, Nat.reduceLeDiff, reduceIte]
  have hr : dec (RightP s.list.length ⟨k, n⟩) = false := dec_false (by unfold RightP; simp only; omega)
  rw [hr]
  refine Wp.seq (Wp_region ?_)
  simp -implicitDefEqProofs only [vm, vs, pairUp, Nat.reduceEqDiff, Nat.reduceAdd, Nat.reduceLeDiff, reduceIte, k4, hset_eq, if_true, List.drop_zero, List.drop_succ_cons]
  refine Wp.ret ?_
  simp -implicitDefEqProofs only [vm, vs, pairUp, Nat.reduceEqDiff, Nat.reduceAdd, Nat.reduceLeDiff, reduceIte]

def SmallS (s : List Ob) : Prop := (∀ i (h : i < s.length), (s[i]).props.list.length ≤ 10) ∧ s.length ≤ 16
theorem smallS_c (t : SlOf Ob) (u : Unit) : (callL TT).pure 21 [slD encOb t] u = some (.bool (dec (SmallS t.list)), u) := by
  refine fn_of rfl rfl (by simp -implicitDefEqProofs only [vm, vs, pairUp, Nat.reduceEqDiff, Nat.reduceAdd, Nat.reduceLeDiff, reduceIte]) rfl rfl ?_
  have hm := t.len_le
  unfold v21
  refine Wp.seq (Wp_region ?_)
  simp -implicitDefEqProofs only [vm, vs, pairUp, Nat.reduceEqDiff, Nat.reduceAdd, Nat.reduceLeDiff, reduceIte]
  refine Wp.seq (Wp.seq (Wp_region ?_))
  simp -implicitDefEqProofs only [vm, vs, pairUp, Nat.reduceEqDiff, Nat.reduceAdd, Nat.reduceLeDiff, reduceIte]
  refine Wp.block (Wp.loopN t.list.length (P := fun i e => e 0 = some (slD encOb t) ∧ e 3 = some (.int .i64 i) ∧ ∀ j (h : j < t.list.length), j < i → (t.list[j]).props.list.length ≤ 10) ?_ ⟨rfl, rfl, fun j _ h => by omega⟩)
  rintro i e g hi ⟨h0, h3, hall⟩
  have k0 : keepEnv [0, 3] [] e 0 = some (slD encOb t) := keepEnv_some h0 rfl okH_sl
  have k3 : keepEnv [0, 3] [] e 3 = some (.int .i64 i) := keepEnv_some h3 rfl rfl
  generalize keepEnv [0, 3] [] e = e' at k0 k3
  refine Wp.seq (Wp.seq (Wp_region ?_))
  simp -implicitDefEqProofs only [vm, vs, pairUp, Nat.reduceEqDiff, Nat.reduceAdd, Nat.reduceLeDiff, reduceIte, k0, k3]
  by_cases hlt : i < t.list.length
  · refine Wp.condT (by simp -implicitDefEqProofs only [vm, vs, pairUp, Nat.reduceEqDiff, Nat.reduceAdd, Nat.reduceLeDiff, reduceIte]; simp [hlt]) (Wp.skip ?_)
    simp -implicitDefEqProofs only [vm, vs, pairUp, Nat.reduceEqDiff, Nat.reduceAdd, Nat.reduceLeDiff, reduceIte]
    have ia := iaD_nat (H := fun _ => none) (enc := encOb) (sz := 3) hlt rfl
    have hw := wrap_nat (n := i) (by omega)
    refine Wp.seq (Wp.block (Wp.seq (Wp_region ?_)))
    simp -implicitDefEqProofs only [vm, vs, pairUp, Nat.reduceEqDiff, Nat.reduceAdd, Nat.reduceLeDiff, reduceIte, k0, k3, ia, encOb]
    by_cases hf : (t.list[i]).props.list.length ≤ 10
    · refine Wp.condF (by simp -implicitDefEqProofs only [vm, vs, pairUp, Nat.reduceEqDiff, Nat.reduceAdd, Nat.reduceLeDiff, reduceIte]; simp; omega) (Wp.skip ?_)
      simp -implicitDefEqProofs only [vm, vs, pairUp, Nat.reduceEqDiff, Nat.reduceAdd, Nat.reduceLeDiff, reduceIte]
      refine Wp_region ?_
      simp -implicitDefEqProofs only [vm, vs, pairUp, Nat.reduceEqDiff, Nat.reduceAdd, Nat.reduceLeDiff, reduceIte, k0, k3, hw]
      refine Round_normal ⟨hlt, k0, rfl, fun j h hj => ?_⟩
      by_cases hji : j = i
      · subst hji; exact hf
      · exact hall j h (by omega)
    · refine Wp.condT (by simp -implicitDefEqProofs only [vm, vs, pairUp, Nat.reduceEqDiff, Nat.reduceAdd, Nat.reduceLeDiff, reduceIte]; simp; omega) (Wp.seq (Wp_region ?_))
      simp -implicitDefEqProofs only [vm, vs, pairUp, Nat.reduceEqDiff, Nat.reduceAdd, Nat.reduceLeDiff, reduceIte]
      refine Wp.ret ?_
      simp -implicitDefEqProofs only [vm, vs, pairUp, Nat.reduceEqDiff, Nat.reduceAdd, Nat.reduceLeDiff, reduceIte]
      rw [dec_false (fun h : SmallS t.list => hf (h.1 i hlt))]
  · refine Wp.condF (by simp -implicitDefEqProofs only [vm, vs, pairUp, Nat.reduceEqDiff, Nat.reduceAdd, Nat.reduceLeDiff, reduceIte]; simp [hlt]) (Wp.exit ?_)
    simp -implicitDefEqProofs only [vm, vs, pairUp, Nat.reduceEqDiff, Nat.reduceAdd, Nat.reduceLeDiff, reduceIte]
    refine Wp.seq (Wp_region ?_)
    simp -implicitDefEqProofs only [vm, vs, pairUp, Nat.reduceEqDiff, Nat.reduceAdd, Nat.reduceLeDiff, reduceIte, k0]
    refine Wp.ret ?_
    simp -implicitDefEqProofs only [vm, vs, pairUp, Nat.reduceEqDiff, Nat.reduceAdd, Nat.reduceLeDiff, reduceIte]
    by_cases h16 : t.list.length ≤ 16
    · rw [dec_true (show SmallS t.list from ⟨fun j h => hall j h (by omega), h16⟩)]; simp; omega
    · rw [dec_false (fun h : SmallS t.list => h16 h.2)]; simp; omega
end Go.VM
