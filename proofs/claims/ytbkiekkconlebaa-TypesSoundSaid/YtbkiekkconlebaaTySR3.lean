/-
  The document's test of a store.
-/
import Derived.Test.YtbkiekkconlebaaTySR2
import Derived.KernelRfl
set_option linter.all false
set_option linter.all false
set_option maxRecDepth 100000
set_option maxHeartbeats 4000000
namespace Go.VM
open Go Go.Sv

theorem storeMayR_c (t : SlOf Ob) (u : Unit) : (callL TT).pure 22 [slD encOb t] u = some (.bool (dec (StoreP t.list)), u) := by
  refine fn_of rfl rfl (by simp -implicitDefEqProofs only [vm, vs, pairUp, Nat.reduceEqDiff, Nat.reduceAdd, Nat.reduceLeDiff, reduceIte]) rfl rfl ?_
  have hm := t.len_le
  unfold v22
  refine Wp.seq (Wp_region ?_)
  simp -implicitDefEqProofs only [vm, vs, pairUp, Nat.reduceEqDiff, Nat.reduceAdd, Nat.reduceLeDiff, reduceIte]
  refine Wp.seq (Wp.seq (Wp_region ?_))
  simp -implicitDefEqProofs only [vm, vs, pairUp, Nat.reduceEqDiff, Nat.reduceAdd, Nat.reduceLeDiff, reduceIte]
  refine Wp.block (Wp.loopN t.list.length (P := fun i e => e 0 = some (slD encOb t) ∧ e 3 = some (.int .i64 i) ∧ ∀ j (h : j < t.list.length), j < i → OkOb t.list.length j t.list[j]) ?_ ⟨rfl, rfl, fun j _ h => by omega⟩)
  rintro i e g hi ⟨h0, h3, hall⟩
  have k0 : keepEnv [0, 3] [] e 0 = some (slD encOb t) := keepEnv_some h0 rfl okH_sl
  have k3 : keepEnv [0, 3] [] e 3 = some (.int .i64 i) := keepEnv_some h3 rfl rfl
  generalize keepEnv [0, 3] [] e = e' at k0 k3
  have p3 : ∀ a b c : D, partD true 3 [a, b, c] = some (.agg [a, b, c]) := fun _ _ _ => rfl
  have p2 : ∀ a b : D, partD true 2 [a, b] = some (.agg [a, b]) := fun _ _ => rfl
  refine Wp.seq (Wp.seq (Wp_region ?_))
  simp -implicitDefEqProofs only [vm, vs, pairUp, Nat.reduceEqDiff, Nat.reduceAdd, Nat.reduceLeDiff, reduceIte, k0, k3]
  by_cases hlt : i < t.list.length
  · refine Wp.condT (by simp -implicitDefEqProofs only [vm, vs, pairUp, Nat.reduceEqDiff, Nat.reduceAdd, Nat.reduceLeDiff, reduceIte]; simp [hlt]) (Wp.skip ?_)
    simp -implicitDefEqProofs only [vm, vs, pairUp, Nat.reduceEqDiff, Nat.reduceAdd, Nat.reduceLeDiff, reduceIte]
    have ia := iaD_nat (H := fun _ => none) (enc := encOb) (sz := 3) hlt rfl
    have hwi := wrap_nat (n := i) (by omega)
    refine Wp.seq (Wp.block (Wp.seq (Wp_region ?_)))
    simp -implicitDefEqProofs only [vm, vs, pairUp, Nat.reduceEqDiff, Nat.reduceAdd, Nat.reduceLeDiff, reduceIte, k0, k3, ia, encOb, p3]
    generalize hx : t.list[i] = x
    have hok : OkOb t.list.length i t.list[i] ↔ OkOb t.list.length i x := by rw [hx]
    refine Wp.seq (Wp.seq (Wp_region ?_))
    simp -implicitDefEqProofs only [vm, vs, pairUp, Nat.reduceEqDiff, Nat.reduceAdd, Nat.reduceLeDiff, reduceIte]
    refine Wp.block (Wp.loopT (Inv := fun n e H _ => ∃ k : Nat, k ≤ x.props.list.length ∧ n = x.props.list.length - k ∧ e 0 = some (slD encOb t) ∧ e 3 = some (.int .i64 i) ∧ e 4 = some (.box 4 0) ∧ e 5 = some (.int .i64 k) ∧
        H 4 = some (.vars (encOb x)) ∧ ∀ j (h : j < x.props.list.length), j < k → OkProp t.list.length x.props.list j h) ?_ (n := x.props.list.length) ⟨0, by omega, rfl, k0, k3, rfl, rfl, rfl, fun j _ h => by omega⟩)
    rintro n e3 H g3 ⟨k, hk, rfl, n0, n3, n4, n5, hH4, hfs⟩
    refine ⟨hOk_cons hH4 (by simp only [encOb, HC.okH, vm, vs, pairUp, Nat.reduceEqDiff, Nat.reduceAdd, Nat.reduceLeDiff, reduceIte, okH1_sl]; rfl) rfl, ?_⟩
    have m0 : keepEnv [0, 3, 4, 5] [4] e3 0 = some (slD encOb t) := keepEnv_some n0 rfl okH_sl
    have m3 : keepEnv [0, 3, 4, 5] [4] e3 3 = some (.int .i64 i) := keepEnv_some n3 rfl rfl
    have m4 : keepEnv [0, 3, 4, 5] [4] e3 4 = some (.box 4 0) := keepEnv_some n4 rfl rfl
    have m5 : keepEnv [0, 3, 4, 5] [4] e3 5 = some (.int .i64 k) := keepEnv_some n5 rfl rfl
    have q4 : keepHp [4] H 4 = some (.vars (encOb x)) := keepHp_in hH4 rfl
    generalize keepEnv [0, 3, 4, 5] [4] e3 = e4 at m0 m3 m4 m5
    generalize keepHp [4] H = H4 at q4
    have q4' := q4
    simp only [encOb] at q4
    refine Wp.seq (Wp.seq (Wp_region ?_))
    simp -implicitDefEqProofs only [vm, vs, pairUp, Nat.reduceEqDiff, Nat.reduceAdd, Nat.reduceLeDiff, reduceIte, m4, m5, q4, List.drop_zero]
    by_cases hkl : k < x.props.list.length
    · refine Wp.condT (by simp -implicitDefEqProofs only [vm, vs, pairUp, Nat.reduceEqDiff, Nat.reduceAdd, Nat.reduceLeDiff, reduceIte]; simp [hkl]) (Wp.skip ?_)
      simp -implicitDefEqProofs only [vm, vs, pairUp, Nat.reduceEqDiff, Nat.reduceAdd, Nat.reduceLeDiff, reduceIte]
      have ia2 := fun H : Hp => iaD_nat (H := H) (enc := encPr) (sz := 3) hkl rfl
      generalize hf : x.props.list[k] = f at ia2
      have hfk : OkProp t.list.length x.props.list k hkl ↔ (RightP t.list.length f.val ∧ (0 < k → slt (x.props.list[k - 1]).name f.name = true)) := by unfold OkProp; rw [hf]
      have hrc : ∀ u, (callL TT).pure 40 [slD encOb t, .agg [.int .i64 f.val.kind, .int .i64 f.val.n]] u = some (.bool (dec (RightP t.list.length f.val)), u) := fun u => rightR_c t f.val u
      have hno : ¬ OkProp t.list.length x.props.list k hkl → dec (StoreP t.list) = false := fun h => dec_false fun h' => h ((hok.1 (h' i hlt)).1 k hkl)
      have hyes : OkProp t.list.length x.props.list k hkl → ∀ j (h : j < x.props.list.length), j < k + 1 → OkProp t.list.length x.props.list j h := fun h j hj hjk => by
        by_cases hje : j = k
        · subst hje; exact h
        · exact hfs j hj (by omega)
      have hwk := wrap_nat (n := k) (by have := x.props.len_le; omega)
      cases a1 : dec (RightP t.list.length f.val)
      · rw [hno (fun h => by rw [dec_true (hfk.1 h).1] at a1; cases a1)]
        refine Wp.seq (Wp.block (Wp.seq (Wp_effs (by kernel_rfl) (by simp -implicitDefEqProofs only [vm, vs, pairUp, Nat.reduceEqDiff, Nat.reduceAdd, Nat.reduceLeDiff, reduceIte, m0, m3, m4, m5, q4, List.drop_zero, List.drop_succ_cons, ia2, encPr, p2, sh_TT, shTy, hrc, a1]; rfl) (by kernel_rfl) ?_)))
        simp only [andThen_normal]
        refine Wp.condT (by simp -implicitDefEqProofs only [vm, vs, pairUp, Nat.reduceEqDiff, Nat.reduceAdd, Nat.reduceLeDiff, reduceIte]) (Wp.seq (Wp_region ?_))
        simp -implicitDefEqProofs only [vm, vs, pairUp, Nat.reduceEqDiff, Nat.reduceAdd, Nat.reduceLeDiff, reduceIte]
        refine Wp.ret ?_
        simp -implicitDefEqProofs only [vm, vs, pairUp, Nat.reduceEqDiff, Nat.reduceAdd, Nat.reduceLeDiff, reduceIte]
      cases a3 : decide ((0 : Int) < (k : Nat))
      · refine Wp.seq (Wp.block (Wp.seq (Wp_effs (by kernel_rfl) (by simp -implicitDefEqProofs only [vm, vs, pairUp, Nat.reduceEqDiff, Nat.reduceAdd, Nat.reduceLeDiff, reduceIte, m0, m3, m4, m5, q4, List.drop_zero, List.drop_succ_cons, ia2, encPr, p2, sh_TT, shTy, hrc, a1, gt_iff_lt, a3]; rfl) (by kernel_rfl) ?_)))
        simp only [andThen_normal]
        refine Wp.condF (by simp -implicitDefEqProofs only [vm, vs, pairUp, Nat.reduceEqDiff, Nat.reduceAdd, Nat.reduceLeDiff, reduceIte]) (Wp.skip ?_)
        simp -implicitDefEqProofs only [vm, vs, pairUp, Nat.reduceEqDiff, Nat.reduceAdd, Nat.reduceLeDiff, reduceIte]
        refine Wp_region ?_
        simp -implicitDefEqProofs only [vm, vs, pairUp, Nat.reduceEqDiff, Nat.reduceAdd, Nat.reduceLeDiff, reduceIte, m5, hwk]
        exact Round_normal ⟨x.props.list.length - (k + 1), by omega, k + 1, by omega, rfl, m0, m3, m4, rfl, q4', hyes (hfk.2 ⟨dec_iff.1 a1, fun h => by simp only [decide_eq_false_iff_not] at a3; omega⟩)⟩
      have hk0 : 0 < k := by simp only [decide_eq_true_eq] at a3; omega
      have hw1 : IntKind.wrap .i64 ((k : Nat) - 1 : Int) = ((k - 1 : Nat) : Int) := by
        have := x.props.len_le
        have : x.props.list.length ≤ 9223372036854775807 := this
        rw [wrap_in (by omega)]; omega
      have ia3 := fun H : Hp => iaD_nat (H := H) (enc := encPr) (x := x.props) (sz := 3) (i := k - 1) (by omega) rfl
      cases a4 : slt (x.props.list[k - 1]).name f.name
      · have a4' := a4
        unfold slt at a4'
        rw [hno (fun h => by rw [(hfk.1 h).2 hk0] at a4; cases a4)]
        refine Wp.seq (Wp.block (Wp.seq (Wp_effs (by kernel_rfl) (by simp -implicitDefEqProofs only [vm, vs, pairUp, Nat.reduceEqDiff, Nat.reduceAdd, Nat.reduceLeDiff, reduceIte, m0, m3, m4, m5, q4, List.drop_zero, List.drop_succ_cons, ia2, encPr, p2, sh_TT, shTy, hrc, a1, gt_iff_lt, a3, a4', hw1, ia3]; rfl) (by kernel_rfl) ?_)))
        simp only [andThen_normal]
        refine Wp.condT (by simp -implicitDefEqProofs only [vm, vs, pairUp, Nat.reduceEqDiff, Nat.reduceAdd, Nat.reduceLeDiff, reduceIte]) (Wp.seq (Wp_region ?_))
        simp -implicitDefEqProofs only [vm, vs, pairUp, Nat.reduceEqDiff, Nat.reduceAdd, Nat.reduceLeDiff, reduceIte]
        refine Wp.ret ?_
        simp -implicitDefEqProofs only [vm, vs, pairUp, Nat.reduceEqDiff, Nat.reduceAdd, Nat.reduceLeDiff, reduceIte]
      · have a4' := a4
        unfold slt at a4'
        refine Wp.seq (Wp.block (Wp.seq (Wp_effs (by kernel_rfl) (by simp -implicitDefEqProofs only [vm, vs, pairUp, Nat.reduceEqDiff, Nat.reduceAdd, Nat.reduceLeDiff, reduceIte, m0, m3, m4, m5, q4, List.drop_zero, List.drop_succ_cons, ia2, encPr, p2, sh_TT, shTy, hrc, a1, gt_iff_lt, a3, a4', hw1, ia3]; rfl) (by kernel_rfl) ?_)))
        simp only [andThen_normal]
        refine Wp.condF (by simp -implicitDefEqProofs only [vm, vs, pairUp, Nat.reduceEqDiff, Nat.reduceAdd, Nat.reduceLeDiff, reduceIte]) (Wp.skip ?_)
        simp -implicitDefEqProofs only [vm, vs, pairUp, Nat.reduceEqDiff, Nat.reduceAdd, Nat.reduceLeDiff, reduceIte]
        refine Wp_region ?_
        simp -implicitDefEqProofs only [vm, vs, pairUp, Nat.reduceEqDiff, Nat.reduceAdd, Nat.reduceLeDiff, reduceIte, m5, hwk]
        exact Round_normal ⟨x.props.list.length - (k + 1), by omega, k + 1, by omega, rfl, m0, m3, m4, rfl, q4', hyes (hfk.2 ⟨dec_iff.1 a1, fun _ => a4⟩)⟩
    · have hke : k = x.props.list.length := by omega
      subst hke
      refine Wp.condF (by simp -implicitDefEqProofs only [vm, vs, pairUp, Nat.reduceEqDiff, Nat.reduceAdd, Nat.reduceLeDiff, reduceIte]; simp [hkl]) (Wp.exit ?_)
      simp -implicitDefEqProofs only [vm, vs, pairUp, Nat.reduceEqDiff, Nat.reduceAdd, Nat.reduceLeDiff, reduceIte]
      have hb0 : setParts [D.int .i64 0, .int .i64 0] [] = some [D.int .i64 0, .int .i64 0] := rfl
      have hbad : ¬ OkProto i x.proto → dec (StoreP t.list) = false := fun h => dec_false fun h' => h (hok.1 (h' i hlt)).2
      refine Wp.seq (Wp_region ?_)
      simp -implicitDefEqProofs only [vm, vs, pairUp, Nat.reduceEqDiff, Nat.reduceAdd, Nat.reduceLeDiff, reduceIte, m4, q4, List.drop_succ_cons, List.drop_zero, p2, hb0, bin_flat2_eql]
      cases z1 : decide (x.proto.kind = 0 ∧ x.proto.n = 0)
      rotate_left
      · have hpr : OkProto i x.proto := by unfold OkProto; simp only [decide_eq_true_eq] at z1; omega
        refine Wp.seq (Wp_region ?_)
        simp -implicitDefEqProofs only [vm, vs, pairUp, Nat.reduceEqDiff, Nat.reduceAdd, Nat.reduceLeDiff, reduceIte, m3, m4, q4, List.drop_succ_cons, List.drop_zero, z1]
        refine Wp.condF (by simp -implicitDefEqProofs only [vm, vs, pairUp, Nat.reduceEqDiff, Nat.reduceAdd, Nat.reduceLeDiff, reduceIte]) (Wp.skip ?_)
        simp -implicitDefEqProofs only [vm, vs, pairUp, Nat.reduceEqDiff, Nat.reduceAdd, Nat.reduceLeDiff, reduceIte]
        refine Wp_region ?_
        simp -implicitDefEqProofs only [vm, vs, pairUp, Nat.reduceEqDiff, Nat.reduceAdd, Nat.reduceLeDiff, reduceIte, m3, hwi]
        refine Round_normal ⟨hlt, m0, rfl, fun j h hj => ?_⟩
        by_cases hji : j = i
        · subst hji; exact hok.2 ⟨fun k hk => hfs k hk hk, hpr⟩
        · exact hall j h (by omega)
      cases z2 : decide (x.proto.kind = 4)
      · have hpr : ¬ OkProto i x.proto := by unfold OkProto; simp only [decide_eq_false_iff_not] at z1 z2; omega
        refine Wp.seq (Wp_region ?_)
        simp -implicitDefEqProofs only [vm, vs, pairUp, Nat.reduceEqDiff, Nat.reduceAdd, Nat.reduceLeDiff, reduceIte, m3, m4, q4, List.drop_succ_cons, List.drop_zero, z1, z2]
        refine Wp.condT (by simp -implicitDefEqProofs only [vm, vs, pairUp, Nat.reduceEqDiff, Nat.reduceAdd, Nat.reduceLeDiff, reduceIte]) (Wp.seq (Wp_region ?_))
        simp -implicitDefEqProofs only [vm, vs, pairUp, Nat.reduceEqDiff, Nat.reduceAdd, Nat.reduceLeDiff, reduceIte]
        refine Wp.ret ?_
        simp -implicitDefEqProofs only [vm, vs, pairUp, Nat.reduceEqDiff, Nat.reduceAdd, Nat.reduceLeDiff, reduceIte]
        rw [hbad hpr]
      cases z3 : decide (x.proto.n < 0)
      rotate_left
      · have hpr : ¬ OkProto i x.proto := by unfold OkProto; simp only [decide_eq_false_iff_not, decide_eq_true_eq] at z1 z2 z3; omega
        refine Wp.seq (Wp_region ?_)
        simp -implicitDefEqProofs only [vm, vs, pairUp, Nat.reduceEqDiff, Nat.reduceAdd, Nat.reduceLeDiff, reduceIte, m3, m4, q4, List.drop_succ_cons, List.drop_zero, z1, z2, z3]
        refine Wp.condT (by simp -implicitDefEqProofs only [vm, vs, pairUp, Nat.reduceEqDiff, Nat.reduceAdd, Nat.reduceLeDiff, reduceIte]) (Wp.seq (Wp_region ?_))
        simp -implicitDefEqProofs only [vm, vs, pairUp, Nat.reduceEqDiff, Nat.reduceAdd, Nat.reduceLeDiff, reduceIte]
        refine Wp.ret ?_
        simp -implicitDefEqProofs only [vm, vs, pairUp, Nat.reduceEqDiff, Nat.reduceAdd, Nat.reduceLeDiff, reduceIte]
        rw [hbad hpr]
      cases z4 : decide ((i : Int) ≤ x.proto.n)
      · have hpr : OkProto i x.proto := by unfold OkProto; simp only [decide_eq_false_iff_not, decide_eq_true_eq] at z1 z2 z3 z4; omega
        refine Wp.seq (Wp_region ?_)
        simp -implicitDefEqProofs only [vm, vs, pairUp, Nat.reduceEqDiff, Nat.reduceAdd, Nat.reduceLeDiff, reduceIte, m3, m4, q4, List.drop_succ_cons, List.drop_zero, z1, z2, z3, ge_iff_le, z4]
        refine Wp.condF (by simp -implicitDefEqProofs only [vm, vs, pairUp, Nat.reduceEqDiff, Nat.reduceAdd, Nat.reduceLeDiff, reduceIte]) (Wp.skip ?_)
        simp -implicitDefEqProofs only [vm, vs, pairUp, Nat.reduceEqDiff, Nat.reduceAdd, Nat.reduceLeDiff, reduceIte]
        refine Wp_region ?_
        simp -implicitDefEqProofs only [vm, vs, pairUp, Nat.reduceEqDiff, Nat.reduceAdd, Nat.reduceLeDiff, reduceIte, m3, hwi]
        refine Round_normal ⟨hlt, m0, rfl, fun j h hj => ?_⟩
        by_cases hji : j = i
        · subst hji; exact hok.2 ⟨fun k hk => hfs k hk hk, hpr⟩
        · exact hall j h (by omega)
      · have hpr : ¬ OkProto i x.proto := by unfold OkProto; simp only [decide_eq_false_iff_not, decide_eq_true_eq] at z1 z2 z3 z4; omega
        refine Wp.seq (Wp_region ?_)
        simp -implicitDefEqProofs only [vm, vs, pairUp, Nat.reduceEqDiff, Nat.reduceAdd, Nat.reduceLeDiff, reduceIte, m3, m4, q4, List.drop_succ_cons, List.drop_zero, z1, z2, z3, ge_iff_le, z4]
        refine Wp.condT (by simp -implicitDefEqProofs only [vm, vs, pairUp, Nat.reduceEqDiff, Nat.reduceAdd, Nat.reduceLeDiff, reduceIte]) (Wp.seq (Wp_region ?_))
        simp -implicitDefEqProofs only [vm, vs, pairUp, Nat.reduceEqDiff, Nat.reduceAdd, Nat.reduceLeDiff, reduceIte]
        refine Wp.ret ?_
        simp -implicitDefEqProofs only [vm, vs, pairUp, Nat.reduceEqDiff, Nat.reduceAdd, Nat.reduceLeDiff, reduceIte]
        rw [hbad hpr]
  · have hie : i = t.list.length := by omega
    subst hie
    refine Wp.condF (by simp -implicitDefEqProofs only [vm, vs, pairUp, Nat.reduceEqDiff, Nat.reduceAdd, Nat.reduceLeDiff, reduceIte]; simp [hlt]) (Wp.exit ?_)
    simp -implicitDefEqProofs only [vm, vs, pairUp, Nat.reduceEqDiff, Nat.reduceAdd, Nat.reduceLeDiff, reduceIte]
    refine Wp.seq (Wp_region ?_)
    simp -implicitDefEqProofs only [vm, vs, pairUp, Nat.reduceEqDiff, Nat.reduceAdd, Nat.reduceLeDiff, reduceIte]
    refine Wp.ret ?_
    simp -implicitDefEqProofs only [vm, vs, pairUp, Nat.reduceEqDiff, Nat.reduceAdd, Nat.reduceLeDiff, reduceIte]
    rw [dec_true (show StoreP t.list from fun j h => hall j h h)]
end Go.VM
