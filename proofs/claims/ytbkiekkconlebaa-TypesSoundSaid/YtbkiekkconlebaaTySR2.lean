/-
  store.May: which stores may be.
-/
import Derived.Test.YtbkiekkconlebaaTySR1
import Derived.KernelRfl
set_option linter.all false
set_option linter.all false
set_option maxRecDepth 100000
set_option maxHeartbeats 4000000
namespace Go.VM
open Go Go.Sv

def OkProp (n : Nat) (l : List Pr) (k : Nat) (h : k < l.length) : Prop := RightP n (l[k]).val ∧ (0 < k → slt (l[k - 1]).name (l[k]).name = true)
def OkProto (i : Nat) (v : Va) : Prop := (v.kind = 0 ∧ v.n = 0) ∨ (v.kind = 4 ∧ 0 ≤ v.n ∧ v.n < i)
def OkOb (n i : Nat) (o : Ob) : Prop := (∀ k (h : k < o.props.list.length), OkProp n o.props.list k h) ∧ OkProto i o.proto
def StoreP (s : List Ob) : Prop := ∀ i (h : i < s.length), OkOb s.length i s[i]

theorem bin_flat2_eql {a b c d : Int} : binD .eql (.flat [.i, .i]) (.agg [.int .i64 a, .int .i64 b]) (.agg [.int .i64 c, .int .i64 d]) = some (.bool (decide (a = c ∧ b = d))) := by
  simp only [binD, binD.eqL, binD.eq1, if_true, Option.bind_some, Option.map_some, Bool.and_true]
  by_cases h1 : a = c <;> by_cases h2 : b = d <;> simp [h1, h2]
theorem bin_flat2_neq {a b c d : Int} : binD .neq (.flat [.i, .i]) (.agg [.int .i64 a, .int .i64 b]) (.agg [.int .i64 c, .int .i64 d]) = some (.bool (!decide (a = c ∧ b = d))) := by
  simp only [binD, binD.eqL, binD.eq1, if_true, Option.bind_some, Option.map_some, Bool.and_true]
  by_cases h1 : a = c <;> by_cases h2 : b = d <;> simp [h1, h2]
theorem storeMay_c (t : SlOf Ob) (u : Unit) : (callL TT).pure 67 [slD encOb t] u = some (.bool (dec (StoreP t.list)), u) := by
  refine fn_of rfl rfl (by simp -implicitDefEqProofs only [vm, vs, pairUp, Nat.reduceEqDiff, Nat.reduceAdd, Nat.reduceLeDiff, reduceIte]) rfl rfl ?_
  have hm := t.len_le
  unfold v67
  refine Wp.seq (Wp_region ?_)
  simp -implicitDefEqProofs only [vm, vs, pairUp, Nat.reduceEqDiff, Nat.reduceAdd, Nat.reduceLeDiff, reduceIte]
  refine Wp.seq (Wp.seq (Wp_region ?_))
  simp -implicitDefEqProofs only [vm, vs, pairUp, Nat.reduceEqDiff, Nat.reduceAdd, Nat.reduceLeDiff, reduceIte]
  refine Wp.block (Wp.loopN t.list.length (P := fun i e => e 0 = some (slD encOb t) ∧ e 7 = some (slD encOb t) ∧ e 8 = some (.int .i64 (t.list.length : Nat)) ∧ e 9 = some (.int .i64 i) ∧ ∀ j (h : j < t.list.length), j < i → OkOb t.list.length j t.list[j]) ?_ ⟨rfl, rfl, rfl, rfl, fun j _ h => by omega⟩)
  rintro i e g hi ⟨h0, h7, h8, h9, hall⟩
  have k0 : keepEnv [0, 7, 8, 9] [] e 0 = some (slD encOb t) := keepEnv_some h0 rfl okH_sl
  have k7 : keepEnv [0, 7, 8, 9] [] e 7 = some (slD encOb t) := keepEnv_some h7 rfl okH_sl
  have k8 : keepEnv [0, 7, 8, 9] [] e 8 = some (.int .i64 (t.list.length : Nat)) := keepEnv_some h8 rfl rfl
  have k9 : keepEnv [0, 7, 8, 9] [] e 9 = some (.int .i64 i) := keepEnv_some h9 rfl rfl
  generalize keepEnv [0, 7, 8, 9] [] e = e' at k0 k7 k8 k9
  have p3 : ∀ a b c : D, partD true 3 [a, b, c] = some (.agg [a, b, c]) := fun _ _ _ => rfl
  have p2 : ∀ a b : D, partD true 2 [a, b] = some (.agg [a, b]) := fun _ _ => rfl
  refine Wp.seq (Wp_region ?_)
  simp -implicitDefEqProofs only [vm, vs, pairUp, Nat.reduceEqDiff, Nat.reduceAdd, Nat.reduceLeDiff, reduceIte, k8, k9]
  by_cases hlt : i < t.list.length
  · refine Wp.seq (Wp.condT (by simp -implicitDefEqProofs only [vm, vs, pairUp, Nat.reduceEqDiff, Nat.reduceAdd, Nat.reduceLeDiff, reduceIte]; simp [hlt]) (Wp.skip ?_))
    simp -implicitDefEqProofs only [vm, vs, pairUp, Nat.reduceEqDiff, Nat.reduceAdd, Nat.reduceLeDiff, reduceIte]
    have ia := iaD_nat (H := fun _ => none) (enc := encOb) (sz := 3) hlt rfl
    have hwi := wrap_nat (n := i) (by omega)
    refine Wp.seq (Wp.block (Wp.seq (Wp_region ?_)))
    simp -implicitDefEqProofs only [vm, vs, pairUp, Nat.reduceEqDiff, Nat.reduceAdd, Nat.reduceLeDiff, reduceIte, k7, k9, ia, encOb, p3]
    generalize hx : t.list[i] = x
    have hok : OkOb t.list.length i t.list[i] ↔ OkOb t.list.length i x := by rw [hx]
    refine Wp.seq (Wp.seq (Wp_region ?_))
    simp -implicitDefEqProofs only [vm, vs, pairUp, Nat.reduceEqDiff, Nat.reduceAdd, Nat.reduceLeDiff, reduceIte, hset_eq, if_true, List.drop_zero]
    refine Wp.block (Wp.loopT (Inv := fun n e H _ => ∃ k : Nat, k ≤ x.props.list.length ∧ n = x.props.list.length - k ∧ e 0 = some (slD encOb t) ∧ e 3 = some (.int .i64 i) ∧ e 4 = some (.box 4 0) ∧ e 7 = some (slD encOb t) ∧ e 8 = some (.int .i64 (t.list.length : Nat)) ∧ e 9 = some (.int .i64 i) ∧ e 15 = some (slD encPr x.props) ∧ e 16 = some (.int .i64 (x.props.list.length : Nat)) ∧ e 17 = some (.int .i64 k) ∧
        H 4 = some (.vars (encOb x)) ∧ ∀ j (h : j < x.props.list.length), j < k → OkProp t.list.length x.props.list j h) ?_ (n := x.props.list.length) ⟨0, by omega, rfl, k0, rfl, rfl, k7, k8, k9, rfl, rfl, rfl, rfl, fun j _ h => by omega⟩)
    rintro n e3 H g3 ⟨k, hk, rfl, n0, n3, n4, n7, n8, n9, n15, n16, n17, hH4, hfs⟩
    refine ⟨hOk_cons hH4 (by simp only [encOb, HC.okH, vm, vs, pairUp, Nat.reduceEqDiff, Nat.reduceAdd, Nat.reduceLeDiff, reduceIte, okH1_sl]; rfl) rfl, ?_⟩
    have m0 : keepEnv [0, 3, 4, 7, 8, 9, 15, 16, 17] [4] e3 0 = some (slD encOb t) := keepEnv_some n0 rfl okH_sl
    have m3 : keepEnv [0, 3, 4, 7, 8, 9, 15, 16, 17] [4] e3 3 = some (.int .i64 i) := keepEnv_some n3 rfl rfl
    have m4 : keepEnv [0, 3, 4, 7, 8, 9, 15, 16, 17] [4] e3 4 = some (.box 4 0) := keepEnv_some n4 rfl rfl
    have m7 : keepEnv [0, 3, 4, 7, 8, 9, 15, 16, 17] [4] e3 7 = some (slD encOb t) := keepEnv_some n7 rfl okH_sl
    have m8 : keepEnv [0, 3, 4, 7, 8, 9, 15, 16, 17] [4] e3 8 = some (.int .i64 (t.list.length : Nat)) := keepEnv_some n8 rfl rfl
    have m9 : keepEnv [0, 3, 4, 7, 8, 9, 15, 16, 17] [4] e3 9 = some (.int .i64 i) := keepEnv_some n9 rfl rfl
    have m15 : keepEnv [0, 3, 4, 7, 8, 9, 15, 16, 17] [4] e3 15 = some (slD encPr x.props) := keepEnv_some n15 rfl okH_sl
    have m16 : keepEnv [0, 3, 4, 7, 8, 9, 15, 16, 17] [4] e3 16 = some (.int .i64 (x.props.list.length : Nat)) := keepEnv_some n16 rfl rfl
    have m17 : keepEnv [0, 3, 4, 7, 8, 9, 15, 16, 17] [4] e3 17 = some (.int .i64 k) := keepEnv_some n17 rfl rfl
    have q4 : keepHp [4] H 4 = some (.vars (encOb x)) := keepHp_in hH4 rfl
    have q6 : keepHp [4] H 6 = none := keepHp_out rfl
    generalize keepEnv [0, 3, 4, 7, 8, 9, 15, 16, 17] [4] e3 = e4 at m0 m3 m4 m7 m8 m9 m15 m16 m17
    generalize keepHp [4] H = H4 at q4 q6
    have q4' := q4
    simp only [encOb] at q4
    refine Wp.seq (Wp_region ?_)
    simp -implicitDefEqProofs only [vm, vs, pairUp, Nat.reduceEqDiff, Nat.reduceAdd, Nat.reduceLeDiff, reduceIte, m16, m17]
    by_cases hkl : k < x.props.list.length
    · refine Wp.seq (Wp.condT (by simp -implicitDefEqProofs only [vm, vs, pairUp, Nat.reduceEqDiff, Nat.reduceAdd, Nat.reduceLeDiff, reduceIte]; simp [hkl]) (Wp.skip ?_))
      simp -implicitDefEqProofs only [vm, vs, pairUp, Nat.reduceEqDiff, Nat.reduceAdd, Nat.reduceLeDiff, reduceIte]
      have ia2 := iaD_nat (H := H4) (enc := encPr) (sz := 3) hkl rfl
      refine Wp.seq (Wp.block (Wp.seq (Wp_region ?_)))
      simp -implicitDefEqProofs only [vm, vs, pairUp, Nat.reduceEqDiff, Nat.reduceAdd, Nat.reduceLeDiff, reduceIte, m15, m17, ia2, encPr, q6, p3]
      generalize hf : x.props.list[k] = f
      have hfk : OkProp t.list.length x.props.list k hkl ↔ (RightP t.list.length f.val ∧ (0 < k → slt (x.props.list[k - 1]).name f.name = true)) := by unfold OkProp; rw [hf]
      have hrc : ∀ u, (callL TT).pure 68 [slD encOb t, .agg [.int .i64 f.val.kind, .int .i64 f.val.n]] u = some (.bool (dec (RightP t.list.length f.val)), u) := fun u => right_c t f.val u
      have hno : ¬ OkProp t.list.length x.props.list k hkl → dec (StoreP t.list) = false := fun h => dec_false fun h' => h ((hok.1 (h' i hlt)).1 k hkl)
      have hyes : OkProp t.list.length x.props.list k hkl → ∀ j (h : j < x.props.list.length), j < k + 1 → OkProp t.list.length x.props.list j h := fun h j hj hjk => by
        by_cases hje : j = k
        · subst hje; exact h
        · exact hfs j hj (by omega)
      have hwk := wrap_nat (n := k) (by have := x.props.len_le; omega)
      have h46 : ∀ c : HC, (H4.set 6 c) 4 = some (.vars (encOb x)) := fun c => by rw [Hp.set_other _ _ (by decide)]; exact q4'
      cases a1 : dec (RightP t.list.length f.val) with
      | false =>
        rw [hno (fun h => by rw [dec_true (hfk.1 h).1] at a1; cases a1)]
        refine Wp.seq (Wp_effs (by kernel_rfl) (by simp -implicitDefEqProofs only [vm, vs, pairUp, Nat.reduceEqDiff, Nat.reduceAdd, Nat.reduceLeDiff, reduceIte, m0, m3, m4, m17, q4, hset_eq, if_true, List.drop_zero, List.drop_succ_cons, p2, sh_TT, shTy, hrc, a1]; rfl) (by kernel_rfl) ?_)
        simp only [andThen_normal]
        refine Wp.condT (by simp -implicitDefEqProofs only [vm, vs, pairUp, Nat.reduceEqDiff, Nat.reduceAdd, Nat.reduceLeDiff, reduceIte]) (Wp.seq (Wp_region ?_))
        simp -implicitDefEqProofs only [vm, vs, pairUp, Nat.reduceEqDiff, Nat.reduceAdd, Nat.reduceLeDiff, reduceIte]
        refine Wp.ret ?_
        simp -implicitDefEqProofs only [vm, vs, pairUp, Nat.reduceEqDiff, Nat.reduceAdd, Nat.reduceLeDiff, reduceIte]
      | true =>
        cases a3 : decide ((0 : Int) < (k : Nat)) with
        | false =>
          refine Wp.seq (Wp_effs (by kernel_rfl) (by simp -implicitDefEqProofs only [vm, vs, pairUp, Nat.reduceEqDiff, Nat.reduceAdd, Nat.reduceLeDiff, reduceIte, m0, m3, m4, m17, q4, hset_eq, if_true, List.drop_zero, List.drop_succ_cons, p2, sh_TT, shTy, hrc, a1, gt_iff_lt, a3]; rfl) (by kernel_rfl) ?_)
          simp only [andThen_normal]
          refine Wp.condF (by simp -implicitDefEqProofs only [vm, vs, pairUp, Nat.reduceEqDiff, Nat.reduceAdd, Nat.reduceLeDiff, reduceIte]) (Wp.skip ?_)
          simp -implicitDefEqProofs only [vm, vs, pairUp, Nat.reduceEqDiff, Nat.reduceAdd, Nat.reduceLeDiff, reduceIte]
          refine Wp_region ?_
          simp -implicitDefEqProofs only [vm, vs, pairUp, Nat.reduceEqDiff, Nat.reduceAdd, Nat.reduceLeDiff, reduceIte, m17, hwk]
          exact Round_normal ⟨x.props.list.length - (k + 1), by omega, k + 1, by omega, rfl, m0, m3, m4, m7, m8, m9, m15, m16, rfl, h46 _, hyes (hfk.2 ⟨dec_iff.1 a1, fun h => by simp only [decide_eq_false_iff_not] at a3; omega⟩)⟩
        | true =>
          have hk0 : 0 < k := by simp only [decide_eq_true_eq] at a3; omega
          have hw1 : IntKind.wrap .i64 ((k : Nat) - 1 : Int) = ((k - 1 : Nat) : Int) := by
            have := x.props.len_le
            have : x.props.list.length ≤ 9223372036854775807 := this
            rw [wrap_in (by omega)]; omega
          have ia3 := fun H : Hp => iaD_nat (H := H) (enc := encPr) (x := x.props) (sz := 3) (i := k - 1) (by omega) rfl
          cases a4 : slt (x.props.list[k - 1]).name f.name with
          | false =>
            have a4' := a4
            unfold slt at a4'
            rw [hno (fun h => by rw [(hfk.1 h).2 hk0] at a4; cases a4)]
            refine Wp.seq (Wp_effs (by kernel_rfl) (by simp -implicitDefEqProofs only [vm, vs, pairUp, Nat.reduceEqDiff, Nat.reduceAdd, Nat.reduceLeDiff, reduceIte, m0, m3, m4, m17, q4, hset_eq, if_true, List.drop_zero, List.drop_succ_cons, p2, sh_TT, shTy, hrc, a1, gt_iff_lt, a3, a4', hw1, ia3, encPr]; rfl) (by kernel_rfl) ?_)
            simp only [andThen_normal]
            refine Wp.condT (by simp -implicitDefEqProofs only [vm, vs, pairUp, Nat.reduceEqDiff, Nat.reduceAdd, Nat.reduceLeDiff, reduceIte]) (Wp.seq (Wp_region ?_))
            simp -implicitDefEqProofs only [vm, vs, pairUp, Nat.reduceEqDiff, Nat.reduceAdd, Nat.reduceLeDiff, reduceIte]
            refine Wp.ret ?_
            simp -implicitDefEqProofs only [vm, vs, pairUp, Nat.reduceEqDiff, Nat.reduceAdd, Nat.reduceLeDiff, reduceIte]
          | true =>
            have a4' := a4
            unfold slt at a4'
            refine Wp.seq (Wp_effs (by kernel_rfl) (by simp -implicitDefEqProofs only [vm, vs, pairUp, Nat.reduceEqDiff, Nat.reduceAdd, Nat.reduceLeDiff, reduceIte, m0, m3, m4, m17, q4, hset_eq, if_true, List.drop_zero, List.drop_succ_cons, p2, sh_TT, shTy, hrc, a1, gt_iff_lt, a3, a4', hw1, ia3, encPr]; rfl) (by kernel_rfl) ?_)
            simp only [andThen_normal]
            refine Wp.condF (by simp -implicitDefEqProofs only [vm, vs, pairUp, Nat.reduceEqDiff, Nat.reduceAdd, Nat.reduceLeDiff, reduceIte]) (Wp.skip ?_)
            simp -implicitDefEqProofs only [vm, vs, pairUp, Nat.reduceEqDiff, Nat.reduceAdd, Nat.reduceLeDiff, reduceIte]
            refine Wp_region ?_
            simp -implicitDefEqProofs only [vm, vs, pairUp, Nat.reduceEqDiff, Nat.reduceAdd, Nat.reduceLeDiff, reduceIte, m17, hwk]
            exact Round_normal ⟨x.props.list.length - (k + 1), by omega, k + 1, by omega, rfl, m0, m3, m4, m7, m8, m9, m15, m16, rfl, h46 _, hyes (hfk.2 ⟨dec_iff.1 a1, fun _ => a4⟩)⟩
    · have hke : k = x.props.list.length := by omega
      subst hke
      refine Wp.seq (Wp.condF (by simp -implicitDefEqProofs only [vm, vs, pairUp, Nat.reduceEqDiff, Nat.reduceAdd, Nat.reduceLeDiff, reduceIte]; simp [hkl]) (Wp.exit ?_))
      simp -implicitDefEqProofs only [vm, vs, pairUp, Nat.reduceEqDiff, Nat.reduceAdd, Nat.reduceLeDiff, reduceIte]
      have hb0 : setParts [D.int .i64 0, .int .i64 0] [] = some [D.int .i64 0, .int .i64 0] := rfl
      have hbad : ¬ OkProto i x.proto → dec (StoreP t.list) = false := fun h => dec_false fun h' => h (hok.1 (h' i hlt)).2
      refine Wp.seq (Wp_region ?_)
      cases z1 : decide (x.proto.kind = 0 ∧ x.proto.n = 0)
      rotate_left
      · have hpr : OkProto i x.proto := by unfold OkProto; simp only [decide_eq_true_eq] at z1; omega
        revert hpr; intro hpr
        simp -implicitDefEqProofs only [vm, vs, pairUp, Nat.reduceEqDiff, Nat.reduceAdd, Nat.reduceLeDiff, reduceIte, m4, m3, q4, List.drop_succ_cons, List.drop_zero, p2, hb0, bin_flat2_neq, z1]
        refine Wp.condF (by simp -implicitDefEqProofs only [vm, vs, pairUp, Nat.reduceEqDiff, Nat.reduceAdd, Nat.reduceLeDiff, reduceIte]) (Wp.skip ?_)
        simp -implicitDefEqProofs only [vm, vs, pairUp, Nat.reduceEqDiff, Nat.reduceAdd, Nat.reduceLeDiff, reduceIte]
        refine Wp_region ?_
        simp -implicitDefEqProofs only [vm, vs, pairUp, Nat.reduceEqDiff, Nat.reduceAdd, Nat.reduceLeDiff, reduceIte, m9, hwi]
        refine Round_normal ⟨hlt, m0, m7, m8, rfl, fun j h hj => ?_⟩
        by_cases hji : j = i
        · subst hji; exact hok.2 ⟨fun k hk => hfs k hk hk, hpr⟩
        · exact hall j h (by omega)
      cases z2 : decide (x.proto.kind = 4)
      · have hpr : ¬ OkProto i x.proto := by unfold OkProto; simp only [decide_eq_false_iff_not] at z1 z2; omega
        simp -implicitDefEqProofs only [vm, vs, pairUp, Nat.reduceEqDiff, Nat.reduceAdd, Nat.reduceLeDiff, reduceIte, m4, m3, q4, List.drop_succ_cons, List.drop_zero, p2, hb0, bin_flat2_neq, z1, z2]
        refine Wp.condT (by simp -implicitDefEqProofs only [vm, vs, pairUp, Nat.reduceEqDiff, Nat.reduceAdd, Nat.reduceLeDiff, reduceIte]) (Wp.seq (Wp_region ?_))
        simp -implicitDefEqProofs only [vm, vs, pairUp, Nat.reduceEqDiff, Nat.reduceAdd, Nat.reduceLeDiff, reduceIte]
        refine Wp.ret ?_
        simp -implicitDefEqProofs only [vm, vs, pairUp, Nat.reduceEqDiff, Nat.reduceAdd, Nat.reduceLeDiff, reduceIte]
        rw [hbad hpr]
      cases z3 : decide (x.proto.n < 0)
      rotate_left
      · have hpr : ¬ OkProto i x.proto := by unfold OkProto; simp only [decide_eq_false_iff_not, decide_eq_true_eq] at z1 z2 z3; omega
        simp -implicitDefEqProofs only [vm, vs, pairUp, Nat.reduceEqDiff, Nat.reduceAdd, Nat.reduceLeDiff, reduceIte, m4, m3, q4, List.drop_succ_cons, List.drop_zero, p2, hb0, bin_flat2_neq, z1, z2, z3]
        refine Wp.condT (by simp -implicitDefEqProofs only [vm, vs, pairUp, Nat.reduceEqDiff, Nat.reduceAdd, Nat.reduceLeDiff, reduceIte]) (Wp.seq (Wp_region ?_))
        simp -implicitDefEqProofs only [vm, vs, pairUp, Nat.reduceEqDiff, Nat.reduceAdd, Nat.reduceLeDiff, reduceIte]
        refine Wp.ret ?_
        simp -implicitDefEqProofs only [vm, vs, pairUp, Nat.reduceEqDiff, Nat.reduceAdd, Nat.reduceLeDiff, reduceIte]
        rw [hbad hpr]
      cases z4 : decide ((i : Int) ≤ x.proto.n)
      · have hpr : OkProto i x.proto := by unfold OkProto; simp only [decide_eq_false_iff_not, decide_eq_true_eq] at z1 z2 z3 z4; omega
        simp -implicitDefEqProofs only [vm, vs, pairUp, Nat.reduceEqDiff, Nat.reduceAdd, Nat.reduceLeDiff, reduceIte, m4, m3, q4, List.drop_succ_cons, List.drop_zero, p2, hb0, bin_flat2_neq, z1, z2, z3, ge_iff_le, z4]
        refine Wp.condF (by simp -implicitDefEqProofs only [vm, vs, pairUp, Nat.reduceEqDiff, Nat.reduceAdd, Nat.reduceLeDiff, reduceIte]) (Wp.skip ?_)
        simp -implicitDefEqProofs only [vm, vs, pairUp, Nat.reduceEqDiff, Nat.reduceAdd, Nat.reduceLeDiff, reduceIte]
        refine Wp_region ?_
        simp -implicitDefEqProofs only [vm, vs, pairUp, Nat.reduceEqDiff, Nat.reduceAdd, Nat.reduceLeDiff, reduceIte, m9, hwi]
        refine Round_normal ⟨hlt, m0, m7, m8, rfl, fun j h hj => ?_⟩
        by_cases hji : j = i
        · subst hji; exact hok.2 ⟨fun k hk => hfs k hk hk, hpr⟩
        · exact hall j h (by omega)
      · have hpr : ¬ OkProto i x.proto := by unfold OkProto; simp only [decide_eq_false_iff_not, decide_eq_true_eq] at z1 z2 z3 z4; omega
        simp -implicitDefEqProofs only [vm, vs, pairUp, Nat.reduceEqDiff, Nat.reduceAdd, Nat.reduceLeDiff, reduceIte, m4, m3, q4, List.drop_succ_cons, List.drop_zero, p2, hb0, bin_flat2_neq, z1, z2, z3, ge_iff_le, z4]
        refine Wp.condT (by simp -implicitDefEqProofs only [vm, vs, pairUp, Nat.reduceEqDiff, Nat.reduceAdd, Nat.reduceLeDiff, reduceIte]) (Wp.seq (Wp_region ?_))
        simp -implicitDefEqProofs only [vm, vs, pairUp, Nat.reduceEqDiff, Nat.reduceAdd, Nat.reduceLeDiff, reduceIte]
        refine Wp.ret ?_
        simp -implicitDefEqProofs only [vm, vs, pairUp, Nat.reduceEqDiff, Nat.reduceAdd, Nat.reduceLeDiff, reduceIte]
        rw [hbad hpr]
  · have hie : i = t.list.length := by omega
    subst hie
    refine Wp.seq (Wp.condF (by simp -implicitDefEqProofs only [vm, vs, pairUp, Nat.reduceEqDiff, Nat.reduceAdd, Nat.reduceLeDiff, reduceIte]; simp [hlt]) (Wp.exit ?_))
    simp -implicitDefEqProofs only [vm, vs, pairUp, Nat.reduceEqDiff, Nat.reduceAdd, Nat.reduceLeDiff, reduceIte]
    refine Wp.seq (Wp_region ?_)
    simp -implicitDefEqProofs only [vm, vs, pairUp, Nat.reduceEqDiff, Nat.reduceAdd, Nat.reduceLeDiff, reduceIte]
    refine Wp.ret ?_
    simp -implicitDefEqProofs only [vm, vs, pairUp, Nat.reduceEqDiff, Nat.reduceAdd, Nat.reduceLeDiff, reduceIte]
    rw [dec_true (show StoreP t.list from fun j h => hall j h h)]
end Go.VM
