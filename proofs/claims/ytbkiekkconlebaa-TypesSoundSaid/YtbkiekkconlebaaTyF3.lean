/-
  May a table be: the document's function.
-/
import Derived.Test.YtbkiekkconlebaaTyF2
set_option linter.all false
set_option linter.all false
set_option maxRecDepth 100000
namespace Go.VM
open Go

theorem mayR_c (t : SlOf Ty) (u : Unit) : (callL TT).pure 16 [slD encTy t] u = some (.bool (dec (MayP t.list)), u) := by
  refine fn_of rfl rfl (by simp -implicitDefEqProofs only [vm, pairUp, Nat.reduceEqDiff, Nat.reduceAdd, Nat.reduceLeDiff, reduceIte]) rfl rfl ?_
  have hm := t.len_le
  unfold v16
  refine Wp.seq (Wp_region ?_)
  simp -implicitDefEqProofs only [vm, pairUp, Nat.reduceEqDiff, Nat.reduceAdd, Nat.reduceLeDiff, reduceIte]
  refine Wp.seq (Wp.seq (Wp_region ?_))
  simp -implicitDefEqProofs only [vm, pairUp, Nat.reduceEqDiff, Nat.reduceAdd, Nat.reduceLeDiff, reduceIte]
  refine Wp.block (Wp.loopN t.list.length (P := fun i e => e 0 = some (slD encTy t) ∧ e 3 = some (.int .i64 i) ∧ ∀ j (h : j < t.list.length), j < i → OkTy t.list.length j t.list[j]) ?_ ⟨rfl, rfl, fun j _ h => by omega⟩)
  rintro i e g hi ⟨h0, h3, hall⟩
  have k0 : keepEnv [0, 3] [] e 0 = some (slD encTy t) := keepEnv_some h0 rfl okH_sl
  have k3 : keepEnv [0, 3] [] e 3 = some (.int .i64 i) := keepEnv_some h3 rfl rfl
  generalize keepEnv [0, 3] [] e = e' at k0 k3
  refine Wp.seq (Wp.seq (Wp_region ?_))
  simp -implicitDefEqProofs only [vm, pairUp, Nat.reduceEqDiff, Nat.reduceAdd, Nat.reduceLeDiff, reduceIte, k0, k3]
  by_cases hlt : i < t.list.length
  · refine Wp.condT (by simp -implicitDefEqProofs only [vm, pairUp, Nat.reduceEqDiff, Nat.reduceAdd, Nat.reduceLeDiff, reduceIte]; simp [hlt]) (Wp.skip ?_)
    simp -implicitDefEqProofs only [vm, pairUp, Nat.reduceEqDiff, Nat.reduceAdd, Nat.reduceLeDiff, reduceIte]
    have ia := iaD_nat (H := fun _ => none) (enc := encTy) (sz := 3) hlt rfl
    refine Wp.seq (Wp.block (Wp.seq (Wp_region ?_)))
    simp -implicitDefEqProofs only [vm, pairUp, Nat.reduceEqDiff, Nat.reduceAdd, Nat.reduceLeDiff, reduceIte, k0, k3, ia, encTy]
    generalize hx : t.list[i] = x
    have hok : OkTy t.list.length i t.list[i] ↔ OkTy t.list.length i x := by rw [hx]
    refine Wp.seq (Wp.seq (Wp_cut (fun e2 => e2 0 = some (slD encTy t) ∧ e2 3 = some (.int .i64 i) ∧ e2 4 = some (.box 4 0) ∧ e2 46 = some (.bool (dec (¬ OkKind x)))) ?_ ?_))
    · have dT : ¬ OkKind x → dec (¬ OkKind x) = true := dec_true
      have dF : OkKind x → dec (¬ OkKind x) = false := fun h => dec_false (fun h' => h' h)
      unfold OkKind at dT dF ⊢
      cases a1 : decide (x.kind < 0)
      case true => simp -implicitDefEqProofs only [vm, pairUp, Nat.reduceEqDiff, Nat.reduceAdd, Nat.reduceLeDiff, reduceIte, a1, k0, k3]; simp only [decide_eq_true_eq, decide_eq_false_iff_not] at a1; rw [dT (by omega)]
      cases a2 : decide (5 < x.kind)
      case true => simp -implicitDefEqProofs only [vm, pairUp, Nat.reduceEqDiff, Nat.reduceAdd, Nat.reduceLeDiff, reduceIte, a1, a2, k0, k3]; simp only [decide_eq_true_eq, decide_eq_false_iff_not] at a1 a2; rw [dT (by omega)]
      cases a3 : decide (x.kind = 4)
      case true =>
        have a5 : decide (x.kind = 5) = false := by simp only [decide_eq_true_eq, decide_eq_false_iff_not] at a3 ⊢; omega
        cases a6 : decide ((0 : Int) < (x.elems.list.length : Nat))
        · simp -implicitDefEqProofs only [vm, pairUp, Nat.reduceEqDiff, Nat.reduceAdd, Nat.reduceLeDiff, reduceIte, a1, a2, a3, a5, a6, k0, k3]; simp only [decide_eq_true_eq, decide_eq_false_iff_not] at a1 a2 a3 a6; rw [dF (by omega)]
        · simp -implicitDefEqProofs only [vm, pairUp, Nat.reduceEqDiff, Nat.reduceAdd, Nat.reduceLeDiff, reduceIte, a1, a2, a3, a5, a6, k0, k3]; simp only [decide_eq_true_eq, decide_eq_false_iff_not] at a1 a2 a3 a6; rw [dT (by omega)]
      cases a4 : decide ((0 : Int) < (x.fields.list.length : Nat))
      case true => simp -implicitDefEqProofs only [vm, pairUp, Nat.reduceEqDiff, Nat.reduceAdd, Nat.reduceLeDiff, reduceIte, a1, a2, a3, a4, k0, k3]; simp only [decide_eq_true_eq, decide_eq_false_iff_not] at a1 a2 a3 a4; rw [dT (by omega)]
      cases a5 : decide (x.kind = 5)
      case true => simp -implicitDefEqProofs only [vm, pairUp, Nat.reduceEqDiff, Nat.reduceAdd, Nat.reduceLeDiff, reduceIte, a1, a2, a3, a4, a5, k0, k3]; simp only [decide_eq_true_eq, decide_eq_false_iff_not] at a1 a2 a3 a4 a5; rw [dF (by omega)]
      cases a6 : decide ((0 : Int) < (x.elems.list.length : Nat))
      · simp -implicitDefEqProofs only [vm, pairUp, Nat.reduceEqDiff, Nat.reduceAdd, Nat.reduceLeDiff, reduceIte, a1, a2, a3, a4, a5, a6, k0, k3]; simp only [decide_eq_true_eq, decide_eq_false_iff_not] at a1 a2 a3 a4 a5 a6; rw [dF (by omega)]
      · simp -implicitDefEqProofs only [vm, pairUp, Nat.reduceEqDiff, Nat.reduceAdd, Nat.reduceLeDiff, reduceIte, a1, a2, a3, a4, a5, a6, k0, k3]; simp only [decide_eq_true_eq, decide_eq_false_iff_not] at a1 a2 a3 a4 a5 a6; rw [dT (by omega)]
    · rintro e2 ⟨m0, m3, m4, m46⟩
      simp -implicitDefEqProofs only [vm, pairUp, Nat.reduceEqDiff, Nat.reduceAdd, Nat.reduceLeDiff, reduceIte]
      refine Wp.cond m46 (fun hc => ?_) (fun hc => ?_)
      · refine Wp.seq (Wp_region ?_)
        simp -implicitDefEqProofs only [vm, pairUp, Nat.reduceEqDiff, Nat.reduceAdd, Nat.reduceLeDiff, reduceIte]
        refine Wp.ret ?_
        simp -implicitDefEqProofs only [vm, pairUp, Nat.reduceEqDiff, Nat.reduceAdd, Nat.reduceLeDiff, reduceIte]
        rw [dec_false (fun h => dec_iff.1 hc (hok.1 (h.1 i hlt)).1)]
      have hkind : OkKind x := Classical.byContradiction fun h => by rw [dec_true h] at hc; cases hc
      refine Wp.skip ?_
      simp -implicitDefEqProofs only [vm, pairUp, Nat.reduceEqDiff, Nat.reduceAdd, Nat.reduceLeDiff, reduceIte]
      refine Wp.seq (Wp.seq (Wp_region ?_))
      simp -implicitDefEqProofs only [vm, pairUp, Nat.reduceEqDiff, Nat.reduceAdd, Nat.reduceLeDiff, reduceIte]
      refine Wp.block (Wp.loopT (Inv := fun n e H _ => ∃ k : Nat, k ≤ x.fields.list.length ∧ n = x.fields.list.length - k ∧ e 0 = some (slD encTy t) ∧ e 3 = some (.int .i64 i) ∧ e 4 = some (.box 4 0) ∧ e 5 = some (.int .i64 k) ∧ H 4 = some (.vars (encTy x)) ∧ ∀ j (h : j < x.fields.list.length), j < k → OkField t.list.length x.fields.list j h) ?_ (n := x.fields.list.length) ⟨0, by omega, rfl, m0, m3, m4, rfl, rfl, fun j _ h => by omega⟩)
      rintro n e3 H g3 ⟨k, hk, rfl, n0, n3, n4, n5, hH4, hfs⟩
      refine ⟨hOk_cons hH4 (by simp only [encTy, HC.okH, vm, pairUp, Nat.reduceEqDiff, Nat.reduceAdd, Nat.reduceLeDiff, reduceIte, okH1_sl]; rfl) rfl, ?_⟩
      have k0 : keepEnv [0, 3, 4, 5] [4] e3 0 = some (slD encTy t) := keepEnv_some n0 rfl okH_sl
      have k3 : keepEnv [0, 3, 4, 5] [4] e3 3 = some (.int .i64 i) := keepEnv_some n3 rfl rfl
      have k4 : keepEnv [0, 3, 4, 5] [4] e3 4 = some (.box 4 0) := keepEnv_some n4 rfl rfl
      have k5 : keepEnv [0, 3, 4, 5] [4] e3 5 = some (.int .i64 k) := keepEnv_some n5 rfl rfl
      have q4 : keepHp [4] H 4 = some (.vars (encTy x)) := keepHp_in hH4 rfl
      generalize keepEnv [0, 3, 4, 5] [4] e3 = e4 at k0 k3 k4 k5
      generalize keepHp [4] H = H4 at q4
      have q4' := q4
      simp only [encTy] at q4
      refine Wp.seq (Wp.seq (Wp_region ?_))
      simp -implicitDefEqProofs only [vm, pairUp, Nat.reduceEqDiff, Nat.reduceAdd, Nat.reduceLeDiff, reduceIte, k4, k5, q4]
      by_cases hkl : k < x.fields.list.length
      · refine Wp.condT (by simp -implicitDefEqProofs only [vm, pairUp, Nat.reduceEqDiff, Nat.reduceAdd, Nat.reduceLeDiff, reduceIte]; simp [hkl]) (Wp.skip ?_)
        simp -implicitDefEqProofs only [vm, pairUp, Nat.reduceEqDiff, Nat.reduceAdd, Nat.reduceLeDiff, reduceIte]
        have ia2 := fun H : Hp => iaD_nat (H := H) (enc := encTF) (sz := 2) hkl rfl
        generalize hf : x.fields.list[k] = f at ia2
        have hfk : OkField t.list.length x.fields.list k hkl ↔ (0 ≤ f.type ∧ f.type < t.list.length ∧ (0 < k → slt (x.fields.list[k - 1]).name f.name = true)) := by unfold OkField; rw [hf]
        refine Wp.seq (Wp.block (Wp.seq (Wp_cutQ (fun e5 => e5 0 = some (slD encTy t) ∧ e5 3 = some (.int .i64 i) ∧ e5 4 = some (.box 4 0) ∧ e5 5 = some (.int .i64 k) ∧ e5 91 = some (.bool (dec (¬ OkField t.list.length x.fields.list k hkl)))) (by rfl) ?_ ?_)))
        · have dT : ¬ (0 ≤ f.type ∧ f.type < t.list.length ∧ (0 < k → slt (x.fields.list[k - 1]).name f.name = true)) → dec (¬ OkField t.list.length x.fields.list k hkl) = true := fun h => dec_true (fun h' => h (hfk.1 h'))
          have dF : (0 ≤ f.type ∧ f.type < t.list.length ∧ (0 < k → slt (x.fields.list[k - 1]).name f.name = true)) → dec (¬ OkField t.list.length x.fields.list k hkl) = false := fun h => dec_false (fun h' => h' (hfk.2 h))
          cases a1 : decide (f.type < 0)
          case true => simp -implicitDefEqProofs only [vm, pairUp, Nat.reduceEqDiff, Nat.reduceAdd, Nat.reduceLeDiff, reduceIte, a1, k0, k3, k4, k5, q4, ia2, encTF]; simp only [decide_eq_true_eq, decide_eq_false_iff_not] at a1; rw [dT (by omega)]
          cases a2 : decide (((t.list.length : Nat) : Int) ≤ f.type)
          case true => simp -implicitDefEqProofs only [vm, pairUp, Nat.reduceEqDiff, Nat.reduceAdd, Nat.reduceLeDiff, reduceIte, a1, a2, k0, k3, k4, k5, q4, ia2, encTF]; simp only [decide_eq_true_eq, decide_eq_false_iff_not] at a1 a2; rw [dT (by omega)]
          cases a3 : decide ((0 : Int) < (k : Nat))
          case false => simp -implicitDefEqProofs only [vm, pairUp, Nat.reduceEqDiff, Nat.reduceAdd, Nat.reduceLeDiff, reduceIte, a1, a2, a3, k0, k3, k4, k5, q4, ia2, encTF]; simp only [decide_eq_true_eq, decide_eq_false_iff_not] at a1 a2 a3; rw [dF ⟨by omega, by omega, fun h => by omega⟩]
          have hk0 : 0 < k := by simp only [decide_eq_true_eq] at a3; omega
          have hw1 : IntKind.wrap .i64 ((k : Nat) - 1 : Int) = ((k - 1 : Nat) : Int) := by
            have := x.fields.len_le
            have : x.fields.list.length ≤ 9223372036854775807 := this
            rw [wrap_in (by omega)]; omega
          have ia3 := fun H : Hp => iaD_nat (H := H) (enc := encTF) (x := x.fields) (sz := 2) (i := k - 1) (by omega) rfl
          have hkl1 : k - 1 < x.fields.list.length := by omega
          cases a4 : slt (x.fields.list[k - 1]).name f.name
          · have a4' := a4
            unfold slt at a4'
            simp -implicitDefEqProofs only [vm, pairUp, Nat.reduceEqDiff, Nat.reduceAdd, Nat.reduceLeDiff, reduceIte, a1, a2, a3, a4', k0, k3, k4, k5, q4, hw1, ia2, ia3, encTF]
            simp only [decide_eq_true_eq, decide_eq_false_iff_not] at a1 a2 a3; rw [dT (fun h => by rw [h.2.2 hk0] at a4; cases a4)]
          · have a4' := a4
            unfold slt at a4'
            simp -implicitDefEqProofs only [vm, pairUp, Nat.reduceEqDiff, Nat.reduceAdd, Nat.reduceLeDiff, reduceIte, a1, a2, a3, a4', k0, k3, k4, k5, q4, hw1, ia2, ia3, encTF]
            simp only [decide_eq_true_eq, decide_eq_false_iff_not] at a1 a2 a3; rw [dF ⟨by omega, by omega, fun _ => a4⟩]
        · rintro e5 ⟨r0, r3, r4, r5, r91⟩
          simp -implicitDefEqProofs only [vm, pairUp, Nat.reduceEqDiff, Nat.reduceAdd, Nat.reduceLeDiff, reduceIte]
          refine Wp.cond r91 (fun hc => ?_) (fun hc => ?_)
          · refine Wp.seq (Wp_region ?_)
            simp -implicitDefEqProofs only [vm, pairUp, Nat.reduceEqDiff, Nat.reduceAdd, Nat.reduceLeDiff, reduceIte]
            refine Wp.ret ?_
            simp -implicitDefEqProofs only [vm, pairUp, Nat.reduceEqDiff, Nat.reduceAdd, Nat.reduceLeDiff, reduceIte]
            rw [dec_false (fun h => dec_iff.1 hc ((hok.1 (h.1 i hlt)).2.1 k hkl))]
          · have hfok : OkField t.list.length x.fields.list k hkl := Classical.byContradiction fun h => by rw [dec_true h] at hc; cases hc
            refine Wp.skip ?_
            simp -implicitDefEqProofs only [vm, pairUp, Nat.reduceEqDiff, Nat.reduceAdd, Nat.reduceLeDiff, reduceIte]
            have hw := wrap_nat (n := k) (by have := x.fields.len_le; omega)
            refine Wp_region ?_
            simp -implicitDefEqProofs only [vm, pairUp, Nat.reduceEqDiff, Nat.reduceAdd, Nat.reduceLeDiff, reduceIte, r5, hw]
            refine Round_normal ⟨x.fields.list.length - (k + 1), by omega, k + 1, by omega, rfl, r0, r3, r4, rfl, q4', fun j h hj => ?_⟩
            by_cases hjk : j = k
            · subst hjk; exact hfok
            · exact hfs j h (by omega)
      · have hke : k = x.fields.list.length := by omega
        subst hke
        refine Wp.condF (by simp -implicitDefEqProofs only [vm, pairUp, Nat.reduceEqDiff, Nat.reduceAdd, Nat.reduceLeDiff, reduceIte]; simp [hkl]) (Wp.exit ?_)
        simp -implicitDefEqProofs only [vm, pairUp, Nat.reduceEqDiff, Nat.reduceAdd, Nat.reduceLeDiff, reduceIte]
        refine Wp.seq (Wp_region ?_)
        simp -implicitDefEqProofs only [vm, pairUp, Nat.reduceEqDiff, Nat.reduceAdd, Nat.reduceLeDiff, reduceIte]
        refine Wp.block (Wp.loopT (Inv := fun n e H _ => ∃ k : Nat, k ≤ x.elems.list.length ∧ n = x.elems.list.length - k ∧ e 0 = some (slD encTy t) ∧ e 3 = some (.int .i64 i) ∧ e 4 = some (.box 4 0) ∧ e 6 = some (.int .i64 k) ∧ H 4 = some (.vars (encTy x)) ∧ ∀ j (h : j < x.elems.list.length), j < k → 0 ≤ x.elems.list[j] ∧ x.elems.list[j] < i) ?_ (n := x.elems.list.length) ⟨0, by omega, rfl, k0, k3, k4, rfl, q4', fun j _ h => by omega⟩)
        rintro n e3 H g3 ⟨k, hk, rfl, n0, n3, n4, n6, hH4, hes⟩
        refine ⟨hOk_cons hH4 (by simp only [encTy, HC.okH, vm, pairUp, Nat.reduceEqDiff, Nat.reduceAdd, Nat.reduceLeDiff, reduceIte, okH1_sl]; rfl) rfl, ?_⟩
        have k0 : keepEnv [0, 3, 4, 6] [4] e3 0 = some (slD encTy t) := keepEnv_some n0 rfl okH_sl
        have k3 : keepEnv [0, 3, 4, 6] [4] e3 3 = some (.int .i64 i) := keepEnv_some n3 rfl rfl
        have k4 : keepEnv [0, 3, 4, 6] [4] e3 4 = some (.box 4 0) := keepEnv_some n4 rfl rfl
        have k6 : keepEnv [0, 3, 4, 6] [4] e3 6 = some (.int .i64 k) := keepEnv_some n6 rfl rfl
        have q4 : keepHp [4] H 4 = some (.vars (encTy x)) := keepHp_in hH4 rfl
        generalize keepEnv [0, 3, 4, 6] [4] e3 = e4 at k0 k3 k4 k6
        generalize keepHp [4] H = H4 at q4
        have q4' := q4
        simp only [encTy] at q4
        refine Wp.seq (Wp.seq (Wp_region ?_))
        simp -implicitDefEqProofs only [vm, pairUp, Nat.reduceEqDiff, Nat.reduceAdd, Nat.reduceLeDiff, reduceIte, k4, k6, q4]
        by_cases hkl : k < x.elems.list.length
        · refine Wp.condT (by simp -implicitDefEqProofs only [vm, pairUp, Nat.reduceEqDiff, Nat.reduceAdd, Nat.reduceLeDiff, reduceIte]; simp [hkl]) (Wp.skip ?_)
          simp -implicitDefEqProofs only [vm, pairUp, Nat.reduceEqDiff, Nat.reduceAdd, Nat.reduceLeDiff, reduceIte]
          have ia2 := fun H : Hp => iaD_nat (H := H) (enc := encI) (sz := 1) hkl rfl
          generalize hf : x.elems.list[k] = f at ia2
          refine Wp.seq (Wp.block (Wp.seq (Wp_cut (fun e5 => e5 0 = some (slD encTy t) ∧ e5 3 = some (.int .i64 i) ∧ e5 4 = some (.box 4 0) ∧ e5 6 = some (.int .i64 k) ∧ e5 113 = some (.bool (dec (¬ (0 ≤ f ∧ f < i))))) ?_ ?_)))
          · cases a1 : decide (f < 0)
            case true => simp -implicitDefEqProofs only [vm, pairUp, Nat.reduceEqDiff, Nat.reduceAdd, Nat.reduceLeDiff, reduceIte, a1, k0, k3, k4, k6, q4, ia2, encI]; simp only [decide_eq_true_eq, decide_eq_false_iff_not] at a1; rw [dec_true (by omega)]
            cases a2 : decide (((i : Nat) : Int) ≤ f)
            case true => simp -implicitDefEqProofs only [vm, pairUp, Nat.reduceEqDiff, Nat.reduceAdd, Nat.reduceLeDiff, reduceIte, a1, a2, k0, k3, k4, k6, q4, ia2, encI]; simp only [decide_eq_true_eq, decide_eq_false_iff_not] at a1 a2; rw [dec_true (by omega)]
            simp -implicitDefEqProofs only [vm, pairUp, Nat.reduceEqDiff, Nat.reduceAdd, Nat.reduceLeDiff, reduceIte, a1, a2, k0, k3, k4, k6, q4, ia2, encI]; simp only [decide_eq_true_eq, decide_eq_false_iff_not] at a1 a2; rw [dec_false (by omega)]
          · rintro e5 ⟨r0, r3, r4, r6, r113⟩
            simp -implicitDefEqProofs only [vm, pairUp, Nat.reduceEqDiff, Nat.reduceAdd, Nat.reduceLeDiff, reduceIte]
            refine Wp.cond r113 (fun hc => ?_) (fun hc => ?_)
            · refine Wp.seq (Wp_region ?_)
              simp -implicitDefEqProofs only [vm, pairUp, Nat.reduceEqDiff, Nat.reduceAdd, Nat.reduceLeDiff, reduceIte]
              refine Wp.ret ?_
              simp -implicitDefEqProofs only [vm, pairUp, Nat.reduceEqDiff, Nat.reduceAdd, Nat.reduceLeDiff, reduceIte]
              rw [dec_false (fun h => dec_iff.1 hc (by rw [← hf]; exact (hok.1 (h.1 i hlt)).2.2 _ (List.getElem_mem hkl)))]
            · have hfok : 0 ≤ f ∧ f < i := Classical.byContradiction fun h => by rw [dec_true h] at hc; cases hc
              refine Wp.skip ?_
              simp -implicitDefEqProofs only [vm, pairUp, Nat.reduceEqDiff, Nat.reduceAdd, Nat.reduceLeDiff, reduceIte]
              have hw := wrap_nat (n := k) (by have := x.elems.len_le; omega)
              refine Wp_region ?_
              simp -implicitDefEqProofs only [vm, pairUp, Nat.reduceEqDiff, Nat.reduceAdd, Nat.reduceLeDiff, reduceIte, r6, hw]
              refine Round_normal ⟨x.elems.list.length - (k + 1), by omega, k + 1, by omega, rfl, r0, r3, r4, rfl, q4', fun j h hj => ?_⟩
              by_cases hjk : j = k
              · subst hjk; rw [hf]; exact hfok
              · exact hes j h (by omega)
        · refine Wp.condF (by simp -implicitDefEqProofs only [vm, pairUp, Nat.reduceEqDiff, Nat.reduceAdd, Nat.reduceLeDiff, reduceIte]; simp [hkl]) (Wp.exit ?_)
          simp -implicitDefEqProofs only [vm, pairUp, Nat.reduceEqDiff, Nat.reduceAdd, Nat.reduceLeDiff, reduceIte]
          have hw := wrap_nat (n := i) (by omega)
          refine Wp_region ?_
          simp -implicitDefEqProofs only [vm, pairUp, Nat.reduceEqDiff, Nat.reduceAdd, Nat.reduceLeDiff, reduceIte, k3, hw]
          refine Round_normal ⟨hlt, k0, rfl, fun j h hj => ?_⟩
          by_cases hji : j = i
          · subst hji
            refine hok.2 ⟨hkind, fun k hk => hfs k hk hk, fun a ha => ?_⟩
            obtain ⟨j, hj, rfl⟩ := List.getElem_of_mem ha
            exact hes j hj (by omega)
          · exact hall j h (by omega)
  · have hie : i = t.list.length := by omega
    subst hie
    refine Wp.condF (by simp -implicitDefEqProofs only [vm, pairUp, Nat.reduceEqDiff, Nat.reduceAdd, Nat.reduceLeDiff, reduceIte]; simp [hlt]) (Wp.exit ?_)
    simp -implicitDefEqProofs only [vm, pairUp, Nat.reduceEqDiff, Nat.reduceAdd, Nat.reduceLeDiff, reduceIte]
    refine Wp.seq (Wp_region ?_)
    simp -implicitDefEqProofs only [vm, pairUp, Nat.reduceEqDiff, Nat.reduceAdd, Nat.reduceLeDiff, reduceIte, k0]
    refine Wp.ret ?_
    simp -implicitDefEqProofs only [vm, pairUp, Nat.reduceEqDiff, Nat.reduceAdd, Nat.reduceLeDiff, reduceIte]
    by_cases h200 : t.list.length ≤ 200
    · rw [dec_true ⟨fun j h => hall j h h, h200⟩]; simp; omega
    · rw [dec_false (fun h => h200 h.2)]; simp; omega
end Go.VM
