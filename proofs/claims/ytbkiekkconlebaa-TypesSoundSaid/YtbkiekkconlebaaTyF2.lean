/-
  May a table be: the program's function and the document's.
-/
import Derived.Test.YtbkiekkconlebaaTyF1
import Derived.Test.YtbkiekkconlebaaM4
set_option linter.all false
set_option linter.all false
set_option maxRecDepth 100000
namespace Go.VM
open Go

def OkField (n : Nat) (l : List TF) (k : Nat) (h : k < l.length) : Prop := 0 ≤ (l[k]).type ∧ (l[k]).type < n ∧ (0 < k → slt (l[k - 1]).name (l[k]).name = true)
def OkFields (n : Nat) (l : List TF) : Prop := ∀ k (h : k < l.length), OkField n l k h
def OkKind (x : Ty) : Prop := 0 ≤ x.kind ∧ x.kind < 6 ∧ (x.kind = 4 ∨ x.fields.list.length = 0) ∧ (x.kind = 5 ∨ x.elems.list.length = 0)
def OkTy (n i : Nat) (x : Ty) : Prop := OkKind x ∧ OkFields n x.fields.list ∧ ∀ e ∈ x.elems.list, 0 ≤ e ∧ e < i
def MayP (t : List Ty) : Prop := (∀ i (h : i < t.length), OkTy t.length i t[i]) ∧ t.length ≤ 200

theorem below_c (e i : Int) (u : Unit) : (callL TT).pure 56 [.int .i64 e, .ref [.int .i64 i]] u = some (.bool (dec (¬ (0 ≤ e ∧ e < i))), u) := by
  refine fn_of rfl rfl (by simp -implicitDefEqProofs only [vm, pairUp, Nat.reduceEqDiff, Nat.reduceAdd, Nat.reduceLeDiff, reduceIte]) rfl rfl ?_
  unfold v56
  refine Wp.seq (Wp_region ?_)
  simp -implicitDefEqProofs only [vm, pairUp, Nat.reduceEqDiff, Nat.reduceAdd, Nat.reduceLeDiff, reduceIte]
  refine Wp.seq (Wp_region ?_)
  by_cases h : e < 0
  · simp -implicitDefEqProofs only [vm, pairUp, Nat.reduceEqDiff, Nat.reduceAdd, Nat.reduceLeDiff, reduceIte, h]
    refine Wp.ret ?_
    simp -implicitDefEqProofs only [vm, pairUp, Nat.reduceEqDiff, Nat.reduceAdd, Nat.reduceLeDiff, reduceIte]
    rw [dec_true (by omega)]
  · simp -implicitDefEqProofs only [vm, pairUp, Nat.reduceEqDiff, Nat.reduceAdd, Nat.reduceLeDiff, reduceIte, h]
    refine Wp.ret ?_
    simp -implicitDefEqProofs only [vm, pairUp, Nat.reduceEqDiff, Nat.reduceAdd, Nat.reduceLeDiff, reduceIte]
    by_cases h2 : i ≤ e
    · rw [dec_true (by omega)]; simp [h2]
    · rw [dec_false (by omega)]; simp [h2]
theorem elI : ElOk encI false 1 (fun n => .int .i64 n) := ⟨fun _ => rfl, fun _ => rfl, fun _ _ => rfl⟩
theorem anyOut_c (x : SlOf Int) (i : Int) (u : Unit) : (callL TT).pure 55 [slD encI x, .fn 56 [.ref [.int .i64 i]]] u = some (.bool (dec (∃ e ∈ x.list, ¬ (0 ≤ e ∧ e < i))), u) :=
  has_c (T := TT) elI (f := 55) (f2 := 120) (fid := 56) rfl rfl rfl rfl rfl rfl x (fun e => ¬ (0 ≤ e ∧ e < i)) (fun a _ u => below_c a i u) u

theorem may_c (t : SlOf Ty) (u : Unit) : (callL TT).pure 15 [slD encTy t] u = some (.bool (dec (MayP t.list)), u) := by
  refine fn_of rfl rfl (by simp -implicitDefEqProofs only [vm, pairUp, Nat.reduceEqDiff, Nat.reduceAdd, Nat.reduceLeDiff, reduceIte]) rfl rfl ?_
  have hm := t.len_le
  unfold v15
  refine Wp.seq (Wp_region ?_)
  simp -implicitDefEqProofs only [vm, pairUp, Nat.reduceEqDiff, Nat.reduceAdd, Nat.reduceLeDiff, reduceIte]
  refine Wp.seq (Wp.seq (Wp_region ?_))
  simp -implicitDefEqProofs only [vm, pairUp, Nat.reduceEqDiff, Nat.reduceAdd, Nat.reduceLeDiff, reduceIte]
  refine Wp.block (Wp.loopN t.list.length (P := fun i e => e 0 = some (slD encTy t) ∧ e 7 = some (slD encTy t) ∧ e 8 = some (.int .i64 (t.list.length : Nat)) ∧ e 9 = some (.int .i64 i) ∧ ∀ j (h : j < t.list.length), j < i → OkTy t.list.length j t.list[j]) ?_ ⟨rfl, rfl, rfl, rfl, fun j _ h => by omega⟩)
  rintro i e g hi ⟨h0, h7, h8, h9, hall⟩
  have k0 : keepEnv [0, 7, 8, 9] [] e 0 = some (slD encTy t) := keepEnv_some h0 rfl okH_sl
  have k7 : keepEnv [0, 7, 8, 9] [] e 7 = some (slD encTy t) := keepEnv_some h7 rfl okH_sl
  have k8 : keepEnv [0, 7, 8, 9] [] e 8 = some (.int .i64 (t.list.length : Nat)) := keepEnv_some h8 rfl rfl
  have k9 : keepEnv [0, 7, 8, 9] [] e 9 = some (.int .i64 i) := keepEnv_some h9 rfl rfl
  generalize keepEnv [0, 7, 8, 9] [] e = e' at k0 k7 k8 k9
  refine Wp.seq (Wp_region ?_)
  simp -implicitDefEqProofs only [vm, pairUp, Nat.reduceEqDiff, Nat.reduceAdd, Nat.reduceLeDiff, reduceIte, k8, k9]
  by_cases hlt : i < t.list.length
  · refine Wp.seq (Wp.condT (by simp -implicitDefEqProofs only [vm, pairUp, Nat.reduceEqDiff, Nat.reduceAdd, Nat.reduceLeDiff, reduceIte]; simp [hlt]) (Wp.skip ?_))
    simp -implicitDefEqProofs only [vm, pairUp, Nat.reduceEqDiff, Nat.reduceAdd, Nat.reduceLeDiff, reduceIte]
    have ia := iaD_nat (H := fun _ => none) (enc := encTy) (sz := 3) hlt rfl
    refine Wp.seq (Wp.block (Wp.seq (Wp_region ?_)))
    simp -implicitDefEqProofs only [vm, pairUp, Nat.reduceEqDiff, Nat.reduceAdd, Nat.reduceLeDiff, reduceIte, k7, k9, ia, encTy]
    generalize hx : t.list[i] = x
    have hok : OkTy t.list.length i t.list[i] ↔ OkTy t.list.length i x := by rw [hx]
    refine Wp.seq (Wp.seq (Wp_cut (fun e2 => e2 0 = some (slD encTy t) ∧ e2 3 = some (.box 3 0) ∧ e2 4 = some (.box 4 0) ∧ e2 7 = some (slD encTy t) ∧ e2 8 = some (.int .i64 (t.list.length : Nat)) ∧ e2 9 = some (.int .i64 i) ∧ e2 43 = some (.bool (dec (¬ OkKind x)))) ?_ ?_))
    · have dT : ¬ OkKind x → dec (¬ OkKind x) = true := dec_true
      have dF : OkKind x → dec (¬ OkKind x) = false := fun h => dec_false (fun h' => h' h)
      unfold OkKind at dT dF ⊢
      cases a1 : decide (x.kind < 0)
      case true => simp -implicitDefEqProofs only [vm, pairUp, Nat.reduceEqDiff, Nat.reduceAdd, Nat.reduceLeDiff, reduceIte, a1, k0, k7, k8, k9]; simp only [decide_eq_true_eq, decide_eq_false_iff_not] at a1; rw [dT (by omega)]
      cases a2 : decide (6 ≤ x.kind)
      case true => simp -implicitDefEqProofs only [vm, pairUp, Nat.reduceEqDiff, Nat.reduceAdd, Nat.reduceLeDiff, reduceIte, a1, a2, k0, k7, k8, k9]; simp only [decide_eq_true_eq, decide_eq_false_iff_not] at a1 a2; rw [dT (by omega)]
      cases a3 : decide (x.kind = 4)
      case true =>
        have a5 : decide (x.kind = 5) = false := by simp only [decide_eq_true_eq, decide_eq_false_iff_not] at a3 ⊢; omega
        cases a6 : decide ((0 : Int) < (x.elems.list.length : Nat))
        · simp -implicitDefEqProofs only [vm, pairUp, Nat.reduceEqDiff, Nat.reduceAdd, Nat.reduceLeDiff, reduceIte, a1, a2, a3, a5, a6, k0, k7, k8, k9]; simp only [decide_eq_true_eq, decide_eq_false_iff_not] at a1 a2 a3 a6; rw [dF (by omega)]
        · simp -implicitDefEqProofs only [vm, pairUp, Nat.reduceEqDiff, Nat.reduceAdd, Nat.reduceLeDiff, reduceIte, a1, a2, a3, a5, a6, k0, k7, k8, k9]; simp only [decide_eq_true_eq, decide_eq_false_iff_not] at a1 a2 a3 a6; rw [dT (by omega)]
      cases a4 : decide ((0 : Int) < (x.fields.list.length : Nat))
      case true => simp -implicitDefEqProofs only [vm, pairUp, Nat.reduceEqDiff, Nat.reduceAdd, Nat.reduceLeDiff, reduceIte, a1, a2, a3, a4, k0, k7, k8, k9]; simp only [decide_eq_true_eq, decide_eq_false_iff_not] at a1 a2 a3 a4; rw [dT (by omega)]
      cases a5 : decide (x.kind = 5)
      case true => simp -implicitDefEqProofs only [vm, pairUp, Nat.reduceEqDiff, Nat.reduceAdd, Nat.reduceLeDiff, reduceIte, a1, a2, a3, a4, a5, k0, k7, k8, k9]; simp only [decide_eq_true_eq, decide_eq_false_iff_not] at a1 a2 a3 a4 a5; rw [dF (by omega)]
      cases a6 : decide ((0 : Int) < (x.elems.list.length : Nat))
      · simp -implicitDefEqProofs only [vm, pairUp, Nat.reduceEqDiff, Nat.reduceAdd, Nat.reduceLeDiff, reduceIte, a1, a2, a3, a4, a5, a6, k0, k7, k8, k9]; simp only [decide_eq_true_eq, decide_eq_false_iff_not] at a1 a2 a3 a4 a5 a6; rw [dF (by omega)]
      · simp -implicitDefEqProofs only [vm, pairUp, Nat.reduceEqDiff, Nat.reduceAdd, Nat.reduceLeDiff, reduceIte, a1, a2, a3, a4, a5, a6, k0, k7, k8, k9]; simp only [decide_eq_true_eq, decide_eq_false_iff_not] at a1 a2 a3 a4 a5 a6; rw [dT (by omega)]
    · rintro e2 ⟨m0, m3, m4, m7, m8, m9, m43⟩
      simp -implicitDefEqProofs only [vm, pairUp, Nat.reduceEqDiff, Nat.reduceAdd, Nat.reduceLeDiff, reduceIte]
      refine Wp.cond m43 (fun hc => ?_) (fun hc => ?_)
      · refine Wp.seq (Wp_region ?_)
        simp -implicitDefEqProofs only [vm, pairUp, Nat.reduceEqDiff, Nat.reduceAdd, Nat.reduceLeDiff, reduceIte]
        refine Wp.ret ?_
        simp -implicitDefEqProofs only [vm, pairUp, Nat.reduceEqDiff, Nat.reduceAdd, Nat.reduceLeDiff, reduceIte]
        rw [dec_false (fun h => dec_iff.1 hc (hok.1 (h.1 i hlt)).1)]
      have hkind : OkKind x := Classical.byContradiction fun h => by rw [dec_true h] at hc; cases hc
      refine Wp.skip ?_
      simp -implicitDefEqProofs only [vm, pairUp, Nat.reduceEqDiff, Nat.reduceAdd, Nat.reduceLeDiff, reduceIte]
      refine Wp.seq (Wp.seq (Wp_region ?_))
      simp -implicitDefEqProofs only [vm, pairUp, Nat.reduceEqDiff, Nat.reduceAdd, Nat.reduceLeDiff, reduceIte, m4]
      refine Wp.block (Wp.loopT (Inv := fun n e H _ => ∃ k : Nat, k ≤ x.fields.list.length ∧ n = x.fields.list.length - k ∧ e 0 = some (slD encTy t) ∧ e 3 = some (.box 3 0) ∧ e 4 = some (.box 4 0) ∧ e 7 = some (slD encTy t) ∧ e 8 = some (.int .i64 (t.list.length : Nat)) ∧ e 9 = some (.int .i64 i) ∧ e 45 = some (slD encTF x.fields) ∧ e 46 = some (.int .i64 (x.fields.list.length : Nat)) ∧ e 47 = some (.int .i64 k) ∧
        H 3 = some (.vars [.int .i64 i]) ∧ H 4 = some (.vars (encTy x)) ∧ ∀ j (h : j < x.fields.list.length), j < k → OkField t.list.length x.fields.list j h) ?_ (n := x.fields.list.length) ⟨0, by omega, rfl, m0, m3, m4, m7, m8, m9, rfl, rfl, rfl, rfl, rfl, fun j _ h => by omega⟩)
      rintro n e3 H g3 ⟨k, hk, rfl, n0, n3, n4, n7, n8, n9, n45, n46, n47, hH3, hH4, hfs⟩
      refine ⟨hOk_cons hH3 rfl (hOk_cons hH4 (by simp only [encTy, HC.okH, vm, pairUp, Nat.reduceEqDiff, Nat.reduceAdd, Nat.reduceLeDiff, reduceIte, okH1_sl]; rfl) rfl), ?_⟩
      have k0 : keepEnv [0, 3, 4, 7, 8, 9, 45, 46, 47] [3, 4] e3 0 = some (slD encTy t) := keepEnv_some n0 rfl okH_sl
      have k3 : keepEnv [0, 3, 4, 7, 8, 9, 45, 46, 47] [3, 4] e3 3 = some (.box 3 0) := keepEnv_some n3 rfl rfl
      have k4 : keepEnv [0, 3, 4, 7, 8, 9, 45, 46, 47] [3, 4] e3 4 = some (.box 4 0) := keepEnv_some n4 rfl rfl
      have k7 : keepEnv [0, 3, 4, 7, 8, 9, 45, 46, 47] [3, 4] e3 7 = some (slD encTy t) := keepEnv_some n7 rfl okH_sl
      have k8 : keepEnv [0, 3, 4, 7, 8, 9, 45, 46, 47] [3, 4] e3 8 = some (.int .i64 (t.list.length : Nat)) := keepEnv_some n8 rfl rfl
      have k9 : keepEnv [0, 3, 4, 7, 8, 9, 45, 46, 47] [3, 4] e3 9 = some (.int .i64 i) := keepEnv_some n9 rfl rfl
      have k45 : keepEnv [0, 3, 4, 7, 8, 9, 45, 46, 47] [3, 4] e3 45 = some (slD encTF x.fields) := keepEnv_some n45 rfl okH_sl
      have k46 : keepEnv [0, 3, 4, 7, 8, 9, 45, 46, 47] [3, 4] e3 46 = some (.int .i64 (x.fields.list.length : Nat)) := keepEnv_some n46 rfl rfl
      have k47 : keepEnv [0, 3, 4, 7, 8, 9, 45, 46, 47] [3, 4] e3 47 = some (.int .i64 k) := keepEnv_some n47 rfl rfl
      have q3 : keepHp [3, 4] H 3 = some (.vars [.int .i64 i]) := keepHp_in hH3 rfl
      have q4 : keepHp [3, 4] H 4 = some (.vars (encTy x)) := keepHp_in hH4 rfl
      have q6 : keepHp [3, 4] H 6 = none := keepHp_out rfl
      generalize keepEnv [0, 3, 4, 7, 8, 9, 45, 46, 47] [3, 4] e3 = e4 at k0 k3 k4 k7 k8 k9 k45 k46 k47
      generalize keepHp [3, 4] H = H4 at q3 q4 q6
      simp only [encTy] at q4
      refine Wp.seq (Wp_region ?_)
      simp -implicitDefEqProofs only [vm, pairUp, Nat.reduceEqDiff, Nat.reduceAdd, Nat.reduceLeDiff, reduceIte, k46, k47]
      by_cases hkl : k < x.fields.list.length
      · refine Wp.seq (Wp.condT (by simp -implicitDefEqProofs only [vm, pairUp, Nat.reduceEqDiff, Nat.reduceAdd, Nat.reduceLeDiff, reduceIte]; simp [hkl]) (Wp.skip ?_))
        simp -implicitDefEqProofs only [vm, pairUp, Nat.reduceEqDiff, Nat.reduceAdd, Nat.reduceLeDiff, reduceIte]
        have ia2 := iaD_nat (H := H4) (enc := encTF) (sz := 2) hkl rfl
        refine Wp.seq (Wp.block (Wp.seq (Wp_region ?_)))
        simp -implicitDefEqProofs only [vm, pairUp, Nat.reduceEqDiff, Nat.reduceAdd, Nat.reduceLeDiff, reduceIte, k45, k47, ia2, encTF, q6]
        generalize hf : x.fields.list[k] = f
        have hfk : OkField t.list.length x.fields.list k hkl ↔ (0 ≤ f.type ∧ f.type < t.list.length ∧ (0 < k → slt (x.fields.list[k - 1]).name f.name = true)) := by unfold OkField; rw [hf]
        refine Wp.seq (Wp_cutQ (fun e5 => e5 0 = some (slD encTy t) ∧ e5 3 = some (.box 3 0) ∧ e5 4 = some (.box 4 0) ∧ e5 7 = some (slD encTy t) ∧ e5 8 = some (.int .i64 (t.list.length : Nat)) ∧ e5 9 = some (.int .i64 i) ∧ e5 45 = some (slD encTF x.fields) ∧ e5 46 = some (.int .i64 (x.fields.list.length : Nat)) ∧ e5 47 = some (.int .i64 k) ∧ e5 77 = some (.bool (dec (¬ OkField t.list.length x.fields.list k hkl)))) (by rfl) ?_ ?_)
        · have dT : ¬ (0 ≤ f.type ∧ f.type < t.list.length ∧ (0 < k → slt (x.fields.list[k - 1]).name f.name = true)) → dec (¬ OkField t.list.length x.fields.list k hkl) = true := fun h => dec_true (fun h' => h (hfk.1 h'))
          have dF : (0 ≤ f.type ∧ f.type < t.list.length ∧ (0 < k → slt (x.fields.list[k - 1]).name f.name = true)) → dec (¬ OkField t.list.length x.fields.list k hkl) = false := fun h => dec_false (fun h' => h' (hfk.2 h))
          cases a1 : decide (f.type < 0)
          case true => simp -implicitDefEqProofs only [vm, pairUp, Nat.reduceEqDiff, Nat.reduceAdd, Nat.reduceLeDiff, reduceIte, a1, k0, k3, k4, k7, k8, k9, k45, k46, k47]; simp only [decide_eq_true_eq, decide_eq_false_iff_not] at a1; rw [dT (by omega)]
          cases a2 : decide (((t.list.length : Nat) : Int) ≤ f.type)
          case true => simp -implicitDefEqProofs only [vm, pairUp, Nat.reduceEqDiff, Nat.reduceAdd, Nat.reduceLeDiff, reduceIte, a1, a2, k0, k3, k4, k7, k8, k9, k45, k46, k47]; simp only [decide_eq_true_eq, decide_eq_false_iff_not] at a1 a2; rw [dT (by omega)]
          cases a3 : decide ((0 : Int) < (k : Nat))
          case false => simp -implicitDefEqProofs only [vm, pairUp, Nat.reduceEqDiff, Nat.reduceAdd, Nat.reduceLeDiff, reduceIte, a1, a2, a3, k0, k3, k4, k7, k8, k9, k45, k46, k47]; simp only [decide_eq_true_eq, decide_eq_false_iff_not] at a1 a2 a3; rw [dF ⟨by omega, by omega, fun h => by omega⟩]
          have hk0 : 0 < k := by simp only [decide_eq_true_eq] at a3; omega
          have hw1 : IntKind.wrap .i64 ((k : Nat) - 1 : Int) = ((k - 1 : Nat) : Int) := by
            have := x.fields.len_le
            have : x.fields.list.length ≤ 9223372036854775807 := this
            rw [wrap_in (by omega)]; omega
          have ia3 := fun H : Hp => iaD_nat (H := H) (enc := encTF) (x := x.fields) (sz := 2) (i := k - 1) (by omega) rfl
          have hkl1 : k - 1 < x.fields.list.length := by omega
          cases a4 : slt (x.fields.list[k - 1]).name f.name
          · have a4' := a4
            unfold slt at a4'
            simp -implicitDefEqProofs only [vm, pairUp, Nat.reduceEqDiff, Nat.reduceAdd, Nat.reduceLeDiff, reduceIte, a1, a2, a3, a4', k0, k3, k4, k7, k8, k9, k45, k46, k47, q4, hw1, ia3, encTF]
            simp only [decide_eq_true_eq, decide_eq_false_iff_not] at a1 a2 a3; rw [dT (fun h => by rw [h.2.2 hk0] at a4; cases a4)]
          · have a4' := a4
            unfold slt at a4'
            simp -implicitDefEqProofs only [vm, pairUp, Nat.reduceEqDiff, Nat.reduceAdd, Nat.reduceLeDiff, reduceIte, a1, a2, a3, a4', k0, k3, k4, k7, k8, k9, k45, k46, k47, q4, hw1, ia3, encTF]
            simp only [decide_eq_true_eq, decide_eq_false_iff_not] at a1 a2 a3; rw [dF ⟨by omega, by omega, fun _ => a4⟩]
        · rintro e5 ⟨r0, r3, r4, r7, r8, r9, r45, r46, r47, r77⟩
          simp -implicitDefEqProofs only [vm, pairUp, Nat.reduceEqDiff, Nat.reduceAdd, Nat.reduceLeDiff, reduceIte]
          refine Wp.cond r77 (fun hc => ?_) (fun hc => ?_)
          · refine Wp.seq (Wp_region ?_)
            simp -implicitDefEqProofs only [vm, pairUp, Nat.reduceEqDiff, Nat.reduceAdd, Nat.reduceLeDiff, reduceIte]
            refine Wp.ret ?_
            simp -implicitDefEqProofs only [vm, pairUp, Nat.reduceEqDiff, Nat.reduceAdd, Nat.reduceLeDiff, reduceIte]
            rw [dec_false (fun h => dec_iff.1 hc ((hok.1 (h.1 i hlt)).2.1 k hkl))]
          · have hfok : OkField t.list.length x.fields.list k hkl := Classical.byContradiction fun h => by rw [dec_true h] at hc; cases hc
            refine Wp.skip ?_
            simp -implicitDefEqProofs only [vm, pairUp, Nat.reduceEqDiff, Nat.reduceAdd, Nat.reduceLeDiff, reduceIte]
            have hw := wrap_nat (n := k) (by have := x.fields.len_le; omega)
            refine Wp_region ?_
            simp -implicitDefEqProofs only [vm, pairUp, Nat.reduceEqDiff, Nat.reduceAdd, Nat.reduceLeDiff, reduceIte, r47, hw]
            refine Round_normal ⟨x.fields.list.length - (k + 1), by omega, k + 1, by omega, rfl, r0, r3, r4, r7, r8, r9, r45, r46, rfl, q3, q4, fun j h hj => ?_⟩
            by_cases hjk : j = k
            · subst hjk; exact hfok
            · exact hfs j h (by omega)
      · have hke : k = x.fields.list.length := by omega
        subst hke
        refine Wp.seq (Wp.condF (by simp -implicitDefEqProofs only [vm, pairUp, Nat.reduceEqDiff, Nat.reduceAdd, Nat.reduceLeDiff, reduceIte]; simp [hkl]) (Wp.exit ?_))
        simp -implicitDefEqProofs only [vm, pairUp, Nat.reduceEqDiff, Nat.reduceAdd, Nat.reduceLeDiff, reduceIte]
        refine Wp.seq (Wp_region ?_)
        have hcall := anyOut_c x.elems i
        simp -implicitDefEqProofs only [vm, pairUp, Nat.reduceEqDiff, Nat.reduceAdd, Nat.reduceLeDiff, reduceIte, k4, k3, q3, q4, sh_TT, shTy, hcall]
        refine Wp.cond rfl (fun hc => ?_) (fun hc => ?_)
        · refine Wp.seq (Wp_region ?_)
          simp -implicitDefEqProofs only [vm, pairUp, Nat.reduceEqDiff, Nat.reduceAdd, Nat.reduceLeDiff, reduceIte]
          refine Wp.ret ?_
          simp -implicitDefEqProofs only [vm, pairUp, Nat.reduceEqDiff, Nat.reduceAdd, Nat.reduceLeDiff, reduceIte]
          obtain ⟨a, ha, hna⟩ := dec_iff.1 hc
          rw [dec_false (fun h => hna ((hok.1 (h.1 i hlt)).2.2 a ha))]
        · have hel : ∀ e ∈ x.elems.list, 0 ≤ e ∧ e < i := fun a ha => Classical.byContradiction fun h => by rw [dec_true ⟨a, ha, h⟩] at hc; cases hc
          refine Wp.skip ?_
          simp -implicitDefEqProofs only [vm, pairUp, Nat.reduceEqDiff, Nat.reduceAdd, Nat.reduceLeDiff, reduceIte]
          have hw := wrap_nat (n := i) (by omega)
          refine Wp_region ?_
          simp -implicitDefEqProofs only [vm, pairUp, Nat.reduceEqDiff, Nat.reduceAdd, Nat.reduceLeDiff, reduceIte, k9, hw]
          refine Round_normal ⟨hlt, k0, k7, k8, rfl, fun j h hj => ?_⟩
          by_cases hji : j = i
          · subst hji; exact hok.2 ⟨hkind, fun k hk => hfs k hk hk, hel⟩
          · exact hall j h (by omega)
  · have hie : i = t.list.length := by omega
    subst hie
    refine Wp.seq (Wp.condF (by simp -implicitDefEqProofs only [vm, pairUp, Nat.reduceEqDiff, Nat.reduceAdd, Nat.reduceLeDiff, reduceIte]; simp [hlt]) (Wp.exit ?_))
    simp -implicitDefEqProofs only [vm, pairUp, Nat.reduceEqDiff, Nat.reduceAdd, Nat.reduceLeDiff, reduceIte]
    refine Wp.seq (Wp_region ?_)
    simp -implicitDefEqProofs only [vm, pairUp, Nat.reduceEqDiff, Nat.reduceAdd, Nat.reduceLeDiff, reduceIte, k0]
    refine Wp.ret ?_
    simp -implicitDefEqProofs only [vm, pairUp, Nat.reduceEqDiff, Nat.reduceAdd, Nat.reduceLeDiff, reduceIte]
    by_cases h200 : t.list.length ≤ 200
    · rw [dec_true ⟨fun j h => hall j h h, h200⟩]; simp; omega
    · rw [dec_false (fun h => h200 h.2)]; simp; omega
end Go.VM
