/-
  types.Sub, types.Equal.
-/
import Derived.Test.YtbkiekkconlebaaTyS4
import Derived.KernelRfl
set_option linter.all false
set_option linter.all false
set_option maxRecDepth 100000
namespace Go.VM
open Go Go.Sv

def FewP (t : List Ty) : Prop := ∀ i (h : i < t.length), (t[i]).fields.list.length ≤ 10 ∧ (t[i]).elems.list.length ≤ 10
def InT (t : List Ty) (a : Int) : Prop := 0 ≤ a ∧ a < t.length
def SubP (t : List Ty) (a b : Int) : Prop := MayP t ∧ InT t a ∧ InT t b ∧ (ruleT t).G [a, b]
theorem place_dec (t : SlOf Ty) (n : Int) : (decide (0 ≤ n) && decide (n < t.list.length)) = dec (InT t.list n) := by
  by_cases h : InT t.list n
  · rw [dec_true h]; simp [h.1, h.2]
  · rw [dec_false h]
    unfold InT at h
    simp only [Bool.and_eq_false_iff, decide_eq_false_iff_not]
    omega
theorem place_d (t : SlOf Ty) (n : Int) (u : Unit) : (callL TT).pure 57 [slD encTy t, .int .i64 n] u = some (.bool (dec (InT t.list n)), u) := by rw [place_c, place_dec]

theorem sub_c (t : SlOf Ty) (hs : FewP t.list) (a b : Int) (u : Unit) : (callL TT).pure 17 [slD encTy t, .int .i64 a, .int .i64 b] u = some (.bool (dec (SubP t.list a b)), u) := by
  refine fn_of rfl rfl (by simp -implicitDefEqProofs only [vm, vs, pairUp, Nat.reduceEqDiff, Nat.reduceAdd, Nat.reduceLeDiff, reduceIte]) rfl rfl ?_
  unfold v17
  refine Wp.seq (Wp_region ?_)
  simp -implicitDefEqProofs only [vm, vs, pairUp, Nat.reduceEqDiff, Nat.reduceAdd, Nat.reduceLeDiff, reduceIte, cellOk_sl]
  cases a1 : dec (MayP t.list) with
  | false =>
    refine Wp.seq (Wp.seq (Wp_region ?_))
    simp -implicitDefEqProofs only [vm, vs, pairUp, Nat.reduceEqDiff, Nat.reduceAdd, Nat.reduceLeDiff, reduceIte, sh_TT, shTy, may_c, a1, hset_eq, if_true]
    refine Wp.condT rfl (Wp.seq (Wp_region ?_))
    simp -implicitDefEqProofs only [vm, vs, pairUp, Nat.reduceEqDiff, Nat.reduceAdd, Nat.reduceLeDiff, reduceIte]
    refine Wp.ret ?_
    simp -implicitDefEqProofs only [vm, vs, pairUp, Nat.reduceEqDiff, Nat.reduceAdd, Nat.reduceLeDiff, reduceIte]
    have h1 : ¬ MayP t.list := fun h => by rw [dec_true h] at a1; cases a1
    rw [dec_false (fun h : SubP t.list a b => h1 h.1)]
  | true =>
  cases a2 : dec (InT t.list a) with
  | false =>
    refine Wp.seq (Wp.seq (Wp_region ?_))
    simp -implicitDefEqProofs only [vm, vs, pairUp, Nat.reduceEqDiff, Nat.reduceAdd, Nat.reduceLeDiff, reduceIte, sh_TT, shTy, may_c, place_d, a1, a2, hset_eq, if_true]
    refine Wp.condT rfl (Wp.seq (Wp_region ?_))
    simp -implicitDefEqProofs only [vm, vs, pairUp, Nat.reduceEqDiff, Nat.reduceAdd, Nat.reduceLeDiff, reduceIte]
    refine Wp.ret ?_
    simp -implicitDefEqProofs only [vm, vs, pairUp, Nat.reduceEqDiff, Nat.reduceAdd, Nat.reduceLeDiff, reduceIte]
    have h1 : ¬ InT t.list a := fun h => by rw [dec_true h] at a2; cases a2
    rw [dec_false (fun h : SubP t.list a b => h1 h.2.1)]
  | true =>
  cases a3 : dec (InT t.list b) with
  | false =>
    refine Wp.seq (Wp.seq (Wp_region ?_))
    simp -implicitDefEqProofs only [vm, vs, pairUp, Nat.reduceEqDiff, Nat.reduceAdd, Nat.reduceLeDiff, reduceIte, sh_TT, shTy, may_c, place_d, a1, a2, a3, hset_eq, if_true]
    refine Wp.condT rfl (Wp.seq (Wp_region ?_))
    simp -implicitDefEqProofs only [vm, vs, pairUp, Nat.reduceEqDiff, Nat.reduceAdd, Nat.reduceLeDiff, reduceIte]
    refine Wp.ret ?_
    simp -implicitDefEqProofs only [vm, vs, pairUp, Nat.reduceEqDiff, Nat.reduceAdd, Nat.reduceLeDiff, reduceIte]
    have h1 : ¬ InT t.list b := fun h => by rw [dec_true h] at a3; cases a3
    rw [dec_false (fun h : SubP t.list a b => h1 h.2.2.1)]
  | true =>
    have hm := dec_iff.1 a1
    have hia := dec_iff.1 a2
    have hib := dec_iff.1 a3
    have hq : ([a, b] : K) ∈ (ruleT t.list).U := mem_pairsT.2 ⟨a.toNat, b.toNat, by have := hia.1; have := hia.2; omega, by have := hib.1; have := hib.2; omega, by rw [Int.toNat_of_nonneg hia.1, Int.toNat_of_nonneg hib.1]⟩
    have hUl : ∀ k ∈ (ruleT t.list).U, k.length = 2 := fun k hk => by
      obtain ⟨i, j, _, _, rfl⟩ := mem_pairsT.1 hk
      rfl
    have hroom : 16 * ((ruleT t.list).U.length * 10240) ≤ roomBytes := by
      show 16 * ((pairsT t.list.length).length * 10240) ≤ roomBytes
      rw [pairsT_len]
      have := hm.2
      have h2 : t.list.length * t.list.length ≤ 200 * 200 := Nat.mul_le_mul this this
      have : roomBytes = 140737488355328 := rfl
      omega
    obtain ⟨r, H', g', c1, rfl⟩ := solve_ok (T := TT) (B := 4096) (fS := 58) (H := Hp.set (fun _ => none) 3 (.vars [slD encTy t])) holdT2 (ruleT_ok hm hs) (sub_rule (t := t) (Nat.le_refl _) hm) rfl rfl hq hUl (fun j hj => by rw [Hp.set_other _ _ (by omega)]) (Hp.set_same _ _ _) (by omega) hroom
    refine Wp.seq (Wp.seq (Wp_region ?_))
    simp -implicitDefEqProofs only [vm, vs, pairUp, Nat.reduceEqDiff, Nat.reduceAdd, Nat.reduceLeDiff, reduceIte, sh_TT, shTy, may_c, place_d, a1, a2, a3, hset_eq, if_true]
    refine Wp.condF rfl (Wp.skip ?_)
    simp -implicitDefEqProofs only [vm, vs, pairUp, Nat.reduceEqDiff, Nat.reduceAdd, Nat.reduceLeDiff, reduceIte]
    refine Wp.seq (Wp_region ?_)
    have f4096 : roomKeys = 4096 := rfl
    simp -implicitDefEqProofs only [vm, vs, pairUp, Nat.reduceEqDiff, Nat.reduceAdd, Nat.reduceLeDiff, reduceIte, sh_TT, shTy, set2, f4096, List.append_nil, c1]
    refine Wp.ret ?_
    simp -implicitDefEqProofs only [vm, vs, pairUp, Nat.reduceEqDiff, Nat.reduceAdd, Nat.reduceLeDiff, reduceIte]
    rw [dec_congr (show SubP t.list a b ↔ (ruleT t.list).G [a, b] from ⟨fun h => h.2.2.2, fun h => ⟨hm, hia, hib, h⟩⟩)]
end Go.VM
