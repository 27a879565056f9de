/-
  types.In.
-/
import Derived.Test.YtbkiekkconlebaaTySI3
import Derived.KernelRfl
set_option linter.all false
set_option linter.all false
set_option maxRecDepth 100000
set_option maxHeartbeats 4000000
namespace Go.VM
open Go Go.Sv

def InP (t : List Ty) (s : List Ob) (v : Va) (a : Int) : Prop := MayP t ∧ StoreP s ∧ RightP s.length v ∧ InT t a ∧ (ruleI t s v).G (keyV v a)
theorem in_c (t : SlOf Ty) (s : SlOf Ob) (hs : FewP t.list) (hsm : SmallS s.list) (v : Va) (a : Int) (u : Unit) : (callL TT).pure 23 [slD encTy t, slD encOb s, .agg (encVa v), .int .i64 a] u = some (.bool (dec (InP t.list s.list v a)), u) := by
  have p2 : ∀ a b : D, partD true 2 [a, b] = some (.agg [a, b]) := fun _ _ => rfl
  have hrc : ∀ u, (callL TT).pure 68 [slD encOb s, .agg [.int .i64 v.kind, .int .i64 v.n]] u = some (.bool (dec (RightP s.list.length v)), u) := fun u => right_c s v u
  refine fn_of rfl rfl (by simp -implicitDefEqProofs only [vm, vs, pairUp, Nat.reduceEqDiff, Nat.reduceAdd, Nat.reduceLeDiff, reduceIte, encVa]) rfl rfl ?_
  unfold v23
  refine Wp.seq (Wp_region ?_)
  simp -implicitDefEqProofs only [vm, vs, pairUp, Nat.reduceEqDiff, Nat.reduceAdd, Nat.reduceLeDiff, reduceIte, cellOk_sl, encVa, hset_eq, Nat.reduceEqDiff, if_false]
  cases a1 : dec (MayP t.list) with
  | false =>
    refine Wp.seq (Wp.seq (Wp_region ?_))
    simp -implicitDefEqProofs only [vm, vs, pairUp, Nat.reduceEqDiff, Nat.reduceAdd, Nat.reduceLeDiff, reduceIte, sh_TT, shTy, may_c, a1, hset_eq, if_true, Nat.reduceEqDiff, if_false, List.drop_zero]
    refine Wp.condT rfl (Wp.seq (Wp_region ?_))
    simp -implicitDefEqProofs only [vm, vs, pairUp, Nat.reduceEqDiff, Nat.reduceAdd, Nat.reduceLeDiff, reduceIte]
    refine Wp.ret ?_
    simp -implicitDefEqProofs only [vm, vs, pairUp, Nat.reduceEqDiff, Nat.reduceAdd, Nat.reduceLeDiff, reduceIte]
    rw [dec_false (fun h : InP t.list s.list v a => by rw [dec_true h.1] at a1; cases a1)]
  | true =>
  cases a2 : dec (StoreP s.list) with
  | false =>
    refine Wp.seq (Wp.seq (Wp_region ?_))
    simp -implicitDefEqProofs only [vm, vs, pairUp, Nat.reduceEqDiff, Nat.reduceAdd, Nat.reduceLeDiff, reduceIte, sh_TT, shTy, may_c, storeMay_c, a1, a2, hset_eq, if_true, Nat.reduceEqDiff, if_false, List.drop_zero]
    refine Wp.condT rfl (Wp.seq (Wp_region ?_))
    simp -implicitDefEqProofs only [vm, vs, pairUp, Nat.reduceEqDiff, Nat.reduceAdd, Nat.reduceLeDiff, reduceIte]
    refine Wp.ret ?_
    simp -implicitDefEqProofs only [vm, vs, pairUp, Nat.reduceEqDiff, Nat.reduceAdd, Nat.reduceLeDiff, reduceIte]
    rw [dec_false (fun h : InP t.list s.list v a => by rw [dec_true h.2.1] at a2; cases a2)]
  | true =>
  cases a3 : dec (RightP s.list.length v) with
  | false =>
    refine Wp.seq (Wp.seq (Wp_region ?_))
    simp -implicitDefEqProofs only [vm, vs, pairUp, Nat.reduceEqDiff, Nat.reduceAdd, Nat.reduceLeDiff, reduceIte, sh_TT, shTy, may_c, storeMay_c, hrc, p2, a1, a2, a3, hset_eq, if_true, Nat.reduceEqDiff, if_false, List.drop_zero]
    refine Wp.condT rfl (Wp.seq (Wp_region ?_))
    simp -implicitDefEqProofs only [vm, vs, pairUp, Nat.reduceEqDiff, Nat.reduceAdd, Nat.reduceLeDiff, reduceIte]
    refine Wp.ret ?_
    simp -implicitDefEqProofs only [vm, vs, pairUp, Nat.reduceEqDiff, Nat.reduceAdd, Nat.reduceLeDiff, reduceIte]
    rw [dec_false (fun h : InP t.list s.list v a => by rw [dec_true h.2.2.1] at a3; cases a3)]
  | true =>
  cases a4 : dec (InT t.list a) with
  | false =>
    refine Wp.seq (Wp.seq (Wp_region ?_))
    simp -implicitDefEqProofs only [vm, vs, pairUp, Nat.reduceEqDiff, Nat.reduceAdd, Nat.reduceLeDiff, reduceIte, sh_TT, shTy, may_c, storeMay_c, hrc, place_d, p2, a1, a2, a3, a4, hset_eq, if_true, Nat.reduceEqDiff, if_false, List.drop_zero]
    refine Wp.condT rfl (Wp.seq (Wp_region ?_))
    simp -implicitDefEqProofs only [vm, vs, pairUp, Nat.reduceEqDiff, Nat.reduceAdd, Nat.reduceLeDiff, reduceIte]
    refine Wp.ret ?_
    simp -implicitDefEqProofs only [vm, vs, pairUp, Nat.reduceEqDiff, Nat.reduceAdd, Nat.reduceLeDiff, reduceIte]
    rw [dec_false (fun h : InP t.list s.list v a => by rw [dec_true h.2.2.2.1] at a4; cases a4)]
  | true =>
    have hm := dec_iff.1 a1
    have hS := dec_iff.1 a2
    have hR := dec_iff.1 a3
    have hia := dec_iff.1 a4
    have hq : keyV v a ∈ (ruleI t.list s.list v).U := mem_dedup.2 (mem_keysI.2 ⟨v, by simp [vals], a.toNat, by have := hia.1; have := hia.2; omega, by rw [Int.toNat_of_nonneg hia.1]⟩)
    have hUl : ∀ k ∈ (ruleI t.list s.list v).U, k.length = 3 := fun k hk => by
      obtain ⟨w, _, i, _, rfl⟩ := mem_keysI.1 (mem_dedup.1 hk)
      rfl
    have hroom : 24 * ((ruleI t.list s.list v).U.length * 10240) ≤ roomBytes := by
      have h1 : (ruleI t.list s.list v).U.length ≤ 161 * 200 := keysI_len hsm hm.2
      have : roomBytes = 140737488355328 := rfl
      omega
    have m0 : ∀ k : Int, keyOk (.one .i) (.int .i64 k) = true := fun k => by simp [keyOk, keyCmp, binD.eq1]
    have m1 : mapPut (.one .i) (.int .i64 1) (.int .i64 0) [] = some [((.int .i64 1 : D), (.int .i64 0 : D))] := rfl
    have m2 : mapPut (.one .i) (.int .i64 2) (.int .i64 1) [((.int .i64 1 : D), (.int .i64 0 : D))] = some [(.int .i64 1, .int .i64 0), (.int .i64 2, .int .i64 1)] := rfl
    have m3 : mapPut (.one .i) (.int .i64 3) (.int .i64 2) [((.int .i64 1 : D), (.int .i64 0 : D)), (.int .i64 2, .int .i64 1)] = some [(.int .i64 1, .int .i64 0), (.int .i64 2, .int .i64 1), (.int .i64 3, .int .i64 2)] := rfl
    have m4 : mapPut (.one .i) (.int .i64 4) (.int .i64 4) [((.int .i64 1 : D), (.int .i64 0 : D)), (.int .i64 2, .int .i64 1), (.int .i64 3, .int .i64 2)] = some kmap := rfl
    refine Wp.seq (Wp.seq (Wp_region ?_))
    simp -implicitDefEqProofs only [vm, vs, pairUp, Nat.reduceEqDiff, Nat.reduceAdd, Nat.reduceLeDiff, reduceIte, sh_TT, shTy, may_c, storeMay_c, hrc, place_d, p2, a1, a2, a3, a4, hset_eq, if_true, Nat.reduceEqDiff, if_false, List.drop_zero]
    refine Wp.condF rfl (Wp.skip ?_)
    simp -implicitDefEqProofs only [vm, vs, pairUp, Nat.reduceEqDiff, Nat.reduceAdd, Nat.reduceLeDiff, reduceIte]
    refine Wp.seq (Wp_region ?_)
    simp -implicitDefEqProofs only [vm, vs, pairUp, Nat.reduceEqDiff, Nat.reduceAdd, Nat.reduceLeDiff, reduceIte, hset_eq, Nat.reduceEqDiff, if_true, if_false, m0, m1, m2, m3, m4]
    generalize hH2 : Hp.set _ 9 (HC.vars [.mp 30]) = H2
    have c4 : H2 4 = some (.vars [slD encTy t]) := by rw [← hH2]; simp [hset_eq]
    have c5 : H2 5 = some (.vars [slD encOb s]) := by rw [← hH2]; simp [hset_eq]
    have c6 : H2 6 = some (.vars [.int .i64 v.kind, .int .i64 v.n]) := by rw [← hH2]; simp [hset_eq]
    have c9 : H2 9 = some (.vars [.mp 30]) := by rw [← hH2]; simp [hset_eq]
    have c30 : H2 30 = some (.mp kmap) := by rw [← hH2]; simp [hset_eq]
    have hd : Dom H2 4096 := fun j hj => by
      rw [← hH2]
      simp only [hset_eq]
      repeat rw [if_neg (by omega)]
    obtain ⟨r, H', g', c1, rfl⟩ := solve_ok (T := TT) (B := 4096) (fS := 69) (H := H2) holdT3 (ruleI_ok (v := v) hm hs hS) (in_rule (t := t) (s := s) (v0 := v) (Nat.le_refl _) hm hS) rfl rfl hq hUl hd ⟨c4, c9, c5, c30⟩ (by omega) hroom
    simp only [encK] at c1
    refine Wp.seq (Wp_region ?_)
    have f4096 : roomKeys = 4096 := rfl
    simp -implicitDefEqProofs only [vm, vs, pairUp, Nat.reduceEqDiff, Nat.reduceAdd, Nat.reduceLeDiff, reduceIte, sh_TT, shTy, c6, p2, set3, f4096, List.drop_zero, List.append_nil, c1]
    refine Wp.ret ?_
    simp -implicitDefEqProofs only [vm, vs, pairUp, Nat.reduceEqDiff, Nat.reduceAdd, Nat.reduceLeDiff, reduceIte]
    rw [dec_congr (show InP t.list s.list v a ↔ (ruleI t.list s.list v).G (keyV v a) from ⟨fun h => h.2.2.2.2, fun h => ⟨hm, hS, hR, hia, h⟩⟩)]
end Go.VM
