/-
  store.Look.
-/
import Derived.Test.YtbkiekkconlebaaTySR4
import Derived.KernelRfl
set_option linter.all false
set_option linter.all false
set_option maxRecDepth 100000
set_option maxHeartbeats 4000000
namespace Go.VM
open Go Go.Sv

def va0 : Va := ⟨0, 0⟩
noncomputable def lookD (w : Option Va) : D := .tup [.agg (encVa (w.getD va0)), .bool w.isSome]
theorem rising_pr {n : Nat} {l : List Pr} (h : ∀ k (h : k < l.length), OkProp n l k h) : Rising Pr.name l := fun i hi => (h (i + 1) hi).2 (by omega)
theorem look_c (s : SlOf Ob) (hS : StoreP s.list) (v : Va) (name : ByteArray) (u : Unit) : (callL TT).pure 73 [slD encOb s, .agg (encVa v), .str name] u = some (lookD (look1 s.list v name), u) := by
  have p3 : ∀ a b c : D, partD true 3 [a, b, c] = some (.agg [a, b, c]) := fun _ _ _ => rfl
  have p2 : ∀ a b : D, partD true 2 [a, b] = some (.agg [a, b]) := fun _ _ => rfl
  have hb0 : setParts [D.int .i64 0, .int .i64 0] [] = some [D.int .i64 0, .int .i64 0] := rfl
  refine fn_of rfl rfl (by simp -implicitDefEqProofs only [vm, vs, pairUp, Nat.reduceEqDiff, Nat.reduceAdd, Nat.reduceLeDiff, reduceIte, encVa]) rfl rfl ?_
  unfold v73
  refine Wp.seq (Wp_region ?_)
  simp -implicitDefEqProofs only [vm, vs, pairUp, Nat.reduceEqDiff, Nat.reduceAdd, Nat.reduceLeDiff, reduceIte, encVa, hset_eq]
  refine Wp.seq (Wp.block (Wp.loopT (Inv := fun n e H _ => ∃ v' : Va, n = (if v'.kind = 4 then v'.n.toNat + 1 else 0) ∧ look1 s.list v' name = look1 s.list v name ∧ e 0 = some (slD encOb s) ∧ e 2 = some (.str name) ∧ e 4 = some (.box 4 0) ∧ e 6 = some (.box 6 0) ∧ H 4 = some (.vars [.int .i64 v'.kind, .int .i64 v'.n]) ∧ H 6 = some (.vars [.int .i64 0, .int .i64 0])) ?_ (n := if v.kind = 4 then v.n.toNat + 1 else 0) ⟨v, rfl, rfl, rfl, rfl, rfl, rfl, rfl, rfl⟩))
  rintro n e H g ⟨v', rfl, hlk, n0, n2, n4, n6, hH4, hH6⟩
  refine ⟨hOk_cons hH4 rfl (hOk_cons hH6 rfl rfl), ?_⟩
  have k0 : keepEnv [0, 2, 4, 6] [4, 6] e 0 = some (slD encOb s) := keepEnv_some n0 rfl okH_sl
  have k2 : keepEnv [0, 2, 4, 6] [4, 6] e 2 = some (.str name) := keepEnv_some n2 rfl rfl
  have k4 : keepEnv [0, 2, 4, 6] [4, 6] e 4 = some (.box 4 0) := keepEnv_some n4 rfl rfl
  have k6 : keepEnv [0, 2, 4, 6] [4, 6] e 6 = some (.box 6 0) := keepEnv_some n6 rfl rfl
  have q4 : keepHp [4, 6] H 4 = some (.vars [.int .i64 v'.kind, .int .i64 v'.n]) := keepHp_in hH4 rfl
  have q6 : keepHp [4, 6] H 6 = some (.vars [.int .i64 0, .int .i64 0]) := keepHp_in hH6 rfl
  have q8 : keepHp [4, 6] H 8 = none := keepHp_out rfl
  generalize keepEnv [0, 2, 4, 6] [4, 6] e = e' at k0 k2 k4 k6
  generalize keepHp [4, 6] H = H4 at q4 q6 q8
  have hrc : ∀ u, (callL TT).pure 68 [slD encOb s, .agg [.int .i64 v'.kind, .int .i64 v'.n]] u = some (.bool (dec (RightP s.list.length v')), u) := fun u => right_c s v' u
  refine Wp.seq (Wp.seq (Wp_region ?_))
  by_cases hv : v'.kind = 4 ∧ 0 ≤ v'.n ∧ v'.n < s.list.length
  · have hr : dec (RightP s.list.length v') = true := dec_true (by unfold RightP; omega)
    have hk4 : decide (v'.kind = 4) = true := by simp [hv.1]
    have hlt : v'.n.toNat < s.list.length := by omega
    simp -implicitDefEqProofs only [vm, vs, pairUp, Nat.reduceEqDiff, Nat.reduceAdd, Nat.reduceLeDiff, reduceIte, k0, k4, q4, List.drop_zero, hk4, p2, sh_TT, shTy, hrc, hr]
    refine Wp.condT (by simp -implicitDefEqProofs only [vm, vs, pairUp, Nat.reduceEqDiff, Nat.reduceAdd, Nat.reduceLeDiff, reduceIte]) (Wp.skip ?_)
    simp -implicitDefEqProofs only [vm, vs, pairUp, Nat.reduceEqDiff, Nat.reduceAdd, Nat.reduceLeDiff, reduceIte]
    have ia := fun H : Hp => iaD_sl (H := H) (enc := encOb) (x := s) (sz := 3) hv.2.1 hlt rfl
    have hlook := look_yes (name := name) hS hv hlt
    have hob := hS v'.n.toNat hlt
    generalize (s.list[v'.n.toNat]) = o at ia hlook hob
    have hris := rising_pr hob.1
    obtain ⟨k, found, hfc, ok⟩ := find_c o name hris
    simp only [encOb] at hfc
    have hfrz : ∀ H : Hp, frzL frz H [.agg [slD encPr o.props, .int .i64 o.proto.kind, .int .i64 o.proto.n], .str name] = some ([.agg [slD encPr o.props, .int .i64 o.proto.kind, .int .i64 o.proto.n], .str name], H) := fun H => by simp -implicitDefEqProofs only [vm, vs, pairUp, Nat.reduceEqDiff, Nat.reduceAdd, Nat.reduceLeDiff, reduceIte]
    obtain ⟨b1, b2⟩ := propGet_bs hris ok
    refine Wp.block (Wp.seq (Wp_region ?_))
    simp -implicitDefEqProofs only [vm, vs, pairUp, Nat.reduceEqDiff, Nat.reduceAdd, Nat.reduceLeDiff, reduceIte, k0, k4, q4, q8, List.drop_succ_cons, List.drop_zero, ia, encOb, p3, hset_eq, if_true]
    refine Wp.seq (Wp.seq (Wp_region ?_))
    simp -implicitDefEqProofs only [vm, vs, pairUp, Nat.reduceEqDiff, Nat.reduceAdd, Nat.reduceLeDiff, reduceIte, k2, hset_eq, if_true, List.drop_zero, p3, sh_TT, shTy, hfrz, hfc, List.getElem?_cons_zero, List.getElem?_cons_succ]
    refine Wp.seq (Wp_region ?_)
    simp -implicitDefEqProofs only [vm, vs, pairUp, Nat.reduceEqDiff, Nat.reduceAdd, Nat.reduceLeDiff, reduceIte]
    cases found with
    | true =>
      obtain ⟨hk, hpg⟩ := b1 rfl
      rw [hpg] at hlook
      simp only at hlook
      have ia2 := fun H : Hp => iaD_nat (H := H) (enc := encPr) (sz := 3) hk rfl
      generalize (o.props.list[k]) = p at ia2 hlook
      refine Wp.condT (by simp -implicitDefEqProofs only [vm, vs, pairUp, Nat.reduceEqDiff, Nat.reduceAdd, Nat.reduceLeDiff, reduceIte]) (Wp.seq (Wp_region ?_))
      simp -implicitDefEqProofs only [vm, vs, pairUp, Nat.reduceEqDiff, Nat.reduceAdd, Nat.reduceLeDiff, reduceIte, k6, hset_eq, if_true, if_false, Nat.reduceEqDiff, q6, List.drop_zero, List.drop_succ_cons, ia2, encPr, p2]
      refine Wp.ret ?_
      simp -implicitDefEqProofs only [vm, vs, pairUp, Nat.reduceEqDiff, Nat.reduceAdd, Nat.reduceLeDiff, reduceIte, k6, hset_eq, if_true, List.drop_zero, p2]
      rw [← hlk, hlook]
      rfl
    | false =>
      rw [b2 rfl] at hlook
      simp only at hlook
      refine Wp.condF (by simp -implicitDefEqProofs only [vm, vs, pairUp, Nat.reduceEqDiff, Nat.reduceAdd, Nat.reduceLeDiff, reduceIte]) (Wp.skip ?_)
      simp -implicitDefEqProofs only [vm, vs, pairUp, Nat.reduceEqDiff, Nat.reduceAdd, Nat.reduceLeDiff, reduceIte]
      refine Wp_region ?_
      simp -implicitDefEqProofs only [vm, vs, pairUp, Nat.reduceEqDiff, Nat.reduceAdd, Nat.reduceLeDiff, reduceIte, k4, hset_eq, if_true, if_false, Nat.reduceEqDiff, q4, List.drop_zero, List.drop_succ_cons, p2]
      refine Round_normal ⟨if o.proto.kind = 4 then o.proto.n.toNat + 1 else 0, ?_, o.proto, rfl, by rw [← hlk, hlook], k0, k2, k4, k6, Hp.set_same _ _ _, ?_⟩
      · rw [if_pos hv.1]
        rcases hob.2 with h | h
        · rw [if_neg (by omega)]; omega
        · rw [if_pos h.1]; omega
      · rw [Hp.set_other _ _ (by decide), Hp.set_other _ _ (by decide), Hp.set_other _ _ (by decide)]; exact q6
  · rw [look_no hv] at hlk
    have hend : ∀ e2 : Env, e2 6 = some (.box 6 0) → inBlock 0 (andThen (callL TT) (.seq (.region [⟨some 39, .build [(.int .i64 0), (.int .i64 0)] [], none, []⟩,
  ⟨none, .store 2 (.t 6) (.t 39), none, [0, 0]⟩,
  ⟨some 7, .mov (.c (.bool false)), none, [1, 0, 1]⟩] false)
 .ret) (Ends [.cell 6 true 2, .tmp 7] (lookD (look1 s.list v name)))) (.exit 0) ⟨e2, H4, g, 0⟩ := fun e2 h6 => by
      simp only [inBlock_exit, if_true, andThen_normal]
      refine Wp.seq (Wp_region ?_)
      simp -implicitDefEqProofs only [vm, vs, pairUp, Nat.reduceEqDiff, Nat.reduceAdd, Nat.reduceLeDiff, reduceIte, h6, hb0, q6]
      refine Wp.ret ?_
      simp -implicitDefEqProofs only [vm, vs, pairUp, Nat.reduceEqDiff, Nat.reduceAdd, Nat.reduceLeDiff, reduceIte, h6, hset_eq, if_true, List.drop_zero, p2]
      rw [← hlk]
      rfl
    cases hk4 : decide (v'.kind = 4) with
    | false =>
      simp -implicitDefEqProofs only [vm, vs, pairUp, Nat.reduceEqDiff, Nat.reduceAdd, Nat.reduceLeDiff, reduceIte, k0, k4, q4, List.drop_zero, hk4, p2]
      refine Wp.condF (by simp -implicitDefEqProofs only [vm, vs, pairUp, Nat.reduceEqDiff, Nat.reduceAdd, Nat.reduceLeDiff, reduceIte]) (Wp.exit ?_)
      simp -implicitDefEqProofs only [vm, vs, pairUp, Nat.reduceEqDiff, Nat.reduceAdd, Nat.reduceLeDiff, reduceIte]
      exact hend _ k6
    | true =>
      have hr : dec (RightP s.list.length v') = false := dec_false (by simp only [decide_eq_true_eq] at hk4; unfold RightP; omega)
      simp -implicitDefEqProofs only [vm, vs, pairUp, Nat.reduceEqDiff, Nat.reduceAdd, Nat.reduceLeDiff, reduceIte, k0, k4, q4, List.drop_zero, hk4, p2, sh_TT, shTy, hrc, hr]
      refine Wp.condF (by simp -implicitDefEqProofs only [vm, vs, pairUp, Nat.reduceEqDiff, Nat.reduceAdd, Nat.reduceLeDiff, reduceIte]) (Wp.exit ?_)
      simp -implicitDefEqProofs only [vm, vs, pairUp, Nat.reduceEqDiff, Nat.reduceAdd, Nat.reduceLeDiff, reduceIte]
      exact hend _ k6
end Go.VM
