/-
  TypesTells: the plain law.
-/
import Derived.Test.YtbkiekkconlebaaTyEnt
import Derived.Test.YtbkiekkconlebaaTyK
import Derived.Test.YtbkiekkconlebaaTyS7
set_option linter.all false
set_option linter.all false
set_option maxRecDepth 100000
namespace Go.VM
open Go Go.Proofs Go.Sv
theorem is3_vf : vfuncOf Try.prog (annL []) Try.f3 = some v3 := by
  obtain ⟨fn, h1, _, h3⟩ := is3
  have : fn = Try.f3 := by
    have := Try.func3
    rw [this] at h1
    exact (Option.some.inj h1).symm
  rw [← this]; exact h3
theorem equalR_c (t : SlOf Ty) (hs : FewP t.list) (a b : Int) (u : Unit) : (callL TT).pure 20 [slD encTy t, .int .i64 a, .int .i64 b] u = some (.bool (dec (SubP t.list a b ∧ SubP t.list b a)), u) := by
  refine fn_of rfl rfl (by simp -implicitDefEqProofs only [vm, pairUp, Nat.reduceEqDiff, Nat.reduceAdd, Nat.reduceLeDiff, reduceIte]) rfl rfl ?_
  unfold v20
  refine Wp.seq (Wp_region ?_)
  simp -implicitDefEqProofs only [vm, pairUp, Nat.reduceEqDiff, Nat.reduceAdd, Nat.reduceLeDiff, reduceIte]
  cases a1 : dec (SubP t.list a b) with
  | false =>
    refine Wp.seq (Wp_region ?_)
    simp -implicitDefEqProofs only [vm, pairUp, Nat.reduceEqDiff, Nat.reduceAdd, Nat.reduceLeDiff, reduceIte, sh_TT, shTy, subR_c t hs, a1]
    refine Wp.ret ?_
    simp -implicitDefEqProofs only [vm, pairUp, Nat.reduceEqDiff, Nat.reduceAdd, Nat.reduceLeDiff, reduceIte]
    rw [dec_false (fun h : SubP t.list a b ∧ SubP t.list b a => by rw [dec_true h.1] at a1; cases a1)]
  | true =>
    refine Wp.seq (Wp_region ?_)
    simp -implicitDefEqProofs only [vm, pairUp, Nat.reduceEqDiff, Nat.reduceAdd, Nat.reduceLeDiff, reduceIte, sh_TT, shTy, subR_c t hs, a1]
    refine Wp.ret ?_
    simp -implicitDefEqProofs only [vm, pairUp, Nat.reduceEqDiff, Nat.reduceAdd, Nat.reduceLeDiff, reduceIte]
    rw [dec_congr (show SubP t.list b a ↔ SubP t.list a b ∧ SubP t.list b a from ⟨fun h => ⟨dec_iff.1 a1, h⟩, fun h => h.2⟩)]
theorem bin_beq {a b : Bool} : binD .eql .bool (.bool a) (.bool b) = some (.bool (a == b)) := rfl
theorem bin_bne {a b : Bool} : binD .neq .bool (.bool a) (.bool b) = some (.bool (a != b)) := rfl
theorem fixed_u (u : Unit) : (callL TT).pure 14 [] u = some (.bool true, u) := by cases u; exact fixed_true
theorem law_of {T : Tab Unit} {vf : VFunc} {ds : List D} {r : D} (ha : ds.all D.plain = true) (hl : Nat.ble ds.length vf.ntmps = true) (hr : r.plain = true)
    (h : Wp (callL T) vf.body ⟨args0 ds, fun _ => none, (roomKeys, ()), 0⟩ (Ends vf.results r)) : bodyD (callL T) lpL vf ds () = some (r, ()) := by
  refine body_of ha (Nat.le_of_ble_eq_true hl) (h.mono ?_)
  intro ex st' hE
  exact ⟨hE.1, hE.2, hr, rfl⟩
theorem TypesTells_pure (t : SlOf Ty) (a b : Int) : bodyD (callL TT) lpL v3 [slD encTy t, .int .i64 a, .int .i64 b] () = some (.bool true, ()) := by
  refine law_of (by simp -implicitDefEqProofs only [vm, pairUp, Nat.reduceEqDiff, Nat.reduceAdd, Nat.reduceLeDiff, reduceIte]) rfl rfl ?_
  unfold v3
  refine Wp.seq (Wp_region ?_)
  simp -implicitDefEqProofs only [vm, pairUp, Nat.reduceEqDiff, Nat.reduceAdd, Nat.reduceLeDiff, reduceIte]
  refine Wp.seq (Wp.seq (Wp_region ?_))
  simp -implicitDefEqProofs only [vm, pairUp, Nat.reduceEqDiff, Nat.reduceAdd, Nat.reduceLeDiff, reduceIte, sh_TT, shTy, small_c]
  cases a1 : dec (SmallP t.list) with
  | false =>
    refine Wp.condT rfl (Wp.seq (Wp_region ?_))
    simp -implicitDefEqProofs only [vm, pairUp, Nat.reduceEqDiff, Nat.reduceAdd, Nat.reduceLeDiff, reduceIte, sh_TT, shTy, fixed_u]
    refine Wp.ret ?_
    simp -implicitDefEqProofs only [vm, pairUp, Nat.reduceEqDiff, Nat.reduceAdd, Nat.reduceLeDiff, reduceIte]
  | true =>
    have hs : FewP t.list := (dec_iff.1 a1).1
    refine Wp.condF rfl (Wp.skip ?_)
    simp -implicitDefEqProofs only [vm, pairUp, Nat.reduceEqDiff, Nat.reduceAdd, Nat.reduceLeDiff, reduceIte]
    refine Wp.seq (Wp_region ?_)
    simp -implicitDefEqProofs only [vm, pairUp, Nat.reduceEqDiff, Nat.reduceAdd, Nat.reduceLeDiff, reduceIte, sh_TT, shTy, fixed_u, may_c, mayR_c, sub_c t hs, subR_c t hs, equal_c t hs, equalR_c t hs, bin_beq, BEq.rfl]
    refine Wp.ret ?_
    simp -implicitDefEqProofs only [vm, pairUp, Nat.reduceEqDiff, Nat.reduceAdd, Nat.reduceLeDiff, reduceIte]
end Go.VM
