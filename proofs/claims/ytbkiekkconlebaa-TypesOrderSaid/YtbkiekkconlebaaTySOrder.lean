/-
  TypesOrder: the plain law.
-/
import Derived.Test.YtbkiekkconlebaaTyTells
import Derived.Test.YtbkiekkconlebaaTyS8
set_option linter.all false
set_option linter.all false
set_option maxRecDepth 100000
set_option maxHeartbeats 4000000
namespace Go.VM
open Go Go.Proofs Go.Sv
theorem is4_vf : vfuncOf Try.prog (annL []) Try.f4 = some v4 := by
  obtain ⟨fn, h1, _, h3⟩ := is4
  have : fn = Try.f4 := by
    have := Try.func4
    rw [this] at h1
    exact (Option.some.inj h1).symm
  rw [← this]; exact h3
theorem okWide_array {P : Program} {w : World} {r : Reach} {base : Nat} {t : TypeId} {v : Value} {n : Nat} {e : TypeId} (ht : P.underlying t = some (.array n e)) (h : Value.okWide P w r base t v) : ∃ cs, v = .agg cs ∧ cs.size = P.cellsOf t := by
  simp only [Value.okWide, ht] at h
  obtain ⟨cs, h1, h2, _⟩ := h
  exact ⟨cs, h1, h2⟩
section
variable {G : Type} {pc : Pc G} {dst : Option Nat} {e : Env} {H : Hp} {g : Nat × G}
def iaAO (len sz : Nat) (x i : Option D) : Option D := x.bind fun d => (i.bind natIdx).bind fun n =>
  if 0 ≤ n.2 ∧ n.2 < (len : Int) then match d with
    | .ref cs => some (.ref (cs.drop (n.2.toNat * sz)))
    | .box k o => some (.box k (o + n.2.toNat * sz))
    | _ => none
  else none
theorem act_iaddrA {len sz : Nat} {x i : Opd} : act pc dst (.iaddrA len sz x i) e H g = okO (iaAO len sz (x.ev e) (i.ev e)) H g := by
  simp only [act, okO, iaAO]
  cases x.ev e with
  | none => rfl
  | some d =>
    cases (i.ev e).bind natIdx with
    | none => rfl
    | some n =>
      simp only [Option.bind_some]
      split
      · cases d <;> rfl
      · rfl
theorem iaAO_0 {k : Nat} : iaAO 3 1 (some (.box k 0)) (some (.int .i64 0)) = some (.box k 0) := rfl
theorem iaAO_1 {k : Nat} : iaAO 3 1 (some (.box k 0)) (some (.int .i64 1)) = some (.box k 1) := rfl
theorem iaAO_2 {k : Nat} : iaAO 3 1 (some (.box k 0)) (some (.int .i64 2)) = some (.box k 2) := rfl
end
theorem sub_refl {t : List Ty} {a : Int} (hm : MayP t) (h : InT t a) : SubP t a a := ⟨hm, h, h, G_refl hm h⟩
theorem sub_trans {t : List Ty} {a b c : Int} (hs : FewP t) (h1 : SubP t a b) (h2 : SubP t b c) : SubP t a c := ⟨h1.1, h1.2.1, h2.2.2.1, G_trans (ruleT_ok h1.1 hs) h1.1 h1.2.2.2 h2.2.2.2⟩
theorem TypesOrder_pure (t : SlOf Ty) (l : { l : List Int // l.length = 3 }) : bodyD (callL TT) lpL v4 [slD encTy t, .agg (l.1.flatMap encI)] () = some (.bool true, ()) := by
  obtain ⟨l, hl⟩ := l
  match l, hl with
  | [a, b, c], _ =>
  show bodyD (callL TT) lpL v4 [slD encTy t, .agg [.int .i64 a, .int .i64 b, .int .i64 c]] () = some (.bool true, ())
  refine law_of (by simp -implicitDefEqProofs only [vm, vs, pairUp, Nat.reduceEqDiff, Nat.reduceAdd, Nat.reduceLeDiff, reduceIte]) rfl rfl ?_
  unfold v4
  refine Wp.seq (Wp_region ?_)
  simp -implicitDefEqProofs only [vm, vs, pairUp, Nat.reduceEqDiff, Nat.reduceAdd, Nat.reduceLeDiff, reduceIte]
  refine Wp.seq (Wp_region ?_)
  simp -implicitDefEqProofs only [vm, vs, pairUp, Nat.reduceEqDiff, Nat.reduceAdd, Nat.reduceLeDiff, reduceIte]
  refine Wp.seq (Wp_effs (by kernel_rfl) (by simp -implicitDefEqProofs only [vm, vs, pairUp, Nat.reduceEqDiff, Nat.reduceAdd, Nat.reduceLeDiff, reduceIte, act_iaddrA, iaAO_0, iaAO_1, iaAO_2, hset_eq, List.drop_succ_cons, List.drop_zero]; rfl) (by kernel_rfl) ?_)
  simp only [andThen_normal]
  cases x0 : dec (SmallP t.list)
  · refine Wp.seq (Wp.seq (Wp_region ?_))
    simp -implicitDefEqProofs only [vm, vs, pairUp, Nat.reduceEqDiff, Nat.reduceAdd, Nat.reduceLeDiff, reduceIte, sh_TT, shTy, fixed_u, small_c, mayR_c, ge_iff_le, x0]
    refine Wp.condT rfl (Wp.seq (Wp_region ?_))
    simp -implicitDefEqProofs only [vm, vs, pairUp, Nat.reduceEqDiff, Nat.reduceAdd, Nat.reduceLeDiff, reduceIte, sh_TT, shTy, fixed_u]
    refine Wp.ret ?_
    simp -implicitDefEqProofs only [vm, vs, pairUp, Nat.reduceEqDiff, Nat.reduceAdd, Nat.reduceLeDiff, reduceIte]
  cases x1 : dec (MayP t.list)
  · refine Wp.seq (Wp.seq (Wp_region ?_))
    simp -implicitDefEqProofs only [vm, vs, pairUp, Nat.reduceEqDiff, Nat.reduceAdd, Nat.reduceLeDiff, reduceIte, sh_TT, shTy, fixed_u, small_c, mayR_c, ge_iff_le, x0, x1]
    refine Wp.condT rfl (Wp.seq (Wp_region ?_))
    simp -implicitDefEqProofs only [vm, vs, pairUp, Nat.reduceEqDiff, Nat.reduceAdd, Nat.reduceLeDiff, reduceIte, sh_TT, shTy, fixed_u]
    refine Wp.ret ?_
    simp -implicitDefEqProofs only [vm, vs, pairUp, Nat.reduceEqDiff, Nat.reduceAdd, Nat.reduceLeDiff, reduceIte]
  cases x2 : decide (a < 0)
  rotate_left
  · refine Wp.seq (Wp.seq (Wp_region ?_))
    simp -implicitDefEqProofs only [vm, vs, pairUp, Nat.reduceEqDiff, Nat.reduceAdd, Nat.reduceLeDiff, reduceIte, sh_TT, shTy, fixed_u, small_c, mayR_c, ge_iff_le, x0, x1, x2]
    refine Wp.condT rfl (Wp.seq (Wp_region ?_))
    simp -implicitDefEqProofs only [vm, vs, pairUp, Nat.reduceEqDiff, Nat.reduceAdd, Nat.reduceLeDiff, reduceIte, sh_TT, shTy, fixed_u]
    refine Wp.ret ?_
    simp -implicitDefEqProofs only [vm, vs, pairUp, Nat.reduceEqDiff, Nat.reduceAdd, Nat.reduceLeDiff, reduceIte]
  cases x3 : decide (b < 0)
  rotate_left
  · refine Wp.seq (Wp.seq (Wp_region ?_))
    simp -implicitDefEqProofs only [vm, vs, pairUp, Nat.reduceEqDiff, Nat.reduceAdd, Nat.reduceLeDiff, reduceIte, sh_TT, shTy, fixed_u, small_c, mayR_c, ge_iff_le, x0, x1, x2, x3]
    refine Wp.condT rfl (Wp.seq (Wp_region ?_))
    simp -implicitDefEqProofs only [vm, vs, pairUp, Nat.reduceEqDiff, Nat.reduceAdd, Nat.reduceLeDiff, reduceIte, sh_TT, shTy, fixed_u]
    refine Wp.ret ?_
    simp -implicitDefEqProofs only [vm, vs, pairUp, Nat.reduceEqDiff, Nat.reduceAdd, Nat.reduceLeDiff, reduceIte]
  cases x4 : decide (c < 0)
  rotate_left
  · refine Wp.seq (Wp.seq (Wp_region ?_))
    simp -implicitDefEqProofs only [vm, vs, pairUp, Nat.reduceEqDiff, Nat.reduceAdd, Nat.reduceLeDiff, reduceIte, sh_TT, shTy, fixed_u, small_c, mayR_c, ge_iff_le, x0, x1, x2, x3, x4]
    refine Wp.condT rfl (Wp.seq (Wp_region ?_))
    simp -implicitDefEqProofs only [vm, vs, pairUp, Nat.reduceEqDiff, Nat.reduceAdd, Nat.reduceLeDiff, reduceIte, sh_TT, shTy, fixed_u]
    refine Wp.ret ?_
    simp -implicitDefEqProofs only [vm, vs, pairUp, Nat.reduceEqDiff, Nat.reduceAdd, Nat.reduceLeDiff, reduceIte]
  cases x5 : decide ((t.list.length : Int) ≤ a)
  rotate_left
  · refine Wp.seq (Wp.seq (Wp_region ?_))
    simp -implicitDefEqProofs only [vm, vs, pairUp, Nat.reduceEqDiff, Nat.reduceAdd, Nat.reduceLeDiff, reduceIte, sh_TT, shTy, fixed_u, small_c, mayR_c, ge_iff_le, x0, x1, x2, x3, x4, x5]
    refine Wp.condT rfl (Wp.seq (Wp_region ?_))
    simp -implicitDefEqProofs only [vm, vs, pairUp, Nat.reduceEqDiff, Nat.reduceAdd, Nat.reduceLeDiff, reduceIte, sh_TT, shTy, fixed_u]
    refine Wp.ret ?_
    simp -implicitDefEqProofs only [vm, vs, pairUp, Nat.reduceEqDiff, Nat.reduceAdd, Nat.reduceLeDiff, reduceIte]
  cases x6 : decide ((t.list.length : Int) ≤ b)
  rotate_left
  · refine Wp.seq (Wp.seq (Wp_region ?_))
    simp -implicitDefEqProofs only [vm, vs, pairUp, Nat.reduceEqDiff, Nat.reduceAdd, Nat.reduceLeDiff, reduceIte, sh_TT, shTy, fixed_u, small_c, mayR_c, ge_iff_le, x0, x1, x2, x3, x4, x5, x6]
    refine Wp.condT rfl (Wp.seq (Wp_region ?_))
    simp -implicitDefEqProofs only [vm, vs, pairUp, Nat.reduceEqDiff, Nat.reduceAdd, Nat.reduceLeDiff, reduceIte, sh_TT, shTy, fixed_u]
    refine Wp.ret ?_
    simp -implicitDefEqProofs only [vm, vs, pairUp, Nat.reduceEqDiff, Nat.reduceAdd, Nat.reduceLeDiff, reduceIte]
  cases x7 : decide ((t.list.length : Int) ≤ c)
  rotate_left
  · refine Wp.seq (Wp.seq (Wp_region ?_))
    simp -implicitDefEqProofs only [vm, vs, pairUp, Nat.reduceEqDiff, Nat.reduceAdd, Nat.reduceLeDiff, reduceIte, sh_TT, shTy, fixed_u, small_c, mayR_c, ge_iff_le, x0, x1, x2, x3, x4, x5, x6, x7]
    refine Wp.condT rfl (Wp.seq (Wp_region ?_))
    simp -implicitDefEqProofs only [vm, vs, pairUp, Nat.reduceEqDiff, Nat.reduceAdd, Nat.reduceLeDiff, reduceIte, sh_TT, shTy, fixed_u]
    refine Wp.ret ?_
    simp -implicitDefEqProofs only [vm, vs, pairUp, Nat.reduceEqDiff, Nat.reduceAdd, Nat.reduceLeDiff, reduceIte]
  have hs : FewP t.list := (dec_iff.1 x0).1
  have hm := dec_iff.1 x1
  have ha : InT t.list a := ⟨by simpa using x2, by simpa using x5⟩
  have hb : InT t.list b := ⟨by simpa using x3, by simpa using x6⟩
  have hc : InT t.list c := ⟨by simpa using x4, by simpa using x7⟩
  refine Wp.seq (Wp.seq (Wp_region ?_))
  simp -implicitDefEqProofs only [vm, vs, pairUp, Nat.reduceEqDiff, Nat.reduceAdd, Nat.reduceLeDiff, reduceIte, sh_TT, shTy, fixed_u, small_c, mayR_c, ge_iff_le, x0, x1, x2, x3, x4, x5, x6, x7]
  refine Wp.condF rfl (Wp.skip ?_)
  simp -implicitDefEqProofs only [vm, vs, pairUp, Nat.reduceEqDiff, Nat.reduceAdd, Nat.reduceLeDiff, reduceIte]
  have haa := dec_true (sub_refl hm ha)
  have hcomm : dec (SubP t.list b a ∧ SubP t.list a b) = dec (SubP t.list a b ∧ SubP t.list b a) := dec_congr ⟨fun h => ⟨h.2, h.1⟩, fun h => ⟨h.2, h.1⟩⟩
  cases y1 : dec (SubP t.list a b)
  · refine Wp.seq (Wp_region ?_)
    simp -implicitDefEqProofs only [vm, vs, pairUp, Nat.reduceEqDiff, Nat.reduceAdd, Nat.reduceLeDiff, reduceIte, sh_TT, shTy, sub_c t hs, equal_c t hs, haa, hcomm, bin_beq, BEq.rfl, y1]
    refine Wp.ret ?_
    simp -implicitDefEqProofs only [vm, vs, pairUp, Nat.reduceEqDiff, Nat.reduceAdd, Nat.reduceLeDiff, reduceIte]
  cases y2 : dec (SubP t.list b c)
  · refine Wp.seq (Wp_region ?_)
    simp -implicitDefEqProofs only [vm, vs, pairUp, Nat.reduceEqDiff, Nat.reduceAdd, Nat.reduceLeDiff, reduceIte, sh_TT, shTy, sub_c t hs, equal_c t hs, haa, hcomm, bin_beq, BEq.rfl, y1, y2]
    refine Wp.ret ?_
    simp -implicitDefEqProofs only [vm, vs, pairUp, Nat.reduceEqDiff, Nat.reduceAdd, Nat.reduceLeDiff, reduceIte]
  have y3 := dec_true (sub_trans hs (dec_iff.1 y1) (dec_iff.1 y2))
  · refine Wp.seq (Wp_region ?_)
    simp -implicitDefEqProofs only [vm, vs, pairUp, Nat.reduceEqDiff, Nat.reduceAdd, Nat.reduceLeDiff, reduceIte, sh_TT, shTy, sub_c t hs, equal_c t hs, haa, hcomm, bin_beq, BEq.rfl, y1, y2, y3]
    refine Wp.ret ?_
    simp -implicitDefEqProofs only [vm, vs, pairUp, Nat.reduceEqDiff, Nat.reduceAdd, Nat.reduceLeDiff, reduceIte]
end Go.VM
