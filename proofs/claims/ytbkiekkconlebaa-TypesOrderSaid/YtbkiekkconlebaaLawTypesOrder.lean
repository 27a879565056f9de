/-
  The law TypesOrder holds of every input: the program's function answers true, and its arguments read afterwards as before. No condition.
-/
import Derived.Test.YtbkiekkconlebaaRows
import Derived.Test.YtbkiekkconlebaaTySOrder
import Derived.ProofKit
import Derived.OpenShut
import Derived.ChangeOld
import Derived.Below
import Derived.SizedLaws
set_option linter.all false
namespace Go.Proofs.Ytbkiekkconlebaa.typesOrder
open Go.ChangeShapes Go.WideShapes Go.ChangeAt Go.RowKit Go.VM
set_option linter.all false
set_option maxRecDepth 100000
theorem own : ownKnob Try.prog.godebug = none := by kernel_rfl
theorem laidOut : laidOutB Try.prog = true := by kernel_rfl
theorem lifted (os : Os) (started : os.Started) (H : Type) (enc : TypeId × Value → H) :
    ReturnsInHanded {} Try.checked os 4 .any (Rows.typesOrderSpec.pre6 enc Try.prog Try.f4 Rows.typesOrderRow.domain false) (Rows.typesOrderSpec.post enc Try.prog Try.f4 false true false false) := by
  refine returnsInHanded_of_change_sized (C := Try.checked) own started (by kernel_rfl) Try.func4
    (ChangeSpec.witness6 (enc := enc) (C := Try.checked) false ⟨#[], #[.slice none 0 0, .agg #[.int .i64 0, .int .i64 0, .int .i64 0]], []⟩ 8 (by kernel_rfl) (by kernel_rfl) (by kernel_rfl) (by kernel_rfl)) ?_
  intro W base args ds gs before hval0 hW hcnd hsz0 _
  have hW' := hW
  obtain ⟨p, q, hA0, hV, rfl, hfz, hnd⟩ := hW
  have hA : DataW.TrodAll enc Try.prog W 0 (fun _ => true) true Try.f4.params.toList args.toList ds p := hA0
  rw [Try.params4] at hA
  obtain ⟨v0, vs0, d0, ds0, p0, q0, hargs, rfl, rfl, h0, r0⟩ := trodAll_cons hA
  obtain ⟨v1, vs1, d1, ds1, p1, q1, rfl, rfl, rfl, h1, r1⟩ := trodAll_cons r0
  obtain ⟨rfl, rfl, rfl⟩ := trodAll_nil r1
  obtain rfl : args = #[v0, v1] := by cases args; simp_all
  obtain ⟨rfl, rfl⟩ := trodVars_none hV
  have hv0 : Value.okWide Try.prog W .any base 22 v0 := hval0 0 22 v0 rfl rfl
  obtain ⟨x0, y0, z0, rfl⟩ := okWide_slice Try.underlying22 hv0
  have k0 := h0
  have lt0 : ∀ x ∈ p0, x.block < W.heap.size := by obtain ⟨m, hm⟩ := k0; exact DataW.trod_lt m _ _ _ hm
  obtain ⟨a0, c0⟩ : ∃ a, CL W ((fun x => [slD encTy x]) a) (Value.cells (.slice x0 y0 z0)).toList := by obtain ⟨m, hm⟩ := k0; exact (tab_opens).out hm
  have w0 := arg_one rfl c0
  have hv1 : Value.okWide Try.prog W .any base 26 v1 := hval0 1 26 v1 rfl rfl
  obtain ⟨u1, rfl, _⟩ := okWide_array Try.underlying26 hv1
  have k1 := h1
  have lt1 : ∀ x ∈ p1, x.block < W.heap.size := by obtain ⟨m, hm⟩ := k1; exact DataW.trod_lt m _ _ _ hm
  obtain ⟨a1, c1⟩ : ∃ a, CL W ((fun l : { l : List Int // l.length = 3 } => l.1.flatMap encI) a) (Value.cells (.agg u1)).toList := by obtain ⟨m, hm⟩ := k1; exact (opens_array (c := 1) Try.underlying26 (by kernel_rfl) (by kernel_rfl) (opens_i Try.underlying3)).out hm
  have w1 := arg_agg c1
  clear hA0 hval0 hsz0
  refine (law_calls (T := TT) (P := Try.prog) mixed TT_ok (f := 4) (ann := _) (fn := Try.f4) (vf := v4) Try.func4 is4_vf (TypesOrder_pure a0 a1) (vs := [(.slice x0 y0 z0), (.agg u1)]) (vr0L_two w0 w1)).mono fun e W' ⟨he, bel⟩ => ?_
  subst he
  exact ⟨_, rfl, _, _, _, [], _, [], hW', trodAll_mk1 (shut_bool Try.underlying4 _), (trodAll_cons_mk (Below.trod laidOut (by kernel_rfl) (of_decide_eq_true (by kernel_rfl)) k0 bel lt0) (trodAll_cons_mk (Below.trod laidOut (by kernel_rfl) (of_decide_eq_true (by kernel_rfl)) k1 bel lt1) trodAll_mk0)), rfl, bel.frame _, fun h => by cases h⟩
theorem over : Rows.typesOrderRow.holds Try.pinned (OpenSpec.ofChange Rows.typesOrderSpec) :=
  OpenClaim.holds_of_wide 4 Try.f4 rfl rfl rfl rfl rfl rfl rfl ⟨rfl, rfl, rfl, rfl, rfl⟩ rfl rfl rfl rfl rfl (by kernel_rfl) Try.func4 (by kernel_rfl)
    (of_decide_eq_true (by kernel_rfl)) (by unfold Func.isWrapper; first | (rw [if_pos (by decide +kernel)]; kernel_rfl) | (rw [if_neg (by decide +kernel)]; exact ⟨rfl, rfl⟩))
    (fun os started H enc _ => lifted os started H enc)
end Go.Proofs.Ytbkiekkconlebaa.typesOrder
namespace Go.Proofs.Ytbkiekkconlebaa
theorem typesOrder_holds : Rows.TypesOrderSaid := typesOrder.over
#print axioms typesOrder_holds
end Go.Proofs.Ytbkiekkconlebaa

