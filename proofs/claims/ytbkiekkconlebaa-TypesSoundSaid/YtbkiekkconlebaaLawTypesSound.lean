/-
  The law TypesSound holds of every input: the program's function answers true, and its arguments read afterwards as before. No condition.
-/
import Derived.Test.YtbkiekkconlebaaRows
import Derived.Test.YtbkiekkconlebaaTySSound
import Derived.ProofKit
import Derived.OpenShut
import Derived.ChangeOld
import Derived.Below
import Derived.SizedLaws
set_option linter.all false
namespace Go.Proofs.Ytbkiekkconlebaa.typesSound
open Go.ChangeShapes Go.WideShapes Go.ChangeAt Go.RowKit Go.VM
set_option linter.all false
set_option maxRecDepth 100000
theorem own : ownKnob Try.prog.godebug = none := by kernel_rfl
theorem laidOut : laidOutB Try.prog = true := by kernel_rfl
theorem lifted (os : Os) (started : os.Started) (H : Type) (enc : TypeId × Value → H) :
    ReturnsInHanded {} Try.checked os 5 .any (Rows.typesSoundSpec.pre6 enc Try.prog Try.f5 Rows.typesSoundRow.domain false) (Rows.typesSoundSpec.post enc Try.prog Try.f5 false true false false) := by
  refine returnsInHanded_of_change_sized (C := Try.checked) own started (by kernel_rfl) Try.func5
    (ChangeSpec.witness6 (enc := enc) (C := Try.checked) false ⟨#[], #[.slice none 0 0, .slice none 0 0, .agg #[.int .i64 0, .int .i64 0, .int .i64 0, .int .i64 0]], []⟩ 8 (by kernel_rfl) (by kernel_rfl) (by kernel_rfl) (by kernel_rfl)) ?_
  intro W base args ds gs before hval0 hW hcnd hsz0 _
  have hW' := hW
  obtain ⟨p, q, hA0, hV, rfl, hfz, hnd⟩ := hW
  have hA : DataW.TrodAll enc Try.prog W 0 (fun _ => true) true Try.f5.params.toList args.toList ds p := hA0
  rw [Try.params5] at hA
  obtain ⟨v0, vs0, d0, ds0, p0, q0, hargs, rfl, rfl, h0, r0⟩ := trodAll_cons hA
  obtain ⟨v1, vs1, d1, ds1, p1, q1, rfl, rfl, rfl, h1, r1⟩ := trodAll_cons r0
  obtain ⟨v2, vs2, d2, ds2, p2, q2, rfl, rfl, rfl, h2, r2⟩ := trodAll_cons r1
  obtain ⟨rfl, rfl, rfl⟩ := trodAll_nil r2
  obtain rfl : args = #[v0, v1, v2] := by cases args; simp_all
  obtain ⟨rfl, rfl⟩ := trodVars_none hV
  have hv0 : Value.okWide Try.prog W .any base 22 v0 := hval0 0 22 v0 rfl rfl
  obtain ⟨x0, y0, z0, rfl⟩ := okWide_slice Try.underlying22 hv0
  have k0 := h0
  have lt0 : ∀ x ∈ p0, x.block < W.heap.size := by obtain ⟨m, hm⟩ := k0; exact DataW.trod_lt m _ _ _ hm
  obtain ⟨a0, c0⟩ : ∃ a, CL W ((fun x => [slD encTy x]) a) (Value.cells (.slice x0 y0 z0)).toList := by obtain ⟨m, hm⟩ := k0; exact (tab_opens).out hm
  have w0 := arg_one rfl c0
  have hv1 : Value.okWide Try.prog W .any base 28 v1 := hval0 1 28 v1 rfl rfl
  obtain ⟨x1, y1, z1, rfl⟩ := okWide_slice Try.underlying28 hv1
  have k1 := h1
  have lt1 : ∀ x ∈ p1, x.block < W.heap.size := by obtain ⟨m, hm⟩ := k1; exact DataW.trod_lt m _ _ _ hm
  obtain ⟨a1, c1⟩ : ∃ a, CL W ((fun x => [slD encOb x]) a) (Value.cells (.slice x1 y1 z1)).toList := by obtain ⟨m, hm⟩ := k1; exact (store_opens).out hm
  have w1 := arg_one rfl c1
  have hv2 : Value.okWide Try.prog W .any base 32 v2 := hval0 2 32 v2 rfl rfl
  obtain ⟨u2, rfl, _⟩ := okWide_struct Try.underlying32 hv2
  have k2 := h2
  have lt2 : ∀ x ∈ p2, x.block < W.heap.size := by obtain ⟨m, hm⟩ := k2; exact DataW.trod_lt m _ _ _ hm
  obtain ⟨a2, c2⟩ : ∃ a, CL W ((encTo) a) (Value.cells (.agg u2)).toList := by obtain ⟨m, hm⟩ := k2; exact (to_opens).out hm
  have w2 := arg_agg c2
  clear hA0 hval0 hsz0
  refine (law_calls (T := TT) (P := Try.prog) mixed TT_ok (f := 5) (ann := _) (fn := Try.f5) (vf := v5) Try.func5 is5_vf (TypesSound_pure a0 a1 a2) (vs := [(.slice x0 y0 z0), (.slice x1 y1 z1), (.agg u2)]) (vr0L_three w0 w1 w2)).mono fun e W' ⟨he, bel⟩ => ?_
  subst he
  exact ⟨_, rfl, _, _, _, [], _, [], hW', trodAll_mk1 (shut_bool Try.underlying4 _), (trodAll_cons_mk (Below.trod laidOut (by kernel_rfl) (of_decide_eq_true (by kernel_rfl)) k0 bel lt0) (trodAll_cons_mk (Below.trod laidOut (by kernel_rfl) (of_decide_eq_true (by kernel_rfl)) k1 bel lt1) (trodAll_cons_mk (Below.trod laidOut (by kernel_rfl) (of_decide_eq_true (by kernel_rfl)) k2 bel lt2) trodAll_mk0))), rfl, bel.frame _, fun h => by cases h⟩
theorem over : Rows.typesSoundRow.holds Try.pinned (OpenSpec.ofChange Rows.typesSoundSpec) :=
  OpenClaim.holds_of_wide 5 Try.f5 rfl rfl rfl rfl rfl rfl rfl ⟨rfl, rfl, rfl, rfl, rfl⟩ rfl rfl rfl rfl rfl (by kernel_rfl) Try.func5 (by kernel_rfl)
    (of_decide_eq_true (by kernel_rfl)) (by unfold Func.isWrapper; first | (rw [if_pos (by decide +kernel)]; kernel_rfl) | (rw [if_neg (by decide +kernel)]; exact ⟨rfl, rfl⟩))
    (fun os started H enc _ => lifted os started H enc)
end Go.Proofs.Ytbkiekkconlebaa.typesSound
namespace Go.Proofs.Ytbkiekkconlebaa
theorem typesSound_holds : Rows.TypesSoundSaid := typesSound.over
#print axioms typesSound_holds
end Go.Proofs.Ytbkiekkconlebaa

