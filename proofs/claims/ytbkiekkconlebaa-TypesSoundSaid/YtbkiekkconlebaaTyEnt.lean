/-
  How the arguments of the Types laws are read; the table is right.
-/
import Derived.Test.YtbkiekkconlebaaTyDat
import Derived.Test.YtbkiekkconlebaaTyT
import Derived.Test.YtbkiekkconlebaaTyTab
set_option linter.all false
set_option maxRecDepth 1000000
namespace Go.VM
open Go Go.Proofs

theorem mixed : Try.prog.follows .mixedOrders = true := by kernel_rfl
theorem cmp_entry : ∃ fn, Try.prog.funcs[152]? = some fn ∧ (fn.name == "runtime.NumGoroutine") = false ∧ fn.body.isNone = true ∧ Extern.findNext fn = none ∧ Extern.find fn = some Extern.BytealgCompare.compare := ⟨_, rfl, by kernel_rfl, by kernel_rfl, by kernel_rfl, by kernel_rfl⟩
theorem TT_ok : TabOk noGh Try.prog TT := by
  refine ⟨fun f v h => ?_, fun f p h => ?_, fun f p h => by cases h⟩
  · obtain ⟨ann, fn, h1, h2, h3⟩ := codeTy_ok f v h
    exact ⟨fn, ann, h1, h2, h3⟩
  · intro ds g r g' hp I w vs himm hJ hI hvs
    have hp' : f = 152 ∧ p = cmpP := by
      unfold TT primTy at h
      simp only at h
      split at h
      · exact ⟨rfl, (Option.some.inj h).symm⟩
      · cases h
    obtain ⟨rfl, rfl⟩ := hp'
    obtain ⟨fn, h1, h2, h3, h4, h5⟩ := cmp_entry
    exact cmp_does (gh := noGh) h1 h2 h3 h4 h5 hp himm hJ hI hvs

theorem tf_opens : Opens Try.prog 101 TF encTF := Opens.iso (opens_two (n0 := 1) (n1 := 1) Try.underlying101 rfl rfl rfl (by kernel_rfl) (by kernel_rfl) (by kernel_rfl) (opens_s Try.underlying9) (opens_i Try.underlying3)) (fun p => ⟨p.1, p.2⟩) fun _ => rfl
theorem ty_opens : Opens Try.prog 39 Ty encTy :=
  Opens.iso (opens_three (n0 := 1) (n1 := 1) (n2 := 1) Try.underlying39 rfl rfl rfl rfl (by kernel_rfl) (by kernel_rfl) (by kernel_rfl) (by kernel_rfl) (opens_i Try.underlying3) (opens_sl (n := 2) Try.underlying36 tf_opens (by kernel_rfl) (fun _ => rfl) (by omega)) (opens_sl (n := 1) Try.underlying37 (opens_i Try.underlying3) (by kernel_rfl) (fun _ => rfl) (by omega))) (fun p => ⟨p.1, p.2.1, p.2.2⟩) fun _ => rfl
theorem tab_opens : Opens Try.prog 22 (SlOf Ty) (fun x => [slD encTy x]) := opens_sl (n := 3) Try.underlying22 ty_opens (by kernel_rfl) (fun _ => rfl) (by omega)

end Go.VM
