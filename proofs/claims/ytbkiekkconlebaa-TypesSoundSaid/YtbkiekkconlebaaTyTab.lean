/-
  The functions in the small machine are the program's: written by a program (Gen.lean).
-/
import Derived.Test.YtbkiekkconlebaaM4
import Derived.Test.YtbkiekkconlebaaTyLit
import Derived.Test.YtbkiekkconlebaaProg
import Derived.KernelRfl
set_option linter.all false
set_option maxRecDepth 100000
namespace Go.VM
open Go Go.Proofs
theorem is3 : CodeIs Try.prog (annL []) 3 v3 := ⟨_, rfl, by kernel_rfl, by kernel_rfl⟩
theorem is4 : CodeIs Try.prog (annL []) 4 v4 := ⟨_, rfl, by kernel_rfl, by kernel_rfl⟩
theorem is5 : CodeIs Try.prog (annL []) 5 v5 := ⟨_, rfl, by kernel_rfl, by kernel_rfl⟩
theorem is6 : CodeIs Try.prog (annL []) 6 v6 := ⟨_, rfl, by kernel_rfl, by kernel_rfl⟩
theorem is13 : CodeIs Try.prog (annL [(2, ([0, 3], []))]) 13 v13 := ⟨_, rfl, by kernel_rfl, by kernel_rfl⟩
theorem is14 : CodeIs Try.prog (annL []) 14 v14 := ⟨_, rfl, by kernel_rfl, by kernel_rfl⟩
theorem is15 : CodeIs Try.prog (annL [(2, ([0, 7, 8, 9], [])), (7, ([0, 3, 4, 7, 8, 9, 45, 46, 47], [3, 4]))]) 15 v15 := ⟨_, rfl, by kernel_rfl, by kernel_rfl⟩
theorem is16 : CodeIs Try.prog (annL [(2, ([0, 3], [])), (8, ([0, 3, 4, 5], [4])), (13, ([0, 3, 4, 6], [4]))]) 16 v16 := ⟨_, rfl, by kernel_rfl, by kernel_rfl⟩
theorem is17 : CodeIs Try.prog (annL []) 17 v17 := ⟨_, rfl, by kernel_rfl, by kernel_rfl⟩
theorem is18 : CodeIs Try.prog (annL [(6, ([0, 1, 2, 7, 8, 9], [46])), (9, ([0, 1, 2, 7, 8], [46])), (11, ([0, 1, 2, 7, 8, 10, 11], [46])), (14, ([0, 1, 2, 7, 8, 10, 11, 12], [46]))]) 18 v18 := ⟨_, rfl, by kernel_rfl, by kernel_rfl⟩
theorem is19 : CodeIs Try.prog (annL []) 19 v19 := ⟨_, rfl, by kernel_rfl, by kernel_rfl⟩
theorem is20 : CodeIs Try.prog (annL []) 20 v20 := ⟨_, rfl, by kernel_rfl, by kernel_rfl⟩
theorem is21 : CodeIs Try.prog (annL [(2, ([0, 3], []))]) 21 v21 := ⟨_, rfl, by kernel_rfl, by kernel_rfl⟩
theorem is22 : CodeIs Try.prog (annL [(2, ([0, 3], [])), (6, ([0, 3, 4, 5], [4]))]) 22 v22 := ⟨_, rfl, by kernel_rfl, by kernel_rfl⟩
theorem is23 : CodeIs Try.prog (annL []) 23 v23 := ⟨_, rfl, by kernel_rfl, by kernel_rfl⟩
theorem is40 : CodeIs Try.prog (annL []) 40 v40 := ⟨_, rfl, by kernel_rfl, by kernel_rfl⟩
theorem is54 : CodeIs Try.prog (annL []) 54 v54 := ⟨_, rfl, by kernel_rfl, by kernel_rfl⟩
theorem is55 : CodeIs Try.prog (annL []) 55 v55 := ⟨_, rfl, by kernel_rfl, by kernel_rfl⟩
theorem is56 : CodeIs Try.prog (annL []) 56 v56 := ⟨_, rfl, by kernel_rfl, by kernel_rfl⟩
theorem is57 : CodeIs Try.prog (annL []) 57 v57 := ⟨_, rfl, by kernel_rfl, by kernel_rfl⟩
theorem is58 : CodeIs Try.prog (fun _ => none) 58 v58 := ⟨_, rfl, by kernel_rfl, by kernel_rfl⟩
theorem is59 : CodeIs Try.prog (fun _ => none) 59 v59 := ⟨_, rfl, by kernel_rfl, by kernel_rfl⟩
theorem is60 : CodeIs Try.prog (fun _ => none) 60 v60 := ⟨_, rfl, by kernel_rfl, by kernel_rfl⟩
theorem is61 : CodeIs Try.prog (fun _ => none) 61 v61 := ⟨_, rfl, by kernel_rfl, by kernel_rfl⟩
theorem is62 : CodeIs Try.prog (fun _ => none) 62 v62 := ⟨_, rfl, by kernel_rfl, by kernel_rfl⟩
theorem is63 : CodeIs Try.prog (fun _ => none) 63 v63 := ⟨_, rfl, by kernel_rfl, by kernel_rfl⟩
theorem is64 : CodeIs Try.prog (fun _ => none) 64 v64 := ⟨_, rfl, by kernel_rfl, by kernel_rfl⟩
theorem is65 : CodeIs Try.prog (annL []) 65 v65 := ⟨_, rfl, by kernel_rfl, by kernel_rfl⟩
theorem is66 : CodeIs Try.prog (annL [(5, ([1, 3, 9, 10, 12], [10])), (12, ([1, 2, 9, 11, 13], [11])), (22, ([1, 9, 10, 11, 14], [10, 11]))]) 66 v66 := ⟨_, rfl, by kernel_rfl, by kernel_rfl⟩
theorem is67 : CodeIs Try.prog (annL [(2, ([0, 7, 8, 9], [])), (5, ([0, 3, 4, 7, 8, 9, 15, 16, 17], [4]))]) 67 v67 := ⟨_, rfl, by kernel_rfl, by kernel_rfl⟩
theorem is68 : CodeIs Try.prog (annL []) 68 v68 := ⟨_, rfl, by kernel_rfl, by kernel_rfl⟩
theorem is69 : CodeIs Try.prog (fun _ => none) 69 v69 := ⟨_, rfl, by kernel_rfl, by kernel_rfl⟩
theorem is70 : CodeIs Try.prog (fun _ => none) 70 v70 := ⟨_, rfl, by kernel_rfl, by kernel_rfl⟩
theorem is71 : CodeIs Try.prog (fun _ => none) 71 v71 := ⟨_, rfl, by kernel_rfl, by kernel_rfl⟩
theorem is72 : CodeIs Try.prog (fun _ => none) 72 v72 := ⟨_, rfl, by kernel_rfl, by kernel_rfl⟩
theorem is73 : CodeIs Try.prog (annL [(1, ([0, 2, 4, 6], [4, 6]))]) 73 v73 := ⟨_, rfl, by kernel_rfl, by kernel_rfl⟩
theorem is120 : CodeIs Try.prog (annL [(2, ([0, 1, 7, 8], []))]) 120 v120 := ⟨_, rfl, by kernel_rfl, by kernel_rfl⟩
theorem is121 : CodeIs Try.prog (fun _ => none) 121 v121 := ⟨_, rfl, by kernel_rfl, by kernel_rfl⟩
theorem is122 : CodeIs Try.prog (annL [(3, ([0, 1, 2, 8, 9, 10], []))]) 122 v122 := ⟨_, rfl, by kernel_rfl, by kernel_rfl⟩
theorem is123 : CodeIs Try.prog (annL []) 123 v123 := ⟨_, rfl, by kernel_rfl, by kernel_rfl⟩
theorem is124 : CodeIs Try.prog (annL []) 124 v124 := ⟨_, rfl, by kernel_rfl, by kernel_rfl⟩
theorem is125 : CodeIs Try.prog (annL [(2, ([1, 2, 6], [2]))]) 125 v125 := ⟨_, rfl, by kernel_rfl, by kernel_rfl⟩
theorem is126 : CodeIs Try.prog (fun _ => none) 126 v126 := ⟨_, rfl, by kernel_rfl, by kernel_rfl⟩
theorem is127 : CodeIs Try.prog (annL []) 127 v127 := ⟨_, rfl, by kernel_rfl, by kernel_rfl⟩
theorem is144 : CodeIs Try.prog (annL []) 144 v144 := ⟨_, rfl, by kernel_rfl, by kernel_rfl⟩
theorem is145 : CodeIs Try.prog (annL [(3, ([0, 1, 2, 8, 9, 10], []))]) 145 v145 := ⟨_, rfl, by kernel_rfl, by kernel_rfl⟩
theorem is146 : CodeIs Try.prog (annL []) 146 v146 := ⟨_, rfl, by kernel_rfl, by kernel_rfl⟩
theorem codeTy_ok : ∀ f v, codeTy f = some v → ∃ ann, CodeIs Try.prog ann f v := by
  intro f v h
  unfold codeTy at h
  split at h
  · obtain rfl := Option.some.inj h; exact ⟨_, is3⟩
  · obtain rfl := Option.some.inj h; exact ⟨_, is4⟩
  · obtain rfl := Option.some.inj h; exact ⟨_, is5⟩
  · obtain rfl := Option.some.inj h; exact ⟨_, is6⟩
  · obtain rfl := Option.some.inj h; exact ⟨_, is13⟩
  · obtain rfl := Option.some.inj h; exact ⟨_, is14⟩
  · obtain rfl := Option.some.inj h; exact ⟨_, is15⟩
  · obtain rfl := Option.some.inj h; exact ⟨_, is16⟩
  · obtain rfl := Option.some.inj h; exact ⟨_, is17⟩
  · obtain rfl := Option.some.inj h; exact ⟨_, is18⟩
  · obtain rfl := Option.some.inj h; exact ⟨_, is19⟩
  · obtain rfl := Option.some.inj h; exact ⟨_, is20⟩
  · obtain rfl := Option.some.inj h; exact ⟨_, is21⟩
  · obtain rfl := Option.some.inj h; exact ⟨_, is22⟩
  · obtain rfl := Option.some.inj h; exact ⟨_, is23⟩
  · obtain rfl := Option.some.inj h; exact ⟨_, is40⟩
  · obtain rfl := Option.some.inj h; exact ⟨_, is54⟩
  · obtain rfl := Option.some.inj h; exact ⟨_, is55⟩
  · obtain rfl := Option.some.inj h; exact ⟨_, is56⟩
  · obtain rfl := Option.some.inj h; exact ⟨_, is57⟩
  · obtain rfl := Option.some.inj h; exact ⟨_, is58⟩
  · obtain rfl := Option.some.inj h; exact ⟨_, is59⟩
  · obtain rfl := Option.some.inj h; exact ⟨_, is60⟩
  · obtain rfl := Option.some.inj h; exact ⟨_, is61⟩
  · obtain rfl := Option.some.inj h; exact ⟨_, is62⟩
  · obtain rfl := Option.some.inj h; exact ⟨_, is63⟩
  · obtain rfl := Option.some.inj h; exact ⟨_, is64⟩
  · obtain rfl := Option.some.inj h; exact ⟨_, is65⟩
  · obtain rfl := Option.some.inj h; exact ⟨_, is66⟩
  · obtain rfl := Option.some.inj h; exact ⟨_, is67⟩
  · obtain rfl := Option.some.inj h; exact ⟨_, is68⟩
  · obtain rfl := Option.some.inj h; exact ⟨_, is69⟩
  · obtain rfl := Option.some.inj h; exact ⟨_, is70⟩
  · obtain rfl := Option.some.inj h; exact ⟨_, is71⟩
  · obtain rfl := Option.some.inj h; exact ⟨_, is72⟩
  · obtain rfl := Option.some.inj h; exact ⟨_, is73⟩
  · obtain rfl := Option.some.inj h; exact ⟨_, is120⟩
  · obtain rfl := Option.some.inj h; exact ⟨_, is121⟩
  · obtain rfl := Option.some.inj h; exact ⟨_, is122⟩
  · obtain rfl := Option.some.inj h; exact ⟨_, is123⟩
  · obtain rfl := Option.some.inj h; exact ⟨_, is124⟩
  · obtain rfl := Option.some.inj h; exact ⟨_, is125⟩
  · obtain rfl := Option.some.inj h; exact ⟨_, is126⟩
  · obtain rfl := Option.some.inj h; exact ⟨_, is127⟩
  · obtain rfl := Option.some.inj h; exact ⟨_, is144⟩
  · obtain rfl := Option.some.inj h; exact ⟨_, is145⟩
  · obtain rfl := Option.some.inj h; exact ⟨_, is146⟩
  · cases h
end Go.VM
