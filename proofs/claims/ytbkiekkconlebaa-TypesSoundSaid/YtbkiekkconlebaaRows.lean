/-
  No cell of these rows narrows 'for every input' (looked for: loops, veiled, ifaces, maps, wideKeys, modest, calm, conditions, laid).
  DERIVED. THE GIVEN ROWS OF THIS SEAT. 10 by the template 'for every input the law returns true; each argument reads behind the call as it read before'; 0 by the template 'total and deterministic' (their statements: YtbkiekkconlebaaTotals.lean).
  GIVEN WITH THE SEED: the statements are not yours to turn. If you find one false, say at which input.
  Laid BY PROGRAM, IN A SANDBOX (cutbox-rows.mjs): the forced cells as the released guide's own fill.sh prints them over the translation ff4eaca3e5ef9a7c… (all of the seat's roots in one cut). By AI agents, Wed Nov 11 2026. No macro, syntax, notation, axiom, sorry.
-/
import Derived.Test.YtbkiekkconlebaaChecked
import GoSem.Claim
import GoSem.ClaimJoined
import GoSem.ClaimMapViews
import Derived.JoinedTies
import Derived.KernelRfl
namespace Go.Proofs.Ytbkiekkconlebaa
/- THE CELL 'sum', in the pinned program and in every row, IS THE sha256 OF THE DUMP (.gsa) THAT YtbkiekkconlebaaProg.lean LOADS. Nothing in Lean hashes anything: it is a label: what it is worth is what the hold of that sum in a sandbox is worth. -/
noncomputable def Try.pinned : Pinned := { name := "ytbkiekkconlebaa", sum := "ff4eaca3e5ef9a7c48e1f0e05902991d0d492162a9e9986c8f893672a54a38fe", checked := Try.checked }
namespace Rows
def none {H : Type} : Left H := { results := [], args := [] }

/-- 'proteanlaw24.TypesTells': WHATEVER THE INPUT: true; the input reads as it did. -/
def typesTellsSpec : ChangeSpec := { name := "typesTells", fn := fun _ => fun
  | [d1, d2, d3] => { results := [.lit (.bool true)], args := [d1, d2, d3] }
  | _ => none }
def typesTellsRow : OpenClaim := { program := "ytbkiekkconlebaa", sum := "ff4eaca3e5ef9a7c48e1f0e05902991d0d492162a9e9986c8f893672a54a38fe", func := "protean/proteanlaw24.TypesTells", spec := "typesTells", inPlace := ["internal/bytealg.abigen_runtime_cmpstring"], unfollowed := true, recurses := true, plainKeys := false, apart := false }
def TypesTellsSaid : Prop := typesTellsRow.holds Try.pinned (OpenSpec.ofChange typesTellsSpec)

/-- ITS FALSE NEIGHBOUR: 'it returns false'. Refute it at one input. -/
def typesTellsWrong : ChangeSpec := { name := "typesTells", fn := fun _ => fun
  | [d1, d2, d3] => { results := [.lit (.bool false)], args := [d1, d2, d3] }
  | _ => none }
def TypesTellsWrongFalsely : Prop := typesTellsRow.holds Try.pinned (OpenSpec.ofChange typesTellsWrong)

/-- 'proteanlaw24.TypesOrder': WHATEVER THE INPUT: true; the input reads as it did. -/
def typesOrderSpec : ChangeSpec := { name := "typesOrder", fn := fun _ => fun
  | [d1, d2] => { results := [.lit (.bool true)], args := [d1, d2] }
  | _ => none }
def typesOrderRow : OpenClaim := { program := "ytbkiekkconlebaa", sum := "ff4eaca3e5ef9a7c48e1f0e05902991d0d492162a9e9986c8f893672a54a38fe", func := "protean/proteanlaw24.TypesOrder", spec := "typesOrder", inPlace := ["internal/bytealg.abigen_runtime_cmpstring"], unfollowed := true, recurses := true, plainKeys := false, apart := false }
def TypesOrderSaid : Prop := typesOrderRow.holds Try.pinned (OpenSpec.ofChange typesOrderSpec)

/-- ITS FALSE NEIGHBOUR: 'it returns false'. Refute it at one input. -/
def typesOrderWrong : ChangeSpec := { name := "typesOrder", fn := fun _ => fun
  | [d1, d2] => { results := [.lit (.bool false)], args := [d1, d2] }
  | _ => none }
def TypesOrderWrongFalsely : Prop := typesOrderRow.holds Try.pinned (OpenSpec.ofChange typesOrderWrong)

/-- 'proteanlaw24.TypesSound': WHATEVER THE INPUT: true; the input reads as it did. -/
def typesSoundSpec : ChangeSpec := { name := "typesSound", fn := fun _ => fun
  | [d1, d2, d3] => { results := [.lit (.bool true)], args := [d1, d2, d3] }
  | _ => none }
def typesSoundRow : OpenClaim := { program := "ytbkiekkconlebaa", sum := "ff4eaca3e5ef9a7c48e1f0e05902991d0d492162a9e9986c8f893672a54a38fe", func := "protean/proteanlaw24.TypesSound", spec := "typesSound", inPlace := ["internal/bytealg.abigen_runtime_cmpstring"], unfollowed := true, recurses := true, plainKeys := false, apart := false }
def TypesSoundSaid : Prop := typesSoundRow.holds Try.pinned (OpenSpec.ofChange typesSoundSpec)

/-- ITS FALSE NEIGHBOUR: 'it returns false'. Refute it at one input. -/
def typesSoundWrong : ChangeSpec := { name := "typesSound", fn := fun _ => fun
  | [d1, d2, d3] => { results := [.lit (.bool false)], args := [d1, d2, d3] }
  | _ => none }
def TypesSoundWrongFalsely : Prop := typesSoundRow.holds Try.pinned (OpenSpec.ofChange typesSoundWrong)

/-- 'proteanlaw24.TypesGrow': WHATEVER THE INPUT: true; the input reads as it did. -/
def typesGrowSpec : ChangeSpec := { name := "typesGrow", fn := fun _ => fun
  | [d1, d2, d3] => { results := [.lit (.bool true)], args := [d1, d2, d3] }
  | _ => none }
def typesGrowRow : OpenClaim := { program := "ytbkiekkconlebaa", sum := "ff4eaca3e5ef9a7c48e1f0e05902991d0d492162a9e9986c8f893672a54a38fe", func := "protean/proteanlaw24.TypesGrow", spec := "typesGrow", inPlace := ["internal/bytealg.abigen_runtime_cmpstring"], unfollowed := true, recurses := true, plainKeys := false, apart := false }
def TypesGrowSaid : Prop := typesGrowRow.holds Try.pinned (OpenSpec.ofChange typesGrowSpec)

/-- ITS FALSE NEIGHBOUR: 'it returns false'. Refute it at one input. -/
def typesGrowWrong : ChangeSpec := { name := "typesGrow", fn := fun _ => fun
  | [d1, d2, d3] => { results := [.lit (.bool false)], args := [d1, d2, d3] }
  | _ => none }
def TypesGrowWrongFalsely : Prop := typesGrowRow.holds Try.pinned (OpenSpec.ofChange typesGrowWrong)

/-- 'proteanlaw21.ConformTells': WHATEVER THE INPUT: true; the input reads as it did. -/
def conformTellsSpec : ChangeSpec := { name := "conformTells", fn := fun _ => fun
  | [d1, d2, d3] => { results := [.lit (.bool true)], args := [d1, d2, d3] }
  | _ => none }
def conformTellsRow : OpenClaim := { program := "ytbkiekkconlebaa", sum := "ff4eaca3e5ef9a7c48e1f0e05902991d0d492162a9e9986c8f893672a54a38fe", func := "protean/proteanlaw21.ConformTells", spec := "conformTells", unfollowed := true, recurses := true, plainKeys := false, apart := false }
def ConformTellsSaid : Prop := conformTellsRow.holds Try.pinned (OpenSpec.ofChange conformTellsSpec)

/-- ITS FALSE NEIGHBOUR: 'it returns false'. Refute it at one input. -/
def conformTellsWrong : ChangeSpec := { name := "conformTells", fn := fun _ => fun
  | [d1, d2, d3] => { results := [.lit (.bool false)], args := [d1, d2, d3] }
  | _ => none }
def ConformTellsWrongFalsely : Prop := conformTellsRow.holds Try.pinned (OpenSpec.ofChange conformTellsWrong)

/-- 'proteanlaw21.ConformRises': WHATEVER THE INPUT: true; the input reads as it did. -/
def conformRisesSpec : ChangeSpec := { name := "conformRises", fn := fun _ => fun
  | [d1, d2] => { results := [.lit (.bool true)], args := [d1, d2] }
  | _ => none }
def conformRisesRow : OpenClaim := { program := "ytbkiekkconlebaa", sum := "ff4eaca3e5ef9a7c48e1f0e05902991d0d492162a9e9986c8f893672a54a38fe", func := "protean/proteanlaw21.ConformRises", spec := "conformRises", unfollowed := true, recurses := true, plainKeys := false, apart := false }
def ConformRisesSaid : Prop := conformRisesRow.holds Try.pinned (OpenSpec.ofChange conformRisesSpec)

/-- ITS FALSE NEIGHBOUR: 'it returns false'. Refute it at one input. -/
def conformRisesWrong : ChangeSpec := { name := "conformRises", fn := fun _ => fun
  | [d1, d2] => { results := [.lit (.bool false)], args := [d1, d2] }
  | _ => none }
def ConformRisesWrongFalsely : Prop := conformRisesRow.holds Try.pinned (OpenSpec.ofChange conformRisesWrong)

/-- 'proteanlaw21.ConformFinds': WHATEVER THE INPUT: true; the input reads as it did. -/
def conformFindsSpec : ChangeSpec := { name := "conformFinds", fn := fun _ => fun
  | [d1, d2, d3] => { results := [.lit (.bool true)], args := [d1, d2, d3] }
  | _ => none }
def conformFindsRow : OpenClaim := { program := "ytbkiekkconlebaa", sum := "ff4eaca3e5ef9a7c48e1f0e05902991d0d492162a9e9986c8f893672a54a38fe", func := "protean/proteanlaw21.ConformFinds", spec := "conformFinds", unfollowed := true, recurses := true, plainKeys := false, apart := false }
def ConformFindsSaid : Prop := conformFindsRow.holds Try.pinned (OpenSpec.ofChange conformFindsSpec)

/-- ITS FALSE NEIGHBOUR: 'it returns false'. Refute it at one input. -/
def conformFindsWrong : ChangeSpec := { name := "conformFinds", fn := fun _ => fun
  | [d1, d2, d3] => { results := [.lit (.bool false)], args := [d1, d2, d3] }
  | _ => none }
def ConformFindsWrongFalsely : Prop := conformFindsRow.holds Try.pinned (OpenSpec.ofChange conformFindsWrong)

/-- 'proteanlaw21.ConformWrites': WHATEVER THE INPUT: true; the input reads as it did. -/
def conformWritesSpec : ChangeSpec := { name := "conformWrites", fn := fun _ => fun
  | [d1, d2] => { results := [.lit (.bool true)], args := [d1, d2] }
  | _ => none }
def conformWritesRow : OpenClaim := { program := "ytbkiekkconlebaa", sum := "ff4eaca3e5ef9a7c48e1f0e05902991d0d492162a9e9986c8f893672a54a38fe", func := "protean/proteanlaw21.ConformWrites", spec := "conformWrites", unfollowed := true, recurses := true, plainKeys := false, apart := false }
def ConformWritesSaid : Prop := conformWritesRow.holds Try.pinned (OpenSpec.ofChange conformWritesSpec)

/-- ITS FALSE NEIGHBOUR: 'it returns false'. Refute it at one input. -/
def conformWritesWrong : ChangeSpec := { name := "conformWrites", fn := fun _ => fun
  | [d1, d2] => { results := [.lit (.bool false)], args := [d1, d2] }
  | _ => none }
def ConformWritesWrongFalsely : Prop := conformWritesRow.holds Try.pinned (OpenSpec.ofChange conformWritesWrong)

/-- 'proteanlaw21.ConformHavocs': WHATEVER THE INPUT: true; the input reads as it did. -/
def conformHavocsSpec : ChangeSpec := { name := "conformHavocs", fn := fun _ => fun
  | [d1, d2, d3] => { results := [.lit (.bool true)], args := [d1, d2, d3] }
  | _ => none }
def conformHavocsRow : OpenClaim := { program := "ytbkiekkconlebaa", sum := "ff4eaca3e5ef9a7c48e1f0e05902991d0d492162a9e9986c8f893672a54a38fe", func := "protean/proteanlaw21.ConformHavocs", spec := "conformHavocs", unfollowed := true, recurses := true, plainKeys := false, apart := false }
def ConformHavocsSaid : Prop := conformHavocsRow.holds Try.pinned (OpenSpec.ofChange conformHavocsSpec)

/-- ITS FALSE NEIGHBOUR: 'it returns false'. Refute it at one input. -/
def conformHavocsWrong : ChangeSpec := { name := "conformHavocs", fn := fun _ => fun
  | [d1, d2, d3] => { results := [.lit (.bool false)], args := [d1, d2, d3] }
  | _ => none }
def ConformHavocsWrongFalsely : Prop := conformHavocsRow.holds Try.pinned (OpenSpec.ofChange conformHavocsWrong)

/-- 'proteanlaw21.ConformGrows': WHATEVER THE INPUT: true; the input reads as it did. -/
def conformGrowsSpec : ChangeSpec := { name := "conformGrows", fn := fun _ => fun
  | [d1, d2, d3] => { results := [.lit (.bool true)], args := [d1, d2, d3] }
  | _ => none }
def conformGrowsRow : OpenClaim := { program := "ytbkiekkconlebaa", sum := "ff4eaca3e5ef9a7c48e1f0e05902991d0d492162a9e9986c8f893672a54a38fe", func := "protean/proteanlaw21.ConformGrows", spec := "conformGrows", unfollowed := true, recurses := true, plainKeys := false, apart := false }
def ConformGrowsSaid : Prop := conformGrowsRow.holds Try.pinned (OpenSpec.ofChange conformGrowsSpec)

/-- ITS FALSE NEIGHBOUR: 'it returns false'. Refute it at one input. -/
def conformGrowsWrong : ChangeSpec := { name := "conformGrows", fn := fun _ => fun
  | [d1, d2, d3] => { results := [.lit (.bool false)], args := [d1, d2, d3] }
  | _ => none }
def ConformGrowsWrongFalsely : Prop := conformGrowsRow.holds Try.pinned (OpenSpec.ofChange conformGrowsWrong)

/- THE SECOND FORM. 'bulk': how many values and letters a reading holds, each counted each time it is reached (what is shared counts as often as it is met; a slice's spare places count too). A statement '..UptoSaid' is the law's where the arguments, and the package variables that the reading takes, are together of bulk at most 1048576: NARROWER than '..Said'. Prove '..Said' where nothing that the law and all that it calls make is longer than what came in: it says more and counts as full. Else prove '..UptoSaid'. A law counts once. -/
mutual
def uptoBulk {H : Type} : DataW H → Nat
  | .lit (.string bytes) => bytes.length + 1
  | .lit _ => 1
  | .nil => 1
  | .ptr d => uptoBulk d + 1
  | .slice elems spare => uptoBulkAll elems + uptoBulkAll spare + 1
  | .agg parts => uptoBulkAll parts + 1
  | .iface _ d => uptoBulk d + 1
  | .map entries => uptoBulkEntries entries + 1
  | .held _ => 1
def uptoBulkAll {H : Type} : List (DataW H) → Nat
  | [] => 0
  | d :: r => uptoBulk d + uptoBulkAll r
def uptoBulkEntries {H : Type} : List (Lit × DataW H) → Nat
  | [] => 0
  | x :: r => uptoBulkEntry x + uptoBulkEntries r
def uptoBulkEntry {H : Type} : Lit × DataW H → Nat
  | (.string bytes, d) => bytes.length + uptoBulk d + 1
  | (_, d) => uptoBulk d + 1
 end
def uptoSmall : (H : Type) → List (DataW H) → Bool := fun _ ds => decide (uptoBulkAll ds ≤ 1048576)
def OpenSpec.upto (s : _root_.Go.ChangeSpec) : _root_.Go.OpenSpec := { _root_.Go.OpenSpec.ofChange s with cond := some uptoSmall }

/-- 'proteanlaw24.TypesTells', WHERE WHAT IT READS IS OF BULK AT MOST 1048576: true; the input reads as it did. -/
def typesTellsUptoRow : OpenClaim := { program := "ytbkiekkconlebaa", sum := "ff4eaca3e5ef9a7c48e1f0e05902991d0d492162a9e9986c8f893672a54a38fe", func := "protean/proteanlaw24.TypesTells", spec := "typesTells", inPlace := ["internal/bytealg.abigen_runtime_cmpstring"], unfollowed := true, recurses := true, plainKeys := false, apart := false, narrowed := true }
def TypesTellsUptoSaid : Prop := typesTellsUptoRow.holds Try.pinned (OpenSpec.upto typesTellsSpec)

/-- 'proteanlaw24.TypesOrder', WHERE WHAT IT READS IS OF BULK AT MOST 1048576: true; the input reads as it did. -/
def typesOrderUptoRow : OpenClaim := { program := "ytbkiekkconlebaa", sum := "ff4eaca3e5ef9a7c48e1f0e05902991d0d492162a9e9986c8f893672a54a38fe", func := "protean/proteanlaw24.TypesOrder", spec := "typesOrder", inPlace := ["internal/bytealg.abigen_runtime_cmpstring"], unfollowed := true, recurses := true, plainKeys := false, apart := false, narrowed := true }
def TypesOrderUptoSaid : Prop := typesOrderUptoRow.holds Try.pinned (OpenSpec.upto typesOrderSpec)

/-- 'proteanlaw24.TypesSound', WHERE WHAT IT READS IS OF BULK AT MOST 1048576: true; the input reads as it did. -/
def typesSoundUptoRow : OpenClaim := { program := "ytbkiekkconlebaa", sum := "ff4eaca3e5ef9a7c48e1f0e05902991d0d492162a9e9986c8f893672a54a38fe", func := "protean/proteanlaw24.TypesSound", spec := "typesSound", inPlace := ["internal/bytealg.abigen_runtime_cmpstring"], unfollowed := true, recurses := true, plainKeys := false, apart := false, narrowed := true }
def TypesSoundUptoSaid : Prop := typesSoundUptoRow.holds Try.pinned (OpenSpec.upto typesSoundSpec)

/-- 'proteanlaw24.TypesGrow', WHERE WHAT IT READS IS OF BULK AT MOST 1048576: true; the input reads as it did. -/
def typesGrowUptoRow : OpenClaim := { program := "ytbkiekkconlebaa", sum := "ff4eaca3e5ef9a7c48e1f0e05902991d0d492162a9e9986c8f893672a54a38fe", func := "protean/proteanlaw24.TypesGrow", spec := "typesGrow", inPlace := ["internal/bytealg.abigen_runtime_cmpstring"], unfollowed := true, recurses := true, plainKeys := false, apart := false, narrowed := true }
def TypesGrowUptoSaid : Prop := typesGrowUptoRow.holds Try.pinned (OpenSpec.upto typesGrowSpec)

/-- 'proteanlaw21.ConformTells', WHERE WHAT IT READS IS OF BULK AT MOST 1048576: true; the input reads as it did. -/
def conformTellsUptoRow : OpenClaim := { program := "ytbkiekkconlebaa", sum := "ff4eaca3e5ef9a7c48e1f0e05902991d0d492162a9e9986c8f893672a54a38fe", func := "protean/proteanlaw21.ConformTells", spec := "conformTells", unfollowed := true, recurses := true, plainKeys := false, apart := false, narrowed := true }
def ConformTellsUptoSaid : Prop := conformTellsUptoRow.holds Try.pinned (OpenSpec.upto conformTellsSpec)

/-- 'proteanlaw21.ConformRises', WHERE WHAT IT READS IS OF BULK AT MOST 1048576: true; the input reads as it did. -/
def conformRisesUptoRow : OpenClaim := { program := "ytbkiekkconlebaa", sum := "ff4eaca3e5ef9a7c48e1f0e05902991d0d492162a9e9986c8f893672a54a38fe", func := "protean/proteanlaw21.ConformRises", spec := "conformRises", unfollowed := true, recurses := true, plainKeys := false, apart := false, narrowed := true }
def ConformRisesUptoSaid : Prop := conformRisesUptoRow.holds Try.pinned (OpenSpec.upto conformRisesSpec)

/-- 'proteanlaw21.ConformFinds', WHERE WHAT IT READS IS OF BULK AT MOST 1048576: true; the input reads as it did. -/
def conformFindsUptoRow : OpenClaim := { program := "ytbkiekkconlebaa", sum := "ff4eaca3e5ef9a7c48e1f0e05902991d0d492162a9e9986c8f893672a54a38fe", func := "protean/proteanlaw21.ConformFinds", spec := "conformFinds", unfollowed := true, recurses := true, plainKeys := false, apart := false, narrowed := true }
def ConformFindsUptoSaid : Prop := conformFindsUptoRow.holds Try.pinned (OpenSpec.upto conformFindsSpec)

/-- 'proteanlaw21.ConformWrites', WHERE WHAT IT READS IS OF BULK AT MOST 1048576: true; the input reads as it did. -/
def conformWritesUptoRow : OpenClaim := { program := "ytbkiekkconlebaa", sum := "ff4eaca3e5ef9a7c48e1f0e05902991d0d492162a9e9986c8f893672a54a38fe", func := "protean/proteanlaw21.ConformWrites", spec := "conformWrites", unfollowed := true, recurses := true, plainKeys := false, apart := false, narrowed := true }
def ConformWritesUptoSaid : Prop := conformWritesUptoRow.holds Try.pinned (OpenSpec.upto conformWritesSpec)

/-- 'proteanlaw21.ConformHavocs', WHERE WHAT IT READS IS OF BULK AT MOST 1048576: true; the input reads as it did. -/
def conformHavocsUptoRow : OpenClaim := { program := "ytbkiekkconlebaa", sum := "ff4eaca3e5ef9a7c48e1f0e05902991d0d492162a9e9986c8f893672a54a38fe", func := "protean/proteanlaw21.ConformHavocs", spec := "conformHavocs", unfollowed := true, recurses := true, plainKeys := false, apart := false, narrowed := true }
def ConformHavocsUptoSaid : Prop := conformHavocsUptoRow.holds Try.pinned (OpenSpec.upto conformHavocsSpec)

/-- 'proteanlaw21.ConformGrows', WHERE WHAT IT READS IS OF BULK AT MOST 1048576: true; the input reads as it did. -/
def conformGrowsUptoRow : OpenClaim := { program := "ytbkiekkconlebaa", sum := "ff4eaca3e5ef9a7c48e1f0e05902991d0d492162a9e9986c8f893672a54a38fe", func := "protean/proteanlaw21.ConformGrows", spec := "conformGrows", unfollowed := true, recurses := true, plainKeys := false, apart := false, narrowed := true }
def ConformGrowsUptoSaid : Prop := conformGrowsUptoRow.holds Try.pinned (OpenSpec.upto conformGrowsSpec)

end Rows
end Go.Proofs.Ytbkiekkconlebaa
