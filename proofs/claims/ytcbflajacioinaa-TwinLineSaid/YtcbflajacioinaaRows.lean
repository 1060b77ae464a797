/-
  No cell of these rows narrows 'for every input' (looked for: loops, veiled, ifaces, maps, wideKeys, modest, calm, conditions, laid).
  DERIVED. THE GIVEN ROWS OF THIS SEAT. 7 by the template 'for every input the law returns true; each argument reads behind the call as it read before'; 0 by the template 'total and deterministic' (their statements: YtcbflajacioinaaTotals.lean).
  GIVEN WITH THE SEED: the statements are not yours to turn. If you find one false, say at which input.
  Laid BY PROGRAM, IN A SANDBOX (cutbox-rows.mjs): the forced cells as the released guide's own fill.sh prints them over the translation 7389e6c787fddebd… (all of the seat's roots in one cut). By AI agents, Wed Nov 11 2026. No macro, syntax, notation, axiom, sorry.
-/
import Derived.Test.YtcbflajacioinaaChecked
import GoSem.Claim
import GoSem.ClaimJoined
import GoSem.ClaimMapViews
import Derived.JoinedTies
import Derived.KernelRfl
namespace Go.Proofs.Ytcbflajacioinaa
/- THE CELL 'sum', in the pinned program and in every row, IS THE sha256 OF THE DUMP (.gsa) THAT YtcbflajacioinaaProg.lean LOADS. Nothing in Lean hashes anything: it is a label: what it is worth is what the hold of that sum in a sandbox is worth. -/
noncomputable def Try.pinned : Pinned := { name := "ytcbflajacioinaa", sum := "7389e6c787fddebd888c4faf053043219cf5e577055e70be76f3ecc90bea013c", checked := Try.checked }
namespace Rows
def none {H : Type} : Left H := { results := [], args := [] }

/-- 'phalaropelaw17.FindPlaces': WHATEVER THE INPUT: true; the input reads as it did. -/
def findPlacesSpec : ChangeSpec := { name := "findPlaces", fn := fun _ => fun
  | [d1, d2, d3] => { results := [.lit (.bool true)], args := [d1, d2, d3] }
  | _ => none }
def findPlacesRow : OpenClaim := { program := "ytcbflajacioinaa", sum := "7389e6c787fddebd888c4faf053043219cf5e577055e70be76f3ecc90bea013c", func := "phalarope/phalaropelaw17.FindPlaces", spec := "findPlaces", unfollowed := true, recurses := true, plainKeys := false, apart := false }
def FindPlacesSaid : Prop := findPlacesRow.holds Try.pinned (OpenSpec.ofChange findPlacesSpec)

/-- ITS FALSE NEIGHBOUR: 'it returns false'. Refute it at one input. -/
def findPlacesWrong : ChangeSpec := { name := "findPlaces", fn := fun _ => fun
  | [d1, d2, d3] => { results := [.lit (.bool false)], args := [d1, d2, d3] }
  | _ => none }
def FindPlacesWrongFalsely : Prop := findPlacesRow.holds Try.pinned (OpenSpec.ofChange findPlacesWrong)

/-- 'phalaropelaw17.FindTells': WHATEVER THE INPUT: true; the input reads as it did. -/
def findTellsSpec : ChangeSpec := { name := "findTells", fn := fun _ => fun
  | [d1, d2, d3] => { results := [.lit (.bool true)], args := [d1, d2, d3] }
  | _ => none }
def findTellsRow : OpenClaim := { program := "ytcbflajacioinaa", sum := "7389e6c787fddebd888c4faf053043219cf5e577055e70be76f3ecc90bea013c", func := "phalarope/phalaropelaw17.FindTells", spec := "findTells", unfollowed := true, recurses := true, plainKeys := false, apart := false }
def FindTellsSaid : Prop := findTellsRow.holds Try.pinned (OpenSpec.ofChange findTellsSpec)

/-- ITS FALSE NEIGHBOUR: 'it returns false'. Refute it at one input. -/
def findTellsWrong : ChangeSpec := { name := "findTells", fn := fun _ => fun
  | [d1, d2, d3] => { results := [.lit (.bool false)], args := [d1, d2, d3] }
  | _ => none }
def FindTellsWrongFalsely : Prop := findTellsRow.holds Try.pinned (OpenSpec.ofChange findTellsWrong)

/-- 'phalaropelaw17.FindNobody': WHATEVER THE INPUT: true; the input reads as it did. -/
def findNobodySpec : ChangeSpec := { name := "findNobody", fn := fun _ => fun
  | [d1, d2, d3] => { results := [.lit (.bool true)], args := [d1, d2, d3] }
  | _ => none }
def findNobodyRow : OpenClaim := { program := "ytcbflajacioinaa", sum := "7389e6c787fddebd888c4faf053043219cf5e577055e70be76f3ecc90bea013c", func := "phalarope/phalaropelaw17.FindNobody", spec := "findNobody", unfollowed := true, recurses := true, plainKeys := false, apart := false }
def FindNobodySaid : Prop := findNobodyRow.holds Try.pinned (OpenSpec.ofChange findNobodySpec)

/-- ITS FALSE NEIGHBOUR: 'it returns false'. Refute it at one input. -/
def findNobodyWrong : ChangeSpec := { name := "findNobody", fn := fun _ => fun
  | [d1, d2, d3] => { results := [.lit (.bool false)], args := [d1, d2, d3] }
  | _ => none }
def FindNobodyWrongFalsely : Prop := findNobodyRow.holds Try.pinned (OpenSpec.ofChange findNobodyWrong)

/-- 'phalaropelaw17.FindMarks': WHATEVER THE INPUT: true; the input reads as it did. -/
def findMarksSpec : ChangeSpec := { name := "findMarks", fn := fun _ => fun
  | [d1, d2] => { results := [.lit (.bool true)], args := [d1, d2] }
  | _ => none }
def findMarksRow : OpenClaim := { program := "ytcbflajacioinaa", sum := "7389e6c787fddebd888c4faf053043219cf5e577055e70be76f3ecc90bea013c", func := "phalarope/phalaropelaw17.FindMarks", spec := "findMarks", unfollowed := true, recurses := true, plainKeys := false, apart := false }
def FindMarksSaid : Prop := findMarksRow.holds Try.pinned (OpenSpec.ofChange findMarksSpec)

/-- ITS FALSE NEIGHBOUR: 'it returns false'. Refute it at one input. -/
def findMarksWrong : ChangeSpec := { name := "findMarks", fn := fun _ => fun
  | [d1, d2] => { results := [.lit (.bool false)], args := [d1, d2] }
  | _ => none }
def FindMarksWrongFalsely : Prop := findMarksRow.holds Try.pinned (OpenSpec.ofChange findMarksWrong)

/-- 'phalaropelaw20.TwinForks': WHATEVER THE INPUT: true; the input reads as it did. -/
def twinForksSpec : ChangeSpec := { name := "twinForks", fn := fun _ => fun
  | [d] => { results := [.lit (.bool true)], args := [d] }
  | _ => none }
def twinForksRow : OpenClaim := { program := "ytcbflajacioinaa", sum := "7389e6c787fddebd888c4faf053043219cf5e577055e70be76f3ecc90bea013c", func := "phalarope/phalaropelaw20.TwinForks", spec := "twinForks", unfollowed := true, recurses := true, plainKeys := false, apart := false }
def TwinForksSaid : Prop := twinForksRow.holds Try.pinned (OpenSpec.ofChange twinForksSpec)

/-- ITS FALSE NEIGHBOUR: 'it returns false'. Refute it at one input. -/
def twinForksWrong : ChangeSpec := { name := "twinForks", fn := fun _ => fun
  | [d] => { results := [.lit (.bool false)], args := [d] }
  | _ => none }
def TwinForksWrongFalsely : Prop := twinForksRow.holds Try.pinned (OpenSpec.ofChange twinForksWrong)

/-- 'phalaropelaw20.TwinLine': WHATEVER THE INPUT: true; the input reads as it did. -/
def twinLineSpec : ChangeSpec := { name := "twinLine", fn := fun _ => fun
  | [d] => { results := [.lit (.bool true)], args := [d] }
  | _ => none }
def twinLineRow : OpenClaim := { program := "ytcbflajacioinaa", sum := "7389e6c787fddebd888c4faf053043219cf5e577055e70be76f3ecc90bea013c", func := "phalarope/phalaropelaw20.TwinLine", spec := "twinLine", unfollowed := true, recurses := true, plainKeys := false, apart := false }
def TwinLineSaid : Prop := twinLineRow.holds Try.pinned (OpenSpec.ofChange twinLineSpec)

/-- ITS FALSE NEIGHBOUR: 'it returns false'. Refute it at one input. -/
def twinLineWrong : ChangeSpec := { name := "twinLine", fn := fun _ => fun
  | [d] => { results := [.lit (.bool false)], args := [d] }
  | _ => none }
def TwinLineWrongFalsely : Prop := twinLineRow.holds Try.pinned (OpenSpec.ofChange twinLineWrong)

/-- 'phalaropelaw20.TwinNone': WHATEVER THE INPUT: true; the input reads as it did. -/
def twinNoneSpec : ChangeSpec := { name := "twinNone", fn := fun _ => fun
  | [d1, d2] => { results := [.lit (.bool true)], args := [d1, d2] }
  | _ => none }
def twinNoneRow : OpenClaim := { program := "ytcbflajacioinaa", sum := "7389e6c787fddebd888c4faf053043219cf5e577055e70be76f3ecc90bea013c", func := "phalarope/phalaropelaw20.TwinNone", spec := "twinNone", unfollowed := true, recurses := true, plainKeys := false, apart := false }
def TwinNoneSaid : Prop := twinNoneRow.holds Try.pinned (OpenSpec.ofChange twinNoneSpec)

/-- ITS FALSE NEIGHBOUR: 'it returns false'. Refute it at one input. -/
def twinNoneWrong : ChangeSpec := { name := "twinNone", fn := fun _ => fun
  | [d1, d2] => { results := [.lit (.bool false)], args := [d1, d2] }
  | _ => none }
def TwinNoneWrongFalsely : Prop := twinNoneRow.holds Try.pinned (OpenSpec.ofChange twinNoneWrong)

/- THE SECOND FORM. 'bulk': how many values and letters a reading holds, each counted each time it is reached (what is shared counts as often as it is met; a slice's spare places count too). A statement '..UptoSaid' is the law's where the arguments, and the package variables that the reading takes, are together of bulk at most 1048576: NARROWER than '..Said'. Prove '..Said' where nothing that the law and all that it calls make is longer than what came in: it says more and counts as full. Else prove '..UptoSaid'. A law counts once. -/
mutual
def uptoBulk {H : Type} : DataW H → Nat
  | .lit (.string bytes) => bytes.length + 1
  | .lit _ => 1
  | .nil => 1
  | .ptr d => uptoBulk d + 1
  | .slice elems spare => uptoBulkAll elems + uptoBulkAll spare + 1
  | .agg parts => uptoBulkAll parts + 1
  | .iface _ d => uptoBulk d + 1
  | .map entries => uptoBulkEntries entries + 1
  | .held _ => 1
def uptoBulkAll {H : Type} : List (DataW H) → Nat
  | [] => 0
  | d :: r => uptoBulk d + uptoBulkAll r
def uptoBulkEntries {H : Type} : List (Lit × DataW H) → Nat
  | [] => 0
  | x :: r => uptoBulkEntry x + uptoBulkEntries r
def uptoBulkEntry {H : Type} : Lit × DataW H → Nat
  | (.string bytes, d) => bytes.length + uptoBulk d + 1
  | (_, d) => uptoBulk d + 1
 end
def uptoSmall : (H : Type) → List (DataW H) → Bool := fun _ ds => decide (uptoBulkAll ds ≤ 1048576)
def OpenSpec.upto (s : _root_.Go.ChangeSpec) : _root_.Go.OpenSpec := { _root_.Go.OpenSpec.ofChange s with cond := some uptoSmall }

/-- 'phalaropelaw17.FindPlaces', WHERE WHAT IT READS IS OF BULK AT MOST 1048576: true; the input reads as it did. -/
def findPlacesUptoRow : OpenClaim := { program := "ytcbflajacioinaa", sum := "7389e6c787fddebd888c4faf053043219cf5e577055e70be76f3ecc90bea013c", func := "phalarope/phalaropelaw17.FindPlaces", spec := "findPlaces", unfollowed := true, recurses := true, plainKeys := false, apart := false, narrowed := true }
def FindPlacesUptoSaid : Prop := findPlacesUptoRow.holds Try.pinned (OpenSpec.upto findPlacesSpec)

/-- 'phalaropelaw17.FindTells', WHERE WHAT IT READS IS OF BULK AT MOST 1048576: true; the input reads as it did. -/
def findTellsUptoRow : OpenClaim := { program := "ytcbflajacioinaa", sum := "7389e6c787fddebd888c4faf053043219cf5e577055e70be76f3ecc90bea013c", func := "phalarope/phalaropelaw17.FindTells", spec := "findTells", unfollowed := true, recurses := true, plainKeys := false, apart := false, narrowed := true }
def FindTellsUptoSaid : Prop := findTellsUptoRow.holds Try.pinned (OpenSpec.upto findTellsSpec)

/-- 'phalaropelaw17.FindNobody', WHERE WHAT IT READS IS OF BULK AT MOST 1048576: true; the input reads as it did. -/
def findNobodyUptoRow : OpenClaim := { program := "ytcbflajacioinaa", sum := "7389e6c787fddebd888c4faf053043219cf5e577055e70be76f3ecc90bea013c", func := "phalarope/phalaropelaw17.FindNobody", spec := "findNobody", unfollowed := true, recurses := true, plainKeys := false, apart := false, narrowed := true }
def FindNobodyUptoSaid : Prop := findNobodyUptoRow.holds Try.pinned (OpenSpec.upto findNobodySpec)

/-- 'phalaropelaw17.FindMarks', WHERE WHAT IT READS IS OF BULK AT MOST 1048576: true; the input reads as it did. -/
def findMarksUptoRow : OpenClaim := { program := "ytcbflajacioinaa", sum := "7389e6c787fddebd888c4faf053043219cf5e577055e70be76f3ecc90bea013c", func := "phalarope/phalaropelaw17.FindMarks", spec := "findMarks", unfollowed := true, recurses := true, plainKeys := false, apart := false, narrowed := true }
def FindMarksUptoSaid : Prop := findMarksUptoRow.holds Try.pinned (OpenSpec.upto findMarksSpec)

/-- 'phalaropelaw20.TwinForks', WHERE WHAT IT READS IS OF BULK AT MOST 1048576: true; the input reads as it did. -/
def twinForksUptoRow : OpenClaim := { program := "ytcbflajacioinaa", sum := "7389e6c787fddebd888c4faf053043219cf5e577055e70be76f3ecc90bea013c", func := "phalarope/phalaropelaw20.TwinForks", spec := "twinForks", unfollowed := true, recurses := true, plainKeys := false, apart := false, narrowed := true }
def TwinForksUptoSaid : Prop := twinForksUptoRow.holds Try.pinned (OpenSpec.upto twinForksSpec)

/-- 'phalaropelaw20.TwinLine', WHERE WHAT IT READS IS OF BULK AT MOST 1048576: true; the input reads as it did. -/
def twinLineUptoRow : OpenClaim := { program := "ytcbflajacioinaa", sum := "7389e6c787fddebd888c4faf053043219cf5e577055e70be76f3ecc90bea013c", func := "phalarope/phalaropelaw20.TwinLine", spec := "twinLine", unfollowed := true, recurses := true, plainKeys := false, apart := false, narrowed := true }
def TwinLineUptoSaid : Prop := twinLineUptoRow.holds Try.pinned (OpenSpec.upto twinLineSpec)

/-- 'phalaropelaw20.TwinNone', WHERE WHAT IT READS IS OF BULK AT MOST 1048576: true; the input reads as it did. -/
def twinNoneUptoRow : OpenClaim := { program := "ytcbflajacioinaa", sum := "7389e6c787fddebd888c4faf053043219cf5e577055e70be76f3ecc90bea013c", func := "phalarope/phalaropelaw20.TwinNone", spec := "twinNone", unfollowed := true, recurses := true, plainKeys := false, apart := false, narrowed := true }
def TwinNoneUptoSaid : Prop := twinNoneUptoRow.holds Try.pinned (OpenSpec.upto twinNoneSpec)

end Rows
end Go.Proofs.Ytcbflajacioinaa
