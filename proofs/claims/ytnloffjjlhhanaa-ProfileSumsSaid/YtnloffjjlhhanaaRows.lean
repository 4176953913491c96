/-
  No cell of these rows narrows 'for every input' (looked for: loops, veiled, ifaces, maps, wideKeys, modest, calm, conditions, laid).
  DERIVED. THE GIVEN ROWS OF THIS SEAT. 7 by the template 'for every input the law returns true; each argument reads behind the call as it read before'; 0 by the template 'total and deterministic' (their statements: YtnloffjjlhhanaaTotals.lean).
  GIVEN WITH THE SEED: the statements are not yours to turn. If you find one false, say at which input.
  Laid BY PROGRAM, IN A SANDBOX (cutbox-rows.mjs): the forced cells as the released guide's own fill.sh prints them over the translation 209779076b5e81ca… (all of the seat's roots in one cut). By AI agents, Wed Nov 11 2026. No macro, syntax, notation, axiom, sorry.
-/
import Derived.Test.YtnloffjjlhhanaaChecked
import GoSem.Claim
import GoSem.ClaimJoined
import GoSem.ClaimMapViews
import Derived.JoinedTies
import Derived.KernelRfl
namespace Go.Proofs.Ytnloffjjlhhanaa
/- THE CELL 'sum', in the pinned program and in every row, IS THE sha256 OF THE DUMP (.gsa) THAT YtnloffjjlhhanaaProg.lean LOADS. Nothing in Lean hashes anything: it is a label: what it is worth is what the hold of that sum in a sandbox is worth. -/
noncomputable def Try.pinned : Pinned := { name := "ytnloffjjlhhanaa", sum := "209779076b5e81cabf7665e2e2f9f31989ffe26e145d469b99a8b49d7a348b5a", checked := Try.checked }
namespace Rows
def none {H : Type} : Left H := { results := [], args := [] }

/-- 'virgatelaw17.ProfileRight': WHATEVER THE INPUT: true; the input reads as it did. -/
def profileRightSpec : ChangeSpec := { name := "profileRight", fn := fun _ => fun
  | [d] => { results := [.lit (.bool true)], args := [d] }
  | _ => none }
def profileRightRow : OpenClaim := { program := "ytnloffjjlhhanaa", sum := "209779076b5e81cabf7665e2e2f9f31989ffe26e145d469b99a8b49d7a348b5a", func := "virgate/virgatelaw17.ProfileRight", spec := "profileRight", unfollowed := true, recurses := true, apart := false }
def ProfileRightSaid : Prop := profileRightRow.holds Try.pinned (OpenSpec.ofChange profileRightSpec)

/-- ITS FALSE NEIGHBOUR: 'it returns false'. Refute it at one input. -/
def profileRightWrong : ChangeSpec := { name := "profileRight", fn := fun _ => fun
  | [d] => { results := [.lit (.bool false)], args := [d] }
  | _ => none }
def ProfileRightWrongFalsely : Prop := profileRightRow.holds Try.pinned (OpenSpec.ofChange profileRightWrong)

/-- 'virgatelaw17.ProfileBegins': WHATEVER THE INPUT: true; the input reads as it did. -/
def profileBeginsSpec : ChangeSpec := { name := "profileBegins", fn := fun _ => fun
  | [d1, d2] => { results := [.lit (.bool true)], args := [d1, d2] }
  | _ => none }
def profileBeginsRow : OpenClaim := { program := "ytnloffjjlhhanaa", sum := "209779076b5e81cabf7665e2e2f9f31989ffe26e145d469b99a8b49d7a348b5a", func := "virgate/virgatelaw17.ProfileBegins", spec := "profileBegins", unfollowed := true, recurses := true, apart := false }
def ProfileBeginsSaid : Prop := profileBeginsRow.holds Try.pinned (OpenSpec.ofChange profileBeginsSpec)

/-- ITS FALSE NEIGHBOUR: 'it returns false'. Refute it at one input. -/
def profileBeginsWrong : ChangeSpec := { name := "profileBegins", fn := fun _ => fun
  | [d1, d2] => { results := [.lit (.bool false)], args := [d1, d2] }
  | _ => none }
def ProfileBeginsWrongFalsely : Prop := profileBeginsRow.holds Try.pinned (OpenSpec.ofChange profileBeginsWrong)

/-- 'virgatelaw17.ProfileLines': WHATEVER THE INPUT: true; the input reads as it did. -/
def profileLinesSpec : ChangeSpec := { name := "profileLines", fn := fun _ => fun
  | [d] => { results := [.lit (.bool true)], args := [d] }
  | _ => none }
def profileLinesRow : OpenClaim := { program := "ytnloffjjlhhanaa", sum := "209779076b5e81cabf7665e2e2f9f31989ffe26e145d469b99a8b49d7a348b5a", func := "virgate/virgatelaw17.ProfileLines", spec := "profileLines", unfollowed := true, recurses := true, apart := false }
def ProfileLinesSaid : Prop := profileLinesRow.holds Try.pinned (OpenSpec.ofChange profileLinesSpec)

/-- ITS FALSE NEIGHBOUR: 'it returns false'. Refute it at one input. -/
def profileLinesWrong : ChangeSpec := { name := "profileLines", fn := fun _ => fun
  | [d] => { results := [.lit (.bool false)], args := [d] }
  | _ => none }
def ProfileLinesWrongFalsely : Prop := profileLinesRow.holds Try.pinned (OpenSpec.ofChange profileLinesWrong)

/-- 'virgatelaw17.ProfileMost': WHATEVER THE INPUT: true; the input reads as it did. -/
def profileMostSpec : ChangeSpec := { name := "profileMost", fn := fun _ => fun
  | [d] => { results := [.lit (.bool true)], args := [d] }
  | _ => none }
def profileMostRow : OpenClaim := { program := "ytnloffjjlhhanaa", sum := "209779076b5e81cabf7665e2e2f9f31989ffe26e145d469b99a8b49d7a348b5a", func := "virgate/virgatelaw17.ProfileMost", spec := "profileMost", unfollowed := true, recurses := true, apart := false }
def ProfileMostSaid : Prop := profileMostRow.holds Try.pinned (OpenSpec.ofChange profileMostSpec)

/-- ITS FALSE NEIGHBOUR: 'it returns false'. Refute it at one input. -/
def profileMostWrong : ChangeSpec := { name := "profileMost", fn := fun _ => fun
  | [d] => { results := [.lit (.bool false)], args := [d] }
  | _ => none }
def ProfileMostWrongFalsely : Prop := profileMostRow.holds Try.pinned (OpenSpec.ofChange profileMostWrong)

/-- 'virgatelaw17.ProfileGraph': WHATEVER THE INPUT: true; the input reads as it did. -/
def profileGraphSpec : ChangeSpec := { name := "profileGraph", fn := fun _ => fun
  | [d1, d2] => { results := [.lit (.bool true)], args := [d1, d2] }
  | _ => none }
def profileGraphRow : OpenClaim := { program := "ytnloffjjlhhanaa", sum := "209779076b5e81cabf7665e2e2f9f31989ffe26e145d469b99a8b49d7a348b5a", func := "virgate/virgatelaw17.ProfileGraph", spec := "profileGraph", unfollowed := true, recurses := true, apart := false }
def ProfileGraphSaid : Prop := profileGraphRow.holds Try.pinned (OpenSpec.ofChange profileGraphSpec)

/-- ITS FALSE NEIGHBOUR: 'it returns false'. Refute it at one input. -/
def profileGraphWrong : ChangeSpec := { name := "profileGraph", fn := fun _ => fun
  | [d1, d2] => { results := [.lit (.bool false)], args := [d1, d2] }
  | _ => none }
def ProfileGraphWrongFalsely : Prop := profileGraphRow.holds Try.pinned (OpenSpec.ofChange profileGraphWrong)

/-- 'virgatelaw17.ProfilePages': WHATEVER THE INPUT: true; the input reads as it did. -/
def profilePagesSpec : ChangeSpec := { name := "profilePages", fn := fun _ => fun
  | [d1, d2] => { results := [.lit (.bool true)], args := [d1, d2] }
  | _ => none }
def profilePagesRow : OpenClaim := { program := "ytnloffjjlhhanaa", sum := "209779076b5e81cabf7665e2e2f9f31989ffe26e145d469b99a8b49d7a348b5a", func := "virgate/virgatelaw17.ProfilePages", spec := "profilePages", unfollowed := true, recurses := true, apart := false }
def ProfilePagesSaid : Prop := profilePagesRow.holds Try.pinned (OpenSpec.ofChange profilePagesSpec)

/-- ITS FALSE NEIGHBOUR: 'it returns false'. Refute it at one input. -/
def profilePagesWrong : ChangeSpec := { name := "profilePages", fn := fun _ => fun
  | [d1, d2] => { results := [.lit (.bool false)], args := [d1, d2] }
  | _ => none }
def ProfilePagesWrongFalsely : Prop := profilePagesRow.holds Try.pinned (OpenSpec.ofChange profilePagesWrong)

/-- 'virgatelaw17.ProfileSums': WHATEVER THE INPUT: true; the input reads as it did. -/
def profileSumsSpec : ChangeSpec := { name := "profileSums", fn := fun _ => fun
  | [d] => { results := [.lit (.bool true)], args := [d] }
  | _ => none }
def profileSumsRow : OpenClaim := { program := "ytnloffjjlhhanaa", sum := "209779076b5e81cabf7665e2e2f9f31989ffe26e145d469b99a8b49d7a348b5a", func := "virgate/virgatelaw17.ProfileSums", spec := "profileSums", unfollowed := true, recurses := true, apart := false }
def ProfileSumsSaid : Prop := profileSumsRow.holds Try.pinned (OpenSpec.ofChange profileSumsSpec)

/-- ITS FALSE NEIGHBOUR: 'it returns false'. Refute it at one input. -/
def profileSumsWrong : ChangeSpec := { name := "profileSums", fn := fun _ => fun
  | [d] => { results := [.lit (.bool false)], args := [d] }
  | _ => none }
def ProfileSumsWrongFalsely : Prop := profileSumsRow.holds Try.pinned (OpenSpec.ofChange profileSumsWrong)

/- THE SECOND FORM. 'bulk': how many values and letters a reading holds, each counted each time it is reached (what is shared counts as often as it is met; a slice's spare places count too). A statement '..UptoSaid' is the law's where the arguments, and the package variables that the reading takes, are together of bulk at most 1048576: NARROWER than '..Said'. Prove '..Said' where nothing that the law and all that it calls make is longer than what came in: it says more and counts as full. Else prove '..UptoSaid'. A law counts once. -/
mutual
def uptoBulk {H : Type} : DataW H → Nat
  | .lit (.string bytes) => bytes.length + 1
  | .lit _ => 1
  | .nil => 1
  | .ptr d => uptoBulk d + 1
  | .slice elems spare => uptoBulkAll elems + uptoBulkAll spare + 1
  | .agg parts => uptoBulkAll parts + 1
  | .iface _ d => uptoBulk d + 1
  | .map entries => uptoBulkEntries entries + 1
  | .held _ => 1
def uptoBulkAll {H : Type} : List (DataW H) → Nat
  | [] => 0
  | d :: r => uptoBulk d + uptoBulkAll r
def uptoBulkEntries {H : Type} : List (Lit × DataW H) → Nat
  | [] => 0
  | x :: r => uptoBulkEntry x + uptoBulkEntries r
def uptoBulkEntry {H : Type} : Lit × DataW H → Nat
  | (.string bytes, d) => bytes.length + uptoBulk d + 1
  | (_, d) => uptoBulk d + 1
 end
def uptoSmall : (H : Type) → List (DataW H) → Bool := fun _ ds => decide (uptoBulkAll ds ≤ 1048576)
def OpenSpec.upto (s : _root_.Go.ChangeSpec) : _root_.Go.OpenSpec := { _root_.Go.OpenSpec.ofChange s with cond := some uptoSmall }

/-- 'virgatelaw17.ProfileRight', WHERE WHAT IT READS IS OF BULK AT MOST 1048576: true; the input reads as it did. -/
def profileRightUptoRow : OpenClaim := { program := "ytnloffjjlhhanaa", sum := "209779076b5e81cabf7665e2e2f9f31989ffe26e145d469b99a8b49d7a348b5a", func := "virgate/virgatelaw17.ProfileRight", spec := "profileRight", unfollowed := true, recurses := true, apart := false, narrowed := true }
def ProfileRightUptoSaid : Prop := profileRightUptoRow.holds Try.pinned (OpenSpec.upto profileRightSpec)

/-- 'virgatelaw17.ProfileBegins', WHERE WHAT IT READS IS OF BULK AT MOST 1048576: true; the input reads as it did. -/
def profileBeginsUptoRow : OpenClaim := { program := "ytnloffjjlhhanaa", sum := "209779076b5e81cabf7665e2e2f9f31989ffe26e145d469b99a8b49d7a348b5a", func := "virgate/virgatelaw17.ProfileBegins", spec := "profileBegins", unfollowed := true, recurses := true, apart := false, narrowed := true }
def ProfileBeginsUptoSaid : Prop := profileBeginsUptoRow.holds Try.pinned (OpenSpec.upto profileBeginsSpec)

/-- 'virgatelaw17.ProfileLines', WHERE WHAT IT READS IS OF BULK AT MOST 1048576: true; the input reads as it did. -/
def profileLinesUptoRow : OpenClaim := { program := "ytnloffjjlhhanaa", sum := "209779076b5e81cabf7665e2e2f9f31989ffe26e145d469b99a8b49d7a348b5a", func := "virgate/virgatelaw17.ProfileLines", spec := "profileLines", unfollowed := true, recurses := true, apart := false, narrowed := true }
def ProfileLinesUptoSaid : Prop := profileLinesUptoRow.holds Try.pinned (OpenSpec.upto profileLinesSpec)

/-- 'virgatelaw17.ProfileMost', WHERE WHAT IT READS IS OF BULK AT MOST 1048576: true; the input reads as it did. -/
def profileMostUptoRow : OpenClaim := { program := "ytnloffjjlhhanaa", sum := "209779076b5e81cabf7665e2e2f9f31989ffe26e145d469b99a8b49d7a348b5a", func := "virgate/virgatelaw17.ProfileMost", spec := "profileMost", unfollowed := true, recurses := true, apart := false, narrowed := true }
def ProfileMostUptoSaid : Prop := profileMostUptoRow.holds Try.pinned (OpenSpec.upto profileMostSpec)

/-- 'virgatelaw17.ProfileGraph', WHERE WHAT IT READS IS OF BULK AT MOST 1048576: true; the input reads as it did. -/
def profileGraphUptoRow : OpenClaim := { program := "ytnloffjjlhhanaa", sum := "209779076b5e81cabf7665e2e2f9f31989ffe26e145d469b99a8b49d7a348b5a", func := "virgate/virgatelaw17.ProfileGraph", spec := "profileGraph", unfollowed := true, recurses := true, apart := false, narrowed := true }
def ProfileGraphUptoSaid : Prop := profileGraphUptoRow.holds Try.pinned (OpenSpec.upto profileGraphSpec)

/-- 'virgatelaw17.ProfilePages', WHERE WHAT IT READS IS OF BULK AT MOST 1048576: true; the input reads as it did. -/
def profilePagesUptoRow : OpenClaim := { program := "ytnloffjjlhhanaa", sum := "209779076b5e81cabf7665e2e2f9f31989ffe26e145d469b99a8b49d7a348b5a", func := "virgate/virgatelaw17.ProfilePages", spec := "profilePages", unfollowed := true, recurses := true, apart := false, narrowed := true }
def ProfilePagesUptoSaid : Prop := profilePagesUptoRow.holds Try.pinned (OpenSpec.upto profilePagesSpec)

/-- 'virgatelaw17.ProfileSums', WHERE WHAT IT READS IS OF BULK AT MOST 1048576: true; the input reads as it did. -/
def profileSumsUptoRow : OpenClaim := { program := "ytnloffjjlhhanaa", sum := "209779076b5e81cabf7665e2e2f9f31989ffe26e145d469b99a8b49d7a348b5a", func := "virgate/virgatelaw17.ProfileSums", spec := "profileSums", unfollowed := true, recurses := true, apart := false, narrowed := true }
def ProfileSumsUptoSaid : Prop := profileSumsUptoRow.holds Try.pinned (OpenSpec.upto profileSumsSpec)

end Rows
end Go.Proofs.Ytnloffjjlhhanaa
