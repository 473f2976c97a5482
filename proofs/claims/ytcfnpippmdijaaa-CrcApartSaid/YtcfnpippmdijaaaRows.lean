/-
  No cell of these rows narrows 'for every input' (looked for: loops, veiled, ifaces, maps, wideKeys, modest, calm, conditions, laid).
  DERIVED. THE GIVEN ROWS OF THIS SEAT. 12 by the template 'for every input the law returns true; each argument reads behind the call as it read before'; 0 by the template 'total and deterministic' (their statements: YtcfnpippmdijaaaTotals.lean).
  GIVEN WITH THE SEED: the statements are not yours to turn. If you find one false, say at which input.
  Laid BY PROGRAM, IN A SANDBOX (cutbox-rows.mjs): the forced cells as the released guide's own fill.sh prints them over the translation f93ac009792f091e… (all of the seat's roots in one cut). By AI agents, Wed Nov 11 2026. No macro, syntax, notation, axiom, sorry.
-/
import Derived.Test.YtcfnpippmdijaaaChecked
import GoSem.Claim
import GoSem.ClaimJoined
import GoSem.ClaimMapViews
import Derived.JoinedTies
import Derived.KernelRfl
namespace Go.Proofs.Ytcfnpippmdijaaa
/- THE CELL 'sum', in the pinned program and in every row, IS THE sha256 OF THE DUMP (.gsa) THAT YtcfnpippmdijaaaProg.lean LOADS. Nothing in Lean hashes anything: it is a label: what it is worth is what the hold of that sum in a sandbox is worth. -/
noncomputable def Try.pinned : Pinned := { name := "ytcfnpippmdijaaa", sum := "f93ac009792f091e3663989a7ff71fdc868565cc594e0a121ba2a95d58ed5693", checked := Try.checked }
namespace Rows
def none {H : Type} : Left H := { results := [], args := [] }

/-- 'amberlaw01.CrcSums': WHATEVER THE INPUT: true; the input reads as it did. -/
def crcSumsSpec : ChangeSpec := { name := "crcSums", fn := fun _ => fun
  | [d1, d2] => { results := [.lit (.bool true)], args := [d1, d2] }
  | _ => none }
def crcSumsRow : OpenClaim := { program := "ytcfnpippmdijaaa", sum := "f93ac009792f091e3663989a7ff71fdc868565cc594e0a121ba2a95d58ed5693", func := "amber/amberlaw01.CrcSums", spec := "crcSums", apart := false }
def CrcSumsSaid : Prop := crcSumsRow.holds Try.pinned (OpenSpec.ofChange crcSumsSpec)

/-- ITS FALSE NEIGHBOUR: 'it returns false'. Refute it at one input. -/
def crcSumsWrong : ChangeSpec := { name := "crcSums", fn := fun _ => fun
  | [d1, d2] => { results := [.lit (.bool false)], args := [d1, d2] }
  | _ => none }
def CrcSumsWrongFalsely : Prop := crcSumsRow.holds Try.pinned (OpenSpec.ofChange crcSumsWrong)

/-- 'amberlaw01.CrcSealed': WHATEVER THE INPUT: true; the input reads as it did. -/
def crcSealedSpec : ChangeSpec := { name := "crcSealed", fn := fun _ => fun
  | [d] => { results := [.lit (.bool true)], args := [d] }
  | _ => none }
def crcSealedRow : OpenClaim := { program := "ytcfnpippmdijaaa", sum := "f93ac009792f091e3663989a7ff71fdc868565cc594e0a121ba2a95d58ed5693", func := "amber/amberlaw01.CrcSealed", spec := "crcSealed", apart := false }
def CrcSealedSaid : Prop := crcSealedRow.holds Try.pinned (OpenSpec.ofChange crcSealedSpec)

/-- ITS FALSE NEIGHBOUR: 'it returns false'. Refute it at one input. -/
def crcSealedWrong : ChangeSpec := { name := "crcSealed", fn := fun _ => fun
  | [d] => { results := [.lit (.bool false)], args := [d] }
  | _ => none }
def CrcSealedWrongFalsely : Prop := crcSealedRow.holds Try.pinned (OpenSpec.ofChange crcSealedWrong)

/-- 'amberlaw01.CrcLinear': WHATEVER THE INPUT: true; the input reads as it did. -/
def crcLinearSpec : ChangeSpec := { name := "crcLinear", fn := fun _ => fun
  | [d1, d2] => { results := [.lit (.bool true)], args := [d1, d2] }
  | _ => none }
def crcLinearRow : OpenClaim := { program := "ytcfnpippmdijaaa", sum := "f93ac009792f091e3663989a7ff71fdc868565cc594e0a121ba2a95d58ed5693", func := "amber/amberlaw01.CrcLinear", spec := "crcLinear", apart := false }
def CrcLinearSaid : Prop := crcLinearRow.holds Try.pinned (OpenSpec.ofChange crcLinearSpec)

/-- ITS FALSE NEIGHBOUR: 'it returns false'. Refute it at one input. -/
def crcLinearWrong : ChangeSpec := { name := "crcLinear", fn := fun _ => fun
  | [d1, d2] => { results := [.lit (.bool false)], args := [d1, d2] }
  | _ => none }
def CrcLinearWrongFalsely : Prop := crcLinearRow.holds Try.pinned (OpenSpec.ofChange crcLinearWrong)

/-- 'amberlaw01.CrcDigests': WHATEVER THE INPUT: true; the input reads as it did. -/
def crcDigestsSpec : ChangeSpec := { name := "crcDigests", fn := fun _ => fun
  | [d] => { results := [.lit (.bool true)], args := [d] }
  | _ => none }
def crcDigestsRow : OpenClaim := { program := "ytcfnpippmdijaaa", sum := "f93ac009792f091e3663989a7ff71fdc868565cc594e0a121ba2a95d58ed5693", func := "amber/amberlaw01.CrcDigests", spec := "crcDigests", apart := false }
def CrcDigestsSaid : Prop := crcDigestsRow.holds Try.pinned (OpenSpec.ofChange crcDigestsSpec)

/-- ITS FALSE NEIGHBOUR: 'it returns false'. Refute it at one input. -/
def crcDigestsWrong : ChangeSpec := { name := "crcDigests", fn := fun _ => fun
  | [d] => { results := [.lit (.bool false)], args := [d] }
  | _ => none }
def CrcDigestsWrongFalsely : Prop := crcDigestsRow.holds Try.pinned (OpenSpec.ofChange crcDigestsWrong)

/-- 'amberlaw01.CrcPieces': WHATEVER THE INPUT: true; the input reads as it did. -/
def crcPiecesSpec : ChangeSpec := { name := "crcPieces", fn := fun _ => fun
  | [d1, d2] => { results := [.lit (.bool true)], args := [d1, d2] }
  | _ => none }
def crcPiecesRow : OpenClaim := { program := "ytcfnpippmdijaaa", sum := "f93ac009792f091e3663989a7ff71fdc868565cc594e0a121ba2a95d58ed5693", func := "amber/amberlaw01.CrcPieces", spec := "crcPieces", apart := false }
def CrcPiecesSaid : Prop := crcPiecesRow.holds Try.pinned (OpenSpec.ofChange crcPiecesSpec)

/-- ITS FALSE NEIGHBOUR: 'it returns false'. Refute it at one input. -/
def crcPiecesWrong : ChangeSpec := { name := "crcPieces", fn := fun _ => fun
  | [d1, d2] => { results := [.lit (.bool false)], args := [d1, d2] }
  | _ => none }
def CrcPiecesWrongFalsely : Prop := crcPiecesRow.holds Try.pinned (OpenSpec.ofChange crcPiecesWrong)

/-- 'amberlaw01.CrcTold': WHATEVER THE INPUT: true; the input reads as it did. -/
def crcToldSpec : ChangeSpec := { name := "crcTold", fn := fun _ => fun
  | [d1, d2, d3] => { results := [.lit (.bool true)], args := [d1, d2, d3] }
  | _ => none }
def crcToldRow : OpenClaim := { program := "ytcfnpippmdijaaa", sum := "f93ac009792f091e3663989a7ff71fdc868565cc594e0a121ba2a95d58ed5693", func := "amber/amberlaw01.CrcTold", spec := "crcTold", apart := false }
def CrcToldSaid : Prop := crcToldRow.holds Try.pinned (OpenSpec.ofChange crcToldSpec)

/-- ITS FALSE NEIGHBOUR: 'it returns false'. Refute it at one input. -/
def crcToldWrong : ChangeSpec := { name := "crcTold", fn := fun _ => fun
  | [d1, d2, d3] => { results := [.lit (.bool false)], args := [d1, d2, d3] }
  | _ => none }
def CrcToldWrongFalsely : Prop := crcToldRow.holds Try.pinned (OpenSpec.ofChange crcToldWrong)

/-- 'amberlaw01.CrcJoins': WHATEVER THE INPUT: true; the input reads as it did. -/
def crcJoinsSpec : ChangeSpec := { name := "crcJoins", fn := fun _ => fun
  | [d1, d2, d3] => { results := [.lit (.bool true)], args := [d1, d2, d3] }
  | _ => none }
def crcJoinsRow : OpenClaim := { program := "ytcfnpippmdijaaa", sum := "f93ac009792f091e3663989a7ff71fdc868565cc594e0a121ba2a95d58ed5693", func := "amber/amberlaw01.CrcJoins", spec := "crcJoins", apart := false }
def CrcJoinsSaid : Prop := crcJoinsRow.holds Try.pinned (OpenSpec.ofChange crcJoinsSpec)

/-- ITS FALSE NEIGHBOUR: 'it returns false'. Refute it at one input. -/
def crcJoinsWrong : ChangeSpec := { name := "crcJoins", fn := fun _ => fun
  | [d1, d2, d3] => { results := [.lit (.bool false)], args := [d1, d2, d3] }
  | _ => none }
def CrcJoinsWrongFalsely : Prop := crcJoinsRow.holds Try.pinned (OpenSpec.ofChange crcJoinsWrong)

/-- 'amberlaw01.CrcForges': WHATEVER THE INPUT: true; the input reads as it did. -/
def crcForgesSpec : ChangeSpec := { name := "crcForges", fn := fun _ => fun
  | [d1, d2, d3] => { results := [.lit (.bool true)], args := [d1, d2, d3] }
  | _ => none }
def crcForgesRow : OpenClaim := { program := "ytcfnpippmdijaaa", sum := "f93ac009792f091e3663989a7ff71fdc868565cc594e0a121ba2a95d58ed5693", func := "amber/amberlaw01.CrcForges", spec := "crcForges", apart := false }
def CrcForgesSaid : Prop := crcForgesRow.holds Try.pinned (OpenSpec.ofChange crcForgesSpec)

/-- ITS FALSE NEIGHBOUR: 'it returns false'. Refute it at one input. -/
def crcForgesWrong : ChangeSpec := { name := "crcForges", fn := fun _ => fun
  | [d1, d2, d3] => { results := [.lit (.bool false)], args := [d1, d2, d3] }
  | _ => none }
def CrcForgesWrongFalsely : Prop := crcForgesRow.holds Try.pinned (OpenSpec.ofChange crcForgesWrong)

/-- 'amberlaw01.CrcGoesOn': WHATEVER THE INPUT: true; the input reads as it did. -/
def crcGoesOnSpec : ChangeSpec := { name := "crcGoesOn", fn := fun _ => fun
  | [d1, d2, d3] => { results := [.lit (.bool true)], args := [d1, d2, d3] }
  | _ => none }
def crcGoesOnRow : OpenClaim := { program := "ytcfnpippmdijaaa", sum := "f93ac009792f091e3663989a7ff71fdc868565cc594e0a121ba2a95d58ed5693", func := "amber/amberlaw01.CrcGoesOn", spec := "crcGoesOn", apart := false }
def CrcGoesOnSaid : Prop := crcGoesOnRow.holds Try.pinned (OpenSpec.ofChange crcGoesOnSpec)

/-- ITS FALSE NEIGHBOUR: 'it returns false'. Refute it at one input. -/
def crcGoesOnWrong : ChangeSpec := { name := "crcGoesOn", fn := fun _ => fun
  | [d1, d2, d3] => { results := [.lit (.bool false)], args := [d1, d2, d3] }
  | _ => none }
def CrcGoesOnWrongFalsely : Prop := crcGoesOnRow.holds Try.pinned (OpenSpec.ofChange crcGoesOnWrong)

/-- 'amberlaw01.CrcAssociates': WHATEVER THE INPUT: true; the input reads as it did. -/
def crcAssociatesSpec : ChangeSpec := { name := "crcAssociates", fn := fun _ => fun
  | [d1, d2, d3] => { results := [.lit (.bool true)], args := [d1, d2, d3] }
  | _ => none }
def crcAssociatesRow : OpenClaim := { program := "ytcfnpippmdijaaa", sum := "f93ac009792f091e3663989a7ff71fdc868565cc594e0a121ba2a95d58ed5693", func := "amber/amberlaw01.CrcAssociates", spec := "crcAssociates", apart := false }
def CrcAssociatesSaid : Prop := crcAssociatesRow.holds Try.pinned (OpenSpec.ofChange crcAssociatesSpec)

/-- ITS FALSE NEIGHBOUR: 'it returns false'. Refute it at one input. -/
def crcAssociatesWrong : ChangeSpec := { name := "crcAssociates", fn := fun _ => fun
  | [d1, d2, d3] => { results := [.lit (.bool false)], args := [d1, d2, d3] }
  | _ => none }
def CrcAssociatesWrongFalsely : Prop := crcAssociatesRow.holds Try.pinned (OpenSpec.ofChange crcAssociatesWrong)

/-- 'amberlaw01.CrcMade': WHATEVER THE INPUT: true; the input reads as it did. -/
def crcMadeSpec : ChangeSpec := { name := "crcMade", fn := fun _ => fun
  | [d1, d2, d3] => { results := [.lit (.bool true)], args := [d1, d2, d3] }
  | _ => none }
def crcMadeRow : OpenClaim := { program := "ytcfnpippmdijaaa", sum := "f93ac009792f091e3663989a7ff71fdc868565cc594e0a121ba2a95d58ed5693", func := "amber/amberlaw01.CrcMade", spec := "crcMade", apart := false }
def CrcMadeSaid : Prop := crcMadeRow.holds Try.pinned (OpenSpec.ofChange crcMadeSpec)

/-- ITS FALSE NEIGHBOUR: 'it returns false'. Refute it at one input. -/
def crcMadeWrong : ChangeSpec := { name := "crcMade", fn := fun _ => fun
  | [d1, d2, d3] => { results := [.lit (.bool false)], args := [d1, d2, d3] }
  | _ => none }
def CrcMadeWrongFalsely : Prop := crcMadeRow.holds Try.pinned (OpenSpec.ofChange crcMadeWrong)

/-- 'amberlaw01.CrcApart': WHATEVER THE INPUT: true; the input reads as it did. -/
def crcApartSpec : ChangeSpec := { name := "crcApart", fn := fun _ => fun
  | [d1, d2, d3] => { results := [.lit (.bool true)], args := [d1, d2, d3] }
  | _ => none }
def crcApartRow : OpenClaim := { program := "ytcfnpippmdijaaa", sum := "f93ac009792f091e3663989a7ff71fdc868565cc594e0a121ba2a95d58ed5693", func := "amber/amberlaw01.CrcApart", spec := "crcApart", apart := false }
def CrcApartSaid : Prop := crcApartRow.holds Try.pinned (OpenSpec.ofChange crcApartSpec)

/-- ITS FALSE NEIGHBOUR: 'it returns false'. Refute it at one input. -/
def crcApartWrong : ChangeSpec := { name := "crcApart", fn := fun _ => fun
  | [d1, d2, d3] => { results := [.lit (.bool false)], args := [d1, d2, d3] }
  | _ => none }
def CrcApartWrongFalsely : Prop := crcApartRow.holds Try.pinned (OpenSpec.ofChange crcApartWrong)

/- THE SECOND FORM. 'bulk': how many values and letters a reading holds, each counted each time it is reached (what is shared counts as often as it is met; a slice's spare places count too). A statement '..UptoSaid' is the law's where the arguments, and the package variables that the reading takes, are together of bulk at most 1048576: NARROWER than '..Said'. Prove '..Said' where nothing that the law and all that it calls make is longer than what came in: it says more and counts as full. Else prove '..UptoSaid'. A law counts once. -/
mutual
def uptoBulk {H : Type} : DataW H → Nat
  | .lit (.string bytes) => bytes.length + 1
  | .lit _ => 1
  | .nil => 1
  | .ptr d => uptoBulk d + 1
  | .slice elems spare => uptoBulkAll elems + uptoBulkAll spare + 1
  | .agg parts => uptoBulkAll parts + 1
  | .iface _ d => uptoBulk d + 1
  | .map entries => uptoBulkEntries entries + 1
  | .held _ => 1
def uptoBulkAll {H : Type} : List (DataW H) → Nat
  | [] => 0
  | d :: r => uptoBulk d + uptoBulkAll r
def uptoBulkEntries {H : Type} : List (Lit × DataW H) → Nat
  | [] => 0
  | x :: r => uptoBulkEntry x + uptoBulkEntries r
def uptoBulkEntry {H : Type} : Lit × DataW H → Nat
  | (.string bytes, d) => bytes.length + uptoBulk d + 1
  | (_, d) => uptoBulk d + 1
 end
def uptoSmall : (H : Type) → List (DataW H) → Bool := fun _ ds => decide (uptoBulkAll ds ≤ 1048576)
def OpenSpec.upto (s : _root_.Go.ChangeSpec) : _root_.Go.OpenSpec := { _root_.Go.OpenSpec.ofChange s with cond := some uptoSmall }

/-- 'amberlaw01.CrcSums', WHERE WHAT IT READS IS OF BULK AT MOST 1048576: true; the input reads as it did. -/
def crcSumsUptoRow : OpenClaim := { program := "ytcfnpippmdijaaa", sum := "f93ac009792f091e3663989a7ff71fdc868565cc594e0a121ba2a95d58ed5693", func := "amber/amberlaw01.CrcSums", spec := "crcSums", apart := false, narrowed := true }
def CrcSumsUptoSaid : Prop := crcSumsUptoRow.holds Try.pinned (OpenSpec.upto crcSumsSpec)

/-- 'amberlaw01.CrcSealed', WHERE WHAT IT READS IS OF BULK AT MOST 1048576: true; the input reads as it did. -/
def crcSealedUptoRow : OpenClaim := { program := "ytcfnpippmdijaaa", sum := "f93ac009792f091e3663989a7ff71fdc868565cc594e0a121ba2a95d58ed5693", func := "amber/amberlaw01.CrcSealed", spec := "crcSealed", apart := false, narrowed := true }
def CrcSealedUptoSaid : Prop := crcSealedUptoRow.holds Try.pinned (OpenSpec.upto crcSealedSpec)

/-- 'amberlaw01.CrcLinear', WHERE WHAT IT READS IS OF BULK AT MOST 1048576: true; the input reads as it did. -/
def crcLinearUptoRow : OpenClaim := { program := "ytcfnpippmdijaaa", sum := "f93ac009792f091e3663989a7ff71fdc868565cc594e0a121ba2a95d58ed5693", func := "amber/amberlaw01.CrcLinear", spec := "crcLinear", apart := false, narrowed := true }
def CrcLinearUptoSaid : Prop := crcLinearUptoRow.holds Try.pinned (OpenSpec.upto crcLinearSpec)

/-- 'amberlaw01.CrcDigests', WHERE WHAT IT READS IS OF BULK AT MOST 1048576: true; the input reads as it did. -/
def crcDigestsUptoRow : OpenClaim := { program := "ytcfnpippmdijaaa", sum := "f93ac009792f091e3663989a7ff71fdc868565cc594e0a121ba2a95d58ed5693", func := "amber/amberlaw01.CrcDigests", spec := "crcDigests", apart := false, narrowed := true }
def CrcDigestsUptoSaid : Prop := crcDigestsUptoRow.holds Try.pinned (OpenSpec.upto crcDigestsSpec)

/-- 'amberlaw01.CrcPieces', WHERE WHAT IT READS IS OF BULK AT MOST 1048576: true; the input reads as it did. -/
def crcPiecesUptoRow : OpenClaim := { program := "ytcfnpippmdijaaa", sum := "f93ac009792f091e3663989a7ff71fdc868565cc594e0a121ba2a95d58ed5693", func := "amber/amberlaw01.CrcPieces", spec := "crcPieces", apart := false, narrowed := true }
def CrcPiecesUptoSaid : Prop := crcPiecesUptoRow.holds Try.pinned (OpenSpec.upto crcPiecesSpec)

/-- 'amberlaw01.CrcTold', WHERE WHAT IT READS IS OF BULK AT MOST 1048576: true; the input reads as it did. -/
def crcToldUptoRow : OpenClaim := { program := "ytcfnpippmdijaaa", sum := "f93ac009792f091e3663989a7ff71fdc868565cc594e0a121ba2a95d58ed5693", func := "amber/amberlaw01.CrcTold", spec := "crcTold", apart := false, narrowed := true }
def CrcToldUptoSaid : Prop := crcToldUptoRow.holds Try.pinned (OpenSpec.upto crcToldSpec)

/-- 'amberlaw01.CrcJoins', WHERE WHAT IT READS IS OF BULK AT MOST 1048576: true; the input reads as it did. -/
def crcJoinsUptoRow : OpenClaim := { program := "ytcfnpippmdijaaa", sum := "f93ac009792f091e3663989a7ff71fdc868565cc594e0a121ba2a95d58ed5693", func := "amber/amberlaw01.CrcJoins", spec := "crcJoins", apart := false, narrowed := true }
def CrcJoinsUptoSaid : Prop := crcJoinsUptoRow.holds Try.pinned (OpenSpec.upto crcJoinsSpec)

/-- 'amberlaw01.CrcForges', WHERE WHAT IT READS IS OF BULK AT MOST 1048576: true; the input reads as it did. -/
def crcForgesUptoRow : OpenClaim := { program := "ytcfnpippmdijaaa", sum := "f93ac009792f091e3663989a7ff71fdc868565cc594e0a121ba2a95d58ed5693", func := "amber/amberlaw01.CrcForges", spec := "crcForges", apart := false, narrowed := true }
def CrcForgesUptoSaid : Prop := crcForgesUptoRow.holds Try.pinned (OpenSpec.upto crcForgesSpec)

/-- 'amberlaw01.CrcGoesOn', WHERE WHAT IT READS IS OF BULK AT MOST 1048576: true; the input reads as it did. -/
def crcGoesOnUptoRow : OpenClaim := { program := "ytcfnpippmdijaaa", sum := "f93ac009792f091e3663989a7ff71fdc868565cc594e0a121ba2a95d58ed5693", func := "amber/amberlaw01.CrcGoesOn", spec := "crcGoesOn", apart := false, narrowed := true }
def CrcGoesOnUptoSaid : Prop := crcGoesOnUptoRow.holds Try.pinned (OpenSpec.upto crcGoesOnSpec)

/-- 'amberlaw01.CrcAssociates', WHERE WHAT IT READS IS OF BULK AT MOST 1048576: true; the input reads as it did. -/
def crcAssociatesUptoRow : OpenClaim := { program := "ytcfnpippmdijaaa", sum := "f93ac009792f091e3663989a7ff71fdc868565cc594e0a121ba2a95d58ed5693", func := "amber/amberlaw01.CrcAssociates", spec := "crcAssociates", apart := false, narrowed := true }
def CrcAssociatesUptoSaid : Prop := crcAssociatesUptoRow.holds Try.pinned (OpenSpec.upto crcAssociatesSpec)

/-- 'amberlaw01.CrcMade', WHERE WHAT IT READS IS OF BULK AT MOST 1048576: true; the input reads as it did. -/
def crcMadeUptoRow : OpenClaim := { program := "ytcfnpippmdijaaa", sum := "f93ac009792f091e3663989a7ff71fdc868565cc594e0a121ba2a95d58ed5693", func := "amber/amberlaw01.CrcMade", spec := "crcMade", apart := false, narrowed := true }
def CrcMadeUptoSaid : Prop := crcMadeUptoRow.holds Try.pinned (OpenSpec.upto crcMadeSpec)

/-- 'amberlaw01.CrcApart', WHERE WHAT IT READS IS OF BULK AT MOST 1048576: true; the input reads as it did. -/
def crcApartUptoRow : OpenClaim := { program := "ytcfnpippmdijaaa", sum := "f93ac009792f091e3663989a7ff71fdc868565cc594e0a121ba2a95d58ed5693", func := "amber/amberlaw01.CrcApart", spec := "crcApart", apart := false, narrowed := true }
def CrcApartUptoSaid : Prop := crcApartUptoRow.holds Try.pinned (OpenSpec.upto crcApartSpec)

end Rows
end Go.Proofs.Ytcfnpippmdijaaa
