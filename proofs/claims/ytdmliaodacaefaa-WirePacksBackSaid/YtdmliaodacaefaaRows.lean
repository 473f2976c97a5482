/-
  No cell of these rows narrows 'for every input' (looked for: loops, veiled, ifaces, maps, wideKeys, modest, calm, conditions, laid).
  DERIVED. THE GIVEN ROWS OF THIS SEAT. 9 by the template 'for every input the law returns true; each argument reads behind the call as it read before'; 0 by the template 'total and deterministic' (their statements: YtdmliaodacaefaaTotals.lean).
  GIVEN WITH THE SEED: the statements are not yours to turn. If you find one false, say at which input.
  Laid BY PROGRAM, IN A SANDBOX (cutbox-rows.mjs): the forced cells as the released guide's own fill.sh prints them over the translation 8907257980bb38dd… (all of the seat's roots in one cut). By AI agents, Wed Nov 11 2026. No macro, syntax, notation, axiom, sorry.
-/
import Derived.Test.YtdmliaodacaefaaChecked
import GoSem.Claim
import GoSem.ClaimJoined
import GoSem.ClaimMapViews
import Derived.JoinedTies
import Derived.KernelRfl
namespace Go.Proofs.Ytdmliaodacaefaa
/- THE CELL 'sum', in the pinned program and in every row, IS THE sha256 OF THE DUMP (.gsa) THAT YtdmliaodacaefaaProg.lean LOADS. Nothing in Lean hashes anything: it is a label: what it is worth is what the hold of that sum in a sandbox is worth. -/
noncomputable def Try.pinned : Pinned := { name := "ytdmliaodacaefaa", sum := "8907257980bb38dd1c3c362891b1d2696b83e94fbf251738c76221b34a735d7e", checked := Try.checked }
namespace Rows
def none {H : Type} : Left H := { results := [], args := [] }

/-- 'amberlaw02.WireWrites': WHATEVER THE INPUT: true; the input reads as it did. -/
def wireWritesSpec : ChangeSpec := { name := "wireWrites", fn := fun _ => fun
  | [d1, d2, d3] => { results := [.lit (.bool true)], args := [d1, d2, d3] }
  | _ => none }
def wireWritesRow : OpenClaim := { program := "ytdmliaodacaefaa", sum := "8907257980bb38dd1c3c362891b1d2696b83e94fbf251738c76221b34a735d7e", func := "amber/amberlaw02.WireWrites", spec := "wireWrites", apart := false }
def WireWritesSaid : Prop := wireWritesRow.holds Try.pinned (OpenSpec.ofChange wireWritesSpec)

/-- ITS FALSE NEIGHBOUR: 'it returns false'. Refute it at one input. -/
def wireWritesWrong : ChangeSpec := { name := "wireWrites", fn := fun _ => fun
  | [d1, d2, d3] => { results := [.lit (.bool false)], args := [d1, d2, d3] }
  | _ => none }
def WireWritesWrongFalsely : Prop := wireWritesRow.holds Try.pinned (OpenSpec.ofChange wireWritesWrong)

/-- 'amberlaw02.WireReads': WHATEVER THE INPUT: true; the input reads as it did. -/
def wireReadsSpec : ChangeSpec := { name := "wireReads", fn := fun _ => fun
  | [d1, d2, d3] => { results := [.lit (.bool true)], args := [d1, d2, d3] }
  | _ => none }
def wireReadsRow : OpenClaim := { program := "ytdmliaodacaefaa", sum := "8907257980bb38dd1c3c362891b1d2696b83e94fbf251738c76221b34a735d7e", func := "amber/amberlaw02.WireReads", spec := "wireReads", apart := false }
def WireReadsSaid : Prop := wireReadsRow.holds Try.pinned (OpenSpec.ofChange wireReadsSpec)

/-- ITS FALSE NEIGHBOUR: 'it returns false'. Refute it at one input. -/
def wireReadsWrong : ChangeSpec := { name := "wireReads", fn := fun _ => fun
  | [d1, d2, d3] => { results := [.lit (.bool false)], args := [d1, d2, d3] }
  | _ => none }
def WireReadsWrongFalsely : Prop := wireReadsRow.holds Try.pinned (OpenSpec.ofChange wireReadsWrong)

/-- 'amberlaw02.WireTellsBursts': WHATEVER THE INPUT: true; the input reads as it did. -/
def wireTellsBurstsSpec : ChangeSpec := { name := "wireTellsBursts", fn := fun _ => fun
  | [d1, d2, d3] => { results := [.lit (.bool true)], args := [d1, d2, d3] }
  | _ => none }
def wireTellsBurstsRow : OpenClaim := { program := "ytdmliaodacaefaa", sum := "8907257980bb38dd1c3c362891b1d2696b83e94fbf251738c76221b34a735d7e", func := "amber/amberlaw02.WireTellsBursts", spec := "wireTellsBursts", apart := false }
def WireTellsBurstsSaid : Prop := wireTellsBurstsRow.holds Try.pinned (OpenSpec.ofChange wireTellsBurstsSpec)

/-- ITS FALSE NEIGHBOUR: 'it returns false'. Refute it at one input. -/
def wireTellsBurstsWrong : ChangeSpec := { name := "wireTellsBursts", fn := fun _ => fun
  | [d1, d2, d3] => { results := [.lit (.bool false)], args := [d1, d2, d3] }
  | _ => none }
def WireTellsBurstsWrongFalsely : Prop := wireTellsBurstsRow.holds Try.pinned (OpenSpec.ofChange wireTellsBurstsWrong)

/-- 'amberlaw02.WireGivesBack': WHATEVER THE INPUT: true; the input reads as it did. -/
def wireGivesBackSpec : ChangeSpec := { name := "wireGivesBack", fn := fun _ => fun
  | [d] => { results := [.lit (.bool true)], args := [d] }
  | _ => none }
def wireGivesBackRow : OpenClaim := { program := "ytdmliaodacaefaa", sum := "8907257980bb38dd1c3c362891b1d2696b83e94fbf251738c76221b34a735d7e", func := "amber/amberlaw02.WireGivesBack", spec := "wireGivesBack", apart := false }
def WireGivesBackSaid : Prop := wireGivesBackRow.holds Try.pinned (OpenSpec.ofChange wireGivesBackSpec)

/-- ITS FALSE NEIGHBOUR: 'it returns false'. Refute it at one input. -/
def wireGivesBackWrong : ChangeSpec := { name := "wireGivesBack", fn := fun _ => fun
  | [d] => { results := [.lit (.bool false)], args := [d] }
  | _ => none }
def WireGivesBackWrongFalsely : Prop := wireGivesBackRow.holds Try.pinned (OpenSpec.ofChange wireGivesBackWrong)

/-- 'amberlaw02.WireFirstErrorStays': WHATEVER THE INPUT: true; the input reads as it did. -/
def wireFirstErrorStaysSpec : ChangeSpec := { name := "wireFirstErrorStays", fn := fun _ => fun
  | [d1, d2] => { results := [.lit (.bool true)], args := [d1, d2] }
  | _ => none }
def wireFirstErrorStaysRow : OpenClaim := { program := "ytdmliaodacaefaa", sum := "8907257980bb38dd1c3c362891b1d2696b83e94fbf251738c76221b34a735d7e", func := "amber/amberlaw02.WireFirstErrorStays", spec := "wireFirstErrorStays", apart := false }
def WireFirstErrorStaysSaid : Prop := wireFirstErrorStaysRow.holds Try.pinned (OpenSpec.ofChange wireFirstErrorStaysSpec)

/-- ITS FALSE NEIGHBOUR: 'it returns false'. Refute it at one input. -/
def wireFirstErrorStaysWrong : ChangeSpec := { name := "wireFirstErrorStays", fn := fun _ => fun
  | [d1, d2] => { results := [.lit (.bool false)], args := [d1, d2] }
  | _ => none }
def WireFirstErrorStaysWrongFalsely : Prop := wireFirstErrorStaysRow.holds Try.pinned (OpenSpec.ofChange wireFirstErrorStaysWrong)

/-- 'amberlaw02.WireUnpacks': WHATEVER THE INPUT: true; the input reads as it did. -/
def wireUnpacksSpec : ChangeSpec := { name := "wireUnpacks", fn := fun _ => fun
  | [d1, d2] => { results := [.lit (.bool true)], args := [d1, d2] }
  | _ => none }
def wireUnpacksRow : OpenClaim := { program := "ytdmliaodacaefaa", sum := "8907257980bb38dd1c3c362891b1d2696b83e94fbf251738c76221b34a735d7e", func := "amber/amberlaw02.WireUnpacks", spec := "wireUnpacks", unfollowed := true, recurses := true, apart := false }
def WireUnpacksSaid : Prop := wireUnpacksRow.holds Try.pinned (OpenSpec.ofChange wireUnpacksSpec)

/-- ITS FALSE NEIGHBOUR: 'it returns false'. Refute it at one input. -/
def wireUnpacksWrong : ChangeSpec := { name := "wireUnpacks", fn := fun _ => fun
  | [d1, d2] => { results := [.lit (.bool false)], args := [d1, d2] }
  | _ => none }
def WireUnpacksWrongFalsely : Prop := wireUnpacksRow.holds Try.pinned (OpenSpec.ofChange wireUnpacksWrong)

/-- 'amberlaw02.WirePacks': WHATEVER THE INPUT: true; the input reads as it did. -/
def wirePacksSpec : ChangeSpec := { name := "wirePacks", fn := fun _ => fun
  | [d1, d2] => { results := [.lit (.bool true)], args := [d1, d2] }
  | _ => none }
def wirePacksRow : OpenClaim := { program := "ytdmliaodacaefaa", sum := "8907257980bb38dd1c3c362891b1d2696b83e94fbf251738c76221b34a735d7e", func := "amber/amberlaw02.WirePacks", spec := "wirePacks", unfollowed := true, recurses := true, apart := false }
def WirePacksSaid : Prop := wirePacksRow.holds Try.pinned (OpenSpec.ofChange wirePacksSpec)

/-- ITS FALSE NEIGHBOUR: 'it returns false'. Refute it at one input. -/
def wirePacksWrong : ChangeSpec := { name := "wirePacks", fn := fun _ => fun
  | [d1, d2] => { results := [.lit (.bool false)], args := [d1, d2] }
  | _ => none }
def WirePacksWrongFalsely : Prop := wirePacksRow.holds Try.pinned (OpenSpec.ofChange wirePacksWrong)

/-- 'amberlaw02.WirePacksBack': WHATEVER THE INPUT: true; the input reads as it did. -/
def wirePacksBackSpec : ChangeSpec := { name := "wirePacksBack", fn := fun _ => fun
  | [d1, d2] => { results := [.lit (.bool true)], args := [d1, d2] }
  | _ => none }
def wirePacksBackRow : OpenClaim := { program := "ytdmliaodacaefaa", sum := "8907257980bb38dd1c3c362891b1d2696b83e94fbf251738c76221b34a735d7e", func := "amber/amberlaw02.WirePacksBack", spec := "wirePacksBack", unfollowed := true, recurses := true, apart := false }
def WirePacksBackSaid : Prop := wirePacksBackRow.holds Try.pinned (OpenSpec.ofChange wirePacksBackSpec)

/-- ITS FALSE NEIGHBOUR: 'it returns false'. Refute it at one input. -/
def wirePacksBackWrong : ChangeSpec := { name := "wirePacksBack", fn := fun _ => fun
  | [d1, d2] => { results := [.lit (.bool false)], args := [d1, d2] }
  | _ => none }
def WirePacksBackWrongFalsely : Prop := wirePacksBackRow.holds Try.pinned (OpenSpec.ofChange wirePacksBackWrong)

/-- 'amberlaw02.WireKeepsApart': WHATEVER THE INPUT: true; the input reads as it did. -/
def wireKeepsApartSpec : ChangeSpec := { name := "wireKeepsApart", fn := fun _ => fun
  | [d1, d2] => { results := [.lit (.bool true)], args := [d1, d2] }
  | _ => none }
def wireKeepsApartRow : OpenClaim := { program := "ytdmliaodacaefaa", sum := "8907257980bb38dd1c3c362891b1d2696b83e94fbf251738c76221b34a735d7e", func := "amber/amberlaw02.WireKeepsApart", spec := "wireKeepsApart", unfollowed := true, recurses := true, apart := false }
def WireKeepsApartSaid : Prop := wireKeepsApartRow.holds Try.pinned (OpenSpec.ofChange wireKeepsApartSpec)

/-- ITS FALSE NEIGHBOUR: 'it returns false'. Refute it at one input. -/
def wireKeepsApartWrong : ChangeSpec := { name := "wireKeepsApart", fn := fun _ => fun
  | [d1, d2] => { results := [.lit (.bool false)], args := [d1, d2] }
  | _ => none }
def WireKeepsApartWrongFalsely : Prop := wireKeepsApartRow.holds Try.pinned (OpenSpec.ofChange wireKeepsApartWrong)

/- THE SECOND FORM. 'bulk': how many values and letters a reading holds, each counted each time it is reached (what is shared counts as often as it is met; a slice's spare places count too). A statement '..UptoSaid' is the law's where the arguments, and the package variables that the reading takes, are together of bulk at most 1048576: NARROWER than '..Said'. Prove '..Said' where nothing that the law and all that it calls make is longer than what came in: it says more and counts as full. Else prove '..UptoSaid'. A law counts once. -/
mutual
def uptoBulk {H : Type} : DataW H → Nat
  | .lit (.string bytes) => bytes.length + 1
  | .lit _ => 1
  | .nil => 1
  | .ptr d => uptoBulk d + 1
  | .slice elems spare => uptoBulkAll elems + uptoBulkAll spare + 1
  | .agg parts => uptoBulkAll parts + 1
  | .iface _ d => uptoBulk d + 1
  | .map entries => uptoBulkEntries entries + 1
  | .held _ => 1
def uptoBulkAll {H : Type} : List (DataW H) → Nat
  | [] => 0
  | d :: r => uptoBulk d + uptoBulkAll r
def uptoBulkEntries {H : Type} : List (Lit × DataW H) → Nat
  | [] => 0
  | x :: r => uptoBulkEntry x + uptoBulkEntries r
def uptoBulkEntry {H : Type} : Lit × DataW H → Nat
  | (.string bytes, d) => bytes.length + uptoBulk d + 1
  | (_, d) => uptoBulk d + 1
 end
def uptoSmall : (H : Type) → List (DataW H) → Bool := fun _ ds => decide (uptoBulkAll ds ≤ 1048576)
def OpenSpec.upto (s : _root_.Go.ChangeSpec) : _root_.Go.OpenSpec := { _root_.Go.OpenSpec.ofChange s with cond := some uptoSmall }

/-- 'amberlaw02.WireWrites', WHERE WHAT IT READS IS OF BULK AT MOST 1048576: true; the input reads as it did. -/
def wireWritesUptoRow : OpenClaim := { program := "ytdmliaodacaefaa", sum := "8907257980bb38dd1c3c362891b1d2696b83e94fbf251738c76221b34a735d7e", func := "amber/amberlaw02.WireWrites", spec := "wireWrites", apart := false, narrowed := true }
def WireWritesUptoSaid : Prop := wireWritesUptoRow.holds Try.pinned (OpenSpec.upto wireWritesSpec)

/-- 'amberlaw02.WireReads', WHERE WHAT IT READS IS OF BULK AT MOST 1048576: true; the input reads as it did. -/
def wireReadsUptoRow : OpenClaim := { program := "ytdmliaodacaefaa", sum := "8907257980bb38dd1c3c362891b1d2696b83e94fbf251738c76221b34a735d7e", func := "amber/amberlaw02.WireReads", spec := "wireReads", apart := false, narrowed := true }
def WireReadsUptoSaid : Prop := wireReadsUptoRow.holds Try.pinned (OpenSpec.upto wireReadsSpec)

/-- 'amberlaw02.WireTellsBursts', WHERE WHAT IT READS IS OF BULK AT MOST 1048576: true; the input reads as it did. -/
def wireTellsBurstsUptoRow : OpenClaim := { program := "ytdmliaodacaefaa", sum := "8907257980bb38dd1c3c362891b1d2696b83e94fbf251738c76221b34a735d7e", func := "amber/amberlaw02.WireTellsBursts", spec := "wireTellsBursts", apart := false, narrowed := true }
def WireTellsBurstsUptoSaid : Prop := wireTellsBurstsUptoRow.holds Try.pinned (OpenSpec.upto wireTellsBurstsSpec)

/-- 'amberlaw02.WireGivesBack', WHERE WHAT IT READS IS OF BULK AT MOST 1048576: true; the input reads as it did. -/
def wireGivesBackUptoRow : OpenClaim := { program := "ytdmliaodacaefaa", sum := "8907257980bb38dd1c3c362891b1d2696b83e94fbf251738c76221b34a735d7e", func := "amber/amberlaw02.WireGivesBack", spec := "wireGivesBack", apart := false, narrowed := true }
def WireGivesBackUptoSaid : Prop := wireGivesBackUptoRow.holds Try.pinned (OpenSpec.upto wireGivesBackSpec)

/-- 'amberlaw02.WireFirstErrorStays', WHERE WHAT IT READS IS OF BULK AT MOST 1048576: true; the input reads as it did. -/
def wireFirstErrorStaysUptoRow : OpenClaim := { program := "ytdmliaodacaefaa", sum := "8907257980bb38dd1c3c362891b1d2696b83e94fbf251738c76221b34a735d7e", func := "amber/amberlaw02.WireFirstErrorStays", spec := "wireFirstErrorStays", apart := false, narrowed := true }
def WireFirstErrorStaysUptoSaid : Prop := wireFirstErrorStaysUptoRow.holds Try.pinned (OpenSpec.upto wireFirstErrorStaysSpec)

/-- 'amberlaw02.WireUnpacks', WHERE WHAT IT READS IS OF BULK AT MOST 1048576: true; the input reads as it did. -/
def wireUnpacksUptoRow : OpenClaim := { program := "ytdmliaodacaefaa", sum := "8907257980bb38dd1c3c362891b1d2696b83e94fbf251738c76221b34a735d7e", func := "amber/amberlaw02.WireUnpacks", spec := "wireUnpacks", unfollowed := true, recurses := true, apart := false, narrowed := true }
def WireUnpacksUptoSaid : Prop := wireUnpacksUptoRow.holds Try.pinned (OpenSpec.upto wireUnpacksSpec)

/-- 'amberlaw02.WirePacks', WHERE WHAT IT READS IS OF BULK AT MOST 1048576: true; the input reads as it did. -/
def wirePacksUptoRow : OpenClaim := { program := "ytdmliaodacaefaa", sum := "8907257980bb38dd1c3c362891b1d2696b83e94fbf251738c76221b34a735d7e", func := "amber/amberlaw02.WirePacks", spec := "wirePacks", unfollowed := true, recurses := true, apart := false, narrowed := true }
def WirePacksUptoSaid : Prop := wirePacksUptoRow.holds Try.pinned (OpenSpec.upto wirePacksSpec)

/-- 'amberlaw02.WirePacksBack', WHERE WHAT IT READS IS OF BULK AT MOST 1048576: true; the input reads as it did. -/
def wirePacksBackUptoRow : OpenClaim := { program := "ytdmliaodacaefaa", sum := "8907257980bb38dd1c3c362891b1d2696b83e94fbf251738c76221b34a735d7e", func := "amber/amberlaw02.WirePacksBack", spec := "wirePacksBack", unfollowed := true, recurses := true, apart := false, narrowed := true }
def WirePacksBackUptoSaid : Prop := wirePacksBackUptoRow.holds Try.pinned (OpenSpec.upto wirePacksBackSpec)

/-- 'amberlaw02.WireKeepsApart', WHERE WHAT IT READS IS OF BULK AT MOST 1048576: true; the input reads as it did. -/
def wireKeepsApartUptoRow : OpenClaim := { program := "ytdmliaodacaefaa", sum := "8907257980bb38dd1c3c362891b1d2696b83e94fbf251738c76221b34a735d7e", func := "amber/amberlaw02.WireKeepsApart", spec := "wireKeepsApart", unfollowed := true, recurses := true, apart := false, narrowed := true }
def WireKeepsApartUptoSaid : Prop := wireKeepsApartUptoRow.holds Try.pinned (OpenSpec.upto wireKeepsApartSpec)

end Rows
end Go.Proofs.Ytdmliaodacaefaa
