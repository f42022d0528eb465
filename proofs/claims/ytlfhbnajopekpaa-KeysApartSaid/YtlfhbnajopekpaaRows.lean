/-
  No cell of these rows narrows 'for every input' (looked for: loops, veiled, ifaces, maps, wideKeys, modest, calm, conditions, laid).
  DERIVED. THE GIVEN ROWS OF THIS SEAT. 9 by the template 'for every input the law returns true; each argument reads behind the call as it read before'; 0 by the template 'total and deterministic' (their statements: YtlfhbnajopekpaaTotals.lean).
  GIVEN WITH THE SEED: the statements are not yours to turn. If you find one false, say at which input.
  Laid BY PROGRAM, IN A SANDBOX (cutbox-rows.mjs): the forced cells as the released guide's own fill.sh prints them over the translation a2595fafaf56748a… (all of the seat's roots in one cut). By AI agents, Wed Nov 11 2026. No macro, syntax, notation, axiom, sorry.
-/
import Derived.Test.YtlfhbnajopekpaaChecked
import GoSem.Claim
import GoSem.ClaimJoined
import GoSem.ClaimMapViews
import Derived.JoinedTies
import Derived.KernelRfl
namespace Go.Proofs.Ytlfhbnajopekpaa
/- THE CELL 'sum', in the pinned program and in every row, IS THE sha256 OF THE DUMP (.gsa) THAT YtlfhbnajopekpaaProg.lean LOADS. Nothing in Lean hashes anything: it is a label: what it is worth is what the hold of that sum in a sandbox is worth. -/
noncomputable def Try.pinned : Pinned := { name := "ytlfhbnajopekpaa", sum := "a2595fafaf56748a17bed5a7ce92df0cb76c9a98a809be43f6ef7c19d0d76cc1", checked := Try.checked }
namespace Rows
def none {H : Type} : Left H := { results := [], args := [] }

/-- 'chittylaw24.StoreKeeps': WHATEVER THE INPUT: true; the input reads as it did. -/
def storeKeepsSpec : ChangeSpec := { name := "storeKeeps", fn := fun _ => fun
  | [d1, d2] => { results := [.lit (.bool true)], args := [d1, d2] }
  | _ => none }
def storeKeepsRow : OpenClaim := { program := "ytlfhbnajopekpaa", sum := "a2595fafaf56748a17bed5a7ce92df0cb76c9a98a809be43f6ef7c19d0d76cc1", func := "chitty/chittylaw24.StoreKeeps", spec := "storeKeeps", apart := false }
def StoreKeepsSaid : Prop := storeKeepsRow.holds Try.pinned (OpenSpec.ofChange storeKeepsSpec)

/-- ITS FALSE NEIGHBOUR: 'it returns false'. Refute it at one input. -/
def storeKeepsWrong : ChangeSpec := { name := "storeKeeps", fn := fun _ => fun
  | [d1, d2] => { results := [.lit (.bool false)], args := [d1, d2] }
  | _ => none }
def StoreKeepsWrongFalsely : Prop := storeKeepsRow.holds Try.pinned (OpenSpec.ofChange storeKeepsWrong)

/-- 'chittylaw23.KeysApart': WHATEVER THE INPUT: true; the input reads as it did. -/
def keysApartSpec : ChangeSpec := { name := "keysApart", fn := fun _ => fun
  | [d1, d2] => { results := [.lit (.bool true)], args := [d1, d2] }
  | _ => none }
def keysApartRow : OpenClaim := { program := "ytlfhbnajopekpaa", sum := "a2595fafaf56748a17bed5a7ce92df0cb76c9a98a809be43f6ef7c19d0d76cc1", func := "chitty/chittylaw23.KeysApart", spec := "keysApart", inPlace := ["maps.clone"], apart := false }
def KeysApartSaid : Prop := keysApartRow.holds Try.pinned (OpenSpec.ofChange keysApartSpec)

/-- ITS FALSE NEIGHBOUR: 'it returns false'. Refute it at one input. -/
def keysApartWrong : ChangeSpec := { name := "keysApart", fn := fun _ => fun
  | [d1, d2] => { results := [.lit (.bool false)], args := [d1, d2] }
  | _ => none }
def KeysApartWrongFalsely : Prop := keysApartRow.holds Try.pinned (OpenSpec.ofChange keysApartWrong)

/-- 'chittylaw23.KeysDead': WHATEVER THE INPUT: true; the input reads as it did. -/
def keysDeadSpec : ChangeSpec := { name := "keysDead", fn := fun _ => fun
  | [d1, d2, d3] => { results := [.lit (.bool true)], args := [d1, d2, d3] }
  | _ => none }
def keysDeadRow : OpenClaim := { program := "ytlfhbnajopekpaa", sum := "a2595fafaf56748a17bed5a7ce92df0cb76c9a98a809be43f6ef7c19d0d76cc1", func := "chitty/chittylaw23.KeysDead", spec := "keysDead", apart := false }
def KeysDeadSaid : Prop := keysDeadRow.holds Try.pinned (OpenSpec.ofChange keysDeadSpec)

/-- ITS FALSE NEIGHBOUR: 'it returns false'. Refute it at one input. -/
def keysDeadWrong : ChangeSpec := { name := "keysDead", fn := fun _ => fun
  | [d1, d2, d3] => { results := [.lit (.bool false)], args := [d1, d2, d3] }
  | _ => none }
def KeysDeadWrongFalsely : Prop := keysDeadRow.holds Try.pinned (OpenSpec.ofChange keysDeadWrong)

/-- 'chittylaw10.PacketBack': WHATEVER THE INPUT: true; the input reads as it did. -/
def packetBackSpec : ChangeSpec := { name := "packetBack", fn := fun _ => fun
  | [d1, d2, d3] => { results := [.lit (.bool true)], args := [d1, d2, d3] }
  | _ => none }
def packetBackRow : OpenClaim := { program := "ytlfhbnajopekpaa", sum := "a2595fafaf56748a17bed5a7ce92df0cb76c9a98a809be43f6ef7c19d0d76cc1", func := "chitty/chittylaw10.PacketBack", spec := "packetBack", unfollowed := true, recurses := true, apart := false }
def PacketBackSaid : Prop := packetBackRow.holds Try.pinned (OpenSpec.ofChange packetBackSpec)

/-- ITS FALSE NEIGHBOUR: 'it returns false'. Refute it at one input. -/
def packetBackWrong : ChangeSpec := { name := "packetBack", fn := fun _ => fun
  | [d1, d2, d3] => { results := [.lit (.bool false)], args := [d1, d2, d3] }
  | _ => none }
def PacketBackWrongFalsely : Prop := packetBackRow.holds Try.pinned (OpenSpec.ofChange packetBackWrong)

/-- 'chittylaw24.StoreReads': WHATEVER THE INPUT: true; the input reads as it did. -/
def storeReadsSpec : ChangeSpec := { name := "storeReads", fn := fun _ => fun
  | [d1, d2] => { results := [.lit (.bool true)], args := [d1, d2] }
  | _ => none }
def storeReadsRow : OpenClaim := { program := "ytlfhbnajopekpaa", sum := "a2595fafaf56748a17bed5a7ce92df0cb76c9a98a809be43f6ef7c19d0d76cc1", func := "chitty/chittylaw24.StoreReads", spec := "storeReads", unfollowed := true, recurses := true, apart := false }
def StoreReadsSaid : Prop := storeReadsRow.holds Try.pinned (OpenSpec.ofChange storeReadsSpec)

/-- ITS FALSE NEIGHBOUR: 'it returns false'. Refute it at one input. -/
def storeReadsWrong : ChangeSpec := { name := "storeReads", fn := fun _ => fun
  | [d1, d2] => { results := [.lit (.bool false)], args := [d1, d2] }
  | _ => none }
def StoreReadsWrongFalsely : Prop := storeReadsRow.holds Try.pinned (OpenSpec.ofChange storeReadsWrong)

/-- 'chittylaw10.PacketTells': WHATEVER THE INPUT: true; the input reads as it did. -/
def packetTellsSpec : ChangeSpec := { name := "packetTells", fn := fun _ => fun
  | [d1, d2, d3] => { results := [.lit (.bool true)], args := [d1, d2, d3] }
  | _ => none }
def packetTellsRow : OpenClaim := { program := "ytlfhbnajopekpaa", sum := "a2595fafaf56748a17bed5a7ce92df0cb76c9a98a809be43f6ef7c19d0d76cc1", func := "chitty/chittylaw10.PacketTells", spec := "packetTells", unfollowed := true, recurses := true, apart := false }
def PacketTellsSaid : Prop := packetTellsRow.holds Try.pinned (OpenSpec.ofChange packetTellsSpec)

/-- ITS FALSE NEIGHBOUR: 'it returns false'. Refute it at one input. -/
def packetTellsWrong : ChangeSpec := { name := "packetTells", fn := fun _ => fun
  | [d1, d2, d3] => { results := [.lit (.bool false)], args := [d1, d2, d3] }
  | _ => none }
def PacketTellsWrongFalsely : Prop := packetTellsRow.holds Try.pinned (OpenSpec.ofChange packetTellsWrong)

/-- 'chittylaw11.BundleBack': WHATEVER THE INPUT: true; the input reads as it did. -/
def bundleBackSpec : ChangeSpec := { name := "bundleBack", fn := fun _ => fun
  | [d1, d2, d3] => { results := [.lit (.bool true)], args := [d1, d2, d3] }
  | _ => none }
def bundleBackRow : OpenClaim := { program := "ytlfhbnajopekpaa", sum := "a2595fafaf56748a17bed5a7ce92df0cb76c9a98a809be43f6ef7c19d0d76cc1", func := "chitty/chittylaw11.BundleBack", spec := "bundleBack", unfollowed := true, recurses := true, apart := false }
def BundleBackSaid : Prop := bundleBackRow.holds Try.pinned (OpenSpec.ofChange bundleBackSpec)

/-- ITS FALSE NEIGHBOUR: 'it returns false'. Refute it at one input. -/
def bundleBackWrong : ChangeSpec := { name := "bundleBack", fn := fun _ => fun
  | [d1, d2, d3] => { results := [.lit (.bool false)], args := [d1, d2, d3] }
  | _ => none }
def BundleBackWrongFalsely : Prop := bundleBackRow.holds Try.pinned (OpenSpec.ofChange bundleBackWrong)

/-- 'chittylaw11.BundleLong': WHATEVER THE INPUT: true; the input reads as it did. -/
def bundleLongSpec : ChangeSpec := { name := "bundleLong", fn := fun _ => fun
  | [d1, d2] => { results := [.lit (.bool true)], args := [d1, d2] }
  | _ => none }
def bundleLongRow : OpenClaim := { program := "ytlfhbnajopekpaa", sum := "a2595fafaf56748a17bed5a7ce92df0cb76c9a98a809be43f6ef7c19d0d76cc1", func := "chitty/chittylaw11.BundleLong", spec := "bundleLong", unfollowed := true, recurses := true, apart := false }
def BundleLongSaid : Prop := bundleLongRow.holds Try.pinned (OpenSpec.ofChange bundleLongSpec)

/-- ITS FALSE NEIGHBOUR: 'it returns false'. Refute it at one input. -/
def bundleLongWrong : ChangeSpec := { name := "bundleLong", fn := fun _ => fun
  | [d1, d2] => { results := [.lit (.bool false)], args := [d1, d2] }
  | _ => none }
def BundleLongWrongFalsely : Prop := bundleLongRow.holds Try.pinned (OpenSpec.ofChange bundleLongWrong)

/-- 'chittylaw11.BundleTells': WHATEVER THE INPUT: true; the input reads as it did. -/
def bundleTellsSpec : ChangeSpec := { name := "bundleTells", fn := fun _ => fun
  | [d1, d2, d3] => { results := [.lit (.bool true)], args := [d1, d2, d3] }
  | _ => none }
def bundleTellsRow : OpenClaim := { program := "ytlfhbnajopekpaa", sum := "a2595fafaf56748a17bed5a7ce92df0cb76c9a98a809be43f6ef7c19d0d76cc1", func := "chitty/chittylaw11.BundleTells", spec := "bundleTells", unfollowed := true, recurses := true, apart := false }
def BundleTellsSaid : Prop := bundleTellsRow.holds Try.pinned (OpenSpec.ofChange bundleTellsSpec)

/-- ITS FALSE NEIGHBOUR: 'it returns false'. Refute it at one input. -/
def bundleTellsWrong : ChangeSpec := { name := "bundleTells", fn := fun _ => fun
  | [d1, d2, d3] => { results := [.lit (.bool false)], args := [d1, d2, d3] }
  | _ => none }
def BundleTellsWrongFalsely : Prop := bundleTellsRow.holds Try.pinned (OpenSpec.ofChange bundleTellsWrong)

/- THE SECOND FORM. 'bulk': how many values and letters a reading holds, each counted each time it is reached (what is shared counts as often as it is met; a slice's spare places count too). A statement '..UptoSaid' is the law's where the arguments, and the package variables that the reading takes, are together of bulk at most 1048576: NARROWER than '..Said'. Prove '..Said' where nothing that the law and all that it calls make is longer than what came in: it says more and counts as full. Else prove '..UptoSaid'. A law counts once. -/
mutual
def uptoBulk {H : Type} : DataW H → Nat
  | .lit (.string bytes) => bytes.length + 1
  | .lit _ => 1
  | .nil => 1
  | .ptr d => uptoBulk d + 1
  | .slice elems spare => uptoBulkAll elems + uptoBulkAll spare + 1
  | .agg parts => uptoBulkAll parts + 1
  | .iface _ d => uptoBulk d + 1
  | .map entries => uptoBulkEntries entries + 1
  | .held _ => 1
def uptoBulkAll {H : Type} : List (DataW H) → Nat
  | [] => 0
  | d :: r => uptoBulk d + uptoBulkAll r
def uptoBulkEntries {H : Type} : List (Lit × DataW H) → Nat
  | [] => 0
  | x :: r => uptoBulkEntry x + uptoBulkEntries r
def uptoBulkEntry {H : Type} : Lit × DataW H → Nat
  | (.string bytes, d) => bytes.length + uptoBulk d + 1
  | (_, d) => uptoBulk d + 1
 end
def uptoSmall : (H : Type) → List (DataW H) → Bool := fun _ ds => decide (uptoBulkAll ds ≤ 1048576)
def OpenSpec.upto (s : _root_.Go.ChangeSpec) : _root_.Go.OpenSpec := { _root_.Go.OpenSpec.ofChange s with cond := some uptoSmall }

/-- 'chittylaw24.StoreKeeps', WHERE WHAT IT READS IS OF BULK AT MOST 1048576: true; the input reads as it did. -/
def storeKeepsUptoRow : OpenClaim := { program := "ytlfhbnajopekpaa", sum := "a2595fafaf56748a17bed5a7ce92df0cb76c9a98a809be43f6ef7c19d0d76cc1", func := "chitty/chittylaw24.StoreKeeps", spec := "storeKeeps", apart := false, narrowed := true }
def StoreKeepsUptoSaid : Prop := storeKeepsUptoRow.holds Try.pinned (OpenSpec.upto storeKeepsSpec)

/-- 'chittylaw23.KeysApart', WHERE WHAT IT READS IS OF BULK AT MOST 1048576: true; the input reads as it did. -/
def keysApartUptoRow : OpenClaim := { program := "ytlfhbnajopekpaa", sum := "a2595fafaf56748a17bed5a7ce92df0cb76c9a98a809be43f6ef7c19d0d76cc1", func := "chitty/chittylaw23.KeysApart", spec := "keysApart", inPlace := ["maps.clone"], apart := false, narrowed := true }
def KeysApartUptoSaid : Prop := keysApartUptoRow.holds Try.pinned (OpenSpec.upto keysApartSpec)

/-- 'chittylaw23.KeysDead', WHERE WHAT IT READS IS OF BULK AT MOST 1048576: true; the input reads as it did. -/
def keysDeadUptoRow : OpenClaim := { program := "ytlfhbnajopekpaa", sum := "a2595fafaf56748a17bed5a7ce92df0cb76c9a98a809be43f6ef7c19d0d76cc1", func := "chitty/chittylaw23.KeysDead", spec := "keysDead", apart := false, narrowed := true }
def KeysDeadUptoSaid : Prop := keysDeadUptoRow.holds Try.pinned (OpenSpec.upto keysDeadSpec)

/-- 'chittylaw10.PacketBack', WHERE WHAT IT READS IS OF BULK AT MOST 1048576: true; the input reads as it did. -/
def packetBackUptoRow : OpenClaim := { program := "ytlfhbnajopekpaa", sum := "a2595fafaf56748a17bed5a7ce92df0cb76c9a98a809be43f6ef7c19d0d76cc1", func := "chitty/chittylaw10.PacketBack", spec := "packetBack", unfollowed := true, recurses := true, apart := false, narrowed := true }
def PacketBackUptoSaid : Prop := packetBackUptoRow.holds Try.pinned (OpenSpec.upto packetBackSpec)

/-- 'chittylaw24.StoreReads', WHERE WHAT IT READS IS OF BULK AT MOST 1048576: true; the input reads as it did. -/
def storeReadsUptoRow : OpenClaim := { program := "ytlfhbnajopekpaa", sum := "a2595fafaf56748a17bed5a7ce92df0cb76c9a98a809be43f6ef7c19d0d76cc1", func := "chitty/chittylaw24.StoreReads", spec := "storeReads", unfollowed := true, recurses := true, apart := false, narrowed := true }
def StoreReadsUptoSaid : Prop := storeReadsUptoRow.holds Try.pinned (OpenSpec.upto storeReadsSpec)

/-- 'chittylaw10.PacketTells', WHERE WHAT IT READS IS OF BULK AT MOST 1048576: true; the input reads as it did. -/
def packetTellsUptoRow : OpenClaim := { program := "ytlfhbnajopekpaa", sum := "a2595fafaf56748a17bed5a7ce92df0cb76c9a98a809be43f6ef7c19d0d76cc1", func := "chitty/chittylaw10.PacketTells", spec := "packetTells", unfollowed := true, recurses := true, apart := false, narrowed := true }
def PacketTellsUptoSaid : Prop := packetTellsUptoRow.holds Try.pinned (OpenSpec.upto packetTellsSpec)

/-- 'chittylaw11.BundleBack', WHERE WHAT IT READS IS OF BULK AT MOST 1048576: true; the input reads as it did. -/
def bundleBackUptoRow : OpenClaim := { program := "ytlfhbnajopekpaa", sum := "a2595fafaf56748a17bed5a7ce92df0cb76c9a98a809be43f6ef7c19d0d76cc1", func := "chitty/chittylaw11.BundleBack", spec := "bundleBack", unfollowed := true, recurses := true, apart := false, narrowed := true }
def BundleBackUptoSaid : Prop := bundleBackUptoRow.holds Try.pinned (OpenSpec.upto bundleBackSpec)

/-- 'chittylaw11.BundleLong', WHERE WHAT IT READS IS OF BULK AT MOST 1048576: true; the input reads as it did. -/
def bundleLongUptoRow : OpenClaim := { program := "ytlfhbnajopekpaa", sum := "a2595fafaf56748a17bed5a7ce92df0cb76c9a98a809be43f6ef7c19d0d76cc1", func := "chitty/chittylaw11.BundleLong", spec := "bundleLong", unfollowed := true, recurses := true, apart := false, narrowed := true }
def BundleLongUptoSaid : Prop := bundleLongUptoRow.holds Try.pinned (OpenSpec.upto bundleLongSpec)

/-- 'chittylaw11.BundleTells', WHERE WHAT IT READS IS OF BULK AT MOST 1048576: true; the input reads as it did. -/
def bundleTellsUptoRow : OpenClaim := { program := "ytlfhbnajopekpaa", sum := "a2595fafaf56748a17bed5a7ce92df0cb76c9a98a809be43f6ef7c19d0d76cc1", func := "chitty/chittylaw11.BundleTells", spec := "bundleTells", unfollowed := true, recurses := true, apart := false, narrowed := true }
def BundleTellsUptoSaid : Prop := bundleTellsUptoRow.holds Try.pinned (OpenSpec.upto bundleTellsSpec)

end Rows
end Go.Proofs.Ytlfhbnajopekpaa
