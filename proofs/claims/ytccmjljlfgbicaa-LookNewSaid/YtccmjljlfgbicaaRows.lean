/-
  No cell of these rows narrows 'for every input' (looked for: loops, veiled, ifaces, maps, wideKeys, modest, calm, conditions, laid).
  DERIVED. THE GIVEN ROWS OF THIS SEAT. 5 by the template 'for every input the law returns true; each argument reads behind the call as it read before'; 0 by the template 'total and deterministic' (their statements: YtccmjljlfgbicaaTotals.lean).
  GIVEN WITH THE SEED: the statements are not yours to turn. If you find one false, say at which input.
  Laid BY PROGRAM, IN A SANDBOX (cutbox-rows.mjs): the forced cells as the released guide's own fill.sh prints them over the translation 9c4c6ff683b01bf9… (all of the seat's roots in one cut). By AI agents, Wed Nov 11 2026. No macro, syntax, notation, axiom, sorry.
-/
import Derived.Test.YtccmjljlfgbicaaChecked
import GoSem.Claim
import GoSem.ClaimJoined
import GoSem.ClaimMapViews
import Derived.JoinedTies
import Derived.KernelRfl
namespace Go.Proofs.Ytccmjljlfgbicaa
/- THE CELL 'sum', in the pinned program and in every row, IS THE sha256 OF THE DUMP (.gsa) THAT YtccmjljlfgbicaaProg.lean LOADS. Nothing in Lean hashes anything: it is a label: what it is worth is what the hold of that sum in a sandbox is worth. -/
noncomputable def Try.pinned : Pinned := { name := "ytccmjljlfgbicaa", sum := "9c4c6ff683b01bf9c82c8d7c374dd6961943b4466f19de9cb2fd3fe56f28c945", checked := Try.checked }
namespace Rows
def none {H : Type} : Left H := { results := [], args := [] }

/-- 'corrielaw18.ScanRises': WHATEVER THE INPUT: true; the input reads as it did. -/
def scanRisesSpec : ChangeSpec := { name := "scanRises", fn := fun _ => fun
  | [d1, d2, d3] => { results := [.lit (.bool true)], args := [d1, d2, d3] }
  | _ => none }
def scanRisesRow : OpenClaim := { program := "ytccmjljlfgbicaa", sum := "9c4c6ff683b01bf9c82c8d7c374dd6961943b4466f19de9cb2fd3fe56f28c945", func := "corrie/corrielaw18.ScanRises", spec := "scanRises", inPlace := ["sync/atomic.CompareAndSwapUint64", "sync/atomic.AddInt64", "sync/atomic.LoadUint64", "sync/atomic.StoreUint64"], unfollowed := true, recurses := true, apart := false }
def ScanRisesSaid : Prop := scanRisesRow.holds Try.pinned (OpenSpec.ofChange scanRisesSpec)

/-- ITS FALSE NEIGHBOUR: 'it returns false'. Refute it at one input. -/
def scanRisesWrong : ChangeSpec := { name := "scanRises", fn := fun _ => fun
  | [d1, d2, d3] => { results := [.lit (.bool false)], args := [d1, d2, d3] }
  | _ => none }
def ScanRisesWrongFalsely : Prop := scanRisesRow.holds Try.pinned (OpenSpec.ofChange scanRisesWrong)

/-- 'corrielaw18.ScanParts': WHATEVER THE INPUT: true; the input reads as it did. -/
def scanPartsSpec : ChangeSpec := { name := "scanParts", fn := fun _ => fun
  | [d1, d2] => { results := [.lit (.bool true)], args := [d1, d2] }
  | _ => none }
def scanPartsRow : OpenClaim := { program := "ytccmjljlfgbicaa", sum := "9c4c6ff683b01bf9c82c8d7c374dd6961943b4466f19de9cb2fd3fe56f28c945", func := "corrie/corrielaw18.ScanParts", spec := "scanParts", inPlace := ["sync/atomic.CompareAndSwapUint64", "sync/atomic.AddInt64", "sync/atomic.LoadUint64", "sync/atomic.StoreUint64"], unfollowed := true, recurses := true, apart := false }
def ScanPartsSaid : Prop := scanPartsRow.holds Try.pinned (OpenSpec.ofChange scanPartsSpec)

/-- ITS FALSE NEIGHBOUR: 'it returns false'. Refute it at one input. -/
def scanPartsWrong : ChangeSpec := { name := "scanParts", fn := fun _ => fun
  | [d1, d2] => { results := [.lit (.bool false)], args := [d1, d2] }
  | _ => none }
def ScanPartsWrongFalsely : Prop := scanPartsRow.holds Try.pinned (OpenSpec.ofChange scanPartsWrong)

/-- 'corrielaw10.WalkEnds': WHATEVER THE INPUT: true; the input reads as it did. -/
def walkEndsSpec : ChangeSpec := { name := "walkEnds", fn := fun _ => fun
  | [d1, d2, d3] => { results := [.lit (.bool true)], args := [d1, d2, d3] }
  | _ => none }
def walkEndsRow : OpenClaim := { program := "ytccmjljlfgbicaa", sum := "9c4c6ff683b01bf9c82c8d7c374dd6961943b4466f19de9cb2fd3fe56f28c945", func := "corrie/corrielaw10.WalkEnds", spec := "walkEnds", inPlace := ["sync/atomic.CompareAndSwapUint64", "sync/atomic.AddInt64", "sync/atomic.LoadUint64", "sync/atomic.StoreUint64", "sync/atomic.LoadInt64"], unfollowed := true, recurses := true, apart := false }
def WalkEndsSaid : Prop := walkEndsRow.holds Try.pinned (OpenSpec.ofChange walkEndsSpec)

/-- ITS FALSE NEIGHBOUR: 'it returns false'. Refute it at one input. -/
def walkEndsWrong : ChangeSpec := { name := "walkEnds", fn := fun _ => fun
  | [d1, d2, d3] => { results := [.lit (.bool false)], args := [d1, d2, d3] }
  | _ => none }
def WalkEndsWrongFalsely : Prop := walkEndsRow.holds Try.pinned (OpenSpec.ofChange walkEndsWrong)

/-- 'corrielaw09.LookRises': WHATEVER THE INPUT: true; the input reads as it did. -/
def lookRisesSpec : ChangeSpec := { name := "lookRises", fn := fun _ => fun
  | [d] => { results := [.lit (.bool true)], args := [d] }
  | _ => none }
def lookRisesRow : OpenClaim := { program := "ytccmjljlfgbicaa", sum := "9c4c6ff683b01bf9c82c8d7c374dd6961943b4466f19de9cb2fd3fe56f28c945", func := "corrie/corrielaw09.LookRises", spec := "lookRises", inPlace := ["sync/atomic.CompareAndSwapUint64", "sync/atomic.AddInt64", "sync/atomic.LoadUint64", "sync/atomic.StoreUint64"], unfollowed := true, recurses := true, apart := false }
def LookRisesSaid : Prop := lookRisesRow.holds Try.pinned (OpenSpec.ofChange lookRisesSpec)

/-- ITS FALSE NEIGHBOUR: 'it returns false'. Refute it at one input. -/
def lookRisesWrong : ChangeSpec := { name := "lookRises", fn := fun _ => fun
  | [d] => { results := [.lit (.bool false)], args := [d] }
  | _ => none }
def LookRisesWrongFalsely : Prop := lookRisesRow.holds Try.pinned (OpenSpec.ofChange lookRisesWrong)

/-- 'corrielaw09.LookNew': WHATEVER THE INPUT: true; the input reads as it did. -/
def lookNewSpec : ChangeSpec := { name := "lookNew", fn := fun _ => fun
  | [d1, d2] => { results := [.lit (.bool true)], args := [d1, d2] }
  | _ => none }
def lookNewRow : OpenClaim := { program := "ytccmjljlfgbicaa", sum := "9c4c6ff683b01bf9c82c8d7c374dd6961943b4466f19de9cb2fd3fe56f28c945", func := "corrie/corrielaw09.LookNew", spec := "lookNew", inPlace := ["sync/atomic.CompareAndSwapUint64", "sync/atomic.AddInt64", "sync/atomic.LoadUint64", "sync/atomic.StoreUint64"], unfollowed := true, recurses := true, apart := false }
def LookNewSaid : Prop := lookNewRow.holds Try.pinned (OpenSpec.ofChange lookNewSpec)

/-- ITS FALSE NEIGHBOUR: 'it returns false'. Refute it at one input. -/
def lookNewWrong : ChangeSpec := { name := "lookNew", fn := fun _ => fun
  | [d1, d2] => { results := [.lit (.bool false)], args := [d1, d2] }
  | _ => none }
def LookNewWrongFalsely : Prop := lookNewRow.holds Try.pinned (OpenSpec.ofChange lookNewWrong)

/- THE SECOND FORM. 'bulk': how many values and letters a reading holds, each counted each time it is reached (what is shared counts as often as it is met; a slice's spare places count too). A statement '..UptoSaid' is the law's where the arguments, and the package variables that the reading takes, are together of bulk at most 1048576: NARROWER than '..Said'. Prove '..Said' where nothing that the law and all that it calls make is longer than what came in: it says more and counts as full. Else prove '..UptoSaid'. A law counts once. -/
mutual
def uptoBulk {H : Type} : DataW H → Nat
  | .lit (.string bytes) => bytes.length + 1
  | .lit _ => 1
  | .nil => 1
  | .ptr d => uptoBulk d + 1
  | .slice elems spare => uptoBulkAll elems + uptoBulkAll spare + 1
  | .agg parts => uptoBulkAll parts + 1
  | .iface _ d => uptoBulk d + 1
  | .map entries => uptoBulkEntries entries + 1
  | .held _ => 1
def uptoBulkAll {H : Type} : List (DataW H) → Nat
  | [] => 0
  | d :: r => uptoBulk d + uptoBulkAll r
def uptoBulkEntries {H : Type} : List (Lit × DataW H) → Nat
  | [] => 0
  | x :: r => uptoBulkEntry x + uptoBulkEntries r
def uptoBulkEntry {H : Type} : Lit × DataW H → Nat
  | (.string bytes, d) => bytes.length + uptoBulk d + 1
  | (_, d) => uptoBulk d + 1
 end
def uptoSmall : (H : Type) → List (DataW H) → Bool := fun _ ds => decide (uptoBulkAll ds ≤ 1048576)
def OpenSpec.upto (s : _root_.Go.ChangeSpec) : _root_.Go.OpenSpec := { _root_.Go.OpenSpec.ofChange s with cond := some uptoSmall }

/-- 'corrielaw18.ScanRises', WHERE WHAT IT READS IS OF BULK AT MOST 1048576: true; the input reads as it did. -/
def scanRisesUptoRow : OpenClaim := { program := "ytccmjljlfgbicaa", sum := "9c4c6ff683b01bf9c82c8d7c374dd6961943b4466f19de9cb2fd3fe56f28c945", func := "corrie/corrielaw18.ScanRises", spec := "scanRises", inPlace := ["sync/atomic.CompareAndSwapUint64", "sync/atomic.AddInt64", "sync/atomic.LoadUint64", "sync/atomic.StoreUint64"], unfollowed := true, recurses := true, apart := false, narrowed := true }
def ScanRisesUptoSaid : Prop := scanRisesUptoRow.holds Try.pinned (OpenSpec.upto scanRisesSpec)

/-- 'corrielaw18.ScanParts', WHERE WHAT IT READS IS OF BULK AT MOST 1048576: true; the input reads as it did. -/
def scanPartsUptoRow : OpenClaim := { program := "ytccmjljlfgbicaa", sum := "9c4c6ff683b01bf9c82c8d7c374dd6961943b4466f19de9cb2fd3fe56f28c945", func := "corrie/corrielaw18.ScanParts", spec := "scanParts", inPlace := ["sync/atomic.CompareAndSwapUint64", "sync/atomic.AddInt64", "sync/atomic.LoadUint64", "sync/atomic.StoreUint64"], unfollowed := true, recurses := true, apart := false, narrowed := true }
def ScanPartsUptoSaid : Prop := scanPartsUptoRow.holds Try.pinned (OpenSpec.upto scanPartsSpec)

/-- 'corrielaw10.WalkEnds', WHERE WHAT IT READS IS OF BULK AT MOST 1048576: true; the input reads as it did. -/
def walkEndsUptoRow : OpenClaim := { program := "ytccmjljlfgbicaa", sum := "9c4c6ff683b01bf9c82c8d7c374dd6961943b4466f19de9cb2fd3fe56f28c945", func := "corrie/corrielaw10.WalkEnds", spec := "walkEnds", inPlace := ["sync/atomic.CompareAndSwapUint64", "sync/atomic.AddInt64", "sync/atomic.LoadUint64", "sync/atomic.StoreUint64", "sync/atomic.LoadInt64"], unfollowed := true, recurses := true, apart := false, narrowed := true }
def WalkEndsUptoSaid : Prop := walkEndsUptoRow.holds Try.pinned (OpenSpec.upto walkEndsSpec)

/-- 'corrielaw09.LookRises', WHERE WHAT IT READS IS OF BULK AT MOST 1048576: true; the input reads as it did. -/
def lookRisesUptoRow : OpenClaim := { program := "ytccmjljlfgbicaa", sum := "9c4c6ff683b01bf9c82c8d7c374dd6961943b4466f19de9cb2fd3fe56f28c945", func := "corrie/corrielaw09.LookRises", spec := "lookRises", inPlace := ["sync/atomic.CompareAndSwapUint64", "sync/atomic.AddInt64", "sync/atomic.LoadUint64", "sync/atomic.StoreUint64"], unfollowed := true, recurses := true, apart := false, narrowed := true }
def LookRisesUptoSaid : Prop := lookRisesUptoRow.holds Try.pinned (OpenSpec.upto lookRisesSpec)

/-- 'corrielaw09.LookNew', WHERE WHAT IT READS IS OF BULK AT MOST 1048576: true; the input reads as it did. -/
def lookNewUptoRow : OpenClaim := { program := "ytccmjljlfgbicaa", sum := "9c4c6ff683b01bf9c82c8d7c374dd6961943b4466f19de9cb2fd3fe56f28c945", func := "corrie/corrielaw09.LookNew", spec := "lookNew", inPlace := ["sync/atomic.CompareAndSwapUint64", "sync/atomic.AddInt64", "sync/atomic.LoadUint64", "sync/atomic.StoreUint64"], unfollowed := true, recurses := true, apart := false, narrowed := true }
def LookNewUptoSaid : Prop := lookNewUptoRow.holds Try.pinned (OpenSpec.upto lookNewSpec)

end Rows
end Go.Proofs.Ytccmjljlfgbicaa
