/-
  No cell of these rows narrows 'for every input' (looked for: loops, veiled, ifaces, maps, wideKeys, modest, calm, conditions, laid).
  DERIVED. THE GIVEN ROWS OF THIS SEAT. 10 by the template 'for every input the law returns true; each argument reads behind the call as it read before'; 0 by the template 'total and deterministic' (their statements: YtccmjljlfgbicaaGreatTotals.lean).
  GIVEN WITH THE SEED: the statements are not yours to turn. If you find one false, say at which input.
  Laid BY PROGRAM, IN A SANDBOX (cutbox-rows.mjs): the forced cells as the released guide's own fill.sh prints them over the translation 31f3c0f3cf8384f9… (all of the seat's roots in one cut). By AI agents, Wed Nov 11 2026. No macro, syntax, notation, axiom, sorry.
-/
import Derived.Test.YtccmjljlfgbicaaGreatChecked
import GoSem.Claim
import GoSem.ClaimJoined
import GoSem.ClaimMapViews
import Derived.JoinedTies
import Derived.KernelRfl
namespace Go.Proofs.YtccmjljlfgbicaaGreat
/- THE CELL 'sum', in the pinned program and in every row, IS THE sha256 OF THE DUMP (.gsa) THAT YtccmjljlfgbicaaGreatProg.lean LOADS. Nothing in Lean hashes anything: it is a label: what it is worth is what the hold of that sum in a sandbox is worth. -/
noncomputable def Tryz.pinned : Pinned := { name := "ytccmjljlfgbicaagreat", sum := "31f3c0f3cf8384f99c0b6f8d33d9615e4c905fef04780b38e220493723d55b13", checked := Tryz.checked }
namespace Rows
def none {H : Type} : Left H := { results := [], args := [] }

/-- 'corrielaw18.ScanSteps': WHATEVER THE INPUT: true; the input reads as it did. -/
def scanStepsSpec : ChangeSpec := { name := "scanSteps", fn := fun _ => fun
  | [d1, d2, d3] => { results := [.lit (.bool true)], args := [d1, d2, d3] }
  | _ => none }
def scanStepsRow : OpenClaim := { program := "ytccmjljlfgbicaagreat", sum := "31f3c0f3cf8384f99c0b6f8d33d9615e4c905fef04780b38e220493723d55b13", func := "corrie/corrielaw18.ScanSteps", spec := "scanSteps", inPlace := ["sync/atomic.CompareAndSwapUint64", "sync/atomic.AddInt64", "sync/atomic.LoadUint64", "sync/atomic.StoreUint64", "sync/atomic.LoadInt64"], unfollowed := true, recurses := true, apart := false }
def ScanStepsSaid : Prop := scanStepsRow.holds Tryz.pinned (OpenSpec.ofChange scanStepsSpec)

/-- ITS FALSE NEIGHBOUR: 'it returns false'. Refute it at one input. -/
def scanStepsWrong : ChangeSpec := { name := "scanSteps", fn := fun _ => fun
  | [d1, d2, d3] => { results := [.lit (.bool false)], args := [d1, d2, d3] }
  | _ => none }
def ScanStepsWrongFalsely : Prop := scanStepsRow.holds Tryz.pinned (OpenSpec.ofChange scanStepsWrong)

/-- 'corrielaw18.ScanNew': WHATEVER THE INPUT: true; the input reads as it did. -/
def scanNewSpec : ChangeSpec := { name := "scanNew", fn := fun _ => fun
  | [d1, d2, d3] => { results := [.lit (.bool true)], args := [d1, d2, d3] }
  | _ => none }
def scanNewRow : OpenClaim := { program := "ytccmjljlfgbicaagreat", sum := "31f3c0f3cf8384f99c0b6f8d33d9615e4c905fef04780b38e220493723d55b13", func := "corrie/corrielaw18.ScanNew", spec := "scanNew", inPlace := ["sync/atomic.CompareAndSwapUint64", "sync/atomic.AddInt64", "sync/atomic.LoadUint64", "sync/atomic.StoreUint64", "sync/atomic.LoadInt64"], unfollowed := true, recurses := true, apart := false }
def ScanNewSaid : Prop := scanNewRow.holds Tryz.pinned (OpenSpec.ofChange scanNewSpec)

/-- ITS FALSE NEIGHBOUR: 'it returns false'. Refute it at one input. -/
def scanNewWrong : ChangeSpec := { name := "scanNew", fn := fun _ => fun
  | [d1, d2, d3] => { results := [.lit (.bool false)], args := [d1, d2, d3] }
  | _ => none }
def ScanNewWrongFalsely : Prop := scanNewRow.holds Tryz.pinned (OpenSpec.ofChange scanNewWrong)

/-- 'corrielaw10.WalkSteps': WHATEVER THE INPUT: true; the input reads as it did. -/
def walkStepsSpec : ChangeSpec := { name := "walkSteps", fn := fun _ => fun
  | [d1, d2, d3] => { results := [.lit (.bool true)], args := [d1, d2, d3] }
  | _ => none }
def walkStepsRow : OpenClaim := { program := "ytccmjljlfgbicaagreat", sum := "31f3c0f3cf8384f99c0b6f8d33d9615e4c905fef04780b38e220493723d55b13", func := "corrie/corrielaw10.WalkSteps", spec := "walkSteps", inPlace := ["sync/atomic.CompareAndSwapUint64", "sync/atomic.AddInt64", "sync/atomic.LoadUint64", "sync/atomic.StoreUint64", "sync/atomic.LoadInt64"], unfollowed := true, recurses := true, apart := false }
def WalkStepsSaid : Prop := walkStepsRow.holds Tryz.pinned (OpenSpec.ofChange walkStepsSpec)

/-- ITS FALSE NEIGHBOUR: 'it returns false'. Refute it at one input. -/
def walkStepsWrong : ChangeSpec := { name := "walkSteps", fn := fun _ => fun
  | [d1, d2, d3] => { results := [.lit (.bool false)], args := [d1, d2, d3] }
  | _ => none }
def WalkStepsWrongFalsely : Prop := walkStepsRow.holds Tryz.pinned (OpenSpec.ofChange walkStepsWrong)

/-- 'corrielaw10.WalkAny': WHATEVER THE INPUT: true; the input reads as it did. -/
def walkAnySpec : ChangeSpec := { name := "walkAny", fn := fun _ => fun
  | [d1, d2] => { results := [.lit (.bool true)], args := [d1, d2] }
  | _ => none }
def walkAnyRow : OpenClaim := { program := "ytccmjljlfgbicaagreat", sum := "31f3c0f3cf8384f99c0b6f8d33d9615e4c905fef04780b38e220493723d55b13", func := "corrie/corrielaw10.WalkAny", spec := "walkAny", inPlace := ["sync/atomic.CompareAndSwapUint64", "sync/atomic.AddInt64", "sync/atomic.LoadUint64", "sync/atomic.StoreUint64", "sync/atomic.LoadInt64"], unfollowed := true, recurses := true, apart := false }
def WalkAnySaid : Prop := walkAnyRow.holds Tryz.pinned (OpenSpec.ofChange walkAnySpec)

/-- ITS FALSE NEIGHBOUR: 'it returns false'. Refute it at one input. -/
def walkAnyWrong : ChangeSpec := { name := "walkAny", fn := fun _ => fun
  | [d1, d2] => { results := [.lit (.bool false)], args := [d1, d2] }
  | _ => none }
def WalkAnyWrongFalsely : Prop := walkAnyRow.holds Tryz.pinned (OpenSpec.ofChange walkAnyWrong)

/-- 'corrielaw10.WalkCleans': WHATEVER THE INPUT: true; the input reads as it did. -/
def walkCleansSpec : ChangeSpec := { name := "walkCleans", fn := fun _ => fun
  | [d1, d2, d3] => { results := [.lit (.bool true)], args := [d1, d2, d3] }
  | _ => none }
def walkCleansRow : OpenClaim := { program := "ytccmjljlfgbicaagreat", sum := "31f3c0f3cf8384f99c0b6f8d33d9615e4c905fef04780b38e220493723d55b13", func := "corrie/corrielaw10.WalkCleans", spec := "walkCleans", inPlace := ["sync/atomic.CompareAndSwapUint64", "sync/atomic.AddInt64", "sync/atomic.LoadUint64", "sync/atomic.StoreUint64", "sync/atomic.LoadInt64"], unfollowed := true, recurses := true, apart := false }
def WalkCleansSaid : Prop := walkCleansRow.holds Tryz.pinned (OpenSpec.ofChange walkCleansSpec)

/-- ITS FALSE NEIGHBOUR: 'it returns false'. Refute it at one input. -/
def walkCleansWrong : ChangeSpec := { name := "walkCleans", fn := fun _ => fun
  | [d1, d2, d3] => { results := [.lit (.bool false)], args := [d1, d2, d3] }
  | _ => none }
def WalkCleansWrongFalsely : Prop := walkCleansRow.holds Tryz.pinned (OpenSpec.ofChange walkCleansWrong)

/-- 'corrielaw09.LookChain': WHATEVER THE INPUT: true; the input reads as it did. -/
def lookChainSpec : ChangeSpec := { name := "lookChain", fn := fun _ => fun
  | [d1, d2, d3] => { results := [.lit (.bool true)], args := [d1, d2, d3] }
  | _ => none }
def lookChainRow : OpenClaim := { program := "ytccmjljlfgbicaagreat", sum := "31f3c0f3cf8384f99c0b6f8d33d9615e4c905fef04780b38e220493723d55b13", func := "corrie/corrielaw09.LookChain", spec := "lookChain", inPlace := ["sync/atomic.CompareAndSwapUint64", "sync/atomic.AddInt64", "sync/atomic.LoadUint64", "sync/atomic.StoreUint64"], unfollowed := true, recurses := true, apart := false }
def LookChainSaid : Prop := lookChainRow.holds Tryz.pinned (OpenSpec.ofChange lookChainSpec)

/-- ITS FALSE NEIGHBOUR: 'it returns false'. Refute it at one input. -/
def lookChainWrong : ChangeSpec := { name := "lookChain", fn := fun _ => fun
  | [d1, d2, d3] => { results := [.lit (.bool false)], args := [d1, d2, d3] }
  | _ => none }
def LookChainWrongFalsely : Prop := lookChainRow.holds Tryz.pinned (OpenSpec.ofChange lookChainWrong)

/-- 'corrielaw09.LookTurn': WHATEVER THE INPUT: true; the input reads as it did. -/
def lookTurnSpec : ChangeSpec := { name := "lookTurn", fn := fun _ => fun
  | [d1, d2] => { results := [.lit (.bool true)], args := [d1, d2] }
  | _ => none }
def lookTurnRow : OpenClaim := { program := "ytccmjljlfgbicaagreat", sum := "31f3c0f3cf8384f99c0b6f8d33d9615e4c905fef04780b38e220493723d55b13", func := "corrie/corrielaw09.LookTurn", spec := "lookTurn", inPlace := ["sync/atomic.CompareAndSwapUint64", "sync/atomic.AddInt64", "sync/atomic.LoadUint64", "sync/atomic.StoreUint64"], unfollowed := true, recurses := true, apart := false }
def LookTurnSaid : Prop := lookTurnRow.holds Tryz.pinned (OpenSpec.ofChange lookTurnSpec)

/-- ITS FALSE NEIGHBOUR: 'it returns false'. Refute it at one input. -/
def lookTurnWrong : ChangeSpec := { name := "lookTurn", fn := fun _ => fun
  | [d1, d2] => { results := [.lit (.bool false)], args := [d1, d2] }
  | _ => none }
def LookTurnWrongFalsely : Prop := lookTurnRow.holds Tryz.pinned (OpenSpec.ofChange lookTurnWrong)

/-- 'corrielaw09.LookPairs': WHATEVER THE INPUT: true; the input reads as it did. -/
def lookPairsSpec : ChangeSpec := { name := "lookPairs", fn := fun _ => fun
  | [d1, d2] => { results := [.lit (.bool true)], args := [d1, d2] }
  | _ => none }
def lookPairsRow : OpenClaim := { program := "ytccmjljlfgbicaagreat", sum := "31f3c0f3cf8384f99c0b6f8d33d9615e4c905fef04780b38e220493723d55b13", func := "corrie/corrielaw09.LookPairs", spec := "lookPairs", inPlace := ["sync/atomic.CompareAndSwapUint64", "sync/atomic.AddInt64", "sync/atomic.LoadUint64", "sync/atomic.StoreUint64", "sync/atomic.LoadInt64"], unfollowed := true, recurses := true, apart := false }
def LookPairsSaid : Prop := lookPairsRow.holds Tryz.pinned (OpenSpec.ofChange lookPairsSpec)

/-- ITS FALSE NEIGHBOUR: 'it returns false'. Refute it at one input. -/
def lookPairsWrong : ChangeSpec := { name := "lookPairs", fn := fun _ => fun
  | [d1, d2] => { results := [.lit (.bool false)], args := [d1, d2] }
  | _ => none }
def LookPairsWrongFalsely : Prop := lookPairsRow.holds Tryz.pinned (OpenSpec.ofChange lookPairsWrong)

/-- 'corrielaw18.ScanQuiet': WHATEVER THE INPUT: true; the input reads as it did. -/
def scanQuietSpec : ChangeSpec := { name := "scanQuiet", fn := fun _ => fun
  | [d1, d2] => { results := [.lit (.bool true)], args := [d1, d2] }
  | _ => none }
def scanQuietRow : OpenClaim := { program := "ytccmjljlfgbicaagreat", sum := "31f3c0f3cf8384f99c0b6f8d33d9615e4c905fef04780b38e220493723d55b13", func := "corrie/corrielaw18.ScanQuiet", spec := "scanQuiet", inPlace := ["sync/atomic.CompareAndSwapUint64", "sync/atomic.AddInt64", "sync/atomic.LoadUint64", "sync/atomic.StoreUint64", "sync/atomic.LoadInt64"], unfollowed := true, recurses := true, apart := false }
def ScanQuietSaid : Prop := scanQuietRow.holds Tryz.pinned (OpenSpec.ofChange scanQuietSpec)

/-- ITS FALSE NEIGHBOUR: 'it returns false'. Refute it at one input. -/
def scanQuietWrong : ChangeSpec := { name := "scanQuiet", fn := fun _ => fun
  | [d1, d2] => { results := [.lit (.bool false)], args := [d1, d2] }
  | _ => none }
def ScanQuietWrongFalsely : Prop := scanQuietRow.holds Tryz.pinned (OpenSpec.ofChange scanQuietWrong)

/-- 'corrielaw10.WalkSound': WHATEVER THE INPUT: true; the input reads as it did. -/
def walkSoundSpec : ChangeSpec := { name := "walkSound", fn := fun _ => fun
  | [d1, d2, d3] => { results := [.lit (.bool true)], args := [d1, d2, d3] }
  | _ => none }
def walkSoundRow : OpenClaim := { program := "ytccmjljlfgbicaagreat", sum := "31f3c0f3cf8384f99c0b6f8d33d9615e4c905fef04780b38e220493723d55b13", func := "corrie/corrielaw10.WalkSound", spec := "walkSound", inPlace := ["sync/atomic.CompareAndSwapUint64", "sync/atomic.AddInt64", "sync/atomic.LoadUint64", "sync/atomic.StoreUint64", "sync/atomic.LoadInt64"], unfollowed := true, recurses := true, apart := false }
def WalkSoundSaid : Prop := walkSoundRow.holds Tryz.pinned (OpenSpec.ofChange walkSoundSpec)

/-- ITS FALSE NEIGHBOUR: 'it returns false'. Refute it at one input. -/
def walkSoundWrong : ChangeSpec := { name := "walkSound", fn := fun _ => fun
  | [d1, d2, d3] => { results := [.lit (.bool false)], args := [d1, d2, d3] }
  | _ => none }
def WalkSoundWrongFalsely : Prop := walkSoundRow.holds Tryz.pinned (OpenSpec.ofChange walkSoundWrong)

/- THE SECOND FORM. 'bulk': how many values and letters a reading holds, each counted each time it is reached (what is shared counts as often as it is met; a slice's spare places count too). A statement '..UptoSaid' is the law's where the arguments, and the package variables that the reading takes, are together of bulk at most 1048576: NARROWER than '..Said'. Prove '..Said' where nothing that the law and all that it calls make is longer than what came in: it says more and counts as full. Else prove '..UptoSaid'. A law counts once. -/
mutual
def uptoBulk {H : Type} : DataW H → Nat
  | .lit (.string bytes) => bytes.length + 1
  | .lit _ => 1
  | .nil => 1
  | .ptr d => uptoBulk d + 1
  | .slice elems spare => uptoBulkAll elems + uptoBulkAll spare + 1
  | .agg parts => uptoBulkAll parts + 1
  | .iface _ d => uptoBulk d + 1
  | .map entries => uptoBulkEntries entries + 1
  | .held _ => 1
def uptoBulkAll {H : Type} : List (DataW H) → Nat
  | [] => 0
  | d :: r => uptoBulk d + uptoBulkAll r
def uptoBulkEntries {H : Type} : List (Lit × DataW H) → Nat
  | [] => 0
  | x :: r => uptoBulkEntry x + uptoBulkEntries r
def uptoBulkEntry {H : Type} : Lit × DataW H → Nat
  | (.string bytes, d) => bytes.length + uptoBulk d + 1
  | (_, d) => uptoBulk d + 1
 end
def uptoSmall : (H : Type) → List (DataW H) → Bool := fun _ ds => decide (uptoBulkAll ds ≤ 1048576)
def OpenSpec.upto (s : _root_.Go.ChangeSpec) : _root_.Go.OpenSpec := { _root_.Go.OpenSpec.ofChange s with cond := some uptoSmall }

/-- 'corrielaw18.ScanSteps', WHERE WHAT IT READS IS OF BULK AT MOST 1048576: true; the input reads as it did. -/
def scanStepsUptoRow : OpenClaim := { program := "ytccmjljlfgbicaagreat", sum := "31f3c0f3cf8384f99c0b6f8d33d9615e4c905fef04780b38e220493723d55b13", func := "corrie/corrielaw18.ScanSteps", spec := "scanSteps", inPlace := ["sync/atomic.CompareAndSwapUint64", "sync/atomic.AddInt64", "sync/atomic.LoadUint64", "sync/atomic.StoreUint64", "sync/atomic.LoadInt64"], unfollowed := true, recurses := true, apart := false, narrowed := true }
def ScanStepsUptoSaid : Prop := scanStepsUptoRow.holds Tryz.pinned (OpenSpec.upto scanStepsSpec)

/-- 'corrielaw18.ScanNew', WHERE WHAT IT READS IS OF BULK AT MOST 1048576: true; the input reads as it did. -/
def scanNewUptoRow : OpenClaim := { program := "ytccmjljlfgbicaagreat", sum := "31f3c0f3cf8384f99c0b6f8d33d9615e4c905fef04780b38e220493723d55b13", func := "corrie/corrielaw18.ScanNew", spec := "scanNew", inPlace := ["sync/atomic.CompareAndSwapUint64", "sync/atomic.AddInt64", "sync/atomic.LoadUint64", "sync/atomic.StoreUint64", "sync/atomic.LoadInt64"], unfollowed := true, recurses := true, apart := false, narrowed := true }
def ScanNewUptoSaid : Prop := scanNewUptoRow.holds Tryz.pinned (OpenSpec.upto scanNewSpec)

/-- 'corrielaw10.WalkSteps', WHERE WHAT IT READS IS OF BULK AT MOST 1048576: true; the input reads as it did. -/
def walkStepsUptoRow : OpenClaim := { program := "ytccmjljlfgbicaagreat", sum := "31f3c0f3cf8384f99c0b6f8d33d9615e4c905fef04780b38e220493723d55b13", func := "corrie/corrielaw10.WalkSteps", spec := "walkSteps", inPlace := ["sync/atomic.CompareAndSwapUint64", "sync/atomic.AddInt64", "sync/atomic.LoadUint64", "sync/atomic.StoreUint64", "sync/atomic.LoadInt64"], unfollowed := true, recurses := true, apart := false, narrowed := true }
def WalkStepsUptoSaid : Prop := walkStepsUptoRow.holds Tryz.pinned (OpenSpec.upto walkStepsSpec)

/-- 'corrielaw10.WalkAny', WHERE WHAT IT READS IS OF BULK AT MOST 1048576: true; the input reads as it did. -/
def walkAnyUptoRow : OpenClaim := { program := "ytccmjljlfgbicaagreat", sum := "31f3c0f3cf8384f99c0b6f8d33d9615e4c905fef04780b38e220493723d55b13", func := "corrie/corrielaw10.WalkAny", spec := "walkAny", inPlace := ["sync/atomic.CompareAndSwapUint64", "sync/atomic.AddInt64", "sync/atomic.LoadUint64", "sync/atomic.StoreUint64", "sync/atomic.LoadInt64"], unfollowed := true, recurses := true, apart := false, narrowed := true }
def WalkAnyUptoSaid : Prop := walkAnyUptoRow.holds Tryz.pinned (OpenSpec.upto walkAnySpec)

/-- 'corrielaw10.WalkCleans', WHERE WHAT IT READS IS OF BULK AT MOST 1048576: true; the input reads as it did. -/
def walkCleansUptoRow : OpenClaim := { program := "ytccmjljlfgbicaagreat", sum := "31f3c0f3cf8384f99c0b6f8d33d9615e4c905fef04780b38e220493723d55b13", func := "corrie/corrielaw10.WalkCleans", spec := "walkCleans", inPlace := ["sync/atomic.CompareAndSwapUint64", "sync/atomic.AddInt64", "sync/atomic.LoadUint64", "sync/atomic.StoreUint64", "sync/atomic.LoadInt64"], unfollowed := true, recurses := true, apart := false, narrowed := true }
def WalkCleansUptoSaid : Prop := walkCleansUptoRow.holds Tryz.pinned (OpenSpec.upto walkCleansSpec)

/-- 'corrielaw09.LookChain', WHERE WHAT IT READS IS OF BULK AT MOST 1048576: true; the input reads as it did. -/
def lookChainUptoRow : OpenClaim := { program := "ytccmjljlfgbicaagreat", sum := "31f3c0f3cf8384f99c0b6f8d33d9615e4c905fef04780b38e220493723d55b13", func := "corrie/corrielaw09.LookChain", spec := "lookChain", inPlace := ["sync/atomic.CompareAndSwapUint64", "sync/atomic.AddInt64", "sync/atomic.LoadUint64", "sync/atomic.StoreUint64"], unfollowed := true, recurses := true, apart := false, narrowed := true }
def LookChainUptoSaid : Prop := lookChainUptoRow.holds Tryz.pinned (OpenSpec.upto lookChainSpec)

/-- 'corrielaw09.LookTurn', WHERE WHAT IT READS IS OF BULK AT MOST 1048576: true; the input reads as it did. -/
def lookTurnUptoRow : OpenClaim := { program := "ytccmjljlfgbicaagreat", sum := "31f3c0f3cf8384f99c0b6f8d33d9615e4c905fef04780b38e220493723d55b13", func := "corrie/corrielaw09.LookTurn", spec := "lookTurn", inPlace := ["sync/atomic.CompareAndSwapUint64", "sync/atomic.AddInt64", "sync/atomic.LoadUint64", "sync/atomic.StoreUint64"], unfollowed := true, recurses := true, apart := false, narrowed := true }
def LookTurnUptoSaid : Prop := lookTurnUptoRow.holds Tryz.pinned (OpenSpec.upto lookTurnSpec)

/-- 'corrielaw09.LookPairs', WHERE WHAT IT READS IS OF BULK AT MOST 1048576: true; the input reads as it did. -/
def lookPairsUptoRow : OpenClaim := { program := "ytccmjljlfgbicaagreat", sum := "31f3c0f3cf8384f99c0b6f8d33d9615e4c905fef04780b38e220493723d55b13", func := "corrie/corrielaw09.LookPairs", spec := "lookPairs", inPlace := ["sync/atomic.CompareAndSwapUint64", "sync/atomic.AddInt64", "sync/atomic.LoadUint64", "sync/atomic.StoreUint64", "sync/atomic.LoadInt64"], unfollowed := true, recurses := true, apart := false, narrowed := true }
def LookPairsUptoSaid : Prop := lookPairsUptoRow.holds Tryz.pinned (OpenSpec.upto lookPairsSpec)

/-- 'corrielaw18.ScanQuiet', WHERE WHAT IT READS IS OF BULK AT MOST 1048576: true; the input reads as it did. -/
def scanQuietUptoRow : OpenClaim := { program := "ytccmjljlfgbicaagreat", sum := "31f3c0f3cf8384f99c0b6f8d33d9615e4c905fef04780b38e220493723d55b13", func := "corrie/corrielaw18.ScanQuiet", spec := "scanQuiet", inPlace := ["sync/atomic.CompareAndSwapUint64", "sync/atomic.AddInt64", "sync/atomic.LoadUint64", "sync/atomic.StoreUint64", "sync/atomic.LoadInt64"], unfollowed := true, recurses := true, apart := false, narrowed := true }
def ScanQuietUptoSaid : Prop := scanQuietUptoRow.holds Tryz.pinned (OpenSpec.upto scanQuietSpec)

/-- 'corrielaw10.WalkSound', WHERE WHAT IT READS IS OF BULK AT MOST 1048576: true; the input reads as it did. -/
def walkSoundUptoRow : OpenClaim := { program := "ytccmjljlfgbicaagreat", sum := "31f3c0f3cf8384f99c0b6f8d33d9615e4c905fef04780b38e220493723d55b13", func := "corrie/corrielaw10.WalkSound", spec := "walkSound", inPlace := ["sync/atomic.CompareAndSwapUint64", "sync/atomic.AddInt64", "sync/atomic.LoadUint64", "sync/atomic.StoreUint64", "sync/atomic.LoadInt64"], unfollowed := true, recurses := true, apart := false, narrowed := true }
def WalkSoundUptoSaid : Prop := walkSoundUptoRow.holds Tryz.pinned (OpenSpec.upto walkSoundSpec)

end Rows
end Go.Proofs.YtccmjljlfgbicaaGreat
