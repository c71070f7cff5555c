/-
  No cell of these rows narrows 'for every input' (looked for: loops, veiled, ifaces, maps, wideKeys, modest, calm, conditions, laid).
  DERIVED. THE GIVEN ROWS OF THIS SEAT. 6 by the template 'for every input the law returns true; each argument reads behind the call as it read before'; 0 by the template 'total and deterministic' (their statements: YtjfhdffmlnkooaaTotals.lean).
  GIVEN WITH THE SEED: the statements are not yours to turn. If you find one false, say at which input.
  Laid BY PROGRAM, IN A SANDBOX (cutbox-rows.mjs): the forced cells as the released guide's own fill.sh prints them over the translation 86606cb53fe85c88… (all of the seat's roots in one cut). By AI agents, Wed Nov 11 2026. No macro, syntax, notation, axiom, sorry.
-/
import Derived.Test.YtjfhdffmlnkooaaChecked
import GoSem.Claim
import GoSem.ClaimJoined
import GoSem.ClaimMapViews
import Derived.JoinedTies
import Derived.KernelRfl
namespace Go.Proofs.Ytjfhdffmlnkooaa
/- THE CELL 'sum', in the pinned program and in every row, IS THE sha256 OF THE DUMP (.gsa) THAT YtjfhdffmlnkooaaProg.lean LOADS. Nothing in Lean hashes anything: it is a label: what it is worth is what the hold of that sum in a sandbox is worth. -/
noncomputable def Try.pinned : Pinned := { name := "ytjfhdffmlnkooaa", sum := "86606cb53fe85c88ef5d8ef74aac6e98c75223977cf17ea859d1b5466027a89f", checked := Try.checked }
namespace Rows
def none {H : Type} : Left H := { results := [], args := [] }

/-- 'derricklaw12.ShardNever': WHATEVER THE INPUT: true; the input reads as it did. -/
def shardNeverSpec : ChangeSpec := { name := "shardNever", fn := fun _ => fun
  | [d1, d2, d3, d4] => { results := [.lit (.bool true)], args := [d1, d2, d3, d4] }
  | _ => none }
def shardNeverRow : OpenClaim := { program := "ytjfhdffmlnkooaa", sum := "86606cb53fe85c88ef5d8ef74aac6e98c75223977cf17ea859d1b5466027a89f", func := "derrick/derricklaw12.ShardNever", spec := "shardNever", unfollowed := true, recurses := true, plainKeys := false, apart := false }
def ShardNeverSaid : Prop := shardNeverRow.holds Try.pinned (OpenSpec.ofChange shardNeverSpec)

/-- ITS FALSE NEIGHBOUR: 'it returns false'. Refute it at one input. -/
def shardNeverWrong : ChangeSpec := { name := "shardNever", fn := fun _ => fun
  | [d1, d2, d3, d4] => { results := [.lit (.bool false)], args := [d1, d2, d3, d4] }
  | _ => none }
def ShardNeverWrongFalsely : Prop := shardNeverRow.holds Try.pinned (OpenSpec.ofChange shardNeverWrong)

/-- 'derricklaw12.ShardGoes': WHATEVER THE INPUT: true; the input reads as it did. -/
def shardGoesSpec : ChangeSpec := { name := "shardGoes", fn := fun _ => fun
  | [d1, d2, d3] => { results := [.lit (.bool true)], args := [d1, d2, d3] }
  | _ => none }
def shardGoesRow : OpenClaim := { program := "ytjfhdffmlnkooaa", sum := "86606cb53fe85c88ef5d8ef74aac6e98c75223977cf17ea859d1b5466027a89f", func := "derrick/derricklaw12.ShardGoes", spec := "shardGoes", unfollowed := true, recurses := true, plainKeys := false, apart := false }
def ShardGoesSaid : Prop := shardGoesRow.holds Try.pinned (OpenSpec.ofChange shardGoesSpec)

/-- ITS FALSE NEIGHBOUR: 'it returns false'. Refute it at one input. -/
def shardGoesWrong : ChangeSpec := { name := "shardGoes", fn := fun _ => fun
  | [d1, d2, d3] => { results := [.lit (.bool false)], args := [d1, d2, d3] }
  | _ => none }
def ShardGoesWrongFalsely : Prop := shardGoesRow.holds Try.pinned (OpenSpec.ofChange shardGoesWrong)

/-- 'derricklaw12.ShardPlays': WHATEVER THE INPUT: true; the input reads as it did. -/
def shardPlaysSpec : ChangeSpec := { name := "shardPlays", fn := fun _ => fun
  | [d1, d2, d3] => { results := [.lit (.bool true)], args := [d1, d2, d3] }
  | _ => none }
def shardPlaysRow : OpenClaim := { program := "ytjfhdffmlnkooaa", sum := "86606cb53fe85c88ef5d8ef74aac6e98c75223977cf17ea859d1b5466027a89f", func := "derrick/derricklaw12.ShardPlays", spec := "shardPlays", unfollowed := true, recurses := true, plainKeys := false, apart := false }
def ShardPlaysSaid : Prop := shardPlaysRow.holds Try.pinned (OpenSpec.ofChange shardPlaysSpec)

/-- ITS FALSE NEIGHBOUR: 'it returns false'. Refute it at one input. -/
def shardPlaysWrong : ChangeSpec := { name := "shardPlays", fn := fun _ => fun
  | [d1, d2, d3] => { results := [.lit (.bool false)], args := [d1, d2, d3] }
  | _ => none }
def ShardPlaysWrongFalsely : Prop := shardPlaysRow.holds Try.pinned (OpenSpec.ofChange shardPlaysWrong)

/-- 'derricklaw12.ShardRoom': WHATEVER THE INPUT: true; the input reads as it did. -/
def shardRoomSpec : ChangeSpec := { name := "shardRoom", fn := fun _ => fun
  | [d1, d2, d3] => { results := [.lit (.bool true)], args := [d1, d2, d3] }
  | _ => none }
def shardRoomRow : OpenClaim := { program := "ytjfhdffmlnkooaa", sum := "86606cb53fe85c88ef5d8ef74aac6e98c75223977cf17ea859d1b5466027a89f", func := "derrick/derricklaw12.ShardRoom", spec := "shardRoom", unfollowed := true, recurses := true, plainKeys := false, apart := false }
def ShardRoomSaid : Prop := shardRoomRow.holds Try.pinned (OpenSpec.ofChange shardRoomSpec)

/-- ITS FALSE NEIGHBOUR: 'it returns false'. Refute it at one input. -/
def shardRoomWrong : ChangeSpec := { name := "shardRoom", fn := fun _ => fun
  | [d1, d2, d3] => { results := [.lit (.bool false)], args := [d1, d2, d3] }
  | _ => none }
def ShardRoomWrongFalsely : Prop := shardRoomRow.holds Try.pinned (OpenSpec.ofChange shardRoomWrong)

/-- 'derricklaw12.ShardDue': WHATEVER THE INPUT: true; the input reads as it did. -/
def shardDueSpec : ChangeSpec := { name := "shardDue", fn := fun _ => fun
  | [d1, d2] => { results := [.lit (.bool true)], args := [d1, d2] }
  | _ => none }
def shardDueRow : OpenClaim := { program := "ytjfhdffmlnkooaa", sum := "86606cb53fe85c88ef5d8ef74aac6e98c75223977cf17ea859d1b5466027a89f", func := "derrick/derricklaw12.ShardDue", spec := "shardDue", unfollowed := true, recurses := true, plainKeys := false, apart := false }
def ShardDueSaid : Prop := shardDueRow.holds Try.pinned (OpenSpec.ofChange shardDueSpec)

/-- ITS FALSE NEIGHBOUR: 'it returns false'. Refute it at one input. -/
def shardDueWrong : ChangeSpec := { name := "shardDue", fn := fun _ => fun
  | [d1, d2] => { results := [.lit (.bool false)], args := [d1, d2] }
  | _ => none }
def ShardDueWrongFalsely : Prop := shardDueRow.holds Try.pinned (OpenSpec.ofChange shardDueWrong)

/-- 'derricklaw12.ShardNobody': WHATEVER THE INPUT: true; the input reads as it did. -/
def shardNobodySpec : ChangeSpec := { name := "shardNobody", fn := fun _ => fun
  | [d1, d2] => { results := [.lit (.bool true)], args := [d1, d2] }
  | _ => none }
def shardNobodyRow : OpenClaim := { program := "ytjfhdffmlnkooaa", sum := "86606cb53fe85c88ef5d8ef74aac6e98c75223977cf17ea859d1b5466027a89f", func := "derrick/derricklaw12.ShardNobody", spec := "shardNobody", unfollowed := true, recurses := true, plainKeys := false, apart := false }
def ShardNobodySaid : Prop := shardNobodyRow.holds Try.pinned (OpenSpec.ofChange shardNobodySpec)

/-- ITS FALSE NEIGHBOUR: 'it returns false'. Refute it at one input. -/
def shardNobodyWrong : ChangeSpec := { name := "shardNobody", fn := fun _ => fun
  | [d1, d2] => { results := [.lit (.bool false)], args := [d1, d2] }
  | _ => none }
def ShardNobodyWrongFalsely : Prop := shardNobodyRow.holds Try.pinned (OpenSpec.ofChange shardNobodyWrong)

/- THE SECOND FORM. 'bulk': how many values and letters a reading holds, each counted each time it is reached (what is shared counts as often as it is met; a slice's spare places count too). A statement '..UptoSaid' is the law's where the arguments, and the package variables that the reading takes, are together of bulk at most 1048576: NARROWER than '..Said'. Prove '..Said' where nothing that the law and all that it calls make is longer than what came in: it says more and counts as full. Else prove '..UptoSaid'. A law counts once. -/
mutual
def uptoBulk {H : Type} : DataW H → Nat
  | .lit (.string bytes) => bytes.length + 1
  | .lit _ => 1
  | .nil => 1
  | .ptr d => uptoBulk d + 1
  | .slice elems spare => uptoBulkAll elems + uptoBulkAll spare + 1
  | .agg parts => uptoBulkAll parts + 1
  | .iface _ d => uptoBulk d + 1
  | .map entries => uptoBulkEntries entries + 1
  | .held _ => 1
def uptoBulkAll {H : Type} : List (DataW H) → Nat
  | [] => 0
  | d :: r => uptoBulk d + uptoBulkAll r
def uptoBulkEntries {H : Type} : List (Lit × DataW H) → Nat
  | [] => 0
  | x :: r => uptoBulkEntry x + uptoBulkEntries r
def uptoBulkEntry {H : Type} : Lit × DataW H → Nat
  | (.string bytes, d) => bytes.length + uptoBulk d + 1
  | (_, d) => uptoBulk d + 1
 end
def uptoSmall : (H : Type) → List (DataW H) → Bool := fun _ ds => decide (uptoBulkAll ds ≤ 1048576)
def OpenSpec.upto (s : _root_.Go.ChangeSpec) : _root_.Go.OpenSpec := { _root_.Go.OpenSpec.ofChange s with cond := some uptoSmall }

/-- 'derricklaw12.ShardNever', WHERE WHAT IT READS IS OF BULK AT MOST 1048576: true; the input reads as it did. -/
def shardNeverUptoRow : OpenClaim := { program := "ytjfhdffmlnkooaa", sum := "86606cb53fe85c88ef5d8ef74aac6e98c75223977cf17ea859d1b5466027a89f", func := "derrick/derricklaw12.ShardNever", spec := "shardNever", unfollowed := true, recurses := true, plainKeys := false, apart := false, narrowed := true }
def ShardNeverUptoSaid : Prop := shardNeverUptoRow.holds Try.pinned (OpenSpec.upto shardNeverSpec)

/-- 'derricklaw12.ShardGoes', WHERE WHAT IT READS IS OF BULK AT MOST 1048576: true; the input reads as it did. -/
def shardGoesUptoRow : OpenClaim := { program := "ytjfhdffmlnkooaa", sum := "86606cb53fe85c88ef5d8ef74aac6e98c75223977cf17ea859d1b5466027a89f", func := "derrick/derricklaw12.ShardGoes", spec := "shardGoes", unfollowed := true, recurses := true, plainKeys := false, apart := false, narrowed := true }
def ShardGoesUptoSaid : Prop := shardGoesUptoRow.holds Try.pinned (OpenSpec.upto shardGoesSpec)

/-- 'derricklaw12.ShardPlays', WHERE WHAT IT READS IS OF BULK AT MOST 1048576: true; the input reads as it did. -/
def shardPlaysUptoRow : OpenClaim := { program := "ytjfhdffmlnkooaa", sum := "86606cb53fe85c88ef5d8ef74aac6e98c75223977cf17ea859d1b5466027a89f", func := "derrick/derricklaw12.ShardPlays", spec := "shardPlays", unfollowed := true, recurses := true, plainKeys := false, apart := false, narrowed := true }
def ShardPlaysUptoSaid : Prop := shardPlaysUptoRow.holds Try.pinned (OpenSpec.upto shardPlaysSpec)

/-- 'derricklaw12.ShardRoom', WHERE WHAT IT READS IS OF BULK AT MOST 1048576: true; the input reads as it did. -/
def shardRoomUptoRow : OpenClaim := { program := "ytjfhdffmlnkooaa", sum := "86606cb53fe85c88ef5d8ef74aac6e98c75223977cf17ea859d1b5466027a89f", func := "derrick/derricklaw12.ShardRoom", spec := "shardRoom", unfollowed := true, recurses := true, plainKeys := false, apart := false, narrowed := true }
def ShardRoomUptoSaid : Prop := shardRoomUptoRow.holds Try.pinned (OpenSpec.upto shardRoomSpec)

/-- 'derricklaw12.ShardDue', WHERE WHAT IT READS IS OF BULK AT MOST 1048576: true; the input reads as it did. -/
def shardDueUptoRow : OpenClaim := { program := "ytjfhdffmlnkooaa", sum := "86606cb53fe85c88ef5d8ef74aac6e98c75223977cf17ea859d1b5466027a89f", func := "derrick/derricklaw12.ShardDue", spec := "shardDue", unfollowed := true, recurses := true, plainKeys := false, apart := false, narrowed := true }
def ShardDueUptoSaid : Prop := shardDueUptoRow.holds Try.pinned (OpenSpec.upto shardDueSpec)

/-- 'derricklaw12.ShardNobody', WHERE WHAT IT READS IS OF BULK AT MOST 1048576: true; the input reads as it did. -/
def shardNobodyUptoRow : OpenClaim := { program := "ytjfhdffmlnkooaa", sum := "86606cb53fe85c88ef5d8ef74aac6e98c75223977cf17ea859d1b5466027a89f", func := "derrick/derricklaw12.ShardNobody", spec := "shardNobody", unfollowed := true, recurses := true, plainKeys := false, apart := false, narrowed := true }
def ShardNobodyUptoSaid : Prop := shardNobodyUptoRow.holds Try.pinned (OpenSpec.upto shardNobodySpec)

end Rows
end Go.Proofs.Ytjfhdffmlnkooaa
