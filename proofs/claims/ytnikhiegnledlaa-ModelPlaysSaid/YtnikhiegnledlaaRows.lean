/-
  No cell of these rows narrows 'for every input' (looked for: loops, veiled, ifaces, maps, wideKeys, modest, calm, conditions, laid).
  DERIVED. THE GIVEN ROWS OF THIS SEAT. 6 by the template 'for every input the law returns true; each argument reads behind the call as it read before'; 0 by the template 'total and deterministic' (their statements: YtnikhiegnledlaaTotals.lean).
  GIVEN WITH THE SEED: the statements are not yours to turn. If you find one false, say at which input.
  Laid BY PROGRAM, IN A SANDBOX (cutbox-rows.mjs): the forced cells as the released guide's own fill.sh prints them over the translation 10674df2d04c6963… (all of the seat's roots in one cut). By AI agents, Wed Nov 11 2026. No macro, syntax, notation, axiom, sorry.
-/
import Derived.Test.YtnikhiegnledlaaChecked
import GoSem.Claim
import GoSem.ClaimJoined
import GoSem.ClaimMapViews
import Derived.JoinedTies
import Derived.KernelRfl
namespace Go.Proofs.Ytnikhiegnledlaa
/- THE CELL 'sum', in the pinned program and in every row, IS THE sha256 OF THE DUMP (.gsa) THAT YtnikhiegnledlaaProg.lean LOADS. Nothing in Lean hashes anything: it is a label: what it is worth is what the hold of that sum in a sandbox is worth. -/
noncomputable def Try.pinned : Pinned := { name := "ytnikhiegnledlaa", sum := "10674df2d04c69635f4ab03b02f98b5a954cff4926acd297e05eb86ccf302e50", checked := Try.checked }
namespace Rows
def none {H : Type} : Left H := { results := [], args := [] }

/-- 'derricklaw13.ModelPlays': WHATEVER THE INPUT: true; the input reads as it did. -/
def modelPlaysSpec : ChangeSpec := { name := "modelPlays", fn := fun _ => fun
  | [d1, d2, d3] => { results := [.lit (.bool true)], args := [d1, d2, d3] }
  | _ => none }
def modelPlaysRow : OpenClaim := { program := "ytnikhiegnledlaa", sum := "10674df2d04c69635f4ab03b02f98b5a954cff4926acd297e05eb86ccf302e50", func := "derrick/derricklaw13.ModelPlays", spec := "modelPlays", unfollowed := true, recurses := true, plainKeys := false, apart := false }
def ModelPlaysSaid : Prop := modelPlaysRow.holds Try.pinned (OpenSpec.ofChange modelPlaysSpec)

/-- ITS FALSE NEIGHBOUR: 'it returns false'. Refute it at one input. -/
def modelPlaysWrong : ChangeSpec := { name := "modelPlays", fn := fun _ => fun
  | [d1, d2, d3] => { results := [.lit (.bool false)], args := [d1, d2, d3] }
  | _ => none }
def ModelPlaysWrongFalsely : Prop := modelPlaysRow.holds Try.pinned (OpenSpec.ofChange modelPlaysWrong)

/-- 'derricklaw13.ModelTells': WHATEVER THE INPUT: true; the input reads as it did. -/
def modelTellsSpec : ChangeSpec := { name := "modelTells", fn := fun _ => fun
  | [d1, d2, d3, d4, d5] => { results := [.lit (.bool true)], args := [d1, d2, d3, d4, d5] }
  | _ => none }
def modelTellsRow : OpenClaim := { program := "ytnikhiegnledlaa", sum := "10674df2d04c69635f4ab03b02f98b5a954cff4926acd297e05eb86ccf302e50", func := "derrick/derricklaw13.ModelTells", spec := "modelTells", unfollowed := true, recurses := true, plainKeys := false, apart := false }
def ModelTellsSaid : Prop := modelTellsRow.holds Try.pinned (OpenSpec.ofChange modelTellsSpec)

/-- ITS FALSE NEIGHBOUR: 'it returns false'. Refute it at one input. -/
def modelTellsWrong : ChangeSpec := { name := "modelTells", fn := fun _ => fun
  | [d1, d2, d3, d4, d5] => { results := [.lit (.bool false)], args := [d1, d2, d3, d4, d5] }
  | _ => none }
def ModelTellsWrongFalsely : Prop := modelTellsRow.holds Try.pinned (OpenSpec.ofChange modelTellsWrong)

/-- 'derricklaw13.ModelDrops': WHATEVER THE INPUT: true; the input reads as it did. -/
def modelDropsSpec : ChangeSpec := { name := "modelDrops", fn := fun _ => fun
  | [d1, d2, d3] => { results := [.lit (.bool true)], args := [d1, d2, d3] }
  | _ => none }
def modelDropsRow : OpenClaim := { program := "ytnikhiegnledlaa", sum := "10674df2d04c69635f4ab03b02f98b5a954cff4926acd297e05eb86ccf302e50", func := "derrick/derricklaw13.ModelDrops", spec := "modelDrops", unfollowed := true, recurses := true, plainKeys := false, apart := false }
def ModelDropsSaid : Prop := modelDropsRow.holds Try.pinned (OpenSpec.ofChange modelDropsSpec)

/-- ITS FALSE NEIGHBOUR: 'it returns false'. Refute it at one input. -/
def modelDropsWrong : ChangeSpec := { name := "modelDrops", fn := fun _ => fun
  | [d1, d2, d3] => { results := [.lit (.bool false)], args := [d1, d2, d3] }
  | _ => none }
def ModelDropsWrongFalsely : Prop := modelDropsRow.holds Try.pinned (OpenSpec.ofChange modelDropsWrong)

/-- 'derricklaw13.ModelDue': WHATEVER THE INPUT: true; the input reads as it did. -/
def modelDueSpec : ChangeSpec := { name := "modelDue", fn := fun _ => fun
  | [d1, d2, d3] => { results := [.lit (.bool true)], args := [d1, d2, d3] }
  | _ => none }
def modelDueRow : OpenClaim := { program := "ytnikhiegnledlaa", sum := "10674df2d04c69635f4ab03b02f98b5a954cff4926acd297e05eb86ccf302e50", func := "derrick/derricklaw13.ModelDue", spec := "modelDue", unfollowed := true, recurses := true, plainKeys := false, apart := false }
def ModelDueSaid : Prop := modelDueRow.holds Try.pinned (OpenSpec.ofChange modelDueSpec)

/-- ITS FALSE NEIGHBOUR: 'it returns false'. Refute it at one input. -/
def modelDueWrong : ChangeSpec := { name := "modelDue", fn := fun _ => fun
  | [d1, d2, d3] => { results := [.lit (.bool false)], args := [d1, d2, d3] }
  | _ => none }
def ModelDueWrongFalsely : Prop := modelDueRow.holds Try.pinned (OpenSpec.ofChange modelDueWrong)

/-- 'derricklaw13.ModelNobody': WHATEVER THE INPUT: true; the input reads as it did. -/
def modelNobodySpec : ChangeSpec := { name := "modelNobody", fn := fun _ => fun
  | [d1, d2] => { results := [.lit (.bool true)], args := [d1, d2] }
  | _ => none }
def modelNobodyRow : OpenClaim := { program := "ytnikhiegnledlaa", sum := "10674df2d04c69635f4ab03b02f98b5a954cff4926acd297e05eb86ccf302e50", func := "derrick/derricklaw13.ModelNobody", spec := "modelNobody", unfollowed := true, recurses := true, plainKeys := false, apart := false }
def ModelNobodySaid : Prop := modelNobodyRow.holds Try.pinned (OpenSpec.ofChange modelNobodySpec)

/-- ITS FALSE NEIGHBOUR: 'it returns false'. Refute it at one input. -/
def modelNobodyWrong : ChangeSpec := { name := "modelNobody", fn := fun _ => fun
  | [d1, d2] => { results := [.lit (.bool false)], args := [d1, d2] }
  | _ => none }
def ModelNobodyWrongFalsely : Prop := modelNobodyRow.holds Try.pinned (OpenSpec.ofChange modelNobodyWrong)

/-- 'derricklaw13.ModelFull': WHATEVER THE INPUT: true; the input reads as it did. -/
def modelFullSpec : ChangeSpec := { name := "modelFull", fn := fun _ => fun
  | [d1, d2, d3] => { results := [.lit (.bool true)], args := [d1, d2, d3] }
  | _ => none }
def modelFullRow : OpenClaim := { program := "ytnikhiegnledlaa", sum := "10674df2d04c69635f4ab03b02f98b5a954cff4926acd297e05eb86ccf302e50", func := "derrick/derricklaw13.ModelFull", spec := "modelFull", unfollowed := true, recurses := true, plainKeys := false, apart := false }
def ModelFullSaid : Prop := modelFullRow.holds Try.pinned (OpenSpec.ofChange modelFullSpec)

/-- ITS FALSE NEIGHBOUR: 'it returns false'. Refute it at one input. -/
def modelFullWrong : ChangeSpec := { name := "modelFull", fn := fun _ => fun
  | [d1, d2, d3] => { results := [.lit (.bool false)], args := [d1, d2, d3] }
  | _ => none }
def ModelFullWrongFalsely : Prop := modelFullRow.holds Try.pinned (OpenSpec.ofChange modelFullWrong)

/- THE SECOND FORM. 'bulk': how many values and letters a reading holds, each counted each time it is reached (what is shared counts as often as it is met; a slice's spare places count too). A statement '..UptoSaid' is the law's where the arguments, and the package variables that the reading takes, are together of bulk at most 1048576: NARROWER than '..Said'. Prove '..Said' where nothing that the law and all that it calls make is longer than what came in: it says more and counts as full. Else prove '..UptoSaid'. A law counts once. -/
mutual
def uptoBulk {H : Type} : DataW H → Nat
  | .lit (.string bytes) => bytes.length + 1
  | .lit _ => 1
  | .nil => 1
  | .ptr d => uptoBulk d + 1
  | .slice elems spare => uptoBulkAll elems + uptoBulkAll spare + 1
  | .agg parts => uptoBulkAll parts + 1
  | .iface _ d => uptoBulk d + 1
  | .map entries => uptoBulkEntries entries + 1
  | .held _ => 1
def uptoBulkAll {H : Type} : List (DataW H) → Nat
  | [] => 0
  | d :: r => uptoBulk d + uptoBulkAll r
def uptoBulkEntries {H : Type} : List (Lit × DataW H) → Nat
  | [] => 0
  | x :: r => uptoBulkEntry x + uptoBulkEntries r
def uptoBulkEntry {H : Type} : Lit × DataW H → Nat
  | (.string bytes, d) => bytes.length + uptoBulk d + 1
  | (_, d) => uptoBulk d + 1
 end
def uptoSmall : (H : Type) → List (DataW H) → Bool := fun _ ds => decide (uptoBulkAll ds ≤ 1048576)
def OpenSpec.upto (s : _root_.Go.ChangeSpec) : _root_.Go.OpenSpec := { _root_.Go.OpenSpec.ofChange s with cond := some uptoSmall }

/-- 'derricklaw13.ModelPlays', WHERE WHAT IT READS IS OF BULK AT MOST 1048576: true; the input reads as it did. -/
def modelPlaysUptoRow : OpenClaim := { program := "ytnikhiegnledlaa", sum := "10674df2d04c69635f4ab03b02f98b5a954cff4926acd297e05eb86ccf302e50", func := "derrick/derricklaw13.ModelPlays", spec := "modelPlays", unfollowed := true, recurses := true, plainKeys := false, apart := false, narrowed := true }
def ModelPlaysUptoSaid : Prop := modelPlaysUptoRow.holds Try.pinned (OpenSpec.upto modelPlaysSpec)

/-- 'derricklaw13.ModelTells', WHERE WHAT IT READS IS OF BULK AT MOST 1048576: true; the input reads as it did. -/
def modelTellsUptoRow : OpenClaim := { program := "ytnikhiegnledlaa", sum := "10674df2d04c69635f4ab03b02f98b5a954cff4926acd297e05eb86ccf302e50", func := "derrick/derricklaw13.ModelTells", spec := "modelTells", unfollowed := true, recurses := true, plainKeys := false, apart := false, narrowed := true }
def ModelTellsUptoSaid : Prop := modelTellsUptoRow.holds Try.pinned (OpenSpec.upto modelTellsSpec)

/-- 'derricklaw13.ModelDrops', WHERE WHAT IT READS IS OF BULK AT MOST 1048576: true; the input reads as it did. -/
def modelDropsUptoRow : OpenClaim := { program := "ytnikhiegnledlaa", sum := "10674df2d04c69635f4ab03b02f98b5a954cff4926acd297e05eb86ccf302e50", func := "derrick/derricklaw13.ModelDrops", spec := "modelDrops", unfollowed := true, recurses := true, plainKeys := false, apart := false, narrowed := true }
def ModelDropsUptoSaid : Prop := modelDropsUptoRow.holds Try.pinned (OpenSpec.upto modelDropsSpec)

/-- 'derricklaw13.ModelDue', WHERE WHAT IT READS IS OF BULK AT MOST 1048576: true; the input reads as it did. -/
def modelDueUptoRow : OpenClaim := { program := "ytnikhiegnledlaa", sum := "10674df2d04c69635f4ab03b02f98b5a954cff4926acd297e05eb86ccf302e50", func := "derrick/derricklaw13.ModelDue", spec := "modelDue", unfollowed := true, recurses := true, plainKeys := false, apart := false, narrowed := true }
def ModelDueUptoSaid : Prop := modelDueUptoRow.holds Try.pinned (OpenSpec.upto modelDueSpec)

/-- 'derricklaw13.ModelNobody', WHERE WHAT IT READS IS OF BULK AT MOST 1048576: true; the input reads as it did. -/
def modelNobodyUptoRow : OpenClaim := { program := "ytnikhiegnledlaa", sum := "10674df2d04c69635f4ab03b02f98b5a954cff4926acd297e05eb86ccf302e50", func := "derrick/derricklaw13.ModelNobody", spec := "modelNobody", unfollowed := true, recurses := true, plainKeys := false, apart := false, narrowed := true }
def ModelNobodyUptoSaid : Prop := modelNobodyUptoRow.holds Try.pinned (OpenSpec.upto modelNobodySpec)

/-- 'derricklaw13.ModelFull', WHERE WHAT IT READS IS OF BULK AT MOST 1048576: true; the input reads as it did. -/
def modelFullUptoRow : OpenClaim := { program := "ytnikhiegnledlaa", sum := "10674df2d04c69635f4ab03b02f98b5a954cff4926acd297e05eb86ccf302e50", func := "derrick/derricklaw13.ModelFull", spec := "modelFull", unfollowed := true, recurses := true, plainKeys := false, apart := false, narrowed := true }
def ModelFullUptoSaid : Prop := modelFullUptoRow.holds Try.pinned (OpenSpec.upto modelFullSpec)

end Rows
end Go.Proofs.Ytnikhiegnledlaa
