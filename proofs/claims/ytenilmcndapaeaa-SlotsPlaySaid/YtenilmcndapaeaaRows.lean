/-
  No cell of these rows narrows 'for every input' (looked for: loops, veiled, ifaces, maps, wideKeys, modest, calm, conditions, laid).
  DERIVED. THE GIVEN ROWS OF THIS SEAT. 6 by the template 'for every input the law returns true; each argument reads behind the call as it read before'; 0 by the template 'total and deterministic' (their statements: YtenilmcndapaeaaTotals.lean).
  GIVEN WITH THE SEED: the statements are not yours to turn. If you find one false, say at which input.
  Laid BY PROGRAM, IN A SANDBOX (cutbox-rows.mjs): the forced cells as the released guide's own fill.sh prints them over the translation d4451c4bbbba0acd… (all of the seat's roots in one cut). By AI agents, Wed Nov 11 2026. No macro, syntax, notation, axiom, sorry.
-/
import Derived.Test.YtenilmcndapaeaaChecked
import GoSem.Claim
import GoSem.ClaimJoined
import GoSem.ClaimMapViews
import Derived.JoinedTies
import Derived.KernelRfl
namespace Go.Proofs.Ytenilmcndapaeaa
/- THE CELL 'sum', in the pinned program and in every row, IS THE sha256 OF THE DUMP (.gsa) THAT YtenilmcndapaeaaProg.lean LOADS. Nothing in Lean hashes anything: it is a label: what it is worth is what the hold of that sum in a sandbox is worth. -/
noncomputable def Try.pinned : Pinned := { name := "ytenilmcndapaeaa", sum := "d4451c4bbbba0acdd2c2ed55bb1b5facc65597aa15bd67ff1639d8500d0da48b", checked := Try.checked }
namespace Rows
def none {H : Type} : Left H := { results := [], args := [] }

/-- 'derricklaw10.SlotsPlay': WHATEVER THE INPUT: true; the input reads as it did. -/
def slotsPlaySpec : ChangeSpec := { name := "slotsPlay", fn := fun _ => fun
  | [d1, d2] => { results := [.lit (.bool true)], args := [d1, d2] }
  | _ => none }
def slotsPlayRow : OpenClaim := { program := "ytenilmcndapaeaa", sum := "d4451c4bbbba0acdd2c2ed55bb1b5facc65597aa15bd67ff1639d8500d0da48b", func := "derrick/derricklaw10.SlotsPlay", spec := "slotsPlay", apart := false }
def SlotsPlaySaid : Prop := slotsPlayRow.holds Try.pinned (OpenSpec.ofChange slotsPlaySpec)

/-- ITS FALSE NEIGHBOUR: 'it returns false'. Refute it at one input. -/
def slotsPlayWrong : ChangeSpec := { name := "slotsPlay", fn := fun _ => fun
  | [d1, d2] => { results := [.lit (.bool false)], args := [d1, d2] }
  | _ => none }
def SlotsPlayWrongFalsely : Prop := slotsPlayRow.holds Try.pinned (OpenSpec.ofChange slotsPlayWrong)

/-- 'derricklaw10.SlotsRound': WHATEVER THE INPUT: true; the input reads as it did. -/
def slotsRoundSpec : ChangeSpec := { name := "slotsRound", fn := fun _ => fun
  | [d] => { results := [.lit (.bool true)], args := [d] }
  | _ => none }
def slotsRoundRow : OpenClaim := { program := "ytenilmcndapaeaa", sum := "d4451c4bbbba0acdd2c2ed55bb1b5facc65597aa15bd67ff1639d8500d0da48b", func := "derrick/derricklaw10.SlotsRound", spec := "slotsRound", apart := false }
def SlotsRoundSaid : Prop := slotsRoundRow.holds Try.pinned (OpenSpec.ofChange slotsRoundSpec)

/-- ITS FALSE NEIGHBOUR: 'it returns false'. Refute it at one input. -/
def slotsRoundWrong : ChangeSpec := { name := "slotsRound", fn := fun _ => fun
  | [d] => { results := [.lit (.bool false)], args := [d] }
  | _ => none }
def SlotsRoundWrongFalsely : Prop := slotsRoundRow.holds Try.pinned (OpenSpec.ofChange slotsRoundWrong)

/-- 'derricklaw10.SlotsTouched': WHATEVER THE INPUT: true; the input reads as it did. -/
def slotsTouchedSpec : ChangeSpec := { name := "slotsTouched", fn := fun _ => fun
  | [d1, d2, d3] => { results := [.lit (.bool true)], args := [d1, d2, d3] }
  | _ => none }
def slotsTouchedRow : OpenClaim := { program := "ytenilmcndapaeaa", sum := "d4451c4bbbba0acdd2c2ed55bb1b5facc65597aa15bd67ff1639d8500d0da48b", func := "derrick/derricklaw10.SlotsTouched", spec := "slotsTouched", apart := false }
def SlotsTouchedSaid : Prop := slotsTouchedRow.holds Try.pinned (OpenSpec.ofChange slotsTouchedSpec)

/-- ITS FALSE NEIGHBOUR: 'it returns false'. Refute it at one input. -/
def slotsTouchedWrong : ChangeSpec := { name := "slotsTouched", fn := fun _ => fun
  | [d1, d2, d3] => { results := [.lit (.bool false)], args := [d1, d2, d3] }
  | _ => none }
def SlotsTouchedWrongFalsely : Prop := slotsTouchedRow.holds Try.pinned (OpenSpec.ofChange slotsTouchedWrong)

/-- 'derricklaw10.SlotsPut': WHATEVER THE INPUT: true; the input reads as it did. -/
def slotsPutSpec : ChangeSpec := { name := "slotsPut", fn := fun _ => fun
  | [d1, d2] => { results := [.lit (.bool true)], args := [d1, d2] }
  | _ => none }
def slotsPutRow : OpenClaim := { program := "ytenilmcndapaeaa", sum := "d4451c4bbbba0acdd2c2ed55bb1b5facc65597aa15bd67ff1639d8500d0da48b", func := "derrick/derricklaw10.SlotsPut", spec := "slotsPut", apart := false }
def SlotsPutSaid : Prop := slotsPutRow.holds Try.pinned (OpenSpec.ofChange slotsPutSpec)

/-- ITS FALSE NEIGHBOUR: 'it returns false'. Refute it at one input. -/
def slotsPutWrong : ChangeSpec := { name := "slotsPut", fn := fun _ => fun
  | [d1, d2] => { results := [.lit (.bool false)], args := [d1, d2] }
  | _ => none }
def SlotsPutWrongFalsely : Prop := slotsPutRow.holds Try.pinned (OpenSpec.ofChange slotsPutWrong)

/-- 'derricklaw10.SlotsNobody': WHATEVER THE INPUT: true; the input reads as it did. -/
def slotsNobodySpec : ChangeSpec := { name := "slotsNobody", fn := fun _ => fun
  | [d1, d2] => { results := [.lit (.bool true)], args := [d1, d2] }
  | _ => none }
def slotsNobodyRow : OpenClaim := { program := "ytenilmcndapaeaa", sum := "d4451c4bbbba0acdd2c2ed55bb1b5facc65597aa15bd67ff1639d8500d0da48b", func := "derrick/derricklaw10.SlotsNobody", spec := "slotsNobody", apart := false }
def SlotsNobodySaid : Prop := slotsNobodyRow.holds Try.pinned (OpenSpec.ofChange slotsNobodySpec)

/-- ITS FALSE NEIGHBOUR: 'it returns false'. Refute it at one input. -/
def slotsNobodyWrong : ChangeSpec := { name := "slotsNobody", fn := fun _ => fun
  | [d1, d2] => { results := [.lit (.bool false)], args := [d1, d2] }
  | _ => none }
def SlotsNobodyWrongFalsely : Prop := slotsNobodyRow.holds Try.pinned (OpenSpec.ofChange slotsNobodyWrong)

/-- 'derricklaw10.SlotsApart': WHATEVER THE INPUT: true; the input reads as it did. -/
def slotsApartSpec : ChangeSpec := { name := "slotsApart", fn := fun _ => fun
  | [d1, d2, d3] => { results := [.lit (.bool true)], args := [d1, d2, d3] }
  | _ => none }
def slotsApartRow : OpenClaim := { program := "ytenilmcndapaeaa", sum := "d4451c4bbbba0acdd2c2ed55bb1b5facc65597aa15bd67ff1639d8500d0da48b", func := "derrick/derricklaw10.SlotsApart", spec := "slotsApart", apart := false }
def SlotsApartSaid : Prop := slotsApartRow.holds Try.pinned (OpenSpec.ofChange slotsApartSpec)

/-- ITS FALSE NEIGHBOUR: 'it returns false'. Refute it at one input. -/
def slotsApartWrong : ChangeSpec := { name := "slotsApart", fn := fun _ => fun
  | [d1, d2, d3] => { results := [.lit (.bool false)], args := [d1, d2, d3] }
  | _ => none }
def SlotsApartWrongFalsely : Prop := slotsApartRow.holds Try.pinned (OpenSpec.ofChange slotsApartWrong)

/- THE SECOND FORM. 'bulk': how many values and letters a reading holds, each counted each time it is reached (what is shared counts as often as it is met; a slice's spare places count too). A statement '..UptoSaid' is the law's where the arguments, and the package variables that the reading takes, are together of bulk at most 1048576: NARROWER than '..Said'. Prove '..Said' where nothing that the law and all that it calls make is longer than what came in: it says more and counts as full. Else prove '..UptoSaid'. A law counts once. -/
mutual
def uptoBulk {H : Type} : DataW H → Nat
  | .lit (.string bytes) => bytes.length + 1
  | .lit _ => 1
  | .nil => 1
  | .ptr d => uptoBulk d + 1
  | .slice elems spare => uptoBulkAll elems + uptoBulkAll spare + 1
  | .agg parts => uptoBulkAll parts + 1
  | .iface _ d => uptoBulk d + 1
  | .map entries => uptoBulkEntries entries + 1
  | .held _ => 1
def uptoBulkAll {H : Type} : List (DataW H) → Nat
  | [] => 0
  | d :: r => uptoBulk d + uptoBulkAll r
def uptoBulkEntries {H : Type} : List (Lit × DataW H) → Nat
  | [] => 0
  | x :: r => uptoBulkEntry x + uptoBulkEntries r
def uptoBulkEntry {H : Type} : Lit × DataW H → Nat
  | (.string bytes, d) => bytes.length + uptoBulk d + 1
  | (_, d) => uptoBulk d + 1
 end
def uptoSmall : (H : Type) → List (DataW H) → Bool := fun _ ds => decide (uptoBulkAll ds ≤ 1048576)
def OpenSpec.upto (s : _root_.Go.ChangeSpec) : _root_.Go.OpenSpec := { _root_.Go.OpenSpec.ofChange s with cond := some uptoSmall }

/-- 'derricklaw10.SlotsPlay', WHERE WHAT IT READS IS OF BULK AT MOST 1048576: true; the input reads as it did. -/
def slotsPlayUptoRow : OpenClaim := { program := "ytenilmcndapaeaa", sum := "d4451c4bbbba0acdd2c2ed55bb1b5facc65597aa15bd67ff1639d8500d0da48b", func := "derrick/derricklaw10.SlotsPlay", spec := "slotsPlay", apart := false, narrowed := true }
def SlotsPlayUptoSaid : Prop := slotsPlayUptoRow.holds Try.pinned (OpenSpec.upto slotsPlaySpec)

/-- 'derricklaw10.SlotsRound', WHERE WHAT IT READS IS OF BULK AT MOST 1048576: true; the input reads as it did. -/
def slotsRoundUptoRow : OpenClaim := { program := "ytenilmcndapaeaa", sum := "d4451c4bbbba0acdd2c2ed55bb1b5facc65597aa15bd67ff1639d8500d0da48b", func := "derrick/derricklaw10.SlotsRound", spec := "slotsRound", apart := false, narrowed := true }
def SlotsRoundUptoSaid : Prop := slotsRoundUptoRow.holds Try.pinned (OpenSpec.upto slotsRoundSpec)

/-- 'derricklaw10.SlotsTouched', WHERE WHAT IT READS IS OF BULK AT MOST 1048576: true; the input reads as it did. -/
def slotsTouchedUptoRow : OpenClaim := { program := "ytenilmcndapaeaa", sum := "d4451c4bbbba0acdd2c2ed55bb1b5facc65597aa15bd67ff1639d8500d0da48b", func := "derrick/derricklaw10.SlotsTouched", spec := "slotsTouched", apart := false, narrowed := true }
def SlotsTouchedUptoSaid : Prop := slotsTouchedUptoRow.holds Try.pinned (OpenSpec.upto slotsTouchedSpec)

/-- 'derricklaw10.SlotsPut', WHERE WHAT IT READS IS OF BULK AT MOST 1048576: true; the input reads as it did. -/
def slotsPutUptoRow : OpenClaim := { program := "ytenilmcndapaeaa", sum := "d4451c4bbbba0acdd2c2ed55bb1b5facc65597aa15bd67ff1639d8500d0da48b", func := "derrick/derricklaw10.SlotsPut", spec := "slotsPut", apart := false, narrowed := true }
def SlotsPutUptoSaid : Prop := slotsPutUptoRow.holds Try.pinned (OpenSpec.upto slotsPutSpec)

/-- 'derricklaw10.SlotsNobody', WHERE WHAT IT READS IS OF BULK AT MOST 1048576: true; the input reads as it did. -/
def slotsNobodyUptoRow : OpenClaim := { program := "ytenilmcndapaeaa", sum := "d4451c4bbbba0acdd2c2ed55bb1b5facc65597aa15bd67ff1639d8500d0da48b", func := "derrick/derricklaw10.SlotsNobody", spec := "slotsNobody", apart := false, narrowed := true }
def SlotsNobodyUptoSaid : Prop := slotsNobodyUptoRow.holds Try.pinned (OpenSpec.upto slotsNobodySpec)

/-- 'derricklaw10.SlotsApart', WHERE WHAT IT READS IS OF BULK AT MOST 1048576: true; the input reads as it did. -/
def slotsApartUptoRow : OpenClaim := { program := "ytenilmcndapaeaa", sum := "d4451c4bbbba0acdd2c2ed55bb1b5facc65597aa15bd67ff1639d8500d0da48b", func := "derrick/derricklaw10.SlotsApart", spec := "slotsApart", apart := false, narrowed := true }
def SlotsApartUptoSaid : Prop := slotsApartUptoRow.holds Try.pinned (OpenSpec.upto slotsApartSpec)

end Rows
end Go.Proofs.Ytenilmcndapaeaa
