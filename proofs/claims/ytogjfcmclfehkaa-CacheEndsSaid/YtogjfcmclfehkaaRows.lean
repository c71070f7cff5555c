/-
  No cell of these rows narrows 'for every input' (looked for: loops, veiled, ifaces, maps, wideKeys, modest, calm, conditions, laid).
  DERIVED. THE GIVEN ROWS OF THIS SEAT. 4 by the template 'for every input the law returns true; each argument reads behind the call as it read before'; 0 by the template 'total and deterministic' (their statements: YtogjfcmclfehkaaTotals.lean).
  GIVEN WITH THE SEED: the statements are not yours to turn. If you find one false, say at which input.
  Laid BY PROGRAM, IN A SANDBOX (cutbox-rows.mjs): the forced cells as the released guide's own fill.sh prints them over the translation 8bcee543c19d6cf0… (all of the seat's roots in one cut). By AI agents, Wed Nov 11 2026. No macro, syntax, notation, axiom, sorry.
-/
import Derived.Test.YtogjfcmclfehkaaChecked
import GoSem.Claim
import GoSem.ClaimJoined
import GoSem.ClaimMapViews
import Derived.JoinedTies
import Derived.KernelRfl
namespace Go.Proofs.Ytogjfcmclfehkaa
/- THE CELL 'sum', in the pinned program and in every row, IS THE sha256 OF THE DUMP (.gsa) THAT YtogjfcmclfehkaaProg.lean LOADS. Nothing in Lean hashes anything: it is a label: what it is worth is what the hold of that sum in a sandbox is worth. -/
noncomputable def Try.pinned : Pinned := { name := "ytogjfcmclfehkaa", sum := "8bcee543c19d6cf01b7dc171991906c439ddbbb2880b74c4746a26db7bceae8c", checked := Try.checked }
namespace Rows
def none {H : Type} : Left H := { results := [], args := [] }

/-- 'derricklaw14.CacheEnds': WHATEVER THE INPUT: true; the input reads as it did. -/
def cacheEndsSpec : ChangeSpec := { name := "cacheEnds", fn := fun _ => fun
  | [d1, d2, d3] => { results := [.lit (.bool true)], args := [d1, d2, d3] }
  | _ => none }
def cacheEndsRow : OpenClaim := { program := "ytogjfcmclfehkaa", sum := "8bcee543c19d6cf01b7dc171991906c439ddbbb2880b74c4746a26db7bceae8c", func := "derrick/derricklaw14.CacheEnds", spec := "cacheEnds", unfollowed := true, recurses := true, plainKeys := false, apart := false }
def CacheEndsSaid : Prop := cacheEndsRow.holds Try.pinned (OpenSpec.ofChange cacheEndsSpec)

/-- ITS FALSE NEIGHBOUR: 'it returns false'. Refute it at one input. -/
def cacheEndsWrong : ChangeSpec := { name := "cacheEnds", fn := fun _ => fun
  | [d1, d2, d3] => { results := [.lit (.bool false)], args := [d1, d2, d3] }
  | _ => none }
def CacheEndsWrongFalsely : Prop := cacheEndsRow.holds Try.pinned (OpenSpec.ofChange cacheEndsWrong)

/-- 'derricklaw14.CacheOne': WHATEVER THE INPUT: true; the input reads as it did. -/
def cacheOneSpec : ChangeSpec := { name := "cacheOne", fn := fun _ => fun
  | [d1, d2, d3, d4] => { results := [.lit (.bool true)], args := [d1, d2, d3, d4] }
  | _ => none }
def cacheOneRow : OpenClaim := { program := "ytogjfcmclfehkaa", sum := "8bcee543c19d6cf01b7dc171991906c439ddbbb2880b74c4746a26db7bceae8c", func := "derrick/derricklaw14.CacheOne", spec := "cacheOne", unfollowed := true, recurses := true, plainKeys := false, apart := false }
def CacheOneSaid : Prop := cacheOneRow.holds Try.pinned (OpenSpec.ofChange cacheOneSpec)

/-- ITS FALSE NEIGHBOUR: 'it returns false'. Refute it at one input. -/
def cacheOneWrong : ChangeSpec := { name := "cacheOne", fn := fun _ => fun
  | [d1, d2, d3, d4] => { results := [.lit (.bool false)], args := [d1, d2, d3, d4] }
  | _ => none }
def CacheOneWrongFalsely : Prop := cacheOneRow.holds Try.pinned (OpenSpec.ofChange cacheOneWrong)

/-- 'derricklaw14.CacheWaits': WHATEVER THE INPUT: true; the input reads as it did. -/
def cacheWaitsSpec : ChangeSpec := { name := "cacheWaits", fn := fun _ => fun
  | [d1, d2, d3, d4] => { results := [.lit (.bool true)], args := [d1, d2, d3, d4] }
  | _ => none }
def cacheWaitsRow : OpenClaim := { program := "ytogjfcmclfehkaa", sum := "8bcee543c19d6cf01b7dc171991906c439ddbbb2880b74c4746a26db7bceae8c", func := "derrick/derricklaw14.CacheWaits", spec := "cacheWaits", unfollowed := true, recurses := true, plainKeys := false, apart := false }
def CacheWaitsSaid : Prop := cacheWaitsRow.holds Try.pinned (OpenSpec.ofChange cacheWaitsSpec)

/-- ITS FALSE NEIGHBOUR: 'it returns false'. Refute it at one input. -/
def cacheWaitsWrong : ChangeSpec := { name := "cacheWaits", fn := fun _ => fun
  | [d1, d2, d3, d4] => { results := [.lit (.bool false)], args := [d1, d2, d3, d4] }
  | _ => none }
def CacheWaitsWrongFalsely : Prop := cacheWaitsRow.holds Try.pinned (OpenSpec.ofChange cacheWaitsWrong)

/-- 'derricklaw14.CacheSame': WHATEVER THE INPUT: true; the input reads as it did. -/
def cacheSameSpec : ChangeSpec := { name := "cacheSame", fn := fun _ => fun
  | [d1, d2] => { results := [.lit (.bool true)], args := [d1, d2] }
  | _ => none }
def cacheSameRow : OpenClaim := { program := "ytogjfcmclfehkaa", sum := "8bcee543c19d6cf01b7dc171991906c439ddbbb2880b74c4746a26db7bceae8c", func := "derrick/derricklaw14.CacheSame", spec := "cacheSame", unfollowed := true, recurses := true, plainKeys := false, apart := false }
def CacheSameSaid : Prop := cacheSameRow.holds Try.pinned (OpenSpec.ofChange cacheSameSpec)

/-- ITS FALSE NEIGHBOUR: 'it returns false'. Refute it at one input. -/
def cacheSameWrong : ChangeSpec := { name := "cacheSame", fn := fun _ => fun
  | [d1, d2] => { results := [.lit (.bool false)], args := [d1, d2] }
  | _ => none }
def CacheSameWrongFalsely : Prop := cacheSameRow.holds Try.pinned (OpenSpec.ofChange cacheSameWrong)

/- THE SECOND FORM. 'bulk': how many values and letters a reading holds, each counted each time it is reached (what is shared counts as often as it is met; a slice's spare places count too). A statement '..UptoSaid' is the law's where the arguments, and the package variables that the reading takes, are together of bulk at most 1048576: NARROWER than '..Said'. Prove '..Said' where nothing that the law and all that it calls make is longer than what came in: it says more and counts as full. Else prove '..UptoSaid'. A law counts once. -/
mutual
def uptoBulk {H : Type} : DataW H → Nat
  | .lit (.string bytes) => bytes.length + 1
  | .lit _ => 1
  | .nil => 1
  | .ptr d => uptoBulk d + 1
  | .slice elems spare => uptoBulkAll elems + uptoBulkAll spare + 1
  | .agg parts => uptoBulkAll parts + 1
  | .iface _ d => uptoBulk d + 1
  | .map entries => uptoBulkEntries entries + 1
  | .held _ => 1
def uptoBulkAll {H : Type} : List (DataW H) → Nat
  | [] => 0
  | d :: r => uptoBulk d + uptoBulkAll r
def uptoBulkEntries {H : Type} : List (Lit × DataW H) → Nat
  | [] => 0
  | x :: r => uptoBulkEntry x + uptoBulkEntries r
def uptoBulkEntry {H : Type} : Lit × DataW H → Nat
  | (.string bytes, d) => bytes.length + uptoBulk d + 1
  | (_, d) => uptoBulk d + 1
 end
def uptoSmall : (H : Type) → List (DataW H) → Bool := fun _ ds => decide (uptoBulkAll ds ≤ 1048576)
def OpenSpec.upto (s : _root_.Go.ChangeSpec) : _root_.Go.OpenSpec := { _root_.Go.OpenSpec.ofChange s with cond := some uptoSmall }

/-- 'derricklaw14.CacheEnds', WHERE WHAT IT READS IS OF BULK AT MOST 1048576: true; the input reads as it did. -/
def cacheEndsUptoRow : OpenClaim := { program := "ytogjfcmclfehkaa", sum := "8bcee543c19d6cf01b7dc171991906c439ddbbb2880b74c4746a26db7bceae8c", func := "derrick/derricklaw14.CacheEnds", spec := "cacheEnds", unfollowed := true, recurses := true, plainKeys := false, apart := false, narrowed := true }
def CacheEndsUptoSaid : Prop := cacheEndsUptoRow.holds Try.pinned (OpenSpec.upto cacheEndsSpec)

/-- 'derricklaw14.CacheOne', WHERE WHAT IT READS IS OF BULK AT MOST 1048576: true; the input reads as it did. -/
def cacheOneUptoRow : OpenClaim := { program := "ytogjfcmclfehkaa", sum := "8bcee543c19d6cf01b7dc171991906c439ddbbb2880b74c4746a26db7bceae8c", func := "derrick/derricklaw14.CacheOne", spec := "cacheOne", unfollowed := true, recurses := true, plainKeys := false, apart := false, narrowed := true }
def CacheOneUptoSaid : Prop := cacheOneUptoRow.holds Try.pinned (OpenSpec.upto cacheOneSpec)

/-- 'derricklaw14.CacheWaits', WHERE WHAT IT READS IS OF BULK AT MOST 1048576: true; the input reads as it did. -/
def cacheWaitsUptoRow : OpenClaim := { program := "ytogjfcmclfehkaa", sum := "8bcee543c19d6cf01b7dc171991906c439ddbbb2880b74c4746a26db7bceae8c", func := "derrick/derricklaw14.CacheWaits", spec := "cacheWaits", unfollowed := true, recurses := true, plainKeys := false, apart := false, narrowed := true }
def CacheWaitsUptoSaid : Prop := cacheWaitsUptoRow.holds Try.pinned (OpenSpec.upto cacheWaitsSpec)

/-- 'derricklaw14.CacheSame', WHERE WHAT IT READS IS OF BULK AT MOST 1048576: true; the input reads as it did. -/
def cacheSameUptoRow : OpenClaim := { program := "ytogjfcmclfehkaa", sum := "8bcee543c19d6cf01b7dc171991906c439ddbbb2880b74c4746a26db7bceae8c", func := "derrick/derricklaw14.CacheSame", spec := "cacheSame", unfollowed := true, recurses := true, plainKeys := false, apart := false, narrowed := true }
def CacheSameUptoSaid : Prop := cacheSameUptoRow.holds Try.pinned (OpenSpec.upto cacheSameSpec)

end Rows
end Go.Proofs.Ytogjfcmclfehkaa
