import Derived.Test.YthkpanggjbckkaaDoorGT
import Derived.Test.YthkpanggjbckkaaDoorTab
import Derived.Test.YthkpanggjbckkaaDoorShelf
import Derived.Lib.AppendIntMem
namespace Go.Proofs.YthkpanggjbckkaaDoor.PN
open Go.RowKit Go.Shelf Go.Proofs.YthkpanggjbckkaaDoorW.PrintWords Go.Proofs.YthkpanggjbckkaaDoorW.PrintLast Go.Proofs.YthkpanggjbckkaaDoorW.PrintMore
/-- A name's text, whatever its bytes, where the table of tens is laid. -/
theorem text_tab (s : ByteArray) (hs : s.size ≤ 4398046511104) (w : World) (hT : TabW w) :
    Calls Tryd.prog 29 #[.string s] w fun e w' => e = .returned (.string (bstr (textF s))) ∧ Below w.heap.size w w' := by
  refine text_of s hs w fun x hx c hc w1 hb1 => ?_
  refine shown_any c w1 fun w2 hb2 _ => ?_
  have hT2 : TabW w2 := (hT.below hb1).below hb2
  have hcl : c.toNat < 256 := c.toNat_lt
  refine (Tryd.strconv_Itoa (c.toNat : Int) (by omega) (by omega) w2 hT2).mono ?_
  rintro e w3 ⟨rfl, k, os, rfl⟩
  have e1 : Lib.itoa (c.toNat : Int) = Lib.decDigits c.toNat := by
    unfold Lib.itoa
    rw [if_neg (by omega)]
    rfl
  exact ⟨by rw [e1], Lib.below_grow _ _ (Nat.le_refl _) k os⟩
def name_TextT.f (a0 : ByteArray) : Option ByteArray := if a0.size ≤ 4398046511104 then some (bstr (textF a0)) else none
theorem name_TextT.calls (a0 : ByteArray) (r : ByteArray) (w : World) (hT : TabW w) (h : name_TextT.f a0 = some r) :
    Calls Tryd.prog 29 #[.string a0] w fun e w' => e = .returned (.string r) ∧ Below w.heap.size w w' := by
  unfold name_TextT.f at h
  split at h
  · rename_i hs
    obtain rfl := Option.some.inj h
    exact text_tab a0 hs w hT
  · cases h
end Go.Proofs.YthkpanggjbckkaaDoor.PN
