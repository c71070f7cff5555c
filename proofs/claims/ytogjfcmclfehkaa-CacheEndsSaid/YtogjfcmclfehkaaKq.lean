import Derived.Test.YtogjfcmclfehkaaPPa
namespace Go.Proofs.Ytogjfcmclfehkaa.PPM
open Go Go.RowKit Go.Proofs.YtogjfcmclfehkaaW.PrintWords
structure S33 where
  f0 : ByteArray
  f1 : Int
  f2 : Int
def k33 : Kd S33 := Kd.iso (Kd.pair Kd.string (Kd.pair (Kd.int .u16) (Kd.int .u16))) (fun x : S33 => (x.f0, x.f1, x.f2))
theorem k33_open {w : World} {x : S33} {cs : List Value} (h : k33.K w x cs) : cs = [.string x.f0, .int .u16 x.f1, .int .u16 x.f2] := by
  obtain ⟨_, _, rfl, rfl, ⟨_, _, rfl, rfl, rfl⟩⟩ := h
  exact rfl
structure S37 where
  f0 : S33
  f1 : List S72
  f2 : Int
  f3 : Int
  f4 : Int
def k37 : Kd S37 := Kd.iso (Kd.pair k33 (Kd.pair (Kd.slice 72 k72) (Kd.pair (Kd.int .i64) (Kd.pair (Kd.int .i64) (Kd.int .u64))))) (fun x : S37 => (x.f0, x.f1, x.f2, x.f3, x.f4))
theorem k37_open {w : World} {x : S37} {cs : List Value} (h : k37.K w x cs) : ∃ A3 c3, cs = [.string x.f0.f0, .int .u16 x.f0.f1, .int .u16 x.f0.f2, .slice A3 x.f1.length c3, .int .i64 x.f2, .int .i64 x.f3, .int .u64 x.f4] ∧ x.f1.length ≤ c3 ∧ k72.C w A3 x.f1.length x.f1 := by
  obtain ⟨_, _, rfl, s0, ⟨_, _, rfl, ⟨A3, c3, rfl, l3, g3⟩, ⟨_, _, rfl, rfl, ⟨_, _, rfl, rfl, rfl⟩⟩⟩⟩ := h
  obtain rfl := k33_open s0
  exact ⟨A3, c3, rfl, l3, g3⟩
end Go.Proofs.Ytogjfcmclfehkaa.PPM
