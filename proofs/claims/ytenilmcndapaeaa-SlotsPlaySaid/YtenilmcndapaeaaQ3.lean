import Derived.Test.YtenilmcndapaeaaQ2
namespace Go.Proofs.Ytenilmcndapaeaa
open Go.RowKit

def bs (l : List UInt8) : ByteArray := ⟨l.toArray⟩
theorem ex1 (a : ByteArray) : (SS.mk (List.replicate 2 Sl.none) 0).put a = (⟨[⟨a, true, false⟩, Sl.none], 0⟩, 0, 0) := by
  simp [SS.put, SS.at, List.replicate, Sl.none, List.findIdx?_cons]
theorem ex2 (a b : ByteArray) : (SS.mk [⟨a, true, false⟩, Sl.none] 0).put b = (⟨[⟨a, true, false⟩, ⟨b, true, false⟩], 0⟩, 1, 0) := by
  simp [SS.put, SS.at, Sl.none, List.findIdx?_cons]
theorem ex3 (a b : ByteArray) : (SS.mk [⟨a, true, false⟩, ⟨b, true, false⟩] 0).touch (0 : Nat) = ⟨[⟨a, true, true⟩, ⟨b, true, false⟩], 0⟩ ∧ (SS.mk [⟨a, true, false⟩, ⟨b, true, false⟩] 0).used (0 : Nat) = true := by
  simp [SS.touch, SS.used, SS.at]
theorem ex4 (a b : ByteArray) : (SS.mk [⟨a, true, true⟩, ⟨b, true, false⟩] 0).victim = (⟨[⟨a, true, false⟩, ⟨b, true, false⟩], 0⟩, 1, true) := by
  simp [SS.victim, SS.vic]
theorem ex5 (a b : ByteArray) : (SS.mk [⟨a, true, false⟩, ⟨b, true, false⟩] 0).all = [0, 1] := by
  simp [SS.all, SS.allTo, List.range, List.range.loop]

set_option maxRecDepth 100000 in
set_option maxHeartbeats 1000000 in
theorem shown_any (w : World) : Calls Try.prog 9 #[] w fun e w' => e = .returned (.bool true) ∧ Fr [] w w' := by
  go_enter Try.func9, Try.ntmps9
  go_wp2_with fail
  refine (new_yes 2 (by omega) (by omega) w).mono ?_
  rintro e w1 ⟨p, b, rfl, h1, f1, hp, hb⟩
  go_wp2_with fail
  have c := put_any h1 ⟨#[97]⟩
  rw [ex1] at c
  refine c.mono ?_
  clear c
  rintro e w2 ⟨rfl, h2, f2⟩
  have F2 := f1.weak f2 (by simp; omega)
  clear f1 f2 h1
  go_wp2_with fail
  have c := put_any h2 ⟨#[98]⟩
  rw [ex2] at c
  refine c.mono ?_
  clear c
  rintro e w3 ⟨rfl, h3, f3⟩
  have F3 := F2.weak f3 (by simp; omega)
  clear F2 f3 h2
  go_wp2_with fail
  have c := touch_any h3 (0 : Nat)
  rw [(ex3 _ _).1, (ex3 _ _).2] at c
  refine c.mono ?_
  clear c
  rintro e w4 ⟨rfl, h4, f4⟩
  have F4 := F3.weak f4 (by simp; omega)
  clear F3 f4 h3
  go_wp2_with fail
  have c := victim_any h4
  rw [ex4] at c
  refine c.mono ?_
  clear c
  rintro e w5 ⟨rfl, h5, f5⟩
  have F5 := F4.weak f5 (by simp; omega)
  clear F4 f5 h4
  go_wp2_with fail
  have c := len_any h5
  rw [ex5] at c
  refine c.mono ?_
  clear c
  rintro e w6 ⟨rfl, f6⟩
  have F6 := F5.weak f6 (by simp)
  have h6 := h5.fr f6 (by simp) (by simp)
  clear F5 f6 h5
  go_wp2_with fail
  refine (cap_any h6).mono ?_
  rintro e w7 ⟨rfl, rfl⟩
  go_wp2_with fail
  go_ret
  exact ⟨rfl, F6⟩
end Go.Proofs.Ytenilmcndapaeaa
