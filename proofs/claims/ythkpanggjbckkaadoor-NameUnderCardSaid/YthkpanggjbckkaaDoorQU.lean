import Derived.Test.YthkpanggjbckkaaDoorQ0
import Derived.Test.YthkpanggjbckkaaDoorTab
import Derived.Test.YthkpanggjbckkaaDoorPNx19
namespace Go.Proofs.YthkpanggjbckkaaDoor.PN
open Go.RowKit Go.Shelf Go.Proofs.YthkpanggjbckkaaDoorW.PrintWords Go.Proofs.YthkpanggjbckkaaDoorW.PrintLast Go.Proofs.YthkpanggjbckkaaDoorW.PrintMore

theorem under_parts {n z : ByteArray} : underB n z = true ↔ mayB z = true ∧ mayB n = true ∧ z ∈ ends n := by
  simp [underB, and_assoc]

theorem NameUnder_pure (a b c : ByteArray) (k : Nat) (hk : 2000 < k) : derricklaw02_NameUnder.f k a b c = some true := by
  unfold derricklaw02_NameUnder.f
  rw [shown_f]
  simp only [Option.bind_some]
  obtain ⟨j, rfl⟩ : ∃ j, k = j + 1 := ⟨k - 1, by omega⟩
  have end_ : ∀ b', b' = true → derricklaw02_NameUnder.j0 (j + 1) a b c true b' = some true := by rintro _ rfl; simp [derricklaw02_NameUnder.j0]
  by_cases ha : (a.size : Int) > 1000
  · rw [if_pos ha]; exact end_ _ rfl
  · rw [if_neg ha]
    by_cases hb : (b.size : Int) > 1000
    · rw [if_pos hb]; exact end_ _ rfl
    · rw [if_neg hb]
      by_cases hc : (c.size : Int) > 1000
      · exact end_ _ (decide_eq_true hc)
      · rw [decide_eq_false hc]
        rw [derricklaw02_NameUnder.j0]
        simp only [Bool.false_eq_true, if_false]
        rw [under_f (by omega) (by omega) (by omega), under_f (by omega) (by omega) (by omega), under_f (by omega) (by omega) (by omega), under_f (by omega) (by omega) (by omega),
          may_f (by omega), may_f (by omega), depth_f (by omega), depth_f (by omega)]
        simp only [Option.bind_some, if_true]
        by_cases hx : underB a b = true
        · obtain ⟨h1, h2, h3⟩ := under_parts.1 hx
          have hd : decide (((eachOf a).length : Int) ≥ ((eachOf b).length : Int)) = true := decide_eq_true (by have := ends_len a b h3; omega)
          have hab : underB b a = true → a.toList = b.toList := by
            intro h
            obtain ⟨-, -, h4⟩ := under_parts.1 h
            rcases ends_size a b h3 with rfl | h5
            · rfl
            · rcases ends_size b a h4 with rfl | h6
              · rfl
              · omega
          have hac : underB b c = true → underB a c = true := by
            intro h
            obtain ⟨h5, h6, h7⟩ := under_parts.1 h
            exact under_parts.2 ⟨h5, h2, ends_sub a b h3 c h7⟩
          rw [hx, h1, h2]
          simp only [if_true, hd]
          rcases hbc : underB b c with _ | _
          · rcases hba : underB b a with _ | _
            · simp
            · simp [hab hba]
          · rw [hac hbc]
            rcases hba : underB b a with _ | _
            · simp
            · simp [hab hba]
        · have hx : underB a b = false := by simpa using hx
          rw [hx]
          simp
theorem NameUnder_walk (a b c : ByteArray) (w : World) (hT : TabW w) (w0 : a.size ≤ 140737488351232) (w1 : b.size ≤ 140737488351232) (w2 : c.size ≤ 140737488351232) :
    Calls Tryd.prog 6 #[.string a, .string b, .string c] w fun e w' => e = .returned (.bool true) ∧ Below w.heap.size w w' :=
  derricklaw02_NameUnder.calls 2001 a b c true w (NameUnder_pure a b c 2001 (by omega))
end Go.Proofs.YthkpanggjbckkaaDoor.PN
