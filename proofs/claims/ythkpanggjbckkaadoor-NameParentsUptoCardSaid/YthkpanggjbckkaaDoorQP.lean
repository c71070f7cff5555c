import Derived.Test.YthkpanggjbckkaaDoorQ0
import Derived.Test.YthkpanggjbckkaaDoorTab
import Derived.Test.YthkpanggjbckkaaDoorPNx18
namespace Go.Proofs.YthkpanggjbckkaaDoor.PN
open Go.RowKit Go.Shelf Go.Proofs.YthkpanggjbckkaaDoorW.PrintWords Go.Proofs.YthkpanggjbckkaaDoorW.PrintLast Go.Proofs.YthkpanggjbckkaaDoorW.PrintMore

theorem ends_may : ∀ (a : ByteArray), mayB a = true → ∀ b ∈ ends a, mayB b = true := by
  intro a
  refine by_rests (p := fun a => mayB a = true → ∀ b ∈ ends a, mayB b = true) ?_ a
  intro a ih h b hb
  rcases hbg : begun a with _ | _
  · rw [ends_no hbg, List.mem_singleton] at hb; rw [hb]; exact h
  · rw [ends_yes hbg, List.mem_cons] at hb
    rcases hb with rfl | hb
    · exact h
    · exact ih hbg (may_rest h hbg) b hb
theorem ends_root : ∀ (a : ByteArray), mayB a = true → rootB ∈ ends a := by
  intro a
  refine by_rests (p := fun a => mayB a = true → rootB ∈ ends a) ?_ a
  intro a ih h
  by_cases hr : a = rootB
  · subst hr; exact ends_self _
  · have hb := may_begun h hr
    rw [ends_yes hb]
    exact List.mem_cons_of_mem _ (ih hb (may_rest h hb))
theorem eachOf_root : eachOf rootB = [] := eachOf_no begun_root
theorem eachOf_two : ∀ (a : ByteArray), 2 * (eachOf a).length ≤ a.size := by
  intro a
  refine by_rests (p := fun a => 2 * (eachOf a).length ≤ a.size) ?_ a
  intro a ih
  rcases hb : begun a with _ | _
  · rw [eachOf_no hb]; simp
  · have := ih hb
    have h2 : (restOf a).size + 2 ≤ a.size := by
      simp only [begun, Bool.and_eq_true, decide_eq_true_eq] at hb
      simp [restOf]; omega
    rw [eachOf_yes hb, List.length_cons]
    omega
theorem under_may {n z : ByteArray} (hn : mayB n = true) (hz : z ∈ ends n) : underB n z = true := by
  unfold underB
  rw [hn, ends_may n hn z hz]
  simpa using hz

set_option maxRecDepth 100000 in
theorem parents_l0 (n : ByteArray) (hn : mayB n = true) : ∀ (p : ByteArray) (m i : Nat), p ∈ ends n → i + (eachOf p).length = (eachOf n).length → 2 * (eachOf p).length + 1000 ≤ m →
    derricklaw02_NameParents.l0 m n true (eachOf n).length p i = some true := by
  have hn255 := (may_iff.1 hn).2.1
  have hD := eachOf_two n
  intro p
  refine by_rests (p := fun p => ∀ (m i : Nat), p ∈ ends n → i + (eachOf p).length = (eachOf n).length → 2 * (eachOf p).length + 1000 ≤ m → derricklaw02_NameParents.l0 m n true (eachOf n).length p i = some true) ?_ p
  intro p ih m i hp hi hm
  have hpm := ends_may n hn p hp
  have hps := ends_size n p hp
  have hp255 : p.size ≤ n.size := by rcases hps with h | h; rw [h]; exact Nat.le_refl _; omega
  obtain ⟨m, rfl⟩ : ∃ k, m = k + 2 := ⟨m - 2, by omega⟩
  rw [derricklaw02_NameParents.l0]
  by_cases hr : p = rootB
  · subst hr
    rw [eachOf_root] at hi
    rw [if_neg (by simp at hi; omega), derricklaw02_NameParents.j1]
    simp only [Bool.false_eq_true, if_false, if_true]
    rw [if_pos (root_iff.2 rfl), under_f (by omega) (by omega) (by omega)]
    have hrz : rootB.size = 1 := rfl
    have e : (⟨#[0]⟩ : ByteArray) = rootB := rfl
    rw [e, under_f (by omega) (by omega) (by omega), under_may hn (ends_self n), under_may hn (ends_root n hn)]
    rfl
  · have hb := may_begun hpm hr
    have hlt := restOf_lt hb
    have hlen := eachOf_yes hb
    rw [hlen, List.length_cons] at hi hm
    rw [if_pos (by omega), decide_eq_true (by omega), derricklaw02_NameParents.j1]
    simp only [if_true]
    rw [parent_f (by omega) hpm, if_neg hr]
    simp only [Option.bind_some, if_true]
    have hre : restOf p ∈ ends n := ends_sub n p hp _ (by rw [ends_yes hb]; exact List.mem_cons_of_mem _ (ends_self _))
    have hrm := may_rest hpm hb
    have hnot : underB (restOf p) n = false := by
      rw [Bool.eq_false_iff]
      intro h
      simp only [underB, Bool.and_eq_true, decide_eq_true_eq] at h
      rcases ends_size _ _ h.2 with h' | h'
      · rw [h'] at hp255; omega
      · omega
    rw [under_f (by omega) (by omega) (by omega), under_f (by omega) (by omega) (by omega), under_may hn hre, hnot, depth_f (by omega), hrm]
    simp only [Option.bind_some, if_true, Bool.false_eq_true, if_false]
    have e1 : wrap64 (wrap64 (((eachOf n).length : Int) - 1) - (i : Int)) = ((eachOf (restOf p)).length : Int) := by unfold wrap64; omega
    have e2 : wrap64 ((i : Int) + 1) = ((i + 1 : Nat) : Int) := by unfold wrap64; omega
    rw [e1, if_pos rfl, e2]
    exact ih hb m (i + 1) hre (by omega) (by omega)

theorem NameParents_pure (n : ByteArray) (hs : n.size ≤ 1048576) (k : Nat) (hk : 1050000 < k) : derricklaw02_NameParents.f k n = some true := by
  unfold derricklaw02_NameParents.f
  rw [shown_f, may_f (by omega)]
  simp only [Option.bind_some]
  rcases hm : mayB n with _ | _
  · rw [if_neg (by simp), parent_no (by omega) hm, depth_f (by omega), hm]
    have e : (⟨#[0]⟩ : ByteArray) = rootB := rfl
    have hrz : rootB.size = 1 := rfl
    rw [e, under_f (by omega) (by omega) (by omega)]
    simp [underB, hm]
  · rw [if_pos rfl, depth_f (by omega), hm]
    have hn255 := (may_iff.1 hm).2.1
    have hD := eachOf_two n
    exact parents_l0 n hm n k 0 (ends_self n) (by omega) (by omega)
theorem NameParents_walk (n : ByteArray) (w : World) (hT : TabW w) (w0 : n.size ≤ 140737488351232) (hb : (n.size + 1) ≤ 1048576) :
    Calls Tryd.prog 5 #[.string n] w fun e w' => e = .returned (.bool true) ∧ Below w.heap.size w w' := by
  obtain ⟨k, hk⟩ : ∃ k, 1050000 < k := ⟨_, Nat.lt_succ_self _⟩
  exact derricklaw02_NameParents.calls k n true w (NameParents_pure n (by omega) k hk)
end Go.Proofs.YthkpanggjbckkaaDoor.PN
