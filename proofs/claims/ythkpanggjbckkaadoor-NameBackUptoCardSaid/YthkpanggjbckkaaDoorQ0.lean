import Derived.Test.YthkpanggjbckkaaDoorGT
import Derived.Test.YthkpanggjbckkaaDoorPNx2
import Derived.Test.YthkpanggjbckkaaDoorPNx9
import Derived.Test.YthkpanggjbckkaaDoorPNx13
import Derived.Test.YthkpanggjbckkaaDoorPNx15
namespace Go.Proofs.YthkpanggjbckkaaDoor.PN
open Go.RowKit Go.Shelf Go.Proofs.YthkpanggjbckkaaDoorW.PrintWords Go.Proofs.YthkpanggjbckkaaDoorW.PrintLast Go.Proofs.YthkpanggjbckkaaDoorW.PrintMore

/-- The document's example. -/
theorem shown_f : derricklaw02_shown.f = some true := by
  decide +kernel

theorem toList_inj {a b : ByteArray} : a.toList = b.toList ↔ a = b := by
  rw [ByteArray.toList_eq, ByteArray.toList_eq]
  constructor
  · intro h
    exact ByteArray.ext (Array.toList_inj.1 h)
  · rintro rfl; rfl
def rootB : ByteArray := ⟨#[0]⟩
theorem root_iff {s : ByteArray} : s.toList = [0] ↔ s = rootB := by
  rw [← toList_inj (b := rootB)]
  have e : rootB.toList = [0] := by decide +kernel
  rw [e]
theorem begun_root : begun rootB = false := by decide +kernel
theorem bt_lt (s : ByteArray) (i : Int) : bt s i ≤ 255 := (bt_range s i).2

theorem may_iff {s : ByteArray} : mayB s = true ↔ (lastOf s (eachOf s)) = rootB ∧ s.size ≤ 255 ∧ foldL s.data.toList = s.data.toList := by
  unfold mayB labelsF
  rw [Bool.and_eq_true, beq_iff_eq, toList_inj]
  constructor
  · rintro ⟨h1, h2⟩
    rw [decide_eq_true_eq] at h1
    split at h1
    · rename_i hr
      split at h1
      · rename_i hs
        refine ⟨root_iff.1 hr, hs, ?_⟩
        have := congrArg (fun b => b.data.toList) h2
        simpa [bstr] using this
      · cases h1
    · cases h1
  · rintro ⟨h1, h2, h3⟩
    rw [if_pos (root_iff.2 h1), if_pos h2, h3]
    exact ⟨rfl, bstr_data s⟩
theorem may_begun {s : ByteArray} (h : mayB s = true) (hr : s ≠ rootB) : begun s = true := by
  rcases hb : begun s with _ | _
  · have := (may_iff.1 h).1
    rw [eachOf_no hb] at this
    exact absurd this hr
  · rfl
theorem rest_data (s : ByteArray) : (restOf s).data.toList = s.data.toList.drop (1 + (bt s 0).toNat) := by
  rw [restOf, Lib.extract_data]
  rw [List.take_of_length_le]
  rw [List.length_drop, data_length]
  exact Nat.le_refl _
theorem may_rest {s : ByteArray} (h : mayB s = true) (hb : begun s = true) : mayB (restOf s) = true := by
  obtain ⟨h1, h2, h3⟩ := may_iff.1 h
  rw [eachOf_yes hb] at h1
  refine may_iff.2 ⟨h1, by have := restOf_lt hb; omega, ?_⟩
  rw [rest_data]
  unfold foldL at *
  rw [List.map_drop, h3]
theorem may_rootB : mayB rootB = true := by decide +kernel

theorem parent_f {s : ByteArray} (hs : s.size ≤ 4398046511104) (h : mayB s = true) : name_Parent.f s = some (if s = rootB then (⟨#[]⟩, false) else (restOf s, true)) := by
  unfold name_Parent.f
  rw [may_f hs, h]
  simp only [Option.bind_some, if_true]
  by_cases hr : s = rootB
  · rw [if_pos (root_iff.2 hr), if_pos hr]
  · rw [if_neg (fun h' => hr (root_iff.1 h')), if_neg hr]
    have hb := may_begun h hr
    have hb' := hb
    simp only [begun, Bool.and_eq_true, decide_eq_true_eq] at hb'
    have h255 := bt_lt s 0
    have e1 : wrap64 (bt s 0) = bt s 0 := by unfold wrap64; omega
    have e2 : wrap64 (1 + bt s 0) = 1 + bt s 0 := by unfold wrap64; omega
    rw [e1, e2, if_pos (by omega), if_pos (by omega), if_pos (by omega)]
    unfold restOf
    congr 3
    omega
theorem parent_no {s : ByteArray} (hs : s.size ≤ 4398046511104) (h : mayB s = false) : name_Parent.f s = some (⟨#[]⟩, false) := by
  unfold name_Parent.f
  rw [may_f hs, h]
  rfl
theorem depth_f {s : ByteArray} (hs : s.size ≤ 4398046511104) : name_Depth.f s = some (if mayB s then ((eachOf s).length : Int) else -1) := by
  unfold name_Depth.f
  rw [may_f hs]
  unfold name_Labels.f
  rw [if_pos hs]
  simp only [Option.bind_some]
  rcases h : mayB s with _ | _
  · rfl
  · obtain ⟨h1, h2, h3⟩ := may_iff.1 h
    have e : labelsF s = ((eachOf s).map (·.1), 0) := by unfold labelsF; rw [if_pos (root_iff.2 h1), if_pos h2]
    rw [e]
    simp

/-- A name, and what is behind its labels, one after the other. -/
def endsN : Nat → ByteArray → List ByteArray
  | 0, s => [s]
  | k + 1, s => if begun s = true then s :: endsN k (restOf s) else [s]
def ends (s : ByteArray) : List ByteArray := endsN s.size s
theorem endsN_more : ∀ (k j : Nat) (s : ByteArray), s.size ≤ k → s.size ≤ j → endsN k s = endsN j s := by
  intro k
  induction k with
  | zero =>
    intro j s h _
    have h0 : begun s = false := by simp [begun]; omega
    cases j <;> simp [endsN, h0]
  | succ k ih =>
    intro j s hk hj
    by_cases h : begun s = true
    · have hlt := restOf_lt h
      cases j with
      | zero => omega
      | succ j => rw [endsN, endsN, if_pos h, if_pos h, ih j _ (by omega) (by omega)]
    · cases j <;> simp [endsN, h]
theorem ends_yes {s : ByteArray} (h : begun s = true) : ends s = s :: ends (restOf s) := by
  have hlt := restOf_lt h
  unfold ends
  obtain ⟨k, hk⟩ : ∃ k, s.size = k + 1 := ⟨s.size - 1, by omega⟩
  rw [hk, endsN, if_pos h, endsN_more k (restOf s).size _ (by omega) (Nat.le_refl _)]
theorem ends_no {s : ByteArray} (h : begun s = false) : ends s = [s] := by
  unfold ends
  cases s.size <;> simp [endsN, h]
theorem ends_self (s : ByteArray) : s ∈ ends s := by
  rcases h : begun s with _ | _
  · rw [ends_no h]; simp
  · rw [ends_yes h]; simp

/-- Induction along a name's labels. -/
theorem by_rests {p : ByteArray → Prop} (h : ∀ s, (begun s = true → p (restOf s)) → p s) : ∀ s, p s := by
  have key : ∀ (n : Nat) (s : ByteArray), s.size ≤ n → p s := by
    intro n
    induction n with
    | zero => intro s hs; exact h s (fun hb => by have := restOf_lt hb; omega)
    | succ n ih => intro s hs; exact h s (fun hb => ih _ (by have := restOf_lt hb; omega))
  exact fun s => key _ s (Nat.le_refl _)

theorem ends_sub : ∀ (a b : ByteArray), b ∈ ends a → ∀ c ∈ ends b, c ∈ ends a := by
  intro a
  refine by_rests (p := fun a => ∀ b, b ∈ ends a → ∀ c ∈ ends b, c ∈ ends a) ?_ a
  intro a ih b hb c hc
  rcases h : begun a with _ | _
  · rw [ends_no h, List.mem_singleton] at hb
    subst hb; exact hc
  · rw [ends_yes h, List.mem_cons] at hb
    rcases hb with rfl | hb
    · exact hc
    · rw [ends_yes h]; exact List.mem_cons_of_mem _ (ih h b hb c hc)
theorem ends_size : ∀ (a b : ByteArray), b ∈ ends a → b = a ∨ b.size < a.size := by
  intro a
  refine by_rests (p := fun a => ∀ b, b ∈ ends a → b = a ∨ b.size < a.size) ?_ a
  intro a ih b hb
  rcases h : begun a with _ | _
  · rw [ends_no h, List.mem_singleton] at hb; exact .inl hb
  · rw [ends_yes h, List.mem_cons] at hb
    have hlt := restOf_lt h
    rcases hb with rfl | hb
    · exact .inl rfl
    · rcases ih h b hb with rfl | h' <;> right <;> omega
theorem ends_len : ∀ (a b : ByteArray), b ∈ ends a → (eachOf b).length ≤ (eachOf a).length := by
  intro a
  refine by_rests (p := fun a => ∀ b, b ∈ ends a → (eachOf b).length ≤ (eachOf a).length) ?_ a
  intro a ih b hb
  rcases h : begun a with _ | _
  · rw [ends_no h, List.mem_singleton] at hb; rw [hb]; exact Nat.le_refl _
  · rw [ends_yes h, List.mem_cons] at hb
    rcases hb with rfl | hb
    · exact Nat.le_refl _
    · have := ih h b hb
      rw [eachOf_yes h]; simp; omega

instance memDec (z : ByteArray) (l : List ByteArray) : Decidable (z ∈ l) :=
  decidable_of_iff (l.any (fun x => decide (x.toList = z.toList)) = true) (by
    simp only [List.any_eq_true, decide_eq_true_eq, toList_inj]
    exact ⟨fun ⟨x, h, e⟩ => e ▸ h, fun h => ⟨z, h, rfl⟩⟩)
/-- Under: one of the ends. -/
def underB (n z : ByteArray) : Bool := mayB z && mayB n && decide (z ∈ ends n)
theorem under_l0 (z : ByteArray) : ∀ (n : ByteArray) (k : Nat), n.size ≤ 4398046511104 → mayB n = true → n.size < k → name_Under.l0 (k + 1) n z true = some (decide (z ∈ ends n)) := by
  intro n
  refine by_rests (p := fun n => ∀ (k : Nat), n.size ≤ 4398046511104 → mayB n = true → n.size < k → name_Under.l0 (k + 1) n z true = some (decide (z ∈ ends n))) ?_ n
  intro n ih k hs hm hk
  rw [name_Under.l0]
  simp only [if_true]
  by_cases he : n = z
  · subst he
    rw [if_pos rfl]
    simp [ends_self]
  · rw [if_neg (fun h => he (toList_inj.1 h)), parent_f hs hm]
    simp only [Option.bind_some]
    by_cases hr : n = rootB
    · rw [if_pos hr]
      obtain ⟨j, rfl⟩ : ∃ j, k = j + 1 := ⟨k - 1, by omega⟩
      simp only [name_Under.l0]
      rw [hr, ends_no begun_root]
      simp
      intro h; exact he (by rw [hr, h])
    · rw [if_neg hr]
      have hb := may_begun hm hr
      have hlt := restOf_lt hb
      obtain ⟨j, rfl⟩ : ∃ j, k = j + 1 := ⟨k - 1, by omega⟩
      simp only
      rw [ih hb j (by omega) (may_rest hm hb) (by omega), ends_yes hb]
      simp [Ne.symm he]
theorem under_f {n z : ByteArray} {k : Nat} (hn : n.size ≤ 4398046511104) (hz : z.size ≤ 4398046511104) (hk : n.size + 1 < k) : name_Under.f k n z = some (underB n z) := by
  unfold name_Under.f
  rw [may_f hz, may_f hn]
  obtain ⟨j, rfl⟩ : ∃ j, k = j + 1 := ⟨k - 1, by omega⟩
  unfold underB
  rcases h1 : mayB z with _ | _
  · rfl
  · rcases h2 : mayB n with _ | _
    · simp [name_Under.l0]
    · simp only [Option.bind_some, if_true]
      rw [under_l0 z n j hn h2 (by omega)]
      simp
end Go.Proofs.YthkpanggjbckkaaDoor.PN
