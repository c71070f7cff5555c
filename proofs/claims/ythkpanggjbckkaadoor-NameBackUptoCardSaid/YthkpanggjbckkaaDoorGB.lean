import Derived.Test.YthkpanggjbckkaaDoorGA
import Derived.Test.YthkpanggjbckkaaDoorRF
import Derived.RangeFuncBox
import Derived.Maps.AppendAt
import Derived.Sort.QuietIn
namespace Go.Proofs.YthkpanggjbckkaaDoor.PN
open Go.RowKit Go.Shelf Go.Proofs.YthkpanggjbckkaaDoorW.PrintWords Go.Proofs.YthkpanggjbckkaaDoorW.PrintLast Go.Proofs.YthkpanggjbckkaaDoorW.PrintMore
attribute [local go_sem] Oper.semAt_some

/-- A text that begins with a label. -/
def begun (s : ByteArray) : Bool := decide (0 < s.size) && decide (0 < bt s 0) && decide (bt s 0 ≤ 63) && decide (bt s 0 < s.size)
def labelOf (s : ByteArray) : ByteArray := s.extract 1 (1 + (bt s 0).toNat)
def restOf (s : ByteArray) : ByteArray := s.extract (1 + (bt s 0).toNat) s.size
/-- Labels, and what is behind each. -/
def eachB : Nat → ByteArray → List (ByteArray × ByteArray)
  | 0, _ => []
  | k + 1, s => if begun s = true then (labelOf s, restOf s) :: eachB k (restOf s) else []
def eachOf (s : ByteArray) : List (ByteArray × ByteArray) := eachB s.size s

theorem restOf_lt {s : ByteArray} (h : begun s = true) : (restOf s).size < s.size := by
  simp [begun] at h
  simp [restOf]
  omega
theorem eachB_more : ∀ (k j : Nat) (s : ByteArray), s.size ≤ k → s.size ≤ j → eachB k s = eachB j s := by
  intro k
  induction k with
  | zero =>
    intro j s h _
    have h0 : begun s = false := by simp [begun]; omega
    cases j <;> simp [eachB, h0]
  | succ k ih =>
    intro j s hk hj
    by_cases h : begun s = true
    · have hlt := restOf_lt h
      cases j with
      | zero => omega
      | succ j => rw [eachB, eachB, if_pos h, if_pos h, ih j _ (by omega) (by omega)]
    · cases j <;> simp [eachB, h]
theorem eachOf_yes {s : ByteArray} (h : begun s = true) : eachOf s = (labelOf s, restOf s) :: eachOf (restOf s) := by
  have hlt := restOf_lt h
  unfold eachOf
  obtain ⟨k, hk⟩ : ∃ k, s.size = k + 1 := ⟨s.size - 1, by omega⟩
  rw [hk, eachB, if_pos h, eachB_more k (restOf s).size _ (by omega) (Nat.le_refl _)]
theorem eachOf_no {s : ByteArray} (h : begun s = false) : eachOf s = [] := by
  unfold eachOf
  cases s.size <;> simp [eachB, h]
theorem eachB_len : ∀ (k : Nat) (s : ByteArray), (eachB k s).length ≤ s.size := by
  intro k
  induction k with
  | zero => intro s; simp [eachB]
  | succ k ih =>
    intro s
    rw [eachB]
    split
    · rename_i h
      have := restOf_lt h
      have := ih (restOf s)
      simp; omega
    · simp
theorem eachOf_len (s : ByteArray) : (eachOf s).length ≤ s.size := eachB_len _ s

def encP (x : ByteArray × ByteArray) : Array Value := #[.string x.1, .string x.2]

theorem btoList (s : ByteArray) : s.toList = s.data.toList := by
  exact ByteArray.toList_eq s
theorem bempty {s : ByteArray} (h : s.size = 0) : s.toList.isEmpty = true := by
  rw [btoList, List.isEmpty_iff]
  exact List.eq_nil_of_length_eq_zero (by rw [data_length]; exact h)
theorem bnonempty {s : ByteArray} (h : 0 < s.size) : s.toList.isEmpty = false := by
  rw [btoList, ← Bool.not_eq_true, List.isEmpty_iff]
  intro h'
  have := congrArg List.length h'
  rw [data_length] at this
  simp only [List.length_nil] at this
  omega

open Classical in
noncomputable def lenAt (Bx : Nat) (W : World) : Nat := if h : ∃ s : ByteArray, W.cell? ⟨Bx, 0, none⟩ = some (.string s) then (Classical.choose h).size else 0
theorem lenAt_eq {Bx : Nat} {W : World} {s : ByteArray} (h : W.cell? ⟨Bx, 0, none⟩ = some (.string s)) : lenAt Bx W = s.size := by
  have hex : ∃ s : ByteArray, W.cell? ⟨Bx, 0, none⟩ = some (.string s) := ⟨s, h⟩
  unfold lenAt
  rw [dif_pos hex]
  have := h.symm.trans (Classical.choose_spec hex)
  simp only [Option.some.injEq, Value.string.injEq] at this
  exact congrArg ByteArray.size this.symm

set_option maxRecDepth 100000 in
set_option maxHeartbeats 2000000 in
theorem each1_in (n : Nat) (hn : 1 ≤ n) (l Bn : Nat) (s0 : ByteArray) (hs0 : s0.size ≤ 140737488351232) (J : List (ByteArray × ByteArray) → World → Prop)
    (hJd : ∀ pre W1 n, J pre W1 → J pre (World.drewN W1 n)) (hJs : ∀ pre W1 v, J pre W1 → J pre (W1.setCell ⟨Bn, 0, none⟩ v))
    (hY : ∀ pre x W, J pre W → pre ++ [x] <+: eachOf s0 → YieldAt Fence.wide (n - 1) Tryd.prog l (encP x) W fun e W' =>
      e = .returned (.bool true) ∧ J (pre ++ [x]) W' ∧ W'.heap[Bn]? = W.heap[Bn]?)
    (W : World) (hBn : Boxed W Bn 9 (.string s0)) (h0 : J [] W) :
    CallsIn Fence.wide n Tryd.prog 42 #[.func (.yield l) #[] #[], .pointer (some ⟨Bn, 0, none⟩)] W fun e W' => (∃ v, e = .returned v) ∧ ∃ ys, ys = eachOf s0 ∧ J ys W' := by
  refine callsIn_of_wp Tryd.func42 rfl trivial ?_ rfl
  simp only [Tryd.ntmps42, List.size_toArray, List.length_cons, List.length_nil, Nat.reduceAdd, Nat.reduceSub, Array.replicate_succ, Array.replicate_zero, List.push_toArray, List.append_toArray, List.nil_append, List.cons_append]
  gi_wp2
  gi_loopw [3] (fun _ wr => ∃ (pre : List (ByteArray × ByteArray)) (s : ByteArray), eachOf s0 = pre ++ eachOf s ∧ s.size ≤ s0.size ∧ Boxed wr Bn 9 (.string s) ∧ J pre wr)
    (fun _ wr => lenAt Bn wr)
  case atStart =>
    exact ⟨[], s0, rfl, Nat.le_refl _, hBn, h0⟩
  case round =>
    obtain ⟨pre, s, hx, hle, hb, hJ⟩ := hrel
    have hX := hid hx
    clear hx
    have hc := hb.cell
    by_cases c1 : 0 < s.size
    · have hbt := bt_at s 0 (by simpa using c1)
      have e0 : s.toList.isEmpty = false := by
        exact bnonempty c1
      have hbl : s[0].toNat < 256 := s[0].toNat_lt
      by_cases c2 : 0 < s[0].toNat
      · have b2 : decide ((0 : Int) < (s[0].toNat : Int)) = true := decide_eq_true (by omega)
        by_cases c3 : s[0].toNat ≤ 63
        · have b3 : decide ((s[0].toNat : Int) ≤ 63) = true := decide_eq_true (by omega)
          have hw : IntKind.i64.wrap (s[0].toNat : Int) = s[0].toNat := IntWalk.i64_in _ (by omega)
          by_cases c4 : s[0].toNat < s.size
          · have b4 : decide ((s[0].toNat : Int) < (s.size : Int)) = true := decide_eq_true (by omega)
            have hbg : begun s = true := by simp only [begun, ← hbt]; simp; omega
            have hsl1 : ∀ W, (Instr.slice 9 (.string s) (some (.int .i64 1)) (some (.int .i64 ((1 : Int) + (s[0].toNat : Int)))) none).run Tryd.prog W = .ok (.string (labelOf s)) W := by
              intro W
              rw [run_slice_string W 9 s .i64 .i64 1 _ Tryd.underlying9 (by omega) (by omega) (by omega), labelOf, ← hbt]
              congr 3
            have hsl2 : ∀ W, (Instr.slice 9 (.string s) (some (.int .i64 ((1 : Int) + (s[0].toNat : Int)))) none none).run Tryd.prog W = .ok (.string (restOf s)) W := by
              intro W
              rw [run_slice_string_from_if W 9 s .i64 _ Tryd.underlying9, if_pos ⟨by omega, by omega⟩, restOf, ← hbt]
              congr 3
            have hw' : IntKind.i64.wrap ((1 : Int) + (s[0].toNat : Int)) = 1 + s[0].toNat := IntWalk.i64_in _ (by omega)
            gi_wp2
            gi_quiet (fail)
            gi_wp2
            obtain ⟨Wy, hWy⟩ : ∃ Wy, (wr.drewN nq).drew = Wy := ⟨_, rfl⟩
            have hJy : J pre Wy := by rw [← hWy]; exact hJd _ _ 1 (hJd _ _ nq hJ)
            have hcy : Wy.cell? ⟨Bn, 0, none⟩ = some (.string s) := by rw [← hWy]; exact hc
            have hln : pre ++ [(labelOf s, restOf s)] <+: eachOf s0 := ⟨eachOf (restOf s), by rw [hX.out, eachOf_yes hbg]; simp⟩
            obtain ⟨fn, tmps, assign, body, hy, hR⟩ := hY pre (labelOf s, restOf s) Wy hJy hln
            dsimp only [encP] at hy
            have hs1 := hsl1 Wy
            have hs2 := hsl2 Wy
            gi_region_with (refine hR.mono ?_; rintro e W3 ⟨rfl, hJ3, hk3⟩)
            all_goals
              have hb3 : Boxed W3 Bn 9 (.string s) := by
                unfold Boxed at hb ⊢
                rw [hk3, ← hWy]
                exact hb
              have hc3 := hb3.cell
              have hf3 := hb3.frozen
              have hs3 := hsl2 W3
              have hlw := hid (lenAt_eq hb.cell)
              clear hJy hcy hy hR hs1 hs2 hk3 hc hJ hb
              gi_wp2
              have hrl := restOf_lt hbg
              have hb4 := hb3.set (.string (restOf s))
              refine ⟨⟨pre ++ [(labelOf s, restOf s)], restOf s, by rw [hX.out, eachOf_yes hbg]; simp, by omega, hb4, hJs _ _ _ hJ3⟩, ?_⟩
              rw [hlw.out, lenAt_eq hb4.cell]
              exact hrl
          · have b4 : decide ((s[0].toNat : Int) < (s.size : Int)) = false := decide_eq_false (by omega)
            gi_wp2
            gi_quiet (fail)
            gi_wp2
            go_end0
            exact ⟨⟨_, rfl⟩, pre, by rw [hX.out, eachOf_no (by simp only [begun, ← hbt]; simp; omega), List.append_nil], hJd _ _ _ hJ⟩
        · have b3 : decide ((s[0].toNat : Int) ≤ 63) = false := decide_eq_false (by omega)
          gi_wp2
          gi_quiet (fail)
          gi_wp2
          go_end0
          exact ⟨⟨_, rfl⟩, pre, by rw [hX.out, eachOf_no (by simp only [begun, ← hbt]; simp; omega), List.append_nil], hJd _ _ _ hJ⟩
      · gi_wp2
        gi_quiet (fail)
        gi_wp2
        go_end0
        exact ⟨⟨_, rfl⟩, pre, by rw [hX.out, eachOf_no (by simp only [begun, ← hbt]; simp; omega), List.append_nil], hJd _ _ _ hJ⟩
    · have e0 : s.toList.isEmpty = true := bempty (by omega)
      gi_wp2
      gi_quiet (fail)
      gi_wp2
      go_end0
      exact ⟨⟨_, rfl⟩, pre, by rw [hX.out, eachOf_no (by simp only [begun]; simp; omega), List.append_nil], hJd _ _ _ hJ⟩

/-- each(n): the text is boxed; the function value captures the box. -/
theorem each_in (n : Nat) (s : ByteArray) (w : World) :
    CallsIn Fence.wide n Tryd.prog 31 #[.string s] w fun e w' => e = .returned (.func (.func 42) #[] #[.pointer (some ⟨w.heap.size, 0, none⟩)]) ∧ w' = w.alloc (.cells #[.string s] 9) := by
  refine callsIn_of_wp Tryd.func31 rfl trivial ?_ rfl
  simp only [Tryd.ntmps31, List.size_toArray, List.length_cons, List.length_nil, Nat.reduceAdd, Nat.reduceSub, Array.replicate_succ, Array.replicate_zero, List.push_toArray, List.append_toArray, List.nil_append, List.cons_append]
  gi_wp2
  go_ret
  exact ⟨rfl, rfl⟩

/-- The iterator that each(s0) hands back gives all labels of s0, and what is behind each. -/
theorem each_gives (n : Nat) (hn : 1 ≤ n) (Bn : Nat) (s0 : ByteArray) (hs0 : s0.size ≤ 140737488351232) (w : World) (hBn : Boxed w Bn 9 (.string s0)) :
    GivesS Bn Fence.wide n Tryd.prog 42 #[.pointer (some ⟨Bn, 0, none⟩)] encP (fun ys => ys = eachOf s0) (fun l => l <+: eachOf s0) w := by
  intro l J W hW hJ hJs hY h0
  refine each1_in n hn l Bn s0 hs0 J (fun pre W1 k h => hJ _ W1 _ none h ⟨rfl, rfl, rfl, Nat.le_refl _, fun _ _ _ => rfl⟩ (fun r e => by cases e)) hJs hY W ?_ h0
  unfold Boxed at hBn ⊢
  rw [hW.block _ (Array.getElem?_eq_some_iff.1 hBn).1]
  exact hBn
end Go.Proofs.YthkpanggjbckkaaDoor.PN
