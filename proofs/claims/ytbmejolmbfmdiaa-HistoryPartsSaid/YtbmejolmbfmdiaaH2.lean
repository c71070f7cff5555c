import Derived.Test.YtbmejolmbfmdiaaH1
import Derived.Test.YtbmejolmbfmdiaaLay3
import Derived.Laws.StructEq
namespace Go.Proofs.Ytbmejolmbfmdiaa
open Go Go.RowKit Go.Lib Go.Proofs.MapL

/-- A record. -/
structure Rr where
  n : ByteArray
  t : Int
  c : Int
  l : Int
  d : ByteArray
deriving DecidableEq
def Rr.cs (r : Rr) : List Value := [.string r.n, .int .u16 r.t, .int .u16 r.c, .int .u32 r.l, .string r.d]
theorem ba_ext {a b : ByteArray} (h : a.toList = b.toList) : a = b := by
  rw [ByteArray.toList_eq, ByteArray.toList_eq] at h
  exact ByteArray.ext (Array.toList_inj.1 h)
theorem qn_ext {a b : Qn} (h1 : a.name = b.name) (h2 : a.ty = b.ty) (h3 : a.cl = b.cl) : a = b := by cases a; cases b; simp only at h1 h2 h3; subst h1 h2 h3; rfl
theorem rr_ext {a b : Rr} (h1 : a.n = b.n) (h2 : a.t = b.t) (h3 : a.c = b.c) (h4 : a.l = b.l) (h5 : a.d = b.d) : a = b := by cases a; cases b; simp only at h1 h2 h3 h4 h5; subst h1 h2 h3 h4 h5; rfl
theorem rr_eq (x y : Rr) : (x.n.toList == y.n.toList && (x.t == y.t && (x.c == y.c && (x.l == y.l && x.d.toList == y.d.toList)))) = decide (x = y) := by
  rw [Bool.eq_iff_iff]
  simp only [Bool.and_eq_true, beq_iff_eq, decide_eq_true_eq]
  constructor
  · rintro ⟨h1, h2, h3, h4, h5⟩; exact rr_ext (ba_ext h1) h2 h3 h4 (ba_ext h5)
  · rintro rfl; exact ⟨rfl, rfl, rfl, rfl, rfl⟩
theorem q_eq (a b : Qn) : (a.name.toList == b.name.toList && (a.ty == b.ty && a.cl == b.cl)) = decide (a = b) := by
  rw [Bool.eq_iff_iff]
  simp only [Bool.and_eq_true, beq_iff_eq, decide_eq_true_eq]
  constructor
  · rintro ⟨h1, h2, h3⟩; exact qn_ext (ba_ext h1) h2 h3
  · rintro rfl; exact ⟨rfl, rfl, rfl⟩
set_option maxRecDepth 100000 in
theorem neqRR : NeqAt Try.prog 79 (fun x => .agg (Rr.cs x).toArray) (fun x y => decide (x = y)) := by
  refine ⟨fun x y w => ?_, GuardAt.agg _ (by kernel_rfl)⟩
  have u1 := Try.underlying9
  have u2 := Try.underlying26
  have u3 := Try.underlying77
  have hS : Try.prog.underlying 79 = some (.struct (Try.prog.fieldsOf 79)) := by kernel_rfl
  have hp : Try.prog.stoodInHeld 79 = false := by kernel_rfl
  have he := rr_eq x y
  show (binOp .neq _ (.agg _) (.agg _)).run _ w = .ok (.bool (!decide (x = y))) w
  simp only [Rr.cs]
  rw [run_neq_struct, show (10000 : Nat) = 9999 + 1 from rfl, run_equalIn_agg w 9999 79 _ _ hS hp]
  simp only [Program.fieldsOf, Try.underlying79]
  go_simp
  rw [← he]
  clear he
  repeat' split
  all_goals simp [*]
set_option maxRecDepth 100000 in
/-- Questions compared. -/
theorem eqQ (a b : Qn) (w : World) : (binOp .eql 28 (.agg #[.string a.name, .int .u16 a.ty, .int .u16 a.cl]) (.agg #[.string b.name, .int .u16 b.ty, .int .u16 b.cl])).run Try.prog w = .ok (.bool (decide (a = b))) w := by
  have u1 := Try.underlying9
  have u2 := Try.underlying26
  have hS : Try.prog.underlying 28 = some (.struct (Try.prog.fieldsOf 28)) := by kernel_rfl
  have hp : Try.prog.stoodInHeld 28 = false := by kernel_rfl
  have he := q_eq a b
  rw [run_eql_struct, show (10000 : Nat) = 9999 + 1 from rfl, run_equalIn_agg w 9999 28 _ _ hS hp]
  simp only [Program.fieldsOf, Try.underlying28]
  go_simp
  rw [← he]
  clear he
  repeat' split
  all_goals simp [*]
set_option maxRecDepth 100000 in
theorem neqQ : NeqAt Try.prog 28 (fun x => .agg (Qn.c x).toArray) (fun x y => decide (x = y)) := by
  refine ⟨fun a b w => ?_, GuardAt.agg _ (by kernel_rfl)⟩
  have u1 := Try.underlying9
  have u2 := Try.underlying26
  have hS : Try.prog.underlying 28 = some (.struct (Try.prog.fieldsOf 28)) := by kernel_rfl
  have hp : Try.prog.stoodInHeld 28 = false := by kernel_rfl
  have he := q_eq a b
  show (binOp .neq _ (.agg _) (.agg _)).run _ w = .ok (.bool (!decide (a = b))) w
  simp only [Qn.c]
  rw [run_neq_struct, show (10000 : Nat) = 9999 + 1 from rfl, run_equalIn_agg w 9999 28 _ _ hS hp]
  simp only [Program.fieldsOf, Try.underlying28]
  go_simp
  rw [← he]
  clear he
  repeat' split
  all_goals simp [*]
/-- A slice of structs, and what it holds. -/
structure SlIs {α : Type} (cs : α → List Value) (k : Nat) (w : World) (A : Option Addr) (n : Nat) (l : List α) : Prop where
  n : n = l.length
  le : l.length ≤ 9223372036854775807
  row : 0 < l.length → ∃ b off, A = some ⟨b, off, none⟩ ∧ b < w.heap.size ∧ ∀ i (h : i < l.length) (j : Nat) (u : Value), (cs l[i])[j]? = some u → w.cell? ⟨b, off + i * k + j, none⟩ = some u
theorem SlIs.fr {α : Type} {cs : α → List Value} {k : Nat} {w w' : World} {A : Option Addr} {n : Nat} {l : List α} (h : SlIs cs k w A n l) (hf : Fr [] w w') : SlIs cs k w' A n l := by
  refine ⟨h.n, h.le, fun h0 => ?_⟩
  obtain ⟨b, off, e1, hb, hc⟩ := h.row h0
  exact ⟨b, off, e1, Nat.lt_of_lt_of_le hb hf.size, fun i hi j u hu => hf.cell (hc i hi j u hu) (by simp)⟩
theorem allEq_dec {α : Type} [DecidableEq α] : ∀ l m : List α, Lib.allEq (fun x y => decide (x = y)) l m = decide (l = m)
  | [], [] => rfl
  | [], _ :: _ => rfl
  | _ :: _, [] => rfl
  | x :: l, y :: m => by
    show (decide (x = y) && Lib.allEq _ l m) = _
    rw [allEq_dec l m, Bool.eq_iff_iff]
    simp only [Bool.and_eq_true, decide_eq_true_eq, List.cons.injEq]
def Recs (w : World) (e : En) (l : List Rr) : Prop := SlIs Rr.cs 5 w e.ra e.rn l
instance : Inhabited Rr := ⟨⟨⟨#[]⟩, 0, 0, 0, ⟨#[]⟩⟩⟩
instance : Inhabited Qn := ⟨⟨⟨#[]⟩, 0, 0, ⟨Nat.zero_le _, by omega, by omega⟩⟩⟩
/-- Equal: of another length, or none. -/
theorem re_len (a b : Option Addr) (n m c d : Nat) (h : n ≠ m) (hn : n ≤ maxLen) (hm : m ≤ maxLen) (w : World) : Calls Try.prog 37 #[.slice a n c, .slice b m d] w fun r w' => r = .returned (.bool false) ∧ Fr [] w w' := by
  have hnm : ¬ (n : Int) = (m : Int) := by omega
  have h0 := Hd.mk (Fr.refl [] w)
  go_enter Try.func37, Try.ntmps37
  go_wp2
  go_ret
  exact ⟨rfl, h0.out⟩
theorem re_none (a b : Option Addr) (c d : Nat) (w : World) : Calls Try.prog 37 #[.slice a 0 c, .slice b 0 d] w fun r w' => r = .returned (.bool true) ∧ Fr [] w w' := by
  have h0 := Hd.mk (Fr.refl [] w)
  go_enter Try.func37, Try.ntmps37
  go_wp2
  go_loopg [13] 0 (fun g s13 wr => s13 = .int .i64 0 ∧ wr = w)
  case atStart => exact ⟨rfl, rfl⟩
  case round =>
    obtain ⟨rfl, rfl⟩ := hrel
    go_wp2
    go_ret
    exact ⟨rfl, h0.out⟩
theorem req_calls {w : World} {a b : Option Addr} {n m c d : Nat} {l l' : List Rr} (h : SlIs Rr.cs 5 w a n l) (h' : SlIs Rr.cs 5 w b m l') : Calls Try.prog 37 #[.slice a n c, .slice b m d] w fun r w' => r = .returned (.bool (decide (l = l'))) ∧ Fr [] w w' := by
  by_cases hl : l.length = l'.length
  · by_cases h0 : l.length = 0
    · have e1 : l = [] := List.length_eq_zero_iff.1 h0
      have e2 : l' = [] := List.length_eq_zero_iff.1 (by rw [← hl]; exact h0)
      have e3 := h.n
      have e4 := h'.n
      subst e1 e2
      simp only [List.length_nil] at e3 e4
      subst e3 e4
      exact re_none a b c d w
    · obtain ⟨b1, o1, rfl, hb1, hc1⟩ := h.row (by omega)
      obtain ⟨b2, o2, rfl, hb2, hc2⟩ := h'.row (by omega)
      have e3 := h.n
      have e4 := h'.n
      refine (AnyQ.slices_Equal Try.eqRR 5 (fun w => Try.isAgg79 w) (fun w => Try.sizeOf79 w) Rr.cs (fun x => rfl) (fun x y => decide (x = y)) neqRR b1 o1 n c b2 o2 m d l l' w (by omega) (by omega) (by rw [e3]; exact h.le) (by rw [e4]; exact h'.le) ?_ ?_).mono ?_
      · intro j hj i v hv
        rw [getElem!_pos l j hj] at hv
        exact hc1 j hj i v hv
      · intro j hj i v hv
        rw [getElem!_pos l' j hj] at hv
        exact hc2 j hj i v hv
      · rintro r w' ⟨rfl, q, rfl⟩
        rw [e3, e4, List.take_length, List.take_length, allEq_dec]
        exact ⟨rfl, (Fr.refl [] w).drewN q⟩
  · have e3 := h.n
    have e4 := h'.n
    have h1 := h.le
    have h2 := h'.le
    have : decide (l = l') = false := decide_eq_false fun e => hl (by rw [e])
    rw [this]
    exact re_len a b n m c d (by omega) (by unfold maxLen; omega) (by unfold maxLen; omega) w
/-- Equal: of another length, or none. -/
theorem qe_len (a b : Option Addr) (n m c d : Nat) (h : n ≠ m) (hn : n ≤ maxLen) (hm : m ≤ maxLen) (w : World) : Calls Try.prog 29 #[.slice a n c, .slice b m d] w fun r w' => r = .returned (.bool false) ∧ Fr [] w w' := by
  have hnm : ¬ (n : Int) = (m : Int) := by omega
  have h0 := Hd.mk (Fr.refl [] w)
  go_enter Try.func29, Try.ntmps29
  go_wp2
  go_ret
  exact ⟨rfl, h0.out⟩
theorem qe_none (a b : Option Addr) (c d : Nat) (w : World) : Calls Try.prog 29 #[.slice a 0 c, .slice b 0 d] w fun r w' => r = .returned (.bool true) ∧ Fr [] w w' := by
  have h0 := Hd.mk (Fr.refl [] w)
  go_enter Try.func29, Try.ntmps29
  go_wp2
  go_loopg [13] 0 (fun g s13 wr => s13 = .int .i64 0 ∧ wr = w)
  case atStart => exact ⟨rfl, rfl⟩
  case round =>
    obtain ⟨rfl, rfl⟩ := hrel
    go_wp2
    go_ret
    exact ⟨rfl, h0.out⟩
theorem qeq_calls {w : World} {a b : Option Addr} {n m c d : Nat} {l l' : List Qn} (h : SlIs Qn.c 3 w a n l) (h' : SlIs Qn.c 3 w b m l') : Calls Try.prog 29 #[.slice a n c, .slice b m d] w fun r w' => r = .returned (.bool (decide (l = l'))) ∧ Fr [] w w' := by
  by_cases hl : l.length = l'.length
  · by_cases h0 : l.length = 0
    · have e1 : l = [] := List.length_eq_zero_iff.1 h0
      have e2 : l' = [] := List.length_eq_zero_iff.1 (by rw [← hl]; exact h0)
      have e3 := h.n
      have e4 := h'.n
      subst e1 e2
      simp only [List.length_nil] at e3 e4
      subst e3 e4
      exact qe_none a b c d w
    · obtain ⟨b1, o1, rfl, hb1, hc1⟩ := h.row (by omega)
      obtain ⟨b2, o2, rfl, hb2, hc2⟩ := h'.row (by omega)
      have e3 := h.n
      have e4 := h'.n
      refine (AnyQ.slices_Equal Try.eqQQ 3 (fun w => Try.isAgg28 w) (fun w => Try.sizeOf28 w) Qn.c (fun x => rfl) (fun x y => decide (x = y)) neqQ b1 o1 n c b2 o2 m d l l' w (by omega) (by omega) (by rw [e3]; exact h.le) (by rw [e4]; exact h'.le) ?_ ?_).mono ?_
      · intro j hj i v hv
        rw [getElem!_pos l j hj] at hv
        exact hc1 j hj i v hv
      · intro j hj i v hv
        rw [getElem!_pos l' j hj] at hv
        exact hc2 j hj i v hv
      · rintro r w' ⟨rfl, q, rfl⟩
        rw [e3, e4, List.take_length, List.take_length, allEq_dec]
        exact ⟨rfl, (Fr.refl [] w).drewN q⟩
  · have e3 := h.n
    have e4 := h'.n
    have h1 := h.le
    have h2 := h'.le
    have : decide (l = l') = false := decide_eq_false fun e => hl (by rw [e])
    rw [this]
    exact qe_len a b n m c d (by omega) (by unfold maxLen; omega) (by unfold maxLen; omega) w
end Go.Proofs.Ytbmejolmbfmdiaa
