import Derived.Test.YthkpanggjbckkaaDoorGS
import Derived.Test.YthkpanggjbckkaaDoorPNx1
namespace Go.Proofs.YthkpanggjbckkaaDoor.PN
open Go.RowKit Go.Shelf Go.Proofs.YthkpanggjbckkaaDoorW.PrintWords Go.Proofs.YthkpanggjbckkaaDoorW.PrintLast Go.Proofs.YthkpanggjbckkaaDoorW.PrintMore
attribute [local go_sem] Oper.semAt_some

def mayB (s : ByteArray) : Bool := decide ((labelsF s).2 = 0) && ((bstr (foldL s.data.toList)).toList == s.toList)
theorem may_f {s : ByteArray} (h : s.size ≤ 4398046511104) : name_May.f s = some (mayB s) := by
  unfold name_May.f name_Labels.f name_Fold.f
  rw [if_pos h, if_pos (by omega)]
  simp only [Option.bind_some]
  unfold mayB
  by_cases h2 : (labelsF s).2 = 0 <;> simp [h2]

/-- A label as a text, and its point. -/
def labT (x : ByteArray) : List UInt8 := x.data.toList.flatMap shownB ++ [46]
def txtT (l : List (ByteArray × ByteArray)) : List UInt8 := l.flatMap fun x => labT x.1
def textF (s : ByteArray) : List UInt8 := if mayB s then txtT (eachOf s) ++ (if s.toList = [0] then [46] else []) else []
/-- Bytes that are told without the table of tens. -/
def plainB (s : ByteArray) : Bool := (eachOf s).all fun x => x.1.data.toList.all fun c => decide (c.toNat ≤ 126)
def name_Text.f (a0 : ByteArray) : Option ByteArray := if a0.size ≤ 4398046511104 ∧ plainB a0 = true then some (bstr (textF a0)) else none

theorem builder_ownF {β : Type} (n B b : Nat) (f : β → List Value) (hb : b < n) : OwnFrom n (fun (s : β) W => Lib.IsBuilder 52 5 B b (f s) W) := by
  intro s W W' row h hg hr
  have key : ∀ p, Lib.BuilderAt 52 5 B b p (f s) W → Lib.BuilderAt 52 5 B b p (f s) W' := by
    rintro p ⟨h1, v, h2, h3, h4⟩
    have hne : ∀ g, (∃ c t fr, W.heap[g]? = some (.cells c t fr)) → some g ≠ row := by
      rintro g ⟨c, t, fr, hc⟩ e
      obtain ⟨_, o, ho, hoc⟩ := hr g e.symm
      rw [hc] at ho; cases ho; cases hoc
    refine ⟨h1, v, (hg.block b (Array.getElem?_eq_some_iff.1 h2).1 (hne b ⟨_, _, _, h2⟩)).trans h2, h3.kept hg ?_, h4⟩
    cases ho : v.ownBlock with
    | none => exact .inl rfl
    | some g =>
      obtain ⟨-, c, fr, hc⟩ := row_block h3 ho
      exact .inr (fun e => hne g ⟨_, _, _, hc⟩ (by rw [← e]))
  exact h.imp (key _) (key _)
theorem builder_far {B b Bx : Nat} {bs : List Value} {W : World} {u v : Value} (h : Lib.IsBuilder 52 5 B b bs W) (hx : Boxed W Bx 9 u) : Lib.IsBuilder 52 5 B b bs (W.setCell ⟨Bx, 0, none⟩ v) := by
  have key : ∀ p, Lib.BuilderAt 52 5 B b p bs W → Lib.BuilderAt 52 5 B b p bs (W.setCell ⟨Bx, 0, none⟩ v) := by
    rintro p ⟨h1, x, h2, h3, h4⟩
    have hb : b ≠ Bx := by
      rintro rfl
      unfold Boxed at hx
      rw [h2] at hx; simp at hx
    refine ⟨h1, x, ?_, h3.kept (grownBy_setCell' W Bx v) (.inr (Lib.ownBlock_ne h3 hx (by decide))), h4⟩
    rw [Below.heap_setCell _ _ _ _ hb]; exact h2
  exact h.imp (key _) (key _)
theorem others_box {b Bx : Nat} {W W' : World} {u : Value} (h : Lib.OthersKept 5 (some b) W W') (hx : Boxed W Bx 9 u) (hne : Bx ≠ b) : W'.heap[Bx]? = W.heap[Bx]? := by
  rw [h Bx _ hx (by simpa using hne) (by intro c fz e; cases e)]; exact hx.symm
theorem others_keeps {b n : Nat} {W W' : World} (h : Lib.OthersKept 5 (some b) W W') (hb : b < n) (hs : W.heap.size ≤ W'.heap.size) : KeepsFrom n W W' :=
  ⟨hs, fun k o hk ho hoc => h k o ho (by simp; omega) (fun c fz e => by subst e; cases hoc)⟩
theorem others_below {b : Nat} {w W W' : World} (h : Lib.OthersKept 5 (some b) w W) (hb : Below W.heap.size W W') : Lib.OthersKept 5 (some b) w W' :=
  h.grown (grown_of_below hb none) (fun g e => by cases e)
theorem isB_below {B b : Nat} {bs : List Value} {w w' : World} (h : Lib.IsBuilder 52 5 B b bs w) (hb : Below w.heap.size w w') : Lib.IsBuilder 52 5 B b bs w' :=
  h.imp (fun h => builder_below h hb) (fun h => builder_below h hb)

theorem shownB_len (c : UInt8) : (shownB c).length ≤ 4 := by
  unfold shownB
  split
  · simp
  · split <;> simp [digits3]
theorem flat_le {l : List UInt8} : (l.flatMap shownB).length ≤ 4 * l.length := by
  induction l with
  | nil => simp
  | cons a l ih => have := shownB_len a; simp only [List.flatMap_cons, List.length_append, List.length_cons]; omega
theorem eachB_fst : ∀ (k : Nat) (s : ByteArray), ∀ x ∈ eachB k s, x.1.size ≤ 63 := by
  intro k
  induction k with
  | zero => intro s x hx; simp [eachB] at hx
  | succ k ih =>
    intro s x hx
    rw [eachB] at hx
    split at hx
    · rename_i hbg
      rcases List.mem_cons.1 hx with rfl | hx
      · simp [begun] at hbg
        simp [labelOf]
        omega
      · exact ih _ _ hx
    · simp at hx
theorem eachOf_fst {s : ByteArray} : ∀ x ∈ eachOf s, x.1.size ≤ 63 := eachB_fst _ s
theorem txtT_len {s : ByteArray} {l : List (ByteArray × ByteArray)} (h : l <+: eachOf s) : (txtT l).length ≤ 253 * s.size := by
  have h1 : l.length ≤ s.size := Nat.le_trans h.length_le (eachOf_len s)
  have h2 : ∀ x ∈ l, x.1.size ≤ 63 := fun x hx => eachOf_fst x (h.subset hx)
  have h3 : (txtT l).length ≤ 253 * l.length := by
    clear h h1
    induction l with
    | nil => simp [txtT]
    | cons a l ih =>
      have := ih (fun x hx => h2 x (List.mem_cons_of_mem _ hx))
      have h4 := h2 a (by simp)
      have h5 := flat_le (l := a.1.data.toList)
      rw [data_length] at h5
      have e : txtT (a :: l) = labT a.1 ++ txtT l := by simp [txtT]
      rw [e, List.length_append, List.length_cons, labT, List.length_append, List.length_singleton]
      omega
  omega

theorem may_size {s : ByteArray} (h : mayB s = true) : s.size ≤ 255 := by
  simp only [mayB, Bool.and_eq_true, decide_eq_true_eq] at h
  have h := h.1
  unfold labelsF at h
  split at h
  · split at h
    · assumption
    · cases h
  · cases h
theorem take_flat {l : List UInt8} {k : Nat} (h : k < l.length) : (l.take (k + 1)).flatMap shownB = (l.take k).flatMap shownB ++ shownB l[k] := by
  rw [List.take_succ_eq_append_getElem h, List.flatMap_append]
  simp

set_option maxRecDepth 100000 in
set_option maxHeartbeats 4000000 in
theorem text_of (s : ByteArray) (hs : s.size ≤ 4398046511104) (w : World)
    (hsh : ∀ x ∈ eachOf s, ∀ c ∈ x.1.data.toList, ∀ w1, Below w.heap.size w w1 → Calls Tryd.prog 41 #[.int .u8 c.toNat] w1 fun e w2 => e = .returned (.string (bstr (shownB c))) ∧ Below w1.heap.size w1 w2) :
    Calls Tryd.prog 29 #[.string s] w fun e w' => e = .returned (.string (bstr (textF s))) ∧ Below w.heap.size w w' := by
  refine (callsIn_wide (n := 3)).1 ?_
  refine callsIn_of_wp_marks Tryd.func29 rfl trivial ?_ rfl
  simp only [Tryd.ntmps29, List.size_toArray, List.length_cons, List.length_nil, Nat.reduceAdd, Nat.reduceSub, Array.replicate_succ, Array.replicate_zero, List.push_toArray, List.append_toArray, List.nil_append, List.cons_append]
  by_cases hm : mayB s = true
  · have hmf : name_May.f s = some true := by rw [may_f hs, hm]
    gi_wp2_with (refine ⟨trivial, ?_⟩; gi_at_call 12; refine (callsIn_wide.2 (name_May.calls s true _ hmf)).mono ?_; rintro e w0 ⟨rfl, hB0⟩)
    gi_wp2_with (refine ⟨trivial, ?_⟩; gi_at_call 31; refine (each_in (3 - 1) _ _).mono ?_; rintro e w' ⟨rfl, rfl⟩)
    have hz0 := hB0.size
    have hs255 := may_size hm
    obtain ⟨w1, hw1⟩ : ∃ w1, (w0.alloc (.cells #[.pointer none, .slice none 0 0] 52)).alloc (.cells #[.string s] 9) = w1 := ⟨_, rfl⟩
    have hz : w1.heap.size = w0.heap.size + 2 := by rw [← hw1]; simp
    have bB : Lib.IsBuilder 52 5 w0.heap.size w0.heap.size [] w1 := by
      rw [← hw1]; exact isB_below (Lib.fresh_isBuilder 52 5 w0) ((Below.refl _ _).alloc (Nat.le_refl _) _)
    have bN : Boxed w1 (w0.heap.size + 1) 9 (.string s) := by
      rw [← hw1]
      have := Boxed.new (w0.alloc (.cells #[.pointer none, .slice none 0 0] 52)) 9 (.string s)
      rwa [World.size_alloc] at this
    have hB1 : Below w.heap.size w w1 := by
      rw [← hw1]; exact (hB0.alloc hB0.size _).alloc (by simp; omega) _
    simp only [hw1]
    refine wpIn_rangeFunc_S (Bx := w0.heap.size + 1) rfl (by omega) (gf := 42) (lb := #[.pointer (some ⟨w0.heap.size + 1, 0, none⟩)]) (by simp [Act.eval]) trivial (enters_of Tryd.func42 (by kernel_rfl) rfl)
      (each_gives (3 - 1) (by omega) (w0.heap.size + 1) s (by omega) w1 bN) (by omega) (fun _ => rfl)
      (fun pre W => Lib.IsBuilder 52 5 w0.heap.size w0.heap.size (Lib.byteCells (txtT pre)) W ∧ (∃ u, Boxed W (w0.heap.size + 1) 9 u) ∧ w1.heap.size ≤ W.heap.size ∧ Below w.heap.size w W) ?hI ?hIs ?h0
      (fun x => { tmps := #[.string s, undef, .string ⟨#[]⟩, .pointer (some ⟨w0.heap.size, 0, none⟩), .string x.1, undef, .string s, .bool true, .bool false, .string s, .func (.func 42) #[] #[.pointer (some ⟨w0.heap.size + 1, 0, none⟩)], .string x.1, .string x.2, undef, undef, undef, undef, undef, undef, undef, undef, undef, undef, undef, undef, undef, undef, undef, undef], defers := [] }) ?assign ?body ?done
    case hI =>
      refine OwnFrom.and (builder_ownF _ _ _ _ (by omega)) (OwnFrom.and ?_ (OwnFrom.and (size_ownF _ _) (ownFrom_below (Nat.le_refl _) (by omega))))
      rintro pre W W' row ⟨u, hu⟩ hg hr
      exact ⟨u, boxed_ownF _ _ _ (fun _ : Unit => u) () W W' row hu hg hr⟩
    case hIs =>
      rintro pre W v ⟨h1, ⟨u, h2⟩, h3, h4⟩
      exact ⟨builder_far h1 h2, ⟨_, h2.set v⟩, by simpa using h3, h4.setCell (p := ⟨w0.heap.size + 1, 0, none⟩) (by simp; omega) _⟩
    case h0 => exact ⟨bB, ⟨_, bN⟩, Nat.le_refl _, hB1⟩
    case assign =>
      intro l x W K hK
      dsimp only [encP]
      gi_wp2
      exact hK
    case body =>
      rintro l pre x W ⟨hbu, ⟨u, hbx⟩, hsz, hB⟩ hpre
      have hx : x ∈ eachOf s := hpre.subset (by simp)
      have hxl := eachOf_fst x hx
      have hpl := txtT_len ((List.prefix_append _ _).trans hpre)
      have hcs := hsh x hx
      obtain ⟨y, hy⟩ : ∃ y, x.1 = y := ⟨_, rfl⟩
      rw [hy] at hxl hcs
      have hY := hid hy
      simp only [hy]
      clear hsh hy
      gi_wp2
      gi_loopw [15] (fun i wr => ∃ k : Nat, i = .int .i64 k ∧ k ≤ y.size ∧ Lib.IsBuilder 52 5 w0.heap.size w0.heap.size (Lib.byteCells (txtT pre ++ (y.data.toList.take k).flatMap shownB)) wr ∧ Below w.heap.size w wr ∧ Lib.OthersKept 5 (some w0.heap.size) W wr ∧ W.heap.size ≤ wr.heap.size) (fun i _ => y.size - (intOf i).toNat)
      case atStart => exact ⟨0, rfl, Nat.zero_le _, by simpa using hbu, hB, Lib.OthersKept.refl _ _ _, Nat.le_refl _⟩
      case round =>
        obtain ⟨k, rfl, hk, hbr, hBr, hor, hszr⟩ := hrel
        have hfl := flat_le (l := y.data.toList.take k)
        have htk : (y.data.toList.take k).length ≤ k := List.length_take_le _ _
        have hcl : (Lib.byteCells (txtT pre ++ (y.data.toList.take k).flatMap shownB)).length ≤ 253 * s.size + 4 * k := by
          rw [Lib.byteCells_length, List.length_append]; omega
        by_cases hlt : k < y.size
        · have hlt' : k < y.data.toList.length := by rw [data_length]; exact hlt
          have hmem : y[k] ∈ y.data.toList := List.getElem_mem hlt'
          have hcall := hcs y[k] hmem wr hBr
          have htf := hid (take_flat hlt')
          have hyk := hid (show y.data.toList[k] = y[k] from rfl)
          have hsl := shownB_len y[k]
          gi_wp2_with (refine ⟨trivial, ?_⟩; gi_at_call 41; refine (CallsIn.inRound l (callsIn_wide.2 hcall)).mono ?_; clear hcall; rintro e w2 ⟨rfl, hb2⟩)
          have hsz2 := hb2.size
          have hbr2 := isB_below hbr hb2
          have hB2 : Below w.heap.size w w2 := hBr.trans (hb2.mono (by omega))
          gi_wp2_with (refine ⟨trivial, ?_⟩; gi_at_call 33; refine (CallsIn.inRound l (callsIn_wide.2 (writeString_any _ _ _ _ _ hbr2 (by rw [bstr_size]; omega) (by omega)))).mono ?_; rintro e w3 ⟨rfl, hb3, hB3, ho3⟩)
          go_roundw
          case rel =>
            refine ⟨k + 1, by go_num, by omega, .inr ?_, hB2.trans (hB3.mono (by omega)), (others_below hor hb2).trans ho3, by have := hB3.size; omega⟩
            rw [htf.out, hyk.out, ← List.append_assoc, Lib.byteCells_append]
            exact hb3
          case measure => simp [intOf]; omega
        · obtain rfl : k = y.size := by omega
          rw [List.take_of_length_le (by rw [data_length]; exact Nat.le_refl _)] at hbr hcl
          gi_wp2_with (refine ⟨trivial, ?_⟩; gi_at_call 32; refine (CallsIn.inRound l (callsIn_wide.2 (writeByte_any _ _ _ _ _ hbr (by omega) (by omega)))).mono ?_; rintro e w3 ⟨rfl, hb3, hB3, ho3⟩)
          have hoW := hor.trans ho3
          have hsz3 := hB3.size
          refine ⟨others_keeps hoW (by omega) (by omega), others_box hoW hbx (by omega), .inr ?_, ⟨u, ?_⟩, by omega, hBr.trans (hB3.mono (by omega))⟩
          · have e : Lib.byteCells (txtT (pre ++ [x])) = Lib.byteCells (txtT pre ++ y.data.toList.flatMap shownB) ++ [Value.int .u8 46] := by
              have e1 : txtT (pre ++ [x]) = txtT pre ++ y.data.toList.flatMap shownB ++ [46] := by simp [txtT, labT, hY.out]
              rw [e1, Lib.byteCells_append]; rfl
            rw [e]; exact hb3
          · unfold Boxed at hbx ⊢
            rw [others_box hoW hbx (by omega)]; exact hbx
    case done =>
      rintro D ys W hD rfl ⟨hbu, ⟨u, hbx⟩, hsz, hB⟩ hK
      have hpl := txtT_len (List.prefix_refl (eachOf s))
      have hcl : (Lib.byteCells (txtT (eachOf s))).length ≤ 253 * s.size := by rw [Lib.byteCells_length]; exact hpl
      have hDB : ∀ W', Below W.heap.size W W' → Below w.heap.size w (W'.putObj D (.deferred none)) := fun W' h =>
        (hB.trans (h.mono (by omega))).trans (belowK_b (w := w) (Nat.le_refl _) W' D _ _ (by omega) ((h.block D (Array.getElem?_eq_some_iff.1 hK).1).trans hK) rfl rfl)
      clear hsh
      by_cases e1 : s.toList = [0]
      · have d1 : (s.toList == [0]) = true := by simpa using e1
        have hT : textF s = txtT (eachOf s) ++ [46] := by unfold textF; rw [hm, e1]; rfl
        have hTh := hid hT
        clear hT e1
        gi_wp2_with (refine ⟨trivial, ?_⟩; gi_at_call 32; refine (callsIn_wide.2 (writeByte_any _ _ _ _ _ hbu (by omega) (by omega))).mono ?_; rintro e w3 ⟨rfl, hb3, hB3, ho3⟩)
        have e2 : Lib.byteCells (txtT (eachOf s)) ++ [Value.int .u8 46] = Lib.byteCells (textF s) := by rw [hTh.out, Lib.byteCells_append]; rfl
        rw [e2] at hb3
        have hne : D ≠ w0.heap.size := by omega
        have hK3 := ho3 D _ hK (by simpa using hne) (by intro c fz e; cases e)
        have hsz3 := hB3.size
        have hD3 := (Array.getElem?_eq_some_iff.1 hK3).1
        gi_wp2_with (refine ⟨trivial, ?_⟩; gi_at_call 35; refine (callsIn_wide.2 (Tryd.Builder_String_any_k _ _ _ _ (Lib.IsBuilderF.of (.inr hb3)) (by omega))).mono ?_; rintro e w4 ⟨rfl, -, hB4, ho4⟩)
        have hK4 := ho4 D _ hK3 (by simpa using hne) (by intro c fz e; cases e)
        refine ⟨by simp, .inl ⟨_, _, rfl, run_takeDeferred hK4, ?_⟩⟩
        exact ⟨_, results_tmp rfl _ _ _, rfl, ((hB.trans (hB3.mono (by omega))).trans (hB4.mono (by omega))).trans (belowK_b (w := w) (Nat.le_refl _) w4 D _ _ (by omega) hK4 rfl rfl)⟩
      · have d1 : (s.toList == [0]) = false := by simpa using e1
        have hT : textF s = txtT (eachOf s) := by unfold textF; rw [hm, if_pos rfl, if_neg e1, List.append_nil]
        have hTh := hid hT
        clear hT e1
        gi_wp2_with (refine ⟨trivial, ?_⟩; gi_at_call 35; refine (callsIn_wide.2 (Tryd.Builder_String_any_k _ _ _ _ (Lib.IsBuilderF.of hbu) (by omega))).mono ?_; rintro e w4 ⟨rfl, -, hB4, ho4⟩)
        have hne : D ≠ w0.heap.size := by omega
        have hK4 := ho4 D _ hK (by simpa using hne) (by intro c fz e; cases e)
        refine ⟨by simp, .inl ⟨_, _, rfl, run_takeDeferred hK4, ?_⟩⟩
        rw [hTh.out]
        exact ⟨_, results_tmp rfl _ _ _, rfl, (hB.trans (hB4.mono (by omega))).trans (belowK_b (w := w) (Nat.le_refl _) w4 D _ _ (by omega) hK4 rfl rfl)⟩
  · have hmf : name_May.f s = some false := by rw [may_f hs]; simpa using hm
    gi_wp2_with (refine ⟨trivial, ?_⟩; gi_at_call 12; refine (callsIn_wide.2 (name_May.calls s false _ hmf)).mono ?_; rintro e w0 ⟨rfl, hB0⟩)
    have hT : textF s = [] := by unfold textF; rw [if_neg hm]
    rw [hT]
    exact ⟨_, results_tmp rfl _ _ _, rfl, hB0⟩

/-- Itoa below 100 reads no table. -/
theorem name_Text.calls (a0 : ByteArray) (r : ByteArray) (w : World) (h : name_Text.f a0 = some r) :
    Calls Tryd.prog 29 #[.string a0] w fun e w' => e = .returned (.string r) ∧ Below w.heap.size w w' := by
  unfold name_Text.f at h
  split at h
  · rename_i hc
    obtain ⟨hs, hp⟩ := hc
    obtain rfl := Option.some.inj h
    refine text_of a0 hs w fun x hx c hc w1 _ => ?_
    simp only [plainB, List.all_eq_true, decide_eq_true_eq] at hp
    have hcp := hp x hx c hc
    refine shown_any c w1 fun w2 _ hn => ?_
    have h99 : c.toNat < 100 := by
      rcases Nat.lt_or_ge c.toNat 33 with h | h
      · omega
      · exact absurd ⟨u8_le.2 h, u8_le.2 hcp⟩ hn
    refine (Tryd.strconv_Itoa_small c.toNat h99 w2).mono ?_
    rintro e w3 ⟨rfl, rfl⟩
    exact ⟨rfl, Below.refl _ _⟩
  · cases h
end Go.Proofs.YthkpanggjbckkaaDoor.PN
