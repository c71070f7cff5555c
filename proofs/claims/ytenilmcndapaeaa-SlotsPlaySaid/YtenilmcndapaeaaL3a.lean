import Derived.Test.YtenilmcndapaeaaL8
namespace Go.Proofs.Ytenilmcndapaeaa
open Go.RowKit

/-- A region of a function's code, by its number. -/
def regionIn (n : Nat) : Code → Option Code
  | .region id ops d => if id = n then some (.region id ops d) else none
  | .seq a b => match regionIn n a with
    | some c => some c
    | none => regionIn n b
  | .cond _ a b => match regionIn n a with
    | some c => some c
    | none => regionIn n b
  | .loop c => regionIn n c
  | .block _ c => regionIn n c
  | .scope c => regionIn n c
  | _ => none
noncomputable def ask11 : Code := (Try.f3.body.bind (regionIn 11)).getD .skip

/-- What is asked behind each deed: nothing is otherwise. -/
def askL (p gx cx gu cu gt ct : Nat) (s : SS) : List (Value → World → Prop) :=
  [fun v _ => v = .bool true,
   fun v _ => v = .bool false,
   fun v _ => v = .bool false,
   fun v _ => v = .pointer (some ⟨p, 0, none⟩),
   fun v w => w.ownsRow 0 3 1 v s.all.length (ints s.all),
   fun v _ => v = refV gx cx gu cu gt ct s.l.length s.hand,
   fun v w => w.ownsRow 0 3 1 v s.all.length (ints s.all),
   fun v _ => v = .bool true,
   fun v _ => v = .bool false,
   fun v _ => v = .bool false,
   fun v _ => v = .bool false,
   fun v _ => v = .pointer (some ⟨p, 0, none⟩),
   fun v _ => v = .int .i64 s.all.length,
   fun v _ => v = refV gx cx gu cu gt ct s.l.length s.hand,
   fun v w => w.ownsRow 0 3 1 v s.all.length (ints s.all),
   fun v _ => v = .int .i64 s.all.length,
   fun v _ => v = .bool false,
   fun v _ => v = .bool false,
   fun v _ => v = .bool false,
   fun v _ => v = .pointer (some ⟨p, 0, none⟩),
   fun v _ => v = .int .i64 s.l.length,
   fun v _ => v = .int .i64 s.l.length,
   fun v _ => v = .bool false,
   fun v _ => v = .bool false]
def nth (L : List (Value → World → Prop)) (i : Nat) (l : List Value) (w : World) : Prop :=
  match L[i]?, l with
  | some f, [v] => f v w
  | _, _ => False
def askCtx (p gx cx gu cu gt ct : Nat) (s : SS) : PhCtx where
  R := Fr []
  R1 := Fr []
  G := nth (askL p gx cx gu cu gt ct s)
  H := fun _ _ _ => True
  sup := fun i => if i < 24 then [53 + i] else []
  supH := fun _ => []
  loud := fun _ => false
  nw := fun _ => false
theorem nth_stable {R : World → World → Prop} {L : List (Value → World → Prop)} (h : ∀ f ∈ L, ∀ v w w', R w w' → f v w → f v w') : ∀ i l w w', R w w' → nth L i l w → nth L i l w' := by
  intro i l w w' hf hn
  unfold nth at hn ⊢
  split at hn
  · rename_i f v hi
    exact h f (List.mem_of_getElem? hi) v w w' hf hn
  · exact hn.elim
theorem askG_stable {p gx cx gu cu gt ct : Nat} {s : SS} : ∀ i l w w', Fr [] w w' → nth (askL p gx cx gu cu gt ct s) i l w → nth (askL p gx cx gu cu gt ct s) i l w' := by
  refine nth_stable fun f hf v w w' hw hv => ?_
  simp only [askL, List.mem_cons, List.not_mem_nil, or_false] at hf
  rcases hf with rfl | rfl | rfl | rfl | rfl | rfl | rfl | rfl | rfl | rfl | rfl | rfl | rfl | rfl | rfl | rfl | rfl | rfl | rfl | rfl | rfl | rfl | rfl | rfl
  all_goals first | exact hv | exact own_fr hv hw (by simp)

theorem ask_at {p gx cx gu cu gt ct i : Nat} {s : SS} {σ : Nat → Value} {w : World} {f : Value → World → Prop} (h : (askCtx p gx cx gu cu gt ct s).G i (((askCtx p gx cx gu cu gt ct s).sup i).map σ) w) (hi : i < 24) (hf : (askL p gx cx gu cu gt ct s)[i]? = some f) (k : Nat) (hk : 53 + i = k) : f (σ k) w := by
  subst hk
  have h2 : (askCtx p gx cx gu cu gt ct s).sup i = [53 + i] := if_pos hi
  rw [h2] at h
  have h3 : nth (askL p gx cx gu cu gt ct s) i [σ (53 + i)] w := h
  unfold nth at h3
  rw [hf] at h3
  exact h3
theorem ask_loud {p gx cx gu cu gt ct i : Nat} {s : SS} : (askCtx p gx cx gu cu gt ct s).loud i = false := rfl
set_option maxRecDepth 100000 in
set_option maxHeartbeats 4000000 in
theorem ask_region {wr : World} {p b Y gx cx gu cu gt ct : Nat} {s : SS} (hs : SlotsAt wr p b s) (ht : RefAt wr gx cx gu cu gt ct s)
    (hbx : Blk wr Y 30 [.slice (some ⟨gx, 0, none⟩) s.l.length cx, .slice (some ⟨gu, 0, none⟩) s.l.length cu, .slice (some ⟨gt, 0, none⟩) s.l.length ct, .int .i64 s.hand]) (n : Nat) (hn : s.l.length = n)
    (x1 x2 x3 x4 x5 x8 x9 x11 x12 x13 x14 x15 x16 x17 x18 x19 x20 x21 x22 x23 x24 x25 x26 x27 x28 x29 x30 x31 x32 x33 x34 x35 x36 x37 x38 x39 x40 x41 x42 x43 x44 x45 x46 x47 x48 x49 x50 x51 x52 x53 x54 x55 x56 x57 x58 x59 x60 x61 x62 x63 x64 x65 x66 x67 x68 x69 x70 x71 x72 x73 x74 x75 x76 x77 : Value) {Q : Exit → Act → World → Prop}
    (hQ : ∀ σ w', Fr [] wr w' → σ 76 = .bool false → Q .normal { tmps := (fill σ [false, false, false, false, false, false, false, false, false, false, false, false, false, false, false, false, false, false, false, false, false, false, false, false, false, false, false, false, false, false, false, false, false, false, false, false, false, false, false, false, false, false, false, false, false, false, false, false, false, false, false, false, false, true, true, true, true, true, true, true, true, true, true, true, true, true, true, true, true, true, true, true, true, true, true, true, true, false] 0 [.int .i64 n, x1, x2, x3, x4, x5, .pointer (some ⟨p, 0, none⟩), .pointer (some ⟨Y, 0, none⟩), x8, x9, .bool true, x11, x12, x13, x14, x15, x16, x17, x18, x19, x20, x21, x22, x23, x24, x25, x26, x27, x28, x29, x30, x31, x32, x33, x34, x35, x36, x37, x38, x39, x40, x41, x42, x43, x44, x45, x46, x47, x48, x49, x50, x51, x52, x53, x54, x55, x56, x57, x58, x59, x60, x61, x62, x63, x64, x65, x66, x67, x68, x69, x70, x71, x72, x73, x74, x75, x76, x77]).toArray, defers := [] } w') :
    Code.wp Try.prog ask11 Q { tmps := #[.int .i64 n, x1, x2, x3, x4, x5, .pointer (some ⟨p, 0, none⟩), .pointer (some ⟨Y, 0, none⟩), x8, x9, .bool true, x11, x12, x13, x14, x15, x16, x17, x18, x19, x20, x21, x22, x23, x24, x25, x26, x27, x28, x29, x30, x31, x32, x33, x34, x35, x36, x37, x38, x39, x40, x41, x42, x43, x44, x45, x46, x47, x48, x49, x50, x51, x52, x53, x54, x55, x56, x57, x58, x59, x60, x61, x62, x63, x64, x65, x66, x67, x68, x69, x70, x71, x72, x73, x74, x75, x76, x77], defers := [] } wr := by
  subst hn
  have hal : s.all.length ≤ 64 := by have := s.allTo_le s.l.length; have := hs.len; unfold SS.all; omega
  conv => arg 2; whnf
  refine wp_region_psteps (askCtx p gx cx gu cu gt ct s) [false, false, false, false, false, false, false, false, false, false, false, false, false, false, false, false, false, false, false, false, false, false, false, false, false, false, false, false, false, false, false, false, false, false, false, false, false, false, false, false, false, false, false, false, false, false, false, false, false, false, false, false, false, true, true, true, true, true, true, true, true, true, true, true, true, true, true, true, true, true, true, true, true, true, true, true, true, false] (by kernel_rfl) _ (by kernel_rfl) (by kernel_rfl) (by kernel_rfl) (by kernel_rfl) [] (fun _ _ _ h1 h2 => h1.trans h2) (fun _ _ h => h) askG_stable (fun _ _ _ _ _ _ => trivial) (fun _ _ h => h.size) _ (Fr.refl _ _) trivial ?_ ?_
  · clear hQ
    refine ⟨?_, ?_, ?_, ?_, ?_, ?_, ?_, ?_, ?_, ?_, ?_, ?_, ?_, ?_, ?_, ?_, ?_, ?_, ?_, ?_, ?_, ?_, ?_, ?_, trivial⟩
    all_goals intro σ w' hR hd hH
    all_goals simp only [ask_loud, fill, Nat.reduceAdd, if_true, Bool.false_eq_true, if_false]
    · clear hd hH
      go_wp2
      exact ⟨Fr.refl _ _, rfl, Fr.refl _ _, fun h => (Bool.false_ne_true h).elim⟩
    · obtain e0 : σ 53 = _ := ask_at (hd 0 (by decide)) (by decide) rfl _ rfl
      rw [e0]
      clear e0 hd hH
      go_wp2
      exact ⟨Fr.refl _ _, rfl, Fr.refl _ _, fun h => (Bool.false_ne_true h).elim⟩
    · obtain e0 : σ 54 = _ := ask_at (hd 1 (by decide)) (by decide) rfl _ rfl
      rw [e0]
      clear e0 hd hH
      go_wp2
      exact ⟨Fr.refl _ _, rfl, Fr.refl _ _, fun h => (Bool.false_ne_true h).elim⟩
    · obtain e0 : σ 55 = _ := ask_at (hd 2 (by decide)) (by decide) rfl _ rfl
      rw [e0]
      clear e0 hd hH
      go_wp2
      exact ⟨Fr.refl _ _, rfl, Fr.refl _ _, fun h => (Bool.false_ne_true h).elim⟩
    · obtain e0 : σ 56 = _ := ask_at (hd 3 (by decide)) (by decide) rfl _ rfl
      rw [e0]
      obtain e1 : σ 55 = _ := ask_at (hd 2 (by decide)) (by decide) rfl _ rfl
      rw [e1]
      clear e0 e1 hd hH
      have hsw := (hs.fr (Fr.drew (Fr.refl [] wr)) (by simp) (by simp)).fr hR (by simp) (by simp)
      go_wp2_with fail
      refine (all_any hsw).mono ?_
      rintro e w2 ⟨va, rfl, ha, hf2⟩
      go_wp2_with fail
      exact ⟨hf2, own_base ha (Nat.zero_le _), hf2, fun h => (Bool.false_ne_true h).elim⟩
    · obtain e0 : σ 55 = _ := ask_at (hd 2 (by decide)) (by decide) rfl _ rfl
      rw [e0]
      clear e0 hd hH
      obtain ⟨b0, b1, b2, b3, -⟩ := (hbx.drew.fr hR (by simp)).cells4
      go_wp2
      exact ⟨Fr.refl _ _, rfl, Fr.refl _ _, fun h => (Bool.false_ne_true h).elim⟩
    · obtain e0 : σ 58 = _ := ask_at (hd 5 (by decide)) (by decide) rfl _ rfl
      rw [e0]
      obtain e1 : σ 55 = _ := ask_at (hd 2 (by decide)) (by decide) rfl _ rfl
      rw [e1]
      clear e0 e1 hd hH
      have htw := (ht.fr (Fr.drew (Fr.refl [] wr)) (by simp) (by simp) (by simp)).fr hR (by simp) (by simp) (by simp)
      go_wp2_with fail
      refine (rall_any htw).mono ?_
      rintro e w2 ⟨va, rfl, ha, hf2⟩
      go_wp2_with fail
      exact ⟨hf2, own_base ha (Nat.zero_le _), hf2, fun h => (Bool.false_ne_true h).elim⟩
    · have o1 : World.ownsRow w' 0 3 1 (σ 57) s.all.length (ints s.all) := ask_at (hd 4 (by decide)) (by decide) rfl _ rfl
      have o2 : World.ownsRow w' 0 3 1 (σ 59) s.all.length (ints s.all) := ask_at (hd 6 (by decide)) (by decide) rfl _ rfl
      obtain e0 : σ 55 = _ := ask_at (hd 2 (by decide)) (by decide) rfl _ rfl
      rw [e0]
      generalize σ 57 = va at *
      generalize σ 59 = vb at *
      clear e0 hd hH
      go_wp2_with fail
      refine (ints_same o1 o2 (by omega)).mono ?_
      rintro e w2 ⟨rfl, hf2⟩
      go_wp2_with fail
      exact ⟨hf2, rfl, hf2, fun h => (Bool.false_ne_true h).elim⟩
    · obtain e0 : σ 60 = _ := ask_at (hd 7 (by decide)) (by decide) rfl _ rfl
      rw [e0]
      obtain e1 : σ 55 = _ := ask_at (hd 2 (by decide)) (by decide) rfl _ rfl
      rw [e1]
      clear e0 e1 hd hH
      go_wp2
      exact ⟨Fr.refl _ _, rfl, Fr.refl _ _, fun h => (Bool.false_ne_true h).elim⟩
    · obtain e0 : σ 55 = _ := ask_at (hd 2 (by decide)) (by decide) rfl _ rfl
      rw [e0]
      obtain e1 : σ 61 = _ := ask_at (hd 8 (by decide)) (by decide) rfl _ rfl
      rw [e1]
      clear e0 e1 hd hH
      go_wp2
      exact ⟨Fr.refl _ _, rfl, Fr.refl _ _, fun h => (Bool.false_ne_true h).elim⟩
    · obtain e0 : σ 62 = _ := ask_at (hd 9 (by decide)) (by decide) rfl _ rfl
      rw [e0]
      clear e0 hd hH
      go_wp2
      exact ⟨Fr.refl _ _, rfl, Fr.refl _ _, fun h => (Bool.false_ne_true h).elim⟩
    · obtain e0 : σ 63 = _ := ask_at (hd 10 (by decide)) (by decide) rfl _ rfl
      rw [e0]
      clear e0 hd hH
      go_wp2
      exact ⟨Fr.refl _ _, rfl, Fr.refl _ _, fun h => (Bool.false_ne_true h).elim⟩
    · obtain e0 : σ 64 = _ := ask_at (hd 11 (by decide)) (by decide) rfl _ rfl
      rw [e0]
      obtain e1 : σ 63 = _ := ask_at (hd 10 (by decide)) (by decide) rfl _ rfl
      rw [e1]
      clear e0 e1 hd hH
      have hsw := (hs.fr (Fr.drew (Fr.refl [] wr)) (by simp) (by simp)).fr hR (by simp) (by simp)
      go_wp2_with fail
      refine (len_any hsw).mono ?_
      rintro e w2 ⟨rfl, hf2⟩
      go_wp2_with fail
      exact ⟨hf2, rfl, hf2, fun h => (Bool.false_ne_true h).elim⟩
    · obtain e0 : σ 63 = _ := ask_at (hd 10 (by decide)) (by decide) rfl _ rfl
      rw [e0]
      clear e0 hd hH
      obtain ⟨b0, b1, b2, b3, -⟩ := (hbx.drew.fr hR (by simp)).cells4
      go_wp2
      exact ⟨Fr.refl _ _, rfl, Fr.refl _ _, fun h => (Bool.false_ne_true h).elim⟩
    · obtain e0 : σ 66 = _ := ask_at (hd 13 (by decide)) (by decide) rfl _ rfl
      rw [e0]
      obtain e1 : σ 63 = _ := ask_at (hd 10 (by decide)) (by decide) rfl _ rfl
      rw [e1]
      clear e0 e1 hd hH
      have htw := (ht.fr (Fr.drew (Fr.refl [] wr)) (by simp) (by simp) (by simp)).fr hR (by simp) (by simp) (by simp)
      go_wp2_with fail
      refine (rall_any htw).mono ?_
      rintro e w2 ⟨va, rfl, ha, hf2⟩
      go_wp2_with fail
      exact ⟨hf2, own_base ha (Nat.zero_le _), hf2, fun h => (Bool.false_ne_true h).elim⟩
    · have o1 : World.ownsRow w' 0 3 1 (σ 67) s.all.length (ints s.all) := ask_at (hd 14 (by decide)) (by decide) rfl _ rfl
      obtain e0 : σ 63 = _ := ask_at (hd 10 (by decide)) (by decide) rfl _ rfl
      rw [e0]
      obtain ⟨ao, ca, e9⟩ : ∃ ao ca, σ 67 = .slice ao s.all.length ca := by
        rcases o1.2 with ⟨h', h''⟩ | ⟨g, ca, cur, h', -⟩
        · exact ⟨none, 0, by rw [h', h'']⟩
        · exact ⟨_, ca, h'⟩
      rw [e9]
      clear e0 e9 o1 hd hH
      go_wp2
      exact ⟨Fr.refl _ _, rfl, Fr.refl _ _, fun h => (Bool.false_ne_true h).elim⟩
    · obtain e0 : σ 65 = _ := ask_at (hd 12 (by decide)) (by decide) rfl _ rfl
      rw [e0]
      obtain e1 : σ 68 = _ := ask_at (hd 15 (by decide)) (by decide) rfl _ rfl
      rw [e1]
      obtain e2 : σ 63 = _ := ask_at (hd 10 (by decide)) (by decide) rfl _ rfl
      rw [e2]
      clear e0 e1 e2 hd hH
      go_wp2
      exact ⟨Fr.refl _ _, rfl, Fr.refl _ _, fun h => (Bool.false_ne_true h).elim⟩
    · obtain e0 : σ 63 = _ := ask_at (hd 10 (by decide)) (by decide) rfl _ rfl
      rw [e0]
      obtain e1 : σ 69 = _ := ask_at (hd 16 (by decide)) (by decide) rfl _ rfl
      rw [e1]
      clear e0 e1 hd hH
      go_wp2
      exact ⟨Fr.refl _ _, rfl, Fr.refl _ _, fun h => (Bool.false_ne_true h).elim⟩
    · obtain e0 : σ 70 = _ := ask_at (hd 17 (by decide)) (by decide) rfl _ rfl
      rw [e0]
      clear e0 hd hH
      go_wp2
      exact ⟨Fr.refl _ _, rfl, Fr.refl _ _, fun h => (Bool.false_ne_true h).elim⟩
    · obtain e0 : σ 71 = _ := ask_at (hd 18 (by decide)) (by decide) rfl _ rfl
      rw [e0]
      clear e0 hd hH
      go_wp2
      exact ⟨Fr.refl _ _, rfl, Fr.refl _ _, fun h => (Bool.false_ne_true h).elim⟩
    · obtain e0 : σ 72 = _ := ask_at (hd 19 (by decide)) (by decide) rfl _ rfl
      rw [e0]
      obtain e1 : σ 71 = _ := ask_at (hd 18 (by decide)) (by decide) rfl _ rfl
      rw [e1]
      clear e0 e1 hd hH
      have hsw := (hs.fr (Fr.drew (Fr.refl [] wr)) (by simp) (by simp)).fr hR (by simp) (by simp)
      go_wp2_with fail
      refine (cap_any hsw).mono ?_
      rintro e w2 ⟨rfl, rfl⟩
      go_wp2_with fail
      exact ⟨Fr.refl _ _, rfl, Fr.refl _ _, fun h => (Bool.false_ne_true h).elim⟩
    · obtain e0 : σ 71 = _ := ask_at (hd 18 (by decide)) (by decide) rfl _ rfl
      rw [e0]
      clear e0 hd hH
      go_wp2
      exact ⟨Fr.refl _ _, rfl, Fr.refl _ _, fun h => (Bool.false_ne_true h).elim⟩
    · obtain e0 : σ 73 = _ := ask_at (hd 20 (by decide)) (by decide) rfl _ rfl
      rw [e0]
      obtain e1 : σ 74 = _ := ask_at (hd 21 (by decide)) (by decide) rfl _ rfl
      rw [e1]
      obtain e2 : σ 71 = _ := ask_at (hd 18 (by decide)) (by decide) rfl _ rfl
      rw [e2]
      clear e0 e1 e2 hd hH
      go_wp2
      exact ⟨Fr.refl _ _, rfl, Fr.refl _ _, fun h => (Bool.false_ne_true h).elim⟩
    · obtain e0 : σ 71 = _ := ask_at (hd 18 (by decide)) (by decide) rfl _ rfl
      rw [e0]
      obtain e1 : σ 75 = _ := ask_at (hd 22 (by decide)) (by decide) rfl _ rfl
      rw [e1]
      clear e0 e1 hd hH
      go_wp2
      exact ⟨Fr.refl _ _, rfl, Fr.refl _ _, fun h => (Bool.false_ne_true h).elim⟩
  · intro σ w' hR hf hH hne
    exact hQ σ w' ((Fr.drew (Fr.refl _ _)).trans hR) (ask_at (hf 23 (by decide)) (by decide) rfl _ rfl)
end Go.Proofs.Ytenilmcndapaeaa
