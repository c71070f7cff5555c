import Derived.Test.YtogjfcmclfehkaaKW
import Derived.Deep.Cut
namespace Go.Proofs.Ytogjfcmclfehkaa
open Go Go.RowKit Go.Proofs.MapL

theorem elM : Elem Try.prog 93 96 (.map none) 1 8 := ⟨by kernel_rfl, by kernel_rfl, rfl, by omega⟩
def mps (bs : List Nat) : List Value := bs.map fun b => .map (some b)
/-- A wheel under way. -/
structure NewAt (N : Nat) (w : World) (p b : Nat) (bs : List Nat) (v : Value) : Prop where
  own : w.ownsRow N 96 1 v bs.length (mps bs)
  blk : Blk w p 95 [v, .int .u64 0, .map (some b)]
  wh : mapIs eI vI Try.prog 3 w b []
  sp : ∀ i (h : i < bs.length), mapIs eI vU Try.prog 3 w bs[i] []
  nb : b ∉ bs
  nd : bs.Nodup
  ge : ∀ k ∈ bs, N ≤ k
  lt : ∀ k ∈ bs, k < w.heap.size
def NewR (N : Nat) (w : World) (size : Nat) (r : Ending) (w' : World) : Prop := ∃ p g b c bs, r = .returned (.pointer (some ⟨p, 0, none⟩)) ∧ WhAt w' p g b c bs 0 [] ∧ bs.length = size ∧ Fr [] w w' ∧ (∀ k ∈ p :: g :: b :: bs, N ≤ k)
theorem NewAt.done {N : Nat} {w : World} {p b : Nat} {bs : List Nat} {v : Value} (h : NewAt N w p b bs v) (hn : 1 ≤ bs.length ∧ bs.length ≤ 256) (hp : N ≤ p) (hb : N ≤ b) : ∃ g c, WhAt w p g b c bs 0 [] ∧ ∀ k ∈ p :: g :: b :: bs, N ≤ k := by
  obtain ⟨g, c, rfl, hg, hgl⟩ := own_form h.own hn.1
  refine ⟨g, c, ⟨h.blk, fun i hi => ?_, h.wh, h.sp, h.nb, h.nd, hn, ⟨by omega, by omega⟩, List.Pairwise.nil, by simp⟩, ?_⟩
  · exact own_cell h.own (by unfold mps; rw [List.getElem?_map, List.getElem?_eq_getElem hi]; rfl)
  · intro k hk
    simp only [List.mem_cons] at hk
    rcases hk with rfl | rfl | rfl | hk
    · exact hp
    · exact hg
    · exact hb
    · exact h.ge k hk
theorem NewAt.step {N : Nat} {w wr w7 : World} {p b g c : Nat} {bs : List Nat} {v : Value} (h : NewAt N wr p b bs v) (hpN : N ≤ p) (hF : Fr [] w wr) (hwN : w.heap.size = N)
    (ho7 : w7.ownsRow N 96 1 (.slice (some ⟨g, 0, none⟩) (bs.length + 1) c) (bs.length + 1) (mps bs ++ [.map (some wr.heap.size)])) (hf7 : Fr v.ownBlock.toList (wr.alloc (.map #[] 0)) w7)
    (hor : v.ownBlock = some g ∨ (wr.alloc (.map #[] 0)).heap.size ≤ g) :
    Blk w7 p 95 [v, .int .u64 0, .map (some b)] ∧ NewAt N (w7.setCell ⟨p, 0, none⟩ (.slice (some ⟨g, 0, none⟩) (bs.length + 1) c)) p b (bs ++ [wr.heap.size]) (.slice (some ⟨g, 0, none⟩) (bs.length + 1) c) ∧ Fr [] w (w7.setCell ⟨p, 0, none⟩ (.slice (some ⟨g, 0, none⟩) (bs.length + 1) c)) := by
  have hpl := h.blk.lt
  have hp0 : ∀ k, v.ownBlock = some k → k ≠ p := own_ne h.own h.blk (by decide)
  have hb0 := own_map_ne h.wh h.own
  have hs0 := fun i (hi : i < bs.length) => own_map_ne (h.sp i hi) h.own
  have hlt0 := h.own.lt
  have hbl := h.wh.lt
  have hf1 : Fr v.ownBlock.toList wr w7 := ((Fr.refl _ wr).alloc (.map #[] 0)).trans hf7
  have hm : ∀ {x : Nat}, x ∈ v.ownBlock.toList ↔ v.ownBlock = some x := fun {x} => by simp [Option.mem_toList]
  have hpo : p ∉ v.ownBlock.toList := fun hx => hp0 p (hm.1 hx) rfl
  have hbo : b ∉ v.ownBlock.toList := fun hx => hb0 b (hm.1 hx) rfl
  have hB7 := h.blk.fr hf1 hpo
  have hbp : b ≠ p := map_ne h.wh h.blk
  have f8 : Fr [p] w7 (w7.setCell ⟨p, 0, none⟩ (.slice (some ⟨g, 0, none⟩) (bs.length + 1) c)) := fr_set
  have hgp : g ≠ p := by
    rcases hor with h1 | h1
    · exact hp0 g h1
    · rw [World.size_alloc] at h1; omega
  have hw7 : Fr [] w w7 := hF.weak hf1 (fun x hx => .inr (by rw [hwN]; exact (hlt0 x (hm.1 hx)).1))
  have hwl := hf1.size
  have hnp : wr.heap.size ≠ p := by omega
  have hlen : (bs ++ [wr.heap.size]).length = bs.length + 1 := by simp
  refine ⟨hB7, ⟨?_, by simpa using hB7.set 0 _, ?_, ?_, ?_, ?_, ?_, ?_⟩, hw7.weak f8 (fun x hx => .inr (by obtain rfl := List.mem_singleton.1 hx; omega))⟩
  · rw [hlen, show mps (bs ++ [wr.heap.size]) = mps bs ++ [.map (some wr.heap.size)] by simp [mps]]
    exact own_fr ho7 f8 (fun k hk => by simp [Value.ownBlock] at hk; subst hk; simpa using hgp)
  · exact map_fr (map_fr h.wh hf1 hbo) f8 (by simpa using hbp)
  · intro i hi
    rw [List.getElem_append]
    split
    next hlt =>
      exact map_fr (map_fr (h.sp i hlt) hf1 (fun hx => hs0 i hlt _ (hm.1 hx) rfl)) f8 (by simpa using map_ne (h.sp i hlt) h.blk)
    next hge =>
      simp only [List.getElem_singleton]
      refine map_fr (map_fr (mapIs_made eI vU Try.prog 3 wr) hf7 (fun hx => ?_)) f8 (by simpa using hnp)
      have := (hlt0 _ (hm.1 hx)).2; omega
  · intro hx
    rcases List.mem_append.1 hx with hx | hx
    · exact h.nb hx
    · have := List.mem_singleton.1 hx; omega
  · rw [List.nodup_append]
    refine ⟨h.nd, List.pairwise_singleton _ _, fun a ha y hy => ?_⟩
    have := h.lt a ha
    have := List.mem_singleton.1 hy
    omega
  · intro k hk
    rcases List.mem_append.1 hk with hk | hk
    · exact h.ge k hk
    · have := List.mem_singleton.1 hk; have := hF.size; omega
  · intro k hk
    have e := f8.size
    have e2 := hf7.size
    rw [World.size_alloc] at e2
    rcases List.mem_append.1 hk with hk | hk
    · have := h.lt k hk; omega
    · have := List.mem_singleton.1 hk; omega
set_option maxRecDepth 100000 in
set_option maxHeartbeats 2000000 in
theorem new_calls (size : Nat) (h1 : 1 ≤ size) (h2 : size ≤ 256) (w : World) : Calls Try.prog 27 #[.int .i64 size] w (NewR w.heap.size w size) := by
  have hmm := @run_makeMap Try.prog
  have hm := mapIs_made eI vI Try.prog 3 w
  go_enter Try.func27, Try.ntmps27
  go_upto_region 4 with (fail)
  refine wp_name ?_
  intro w1 hw1
  have hF : Fr [] w w1 := by rw [hw1]; exact ((Fr.refl [] w).alloc _).alloc _
  have hB : Blk w1 (w.heap.size + 1) 95 [.slice none 0 0, .int .u64 0, .map (some w.heap.size)] := by
    rw [hw1]
    have h0 := Blk.new (w.alloc (.map #[] 0)) 95 [.slice none 0 0, .int .u64 0, .map (some w.heap.size)]
    simp only [World.size_alloc] at h0
    exact h0
  have hM : mapIs eI vI Try.prog 3 w1 w.heap.size [] := by rw [hw1]; exact map_fr hm ((Fr.refl [] _).alloc _) (by simp)
  have hN : NewAt w.heap.size w1 (w.heap.size + 1) w.heap.size [] (.slice none 0 0) := ⟨World.ownsRow_nil _ _ _ _, hB, hM, by simp, by simp, List.nodup_nil, by simp, by simp⟩
  clear hw1 hB hM hm
  obtain ⟨N, hNe⟩ : ∃ N, w.heap.size = N := ⟨_, rfl⟩
  rw [hNe] at hN ⊢
  go_wp2_with fail
  go_loopw [14] (fun i wr => ∃ (j : Nat) (bs : List Nat) (v : Value), j ≤ size ∧ bs.length = j ∧ i = .int .i64 j ∧ NewAt N wr (N + 1) N bs v ∧ Fr [] w wr) (fun i _ => size - (intOf i).toNat)
  case atStart => exact ⟨0, [], _, Nat.zero_le _, rfl, rfl, hN, hF⟩
  case round =>
    obtain ⟨j, bs, v, hj, rfl, rfl, hA, hFr⟩ := hrel
    by_cases hlt : bs.length < size
    · obtain ⟨A, c0, rfl⟩ : ∃ A c, v = .slice A bs.length c := by
        rcases hA.own.2 with ⟨e, e0⟩ | ⟨g, cap, cur, e, -⟩
        · exact ⟨none, 0, by rw [e, e0]⟩
        · exact ⟨_, _, e⟩
      obtain ⟨d0, d1, d2, df⟩ := hA.blk.cells3
      have hf1 : Fr [] wr (wr.alloc (.map #[] 0)) := (Fr.refl [] _).alloc _
      have hsz := hFr.size
      have hown := own_fr hA.own hf1 (by simp)
      have hnew := mapIs_made eI vU Try.prog 3 wr
      have hp0 := own_ne hA.own hA.blk (by decide)
      have HA := Hd.mk hA
      have HF := Hd.mk hFr
      have HNW := Hd.mk hnew
      have HF1 := Hd.mk hf1
      clear hA hFr hnew hf1
      go_wp2_with (at_builtin; refine wpList_app1s elM rfl (.tmp 20) (.tmp 22) rfl hown rfl [.map (some wr.heap.size)] (by rw [World.size_alloc]; rfl) rfl (by simp [Value.oneCell']) (by omega) (by omega) (by rw [World.size_alloc]; omega) ?_; intro g c w7 ho7 hf7 hb7 hg7 hor7; have HST := Hd.mk (HA.out.step (by omega) HF.out hNe ho7 hf7 hor7); obtain ⟨e0, e1, e2, ef⟩ := HST.out.1.cells3; clear ho7 hf7 hb7 hg7 hor7 d0 d1 d2 df hown)
      go_roundw
      case rel => exact ⟨bs.length + 1, bs ++ [wr.heap.size], _, by omega, by simp, by go_num, HST.out.2.1, HST.out.2.2⟩
      case measure => simp [intOf]; omega
    · obtain ⟨g, c, hW, hge⟩ := hA.done (by omega) (by omega) (by omega)
      have HW := Hd.mk hW
      have HGE := Hd.mk hge
      have HFF := Hd.mk hFr
      clear hW hge hFr hA
      go_wp2
      go_ret
      exact ⟨N + 1, g, N, c, bs, rfl, HW.out, by omega, HFF.out, fun k hk => by rw [hNe]; exact HGE.out k hk⟩
end Go.Proofs.Ytogjfcmclfehkaa
