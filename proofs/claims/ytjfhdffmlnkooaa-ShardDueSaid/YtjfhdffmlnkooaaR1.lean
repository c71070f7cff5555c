import Derived.Test.YtjfhdffmlnkooaaSC
import Derived.Test.YtjfhdffmlnkooaaKA
import Derived.Deep.Cut
namespace Go.Proofs.Ytjfhdffmlnkooaa
open Go Go.RowKit Go.Proofs.MapL

theorem elE : Elem Try.prog 48 29 (.agg #[.string ⟨#[]⟩, .int .u16 0, .int .u16 0, .slice none 0 0, .int .i64 0, .int .i64 0, .int .u64 0]) 7 72 := ⟨by kernel_rfl, by kernel_rfl, rfl, by omega⟩
theorem elB : Elem Try.prog 49 4 (.bool false) 1 1 := ⟨by kernel_rfl, by kernel_rfl, rfl, by omega⟩
theorem own_stores {base E size n g c : Nat} : ∀ (vs : List Value) (off : Nat) {w : World} {xs : List Value}, w.ownsRow base E size (.slice (some ⟨g, 0, none⟩) n c) n xs → (stores w g off vs).ownsRow base E size (.slice (some ⟨g, 0, none⟩) n c) n (setMany xs off vs) := by
  intro vs
  induction vs with
  | nil => intro off w xs h; exact h
  | cons v vs ih => intro off w xs h; exact ih (off + 1) (own_set h off v)
def encs (l : List Sl) : List Value := (l.map (·.x)).flatMap En.c
theorem encs_len (l : List Sl) : (encs l).length = l.length * 7 := by unfold encs; rw [flat_len (k := 7) (fun _ => rfl), List.length_map]
def xsOf (s : SS) : List Value := (s.l.map (·.x)).flatMap En.c
def usOf (s : SS) : List Value := s.l.map fun a => .bool a.used
def tsOf (s : SS) : List Value := s.l.map fun a => .bool a.touched
theorem xs_one (s : SS) : ∀ u ∈ xsOf s, u.oneCell' = true := by
  intro u hu
  simp only [xsOf, List.mem_flatMap] at hu
  obtain ⟨e, -, hu⟩ := hu
  simp only [En.c, List.mem_cons, List.not_mem_nil, or_false] at hu
  rcases hu with rfl | rfl | rfl | rfl | rfl | rfl | rfl <;> rfl
theorem us_one (s : SS) : ∀ u ∈ usOf s, u.oneCell' = true := by intro u hu; simp only [usOf, List.mem_map] at hu; obtain ⟨a, -, rfl⟩ := hu; rfl
theorem ts_one (s : SS) : ∀ u ∈ tsOf s, u.oneCell' = true := by intro u hu; simp only [tsOf, List.mem_map] at hu; obtain ⟨a, -, rfl⟩ := hu; rfl
/-- The document's shard, as the program holds it: three lists and a hand. -/
structure RefAt (w : World) (gx cx gu cu gt ct : Nat) (s : SS) : Prop where
  x : w.ownsRow 0 29 7 (.slice (some ⟨gx, 0, none⟩) s.l.length cx) s.l.length (xsOf s)
  u : w.ownsRow 0 4 1 (.slice (some ⟨gu, 0, none⟩) s.l.length cu) s.l.length (usOf s)
  t : w.ownsRow 0 4 1 (.slice (some ⟨gt, 0, none⟩) s.l.length ct) s.l.length (tsOf s)
  hand : s.hand < s.l.length
  len : s.l.length ≤ 64
def refV (gx cx gu cu gt ct : Nat) (n h : Nat) : Value := .agg #[.slice (some ⟨gx, 0, none⟩) n cx, .slice (some ⟨gu, 0, none⟩) n cu, .slice (some ⟨gt, 0, none⟩) n ct, .int .i64 h]
def withMask : List Bool := [false, false, false, false, false, false, false, false, false, false, false, true, true, true, true, true, true, true, true, true, true, true, true, true, true, true, true, false, false, false, false, false, false, false, false, false, false, false, false, false, false, false, false]
def withSup : Nat → List Nat
  | 0 => [12] | 1 => [13] | 2 => [14] | 3 => [15] | 4 => [16] | 5 => [17] | 6 => [18] | 7 => [19] | 8 => [20] | 9 => [21] | 10 => [22] | 11 => [23] | 12 => [24] | 13 => [25]
  | 14 => [26, 15, 19, 23, 25] | 15 => [11] | _ => []
def withNw (i : Nat) : Bool := i == 3 || i == 7 || i == 11 || i == 15
def withG (W b gx cx gu cu gt ct : Nat) (s : SS) : Nat → List Value → World → Prop
  | 0, [v], _ => ∃ g, v = .slice (some ⟨g, 0, none⟩) 0 0
  | 1, [v], _ => v = .pointer (some ⟨b, 0, none⟩)
  | 2, [v], _ => v = .slice (some ⟨gx, 0, none⟩) s.l.length cx
  | 3, [v], w => ∃ g c, v = .slice (some ⟨g, 0, none⟩) s.l.length c ∧ W ≤ g ∧ w.ownsRow 0 29 7 (.slice (some ⟨g, 0, none⟩) s.l.length c) s.l.length (xsOf s)
  | 4, [v], _ => ∃ g, v = .slice (some ⟨g, 0, none⟩) 0 0
  | 5, [v], _ => v = .pointer (some ⟨b, 1, none⟩)
  | 6, [v], _ => v = .slice (some ⟨gu, 0, none⟩) s.l.length cu
  | 7, [v], w => ∃ g c, v = .slice (some ⟨g, 0, none⟩) s.l.length c ∧ W ≤ g ∧ w.ownsRow 0 4 1 (.slice (some ⟨g, 0, none⟩) s.l.length c) s.l.length (usOf s)
  | 8, [v], _ => ∃ g, v = .slice (some ⟨g, 0, none⟩) 0 0
  | 9, [v], _ => v = .pointer (some ⟨b, 2, none⟩)
  | 10, [v], _ => v = .slice (some ⟨gt, 0, none⟩) s.l.length ct
  | 11, [v], w => ∃ g c, v = .slice (some ⟨g, 0, none⟩) s.l.length c ∧ W ≤ g ∧ w.ownsRow 0 4 1 (.slice (some ⟨g, 0, none⟩) s.l.length c) s.l.length (tsOf s)
  | 12, [v], _ => v = .pointer (some ⟨b, 3, none⟩)
  | 13, [v], _ => v = .int .i64 s.hand
  | 14, [v, a, b, c, d], _ => v = .agg #[a, b, c, d]
  | 15, [v], w => ∃ q, v = .pointer (some ⟨q, 0, none⟩) ∧ W ≤ q ∧ Blk w q 51 [.slice none 0 0, .slice none 0 0, .slice none 0 0, .int .i64 0]
  | _, _, _ => False


set_option maxRecDepth 100000 in
set_option maxHeartbeats 8000000 in
theorem with_new {w : World} {gx cx gu cu gt ct : Nat} {s : SS} (h : RefAt w gx cx gu cu gt ct s) (k : Nat) (hk : k < s.l.length) (e : En) (us ts : Bool) :
    Calls Try.prog 54 #[refV gx cx gu cu gt ct s.l.length s.hand, .int .i64 k, e.v, .bool us, .bool ts] w fun r w' => ∃ gx cx gu cu gt ct,
      r = .returned (refV gx cx gu cu gt ct s.l.length s.hand) ∧ RefAt w' gx cx gu cu gt ct (s.at k ⟨e, us, ts⟩) ∧ Fr [] w w' ∧ (w.heap.size ≤ gx ∧ w.heap.size ≤ gu ∧ w.heap.size ≤ gt) := by
  have H := Hd.mk h
  clear h
  unfold refV En.v
  go_enter Try.func54, Try.ntmps54
  go_upto_region 1 with (fail)
  refine wp_name ?_; intro w0 hw0
  have hf0 : Fr [] w w0 := by rw [hw0]; exact (((Fr.refl [] w).alloc _).alloc _).alloc _
  have hbs : Blk w0 w.heap.size 51 [.slice (some ⟨gx, 0, none⟩) s.l.length cx, .slice (some ⟨gu, 0, none⟩) s.l.length cu, .slice (some ⟨gt, 0, none⟩) s.l.length ct, .int .i64 s.hand] := by rw [hw0]; exact ((Blk.new _ _ _).alloc _).alloc _
  have hbe : Blk w0 (w.heap.size + 1) 29 [.string e.q.name, .int .u16 e.q.ty, .int .u16 e.q.cl, .slice e.ra e.rn e.rc, .int .i64 e.rcode, .int .i64 e.rank, .int .u64 e.expire] := by
    rw [hw0]
    have h0 := (Blk.new (w.alloc (.cells #[.slice (some ⟨gx, 0, none⟩) s.l.length cx, .slice (some ⟨gu, 0, none⟩) s.l.length cu, .slice (some ⟨gt, 0, none⟩) s.l.length ct, .int .i64 s.hand] 51)) 29 [.string e.q.name, .int .u16 e.q.ty, .int .u16 e.q.cl, .slice e.ra e.rn e.rc, .int .i64 e.rcode, .int .i64 e.rank, .int .u64 e.expire]).alloc (.cells #[.slice none 0 0, .slice none 0 0, .slice none 0 0, .int .i64 0] 51)
    simp only [World.size_alloc] at h0
    exact h0
  have hrs : Blk w0 (w.heap.size + 1 + 1) 51 [.slice none 0 0, .slice none 0 0, .slice none 0 0, .int .i64 0] := by
    rw [hw0]
    have h0 := Blk.new ((w.alloc (.cells #[.slice (some ⟨gx, 0, none⟩) s.l.length cx, .slice (some ⟨gu, 0, none⟩) s.l.length cu, .slice (some ⟨gt, 0, none⟩) s.l.length ct, .int .i64 s.hand] 51)).alloc (.cells #[.string e.q.name, .int .u16 e.q.ty, .int .u16 e.q.cl, .slice e.ra e.rn e.rc, .int .i64 e.rcode, .int .i64 e.rank, .int .u64 e.expire] 29)) 51 [.slice none 0 0, .slice none 0 0, .slice none 0 0, .int .i64 0]
    simp only [World.size_alloc] at h0
    exact h0
  clear hw0
  obtain ⟨sb, hsb⟩ : ∃ sb, w.heap.size = sb := ⟨_, rfl⟩
  obtain ⟨eb, heb⟩ : ∃ eb, sb + 1 = eb := ⟨_, rfl⟩
  obtain ⟨rb, hrb⟩ : ∃ rb, eb + 1 = rb := ⟨_, rfl⟩
  rw [hsb] at hbs hbe hrs
  rw [heb] at hbe hrs
  rw [hrb] at hrs
  have HWR : Hd (w.heap.size ≤ rb) := Hd.mk (by omega)
  have HRLT : Hd (rb < w0.heap.size ∧ eb < w0.heap.size) := Hd.mk ⟨hrs.lt, hbe.lt⟩
  have HRB := Hd.mk hsb
  have HEB := Hd.mk heb
  have HF0 := Hd.mk hf0
  have HBS := Hd.mk hbs
  have HBE := Hd.mk hbe
  have HRS := Hd.mk hrs
  simp only [hsb, heb, hrb]
  clear hf0 hbs hbe hrs hsb heb hrb
  refine wp_region_steps 16 withSup withMask (by kernel_rfl) _ (by kernel_rfl) (by kernel_rfl) (by kernel_rfl) withNw (by kernel_rfl) (by kernel_rfl) (Fr []) (withG w0.heap.size sb gx cx gu cu gt ct s) [] (fun _ _ _ h1 h2 => h1.trans h2) ?_ (fun _ _ h => h.size) _ (Fr.refl _ _) ?_ ?_
  · intro i l w w' hi hR hg
    match i, l, hg with
    | 0, [v], hg => exact hg
    | 1, [v], hg => exact hg
    | 2, [v], hg => exact hg
    | 3, [v], ⟨g, c, h1, h2, h3⟩ => exact ⟨g, c, h1, h2, own_fr h3 hR (by simp)⟩
    | 4, [v], hg => exact hg
    | 5, [v], hg => exact hg
    | 6, [v], hg => exact hg
    | 7, [v], ⟨g, c, h1, h2, h3⟩ => exact ⟨g, c, h1, h2, own_fr h3 hR (by simp)⟩
    | 8, [v], hg => exact hg
    | 9, [v], hg => exact hg
    | 10, [v], hg => exact hg
    | 11, [v], ⟨g, c, h1, h2, h3⟩ => exact ⟨g, c, h1, h2, own_fr h3 hR (by simp)⟩
    | 12, [v], hg => exact hg
    | 13, [v], hg => exact hg
    | 14, [v, a, b, c, d], hg => exact hg
    | 15, [v], ⟨q, h1, h2, h3⟩ => exact ⟨q, h1, h2, h3.fr hR (by simp)⟩
  · refine ⟨?_, ?_, ?_, ?_, ?_, ?_, ?_, ?_, ?_, ?_, ?_, ?_, ?_, ?_, ?_, ?_, trivial⟩
    all_goals intro σ w' hR hd
    all_goals simp only [withMask, fill, Nat.reduceAdd, if_true, Bool.false_eq_true, if_false]
    all_goals have hb := HBS.out.drew.fr hR (by simp)
    all_goals have hsz := hR.size
    all_goals have hf0 := HF0.out.drew.trans hR
    all_goals have hl64 := H.out.len
    all_goals have hhand := H.out.hand
    all_goals simp only [World.size_drew] at hsz
    · go_wp2
      exact ⟨(Fr.refl _ _).alloc _, ⟨_, rfl⟩, fun h => absurd h (by decide)⟩
    · go_wp2
      exact ⟨Fr.refl _ _, rfl, fun h => absurd h (by decide)⟩
    · have c := hb.cell (i := 0) rfl
      obtain h1 : σ 13 = _ := hd 1 (by decide) (by decide)
      rw [h1]
      go_wp2
      exact ⟨Fr.refl _ _, rfl, fun h => absurd h (by decide)⟩
    · obtain ⟨g, h1⟩ := hd 0 (by decide) (by decide)
      obtain h2 : σ 14 = _ := hd 2 (by decide) (by decide)
      have h1 : σ 12 = .slice (some ⟨g, 0, none⟩) 0 0 := h1
      rw [h1, h2]
      refine wpList_appcopy elE rfl (.tmp 12) (.tmp 14) rfl rfl (own_fr H.out.x hf0 (by simp)) rfl (xs_one s) (by omega) (by omega) (by omega) ?_
      intro g' c' w2 hown hfr h3 h4
      exact ⟨rfl, rfl, hfr, ⟨g', c', rfl, by omega, own_base hown (Nat.zero_le _)⟩, fun _ => ⟨g', rfl, h3, h4⟩⟩
    · go_wp2
      exact ⟨(Fr.refl _ _).alloc _, ⟨_, rfl⟩, fun h => absurd h (by decide)⟩
    · go_wp2
      exact ⟨Fr.refl _ _, rfl, fun h => absurd h (by decide)⟩
    · have c := hb.cell (i := 1) rfl
      obtain h1 : σ 17 = _ := hd 5 (by decide) (by decide)
      rw [h1]
      go_wp2
      exact ⟨Fr.refl _ _, rfl, fun h => absurd h (by decide)⟩
    · obtain ⟨g, h1⟩ := hd 4 (by decide) (by decide)
      obtain h2 : σ 18 = _ := hd 6 (by decide) (by decide)
      have h1 : σ 16 = .slice (some ⟨g, 0, none⟩) 0 0 := h1
      rw [h1, h2]
      refine wpList_appcopy elB rfl (.tmp 16) (.tmp 18) rfl rfl (own_fr H.out.u hf0 (by simp)) rfl (us_one s) (by omega) (by omega) (by omega) ?_
      intro g' c' w2 hown hfr h3 h4
      exact ⟨rfl, rfl, hfr, ⟨g', c', rfl, by omega, own_base hown (Nat.zero_le _)⟩, fun _ => ⟨g', rfl, h3, h4⟩⟩
    · go_wp2
      exact ⟨(Fr.refl _ _).alloc _, ⟨_, rfl⟩, fun h => absurd h (by decide)⟩
    · go_wp2
      exact ⟨Fr.refl _ _, rfl, fun h => absurd h (by decide)⟩
    · have c := hb.cell (i := 2) rfl
      obtain h1 : σ 21 = _ := hd 9 (by decide) (by decide)
      rw [h1]
      go_wp2
      exact ⟨Fr.refl _ _, rfl, fun h => absurd h (by decide)⟩
    · obtain ⟨g, h1⟩ := hd 8 (by decide) (by decide)
      obtain h2 : σ 22 = _ := hd 10 (by decide) (by decide)
      have h1 : σ 20 = .slice (some ⟨g, 0, none⟩) 0 0 := h1
      rw [h1, h2]
      refine wpList_appcopy elB rfl (.tmp 20) (.tmp 22) rfl rfl (own_fr H.out.t hf0 (by simp)) rfl (ts_one s) (by omega) (by omega) (by omega) ?_
      intro g' c' w2 hown hfr h3 h4
      exact ⟨rfl, rfl, hfr, ⟨g', c', rfl, by omega, own_base hown (Nat.zero_le _)⟩, fun _ => ⟨g', rfl, h3, h4⟩⟩
    · go_wp2
      exact ⟨Fr.refl _ _, rfl, fun h => absurd h (by decide)⟩
    · have c := hb.cell (i := 3) rfl
      obtain h1 : σ 24 = _ := hd 12 (by decide) (by decide)
      rw [h1]
      go_wp2
      exact ⟨Fr.refl _ _, rfl, fun h => absurd h (by decide)⟩
    · obtain ⟨g0, c0, e0, -, -⟩ : ∃ g c, σ 15 = .slice (some ⟨g, 0, none⟩) s.l.length c ∧ _ := hd 3 (by decide) (by decide)
      obtain ⟨g1, c1, e1, -, -⟩ : ∃ g c, σ 19 = .slice (some ⟨g, 0, none⟩) s.l.length c ∧ _ := hd 7 (by decide) (by decide)
      obtain ⟨g2, c2, e2, -, -⟩ : ∃ g c, σ 23 = .slice (some ⟨g, 0, none⟩) s.l.length c ∧ _ := hd 11 (by decide) (by decide)
      obtain e3 : σ 25 = _ := hd 13 (by decide) (by decide)
      rw [e0, e1, e2, e3]
      go_wp2
      exact ⟨Fr.refl _ _, rfl, fun h => absurd h (by decide)⟩
    · go_wp2
      exact ⟨(Fr.refl _ _).alloc _, ⟨_, rfl, by omega, Blk.new _ _ _⟩, fun _ => ⟨_, rfl, Nat.le_refl _, by simp⟩⟩
  · intro σ w' hR hf hne
    simp only [withMask, fill, Nat.reduceAdd, if_true, Bool.false_eq_true, if_false]
    obtain ⟨g0, c0, e0, l0, o0⟩ : ∃ g c, σ 15 = .slice (some ⟨g, 0, none⟩) s.l.length c ∧ _ := hf 3 (by decide)
    obtain ⟨g1, c1, e1, l1, o1⟩ : ∃ g c, σ 19 = .slice (some ⟨g, 0, none⟩) s.l.length c ∧ _ := hf 7 (by decide)
    obtain ⟨g2, c2, e2, l2, o2⟩ : ∃ g c, σ 23 = .slice (some ⟨g, 0, none⟩) s.l.length c ∧ _ := hf 11 (by decide)
    obtain e3 : σ 25 = _ := hf 13 (by decide)
    obtain e4 : σ 26 = .agg #[σ 15, σ 19, σ 23, σ 25] := hf 14 (by decide)
    obtain ⟨q, e5, l5, hq⟩ : ∃ q, σ 11 = .pointer (some ⟨q, 0, none⟩) ∧ _ := hf 15 (by decide)
    have n12 := hne 7 11 19 23 (by decide) (by decide) (by decide) rfl rfl rfl rfl
    rw [e1, e2] at n12
    have n12 : g1 ≠ g2 := by simpa [vblk] using n12
    rw [e0, e1, e2, e3] at e4
    rw [e4, e5, e0, e1, e2, e3]
    have hl64 := H.out.len
    have hf0 : Fr [] w w' := HF0.out.drew.trans hR
    have h10 := HRS.out.drew.fr hR (by simp)
    have hbe := HBE.out.drew.fr hR (by simp)
    have HX := Hd.mk (show ((encs s.l).length = s.l.length * 7) from encs_len _)
    have hu := Hd.mk (show (usOf s)[k]? = some (.bool s.l[k].used) by simp [usOf, hk])
    have ht := Hd.mk (show (tsOf s)[k]? = some (.bool s.l[k].touched) by simp [tsOf, hk])
    have hsq := hR.size
    simp only [World.size_drew] at hsq
    have HRE := Hd.mk (And.intro HRB.out HEB.out)
    clear hR hf hne e0 e1 e2 e3 e4 e5
    have m0 : g0 ≠ q := own_ne o0 hq (by decide) g0 rfl
    have m1 : g1 ≠ q := own_ne o1 hq (by decide) g1 rfl
    have m2 : g2 ≠ q := own_ne o2 hq (by decide) g2 rfl
    have zr := h10.lt
    have ze := hbe.lt
    have mr : rb ≠ q := by have := HRLT.out; omega
    have me : eb ≠ q := by have := HRLT.out; omega
    have n01 : g0 ≠ g1 := own_ne2 o0 o1 (by decide)
    have n02 : g0 ≠ g2 := own_ne2 o0 o2 (by decide)
    have k0 : rb ≠ g0 := by have := HRLT.out; omega
    have k1 : rb ≠ g1 := by have := HRLT.out; omega
    have k2 : rb ≠ g2 := by have := HRLT.out; omega
    have j0 : eb ≠ g0 := by have := HRLT.out; omega
    have HJ := Hd.mk (And.intro k0 (And.intro k1 (And.intro k2 j0)))
    have HWB := Hd.mk (And.intro HRB.out (Nat.le_trans HF0.out.size (Nat.le_refl _)))
    have HNEW : Hd (w.heap.size ≤ g0 ∧ w.heap.size ≤ g1 ∧ w.heap.size ≤ g2) := Hd.mk (by have := HF0.out.size; omega)
    -- the literal is laid
    have q0 := hq.cell (i := 0) rfl
    have q1 := hq.cell (i := 1) rfl
    have q2 := hq.cell (i := 2) rfl
    have q3 := hq.cell (i := 3) rfl
    have qf := fun j => hq.free j
    go_upto_region 2 with (fail)
    clear q0 q1 q2 q3 qf
    refine wp_name ?_; intro w1 hw1
    obtain ⟨hq1, f1⟩ := hq.four hw1
    clear hw1
    have F1 := hf0.weak f1 (by simp; have := HF0.out.size; omega)
    replace o0 := own_fr o0 f1 (by simp [Value.ownBlock, m0])
    replace o1 := own_fr o1 f1 (by simp [Value.ownBlock, m1])
    replace o2 := own_fr o2 f1 (by simp [Value.ownBlock, m2])
    replace h10 := h10.fr f1 (by simp [mr])
    replace hbe := hbe.fr f1 (by simp [me])
    have c1' := hq1.cell (i := 0) rfl
    obtain ⟨r0, r1, r2, r3, r4, r5, r6, -⟩ := hbe.cells7
    have c3' := fun j => own_free o0 j
    have hcx : ∀ j u, j < 7 → (s.l[k].x.c)[j]? = some u → w1.cell? ⟨g0, k * 7 + j, none⟩ = some u := fun j u hj hu => by
      rw [o0.cellAt _ (by omega)]
      unfold xsOf
      rw [flat_get (k := 7) (fun _ => rfl) _ _ _ hj, List.getElem?_map, List.getElem?_eq_getElem hk]
      exact hu
    have x0 := hcx 0 _ (by omega) rfl
    have x1 := hcx 1 _ (by omega) rfl
    have x2 := hcx 2 _ (by omega) rfl
    have x3 := hcx 3 _ (by omega) rfl
    have x4 := hcx 4 _ (by omega) rfl
    have x5 := hcx 5 _ (by omega) rfl
    have x6 := hcx 6 _ (by omega) rfl
    rw [Nat.add_zero] at x0
    clear hcx
    go_upto_region 3 with (fail)
    clear c1' c3' r0 r1 r2 r3 r4 r5 r6 x0 x1 x2 x3 x4 x5 x6
    refine wp_name ?_; intro w2 hw2
    replace hw2 : w2 = stores w1 g0 (k * 7) e.c := by rw [hw2]; simp only [stores, En.c, Nat.add_assoc, Nat.reduceAdd]
    have f2 : Fr [g0] w1 w2 := by rw [hw2]; exact fr_stores _ _ _
    replace o0 : w2.ownsRow 0 29 7 (.slice (some ⟨g0, 0, none⟩) s.l.length c0) s.l.length (setMany (xsOf s) (k * 7) e.c) := by rw [hw2]; exact own_stores e.c _ o0
    clear hw2
    have F2 := F1.weak f2 (by simp; have := HF0.out.size; omega)
    replace o1 := own_fr o1 f2 (by simp [Value.ownBlock, Ne.symm n01])
    replace o2 := own_fr o2 f2 (by simp [Value.ownBlock, Ne.symm n02])
    replace hq1 := hq1.fr f2 (by simp [Ne.symm m0])
    replace h10 := h10.fr f2 (by simp [k0])
    have c1' := hq1.cell (i := 1) rfl
    have c2' := own_cell o1 hu.out
    have c3' := own_free o1 k
    go_upto_region 4 with (fail)
    clear c1' c2' c3'
    refine wp_name ?_; intro w3 hw3
    have f3 : Fr [g1] w2 w3 := by rw [hw3]; exact fr_set
    replace o1 := own_setW o1 hw3
    clear hw3
    have F3 := F2.weak f3 (by simp; have := HF0.out.size; omega)
    replace o0 := own_fr o0 f3 (by simp [Value.ownBlock, n01])
    replace o2 := own_fr o2 f3 (by simp [Value.ownBlock, Ne.symm n12])
    replace hq1 := hq1.fr f3 (by simp [Ne.symm m1])
    replace h10 := h10.fr f3 (by simp [k1])
    have c1' := hq1.cell (i := 2) rfl
    have c2' := own_cell o2 ht.out
    have c3' := own_free o2 k
    go_upto_region 5 with (fail)
    clear c1' c2' c3'
    refine wp_name ?_; intro w4 hw4
    have f4 : Fr [g2] w3 w4 := by rw [hw4]; exact fr_set
    replace o2 := own_setW o2 hw4
    clear hw4
    have F4 := F3.weak f4 (by simp; have := HF0.out.size; omega)
    replace o0 := own_fr o0 f4 (by simp [Value.ownBlock, n02])
    replace o1 := own_fr o1 f4 (by simp [Value.ownBlock, n12])
    replace hq1 := hq1.fr f4 (by simp [Ne.symm m2])
    replace h10 := h10.fr f4 (by simp [k2])
    obtain ⟨q0, q1, q2, q3, -⟩ := hq1.cells4
    obtain ⟨r0, r1, r2, r3, rf⟩ := h10.cells4
    go_wp2_with fail
    clear r0 r1 r2 r3 rf q0 q1 q2 q3
    refine ret_name ?_; intro w5 hw5
    obtain ⟨h105, f5⟩ := h10.four hw5
    clear hw5
    have F5 := F4.weak f5 (by simp; exact HWR.out)
    replace o0 := own_fr o0 f5 (by simp [Value.ownBlock]; exact Ne.symm k0)
    replace o1 := own_fr o1 f5 (by simp [Value.ownBlock]; exact Ne.symm k1)
    replace o2 := own_fr o2 f5 (by simp [Value.ownBlock]; exact Ne.symm k2)
    obtain ⟨r0, r1, r2, r3, -⟩ := h105.cells4
    refine bodyPost_ret (v := refV g0 c0 g1 c1 g2 c2 s.l.length s.hand) (by simp [results, Try.results54, go_sem, r0, r1, r2, r3, refV]) rfl ⟨g0, c0, g1, c1, g2, c2, rfl, ⟨?_, ?_, ?_, ?_, ?_⟩, F5, HNEW.out⟩
    · have e9 : xsOf (s.at k ⟨e, us, ts⟩) = setMany (xsOf s) (k * 7) e.c := by
        unfold xsOf SS.at
        simp only [List.map_set]
        exact (flat_stores (enc := En.c) (k := 7) (fun _ => rfl) (s.l.map (·.x)) k e (by simpa using hk)).symm
      rw [e9, at_len]; exact o0
    · simpa [SS.at, usOf, List.map_set] using o1
    · simpa [SS.at, tsOf, List.map_set] using o2
    · simpa [SS.at] using H.out.hand
    · simpa [SS.at] using H.out.len
theorem with_any {w : World} {gx cx gu cu gt ct : Nat} {s : SS} (h : RefAt w gx cx gu cu gt ct s) (k : Nat) (hk : k < s.l.length) (e : En) (us ts : Bool) :
    Calls Try.prog 54 #[refV gx cx gu cu gt ct s.l.length s.hand, .int .i64 k, e.v, .bool us, .bool ts] w fun r w' => ∃ gx cx gu cu gt ct,
      r = .returned (refV gx cx gu cu gt ct s.l.length s.hand) ∧ RefAt w' gx cx gu cu gt ct (s.at k ⟨e, us, ts⟩) ∧ Fr [] w w' := by
  refine (with_new h k hk e us ts).mono ?_
  rintro r w' ⟨gx', cx', gu', cu', gt', ct', h1, h2, h3, -⟩
  exact ⟨gx', cx', gu', cu', gt', ct', h1, h2, h3⟩
end Go.Proofs.Ytjfhdffmlnkooaa
