import Derived.Test.YtogjfcmclfehkaaEn
import Derived.Test.YtogjfcmclfehkaaKA
import Derived.Test.YtogjfcmclfehkaaW7
namespace Go.Proofs.Ytogjfcmclfehkaa
open Go Go.RowKit Go.Proofs.MapL

structure Sl where
  x : En
  used : Bool
  touched : Bool
structure SS where
  l : List Sl
  hand : Nat
def encSl (s : Sl) : List Value := s.x.c ++ [.bool s.used, .bool s.touched]
theorem encSl_len (s : Sl) : (encSl s).length = 9 := rfl
structure SlotsAt (w : World) (p b : Nat) (s : SS) : Prop where
  own : Blk w p 91 [.slice (some ⟨b, 0, none⟩) s.l.length s.l.length, .int .i64 s.hand]
  row : Blk w b 115 (s.l.flatMap encSl)
  hand : s.hand < s.l.length
  len : s.l.length ≤ 64
theorem SlotsAt.fr {w w' : World} {p b : Nat} {s : SS} {S : List Nat} (h : SlotsAt w p b s) (hf : Fr S w w') (hp : p ∉ S) (hb : b ∉ S) : SlotsAt w' p b s :=
  ⟨h.own.fr hf hp, h.row.fr hf hb, h.hand, h.len⟩
theorem SlotsAt.fr0 {w w' : World} {p b : Nat} {s : SS} (h : SlotsAt w p b s) (hf : Fr [] w w') : SlotsAt w' p b s := h.fr hf (by simp) (by simp)
theorem SlotsAt.cells {w : World} {p b : Nat} {s : SS} (h : SlotsAt w p b s) : w.cell? ⟨p, 0, none⟩ = some (.slice (some ⟨b, 0, none⟩) s.l.length s.l.length) ∧ w.cell? ⟨p, 1, none⟩ = some (.int .i64 s.hand) ∧ w.frozen? ⟨p, 0, none⟩ = false ∧ w.frozen? ⟨p, 1, none⟩ = false :=
  ⟨h.own.cell rfl, h.own.cell rfl, h.own.free _, h.own.free _⟩
theorem SlotsAt.slot {w : World} {p b : Nat} {s : SS} (h : SlotsAt w p b s) {i : Nat} {a : Sl} (hi : s.l[i]? = some a) : ∀ j u, (encSl a)[j]? = some u → w.cell? ⟨b, i * 9 + j, none⟩ = some u := by
  intro j u hu
  refine h.row.cell ?_
  rw [flat_get encSl_len _ _ _ (List.getElem?_eq_some_iff.1 hu).1, hi]
  exact hu
theorem SlotsAt.cells9 {w : World} {p b : Nat} {s : SS} (h : SlotsAt w p b s) {i : Nat} {a : Sl} (hi : s.l[i]? = some a) :
    w.cell? ⟨b, i * 9, none⟩ = some (.string a.x.q.name) ∧ w.cell? ⟨b, i * 9 + 1, none⟩ = some (.int .u16 a.x.q.ty) ∧ w.cell? ⟨b, i * 9 + 2, none⟩ = some (.int .u16 a.x.q.cl) ∧ w.cell? ⟨b, i * 9 + 3, none⟩ = some (.slice a.x.ra a.x.rn a.x.rc) ∧ w.cell? ⟨b, i * 9 + 4, none⟩ = some (.int .i64 a.x.rcode) ∧ w.cell? ⟨b, i * 9 + 5, none⟩ = some (.int .i64 a.x.rank) ∧ w.cell? ⟨b, i * 9 + 6, none⟩ = some (.int .u64 a.x.expire) ∧ w.cell? ⟨b, i * 9 + 7, none⟩ = some (.bool a.used) ∧ w.cell? ⟨b, i * 9 + 8, none⟩ = some (.bool a.touched) ∧ (∀ j, w.frozen? ⟨b, j, none⟩ = false) :=
  ⟨h.slot hi 0 _ rfl, h.slot hi 1 _ rfl, h.slot hi 2 _ rfl, h.slot hi 3 _ rfl, h.slot hi 4 _ rfl, h.slot hi 5 _ rfl, h.slot hi 6 _ rfl, h.slot hi 7 _ rfl, h.slot hi 8 _ rfl, fun j => h.row.free j⟩

/-- Has a slot something? -/
def SS.used (s : SS) (i : Int) : Bool := decide (0 ≤ i) && ((s.l[i.toNat]?).map (·.used)).getD false
theorem SS.used_true {s : SS} {i : Int} (h : s.used i = true) : ∃ (k : Nat) (a : Sl), i = k ∧ s.l[k]? = some a ∧ a.used = true ∧ k < s.l.length := by
  unfold SS.used at h
  simp only [Bool.and_eq_true, decide_eq_true_eq] at h
  obtain ⟨h0, h1⟩ := h
  refine ⟨i.toNat, ?_⟩
  cases hk : s.l[i.toNat]? with
  | none => simp [hk] at h1
  | some a => exact ⟨a, by omega, rfl, by simpa [hk] using h1, (List.getElem?_eq_some_iff.1 hk).1⟩
theorem cap_any {w : World} {p b : Nat} {s : SS} (h : SlotsAt w p b s) :
    Calls Try.prog 57 #[.pointer (some ⟨p, 0, none⟩)] w fun e w' => e = .returned (.int .i64 s.l.length) ∧ w' = w := by
  obtain ⟨c0, c1, -, -⟩ := h.cells
  have hl := h.len
  clear h
  go_enter Try.func57, Try.ntmps57
  go_wp2
  go_ret
  exact ⟨rfl, rfl⟩
set_option maxHeartbeats 400000 in
theorem sat_yes {w : World} {p b : Nat} {s : SS} (h : SlotsAt w p b s) (k : Nat) (a : Sl) (hk : s.l[k]? = some a) (hu : a.used = true) :
    Calls Try.prog 58 #[.pointer (some ⟨p, 0, none⟩), .int .i64 k] w fun e w' => e = .returned (.pointer (some ⟨b, k * 9, none⟩)) ∧ w' = w := by
  obtain ⟨c0, c1, -, -⟩ := h.cells
  have c7 := h.slot hk 7 _ rfl
  rw [hu] at c7
  have hl := h.len
  have hlt : k < s.l.length := (List.getElem?_eq_some_iff.1 hk).1
  have H := Hd.mk h
  clear hk hu h
  go_enter Try.func58, Try.ntmps58
  go_wp2_with fail
  refine (cap_any H.out).mono ?_; rintro e w' ⟨rfl, rfl⟩
  go_wp2
  go_ret
  exact ⟨rfl, rfl⟩
set_option maxHeartbeats 400000 in
theorem sat_no {w : World} {p b : Nat} {s : SS} (h : SlotsAt w p b s) (i : Int) (hu : s.used i = false) :
    Calls Try.prog 58 #[.pointer (some ⟨p, 0, none⟩), .int .i64 i] w fun e w' => e = .returned (.pointer none) ∧ w' = w := by
  obtain ⟨c0, c1, -, -⟩ := h.cells
  have hl := h.len
  have H := Hd.mk h
  by_cases h0 : i < 0
  · clear hu h
    go_enter Try.func58, Try.ntmps58
    go_wp2
    go_ret
    exact ⟨rfl, rfl⟩
  · obtain ⟨k, rfl⟩ := Int.eq_ofNat_of_zero_le (by omega : 0 ≤ i)
    by_cases h1 : k < s.l.length
    · have hk : s.l[k]? = some s.l[k] := List.getElem?_eq_getElem h1
      have hu' : s.l[k].used = false := by
        unfold SS.used at hu; simp [h1] at hu; exact hu
      have c7 := h.slot hk 7 _ rfl
      rw [hu'] at c7
      clear hu hk hu' h
      go_enter Try.func58, Try.ntmps58
      go_wp2_with fail
      refine (cap_any H.out).mono ?_; rintro e w' ⟨rfl, rfl⟩
      go_wp2
      go_ret
      exact ⟨rfl, rfl⟩
    · clear hu h
      go_enter Try.func58, Try.ntmps58
      go_wp2_with fail
      refine (cap_any H.out).mono ?_; rintro e w' ⟨rfl, rfl⟩
      go_wp2
      go_ret
      exact ⟨rfl, rfl⟩
theorem elInt : Elem Try.prog 64 3 (.int .i64 0) 1 8 := ⟨by kernel_rfl, by kernel_rfl, rfl, by omega⟩
def ints (l : List Nat) : List Value := l.map fun (k : Nat) => .int .i64 k
/-- The places below k that have something. -/
def SS.allTo (s : SS) (k : Nat) : List Nat := (List.range k).filter fun i => ((s.l[i]?).map (·.used)).getD false
def SS.all (s : SS) : List Nat := s.allTo s.l.length
theorem SS.allTo_succ (s : SS) (k : Nat) : s.allTo (k + 1) = s.allTo k ++ (if ((s.l[k]?).map (·.used)).getD false then [k] else []) := by
  unfold SS.allTo
  rw [List.range_succ, List.filter_append]
  simp [List.filter_cons]
theorem SS.allTo_le (s : SS) (k : Nat) : (s.allTo k).length ≤ k := by
  unfold SS.allTo
  exact Nat.le_trans (List.length_filter_le _ _) (by simp)
def AllTold (w : World) (l : List Nat) (e : Ending) (w' : World) : Prop :=
  ∃ v, e = .returned v ∧ w'.ownsRow w.heap.size 3 1 v l.length (ints l) ∧ Fr [] w w'
set_option maxHeartbeats 1000000 in
theorem all_any {w : World} {p b : Nat} {s : SS} (h : SlotsAt w p b s) :
    Calls Try.prog 45 #[.pointer (some ⟨p, 0, none⟩)] w (AllTold w s.all) := by
  have hl := h.len
  have H := Hd.mk h
  clear h
  go_enter Try.func45, Try.ntmps45
  go_wp2_with fail
  refine (cap_any H.out).mono ?_; rintro e w' ⟨rfl, rfl⟩
  go_wp2_with fail
  go_loopw [3, 7] (fun v i wr => ∃ k : Nat, k ≤ s.l.length ∧ i = .int .i64 k ∧ wr.ownsRow w'.heap.size 3 1 v (s.allTo k).length (ints (s.allTo k)) ∧ Fr [] w' wr) (fun _ i _ => s.l.length - (intOf i).toNat)
  case atStart => exact ⟨0, Nat.zero_le _, rfl, World.ownsRow_nil _ _ _ _, Fr.refl _ _⟩
  case round =>
    obtain ⟨k, hk, rfl, hown, hfr⟩ := hrel
    have h' := H.out.fr0 hfr
    have hsz := hfr.size
    have hal := s.allTo_le k
    have HFR := Hd.mk hfr
    clear hfr
    by_cases hlt : k < s.l.length
    · obtain ⟨c0, c1, -, -⟩ := h'.cells
      have c7 := h'.slot (List.getElem?_eq_getElem hlt) 7 _ rfl
      have hsucc := Hd.mk (s.allTo_succ k)
      clear h'
      by_cases hu : s.l[k].used = true
      · rw [hu] at c7
        have hu := Hd.mk hu
        go_wp2_with (at_builtin; refine wpList_app1s elInt rfl (.tmp 18) (.tmp 20) rfl hown rfl [.int .i64 k] rfl rfl (by simp [Value.oneCell']) (by omega) (by omega) (by omega) ?_; intro g9 c9 w9 ho9 hf9 hb9 hg9 hor9; have HO9 := Hd.mk ho9; have HF9 := Hd.mk (HFR.out.weak hf9 (fun z hz => .inr (hown.lt z (by simpa using hz)).1)); clear ho9 hf9 hb9 hg9 hor9 hown c0 c1 c7)
        go_roundw
        case rel =>
          refine ⟨k + 1, by omega, by go_num, ?_, HF9.out⟩
          have e : s.allTo (k + 1) = s.allTo k ++ [k] := by rw [hsucc.out]; simp [hlt, hu.out]
          have h9 := HO9.out
          rw [e]; simpa [ints] using h9
        case measure => simp [intOf]; omega
      · have hu : s.l[k].used = false := by simpa using hu
        rw [hu] at c7
        have hu := Hd.mk hu
        go_wp2
        go_roundw
        case rel =>
          refine ⟨k + 1, by omega, by go_num, ?_, HFR.out⟩
          have e : s.allTo (k + 1) = s.allTo k := by rw [hsucc.out]; simp [hlt, hu.out]
          rw [e]; exact hown
        case measure => simp [intOf]; omega
    · have e : k = s.l.length := by omega
      subst e
      go_wp2
      go_ret
      exact ⟨_, rfl, hown, HFR.out⟩
theorem slen_any {w : World} {p b : Nat} {s : SS} (h : SlotsAt w p b s) :
    Calls Try.prog 38 #[.pointer (some ⟨p, 0, none⟩)] w fun e w' => e = .returned (.int .i64 s.all.length) ∧ Fr [] w w' := by
  go_enter Try.func38, Try.ntmps38
  go_wp2_with fail
  refine (all_any h).mono ?_
  rintro e w1 ⟨v, rfl, hown, hfr⟩
  rcases hown.2 with ⟨rfl, hn⟩ | ⟨g, cap, cur, rfl, -⟩
  · go_wp2
    go_ret
    exact ⟨by simp [hn], hfr⟩
  · go_wp2
    go_ret
    exact ⟨rfl, hfr⟩
end Go.Proofs.Ytogjfcmclfehkaa
namespace Go.Proofs.Ytogjfcmclfehkaa
open Go Go.RowKit Go.Proofs.MapL

def SS.at (s : SS) (k : Nat) (a : Sl) : SS := { s with l := s.l.set k a }
theorem SlotsAt.at {w w' : World} {p b : Nat} {s : SS} (h : SlotsAt w p b s) {k : Nat} {a : Sl} (hrow : Blk w' b 115 ((s.l.set k a).flatMap encSl)) (hf : Fr [b] w w') : SlotsAt w' p b (s.at k a) := by
  have hne : p ≠ b := h.own.ne h.row (by decide)
  refine ⟨?_, hrow, by simpa [SS.at] using h.hand, by simpa [SS.at] using h.len⟩
  have := h.own.fr hf (by simpa using hne)
  simpa [SS.at] using this
theorem setMany_sub : ∀ (vs cs : List Value) (off : Nat), (∀ j u, vs[j]? = some u → cs[off + j]? = some u) → setMany cs off vs = cs := by
  intro vs
  induction vs with
  | nil => intro cs off h; rfl
  | cons v vs ih =>
    intro cs off h
    have h0 := h 0 v rfl
    have e : cs.set off v = cs := by
      obtain ⟨h1, h2⟩ := List.getElem?_eq_some_iff.1 h0
      rw [Nat.add_zero] at h1 
      have h2 : cs[off] = v := h2
      rw [← h2]; exact List.set_getElem_self h1
    show setMany (cs.set off v) (off + 1) vs = cs
    rw [e]
    exact ih cs (off + 1) (fun j u hu => by rw [Nat.add_assoc, Nat.add_comm 1 j]; exact h (j + 1) u hu)
theorem setMany_app : ∀ (xs ys cs : List Value) (off : Nat), setMany cs off (xs ++ ys) = setMany (setMany cs off xs) (off + xs.length) ys := by
  intro xs
  induction xs with
  | nil => intro ys cs off; rfl
  | cons x xs ih =>
    intro ys cs off
    show setMany (cs.set off x) (off + 1) (xs ++ ys) = setMany (setMany (cs.set off x) (off + 1) xs) (off + (xs.length + 1)) ys
    rw [ih, show off + 1 + xs.length = off + (xs.length + 1) by omega]
theorem setMany_behind : ∀ (vs cs : List Value) (off i : Nat), off + vs.length ≤ i → (setMany cs off vs)[i]? = cs[i]? := by
  intro vs
  induction vs with
  | nil => intro cs off i h; rfl
  | cons v vs ih =>
    intro cs off i h
    have h : off + (vs.length + 1) ≤ i := h
    show (setMany (cs.set off v) (off + 1) vs)[i]? = _
    rw [ih _ _ _ (by omega), List.getElem?_set_ne (by omega)]
/-- The entry's seven cells written. -/
theorem SlotsAt.entry {w : World} {p b : Nat} {s : SS} (h : SlotsAt w p b s) (k : Nat) (a : Sl) (e : En) (hk : s.l[k]? = some a) :
    SlotsAt (stores w b (k * 9) e.c) p b (s.at k { a with x := e }) ∧ Fr [b] w (stores w b (k * 9) e.c) := by
  refine ⟨h.at ?_ (fr_stores _ _ _), fr_stores _ _ _⟩
  obtain ⟨hlt, hka⟩ := List.getElem?_eq_some_iff.1 hk
  have h1 := blk_stores e.c (k * 9) w _ h.row
  have h2 := flat_stores encSl_len s.l k { a with x := e } hlt
  have e2 : encSl { a with x := e } = e.c ++ [.bool a.used, .bool a.touched] := rfl
  rw [e2, setMany_app, setMany_sub] at h2
  · rw [h2] at h1; exact h1
  · intro j u hu
    rw [setMany_behind _ _ _ _ (by omega)]
    have hj : j < 2 := (List.getElem?_eq_some_iff.1 hu).1
    have h3 := flat_get encSl_len s.l k (7 + j) (by omega)
    rw [hk] at h3
    have e3 : k * 9 + e.c.length + j = k * 9 + (7 + j) := by show k * 9 + 7 + j = _; omega
    rw [e3, h3, ← hu]
    show (encSl a)[7 + j]? = _
    match j, hj with
    | 0, _ => rfl
    | 1, _ => rfl
/-- All nine cells of a slot written. -/
theorem SlotsAt.whole {w : World} {p b : Nat} {s : SS} (h : SlotsAt w p b s) (k : Nat) (a n : Sl) (hk : s.l[k]? = some a) :
    SlotsAt (stores w b (k * 9) (encSl n)) p b (s.at k n) ∧ Fr [b] w (stores w b (k * 9) (encSl n)) := by
  refine ⟨h.at ?_ (fr_stores _ _ _), fr_stores _ _ _⟩
  obtain ⟨hlt, -⟩ := List.getElem?_eq_some_iff.1 hk
  have h1 := blk_stores (encSl n) (k * 9) w _ h.row
  rw [flat_stores encSl_len s.l k n hlt] at h1
  exact h1
def zeroEn : En := ⟨⟨⟨#[]⟩, 0, 0, by decide⟩, none, 0, 0, 0, 0, 0⟩
def Sl.none : Sl := ⟨zeroEn, false, false⟩
theorem get_no {w : World} {p b : Nat} {s : SS} (h : SlotsAt w p b s) (i : Int) (hu : s.used i = false) :
    Calls Try.prog 48 #[.pointer (some ⟨p, 0, none⟩), .int .i64 i] w fun e w' => e = .returned (.tuple #[zeroEn.v, .bool false]) ∧ Fr [] w w' := by
  have HU := Hd.mk hu
  have H := Hd.mk h
  clear hu h
  go_enter Try.func48, Try.ntmps48
  go_wp2_with fail
  refine (sat_no (H.out.fr0 (((Fr.refl [] w).alloc _).alloc _)) _ HU.out).mono ?_; rintro e w' ⟨rfl, hw'⟩
  have hF : Fr [] w w' := by rw [hw']; exact ((Fr.refl [] w).alloc _).alloc _
  have hbr : Blk w' w.heap.size 37 [.string ⟨#[]⟩, .int .u16 0, .int .u16 0, .slice none 0 0, .int .i64 0, .int .i64 0, .int .u64 0] := by rw [hw']; exact (Blk.new _ _ _).alloc _
  have hbn : Blk w' (w.heap.size + 1) 37 [.string ⟨#[]⟩, .int .u16 0, .int .u16 0, .slice none 0 0, .int .i64 0, .int .i64 0, .int .u64 0] := by
    rw [hw']
    have h0 := Blk.new (w.alloc (.cells #[.string ⟨#[]⟩, .int .u16 0, .int .u16 0, .slice none 0 0, .int .i64 0, .int .i64 0, .int .u64 0] 37)) 37 [.string ⟨#[]⟩, .int .u16 0, .int .u16 0, .slice none 0 0, .int .i64 0, .int .i64 0, .int .u64 0]
    simp only [World.size_alloc] at h0
    exact h0
  clear hw'
  obtain ⟨r0, r1, r2, r3, r4, r5, r6, rf⟩ := hbr.cells7
  obtain ⟨n0, n1, n2, n3, n4, n5, n6, nf⟩ := hbn.cells7
  go_wp2
  refine ret_name ?_; intro w5 hw5
  obtain ⟨h5, f5⟩ := Blk.seven hbr hw5
  clear r0 r1 r2 r3 r4 r5 r6 rf n0 n1 n2 n3 n4 n5 n6 nf hw5
  obtain ⟨r0, r1, r2, r3, r4, r5, r6, -⟩ := h5.cells7
  refine bodyPost_ret (v := .tuple #[zeroEn.v, .bool false]) (by simp [results, Try.results48, go_sem, r0, r1, r2, r3, r4, r5, r6, zeroEn, En.v]) rfl ⟨rfl, hF.weak f5 (by simp)⟩
theorem get_yes {w : World} {p b : Nat} {s : SS} (h : SlotsAt w p b s) (k : Nat) (a : Sl) (hk : s.l[k]? = some a) (hu : a.used = true) :
    Calls Try.prog 48 #[.pointer (some ⟨p, 0, none⟩), .int .i64 k] w fun e w' => e = .returned (.tuple #[a.x.v, .bool true]) ∧ Fr [] w w' := by
  have HK := Hd.mk hk
  have HU := Hd.mk hu
  have H := Hd.mk h
  clear h hk hu
  go_enter Try.func48, Try.ntmps48
  go_wp2_with fail
  refine (sat_yes (H.out.fr0 (((Fr.refl [] w).alloc _).alloc _)) _ _ HK.out HU.out).mono ?_; rintro e w' ⟨rfl, hw'⟩
  have hF : Fr [] w w' := by rw [hw']; exact ((Fr.refl [] w).alloc _).alloc _
  have hbr : Blk w' w.heap.size 37 [.string ⟨#[]⟩, .int .u16 0, .int .u16 0, .slice none 0 0, .int .i64 0, .int .i64 0, .int .u64 0] := by rw [hw']; exact (Blk.new _ _ _).alloc _
  have hbn : Blk w' (w.heap.size + 1) 37 [.string ⟨#[]⟩, .int .u16 0, .int .u16 0, .slice none 0 0, .int .i64 0, .int .i64 0, .int .u64 0] := by
    rw [hw']
    have h0 := Blk.new (w.alloc (.cells #[.string ⟨#[]⟩, .int .u16 0, .int .u16 0, .slice none 0 0, .int .i64 0, .int .i64 0, .int .u64 0] 37)) 37 [.string ⟨#[]⟩, .int .u16 0, .int .u16 0, .slice none 0 0, .int .i64 0, .int .i64 0, .int .u64 0]
    simp only [World.size_alloc] at h0
    exact h0
  clear hw'
  obtain ⟨c0, c1, c2, c3, c4, c5, c6, c7, c8, cf⟩ := (H.out.fr0 hF).cells9 HK.out
  obtain ⟨r0, r1, r2, r3, r4, r5, r6, rf⟩ := hbr.cells7
  obtain ⟨n0, n1, n2, n3, n4, n5, n6, nf⟩ := hbn.cells7
  go_wp2
  refine ret_name ?_; intro w5 hw5
  obtain ⟨h5, f5⟩ := Blk.seven hbr hw5
  clear r0 r1 r2 r3 r4 r5 r6 rf n0 n1 n2 n3 n4 n5 n6 nf hw5
  obtain ⟨r0, r1, r2, r3, r4, r5, r6, -⟩ := h5.cells7
  refine bodyPost_ret (v := .tuple #[a.x.v, .bool true]) (by simp [results, Try.results48, go_sem, r0, r1, r2, r3, r4, r5, r6, En.v]) rfl ⟨rfl, hF.weak f5 (by simp)⟩

set_option maxHeartbeats 400000 in
theorem touch_yes {w : World} {p b : Nat} {s : SS} (h : SlotsAt w p b s) (k : Nat) (a : Sl) (hk : s.l[k]? = some a) (hu : a.used = true) :
    Calls Try.prog 54 #[.pointer (some ⟨p, 0, none⟩), .int .i64 k] w fun e w' => e = .returned (.bool true) ∧ SlotsAt w' p b (s.at k { a with touched := true }) ∧ Fr [b] w w' := by
  obtain ⟨c0, c1, c2, c3, c4, c5, c6, c7, c8, cf⟩ := h.cells9 hk
  have hf : Fr [b] w (w.setCell ⟨b, k * 9 + 8, none⟩ (.bool true)) := fr_set
  have hfin := h.at (k := k) (a := { a with touched := true }) (by have := h.row.set (k * 9 + 8) (.bool true); rwa [flat_set encSl_len s.l k 8 a { a with touched := true } _ (by omega) hk rfl] at this) hf
  have HFIN := Hd.mk (And.intro hfin hf)
  have HK := Hd.mk hk
  have HU := Hd.mk hu
  have H := Hd.mk h
  clear hf hfin hk hu h
  go_enter Try.func54, Try.ntmps54
  go_wp2_with fail
  refine (sat_yes H.out _ _ HK.out HU.out).mono ?_; rintro e w' ⟨rfl, rfl⟩
  go_wp2
  go_ret
  exact ⟨rfl, HFIN.out⟩
set_option maxHeartbeats 1000000 in
theorem sset_yes {w : World} {p b : Nat} {s : SS} (h : SlotsAt w p b s) (k : Nat) (a : Sl) (x : En) (hk : s.l[k]? = some a) (hu : a.used = true) :
    Calls Try.prog 59 #[.pointer (some ⟨p, 0, none⟩), .int .i64 k, x.v] w fun e w' => e = .returned (.bool true) ∧ SlotsAt w' p b (s.at k { a with x := x }) ∧ Fr [b] w w' := by
  have HK := Hd.mk hk
  have HU := Hd.mk hu
  have H := Hd.mk h
  clear hk hu h
  unfold En.v
  go_enter Try.func59, Try.ntmps59
  go_wp2_with fail
  refine (sat_yes (H.out.fr0 ((Fr.refl [] w).alloc _)) _ _ HK.out HU.out).mono ?_; rintro e w' ⟨rfl, hw'⟩
  have hF : Fr [] w w' := by rw [hw']; exact (Fr.refl [] w).alloc _
  have hbx : Blk w' w.heap.size 37 [.string x.q.name, .int .u16 x.q.ty, .int .u16 x.q.cl, .slice x.ra x.rn x.rc, .int .i64 x.rcode, .int .i64 x.rank, .int .u64 x.expire] := by rw [hw']; exact Blk.new _ _ _
  clear hw'
  obtain ⟨r0, r1, r2, r3, r4, r5, r6, rf⟩ := hbx.cells7
  have h1 := H.out.fr0 hF
  have HFIN := Hd.mk (h1.entry k a x HK.out)
  obtain ⟨c0, c1, c2, c3, c4, c5, c6, c7, c8, cf⟩ := h1.cells9 HK.out
  clear h1
  go_wp2
  go_ret
  exact ⟨rfl, HFIN.out.1, (hF.mono (by simp)).trans HFIN.out.2⟩
set_option maxHeartbeats 1000000 in
theorem free_yes {w : World} {p b : Nat} {s : SS} (h : SlotsAt w p b s) (k : Nat) (a : Sl) (hk : s.l[k]? = some a) (hu : a.used = true) :
    Calls Try.prog 63 #[.pointer (some ⟨p, 0, none⟩), .int .i64 k] w fun e w' => e = .returned (.bool true) ∧ SlotsAt w' p b (s.at k Sl.none) ∧ Fr [b] w w' := by
  obtain ⟨c0, c1, c2, c3, c4, c5, c6, c7, c8, cf⟩ := h.cells9 hk
  have HFIN := Hd.mk (h.whole k a Sl.none hk)
  have HK := Hd.mk hk
  have HU := Hd.mk hu
  have H := Hd.mk h
  clear hk hu h
  go_enter Try.func63, Try.ntmps63
  go_wp2_with fail
  refine (sat_yes H.out _ _ HK.out HU.out).mono ?_; rintro e w' ⟨rfl, rfl⟩
  go_wp2
  go_ret
  exact ⟨rfl, HFIN.out⟩
end Go.Proofs.Ytogjfcmclfehkaa
namespace Go.Proofs.Ytogjfcmclfehkaa
open Go Go.RowKit Go.Proofs.MapL

set_option maxHeartbeats 1000000 in
theorem put_yes {w : World} {p b : Nat} {s : SS} (h : SlotsAt w p b s) (x : En) (k : Nat) (a : Sl) (hk : s.l[k]? = some a) (hu : a.used = false)
    (hmin : ∀ j, j < k → ∃ a, s.l[j]? = some a ∧ a.used = true) :
    Calls Try.prog 52 #[.pointer (some ⟨p, 0, none⟩), x.v] w fun e w' => e = .returned (.tuple #[.int .i64 k, .int .i64 0]) ∧ SlotsAt w' p b (s.at k ⟨x, true, false⟩) ∧ Fr [b] w w' := by
  have hl := h.len
  have hlt : k < s.l.length := (List.getElem?_eq_some_iff.1 hk).1
  have HK := Hd.mk hk
  have HU := Hd.mk hu
  have HMIN := Hd.mk hmin
  have H := Hd.mk h
  clear hk hu hmin h
  unfold En.v
  go_enter Try.func52, Try.ntmps52
  go_wp2_with fail
  refine (cap_any (H.out.fr0 ((Fr.refl [] w).alloc _))).mono ?_; rintro e w1 ⟨rfl, hw1⟩
  have hF : Fr [] w w1 := by rw [hw1]; exact (Fr.refl [] w).alloc _
  have hbx : Blk w1 w.heap.size 37 [.string x.q.name, .int .u16 x.q.ty, .int .u16 x.q.cl, .slice x.ra x.rn x.rc, .int .i64 x.rcode, .int .i64 x.rank, .int .u64 x.expire] := by rw [hw1]; exact Blk.new _ _ _
  clear hw1
  have HBX := Hd.mk hbx
  have h1 := H.out.fr0 hF
  obtain ⟨d0, d1, -, -⟩ := h1.cells
  have HD0 := Hd.mk d0
  have HPB : Hd (p ∉ [b]) := Hd.mk (by simpa using h1.own.ne h1.row (by decide))
  have HXB : Hd (w.heap.size ∉ [b]) := Hd.mk (by have := H.out.row.lt; simp; omega)
  have H := Hd.mk h1
  have HF := Hd.mk hF
  clear h1 hF hbx
  go_wp2_with fail
  go_loop [9] (fun i => ∃ j : Nat, j ≤ k ∧ i = .int .i64 j) (fun i => s.l.length - (intOf i).toNat)
  case atStart => exact ⟨0, Nat.zero_le _, rfl⟩
  case round =>
    obtain ⟨j, hj, rfl⟩ := hrel
    by_cases hjk : j < k
    · obtain ⟨a', ha', hu'⟩ := HMIN.out j hjk
      have c7 := H.out.slot ha' 7 _ rfl
      rw [hu'] at c7
      clear ha' hu'
      go_wp2
      go_round
      case rel => exact ⟨j + 1, by omega, by go_num⟩
      case measure => simp [intOf]; omega
    · obtain rfl : j = k := by omega
      have c7 := H.out.slot HK.out 7 _ rfl
      rw [HU.out] at c7
      have HDR := Hd.mk (H.out.fr0 (Fr.drew (Fr.refl [] _)))
      go_wp2_with fail
      clear c7 d0 d1
      refine wp_region_gs { R := Fr [b], R1 := Fr [], gs := [Is (.pointer (some ⟨p, 0, none⟩)), Is (.pointer (some ⟨p, 0, none⟩)), Is (.pointer (some ⟨p, 0, none⟩)), Is (.slice (some ⟨b, 0, none⟩) s.l.length s.l.length), Is (.int .i64 j), Is (.agg #[.string x.q.name, .int .u16 x.q.ty, .int .u16 x.q.cl, .slice x.ra x.rn x.rc, .int .i64 x.rcode, .int .i64 x.rank, .int .u64 x.expire]), Is (.agg #[.string x.q.name, .int .u16 x.q.ty, .int .u16 x.q.cl, .slice x.ra x.rn x.rc, .int .i64 x.rcode, .int .i64 x.rank, .int .u64 x.expire, .bool true, .bool false]), Is (.pointer (some ⟨b, j * 9, none⟩)), No], ds := [some 21, some 22, some 23, some 24, some 25, some 26, some 27, some 28, none], fl := [false, false, false, false, false, false, false, false, true], hs := [fun _ w2 => SlotsAt w2 p b s, fun _ w2 => SlotsAt w2 p b (s.at j ⟨x, true, false⟩)], hd := [[], []] } [false, false, false, false, false, false, false, false, false, false, false, false, false, false, false, false, false, false, false, false, false, true, true, true, true, true, true, true, true, false, false] (by kernel_rfl) _ (by kernel_rfl) (by kernel_rfl) (by kernel_rfl) (by kernel_rfl) rfl [] (fun _ _ _ h1 h2 => h1.trans h2) (fun _ _ h => h.mono (by simp)) (staI (staI (staI (staI (staI (staI (staI (staI (staN sta0))))))))) (sth (fun _ _ _ hf h => h.fr0 hf) (sth (fun _ _ _ hf h => h.fr0 hf) sth0)) (fun _ _ h => h.size) _ (Fr.refl _ _) HDR.out ?_ ?_
      · refine ⟨?_, ?_, ?_, ?_, ?_, ?_, ?_, ?_, ?_, trivial⟩
        · intro σ w' hR hd
          simp only [fill, Nat.reduceAdd, if_true, Bool.false_eq_true, if_false]
          clear hd
          go_wp2
          exact ⟨Fr.refl _ _, rfl⟩
        · intro σ w' hR hd
          simp only [fill, Nat.reduceAdd, if_true, Bool.false_eq_true, if_false]
          obtain h21 : σ 21 = _ := hd 0 (by decide)
          rw [h21]
          clear h21
          clear hd
          go_wp2
          exact ⟨Fr.refl _ _, rfl⟩
        · intro σ w' hR hd
          simp only [fill, Nat.reduceAdd, if_true, Bool.false_eq_true, if_false]
          obtain h22 : σ 22 = _ := hd 1 (by decide)
          rw [h22]
          clear h22
          clear hd
          go_wp2
          exact ⟨Fr.refl _ _, rfl⟩
        · intro σ w' hR hd
          simp only [fill, Nat.reduceAdd, if_true, Bool.false_eq_true, if_false]
          obtain h23 : σ 23 = _ := hd 2 (by decide)
          rw [h23]
          clear h23
          clear hd
          have hfr := (Fr.drew (Fr.refl [b] _)).trans hR
          have k0 := hfr.cell HD0.out HPB.out
          go_wp2
          exact ⟨Fr.refl _ _, rfl⟩
        · intro σ w' hR hd
          simp only [fill, Nat.reduceAdd, if_true, Bool.false_eq_true, if_false]
          clear hd
          go_wp2
          exact ⟨Fr.refl _ _, rfl⟩
        · intro σ w' hR hd
          simp only [fill, Nat.reduceAdd, if_true, Bool.false_eq_true, if_false]
          clear hd
          have hfr := (Fr.drew (Fr.refl [b] _)).trans hR
          obtain ⟨r0, r1, r2, r3, r4, r5, r6, rf⟩ := (HBX.out.fr hfr HXB.out).cells7
          go_wp2
          exact ⟨Fr.refl _ _, rfl⟩
        · intro σ w' hR hd
          simp only [fill, Nat.reduceAdd, if_true, Bool.false_eq_true, if_false]
          obtain h26 : σ 26 = _ := hd 5 (by decide)
          rw [h26]
          clear h26
          clear hd
          go_wp2
          exact ⟨Fr.refl _ _, rfl⟩
        · intro σ w' hR hd
          simp only [fill, Nat.reduceAdd, if_true, Bool.false_eq_true, if_false]
          obtain h24 : σ 24 = _ := hd 3 (by decide)
          obtain h25 : σ 25 = _ := hd 4 (by decide)
          rw [h24, h25]
          clear h24 h25
          clear hd
          go_wp2
          exact ⟨Fr.refl _ _, rfl⟩
        · intro σ w' hR hd hH
          simp only [fill, Nat.reduceAdd, if_true, Bool.false_eq_true, if_false]
          obtain h27 : σ 27 = _ := hd 6 (by decide)
          obtain h28 : σ 28 = _ := hd 7 (by decide)
          rw [h27, h28]
          clear h27 h28
          clear hd
          have hz : SlotsAt w' p b s := hH
          obtain ⟨c0, c1, c2, c3, c4, c5, c6, c7, c8, cf⟩ := hz.cells9 HK.out
          have HFIN := Hd.mk (hz.whole j a ⟨x, true, false⟩ HK.out)
          clear hz hH
          go_wp2
          exact ⟨HFIN.out.2, trivial, HFIN.out.1⟩
      · intro σ w3 hR hG hH
        simp only [fill, Nat.reduceAdd, if_true, Bool.false_eq_true, if_false]
        clear hG
        have hfr := (Fr.drew (Fr.refl [b] _)).trans hR
        have hw2 : SlotsAt w3 p b (s.at j ⟨x, true, false⟩) := hH
        have HF2 := Hd.mk ((HF.out.mono (by simp)).trans hfr)
        have HW2 := Hd.mk hw2
        clear hR hH hfr hw2
        go_wp2
        go_ret2
        exact ⟨rfl, HW2.out, HF2.out⟩
theorem elSlot : Elem Try.prog 89 115 (.agg #[.string ⟨#[]⟩, .int .u16 0, .int .u16 0, .slice none 0 0, .int .i64 0, .int .i64 0, .int .u64 0, .bool false, .bool false]) 9 80 := ⟨by kernel_rfl, by kernel_rfl, rfl, by omega⟩
set_option maxRecDepth 100000 in
set_option maxHeartbeats 1000000 in
theorem snew_yes (n : Nat) (h1 : 1 ≤ n) (h2 : n ≤ 64) (w : World) :
    Calls Try.prog 26 #[.int .i64 n] w fun e w' => ∃ p b, e = .returned (.pointer (some ⟨p, 0, none⟩)) ∧ SlotsAt w' p b ⟨List.replicate n Sl.none, 0⟩ ∧ Fr [] w w' ∧ w.heap.size ≤ p ∧ w.heap.size ≤ b := by
  obtain ⟨i0, hi, hz0, hz1, hz2⟩ := info_parts elSlot.info
  go_enter Try.func26, Try.ntmps26
  go_wp2_with (at_make; refine wpList_make_full _ rfl _ _ 89 rfl 0 115 i0 _ 9 elSlot.ut hi hz0 hz1 .i64 .i64 n n n rfl rfl rfl rfl (by rw [hz2]; omega) (le_maxLen (by omega)) (Nat.zero_le _) ?_; intro w1 hown hgr)
  go_ret
  have hb := own_blk hown
  have hsz := hgr.size
  have hlt := hb.lt
  have e : (madeCells (Value.agg #[.string ⟨#[]⟩, .int .u16 0, .int .u16 0, .slice none 0 0, .int .i64 0, .int .i64 0, .int .u64 0, .bool false, .bool false]).cells (n * 9)).toList = (List.replicate n Sl.none).flatMap encSl := made_flat encSl Sl.none _ rfl n
  rw [e] at hb
  refine ⟨_, _, rfl, ⟨?_, hb.alloc _, ?_, ?_⟩, ((Fr.of_grown hgr).mono (by simp)).alloc _, hsz, Nat.le_refl _⟩
  · have := Blk.new w1 91 [.slice (some ⟨w.heap.size, 0, none⟩) n n, .int .i64 0]
    simpa using this
  · simp; omega
  · simp; omega
/-- The hand goes on, k places at most. -/
def SS.vic : Nat → SS → SS × Nat × Bool
  | 0, s => (s, 0, false)
  | k + 1, s =>
    match s.l[s.hand]? with
    | none => (s, 0, false)
    | some a =>
      if a.used then
        if a.touched then SS.vic k { l := s.l.set s.hand { a with touched := false }, hand := (s.hand + 1) % s.l.length }
        else ({ s with hand := (s.hand + 1) % s.l.length }, s.hand, true)
      else SS.vic k { s with hand := (s.hand + 1) % s.l.length }
theorem SlotsAt.turned {w : World} {p b : Nat} {s : SS} (h : SlotsAt w p b s) {n : Nat} (hn : n < s.l.length) (m : Int) (hm : m = n) :
    SlotsAt (w.setCell ⟨p, 1, none⟩ (.int .i64 m)) p b { s with hand := n } :=
  ⟨by have := h.own.set 1 (.int .i64 n); subst hm; simpa using this, h.row.other (h.own.ne h.row (by decide)).symm _, hn, h.len⟩
set_option maxHeartbeats 1000000 in
theorem victim_yes {w : World} {p b : Nat} {s s' : SS} (h : SlotsAt w p b s) (hn : 0 < s.all.length) (k i : Nat) (hv : s.vic k = (s', i, true)) :
    Calls Try.prog 61 #[.pointer (some ⟨p, 0, none⟩)] w fun e w' => e = .returned (.tuple #[.int .i64 i, .bool true]) ∧ SlotsAt w' p b s' ∧ Fr [p, b] w w' := by
  go_enter Try.func61, Try.ntmps61
  go_wp2_with fail
  go_step3
  have hv := hid hv
  go_wp2_with fail
  refine (slen_any h).mono ?_
  rintro e w1 ⟨rfl, hfr⟩
  have hn : ((s.all.length : Int) == 0) = false := beq_eq_false_iff_ne.2 (by omega)
  have h1 := h.fr hfr (by simp) (by simp)
  go_wp2
  go_step3
  go_wp2
  go_loopg [4] k (fun k _ wr => ∃ t : SS, SlotsAt wr p b t ∧ Hid (t.vic k = (s', i, true)) ∧ Fr [p, b] w wr)
  case atStart => exact ⟨s, h1, hv, hfr.mono (by simp)⟩
  case round =>
    obtain ⟨t, ht, hvt, hft⟩ := hrel
    clear hv h1 hfr h hn
    obtain ⟨c0, c1, f0, f1⟩ := ht.cells
    have hl := ht.len
    have hh := ht.hand
    have hm : (t.hand + 1) % t.l.length < t.l.length := Nat.mod_lt _ (by omega)
    have h2 := ht.turned hm (((t.hand : Nat) + 1) % (t.l.length : Int)) (by simp)
    have hft2 : Fr [p, b] w (wr.setCell ⟨p, 1, none⟩ (.int .i64 (((t.hand : Nat) + 1) % (t.l.length : Int)))) := hft.setCell (by simp) _
    have hft2 := hid hft2
    cases gk with
    | zero => exact absurd hvt.out (by simp [SS.vic])
    | succ gk =>
    have hg : t.l[t.hand]? = some t.l[t.hand] := List.getElem?_eq_getElem hh
    have hstep : SS.vic (gk + 1) t = if t.l[t.hand].used then
        if t.l[t.hand].touched then SS.vic gk { l := t.l.set t.hand { t.l[t.hand] with touched := false }, hand := (t.hand + 1) % t.l.length }
        else ({ t with hand := (t.hand + 1) % t.l.length }, t.hand, true)
      else SS.vic gk { t with hand := (t.hand + 1) % t.l.length } := by
      rw [SS.vic]; simp only [hg]
    have hvA := hstep.symm.trans hvt.out
    clear hstep hvt
    cases hu : t.l[t.hand].used with
    | false =>
      have hu2 : SS.used { t with hand := (t.hand + 1) % t.l.length } t.hand = false := by simp [SS.used, hg, hu]
      simp only [hu, Bool.false_eq_true, if_false] at hvA
      have hvt := hid hvA
      clear hvA
      have hu2 := hid hu2
      have hg := hid hg
      have hu := hid hu
      go_wp2_with fail
      refine (sat_no h2 _ hu2.out).mono ?_
      rintro e w2 ⟨rfl, rfl⟩
      go_wp2
      go_roundg gk
      case measure => omega
      case rel => exact ⟨_, h2, hvt, hft2.out⟩
    | true =>
      have c8 := h2.slot (i := t.hand) (a := t.l[t.hand]) hg 8 _ rfl
      have cf : ∀ j, (wr.setCell ⟨p, 1, none⟩ (.int .i64 (((t.hand : Nat) + 1) % (t.l.length : Int)))).frozen? ⟨b, j, none⟩ = false := fun j => h2.row.free j
      cases htt : t.l[t.hand].touched with
      | true =>
        rw [htt] at c8
        rw [if_pos hu, if_pos htt] at hvA
        have hvt := hid hvA
        clear hvA
        have hfin := h2.at (k := t.hand) (a := { t.l[t.hand] with touched := false }) (w' := (wr.setCell ⟨p, 1, none⟩ (.int .i64 (((t.hand : Nat) + 1) % (t.l.length : Int)))).setCell ⟨b, t.hand * 9 + 8, none⟩ (.bool false))
          (by have := h2.row.set (t.hand * 9 + 8) (.bool false); rwa [flat_set encSl_len t.l t.hand 8 t.l[t.hand] { t.l[t.hand] with touched := false } _ (by omega) hg rfl] at this) ((Fr.refl _ _).setCell (by simp) _)
        have hfin := hid (And.intro hfin (hft2.out.setCell (p := ⟨b, t.hand * 9 + 8, none⟩) (by simp) (.bool false)))
        have hg := hid hg
        have hu := hid hu
        have htt := hid htt
        go_wp2_with fail
        refine (sat_yes h2 _ _ hg.out hu.out).mono ?_
        rintro e w2 ⟨rfl, rfl⟩
        go_wp2
        go_roundg gk
        case measure => omega
        case rel => exact ⟨_, hfin.out.1, hvt, hfin.out.2⟩
      | false =>
        rw [htt] at c8
        simp only [hu, htt, if_true, Bool.false_eq_true, if_false, Prod.mk.injEq, and_true] at hvA
        obtain ⟨hv1, hv2⟩ := hvA
        subst hv1
        subst hv2
        have hg := hid hg
        have hu := hid hu
        have htt := hid htt
        go_wp2_with fail
        refine (sat_yes h2 _ _ hg.out hu.out).mono ?_
        rintro e w2 ⟨rfl, rfl⟩
        go_wp2
        rw [Exit.noGoto_ret]
        go_ret2
        exact ⟨rfl, h2, hft2.out⟩
end Go.Proofs.Ytogjfcmclfehkaa
namespace Go.Proofs.Ytogjfcmclfehkaa
open Go Go.RowKit Go.Proofs.MapL

/-- What is due: the slots' times. -/
def itemsOf (s : SS) : List It := (List.range s.l.length).filterMap fun i => (s.l[i]?).bind fun a => if a.used then some ⟨i, a.x.expire⟩ else none
/-- Where each question is. -/
def whereOf (s : SS) : List (Qn × Int) := (List.range s.l.length).filterMap fun i => (s.l[i]?).bind fun a => if a.used then some (a.x.q, (i : Int)) else none
/-- Each question has one slot. -/
def Uq (s : SS) : Prop := ∀ (i j : Nat) (a b : Sl), s.l[i]? = some a → s.l[j]? = some b → a.used = true → b.used = true → a.x.q = b.x.q → i = j
theorem mem_items {s : SS} {x : It} : x ∈ itemsOf s ↔ ∃ (k : Nat) (a : Sl), s.l[k]? = some a ∧ a.used = true ∧ x = ⟨k, a.x.expire⟩ := by
  unfold itemsOf
  rw [List.mem_filterMap]
  constructor
  · rintro ⟨k, hk, h⟩
    cases hs : s.l[k]? with
    | none => simp [hs] at h
    | some a =>
      rw [hs] at h
      cases hu : a.used with
      | false => simp [hu] at h
      | true => simp [hu] at h; exact ⟨k, a, hs, hu, h.symm⟩
  · rintro ⟨k, a, hs, hu, rfl⟩
    exact ⟨k, List.mem_range.2 (List.getElem?_eq_some_iff.1 hs).1, by simp [hs, hu]⟩
theorem mem_where {s : SS} {x : Qn × Int} : x ∈ whereOf s ↔ ∃ (k : Nat) (a : Sl), s.l[k]? = some a ∧ a.used = true ∧ x = (a.x.q, (k : Int)) := by
  unfold whereOf
  rw [List.mem_filterMap]
  constructor
  · rintro ⟨k, hk, h⟩
    cases hs : s.l[k]? with
    | none => simp [hs] at h
    | some a =>
      rw [hs] at h
      cases hu : a.used with
      | false => simp [hu] at h
      | true => simp [hu] at h; exact ⟨k, a, hs, hu, h.symm⟩
  · rintro ⟨k, a, hs, hu, rfl⟩
    exact ⟨k, List.mem_range.2 (List.getElem?_eq_some_iff.1 hs).1, by simp [hs, hu]⟩
theorem pair_filterMap {α β : Type} {R : α → α → Prop} {T : β → β → Prop} {f : α → Option β} : ∀ {l : List α}, l.Pairwise R → (∀ a b x y, a ∈ l → b ∈ l → R a b → f a = some x → f b = some y → T x y) → (l.filterMap f).Pairwise T := by
  intro l
  induction l with
  | nil => intro _ _; exact List.Pairwise.nil
  | cons a l ih =>
    intro h hT
    obtain ⟨h1, h2⟩ := List.pairwise_cons.1 h
    have h3 := ih h2 (fun a b x y ha hb => hT a b x y (List.mem_cons_of_mem _ ha) (List.mem_cons_of_mem _ hb))
    cases hf : f a with
    | none => rw [List.filterMap_cons_none hf]; exact h3
    | some x =>
      rw [List.filterMap_cons_some hf]
      refine List.pairwise_cons.2 ⟨fun y hy => ?_, h3⟩
      obtain ⟨b, hb, hfb⟩ := List.mem_filterMap.1 hy
      exact hT a b x y (by simp) (by simp [hb]) (h1 b hb) hf hfb
theorem items_ids (s : SS) : Ids (itemsOf s) := by
  unfold itemsOf
  refine pair_filterMap (R := fun a b => a < b) List.pairwise_lt_range fun i j x y _ _ hij hx hy => ?_
  cases hi : s.l[i]? with
  | none => simp [hi] at hx
  | some a =>
    cases hj : s.l[j]? with
    | none => simp [hj] at hy
    | some b =>
      rw [hi] at hx
      rw [hj] at hy
      cases hu : a.used <;> simp [hu] at hx
      cases hv : b.used <;> simp [hv] at hy
      subst hx hy
      show (i : Int) ≠ j
      omega
theorem where_apart {s : SS} (h : Uq s) : (whereOf s).Pairwise fun p q => p.1 ≠ q.1 := by
  unfold whereOf
  refine pair_filterMap (R := fun a b => a < b) List.pairwise_lt_range fun i j x y _ _ hij hx hy => ?_
  cases hi : s.l[i]? with
  | none => simp [hi] at hx
  | some a =>
    cases hj : s.l[j]? with
    | none => simp [hj] at hy
    | some b =>
      rw [hi] at hx
      rw [hj] at hy
      cases hu : a.used <;> simp [hu] at hx
      cases hv : b.used <;> simp [hv] at hy
      subst hx hy
      intro e
      have := h i j a b hi hj hu hv e
      omega
theorem perm_items {s : SS} {X : List It} (hX : Ids X) (h : ∀ x, x ∈ X ↔ x ∈ itemsOf s) : X.Perm (itemsOf s) :=
  (List.perm_ext_iff_of_nodup (hX.imp fun h e => h (by rw [e])) ((items_ids s).imp fun h e => h (by rw [e]))).2 h
theorem perm_where {s : SS} {M : List (Qn × Int)} (hU : Uq s) (hM : M.Pairwise fun p q => p.1 ≠ q.1) (h : ∀ x, x ∈ M ↔ x ∈ whereOf s) : M.Perm (whereOf s) :=
  (List.perm_ext_iff_of_nodup (hM.imp fun h e => h (by rw [e])) ((where_apart hU).imp fun h e => h (by rw [e]))).2 h
theorem at_get (s : SS) (k : Nat) (n : Sl) (j : Nat) : (s.at k n).l[j]? = if j = k then (if k < s.l.length then some n else none) else s.l[j]? := by
  show (s.l.set k n)[j]? = _
  rw [List.getElem?_set]
  by_cases h : k = j
  · subst h; simp
  · simp [h, Ne.symm h]
theorem at_len (s : SS) (k : Nat) (n : Sl) : (s.at k n).l.length = s.l.length := by simp [SS.at]
theorem items_del {s : SS} {k : Nat} (hk : k < s.l.length) : (delI (itemsOf s) k).Perm (itemsOf (s.at k Sl.none)) := by
  refine perm_items ((items_ids s).filter _) fun x => ?_
  unfold delI
  rw [List.mem_filter, mem_items, mem_items]
  constructor
  · rintro ⟨⟨j, a, hj, hu, rfl⟩, h2⟩
    have h3 : ¬ j = k := fun e => by subst e; simp at h2
    exact ⟨j, a, by rw [at_get, if_neg h3]; exact hj, hu, rfl⟩
  · rintro ⟨j, a, hj, hu, rfl⟩
    rw [at_get] at hj
    by_cases h3 : j = k
    · rw [if_pos h3, if_pos hk] at hj
      cases hj
      cases hu
    · rw [if_neg h3] at hj
      exact ⟨⟨j, a, hj, hu, rfl⟩, by simp; omega⟩
theorem Uq.at_none {s : SS} (h : Uq s) (k : Nat) : Uq (s.at k Sl.none) := by
  intro i j a b hi hj hu hv e
  rw [at_get] at hi hj
  split at hi
  · split at hi
    · cases hi; cases hu
    · cases hi
  · split at hj
    · split at hj
      · cases hj; cases hv
      · cases hj
    · exact h i j a b hi hj hu hv e
theorem wher_del {s : SS} (h : Uq s) {k : Nat} {a : Sl} (hk : s.l[k]? = some a) (hu : a.used = true) : (delL (whereOf s) a.x.q).Perm (whereOf (s.at k Sl.none)) := by
  have hlt := (List.getElem?_eq_some_iff.1 hk).1
  refine perm_where (h.at_none k) (del_apart (where_apart h) _) fun x => ?_
  unfold delL
  rw [List.mem_filter, mem_where, mem_where]
  constructor
  · rintro ⟨⟨j, b, hj, hv, rfl⟩, h2⟩
    have h3 : ¬ j = k := fun e => by
      subst e
      rw [hk] at hj
      cases hj
      simp at h2
    exact ⟨j, b, by rw [at_get, if_neg h3]; exact hj, hv, rfl⟩
  · rintro ⟨j, b, hj, hv, rfl⟩
    rw [at_get] at hj
    by_cases h3 : j = k
    · rw [if_pos h3, if_pos hlt] at hj
      cases hj
      cases hv
    · rw [if_neg h3] at hj
      refine ⟨⟨j, b, hj, hv, rfl⟩, ?_⟩
      rw [decide_eq_true_eq]
      exact fun e => h3 (h j k b a hj hk hv hu e)
theorem items_set {s : SS} {k : Nat} (hk : k < s.l.length) (e : En) (t : Bool) : (delI (itemsOf s) k ++ [(⟨k, e.expire⟩ : It)]).Perm (itemsOf (s.at k ⟨e, true, t⟩)) := by
  refine perm_items ?_ fun x => ?_
  · rw [Ids, List.pairwise_append]
    refine ⟨(items_ids s).filter _, List.pairwise_singleton _ _, fun x hx y hy => ?_⟩
    obtain rfl := List.mem_singleton.1 hy
    simpa using (List.mem_filter.1 hx).2
  · unfold delI
    rw [List.mem_append, List.mem_filter, mem_items, mem_items, List.mem_singleton]
    constructor
    · rintro (⟨⟨j, a, hj, hu, rfl⟩, h2⟩ | rfl)
      · have h3 : ¬ j = k := fun e => by subst e; simp at h2
        exact ⟨j, a, by rw [at_get, if_neg h3]; exact hj, hu, rfl⟩
      · exact ⟨k, ⟨e, true, t⟩, by rw [at_get, if_pos rfl, if_pos hk], rfl, rfl⟩
    · rintro ⟨j, a, hj, hu, rfl⟩
      rw [at_get] at hj
      by_cases h3 : j = k
      · rw [if_pos h3, if_pos hk] at hj
        cases hj
        subst h3
        exact .inr rfl
      · rw [if_neg h3] at hj
        exact .inl ⟨⟨j, a, hj, hu, rfl⟩, by simp; omega⟩
theorem Uq.at_new {s : SS} (h : Uq s) {k : Nat} {e : En} {t : Bool} (hq : ∀ (j : Nat) (b : Sl), s.l[j]? = some b → b.used = true → b.x.q = e.q → j = k) : Uq (s.at k ⟨e, true, t⟩) := by
  intro i j a b hi hj hu hv he
  rw [at_get] at hi hj
  split at hi
  · rename_i h1
    split at hi
    · cases hi
      split at hj
      · rename_i h2; omega
      · exact h1.trans (hq j b hj hv he.symm).symm
    · cases hi
  · split at hj
    · rename_i h1 h2
      split at hj
      · cases hj
        exact (hq i a hi hu he).trans h2.symm
      · cases hj
    · exact h i j a b hi hj hu hv he
theorem mem_put {Q V : Type} [DecidableEq Q] {L : List (Q × V)} {x : Q} {v : V} {p : Q × V} : p ∈ putL L x v ↔ (p = (x, v)) ∨ (p ∈ L ∧ p.1 ≠ x) := by
  unfold putL
  split
  · rename_i h
    rw [List.mem_map]
    constructor
    · rintro ⟨q, hq, rfl⟩
      split
      · exact .inl rfl
      · rename_i hne; exact .inr ⟨hq, hne⟩
    · rintro (rfl | ⟨hp, hne⟩)
      · obtain ⟨w, hw⟩ := Option.isSome_iff_exists.1 h
        exact ⟨(x, w), find_mem hw, by simp⟩
      · exact ⟨p, hp, by simp [hne]⟩
  · rename_i h
    rw [List.mem_append, List.mem_singleton]
    have h2 : findL L x = none := by simpa using h
    constructor
    · rintro (hp | rfl)
      · exact .inr ⟨hp, find_none h2 p hp⟩
      · exact .inl rfl
    · rintro (rfl | ⟨hp, -⟩)
      · exact .inr rfl
      · exact .inl hp
theorem wher_put {s : SS} (h : Uq s) {k : Nat} (hk : k < s.l.length) {e : En} {t : Bool} (hq : ∀ (j : Nat) (b : Sl), s.l[j]? = some b → b.used = true → b.x.q = e.q → j = k) (hk2 : ∀ (b : Sl), s.l[k]? = some b → b.used = true → b.x.q = e.q) :
    (putL (whereOf s) e.q (k : Int)).Perm (whereOf (s.at k ⟨e, true, t⟩)) := by
  refine perm_where (h.at_new hq) (put_apart (where_apart h) _ _) fun x => ?_
  rw [mem_put, mem_where, mem_where]
  constructor
  · rintro (rfl | ⟨⟨j, a, hj, hu, rfl⟩, h2⟩)
    · exact ⟨k, ⟨e, true, t⟩, by rw [at_get, if_pos rfl, if_pos hk], rfl, rfl⟩
    · have h3 : ¬ j = k := fun e' => by subst e'; exact h2 (hk2 a hj hu)
      exact ⟨j, a, by rw [at_get, if_neg h3]; exact hj, hu, rfl⟩
  · rintro ⟨j, a, hj, hu, rfl⟩
    rw [at_get] at hj
    by_cases h3 : j = k
    · rw [if_pos h3, if_pos hk] at hj
      cases hj
      subst h3
      exact .inl rfl
    · rw [if_neg h3] at hj
      exact .inr ⟨⟨j, a, hj, hu, rfl⟩, fun e' => h3 (hq j a hj hu e')⟩
/-- A question's slot. -/
def SS.find (s : SS) (q : Qn) : Option Nat := s.l.findIdx? fun a => a.used && decide (a.x.q = q)
theorem sfind_some {s : SS} {q : Qn} {k : Nat} (h : s.find q = some k) : ∃ a, s.l[k]? = some a ∧ a.used = true ∧ a.x.q = q := by
  unfold SS.find at h
  obtain ⟨hk, h2, -⟩ := List.findIdx?_eq_some_iff_getElem.1 h
  simp only [Bool.and_eq_true, decide_eq_true_eq] at h2
  exact ⟨_, List.getElem?_eq_getElem hk, h2.1, h2.2⟩
theorem sfind_none {s : SS} {q : Qn} (h : s.find q = none) : ∀ (k : Nat) (a : Sl), s.l[k]? = some a → a.used = true → a.x.q ≠ q := by
  intro k a hk hu e
  unfold SS.find at h
  rw [List.findIdx?_eq_none_iff] at h
  have := h a (List.mem_of_getElem? hk)
  simp [hu, e] at this
theorem sfind_of {s : SS} (hU : Uq s) {q : Qn} {k : Nat} {a : Sl} (hk : s.l[k]? = some a) (hu : a.used = true) (hq : a.x.q = q) : s.find q = some k := by
  cases h : s.find q with
  | none => exact absurd hq (sfind_none h k a hk hu)
  | some j =>
    obtain ⟨b, hj, hv, hb⟩ := sfind_some h
    rw [hU j k b a hj hk hv hu (hb.trans hq.symm)]
theorem find_where {s : SS} (hU : Uq s) (q : Qn) : findL (whereOf s) q = (s.find q).map fun k : Nat => (k : Int) := by
  cases h : s.find q with
  | some k =>
    obtain ⟨a, hk, hu, hq⟩ := sfind_some h
    exact mem_find (where_apart hU) (mem_where.2 ⟨k, a, hk, hu, by rw [hq]⟩)
  | none =>
    cases hf : findL (whereOf s) q with
    | none => rfl
    | some v =>
      obtain ⟨k, a, hk, hu, e⟩ := mem_where.1 (find_mem hf)
      have e1 : q = a.x.q := congrArg Prod.fst e
      exact absurd e1.symm (sfind_none h k a hk hu)
/-- A shard's blocks. -/
structure ShB where
  p : Nat
  ps : Nat
  pb : Nat
  pw : Nat
  g : Nat
  b : Nat
  c : Nat
  bs : List Nat
  bm : Nat
def ShB.ww (B : ShB) : List Nat := B.pw :: B.g :: B.b :: B.bs
def ShB.wr (B : ShB) : List Nat := B.ps :: B.pb :: B.bm :: B.pw :: B.b :: B.bs
def ShB.all (B : ShB) : List Nat := B.p :: B.ps :: B.pb :: B.bm :: B.ww
theorem ShB.wr_all (B : ShB) : ∀ x ∈ B.wr, x ∈ B.all := by
  intro x hx
  simp only [ShB.wr, ShB.all, ShB.ww, List.mem_cons] at hx ⊢
  rcases hx with h | h | h | h | h | h <;> simp [h]
/-- A shard of these slots, whose wheel has these items, and whose map these places. -/
structure ShW (w : World) (B : ShB) (tu : Int) (s : SS) (X : List It) (M : List (Qn × Int)) : Prop where
  blk : Blk w B.p 81 [.pointer (some ⟨B.ps, 0, none⟩), .pointer (some ⟨B.pw, 0, none⟩), .map (some B.bm)]
  sl : SlotsAt w B.ps B.pb s
  wh : WhAt w B.pw B.g B.b B.c B.bs tu X
  mp : mapIs Qn.lit vI Try.prog 33 w B.bm M
  sep : ∀ x ∈ B.ww, x ≠ B.p ∧ x ≠ B.ps ∧ x ≠ B.pb ∧ x ≠ B.bm
section
variable {w w' : World} {B : ShB} {tu : Int} {s : SS} {X Y : List It} {M N : List (Qn × Int)} {S : List Nat}
theorem ShW.d1 (h : ShW w B tu s X M) : B.p ≠ B.ps ∧ B.p ≠ B.pb ∧ B.p ≠ B.bm ∧ B.ps ≠ B.pb ∧ B.ps ≠ B.bm ∧ B.pb ≠ B.bm :=
  ⟨h.blk.ne h.sl.own (by decide), h.blk.ne h.sl.row (by decide), fun e => map_ne h.mp h.blk e.symm, h.sl.own.ne h.sl.row (by decide), fun e => map_ne h.mp h.sl.own e.symm, fun e => map_ne h.mp h.sl.row e.symm⟩
theorem ShW.fr (h : ShW w B tu s X M) (hf : Fr S w w') (hS : ∀ k ∈ B.all, k ∉ S) : ShW w' B tu s X M := by
  have h1 : ∀ k ∈ B.ww, k ∉ S := fun k hk => hS k (by unfold ShB.all; simp [hk])
  exact ⟨h.blk.fr hf (hS _ (by simp [ShB.all])), h.sl.fr hf (hS _ (by simp [ShB.all])) (hS _ (by simp [ShB.all])), h.wh.fr hf h1, map_fr h.mp hf (hS _ (by simp [ShB.all])), h.sep⟩
theorem ShW.fr0 (h : ShW w B tu s X M) (hf : Fr [] w w') : ShW w' B tu s X M := h.fr hf (by simp)
theorem ShW.lt (h : ShW w B tu s X M) : ∀ k ∈ B.all, k < w.heap.size := by
  intro k hk
  simp only [ShB.all, List.mem_cons] at hk
  rcases hk with rfl | rfl | rfl | rfl | hk
  · exact h.blk.lt
  · exact h.sl.own.lt
  · exact h.sl.row.lt
  · exact h.mp.lt
  · exact h.wh.lt k hk
theorem ShW.perm (h : ShW w B tu s X M) (hX : X.Perm Y) (hM : M.Perm N) : ShW w B tu s Y N := ⟨h.blk, h.sl, h.wh.perm hX, h.mp.perm hM, h.sep⟩
theorem ww_sub (B : ShB) : ∀ x ∈ B.b :: B.bs, x ∈ B.ww := fun x hx => by
  simp only [ShB.ww, List.mem_cons] at hx ⊢
  rcases hx with h | h <;> simp [h]
theorem ww_sub2 (B : ShB) : ∀ x ∈ B.pw :: B.b :: B.bs, x ∈ B.ww := fun x hx => by
  simp only [ShB.ww, List.mem_cons] at hx ⊢
  rcases hx with h | h | h <;> simp [h]
/-- The slots turned. -/
theorem ShW.slots (h : ShW w B tu s X M) {s' : SS} (hs : SlotsAt w' B.ps B.pb s') (hf : Fr [B.ps, B.pb] w w') : ShW w' B tu s' X M := by
  obtain ⟨n1, n2, n3, n4, n5, n6⟩ := h.d1
  refine ⟨h.blk.fr hf (by simp [n1, n2]), hs, h.wh.fr hf (fun k hk => ?_), map_fr h.mp hf (by simp [Ne.symm n5, Ne.symm n6]), h.sep⟩
  obtain ⟨-, k2, k3, -⟩ := h.sep k hk
  simp [k2, k3]
/-- The wheel turned. -/
theorem ShW.wheel (h : ShW w B tu s X M) {tu' : Int} (hw : WhAt w' B.pw B.g B.b B.c B.bs tu' Y) (hf : Fr S w w') (hS : ∀ x ∈ S, x ∈ B.ww) : ShW w' B tu' s Y M :=
  ⟨h.blk.fr hf (fun hx => (h.sep _ (hS _ hx)).1 rfl), h.sl.fr hf (fun hx => (h.sep _ (hS _ hx)).2.1 rfl) (fun hx => (h.sep _ (hS _ hx)).2.2.1 rfl), hw, map_fr h.mp hf (fun hx => (h.sep _ (hS _ hx)).2.2.2 rfl), h.sep⟩
/-- The map turned. -/
theorem ShW.map (h : ShW w B tu s X M) (hm : mapIs Qn.lit vI Try.prog 33 w' B.bm N) (hf : Fr [B.bm] w w') : ShW w' B tu s X N := by
  obtain ⟨n1, n2, n3, n4, n5, n6⟩ := h.d1
  refine ⟨h.blk.fr hf (by simp [n3]), h.sl.fr hf (by simp [n5]) (by simp [n6]), h.wh.fr hf (fun k hk => ?_), hm, h.sep⟩
  obtain ⟨-, -, -, k4⟩ := h.sep k hk
  simp [k4]
/-- A shard. -/
structure ShX (w : World) (B : ShB) (tu : Int) (s : SS) (X : List It) : Prop where
  w : ShW w B tu s X (whereOf s)
  uq : Uq s
abbrev ShAt (w : World) (B : ShB) (tu : Int) (s : SS) : Prop := ShX w B tu s (itemsOf s)
theorem ShX.fr (h : ShX w B tu s X) (hf : Fr S w w') (hS : ∀ k ∈ B.all, k ∉ S) : ShX w' B tu s X := ⟨h.w.fr hf hS, h.uq⟩
theorem ShX.fr0 (h : ShX w B tu s X) (hf : Fr [] w w') : ShX w' B tu s X := ⟨h.w.fr0 hf, h.uq⟩
theorem ShX.perm (h : ShX w B tu s X) (hX : X.Perm Y) : ShX w B tu s Y := ⟨h.w.perm hX (List.Perm.refl _), h.uq⟩
end
theorem Blk.three {w w2 : World} {g T : Nat} {a b c a' b' c' : Value} (H : Blk w g T [a, b, c])
    (hw : w2 = ((w.setCell ⟨g, 0, none⟩ a').setCell ⟨g, 1, none⟩ b').setCell ⟨g, 2, none⟩ c') : Blk w2 g T [a', b', c'] ∧ Fr [g] w w2 := by
  subst hw
  exact ⟨by simpa using ((H.set 0 a').set 1 b').set 2 c', (fr_set.trans fr_set).trans fr_set⟩
end Go.Proofs.Ytogjfcmclfehkaa
