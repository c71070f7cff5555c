import Derived.Test.YtenilmcndapaeaaS9
namespace Go.Proofs.Ytenilmcndapaeaa
open Go.RowKit

/- Slots, as pure functions. -/
def SS.put (s : SS) (x : ByteArray) : SS × Nat × Nat :=
  match s.l.findIdx? (fun a => !a.used) with
  | some k => (s.at k ⟨x, true, false⟩, k, 0)
  | none => (s, 0, 5)
def SS.get (s : SS) (i : Int) : ByteArray × Bool := if s.used i then (((s.l[i.toNat]?).map (·.x)).getD ⟨#[]⟩, true) else (⟨#[]⟩, false)
def SS.touch (s : SS) (i : Int) : SS := if s.used i then s.at i.toNat ⟨((s.l[i.toNat]?).map (·.x)).getD ⟨#[]⟩, true, true⟩ else s
def SS.set (s : SS) (i : Int) (x : ByteArray) : SS := if s.used i then s.at i.toNat ⟨x, true, ((s.l[i.toNat]?).map (·.touched)).getD false⟩ else s
def SS.free (s : SS) (i : Int) : SS := if s.used i then s.at i.toNat Sl.none else s
def SS.victim (s : SS) : SS × Nat × Bool := s.vic (2 * s.l.length)

theorem findIdx_some {s : SS} {k : Nat} (h : s.l.findIdx? (fun a => !a.used) = some k) : ∃ hk : k < s.l.length, s.l[k].used = false ∧ ∀ j (hj : j < k), s.l[j].used = true := by
  rw [List.findIdx?_eq_some_iff_getElem] at h
  obtain ⟨hk, h1, h2⟩ := h
  exact ⟨hk, by simpa using h1, fun j hj => by simpa using h2 j hj⟩
theorem findIdx_none {s : SS} (h : s.l.findIdx? (fun a => !a.used) = none) : ∀ j (hj : j < s.l.length), s.l[j].used = true := by
  rw [List.findIdx?_eq_none_iff] at h
  intro j hj
  simpa using h _ (List.getElem_mem hj)

theorem put_any {w : World} {p b : Nat} {s : SS} (h : SlotsAt w p b s) (x : ByteArray) :
    Calls Try.prog 21 #[.pointer (some ⟨p, 0, none⟩), .string x] w fun e w' => e = .returned (.tuple #[.int .i64 (s.put x).2.1, .int .i64 (s.put x).2.2]) ∧ SlotsAt w' p b (s.put x).1 ∧ Fr [p, b] w w' := by
  unfold SS.put
  cases hf : s.l.findIdx? (fun a => !a.used) with
  | none =>
    refine (put_no h x (fun j hj => ⟨s.l[j], List.getElem?_eq_getElem hj, findIdx_none hf j hj⟩)).mono ?_
    rintro e w' ⟨rfl, rfl⟩
    exact ⟨rfl, h, Fr.refl _ _⟩
  | some k =>
    obtain ⟨hk, h1, h2⟩ := findIdx_some hf
    refine (put_yes h x k s.l[k] (List.getElem?_eq_getElem hk) h1 (fun j hj => ⟨s.l[j], List.getElem?_eq_getElem (by omega), h2 j hj⟩)).mono ?_
    rintro e w' ⟨rfl, hs, hf⟩
    exact ⟨rfl, hs, hf.mono (by simp)⟩

theorem rput_any {w : World} {gx cx gu cu gt ct : Nat} {s : SS} (h : RefAt w gx cx gu cu gt ct s) (x : ByteArray) :
    Calls Try.prog 25 #[refV gx cx gu cu gt ct s.l.length s.hand, .string x] w fun e w' => ∃ gx cx gu cu gt ct,
      e = .returned (.tuple #[refV gx cx gu cu gt ct (s.put x).1.l.length (s.put x).1.hand, .int .i64 (s.put x).2.1, .int .i64 (s.put x).2.2]) ∧ RefAt w' gx cx gu cu gt ct (s.put x).1 ∧ Fr [] w w' := by
  unfold SS.put
  cases hf : s.l.findIdx? (fun a => !a.used) with
  | none =>
    refine (rput_no h x (findIdx_none hf)).mono ?_
    rintro e w' ⟨rfl, hf⟩
    exact ⟨gx, cx, gu, cu, gt, ct, rfl, h.fr hf (by simp) (by simp) (by simp), hf⟩
  | some k =>
    obtain ⟨hk, h1, h2⟩ := findIdx_some hf
    refine (rput_yes h x k hk h1 h2).mono ?_
    rintro e w' ⟨gx, cx, gu, cu, gt, ct, rfl, hs, hf⟩
    exact ⟨gx, cx, gu, cu, gt, ct, by simp [SS.at], hs, hf⟩

theorem get_any {w : World} {p b : Nat} {s : SS} (h : SlotsAt w p b s) (i : Int) :
    Calls Try.prog 22 #[.pointer (some ⟨p, 0, none⟩), .int .i64 i] w fun e w' => e = .returned (.tuple #[.string (s.get i).1, .bool (s.get i).2]) ∧ w = w' := by
  unfold SS.get
  cases hu : s.used i with
  | false => simpa using get_no h i hu
  | true =>
    obtain ⟨k, a, rfl, hk, ha, hlt⟩ := SS.used_true hu
    have := get_yes h k a hk ha
    simpa [hk] using this
theorem rget_any {w : World} {gx cx gu cu gt ct : Nat} {s : SS} (h : RefAt w gx cx gu cu gt ct s) (i : Int) :
    Calls Try.prog 26 #[refV gx cx gu cu gt ct s.l.length s.hand, .int .i64 i] w fun e w' => e = .returned (.tuple #[.string (s.get i).1, .bool (s.get i).2]) ∧ Fr [] w w' := by
  unfold SS.get
  cases hu : s.used i with
  | false => simpa using rget_no h i hu
  | true =>
    obtain ⟨k, a, rfl, hk, ha, hlt⟩ := SS.used_true hu
    have e : a = s.l[k] := by rw [List.getElem?_eq_getElem hlt] at hk; simpa using hk.symm
    subst e
    have := rget_yes h k hlt ha
    simpa [hk] using this

theorem touch_any {w : World} {p b : Nat} {s : SS} (h : SlotsAt w p b s) (i : Int) :
    Calls Try.prog 20 #[.pointer (some ⟨p, 0, none⟩), .int .i64 i] w fun e w' => e = .returned (.bool (s.used i)) ∧ SlotsAt w' p b (s.touch i) ∧ Fr [p, b] w w' := by
  unfold SS.touch
  cases hu : s.used i with
  | false =>
    refine (touch_no h i hu).mono ?_
    rintro e w' ⟨rfl, rfl⟩
    exact ⟨rfl, by simpa using h, Fr.refl _ _⟩
  | true =>
    obtain ⟨k, a, rfl, hk, ha, hlt⟩ := SS.used_true hu
    refine (touch_yes h k a hk ha).mono ?_
    rintro e w' ⟨rfl, hs, hf⟩
    refine ⟨rfl, ?_, hf.mono (by simp)⟩
    obtain ⟨x, u, t⟩ := a
    simp only at ha
    subst ha
    simpa [hk] using hs
theorem rtouch_any {w : World} {gx cx gu cu gt ct : Nat} {s : SS} (h : RefAt w gx cx gu cu gt ct s) (i : Int) :
    Calls Try.prog 27 #[refV gx cx gu cu gt ct s.l.length s.hand, .int .i64 i] w fun e w' => ∃ gx cx gu cu gt ct,
      e = .returned (.tuple #[refV gx cx gu cu gt ct (s.touch i).l.length (s.touch i).hand, .bool (s.used i)]) ∧ RefAt w' gx cx gu cu gt ct (s.touch i) ∧ Fr [] w w' := by
  unfold SS.touch
  cases hu : s.used i with
  | false =>
    refine (rtouch_no h i hu).mono ?_
    rintro e w' ⟨rfl, hf⟩
    exact ⟨gx, cx, gu, cu, gt, ct, rfl, h.fr hf (by simp) (by simp) (by simp), hf⟩
  | true =>
    obtain ⟨k, a, rfl, hk, ha, hlt⟩ := SS.used_true hu
    have e : a = s.l[k] := by rw [List.getElem?_eq_getElem hlt] at hk; simpa using hk.symm
    subst e
    refine (rtouch_yes h k hlt ha).mono ?_
    rintro e w' ⟨gx, cx, gu, cu, gt, ct, rfl, hs, hf⟩
    exact ⟨gx, cx, gu, cu, gt, ct, by simp [SS.at], by simpa [hk] using hs, hf⟩

theorem set_any {w : World} {p b : Nat} {s : SS} (h : SlotsAt w p b s) (i : Int) (x : ByteArray) :
    Calls Try.prog 24 #[.pointer (some ⟨p, 0, none⟩), .int .i64 i, .string x] w fun e w' => e = .returned (.bool (s.used i)) ∧ SlotsAt w' p b (s.set i x) ∧ Fr [p, b] w w' := by
  unfold SS.set
  cases hu : s.used i with
  | false =>
    refine (set_no h i x hu).mono ?_
    rintro e w' ⟨rfl, rfl⟩
    exact ⟨rfl, by simpa using h, Fr.refl _ _⟩
  | true =>
    obtain ⟨k, a, rfl, hk, ha, hlt⟩ := SS.used_true hu
    refine (set_yes h k a x hk ha).mono ?_
    rintro e w' ⟨rfl, hs, hf⟩
    refine ⟨rfl, ?_, hf.mono (by simp)⟩
    rw [← ha]
    simpa [hk] using hs
theorem rset_any {w : World} {gx cx gu cu gt ct : Nat} {s : SS} (h : RefAt w gx cx gu cu gt ct s) (i : Int) (x : ByteArray) :
    Calls Try.prog 29 #[refV gx cx gu cu gt ct s.l.length s.hand, .int .i64 i, .string x] w fun e w' => ∃ gx cx gu cu gt ct,
      e = .returned (.tuple #[refV gx cx gu cu gt ct (s.set i x).l.length (s.set i x).hand, .bool (s.used i)]) ∧ RefAt w' gx cx gu cu gt ct (s.set i x) ∧ Fr [] w w' := by
  unfold SS.set
  cases hu : s.used i with
  | false =>
    refine (rset_no h i x hu).mono ?_
    rintro e w' ⟨rfl, hf⟩
    exact ⟨gx, cx, gu, cu, gt, ct, rfl, h.fr hf (by simp) (by simp) (by simp), hf⟩
  | true =>
    obtain ⟨k, a, rfl, hk, ha, hlt⟩ := SS.used_true hu
    have e : a = s.l[k] := by rw [List.getElem?_eq_getElem hlt] at hk; simpa using hk.symm
    subst e
    refine (rset_yes h k x hlt ha).mono ?_
    rintro e w' ⟨gx, cx, gu, cu, gt, ct, rfl, hs, hf⟩
    exact ⟨gx, cx, gu, cu, gt, ct, by simp [SS.at], by simpa [hk] using hs, hf⟩

theorem free_any {w : World} {p b : Nat} {s : SS} (h : SlotsAt w p b s) (i : Int) :
    Calls Try.prog 23 #[.pointer (some ⟨p, 0, none⟩), .int .i64 i] w fun e w' => e = .returned (.bool (s.used i)) ∧ SlotsAt w' p b (s.free i) ∧ Fr [p, b] w w' := by
  unfold SS.free
  cases hu : s.used i with
  | false =>
    refine (free_no h i hu).mono ?_
    rintro e w' ⟨rfl, rfl⟩
    exact ⟨rfl, by simpa using h, Fr.refl _ _⟩
  | true =>
    obtain ⟨k, a, rfl, hk, ha, hlt⟩ := SS.used_true hu
    refine (free_yes h k a hk ha).mono ?_
    rintro e w' ⟨rfl, hs, hf⟩
    exact ⟨rfl, by simpa using hs, hf.mono (by simp)⟩
theorem rfree_any {w : World} {gx cx gu cu gt ct : Nat} {s : SS} (h : RefAt w gx cx gu cu gt ct s) (i : Int) :
    Calls Try.prog 28 #[refV gx cx gu cu gt ct s.l.length s.hand, .int .i64 i] w fun e w' => ∃ gx cx gu cu gt ct,
      e = .returned (.tuple #[refV gx cx gu cu gt ct (s.free i).l.length (s.free i).hand, .bool (s.used i)]) ∧ RefAt w' gx cx gu cu gt ct (s.free i) ∧ Fr [] w w' := by
  unfold SS.free
  cases hu : s.used i with
  | false =>
    refine (rfree_no h i hu).mono ?_
    rintro e w' ⟨rfl, hf⟩
    exact ⟨gx, cx, gu, cu, gt, ct, rfl, h.fr hf (by simp) (by simp) (by simp), hf⟩
  | true =>
    obtain ⟨k, a, rfl, hk, ha, hlt⟩ := SS.used_true hu
    have e : a = s.l[k] := by rw [List.getElem?_eq_getElem hlt] at hk; simpa using hk.symm
    subst e
    refine (rfree_yes h k hlt ha).mono ?_
    rintro e w' ⟨gx, cx, gu, cu, gt, ct, rfl, hs, hf⟩
    exact ⟨gx, cx, gu, cu, gt, ct, by simp [SS.at], by simpa [Sl.none] using hs, hf⟩
end Go.Proofs.Ytenilmcndapaeaa
