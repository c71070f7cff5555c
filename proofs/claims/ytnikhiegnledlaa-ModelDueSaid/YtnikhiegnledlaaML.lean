import Derived.Test.YtnikhiegnledlaaM10
namespace Go.Proofs.Ytnikhiegnledlaa
open Go Go.RowKit Go.Proofs.MapL PPM Go.Proofs.YtnikhiegnledlaaW.PrintWords

theorem DeedsAt.fr {w w' : World} {v : Value} {ds : List Dd} (h : DeedsAt w v ds) (hf : Fr [] w w') : DeedsAt w' v ds := by
  obtain ⟨h1, h2, A, c, rfl, h3⟩ := h
  refine ⟨h1, fun d hd => ((h2 d hd).step hf (by simp)).mono fun k hk => Nat.lt_of_lt_of_le hk hf.size, A, c, rfl, fun h0 => ?_⟩
  obtain ⟨b, off, e, hb, hc⟩ := h3 h0
  exact ⟨b, off, e, Nat.lt_of_lt_of_le hb hf.size, fun i hi j u hu => hf.cell (hc i hi j u hu) (by simp)⟩
theorem find_delX_same (X : List Ex) (q : Qn) : findE (ents (delX X q)) q = none := by
  unfold findE
  rw [List.find?_eq_none]
  intro e he
  obtain ⟨x, hx, rfl⟩ := List.mem_map.1 he
  have := (List.mem_filter.1 hx).2
  simpa using this
theorem mem_delX {X : List Ex} {q : Qn} {x : Ex} (h : x ∈ delX X q) : x ∈ X := (List.mem_filter.1 h).1
theorem delX_delX (X : List Ex) (q : Qn) : delX (delX X q) q = delX X q := by
  unfold delX; rw [List.filter_filter]; simp
theorem delX_none {X : List Ex} {q : Qn} (h : findE (ents X) q = none) : delX X q = X := by
  unfold delX
  rw [List.filter_eq_self]
  intro x hx
  have := List.find?_eq_none.1 h x.e (List.mem_map.2 ⟨x, hx, rfl⟩)
  simpa using this
theorem lookX_find (X : List Ex) (q : Qn) (now : Int) : lookX X q now = (X.find? fun x => decide (x.e.q = q)).bind fun x => if liveB x.e.expire now then some x else none := by
  unfold lookX idxX
  induction X with
  | nil => rfl
  | cons x X ih =>
    rw [List.findIdx?_cons, List.find?_cons]
    by_cases h : x.e.q = q
    · simp [h]
    · have e : decide (x.e.q = q) = false := decide_eq_false h
      rw [e]
      simp only [Bool.false_eq_true, if_false]
      rw [← ih]
      cases X.findIdx? (fun x => decide (x.e.q = q)) <;> rfl
theorem lookX_del {X : List Ex} {q o : Qn} (h : o ≠ q) (now : Int) : lookX (delX X q) o now = lookX X o now := by
  rw [lookX_find, lookX_find]
  congr 1
  unfold delX
  induction X with
  | nil => rfl
  | cons x X ih =>
    rw [List.filter_cons, List.find?_cons]
    by_cases hx : x.e.q = q
    · rw [if_neg (by simpa using hx), ih]
      have e : decide (x.e.q = o) = false := decide_eq_false (by rw [hx]; exact Ne.symm h)
      rw [e]
    · rw [if_pos (by simpa using hx), List.find?_cons]
      cases decide (x.e.q = o)
      · exact ih
      · rfl
theorem lookS_of {X Y : List Ex} {q : Qn} {n m : Int} (h : lookX X q n = lookX Y q m) : lookS X q n = lookS Y q m := by unfold lookS; rw [h]
theorem delX_len {X : List Ex} (ha : (ents X).Pairwise fun a b => a.q ≠ b.q) (q : Qn) : (delX X q).length + (if (findE (ents X) q).isSome then 1 else 0) = X.length := by
  have h1 : (kv (ents X)).Pairwise fun p q => p.1 ≠ q.1 := by unfold kv; rw [List.pairwise_map]; exact ha
  have h2 := del_len h1 q
  rw [kv_del, kv_find, kv_len, kv_len, ← delX_ents] at h2
  simpa using h2
theorem q_bool {a b : Qn} (h : a ≠ b) : (a.name.toList == b.name.toList && (a.ty == b.ty && (a.cl == b.cl))) = false := by
  rw [Bool.eq_false_iff]
  intro hh
  simp only [Bool.and_eq_true, beq_iff_eq] at hh
  exact h (qn_ext (ba_ext hh.1) hh.2.1 hh.2.2)
theorem same_kd {w : World} {ok ok' : Nat → Prop} (s : S35) {A A' : Option Addr} {c c' : Nat} (h : Kd.F k70 w ok A s.f1.length s.f1) (hc : s.f1.length ≤ c) (h' : Kd.F k70 w ok' A' s.f1.length s.f1) (hc' : s.f1.length ≤ c') :
    Calls Try.prog 19 #[.agg #[.string s.f0.f0, .int .u16 s.f0.f1, .int .u16 s.f0.f2, .slice A s.f1.length c, .int .i64 s.f2, .int .i64 s.f3, .int .u64 s.f4], .agg #[.string s.f0.f0, .int .u16 s.f0.f1, .int .u16 s.f0.f2, .slice A' s.f1.length c', .int .i64 s.f2, .int .i64 s.f3, .int .u64 s.f4]] w fun r w' => r = .returned (.bool true) ∧ Fr [] w w' :=
  (derrickref12_Same.calls (s.f1.length + 2) s.f0.f0 s.f0.f1 s.f0.f2 A c s.f1 s.f2 s.f3 s.f4 s.f0.f0 s.f0.f1 s.f0.f2 A' c' s.f1 s.f2 s.f3 s.f4 true w (Kd.F_now h) hc (Kd.F_now h') hc' (same_self _ _ _ _ _ _ _ (by omega) (Kd.F_now h).2.1)).mono fun _ _ ⟨h1, h2⟩ => ⟨h1, fr_below h2⟩
theorem alloc_of {w w1 : World} {o : Obj} (hw : w1 = w.alloc o) : Fr [] w w1 := by rw [hw]; exact (Fr.refl [] w).alloc _
theorem blk_of {w w1 : World} {T : TypeId} {c : List Value} (hw : w1 = w.alloc (.cells c.toArray T)) : Blk w1 w.heap.size T c := by rw [hw]; exact Blk.new _ _ _
theorem blk_ne_map {w : World} {p b g T : Nat} {room : Int} {L : List En} {c : List Value} (h : MAt w p b room L) (hb : Blk w g T c) (_ : True) : g ∉ [b] := by
  simp only [List.mem_singleton]
  exact fun e => map_ne h.map hb e.symm

theorem mem_find {L : List En} {q : Qn} {o : En} (h : findE L q = some o) : o ∈ L ∧ o.q = q := ⟨List.mem_of_find?_eq_some h, by simpa using List.find?_some h⟩
theorem putE_find (L : List En) (e : En) : findE (putE L e) e.q = some e := by
  have h := kv_find (putE L e) e.q
  rw [← kv_put] at h
  rw [← h, find_put]
  simp
theorem putE_len (L : List En) (e : En) : (putE L e).length = if (findE L e.q).isSome then L.length else L.length + 1 := by
  unfold putE; split <;> simp
theorem ins_cases (L : List En) (e : En) (now : Int) (hL : L.length ≤ 5) :
    (liveB e.expire now = false ∧ insC L 5 e now = 4 ∧ insL L 5 e now = L) ∨
    (liveB e.expire now = true ∧ (findE L e.q).isSome = true ∧ insC L 5 e now = 0 ∧ insL L 5 e now = putE L e ∧ (putE L e).length = L.length) ∨
    (liveB e.expire now = true ∧ (findE L e.q).isSome = true ∧ insC L 5 e now = 7 ∧ insL L 5 e now = L) ∨
    (liveB e.expire now = true ∧ (findE L e.q).isSome = false ∧ (5 : Int) ≤ L.length ∧ insC L 5 e now = 5 ∧ insL L 5 e now = L) ∨
    (liveB e.expire now = true ∧ (findE L e.q).isSome = false ∧ (L.length : Int) < 5 ∧ insC L 5 e now = 0 ∧ insL L 5 e now = putE L e ∧ (putE L e).length = L.length + 1) := by
  unfold insL
  unfold insC
  rw [putE_len]
  cases hl : liveB e.expire now
  · simp
  · cases hf : findE L e.q with
    | none =>
      by_cases h5 : (L.length : Int) ≥ 5
      · simp [h5]; try omega
      · simp [h5]; try omega
    | some o => cases hb : beatsB o e now <;> simp [hb]
end Go.Proofs.Ytnikhiegnledlaa
