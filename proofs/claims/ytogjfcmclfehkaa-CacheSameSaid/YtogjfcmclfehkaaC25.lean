import Derived.Test.YtogjfcmclfehkaaC24a
namespace Go.Proofs.Ytogjfcmclfehkaa
open Go Go.RowKit Go.Proofs.MapL PPM Go.Proofs.YtogjfcmclfehkaaW.PrintWords

/-! ### One shard, and many: what their entries are -/
theorem len_sub {α : Type} [DecidableEq α] : ∀ {l m : List α}, l.Nodup → (∀ x ∈ l, x ∈ m) → l.length ≤ m.length := by
  intro l
  induction l with
  | nil => intro m _ _; simp
  | cons a l ih =>
    intro m hn hs
    rw [List.nodup_cons] at hn
    have ham := hs a List.mem_cons_self
    have h1 : ∀ x ∈ l, x ∈ m.erase a := fun x hx => (List.mem_erase_of_ne (fun e => hn.1 (by rw [← e]; exact hx))).2 (hs x (List.mem_cons_of_mem _ hx))
    have h2 := ih hn.2 h1
    rw [List.length_erase_of_mem ham] at h2
    have := List.length_pos_of_mem ham
    simp only [List.length_cons]; omega
theorem gone_none {s : SS} (h : s.all.length < s.l.length) (now : Int) : goneQ s now = [] := by unfold goneQ; rw [if_pos h]
theorem at_len' (s : SS) (k : Nat) (a : Sl) : (s.at k a).l.length = s.l.length := by simp [SS.at]
theorem clr_len' : ∀ (l : List Nat) (s : SS), (clr s l).l.length = s.l.length := by
  intro l
  induction l with
  | nil => intro s; rfl
  | cons k l ih => intro s; show (clr (s.at k Sl.none) l).l.length = _; rw [ih, at_len']
theorem look_len' (s : SS) (q : Qn) (now : Int) : (lookR s q now).1.l.length = s.l.length := by
  unfold lookR
  split
  · rfl
  · split
    · rfl
    · split
      · exact at_len' _ _ _
      · rfl
/-- Keys of a shard that has no others. -/
theorem all_sub {s s' : SS} (hU : Uq s) (hU' : Uq s') (h : ∀ q, (s'.ent q).isSome = true → (s.ent q).isSome = true) : s'.all.length ≤ s.all.length := by
  rw [← keys_len, ← keys_len]
  exact len_sub (keys_nodup hU') fun q hq => (mem_keys hU).2 (h q ((mem_keys hU').1 hq))
theorem all_sub1 {s s' : SS} (hU : Uq s) (hU' : Uq s') (q0 : Qn) (h : ∀ q, q ≠ q0 → (s'.ent q).isSome = true → (s.ent q).isSome = true) : s'.all.length ≤ s.all.length + 1 := by
  rw [← keys_len, ← keys_len]
  have h1 : (keysS s').length ≤ (q0 :: keysS s).length := len_sub (keys_nodup hU') fun q hq => by
    by_cases e : q = q0
    · subst e; exact List.mem_cons_self
    · exact List.mem_cons_of_mem _ ((mem_keys hU).2 (h q e ((mem_keys hU').1 hq)))
  simpa using h1
/-- What an insertion into a shard with room makes of its entries. -/
def insE (o : Option En) (e : En) (now : Int) : Option En × Int :=
  if liveB e.expire now then
    match o with
    | some x => if beatsB x e now then (some e, 0) else (some x, 7)
    | none => (some e, 0)
  else (o, 4)
theorem ins_any {s : SS} (hU : Uq s) (hh : s.hand < s.l.length) (hr : s.all.length < s.l.length) (e : En) (now : Int) :
    (insR s e now).2.2 = (insE (s.ent e.q) e now).2 ∧ Uq (insR s e now).1 ∧ (insR s e now).1.l.length = s.l.length ∧ ∀ q, (insR s e now).1.ent q = if q = e.q then (insE (s.ent e.q) e now).1 else s.ent q := by
  have hlen : (insR s e now).1.l.length = s.l.length := by
    unfold insR
    split
    · split
      · split
        · split
          · exact at_len' _ _ _
          · rfl
        · rfl
      · rw [at_len']; unfold roomS; rw [if_pos hr]
    · rfl
  unfold insE
  cases hl : liveB e.expire now with
  | false =>
    have h1 := ins_dead (s := s) hl
    refine ⟨by rw [h1]; rfl, by rw [h1]; exact hU, hlen, fun q => ?_⟩
    rw [h1]
    show s.ent q = _
    split
    · rename_i h; rw [h]; rfl
    · rfl
  | true =>
    cases ho : s.ent e.q with
    | none =>
      obtain ⟨h2, h3, -, h4⟩ := ins_new hh hU hl ho
      refine ⟨by rw [h2]; rfl, h3, hlen, fun q => ?_⟩
      rw [h4, gone_none hr]
      simp
    | some x =>
      cases hb : beatsB x e now with
      | false =>
        have h1 := ins_low hl ho hb
        refine ⟨by rw [h1]; simp [hb], by rw [h1]; exact hU, hlen, fun q => ?_⟩
        rw [h1]
        show s.ent q = _
        split
        · rename_i h; rw [h, ho]; simp [hb]
        · rfl
      | true =>
        obtain ⟨h2, h3, -, h4⟩ := ins_beats hU hl ho hb
        refine ⟨by rw [h2]; simp [hb], h3, hlen, fun q => ?_⟩
        rw [h4]; simp [hb]
/-- A deed's entries. -/
def entD (o : Option En) (d : Dd) (q : Qn) : Option En :=
  if d.kind = 1 then (if q = d.e.q then (insE o d.e d.now).1 else o)
  else if d.kind = 2 then o
  else if d.kind = 3 then (if q = d.e.q then none else o)
  else o.filter fun x => decide (d.now < x.expire)
theorem done_any {s : SS} (hU : Uq s) (hh : s.hand < s.l.length) (hr : s.all.length < s.l.length) (d : Dd) :
    Uq (doneS s d) ∧ (doneS s d).l.length = s.l.length ∧ (doneS s d).all.length ≤ s.all.length + 1 ∧ ∀ q, (doneS s d).ent q = entD (s.ent q) d q := by
  unfold doneS entD
  by_cases h1 : d.kind = 1
  · rw [if_pos h1]
    obtain ⟨-, k2, k3, k4⟩ := ins_any hU hh hr d.e d.now
    refine ⟨k2, k3, all_sub1 hU k2 d.e.q fun q hq h => ?_, fun q => ?_⟩
    · rw [k4, if_neg hq] at h; exact h
    · rw [k4, if_pos h1]
      split
      · rename_i h; rw [h]
      · rfl
  · rw [if_neg h1]
    by_cases h2 : d.kind = 2
    · rw [if_pos h2]
      have k := (look_uq hU d.e.q d.now).1
      refine ⟨k, look_len' _ _ _, Nat.le_succ_of_le (all_sub hU k fun q h => ?_), fun q => ?_⟩
      · rw [look_ent hU] at h; exact h
      · rw [if_neg h1, if_pos h2, look_ent hU]
    · rw [if_neg h2]
      by_cases h3 : d.kind = 3
      · rw [if_pos h3]
        have k := evict_uq hU d.e.q
        refine ⟨k, evict_len _ _, Nat.le_succ_of_le (all_sub hU k fun q h => ?_), fun q => ?_⟩
        · rw [evict_ent hU] at h
          split at h
          · cases h
          · exact h
        · rw [if_neg h1, if_neg h2, if_pos h3, evict_ent hU]
      · rw [if_neg h3]
        have k := due_uq hU d.now
        refine ⟨k, by unfold dueS; exact clr_len' _ _, Nat.le_succ_of_le (all_sub hU k fun q h => ?_), fun q => ?_⟩
        · rw [due_ent hU] at h
          cases ho : s.ent q with
          | none => rw [ho] at h; cases h
          | some x => rfl
        · rw [if_neg h1, if_neg h2, if_neg h3, due_ent hU]
theorem done_tell {s s' : SS} (hU : Uq s) (hU' : Uq s') (hh : s.hand < s.l.length) (hh' : s'.hand < s'.l.length) (hr : s.all.length < s.l.length) (hr' : s'.all.length < s'.l.length) (d : Dd) (he : s.ent d.e.q = s'.ent d.e.q) (hk : 1 ≤ d.kind ∧ d.kind ≤ 3) :
    (doneT s d).told = (doneT s' d).told ∧ (doneT s d).is = (doneT s' d).is ∧ (doneT s d).err = (doneT s' d).err ∧ ((doneT s d).told = zeroEn ∨ s.ent d.e.q = some (doneT s d).told) := by
  by_cases h1 : d.kind = 1
  · have e : ∀ s : SS, doneT s d = ⟨zeroEn, false, (insR s d.e d.now).2.2, (insR s d.e d.now).2.1⟩ := fun s => by unfold doneT; rw [if_pos h1]
    rw [e s, e s']
    refine ⟨rfl, rfl, ?_, .inl rfl⟩
    show (insR s d.e d.now).2.2 = (insR s' d.e d.now).2.2
    rw [(ins_any hU hh hr d.e d.now).1, (ins_any hU' hh' hr' d.e d.now).1, he]
  · by_cases h2 : d.kind = 2
    · have e : ∀ s : SS, doneT s d = ⟨(tellE (s.ent d.e.q) d.now).1, (tellE (s.ent d.e.q) d.now).2, 0, []⟩ := fun s => by unfold doneT; rw [if_neg h1, if_pos h2, look_told]
      rw [e s, e s', he]
      refine ⟨rfl, rfl, rfl, ?_⟩
      show (tellE (s'.ent d.e.q) d.now).1 = zeroEn ∨ s'.ent d.e.q = some (tellE (s'.ent d.e.q) d.now).1
      cases s'.ent d.e.q with
      | none => exact .inl rfl
      | some x =>
        cases hl : liveB x.expire d.now with
        | false => exact .inl (by simp [tellE, hl])
        | true => exact .inr (by simp [tellE, hl])
    · have h3 : d.kind = 3 := by omega
      have e : ∀ s : SS, doneT s d = ⟨zeroEn, (s.find d.e.q).isSome, 0, if (s.find d.e.q).isSome then [d.e.q] else []⟩ := fun s => by unfold doneT; rw [if_neg h1, if_neg h2, if_pos h3]
      rw [e s, e s']
      refine ⟨rfl, ?_, rfl, .inl rfl⟩
      show (s.find d.e.q).isSome = (s'.find d.e.q).isSome
      rw [ent_find, ent_find, he]
/-! ### A deed at many shards -/
theorem ssAt_set {ss : List SS} {i k : Nat} {s : SS} (hi : i < ss.length) : ssAt (ss.set i s) k = if k = i then s else ssAt ss k := by
  unfold ssAt
  by_cases h : k = i
  · subst h; rw [List.getElem?_set_self hi, if_pos rfl]; rfl
  · rw [List.getElem?_set_ne (Ne.symm h), if_neg h]
theorem finS_at (d : Dd) : ∀ (left : List Nat) (ss : List SS), left.Nodup → (∀ i ∈ left, i < ss.length) → ∀ k, ssAt (finS d ss left) k = if k ∈ left then doneS (ssAt ss k) d else ssAt ss k := by
  intro left
  induction left with
  | nil => intro ss _ _ k; simp [finS]
  | cons i l ih =>
    intro ss hn hl k
    rw [List.nodup_cons] at hn
    have hi := hl i List.mem_cons_self
    show ssAt (finS d (ss.set i (doneS (ssAt ss i) d)) l) k = _
    rw [ih _ hn.2 (fun j hj => by rw [List.length_set]; exact hl j (List.mem_cons_of_mem _ hj)) k, ssAt_set hi]
    by_cases h : k = i
    · subst h
      rw [if_neg hn.1, if_pos rfl, if_pos List.mem_cons_self]
    · rw [if_neg h]
      by_cases h2 : k ∈ l
      · rw [if_pos h2, if_pos (List.mem_cons_of_mem _ h2)]
      · rw [if_neg h2, if_neg (by simp [h, h2])]
def doneC (d : Dd) (ss : List SS) (n : Nat) : List SS := if 1 ≤ d.kind ∧ d.kind ≤ 4 then finS d ss (leftD d n) else ss
theorem leftD_nodup (d : Dd) (n : Nat) : (leftD d n).Nodup := by
  unfold leftD
  split
  · exact List.nodup_range
  · simp
/-- One shard's entries are those of many. -/
structure Alike (W : World) (A : SS) (Bs : List SS) (n m : Nat) : Prop where
  ln : Bs.length = n
  ent : ∀ q, A.ent q = (ssAt Bs (hashK q n)).ent q
  key : ∀ i, i < n → ∀ q, ((ssAt Bs i).ent q).isSome = true → hashK q n = i
  la : A.l.length = 64
  lb : ∀ i, i < n → (ssAt Bs i).l.length = 64
  ca : A.all.length ≤ m
  cb : ∀ i, i < n → (ssAt Bs i).all.length ≤ m
  rd : ∀ q x, A.ent q = some x → RdE W x
theorem ssAt_out {ss : List SS} {i : Nat} (h : ss.length ≤ i) (q : Qn) : (ssAt ss i).ent q = none := by
  unfold ssAt; rw [List.getElem?_eq_none h]; rfl
theorem entD_rd {W : World} {o : Option En} {d : Dd} {q : Qn} {x : En} (hd : RdE W d.e) (ho : ∀ y, o = some y → RdE W y) (h : entD o d q = some x) : RdE W x := by
  unfold entD at h
  split at h
  · split at h
    · unfold insE at h
      split at h
      · split at h
        · split at h
          · cases h; exact hd
          · cases h; exact ho _ rfl
        · cases h; exact hd
      · exact ho _ h
    · exact ho _ h
  · split at h
    · exact ho _ h
    · split at h
      · split at h
        · cases h
        · exact ho _ h
      · rw [Option.filter_eq_some_iff] at h
        exact ho _ h.1
theorem Alike.step {W : World} {A : SS} {Bs : List SS} {n m : Nat} (h : Alike W A Bs n m) (hm : m < 64) (hn : 1 ≤ n ∧ n ≤ 16) (hUA : Uq A) (hhA : A.hand < A.l.length) (hUB : ∀ i, i < n → Uq (ssAt Bs i) ∧ (ssAt Bs i).hand < (ssAt Bs i).l.length)
    (d : Dd) (hd : RdE W d.e) (hnm : d.e.q.name.size ≤ 1000000000000000) (hk : 1 ≤ d.kind ∧ d.kind ≤ 4) : Alike W (doneS A d) (finS d Bs (leftD d n)) n (m + 1) := by
  have hiL : ∀ i ∈ leftD d n, i < Bs.length := fun i hi => by
    rw [h.ln]
    unfold leftD at hi
    split at hi
    · simpa using hi
    · obtain rfl := List.mem_singleton.1 hi
      exact hash_lt _ hnm _ hn.1 hn.2
  have hat := finS_at d (leftD d n) Bs (leftD_nodup d n) hiL
  obtain ⟨-, a2, a3, a4⟩ := done_any hUA hhA (by have := h.ca; rw [h.la]; omega) d
  have hb : ∀ i, i < n → (doneS (ssAt Bs i) d).l.length = (ssAt Bs i).l.length ∧ (doneS (ssAt Bs i) d).all.length ≤ (ssAt Bs i).all.length + 1 ∧ ∀ q, (doneS (ssAt Bs i) d).ent q = entD ((ssAt Bs i).ent q) d q := fun i hi =>
    (done_any (hUB i hi).1 (hUB i hi).2 (by have := h.cb i hi; rw [h.lb i hi]; omega) d).2
  have hent : ∀ q, (doneS A d).ent q = (ssAt (finS d Bs (leftD d n)) (hashK q n)).ent q := fun q => by
    rw [a4, h.ent q, hat]
    by_cases hq : hashK q n < n
    · split
      · rw [(hb _ hq).2.2]
      · rename_i hnot
        have h4 : d.kind ≠ 4 := fun e => by
          apply hnot; unfold leftD; rw [if_pos e]; simpa using hq
        have hqe : q ≠ d.e.q := fun e => by
          apply hnot; unfold leftD; rw [if_neg h4, e]; exact List.mem_singleton.2 rfl
        unfold entD
        by_cases h1 : d.kind = 1
        · rw [if_pos h1, if_neg hqe]
        · rw [if_neg h1]
          by_cases h2 : d.kind = 2
          · rw [if_pos h2]
          · rw [if_neg h2, if_pos (by omega : d.kind = 3), if_neg hqe]
    · have ho : ssAt Bs (hashK q n) = ⟨[], 0⟩ := by unfold ssAt; rw [List.getElem?_eq_none (by rw [h.ln]; omega)]; rfl
      have hnl : hashK q n ∉ leftD d n := fun hh => by have := hiL _ hh; rw [h.ln] at this; omega
      rw [if_neg hnl]
      have hon : (ssAt Bs (hashK q n)).ent q = none := ssAt_out (by rw [h.ln]; omega) q
      rw [hon]
      have hqe : q ≠ d.e.q := fun e => hq (by rw [e]; exact hash_lt _ hnm _ hn.1 hn.2)
      unfold entD
      simp [hqe]
  refine ⟨by rw [finS_len]; exact h.ln, hent, fun i hi q hq => ?_, by rw [a2]; exact h.la, fun i hi => ?_, by have := h.ca; omega, fun i hi => ?_, fun q x hx => ?_⟩
  · rw [hat] at hq
    by_cases hil : i ∈ leftD d n
    · rw [if_pos hil, (hb i hi).2.2] at hq
      cases ho : (ssAt Bs i).ent q with
      | some x => exact h.key i hi q (by rw [ho]; rfl)
      | none =>
        rw [ho] at hq
        unfold entD at hq
        split at hq
        · rename_i h1
          split at hq
          · rename_i e
            unfold leftD at hil
            rw [if_neg (by omega)] at hil
            rw [e]; exact (List.mem_singleton.1 hil).symm
          · cases hq
        · split at hq
          · cases hq
          · split at hq
            · split at hq <;> cases hq
            · cases hq
    · rw [if_neg hil] at hq
      exact h.key i hi q hq
  · rw [hat]
    split
    · rw [(hb i hi).1]; exact h.lb i hi
    · exact h.lb i hi
  · rw [hat]
    split
    · have := (hb i hi).2.1; have := h.cb i hi; omega
    · have := h.cb i hi; omega
  · rw [a4] at hx
    exact entD_rd hd (fun y hy => h.rd q y hy) hx
theorem nodup_flat {α : Type} {f : Nat → List α} : ∀ (n : Nat), (∀ i, i < n → (f i).Nodup) → (∀ a b, a < n → b < n → a ≠ b → ∀ q ∈ f a, q ∉ f b) → ((List.range n).flatMap f).Nodup := by
  intro n
  induction n with
  | zero => intro _ _; simp
  | succ n ih =>
    intro h1 h2
    rw [List.range_succ, List.flatMap_append, List.nodup_append]
    refine ⟨ih (fun i hi => h1 i (by omega)) (fun a b ha hb => h2 a b (by omega) (by omega)), by simpa using h1 n (by omega), fun x hx y hy e => ?_⟩
    subst e
    obtain ⟨i, hi, hxi⟩ := List.mem_flatMap.1 hx
    have hi := List.mem_range.1 hi
    simp only [List.flatMap_cons, List.flatMap_nil, List.append_nil] at hy
    exact h2 i n (by omega) (by omega) (by omega) x hxi hy
theorem Alike.len {W : World} {A : SS} {Bs : List SS} {n m : Nat} (h : Alike W A Bs n m) (hUA : Uq A) (hUB : ∀ i, i < n → Uq (ssAt Bs i)) : A.all.length = lenC Bs := by
  have e1 : lenC Bs = ((List.range n).flatMap fun i => keysS (ssAt Bs i)).length := by
    unfold lenC
    rw [List.length_flatMap]
    congr 1
    apply List.ext_getElem?
    intro i
    rw [List.getElem?_map, List.getElem?_map]
    by_cases hi : i < n
    · have hb : i < Bs.length := by rw [h.ln]; exact hi
      rw [List.getElem?_eq_getElem hb, List.getElem?_range hi]
      simp [keys_len, ssAt, List.getElem?_eq_getElem hb]
    · rw [List.getElem?_eq_none (by rw [h.ln]; omega), List.getElem?_eq_none (by rw [List.length_range]; omega)]
      rfl
  rw [e1, ← keys_len]
  have hmem : ∀ q, q ∈ keysS A ↔ q ∈ (List.range n).flatMap fun i => keysS (ssAt Bs i) := fun q => by
    rw [mem_keys hUA, List.mem_flatMap]
    constructor
    · intro hq
      have hlt : hashK q n < n := by
        rcases Nat.lt_or_ge (hashK q n) n with h1 | h1
        · exact h1
        · rw [h.ent q, ssAt_out (by rw [h.ln]; exact h1)] at hq; cases hq
      exact ⟨hashK q n, List.mem_range.2 hlt, (mem_keys (hUB _ hlt)).2 (by rw [← h.ent q]; exact hq)⟩
    · rintro ⟨i, hi, hq⟩
      have hi := List.mem_range.1 hi
      have hq := (mem_keys (hUB i hi)).1 hq
      rw [h.ent q, h.key i hi q hq]; exact hq
  have hnd : ((List.range n).flatMap fun i => keysS (ssAt Bs i)).Nodup := by
    refine nodup_flat n (fun i hi => keys_nodup (hUB i hi)) fun a b ha hb hne q hqa hqb => ?_
    have h1 := h.key a ha q ((mem_keys (hUB a ha)).1 hqa)
    have h2 := h.key b hb q ((mem_keys (hUB b hb)).1 hqb)
    exact hne (h1.symm.trans h2)
  exact Nat.le_antisymm (len_sub (keys_nodup hUA) fun q hq => (hmem q).1 hq) (len_sub hnd fun q hq => (hmem q).2 hq)
end Go.Proofs.Ytogjfcmclfehkaa
