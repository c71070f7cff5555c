import Derived.Test.YtogjfcmclfehkaaCA
namespace Go.Proofs.Ytogjfcmclfehkaa
open Go

/-- Nobody is missing: every slot is used. -/
theorem all_used {s : SS} (h : ¬ s.all.length < s.l.length) (j : Nat) (a : Sl) (ha : s.l[j]? = some a) : a.used = true := by
  have hj : j < s.l.length := (List.getElem?_eq_some_iff.1 ha).1
  cases hu : a.used with
  | true => rfl
  | false =>
    exfalso
    apply h
    unfold SS.all SS.allTo
    have hlt : ((List.range s.l.length).filter fun i => ((s.l[i]?).map (·.used)).getD false).length < (List.range s.l.length).length := by
      rw [List.length_filter_lt_length_iff_exists]
      exact ⟨j, List.mem_range.2 hj, by simp [ha, hu]⟩
    simpa using hlt

/-- What a full shard's victim is: the records of the slots stay. -/
theorem vic_full {s : SS} (hh : s.hand < s.l.length) (h : ¬ s.all.length < s.l.length) : ∃ s' i b, s.vic (2 * s.l.length) = (s', i, true) ∧ s.victim = (s', i, true) ∧ s'.l.length = s.l.length ∧ s.l[i]? = some b ∧ b.used = true ∧ (∀ a, s'.l[i]? = some a → a.x = b.x ∧ a.used = true) ∧ i < s'.l.length := by
  have hp : 0 < s.all.length := by omega
  have h3 := SS.victim_pos hh hp
  obtain ⟨⟨s', i, y⟩, hv⟩ : ∃ r, s.vic (2 * s.l.length) = r := ⟨_, rfl⟩
  have hvv : s.victim = (s', i, y) := hv
  rw [hvv] at h3
  have hy : y = true := h3
  subst hy
  obtain ⟨a, ha, hu⟩ := vic_used _ _ _ _ hh hv
  have hs := vic_same (2 * s.l.length) s hh
  rw [hv] at hs
  obtain ⟨b, hb, hbx, hbu⟩ := same_get hs ha
  refine ⟨s', i, b, hv, hvv, hs.1, hb, hbu.trans hu, fun a' ha' => ?_, (List.getElem?_eq_some_iff.1 ha).1⟩
  rw [ha] at ha'
  cases ha'
  exact ⟨hbx.symm, hu⟩
end Go.Proofs.Ytogjfcmclfehkaa
namespace Go.Proofs.Ytogjfcmclfehkaa
open Go Go.RowKit Go.Proofs.MapL

/-- A question's entry. -/
def SS.ent (s : SS) (q : Qn) : Option En := (s.find q).bind fun k => (s.l[k]?).map (·.x)
section
variable {s : SS} {q : Qn} {x : En} {now : Int}
theorem ent_iff (hU : Uq s) : s.ent q = some x ↔ ∃ (k : Nat) (a : Sl), s.l[k]? = some a ∧ a.used = true ∧ a.x = x ∧ x.q = q := by
  unfold SS.ent
  constructor
  · intro h
    cases hf : s.find q with
    | none => rw [hf] at h; cases h
    | some k =>
      obtain ⟨a, hk, hu, hq⟩ := sfind_some hf
      rw [hf] at h
      simp only [Option.bind_some, hk, Option.map_some, Option.some.injEq] at h
      exact ⟨k, a, hk, hu, h, h ▸ hq⟩
  · rintro ⟨k, a, hk, hu, rfl, hq⟩
    rw [sfind_of hU hk hu hq]
    simp [hk]
theorem ent_q (hU : Uq s) (h : s.ent q = some x) : x.q = q := by
  obtain ⟨-, -, -, -, -, h⟩ := (ent_iff hU).1 h
  exact h
theorem ent_find (s : SS) (q : Qn) : (s.find q).isSome = (s.ent q).isSome := by
  unfold SS.ent
  cases hf : s.find q with
  | none => rfl
  | some k =>
    obtain ⟨a, hk, -, -⟩ := sfind_some hf
    simp [hk]
theorem ent_same {s' : SS} (hU : Uq s) (h : Same2 s s') : s'.ent q = s.ent q := by
  have hU' := same_uq h hU
  apply Option.ext
  intro x
  show s'.ent q = some x ↔ s.ent q = some x
  rw [ent_iff hU, ent_iff hU']
  constructor
  · rintro ⟨k, a, hk, hu, hx, hq⟩
    obtain ⟨b, hb, hbx, hbu⟩ := same_get h hk
    exact ⟨k, b, hb, hbu.trans hu, hbx.trans hx, hq⟩
  · rintro ⟨k, a, hk, hu, hx, hq⟩
    have h2 := h.2 k
    rw [hk] at h2
    cases hb : s'.l[k]? with
    | none => rw [hb] at h2; cases h2
    | some b =>
      rw [hb] at h2
      simp only [Option.map_some, Option.some.injEq, Prod.mk.injEq] at h2
      exact ⟨k, b, hb, h2.2.trans hu, h2.1.trans hx, hq⟩
theorem ent_none (hU : Uq s) {k : Nat} {a : Sl} (hk : s.l[k]? = some a) (hu : a.used = true) (q : Qn) : (s.at k Sl.none).ent q = if q = a.x.q then none else s.ent q := by
  apply Option.ext
  intro x
  show (s.at k Sl.none).ent q = some x ↔ _ = some x
  rw [ent_iff (hU.at_none k)]
  constructor
  · rintro ⟨j, b, hj, hb, rfl, hq⟩
    rw [at_get] at hj
    split at hj
    · split at hj
      · cases hj; cases hb
      · cases hj
    · rename_i hne
      rw [if_neg (fun e => hne (hU j k b a hj hk hb hu (hq.trans e)))]
      exact (ent_iff hU).2 ⟨j, b, hj, hb, rfl, hq⟩
  · intro h
    split at h
    · cases h
    · rename_i hne
      obtain ⟨j, b, hj, hb, rfl, hq⟩ := (ent_iff hU).1 h
      refine ⟨j, b, ?_, hb, rfl, hq⟩
      rw [at_get, if_neg]
      · exact hj
      · rintro rfl
        rw [hk] at hj; cases hj
        exact hne hq.symm
theorem ent_put (hU : Uq s) {k : Nat} (hk : k < s.l.length) {e : En} {t : Bool} (hq : ∀ (j : Nat) (b : Sl), s.l[j]? = some b → b.used = true → b.x.q = e.q → j = k) (hk2 : ∀ (b : Sl), s.l[k]? = some b → b.used = true → b.x.q = e.q) (q : Qn) :
    (s.at k ⟨e, true, t⟩).ent q = if q = e.q then some e else s.ent q := by
  apply Option.ext
  intro x
  show (s.at k ⟨e, true, t⟩).ent q = some x ↔ _ = some x
  rw [ent_iff (hU.at_new hq)]
  constructor
  · rintro ⟨j, b, hj, hb, rfl, hbq⟩
    rw [at_get] at hj
    split at hj
    · first | rw [if_pos hk] at hj | skip
      cases hj
      rw [if_pos hbq.symm]
    · rename_i hne
      rw [if_neg (fun h => hne (hq j b hj hb (hbq.trans h)))]
      exact (ent_iff hU).2 ⟨j, b, hj, hb, rfl, hbq⟩
  · intro h
    split at h
    · rename_i he
      cases h
      exact ⟨k, _, by rw [at_get, if_pos rfl, if_pos hk], rfl, rfl, he.symm⟩
    · rename_i he
      obtain ⟨j, b, hj, hb, rfl, hbq⟩ := (ent_iff hU).1 h
      refine ⟨j, b, ?_, hb, rfl, hbq⟩
      rw [at_get, if_neg]
      · exact hj
      · rintro rfl
        exact he (hbq.symm.trans (hk2 b hj hb))
theorem evict_uq (hU : Uq s) (q : Qn) : Uq (evictS s q) := by
  unfold evictS
  split
  · exact hU.at_none _
  · exact hU
theorem evict_ent (hU : Uq s) (q q' : Qn) : (evictS s q).ent q' = if q' = q then none else s.ent q' := by
  unfold evictS
  cases hf : s.find q with
  | none =>
    show s.ent q' = _
    split
    · rename_i h
      subst h
      unfold SS.ent; rw [hf]; rfl
    · rfl
  | some k =>
    obtain ⟨a, hk, hu, rfl⟩ := sfind_some hf
    exact ent_none hU hk hu q'
theorem clr_uq : ∀ (l : List Nat) (s : SS), Uq s → Uq (clr s l) := by
  intro l
  induction l with
  | nil => intro s h; exact h
  | cons k l ih => intro s h; exact ih _ (h.at_none k)
theorem due_uq (hU : Uq s) (now : Int) : Uq (dueS s now) := clr_uq _ _ hU
theorem due_ent (hU : Uq s) (now : Int) (q : Qn) : (dueS s now).ent q = (s.ent q).filter fun x => decide (now < x.expire) := by
  apply Option.ext
  intro x
  show (dueS s now).ent q = some x ↔ _ = some x
  rw [Option.filter_eq_some_iff, ent_iff (due_uq hU now), ent_iff hU]
  unfold dueS
  constructor
  · rintro ⟨k, a, hk, hu, rfl, hq⟩
    rw [clr_get] at hk
    split at hk
    · cases hb : s.l[k]? with
      | none => rw [hb] at hk; cases hk
      | some b => rw [hb] at hk; cases hk; cases hu
    · rename_i hn
      refine ⟨⟨k, a, hk, hu, rfl, hq⟩, ?_⟩
      by_cases h : now < a.x.expire
      · exact decide_eq_true h
      · exact absurd (mem_dueK.2 ⟨a, hk, hu, by omega⟩) hn
  · rintro ⟨⟨k, a, hk, hu, rfl, hq⟩, h⟩
    have h := of_decide_eq_true h
    refine ⟨k, a, ?_, hu, rfl, hq⟩
    rw [clr_get, if_neg]
    · exact hk
    · intro hm
      obtain ⟨b, hb, -, hle⟩ := mem_dueK.1 hm
      rw [hk] at hb; cases hb
      omega
theorem qAt_of {k : Nat} {a : Sl} (hk : s.l[k]? = some a) : qAt s k = a.x.q := by unfold qAt; rw [hk]; rfl
theorem mem_dueQ (hU : Uq s) {now : Int} : q ∈ dueQ s now ↔ ∃ x, s.ent q = some x ∧ x.expire ≤ now := by
  unfold dueQ
  rw [List.mem_map]
  constructor
  · rintro ⟨k, hk, rfl⟩
    obtain ⟨a, ha, hu, hle⟩ := mem_dueK.1 hk
    exact ⟨a.x, (ent_iff hU).2 ⟨k, a, ha, hu, rfl, (qAt_of ha).symm⟩, hle⟩
  · rintro ⟨x, hx, hle⟩
    obtain ⟨k, a, ha, hu, rfl, hq⟩ := (ent_iff hU).1 hx
    exact ⟨k, mem_dueK.2 ⟨a, ha, hu, hle⟩, (qAt_of ha).trans hq⟩
theorem nodup_map {α β : Type} {f : α → β} : ∀ {l : List α}, l.Nodup → (∀ a ∈ l, ∀ b ∈ l, f a = f b → a = b) → (l.map f).Nodup := by
  intro l
  induction l with
  | nil => intro _ _; exact List.nodup_nil
  | cons a l ih =>
    intro h hf
    rw [List.nodup_cons] at h
    rw [List.map_cons, List.nodup_cons]
    refine ⟨fun hm => ?_, ih h.2 fun x hx y hy => hf x (List.mem_cons_of_mem _ hx) y (List.mem_cons_of_mem _ hy)⟩
    obtain ⟨b, hb, e⟩ := List.mem_map.1 hm
    have := hf b (List.mem_cons_of_mem _ hb) a List.mem_cons_self e
    exact h.1 (this ▸ hb)
theorem dueQ_nodup (hU : Uq s) (now : Int) : (dueQ s now).Nodup := by
  refine nodup_map (dueK_nodup s now) ?_
  intro i hi j hj e
  obtain ⟨a, ha, hu, -⟩ := mem_dueK.1 hi
  obtain ⟨b, hb, hv, -⟩ := mem_dueK.1 hj
  rw [qAt_of ha, qAt_of hb] at e
  exact hU i j a b ha hb hu hv e
theorem mem_keys (hU : Uq s) : q ∈ keysS s ↔ (s.ent q).isSome = true := by
  unfold keysS
  rw [List.mem_map, Option.isSome_iff_exists]
  constructor
  · rintro ⟨k, hk, rfl⟩
    obtain ⟨a, ha, hu⟩ := mem_all.1 hk
    exact ⟨a.x, (ent_iff hU).2 ⟨k, a, ha, hu, rfl, (qAt_of ha).symm⟩⟩
  · rintro ⟨x, hx⟩
    obtain ⟨k, a, ha, hu, rfl, hq⟩ := (ent_iff hU).1 hx
    exact ⟨k, mem_all.2 ⟨a, ha, hu⟩, (qAt_of ha).trans hq⟩
theorem all_nodup (s : SS) : s.all.Nodup := List.Nodup.sublist List.filter_sublist List.nodup_range
theorem keys_nodup (hU : Uq s) : (keysS s).Nodup := by
  refine nodup_map (all_nodup s) ?_
  intro i hi j hj e
  obtain ⟨a, ha, hu⟩ := mem_all.1 hi
  obtain ⟨b, hb, hv⟩ := mem_all.1 hj
  rw [qAt_of ha, qAt_of hb] at e
  exact hU i j a b ha hb hu hv e
theorem keys_len (s : SS) : (keysS s).length = s.all.length := by unfold keysS; exact List.length_map _
theorem all_le (s : SS) : s.all.length ≤ s.l.length := SS.allTo_le s _
theorem look_uq (hU : Uq s) (q : Qn) (now : Int) : Uq (lookR s q now).1 ∧ Same2 s (lookR s q now).1 := by
  unfold lookR
  split
  · exact ⟨hU, Same2.refl s⟩
  · split
    · exact ⟨hU, Same2.refl s⟩
    · rename_i hk
      split
      · exact ⟨same_uq (same_touch hk true) hU, same_touch hk true⟩
      · exact ⟨hU, Same2.refl s⟩
theorem look_ent (hU : Uq s) (q q' : Qn) (now : Int) : (lookR s q now).1.ent q' = s.ent q' := ent_same hU (look_uq hU q now).2
/-- What Lookup tells. -/
def tellE (o : Option En) (now : Int) : En × Bool := match o with
  | some x => if liveB x.expire now then (x, true) else (zeroEn, false)
  | none => (zeroEn, false)
theorem look_told (s : SS) (q : Qn) (now : Int) : (lookR s q now).2 = tellE (s.ent q) now := by
  unfold lookR SS.ent
  cases hf : s.find q with
  | none => rfl
  | some k =>
    obtain ⟨a, hk, -, -⟩ := sfind_some hf
    simp only [hk, Option.bind_some, Option.map_some]
    show _ = if liveB a.x.expire now then (a.x, true) else (zeroEn, false)
    cases liveB a.x.expire now <;> rfl
theorem room_ent (hh : s.hand < s.l.length) (hU : Uq s) (now : Int) (q : Qn) : (roomS s now).ent q = if q ∈ goneQ s now then none else s.ent q := by
  unfold roomS goneQ
  split
  · simp
  · rename_i hn
    split
    · rename_i hd
      rw [due_ent hU]
      split
      · rename_i hm
        obtain ⟨x, hx, hle⟩ := (mem_dueQ hU).1 hm
        rw [hx, Option.filter_some, if_neg (by simp; omega)]
      · rename_i hm
        cases he : s.ent q with
        | none => rfl
        | some x =>
          rw [Option.filter_some, if_pos]
          by_cases h : now < x.expire
          · exact decide_eq_true h
          · exact absurd ((mem_dueQ hU).2 ⟨x, he, by omega⟩) hm
    · obtain ⟨s', i, b, -, hv, hl, hb, hbu, ha, hi⟩ := vic_full hh hn
      have hs : Same2 s s' := by have := vic_same (2 * s.l.length) s hh; unfold SS.victim at hv; rw [hv] at this; exact this
      rw [hv]
      obtain ⟨a, hia⟩ : ∃ a, s'.l[i]? = some a := ⟨_, List.getElem?_eq_getElem hi⟩
      obtain ⟨hx, hu⟩ := ha a hia
      dsimp only
      rw [ent_none (same_uq hs hU) hia hu q, ent_same hU hs, qAt_of hia]
      simp
theorem gone_full (h : goneQ s now ≠ []) : s.all.length = s.l.length := by
  unfold goneQ at h
  split at h
  · exact absurd rfl h
  · have := all_le s; omega
theorem gone_sub (hh : s.hand < s.l.length) (hU : Uq s) {q : Qn} (h : q ∈ goneQ s now) : (s.ent q).isSome = true := by
  unfold goneQ at h
  split at h
  · cases h
  · rename_i hn
    split at h
    · obtain ⟨x, hx, -⟩ := (mem_dueQ hU).1 h
      rw [hx]; rfl
    · obtain ⟨s', i, b, -, hv, hl, hb, hbu, ha, hi⟩ := vic_full hh hn
      rw [hv] at h
      obtain ⟨a, hia⟩ : ∃ a, s'.l[i]? = some a := ⟨_, List.getElem?_eq_getElem hi⟩
      obtain ⟨hx, hu⟩ := ha a hia
      simp only [List.mem_singleton] at h
      rw [h, qAt_of hia, (ent_iff hU).2 ⟨i, b, hb, hbu, rfl, by rw [hx]⟩]; rfl
/-- What Insert makes. -/
theorem ins_dead {e : En} (h : liveB e.expire now = false) : insR s e now = (s, [], 4) := by unfold insR; rw [h]; rfl
theorem ins_low {e o : En} (h : liveB e.expire now = true) (ho : s.ent e.q = some o) (hb : beatsB o e now = false) : insR s e now = (s, [], 7) := by
  unfold SS.ent at ho
  unfold insR
  rw [if_pos h]
  cases hf : s.find e.q with
  | none => rw [hf] at ho; cases ho
  | some k =>
    obtain ⟨a, hk, hu, hq⟩ := sfind_some hf
    rw [hf] at ho
    simp only [Option.bind_some, hk, Option.map_some, Option.some.injEq] at ho
    subst ho
    simp only [hk, hb]
    rfl
theorem ins_beats (hU : Uq s) {e o : En} (h : liveB e.expire now = true) (ho : s.ent e.q = some o) (hb : beatsB o e now = true) :
    (insR s e now).2 = ([], 0) ∧ Uq (insR s e now).1 ∧ (insR s e now).1.hand = s.hand ∧ ∀ q, (insR s e now).1.ent q = if q = e.q then some e else s.ent q := by
  unfold SS.ent at ho
  unfold insR
  rw [if_pos h]
  cases hf : s.find e.q with
  | none => rw [hf] at ho; cases ho
  | some k =>
    obtain ⟨a, hk, hu, hq⟩ := sfind_some hf
    rw [hf] at ho
    simp only [Option.bind_some, hk, Option.map_some, Option.some.injEq] at ho
    subst ho
    simp only [hk, hb]
    have h1 : ∀ (j : Nat) (b : Sl), s.l[j]? = some b → b.used = true → b.x.q = e.q → j = k := fun j b hj hbu hbq => hU j k b a hj hk hbu hu (hbq.trans hq.symm)
    exact ⟨rfl, hU.at_new h1, rfl, ent_put hU (List.getElem?_eq_some_iff.1 hk).1 h1 (fun b hb2 hbu => by rw [hk] at hb2; cases hb2; exact hq)⟩
theorem room_hand (hh : s.hand < s.l.length) (now : Int) : (roomS s now).hand < s.l.length := by
  unfold roomS
  split
  · exact hh
  · split
    · unfold dueS; rw [clr_hand]; exact hh
    · exact SS.vic_hand _ s hh
theorem ins_new (hh : s.hand < s.l.length) (hU : Uq s) {e : En} (h : liveB e.expire now = true) (ho : s.ent e.q = none) :
    (insR s e now).2 = (goneQ s now, 0) ∧ Uq (insR s e now).1 ∧ (insR s e now).1.hand < s.l.length ∧ ∀ q, (insR s e now).1.ent q = if q = e.q then some e else if q ∈ goneQ s now then none else s.ent q := by
  have hf : s.find e.q = none := by
    have := ent_find s e.q
    rw [ho] at this
    simpa using this
  unfold insR
  rw [if_pos h, hf]
  dsimp only
  have hU2 := roomS_uq (now := now) hh hU
  obtain ⟨a, hk, hu, -⟩ := freeK_spec (roomS_free (now := now) hh)
  have h1 : ∀ (j : Nat) (b : Sl), (roomS s now).l[j]? = some b → b.used = true → b.x.q = e.q → j = freeK (roomS s now) := by
    intro j b hj hbu hbq
    obtain ⟨c, hc, hcu, hcx⟩ := roomS_sub hh j b hj hbu
    exact absurd (hcx ▸ hbq) (sfind_none hf j c hc hcu)
  refine ⟨rfl, hU2.at_new h1, room_hand hh now, fun q => ?_⟩
  rw [ent_put hU2 (List.getElem?_eq_some_iff.1 hk).1 h1 (fun b hb hbu => by rw [hk] at hb; cases hb; rw [hu] at hbu; cases hbu), room_ent hh hU]
theorem ins_uq (hh : s.hand < s.l.length) (hU : Uq s) (e : En) (now : Int) : Uq (insR s e now).1 := by
  cases hl : liveB e.expire now with
  | false => rw [ins_dead hl]; exact hU
  | true =>
    cases ho : s.ent e.q with
    | none => exact (ins_new hh hU hl ho).2.1
    | some o =>
      cases hb : beatsB o e now with
      | false => rw [ins_low hl ho hb]; exact hU
      | true => exact (ins_beats hU hl ho hb).2.1
end
end Go.Proofs.Ytogjfcmclfehkaa
