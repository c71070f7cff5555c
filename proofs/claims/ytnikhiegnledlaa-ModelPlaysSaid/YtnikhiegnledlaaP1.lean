import Derived.Test.YtnikhiegnledlaaM7
import Derived.Test.YtnikhiegnledlaaPPa
import Derived.Test.YtnikhiegnledlaaPPb
import Derived.Test.YtnikhiegnledlaaPPc
namespace Go.Proofs.Ytnikhiegnledlaa
open Go Go.RowKit Go.Proofs.MapL PPM Go.Proofs.YtnikhiegnledlaaW.PrintWords

/-- An entry, and its records. -/
structure Ex where
  e : En
  l : List S70
def Qn.s (q : Qn) : S25 := ⟨q.name, q.ty, q.cl⟩
def Ex.s (x : Ex) : S35 := ⟨x.e.q.s, x.l, x.e.rcode, x.e.rank, x.e.expire⟩
abbrev ents (X : List Ex) : List En := X.map (·.e)
abbrev refl_ (X : List Ex) : List S35 := X.map Ex.s
theorem rd_s {X : List Ex} {i : Nat} (h : i < X.length) : rd_T35 (X.map Ex.s) (i : Int) = (X[i]).s := by
  unfold rd_T35
  simp [List.getD_eq_getElem?_getD, h]
theorem rd_q {X : List Qn} {i : Nat} (h : i < X.length) : rd_T25 (X.map Qn.s) (i : Int) = (X[i]).s := by
  unfold rd_T25
  simp [List.getD_eq_getElem?_getD, h]
theorem w64 {i : Nat} (h : i < 9223372036854775807) : wrap64 ((i : Int) + 1) = ((i + 1 : Nat) : Int) := by
  unfold wrap64; omega
theorem q_eq (a b : Qn) : ((a.s.f0.toList == b.name.toList) && ((a.s.f1 == b.ty) && (a.s.f2 == b.cl))) = decide (a = b) := by
  rw [Bool.eq_iff_iff]
  simp only [Bool.and_eq_true, beq_iff_eq, decide_eq_true_eq]
  constructor
  · rintro ⟨h1, h2, h3⟩; exact qn_ext (ba_ext h1) h2 h3
  · rintro rfl; exact ⟨rfl, rfl, rfl⟩
theorem q_ne (a b : Qn) : ((!(a.s.f0.toList == b.name.toList)) || ((!(a.s.f1 == b.ty)) || (!(a.s.f2 == b.cl)))) = !decide (a = b) := by
  rw [← q_eq]; cases (a.s.f0.toList == b.name.toList) <;> cases (a.s.f1 == b.ty) <;> cases (a.s.f2 == b.cl) <;> rfl
/-- An entry's place. -/
def idxX (X : List Ex) (q : Qn) : Option Nat := X.findIdx? fun x => decide (x.e.q = q)
def idxI (X : List Ex) (q : Qn) : Int := match idxX X q with
  | some i => i
  | none => -1
theorem find_l (X : List Ex) (q : Qn) (hX : X.length < 4611686018427387904) : ∀ (d i k : Nat), X.length - i = d → i ≤ X.length → d < k → (∀ j (h : j < X.length), j < i → (X[j]).e.q ≠ q) →
    derrickref13_Find.l0 k (X.map Ex.s) (i : Int) q.name q.ty q.cl = some (idxI X q) := by
  intro d
  induction d with
  | zero =>
    intro i k hd hi hk hn
    obtain ⟨k, rfl⟩ : ∃ m, k = m + 1 := ⟨k - 1, by omega⟩
    have he : i = X.length := by omega
    have hnone : idxX X q = none := by
      unfold idxX
      rw [List.findIdx?_eq_none_iff]
      intro x hx
      obtain ⟨j, hj, rfl⟩ := List.getElem_of_mem hx
      simpa using hn j hj (by omega)
    simp only [derrickref13_Find.l0]
    rw [if_neg (by simp [he])]
    unfold idxI; rw [hnone]
  | succ d ih =>
    intro i k hd hi hk hn
    obtain ⟨k, rfl⟩ : ∃ m, k = m + 1 := ⟨k - 1, by omega⟩
    have hlt : i < X.length := by omega
    simp only [derrickref13_Find.l0]
    rw [if_pos (by simpa using hlt), if_pos (by omega), rd_s hlt]
    have hq := q_eq (X[i]).e.q q
    show (if ((X[i]).e.q.s.f0.toList == q.name.toList && ((X[i]).e.q.s.f1 == q.ty && (X[i]).e.q.s.f2 == q.cl)) = true then _ else _) = _
    rw [hq]
    by_cases he : (X[i]).e.q = q
    · rw [if_pos (by simpa using he)]
      have hs : idxX X q = some i := by
        unfold idxX
        rw [List.findIdx?_eq_some_iff_getElem]
        exact ⟨hlt, by simpa using he, fun j hj => by simpa using hn j (by omega) hj⟩
      unfold idxI; rw [hs]
    · rw [if_neg (by simpa using he), w64 (by omega)]
      refine ih (i + 1) k (by omega) (by omega) (by omega) ?_
      intro j hjl hj
      rcases Nat.lt_or_ge j i with h | h
      · exact hn j hjl h
      · have : j = i := by omega
        subst this; exact he
theorem find_f (X : List Ex) (q : Qn) {k : Nat} (hX : X.length < k) (hk : k < 4611686018427387904) : derrickref13_Find.f k (X.map Ex.s) q.name q.ty q.cl = some (idxI X q) :=
  find_l X q (by omega) X.length 0 k (by omega) (by omega) hX (fun j _ h => by omega)
theorem idx_none {X : List Ex} {q : Qn} (h : idxX X q = none) : findE (ents X) q = none := by
  unfold idxX at h
  rw [List.findIdx?_eq_none_iff] at h
  unfold findE
  rw [List.find?_eq_none]
  intro e he
  obtain ⟨x, hx, rfl⟩ := List.mem_map.1 he
  simpa using h x hx
theorem idx_some {X : List Ex} {q : Qn} {i : Nat} (h : idxX X q = some i) : ∃ hi : i < X.length, (X[i]).e.q = q ∧ findE (ents X) q = some (X[i]).e := by
  unfold idxX at h
  rw [List.findIdx?_eq_some_iff_getElem] at h
  obtain ⟨hi, h1, h2⟩ := h
  refine ⟨hi, by simpa using h1, ?_⟩
  unfold findE
  rw [List.find?_eq_some_iff_getElem]
  refine ⟨by simpa using h1, i, by simpa using hi, by simp, fun j hj => ?_⟩
  have := h2 j hj
  simpa using this
theorem find_idx (X : List Ex) (q : Qn) : decide (idxI X q ≥ 0) = (findE (ents X) q).isSome := by
  unfold idxI
  cases h : idxX X q with
  | none => rw [idx_none h]; rfl
  | some i => obtain ⟨hi, -, h2⟩ := idx_some h; rw [h2]; simp

/-- Insert, of entries with their records. -/
def putX (X : List Ex) (x : Ex) : List Ex := if (findE (ents X) x.e.q).isSome then X.map (fun y => if y.e.q = x.e.q then x else y) else X ++ [x]
def insX (X : List Ex) (room : Int) (x : Ex) (now : Int) : List Ex := if insC (ents X) room x.e now = 0 then putX X x else X
theorem putX_ents (X : List Ex) (x : Ex) : ents (putX X x) = putE (ents X) x.e := by
  unfold putX putE
  split
  · simp only [List.map_map]
    apply List.map_congr_left
    intro y _
    simp only [Function.comp]
    split <;> rfl
  · simp
theorem insX_ents (X : List Ex) (room : Int) (x : Ex) (now : Int) : ents (insX X room x now) = insL (ents X) room x.e now := by
  unfold insX insL
  split
  · exact putX_ents X x
  · rfl
theorem mem_putX {X : List Ex} {x y : Ex} (h : y ∈ putX X x) : y = x ∨ y ∈ X := by
  unfold putX at h
  split at h
  · obtain ⟨z, hz, rfl⟩ := List.mem_map.1 h
    split
    · exact .inl rfl
    · exact .inr hz
  · rcases List.mem_append.1 h with h | h
    · exact .inr h
    · exact .inl (by simpa using h)
theorem mem_insX {X : List Ex} {room now : Int} {x y : Ex} (h : y ∈ insX X room x now) : y = x ∨ y ∈ X := by
  unfold insX at h
  split at h
  · exact mem_putX h
  · exact .inr h
theorem set_map {X : List Ex} (ha : (ents X).Pairwise fun a b => a.q ≠ b.q) {i : Nat} {x : Ex} (hi : i < X.length) (hq : (X[i]).e.q = x.e.q) : X.set i x = X.map fun y => if y.e.q = x.e.q then x else y := by
  rw [List.pairwise_map, List.pairwise_iff_getElem] at ha
  apply List.ext_getElem
  · simp
  · intro j h1 h2
    simp only [List.length_set, List.length_map] at h1 h2
    rw [List.getElem_set, List.getElem_map]
    by_cases hij : i = j
    · subst hij; simp [hq]
    · rw [if_neg hij, if_neg]
      intro he
      rcases Nat.lt_or_gt_of_ne hij with h | h
      · exact ha i j hi h1 h (hq.trans he.symm)
      · exact ha j i h1 hi h (he.trans hq.symm)
theorem beats_f (a b : Ex) (now : Int) : derrickref08_Beats.f a.s.f0.f0 a.s.f0.f1 a.s.f0.f2 a.s.f1 a.s.f2 a.s.f3 a.s.f4 b.e.q.name b.e.q.ty b.e.q.cl b.l b.e.rcode b.e.rank b.e.expire now = some (beatsB a.e b.e now) := by
  show (if a.e.expire ≤ now then some true else some (decide (a.e.rank ≤ b.e.rank))) = _
  unfold beatsB liveB
  by_cases h : a.e.expire ≤ now
  · rw [if_pos h, decide_eq_false (show ¬ a.e.expire > now by omega)]; rfl
  · rw [if_neg h, decide_eq_true (show a.e.expire > now by omega)]
    simp
theorem insert_f (X : List Ex) (room : Int) (x : Ex) (now : Int) (ha : (ents X).Pairwise fun a b => a.q ≠ b.q) {k : Nat} (hX : X.length + 1 < k) (hk : k < 1000000000) :
    derrickref13_Insert.f k (X.map Ex.s) room x.e.q.name x.e.q.ty x.e.q.cl x.l x.e.rcode x.e.rank x.e.expire now = some ((insX X room x now).map Ex.s, insC (ents X) room x.e now) := by
  obtain ⟨k, rfl⟩ : ∃ m, k = m + 1 := ⟨k - 1, by omega⟩
  unfold derrickref13_Insert.f
  by_cases hl : x.e.expire ≤ now
  · rw [if_pos hl]
    have e1 : insC (ents X) room x.e now = 4 := by unfold insC liveB; rw [decide_eq_false (by omega)]; rfl
    unfold insX
    rw [e1]; rfl
  · rw [if_neg hl, find_f X x.e.q (by omega) (by omega)]
    have e1 : insC (ents X) room x.e now = (match findE (ents X) x.e.q with
      | some o => if beatsB o x.e now then 0 else 7
      | none => if ((ents X).length : Int) ≥ room then 5 else 0) := by unfold insC liveB; rw [decide_eq_true (by omega)]; rfl
    simp only [Option.bind_some]
    cases hi : idxX X x.e.q with
    | none =>
      have hf := idx_none hi
      have hI : idxI X x.e.q = -1 := by unfold idxI; rw [hi]
      rw [hI, if_pos (by omega)]
      rw [hf] at e1
      dsimp only at e1
      simp only [derrickref13_Insert.j0]
      by_cases hr : (X.length : Int) ≥ room
      · rw [if_pos (by simpa using hr)]
        rw [if_pos (by simpa using hr)] at e1
        unfold insX; rw [e1]; rfl
      · rw [if_neg (by simpa using hr)]
        rw [if_neg (by simpa using hr)] at e1
        simp only [Option.bind_some]
        rw [if_pos (by simp; omega), if_pos (by omega), if_pos (by simp; omega)]
        unfold insX
        rw [e1, if_pos rfl]
        unfold putX
        rw [hf]
        simp [Ex.s, Qn.s]
    | some i =>
      obtain ⟨hlt, hq, hf⟩ := idx_some hi
      have hI : idxI X x.e.q = i := by unfold idxI; rw [hi]
      rw [hI, if_neg (by omega)]
      rw [hf] at e1
      dsimp only at e1
      simp only [derrickref13_Insert.j0]
      rw [if_neg (by simp)]
      simp only [Option.bind_some]
      rw [if_pos (by simp; omega), if_neg (by omega), if_pos (by omega), if_pos (by simpa using hlt), rd_s hlt, beats_f]
      simp only [Option.bind_some]
      by_cases hb : beatsB (X[i]).e x.e now = true
      · rw [if_pos hb, if_pos (by simpa using hlt)]
        rw [if_pos hb] at e1
        unfold insX
        rw [e1, if_pos rfl]
        unfold putX
        rw [hf, Option.isSome_some, if_pos rfl, ← set_map ha hlt hq]
        simp [Ex.s, Qn.s, List.map_set]
      · rw [if_neg hb]
        rw [if_neg hb] at e1
        unfold insX; rw [e1]; rfl
/-- What Lookup tells. -/
def lookX (X : List Ex) (q : Qn) (now : Int) : Option Ex := match idxX X q with
  | some i => match X[i]? with
    | some x => if liveB x.e.expire now then some x else none
    | none => none
  | none => none
def exZ : S35 := ⟨⟨⟨#[]⟩, 0, 0⟩, [], 0, 0, 0⟩
def lookS (X : List Ex) (q : Qn) (now : Int) : S35 := ((lookX X q now).map Ex.s).getD exZ
theorem lookX_B (X : List Ex) (q : Qn) (now : Int) : (lookX X q now).isSome = lookB (ents X) q now := by
  unfold lookX lookB
  cases h : idxX X q with
  | none => rw [idx_none h]; rfl
  | some i =>
    obtain ⟨hi, -, h2⟩ := idx_some h
    rw [h2]
    dsimp only
    rw [List.getElem?_eq_getElem hi]
    dsimp only
    cases liveB (X[i]).e.expire now <;> rfl
theorem lookX_V (X : List Ex) (q : Qn) (now : Int) : lookV (ents X) q now = ((lookX X q now).map fun x => x.e.v).getD zeroEn := by
  unfold lookX lookV
  cases h : idxX X q with
  | none => rw [idx_none h]; rfl
  | some i =>
    obtain ⟨hi, -, h2⟩ := idx_some h
    rw [h2]
    dsimp only
    rw [List.getElem?_eq_getElem hi]
    dsimp only
    cases liveB (X[i]).e.expire now <;> rfl
theorem lookX_mem {X : List Ex} {q : Qn} {now : Int} {x : Ex} (h : lookX X q now = some x) : x ∈ X ∧ x.e.q = q ∧ liveB x.e.expire now = true := by
  unfold lookX at h
  cases hi : idxX X q with
  | none => rw [hi] at h; cases h
  | some i =>
    obtain ⟨hlt, hq, -⟩ := idx_some hi
    rw [hi] at h
    dsimp only at h
    rw [List.getElem?_eq_getElem hlt] at h
    dsimp only at h
    split at h
    · rename_i hl
      have := Option.some.inj h
      subst this
      exact ⟨List.getElem_mem hlt, hq, hl⟩
    · cases h
theorem lookup_f (X : List Ex) (q : Qn) (now : Int) {k : Nat} (hX : X.length < k) (hk : k < 4611686018427387904) :
    derrickref13_Lookup.f k (X.map Ex.s) q.name q.ty q.cl now = some ((lookS X q now).f0.f0, (lookS X q now).f0.f1, (lookS X q now).f0.f2, (lookS X q now).f1, (lookS X q now).f2, (lookS X q now).f3, (lookS X q now).f4, (lookX X q now).isSome) := by
  unfold derrickref13_Lookup.f
  rw [find_f X q hX hk]
  simp only [Option.bind_some]
  unfold lookS lookX idxI
  cases hi : idxX X q with
  | none => rfl
  | some i =>
    obtain ⟨hlt, hq, hf⟩ := idx_some hi
    dsimp only
    rw [List.getElem?_eq_getElem hlt]
    rw [if_neg (by omega), if_pos (by omega), if_pos (by simpa using hlt), rd_s hlt]
    dsimp only
    by_cases hl : (X[i]).e.expire ≤ now
    · rw [if_pos (show (X[i]).s.f4 ≤ now from hl)]
      have : liveB (X[i]).e.expire now = false := decide_eq_false (by omega)
      rw [this]; rfl
    · rw [if_neg (show ¬ (X[i]).s.f4 ≤ now from hl)]
      have : liveB (X[i]).e.expire now = true := decide_eq_true (by omega)
      rw [this]; rfl
/-- Drop. -/
def delX (X : List Ex) (q : Qn) : List Ex := X.filter fun x => decide (x.e.q ≠ q)
theorem delX_ents (X : List Ex) (q : Qn) : ents (delX X q) = delE (ents X) q := by
  unfold delX delE ents; rw [List.filter_map]; rfl
theorem drop_l (X : List Ex) (q : Qn) (hX : X.length < 1000000000) : ∀ (d i k : Nat) (Y : List Ex), X.length - i = d → i ≤ X.length → d < k → Y.length ≤ i →
    derrickref13_Drop.l0 k (X.map Ex.s) (Y.map Ex.s) (i : Int) q.name q.ty q.cl = some ((Y ++ delX (X.drop i) q).map Ex.s, decide ((Y ++ delX (X.drop i) q).length < X.length)) := by
  intro d
  induction d with
  | zero =>
    intro i k Y hd hi hk hy
    obtain ⟨k, rfl⟩ : ∃ m, k = m + 1 := ⟨k - 1, by omega⟩
    have he : i = X.length := by omega
    subst he
    simp only [derrickref13_Drop.l0]
    rw [if_neg (by simp)]
    simp [delX]
  | succ d ih =>
    intro i k Y hd hi hk hy
    obtain ⟨k, rfl⟩ : ∃ m, k = m + 1 := ⟨k - 1, by omega⟩
    have hlt : i < X.length := by omega
    simp only [derrickref13_Drop.l0]
    rw [if_pos (by simpa using hlt), if_pos (by omega), rd_s hlt]
    show (if ((!((X[i]).e.q.s.f0.toList == q.name.toList)) || ((!((X[i]).e.q.s.f1 == q.ty)) || (!((X[i]).e.q.s.f2 == q.cl)))) = true then _ else _) = _
    rw [q_ne, w64 (by omega)]
    have hdr : X.drop i = X[i] :: X.drop (i + 1) := List.drop_eq_getElem_cons hlt
    by_cases he : (X[i]).e.q = q
    · rw [if_neg (by simpa using he), ih (i + 1) k Y (by omega) (by omega) (by omega) (by omega)]
      have : delX (X.drop i) q = delX (X.drop (i + 1)) q := by unfold delX; rw [hdr, List.filter_cons, if_neg (by simpa using he)]
      rw [this]
    · rw [if_pos (by simpa using he), if_pos (by simp; omega)]
      have h1 := ih (i + 1) k (Y ++ [X[i]]) (by omega) (by omega) (by omega) (by simp; omega)
      have h2 : (Y ++ [X[i]]).map Ex.s = Y.map Ex.s ++ [(X[i]).s] := by simp
      rw [h2] at h1
      have h3 : delX (X.drop i) q = X[i] :: delX (X.drop (i + 1)) q := by unfold delX; rw [hdr, List.filter_cons, if_pos (by simpa using he)]
      rw [h3]
      rw [show (Y ++ [X[i]]) ++ delX (X.drop (i + 1)) q = Y ++ X[i] :: delX (X.drop (i + 1)) q by simp] at h1
      exact h1
theorem drop_f (X : List Ex) (q : Qn) (ha : (ents X).Pairwise fun a b => a.q ≠ b.q) {k : Nat} (hX : X.length < k) (hk : k < 1000000000) : derrickref13_Drop.f k (X.map Ex.s) q.name q.ty q.cl = some ((delX X q).map Ex.s, (findE (ents X) q).isSome) := by
  have h := drop_l X q (by omega) X.length 0 k [] (by omega) (by omega) hX (by simp)
  simp only [List.map_nil, List.nil_append, List.drop_zero] at h
  unfold derrickref13_Drop.f
  refine h.trans ?_
  have h1 : (kv (ents X)).Pairwise fun p q => p.1 ≠ q.1 := by unfold kv; rw [List.pairwise_map]; exact ha
  have h2 := del_len h1 q
  rw [kv_del, kv_find, kv_len, kv_len, ← delX_ents] at h2
  simp only [List.length_map] at h2
  have h3 : decide ((delX X q).length < X.length) = (findE (ents X) q).isSome := by
    cases hs : (findE (ents X) q).isSome
    · rw [hs] at h2; simp at h2; rw [decide_eq_false (by omega)]
    · rw [hs] at h2; simp at h2; rw [decide_eq_true (by omega)]
  rw [h3]
end Go.Proofs.Ytnikhiegnledlaa
