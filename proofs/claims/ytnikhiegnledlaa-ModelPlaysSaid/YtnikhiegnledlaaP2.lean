import Derived.Test.YtnikhiegnledlaaP1
namespace Go.Proofs.Ytnikhiegnledlaa
open Go Go.RowKit Go.Proofs.MapL PPM Go.Proofs.YtnikhiegnledlaaW.PrintWords

theorem less_f (a b : Qn) : derrickref13_Less.f a.name a.ty a.cl b.name b.ty b.cl = some (qLess a b) := by
  unfold derrickref13_Less.f qLess
  split
  · split <;> rfl
  · rfl
def insQ : List Qn → Qn → List Qn
  | [], q => [q]
  | x :: xs, q => if qLess x q then x :: insQ xs q else q :: x :: xs
theorem insQ_perm (ks : List Qn) (q : Qn) : (insQ ks q).Perm (q :: ks) := by
  induction ks with
  | nil => exact List.Perm.refl _
  | cons x xs ih =>
    unfold insQ
    split
    · exact (ih.cons x).trans (List.Perm.swap q x xs)
    · exact List.Perm.refl _
abbrev Srt (l : List Qn) : Prop := l.Pairwise fun a b => (!qLess b a) = true
theorem insQ_sorted {ks : List Qn} {q : Qn} (h : Srt ks) : Srt (insQ ks q) := by
  induction ks with
  | nil => exact List.pairwise_singleton _ _
  | cons x xs ih =>
    unfold insQ
    have hp := List.pairwise_cons.1 h
    split
    · rename_i hx
      refine List.pairwise_cons.2 ⟨?_, ih hp.2⟩
      intro y hy
      rcases List.mem_cons.1 ((insQ_perm xs q).mem_iff.1 hy) with rfl | hy
      · simp [qLess_asymm hx]
      · exact hp.1 y hy
    · rename_i hx
      have hx : qLess x q = false := by simpa using hx
      refine List.pairwise_cons.2 ⟨?_, h⟩
      intro y hy
      rcases List.mem_cons.1 hy with rfl | hy
      · simp [hx]
      · have h2 : qLess y x = false := by simpa using hp.1 y hy
        simp [qLess_ntrans h2 hx]
theorem insQ_at : ∀ (ks : List Qn) (q : Qn) (a : Nat) (ha : a ≤ ks.length), (∀ j (h : j < ks.length), j < a → qLess (ks[j]) q = true) → (∀ (h : a < ks.length), qLess (ks[a]) q = false) → ks.take a ++ q :: ks.drop a = insQ ks q := by
  intro ks
  induction ks with
  | nil => intro q a ha _ _; simp at ha; subst ha; rfl
  | cons x xs ih =>
    intro q a ha h1 h2
    cases a with
    | zero =>
      have h3 := h2 (by simp)
      unfold insQ
      rw [if_neg (by simpa using h3)]
      rfl
    | succ a =>
      have h3 := h1 0 (by simp) (by omega)
      unfold insQ
      rw [if_pos (by simpa using h3)]
      have h4 := ih q a (by simpa using ha) (fun j hj hja => by have := h1 (j + 1) (by simpa using hj) (by omega); simpa using this) (fun h => by have := h2 (by simpa using h); simpa using this)
      rw [← h4]
      rfl
theorem insQ_len (ks : List Qn) (q : Qn) : (insQ ks q).length = ks.length + 1 := by rw [(insQ_perm ks q).length_eq]; rfl
/-- The reference's Due, entry by entry. -/
def outQ (now : Int) (ks : List Qn) (X : List Ex) : List Qn := X.foldl (fun ks x => if liveB x.e.expire now then ks else insQ ks x.e.q) ks
def liveX (X : List Ex) (now : Int) : List Ex := X.filter fun x => liveB x.e.expire now
theorem liveX_ents (X : List Ex) (now : Int) : ents (liveX X now) = liveL (ents X) now := by
  unfold liveX liveL ents; rw [List.filter_map]; rfl
theorem outQ_perm (now : Int) (X : List Ex) : ∀ ks, (outQ now ks X).Perm (ks ++ dq now (kv (ents X))) := by
  induction X with
  | nil => intro ks; simp [outQ, dq, kv]
  | cons x X ih =>
    intro ks
    have h := ih (if liveB x.e.expire now then ks else insQ ks x.e.q)
    have e : outQ now ks (x :: X) = outQ now (if liveB x.e.expire now then ks else insQ ks x.e.q) X := rfl
    rw [e]
    have e2 : dq now (kv (ents (x :: X))) = (if liveB x.e.expire now then [] else [x.e.q]) ++ dq now (kv (ents X)) := by
      unfold dq kv ents
      cases hl : liveB x.e.expire now <;> simp [List.filter_cons, hl]
    rw [e2]
    cases hl : liveB x.e.expire now
    · rw [hl] at h
      simp only [Bool.false_eq_true, if_false] at h ⊢
      refine h.trans ?_
      refine ((insQ_perm ks x.e.q).append_right _).trans ?_
      exact List.perm_middle.symm
    · rw [hl] at h
      simpa using h
theorem outQ_sorted (now : Int) (X : List Ex) : ∀ ks, Srt ks → Srt (outQ now ks X) := by
  induction X with
  | nil => intro ks h; exact h
  | cons x X ih =>
    intro ks h
    have e : outQ now ks (x :: X) = outQ now (if liveB x.e.expire now then ks else insQ ks x.e.q) X := rfl
    rw [e]
    apply ih
    split
    · exact h
    · exact insQ_sorted h
theorem outQ_due (X : List Ex) (now : Int) : outQ now [] X = dueS (ents X) now := by
  have tr : ∀ a b c : Qn, (!qLess b a) = true → (!qLess c b) = true → (!qLess c a) = true := fun a b c h1 h2 => by
    simp only [Bool.not_eq_true'] at *; exact qLess_ntrans h2 h1
  have tot : ∀ a b : Qn, ((!qLess b a) || (!qLess a b)) = true := fun a b => by
    cases h1 : qLess b a
    · rfl
    · rw [qLess_asymm h1]; rfl
  unfold dueS
  refine List.Perm.eq_of_pairwise (le := fun a b => (!qLess b a) = true) (fun a b _ _ h1 h2 => ?_) (outQ_sorted now X [] List.Pairwise.nil) (List.pairwise_mergeSort tr tot _) ((outQ_perm now X []).trans (List.mergeSort_perm _ _).symm)
  simp only [Bool.not_eq_true'] at h1 h2
  exact qLess_total h2 h1
theorem due_inner (X : List Ex) (now : Int) (Y : List Ex) (ks : List Qn) (i : Nat) (hi : i < X.length) (hX : X.length < 1000000) (hk : ks.length ≤ i) (R : Nat) (res : List S35 × List S25)
    (ih : ∀ k, R ≤ k → derrickref13_Due.l0 k (X.map Ex.s) now (Y.map Ex.s) ((insQ ks (X[i]).e.q).map Qn.s) ((i + 1 : Nat) : Int) = some res) :
    ∀ (d a k : Nat), ks.length - a = d → a ≤ ks.length → (∀ j (h : j < ks.length), j < a → qLess (ks[j]) (X[i]).e.q = true) → R + d + 1 ≤ k →
      derrickref13_Due.l1 k (X.map Ex.s) now (Y.map Ex.s) (ks.map Qn.s) (i : Int) (a : Int) = some res := by
  have hins : ∀ (a : Nat) (ha : a ≤ ks.length) (k : Nat), R ≤ k → ks.take a ++ (X[i]).e.q :: ks.drop a = insQ ks (X[i]).e.q →
      derrickref13_Due.l0 k (X.map Ex.s) now (Y.map Ex.s) ((([] : List S25) ++ (ks.map Qn.s).take ((a : Int)).toNat ++ [(⟨(X[i]).s.f0.f0, (X[i]).s.f0.f1, (X[i]).s.f0.f2⟩ : S25)]) ++ (ks.map Qn.s).drop ((a : Int)).toNat) (wrap64 ((i : Int) + 1)) = some res := by
    intro a ha k hk he
    rw [w64 (by omega), ← ih k hk, ← he]
    simp [List.map_take, List.map_drop, Ex.s, Qn.s]
  intro d
  induction d with
  | zero =>
    intro a k hd ha hp hkk
    obtain ⟨k, rfl⟩ : ∃ m, k = m + 1 := ⟨k - 1, by omega⟩
    have he : a = ks.length := by omega
    simp only [derrickref13_Due.l1]
    rw [if_neg (by simp [he])]
    try simp only [Option.bind_some]
    rw [if_pos (by omega), if_pos (by simp [he])]
    try simp only [Option.bind_some]
    rw [if_pos (by simp; omega)]
    try simp only [Option.bind_some]
    rw [if_pos (by omega), if_pos (by simpa using hi), if_pos (by simp; omega)]
    try simp only [Option.bind_some]
    rw [if_pos (by simp; omega), rd_s hi]
    exact hins a ha k (by omega) (insQ_at ks _ a ha hp (fun h => by omega))
  | succ d ihd =>
    intro a k hd ha hp hkk
    obtain ⟨k, rfl⟩ : ∃ m, k = m + 1 := ⟨k - 1, by omega⟩
    have hlt : a < ks.length := by omega
    simp only [derrickref13_Due.l1]
    rw [if_pos (by simpa using hlt), if_pos (by omega), if_pos (by omega), if_pos (by simpa using hi), rd_q hlt, rd_s hi]
    have hl : derrickref13_Less.f (ks[a]).s.f0 (ks[a]).s.f1 (ks[a]).s.f2 (X[i]).s.f0.f0 (X[i]).s.f0.f1 (X[i]).s.f0.f2 = some (qLess (ks[a]) (X[i]).e.q) := less_f _ _
    rw [hl]
    try simp only [Option.bind_some]
    cases hq : qLess (ks[a]) (X[i]).e.q
    · rw [if_neg (by simp), if_pos (by simp; omega)]
      try simp only [Option.bind_some]
      rw [if_pos (by simp; omega)]
      try simp only [Option.bind_some]
      rw [if_pos (by simp; omega)]
      try simp only [Option.bind_some]
      rw [if_pos (by simp; omega)]
      exact hins a ha k (by omega) (insQ_at ks _ a ha hp (fun _ => hq))
    · rw [if_pos rfl, w64 (by omega)]
      refine ihd (a + 1) k (by omega) (by omega) ?_ (by omega)
      intro j hj hja
      rcases Nat.lt_or_ge j a with h | h
      · exact hp j hj h
      · have : j = a := by omega
        subst this; exact hq
theorem due_l (X : List Ex) (now : Int) (hX : X.length < 1000000) : ∀ (d i k : Nat) (Y : List Ex) (ks : List Qn), X.length - i = d → i ≤ X.length → d * (X.length + 2) + 1 ≤ k → Y.length ≤ i → ks.length ≤ i →
    derrickref13_Due.l0 k (X.map Ex.s) now (Y.map Ex.s) (ks.map Qn.s) (i : Int) = some ((Y ++ liveX (X.drop i) now).map Ex.s, (outQ now ks (X.drop i)).map Qn.s) := by
  intro d
  induction d with
  | zero =>
    intro i k Y ks hd hi hk hy hks
    obtain ⟨k, rfl⟩ : ∃ m, k = m + 1 := ⟨k - 1, by omega⟩
    have he : i = X.length := by omega
    subst he
    simp only [derrickref13_Due.l0]
    rw [if_neg (by simp)]
    simp [liveX, outQ]
  | succ d ih =>
    intro i k Y ks hd hi hk hy hks
    rw [Nat.add_mul] at hk
    obtain ⟨k, rfl⟩ : ∃ m, k = m + 1 := ⟨k - 1, by omega⟩
    have hlt : i < X.length := by omega
    have hdr : X.drop i = X[i] :: X.drop (i + 1) := List.drop_eq_getElem_cons hlt
    simp only [derrickref13_Due.l0]
    rw [if_pos (by simpa using hlt), if_pos (by omega), rd_s hlt]
    by_cases hl : (X[i]).e.expire > now
    · have hlb : liveB (X[i]).e.expire now = true := decide_eq_true hl
      rw [if_pos (show (X[i]).s.f4 > now from hl), if_pos (by simp; omega), w64 (by omega)]
      have h1 := ih (i + 1) k (Y ++ [X[i]]) ks (by omega) (by omega) (by omega) (by simp; omega) (by omega)
      have e1 : (Y ++ [X[i]]).map Ex.s = Y.map Ex.s ++ [(⟨(⟨(X[i]).s.f0.f0, (X[i]).s.f0.f1, (X[i]).s.f0.f2⟩ : S25), (X[i]).s.f1, (X[i]).s.f2, (X[i]).s.f3, (X[i]).s.f4⟩ : S35)] := by simp [Ex.s, Qn.s]
      rw [e1] at h1
      rw [h1]
      have e2 : liveX (X.drop i) now = X[i] :: liveX (X.drop (i + 1)) now := by unfold liveX; rw [hdr, List.filter_cons, if_pos hlb]
      have e3 : outQ now ks (X.drop i) = outQ now ks (X.drop (i + 1)) := by rw [hdr]; show outQ now (if liveB (X[i]).e.expire now then ks else _) _ = _; rw [if_pos hlb]
      rw [e2, e3]
      simp
    · have hlb : liveB (X[i]).e.expire now = false := decide_eq_false hl
      rw [if_neg (show ¬ (X[i]).s.f4 > now from hl)]
      have e2 : liveX (X.drop i) now = liveX (X.drop (i + 1)) now := by unfold liveX; rw [hdr, List.filter_cons, if_neg (by simp [hlb])]
      have e3 : outQ now ks (X.drop i) = outQ now (insQ ks (X[i]).e.q) (X.drop (i + 1)) := by rw [hdr]; show outQ now (if liveB (X[i]).e.expire now then ks else _) _ = _; rw [hlb]; rfl
      rw [e2, e3]
      exact due_inner X now Y ks i hlt hX hks (d * (X.length + 2) + 1) _ (fun k' hk' => ih (i + 1) k' Y (insQ ks (X[i]).e.q) (by omega) (by omega) hk' (by omega) (by rw [insQ_len]; omega)) ks.length 0 k (by omega) (by omega) (fun j _ h => by omega) (by omega)
theorem due_f (X : List Ex) (now : Int) (hX : X.length < 1000000) {k : Nat} (hk : X.length * (X.length + 2) + 1 ≤ k) : derrickref13_Due.f k (X.map Ex.s) now = some ((liveX X now).map Ex.s, (dueS (ents X) now).map Qn.s) := by
  have h := due_l X now hX X.length 0 k [] [] (by omega) (by omega) hk (by simp) (by simp)
  simp only [List.map_nil, List.nil_append, List.drop_zero] at h
  rw [outQ_due] at h
  exact h
/-- The same lists, and the same entries. -/
theorem asks_l (l : List Qn) (hl : l.length < 4611686018427387904) : ∀ (d i k : Nat), l.length - i = d → i ≤ l.length → d < k → derrickref12_Asks.l0 k (l.map Qn.s) (l.map Qn.s) (i : Int) = some true := by
  intro d
  induction d with
  | zero =>
    intro i k hd hi hk
    obtain ⟨k, rfl⟩ : ∃ m, k = m + 1 := ⟨k - 1, by omega⟩
    simp only [derrickref12_Asks.l0]
    rw [if_neg (by simp; omega)]
  | succ d ih =>
    intro i k hd hi hk
    obtain ⟨k, rfl⟩ : ∃ m, k = m + 1 := ⟨k - 1, by omega⟩
    have hlt : i < l.length := by omega
    simp only [derrickref12_Asks.l0]
    rw [if_pos (by simpa using hlt), if_pos (by omega), if_pos (by simpa using hlt), rd_q hlt, if_neg (by simp), w64 (by omega)]
    exact ih (i + 1) k (by omega) (by omega) (by omega)
theorem asks_self (l : List Qn) {k : Nat} (hl : l.length < k) (hk : k < 4611686018427387904) : derrickref12_Asks.f k (l.map Qn.s) (l.map Qn.s) = some true := by
  unfold derrickref12_Asks.f
  rw [if_pos rfl]
  exact asks_l l (by omega) l.length 0 k (by omega) (by omega) hl
theorem same_l (n : ByteArray) (t c : Int) (l : List S70) (x y z : Int) (hl : l.length ≤ 9223372036854775807) : ∀ (d i k : Nat), l.length - i = d → i ≤ l.length → d < k → derrickref12_Same.l0 k (i : Int) n t c l x y z n t c l x y z = some true := by
  intro d
  induction d with
  | zero =>
    intro i k hd hi hk
    obtain ⟨k, rfl⟩ : ∃ m, k = m + 1 := ⟨k - 1, by omega⟩
    simp only [derrickref12_Same.l0]
    rw [if_neg (by omega)]
  | succ d ih =>
    intro i k hd hi hk
    obtain ⟨k, rfl⟩ : ∃ m, k = m + 1 := ⟨k - 1, by omega⟩
    simp only [derrickref12_Same.l0]
    rw [if_pos (by omega), if_pos (by omega), if_pos (by omega), if_neg (by simp), w64 (by omega)]
    exact ih (i + 1) k (by omega) (by omega) (by omega)
theorem same_self (n : ByteArray) (t c : Int) (l : List S70) (x y z : Int) {k : Nat} (hl : l.length + 1 < k) (hk : l.length ≤ 9223372036854775807) : derrickref12_Same.f k n t c l x y z n t c l x y z = some true := by
  obtain ⟨k, rfl⟩ : ∃ m, k = m + 1 := ⟨k - 1, by omega⟩
  unfold derrickref12_Same.f
  rw [if_pos rfl, if_neg (by simp), if_pos rfl, if_pos rfl]
  simp only [derrickref12_Same.j0]
  rw [if_neg (by simp)]
  exact same_l n t c l x y z (by omega) l.length 0 k (by omega) (by omega) (by omega)
end Go.Proofs.Ytnikhiegnledlaa
