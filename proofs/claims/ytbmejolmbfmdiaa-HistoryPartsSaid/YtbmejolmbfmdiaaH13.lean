import Derived.Test.YtbmejolmbfmdiaaH12
import Derived.Test.YtbmejolmbfmdiaaRX
import Derived.Deep.WholeRow
namespace Go.Proofs.Ytbmejolmbfmdiaa
open Go Go.RowKit Go.Lib Go.Proofs.MapL

/-- Each shard's part's state. -/
abbrev St := Int → Ps
def st0 : St := fun _ => ⟨[], []⟩
def stIn (n : Int) (x : Ev) : Bool := decide (0 ≤ x.sh) && decide (x.sh < n)
def okX (ρ : En → List Rr) (n room : Int) (st : St) (x : Ev) : Bool := stIn n x && rightB ρ (st x.sh) room x
def stX (ρ : En → List Rr) (n room : Int) (st : St) (x : Ev) : St := fun k => if k = x.sh ∧ stIn n x = true then rightS ρ (st x.sh) room x else st k
def stL (ρ : En → List Rr) (n room : Int) (st : St) (l : List Ev) : St := l.foldl (stX ρ n room) st
/-- The places of what isn't as it should be. -/
def wrongL (ρ : En → List Rr) (n room : Int) : St → Nat → List Ev → List Int
  | _, _, [] => []
  | st, i, x :: l => (if okX ρ n room st x then [] else [(i : Int)]) ++ wrongL ρ n room (stX ρ n room st x) (i + 1) l
theorem stL_app (ρ : En → List Rr) (n room : Int) (st : St) (l : List Ev) (x : Ev) : stL ρ n room st (l ++ [x]) = stX ρ n room (stL ρ n room st l) x := by unfold stL; rw [List.foldl_append]; rfl
theorem wrongL_app (ρ : En → List Rr) (n room : Int) : ∀ (l m : List Ev) (st : St) (i : Nat), wrongL ρ n room st i (l ++ m) = wrongL ρ n room st i l ++ wrongL ρ n room (stL ρ n room st l) (i + l.length) m
  | [], m, st, i => by simp [wrongL, stL]
  | y :: l, m, st, i => by
    rw [List.cons_append, wrongL, wrongL, wrongL_app ρ n room l m, List.append_assoc]
    rw [show i + 1 + l.length = i + (y :: l).length by simp; omega]
    rfl
theorem wrongL_snoc (ρ : En → List Rr) (n room : Int) (l : List Ev) (x : Ev) : wrongL ρ n room st0 0 (l ++ [x]) = wrongL ρ n room st0 0 l ++ if okX ρ n room (stL ρ n room st0 l) x then [] else [(l.length : Int)] := by
  rw [wrongL_app]; simp [wrongL]
theorem wrongL_len (ρ : En → List Rr) (n room : Int) : ∀ (l : List Ev) (st : St) (i : Nat), (wrongL ρ n room st i l).length ≤ l.length
  | [], _, _ => Nat.le_refl _
  | y :: l, st, i => by
    have := wrongL_len ρ n room l (stX ρ n room st y) (i + 1)
    rw [wrongL, List.length_append, List.length_cons]
    split <;> simp <;> omega
theorem wrongL_take (ρ : En → List Rr) (n room : Int) (l : List Ev) (k : Nat) : wrongL ρ n room st0 0 (l.take k) <+: wrongL ρ n room st0 0 l := by
  conv => rhs; rw [← List.take_append_drop k l, wrongL_app]
  exact List.prefix_append _ _

theorem mem_putE {L : List En} {e x : En} (h : x ∈ putE L e) : x ∈ L ∨ x = e := by
  unfold putE at h
  split at h
  · obtain ⟨y, hy, h⟩ := List.mem_map.1 h
    split at h
    · exact .inr h.symm
    · exact .inl (h ▸ hy)
  · simpa using h
theorem putE_len (L : List En) (e : En) : (putE L e).length ≤ L.length + 1 := by
  unfold putE
  split <;> simp
theorem insL_in (L : List En) (room : Int) (e : En) (now : Int) : (insL L room e now).length ≤ L.length + 1 ∧ ∀ x ∈ insL L room e now, x ∈ L ∨ x = e := by
  unfold insL
  split
  · exact ⟨putE_len L e, fun x h => mem_putE h⟩
  · exact ⟨by omega, fun x h => .inl h⟩
theorem putU_len (E : List (Qn × Int)) (q : Qn) (t : Int) : (putL E q t).length ≤ E.length + 1 := by
  rw [put_len]
  split <;> omega
/-- What is told of a part behind another one's deed. -/
structure Near (s s' : Ps) (e : En) : Prop where
  l : s'.L.length ≤ s.L.length + 1
  el : s'.E.length ≤ s.E.length + 1
  m : ∀ x ∈ s'.L, x ∈ s.L ∨ x = e
theorem near_refl (s : Ps) (e : En) : Near s s e := ⟨by omega, by omega, fun _ h => .inl h⟩
theorem dropAll_mem (s : Ps) (l : List Qn) : ∀ x ∈ (dropAll s l).L, x ∈ s.L := by
  induction l generalizing s with
  | nil => exact fun _ h => h
  | cons q l ih => exact fun x h => (List.mem_filter.1 (ih (dropS s q) x h)).1
theorem near_drop (s : Ps) (l : List Qn) (e : En) : Near s (dropAll s l) e := ⟨by have := (dropAll_len s l).1; omega, by have := (dropAll_len s l).2; omega, fun x h => .inl (dropAll_mem s l x h)⟩
theorem right_near (ρ : En → List Rr) (s : Ps) (room : Int) (x : Ev) : Near s (rightS ρ s room x) x.de := by
  unfold rightS
  split
  · unfold insS
    split
    · have h1 := dropAll_len s x.G
      have h2 := insL_in (dropAll s x.G).L room x.de x.now
      have h3 := putU_len (dropAll s x.G).E x.de.q x.de.expire
      refine ⟨?_, ?_, ?_⟩
      · show (insL (dropAll s x.G).L room x.de x.now).length ≤ _; omega
      · show (if insC (dropAll s x.G).L room x.de x.now = 0 then putL (dropAll s x.G).E x.de.q x.de.expire else (dropAll s x.G).E).length ≤ _
        split <;> omega
      · intro y hy
        rcases h2.2 y hy with h | h
        · exact .inl (dropAll_mem s x.G y h)
        · exact .inr h
    · exact near_refl s _
  · split
    · exact near_refl s _
    · split
      · unfold evS
        split
        · exact near_drop s [x.de.q] _
        · exact near_refl s _
      · split
        · unfold advS
          split
          · exact near_drop s x.G _
          · exact near_refl s _
        · exact near_refl s _
/-- All parts are small, and their records can be read. -/
def StOK (w : World) (st : St) (c : Nat) : Prop := ∀ k, (st k).L.length ≤ c ∧ (st k).E.length ≤ c ∧ ∀ e ∈ (st k).L, RecOK w e
theorem stok0 (w : World) : StOK w st0 0 := fun _ => ⟨Nat.le_refl _, Nat.le_refl _, fun _ h => by cases h⟩
theorem StOK.step {w : World} {st : St} {c : Nat} (h : StOK w st c) (ρ : En → List Rr) (n room : Int) {x : Ev} (hx : EvOK w x) : StOK w (stX ρ n room st x) (c + 1) := by
  intro k
  have hk := h k
  unfold stX
  split
  · have hn := right_near ρ (st x.sh) room x
    have hs := h x.sh
    refine ⟨by have := hn.l; omega, by have := hn.el; omega, fun e he => ?_⟩
    rcases hn.m e he with h1 | h1
    · exact hs.2.2 e h1
    · rw [h1]; exact hx.de
  · exact ⟨by omega, by omega, hk.2.2⟩

def elI (k : Int) : Lit := .int .i64 k
theorem elI_inj : Function.Injective elI := fun a b h => by unfold elI at h; injection h
def vP (p : Nat) : Value := .pointer (some ⟨p, 0, none⟩)
theorem kI : Maps.Keyed Try.prog 3 := Maps.int_keyed Try.underlying3
theorem i64_wf {x : Int} (h : -9223372036854775808 ≤ x ∧ x ≤ 9223372036854775807) : (Lit.int .i64 x).wf = true := by
  have h1 : IntKind.i64.min = -9223372036854775808 := by decide
  have h2 : IntKind.i64.max = 9223372036854775807 := by decide
  simp only [Lit.wf, h1, h2, decide_eq_true h.1, decide_eq_true h.2]
  rfl
theorem key_i {x : Int} (h : -9223372036854775808 ≤ x ∧ x ≤ 9223372036854775807) : keyOf Try.prog 3 (.int .i64 x) = some (elI x) := Maps.keyOf_int_mk Try.underlying3 (i64_wf h)
theorem zeroP (w : World) : (zeroValue 52).run Try.prog w = .ok (.pointer none) w := by kernel_rfl
theorem pw_all {α : Type} {R : α → α → Prop} (hs : ∀ a b, R a b → R b a) : ∀ {l : List α}, l.Pairwise R → ∀ a ∈ l, ∀ b ∈ l, a = b ∨ R a b
  | [], _, _, h, _, _ => by cases h
  | x :: l, hp, a, ha, b, hb => by
    rw [List.pairwise_cons] at hp
    rcases List.mem_cons.1 ha with rfl | ha' <;> rcases List.mem_cons.1 hb with rfl | hb'
    · exact .inl rfl
    · exact .inr (hp.1 b hb')
    · exact .inr (hs _ _ (hp.1 a ha'))
    · exact pw_all hs hp.2 a ha' b hb'

def ApartK (p q : Int × Pt) : Prop := p.1 ≠ q.1 ∧ ∀ b ∈ p.2.all, b ∉ q.2.all
theorem apart_sym (p q : Int × Pt) (h : ApartK p q) : ApartK q p := ⟨fun e => h.1 e.symm, fun b hb hc => h.2 b hc hb⟩
def allK (pm : Nat) (K : List (Int × Pt)) : List Nat := pm :: K.flatMap fun p => p.2.all
theorem mem_allK {pm : Nat} {K : List (Int × Pt)} {b : Nat} : b ∈ allK pm K ↔ b = pm ∨ ∃ p ∈ K, b ∈ p.2.all := by unfold allK; simp [List.mem_flatMap]
/-- The parts in memory. -/
structure PartsAt (w : World) (pm : Nat) (room : Int) (base : Nat) (K : List (Int × Pt)) (st : St) : Prop where
  map : mapIs elI vP Try.prog 3 w pm (K.map fun p => (p.1, p.2.pp))
  at_ : ∀ p ∈ K, PtAt w p.2 (st p.1)
  room : ∀ p ∈ K, p.2.room = room
  base : ∀ b ∈ allK pm K, base ≤ b
  apart : K.Pairwise ApartK
  pne : ∀ p ∈ K, pm ∉ p.2.all
  rest : ∀ k, (∀ p ∈ K, p.1 ≠ k) → st k = ⟨[], []⟩
section
variable {w w' : World} {pm : Nat} {room : Int} {base : Nat} {K : List (Int × Pt)} {st : St} {S : List Nat}
theorem PartsAt.fr (h : PartsAt w pm room base K st) (hf : Fr S w w') (hS : ∀ b ∈ allK pm K, b ∉ S) : PartsAt w' pm room base K st :=
  ⟨map_fr h.map hf (hS _ (mem_allK.2 (.inl rfl))), fun p hp => (h.at_ p hp).fr hf (fun b hb => hS b (mem_allK.2 (.inr ⟨p, hp, hb⟩))), h.room, h.base, h.apart, h.pne, h.rest⟩
theorem PartsAt.fr0 (h : PartsAt w pm room base K st) (hf : Fr [] w w') : PartsAt w' pm room base K st := h.fr hf (by simp)
theorem PartsAt.lt (h : PartsAt w pm room base K st) : ∀ b ∈ allK pm K, b < w.heap.size := by
  intro b hb
  rcases mem_allK.1 hb with rfl | ⟨p, hp, hb⟩
  · exact h.map.lt
  · exact (h.at_ p hp).lt b hb
theorem Pt.wr_all (P : Pt) : ∀ b ∈ P.wr, b ∈ P.all := by
  intro b hb; simp only [Pt.wr, Pt.all, List.mem_cons, List.not_mem_nil, or_false] at hb ⊢; rcases hb with h | h <;> simp [h]
/-- One part's deed. -/
theorem PartsAt.put (h : PartsAt w pm room base K st) {p : Int × Pt} (hp : p ∈ K) (hf : Fr p.2.wr w w') {st' : St} (hs : PtAt w' p.2 (st' p.1)) (ho : ∀ k, k ≠ p.1 → st' k = st k) : PartsAt w' pm room base K st' := by
  have hall := pw_all apart_sym h.apart
  refine ⟨map_fr h.map hf (fun e => h.pne p hp (Pt.wr_all _ _ e)), fun q hq => ?_, h.room, h.base, h.apart, h.pne, fun k hk => ?_⟩
  · rcases hall p hp q hq with rfl | ha
    · exact hs
    · rw [ho q.1 (fun e => ha.1 e.symm)]
      exact (h.at_ q hq).fr hf (fun b hb e => ha.2 b (Pt.wr_all _ _ e) hb)
  · rw [ho k (fun e => hk p hp e.symm)]; exact h.rest k hk
theorem find_none_K {k : Int} (h : findL (K.map fun p => (p.1, p.2.pp)) k = none) : ∀ p ∈ K, p.1 ≠ k := fun p hp => find_none h (p.1, p.2.pp) (List.mem_map.2 ⟨p, hp, rfl⟩)
theorem find_some_K {k : Int} {a : Nat} (h : findL (K.map fun p => (p.1, p.2.pp)) k = some a) : ∃ P, (k, P) ∈ K ∧ P.pp = a := by
  obtain ⟨p, hp, e⟩ := List.mem_map.1 (find_mem h)
  injection e with e1 e2
  subst e1
  exact ⟨p.2, hp, e2⟩
/-- A new part. -/
theorem PartsAt.add (h : PartsAt w pm room base K st) {k : Int} (hk : findL (K.map fun p => (p.1, p.2.pp)) k = none) {w1 : World} (h1 : Fr [] w w1) {P : Pt} (hP : PtAt w1 P ⟨[], []⟩) (hr : P.room = room) (hnew : ∀ b ∈ P.all, w.heap.size ≤ b)
    (hf : Fr [pm] w1 w') (hm : mapIs elI vP Try.prog 3 w' pm (putL (K.map fun p => (p.1, p.2.pp)) k P.pp)) : PartsAt w' pm room base (K ++ [(k, P)]) st ∧ Fr [pm] w w' := by
  have hlt := h.lt
  have hpm : pm < w.heap.size := h.map.lt
  have hn := find_none_K hk
  have hPn : pm ∉ P.all := fun e => by have := hnew _ e; omega
  have hput : putL (K.map fun p => (p.1, p.2.pp)) k P.pp = (K ++ [(k, P)]).map fun p => (p.1, p.2.pp) := by unfold putL; rw [hk]; simp
  rw [hput] at hm
  have hfw : Fr [pm] w w' := (h1.mono (by simp)).trans hf
  refine ⟨⟨hm, fun p hp => ?_, fun p hp => ?_, fun b hb => ?_, ?_, fun p hp => ?_, fun j hj => ?_⟩, hfw⟩
  · rcases List.mem_append.1 hp with hp | hp
    · exact (h.at_ p hp).fr hfw (fun b hb e => h.pne p hp (by simp at e; subst e; exact hb))
    · simp at hp; subst hp
      show PtAt w' P (st k)
      rw [h.rest k hn]
      exact hP.fr hf (fun b hb e => hPn (by simp at e; subst e; exact hb))
  · rcases List.mem_append.1 hp with hp | hp
    · exact h.room p hp
    · simp at hp; subst hp; exact hr
  · rcases mem_allK.1 hb with rfl | ⟨p, hp, hb⟩
    · exact h.base _ (mem_allK.2 (.inl rfl))
    · rcases List.mem_append.1 hp with hp | hp
      · exact h.base b (mem_allK.2 (.inr ⟨p, hp, hb⟩))
      · simp at hp; subst hp
        have h2 := hnew b hb
        have h3 := h.base pm (mem_allK.2 (.inl rfl))
        omega
  · refine List.pairwise_append.2 ⟨h.apart, List.pairwise_singleton _ _, fun p hp q hq => ?_⟩
    simp at hq; subst hq
    exact ⟨hn p hp, fun b hb hc => by have := hnew b hc; have := hlt b (mem_allK.2 (.inr ⟨p, hp, hb⟩)); omega⟩
  · rcases List.mem_append.1 hp with hp | hp
    · exact h.pne p hp
    · simp at hp; subst hp; exact hPn
  · exact h.rest j (fun p hp => hj p (List.mem_append.2 (.inl hp)))
end
theorem parts_none {w : World} {pm : Nat} (h : mapIs elI vP Try.prog 3 w pm []) (room : Int) {base : Nat} (hb : base ≤ pm) : PartsAt w pm room base [] st0 :=
  ⟨h, (fun _ h => by cases h), (fun _ h => by cases h), (fun b h => by simp [allK] at h; omega), List.Pairwise.nil, (fun _ h => by cases h), fun _ _ => rfl⟩

/-- A load of a whole struct, whatever its cells. -/
theorem wpList_loadA {P : Program} {w : World} {ops : Array Oper} {rest : List Oper} {o : Oper} {a : Act} {Q : Exit → Act → World → Prop} {ty n : Nat} {ad : Addr} {x : Operand} {v : Array Value}
    (hg : Region.wanted o (yielded ops a.tmps) = true) (hop : o.op = .load ty x) (ha : (isAgg ty).run P w = .ok true w) (hs : (sizeOf ty).run P w = .ok n w) (hl : (loadCellsFrom ad 0 n #[]).run P w = .ok v w)
    (hx : a.eval x = .pointer (some ad)) (hK : wpList P ops Q rest (a.put o.dst (.agg v)) w) : wpList P ops Q (o :: rest) a w := by
  refine wpList_step fun K hK' => ?_
  rw [if_pos hg]
  unfold Oper.wp
  have hr : (execOp a.eval o).run P w = .ok (.value (.agg v)) w := by
    simp [execOp, hop, hx, Instr.loadAt, Instr.sureAddr, loadVar, loadCells, ha, hs, hl, Result.andThen]
  rw [hr]
  exact hK' _ _ hK
/-- A store of a whole struct into the block that was made last. -/
theorem wpList_storeNew {P : Program} {w : World} {ops : Array Oper} {rest : List Oper} {o : Oper} {a : Act} {Q : Exit → Act → World → Prop} {ty : Nat} {x y : Operand} {c c' : Array Value}
    (hg : Region.wanted o (yielded ops a.tmps) = true) (hop : o.op = .store ty x y) (hx : a.eval x = .pointer (some ⟨w.heap.size, 0, none⟩)) (hy : a.eval y = .agg c') (hi : (P.info? ty).map (·.size) = some c'.size) (ho : c.size = c'.size)
    (h1 : c'.all (·.oneCell') = true) (hK : wpList P ops Q rest (a.put o.dst undef) (w.alloc (.cells c' ty))) : wpList P ops Q (o :: rest) a (w.alloc (.cells c ty)) := by
  refine wpList_step fun K hK' => ?_
  rw [if_pos hg]
  unfold Oper.wp
  have hr : (execOp a.eval o).run P (w.alloc (.cells c ty)) = .ok .skip (w.alloc (.cells c' ty)) := by
    simp only [execOp, hop, hx, hy, Sem.run_bind, run_storeAt_new w ty c c' hi ho h1, Result.andThen, Sem.run_pure]
  rw [hr]
  exact hK' _ _ hK
theorem row_load {P : Program} {w : World} {b off : Nat} {c : List Value} (h : ∀ j u, c[j]? = some u → w.cell? ⟨b, off + j, none⟩ = some u) {n : Nat} (hn : c.length = n) {v : Array Value} (hv : c.toArray = v) : (loadCellsFrom ⟨b, off, none⟩ 0 n #[]).run P w = .ok v w := by
  rw [← hv]
  exact run_loadCellsFrom_list P w _ c n hn (fun j u hj => by rw [Addr.add_lit]; exact h j u hj)
end Go.Proofs.Ytbmejolmbfmdiaa
