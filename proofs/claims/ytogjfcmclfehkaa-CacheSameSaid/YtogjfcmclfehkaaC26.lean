import Derived.Test.YtogjfcmclfehkaaC25
namespace Go.Proofs.Ytogjfcmclfehkaa
open Go Go.RowKit Go.Proofs.MapL PPM Go.Proofs.YtogjfcmclfehkaaW.PrintWords

theorem CAt.lt {w : World} {C : CB} {hv : Value} {c : Cs} (h : CAt w C hv c) : ∀ x ∈ C.all, x < w.heap.size := by
  intro x hx
  have hn := h.n0
  unfold CB.all at hx
  simp only [List.mem_cons, List.mem_append, List.mem_flatMap] at hx
  rcases hx with rfl | rfl | hx | ⟨B, hB, hx⟩
  · have := h.ok.pc; omega
  · have := h.ok.gp; omega
  · have := h.ok.ps x hx; omega
  · have := h.ok.bs B hB x hx; omega
/-- Another's step. -/
theorem CAt.frS {w w' : World} {C : CB} {hv : Value} {c : Cs} {S : List Nat} (h : CAt w C hv c) (hf : Fr S w w') (hS : ∀ x ∈ C.all, x ∉ S) (hh : ∀ k, hv.ownBlock = some k → k ∉ S) (hq : NoT w S 33) : CAt w' C hv c := by
  obtain ⟨cs, h1, h2⟩ := h.row
  have a1 : C.pc ∈ C.all := by unfold CB.all; simp
  have a2 : C.gp ∈ C.all := by unfold CB.all; simp
  have a3 : ∀ p ∈ C.ps, p ∈ C.all := fun p hp => by unfold CB.all; simp [hp]
  have a4 : ∀ B ∈ C.Bs, ∀ x ∈ B.all, x ∈ C.all := fun B hB x hx => by
    unfold CB.all
    simp only [List.mem_cons, List.mem_append, List.mem_flatMap]
    exact .inr (.inr (.inr ⟨B, hB, hx⟩))
  refine ⟨h.ok, Nat.le_trans h.n0 hf.size, h.sl, h.wl, h.blk.fr hf (hS _ a1), ⟨cs, h1.fr hf (hS _ a2), h2⟩, fun i p B s o b1 b2 b3 b4 => ?_, h.hist.noT hf hh hq⟩
  have k := h.pt i p B s o b1 b2 b3 b4
  exact ⟨k.blk.fr hf (hS _ (a3 p (List.mem_of_getElem? b1))), k.sh.fr hf (fun x hx => hS _ (a4 B (List.mem_of_getElem? b2) x hx)), k.hand⟩
/-- Two caches, apart. -/
structure Two (A B : CB) (hvA hvB : Value) : Prop where
  ab : ∀ x ∈ A.all, x ∉ B.all
  ha : ∀ k, hvA.ownBlock = some k → k ∉ B.all
  hb : ∀ k, hvB.ownBlock = some k → k ∉ A.all
  hh : ∀ k, hvA.ownBlock = some k → hvB.ownBlock ≠ some k
theorem Two.symm {A B : CB} {hvA hvB : Value} (h : Two A B hvA hvB) : Two B A hvB hvA := ⟨fun x hx hy => h.ab x hy hx, h.hb, h.ha, fun k hk h2 => h.hh k h2 hk⟩
theorem Two.next {w : World} {A B : CB} {hvA hvA' hvB : Value} {cB : Cs} (h : Two A B hvA hvB) (hB : CAt w B hvB cB) (ho : ∀ x, hvA'.ownBlock = some x → hvA.ownBlock = some x ∨ w.heap.size ≤ x) : Two A B hvA' hvB := by
  refine ⟨h.ab, fun k hk hx => ?_, h.hb, fun k hk h2 => ?_⟩
  · rcases ho k hk with h1 | h1
    · exact h.ha k h1 hx
    · have := hB.lt k hx; omega
  · rcases ho k hk with h1 | h1
    · exact h.hh k h1 h2
    · have := (hB.hist.row.lt k h2).2; omega
theorem Two.keep {w w' : World} {A B : CB} {hvA hvB : Value} {cA cB : Cs} (h : Two A B hvA hvB) (hA : CAt w A hvA cA) (hB : CAt w B hvB cB) (hf : Fr (A.wr ++ hvA.ownBlock.toList) w w') : CAt w' B hvB cB := by
  refine hB.frS hf (fun x hx hy => ?_) (fun k hk hy => ?_) (hA.noW (by unfold Tok; decide))
  · rcases List.mem_append.1 hy with hy | hy
    · exact h.ab x (A.wr_all x hy) hx
    · exact h.ha x (by simpa using hy) hx
  · rcases List.mem_append.1 hy with hy | hy
    · exact h.hb k hk (A.wr_all k hy)
    · exact h.hh k (by simpa using hy) hk
/-- What a deed of whatever kind makes and tells. -/
def Did2 (w : World) (C : CB) (hv : Value) (c : Cs) (d : Dd) (r : Ending) (w' : World) : Prop :=
  ∃ v hv' h', r = .returned v ∧ CAt w' C hv' ⟨doneC d c.ss C.ps.length, noW C.ps.length, h'⟩ ∧ h'.length ≤ c.hist.length + 16 ∧ Fr (C.wr ++ hv.ownBlock.toList) w w' ∧ (∀ x, hv'.ownBlock = some x → hv.ownBlock = some x ∨ w.heap.size ≤ x) ∧
    (¬ (1 ≤ d.kind ∧ d.kind ≤ 4) → v = .slice none 0 0) ∧
    (1 ≤ d.kind ∧ d.kind ≤ 3 → ∃ g cc x, v = .slice (some ⟨g, 0, none⟩) 1 cc ∧ w'.ownsRow w.heap.size 47 20 (.slice (some ⟨g, 0, none⟩) 1 cc) 1 (Ev.c x) ∧ x.t = doneT (ssAt c.ss (hashK d.e.q C.ps.length)) d)
theorem do_any2 {w : World} {C : CB} {hv : Value} {c : Cs} (hc : CAt w C hv c) (hw : c.who = noW C.ps.length) (hh : c.hist.length ≤ 900000) (d : Dd) (hnm : d.e.q.name.size ≤ 1000000000000000) (hte : TOk d.e.expire) (htn : TOk d.now) :
    Calls Try.prog 14 #[pV C.pc, d.v] w (Did2 w C hv c d) := by
  by_cases hk : 1 ≤ d.kind ∧ d.kind ≤ 4
  · refine (do_calls hc d hnm hte htn hk hw hh).mono ?_
    rintro r w' ⟨v, hv', ev, rfl, hown, -, ht, -, hc', hf, ho, -⟩
    have h1 := congrArg List.length ht
    rw [tells_len, finE_len] at h1
    have h16 := leftD_le (d := d) hc.ok.n1
    refine ⟨v, hv', _, rfl, by unfold doneC; rw [if_pos hk]; exact hc', by rw [List.length_append]; omega, hf, ho, fun h => absurd hk h, fun h3 => ?_⟩
    have hl : leftD d C.ps.length = [hashK d.e.q C.ps.length] := by unfold leftD; rw [if_neg (by omega)]
    rw [hl] at ht h1
    obtain ⟨x, rfl⟩ : ∃ x, ev = [x] := List.length_eq_one_iff.1 h1
    obtain ⟨g, cc, rfl, -, -⟩ := own_form hown (by simp)
    refine ⟨g, cc, x, rfl, by simpa using hown, ?_⟩
    have h4 : (x.i, x.t) = (hashK d.e.q C.ps.length, doneT (ssAt c.ss (hashK d.e.q C.ps.length)) d) := by
      simpa [tells, finE] using ht
    exact (Prod.mk.inj h4).2
  · refine (do_none (pV C.pc) d (.inr ⟨⟨_, rfl⟩, by omega⟩) w).mono ?_
    rintro r w' ⟨rfl, hf⟩
    refine ⟨_, hv, c.hist, rfl, ?_, by omega, hf.mono (by simp), fun x hx => .inl hx, fun _ => rfl, fun h => absurd ⟨h.1, by omega⟩ hk⟩
    have := hc.fr0 hf
    unfold doneC
    rw [if_neg hk, ← hw]; exact this
theorem ssAt_one {l : List SS} (h : l.length = 1) : l = [ssAt l 0] := by
  obtain ⟨a, rfl⟩ := List.length_eq_one_iff.1 h
  rfl
theorem done_one {d : Dd} {l : List SS} (h : l.length = 1) (hnm : d.e.q.name.size ≤ 1000000000000000) : ssAt (doneC d l 1) 0 = if 1 ≤ d.kind ∧ d.kind ≤ 4 then doneS (ssAt l 0) d else ssAt l 0 := by
  unfold doneC
  split
  · have hl : leftD d 1 = [0] := by
      unfold leftD
      split
      · rfl
      · rw [hash_one _ hnm]
    rw [hl, finS_at d [0] l (by simp) (fun i hi => by obtain rfl := List.mem_singleton.1 hi; omega)]
    rw [if_pos (List.mem_singleton.2 rfl)]
  · rfl
theorem Alike.any {W w : World} {A B : CB} {hvA hvB : Value} {cA cB : Cs} {m : Nat} (h : Alike W (ssAt cA.ss 0) cB.ss B.ps.length m) (hm : m < 64) (hA : CAt w A hvA cA) (hB : CAt w B hvB cB) (h1 : A.ps.length = 1)
    (d : Dd) (hd : RdE W d.e) (hnm : d.e.q.name.size ≤ 1000000000000000) : Alike W (ssAt (doneC d cA.ss 1) 0) (doneC d cB.ss B.ps.length) B.ps.length (m + 1) := by
  rw [done_one (by rw [hA.sl, h1]) hnm]
  obtain ⟨u1, u2⟩ := hA.uq (i := 0) (by omega)
  unfold doneC
  split
  · rename_i hk
    exact h.step hm hB.ok.n1 u1 u2 (fun i hi => hB.uq hi) d hd hnm hk
  · exact ⟨h.ln, h.ent, h.key, h.la, h.lb, Nat.le_succ_of_le h.ca, fun i hi => Nat.le_succ_of_le (h.cb i hi), h.rd⟩
theorem rdz (w : World) : RdE w zeroEn := ⟨⟨by decide, by decide⟩, [], rfl, Nat.le_refl _, Kd.C_nil _ _⟩
theorem Alike.tell {W w : World} {A B : CB} {hvA hvB : Value} {cA cB : Cs} {m : Nat} (h : Alike W (ssAt cA.ss 0) cB.ss B.ps.length m) (hm : m < 64) (hA : CAt w A hvA cA) (hB : CAt w B hvB cB) (h1 : A.ps.length = 1)
    (d : Dd) (hnm : d.e.q.name.size ≤ 1000000000000000) (hk : 1 ≤ d.kind ∧ d.kind ≤ 3) : ∃ T : Tell, ∃ g1 g2, doneT (ssAt cA.ss (hashK d.e.q A.ps.length)) d = ⟨T.told, T.is, T.err, g1⟩ ∧ doneT (ssAt cB.ss (hashK d.e.q B.ps.length)) d = ⟨T.told, T.is, T.err, g2⟩ ∧ RdE W T.told := by
  rw [h1, hash_one _ hnm]
  obtain ⟨u1, u2⟩ := hA.uq (i := 0) (by omega)
  have hlt := hash_lt d.e.q hnm _ hB.ok.n1.1 hB.ok.n1.2
  obtain ⟨v1, v2⟩ := hB.uq hlt
  obtain ⟨k1, k2, k3, k4⟩ := done_tell u1 v1 u2 v2 (by have := h.ca; rw [h.la]; omega) (by have := h.cb _ hlt; rw [h.lb _ hlt]; omega) d (h.ent d.e.q) hk
  refine ⟨doneT (ssAt cA.ss 0) d, (doneT (ssAt cA.ss 0) d).gone, (doneT (ssAt cB.ss (hashK d.e.q B.ps.length)) d).gone, rfl, ?_, ?_⟩
  · rw [k1, k2, k3]
  · rcases k4 with e | e
    · rw [e]; exact rdz W
    · exact h.rd _ _ e
theorem Alike.new (W : World) (n m : Nat) (hn : 1 ≤ n) : Alike W (ssAt (List.replicate 1 (newS 64)) 0) (List.replicate n (newS 64)) n m := by
  have he : ∀ q, (newS 64).ent q = none := fun q => by
    have hf : (newS 64).find q = none := by
      unfold SS.find
      rw [List.findIdx?_eq_none_iff]
      intro a ha
      rw [List.eq_of_mem_replicate ha]; rfl
    unfold SS.ent; rw [hf]; rfl
  have hU : Uq (newS 64) := newS_uq 64
  have ha : (newS 64).all.length = 0 := by
    rw [← keys_len]
    cases hk : keysS (newS 64) with
    | nil => rfl
    | cons q l =>
      have := (mem_keys hU (q := q)).1 (by rw [hk]; exact List.mem_cons_self)
      rw [he] at this; cases this
  have hat : ∀ i, i < n → ssAt (List.replicate n (newS 64)) i = newS 64 := fun i hi => by unfold ssAt; rw [List.getElem?_replicate, if_pos hi]; rfl
  have h1 : ssAt (List.replicate 1 (newS 64)) 0 = newS 64 := rfl
  rw [h1]
  refine ⟨List.length_replicate, fun q => ?_, fun i hi q hq => ?_, rfl, fun i hi => ?_, by omega, fun i hi => ?_, fun q x hx => ?_⟩
  · rw [he]
    rcases Nat.lt_or_ge (hashK q n) n with h | h
    · rw [hat _ h, he]
    · exact (ssAt_out (by rw [List.length_replicate]; exact h) q).symm
  · rw [hat i hi, he] at hq; cases hq
  · rw [hat i hi]; rfl
  · rw [hat i hi]; omega
  · rw [he] at hx; cases hx
set_option maxRecDepth 100000 in
set_option maxHeartbeats 8000000 in
theorem same_law {v : Value} {ds : List Dd} {W : World} (hD : DeedsAt W v ds) (sh : Int) (hsh : 0 ≤ sh ∧ sh < 256) :
    Calls Try.prog 6 #[v, .int .u8 sh] W fun r w' => r = .returned (.bool true) ∧ Fr [] W w' := by
  have HD := Hd.mk hD
  obtain ⟨A, c, rfl, hat⟩ := hD.at_
  have HAT := Hd.mk hat
  have HLE := Hd.mk hD.le
  obtain ⟨sn, rfl⟩ : ∃ n : Nat, sh = n := Int.eq_ofNat_of_zero_le hsh.1
  have hs256 : sn < 256 := by omega
  clear hD hat hsh
  go_enter Try.func6, Try.ntmps6
  go_wp2_with fail
  refine (shown_law _).mono ?_
  rintro r wn ⟨rfl, hf⟩
  have HF := Hd.mk hf
  clear hf
  go_wp2_with fail
  refine (new_cache 1 64 8 (by omega) (by omega) (by omega) (by omega) (by omega) _).mono ?_
  rintro r wa ⟨CA, rfl, hc, hn, hf, hb⟩
  have HBA : Hd ((∀ z ∈ CA.wr, W.heap.size ≤ z) ∧ W.heap.size ≤ CA.n0) := Hd.mk (by
    have h1 := HF.out.size
    refine ⟨fun z hz => Nat.le_trans h1 (hb z (CA.wr_all z hz)), ?_⟩
    have h2 := hb CA.pc (by unfold CB.all; simp)
    have h3 := hc.ok.pc
    omega)
  have HF := Hd.mk (HF.out.trans hf)
  have HA := Hd.mk hc
  have HNA := Hd.mk hn
  clear hc hn hf hb
  have HN16 : Hd (1 ≤ 1 + sn % 16 ∧ 1 + sn % 16 ≤ 16) := Hd.mk ⟨by omega, by omega⟩
  unfold pV
  go_wp2_with fail
  obtain ⟨n, hn0⟩ : ∃ n : Nat, 1 + sn % 16 = n := ⟨_, rfl⟩
  rw [show ((1 : Int) + (sn : Int) % 16) = ((1 + sn % 16 : Nat) : Int) by omega]
  rw [hn0] at HN16 ⊢
  clear hn0
  refine (new_cache n 64 8 (by omega) (by omega) (by omega) (by omega) HN16.out _).mono ?_
  rintro r wb ⟨CB', rfl, hc, hn, hf, hb⟩
  have HTW : Hd (Two CA CB' (.slice none 0 0) (.slice none 0 0)) := Hd.mk ⟨fun x hx hy => by have := HA.out.lt x hx; have := hb x hy; omega, (fun k hk => by cases hk), (fun k hk => by cases hk), (fun k hk => by cases hk)⟩
  have HBB : Hd ((∀ z ∈ CB'.wr, W.heap.size ≤ z) ∧ W.heap.size ≤ CB'.n0) := Hd.mk (by
    have h1 := HF.out.size
    refine ⟨fun z hz => Nat.le_trans h1 (hb z (CB'.wr_all z hz)), ?_⟩
    have h2 := hb CB'.pc (by unfold CB.all; simp)
    have h3 := hc.ok.pc
    omega)
  have HA := Hd.mk (HA.out.fr0 hf)
  have HF := Hd.mk (HF.out.trans hf)
  have HB := Hd.mk hc
  have HNB := Hd.mk hn
  have HWA : Hd (List.replicate 1 none = noW CA.ps.length) := Hd.mk (by rw [HNA.out]; rfl)
  have HWB : Hd (List.replicate n none = noW CB'.ps.length) := Hd.mk (by rw [hn]; rfl)
  have HAL : Hd (Alike W (ssAt (List.replicate 1 (newS 64)) 0) (List.replicate n (newS 64)) CB'.ps.length 0) := Hd.mk (by rw [hn]; exact Alike.new W n 0 HN16.out.1)
  clear hc hf hn hb hs256
  unfold pV
  go_wp2_with fail
  go_loopw [8] (fun i wr => ∃ (j : Nat) (hvA : Value) (cA : Cs) (hvB : Value) (cB : Cs), j ≤ ds.length ∧ j ≤ 60 ∧ i = .int .i64 j ∧ CAt wr CA hvA cA ∧ CAt wr CB' hvB cB ∧ cA.who = noW CA.ps.length ∧ cB.who = noW CB'.ps.length ∧ cA.hist.length ≤ 16 * j ∧ cB.hist.length ≤ 16 * j ∧ Two CA CB' hvA hvB ∧ Alike W (ssAt cA.ss 0) cB.ss CB'.ps.length j ∧ Fr [] W wr) (fun i _ => 70 - (intOf i).toNat)
  case atStart => exact ⟨0, _, _, _, _, Nat.zero_le _, by omega, rfl, HA.out, HB.out, HWA.out, HWB.out, Nat.zero_le _, Nat.zero_le _, HTW.out, HAL.out, HF.out⟩
  case round =>
    obtain ⟨j, hvA, cA, hvB, cB, hj, hj60, rfl, hca, hcb, hwa, hwb, hha, hhb, htw, hal, hfr⟩ := hrel
    have HA := Hd.mk hca
    have HB := Hd.mk hcb
    have HWA := Hd.mk hwa
    have HWB := Hd.mk hwb
    have HHS := Hd.mk (And.intro hha hhb)
    have HTW := Hd.mk htw
    have HAL := Hd.mk hal
    have HF := Hd.mk hfr
    clear hca hcb hwa hwb hha hhb htw hal hfr
    have hle := HLE.out
    by_cases hlt : j < ds.length ∧ j < 60
    · obtain ⟨hl1, hl2⟩ := hlt
      obtain ⟨g, off, rfl, hgl, hcc⟩ := HAT.out (by omega)
      obtain ⟨d, hd⟩ : ∃ d, ds[j] = d := ⟨_, rfl⟩
      have hcd := hcc j hl1
      have hrd := HD.out.rr (ds[j]) (List.getElem_mem hl1)
      rw [hd] at hcd hrd
      have HRD := Hd.mk hrd
      have HDC := Hd.mk hcd
      clear hcd hrd hcc hd hgl
      have hwr : ∀ k u, d.c[k]? = some u → wr.cell? ⟨g, off + j * 9 + k, none⟩ = some u := fun k u hu => HF.out.cell (HDC.out k u hu) (by simp)
      have c0 : wr.cell? ⟨g, off + j * 9, none⟩ = some (.int .i64 d.kind) := hwr 0 _ rfl
      have c1 : wr.cell? ⟨g, off + j * 9 + 1, none⟩ = some (.string d.e.q.name) := hwr 1 _ rfl
      have c2 : wr.cell? ⟨g, off + j * 9 + 2, none⟩ = some (.int .u16 d.e.q.ty) := hwr 2 _ rfl
      have c3 : wr.cell? ⟨g, off + j * 9 + 3, none⟩ = some (.int .u16 d.e.q.cl) := hwr 3 _ rfl
      have c4 : wr.cell? ⟨g, off + j * 9 + 4, none⟩ = some (.slice d.e.ra d.e.rn d.e.rc) := hwr 4 _ rfl
      have c5 : wr.cell? ⟨g, off + j * 9 + 5, none⟩ = some (.int .i64 d.e.rcode) := hwr 5 _ rfl
      have c6 : wr.cell? ⟨g, off + j * 9 + 6, none⟩ = some (.int .i64 d.e.rank) := hwr 6 _ rfl
      have c7 : wr.cell? ⟨g, off + j * 9 + 7, none⟩ = some (.int .u64 d.e.expire) := hwr 7 _ rfl
      have c8 : wr.cell? ⟨g, off + j * 9 + 8, none⟩ = some (.int .u64 d.now) := hwr 8 _ rfl
      clear hwr
      go_wp2_with fail
      clear c0 c1 c2 c3 c4 c5 c6 c7 c8
      refine (made_calls d _).mono ?_
      rintro r wn ⟨rfl, hf⟩
      have HA := Hd.mk (HA.out.fr0 hf)
      have HB := Hd.mk (HB.out.fr0 hf)
      have HF := Hd.mk (HF.out.trans hf)
      clear hf
      go_wp2_with fail
      refine (do_any2 HA.out HWA.out (by have := HHS.out.1; omega) d HRD.out.2.2 HRD.out.1.t HRD.out.2.1).mono ?_
      rintro r wk ⟨v1, hvA', hA', rfl, hcA, hhl, hf, ho, hbad1, htl1⟩
      have HB2 := Hd.mk (HTW.out.keep HA.out HB.out hf)
      have HTW2 := Hd.mk (HTW.out.next HB.out ho)
      have HF := Hd.mk (HA.out.step0 HBA.out.1 HBA.out.2 HF.out hf)
      have HA2 := Hd.mk hcA
      have HHA : Hd (hA'.length ≤ 16 * (j + 1)) := Hd.mk (by have := HHS.out.1; omega)
      have HT1 := Hd.mk (And.intro hbad1 htl1)
      have HSZ : Hd (∀ k, hvB.ownBlock = some k → k < wn.heap.size) := Hd.mk fun k hk => (HB.out.hist.row.lt k hk).2
      clear hcA hhl hf ho hbad1 htl1
      have hwr : ∀ k u, d.c[k]? = some u → wk.cell? ⟨g, off + j * 9 + k, none⟩ = some u := fun k u hu => HF.out.cell (HDC.out k u hu) (by simp)
      have c0 : wk.cell? ⟨g, off + j * 9, none⟩ = some (.int .i64 d.kind) := hwr 0 _ rfl
      have c1 : wk.cell? ⟨g, off + j * 9 + 1, none⟩ = some (.string d.e.q.name) := hwr 1 _ rfl
      have c2 : wk.cell? ⟨g, off + j * 9 + 2, none⟩ = some (.int .u16 d.e.q.ty) := hwr 2 _ rfl
      have c3 : wk.cell? ⟨g, off + j * 9 + 3, none⟩ = some (.int .u16 d.e.q.cl) := hwr 3 _ rfl
      have c4 : wk.cell? ⟨g, off + j * 9 + 4, none⟩ = some (.slice d.e.ra d.e.rn d.e.rc) := hwr 4 _ rfl
      have c5 : wk.cell? ⟨g, off + j * 9 + 5, none⟩ = some (.int .i64 d.e.rcode) := hwr 5 _ rfl
      have c6 : wk.cell? ⟨g, off + j * 9 + 6, none⟩ = some (.int .i64 d.e.rank) := hwr 6 _ rfl
      have c7 : wk.cell? ⟨g, off + j * 9 + 7, none⟩ = some (.int .u64 d.e.expire) := hwr 7 _ rfl
      have c8 : wk.cell? ⟨g, off + j * 9 + 8, none⟩ = some (.int .u64 d.now) := hwr 8 _ rfl
      clear hwr
      go_wp2_with fail
      clear c0 c1 c2 c3 c4 c5 c6 c7 c8
      refine (made_calls d _).mono ?_
      rintro r wn2 ⟨rfl, hf⟩
      have HA2 := Hd.mk (HA2.out.fr0 hf)
      have HB2 := Hd.mk (HB2.out.fr0 hf)
      have HF := Hd.mk (HF.out.trans hf)
      have HF2 := Hd.mk hf
      clear hf
      go_wp2_with fail
      refine (do_any2 HB2.out HWB.out (by have := HHS.out.2; omega) d HRD.out.2.2 HRD.out.1.t HRD.out.2.1).mono ?_
      rintro r wz ⟨v2, hvB', hB', rfl, hcB, hhl, hf, ho, hbad2, htl2⟩
      have HA3 := Hd.mk (HTW2.out.symm.keep HB2.out HA2.out hf)
      have HTW3 := Hd.mk (HTW2.out.symm.next HA2.out ho).symm
      have HF := Hd.mk (HB2.out.step0 HBB.out.1 HBB.out.2 HF.out hf)
      have HB3 := Hd.mk hcB
      have HHB : Hd (hB'.length ≤ 16 * (j + 1)) := Hd.mk (by have := HHS.out.2; omega)
      have HT2 := Hd.mk (And.intro hbad2 htl2)
      have HFB := Hd.mk hf
      have HAL3 : Hd (Alike W (ssAt (doneC d cA.ss CA.ps.length) 0) (doneC d cB.ss CB'.ps.length) CB'.ps.length (j + 1)) := Hd.mk (by rw [HNA.out]; exact HAL.out.any (by omega) HA.out HB.out HNA.out d HRD.out.1 HRD.out.2.2)
      clear hcB hhl hf ho hbad2 htl2
      have hwr0 : wz.cell? ⟨g, off + j * 9, none⟩ = some (.int .i64 d.kind) := HF.out.cell (HDC.out 0 _ rfl) (by simp)
      rcases (show (1 ≤ d.kind ∧ d.kind ≤ 3) ∨ d.kind = 4 ∨ ¬ (1 ≤ d.kind ∧ d.kind ≤ 4) by omega) with hk | hk | hk
      · have hk4 : (d.kind == 4) = false := by rw [beq_eq_false_iff_ne]; omega
        obtain ⟨g1, cc1, x1, rfl, hown1, hx1⟩ := HT1.out.2 hk
        obtain ⟨g2, cc2, x2, rfl, hown2, hx2⟩ := HT2.out.2 hk
        obtain ⟨T, q1, q2, e1, e2, hrt⟩ := HAL.out.tell (by omega) HA.out HB.out HNA.out d HRD.out.2.2 hk
        rw [e1] at hx1
        rw [e2] at hx2
        have hown1 := HB2.out.evrow (own_fr hown1 HF2.out (by simp)) (fun k hk2 h3 => by
          have h4 := (hown1.lt k hk2).1
          have h5 := HSZ.out k h3
          omega) HFB.out
        have HXC : Hd (∀ k u, (Ev.c x1)[k]? = some u → wz.cell? ⟨g1, k, none⟩ = some u) := Hd.mk fun k u hu => by
          have h1 := own_cells hown1 k u hu
          rw [add_at] at h1
          simpa using h1
        have HYC : Hd (∀ k u, (Ev.c x2)[k]? = some u → wz.cell? ⟨g2, k, none⟩ = some u) := Hd.mk fun k u hu => by
          have h1 := own_cells hown2 k u hu
          rw [add_at] at h1
          simpa using h1
        obtain ⟨xd1, xi1, xt1, xg1⟩ := x1
        obtain ⟨xd2, xi2, xt2, xg2⟩ := x2
        dsimp only at hx1 hx2
        subst hx1 hx2
        have HRT := Hd.mk hrt
        have HFD : Hd (Fr [] W wz.drew) := Hd.mk HF.out.drew
        clear hown1 hown2 e1 e2 hrt hk
        go_wp2_with fail
        clear hwr0 hk4
        refine wp_region_gs { R := Fr [], R1 := Fr [], gs := [Is (.slice (some ⟨g1, 0, none⟩) 1 cc1), Is (.int .i64 1), Is (.bool false), Is (.bool false), Is (.slice (some ⟨g2, 0, none⟩) 1 cc2), Is (.int .i64 1), Is (.bool false), Is (.bool false), Is (.bool false), Is (.slice (some ⟨g1, 0, none⟩) 1 cc1), Is (.pointer (some ⟨g1, 0, none⟩)), Is (.pointer (some ⟨g1, 18, none⟩)), Is (.int .i64 T.err), Is (.slice (some ⟨g2, 0, none⟩) 1 cc2), Is (.pointer (some ⟨g2, 0, none⟩)), Is (.pointer (some ⟨g2, 18, none⟩)), Is (.int .i64 T.err), Is (.bool false), Is (.bool false), Is (.bool false), Is (.slice (some ⟨g1, 0, none⟩) 1 cc1), Is (.pointer (some ⟨g1, 0, none⟩)), Is (.pointer (some ⟨g1, 17, none⟩)), Is (.bool T.is), Is (.slice (some ⟨g2, 0, none⟩) 1 cc2), Is (.pointer (some ⟨g2, 0, none⟩)), Is (.pointer (some ⟨g2, 17, none⟩)), Is (.bool T.is), Is (.bool false), Is (.bool false), Is (.bool false), Is (.slice (some ⟨g1, 0, none⟩) 1 cc1), Is (.pointer (some ⟨g1, 0, none⟩)), Is (.pointer (some ⟨g1, 10, none⟩)), Is (.agg #[.string T.told.q.name, .int .u16 T.told.q.ty, .int .u16 T.told.q.cl, .slice T.told.ra T.told.rn T.told.rc, .int .i64 T.told.rcode, .int .i64 T.told.rank, .int .u64 T.told.expire]), Is (.slice (some ⟨g2, 0, none⟩) 1 cc2), Is (.pointer (some ⟨g2, 0, none⟩)), Is (.pointer (some ⟨g2, 10, none⟩)), Is (.agg #[.string T.told.q.name, .int .u16 T.told.q.ty, .int .u16 T.told.q.cl, .slice T.told.ra T.told.rn T.told.rc, .int .i64 T.told.rcode, .int .i64 T.told.rank, .int .u64 T.told.expire]), Is (.bool true), Is (.bool false), Is (.bool false)], ds := [some 59, some 60, some 61, some 62, some 63, some 64, some 65, some 66, some 67, some 68, some 69, some 70, some 71, some 72, some 73, some 74, some 75, some 76, some 77, some 78, some 79, some 80, some 81, some 82, some 83, some 84, some 85, some 86, some 87, some 88, some 89, some 90, some 91, some 92, some 93, some 94, some 95, some 96, some 97, some 98, some 99, some 100], fl := [false, false, false, false, false, false, false, false, false, false, false, false, false, false, false, false, false, false, false, false, false, false, false, false, false, false, false, false, false, false, false, false, false, false, false, false, false, false, false, false, false, false], hs := [], hd := [] } [false, false, false, false, false, false, false, false, false, false, false, false, false, false, false, false, false, false, false, false, false, false, false, false, false, false, false, false, false, false, false, false, false, false, false, false, false, false, false, false, false, false, false, false, false, false, false, false, false, false, false, false, false, false, false, false, false, false, false, true, true, true, true, true, true, true, true, true, true, true, true, true, true, true, true, true, true, true, true, true, true, true, true, true, true, true, true, true, true, true, true, true, true, true, true, true, true, true, true, true, true, false, false, false, false, false, false, false, false] (by kernel_rfl) _ (by kernel_rfl) (by kernel_rfl) (by kernel_rfl) (by kernel_rfl) rfl [] (fun _ _ _ h1 h2 => h1.trans h2) (fun _ _ h => h) (staI (staI (staI (staI (staI (staI (staI (staI (staI (staI (staI (staI (staI (staI (staI (staI (staI (staI (staI (staI (staI (staI (staI (staI (staI (staI (staI (staI (staI (staI (staI (staI (staI (staI (staI (staI (staI (staI (staI (staI (staI (staI sta0)))))))))))))))))))))))))))))))))))))))))) sth0 (fun _ _ h => h.size) _ (Fr.refl _ _) trivial ?_ ?_
        · refine ⟨?_, ?_, ?_, ?_, ?_, ?_, ?_, ?_, ?_, ?_, ?_, ?_, ?_, ?_, ?_, ?_, ?_, ?_, ?_, ?_, ?_, ?_, ?_, ?_, ?_, ?_, ?_, ?_, ?_, ?_, ?_, ?_, ?_, ?_, ?_, ?_, ?_, ?_, ?_, ?_, ?_, ?_, trivial⟩
          · intro σ w' hR hd
            simp only [fill, Nat.reduceAdd, if_true, Bool.false_eq_true, if_false]
            clear hd
            go_wp2
            exact ⟨Fr.refl _ _, rfl⟩
          · intro σ w' hR hd
            simp only [fill, Nat.reduceAdd, if_true, Bool.false_eq_true, if_false]
            obtain h59 : σ 59 = _ := hd 0 (by decide)
            rw [h59]
            clear h59
            clear hd
            go_wp2
            exact ⟨Fr.refl _ _, rfl⟩
          · intro σ w' hR hd
            simp only [fill, Nat.reduceAdd, if_true, Bool.false_eq_true, if_false]
            obtain h60 : σ 60 = _ := hd 1 (by decide)
            rw [h60]
            clear h60
            clear hd
            go_wp2
            exact ⟨Fr.refl _ _, rfl⟩
          · intro σ w' hR hd
            simp only [fill, Nat.reduceAdd, if_true, Bool.false_eq_true, if_false]
            obtain h61 : σ 61 = _ := hd 2 (by decide)
            rw [h61]
            clear h61
            clear hd
            go_wp2
            exact ⟨Fr.refl _ _, rfl⟩
          · intro σ w' hR hd
            simp only [fill, Nat.reduceAdd, if_true, Bool.false_eq_true, if_false]
            obtain h62 : σ 62 = _ := hd 3 (by decide)
            rw [h62]
            clear h62
            clear hd
            go_wp2
            exact ⟨Fr.refl _ _, rfl⟩
          · intro σ w' hR hd
            simp only [fill, Nat.reduceAdd, if_true, Bool.false_eq_true, if_false]
            obtain h62 : σ 62 = _ := hd 3 (by decide)
            obtain h63 : σ 63 = _ := hd 4 (by decide)
            rw [h62, h63]
            clear h62 h63
            clear hd
            go_wp2
            exact ⟨Fr.refl _ _, rfl⟩
          · intro σ w' hR hd
            simp only [fill, Nat.reduceAdd, if_true, Bool.false_eq_true, if_false]
            obtain h62 : σ 62 = _ := hd 3 (by decide)
            obtain h64 : σ 64 = _ := hd 5 (by decide)
            rw [h62, h64]
            clear h62 h64
            clear hd
            go_wp2
            exact ⟨Fr.refl _ _, rfl⟩
          · intro σ w' hR hd
            simp only [fill, Nat.reduceAdd, if_true, Bool.false_eq_true, if_false]
            obtain h62 : σ 62 = _ := hd 3 (by decide)
            obtain h65 : σ 65 = _ := hd 6 (by decide)
            rw [h62, h65]
            clear h62 h65
            clear hd
            go_wp2
            exact ⟨Fr.refl _ _, rfl⟩
          · intro σ w' hR hd
            simp only [fill, Nat.reduceAdd, if_true, Bool.false_eq_true, if_false]
            obtain h66 : σ 66 = _ := hd 7 (by decide)
            rw [h66]
            clear h66
            clear hd
            go_wp2
            exact ⟨Fr.refl _ _, rfl⟩
          · intro σ w' hR hd
            simp only [fill, Nat.reduceAdd, if_true, Bool.false_eq_true, if_false]
            obtain h67 : σ 67 = _ := hd 8 (by decide)
            rw [h67]
            clear h67
            clear hd
            go_wp2
            exact ⟨Fr.refl _ _, rfl⟩
          · intro σ w' hR hd
            simp only [fill, Nat.reduceAdd, if_true, Bool.false_eq_true, if_false]
            obtain h67 : σ 67 = _ := hd 8 (by decide)
            obtain h68 : σ 68 = _ := hd 9 (by decide)
            rw [h67, h68]
            clear h67 h68
            clear hd
            go_wp2
            exact ⟨Fr.refl _ _, rfl⟩
          · intro σ w' hR hd
            simp only [fill, Nat.reduceAdd, if_true, Bool.false_eq_true, if_false]
            obtain h67 : σ 67 = _ := hd 8 (by decide)
            obtain h69 : σ 69 = _ := hd 10 (by decide)
            rw [h67, h69]
            clear h67 h69
            clear hd
            go_wp2
            exact ⟨Fr.refl _ _, rfl⟩
          · intro σ w' hR hd
            simp only [fill, Nat.reduceAdd, if_true, Bool.false_eq_true, if_false]
            obtain h67 : σ 67 = _ := hd 8 (by decide)
            obtain h70 : σ 70 = _ := hd 11 (by decide)
            rw [h67, h70]
            clear h67 h70
            clear hd
            have g118 : w'.cell? ⟨g1, 18, none⟩ = some (.int .i64 T.err) := hR.cell (HXC.out 18 _ rfl) (by simp)
            go_wp2
            exact ⟨Fr.refl _ _, rfl⟩
          · intro σ w' hR hd
            simp only [fill, Nat.reduceAdd, if_true, Bool.false_eq_true, if_false]
            obtain h67 : σ 67 = _ := hd 8 (by decide)
            rw [h67]
            clear h67
            clear hd
            go_wp2
            exact ⟨Fr.refl _ _, rfl⟩
          · intro σ w' hR hd
            simp only [fill, Nat.reduceAdd, if_true, Bool.false_eq_true, if_false]
            obtain h67 : σ 67 = _ := hd 8 (by decide)
            obtain h72 : σ 72 = _ := hd 13 (by decide)
            rw [h67, h72]
            clear h67 h72
            clear hd
            go_wp2
            exact ⟨Fr.refl _ _, rfl⟩
          · intro σ w' hR hd
            simp only [fill, Nat.reduceAdd, if_true, Bool.false_eq_true, if_false]
            obtain h67 : σ 67 = _ := hd 8 (by decide)
            obtain h73 : σ 73 = _ := hd 14 (by decide)
            rw [h67, h73]
            clear h67 h73
            clear hd
            go_wp2
            exact ⟨Fr.refl _ _, rfl⟩
          · intro σ w' hR hd
            simp only [fill, Nat.reduceAdd, if_true, Bool.false_eq_true, if_false]
            obtain h67 : σ 67 = _ := hd 8 (by decide)
            obtain h74 : σ 74 = _ := hd 15 (by decide)
            rw [h67, h74]
            clear h67 h74
            clear hd
            have g218 : w'.cell? ⟨g2, 18, none⟩ = some (.int .i64 T.err) := hR.cell (HYC.out 18 _ rfl) (by simp)
            go_wp2
            exact ⟨Fr.refl _ _, rfl⟩
          · intro σ w' hR hd
            simp only [fill, Nat.reduceAdd, if_true, Bool.false_eq_true, if_false]
            obtain h67 : σ 67 = _ := hd 8 (by decide)
            obtain h71 : σ 71 = _ := hd 12 (by decide)
            obtain h75 : σ 75 = _ := hd 16 (by decide)
            rw [h67, h71, h75]
            clear h67 h71 h75
            clear hd
            go_wp2
            exact ⟨Fr.refl _ _, rfl⟩
          · intro σ w' hR hd
            simp only [fill, Nat.reduceAdd, if_true, Bool.false_eq_true, if_false]
            obtain h67 : σ 67 = _ := hd 8 (by decide)
            obtain h76 : σ 76 = _ := hd 17 (by decide)
            rw [h67, h76]
            clear h67 h76
            clear hd
            go_wp2
            exact ⟨Fr.refl _ _, rfl⟩
          · intro σ w' hR hd
            simp only [fill, Nat.reduceAdd, if_true, Bool.false_eq_true, if_false]
            obtain h77 : σ 77 = _ := hd 18 (by decide)
            rw [h77]
            clear h77
            clear hd
            go_wp2
            exact ⟨Fr.refl _ _, rfl⟩
          · intro σ w' hR hd
            simp only [fill, Nat.reduceAdd, if_true, Bool.false_eq_true, if_false]
            obtain h78 : σ 78 = _ := hd 19 (by decide)
            rw [h78]
            clear h78
            clear hd
            go_wp2
            exact ⟨Fr.refl _ _, rfl⟩
          · intro σ w' hR hd
            simp only [fill, Nat.reduceAdd, if_true, Bool.false_eq_true, if_false]
            obtain h78 : σ 78 = _ := hd 19 (by decide)
            obtain h79 : σ 79 = _ := hd 20 (by decide)
            rw [h78, h79]
            clear h78 h79
            clear hd
            go_wp2
            exact ⟨Fr.refl _ _, rfl⟩
          · intro σ w' hR hd
            simp only [fill, Nat.reduceAdd, if_true, Bool.false_eq_true, if_false]
            obtain h78 : σ 78 = _ := hd 19 (by decide)
            obtain h80 : σ 80 = _ := hd 21 (by decide)
            rw [h78, h80]
            clear h78 h80
            clear hd
            go_wp2
            exact ⟨Fr.refl _ _, rfl⟩
          · intro σ w' hR hd
            simp only [fill, Nat.reduceAdd, if_true, Bool.false_eq_true, if_false]
            obtain h78 : σ 78 = _ := hd 19 (by decide)
            obtain h81 : σ 81 = _ := hd 22 (by decide)
            rw [h78, h81]
            clear h78 h81
            clear hd
            have g117 : w'.cell? ⟨g1, 17, none⟩ = some (.bool T.is) := hR.cell (HXC.out 17 _ rfl) (by simp)
            go_wp2
            exact ⟨Fr.refl _ _, rfl⟩
          · intro σ w' hR hd
            simp only [fill, Nat.reduceAdd, if_true, Bool.false_eq_true, if_false]
            obtain h78 : σ 78 = _ := hd 19 (by decide)
            rw [h78]
            clear h78
            clear hd
            go_wp2
            exact ⟨Fr.refl _ _, rfl⟩
          · intro σ w' hR hd
            simp only [fill, Nat.reduceAdd, if_true, Bool.false_eq_true, if_false]
            obtain h78 : σ 78 = _ := hd 19 (by decide)
            obtain h83 : σ 83 = _ := hd 24 (by decide)
            rw [h78, h83]
            clear h78 h83
            clear hd
            go_wp2
            exact ⟨Fr.refl _ _, rfl⟩
          · intro σ w' hR hd
            simp only [fill, Nat.reduceAdd, if_true, Bool.false_eq_true, if_false]
            obtain h78 : σ 78 = _ := hd 19 (by decide)
            obtain h84 : σ 84 = _ := hd 25 (by decide)
            rw [h78, h84]
            clear h78 h84
            clear hd
            go_wp2
            exact ⟨Fr.refl _ _, rfl⟩
          · intro σ w' hR hd
            simp only [fill, Nat.reduceAdd, if_true, Bool.false_eq_true, if_false]
            obtain h78 : σ 78 = _ := hd 19 (by decide)
            obtain h85 : σ 85 = _ := hd 26 (by decide)
            rw [h78, h85]
            clear h78 h85
            clear hd
            have g217 : w'.cell? ⟨g2, 17, none⟩ = some (.bool T.is) := hR.cell (HYC.out 17 _ rfl) (by simp)
            go_wp2
            exact ⟨Fr.refl _ _, rfl⟩
          · intro σ w' hR hd
            simp only [fill, Nat.reduceAdd, if_true, Bool.false_eq_true, if_false]
            obtain h78 : σ 78 = _ := hd 19 (by decide)
            obtain h82 : σ 82 = _ := hd 23 (by decide)
            obtain h86 : σ 86 = _ := hd 27 (by decide)
            rw [h78, h82, h86]
            clear h78 h82 h86
            clear hd
            go_wp2
            exact ⟨Fr.refl _ _, rfl⟩
          · intro σ w' hR hd
            simp only [fill, Nat.reduceAdd, if_true, Bool.false_eq_true, if_false]
            obtain h78 : σ 78 = _ := hd 19 (by decide)
            obtain h87 : σ 87 = _ := hd 28 (by decide)
            rw [h78, h87]
            clear h78 h87
            clear hd
            go_wp2
            exact ⟨Fr.refl _ _, rfl⟩
          · intro σ w' hR hd
            simp only [fill, Nat.reduceAdd, if_true, Bool.false_eq_true, if_false]
            obtain h88 : σ 88 = _ := hd 29 (by decide)
            rw [h88]
            clear h88
            clear hd
            go_wp2
            exact ⟨Fr.refl _ _, rfl⟩
          · intro σ w' hR hd
            simp only [fill, Nat.reduceAdd, if_true, Bool.false_eq_true, if_false]
            obtain h89 : σ 89 = _ := hd 30 (by decide)
            rw [h89]
            clear h89
            clear hd
            go_wp2
            exact ⟨Fr.refl _ _, rfl⟩
          · intro σ w' hR hd
            simp only [fill, Nat.reduceAdd, if_true, Bool.false_eq_true, if_false]
            obtain h89 : σ 89 = _ := hd 30 (by decide)
            obtain h90 : σ 90 = _ := hd 31 (by decide)
            rw [h89, h90]
            clear h89 h90
            clear hd
            go_wp2
            exact ⟨Fr.refl _ _, rfl⟩
          · intro σ w' hR hd
            simp only [fill, Nat.reduceAdd, if_true, Bool.false_eq_true, if_false]
            obtain h89 : σ 89 = _ := hd 30 (by decide)
            obtain h91 : σ 91 = _ := hd 32 (by decide)
            rw [h89, h91]
            clear h89 h91
            clear hd
            go_wp2
            exact ⟨Fr.refl _ _, rfl⟩
          · intro σ w' hR hd
            simp only [fill, Nat.reduceAdd, if_true, Bool.false_eq_true, if_false]
            obtain h89 : σ 89 = _ := hd 30 (by decide)
            obtain h92 : σ 92 = _ := hd 33 (by decide)
            rw [h89, h92]
            clear h89 h92
            clear hd
            have g110 : w'.cell? ⟨g1, 10, none⟩ = some (.string T.told.q.name) := hR.cell (HXC.out 10 _ rfl) (by simp)
            have g111 : w'.cell? ⟨g1, 11, none⟩ = some (.int .u16 T.told.q.ty) := hR.cell (HXC.out 11 _ rfl) (by simp)
            have g112 : w'.cell? ⟨g1, 12, none⟩ = some (.int .u16 T.told.q.cl) := hR.cell (HXC.out 12 _ rfl) (by simp)
            have g113 : w'.cell? ⟨g1, 13, none⟩ = some (.slice T.told.ra T.told.rn T.told.rc) := hR.cell (HXC.out 13 _ rfl) (by simp)
            have g114 : w'.cell? ⟨g1, 14, none⟩ = some (.int .i64 T.told.rcode) := hR.cell (HXC.out 14 _ rfl) (by simp)
            have g115 : w'.cell? ⟨g1, 15, none⟩ = some (.int .i64 T.told.rank) := hR.cell (HXC.out 15 _ rfl) (by simp)
            have g116 : w'.cell? ⟨g1, 16, none⟩ = some (.int .u64 T.told.expire) := hR.cell (HXC.out 16 _ rfl) (by simp)
            go_wp2
            exact ⟨Fr.refl _ _, rfl⟩
          · intro σ w' hR hd
            simp only [fill, Nat.reduceAdd, if_true, Bool.false_eq_true, if_false]
            obtain h89 : σ 89 = _ := hd 30 (by decide)
            rw [h89]
            clear h89
            clear hd
            go_wp2
            exact ⟨Fr.refl _ _, rfl⟩
          · intro σ w' hR hd
            simp only [fill, Nat.reduceAdd, if_true, Bool.false_eq_true, if_false]
            obtain h89 : σ 89 = _ := hd 30 (by decide)
            obtain h94 : σ 94 = _ := hd 35 (by decide)
            rw [h89, h94]
            clear h89 h94
            clear hd
            go_wp2
            exact ⟨Fr.refl _ _, rfl⟩
          · intro σ w' hR hd
            simp only [fill, Nat.reduceAdd, if_true, Bool.false_eq_true, if_false]
            obtain h89 : σ 89 = _ := hd 30 (by decide)
            obtain h95 : σ 95 = _ := hd 36 (by decide)
            rw [h89, h95]
            clear h89 h95
            clear hd
            go_wp2
            exact ⟨Fr.refl _ _, rfl⟩
          · intro σ w' hR hd
            simp only [fill, Nat.reduceAdd, if_true, Bool.false_eq_true, if_false]
            obtain h89 : σ 89 = _ := hd 30 (by decide)
            obtain h96 : σ 96 = _ := hd 37 (by decide)
            rw [h89, h96]
            clear h89 h96
            clear hd
            have g210 : w'.cell? ⟨g2, 10, none⟩ = some (.string T.told.q.name) := hR.cell (HYC.out 10 _ rfl) (by simp)
            have g211 : w'.cell? ⟨g2, 11, none⟩ = some (.int .u16 T.told.q.ty) := hR.cell (HYC.out 11 _ rfl) (by simp)
            have g212 : w'.cell? ⟨g2, 12, none⟩ = some (.int .u16 T.told.q.cl) := hR.cell (HYC.out 12 _ rfl) (by simp)
            have g213 : w'.cell? ⟨g2, 13, none⟩ = some (.slice T.told.ra T.told.rn T.told.rc) := hR.cell (HYC.out 13 _ rfl) (by simp)
            have g214 : w'.cell? ⟨g2, 14, none⟩ = some (.int .i64 T.told.rcode) := hR.cell (HYC.out 14 _ rfl) (by simp)
            have g215 : w'.cell? ⟨g2, 15, none⟩ = some (.int .i64 T.told.rank) := hR.cell (HYC.out 15 _ rfl) (by simp)
            have g216 : w'.cell? ⟨g2, 16, none⟩ = some (.int .u64 T.told.expire) := hR.cell (HYC.out 16 _ rfl) (by simp)
            go_wp2
            exact ⟨Fr.refl _ _, rfl⟩
          · intro σ w' hR hd
            simp only [fill, Nat.reduceAdd, if_true, Bool.false_eq_true, if_false]
            obtain h89 : σ 89 = _ := hd 30 (by decide)
            obtain h93 : σ 93 = _ := hd 34 (by decide)
            obtain h97 : σ 97 = _ := hd 38 (by decide)
            rw [h89, h93, h97]
            clear h89 h93 h97
            clear hd
            go_wp2_with fail
            refine (same_calls (HRT.out.fr (HFD.out.trans hR))).mono ?_
            rintro r w4 ⟨rfl, hf4⟩
            have HF4 := Hd.mk hf4
            clear hf4
            go_wp2
            exact ⟨HF4.out, rfl⟩
          · intro σ w' hR hd
            simp only [fill, Nat.reduceAdd, if_true, Bool.false_eq_true, if_false]
            obtain h89 : σ 89 = _ := hd 30 (by decide)
            obtain h98 : σ 98 = _ := hd 39 (by decide)
            rw [h89, h98]
            clear h89 h98
            clear hd
            go_wp2
            exact ⟨Fr.refl _ _, rfl⟩
          · intro σ w' hR hd
            simp only [fill, Nat.reduceAdd, if_true, Bool.false_eq_true, if_false]
            obtain h89 : σ 89 = _ := hd 30 (by decide)
            obtain h99 : σ 99 = _ := hd 40 (by decide)
            rw [h89, h99]
            clear h89 h99
            clear hd
            go_wp2
            exact ⟨Fr.refl _ _, rfl⟩
        · intro σ w3 hR hG hH
          obtain h100 : σ 100 = _ := hG 41 (by decide)
          simp only [fill, Nat.reduceAdd, if_true, Bool.false_eq_true, if_false, h100]
          clear h100
          clear hG
          have hfd := (Fr.drew (Fr.refl [] wz)).trans hR
          have HA3 := Hd.mk (HA3.out.fr0 hfd)
          have HB3 := Hd.mk (HB3.out.fr0 hfd)
          have HF := Hd.mk (HF.out.trans hfd)
          clear hR hH hfd
          go_wp2
          go_roundw
          case rel => exact ⟨j + 1, _, _, _, _, by omega, by omega, by go_num, HA3.out, HB3.out, rfl, rfl, HHA.out, HHB.out, HTW3.out, HAL3.out, HF.out⟩
          case measure => simp [intOf]; omega
      · have hk4 : (d.kind == 4) = true := by rw [beq_iff_eq]; exact hk
        clear hk
        go_wp2
        go_roundw
        case rel => exact ⟨j + 1, _, _, _, _, by omega, by omega, by go_num, HA3.out, HB3.out, rfl, rfl, HHA.out, HHB.out, HTW3.out, HAL3.out, HF.out⟩
        case measure => simp [intOf]; omega
      · have hk4 : (d.kind == 4) = false := by rw [beq_eq_false_iff_ne]; omega
        obtain rfl := HT1.out.1 hk
        clear hk
        go_wp2
        go_roundw
        case rel => exact ⟨j + 1, _, _, _, _, by omega, by omega, by go_num, HA3.out, HB3.out, rfl, rfl, HHA.out, HHB.out, HTW3.out, HAL3.out, HF.out⟩
        case measure => simp [intOf]; omega
    · have hcnd : ¬ ((j : Int) < ds.length) ∨ ((j : Int) < ds.length ∧ ¬ ((j : Int) < 60)) := by omega
      have hls : lenC cA.ss = lenC cB.ss := by
        have h1 := HAL.out.len (HA.out.uq (i := 0) (by rw [HNA.out]; omega)).1 (fun i hi => (HB.out.uq hi).1)
        have h2 : cA.ss = [ssAt cA.ss 0] := ssAt_one (by rw [HA.out.sl, HNA.out])
        rw [← h1]
        obtain ⟨s0, hs0⟩ : ∃ s0, ssAt cA.ss 0 = s0 := ⟨_, rfl⟩
        rw [hs0] at h2 ⊢
        rw [h2]
        simp [lenC]
      have HLS := Hd.mk hls
      clear hls hlt
      rcases hcnd with hcnd | ⟨hcnd, hcnd2⟩
      all_goals
        go_wp2_with fail
        refine (clen_calls HA.out).mono ?_
        rintro r wn ⟨rfl, hf⟩
        have HB := Hd.mk (HB.out.fr0 hf)
        have HF := Hd.mk (HF.out.trans hf)
        rw [HLS.out]
        clear hf
        go_wp2_with fail
        refine (clen_calls HB.out).mono ?_
        rintro r wn ⟨rfl, hf⟩
        have HF := Hd.mk (HF.out.trans hf)
        clear hf
        go_wp2
        go_ret
        exact ⟨rfl, HF.out⟩
end Go.Proofs.Ytogjfcmclfehkaa
