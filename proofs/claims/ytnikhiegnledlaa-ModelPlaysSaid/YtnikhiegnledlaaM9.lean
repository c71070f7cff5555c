import Derived.Test.YtnikhiegnledlaaP2
import Derived.Test.YtnikhiegnledlaaM8
namespace Go.Proofs.Ytnikhiegnledlaa
open Go Go.RowKit Go.Proofs.MapL PPM Go.Proofs.YtnikhiegnledlaaW.PrintWords

theorem Blk.cells9 {w : World} {g T : Nat} {c0 c1 c2 c3 c4 c5 c6 c7 c8 : Value} (H : Blk w g T [c0, c1, c2, c3, c4, c5, c6, c7, c8]) :
    w.cell? ⟨g, 0, none⟩ = some c0 ∧ w.cell? ⟨g, 1, none⟩ = some c1 ∧ w.cell? ⟨g, 2, none⟩ = some c2 ∧ w.cell? ⟨g, 3, none⟩ = some c3 ∧ w.cell? ⟨g, 4, none⟩ = some c4 ∧ w.cell? ⟨g, 5, none⟩ = some c5 ∧ w.cell? ⟨g, 6, none⟩ = some c6 ∧ w.cell? ⟨g, 7, none⟩ = some c7 ∧ w.cell? ⟨g, 8, none⟩ = some c8 := ⟨H.cell rfl, H.cell rfl, H.cell rfl, H.cell rfl, H.cell rfl, H.cell rfl, H.cell rfl, H.cell rfl, H.cell rfl⟩
/-- A deed. -/
structure Dd where
  kind : Int
  x : Ex
  now : Int
def Dd.v (d : Dd) : Value := .agg #[.int .i64 d.kind, .string d.x.e.q.name, .int .u16 d.x.e.q.ty, .int .u16 d.x.e.q.cl, .slice d.x.e.ra d.x.e.rn d.x.e.rc, .int .i64 d.x.e.rcode, .int .i64 d.x.e.rank, .int .u64 d.x.e.expire, .int .u64 d.now]
/-- An entry's records can be read, and lie in these blocks. -/
structure RrOk (w : World) (ok : Nat → Prop) (x : Ex) : Prop where
  n : x.e.rn = x.l.length
  c : x.l.length ≤ x.e.rc
  f : Kd.F k70 w ok x.e.ra x.l.length x.l
theorem RrOk.step {w w' : World} {ok : Nat → Prop} {x : Ex} {S : List Nat} (h : RrOk w ok x) (hf : Fr S w w') (hS : ∀ k, ok k → k ∉ S) : RrOk w' ok x :=
  ⟨h.n, h.c, Kd.F_step h.f fun k hk hlt => hf.block k hlt (hS k hk)⟩
theorem RrOk.mono {w : World} {ok ok' : Nat → Prop} {x : Ex} (h : RrOk w ok x) (hk : ∀ k, ok k → ok' k) : RrOk w ok' x := ⟨h.n, h.c, Kd.F_mono h.f hk⟩
theorem RrOk.le {w : World} {ok : Nat → Prop} {x : Ex} (h : RrOk w ok x) : x.l.length ≤ 9223372036854775807 := (Kd.F_now h.f).2.1
abbrev Nb (p b : Nat) (k : Nat) : Prop := k ≠ p ∧ k ≠ b
/-- The program's model, and the document's list. -/
structure DS (w : World) (p b : Nat) (room : Int) (X : List Ex) (v : Value) : Prop where
  m : MAt w p b room (ents X)
  r : Kd.V k35 35 w 0 (Nb p b) v (X.map Ex.s)
  rr : ∀ x ∈ X, RrOk w (Nb p b) x
theorem DS.fr {w w' : World} {p b : Nat} {room : Int} {X : List Ex} {v : Value} (h : DS w p b room X v) (hf : Fr [] w w') : DS w' p b room X v :=
  ⟨h.m.fr hf (by simp) (by simp), Kd.V_step h.r fun k _ hlt => hf.block k hlt (by simp), fun x hx => (h.rr x hx).step hf (by simp)⟩
theorem V_fr {w w' : World} {p b : Nat} {v : Value} {l : List S35} (h : Kd.V k35 35 w 0 (Nb p b) v l) (hf : Fr [b] w w') : Kd.V k35 35 w' 0 (Nb p b) v l :=
  Kd.V_step h fun k hk hlt => hf.block k hlt (by simpa using hk.2)
theorem RrOk.frb {w w' : World} {p b : Nat} {x : Ex} (h : RrOk w (Nb p b) x) (hf : Fr [b] w w') : RrOk w' (Nb p b) x := h.step hf fun k hk => by simpa using hk.2
theorem fr_below {w w' : World} (h : Below w.heap.size w w') : Fr [] w w' := ⟨h.os, h.tape, h.output, h.size, fun k hk _ => h.block k hk⟩
theorem fr_drawn {w w' : World} (h : Drawn0 w w') : Fr [] w w' := fr_below h.below
theorem DS.apart {w : World} {p b : Nat} {room : Int} {X : List Ex} {v : Value} (h : DS w p b room X v) : (ents X).Pairwise fun a b => a.q ≠ b.q := kv_apart (m_apart h.m.map)
/-- A row of questions of the call's own, as the words have it. -/
theorem own_C {w : World} {base : Nat} {v : Value} {ks : List Qn} (h : w.ownsRow base 25 3 v ks.length (ks.flatMap Qn.c)) (hl : ks.length ≤ 9223372036854775807) : ∃ A c, v = .slice A (ks.map Qn.s).length c ∧ (ks.map Qn.s).length ≤ c ∧ Kd.C k25 w A (ks.map Qn.s).length (ks.map Qn.s) := by
  have h0 := h
  rcases h.2 with ⟨rfl, hn⟩ | ⟨g, cap, cur, rfl, -, hgg, hnc, -⟩
  · have : ks = [] := List.eq_nil_of_length_eq_zero hn
    subst this
    exact ⟨none, 0, rfl, Nat.le_refl _, Kd.C_nil _ _⟩
  · refine ⟨some ⟨g, 0, none⟩, cap, by simp, by simpa using hnc, by simp, by simpa using hl, fun _ => ⟨_, rfl, ?_⟩⟩
    intro j p hj
    rw [List.getElem?_map, Option.map_eq_some_iff] at hj
    obtain ⟨q, hq, rfl⟩ := hj
    obtain ⟨hjl, rfl⟩ := List.getElem?_eq_some_iff.1 hq
    refine ⟨(ks[j]).c, rfl, k25_mk w (ks[j]).s, ?_⟩
    intro i u hu
    have hi : i < 3 := (List.getElem?_eq_some_iff.1 hu).1
    have e : (⟨g, 0, none⟩ : Addr).add (j * k25.sz + i) = ⟨g, j * 3 + i, none⟩ := by
      show (⟨g, 0, none⟩ : Addr).add (j * 3 + i) = _
      unfold Addr.add; split <;> simp_all
    rw [e, h0.cellAt _ (by omega), flat_get qc_len _ _ _ hi, hq]
    exact hu
/-- What a deed makes. -/
def doX (X : List Ex) (room : Int) (d : Dd) : List Ex :=
  if d.kind = 0 then insX X room d.x d.now else if d.kind = 1 then X else if d.kind = 2 then delX X d.x.e.q else liveX X d.now
theorem mem_doX {X : List Ex} {room : Int} {d : Dd} {y : Ex} (h : y ∈ doX X room d) : y = d.x ∨ y ∈ X := by
  unfold doX at h
  split at h
  · exact mem_insX h
  · split at h
    · exact .inr h
    · split at h
      · exact .inr (List.mem_filter.1 h).1
      · exact .inr (List.mem_filter.1 h).1
def DoR (w : World) (p b : Nat) (room : Int) (X : List Ex) (r : Ending) (w' : World) : Prop := ∃ v, r = .returned (.tuple #[v, .bool true]) ∧ DS w' p b room X v ∧ Fr [b] w w'
section
variable {w : World} {p b : Nat} {room : Int} {X : List Ex} {v : Value}
set_option maxRecDepth 100000 in
set_option maxHeartbeats 4000000 in
theorem do_ins (hs : DS w p b room X v) (d : Dd) (hd : RrOk w (Nb p b) d.x) (hX : X.length < 100000) (hk : d.kind = 0) :
    Calls Try.prog 12 #[.pointer (some ⟨p, 0, none⟩), v, .int .i64 room, d.v] w (DoR w p b room (insX X room d.x d.now)) := by
  obtain ⟨A, c, rfl⟩ := Kd.V_slice hs.r
  have hbx := Blk.new w 37 [.int .i64 d.kind, .string d.x.e.q.name, .int .u16 d.x.e.q.ty, .int .u16 d.x.e.q.cl, .slice d.x.e.ra d.x.e.rn d.x.e.rc, .int .i64 d.x.e.rcode, .int .i64 d.x.e.rank, .int .u64 d.x.e.expire, .int .u64 d.now]
  have hF := (Fr.refl [] w).alloc (.cells #[.int .i64 d.kind, .string d.x.e.q.name, .int .u16 d.x.e.q.ty, .int .u16 d.x.e.q.cl, .slice d.x.e.ra d.x.e.rn d.x.e.rc, .int .i64 d.x.e.rcode, .int .i64 d.x.e.rank, .int .u64 d.x.e.expire, .int .u64 d.now] 37)
  have hs1 := hs.fr hF
  have hd1 := hd.step hF (by simp)
  have hbN : w.heap.size ∉ [b] := by have := hs.m.blt; simp; omega
  have HA := Hd.mk hs.apart
  have hLm : (ents X).length < maxLen := by rw [List.length_map]; exact Nat.lt_trans hX (by decide)
  unfold Dd.v
  rw [hk] at hbx hF hs1 hd1 ⊢
  obtain ⟨d0, d1, d2, d3, d4, d5, d6, d7, d8⟩ := hbx.cells9
  go_enter Try.func12, Try.ntmps12
  go_wp2_with fail
  refine (insert_calls hs1.m hLm d.x.e d.now).mono ?_
  rintro r w2 ⟨rfl, hM2, hf2⟩
  have hbx2 := hbx.fr hf2 hbN
  have hV2 := V_fr hs1.r hf2
  have hd2 := hd1.frb hf2
  have hrr2 := fun x hx => (hs1.rr x hx).frb hf2
  have hF2 : Fr [b] w w2 := (hF.mono (by simp)).trans hf2
  rw [← insX_ents] at hM2
  obtain ⟨cc, hcc⟩ : ∃ cc, insC (ents X) room d.x.e d.now = cc := ⟨_, rfl⟩
  have hins := insert_f X room d.x d.now HA.out (k := X.length + 2) (by omega) (by omega)
  rw [hcc] at hins ⊢
  have HINS := Hd.mk hins
  have HR2 := Hd.mk hrr2
  clear d0 d1 d2 d3 d4 d5 d6 d7 d8 hbx hs1 hd1 hf2 hF hins hrr2 hcc
  obtain ⟨d0, d1, d2, d3, d4, d5, d6, d7, d8⟩ := hbx2.cells9
  have hcl := derrickref13_Insert.calls (X.length + 2) (Nb p b) A c (X.map Ex.s) room d.x.e.q.name d.x.e.q.ty d.x.e.q.cl (Nb p b) d.x.e.ra d.x.e.rc d.x.l d.x.e.rcode d.x.e.rank d.x.e.expire d.now _ _ w2 hV2 (Kd.V_mk hd2.c hd2.f) HINS.out
  rw [← hd2.n, List.length_map] at hcl
  have HCL := Hd.mk hcl
  clear hcl
  go_wp2_with fail
  with_reducible refine HCL.out.mono ?_
  rintro r w3 ⟨v0, rfl, hV3, hb3⟩
  have hf3 := fr_below hb3
  have hDS : DS w3 p b room (insX X room d.x d.now) v0 := by
    refine ⟨hM2.fr hf3 (by simp) (by simp), Kd.V_mono hV3 (fun k hk => ?_), fun x hx => ?_⟩
    · rcases hk with (hk | hk) | hk
      · exact hk
      · exact hk
      · have := hM2.plt; have := hM2.blt; exact ⟨by omega, by omega⟩
    · rcases mem_insX hx with rfl | hx
      · exact hd2.step hf3 (by simp)
      · exact (HR2.out x hx).step hf3 (by simp)
  have hF3 := hF2.trans (hf3.mono (by simp))
  have HDS := Hd.mk hDS
  have HF3 := Hd.mk hF3
  clear d0 d1 d2 d3 d4 d5 d6 d7 d8 hDS hF3 hV3 hb3 hf3 hF2 hd2 hV2 hM2 hbx2
  go_wp2
  go_ret2
  exact ⟨_, rfl, HDS.out, HF3.out⟩
def zc : List Value := [.string ⟨#[]⟩, .int .u16 0, .int .u16 0, .slice none 0 0, .int .i64 0, .int .i64 0, .int .u64 0]
set_option maxRecDepth 100000 in
set_option maxHeartbeats 4000000 in
theorem do_look (hs : DS w p b room X v) (d : Dd) (hX : X.length < 100000) (hk : d.kind = 1) :
    Calls Try.prog 12 #[.pointer (some ⟨p, 0, none⟩), v, .int .i64 room, d.v] w (DoR w p b room X) := by
  obtain ⟨A, c, rfl⟩ := Kd.V_slice hs.r
  have hbx := Blk.new w 37 [.int .i64 d.kind, .string d.x.e.q.name, .int .u16 d.x.e.q.ty, .int .u16 d.x.e.q.cl, .slice d.x.e.ra d.x.e.rn d.x.e.rc, .int .i64 d.x.e.rcode, .int .i64 d.x.e.rank, .int .u64 d.x.e.expire, .int .u64 d.now]
  have hF := (Fr.refl [] w).alloc (.cells #[.int .i64 d.kind, .string d.x.e.q.name, .int .u16 d.x.e.q.ty, .int .u16 d.x.e.q.cl, .slice d.x.e.ra d.x.e.rn d.x.e.rc, .int .i64 d.x.e.rcode, .int .i64 d.x.e.rank, .int .u64 d.x.e.expire, .int .u64 d.now] 37)
  have hs1 := hs.fr hF
  -- what both tell
  have hL1 := lookX_V X d.x.e.q d.now
  have hL2 := lookX_B X d.x.e.q d.now
  have hL3 := lookup_f X d.x.e.q d.now (k := X.length + 1) (by omega) (by omega)
  have hL4 : lookS X d.x.e.q d.now = ((lookX X d.x.e.q d.now).map Ex.s).getD exZ := rfl
  have hL5 : ∀ x, lookX X d.x.e.q d.now = some x → x ∈ X := fun x hx => (lookX_mem hx).1
  unfold Dd.v
  rw [hk] at hbx hF hs1 ⊢
  rcases hlk : lookX X d.x.e.q d.now with _ | x
  · rw [hlk] at hL1 hL2 hL3 hL4
    simp only [Option.map_none, Option.getD_none, Option.isSome_none] at hL1 hL2 hL3 hL4
    rw [hL4] at hL3
    have HL1 := Hd.mk hL1
    have HL2 := Hd.mk hL2
    have HL3 := Hd.mk hL3
    clear hL1 hL2 hL3 hL4 hL5 hlk
    obtain ⟨d0, d1, d2, d3, d4, d5, d6, d7, d8⟩ := hbx.cells9
    go_enter Try.func12, Try.ntmps12
    go_wp2_with fail
    refine (lookup_calls hs1.m d.x.e.q d.now).mono ?_
    rintro r w2 ⟨rfl, hf2⟩
    rw [HL1.out, ← HL2.out]
    unfold zeroEn
    have hbx2 := hbx.fr hf2 (by simp)
    have hs2 := hs1.fr hf2
    have hF2 := hF.trans hf2
    clear d0 d1 d2 d3 d4 d5 d6 d7 d8 hbx hs1 hf2 hF
    go_upto_region 8 with (fail)
    refine wp_name ?_
    intro w3 hw3
    have hf3 : Fr [] w2 w3 := by rw [hw3]; exact (Fr.refl [] w2).alloc _
    have hx3 : Blk w3 w2.heap.size 35 zc := by rw [hw3]; exact Blk.new _ _ _
    unfold zc at hx3
    clear hw3
    have hbx3 := hbx2.fr hf3 (by simp)
    have hs3 := hs2.fr hf3
    have hF3 := hF2.trans hf3
    clear hbx2 hs2 hF2 hf3
    obtain ⟨d0, d1, d2, d3, d4, d5, d6, d7, d8⟩ := hbx3.cells9
    have hcl := derrickref13_Lookup.calls (X.length + 1) (Nb p b) A c (X.map Ex.s) d.x.e.q.name d.x.e.q.ty d.x.e.q.cl d.now _ _ _ _ _ _ _ _ w3 hs3.r HL3.out
    rw [List.length_map] at hcl
    have HCL := Hd.mk hcl
    clear hcl
    go_wp2_with fail
    with_reducible refine HCL.out.mono ?_
    rintro r w4 ⟨v3, rfl, hV4, hb4⟩
    have hf4 := fr_below hb4
    obtain ⟨A4, c4, rfl⟩ := Kd.V_slice hV4
    have hs4 := hs3.fr hf4
    have hx4 := hx3.fr hf4 (by simp)
    have hF4 := hF3.trans hf4
    clear d0 d1 d2 d3 d4 d5 d6 d7 d8 HCL hbx3 hs3 hF3 hf4 hx3 hb4
    unfold exZ at hV4 ⊢
    dsimp only at hV4 ⊢
    go_upto_region 9 with (fail)
    refine wp_name ?_
    intro w5 hw5
    have hf5 : Fr [] w4 w5 := by rw [hw5]; exact (Fr.refl [] w4).alloc _
    have hy5 : Blk w5 w4.heap.size 35 [.string ⟨#[]⟩, .int .u16 0, .int .u16 0, .slice A4 0 c4, .int .i64 0, .int .i64 0, .int .u64 0] := by rw [hw5]; exact Blk.new _ _ _
    clear hw5
    have hs5 := hs4.fr hf5
    have hx5 := hx4.fr hf5 (by simp)
    have hF5 := hF4.trans hf5
    have hV5 := Kd.V_step hV4 fun k _ hlt => hf5.block k hlt (by simp)
    clear hs4 hx4 hF4 hf5 hV4
    obtain ⟨x0, x1, x2, x3, x4, x5, x6, xf⟩ := hx5.cells7
    obtain ⟨y0, y1, y2, y3, y4, y5, y6, yf⟩ := hy5.cells7
    have hsame := derrickref12_Same.calls 2 ⟨#[]⟩ 0 0 none 0 [] 0 0 0 ⟨#[]⟩ 0 0 A4 c4 [] 0 0 0 true w5 (Kd.C_nil _ _) (Nat.le_refl _) (Kd.V_reads' hV5).2.2 (Kd.V_reads' hV5).2.1 (same_self _ _ _ _ _ _ _ (by simp) (by simp))
    simp only [List.length_nil] at hsame
    have HSM := Hd.mk hsame
    clear hsame hV5
    go_wp2_with fail
    with_reducible refine HSM.out.mono ?_
    rintro r w6 ⟨rfl, hb6⟩
    have hs6 := hs5.fr (fr_below hb6)
    rw [List.length_map] at hs6
    have HDS := Hd.mk hs6
    clear hs6
    have HF6 := Hd.mk ((hF5.trans (fr_below hb6)).mono (T := [b]) (by simp))
    clear x0 x1 x2 x3 x4 x5 x6 xf y0 y1 y2 y3 y4 y5 y6 yf hs5 hb6 hF5 hx5 hy5 HSM
    go_wp2
    go_ret2
    exact ⟨_, rfl, HDS.out, HF6.out⟩
  · have hxm := hL5 x hlk
    rw [hlk] at hL1 hL2 hL3 hL4
    simp only [Option.map_some, Option.getD_some, Option.isSome_some] at hL1 hL2 hL3 hL4
    rw [hL4] at hL3
    have HL1 := Hd.mk hL1
    have HL2 := Hd.mk hL2
    have HL3 := Hd.mk hL3
    clear hL1 hL2 hL3 hL4 hL5 hlk
    obtain ⟨d0, d1, d2, d3, d4, d5, d6, d7, d8⟩ := hbx.cells9
    go_enter Try.func12, Try.ntmps12
    go_wp2_with fail
    refine (lookup_calls hs1.m d.x.e.q d.now).mono ?_
    rintro r w2 ⟨rfl, hf2⟩
    rw [HL1.out, ← HL2.out]
    unfold En.v
    have hbx2 := hbx.fr hf2 (by simp)
    have hs2 := hs1.fr hf2
    have hF2 := hF.trans hf2
    clear d0 d1 d2 d3 d4 d5 d6 d7 d8 hbx hs1 hf2 hF
    go_upto_region 8 with (fail)
    refine wp_name ?_
    intro w3 hw3
    have hf3 : Fr [] w2 w3 := by rw [hw3]; exact (Fr.refl [] w2).alloc _
    have hx3 : Blk w3 w2.heap.size 35 x.e.c := by rw [hw3]; exact Blk.new _ _ _
    unfold En.c at hx3
    clear hw3
    have hbx3 := hbx2.fr hf3 (by simp)
    have hs3 := hs2.fr hf3
    have hF3 := hF2.trans hf3
    clear hbx2 hs2 hF2 hf3
    obtain ⟨d0, d1, d2, d3, d4, d5, d6, d7, d8⟩ := hbx3.cells9
    have hcl := derrickref13_Lookup.calls (X.length + 1) (Nb p b) A c (X.map Ex.s) d.x.e.q.name d.x.e.q.ty d.x.e.q.cl d.now _ _ _ _ _ _ _ _ w3 hs3.r HL3.out
    rw [List.length_map] at hcl
    have HCL := Hd.mk hcl
    clear hcl
    go_wp2_with fail
    with_reducible refine HCL.out.mono ?_
    rintro r w4 ⟨v3, rfl, hV4, hb4⟩
    have hf4 := fr_below hb4
    obtain ⟨A4, c4, rfl⟩ := Kd.V_slice hV4
    have hs4 := hs3.fr hf4
    have hx4 := hx3.fr hf4 (by simp)
    have hF4 := hF3.trans hf4
    clear d0 d1 d2 d3 d4 d5 d6 d7 d8 HCL hbx3 hs3 hF3 hf4 hx3 hb4
    unfold Ex.s at hV4 ⊢
    unfold Qn.s at hV4 ⊢
    dsimp only at hV4 ⊢
    go_upto_region 9 with (fail)
    refine wp_name ?_
    intro w5 hw5
    have hf5 : Fr [] w4 w5 := by rw [hw5]; exact (Fr.refl [] w4).alloc _
    have hy5 : Blk w5 w4.heap.size 35 [.string x.e.q.name, .int .u16 x.e.q.ty, .int .u16 x.e.q.cl, .slice A4 x.l.length c4, .int .i64 x.e.rcode, .int .i64 x.e.rank, .int .u64 x.e.expire] := by rw [hw5]; exact Blk.new _ _ _
    clear hw5
    have hs5 := hs4.fr hf5
    have hx5 := hx4.fr hf5 (by simp)
    have hF5 := hF4.trans hf5
    have hV5 := Kd.V_step hV4 fun k _ hlt => hf5.block k hlt (by simp)
    clear hs4 hx4 hF4 hf5 hV4
    obtain ⟨x0, x1, x2, x3, x4, x5, x6, xf⟩ := hx5.cells7
    obtain ⟨y0, y1, y2, y3, y4, y5, y6, yf⟩ := hy5.cells7
    have hrx := hs5.rr x hxm
    have hsame := derrickref12_Same.calls (x.l.length + 2) x.e.q.name x.e.q.ty x.e.q.cl x.e.ra x.e.rc x.l x.e.rcode x.e.rank x.e.expire x.e.q.name x.e.q.ty x.e.q.cl A4 c4 x.l x.e.rcode x.e.rank x.e.expire true w5 (Kd.F_now hrx.f) hrx.c (Kd.V_reads' hV5).2.2 (Kd.V_reads' hV5).2.1 (same_self _ _ _ _ _ _ _ (by omega) hrx.le)
    rw [← hrx.n] at hsame
    rw [← hrx.n] at y3
    have HSM := Hd.mk hsame
    clear hsame hV5 hrx
    go_wp2_with fail
    with_reducible refine HSM.out.mono ?_
    rintro r w6 ⟨rfl, hb6⟩
    have hs6 := hs5.fr (fr_below hb6)
    rw [List.length_map] at hs6
    have HDS := Hd.mk hs6
    clear hs6
    have HF6 := Hd.mk ((hF5.trans (fr_below hb6)).mono (T := [b]) (by simp))
    clear x0 x1 x2 x3 x4 x5 x6 xf y0 y1 y2 y3 y4 y5 y6 yf hs5 hb6 hF5 hx5 hy5 HSM
    go_wp2
    go_ret2
    exact ⟨_, rfl, HDS.out, HF6.out⟩
set_option maxRecDepth 100000 in
set_option maxHeartbeats 4000000 in
theorem do_drop (hs : DS w p b room X v) (d : Dd) (hX : X.length < 100000) (hk : d.kind = 2) :
    Calls Try.prog 12 #[.pointer (some ⟨p, 0, none⟩), v, .int .i64 room, d.v] w (DoR w p b room (delX X d.x.e.q)) := by
  obtain ⟨A, c, rfl⟩ := Kd.V_slice hs.r
  have hbx := Blk.new w 37 [.int .i64 d.kind, .string d.x.e.q.name, .int .u16 d.x.e.q.ty, .int .u16 d.x.e.q.cl, .slice d.x.e.ra d.x.e.rn d.x.e.rc, .int .i64 d.x.e.rcode, .int .i64 d.x.e.rank, .int .u64 d.x.e.expire, .int .u64 d.now]
  have hF := (Fr.refl [] w).alloc (.cells #[.int .i64 d.kind, .string d.x.e.q.name, .int .u16 d.x.e.q.ty, .int .u16 d.x.e.q.cl, .slice d.x.e.ra d.x.e.rn d.x.e.rc, .int .i64 d.x.e.rcode, .int .i64 d.x.e.rank, .int .u64 d.x.e.expire, .int .u64 d.now] 37)
  have hs1 := hs.fr hF
  have hbN : w.heap.size ∉ [b] := by have := hs.m.blt; simp; omega
  have HDR := Hd.mk (drop_f X d.x.e.q hs.apart (k := X.length + 1) (by omega) (by omega))
  unfold Dd.v
  rw [hk] at hbx hF hs1 ⊢
  obtain ⟨d0, d1, d2, d3, d4, d5, d6, d7, d8⟩ := hbx.cells9
  go_enter Try.func12, Try.ntmps12
  go_wp2_with fail
  refine (drop_calls hs1.m d.x.e.q).mono ?_
  rintro r w2 ⟨rfl, hM2, hf2⟩
  have hbx2 := hbx.fr hf2 hbN
  have hV2 := V_fr hs1.r hf2
  have hrr2 := fun x hx => (hs1.rr x hx).frb hf2
  have hF2 : Fr [b] w w2 := (hF.mono (by simp)).trans hf2
  rw [← delX_ents] at hM2
  have HR2 := Hd.mk hrr2
  clear d0 d1 d2 d3 d4 d5 d6 d7 d8 hbx hs1 hf2 hF hrr2
  obtain ⟨d0, d1, d2, d3, d4, d5, d6, d7, d8⟩ := hbx2.cells9
  have hcl := derrickref13_Drop.calls (X.length + 1) (Nb p b) A c (X.map Ex.s) d.x.e.q.name d.x.e.q.ty d.x.e.q.cl _ _ w2 hV2 HDR.out
  rw [List.length_map] at hcl
  have HCL := Hd.mk hcl
  clear hcl
  obtain ⟨is, his⟩ : ∃ is, (findE (ents X) d.x.e.q).isSome = is := ⟨_, rfl⟩
  rw [his] at HCL ⊢
  clear his HDR
  go_wp2_with fail
  with_reducible refine HCL.out.mono ?_
  rintro r w3 ⟨v0, rfl, hV3, hb3⟩
  have hf3 := fr_below hb3
  have hDS : DS w3 p b room (delX X d.x.e.q) v0 := by
    refine ⟨hM2.fr hf3 (by simp) (by simp), Kd.V_mono (Kd.N_V hV3) (fun k hk => ?_), fun x hx => (HR2.out x (List.mem_filter.1 hx).1).step hf3 (by simp)⟩
    rcases hk with hk | hk
    · exact hk
    · have := hM2.plt; have := hM2.blt; exact ⟨by omega, by omega⟩
  have HDS := Hd.mk hDS
  have HF3 := Hd.mk (hF2.trans (hf3.mono (by simp)))
  clear d0 d1 d2 d3 d4 d5 d6 d7 d8 hDS hV3 hb3 hf3 hF2 hV2 hM2 hbx2
  go_wp2
  go_ret2
  exact ⟨_, rfl, HDS.out, HF3.out⟩
set_option maxRecDepth 100000 in
set_option maxHeartbeats 4000000 in
theorem do_due (hs : DS w p b room X v) (d : Dd) (hX : X.length < 100000) (hk : d.kind ≠ 0 ∧ d.kind ≠ 1 ∧ d.kind ≠ 2) :
    Calls Try.prog 12 #[.pointer (some ⟨p, 0, none⟩), v, .int .i64 room, d.v] w (DoR w p b room (liveX X d.now)) := by
  obtain ⟨A, c, rfl⟩ := Kd.V_slice hs.r
  have hbx := Blk.new w 37 [.int .i64 d.kind, .string d.x.e.q.name, .int .u16 d.x.e.q.ty, .int .u16 d.x.e.q.cl, .slice d.x.e.ra d.x.e.rn d.x.e.rc, .int .i64 d.x.e.rcode, .int .i64 d.x.e.rank, .int .u64 d.x.e.expire, .int .u64 d.now]
  have hF := (Fr.refl [] w).alloc (.cells #[.int .i64 d.kind, .string d.x.e.q.name, .int .u16 d.x.e.q.ty, .int .u16 d.x.e.q.cl, .slice d.x.e.ra d.x.e.rn d.x.e.rc, .int .i64 d.x.e.rcode, .int .i64 d.x.e.rank, .int .u64 d.x.e.expire, .int .u64 d.now] 37)
  have hs1 := hs.fr hF
  have hbN : w.heap.size ∉ [b] := by have := hs.m.blt; simp; omega
  have HDU := Hd.mk (due_f X d.now (by omega) (Nat.le_refl _))
  have hLm : (ents X).length < 1099511627776 := by rw [List.length_map]; omega
  have k0 : (d.kind == 0) = false := by simpa using hk.1
  have k1 : (d.kind == 1) = false := by simpa using hk.2.1
  have k2 : (d.kind == 2) = false := by simpa using hk.2.2
  unfold Dd.v
  clear hk
  obtain ⟨d0, d1, d2, d3, d4, d5, d6, d7, d8⟩ := hbx.cells9
  go_enter Try.func12, Try.ntmps12
  go_wp2_with fail
  refine (due_calls hs1.m hLm d.now).mono ?_
  rintro r w2 ⟨vd, rfl, ho2, -, hM2, hf2⟩
  have hbx2 := hbx.fr hf2 hbN
  have hV2 := V_fr hs1.r hf2
  have hrr2 := fun x hx => (hs1.rr x hx).frb hf2
  have hF2 : Fr [b] w w2 := (hF.mono (by simp)).trans hf2
  rw [← liveX_ents] at hM2
  have HR2 := Hd.mk hrr2
  have hdl : (dueS (ents X) d.now).length ≤ X.length := by
    unfold dueS
    rw [List.length_mergeSort]
    unfold dq
    rw [List.length_map]
    exact Nat.le_trans (List.length_filter_le _ _) (by rw [kv_len, List.length_map]; exact Nat.le_refl _)
  obtain ⟨Ad, cd, rfl, hcd, hCd⟩ := own_C ho2 (by omega)
  obtain ⟨ks, hks⟩ : ∃ ks, dueS (ents X) d.now = ks := ⟨_, rfl⟩
  rw [hks] at hdl hcd hCd HDU ⊢
  rw [List.length_map] at hcd
  simp only [List.length_map]
  clear d0 d1 d2 d3 d4 d5 d6 d7 d8 hbx hs1 hf2 hF hrr2 ho2 hks
  obtain ⟨d0, d1, d2, d3, d4, d5, d6, d7, d8⟩ := hbx2.cells9
  have hcl := derrickref13_Due.calls _ (Nb p b) A c (X.map Ex.s) d.now _ _ w2 hV2 HDU.out
  rw [List.length_map] at hcl
  have HCL := Hd.mk hcl
  clear hcl
  go_wp2_with fail
  with_reducible refine HCL.out.mono ?_
  rintro r w3 ⟨v0, v1, rfl, hV3, hR3, hb3⟩
  have hf3 := fr_below hb3
  have hDS : DS w3 p b room (liveX X d.now) v0 := by
    refine ⟨hM2.fr hf3 (by simp) (by simp), Kd.V_mono (Kd.N_V hV3) (fun k hk => ?_), fun x hx => (HR2.out x (List.mem_filter.1 hx).1).step hf3 (by simp)⟩
    rcases hk.1 with hk | hk
    · exact hk
    · have := hM2.plt; have := hM2.blt; exact ⟨by omega, by omega⟩
  have hF3 := hF2.trans (hf3.mono (T := [b]) (by simp))
  obtain ⟨A1, c1, rfl, hc1, hC1⟩ := Kd.R_reads hR3
  have hCd3 := Kd.C_below hCd hb3
  have hask := derrickref12_Asks.calls (ks.length + 1) Ad cd (ks.map Qn.s) A1 c1 (ks.map Qn.s) true w3 hCd3 (by simpa using hcd) hC1 hc1 (asks_self ks (by omega) (by omega))
  rw [List.length_map] at hask
  have HAS := Hd.mk hask
  have HDS := Hd.mk hDS
  clear d0 d1 d2 d3 d4 d5 d6 d7 d8 hask hDS hV3 hb3 hf3 hF2 hV2 hM2 hbx2 hR3 hC1 hCd3 hCd HCL
  simp only [List.length_map]
  go_wp2_with fail
  with_reducible refine HAS.out.mono ?_
  rintro r w4 ⟨rfl, hd4⟩
  have HDS4 := Hd.mk (HDS.out.fr (fr_drawn hd4))
  have HF4 := Hd.mk (hF3.trans ((fr_drawn hd4).mono (T := [b]) (by simp)))
  clear hd4 hF3 HAS
  go_wp2
  go_ret2
  exact ⟨_, rfl, HDS4.out, HF4.out⟩
theorem do_any (hs : DS w p b room X v) (d : Dd) (hd : RrOk w (Nb p b) d.x) (hX : X.length < 100000) :
    Calls Try.prog 12 #[.pointer (some ⟨p, 0, none⟩), v, .int .i64 room, d.v] w (DoR w p b room (doX X room d)) := by
  unfold doX
  split
  · exact do_ins hs d hd hX ‹_›
  · split
    · exact do_look hs d hX ‹_›
    · split
      · exact do_drop hs d hX ‹_›
      · exact do_due hs d hX ⟨‹_›, ‹_›, ‹_›⟩
end
end Go.Proofs.Ytnikhiegnledlaa
