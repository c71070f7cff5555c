import Derived.Test.YthnbdpcbagobhaaWQ2
namespace Go.Proofs.Ythnbdpcbagobhaa
open Go Go.RowKit Go.Proofs.MapL Go.Proofs.YthnbdpcbagobhaaW.PrintWords

def Wd.v (d : Wd) : Value := .agg #[.int .i64 d.kind, .int .i64 d.id, .int .u64 d.at_]
def DoR (w : World) (p g b c : Nat) (bs : List Nat) (l : List It) (r : Ending) (w' : World) : Prop :=
  ∃ v' tu' l', r = .returned (.tuple #[v', .bool true]) ∧ WhAt w' p g b c bs tu' l' ∧ ItAt w' (p :: g :: b :: bs) v' l' ∧ SrtI l' ∧ l'.length ≤ l.length + 1 ∧ Fr (p :: b :: bs) w w'
section
variable {w w' : World} {p g b c : Nat} {bs : List Nat} {tu : Int} {l : List It} {v : Value}
theorem setX_perm (l : List It) (id t : Int) : (setX l id t).Perm (insI (delI l id) ⟨id, t⟩) := by
  unfold setX
  exact (List.perm_append_comm).trans (insI_perm _ _).symm
set_option maxRecDepth 100000 in
set_option maxHeartbeats 4000000 in
theorem do_set (hW : WhAt w p g b c bs tu l) (hI : ItAt w (p :: g :: b :: bs) v l) (hS : SrtI l) (hl : l.length < 1000000) (d : Wd) (hd : IdOk d.id ∧ TOk d.at_) (hk : d.kind = 0) :
    Calls Try.prog 14 #[.pointer (some ⟨p, 0, none⟩), v, d.v] w (DoR w p g b c bs l) := by
  obtain ⟨A, c0, rfl, hc0, -⟩ := hI.at_
  have hbx := Blk.new w 28 [.int .i64 d.kind, .int .i64 d.id, .int .u64 d.at_]
  have hF := (Fr.refl [] w).alloc (.cells #[.int .i64 d.kind, .int .i64 d.id, .int .u64 d.at_] 28)
  have HW1 := Hd.mk (hW.fr0 hF)
  have HI := Hd.mk (hI.fr (hF.mono (by simp)))
  have hlt := hW.lt
  have HLT : Hd (∀ x ∈ p :: g :: b :: bs, x < (w.alloc (.cells #[.int .i64 d.kind, .int .i64 d.id, .int .u64 d.at_] 28)).heap.size) := Hd.mk (fun x hx => Nat.lt_of_lt_of_le (hlt x hx) hF.size)
  have HBN : Hd (w.heap.size ∉ b :: bs) := Hd.mk fun hx => by have := hlt _ (show w.heap.size ∈ p :: g :: b :: bs by simp only [List.mem_cons] at hx ⊢; rcases hx with h | h <;> simp [h]); omega
  have HPN : Hd (w.heap.size ∉ p :: b :: bs) := Hd.mk fun hx => by have := hlt _ (show w.heap.size ∈ p :: g :: b :: bs by simp only [List.mem_cons] at hx ⊢; rcases hx with h | h | h <;> simp [h]); omega
  have HSS : Hd (∀ x ∈ b :: bs, x ∈ p :: g :: b :: bs) := Hd.mk fun x hx => by simp only [List.mem_cons] at hx ⊢; rcases hx with h | h <;> simp [h]
  have HSP : Hd (∀ x ∈ p :: b :: bs, x ∈ p :: g :: b :: bs) := Hd.mk fun x hx => by simp only [List.mem_cons] at hx ⊢; rcases hx with h | h | h <;> simp [h]
  have HSB : Hd (∀ x ∈ b :: bs, x ∈ p :: b :: bs) := Hd.mk fun x hx => List.mem_cons_of_mem _ hx
  have HF := Hd.mk (hF.mono (T := p :: b :: bs) (by simp))
  have HBX := Hd.mk hbx
  have HLEN := Hd.mk hl
  have HDO := Hd.mk hd
  have HS := Hd.mk hS
  clear hlt hF hW hI hl hd hS
  unfold Wd.v
  have k0 : (d.kind == 0) = true := by simpa using hk
  clear hk
  obtain ⟨d0, d1, d2, df⟩ := hbx.cells3
  clear hbx
  go_enter Try.func14, Try.ntmps14
  go_wp2_with fail
  clear d0 d1 d2 df
  have HDR := Hd.mk (HW1.out.fr0 (Fr.drew (Fr.refl [] _)))
  refine wp_region_gs { R := Fr (b :: bs), R1 := Fr [], gs := [Is (.slice A l.length c0), Is (.pointer (some ⟨w.heap.size, 1, none⟩)), Is (.int .i64 d.id), Is (.pointer (some ⟨w.heap.size, 2, none⟩)), Is (.int .u64 d.at_), (fun (v : Value) (w2 : World) => ItAt w2 (p :: g :: b :: bs) v (insI (delI l d.id) ⟨d.id, d.at_⟩)), Is (.pointer (some ⟨p, 0, none⟩)), Is (.pointer (some ⟨w.heap.size, 1, none⟩)), Is (.int .i64 d.id), Is (.pointer (some ⟨w.heap.size, 2, none⟩)), Is (.int .u64 d.at_), Is (.int .i64 0), Is (.bool true), (fun (v : Value) (w2 : World) => ItAt w2 (p :: g :: b :: bs) v (insI (delI l d.id) ⟨d.id, d.at_⟩)), Is (.bool true)], ds := [some 18, some 19, some 20, some 21, some 22, some 23, some 24, some 25, some 26, some 27, some 28, some 29, some 30, some 6, some 7], fl := [false, false, false, false, false, false, false, false, false, false, false, true, false, false, false], hs := [fun _ w2 => WhAt w2 p g b c bs tu l, fun _ w2 => WhAt w2 p g b c bs tu (setX l d.id d.at_)], hd := [[], []] } [false, false, false, false, false, false, true, true, false, false, false, false, false, false, false, false, false, false, true, true, true, true, true, true, true, true, true, true, true, true, true, false, false, false, false, false, false, false, false, false, false, false, false, false, false, false, false, false, false, false, false, false, false, false, false, false, false, false, false, false, false, false, false] (by kernel_rfl) _ (by kernel_rfl) (by kernel_rfl) (by kernel_rfl) (by kernel_rfl) rfl [] (fun _ _ _ h1 h2 => h1.trans h2) (fun _ _ h => h.mono (by simp)) (staI (staI (staI (staI (staI (sta (fun v _ _ hf h => h.fr (hf.mono HSS.out)) (staI (staI (staI (staI (staI (staI (staI (sta (fun v _ _ hf h => h.fr (hf.mono HSS.out)) (staI sta0))))))))))))))) (sth (fun _ _ _ hf h => h.fr0 hf) (sth (fun _ _ _ hf h => h.fr0 hf) sth0)) (fun _ _ h => h.size) _ (Fr.refl _ _) HDR.out ?_ ?_
  · refine ⟨?_, ?_, ?_, ?_, ?_, ?_, ?_, ?_, ?_, ?_, ?_, ?_, ?_, ?_, ?_, trivial⟩
    · intro σ w' hR hd
      simp only [fill, Nat.reduceAdd, if_true, Bool.false_eq_true, if_false]
      clear hd
      go_wp2
      exact ⟨Fr.refl _ _, rfl⟩
    · intro σ w' hR hd
      simp only [fill, Nat.reduceAdd, if_true, Bool.false_eq_true, if_false]
      clear hd
      go_wp2
      exact ⟨Fr.refl _ _, rfl⟩
    · intro σ w' hR hd
      simp only [fill, Nat.reduceAdd, if_true, Bool.false_eq_true, if_false]
      obtain h19 : σ 19 = _ := hd 1 (by decide)
      rw [h19]
      clear h19
      clear hd
      have hfr := (Fr.drew (Fr.refl (b :: bs) _)).trans hR
      obtain ⟨d0, d1, d2, df⟩ := (HBX.out.fr hfr HBN.out).cells3
      go_wp2
      exact ⟨Fr.refl _ _, rfl⟩
    · intro σ w' hR hd
      simp only [fill, Nat.reduceAdd, if_true, Bool.false_eq_true, if_false]
      clear hd
      go_wp2
      exact ⟨Fr.refl _ _, rfl⟩
    · intro σ w' hR hd
      simp only [fill, Nat.reduceAdd, if_true, Bool.false_eq_true, if_false]
      obtain h21 : σ 21 = _ := hd 3 (by decide)
      rw [h21]
      clear h21
      clear hd
      have hfr := (Fr.drew (Fr.refl (b :: bs) _)).trans hR
      obtain ⟨d0, d1, d2, df⟩ := (HBX.out.fr hfr HBN.out).cells3
      go_wp2
      exact ⟨Fr.refl _ _, rfl⟩
    · intro σ w' hR hd
      simp only [fill, Nat.reduceAdd, if_true, Bool.false_eq_true, if_false]
      obtain h18 : σ 18 = _ := hd 0 (by decide)
      obtain h20 : σ 20 = _ := hd 2 (by decide)
      obtain h22 : σ 22 = _ := hd 4 (by decide)
      rw [h18, h20, h22]
      clear h18 h20 h22
      clear hd
      have hfr := (Fr.drew (Fr.refl (b :: bs) _)).trans hR
      have HII := Hd.mk (HI.out.fr (hfr.mono HSS.out))
      have HLT9 : Hd (∀ x ∈ p :: g :: b :: bs, x < w'.heap.size) := Hd.mk (fun x hx => Nat.lt_of_lt_of_le (HLT.out x hx) hfr.size)
      go_wp2_with fail
      refine (ref_set HII.out HLEN.out HLT9.out d.id d.at_).mono ?_
      rintro e w4 ⟨v4, rfl, hi4, hf4⟩
      have HI4 := Hd.mk hi4
      have HF4 := Hd.mk hf4
      clear hi4 hf4
      go_wp2
      exact ⟨HF4.out, HI4.out⟩
    · intro σ w' hR hd
      simp only [fill, Nat.reduceAdd, if_true, Bool.false_eq_true, if_false]
      clear hd
      go_wp2
      exact ⟨Fr.refl _ _, rfl⟩
    · intro σ w' hR hd
      simp only [fill, Nat.reduceAdd, if_true, Bool.false_eq_true, if_false]
      clear hd
      go_wp2
      exact ⟨Fr.refl _ _, rfl⟩
    · intro σ w' hR hd
      simp only [fill, Nat.reduceAdd, if_true, Bool.false_eq_true, if_false]
      obtain h25 : σ 25 = _ := hd 7 (by decide)
      rw [h25]
      clear h25
      clear hd
      have hfr := (Fr.drew (Fr.refl (b :: bs) _)).trans hR
      obtain ⟨d0, d1, d2, df⟩ := (HBX.out.fr hfr HBN.out).cells3
      go_wp2
      exact ⟨Fr.refl _ _, rfl⟩
    · intro σ w' hR hd
      simp only [fill, Nat.reduceAdd, if_true, Bool.false_eq_true, if_false]
      clear hd
      go_wp2
      exact ⟨Fr.refl _ _, rfl⟩
    · intro σ w' hR hd
      simp only [fill, Nat.reduceAdd, if_true, Bool.false_eq_true, if_false]
      obtain h27 : σ 27 = _ := hd 9 (by decide)
      rw [h27]
      clear h27
      clear hd
      have hfr := (Fr.drew (Fr.refl (b :: bs) _)).trans hR
      obtain ⟨d0, d1, d2, df⟩ := (HBX.out.fr hfr HBN.out).cells3
      go_wp2
      exact ⟨Fr.refl _ _, rfl⟩
    · intro σ w' hR hd hH
      simp only [fill, Nat.reduceAdd, if_true, Bool.false_eq_true, if_false]
      obtain h24 : σ 24 = _ := hd 6 (by decide)
      obtain h26 : σ 26 = _ := hd 8 (by decide)
      obtain h28 : σ 28 = _ := hd 10 (by decide)
      rw [h24, h26, h28]
      clear h24 h26 h28
      clear hd
      have hw : WhAt w' p g b c bs tu l := hH
      have HWW := Hd.mk hw
      clear hw hH
      go_wp2_with fail
      refine (set_calls HWW.out HDO.out.1 HDO.out.2 HLEN.out).mono ?_
      rintro e w4 ⟨rfl, hW2, hf2⟩
      have HX2 := Hd.mk hW2
      have HF2 := Hd.mk hf2
      clear hW2 hf2
      go_wp2
      exact ⟨HF2.out, rfl, HX2.out⟩
    · intro σ w' hR hd
      simp only [fill, Nat.reduceAdd, if_true, Bool.false_eq_true, if_false]
      obtain h29 : σ 29 = _ := hd 11 (by decide)
      rw [h29]
      clear h29
      clear hd
      go_wp2
      exact ⟨Fr.refl _ _, rfl⟩
    · intro σ w' hR hd
      simp only [fill, Nat.reduceAdd, if_true, Bool.false_eq_true, if_false]
      obtain ho5 : (fun (v : Value) (w2 : World) => ItAt w2 (p :: g :: b :: bs) v (insI (delI l d.id) ⟨d.id, d.at_⟩)) (σ 23) w' := hd 5 (by decide)
      clear hd
      have HO5 := Hd.mk ho5
      clear ho5
      go_wp2
      exact ⟨Fr.refl _ _, HO5.out⟩
    · intro σ w' hR hd
      simp only [fill, Nat.reduceAdd, if_true, Bool.false_eq_true, if_false]
      obtain h30 : σ 30 = _ := hd 12 (by decide)
      rw [h30]
      clear h30
      clear hd
      go_wp2
      exact ⟨Fr.refl _ _, rfl⟩
  · intro σ w3 hR hG hH
    obtain h7 : σ 7 = _ := hG 14 (by decide)
    have ho6 : ItAt w3 (p :: g :: b :: bs) (σ 6) (insI (delI l d.id) ⟨d.id, d.at_⟩) := hG 13 (by decide)
    simp only [fill, Nat.reduceAdd, if_true, Bool.false_eq_true, if_false, h7]
    clear h7
    clear hG
    have hfr := (Fr.drew (Fr.refl (b :: bs) _)).trans hR
    have hw2 : WhAt w3 p g b c bs tu (setX l d.id d.at_) := hH
    have HW2 := Hd.mk (hw2.perm (setX_perm l d.id d.at_))
    have HI2 := Hd.mk ho6
    have HF2 := Hd.mk (HF.out.trans (hfr.mono HSB.out))
    have HS2 := Hd.mk (insI_sorted (q := ⟨d.id, d.at_⟩) (HS.out.filter fun x : It => decide (x.i ≠ d.id)))
    have HL2 : Hd ((insI (delI l d.id) ⟨d.id, d.at_⟩).length ≤ l.length + 1) := Hd.mk (by rw [insI_len]; have := List.length_filter_le (fun x : It => decide (x.i ≠ d.id)) l; unfold delI; omega)
    clear hfr hw2 hR hH ho6
    go_wp2
    go_ret2
    exact ⟨_, _, _, rfl, HW2.out, HI2.out, HS2.out, HL2.out, HF2.out⟩
set_option maxRecDepth 100000 in
set_option maxHeartbeats 4000000 in
theorem do_del (hW : WhAt w p g b c bs tu l) (hI : ItAt w (p :: g :: b :: bs) v l) (hS : SrtI l) (hl : l.length < 1000000) (d : Wd) (hd : IdOk d.id ∧ TOk d.at_) (hk : d.kind = 1) :
    Calls Try.prog 14 #[.pointer (some ⟨p, 0, none⟩), v, d.v] w (DoR w p g b c bs l) := by
  obtain ⟨A, c0, rfl, hc0, -⟩ := hI.at_
  have hbx := Blk.new w 28 [.int .i64 d.kind, .int .i64 d.id, .int .u64 d.at_]
  have hF := (Fr.refl [] w).alloc (.cells #[.int .i64 d.kind, .int .i64 d.id, .int .u64 d.at_] 28)
  have HW1 := Hd.mk (hW.fr0 hF)
  have HI := Hd.mk (hI.fr (hF.mono (by simp)))
  have hlt := hW.lt
  have HLT : Hd (∀ x ∈ p :: g :: b :: bs, x < (w.alloc (.cells #[.int .i64 d.kind, .int .i64 d.id, .int .u64 d.at_] 28)).heap.size) := Hd.mk (fun x hx => Nat.lt_of_lt_of_le (hlt x hx) hF.size)
  have HBN : Hd (w.heap.size ∉ b :: bs) := Hd.mk fun hx => by have := hlt _ (show w.heap.size ∈ p :: g :: b :: bs by simp only [List.mem_cons] at hx ⊢; rcases hx with h | h <;> simp [h]); omega
  have HPN : Hd (w.heap.size ∉ p :: b :: bs) := Hd.mk fun hx => by have := hlt _ (show w.heap.size ∈ p :: g :: b :: bs by simp only [List.mem_cons] at hx ⊢; rcases hx with h | h | h <;> simp [h]); omega
  have HSS : Hd (∀ x ∈ b :: bs, x ∈ p :: g :: b :: bs) := Hd.mk fun x hx => by simp only [List.mem_cons] at hx ⊢; rcases hx with h | h <;> simp [h]
  have HSP : Hd (∀ x ∈ p :: b :: bs, x ∈ p :: g :: b :: bs) := Hd.mk fun x hx => by simp only [List.mem_cons] at hx ⊢; rcases hx with h | h | h <;> simp [h]
  have HSB : Hd (∀ x ∈ b :: bs, x ∈ p :: b :: bs) := Hd.mk fun x hx => List.mem_cons_of_mem _ hx
  have HF := Hd.mk (hF.mono (T := p :: b :: bs) (by simp))
  have HBX := Hd.mk hbx
  have HLEN := Hd.mk hl
  have HDO := Hd.mk hd
  have HS := Hd.mk hS
  clear hlt hF hW hI hl hd hS
  unfold Wd.v
  have k1 : (d.kind == 1) = true := by simpa using hk
  have k0 : (d.kind == 0) = false := by rw [beq_eq_false_iff_ne]; omega
  clear hk
  obtain ⟨d0, d1, d2, df⟩ := hbx.cells3
  clear hbx
  obtain ⟨is, his⟩ : ∃ is, (atI l d.id).isSome = is := ⟨_, rfl⟩
  have HIS := Hd.mk his
  clear his
  go_enter Try.func14, Try.ntmps14
  go_wp2_with fail
  refine (del_calls HW1.out HDO.out.1).mono ?_
  rintro r w2 ⟨rfl, hW2, hf2⟩
  rw [HIS.out]
  have HW2 := Hd.mk hW2
  have HI2 := Hd.mk (HI.out.fr (hf2.mono HSS.out))
  have HF2 := Hd.mk (HF.out.trans (hf2.mono HSB.out))
  have HLT2 : Hd (∀ x ∈ p :: g :: b :: bs, x < w2.heap.size) := Hd.mk HW2.out.lt
  clear d0 d1 d2 df
  obtain ⟨d0, d1, d2, df⟩ := (HBX.out.fr hf2 HBN.out).cells3
  clear hW2 hf2
  go_wp2_with fail
  refine (ref_del HI2.out HLEN.out HLT2.out d.id).mono ?_
  rintro r w3 ⟨v3, rfl, hi3, hf3⟩
  rw [HIS.out]
  have HW3 := Hd.mk (HW2.out.fr0 hf3)
  have HI3 := Hd.mk hi3
  have HF3 := Hd.mk (HF2.out.trans (hf3.mono (T := p :: b :: bs) (by simp)))
  have HS2 := Hd.mk (HS.out.filter fun x : It => decide (x.i ≠ d.id))
  have HL2 : Hd ((delI l d.id).length ≤ l.length + 1) := Hd.mk (by have := List.length_filter_le (fun x : It => decide (x.i ≠ d.id)) l; unfold delI; omega)
  clear d0 d1 d2 df hi3 hf3
  go_wp2
  go_ret2
  exact ⟨_, _, _, by simp, HW3.out, HI3.out, HS2.out, HL2.out, HF3.out⟩
set_option maxRecDepth 100000 in
set_option maxHeartbeats 4000000 in
theorem do_due (hW : WhAt w p g b c bs tu l) (hI : ItAt w (p :: g :: b :: bs) v l) (hS : SrtI l) (hl : l.length < 100000) (d : Wd) (hd : IdOk d.id ∧ TOk d.at_) (hk0 : ¬ d.kind = 0) (hk1 : ¬ d.kind = 1) :
    Calls Try.prog 14 #[.pointer (some ⟨p, 0, none⟩), v, d.v] w (DoR w p g b c bs l) := by
  obtain ⟨A, c0, rfl, hc0, -⟩ := hI.at_
  have hbx := Blk.new w 28 [.int .i64 d.kind, .int .i64 d.id, .int .u64 d.at_]
  have hF := (Fr.refl [] w).alloc (.cells #[.int .i64 d.kind, .int .i64 d.id, .int .u64 d.at_] 28)
  have HW1 := Hd.mk (hW.fr0 hF)
  have HI := Hd.mk (hI.fr (hF.mono (by simp)))
  have hlt := hW.lt
  have HLT : Hd (∀ x ∈ p :: g :: b :: bs, x < (w.alloc (.cells #[.int .i64 d.kind, .int .i64 d.id, .int .u64 d.at_] 28)).heap.size) := Hd.mk (fun x hx => Nat.lt_of_lt_of_le (hlt x hx) hF.size)
  have HBN : Hd (w.heap.size ∉ b :: bs) := Hd.mk fun hx => by have := hlt _ (show w.heap.size ∈ p :: g :: b :: bs by simp only [List.mem_cons] at hx ⊢; rcases hx with h | h <;> simp [h]); omega
  have HPN : Hd (w.heap.size ∉ p :: b :: bs) := Hd.mk fun hx => by have := hlt _ (show w.heap.size ∈ p :: g :: b :: bs by simp only [List.mem_cons] at hx ⊢; rcases hx with h | h | h <;> simp [h]); omega
  have HSS : Hd (∀ x ∈ b :: bs, x ∈ p :: g :: b :: bs) := Hd.mk fun x hx => by simp only [List.mem_cons] at hx ⊢; rcases hx with h | h <;> simp [h]
  have HSP : Hd (∀ x ∈ p :: b :: bs, x ∈ p :: g :: b :: bs) := Hd.mk fun x hx => by simp only [List.mem_cons] at hx ⊢; rcases hx with h | h | h <;> simp [h]
  have HSB : Hd (∀ x ∈ b :: bs, x ∈ p :: b :: bs) := Hd.mk fun x hx => List.mem_cons_of_mem _ hx
  have HF := Hd.mk (hF.mono (T := p :: b :: bs) (by simp))
  have HBX := Hd.mk hbx
  have HLEN := Hd.mk hl
  have HDO := Hd.mk hd
  have HS := Hd.mk hS
  clear hlt hF hW hI hl hd hS
  unfold Wd.v
  have k1 : (d.kind == 1) = false := by rw [beq_eq_false_iff_ne]; omega
  have k0 : (d.kind == 0) = false := by rw [beq_eq_false_iff_ne]; omega
  clear hk0 hk1
  obtain ⟨d0, d1, d2, df⟩ := hbx.cells3
  clear hbx
  go_enter Try.func14, Try.ntmps14
  go_wp2_with fail
  refine (due_calls HW1.out HLEN.out HDO.out.2).mono ?_
  rintro r w2 ⟨v2, rfl, ho2, -, hW2, hf2⟩
  have e1 : (dueP l d.at_).map iv = (idsI l d.at_).map fun x => .int .i64 x := by
    rw [srt_due (List.Perm.refl l) HS.out d.at_, List.map_map]
    unfold idsI
    rw [List.map_map]; rfl
  have e2 : (dueP l d.at_).length = (idsI l d.at_).length := by
    have := congrArg List.length e1
    simpa using this
  rw [e1, e2] at ho2
  have hil : (idsI l d.at_).length < 1000000 := by
    unfold idsI; rw [List.length_map]
    have := List.length_filter_le (fun x : It => decide (x.t ≤ d.at_)) l
    have := HLEN.out
    omega
  have HIL := Hd.mk hil
  have HO2 := Hd.mk ho2
  have HW2 := Hd.mk hW2
  have HI2 := Hd.mk (HI.out.fr (hf2.mono HSP.out))
  have HF2 := Hd.mk (HF.out.trans hf2)
  have HLN : Hd (l.length < 1000000) := Hd.mk (by have := HLEN.out; omega)
  clear d0 d1 d2 df e1 e2 hil ho2
  obtain ⟨d0, d1, d2, df⟩ := (HBX.out.fr hf2 HPN.out).cells3
  clear hW2 hf2
  go_wp2_with fail
  refine (ref_due HI2.out HS.out HLN.out d.at_).mono ?_
  rintro r w3 ⟨v3, v4, rfl, hi3, ho3, hf3⟩
  have HW3 := Hd.mk (HW2.out.fr0 hf3)
  have HI3 := Hd.mk hi3
  have HO3 := Hd.mk ho3
  have HO23 := Hd.mk (own_fr HO2.out hf3 (by simp))
  have HF3 := Hd.mk (HF2.out.trans (hf3.mono (T := p :: b :: bs) (by simp)))
  have HS2 := Hd.mk (HS.out.filter fun x : It => !decide (x.t ≤ d.at_))
  have HL2 : Hd ((leftI l d.at_).length ≤ l.length + 1) := Hd.mk (by have := List.length_filter_le (fun x : It => !decide (x.t ≤ d.at_)) l; unfold leftI; omega)
  clear d0 d1 d2 df hi3 hf3 ho3
  go_wp2_with fail
  refine (ints_own HO23.out HO3.out HIL.out HIL.out).mono ?_
  rintro r w4 ⟨rfl, hf4⟩
  rw [decide_eq_true rfl]
  have HW4 := Hd.mk (HW3.out.fr0 hf4)
  have HI4 := Hd.mk (HI3.out.fr (hf4.mono (T := p :: g :: b :: bs) (by simp)))
  have HF4 := Hd.mk (HF3.out.trans (hf4.mono (T := p :: b :: bs) (by simp)))
  clear hf4
  go_wp2
  go_ret2
  exact ⟨_, _, _, rfl, HW4.out, HI4.out, HS2.out, HL2.out, HF4.out⟩
theorem do_any (hW : WhAt w p g b c bs tu l) (hI : ItAt w (p :: g :: b :: bs) v l) (hS : SrtI l) (hl : l.length < 100000) (d : Wd) (hd : IdOk d.id ∧ TOk d.at_) :
    Calls Try.prog 14 #[.pointer (some ⟨p, 0, none⟩), v, d.v] w (DoR w p g b c bs l) := by
  by_cases h0 : d.kind = 0
  · exact do_set hW hI hS (by omega) d hd h0
  · by_cases h1 : d.kind = 1
    · exact do_del hW hI hS (by omega) d hd h1
    · exact do_due hW hI hS hl d hd h0 h1
end
end Go.Proofs.Ythnbdpcbagobhaa
