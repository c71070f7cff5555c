import Derived.Test.YtbmejolmbfmdiaaH13
import Derived.Deep.CutRange
import Derived.LoopNIn
import Derived.LoopIn
import Derived.TacticsInMore
import Derived.OwnWalkIn
import Derived.Sort.QuietIn
namespace Go.Proofs.Ytbmejolmbfmdiaa
open Go Go.RowKit Go.Lib Go.Proofs.MapL
attribute [local go_sem] Oper.semAt_some

/-- The shard's number is an int. -/
def shI (x : Ev) : Prop := -9223372036854775808 ≤ x.sh ∧ x.sh ≤ 9223372036854775807
def okB (w0 : World) (bh br bs b : Nat) : Prop := w0.heap.size ≤ b ∧ b ≠ bh ∧ b ≠ br ∧ b ≠ bs
def poOf (o : Option Nat) : Option Addr := o.map fun p => ⟨p, 0, none⟩
theorem po_of (o : Option Nat) : (o.map vP).getD (.pointer none) = .pointer (poOf o) := by cases o <;> rfl
theorem stok_take {w0 : World} (ρ : En → List Rr) (sh room : Int) {xs : List Ev} (hx : ∀ x ∈ xs, EvOK w0 x) : ∀ k, StOK w0 (stL ρ sh room st0 (xs.take k)) k
  | 0 => stok0 w0
  | k + 1 => by
    by_cases hlt : k < xs.length
    · rw [List.take_succ_eq_append_getElem hlt, stL_app]
      exact (stok_take ρ sh room hx k).step ρ sh room (hx _ (List.getElem_mem hlt))
    · have h1 := stok_take ρ sh room hx k
      rw [List.take_of_length_le (by omega)] at h1 ⊢
      intro j
      exact ⟨by have := (h1 j).1; omega, by have := (h1 j).2.1; omega, (h1 j).2.2⟩
theorem new_part {w3 w4 : World} {pn bn : Nat} {room : Int} (h : MAt w3 pn bn room []) (hw : w4 = (w3.alloc (.map #[] 0)).alloc (.cells #[.pointer (some ⟨pn, 0, none⟩), .map (some w3.heap.size)] 57)) : PtAt w4 ⟨w3.heap.size + 1, pn, bn, w3.heap.size, room⟩ ⟨[], []⟩ := by
  have hf : Fr [] w3 w4 := by rw [hw]; exact ((Fr.refl [] w3).alloc _).alloc _
  have h1 := h.plt
  have h2 := h.blt
  have hb := Blk.new (w3.alloc (.map #[] 0)) 57 [.pointer (some ⟨pn, 0, none⟩), .map (some w3.heap.size)]
  rw [World.size_alloc] at hb
  have hm := mapIs_made Qn.lit vU Try.prog 28 w3
  refine ⟨?_, h.fr hf (by simp) (by simp), ?_, ?_, ?_⟩
  · rw [hw]; exact hb
  · rw [hw]; exact map_fr hm ((Fr.refl [] _).alloc _) (by simp)
  · show bn ≠ w3.heap.size; omega
  · show pn ≠ w3.heap.size + 1; omega
theorem stX_out {ρ : En → List Rr} {sh room : Int} {st : St} {x : Ev} (h : stIn sh x = false) : stX ρ sh room st x = st := by funext j; unfold stX; rw [h]; simp
def encI (i : Int) : Array Value := #[.int .i64 i]
theorem evC_cell (x : Ev) : ∀ v ∈ evC x, v.oneCell' = true := by
  intro v hv
  simp only [evC, List.mem_cons, List.not_mem_nil, or_false] at hv
  rcases hv with rfl | rfl | rfl | rfl | rfl | rfl | rfl | rfl | rfl | rfl | rfl | rfl | rfl | rfl | rfl | rfl | rfl | rfl | rfl | rfl <;> rfl
set_option maxRecDepth 100000 in
set_option maxHeartbeats 8000000 in
theorem wrongs_gives {wE w0 : World} (hE : Fr [] wE w0) (n : Nat) (hn : 1 ≤ n) (sh room : Int) (hroom : 1 ≤ room) {xs : List Ev} (hlen : xs.length ≤ 1000) {A : Option Addr} {c : Nat} (hs : SlIs evC 20 w0 A xs.length xs) (hx : ∀ x ∈ xs, EvOK wE x ∧ shI x)
    {w : World} (h0 : Fr [] w0 w) {bh br bs : Nat} (hbh : Blk w bh 24 [.slice A xs.length c]) (hbr : Blk w br 3 [.int .i64 room]) (hbs : Blk w bs 3 [.int .i64 sh]) :
    GivesX Fence.wide n Try.prog 11 #[.pointer (some ⟨bh, 0, none⟩), .pointer (some ⟨br, 0, none⟩), .pointer (some ⟨bs, 0, none⟩)] encI (wrongL (rho wE) sh room st0 0 xs) (okB w0 bh br bs) w := by
  intro l J Jx B0 W hW hJ hJx hB0 hY h0J
  have HBH := Hd.mk (hbh.fr hW (by simp))
  have HBR := Hd.mk (hbr.fr hW (by simp))
  have HBS := Hd.mk (hbs.fr hW (by simp))
  have H0 := Hd.mk (h0.trans hW)
  have HE0 := Hd.mk hE
  have HS := Hd.mk hs
  have HX := Hd.mk hx
  have HY := Hd.mk hY
  have HJ := Hd.mk hJ
  have HB0 := Hd.mk hB0
  have H0J := Hd.mk h0J
  have HLE := Hd.mk hlen
  have HRM := Hd.mk hroom
  have hlenI : (xs.length : Int) ≤ 9223372036854775807 := by omega
  clear hE hbh hbr hbs h0 hW hs hx hY hJ hJx hB0 h0J hroom
  refine callsIn_wide.2 ?_
  have hmm := @run_makeMap Try.prog
  show Calls Try.prog 11 #[.func (.yield l) #[] #[], .pointer (some ⟨bh, 0, none⟩), .pointer (some ⟨br, 0, none⟩), .pointer (some ⟨bs, 0, none⟩)] W _
  go_enter Try.func11, Try.ntmps11
  go_upto_region 1 with (fail)
  clear hmm
  refine wp_name ?_; intro w1 hw1
  have hm1 : mapIs elI vP Try.prog 3 w1 W.heap.size [] := by rw [hw1]; exact mapIs_made _ _ _ _ _
  have hf1 : Fr [] W w1 := by rw [hw1]; exact (Fr.refl [] W).alloc _
  clear hw1
  obtain ⟨pm, hpm⟩ : ∃ p, W.heap.size = p := ⟨_, rfl⟩
  rw [hpm] at hm1 ⊢
  have HPM := Hd.mk hpm
  have HM1 := Hd.mk (parts_none hm1 room (Nat.le_refl pm))
  have HF1 := Hd.mk hf1
  have c0 : w1.cell? ⟨bh, 0, none⟩ = some (.slice A xs.length c) := (HBH.out.fr hf1 (by simp)).cell (i := 0) rfl
  have HJ1 := Hd.mk (HJ.out.fr H0J.out hf1 (by simp))
  clear hm1 hf1 hpm
  go_wp2_with fail
  clear c0
  go_loopg [13] xs.length (fun g v wr => ∃ (k : Nat) (K : List (Int × Pt)) (B : List Nat), k ≤ xs.length ∧ xs.length - k ≤ g ∧ v = .int .i64 (k : Nat) ∧
    Hd (PartsAt wr pm room pm K (stL (rho wE) sh room st0 (xs.take k)) ∧ J (wrongL (rho wE) sh room st0 0 (xs.take k)) B wr ∧ (∀ b ∈ B, b ∈ B0 ∨ pm ≤ b) ∧ (∀ b ∈ B, b ∉ allK pm K) ∧ K.length ≤ k ∧ Fr B0 W wr))
  case atStart => exact ⟨0, [], B0, Nat.zero_le _, by omega, rfl, ⟨HM1.out, HJ1.out, fun b hb => .inl hb, fun b hb => by simp [allK]; have := HJ.out.lt H0J.out b hb; have := HPM.out; omega, Nat.le_refl _, HF1.out.mono (by simp)⟩⟩
  case round =>
    obtain ⟨k, K, B, hk, hg, rfl, HREL⟩ := hrel
    by_cases hlt : k < xs.length
    · obtain ⟨b, off, rfl, hb, hc⟩ := HS.out.row (by omega)
      obtain ⟨x, hxk⟩ : ∃ x, xs[k] = x := ⟨_, rfl⟩
      have HXK := Hd.mk hxk
      have HEX := Hd.mk (HX.out x (hxk ▸ List.getElem_mem hlt))
      have hFW : Fr [] w0 wr := (H0.out.weak HREL.out.2.2.2.2.2 (fun y hy => .inr (HB0.out y hy).1))
      have HFW := Hd.mk hFW
      obtain ⟨cv, hcv⟩ : ∃ c, (evC x).toArray = c := ⟨_, rfl⟩
      have HCV := Hd.mk hcv
      have HXV : Hd (Value.agg cv = x.v) := Hd.mk (by rw [← hcv]; rfl)
      have hcs : cv.size = 20 := by rw [← hcv]; rfl
      have hc1 : cv.all (·.oneCell') = true := by rw [← hcv, List.all_toArray, List.all_eq_true]; exact evC_cell x
      have hrow : ∀ j u, (evC x)[j]? = some u → wr.cell? ⟨b, off + k * 20 + j, none⟩ = some u := fun j u hj => hFW.cell (hc k hlt j u (by rw [hxk]; exact hj)) (by simp)
      have HROW := Hd.mk hrow
      have hltI : (k : Int) < (xs.length : Int) := by omega
      clear hc hb hFW hcv hrow hxk
      go_upto_region 4 with (first | (refine wpList_loadA rfl rfl (Try.isAgg38 _) (Try.sizeOf38 _) (row_load HROW.out (n := 20) rfl HCV.out) rfl ?_) | (refine wpList_storeNew rfl rfl rfl rfl (by rw [hcs]; kernel_rfl) (by rw [hcs]; rfl) hc1 ?_))
      dsimp only [Act.put]
      clear HROW hcs hc1
      refine wp_name ?_; intro w2 hw2
      have hf2 := alloc_of hw2
      have hb2 : Blk w2 wr.heap.size 38 (evC x) := blk_of (by rw [hw2, HCV.out])
      clear hw2
      obtain ⟨bx, hbx⟩ : ∃ p, wr.heap.size = p := ⟨_, rfl⟩
      rw [hbx] at hb2 ⊢
      have HBX := Hd.mk hbx
      have HF2 := Hd.mk hf2
      have HB2 := Hd.mk hb2
      have HP2 := Hd.mk (HREL.out.1.fr0 hf2)
      have c9 : w2.cell? ⟨bx, 9, none⟩ = some (.int .i64 x.sh) := hb2.cell (i := 9) rfl
      have hrun := HP2.out.map.look kI Try.underlying51 (zeroP w2) (key_i HEX.out.2)
      rw [po_of] at hrun
      obtain ⟨po, hpo⟩ : ∃ po, poOf (findL (K.map fun p => (p.1, p.2.pp)) x.sh) = po := ⟨_, rfl⟩
      rw [hpo] at hrun
      have HPO := Hd.mk hpo
      clear hf2 hb2 hbx hpo
      go_upto_if 23 with (fail)
      clear c9 hrun
      have HIN := Hd.mk (HREL.out.2.2.2.1)
      have HKL := Hd.mk (HREL.out.2.2.2.2.1)
      have HST : Hd (StOK wE (stL (rho wE) sh room st0 (xs.take k)) k) := Hd.mk (stok_take (rho wE) sh room (fun y hy => (HX.out y hy).1) k)
      obtain ⟨st, hst⟩ : ∃ st, stL (rho wE) sh room st0 (xs.take k) = st := ⟨_, rfl⟩
      rw [hst] at HP2 HST
      have HSTK := Hd.mk hst
      obtain ⟨pre, hpre⟩ : ∃ pre, wrongL (rho wE) sh room st0 0 (xs.take k) = pre := ⟨_, rfl⟩
      have HPRE := Hd.mk hpre
      have HJ2 : Hd (J pre B w2) := Hd.mk (by rw [← hpre]; exact HJ.out.fr HREL.out.2.1 HF2.out (by simp))
      have HB := Hd.mk HREL.out.2.2.1
      have HFA : Hd (Fr B0 W w2) := Hd.mk (HREL.out.2.2.2.2.2.trans (HF2.out.mono (by simp)))
      have HFB : Hd (Fr [] w0 w2) := Hd.mk (HFW.out.trans HF2.out)
      clear HREL hst hpre HF2 HFW
      go_cut [8] from 14 to 62 (fun v wc => ∃ (K2 : List (Int × Pt)) (P : Pt), v = .pointer (some ⟨P.pp, 0, none⟩) ∧ (x.sh, P) ∈ K2 ∧ K2.length ≤ k + 1 ∧ PartsAt wc pm room pm K2 st ∧ (∀ b ∈ B, b ∉ allK pm K2) ∧ Fr [pm] w2 wc)
      case first =>
        cases hfd : findL (K.map fun p => (p.1, p.2.pp)) x.sh with
        | some a =>
          obtain ⟨P, hPK, hPa⟩ := find_some_K hfd
          obtain rfl : po = some ⟨P.pp, 0, none⟩ := by rw [← HPO.out, hfd, ← hPa]; rfl
          have HPK := Hd.mk hPK
          clear hfd hPK hPa
          go_wp2_with fail
          go_meet
          case rel => exact ⟨K, P, rfl, HPK.out, by have := HKL.out; omega, HP2.out, HIN.out, Fr.refl _ _⟩
        | none =>
          obtain rfl : po = none := by rw [← HPO.out, hfd]; rfl
          have HFD := Hd.mk hfd
          have cr : w2.cell? ⟨br, 0, none⟩ = some (.int .i64 room) := ((HBR.out.fr HFA.out (fun e => (HB0.out _ e).2.2.1 rfl))).cell (i := 0) rfl
          have hmm := @run_makeMap Try.prog
          clear hfd
          go_wp2_with fail
          refine (new_calls room HRM.out _).mono ?_
          rintro r w3 ⟨pn, bn, rfl, hm3, hf3, hp3, hb3⟩
          have HM3 := Hd.mk hm3
          have HF3 := Hd.mk hf3
          have HN3 := Hd.mk (show w2.heap.size ≤ pn ∧ w2.heap.size ≤ bn from ⟨hp3, hb3⟩)
          clear cr hm3 hf3 hp3 hb3
          go_upto_region 7 with (fail)
          clear hmm
          refine wp_name ?_; intro w4 hw4
          have HPT := Hd.mk (new_part HM3.out hw4)
          have hf4 : Fr [] w3 w4 := by rw [hw4]; exact ((Fr.refl [] w3).alloc _).alloc _
          clear hw4
          obtain ⟨P, hP⟩ : ∃ P : Pt, (⟨w3.heap.size + 1, pn, bn, w3.heap.size, room⟩ : Pt) = P := ⟨_, rfl⟩
          have hPP : w3.heap.size + 1 = P.pp := by rw [← hP]
          rw [hP] at HPT
          rw [hPP]
          have HRP : Hd (P.room = room) := Hd.mk (by rw [← hP])
          have HNEW : Hd (∀ b ∈ P.all, w2.heap.size ≤ b) := Hd.mk (by
            have h1 := HN3.out
            have h2 := HF3.out.size
            intro b hb
            rw [← hP] at hb
            simp only [Pt.all, List.mem_cons, List.not_mem_nil, or_false] at hb
            rcases hb with rfl | rfl | rfl | rfl <;> omega)
          have HF4 := Hd.mk (HF3.out.trans hf4)
          have c9 : w4.cell? ⟨bx, 9, none⟩ = some (.int .i64 x.sh) := (HB2.out.fr HF4.out (by simp)).cell (i := 9) rfl
          have HMP := Hd.mk (map_fr HP2.out.map HF4.out (by simp))
          have HKM : Hd ((K.map fun p => (p.1, p.2.pp)).length < maxLen) := Hd.mk (by have := HKL.out; simp; unfold maxLen; omega)
          obtain ⟨w5, hrun, hm5, htn⟩ := HMP.out.update elI_inj kI Try.underlying51 HKM.out (key_i HEX.out.2) trivial P.pp
          have hadd := HP2.out.add HFD.out HF4.out HPT.out HRP.out HNEW.out (Fr.turned htn) hm5
          have HADD := Hd.mk hadd
          unfold vP at hrun
          clear hP hPP hf4 hm5 htn hadd
          go_wp2_with fail
          go_meet
          case rel =>
            refine ⟨K ++ [(x.sh, P)], P, rfl, List.mem_append.2 (.inr (List.mem_singleton.2 rfl)), by have := HKL.out; simp; omega, HADD.out.1, fun b hb hc => ?_, HADD.out.2⟩
            rcases mem_allK.1 hc with rfl | ⟨p, hp, hbp⟩
            · exact HIN.out b hb (mem_allK.2 (.inl rfl))
            · rcases List.mem_append.1 hp with hp | hp
              · exact HIN.out b hb (mem_allK.2 (.inr ⟨p, hp, hbp⟩))
              · simp at hp; subst hp
                have h1 := HNEW.out b hbp
                have h2 := HJ.out.lt HJ2.out b hb
                omega
      case rest =>
        obtain ⟨K2, P, rfl, hPK, hK2, hP3, hin3, hf3⟩ := hcut
        have HPK := Hd.mk hPK
        have HK2 := Hd.mk hK2
        have HP3 := Hd.mk hP3
        have HIN3 := Hd.mk hin3
        have hpmB : pm ∉ B := fun e => hin3 pm e (mem_allK.2 (.inl rfl))
        have HJ3 := Hd.mk (HJ.out.fr HJ2.out hf3 (fun b hb e => hpmB (by simp at e; subst e; exact hb)))
        have HFA3 : Hd (Fr B0 W wc) := Hd.mk (HFA.out.weak hf3 (fun y hy => by simp at hy; subst hy; exact .inr (by have := HPM.out; omega)))
        have HFB3 : Hd (Fr [] w0 wc) := Hd.mk (HFB.out.weak hf3 (fun y hy => by simp at hy; subst hy; exact .inr (by have := HPM.out; have := H0.out.size; omega)))
        have HB3 := Hd.mk (HB2.out.fr hf3 (by have := map_ne HP2.out.map HB2.out; simp; exact fun e => this e.symm))
        obtain ⟨w3, hw3⟩ : ∃ y, wc = y := ⟨_, rfl⟩
        rw [hw3] at HP3 HJ3 HFA3 HFB3 HB3 ⊢
        have hPT : PtAt w3 P (st x.sh) := HP3.out.at_ _ HPK.out
        have hPR : P.room = room := HP3.out.room _ HPK.out
        have HPT := Hd.mk hPT
        have HPR := Hd.mk hPR
        have c9 : w3.cell? ⟨bx, 9, none⟩ = some (.int .i64 x.sh) := HB3.out.cell (i := 9) rfl
        have cs : w3.cell? ⟨bs, 0, none⟩ = some (.int .i64 sh) := ((HBS.out.fr HFA3.out (fun e => (HB0.out _ e).2.2.2 rfl))).cell (i := 0) rfl
        have cp : w3.cell? ⟨P.pp, 0, none⟩ = some (.pointer (some ⟨P.pm, 0, none⟩)) := hPT.blk.cell (i := 0) rfl
        clear hw3 hPK hK2 hP3 hin3 hf3 hpmB HJ2 HFA HFB HB2 HP2 hPT hPR HIN
        go_upto_region 8 with (fail)
        go_cut [9] from 14 to 62 (fun v wd => v = .bool (okX (rho wE) sh room st x) ∧ PartsAt wd pm room pm K2 (stX (rho wE) sh room st x) ∧ Fr (allK pm K2) w3 wd)
        case first =>
          by_cases h1 : 0 ≤ x.sh
          · by_cases h2 : x.sh < sh
            · have HSI : Hd (stIn sh x = true) := Hd.mk (by unfold stIn; rw [decide_eq_true h1, decide_eq_true h2]; rfl)
              go_wp2_with (refine wpList_loadA rfl rfl (Try.isAgg38 _) (Try.sizeOf38 _) (blk_load HB3.out (n := 20) rfl HCV.out) rfl ?_)
              rw [HXV.out]
              have hk1 : k ≤ 999 := by have := HLE.out; omega
              refine (right_calls (HE0.out.trans HFB3.out) (fun b hb => by have := HE0.out.size; have e1 := HP3.out.base b (mem_allK.2 (.inr ⟨_, HPK.out, hb⟩)); have := HPM.out; have := H0.out.size; omega) HPT.out (by have := (HST.out x.sh).1; omega) (by have := (HST.out x.sh).2.1; omega) (HST.out x.sh).2.2 HEX.out.1).mono ?_
              rintro r w4 ⟨rfl, hp4, hf4⟩
              rw [HPR.out] at hp4 ⊢
              have HP4 := Hd.mk (HP3.out.put HPK.out hf4 (st' := stX (rho wE) sh room st x) (by unfold stX; rw [if_pos ⟨rfl, HSI.out⟩]; exact hp4) (fun j hj => by unfold stX; rw [if_neg (fun e => hj e.1)]))
              have HF4 : Hd (Fr (allK pm K2) w3 w4) := Hd.mk (hf4.mono (fun b hb => mem_allK.2 (.inr ⟨_, HPK.out, Pt.wr_all _ _ hb⟩)))
              have HOK : Hd (okX (rho wE) sh room st x = rightB (rho wE) (st x.sh) room x) := Hd.mk (by unfold okX; rw [HSI.out]; rfl)
              clear hp4 hf4 c9 cs cp
              go_wp2_with fail
              go_meet
              case rel => exact ⟨by rw [HOK.out], HP4.out, HF4.out⟩
            · have HSI : Hd (stIn sh x = false) := Hd.mk (by unfold stIn; rw [decide_eq_false h2]; simp)
              go_wp2_with fail
              go_meet
              case rel => exact ⟨by unfold okX; rw [HSI.out]; rfl, by rw [stX_out HSI.out]; exact HP3.out, Fr.refl _ _⟩
          · have HSI : Hd (stIn sh x = false) := Hd.mk (by unfold stIn; rw [decide_eq_false h1]; rfl)
            go_wp2_with fail
            go_meet
            case rel => exact ⟨by unfold okX; rw [HSI.out]; rfl, by rw [stX_out HSI.out]; exact HP3.out, Fr.refl _ _⟩
        case rest =>
          obtain ⟨rfl, hp4, hf4⟩ := hcut
          have HP4 := Hd.mk hp4
          have HJ4 := Hd.mk (HJ.out.fr HJ3.out hf4 HIN3.out)
          have hall : ∀ y ∈ allK pm K2, W.heap.size ≤ y := fun y hy => by have := HP3.out.base y hy; have := HPM.out; omega
          have HFA4 : Hd (Fr B0 W wc) := Hd.mk (HFA3.out.weak hf4 (fun y hy => .inr (hall y hy)))
          obtain ⟨w4, hw4⟩ : ∃ y, wc = y := ⟨_, rfl⟩
          rw [hw4] at HP4 HJ4 HFA4 ⊢
          have hT : xs.take (k + 1) = xs.take k ++ [x] := by rw [List.take_succ_eq_append_getElem hlt, HXK.out]
          have HS1 : Hd (stL (rho wE) sh room st0 (xs.take (k + 1)) = stX (rho wE) sh room st x) := Hd.mk (by rw [hT, stL_app, HSTK.out])
          have HW1 : Hd (wrongL (rho wE) sh room st0 0 (xs.take (k + 1)) = pre ++ if okX (rho wE) sh room st x then [] else [(k : Int)]) := Hd.mk (by rw [hT, wrongL_snoc, HPRE.out, HSTK.out, List.length_take, Nat.min_eq_left (by omega)])
          have HPX : Hd (wrongL (rho wE) sh room st0 0 (xs.take (k + 1)) <+: wrongL (rho wE) sh room st0 0 xs) := Hd.mk (wrongL_take _ _ _ _ _)
          obtain ⟨ok, hok⟩ : ∃ b, okX (rho wE) sh room st x = b := ⟨_, rfl⟩
          rw [hok] at HW1 ⊢
          clear hp4 hf4 hall hw4 hT hok c9 cs cp
          cases ok with
          | true =>
            go_wp2
            go_roundg (xs.length - (k + 1))
            case measure => omega
            case rel => exact ⟨k + 1, K2, B, by omega, by omega, by go_num, ⟨by rw [HS1.out]; exact HP4.out, by rw [HW1.out]; simpa using HJ4.out, HB.out, HIN3.out, HK2.out, HFA4.out⟩⟩
          | false =>
            have HW1 : Hd (wrongL (rho wE) sh room st0 0 (xs.take (k + 1)) = pre ++ [(k : Int)]) := HW1
            go_upto_region 9 with (fail)
            obtain ⟨fn, tmps, assign, body, hy, hR⟩ := HY.out pre k B w4 HJ4.out (by rw [← HW1.out]; exact HPX.out)
            unfold encI at hy
            refine (wpIn_wide (n := n)).1 ?_
            gi_wp2
            refine hR.mono ?_
            rintro e w5 ⟨B', hB', hf5, hj5⟩
            have HP5 := Hd.mk (HP4.out.fr hf5 (fun b hb e => HIN3.out b e hb))
            have HFA5 : Hd (Fr B0 W w5) := Hd.mk (HFA4.out.weak hf5 (fun y hy => by have := HPM.out; rcases HB.out y hy with h | h; exact .inl h; exact .inr (by omega)))
            have HB5 : Hd (∀ b ∈ B', b ∈ B0 ∨ pm ≤ b) := Hd.mk (fun b hb => by
              rcases hB' b hb with h | h
              · exact HB.out b h
              · have := HP4.out.map.lt; exact .inr (by omega))
            have HIN5 : Hd (∀ b ∈ B', b ∉ allK pm K2) := Hd.mk (fun b hb hc => by
              rcases hB' b hb with h | h
              · exact HIN3.out b h hc
              · have := HP4.out.lt b hc; omega)
            rcases hj5 with ⟨rfl, hj5⟩ | ⟨rfl, hj5⟩
            · have HJ5 := Hd.mk hj5
              clear hB' hf5 hj5 hy hR
              gi_wp2
              go_wp2
              go_roundg (xs.length - (k + 1))
              case measure => omega
              case rel => exact ⟨k + 1, K2, B', by omega, by omega, by go_num, ⟨by rw [HS1.out]; exact HP5.out, by rw [HW1.out]; exact HJ5.out, HB5.out, HIN5.out, HK2.out, HFA5.out⟩⟩
            · have HJ5 := Hd.mk hj5
              clear hB' hf5 hj5 hy hR
              gi_wp2
              go_wp2
              refine bodyPost_ret (results_none rfl _ _ _) rfl ?_
              exact ⟨⟨_, rfl⟩, HFA5.out, B', .inr ⟨_, by have := HPX.out; rw [HW1.out] at this; exact this, by simp, HJ5.out⟩⟩
    · have : k = xs.length := by omega
      subst this
      have hjE := HREL.out.2.1
      rw [List.take_length] at hjE
      have HJE := Hd.mk hjE
      have HFE := Hd.mk HREL.out.2.2.2.2.2
      clear hjE
      go_wp2
      go_end0
      exact ⟨⟨_, rfl⟩, HFE.out, B, .inl HJE.out⟩
end Go.Proofs.Ytbmejolmbfmdiaa
