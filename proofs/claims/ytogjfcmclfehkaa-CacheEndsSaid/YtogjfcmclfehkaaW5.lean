import Derived.Test.YtogjfcmclfehkaaW4
import Derived.Test.YtogjfcmclfehkaaKW
namespace Go.Proofs.Ytogjfcmclfehkaa
open Go Go.RowKit Go.Proofs.MapL

def pc (q : Int × Int) : List Value := [.int .i64 q.1, .int .u64 q.2]
theorem pc_len (q : Int × Int) : (pc q).length = 2 := rfl
theorem elT : Elem Try.prog 125 129 (.agg #[.int .i64 0, .int .u64 0]) 2 16 := ⟨by kernel_rfl, by kernel_rfl, rfl, by omega⟩
theorem i_inv {key : Value} {kl : Lit} (h : keyOf Try.prog 3 key = some kl) : ∃ q : Int, key = vI q ∧ kl = eI q := by
  obtain ⟨x, h1, h2, -⟩ := Maps.keyOf_int_inv Try.underlying3 h
  exact ⟨x, h1, h2⟩
theorem spoke_ids {tu n j : Int} {X : List It} {q : Int × Int} (h : q ∈ spokeL tu n j X) : ∃ x ∈ X, x.i = q.1 ∧ x.t = q.2 ∧ kOf tu n x.t = j := by
  unfold spokeL at h
  obtain ⟨x, hx, rfl⟩ := List.mem_map.1 h
  obtain ⟨h1, h2⟩ := List.mem_filter.1 hx
  exact ⟨x, h1, rfl, rfl, by simpa using h2⟩
theorem tk_app (now : Int) (done : List (Int × Int)) (i t : Int) : tk now (done ++ [(i, t)]) = if t ≤ now then tk now done ++ [(i, t)] else tk now done := by
  unfold tk
  rw [List.filter_append]
  by_cases h : t ≤ now <;> simp [h]
/-- The first loop. -/
def TakeR (w : World) (bk r : Nat) (Ls : List (Int × Int)) (now : Int) (v : Value) (wr : World) : Prop :=
  ∃ done, rangeIs eI vU Try.prog 3 wr bk r Ls done ∧ wr.ownsRow w.heap.size 129 2 v (tk now done).length ((tk now done).flatMap pc) ∧ (tk now done = [] → v = .slice none 0 0) ∧ Fr [] w wr
section
variable {w w' : World} {p g b c : Nat} {bs : List Nat} {tu : Int} {X Y : List It} {S : List Nat}
def TakenR (w : World) (p g b c : Nat) (bs : List Nat) (tu : Int) (X : List It) (k : Nat) (now : Int) (r : Ending) (w' : World) : Prop :=
  ∃ v l, r = .returned v ∧ w'.ownsRow w.heap.size 129 2 v l.length (l.flatMap pc) ∧ (l = [] → v = .slice none 0 0) ∧ l.Perm (tk now (spokeL tu bs.length k X)) ∧ WhAt w' p g b c bs tu (l.foldl delP X) ∧ Fr (b :: bs) w w'
set_option maxRecDepth 100000 in
set_option maxHeartbeats 4000000 in
theorem taken_calls (h : WhAt w p g b c bs tu X) {k : Nat} (hk : k < bs.length) (hX : X.length < 1000000) (now : Int) : Calls Try.prog 68 #[.pointer (some ⟨p, 0, none⟩), .int .i64 k, .int .u64 now] w (TakenR w p g b c bs tu X k now) := by
  obtain ⟨h1, h2, h3, hf_⟩ := h.blk.cells3
  have hn1 := h.n1
  have hmap := h.sp k hk
  have hrow := h.row k hk
  obtain ⟨bk, hbk⟩ : ∃ bk, bs[k] = bk := ⟨_, rfl⟩
  have hbkm : bk ∈ bs := by rw [← hbk]; exact List.getElem_mem hk
  rw [hbk] at hmap hrow
  obtain ⟨Ls, hLs⟩ : ∃ Ls, spokeL tu bs.length k X = Ls := ⟨_, rfl⟩
  have hLl : Ls.length < 1000000 := by
    rw [← hLs]; unfold spokeL; rw [List.length_map]; exact Nat.lt_of_le_of_lt (List.length_filter_le _ _) hX
  have hLi : ∀ q ∈ Ls, IdOk q.1 := by
    rw [← hLs]; intro q hq; obtain ⟨x, hx, e, -⟩ := spoke_ids hq; rw [← e]; exact (h.ok x hx).1
  rw [hLs] at hmap
  unfold TakenR
  rw [hLs]
  have H0 := Hd.mk h
  have HLI := Hd.mk hLi
  clear h hLs hbk hLi
  obtain ⟨n, hn⟩ : ∃ n, bs.length = n := ⟨_, rfl⟩
  rw [hn] at h1 hk
  have HN := Hd.mk hn
  clear hn
  go_enter Try.func68, Try.ntmps68
  go_wp2_with (at_range; refine map_range rfl (.tmp 18) 96 rfl 35 kI Try.underlying96 rfl hmap ?_; intro w0 hrg0 hg0 hs0)
  go_frame
  have hF0 : Fr [] w w0 := (Fr.of_grown hg0).mono (by simp)
  have HAP := Hd.mk hmap.apart
  clear h1 h2 h3 hf_ hg0 hs0 hrow hmap
  go_loopw [7] (fun v wr => TakeR w bk w.heap.size Ls now v wr) (fun _ wr => wr.rangeLeft bk w.heap.size)
  case atStart => exact ⟨[], hrg0, World.ownsRow_nil _ _ _ _, fun _ => rfl, hF0⟩
  case round =>
    obtain ⟨done, hrg, hown, hvn, hfr⟩ := hrel
    have hsz := hfr.size
    go_wp2_with (at_next; refine map_next eI_inj eI_lit vI (fun _ _ hh => i_inv hh) rfl (.tmp 19) rfl kI rfl hrg ?_ ?_)
    · intro hall
      have hks : (tk now done).Perm (tk now Ls) := (perm_done HAP.out (r_apart hrg) (r_sub hrg) (fun p hp => hall p.1 p.2 hp)).filter _
      have hlen : (tk now done).length < 1000000 := Nat.lt_of_le_of_lt (List.length_filter_le _ _) (Nat.lt_of_le_of_lt (done_len hrg) hLl)
      have hki : ∀ q ∈ tk now done, IdOk q.1 := fun q hq => HLI.out q (r_sub hrg q (List.mem_filter.1 hq).1)
      obtain ⟨ks, hke⟩ : ∃ ks, tk now done = ks := ⟨_, rfl⟩
      rw [hke] at hown hvn hks hlen hki
      have hM := H0.out.fr0 hfr
      have HKS := Hd.mk hks
      have HKI := Hd.mk hki
      clear hks hki hall hrg hke
      rcases ks with _ | ⟨k0, ks0⟩
      · have hv := hvn rfl
        subst hv
        have HM := Hd.mk hM
        have HF : Hd (Fr (b :: bs) w wr) := Hd.mk (hfr.mono (by simp))
        have HO := Hd.mk hown
        clear hM hfr hown
        go_wp2_with fail
        refine wp_loop_rounds 1 ?_; rw [rounds_succ]
        go_wp2
        go_ret
        exact ⟨_, [], rfl, HO.out, fun _ => rfl, HKS.out, HM.out, HF.out⟩
      · obtain ⟨ks, hks⟩ : ∃ ks, k0 :: ks0 = ks := ⟨_, rfl⟩
        rw [hks] at hown hlen HKS HKI
        have hn0 : 0 < ks.length := by rw [← hks]; simp
        clear hks hvn
        obtain ⟨g2, c2, rfl, hgb, hgl⟩ := own_form hown hn0
        have hgnb : g2 ∉ b :: bs := by
          have e1 := own_map_ne hM.wh hown g2 rfl
          intro hx
          rcases List.mem_cons.1 hx with hx | hx
          · exact e1 hx
          · obtain ⟨i, hi, e⟩ := List.getElem_of_mem hx
            exact own_map_ne (hM.sp i hi) hown g2 rfl e.symm
        go_wp2_with fail
        go_loopw [36] (fun i w3 => ∃ j : Nat, j ≤ ks.length ∧ i = .int .i64 j ∧ WhAt w3 p g b c bs tu ((ks.take j).foldl delP X) ∧ w3.ownsRow w.heap.size 129 2 (.slice (some ⟨g2, 0, none⟩) ks.length c2) ks.length (ks.flatMap pc) ∧ Fr (b :: bs) w w3) (fun i _ => ks.length - (intOf i).toNat)
        case atStart => exact ⟨0, Nat.zero_le _, rfl, hM, hown, hfr.mono (by simp)⟩
        case round =>
          obtain ⟨j, hj, rfl, hM3, hown3, hF3⟩ := hrel
          by_cases hlt : j < ks.length
          · have hx : ∀ i, i < 2 → wr.cell? ⟨g2, j * 2 + i, none⟩ = (pc ks[j])[i]? := by
              intro i hi
              rw [hown3.cellAt _ (by omega), flat_get pc_len _ _ _ hi, List.getElem?_eq_getElem hlt]
              rfl
            have c0 : wr.cell? ⟨g2, j * 2, none⟩ = some (.int .i64 (ks[j]).1) := hx 0 (by omega)
            have c1 : wr.cell? ⟨g2, j * 2 + 1, none⟩ = some (.int .u64 (ks[j]).2) := hx 1 (by omega)
            clear hx
            have hqi := HKI.out ks[j] (List.getElem_mem hlt)
            obtain ⟨q, hqe⟩ : ∃ q, ks[j] = q := ⟨_, rfl⟩
            rw [hqe] at c0 c1 hqi
            have HQ := Hd.mk hqe
            have HQI := Hd.mk hqi
            have HM3 := Hd.mk hM3
            clear hqe hqi hM3
            go_upto_region 10 with (fail)
            clear c0 c1
            refine wp_name ?_
            intro w5 hw5
            have hf5 : Fr [] wr w5 := by rw [hw5]; exact (Fr.refl [] wr).alloc _
            have hq5 : Blk w5 wr.heap.size 129 [.int .i64 q.1, .int .u64 q.2] := by rw [hw5]; exact Blk.new _ _ _
            clear hw5
            have HM5 := Hd.mk (HM3.out.fr0 hf5)
            have hown5 := own_fr hown3 hf5 (by simp)
            have hF5 := hF3.trans (hf5.mono (by simp))
            obtain ⟨d0, d1, df⟩ := hq5.cells2
            clear hown3 hF3 hf5
            go_wp2_with fail
            refine (del_calls HM5.out HQI.out).mono ?_
            rintro x w6 ⟨rfl, hM6, hf6⟩
            have HO6 := Hd.mk (own_fr hown5 hf6 (by simpa [Value.ownBlock] using hgnb))
            have HF6 := Hd.mk (hF5.trans hf6)
            have HM6 := Hd.mk hM6
            clear d0 d1 df hown5 hF5 hq5 hf6 hM6
            go_wp2
            go_roundw
            case rel =>
              refine ⟨j + 1, by omega, by go_num, ?_, HO6.out, HF6.out⟩
              rw [List.take_succ_eq_append_getElem hlt, List.foldl_append, HQ.out]
              exact HM6.out
            case measure => simp [intOf]; omega
          · have hke : j = ks.length := by omega
            subst hke
            rw [List.take_length] at hM3
            have HM := Hd.mk hM3
            have HF := Hd.mk hF3
            have HO := Hd.mk hown3
            clear hM3 hF3 hown3
            go_wp2
            go_ret
            exact ⟨_, ks, rfl, HO.out, fun e => by rw [e] at hn0; simp at hn0, HKS.out, HM.out, HF.out⟩
    · intro q e w2 hmem hnew hrg2 hlt hgr hsz2 hen
      have hne := iter_ne hrg hown
      have hfr2 : Fr [w.heap.size] wr w2 := Fr.of_grown hgr
      have hown2 := own_fr hown hfr2 (fun k hk => by simpa using (hne k hk).1)
      have hF2 : Fr [] w w2 := hfr.weak hfr2 (by simp)
      have hlen : (tk now done).length < 1000000 := Nat.lt_of_le_of_lt (List.length_filter_le _ _) (Nat.lt_of_le_of_lt (done_len hrg) hLl)
      have HLT := Hd.mk hlt
      have HVN := Hd.mk hvn
      have hbz : w.heap.size ≤ w2.heap.size := hF2.size
      have HF2 := Hd.mk hF2
      have HRG := Hd.mk hrg2
      have hap := tk_app now done q e
      have HTA := Hd.mk hap
      clear hap hlt hsz2 hgr hrg hown hne hfr2 hfr hsz hvn hmem hnew hF2 hrg2
      unfold vI vU at hen
      rcases Int.lt_or_le now e with hle | hle
      · go_wp2
        go_roundw
        case rel =>
          have hap := HTA.out
          rw [if_neg (by omega)] at hap
          exact ⟨done ++ [(q, e)], HRG.out, by rw [hap]; exact hown2, by rw [hap]; exact HVN.out, HF2.out⟩
        case measure => exact HLT.out
      · go_wp2_with (at_builtin; refine wpList_app1s elT rfl (.tmp 28) (.tmp 32) rfl hown2 rfl (pc (q, e)) rfl rfl (by simp [pc, Value.oneCell']) (by omega) (by omega) (by omega) ?_; intro g7 c7 w7 ho7 hf7 hb7 hg7 hor7)
        have hne5 := iter_ne HRG.out hown2
        obtain ⟨hrg7, hl7⟩ := range_fr HRG.out hf7 (fun hx => (hne5 bk (by simpa using hx)).2 rfl) (fun hx => (hne5 w.heap.size (by simpa using hx)).1 rfl)
        have HL7 := Hd.mk hl7
        clear hl7
        go_roundw
        case rel =>
          have hap := HTA.out
          rw [if_pos hle] at hap
          refine ⟨done ++ [(q, e)], hrg7, ?_, ?_, HF2.out.weak hf7 (fun x hx => .inr (hown2.lt x (by simpa using hx)).1)⟩
          · rw [hap]; simpa using ho7
          · rw [hap]; simp
        case measure =>
          have e1 := HLT.out
          have e3 := HL7.out
          omega
end
end Go.Proofs.Ytogjfcmclfehkaa
