import Derived.Test.YthnbdpcbagobhaaW9
import Derived.Test.YthnbdpcbagobhaaOpn
namespace Go.Proofs.Ythnbdpcbagobhaa
open Go Go.RowKit Go.Proofs.MapL Go.Proofs.YthnbdpcbagobhaaW.PrintWords

/-- A deed. -/
structure Wd where
  kind : Int
  id : Int
  at_ : Int
def Wd.c (d : Wd) : List Value := [.int .i64 d.kind, .int .i64 d.id, .int .u64 d.at_]
structure DeedsAt (w : World) (v : Value) (ds : List Wd) : Prop where
  le : ds.length ≤ 9223372036854775807
  ok : ∀ d ∈ ds, IdOk d.id ∧ TOk d.at_
  at_ : ∃ A c, v = .slice A ds.length c ∧ (0 < ds.length → ∃ b off, A = some ⟨b, off, none⟩ ∧ b < w.heap.size ∧ ∀ i (h : i < ds.length) (j : Nat) (u : Value), (ds[i]).c[j]? = some u → w.cell? ⟨b, off + i * 3 + j, none⟩ = some u)
theorem at_add_ne {X : List It} {id t o : Int} (h : o ≠ id) : atI (setX X id t) o = atI X o := by
  unfold setX
  rw [← at_del (X := X) h]
  unfold atI
  rw [List.find?_append]
  have e : decide (id = o) = false := decide_eq_false (Ne.symm h)
  simp [e]
theorem at_add_eq (X : List It) (id t : Int) : atI (setX X id t) id = some ⟨id, t⟩ := by
  have h := del_self X id
  unfold setX
  unfold atI at h ⊢
  rw [List.find?_append, h]
  simp
theorem setX_len (X : List It) (id t : Int) : (setX X id t).length ≤ X.length + 1 := by
  unfold setX delI
  rw [List.length_append]
  have := List.length_filter_le (fun x : It => decide (x.i ≠ id)) X
  simp only [List.length_singleton]; omega
set_option maxRecDepth 100000 in
set_option maxHeartbeats 4000000 in
theorem apart_law {w : World} {v : Value} {ds : List Wd} {size : Int} (hs : 0 ≤ size ∧ size < 256) (hD : DeedsAt w v ds) {id o t : Int} (hid : IdOk id) (ho : IdOk o) (ht : TOk t) :
    Calls Try.prog 3 #[.int .u8 size, v, .int .i64 id, .int .i64 o, .int .u64 t] w fun r w' => r = .returned (.bool true) ∧ Fr [] w w' := by
  obtain ⟨hle, hok, A0, cd, rfl, hat⟩ := hD
  obtain ⟨sz, rfl⟩ := Int.eq_ofNat_of_zero_le hs.1
  have HAT := Hd.mk hat
  have HOK := Hd.mk hok
  have HIDS := Hd.mk (And.intro hid (And.intro ho ht))
  clear hat hok hid ho ht
  go_enter Try.func3, Try.ntmps3
  go_wp2_with fail
  refine (shown_calls _).mono ?_
  rintro r ws ⟨rfl, hF0⟩
  go_wp2_with fail
  refine (new_calls (1 + sz) (by omega) (by omega) _).mono ?_
  rintro r w1 ⟨p, g, b, c, bs, rfl, hW, hn, hf, hge⟩
  have hsz := hF0.size
  have HGE : Hd (∀ k ∈ b :: bs, w.heap.size ≤ k) := Hd.mk fun k hk => by
    have := hge k (by simp only [List.mem_cons] at hk ⊢; rcases hk with h | h <;> simp [h])
    omega
  have hF := hF0.trans hf
  clear hF0 hf hge hn hsz
  go_wp2_with fail
  go_loopw [13] (fun i wr => ∃ (k : Nat) (X : List It), k ≤ ds.length ∧ k ≤ 200 ∧ i = .int .i64 k ∧ WhAt wr p g b c bs 0 X ∧ X.length ≤ k ∧ Fr [] w wr) (fun i _ => 200 - (intOf i).toNat)
  case atStart => exact ⟨0, [], Nat.zero_le _, by omega, rfl, hW, by simp, hF⟩
  case round =>
    obtain ⟨k, X, hk, hk2, rfl, hWr, hX, hFr⟩ := hrel
    have HW := Hd.mk hWr
    have HF := Hd.mk hFr
    have HX := Hd.mk hX
    have HXL : Hd (X.length < 1000000) := Hd.mk (by omega)
    clear hWr hFr hX hW hF
    by_cases hlt : k < ds.length
    · by_cases hlt2 : k < 200
      · obtain ⟨gd, off, rfl, hgl, hcc⟩ := HAT.out (by omega)
        obtain ⟨d, hd⟩ : ∃ d, ds[k] = d := ⟨_, rfl⟩
        have hcd := hcc k hlt
        have hdo := HOK.out (ds[k]) (List.getElem_mem hlt)
        rw [hd] at hcd hdo
        have HDO := Hd.mk hdo
        have HGD : Hd (gd ∉ b :: bs) := Hd.mk fun hx => by have := HGE.out gd hx; omega
        have hw0 : ∀ j u, d.c[j]? = some u → wr.cell? ⟨gd, off + k * 3 + j, none⟩ = some u := fun j u hu => HF.out.cell (hcd j u hu) (by simp)
        have c0 : wr.cell? ⟨gd, off + k * 3, none⟩ = some (.int .i64 d.kind) := hw0 0 _ rfl
        have c1 : wr.cell? ⟨gd, off + k * 3 + 1, none⟩ = some (.int .i64 d.id) := hw0 1 _ rfl
        have c2 : wr.cell? ⟨gd, off + k * 3 + 2, none⟩ = some (.int .u64 d.at_) := hw0 2 _ rfl
        have HDR : Hd (WhAt wr.drew p g b c bs 0 X) := Hd.mk (HW.out.fr0 (Fr.drew (Fr.refl [] _)))
        have HC := Hd.mk (And.intro c0 (And.intro c1 c2))
        clear hcd hdo hd hcc hw0
        by_cases hk0 : d.kind = 0
        · have e0 : (d.kind == 0) = true := by simpa using hk0
          have e1 : (d.kind == 1) = false := by rw [beq_eq_false_iff_ne]; omega
          clear hk0
          go_wp2_with fail
          clear c1 c2 c0
          refine wp_region_gs { R := Fr (b :: bs), R1 := Fr [], gs := [Is (.pointer (some ⟨p, 0, none⟩)), Is (.slice (some ⟨gd, off, none⟩) ds.length cd), Is (.int .i64 k), Is (.pointer (some ⟨gd, off + k * 3, none⟩)), Is (.pointer (some ⟨gd, off + k * 3 + 1, none⟩)), Is (.int .i64 d.id), Is (.slice (some ⟨gd, off, none⟩) ds.length cd), Is (.int .i64 k), Is (.pointer (some ⟨gd, off + k * 3, none⟩)), Is (.pointer (some ⟨gd, off + k * 3 + 2, none⟩)), Is (.int .u64 d.at_), Is (.int .i64 0)], ds := [some 44, some 45, some 46, some 47, some 48, some 49, some 50, some 51, some 52, some 53, some 54, some 55], fl := [false, false, false, false, false, false, false, false, false, false, false, true], hs := [fun _ w2 => WhAt w2 p g b c bs 0 X, fun _ w2 => WhAt w2 p g b c bs 0 (setX X d.id d.at_)], hd := [[], []] } [false, false, false, false, false, false, false, false, false, false, false, false, false, false, false, false, false, false, false, false, false, false, false, false, false, false, false, false, false, false, false, false, false, false, false, false, false, false, false, false, false, false, false, false, true, true, true, true, true, true, true, true, true, true, true, true, false, false, false, false, false, false, false, false, false, false, false, false, false, false, false, false, false, false, false, false, false, false, false, false, false, false, false, false, false, false, false, false, false, false, false, false, false, false, false, false, false, false, false, false, false, false, false, false, false, false, false, false, false, false, false, false, false, false, false, false, false, false, false, false, false, false, false, false, false, false, false, false, false, false, false] (by kernel_rfl) _ (by kernel_rfl) (by kernel_rfl) (by kernel_rfl) (by kernel_rfl) rfl [] (fun _ _ _ h1 h2 => h1.trans h2) (fun _ _ h => h.mono (by simp)) (staI (staI (staI (staI (staI (staI (staI (staI (staI (staI (staI (staI sta0)))))))))))) (sth (fun _ _ _ hf h => h.fr0 hf) (sth (fun _ _ _ hf h => h.fr0 hf) sth0)) (fun _ _ h => h.size) _ (Fr.refl _ _) HDR.out ?_ ?_
          · refine ⟨?_, ?_, ?_, ?_, ?_, ?_, ?_, ?_, ?_, ?_, ?_, ?_, trivial⟩
            · intro σ w' hR hd
              simp only [fill, Nat.reduceAdd, if_true, Bool.false_eq_true, if_false]
              clear hd
              go_wp2
              exact ⟨Fr.refl _ _, rfl⟩
            · intro σ w' hR hd
              simp only [fill, Nat.reduceAdd, if_true, Bool.false_eq_true, if_false]
              clear hd
              go_wp2
              exact ⟨Fr.refl _ _, rfl⟩
            · intro σ w' hR hd
              simp only [fill, Nat.reduceAdd, if_true, Bool.false_eq_true, if_false]
              clear hd
              go_wp2
              exact ⟨Fr.refl _ _, rfl⟩
            · intro σ w' hR hd
              simp only [fill, Nat.reduceAdd, if_true, Bool.false_eq_true, if_false]
              obtain h45 : σ 45 = _ := hd 1 (by decide)
              obtain h46 : σ 46 = _ := hd 2 (by decide)
              rw [h45, h46]
              clear h45 h46
              clear hd
              go_wp2
              exact ⟨Fr.refl _ _, rfl⟩
            · intro σ w' hR hd
              simp only [fill, Nat.reduceAdd, if_true, Bool.false_eq_true, if_false]
              obtain h47 : σ 47 = _ := hd 3 (by decide)
              rw [h47]
              clear h47
              clear hd
              go_wp2
              exact ⟨Fr.refl _ _, rfl⟩
            · intro σ w' hR hd
              simp only [fill, Nat.reduceAdd, if_true, Bool.false_eq_true, if_false]
              obtain h48 : σ 48 = _ := hd 4 (by decide)
              rw [h48]
              clear h48
              clear hd
              have hfr := (Fr.drew (Fr.refl (b :: bs) _)).trans hR
              obtain ⟨k0, k1, k2⟩ := HC.out
              have e1 := hfr.cell k1 HGD.out
              have e2 := hfr.cell k2 HGD.out
              clear k0 k1 k2
              go_wp2
              exact ⟨Fr.refl _ _, rfl⟩
            · intro σ w' hR hd
              simp only [fill, Nat.reduceAdd, if_true, Bool.false_eq_true, if_false]
              clear hd
              go_wp2
              exact ⟨Fr.refl _ _, rfl⟩
            · intro σ w' hR hd
              simp only [fill, Nat.reduceAdd, if_true, Bool.false_eq_true, if_false]
              clear hd
              go_wp2
              exact ⟨Fr.refl _ _, rfl⟩
            · intro σ w' hR hd
              simp only [fill, Nat.reduceAdd, if_true, Bool.false_eq_true, if_false]
              obtain h50 : σ 50 = _ := hd 6 (by decide)
              obtain h51 : σ 51 = _ := hd 7 (by decide)
              rw [h50, h51]
              clear h50 h51
              clear hd
              go_wp2
              exact ⟨Fr.refl _ _, rfl⟩
            · intro σ w' hR hd
              simp only [fill, Nat.reduceAdd, if_true, Bool.false_eq_true, if_false]
              obtain h52 : σ 52 = _ := hd 8 (by decide)
              rw [h52]
              clear h52
              clear hd
              go_wp2
              exact ⟨Fr.refl _ _, rfl⟩
            · intro σ w' hR hd
              simp only [fill, Nat.reduceAdd, if_true, Bool.false_eq_true, if_false]
              obtain h53 : σ 53 = _ := hd 9 (by decide)
              rw [h53]
              clear h53
              clear hd
              have hfr := (Fr.drew (Fr.refl (b :: bs) _)).trans hR
              obtain ⟨k0, k1, k2⟩ := HC.out
              have e1 := hfr.cell k1 HGD.out
              have e2 := hfr.cell k2 HGD.out
              clear k0 k1 k2
              go_wp2
              exact ⟨Fr.refl _ _, rfl⟩
            · intro σ w' hR hd hH
              simp only [fill, Nat.reduceAdd, if_true, Bool.false_eq_true, if_false]
              obtain h44 : σ 44 = _ := hd 0 (by decide)
              obtain h49 : σ 49 = _ := hd 5 (by decide)
              obtain h54 : σ 54 = _ := hd 10 (by decide)
              rw [h44, h49, h54]
              clear h44 h49 h54
              clear hd
              have hw : WhAt w' p g b c bs 0 X := hH
              have HWW := Hd.mk hw
              clear hw hH
              go_wp2_with fail
              refine (set_calls HWW.out HDO.out.1 HDO.out.2 HXL.out).mono ?_
              rintro e w4 ⟨rfl, hW2, hf2⟩
              have HX2 := Hd.mk hW2
              have HF2 := Hd.mk hf2
              clear hW2 hf2
              go_wp2
              exact ⟨HF2.out, rfl, HX2.out⟩
          · intro σ w3 hR hG hH
            simp only [fill, Nat.reduceAdd, if_true, Bool.false_eq_true, if_false]
            clear hG
            have hfr := (Fr.drew (Fr.refl (b :: bs) _)).trans hR
            have hw2 : WhAt w3 p g b c bs 0 (setX X d.id d.at_) := hH
            have HW2 := Hd.mk hw2
            have HF2 := Hd.mk (HF.out.weak hfr (fun x hx => .inr (HGE.out x hx)))
            have c0 := hfr.cell HC.out.1 HGD.out
            clear hfr hw2 hR hH
            go_wp2
            go_roundw
            case rel => exact ⟨k + 1, _, by omega, by omega, by go_num, HW2.out, Nat.le_trans (setX_len _ _ _) (by have := HX.out; omega), HF2.out⟩
            case measure => simp [intOf]; omega
        · have e0 : (d.kind == 0) = false := by rw [beq_eq_false_iff_ne]; exact hk0
          clear hk0
          by_cases hk1 : d.kind = 1
          · have e1 : (d.kind == 1) = true := by simpa using hk1
            clear hk1
            go_wp2_with fail
            refine (del_calls HW.out HDO.out.1).mono ?_
            rintro r w2 ⟨rfl, hW2, hf2⟩
            have HW2 := Hd.mk hW2
            have HF2 := Hd.mk (HF.out.weak hf2 (fun x hx => .inr (HGE.out x hx)))
            clear hW2 hf2 c0 c1 c2
            go_wp2
            go_roundw
            case rel => exact ⟨k + 1, _, by omega, by omega, by go_num, HW2.out, Nat.le_trans (List.length_filter_le _ _) (by have := HX.out; omega), HF2.out⟩
            case measure => simp [intOf]; omega
          · have e1 : (d.kind == 1) = false := by rw [beq_eq_false_iff_ne]; exact hk1
            clear hk1
            go_wp2
            go_roundw
            case rel => exact ⟨k + 1, X, by omega, by omega, by go_num, HW.out, by have := HX.out; omega, HF.out⟩
            case measure => simp [intOf]; omega
      · by_cases hio : id = o
        · subst hio
          go_wp2
          go_ret
          exact ⟨rfl, HF.out⟩
        · have HNE := Hd.mk (Ne.symm hio)
          have hat := at_calls HW.out HIDS.out.2.1
          unfold atV at hat
          obtain ⟨a1, ha1⟩ : ∃ a1, ((atI X o).map (·.t)).getD 0 = a1 := ⟨_, rfl⟩
          obtain ⟨i1, hi1⟩ : ∃ i1, (atI X o).isSome = i1 := ⟨_, rfl⟩
          rw [ha1, hi1] at hat
          have HAT1 := Hd.mk hat
          have HA1 := Hd.mk ha1
          have HI1 := Hd.mk hi1
          clear hat ha1 hi1
          go_wp2_with fail
          refine HAT1.out.mono ?_
          rintro r w2 ⟨rfl, rfl⟩
          go_wp2_with fail
          refine (set_calls HW.out HIDS.out.1 HIDS.out.2.2 HXL.out).mono ?_
          rintro r w3 ⟨rfl, hW3, hf3⟩
          have hat := at_calls hW3 HIDS.out.1
          unfold atV at hat
          rw [at_add_eq] at hat
          simp only [Option.map_some, Option.getD_some, Option.isSome_some] at hat
          have HAT2 := Hd.mk hat
          have HW3 := Hd.mk hW3
          have HF3 := Hd.mk (HF.out.weak hf3 (fun x hx => .inr (HGE.out x hx)))
          clear hat hW3 hf3
          go_wp2_with fail
          refine HAT2.out.mono ?_
          rintro r w4 ⟨rfl, rfl⟩
          go_wp2_with fail
          refine (del_calls HW3.out HIDS.out.1).mono ?_
          rintro r w5 ⟨rfl, hW5, hf5⟩
          rw [at_add_eq]
          simp only [Option.isSome_some]
          have HW5 := Hd.mk hW5
          have HF5 := Hd.mk (HF3.out.weak hf5 (fun x hx => .inr (HGE.out x hx)))
          clear hW5 hf5
          go_wp2_with fail
          refine (del_calls HW5.out HIDS.out.1).mono ?_
          rintro r w6 ⟨rfl, hW6, hf6⟩
          rw [del_self]
          simp only [Option.isSome_none]
          have hat := at_calls hW6 HIDS.out.2.1
          unfold atV at hat
          rw [at_del HNE.out, at_del HNE.out, at_add_ne HNE.out, HA1.out, HI1.out] at hat
          have HAT3 := Hd.mk hat
          have HF6 := Hd.mk (HF5.out.weak hf6 (fun x hx => .inr (HGE.out x hx)))
          clear hW6 hf6 hat
          go_wp2_with fail
          refine HAT3.out.mono ?_
          rintro r w7 ⟨rfl, rfl⟩
          go_wp2
          go_ret
          exact ⟨rfl, HF6.out⟩
    · by_cases hio : id = o
      · subst hio
        go_wp2
        go_ret
        exact ⟨rfl, HF.out⟩
      · have HNE := Hd.mk (Ne.symm hio)
        have hat := at_calls HW.out HIDS.out.2.1
        unfold atV at hat
        obtain ⟨a1, ha1⟩ : ∃ a1, ((atI X o).map (·.t)).getD 0 = a1 := ⟨_, rfl⟩
        obtain ⟨i1, hi1⟩ : ∃ i1, (atI X o).isSome = i1 := ⟨_, rfl⟩
        rw [ha1, hi1] at hat
        have HAT1 := Hd.mk hat
        have HA1 := Hd.mk ha1
        have HI1 := Hd.mk hi1
        clear hat ha1 hi1
        go_wp2_with fail
        refine HAT1.out.mono ?_
        rintro r w2 ⟨rfl, rfl⟩
        go_wp2_with fail
        refine (set_calls HW.out HIDS.out.1 HIDS.out.2.2 HXL.out).mono ?_
        rintro r w3 ⟨rfl, hW3, hf3⟩
        have hat := at_calls hW3 HIDS.out.1
        unfold atV at hat
        rw [at_add_eq] at hat
        simp only [Option.map_some, Option.getD_some, Option.isSome_some] at hat
        have HAT2 := Hd.mk hat
        have HW3 := Hd.mk hW3
        have HF3 := Hd.mk (HF.out.weak hf3 (fun x hx => .inr (HGE.out x hx)))
        clear hat hW3 hf3
        go_wp2_with fail
        refine HAT2.out.mono ?_
        rintro r w4 ⟨rfl, rfl⟩
        go_wp2_with fail
        refine (del_calls HW3.out HIDS.out.1).mono ?_
        rintro r w5 ⟨rfl, hW5, hf5⟩
        rw [at_add_eq]
        simp only [Option.isSome_some]
        have HW5 := Hd.mk hW5
        have HF5 := Hd.mk (HF3.out.weak hf5 (fun x hx => .inr (HGE.out x hx)))
        clear hW5 hf5
        go_wp2_with fail
        refine (del_calls HW5.out HIDS.out.1).mono ?_
        rintro r w6 ⟨rfl, hW6, hf6⟩
        rw [del_self]
        simp only [Option.isSome_none]
        have hat := at_calls hW6 HIDS.out.2.1
        unfold atV at hat
        rw [at_del HNE.out, at_del HNE.out, at_add_ne HNE.out, HA1.out, HI1.out] at hat
        have HAT3 := Hd.mk hat
        have HF6 := Hd.mk (HF5.out.weak hf6 (fun x hx => .inr (HGE.out x hx)))
        clear hW6 hf6 hat
        go_wp2_with fail
        refine HAT3.out.mono ?_
        rintro r w7 ⟨rfl, rfl⟩
        go_wp2
        go_ret
        exact ⟨rfl, HF6.out⟩
end Go.Proofs.Ythnbdpcbagobhaa
