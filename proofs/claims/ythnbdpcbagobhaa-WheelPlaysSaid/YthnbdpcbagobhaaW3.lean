import Derived.Test.YthnbdpcbagobhaaW2
namespace Go.Proofs.Ythnbdpcbagobhaa
open Go Go.RowKit Go.Proofs.MapL

section
variable {w w' : World} {p g b c : Nat} {bs : List Nat} {tu : Int} {X Y : List It} {S : List Nat}
theorem set_nil (id t : Int) (w : World) : Calls Try.prog 10 #[.pointer none, .int .i64 id, .int .u64 t] w fun r w' => r = .returned (.int .i64 1) ∧ w' = w := by
  go_enter Try.func10, Try.ntmps10
  go_wp2
  go_ret
  exact ⟨rfl, rfl⟩
def setX (X : List It) (id t : Int) : List It := delI X id ++ [⟨id, t⟩]
set_option maxRecDepth 100000 in
set_option maxHeartbeats 2000000 in
theorem set_calls (h : WhAt w p g b c bs tu X) {id t : Int} (hid : IdOk id) (ht : TOk t) (hX : X.length < 1000000) : Calls Try.prog 10 #[.pointer (some ⟨p, 0, none⟩), .int .i64 id, .int .u64 t] w fun r w' => r = .returned (.int .i64 0) ∧ WhAt w' p g b c bs tu (setX X id t) ∧ Fr (b :: bs) w w' := by
  have hde := del_calls h hid
  have HDE := Hd.mk hde
  have hn1 := h.n1
  have ht0 := h.tu_
  clear hde h
  go_enter Try.func10, Try.ntmps10
  go_wp2_with fail
  refine HDE.out.mono ?_
  rintro r w1 ⟨rfl, h1, f1⟩
  clear HDE
  rcases Int.lt_or_le t tu with hlt | hle
  · have hk : kOf tu bs.length t = tu % bs.length := by unfold kOf; rw [Int.max_def]; split <;> first | rfl | (congr 1; omega) | omega
    have hk2 := kOf_lt tu t (n := bs.length) hn1.1
    obtain ⟨k, hke⟩ := Int.eq_ofNat_of_zero_le hk2.1
    have hkl : k < bs.length := by omega
    have hsp := spoke_calls h1 (t := tu) ht0
    rw [← hk, hke] at hsp
    obtain ⟨n1, n2, n3, n4, n5⟩ := h1.pne hkl
    have hdl : (delI X id).length < 1000000 := Nat.lt_of_le_of_lt (List.length_filter_le _ _) hX
    have hsl : (spokeL tu bs.length k (delI X id)).length < maxLen := by
      unfold spokeL; rw [List.length_map]
      exact Nat.lt_of_le_of_lt (List.length_filter_le _ _) (by unfold maxLen; omega)
    have hwl : (whereL tu bs.length (delI X id)).length < maxLen := by unfold whereL; rw [List.length_map]; unfold maxLen; omega
    obtain ⟨w3, hrun3, hm3, htn3⟩ := (h1.sp k hkl).update eI_inj kI Try.underlying53 hsl (key_i hid) (eI_lit id) t
    have f3 := Fr.turned htn3
    obtain ⟨w5, hrun5, hm5, htn5⟩ := (map_fr h1.wh f3 (by simpa using n3)).update eI_inj kI Try.underlying49 hwl (key_i hid) (eI_lit id) k
    have hR := h1.added (del_self X id) hid ht hkl hke hm3 f3 hm5 (Fr.turned htn5)
    have HR := Hd.mk (show WhAt w5 p g b c bs tu (setX X id t) ∧ Fr (b :: bs) w w5 from ⟨hR.1, f1.trans hR.2⟩)
    obtain ⟨d0, d1, d2, df⟩ := h1.blk.cells3
    have r0 := h1.row k hkl
    obtain ⟨e0, e1, e2, ef⟩ := (h1.blk.fr f3 (by simpa using n1)).cells3
    unfold vU at hrun3
    unfold vI at hrun5
    have HSP := Hd.mk hsp
    clear h1 f1 hm3 hm5 hR htn3 htn5 f3 hsl hwl hk hke hk2 hsp hdl n1 n2 n3 n4 n5 hid ht ht0 hn1 hX
    generalize bs[k] = bk at r0 hrun3
    generalize bs.length = n at d0 e0 hkl
    go_wp2_with fail
    refine HSP.out.mono ?_
    rintro r w2 ⟨rfl, rfl⟩
    go_wp2
    go_ret
    exact ⟨rfl, HR.out⟩
  · have hk : kOf tu bs.length t = t % bs.length := by unfold kOf; rw [Int.max_def]; split <;> first | rfl | (congr 1; omega) | omega
    have hk2 := kOf_lt tu t (n := bs.length) hn1.1
    obtain ⟨k, hke⟩ := Int.eq_ofNat_of_zero_le hk2.1
    have hkl : k < bs.length := by omega
    have hsp := spoke_calls h1 (t := t) ht
    rw [← hk, hke] at hsp
    obtain ⟨n1, n2, n3, n4, n5⟩ := h1.pne hkl
    have hdl : (delI X id).length < 1000000 := Nat.lt_of_le_of_lt (List.length_filter_le _ _) hX
    have hsl : (spokeL tu bs.length k (delI X id)).length < maxLen := by
      unfold spokeL; rw [List.length_map]
      exact Nat.lt_of_le_of_lt (List.length_filter_le _ _) (by unfold maxLen; omega)
    have hwl : (whereL tu bs.length (delI X id)).length < maxLen := by unfold whereL; rw [List.length_map]; unfold maxLen; omega
    obtain ⟨w3, hrun3, hm3, htn3⟩ := (h1.sp k hkl).update eI_inj kI Try.underlying53 hsl (key_i hid) (eI_lit id) t
    have f3 := Fr.turned htn3
    obtain ⟨w5, hrun5, hm5, htn5⟩ := (map_fr h1.wh f3 (by simpa using n3)).update eI_inj kI Try.underlying49 hwl (key_i hid) (eI_lit id) k
    have hR := h1.added (del_self X id) hid ht hkl hke hm3 f3 hm5 (Fr.turned htn5)
    have HR := Hd.mk (show WhAt w5 p g b c bs tu (setX X id t) ∧ Fr (b :: bs) w w5 from ⟨hR.1, f1.trans hR.2⟩)
    obtain ⟨d0, d1, d2, df⟩ := h1.blk.cells3
    have r0 := h1.row k hkl
    obtain ⟨e0, e1, e2, ef⟩ := (h1.blk.fr f3 (by simpa using n1)).cells3
    unfold vU at hrun3
    unfold vI at hrun5
    have HSP := Hd.mk hsp
    clear h1 f1 hm3 hm5 hR htn3 htn5 f3 hsl hwl hk hke hk2 hsp hdl n1 n2 n3 n4 n5 hid ht ht0 hn1 hX
    generalize bs[k] = bk at r0 hrun3
    generalize bs.length = n at d0 e0 hkl
    go_wp2_with fail
    refine HSP.out.mono ?_
    rintro r w2 ⟨rfl, rfl⟩
    go_wp2
    go_ret
    exact ⟨rfl, HR.out⟩
end
end Go.Proofs.Ythnbdpcbagobhaa
