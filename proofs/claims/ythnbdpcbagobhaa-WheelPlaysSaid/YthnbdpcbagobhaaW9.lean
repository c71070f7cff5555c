import Derived.Test.YthnbdpcbagobhaaW8
namespace Go.Proofs.Ythnbdpcbagobhaa
open Go Go.RowKit Go.Proofs.MapL

theorem sh1 : setX [] 7 5 = [⟨7, 5⟩] := by decide
theorem sh2 : setX [⟨7, 5⟩] 7 9 = [⟨7, 9⟩] := by decide
theorem sh3 : dueP [⟨7, 9⟩] 8 = [] := by simp [dueP]
theorem sh4 : leftI [⟨7, 9⟩] 8 = [⟨7, 9⟩] := by decide
theorem sh5 : dueP [⟨7, 9⟩] 9 = [(7, 9)] := by simp [dueP, pairI]
theorem sh6 : leftI [⟨7, 9⟩] 9 = [] := by decide
set_option maxRecDepth 100000 in
set_option maxHeartbeats 2000000 in
theorem shown_calls (w : World) : Calls Try.prog 8 #[] w fun r w' => r = .returned (.bool true) ∧ Fr [] w w' := by
  go_enter Try.func8, Try.ntmps8
  go_wp2_with fail
  refine (new_calls 4 (by omega) (by omega) _).mono ?_
  rintro r w1 ⟨p, g, b, c, bs, rfl, hW, hn, hF, hge⟩
  have HGE : Hd (∀ k ∈ p :: b :: bs, w.heap.size ≤ k) := Hd.mk fun k hk => hge k (by simp only [List.mem_cons] at hk ⊢; rcases hk with h | h | h <;> simp [h])
  have hGB : ∀ k ∈ b :: bs, w.heap.size ≤ k := fun k hk => HGE.out k (List.mem_cons_of_mem _ hk)
  have HGB := Hd.mk hGB
  have HW := Hd.mk hW
  have HF := Hd.mk hF
  clear hW hF hge hn hGB
  go_wp2_with fail
  refine (set_calls HW.out (id := 7) (t := 5) (by decide) ⟨by omega, by omega⟩ (by simp)).mono ?_
  rintro r w2 ⟨rfl, hW, hf⟩
  rw [sh1] at hW
  have HF := Hd.mk (HF.out.weak hf (fun x hx => .inr (HGB.out x hx)))
  have HW := Hd.mk hW
  clear hW hf
  go_wp2_with fail
  refine (set_calls HW.out (id := 7) (t := 9) (by decide) ⟨by omega, by omega⟩ (by simp)).mono ?_
  rintro r w3 ⟨rfl, hW, hf⟩
  rw [sh2] at hW
  have HF := Hd.mk (HF.out.weak hf (fun x hx => .inr (HGB.out x hx)))
  have HW := Hd.mk hW
  clear hW hf
  go_wp2_with fail
  refine (due_calls HW.out (by simp) (now := 8) ⟨by omega, by omega⟩).mono ?_
  rintro r w4 ⟨v4, rfl, -, hv, hW, hf⟩
  obtain rfl := hv sh3
  rw [sh4] at hW
  have HF := Hd.mk (HF.out.weak hf (fun x hx => .inr (HGE.out x hx)))
  have HW := Hd.mk hW
  clear hW hf hv
  go_wp2_with fail
  refine (due_calls HW.out (by simp) (now := 9) ⟨by omega, by omega⟩).mono ?_
  rintro r w5 ⟨v5, rfl, ho, -, hW, hf⟩
  rw [sh5] at ho
  rw [sh6] at hW
  have HF := Hd.mk (HF.out.weak hf (fun x hx => .inr (HGE.out x hx)))
  obtain ⟨g2, c2, rfl, -, -⟩ := own_form ho (by simp)
  have c0 := own_cell ho (j := 0) (v := .int .i64 7) rfl
  have hl := len_calls hW
  have HL := Hd.mk hl
  clear hW hf ho hl
  simp only [List.length_singleton]
  go_wp2_with fail
  refine HL.out.mono ?_
  rintro r w6 ⟨rfl, rfl⟩
  go_wp2
  go_ret
  exact ⟨rfl, HF.out⟩
end Go.Proofs.Ythnbdpcbagobhaa
