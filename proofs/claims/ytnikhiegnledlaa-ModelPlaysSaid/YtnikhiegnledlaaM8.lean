import Derived.Test.YtnikhiegnledlaaM4
import Derived.Deep.Cut
namespace Go.Proofs.Ytnikhiegnledlaa
open Go Go.RowKit Go.Proofs.MapL

def q0 : Qn := ⟨⟨#[1, 97, 0]⟩, 1, 1, by decide, by decide, by decide⟩
def e0 : En := ⟨q0, none, 0, 0, 0, 3, 9⟩
theorem sh_ins : insC [] 2 e0 1 = 0 ∧ insL [] 2 e0 1 = [e0] := ⟨by rfl, by rfl⟩
theorem sh_l8 : lookV [e0] q0 8 = e0.v ∧ lookB [e0] q0 8 = true := ⟨by rfl, by rfl⟩
theorem sh_l9 : lookV [e0] q0 9 = zeroEn ∧ lookB [e0] q0 9 = false := ⟨by rfl, by rfl⟩
theorem sh_has : (findE [e0] q0).isSome = true := rfl
set_option maxRecDepth 100000 in
set_option maxHeartbeats 4000000 in
theorem shown_calls (w : World) : Calls Try.prog 9 #[] w fun r w' => r = .returned (.bool true) ∧ Fr [] w w' := by
  go_enter Try.func9, Try.ntmps9
  go_wp2_with fail
  refine (new_calls 2 (by omega) _).mono ?_
  rintro r w1 ⟨p, b, rfl, hM, hF, hp, hb⟩
  go_upto_region 3 with (fail)
  refine wp_name ?_
  intro w2 hw2
  have hF2 : Fr [] w w2 := by rw [hw2]; exact hF.alloc _
  have hM2 : MAt w2 p b 2 [] := by rw [hw2]; exact hM.fr ((Fr.refl [] w1).alloc _) (by simp) (by simp)
  have he2 : Blk w2 w1.heap.size 35 [.string ⟨#[1, 97, 0]⟩, .int .u16 1, .int .u16 1, .slice none 0 0, .int .i64 0, .int .i64 3, .int .u64 9] := by rw [hw2]; exact Blk.new _ _ _
  have heb : w1.heap.size ∉ [b] := by have := hM.blt; simp; omega
  clear hw2 hM hF
  obtain ⟨g, hg⟩ : ∃ g, w1.heap.size = g := ⟨_, rfl⟩
  rw [hg] at he2 heb ⊢
  clear hg
  obtain ⟨d0, d1, d2, d3, d4, d5, d6, df⟩ := he2.cells7
  go_wp2_with fail
  refine (insert_calls hM2 (by decide) e0 1).mono ?_
  rintro r w3 ⟨rfl, hM3, hf3⟩
  rw [sh_ins.1]
  rw [sh_ins.2] at hM3
  have hF3 : Fr [] w w3 := hF2.weak hf3 (by simpa using hb)
  have he3 := he2.fr hf3 heb
  clear d0 d1 d2 d3 d4 d5 d6 df he2 hM2 hF2 hf3 heb
  obtain ⟨d0, d1, d2, d3, d4, d5, d6, df⟩ := he3.cells7
  go_wp2_with fail
  refine (lookup_calls hM3 q0 8).mono ?_
  rintro r w4 ⟨rfl, hf4⟩
  rw [sh_l8.1, sh_l8.2]
  have hM4 := hM3.fr hf4 (by simp) (by simp)
  have he4 := he3.fr hf4 (by simp)
  have hF4 := hF3.trans hf4
  clear d0 d1 d2 d3 d4 d5 d6 df he3 hM3 hF3 hf4
  unfold En.v e0 q0
  go_upto_region 5 with (fail)
  refine wp_name ?_
  intro w5 hw5
  have hf5 : Fr [] w4 w5 := by rw [hw5]; exact (Fr.refl [] w4).alloc _
  have hx5 : Blk w5 w4.heap.size 35 [.string ⟨#[1, 97, 0]⟩, .int .u16 1, .int .u16 1, .slice none 0 0, .int .i64 0, .int .i64 3, .int .u64 9] := by rw [hw5]; exact Blk.new _ _ _
  have hM5 := hM4.fr hf5 (by simp) (by simp)
  have he5 := he4.fr hf5 (by simp)
  have hF5 := hF4.trans hf5
  clear hw5 hM4 he4 hF4 hf5
  obtain ⟨d0, d1, d2, d3, d4, d5, d6, df⟩ := he5.cells7
  go_wp2_with fail
  refine (lookup_calls hM5 q0 9).mono ?_
  rintro r w6 ⟨rfl, hf6⟩
  rw [sh_l9.1, sh_l9.2]
  have hM6 := hM5.fr hf6 (by simp) (by simp)
  have he6 := he5.fr hf6 (by simp)
  have hx6 := hx5.fr hf6 (by simp)
  have hF6 := hF5.trans hf6
  clear d0 d1 d2 d3 d4 d5 d6 df he5 hM5 hF5 hf6 hx5
  unfold zeroEn
  go_upto_region 6 with (fail)
  refine wp_name ?_
  intro w7 hw7
  have hf7 : Fr [] w6 w7 := by rw [hw7]; exact (Fr.refl [] w6).alloc _
  have hM7 := hM6.fr hf7 (by simp) (by simp)
  have he7 := he6.fr hf7 (by simp)
  have hx7 := hx6.fr hf7 (by simp)
  have hF7 := hF6.trans hf7
  clear hw7 hM6 he6 hF6 hf7 hx6
  obtain ⟨d0, d1, d2, d3, d4, d5, d6, df⟩ := he7.cells7
  obtain ⟨x0, x1, x2, x3, x4, x5, x6, xf⟩ := hx7.cells7
  go_wp2_with fail
  refine (has_calls hM7 q0).mono ?_
  rintro r w8 ⟨rfl, hf8⟩
  rw [sh_has]
  have hM8 := hM7.fr hf8 (by simp) (by simp)
  have hF8 := hF7.trans hf8
  clear d0 d1 d2 d3 d4 d5 d6 df x0 x1 x2 x3 x4 x5 x6 xf he7 hM7 hF7 hf8 hx7
  go_wp2_with fail
  refine (len_calls hM8).mono ?_
  rintro r w9 ⟨rfl, rfl⟩
  go_wp2_with fail
  refine (full_calls hM8).mono ?_
  rintro r w10 ⟨rfl, hf10⟩
  have hF10 := Hd.mk (hF8.trans hf10)
  clear hF8 hf10
  go_wp2
  go_ret
  exact ⟨rfl, hF10.out⟩
end Go.Proofs.Ytnikhiegnledlaa
