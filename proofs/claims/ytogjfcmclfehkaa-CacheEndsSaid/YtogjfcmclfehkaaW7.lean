import Derived.Test.YtogjfcmclfehkaaW6
import Derived.Test.YtogjfcmclfehkaaSrt
import Derived.Test.YtogjfcmclfehkaaSrtO
import Derived.Deep.Upon
namespace Go.Proofs.Ytogjfcmclfehkaa
open Go Go.RowKit Go.Proofs.MapL

theorem own_any {w : World} {base E size n : Nat} {v : Value} {xs : List Value} (h : w.ownsRow base E size v n xs) : ∃ A cc, v = .slice A n cc ∧ n ≤ cc := by
  rcases h.2 with ⟨e, e0⟩ | ⟨g, cap, cur, e, -, -, e1, -⟩
  · exact ⟨none, 0, by rw [e, e0], by omega⟩
  · exact ⟨_, _, e, e1⟩
theorem wpList_append_nil {P : Program} {ops : Array Oper} {rest : List Oper} {o : Oper} {a : Act} {Q : Exit → Act → World → Prop} {w : World} (hgd : o.guard = none) (s x : Operand) (t : TypeId)
    (ho : o.op = .call { callee := .builtin .append, args := #[s, x], argTypes := #[t, t] }) {v : Value} (hs : a.eval s = v) (hx : a.eval x = .slice none 0 0)
    (hr : (Builtin.append_ #[t, t] o.type #[v, .slice none 0 0]).run P w = .ok v w) (h : wpList P ops Q rest (a.put o.dst v) w) : wpList P ops Q (o :: rest) a w :=
  wpList_plain hgd fun K hK => by
    unfold Oper.wp execOp
    simp only [ho, resolve, invoke, builtin, Sem.run_bind, Sem.run_pure, Result.andThen_ok, List.map_toArray, List.map_cons, List.map_nil, hs, hx, hr]
    exact hK _ _ h
section
variable {w w' : World} {p g b c : Nat} {bs : List Nat} {tu : Int} {X Y : List It} {S : List Nat}
theorem WhAt.lt (h : WhAt w p g b c bs tu X) : ∀ k ∈ p :: g :: b :: bs, k < w.heap.size := by
  intro k hk
  simp only [List.mem_cons] at hk
  rcases hk with rfl | rfl | rfl | hk
  · exact h.blk.lt
  · exact h.glt
  · exact h.wh.lt
  · obtain ⟨i, hi, rfl⟩ := List.getElem_of_mem hk
    exact (h.sp i hi).lt
theorem elI : Elem Try.prog 64 3 (.int .i64 0) 1 8 := ⟨by kernel_rfl, by kernel_rfl, rfl, by omega⟩
def dueP (X : List It) (now : Int) : List (Int × Int) := ((X.filter fun x => decide (x.t ≤ now)).map pairI).mergeSort fun x y => !ltT y x
def leftI (X : List It) (now : Int) : List It := X.filter fun x => !decide (x.t ≤ now)
def iv (q : Int × Int) : Value := .int .i64 q.1
def DueR (w : World) (p g b c : Nat) (bs : List Nat) (tu : Int) (X : List It) (now : Int) (r : Ending) (w' : World) : Prop :=
  ∃ v, r = .returned v ∧ w'.ownsRow w.heap.size 3 1 v (dueP X now).length ((dueP X now).map iv) ∧ (dueP X now = [] → v = .slice none 0 0) ∧ WhAt w' p g b c bs (max tu now) (leftI X now) ∧ Fr (p :: b :: bs) w w'
theorem WhAt.turned (h : WhAt w p g b c bs tu X) {now : Int} (hx : ∀ x ∈ X, now < x.t) (hnow : TOk now) : WhAt (w.setCell ⟨p, 1, none⟩ (.int .u64 (max tu now))) p g b c bs (max tu now) X ∧ Fr [p] w (w.setCell ⟨p, 1, none⟩ (.int .u64 (max tu now))) := by
  have hf : Fr [p] w (w.setCell ⟨p, 1, none⟩ (.int .u64 (max tu now))) := fr_set
  have hm : ∀ x ∈ X, tu < x.t ∧ max tu now < x.t ∨ tu = max tu now := fun x hxm => by
    have := hx x hxm
    rw [Int.max_def]; split <;> omega
  have hgp : g ≠ p := by
    intro e
    have h1 := h.row 0 h.n1.1
    have h2 := h.blk.cell (i := 0) rfl
    rw [← e] at h2
    rw [h2] at h1
    cases h1
  refine ⟨⟨by simpa using h.blk.set 1 _, fun i hi => hf.cell (h.row i hi) (by simpa using hgp), ?_, fun i hi => ?_, h.nb, h.nd, h.n1, ?_, h.ids, h.ok⟩, hf⟩
  · rw [← where_turn hm]; exact map_fr h.wh hf (by simpa using map_ne h.wh h.blk)
  · rw [← spoke_turn hm]; exact map_fr (h.sp i hi) hf (by simpa using map_ne (h.sp i hi) h.blk)
  · have := h.tu_; rw [Int.max_def]; split <;> assumption
theorem ids_step {w w8 w9 : World} {p g b c g2 c2 j N : Nat} {bs : List Nat} {tu : Int} {X : List It} {v : Value} {xs ys : List Value} (hno : ∀ z, v.ownBlock = some z → w.heap.size ≤ z) (hlt : ∀ k ∈ p :: g :: b :: bs, k < w.heap.size)
    (hW : WhAt w8 p g b c bs tu X) (hF : Fr (p :: b :: bs) w w8) (hR : w8.ownsRow w.heap.size 129 2 (.slice (some ⟨g2, 0, none⟩) N c2) N ys) (hI : w8.ownsRow w.heap.size 3 1 v j xs) (hf9 : Fr v.ownBlock.toList w8 w9) :
    w9.ownsRow w.heap.size 129 2 (.slice (some ⟨g2, 0, none⟩) N c2) N ys ∧ WhAt w9 p g b c bs tu X ∧ Fr (p :: b :: bs) w w9 := by
  refine ⟨own_fr hR hf9 (fun k hk hx => ?_), hW.fr hf9 (fun z hz hx => ?_), hF.weak hf9 (fun x hx => .inr (hno x (by simpa using hx)))⟩
  · have hx : v.ownBlock = some k := by simpa using hx
    simp only [Value.ownBlock, Option.some.injEq] at hk
    subst hk
    rcases hI.2 with ⟨rfl, -⟩ | ⟨g3, cap, cur, rfl, -, hgg, -⟩
    · simp [Value.ownBlock] at hx
    · simp only [Value.ownBlock, Option.some.injEq] at hx
      subst hx
      rcases hR.2 with ⟨h0, -⟩ | ⟨g4, cap4, cur4, h4, -, hgg4, -⟩
      · simp at h0
      · simp only [Value.slice.injEq, Option.some.injEq, Addr.mk.injEq, and_true, true_and] at h4
        obtain ⟨rfl, -⟩ := h4
        rw [hgg] at hgg4
        simp at hgg4
  · have h1 := hno z (by simpa using hx)
    have h2 := hlt z hz
    omega
theorem due_step {w w4 w9 : World} {p g b c : Nat} {bs : List Nat} {tu : Int} {X : List It} {v : Value} (hno : ∀ z, v.ownBlock = some z → w.heap.size ≤ z) (hlt : ∀ k ∈ p :: g :: b :: bs, k < w.heap.size)
    (hW : WhAt w4 p g b c bs tu X) (hF : Fr (b :: bs) w w4) (hg9 : w4.grownBy w9 v.ownBlock) : WhAt w9 p g b c bs tu X ∧ Fr (b :: bs) w w9 := by
  have hf9 := Fr.of_grown hg9
  refine ⟨hW.fr hf9 (fun z hz hx => ?_), hF.weak hf9 (fun x hx => .inr (hno x (by simpa using hx)))⟩
  have h1 := hno z (by simpa using hx)
  have h2 := hlt z hz
  omega
set_option maxRecDepth 100000 in
set_option maxHeartbeats 8000000 in
theorem due_calls (h : WhAt w p g b c bs tu X) (hX : X.length < 100000) {now : Int} (hnow : TOk now) : Calls Try.prog 65 #[.pointer (some ⟨p, 0, none⟩), .int .u64 now] w (DueR w p g b c bs tu X now) := by
  obtain ⟨h1, h2, h3, hf_⟩ := h.blk.cells3
  have hn1 := h.n1
  have htu := h.tu_
  have HLT := Hd.mk h.lt
  have HID := Hd.mk h.ids
  obtain ⟨n, hn⟩ : ∃ n, bs.length = n := ⟨_, rfl⟩
  rw [hn] at h1 hn1
  have H := Hd.mk h
  have HN := Hd.mk hn
  clear h hn
  rcases Int.lt_or_le now tu with hlt | hle
  · have HS : Hd ((n : Int) = stepsI tu n now) := Hd.mk (by unfold stepsI; rw [if_pos hlt])
    go_enter Try.func65, Try.ntmps65
    go_wp2_with fail
    clear h1 h2 h3 hf_
    go_loopw [5, 38] (fun v i wr => ∃ (j : Nat) (l : List (Int × Int)), j ≤ n ∧ i = .int .u64 j ∧ WhAt wr p g b c bs tu (X.filter fun x => !Vis tu n now j x) ∧ wr.ownsRow w.heap.size 129 2 v l.length (l.flatMap pc) ∧ (l = [] → v = .slice none 0 0) ∧ l.Perm ((X.filter (Vis tu n now j)).map pairI) ∧ Fr (b :: bs) w wr) (fun _ i _ => n - (intOf i).toNat)
    case atStart => exact ⟨0, [], Nat.zero_le _, rfl, by rw [List.filter_eq_self.2 (by intro x _; rfl)]; exact H.out, World.ownsRow_nil _ _ _ _, fun _ => rfl, by rw [show X.filter (Vis tu n now 0) = [] from List.filter_eq_nil_iff.2 (by intro x _; simp [Vis])]; exact List.Perm.refl _, Fr.refl _ _⟩
    case round =>
      obtain ⟨j, l, hj, rfl, hW, hO, hnil, hP, hF⟩ := hrel
      have hXl : (X.filter fun x => !Vis tu n now j x).length < 100000 := Nat.lt_of_le_of_lt (List.length_filter_le _ _) hX
      have hll : l.length < 100000 := by rw [hP.length_eq, List.length_map]; exact Nat.lt_of_le_of_lt (List.length_filter_le _ _) hX
      by_cases hlt2 : j < n
      · have m1 := Int.emod_nonneg tu (b := n) (by omega)
        have m2 := Int.emod_lt_of_pos tu (b := n) (by omega)
        have hsp := spoke_calls hW (t := tu % n + j) ⟨by omega, by omega⟩
        rw [HN.out] at hsp
        have hk1 := Int.emod_nonneg (tu % n + j) (b := n) (by omega)
        have hk2 := Int.emod_lt_of_pos (tu % n + j) (b := n) (by omega)
        obtain ⟨k, hke⟩ := Int.eq_ofNat_of_zero_le hk1
        have hkk : kk tu n j = k := hke
        rw [hke] at hsp
        have htk := taken_calls hW (k := k) (by rw [HN.out]; omega) (by omega) now
        unfold TakenR at htk
        rw [HN.out] at htk
        obtain ⟨d0, d1, d2, df⟩ := hW.blk.cells3
        rw [HN.out] at d0
        obtain ⟨A, cc, rfl, hcc⟩ := own_any hO
        have hno := fun z hz => (hO.lt z hz).1
        have HSP := Hd.mk hsp
        have HTK := Hd.mk htk
        have HW := Hd.mk hW
        have HO := Hd.mk hO
        have HP := Hd.mk hP
        have HF := Hd.mk hF
        have HKK := Hd.mk hkk
        have HNO := Hd.mk hno
        have HNIL := Hd.mk hnil
        clear hsp htk hW hO hP hF hke hkk hk1 hk2 hno hnil
        go_wp2_with fail
        refine HSP.out.mono ?_
        rintro r w3 ⟨rfl, rfl⟩
        go_wp2_with fail
        clear d0 d1 d2 df
        refine HTK.out.mono ?_
        rintro r w4 ⟨v', l', rfl, ho', hv', hl', hW', hf'⟩
        have hO4 := own_fr HO.out hf' (fun z hz hx => by
          have h1 := HNO.out z hz
          have h2 := HLT.out z (by simp only [List.mem_cons] at hx ⊢; rcases hx with hx | hx <;> simp [hx])
          omega)
        rw [← HKK.out] at hl'
        obtain ⟨e1, e2⟩ := step_all HID.out tu n now j HP.out hl'
        rw [e1] at hW'
        have hF4 := HF.out.trans hf'
        have hl'l : l'.length < 100000 := by
          have h1 := e2.length_eq
          rw [List.length_map, List.length_append] at h1
          have h2 := List.length_filter_le (Vis tu n now (j + 1)) X
          omega
        have HE2 := Hd.mk e2
        clear e1 e2 hl' hf'
        rcases l' with _ | ⟨q0, l0⟩
        · have e := hv' rfl
          subst e
          obtain ⟨ii, hi, -, -, -⟩ := info_parts elT.info
          have hrun := run_append_nothing w4 125 125 125 129 ii elT.ut hi A l.length cc hcc (.slice none 0 0) (Src.ofNil w4 elT.ut 0)
          have HO4 := Hd.mk hO4
          have HW4 := Hd.mk hW'
          have HF4 := Hd.mk hF4
          clear hO4 hW' hF4 ho' hv' hi
          go_wp2_with (at_builtin; refine wpList_append_nil rfl (.tmp 41) (.tmp 54) 125 rfl rfl rfl hrun ?_)
          go_roundw
          case rel => exact ⟨j + 1, l, by omega, by go_num, HW4.out, HO4.out, HNIL.out, by have := HE2.out; rwa [List.append_nil] at this, HF4.out⟩
          case measure => simp [intOf]; omega
        · obtain ⟨l', hle'⟩ : ∃ l', q0 :: l0 = l' := ⟨_, rfl⟩
          rw [hle'] at ho' HE2 hl'l
          have hl0 : 0 < l'.length := by rw [← hle']; simp
          clear hle' hv'
          obtain ⟨g8, c8, rfl, hb8, hl8⟩ := own_form ho' hl0
          obtain ⟨ii, hi, hiz, his, hib⟩ := info_parts elT.info
          have hcells := own_cells ho'
          have hlen8 := ho'.1
          have hbz : w.heap.size ≤ w4.heap.size := hF4.size
          have HW4 := Hd.mk hW'
          have HF4 := Hd.mk hF4
          clear hW' hF4
          go_wp2_with (at_builtin; refine wpList_append_own _ rfl (.tmp 41) (.tmp 54) 125 rfl w.heap.size 129 ii _ 2 16 elT.ut hi hiz his hib elT.zs elT.pos _ l.length (l.flatMap pc) rfl hO4 ⟨g8, 0, none⟩ l'.length c8 (l'.flatMap pc) rfl hlen8 hcells (by intro u hu; obtain ⟨q, -, hq⟩ := List.mem_flatMap.1 hu; simp [pc] at hq; rcases hq with rfl | rfl <;> rfl) (by unfold maxLen; omega) (by omega) hbz ?_; intro v9 w9 ho9 hg9 hn9; have HX9 := Hd.mk (due_step HNO.out HLT.out HW4.out HF4.out hg9); have HO9 := Hd.mk ho9; clear ho9 hg9 hn9 hO4 ho' hcells hi hiz his hib)
          go_roundw
          case rel => exact ⟨j + 1, l ++ l', by omega, by go_num, HX9.out.1, by have := HO9.out; rwa [← List.length_append, ← List.flatMap_append] at this, fun e => by rw [List.append_eq_nil_iff] at e; rw [e.2] at hl0; simp at hl0, HE2.out, HX9.out.2⟩
          case measure => simp [intOf]; omega
      · have hjs : (j : Int) = stepsI tu n now := by rw [← HS.out]; omega
        have hv1 : X.filter (fun x => !Vis tu n now j x) = X.filter fun x => !decide (x.t ≤ now) := List.filter_congr fun x _ => by rw [vis_all (by omega) hjs]
        have hv2 : X.filter (Vis tu n now j) = X.filter fun x => decide (x.t ≤ now) := List.filter_congr fun x _ => by rw [vis_all (by omega) hjs]
        rw [hv1] at hW
        rw [hv2] at hP
        obtain ⟨d0, d1, d2, df⟩ := hW.blk.cells3
        have HW := Hd.mk hW
        have HO := Hd.mk hO
        have HP := Hd.mk hP
        have HF := Hd.mk hF
        clear hW hO hP hF hv1 hv2 hjs
        go_upto_region 14 with (fail)
        refine wp_name ?_
        intro w5 hw5
        have hpl := HLT.out p (by simp)
        obtain ⟨hW5, f5⟩ := HW.out.turned (now := now) (fun x hx => by have := (List.mem_filter.1 hx).2; simp at this; exact this) hnow
        rw [← hw5] at hW5 f5
        have hO5 := own_fr HO.out f5 (fun z hz hx => by
          have h1 := (HO.out.lt z hz).1
          have h2 := List.mem_singleton.1 hx
          omega)
        have hF5 : Fr (p :: b :: bs) w w5 := (HF.out.mono (fun x hx => List.mem_cons_of_mem _ hx)).trans (f5.mono (by simp))
        have HSP : Hd ((l.mergeSort fun x y => !ltT y x) = dueP X now) := Hd.mk (sort_perm HP.out)
        clear d0 d1 d2 df hw5 HW HO HF f5 hpl
        rcases l with _ | ⟨q0, l0⟩
        · have hv := hnil rfl
          subst hv
          have hnone := AnyF.slices_SortFunc_none Try.sortT none 0 (.func (.func 70) #[] #[]) w5
          change Calls Try.prog 69 _ _ _ at hnone
          have e0 : dueP X now = [] := by rw [← HSP.out]; simp
          have E0 := Hd.mk e0
          have HW5 := Hd.mk hW5
          have HF5 := Hd.mk hF5
          clear hO5 hW5 hF5 e0 hnil
          go_wp2_with fail
          refine hnone.mono ?_
          rintro x w6 ⟨rfl, rfl⟩
          go_wp2_with fail
          refine wp_loop_rounds 1 ?_; rw [rounds_succ]
          go_wp2
          go_ret
          exact ⟨_, rfl, by rw [E0.out]; exact World.ownsRow_nil _ _ _ _, fun _ => rfl, HW5.out, HF5.out⟩
        · obtain ⟨l, hle⟩ : ∃ l, q0 :: l0 = l := ⟨_, rfl⟩
          rw [hle] at hO5 HSP hll
          have hl0 : 0 < l.length := by rw [← hle]; simp
          clear hle hnil HP
          obtain ⟨g2, c2, rfl, hgb, hgl⟩ := own_form hO5 hl0
          have eg : ∀ args w, (callFunc 70 args).run Try.prog w = .ok (.enter 70 args) w := enters_of Try.func70 (by kernel_rfl) rfl
          have hsort := AnyQ.slices_SortFunc_total Try.sortT 2 Try.isAgg129 Try.sizeOf129 pc pc_len (fun x v hv => by simp [pc] at hv; rcases hv with rfl | rfl <;> rfl) cfT swo_cfT 70 #[] g2 0 c2 l.toArray w5 eg (fun _ _ _ _ x y => compare_calls x y _) (own_holdsK pc_len (by omega) hO5 rfl) (hO5.lt g2 rfl).2 (by simp; omega) (fun x y h1 h2 => by rw [ltOf_cfT] at h1 h2; exact ltT_total h1 h2)
          change Calls Try.prog 69 _ _ _ at hsort
          have HSO := Hd.mk (fun (m : Nat) (d : Array (Int × Int)) (os : Array Obj) hd => own_sorted pc_len (by omega) (m := m) (d := d) (os := os) hO5 rfl hd)
          have HW5 := Hd.mk hW5
          have HF5 := Hd.mk hF5
          clear eg hW5 hF5 hO5
          go_wp2_with fail
          refine hsort.mono ?_
          rintro x w6 ⟨rfl, nn, os, hw6⟩
          clear hsort
          have hle : (l.toArray.toList.mergeSort fun x y => !(ltOf cfT) y x) = dueP X now := by
            rw [← HSP.out]
            show l.mergeSort _ = _
            congr 1
            funext x y
            rw [ltOf_cfT]
          rw [hle] at hw6
          have hdl : (dueP X now).length = l.length := by rw [← HSP.out, List.length_mergeSort]
          obtain ⟨ho6, hf6⟩ := HSO.out nn (dueP X now).toArray os (by simpa using hdl)
          rw [← hw6] at ho6 hf6
          have hW6 := HW5.out.fr hf6 (fun z hz hx => by
            have h1 := HLT.out z hz
            have h2 := List.mem_singleton.1 hx
            omega)
          have hF6 : Fr (p :: b :: bs) w w6 := HF5.out.weak hf6 (fun x hx => .inr (by have := List.mem_singleton.1 hx; omega))
          obtain ⟨ks, hks⟩ : ∃ ks, dueP X now = ks := ⟨_, rfl⟩
          have HKS := Hd.mk hks
          rw [hks] at hdl ho6
          rw [← hdl] at ho6 hl0 hll ⊢
          clear hle hks HSP HSO hw6 hf6 HW5 HF5
          have ho6 : w6.ownsRow w.heap.size 129 2 (.slice (some ⟨g2, 0, none⟩) ks.length c2) ks.length (ks.flatMap pc) := by simpa using ho6
          go_wp2_with fail
          go_loopw [9, 70] (fun v i w7 => ∃ j : Nat, j ≤ ks.length ∧ i = .int .i64 j ∧ w7.ownsRow w.heap.size 3 1 v j ((ks.take j).map iv) ∧ w7.ownsRow w.heap.size 129 2 (.slice (some ⟨g2, 0, none⟩) ks.length c2) ks.length (ks.flatMap pc) ∧ WhAt w7 p g b c bs (max tu now) (leftI X now) ∧ Fr (p :: b :: bs) w w7) (fun _ i _ => ks.length - (intOf i).toNat)
          case atStart => exact ⟨0, Nat.zero_le _, rfl, World.ownsRow_nil _ _ _ _, ho6, hW6, hF6⟩
          case round =>
            obtain ⟨j, hj, rfl, hI, hR, hW7, hF7⟩ := hrel
            by_cases hlt3 : j < ks.length
            · have hx : ∀ i, i < 2 → wr.cell? ⟨g2, j * 2 + i, none⟩ = (pc ks[j])[i]? := by
                intro i hi
                rw [hR.cellAt _ (by omega), flat_get pc_len _ _ _ hi, List.getElem?_eq_getElem hlt3]
                rfl
              have k0 : wr.cell? ⟨g2, j * 2, none⟩ = some (.int .i64 (ks[j]).1) := hx 0 (by omega)
              have k1 : wr.cell? ⟨g2, j * 2 + 1, none⟩ = some (.int .u64 (ks[j]).2) := hx 1 (by omega)
              clear hx
              have HQ : Hd ((ks.take j).map iv ++ [.int .i64 (ks[j]).1] = (ks.take (j + 1)).map iv) := Hd.mk (by rw [List.take_succ_eq_append_getElem hlt3, List.map_append]; rfl)
              obtain ⟨q, hqe⟩ : ∃ q, ks[j] = q := ⟨_, rfl⟩
              rw [hqe] at k0 k1 HQ
              clear hqe
              have HI := Hd.mk hI
              have HR := Hd.mk hR
              have HW7 := Hd.mk hW7
              have HF7 := Hd.mk hF7
              clear hI hR hW7 hF7
              go_upto_region 19 with (fail)
              clear k0 k1
              refine wp_name ?_
              intro w8 hw8
              have hf8 : Fr [] wr w8 := by rw [hw8]; exact (Fr.refl [] wr).alloc _
              have hq8 : Blk w8 wr.heap.size 129 [.int .i64 q.1, .int .u64 q.2] := by rw [hw8]; exact Blk.new _ _ _
              clear hw8
              have hI8 := own_fr HI.out hf8 (by simp)
              have HR8 := Hd.mk (own_fr HR.out hf8 (by simp))
              have HW8 := Hd.mk (HW7.out.fr0 hf8)
              have hF8 := HF7.out.trans (hf8.mono (by simp))
              have hbz : w.heap.size ≤ w8.heap.size := hF8.size
              have HF8 := Hd.mk hF8
              have HNI := Hd.mk (fun z hz => (hI8.lt z hz).1)
              obtain ⟨d0, d1, df⟩ := hq8.cells2
              clear hf8 hF8 HI HR HW7 HF7 hq8
              go_wp2_with (at_builtin; refine wpList_app1s elI rfl (.tmp 74) (.tmp 77) rfl hI8 rfl [.int .i64 q.1] rfl rfl (by simp [Value.oneCell']) (by omega) (by omega) hbz ?_; intro g9 c9 w9 ho9 hf9 hb9 hg9 hor9; have HX9 := Hd.mk (ids_step HNI.out HLT.out HW8.out HF8.out HR8.out hI8 hf9); have HO9 := Hd.mk ho9; clear ho9 hf9 hb9 hg9 hor9 hI8 d0 d1 df)
              go_roundw
              case rel => exact ⟨j + 1, by omega, by go_num, by rw [← HQ.out]; exact HO9.out, HX9.out.1, HX9.out.2.1, HX9.out.2.2⟩
              case measure => simp [intOf]; omega
            · have hje : j = ks.length := by omega
              subst hje
              rw [List.take_length] at hI
              have HI := Hd.mk hI
              have HW7 := Hd.mk hW7
              have HF7 := Hd.mk hF7
              clear hI hR hW7 hF7 ho6 hW6 hF6
              go_wp2
              go_ret
              exact ⟨_, rfl, by rw [HKS.out]; exact HI.out, fun e => by rw [HKS.out] at e; rw [e] at hl0; simp at hl0, HW7.out, HF7.out⟩

  · obtain ⟨s, hs⟩ := Int.eq_ofNat_of_zero_le (show 0 ≤ stepsI tu n now by have := steps_le (tu := tu) (now := now) (show (1 : Int) ≤ n by omega); omega)
    have hsn := (steps_le (tu := tu) (now := now) (show (1 : Int) ≤ n by omega))
    rw [hs] at hsn
    have e : min (now - tu) ((n : Int) - 1) + 1 = s := by rw [← hs]; unfold stepsI; rw [if_neg (by omega)]
    have HS : Hd ((s : Int) = stepsI tu n now) := Hd.mk hs.symm
    have HE := Hd.mk e
    clear hs e
    go_enter Try.func65, Try.ntmps65
    go_wp2_with fail
    clear h1 h2 h3 hf_
    rw [HE.out]
    go_loopw [5, 38] (fun v i wr => ∃ (j : Nat) (l : List (Int × Int)), j ≤ s ∧ i = .int .u64 j ∧ WhAt wr p g b c bs tu (X.filter fun x => !Vis tu n now j x) ∧ wr.ownsRow w.heap.size 129 2 v l.length (l.flatMap pc) ∧ (l = [] → v = .slice none 0 0) ∧ l.Perm ((X.filter (Vis tu n now j)).map pairI) ∧ Fr (b :: bs) w wr) (fun _ i _ => s - (intOf i).toNat)
    case atStart => exact ⟨0, [], Nat.zero_le _, rfl, by rw [List.filter_eq_self.2 (by intro x _; rfl)]; exact H.out, World.ownsRow_nil _ _ _ _, fun _ => rfl, by rw [show X.filter (Vis tu n now 0) = [] from List.filter_eq_nil_iff.2 (by intro x _; simp [Vis])]; exact List.Perm.refl _, Fr.refl _ _⟩
    case round =>
      obtain ⟨j, l, hj, rfl, hW, hO, hnil, hP, hF⟩ := hrel
      have hXl : (X.filter fun x => !Vis tu n now j x).length < 100000 := Nat.lt_of_le_of_lt (List.length_filter_le _ _) hX
      have hll : l.length < 100000 := by rw [hP.length_eq, List.length_map]; exact Nat.lt_of_le_of_lt (List.length_filter_le _ _) hX
      by_cases hlt2 : j < s
      · have m1 := Int.emod_nonneg tu (b := n) (by omega)
        have m2 := Int.emod_lt_of_pos tu (b := n) (by omega)
        have hsp := spoke_calls hW (t := tu % n + j) ⟨by omega, by omega⟩
        rw [HN.out] at hsp
        have hk1 := Int.emod_nonneg (tu % n + j) (b := n) (by omega)
        have hk2 := Int.emod_lt_of_pos (tu % n + j) (b := n) (by omega)
        obtain ⟨k, hke⟩ := Int.eq_ofNat_of_zero_le hk1
        have hkk : kk tu n j = k := hke
        rw [hke] at hsp
        have htk := taken_calls hW (k := k) (by rw [HN.out]; omega) (by omega) now
        unfold TakenR at htk
        rw [HN.out] at htk
        obtain ⟨d0, d1, d2, df⟩ := hW.blk.cells3
        rw [HN.out] at d0
        obtain ⟨A, cc, rfl, hcc⟩ := own_any hO
        have hno := fun z hz => (hO.lt z hz).1
        have HSP := Hd.mk hsp
        have HTK := Hd.mk htk
        have HW := Hd.mk hW
        have HO := Hd.mk hO
        have HP := Hd.mk hP
        have HF := Hd.mk hF
        have HKK := Hd.mk hkk
        have HNO := Hd.mk hno
        have HNIL := Hd.mk hnil
        clear hsp htk hW hO hP hF hke hkk hk1 hk2 hno hnil
        go_wp2_with fail
        refine HSP.out.mono ?_
        rintro r w3 ⟨rfl, rfl⟩
        go_wp2_with fail
        clear d0 d1 d2 df
        refine HTK.out.mono ?_
        rintro r w4 ⟨v', l', rfl, ho', hv', hl', hW', hf'⟩
        have hO4 := own_fr HO.out hf' (fun z hz hx => by
          have h1 := HNO.out z hz
          have h2 := HLT.out z (by simp only [List.mem_cons] at hx ⊢; rcases hx with hx | hx <;> simp [hx])
          omega)
        rw [← HKK.out] at hl'
        obtain ⟨e1, e2⟩ := step_all HID.out tu n now j HP.out hl'
        rw [e1] at hW'
        have hF4 := HF.out.trans hf'
        have hl'l : l'.length < 100000 := by
          have h1 := e2.length_eq
          rw [List.length_map, List.length_append] at h1
          have h2 := List.length_filter_le (Vis tu n now (j + 1)) X
          omega
        have HE2 := Hd.mk e2
        clear e1 e2 hl' hf'
        rcases l' with _ | ⟨q0, l0⟩
        · have e := hv' rfl
          subst e
          obtain ⟨ii, hi, -, -, -⟩ := info_parts elT.info
          have hrun := run_append_nothing w4 125 125 125 129 ii elT.ut hi A l.length cc hcc (.slice none 0 0) (Src.ofNil w4 elT.ut 0)
          have HO4 := Hd.mk hO4
          have HW4 := Hd.mk hW'
          have HF4 := Hd.mk hF4
          clear hO4 hW' hF4 ho' hv' hi
          go_wp2_with (at_builtin; refine wpList_append_nil rfl (.tmp 41) (.tmp 54) 125 rfl rfl rfl hrun ?_)
          go_roundw
          case rel => exact ⟨j + 1, l, by omega, by go_num, HW4.out, HO4.out, HNIL.out, by have := HE2.out; rwa [List.append_nil] at this, HF4.out⟩
          case measure => simp [intOf]; omega
        · obtain ⟨l', hle'⟩ : ∃ l', q0 :: l0 = l' := ⟨_, rfl⟩
          rw [hle'] at ho' HE2 hl'l
          have hl0 : 0 < l'.length := by rw [← hle']; simp
          clear hle' hv'
          obtain ⟨g8, c8, rfl, hb8, hl8⟩ := own_form ho' hl0
          obtain ⟨ii, hi, hiz, his, hib⟩ := info_parts elT.info
          have hcells := own_cells ho'
          have hlen8 := ho'.1
          have hbz : w.heap.size ≤ w4.heap.size := hF4.size
          have HW4 := Hd.mk hW'
          have HF4 := Hd.mk hF4
          clear hW' hF4
          go_wp2_with (at_builtin; refine wpList_append_own _ rfl (.tmp 41) (.tmp 54) 125 rfl w.heap.size 129 ii _ 2 16 elT.ut hi hiz his hib elT.zs elT.pos _ l.length (l.flatMap pc) rfl hO4 ⟨g8, 0, none⟩ l'.length c8 (l'.flatMap pc) rfl hlen8 hcells (by intro u hu; obtain ⟨q, -, hq⟩ := List.mem_flatMap.1 hu; simp [pc] at hq; rcases hq with rfl | rfl <;> rfl) (by unfold maxLen; omega) (by omega) hbz ?_; intro v9 w9 ho9 hg9 hn9; have HX9 := Hd.mk (due_step HNO.out HLT.out HW4.out HF4.out hg9); have HO9 := Hd.mk ho9; clear ho9 hg9 hn9 hO4 ho' hcells hi hiz his hib)
          go_roundw
          case rel => exact ⟨j + 1, l ++ l', by omega, by go_num, HX9.out.1, by have := HO9.out; rwa [← List.length_append, ← List.flatMap_append] at this, fun e => by rw [List.append_eq_nil_iff] at e; rw [e.2] at hl0; simp at hl0, HE2.out, HX9.out.2⟩
          case measure => simp [intOf]; omega
      · have hjs : (j : Int) = stepsI tu n now := by rw [← HS.out]; omega
        have hv1 : X.filter (fun x => !Vis tu n now j x) = X.filter fun x => !decide (x.t ≤ now) := List.filter_congr fun x _ => by rw [vis_all (by omega) hjs]
        have hv2 : X.filter (Vis tu n now j) = X.filter fun x => decide (x.t ≤ now) := List.filter_congr fun x _ => by rw [vis_all (by omega) hjs]
        rw [hv1] at hW
        rw [hv2] at hP
        obtain ⟨d0, d1, d2, df⟩ := hW.blk.cells3
        have HW := Hd.mk hW
        have HO := Hd.mk hO
        have HP := Hd.mk hP
        have HF := Hd.mk hF
        clear hW hO hP hF hv1 hv2 hjs
        go_upto_region 14 with (fail)
        refine wp_name ?_
        intro w5 hw5
        have hpl := HLT.out p (by simp)
        obtain ⟨hW5, f5⟩ := HW.out.turned (now := now) (fun x hx => by have := (List.mem_filter.1 hx).2; simp at this; exact this) hnow
        rw [← hw5] at hW5 f5
        have hO5 := own_fr HO.out f5 (fun z hz hx => by
          have h1 := (HO.out.lt z hz).1
          have h2 := List.mem_singleton.1 hx
          omega)
        have hF5 : Fr (p :: b :: bs) w w5 := (HF.out.mono (fun x hx => List.mem_cons_of_mem _ hx)).trans (f5.mono (by simp))
        have HSP : Hd ((l.mergeSort fun x y => !ltT y x) = dueP X now) := Hd.mk (sort_perm HP.out)
        clear d0 d1 d2 df hw5 HW HO HF f5 hpl
        rcases l with _ | ⟨q0, l0⟩
        · have hv := hnil rfl
          subst hv
          have hnone := AnyF.slices_SortFunc_none Try.sortT none 0 (.func (.func 70) #[] #[]) w5
          change Calls Try.prog 69 _ _ _ at hnone
          have e0 : dueP X now = [] := by rw [← HSP.out]; simp
          have E0 := Hd.mk e0
          have HW5 := Hd.mk hW5
          have HF5 := Hd.mk hF5
          clear hO5 hW5 hF5 e0 hnil
          go_wp2_with fail
          refine hnone.mono ?_
          rintro x w6 ⟨rfl, rfl⟩
          go_wp2_with fail
          refine wp_loop_rounds 1 ?_; rw [rounds_succ]
          go_wp2
          go_ret
          exact ⟨_, rfl, by rw [E0.out]; exact World.ownsRow_nil _ _ _ _, fun _ => rfl, HW5.out, HF5.out⟩
        · obtain ⟨l, hle⟩ : ∃ l, q0 :: l0 = l := ⟨_, rfl⟩
          rw [hle] at hO5 HSP hll
          have hl0 : 0 < l.length := by rw [← hle]; simp
          clear hle hnil HP
          obtain ⟨g2, c2, rfl, hgb, hgl⟩ := own_form hO5 hl0
          have eg : ∀ args w, (callFunc 70 args).run Try.prog w = .ok (.enter 70 args) w := enters_of Try.func70 (by kernel_rfl) rfl
          have hsort := AnyQ.slices_SortFunc_total Try.sortT 2 Try.isAgg129 Try.sizeOf129 pc pc_len (fun x v hv => by simp [pc] at hv; rcases hv with rfl | rfl <;> rfl) cfT swo_cfT 70 #[] g2 0 c2 l.toArray w5 eg (fun _ _ _ _ x y => compare_calls x y _) (own_holdsK pc_len (by omega) hO5 rfl) (hO5.lt g2 rfl).2 (by simp; omega) (fun x y h1 h2 => by rw [ltOf_cfT] at h1 h2; exact ltT_total h1 h2)
          change Calls Try.prog 69 _ _ _ at hsort
          have HSO := Hd.mk (fun (m : Nat) (d : Array (Int × Int)) (os : Array Obj) hd => own_sorted pc_len (by omega) (m := m) (d := d) (os := os) hO5 rfl hd)
          have HW5 := Hd.mk hW5
          have HF5 := Hd.mk hF5
          clear eg hW5 hF5 hO5
          go_wp2_with fail
          refine hsort.mono ?_
          rintro x w6 ⟨rfl, nn, os, hw6⟩
          clear hsort
          have hle : (l.toArray.toList.mergeSort fun x y => !(ltOf cfT) y x) = dueP X now := by
            rw [← HSP.out]
            show l.mergeSort _ = _
            congr 1
            funext x y
            rw [ltOf_cfT]
          rw [hle] at hw6
          have hdl : (dueP X now).length = l.length := by rw [← HSP.out, List.length_mergeSort]
          obtain ⟨ho6, hf6⟩ := HSO.out nn (dueP X now).toArray os (by simpa using hdl)
          rw [← hw6] at ho6 hf6
          have hW6 := HW5.out.fr hf6 (fun z hz hx => by
            have h1 := HLT.out z hz
            have h2 := List.mem_singleton.1 hx
            omega)
          have hF6 : Fr (p :: b :: bs) w w6 := HF5.out.weak hf6 (fun x hx => .inr (by have := List.mem_singleton.1 hx; omega))
          obtain ⟨ks, hks⟩ : ∃ ks, dueP X now = ks := ⟨_, rfl⟩
          have HKS := Hd.mk hks
          rw [hks] at hdl ho6
          rw [← hdl] at ho6 hl0 hll ⊢
          clear hle hks HSP HSO hw6 hf6 HW5 HF5
          have ho6 : w6.ownsRow w.heap.size 129 2 (.slice (some ⟨g2, 0, none⟩) ks.length c2) ks.length (ks.flatMap pc) := by simpa using ho6
          go_wp2_with fail
          go_loopw [9, 70] (fun v i w7 => ∃ j : Nat, j ≤ ks.length ∧ i = .int .i64 j ∧ w7.ownsRow w.heap.size 3 1 v j ((ks.take j).map iv) ∧ w7.ownsRow w.heap.size 129 2 (.slice (some ⟨g2, 0, none⟩) ks.length c2) ks.length (ks.flatMap pc) ∧ WhAt w7 p g b c bs (max tu now) (leftI X now) ∧ Fr (p :: b :: bs) w w7) (fun _ i _ => ks.length - (intOf i).toNat)
          case atStart => exact ⟨0, Nat.zero_le _, rfl, World.ownsRow_nil _ _ _ _, ho6, hW6, hF6⟩
          case round =>
            obtain ⟨j, hj, rfl, hI, hR, hW7, hF7⟩ := hrel
            by_cases hlt3 : j < ks.length
            · have hx : ∀ i, i < 2 → wr.cell? ⟨g2, j * 2 + i, none⟩ = (pc ks[j])[i]? := by
                intro i hi
                rw [hR.cellAt _ (by omega), flat_get pc_len _ _ _ hi, List.getElem?_eq_getElem hlt3]
                rfl
              have k0 : wr.cell? ⟨g2, j * 2, none⟩ = some (.int .i64 (ks[j]).1) := hx 0 (by omega)
              have k1 : wr.cell? ⟨g2, j * 2 + 1, none⟩ = some (.int .u64 (ks[j]).2) := hx 1 (by omega)
              clear hx
              have HQ : Hd ((ks.take j).map iv ++ [.int .i64 (ks[j]).1] = (ks.take (j + 1)).map iv) := Hd.mk (by rw [List.take_succ_eq_append_getElem hlt3, List.map_append]; rfl)
              obtain ⟨q, hqe⟩ : ∃ q, ks[j] = q := ⟨_, rfl⟩
              rw [hqe] at k0 k1 HQ
              clear hqe
              have HI := Hd.mk hI
              have HR := Hd.mk hR
              have HW7 := Hd.mk hW7
              have HF7 := Hd.mk hF7
              clear hI hR hW7 hF7
              go_upto_region 19 with (fail)
              clear k0 k1
              refine wp_name ?_
              intro w8 hw8
              have hf8 : Fr [] wr w8 := by rw [hw8]; exact (Fr.refl [] wr).alloc _
              have hq8 : Blk w8 wr.heap.size 129 [.int .i64 q.1, .int .u64 q.2] := by rw [hw8]; exact Blk.new _ _ _
              clear hw8
              have hI8 := own_fr HI.out hf8 (by simp)
              have HR8 := Hd.mk (own_fr HR.out hf8 (by simp))
              have HW8 := Hd.mk (HW7.out.fr0 hf8)
              have hF8 := HF7.out.trans (hf8.mono (by simp))
              have hbz : w.heap.size ≤ w8.heap.size := hF8.size
              have HF8 := Hd.mk hF8
              have HNI := Hd.mk (fun z hz => (hI8.lt z hz).1)
              obtain ⟨d0, d1, df⟩ := hq8.cells2
              clear hf8 hF8 HI HR HW7 HF7 hq8
              go_wp2_with (at_builtin; refine wpList_app1s elI rfl (.tmp 74) (.tmp 77) rfl hI8 rfl [.int .i64 q.1] rfl rfl (by simp [Value.oneCell']) (by omega) (by omega) hbz ?_; intro g9 c9 w9 ho9 hf9 hb9 hg9 hor9; have HX9 := Hd.mk (ids_step HNI.out HLT.out HW8.out HF8.out HR8.out hI8 hf9); have HO9 := Hd.mk ho9; clear ho9 hf9 hb9 hg9 hor9 hI8 d0 d1 df)
              go_roundw
              case rel => exact ⟨j + 1, by omega, by go_num, by rw [← HQ.out]; exact HO9.out, HX9.out.1, HX9.out.2.1, HX9.out.2.2⟩
              case measure => simp [intOf]; omega
            · have hje : j = ks.length := by omega
              subst hje
              rw [List.take_length] at hI
              have HI := Hd.mk hI
              have HW7 := Hd.mk hW7
              have HF7 := Hd.mk hF7
              clear hI hR hW7 hF7 ho6 hW6 hF6
              go_wp2
              go_ret
              exact ⟨_, rfl, by rw [HKS.out]; exact HI.out, fun e => by rw [HKS.out] at e; rw [e] at hl0; simp at hl0, HW7.out, HF7.out⟩

end
end Go.Proofs.Ytogjfcmclfehkaa
