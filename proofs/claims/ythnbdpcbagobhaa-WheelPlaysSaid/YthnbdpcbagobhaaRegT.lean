import Derived.Test.YthnbdpcbagobhaaReg3
namespace Go.Proofs.Ythnbdpcbagobhaa
open Go.RowKit

section
variable {P : Program} {ops : Array Oper} {Q : Exit → Act → World → Prop}
theorem facts_of {c : Rc} {m : Nat} {ms : List Bool} {L : List Value} {d : List Deferred} {w : World} (h1 : ∀ a b, c.R1 a b → c.R a b) (hm : c.gs.length ≤ m) :
    ∀ (l : List Oper) (fl : List Bool) (i : Nat), fl = List.replicate l.length false → Steps P ops c ms L d w l fl i 0 → FactSteps P ops c.R c.G c.sup (fun _ => false) m ms L d w l i := by
  intro l
  induction l with
  | nil => intro _ _ _ _; trivial
  | cons o r ih =>
    intro fl i hfl hs
    subst hfl
    refine ⟨?_, ih _ (i + 1) rfl hs.2⟩
    intro σ w' hR hd
    refine wpList_mono1 ?_ (hs.1 σ w' hR fun j hj => ?_)
    · rintro e a'' w'' ⟨e1, e2, e3, e4⟩
      exact ⟨e1, e2, h1 _ _ e3, e4, fun h => (Bool.false_ne_true h).elim⟩
    · rcases Nat.lt_or_ge j m with hjm | hjm
      · exact hd j hj hjm
      · have e : c.gs.getD j No = No := by rw [List.getD_eq_getElem?_getD, List.getElem?_eq_none (by omega)]; rfl
        show (c.gs.getD j No) _ _
        rw [e]; trivial
/-- A region that draws the order of its first m operations, by their slots' facts; the others go in their order. -/
theorem wp_region_gt {id : Nat} {l : List Oper} (c : Rc) (m : Nat) (ms : List Bool) (hm : P.follows .mixedOrders = true) (L : List Value)
    (hb : edgesBack l.toArray = true) (hok : factsOk l.toArray m c.sup = true) (hap : dstsApart l.toArray m = true) (hms : marksOk l.toArray m ms L.length = true)
    (hsup : ((List.range m).all fun i => (c.sup i).all fun k => decide (k < L.length) && (ms[k]?).getD false) = true) (hgs : c.gs.length ≤ m) (d : List Deferred)
    (hR : ∀ a b e, c.R a b → c.R b e → c.R a e) (hR1 : ∀ a b, c.R1 a b → c.R a b) (hG : Sta c.R c.gs)
    (hRs : ∀ a b, c.R a b → a.heap.size ≤ b.heap.size) (w : World) (hRd : c.R w.drew w.drew)
    (steps : Steps P l.toArray c ms L d w.drew (l.take m) (List.replicate (l.take m).length false) 0 0)
    (fin : ∀ σ w', c.R w.drew w' → (∀ j, j < m → c.G j ((c.sup j).map σ) w') → wpList P l.toArray Q (l.drop m) { tmps := (fill σ ms 0 L).toArray, defers := d } w') :
    (Code.region id l.toArray true).wp P Q { tmps := L.toArray, defers := d } w := by
  refine wp_region_steps m c.sup ms hm L hb hok hap (fun _ => false) hms hsup c.R c.G d hR ?_ hRs w hRd (facts_of hR1 hgs _ _ 0 rfl steps) (fun σ w' h1 h2 _ => fin σ w' h1 h2)
  intro i l w w' _ h hg
  unfold Rc.G at hg ⊢
  rw [List.getD_eq_getElem?_getD] at hg ⊢
  cases hi : c.gs[i]? with
  | none => trivial
  | some g => rw [hi] at hg; exact hG g (List.mem_of_getElem? hi) _ _ _ h hg
end
end Go.Proofs.Ythnbdpcbagobhaa
