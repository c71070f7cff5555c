import Derived.Test.YtbmejolmbfmdiaaReg2
import Derived.Test.YtbmejolmbfmdiaaFrT
namespace Go.Proofs.Ytbmejolmbfmdiaa
open Go.RowKit

/-- Facts that a frame keeps. -/
def Sta (R : World → World → Prop) (gs : List (Value → World → Prop)) : Prop := ∀ g ∈ gs, ∀ v w w', R w w' → g v w → g v w'
theorem sta0 {R : World → World → Prop} : Sta R [] := by simp [Sta]
theorem sta {R : World → World → Prop} {g : Value → World → Prop} {gs : List (Value → World → Prop)} (h : ∀ v w w', R w w' → g v w → g v w') (hs : Sta R gs) : Sta R (g :: gs) := by
  intro x hx
  rcases List.mem_cons.1 hx with rfl | hx
  · exact h
  · exact hs x hx
/-- A slot's value. -/
def Is (x : Value) : Value → World → Prop := fun v _ => v = x
/-- Nothing is said. -/
def No : Value → World → Prop := fun _ _ => True
theorem staI {R : World → World → Prop} {x : Value} {gs : List (Value → World → Prop)} (hs : Sta R gs) : Sta R (Is x :: gs) := sta (fun _ _ _ _ h => h) hs
theorem staN {R : World → World → Prop} {gs : List (Value → World → Prop)} (hs : Sta R gs) : Sta R (No :: gs) := sta (fun _ _ _ _ h => h) hs
def StH (R : World → World → Prop) (hs : List (List Value → World → Prop)) : Prop := ∀ g ∈ hs, ∀ v w w', R w w' → g v w → g v w'
theorem sth0 {R : World → World → Prop} : StH R [] := by simp [StH]
theorem sth {R : World → World → Prop} {g : List Value → World → Prop} {gs : List (List Value → World → Prop)} (h : ∀ v w w', R w w' → g v w → g v w') (hs : StH R gs) : StH R (g :: gs) := by
  intro x hx
  rcases List.mem_cons.1 hx with rfl | hx
  · exact h
  · exact hs x hx

/-- A region's frame and facts. -/
structure Rc where
  R : World → World → Prop
  R1 : World → World → Prop
  gs : List (Value → World → Prop)
  ds : List (Option Nat)
  fl : List Bool
  hs : List (List Value → World → Prop)
  hd : List (List Nat)
def Rc.sup (c : Rc) (i : Nat) : List Nat := (c.ds.getD i none).toList
def Rc.G (c : Rc) (i : Nat) (l : List Value) (w : World) : Prop := (c.gs.getD i No) (l.headD undef) w
def Rc.H (c : Rc) (k : Nat) (l : List Value) (w : World) : Prop := (c.hs.getD k fun _ _ => True) l w
def Rc.loud (c : Rc) (i : Nat) : Bool := c.fl.getD i false
def Rc.ph (c : Rc) : PhCtx := { R := c.R, R1 := c.R1, G := c.G, H := c.H, sup := c.sup, supH := fun k => c.hd.getD k [], loud := c.loud, nw := fun _ => false }

section
variable {P : Program} {ops : Array Oper} {Q : Exit → Act → World → Prop}
theorem wpList_mono1 {o : Oper} {a : Act} {w : World} {Q Q' : Exit → Act → World → Prop} (hq : ∀ e a w, Q e a w → Q' e a w) (h : wpList P ops Q [o] a w) : wpList P ops Q' [o] a w := by
  have hl : LetsOut Q → LetsOut Q' := fun ⟨a0, w0, h0⟩ => ⟨a0, w0, hq _ _ _ h0⟩
  simp only [wpList] at h ⊢
  split
  · rename_i hw
    rw [if_pos hw] at h
    rcases h with h | ⟨h1, h2⟩
    · refine .inl ?_
      unfold Oper.wp at *
      generalize (execOp a.eval o).run P w = r at *
      cases r with
      | ok n w' =>
        cases n with
        | value v => exact hq _ _ _ h
        | skip => exact hq _ _ _ h
        | defer dd => exact hq _ _ _ h
        | enter f args =>
          refine Calls.mono h fun e w'' he => ?_
          cases e with
          | returned u => exact hq _ _ _ he
          | panicked c => exact hq _ _ _ he
          | outgrown => exact hl he
        | row row args => exact Rows.mono h fun v w'' he => hq _ _ _ he
        | _ => exact h.elim
      | halt x w' =>
        cases x with
        | panic v => exact hq _ _ _ h
        | _ => first | exact h.elim | exact hq _ _ _ h | exact hl h
    · exact .inr ⟨h1, hl h2⟩
  · rename_i hw
    rw [if_neg hw] at h
    exact hq _ _ _ h
/-- A quiet operation. -/
def StepQ (P : Program) (ops : Array Oper) (c : Rc) (ms : List Bool) (L : List Value) (d : List Deferred) (w : World) (i : Nat) (o : Oper) : Prop :=
  ∀ (σ : Nat → Value) (w' : World), c.R w w' → (∀ j ∈ edgesOf ops i, c.G j ((c.sup j).map σ) w') →
    wpList P ops (fun e a'' w'' => e = .normal ∧ a''.defers = d ∧ c.R1 w' w'' ∧ c.G i ((c.sup i).map fun k => a''.tmps.getD k undef) w'') [o] { tmps := (fill σ ms 0 L).toArray, defers := d } w'
/-- A loud one. -/
def StepL (P : Program) (ops : Array Oper) (c : Rc) (ms : List Bool) (L : List Value) (d : List Deferred) (w : World) (i k : Nat) (o : Oper) : Prop :=
  ∀ (σ : Nat → Value) (w' : World), c.R w w' → (∀ j ∈ edgesOf ops i, c.G j ((c.sup j).map σ) w') → c.H k ((c.hd.getD k []).map σ) w' →
    wpList P ops (fun e a'' w'' => e = .normal ∧ a''.defers = d ∧ c.R w' w'' ∧ c.G i ((c.sup i).map fun k => a''.tmps.getD k undef) w'' ∧ c.H (k + 1) ((c.hd.getD (k + 1) []).map fun k => a''.tmps.getD k undef) w'') [o] { tmps := (fill σ ms 0 L).toArray, defers := d } w'
def Steps (P : Program) (ops : Array Oper) (c : Rc) (ms : List Bool) (L : List Value) (d : List Deferred) (w : World) : List Oper → List Bool → Nat → Nat → Prop
  | o :: r, false :: fl, i, k => StepQ P ops c ms L d w i o ∧ Steps P ops c ms L d w r fl (i + 1) k
  | o :: r, true :: fl, i, k => StepL P ops c ms L d w i k o ∧ Steps P ops c ms L d w r fl (i + 1) (k + 1)
  | _, _, _, _ => True
theorem steps_ph {c : Rc} {ms : List Bool} {L : List Value} {d : List Deferred} {w : World} (h1 : ∀ a b, c.R1 a b → c.R a b) :
    ∀ (l : List Oper) (fl : List Bool) (i k : Nat), fl.length = l.length → (∀ j, c.fl.getD (i + j) false = fl.getD j false) → Steps P ops c ms L d w l fl i k → PhSteps P ops c.ph ms L d w l i k := by
  intro l
  induction l with
  | nil => intro fl i k _ _ _; trivial
  | cons o r ih =>
    intro fl i k hl hfl hs
    cases fl with
    | nil => simp at hl
    | cons b fl =>
      have hb : c.loud i = b := by have := hfl 0; simpa [Rc.loud] using this
      have hfl2 : ∀ j, c.fl.getD (i + 1 + j) false = fl.getD j false := by
        intro j; have := hfl (j + 1); rw [show i + (j + 1) = i + 1 + j by omega] at this; simpa using this
      have hl2 : fl.length = r.length := by simpa using hl
      cases b with
      | false =>
        refine ⟨?_, ?_⟩
        · intro σ w' hR hd hH
          refine wpList_mono1 ?_ (hs.1 σ w' hR hd)
          rintro e a'' w'' ⟨e1, e2, e3, e4⟩
          refine ⟨e1, e2, h1 _ _ e3, e4, fun h => ?_, fun _ => e3, fun h => (Bool.false_ne_true h).elim⟩
          have h : c.loud i = true := h
          rw [hb] at h; cases h
        · have h := ih fl (i + 1) k hl2 hfl2 hs.2
          have e : (if c.ph.loud i then k + 1 else k) = k := by show (if c.loud i then k + 1 else k) = k; rw [hb]; rfl
          rw [e]; exact h
      | true =>
        refine ⟨?_, ?_⟩
        · intro σ w' hR hd hH
          refine wpList_mono1 ?_ (hs.1 σ w' hR hd (hH hb))
          rintro e a'' w'' ⟨e1, e2, e3, e4, e5⟩
          refine ⟨e1, e2, e3, e4, fun _ => e5, fun h => ?_, fun h => (Bool.false_ne_true h).elim⟩
          have h : c.loud i = false := h
          rw [hb] at h; cases h
        · have h := ih fl (i + 1) (k + 1) hl2 hfl2 hs.2
          have e : (if c.ph.loud i then k + 1 else k) = k + 1 := by show (if c.loud i then k + 1 else k) = k + 1; rw [hb]; rfl
          rw [e]; exact h

/-- A region that draws its order, by its slots' facts. -/
theorem wp_region_gs {id : Nat} {l : List Oper} (c : Rc) (ms : List Bool) (hm : P.follows .mixedOrders = true) (L : List Value)
    (hb : edgesBack l.toArray = true) (hok : phasesOk l.toArray c.sup c.loud (fun k => c.hd.getD k []) = true) (hms : marks2Ok l.toArray ms L.length = true)
    (hsup : (((List.range l.length).all fun i => (c.sup i).all fun k => decide (k < L.length) && (ms[k]?).getD false) &&
      (List.range (l.length + 1)).all fun i => (c.hd.getD i []).all fun k => decide (k < L.length) && (ms[k]?).getD false) = true)
    (hfl : c.fl.length = l.length) (d : List Deferred)
    (hR : ∀ a b e, c.R a b → c.R b e → c.R a e) (hR1 : ∀ a b, c.R1 a b → c.R a b) (hG : Sta c.R c.gs) (hH : StH c.R1 c.hs)
    (hRs : ∀ a b, c.R a b → a.heap.size ≤ b.heap.size) (w : World) (hRd : c.R w.drew w.drew) (hH0 : c.H 0 ((c.hd.getD 0 []).map fun k => L.getD k undef) w.drew)
    (steps : Steps P l.toArray c ms L d w.drew l c.fl 0 0)
    (fin : ∀ σ w', c.R w.drew w' → (∀ j, j < l.length → c.G j ((c.sup j).map σ) w') → c.H (rankOf c.loud l.length) ((c.hd.getD (rankOf c.loud l.length) []).map σ) w' → Q .normal { tmps := (fill σ ms 0 L).toArray, defers := d } w') :
    (Code.region id l.toArray true).wp P Q { tmps := L.toArray, defers := d } w := by
  have hG' : ∀ (i : Nat) (l : List Value) (w w' : World), c.R w w' → c.G i l w → c.G i l w' := by
    intro i l w w' h hg
    unfold Rc.G at hg ⊢
    rw [List.getD_eq_getElem?_getD] at hg ⊢
    cases hi : c.gs[i]? with
    | none => trivial
    | some g => rw [hi] at hg; exact hG g (List.mem_of_getElem? hi) _ _ _ h hg
  have hH' : ∀ (i : Nat) (l : List Value) (w w' : World), c.R1 w w' → c.H i l w → c.H i l w' := by
    intro i l w w' h hg
    unfold Rc.H at hg ⊢
    rw [List.getD_eq_getElem?_getD] at hg ⊢
    cases hi : c.hs[i]? with
    | none => trivial
    | some g => rw [hi] at hg; exact hH g (List.mem_of_getElem? hi) _ _ _ h hg
  exact wp_region_psteps c.ph ms hm L hb hok hms hsup d hR hR1 hG' hH' hRs w hRd hH0 (steps_ph hR1 l c.fl 0 0 hfl (by simp) steps) (fun σ w' h1 h2 h3 _ => fin σ w' h1 h2 h3)
end
end Go.Proofs.Ytbmejolmbfmdiaa
