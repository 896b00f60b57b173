/- A region inside a round, walked as one outside. -/
import Derived.Test.YtjkcclcjhidokaaP1
namespace Go.Proofs.Ytjkcclcjhidokaa
open Go.RowKit

/-- just the normal end. -/
def Nrm (Q : Exit → Act → World → Prop) : Exit → Act → World → Prop
  | .normal, a, w => Q .normal a w
  | _, _, _ => False
theorem nrm_normal (Q : Exit → Act → World → Prop) (a : Act) (w : World) : Nrm Q .normal a w = Q .normal a w := rfl
theorem nrm_out (Q : Exit → Act → World → Prop) : ¬ LetsOut (Nrm Q) := fun ⟨_, _, h⟩ => h

section
variable {F : Fence} {n : Nat} {P : Program} {ops : Array Oper} {Q : Exit → Act → World → Prop} {md : Region.Mode}
theorem oper_in (hF : ∀ f, F.fn f) (hdp : F.depth = none) (hs : Machine.fenced P F = Machine.fenced P Fence.wide) {o : Oper} (hd : ∀ c, o.op ≠ .defer c) {a : Act} {w : World} {K : Act → World → Prop} (h : o.wp P a w K (Nrm Q)) : o.wpIn F n P a w K Q := by
  refine ⟨fun f _ => hF f, ?_⟩
  rw [Oper.semAt_eq _ _ _ hd]
  unfold Oper.wp at h
  have hdn : F.depth.isSome = true → 1 ≤ n := fun h => by rw [hdp] at h; cases h
  generalize (execOp a.eval o).run P w = r at *
  cases r with
  | ok x w' =>
    cases x with
    | value v => exact h
    | skip => exact h
    | defer d => exact h
    | enter f args =>
      refine ⟨hdn, hF f, fun cs _ => ?_⟩
      obtain ⟨e, w'', fr, hr, hc, hx⟩ := h cs
      refine ⟨e, w'', fr, ?_, by rw [hs]; exact comesIn_wide.2 hc, hx⟩
      cases e with
      | returned v => exact hr
      | panicked c => exact hr.elim
      | outgrown => exact (nrm_out Q hr).elim
    | row row args =>
      refine ⟨hdn, fun c cs _ => ?_⟩
      obtain ⟨v, w'', hr, hst⟩ := h c cs
      exact ⟨v, w'', hr, by rw [hs]; exact stepsIn_wide.2 hst⟩
    | _ => exact h.elim
  | halt s w' => cases s <;> exact h.elim
theorem any_in (hF : ∀ f, F.fn f) (hdp : F.depth = none) (hs : Machine.fenced P F = Machine.fenced P Fence.wide) (hd : ∀ (i : Nat) (o : Oper), ops[i]? = some o → ∀ c, o.op ≠ .defer c) : ∀ (fuel : Nat) (listed : Array Bool) (a : Act) (w : World), wpAny P md ops (Nrm Q) fuel listed a w → wpAnyIn F n P md ops Q fuel listed a w := by
  intro fuel
  induction fuel with
  | zero => exact fun _ _ _ h => h
  | succ fuel ih =>
    intro listed a w h
    refine ⟨h.1, fun i hi => ?_⟩
    have h2 := h.2 i hi
    unfold wpOp at h2
    unfold wpOpIn
    cases ho : ops[i]? with
    | none => rw [ho] at h2; exact ih _ _ _ h2
    | some o =>
      rw [ho] at h2
      simp only at h2 ⊢
      split
      · rename_i hw
        rw [if_pos hw] at h2
        rcases h2 with h2 | h2
        · exact Oper.wpIn_mono (fun a w => ih _ a w) (oper_in hF hdp hs (hd i o ho) h2)
        · exact (nrm_out Q h2.2).elim
      · rename_i hw
        rw [if_neg hw] at h2
        exact ⟨fun f _ => hF f, ih _ _ _ h2⟩

/-- has a region no 'defer'? -/
def noDefer (l : List Oper) : Bool := l.all fun o => match o.op with | .defer _ => false | _ => true
theorem noDefer_spec {l : List Oper} (h : noDefer l = true) : ∀ (i : Nat) (o : Oper), l.toArray[i]? = some o → ∀ c, o.op ≠ .defer c := by
  intro i o ho c hc
  have hm : o ∈ l := by rw [List.getElem?_toArray] at ho; exact List.mem_of_getElem? ho
  have := List.all_eq_true.1 h o hm
  rw [hc] at this
  cases this

theorem in_still_tail {id : Nat} {a : Act} {w : World} {l : List Oper} (N : Nat) (hF : ∀ f, F.fn f) (hdp : F.depth = none) (hs : Machine.fenced P F = Machine.fenced P Fence.wide) (hm : P.follows .mixedOrders = true) (hno : noDefer l = true) (hB : Region.lexTailB .any l.toArray N = true)
    (h : wpStill P l.toArray { w with drawn := w.drawn + 1 } (fun a' => wpList P l.toArray (Nrm Q) (l.drop N) a' { w with drawn := w.drawn + 1 }) (l.take N) a) : (Code.region id l.toArray true).wpIn F n P Q a w := by
  simp only [Region.lexTailB, Bool.and_eq_true, decide_eq_true_eq] at hB
  obtain ⟨⟨⟨⟨hsel, hn⟩, hss⟩, hc⟩, hlex⟩ := hB
  have hn' : N < l.length := by simpa using hn
  have htl : (l.take N).length = N := by simp; omega
  have hdl : (l.drop N).length = l.toArray.size - N := by simp
  have inv0 : HeadInv .any l.toArray N (Array.replicate l.toArray.size false) :=
    ⟨by simp, fun j oj _ hl => (by rw [getD_replicate_false] at hl; cases hl), fun t _ ht => getD_in (by simpa using ht) (getD_replicate_false _ _)⟩
  have H := wpAnyL_lex (md := .any) (g := l.toArray.size - N) hsel hss hc hn (l.take N) 0 _ a (fun j hj => by
    have hj' : j < N := by rw [htl] at hj; exact hj
    simp [hj']) (by simpa using htl) inv0 (by rw [htl]; exact hlex) h
  refine wpIn_region_any hm (any_in hF hdp hs (noDefer_spec hno) _ _ _ _ ?_)
  have := wpAny_of_head (Q' := Nrm Q) (g := l.toArray.size - N) (fun listed a' hL => by
    have := wpAny_of_seq (md := .any) (Q' := Nrm Q) (l.drop N) N listed a' { w with drawn := w.drawn + 1 } (fun j => by simp [List.getElem?_drop]) (by rw [hdl]; exact hL.1) hL.2
    rwa [hdl] at this) _ _ _ H
  rw [htl, show N + (l.toArray.size - N) = l.toArray.size by omega] at this
  exact this
theorem round_still_tail {r : Nat} {id : Nat} {a : Act} {w : World} {l : List Oper} (N : Nat) (hm : P.follows .mixedOrders = true) (hno : noDefer l = true) (hB : Region.lexTailB .any l.toArray N = true)
    (h : wpStill P l.toArray { w with drawn := w.drawn + 1 } (fun a' => wpList P l.toArray (Nrm Q) (l.drop N) a' { w with drawn := w.drawn + 1 }) (l.take N) a) : (Code.region id l.toArray true).wpIn (FW.inRound r) n P Q a w :=
  in_still_tail N (fun _ => trivial) rfl rfl hm hno hB h
theorem wide_still_tail {id : Nat} {a : Act} {w : World} {l : List Oper} (N : Nat) (hm : P.follows .mixedOrders = true) (hno : noDefer l = true) (hB : Region.lexTailB .any l.toArray N = true)
    (h : wpStill P l.toArray { w with drawn := w.drawn + 1 } (fun a' => wpList P l.toArray (Nrm Q) (l.drop N) a' { w with drawn := w.drawn + 1 }) (l.take N) a) : (Code.region id l.toArray true).wpIn FW n P Q a w :=
  in_still_tail N (fun _ => trivial) rfl rfl hm hno hB h
end
end Go.Proofs.Ytjkcclcjhidokaa
