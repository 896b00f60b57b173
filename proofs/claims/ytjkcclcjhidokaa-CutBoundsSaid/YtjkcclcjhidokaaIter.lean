/- Iterators, and the loops over them: what each promises the other, by blocks. -/
import Derived.RangeFuncSeq
import Derived.BigFrameIn
import Derived.Test.YtjkcclcjhidokaaBase
namespace Go.Proofs.Ytjkcclcjhidokaa
open Go.RowKit

abbrev FW : Fence := Fence.wide
theorem wide_fn (f : FuncId) : Fence.wide.fn f = True := rfl
theorem wide_depth : Fence.wide.depth = none := rfl

/-- a call of loop l's yield: it hands back a bool. -/
def Yields (P : Program) (l : Nat) (args : Array Value) (w : World) (R : Bool → World → Prop) : Prop :=
  ∃ fn tmps assign body, (Instr.yield l args).run P w = .ok (.round l fn tmps assign body) w ∧
    RoundIn FW 0 P l fn tmps assign body w (fun e w' => ∃ b, e = .returned (.bool b) ∧ R b w')

/-- the walk at a call of yield. -/
theorem yield_step {P : Program} {o : Oper} {a : Act} {K : Act → World → Prop} {Q : Exit → Act → World → Prop} {l n : Nat} {args : Array Value} {w : World} {R : Bool → World → Prop}
    (hy : Yields P l args w R) (hk : ∀ b w', R b w' → K (a.put o.dst (.bool b)) w') : o.uponIn FW n P a K Q ((Instr.yield l args).run P w) := by
  obtain ⟨fn, tm, as, bd, hy, hr⟩ := hy
  rw [hy, Oper.uponIn_round]
  refine ⟨fun h => by simp [FW, Fence.wide] at h, hr.1, fun c cs _ => ?_⟩
  obtain ⟨e, w', ⟨b, rfl, hR⟩, hs⟩ := hr.2 c cs (room_wide _)
  exact ⟨.returned (.bool b), w', hk b w' hR, hs⟩
theorem yield_step' {P : Program} {o : Oper} {a : Act} {K : Act → World → Prop} {Q : Exit → Act → World → Prop} {l l' n : Nat} {args : Array Value} {w : World} {R : Bool → World → Prop}
    (hy : Yields P l args w R) (hk : ∀ b w', R b w' → K (a.put o.dst (.bool b)) w') : o.uponIn (FW.inRound l') n P a K Q ((Instr.yield l args).run P w) := by
  obtain ⟨fn, tm, as, bd, hy, hr⟩ := hy
  rw [hy, Oper.uponIn_round]
  refine ⟨fun h => by simp [FW, Fence.wide] at h, hr.1, fun c cs _ => ?_⟩
  obtain ⟨e, w', ⟨b, rfl, hR⟩, hs⟩ := hr.2 c cs (room_wide _)
  exact ⟨.returned (.bool b), w', hk b w' hR, hs⟩

/-- what holds of the blocks S goes on to hold, whatever blocks from N on that aren't in S are turned. -/
def Stab (N : Nat) (I : (Nat → Prop) → World → Prop) : Prop := ∀ S w w', I S w → Frm (fun b => N ≤ b ∧ ¬ S b) w w' → I S w'

/-- a step of who owns S, and owns S' behind it. -/
structure Turn (S S' : Nat → Prop) (w w' : World) : Prop where
  frm : Frm S w w'
  new : ∀ b, S' b → S b ∨ w.heap.size ≤ b
  lt : ∀ b, S' b → b < w'.heap.size

theorem Turn.refl {S : Nat → Prop} {w : World} (h : ∀ b, S b → b < w.heap.size) : Turn S S w w := ⟨Frm.refl _, fun _ h => .inl h, h⟩
theorem Turn.trans {S T U : Nat → Prop} {a b c : World} (h : Turn S T a b) (k : Turn T U b c) : Turn S U a c :=
  ⟨h.frm.trans k.frm (fun _ x => x) h.new, fun x hx => by
    rcases k.new x hx with h1 | h1
    · exact h.new x h1
    · exact .inr (Nat.le_trans h.frm.size h1), k.lt⟩

/-- An iterator: called with the yield of whatever loop, it hands over xs one by one; it leaves when it is told to. It owns the blocks Own, as they are in w0; it turns none but those that it makes. -/
def Iter {α : Type} (P : Program) (f : Nat) (caps : Array Value) (enc : α → Array Value) (Own : Nat → Prop) (w0 : World) (xs : List α) : Prop :=
  ∀ (l : Nat) (I X : List α → (Nat → Prop) → World → Prop) (w : World) (S : Nat → Prop),
    Frm (fun b => ¬ Own b) w0 w → (∀ b, Own b → ¬ S b) → (∀ b, S b → b < w.heap.size) →
    (∀ pre, Stab w.heap.size (I pre)) → (∀ pre, Stab w.heap.size (X pre)) →
    (∀ pre x S w₁, I pre S w₁ → pre ++ [x] <+: xs → (∀ b, S b → b < w₁.heap.size) →
      Yields P l (enc x) w₁ fun b w' => ∃ S', Turn S S' w₁ w' ∧ if b = true then I (pre ++ [x]) S' w' else X (pre ++ [x]) S' w') →
    I [] S w →
    CallsIn FW 0 P f (#[.func (.yield l) #[] #[]] ++ caps) w fun e w' => e = .returned (.tuple #[]) ∧ ∃ S', Turn S S' w w' ∧ (I xs S' w' ∨ ∃ pre, pre <+: xs ∧ X pre S' w')

/-- how a round's body may be left. -/
def rPost {α : Type} (I : List α → (Nat → Prop) → World → Prop) (X : Code → List α → (Nat → Prop) → World → Prop) (ys : List α) (S : Nat → Prop) (N : Nat) (w₃ : World) : Exit → Act → World → Prop
  | .normal, _, w' => ∃ S', Frm (fun k => S k ∨ N ≤ k) w₃ w' ∧ (∀ b, S' b → S b ∨ N ≤ b) ∧ (∀ b, S' b → b < w'.heap.size) ∧ I ys S' w'
  | .ret, _, w' => ∃ S', Frm (fun k => S k ∨ N ≤ k) w₃ w' ∧ (∀ b, S' b → S b ∨ N ≤ b) ∧ (∀ b, S' b → b < w'.heap.size) ∧ X .ret ys S' w'
  | .exit id, _, w' => ∃ S', Frm (fun k => S k ∨ N ≤ k) w₃ w' ∧ (∀ b, S' b → S b ∨ N ≤ b) ∧ (∀ b, S' b → b < w'.heap.size) ∧ X (.exit id) ys S' w'
  | _, _, _ => False

def mark (D : Nat) : Deferred := { target := .collected D, args := #[] }

theorem frm_putObj (w : World) (l : Nat) (o : Obj) : Frm (fun b => b = l) w (w.putObj l o) :=
  ⟨rfl, rfl, rfl, by simp [World.putObj], fun k _ hk => World.putObj_heap_other hk⟩
theorem size_putObj (w : World) (l : Nat) (o : Obj) : (w.putObj l o).heap.size = w.heap.size := by simp [World.putObj]

/-- The loop over an iterator. -/
theorem wp_range {α : Type} {P : Program} {g : Operand} {ps : Array Tmp} {assign body : Code} {Q : Exit → Act → World → Prop} {a : Act} {w : World}
    {f : Nat} {caps : Array Value} {enc : α → Array Value} {Own : Nat → Prop} {w0 : World} {xs : List α}
    (hg : a.eval g = .func (.func f) #[] caps) (eg : ∀ args w, (callFunc f args).run P w = .ok (.enter f args) w)
    (hit : Iter P f caps enc Own w0 xs) (hf0 : Frm (fun b => ¬ Own b) w0 w) (hO : ∀ b, Own b → b < w.heap.size) (hps : ∀ x, (enc x).size = ps.size)
    (I : List α → (Nat → Prop) → World → Prop) (X : Code → List α → (Nat → Prop) → World → Prop) (S : Nat → Prop)
    (hS : ∀ b, Own b → ¬ S b) (hlt : ∀ b, S b → b < w.heap.size)
    (hI : ∀ pre, Stab w.heap.size (I pre)) (hX : ∀ c pre, Stab w.heap.size (X c pre)) (h0 : I [] S w)
    (hround : ∀ l pre x S w₁, ¬ S l → w.heap.size ≤ l → l < w₁.heap.size → I pre S w₁ → pre ++ [x] <+: xs → (∀ b, S b → b < w₁.heap.size) →
      assign.wpIn (FW.inRound l) 0 P (Exit.then (fun a₁ w₂ => Frm Non w₁ w₂ ∧ ∀ w₃, Frm (fun b => b = l) w₂ w₃ → w₃.heap.size = w₂.heap.size →
        body.wpIn (FW.inRound l) 0 P (rPost I X (pre ++ [x]) S w₁.heap.size w₃) a₁ w₃) (fun _ _ _ => False))
        { tmps := (ps.zip (enc x)).foldl (fun t (p, v) => t.setIfInBounds p v) a.tmps, defers := [] } w₁)
    (hdone : ∀ S' w', Turn S S' w w' → I xs S' w' → w'.heap[w.heap.size]? = some (.deferred (some [])) → ¬ S' w.heap.size → Q .normal { a with defers := mark w.heap.size :: a.defers } w')
    (hstop : ∀ c pre S' w', Turn S S' w w' → pre <+: xs → X c pre S' w' → w'.heap[w.heap.size]? = some (.deferred (some [])) → ¬ S' w.heap.size →
      c.wpIn FW 0 P Q { a with defers := mark w.heap.size :: a.defers } w') :
    (Code.rangeFunc g ps assign body).wpIn FW 0 P Q a w := by
  refine wpIn_rangeFunc ?_
  intro fn hfn
  obtain ⟨rec, hrec⟩ : ∃ rec : LoopState → Option Code → Loop, rec = fun st pe => { state := st, pending := pe, fn, tmps := a.tmps, params := ps, assign, body, defers := w.heap.size } := ⟨_, rfl⟩
  obtain ⟨W1, hW1⟩ : ∃ W1, (w.alloc (.deferred (some []))).alloc (.loop (rec .ready none)) = W1 := ⟨_, rfl⟩
  have hL1 : W1.heap[w.heap.size + 1]? = some (.loop (rec .ready none)) := by
    rw [← hW1]; have := World.alloc_heap_new (w.alloc (.deferred (some []))) (.loop (rec .ready none)); rwa [World.size_alloc] at this
  have hK1 : W1.heap[w.heap.size]? = some (.deferred (some [])) := by
    rw [← hW1]; exact (Below.heap_alloc _ _ _ (by simp)).trans (World.alloc_heap_new w _)
  have hz1 : W1.heap.size = w.heap.size + 2 := by rw [← hW1]; simp
  have hF1 : Frm Non w W1 := by rw [← hW1]; exact ((Frm.refl w).alloc _).alloc _
  refine ⟨w.heap.size + 1, [mark w.heap.size], W1, { target := .fn (.func f) caps, args := #[.func (.yield (w.heap.size + 1)) #[] #[]] }, W1, f,
    #[.func (.yield (w.heap.size + 1)) #[] #[]] ++ caps, W1, ?_, ?_, ?_, ?_, fun h => by simp [FW, Fence.wide] at h, ?_⟩
  · rw [← hW1, hrec]; exact run_enterLoop_outer _ _ _ _ _
  · simp only [resolve, hg]
    simp [go_sem]
  · intro f' _; trivial
  · simp [invoke, go_sem, eg]
  · refine (hit (w.heap.size + 1)
      (fun pre S' W => ∃ S, (∀ b, S' b ↔ S b ∨ b = w.heap.size + 1 ∨ b = w.heap.size) ∧ ¬ S w.heap.size ∧ ¬ S (w.heap.size + 1) ∧ I pre S W ∧ W.heap[w.heap.size + 1]? = some (.loop (rec .ready none)) ∧ W.heap[w.heap.size]? = some (.deferred (some [])))
      (fun pre S' W => ∃ S c, (∀ b, S' b ↔ S b ∨ b = w.heap.size + 1 ∨ b = w.heap.size) ∧ ¬ S w.heap.size ∧ ¬ S (w.heap.size + 1) ∧ X c pre S W ∧ W.heap[w.heap.size + 1]? = some (.loop (rec .done (some c))) ∧ W.heap[w.heap.size]? = some (.deferred (some [])))
      W1 (fun b => S b ∨ b = w.heap.size + 1 ∨ b = w.heap.size)
      (hf0.trans hF1 (fun _ x => x) (fun _ x => x.elim)) ?_ ?_ ?_ ?_ ?_ ⟨S, fun _ => Iff.rfl, fun h => by have := hlt _ h; omega, fun h => by have := hlt _ h; omega, hI _ _ _ _ h0 hF1.non, hL1, hK1⟩).mono ?_
    · rintro b hb (h | rfl | rfl)
      · exact hS b hb h
      · have := hO _ hb; omega
      · have := hO _ hb; omega
    · rintro b (h | rfl | rfl)
      · have := hlt b h; omega
      · omega
      · omega
    · rintro pre S' A B ⟨S, hSS, n1, n2, hi, hl, hk⟩ hfr
      have q : ∀ b, b < w.heap.size + 2 → B.heap[b]? = A.heap[b]? ∨ A.heap.size ≤ b := fun b hb => by
        rcases Nat.lt_or_ge b A.heap.size with h | h
        · exact .inl (hfr.block b h (fun h2 => by omega))
        · exact .inr h
      have hA : w.heap.size + 1 < A.heap.size := (Array.getElem?_eq_some_iff.1 hl).1
      refine ⟨S, hSS, n1, n2, hI _ _ _ _ hi (hfr.mono fun x hx => ⟨by omega, fun h => hx.2 ((hSS x).2 (.inl h))⟩), ?_, ?_⟩
      · rcases q (w.heap.size + 1) (by omega) with h | h
        · exact h.trans hl
        · omega
      · rcases q w.heap.size (by omega) with h | h
        · exact h.trans hk
        · omega
    · rintro pre S' A B ⟨S, c, hSS, n1, n2, hi, hl, hk⟩ hfr
      have q : ∀ b, b < w.heap.size + 2 → B.heap[b]? = A.heap[b]? ∨ A.heap.size ≤ b := fun b hb => by
        rcases Nat.lt_or_ge b A.heap.size with h | h
        · exact .inl (hfr.block b h (fun h2 => by omega))
        · exact .inr h
      have hA : w.heap.size + 1 < A.heap.size := (Array.getElem?_eq_some_iff.1 hl).1
      refine ⟨S, c, hSS, n1, n2, hX _ _ _ _ _ hi (hfr.mono fun x hx => ⟨by omega, fun h => hx.2 ((hSS x).2 (.inl h))⟩), ?_, ?_⟩
      · rcases q (w.heap.size + 1) (by omega) with h | h
        · exact h.trans hl
        · omega
      · rcases q w.heap.size (by omega) with h | h
        · exact h.trans hk
        · omega
    · -- a round
      rintro pre x S' W ⟨S, hSS, n1, n2, hi, hl, hk⟩ hpre hlt'
      have hltW : w.heap.size + 1 < W.heap.size := (Array.getElem?_eq_some_iff.1 hl).1
      have hy := run_yield (P := P) (args := enc x) hl (by rw [hrec]; exact hps x)
      rw [hrec] at hy
      refine ⟨fn, _, assign, body, hy, roundIn_of_wpIn (F := FW) hfn ?_⟩
      refine wpIn_mono (hround (w.heap.size + 1) pre x S W n2 (by omega) hltW hi hpre (fun b hb => hlt' b ((hSS b).2 (.inl hb)))) ?_
      intro e a₁ w₂ hq
      cases e with
      | normal =>
        obtain ⟨hf12, hq⟩ := hq
        have hl2 : w₂.heap[w.heap.size + 1]? = some (.loop (rec .ready none)) := (hf12.block _ hltW (fun h => h)).trans hl
        have hk2 : w₂.heap[w.heap.size]? = some (.deferred (some [])) := (hf12.block _ (by omega) (fun h => h)).trans hk
        have hz2 := hf12.size
        refine ⟨_, run_beginRound hl2 (by rw [hrec]), ?_⟩
        obtain ⟨w₃, hw₃⟩ : ∃ w₃, w₂.putObj (w.heap.size + 1) (.loop { rec .ready none with state := .busy }) = w₃ := ⟨_, rfl⟩
        have hfr3 : Frm (fun b => b = w.heap.size + 1) w₂ w₃ := by rw [← hw₃]; exact frm_putObj _ _ _
        have hz3 : w₃.heap.size = w₂.heap.size := by rw [← hw₃]; exact size_putObj _ _ _
        have hl3 : w₃.heap[w.heap.size + 1]? = some (.loop { rec .ready none with state := .busy }) := by rw [← hw₃]; exact World.putObj_heap_same (by omega)
        have hk3 : w₃.heap[w.heap.size]? = some (.deferred (some [])) := by rw [← hw₃]; exact (World.putObj_heap_other (by omega)).trans hk2
        rw [hw₃]
        refine wpIn_mono (hq w₃ hfr3 hz3) ?_
        have fin : ∀ (jump : Option Code) (S₄ : Nat → Prop) (w₄ : World), Frm (fun k => S k ∨ W.heap.size ≤ k) w₃ w₄ → (∀ b, S₄ b → S b ∨ W.heap.size ≤ b) → (∀ b, S₄ b → b < w₄.heap.size) →
            ∃ w₅, (Instr.endRound (w.heap.size + 1) jump).run P w₄ = .ok (.bool jump.isNone) w₅ ∧ Frm (fun b => b = w.heap.size + 1) w₄ w₅ ∧ ¬ S₄ w.heap.size ∧ ¬ S₄ (w.heap.size + 1) ∧
              w₅.heap[w.heap.size + 1]? = some (.loop (rec (if jump.isNone then .ready else .done) jump)) ∧ w₅.heap[w.heap.size]? = some (.deferred (some [])) ∧
              Turn S' (fun b => S₄ b ∨ b = w.heap.size + 1 ∨ b = w.heap.size) W w₅ := by
          intro jump S₄ w₄ hf4 hn4 hs4
          have hl4 : w₄.heap[w.heap.size + 1]? = some (.loop { rec .ready none with state := .busy }) := (hf4.block _ (by omega) (fun h => by rcases h with h | h; exact n2 h; omega)).trans hl3
          have hk4 : w₄.heap[w.heap.size]? = some (.deferred (some [])) := (hf4.block _ (by omega) (fun h => by rcases h with h | h; exact n1 h; omega)).trans hk3
          have hz4 := hf4.size
          have hr := run_endRound (P := P) jump hl4
          rw [hrec] at hr
          refine ⟨_, hr, frm_putObj _ _ _, fun h => ?_, fun h => ?_, ?_, ?_, ?_⟩
          · rcases hn4 _ h with h1 | h1; exact n1 h1; omega
          · rcases hn4 _ h with h1 | h1; exact n2 h1; omega
          · rw [World.putObj_heap_same (by omega), hrec]
          · exact (World.putObj_heap_other (by omega)).trans hk4
          · refine ⟨?_, ?_, ?_⟩
            · refine ((hf12.trans (U := S') hfr3 (fun _ x => x.elim) (fun b hb => .inl ((hSS b).2 (.inr (.inl hb))))).trans (U := S') hf4 (fun _ x => x) (fun b hb => ?_)).trans (frm_putObj _ _ _) (fun _ x => x) (fun b hb => .inl ((hSS b).2 (.inr (.inl hb))))
              rcases hb with hb | hb
              · exact .inl ((hSS b).2 (.inl hb))
              · exact .inr hb
            · rintro b (hb | hb)
              · rcases hn4 b hb with h | h
                · exact .inl ((hSS b).2 (.inl h))
                · exact .inr h
              · exact .inl ((hSS b).2 (.inr hb))
            · rw [size_putObj]
              rintro b (hb | hb | hb)
              · exact hs4 b hb
              · omega
              · omega
        have stab5 : ∀ {J : (Nat → Prop) → World → Prop} {S₄ : Nat → Prop} {w₄ w₅ : World}, Stab w.heap.size J → Frm (fun b => b = w.heap.size + 1) w₄ w₅ → ¬ S₄ (w.heap.size + 1) → J S₄ w₄ → J S₄ w₅ :=
          fun hst hf hn hj => hst _ _ _ hj (hf.mono fun b hb => by subst hb; exact ⟨by omega, hn⟩)
        intro e a₃ w₄ hp
        cases e with
        | normal =>
          obtain ⟨S₄, hf4, hn4, hs4, hi4⟩ := hp
          obtain ⟨w₅, hr, hf5, m1, m2, hl5, hk5, ht⟩ := fin none S₄ w₄ hf4 hn4 hs4
          exact ⟨_, _, hr, true, rfl, _, ht, by rw [if_pos rfl]; exact ⟨S₄, fun _ => Iff.rfl, m1, m2, stab5 (hI _) hf5 m2 hi4, hl5, hk5⟩⟩
        | ret =>
          obtain ⟨S₄, hf4, hn4, hs4, hi4⟩ := hp
          obtain ⟨w₅, hr, hf5, m1, m2, hl5, hk5, ht⟩ := fin (some .ret) S₄ w₄ hf4 hn4 hs4
          exact ⟨_, _, hr, false, rfl, _, ht, by rw [if_neg (by simp)]; exact ⟨S₄, _, fun _ => Iff.rfl, m1, m2, stab5 (hX _ _) hf5 m2 hi4, hl5, hk5⟩⟩
        | exit id =>
          obtain ⟨S₄, hf4, hn4, hs4, hi4⟩ := hp
          obtain ⟨w₅, hr, hf5, m1, m2, hl5, hk5, ht⟩ := fin (some (.exit id)) S₄ w₄ hf4 hn4 hs4
          exact ⟨_, _, hr, false, rfl, _, ht, by rw [if_neg (by simp)]; exact ⟨S₄, _, fun _ => Iff.rfl, m1, m2, stab5 (hX _ _) hf5 m2 hi4, hl5, hk5⟩⟩
        | goto t => exact hp.elim
        | panic ch => exact hp.elim
        | outgrown => exact hp.elim
      | ret => exact hq.elim
      | exit id => exact hq.elim
      | goto t => exact hq.elim
      | panic ch => exact hq.elim
      | outgrown => exact hq.elim
    · -- behind the iterator
      rintro e W2 ⟨rfl, S', ht, hcase⟩
      have hback : ∀ (S₂ : Nat → Prop) (o : Obj), (∀ b, S' b ↔ S₂ b ∨ b = w.heap.size + 1 ∨ b = w.heap.size) → ¬ S₂ (w.heap.size + 1) → ¬ S₂ w.heap.size → Turn S S₂ w (W2.putObj (w.heap.size + 1) o) := by
        intro S₂ o hSS m2 m1
        refine ⟨?_, ?_, ?_⟩
        · refine ((hF1.non (S := S)).trans (U := S) ht.frm (fun _ x => x) (fun b hb => ?_)).trans (frm_putObj _ _ _) (fun _ x => x) (fun b hb => .inr (by omega))
          rcases hb with hb | hb | hb
          · exact .inl hb
          · exact .inr (by omega)
          · exact .inr (by omega)
        · intro b hb
          rcases ht.new b ((hSS b).2 (.inl hb)) with (h | h | h) | h
          · exact .inl h
          · exact .inr (by omega)
          · exact .inr (by omega)
          · exact .inr (by omega)
        · intro b hb
          rw [size_putObj]
          exact ht.lt b ((hSS b).2 (.inl hb))
      rcases hcase with ⟨S₂, hSS, m1, m2, hi, hl, hk⟩ | ⟨pre, hpre, S₂, c, hSS, m1, m2, hx, hl, hk⟩
      · refine ⟨none, _, by have := run_endLoop (P := P) hl (by rw [hrec]; simp); rw [hrec] at this; exact this, ?_⟩
        refine hdone S₂ _ (hback S₂ _ hSS m2 m1) (hI _ _ _ _ hi ((frm_putObj _ _ _).mono fun b hb => by subst hb; exact ⟨by omega, m2⟩)) ((World.putObj_heap_other (by omega)).trans hk) m1
      · refine ⟨some c, _, by have := run_endLoop (P := P) hl (by rw [hrec]; simp); rw [hrec] at this; exact this, ?_⟩
        exact hstop c pre S₂ _ (hback S₂ _ hSS m2 m1) hpre (hX _ _ _ _ _ hx ((frm_putObj _ _ _).mono fun b hb => by subst hb; exact ⟨by omega, m2⟩)) ((World.putObj_heap_other (by omega)).trans hk) m1

/-- a function value that is an iterator over xs, in w; it owns the blocks O. -/
def IterV {α : Type} (P : Program) (w : World) (fv : Value) (enc : α → Array Value) (O : Nat → Prop) (xs : List α) : Prop :=
  ∃ f caps, fv = .func (.func f) #[] caps ∧ (∀ args w, (callFunc f args).run P w = .ok (.enter f args) w) ∧ Iter P f caps enc O w xs ∧ ∀ b, O b → b < w.heap.size

theorem IterV.frm {α : Type} {P : Program} {w w' : World} {fv : Value} {enc : α → Array Value} {O S : Nat → Prop} {xs : List α} (h : IterV P w fv enc O xs) (f : Frm S w w') (hS : ∀ b, O b → ¬ S b) : IterV P w' fv enc O xs := by
  obtain ⟨g, caps, rfl, he, hi, hO⟩ := h
  refine ⟨g, caps, rfl, he, ?_, fun b hb => Nat.lt_of_lt_of_le (hO b hb) f.size⟩
  intro l I X W S' hfr
  exact hi l I X W S' ((f.mono fun x hx ho => hS x ho hx).trans' hfr)

theorem callFunc_enter {P : Program} {f : FuncId} {fn : Func} (hf : P.funcs[f]? = some fn) (hname : (fn.name == "runtime.NumGoroutine") = false) (hb : fn.body.isNone = false) (args : Array Value) (w : World) :
    (callFunc f args).run P w = .ok (.enter f args) w := by
  have h1 : fn.name ≠ "runtime.NumGoroutine" := by simpa using hname
  have h2 : ¬ fn.body = none := by intro h; simp [h] at hb
  simp [callFunc, program, Sem.run, hf, h1, h2]

/-- the loop over an iterator, at its value. -/
theorem wp_rangeV {α : Type} {P : Program} {g : Operand} {ps : Array Tmp} {assign body : Code} {Q : Exit → Act → World → Prop} {a : Act} {w : World}
    {enc : α → Array Value} {O : Nat → Prop} {xs : List α}
    (hit : IterV P w (a.eval g) enc O xs) (hps : ∀ x, (enc x).size = ps.size)
    (I : List α → (Nat → Prop) → World → Prop) (X : Code → List α → (Nat → Prop) → World → Prop) (S : Nat → Prop)
    (hS : ∀ b, O b → ¬ S b) (hlt : ∀ b, S b → b < w.heap.size)
    (hI : ∀ pre, Stab w.heap.size (I pre)) (hX : ∀ c pre, Stab w.heap.size (X c pre)) (h0 : I [] S w)
    (hround : ∀ l pre x S w₁, ¬ S l → w.heap.size ≤ l → l < w₁.heap.size → I pre S w₁ → pre ++ [x] <+: xs → (∀ b, S b → b < w₁.heap.size) →
      assign.wpIn (FW.inRound l) 0 P (Exit.then (fun a₁ w₂ => Frm Non w₁ w₂ ∧ ∀ w₃, Frm (fun b => b = l) w₂ w₃ → w₃.heap.size = w₂.heap.size →
        body.wpIn (FW.inRound l) 0 P (rPost I X (pre ++ [x]) S w₁.heap.size w₃) a₁ w₃) (fun _ _ _ => False))
        { tmps := (ps.zip (enc x)).foldl (fun t (p, v) => t.setIfInBounds p v) a.tmps, defers := [] } w₁)
    (hdone : ∀ S' w', Turn S S' w w' → I xs S' w' → w'.heap[w.heap.size]? = some (.deferred (some [])) → ¬ S' w.heap.size → Q .normal { a with defers := mark w.heap.size :: a.defers } w')
    (hstop : ∀ c pre S' w', Turn S S' w w' → pre <+: xs → X c pre S' w' → w'.heap[w.heap.size]? = some (.deferred (some [])) → ¬ S' w.heap.size →
      c.wpIn FW 0 P Q { a with defers := mark w.heap.size :: a.defers } w') :
    (Code.rangeFunc g ps assign body).wpIn FW 0 P Q a w := by
  obtain ⟨f, caps, he, heg, hi, hO⟩ := hit
  exact wp_range he heg hi (Frm.refl w) hO hps I X S hS hlt hI hX h0 hround hdone hstop

/-- how the body of a function with loops over iterators may end. -/
def mPost (P : Program) (fn : Func) (R : Ending → World → Prop) : Exit → Act → World → Prop
  | .normal, a, w | .ret, a, w => ∃ Ds : List Nat, a.defers = Ds.map mark ∧ Ds.Nodup ∧ (∀ D ∈ Ds, w.heap[D]? = some (.deferred (some []))) ∧
      ∀ w', Frm (fun b => b ∈ Ds) w w' → ∃ v, (results fn a.tmps).run P w' = .ok v w' ∧ R (.returned v) w'
  | _, _, _ => False

theorem leaves_marks {P : Program} {fn : Func} {tmps : Array Value} {R : Ending → World → Prop} : ∀ (Ds : List Nat) (w : World), Ds.Nodup → (∀ D ∈ Ds, w.heap[D]? = some (.deferred (some []))) →
    (∀ w', Frm (fun b => b ∈ Ds) w w' → ∃ v, (results fn tmps).run P w' = .ok v w' ∧ R (.returned v) w') → LeavesInM FW 0 P fn tmps R (Ds.map mark) .returning w := by
  intro Ds
  induction Ds with
  | nil =>
    intro w _ _ h
    exact h w (Frm.refl w)
  | cons D Ds ih =>
    intro w hnd hD h
    obtain ⟨hn1, hn2⟩ := List.nodup_cons.1 hnd
    have h0 := hD D (by simp)
    refine ⟨by simp, .inl ⟨D, _, rfl, run_takeDeferred h0, ?_⟩⟩
    refine ih _ hn2 (fun D' hD' => (World.putObj_heap_other (fun e => hn1 (by rw [← e]; exact hD'))).trans (hD D' (by simp [hD']))) ?_
    intro w' hf
    exact h w' ((frm_putObj w D _).trans hf (fun b e => by simp [e]) (fun b hb => .inl (by simp [hb])))

theorem calls_of_range {P : Program} {f : FuncId} {fn : Func} {c : Code} {args : Array Value} {w : World} {R : Ending → World → Prop}
    (hf : P.funcs[f]? = some fn) (hb : fn.body = some c)
    (h : c.wpIn FW 0 P (mPost P fn R) { tmps := args ++ Array.replicate (fn.ntmps - args.size) undef, defers := [] } w) : Calls P f args w R := by
  refine callsIn_wide.1 (callsIn_of_wp_marks (F := FW) (n := 0) hf hb trivial (wpIn_mono h ?_))
  intro e a w hq
  cases e with
  | normal => obtain ⟨Ds, he, hn, hD, hk⟩ := hq; show LeavesInM _ _ _ _ _ _ a.defers _ _; rw [he]; exact leaves_marks Ds w hn hD hk
  | ret => obtain ⟨Ds, he, hn, hD, hk⟩ := hq; show LeavesInM _ _ _ _ _ _ a.defers _ _; rw [he]; exact leaves_marks Ds w hn hD hk
  | exit id => exact hq.elim
  | goto l => exact hq.elim
  | panic ch => exact hq.elim
  | outgrown => exact hq.elim

/-- a function without marks, by the fenced walk. -/
theorem calls_of_in {P : Program} {f : FuncId} {args : Array Value} {w : World} {R : Ending → World → Prop} (h : CallsIn FW 0 P f args w R) : Calls P f args w R := callsIn_wide.1 h
theorem in_of_calls {P : Program} {f : FuncId} {args : Array Value} {w : World} {R : Ending → World → Prop} {n : Nat} (h : Calls P f args w R) : CallsIn FW n P f args w R := callsIn_wide.2 h
theorem round_of_calls {P : Program} {f : FuncId} {args : Array Value} {w : World} {R : Ending → World → Prop} {n l : Nat} (h : Calls P f args w R) : CallsIn (FW.inRound l) n P f args w R := (callsIn_wide (n := n)).2 h
end Go.Proofs.Ytjkcclcjhidokaa
