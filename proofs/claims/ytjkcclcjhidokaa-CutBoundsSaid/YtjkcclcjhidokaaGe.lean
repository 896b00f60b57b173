/- What is near a thing, and all pairs, walked. -/
import Derived.Test.YtjkcclcjhidokaaGs
import Derived.Shelf.RegionOpen
namespace Go.Proofs.Ytjkcclcjhidokaa
open Go.RowKit
set_option maxHeartbeats 400000
attribute [local go_sem] Oper.semAt_some

theorem near_any {w : World} {gb : Nat} {ws : List Int} {B : Nat → Nat → Int} {S : Nat → Prop} (h : GAt w gb ws B S) (k : Nat) (hk : k < ws.length) :
    Calls Try.prog 86 #[ptr gb, .int .i64 k] w fun e w' => ∃ fv O, e = .returned fv ∧ EIt w' fv O (row B ws.length k) ∧ Frm Non w w' ∧ (∀ b, O b → w.heap.size ≤ b) := by
  obtain ⟨⟨wv, nv, ms, vs, hg⟩, hB, hn, _⟩ := h
  have ht := there_any hg hn k
  rw [decide_eq_true ⟨by omega, by omega⟩] at ht
  obtain ⟨g, cap, m, v, rfl, hcap, hkm, hc0, hc1, _, _, hm⟩ := hg.at k _ (adj_at B _ k hk)
  have hal := all_any _ m v w hm (by have := row_len B ws.length k; omega)
  clear hg hB hm
  unfold ptr at *
  go_enter Try.func86, Try.ntmps86
  go_wp2_with (first | (go_at_call 99; refine ht.mono ?_; rintro e w' ⟨rfl, rfl⟩) | (go_at_call 118; refine hal.mono ?_; rintro e w' ⟨fv, O, rfl, h1, h2, h3⟩))
  go_ret
  exact ⟨fv, O, rfl, h1, h2, h3⟩

theorem wpIn_loop_k {F : Fence} {n : Nat} {P : Program} {c : Code} {Q : Exit → Act → World → Prop} {a : Act} {w : World} (I : Act → World → Prop) (μ : Act → World → Nat) (h₀ : I a w)
    (round : ∀ a w, I a w → ∀ K : Act → World → Prop, (∀ a' w', I a' w' ∧ μ a' w' < μ a w → K a' w') → c.wpIn F n P (Exit.then K Q) a w) : (Code.loop c).wpIn F n P Q a w :=
  wpIn_loop I μ h₀ fun a w h => round a w h _ fun _ _ h => h

/-- the pairs from a thing on: those after it that something is between. -/
def edgesAt (B : Nat → Nat → Int) (n a : Nat) : List (Int × Int × Int) := ((row B n a).drop (lb (row B n a) a)).map fun e => ((a : Int), e.1, e.2)
def edges (B : Nat → Nat → Int) (n : Nat) : List (Int × Int × Int) := (List.range n).flatMap (edgesAt B n)
def encE (e : Int × Int × Int) : Array Value := #[.agg #[.int .i64 e.1, .int .i64 e.2.1, .int .i64 e.2.2]]

theorem fold2 (p q : Tmp) (u v : Value) (t : Array Value) : ((#[p, q] : Array Tmp).zip (#[u, v] : Array Value)).foldl (fun t (x : Tmp × Value) => t.setIfInBounds x.1 x.2) t = (t.setIfInBounds p u).setIfInBounds q v := by
  simp [List.zip_toArray]
theorem fold1 (p : Tmp) (u : Value) (t : Array Value) : ((#[p] : Array Tmp).zip (#[u] : Array Value)).foldl (fun t (x : Tmp × Value) => t.setIfInBounds x.1 x.2) t = t.setIfInBounds p u := by
  simp [List.zip_toArray]

/-- a stretch of code, by what it leaves. -/
theorem wpIn_via {F : Fence} {n : Nat} {P : Program} {c : Code} {K : Act → World → Prop} {Q : Exit → Act → World → Prop} {a : Act} {w : World} (R : Act → World → Prop)
    (h : c.wpIn F n P (Exit.then R (fun _ _ _ => False)) a w) (hK : ∀ a' w', R a' w' → K a' w') : c.wpIn F n P (Exit.then K Q) a w := by
  refine wpIn_mono h ?_
  intro e a' w' hq
  cases e with
  | normal => exact hK a' w' hq
  | _ => exact hq.elim

/-- the marks of an activation: their blocks are as they were laid. -/
def Marks (Ds : List Nat) (N : Nat) (S : Nat → Prop) (w : World) : Prop := Ds.Nodup ∧ ∀ D ∈ Ds, N ≤ D ∧ ¬ S D ∧ w.heap[D]? = some (.deferred (some []))
theorem Marks.nil (N : Nat) (S : Nat → Prop) (w : World) : Marks [] N S w := ⟨List.nodup_nil, fun D hD => by simp at hD⟩
theorem Marks.lt {Ds : List Nat} {N : Nat} {S : Nat → Prop} {w : World} (h : Marks Ds N S w) : ∀ D ∈ Ds, D < w.heap.size := fun D hD => (Array.getElem?_eq_some_iff.1 (h.2 D hD).2.2).1
theorem Marks.turn {Ds : List Nat} {N : Nat} {S S' : Nat → Prop} {w w' : World} (h : Marks Ds N S w) (t : Turn S S' w w') : Marks Ds N S' w' :=
  ⟨h.1, fun D hD => by
    obtain ⟨h1, h2, h3⟩ := h.2 D hD
    have hlt := h.lt D hD
    exact ⟨h1, fun hs => by rcases t.new D hs with h4 | h4; exact h2 h4; omega, (t.frm.block D hlt h2).trans h3⟩⟩
theorem Marks.cons {Ds : List Nat} {N D : Nat} {S S' : Nat → Prop} {w w' : World} (h : Marks Ds N S w) (t : Turn S S' w w') (hN : N ≤ w.heap.size) (hw : w'.heap[w.heap.size]? = some (.deferred (some []))) (hS : ¬ S' w.heap.size) (hD : D = w.heap.size) : Marks (D :: Ds) N S' w' := by
  subst hD
  have ht := h.turn t
  refine ⟨List.nodup_cons.2 ⟨fun hD => by have := h.lt _ hD; omega, h.1⟩, fun D hD => ?_⟩
  rcases List.mem_cons.1 hD with rfl | hD
  · exact ⟨hN, hS, hw⟩
  · exact ht.2 D hD
theorem Marks.shut {Ds : List Nat} {N : Nat} {S : Nat → Prop} {w w' : World} (h : Marks Ds N S w) (f : Frm (fun b => b ∈ Ds) w w') : Frm (fun b => N ≤ b ∧ ¬ S b) w w' := f.mono fun b hb => ⟨(h.2 b hb).1, (h.2 b hb).2.1⟩
theorem Turn.shut {S S' : Nat → Prop} {w w1 w2 : World} (t : Turn S S' w w1) (f : Frm (fun b => w.heap.size ≤ b ∧ ¬ S' b) w1 w2) : Turn S S' w w2 :=
  ⟨t.frm.trans f (fun _ x => x) (fun _ x => .inr x.1), t.new, fun b hb => Nat.lt_of_lt_of_le (t.lt b hb) f.size⟩
theorem edges_prefix (B : Nat → Nat → Int) (n k : Nat) (hk : k < n) (pre : List (Int × Int)) (h : pre <+: (row B n k).drop (lb (row B n k) k)) :
    (List.range k).flatMap (edgesAt B n) ++ pre.map (fun e => ((k : Int), e.1, e.2)) <+: edges B n := by
  obtain ⟨t, ht⟩ := h
  have h1 : List.range n = List.range k ++ (k :: (List.range' (k + 1) (n - k - 1))) := by
    rw [List.range_eq_range', List.range_eq_range', show n = k + (1 + (n - k - 1)) from by omega, ← List.range'_append_1, ← List.range'_append_1]
    simp
  unfold edges
  rw [h1, List.flatMap_append, List.flatMap_cons]
  refine List.prefix_append_right_inj _ |>.2 ?_
  unfold edgesAt
  rw [← ht, List.map_append, List.append_assoc]
  exact List.prefix_append _ _
theorem edges_next (B : Nat → Nat → Int) (n k : Nat) : (List.range k).flatMap (edgesAt B n) ++ ((row B n k).drop (lb (row B n k) k)).map (fun e => ((k : Int), e.1, e.2)) = (List.range (k + 1)).flatMap (edgesAt B n) := by
  rw [List.range_succ, List.flatMap_append]
  simp [edgesAt]
end Go.Proofs.Ytjkcclcjhidokaa
