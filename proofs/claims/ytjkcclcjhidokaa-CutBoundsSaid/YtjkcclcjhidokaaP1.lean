/- Sums over a graph's pairs. -/
import Derived.Test.YtjkcclcjhidokaaC4
namespace Go.Proofs.Ytjkcclcjhidokaa
open Go.RowKit

theorem sumTo_congr {f g : Nat → Int} {n : Nat} (h : ∀ i, i < n → f i = g i) : sumTo f n = sumTo g n := by
  induction n with
  | zero => rfl
  | succ n ih => simp only [sumTo, h n (by omega), ih (fun i hi => h i (by omega))]
theorem sum_fm {α : Type} (g : Nat → Option α) (f : α → Int) (n : Nat) : (((List.range n).filterMap g).map f).sum = sumTo (fun b => match g b with | none => 0 | some y => f y) n := by
  induction n with
  | zero => rfl
  | succ n ih =>
    rw [List.range_succ, List.filterMap_append, List.map_append, List.sum_append, ih]
    simp only [sumTo, List.filterMap_cons, List.filterMap_nil]
    cases g n <;> simp
theorem sum_row (B : Nat → Nat → Int) (n a : Nat) (f : Int × Int → Int) : ((row B n a).map f).sum = sumTo (fun b => if B a b = 0 then 0 else f ((b : Int), B a b)) n := by
  unfold row
  rw [sum_fm]
  refine sumTo_congr fun i _ => ?_
  by_cases h : B a i = 0 <;> simp [h]
theorem drop_lb {es : List (Int × Int)} (hs : Srt es) (t : Int) : es.drop (lb es t) = es.filter fun e => decide (t ≤ e.1) := by
  induction es with
  | nil => rfl
  | cons e es ih =>
    have hs' := List.pairwise_cons.1 hs
    by_cases h : e.1 < t
    · have : lb (e :: es) t = lb es t + 1 := by simp [lb, h]
      rw [this, List.drop_succ_cons, ih hs'.2, List.filter_cons, if_neg (by simp; omega)]
    · have hall : ∀ x ∈ e :: es, t ≤ x.1 := fun x hx => by
        rcases List.mem_cons.1 hx with rfl | hx
        · omega
        · have := hs'.1 x hx; omega
      have h0 : lb (e :: es) t = 0 := by
        unfold lb
        rw [List.filter_eq_nil_iff.2 (fun x hx => by have := hall x hx; simp; omega)]; rfl
      rw [h0, List.drop_zero, List.filter_eq_self.2 (fun x hx => by simpa using hall x hx)]
theorem sum_edges (B : Nat → Nat → Int) (n : Nat) (f : Int × Int × Int → Int) : ((edges B n).map f).sum = sumTo (fun a => sumTo (fun b => if a ≤ b ∧ B a b ≠ 0 then f ((a : Int), (b : Int), B a b) else 0) n) n := by
  unfold edges
  suffices h : ∀ m, (((List.range m).flatMap (edgesAt B n)).map f).sum = sumTo (fun a => sumTo (fun b => if a ≤ b ∧ B a b ≠ 0 then f ((a : Int), (b : Int), B a b) else 0) n) m from h n
  intro m
  induction m with
  | zero => rfl
  | succ m ih =>
    rw [List.range_succ, List.flatMap_append, List.map_append, List.sum_append, ih]
    simp only [sumTo, List.flatMap_cons, List.flatMap_nil, List.append_nil]
    congr 1
    unfold edgesAt
    rw [drop_lb (row_srt B n m), List.map_map, row, List.filter_filterMap, sum_fm]
    refine sumTo_congr fun b _ => ?_
    by_cases h : B m b = 0
    · simp [h]
    · by_cases h2 : m ≤ b
      · simp [h, h2, Option.filter]
      · simp [h, h2, Option.filter]
theorem mem_edges {B : Nat → Nat → Int} {n : Nat} {e : Int × Int × Int} (h : e ∈ edges B n) : ∃ a b : Nat, a ≤ b ∧ b < n ∧ B a b ≠ 0 ∧ e = ((a : Int), (b : Int), B a b) := by
  unfold edges at h
  obtain ⟨a, ha, h⟩ := List.mem_flatMap.1 h
  unfold edgesAt at h
  rw [drop_lb (row_srt B n a)] at h
  obtain ⟨x, hx, rfl⟩ := List.mem_map.1 h
  obtain ⟨hx, ht⟩ := List.mem_filter.1 hx
  obtain ⟨b, hb, h0, rfl⟩ := mem_row.1 hx
  exact ⟨a, b, by simpa using ht, hb, h0, rfl⟩

/-- what an edge adds to the cut. -/
def cutF (ps : List Int) (e : Int × Int × Int) : Int := if pt ps e.1.toNat ≠ pt ps e.2.1.toNat then e.2.2 else 0
theorem cut_edges {n : Nat} (B : Nat → Nat → Int) (ps : List Int) (hl : ps.length = n) : ((edges B n).map (cutF ps)).sum = cutB B ps := by
  rw [sum_edges]
  unfold cutB
  rw [hl]
  refine sumTo_congr fun a _ => sumTo_congr fun b _ => ?_
  unfold cutF cutE
  simp only [Int.toNat_natCast]
  by_cases h0 : B a b = 0
  · simp [h0]
  · by_cases hp : pt ps a = pt ps b
    · simp [hp]
    · have : a ≠ b := fun e => hp (by rw [e])
      by_cases hab : a < b
      · rw [if_pos ⟨by omega, h0⟩, if_pos hp, if_pos ⟨hab, hp⟩]
      · rw [if_neg (by omega), if_neg (by omega)]
/-- the sums of what is ahead lie between. -/
theorem sum_pre {α : Type} {f : α → Int} {es pre : List α} (h : pre <+: es) (h0 : ∀ e ∈ es, 0 ≤ f e) : 0 ≤ (pre.map f).sum ∧ (pre.map f).sum ≤ (es.map f).sum := by
  obtain ⟨t, rfl⟩ := h
  have nn : ∀ l : List α, (∀ e ∈ l, 0 ≤ f e) → 0 ≤ (l.map f).sum := fun l hl => by
    induction l with
    | nil => simp
    | cons x l ih => have := hl x (by simp); have := ih (fun e he => hl e (by simp [he])); simp; omega
  have h1 := nn pre (fun e he => h0 e (by simp [he]))
  have h2 := nn t (fun e he => h0 e (by simp [he]))
  rw [List.map_append, List.sum_append]; omega
theorem map_snoc {α : Type} (f : α → Int) (pre : List α) (x : α) : ((pre ++ [x]).map f).sum = (pre.map f).sum + f x := by simp
end Go.Proofs.Ytjkcclcjhidokaa
