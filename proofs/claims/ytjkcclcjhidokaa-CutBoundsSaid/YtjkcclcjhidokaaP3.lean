/- Plain laws: parts under other numbers; bounds with more parts; empty parts. -/
import Derived.Test.YtjkcclcjhidokaaP2
namespace Go.Proofs.Ytjkcclcjhidokaa
open Go.RowKit

theorem pt_map (f : Int → Int) (ps : List Int) (a : Nat) (h : a < ps.length) : pt (ps.map f) a = f (pt ps a) := by simp [pt, h]
theorem cut_map_le {n : Nat} {B : Nat → Nat → Int} (hB : BOk n B) (f : Int → Int) (ps : List Int) : cutB B (ps.map f) ≤ cutB B ps := by
  unfold cutB
  rw [List.length_map]
  refine sumTo_le fun a ha => sumTo_le fun b hb => ?_
  unfold cutE
  rw [pt_map f ps a ha, pt_map f ps b hb]
  have h0 := hB.ge a b
  by_cases h : pt ps a = pt ps b
  · simp [h]
  · by_cases h1 : a < b
    · simp only [h1, true_and, ne_eq, h, not_false_eq_true, if_true]
      split <;> omega
    · simp [h1]
theorem cut_map_inj (B : Nat → Nat → Int) (f : Int → Int) (hf : ∀ x y, f x = f y → x = y) (ps : List Int) : cutB B (ps.map f) = cutB B ps := by
  unfold cutB
  rw [List.length_map]
  refine sumTo_congr fun a ha => sumTo_congr fun b hb => ?_
  unfold cutE
  rw [pt_map f ps a ha, pt_map f ps b hb]
  by_cases h : pt ps a = pt ps b
  · simp [h]
  · have h2 : f (pt ps a) ≠ f (pt ps b) := fun e => h (hf _ _ e)
    simp [h, h2]
theorem right_map {n : Nat} {ps : List Int} {k : Int} (f : Int → Int) (hr : rightB n ps k = true) (hf : ∀ p, 0 ≤ p → p < k → 0 ≤ f p ∧ f p < k) : rightB n (ps.map f) k = true := by
  obtain ⟨h1, h2, h3, h4⟩ := rightB_iff hr
  refine decide_eq_true ⟨h1, h2, by simpa using h3, fun p hp => ?_⟩
  obtain ⟨q, hq, rfl⟩ := List.mem_map.1 hp
  exact hf q (h4 q hq).1 (h4 q hq).2
def turnL (k : Int) (ps : List Int) : List Int := ps.map fun p => k - 1 - p
def halfL (ps : List Int) : List Int := ps.map fun p => p / 2
theorem turnL_length (k : Int) (ps : List Int) : (turnL k ps).length = ps.length := List.length_map _
theorem halfL_length (ps : List Int) : (halfL ps).length = ps.length := List.length_map _
theorem turnL_snoc (k : Int) (ps : List Int) (j : Nat) (h : j < ps.length) : (turnL k ps).take (j + 1) = (turnL k ps).take j ++ [k - 1 - ps[j]] := by
  rw [← take_snoc (turnL k ps) j (by rw [turnL_length]; exact h)]; simp [turnL]
theorem halfL_snoc (ps : List Int) (j : Nat) (h : j < ps.length) : (halfL ps).take (j + 1) = (halfL ps).take j ++ [ps[j] / 2] := by
  rw [← take_snoc (halfL ps) j (by rw [halfL_length]; exact h)]; simp [halfL]
theorem wts_turn (ws ps : List Int) (K : Nat) : wtsB ws (turnL K ps) K = (wtsB ws ps K).reverse := by
  refine List.ext_getElem (by simp [wtsB, wtsTo]) fun q h1 h2 => ?_
  have hq : q < K := by simpa [wtsB, wtsTo] using h1
  rw [List.getElem_reverse]
  have hl : (wtsB ws ps K).length = K := wtsTo_length _ _ _ _
  have g1 : (wtsB ws (turnL K ps) K)[q] = sumTo (wtE ws (turnL K ps) q) (turnL K ps).length := wtsTo_get _ _ _ _ _ hq
  have g2 : (wtsB ws ps K)[(wtsB ws ps K).length - 1 - q] = sumTo (wtE ws ps ((K - 1 - q : Nat) : Int)) ps.length := by
    have := wtsTo_get ws ps K ps.length (K - 1 - q) (by omega)
    simp only [hl]
    exact this
  rw [g1, g2, turnL_length]
  refine sumTo_congr fun i hi => ?_
  unfold wtE
  unfold turnL
  rw [pt_map _ _ _ hi]
  have e : ((K : Int) - 1 - pt ps i = (q : Int)) ↔ pt ps i = ((K - 1 - q : Nat) : Int) := by omega
  by_cases h : pt ps i = ((K - 1 - q : Nat) : Int)
  · rw [if_pos (e.2 h), if_pos h]
  · rw [if_neg (fun x => h (e.1 x)), if_neg h]
theorem wts_turn_at (ws ps : List Int) (K q : Nat) (hq : q < K) : (wtsB ws (turnL K ps) K)[K - 1 - q]? = (wtsB ws ps K)[q]? := by
  have hl : (wtsB ws ps K).length = K := wtsTo_length _ _ _ _
  rw [wts_turn, List.getElem?_reverse (by omega)]
  congr 1
  omega
theorem right_turn {n : Nat} {ps : List Int} {K : Nat} (hr : rightB n ps K = true) : rightB n (turnL K ps) K = true := right_map _ hr fun p h1 h2 => by omega
theorem right_half {n : Nat} {ps : List Int} {K : Nat} (hr : rightB n ps K = true) : rightB n (halfL ps) K = true := right_map _ hr fun p h1 h2 => by omega
theorem fits_turn {n : Nat} (ws : List Int) {ps : List Int} {K : Nat} (hr : rightB n ps K = true) : fitsB n ws (turnL K ps) K = fitsB n ws ps K := by
  unfold fitsB
  rw [hr, right_turn hr]
  simp only [Int.toNat_natCast, wts_turn, List.any_reverse]
theorem cut_turn (B : Nat → Nat → Int) (ps : List Int) (k : Int) : cutB B (turnL k ps) = cutB B ps := cut_map_inj B _ (fun x y h => by simp at h; exact h) ps
theorem cut_half {n : Nat} {B : Nat → Nat → Int} (hB : BOk n B) (ps : List Int) : cutB B (halfL ps) ≤ cutB B ps := cut_map_le hB _ ps

/-! ### bounds -/
theorem up_mono (a k : Int) (h0 : 0 ≤ a) (hk : 1 ≤ k) : upI a (k + 1) ≤ upI a k := by
  unfold upI
  by_cases ha : a < 1
  · rw [if_pos (.inl ha), if_pos (.inl ha)]; exact Int.le_refl _
  rw [if_neg (by omega : ¬ (a < 1 ∨ k + 1 < 1)), if_neg (by omega : ¬ (a < 1 ∨ k < 1)), Int.tdiv_eq_ediv_of_nonneg h0, Int.tdiv_eq_ediv_of_nonneg h0]
  have e1 := Int.mul_ediv_add_emod a (k + 1)
  have e2 := Int.mul_ediv_add_emod a k
  have m1 := Int.emod_nonneg a (show k + 1 ≠ 0 by omega)
  have m2 := Int.emod_nonneg a (show k ≠ 0 by omega)
  have l1 := Int.emod_lt_of_pos a (show 0 < k + 1 by omega)
  have l2 := Int.emod_lt_of_pos a (show 0 < k by omega)
  have d1 := Int.ediv_nonneg h0 (show 0 ≤ k + 1 by omega)
  have d2 := Int.ediv_nonneg h0 (show 0 ≤ k by omega)
  generalize a / (k + 1) = q1 at *
  generalize a / k = q2 at *
  generalize a % (k + 1) = r1 at *
  generalize a % k = r2 at *
  have key : q1 ≤ q2 := by
    rcases Int.lt_or_le q2 q1 with h | h
    · have hm : k * (q2 + 1) ≤ k * q1 := Int.mul_le_mul_of_nonneg_left (by omega) (by omega)
      have e3 : (k + 1) * q1 = k * q1 + q1 := by rw [Int.add_mul, Int.one_mul]
      have e4 : k * (q2 + 1) = k * q2 + k := by rw [Int.mul_add, Int.mul_one]
      omega
    · exact h
  by_cases h1 : 0 < r1
  · rw [if_pos h1]
    by_cases h2 : 0 < r2
    · rw [if_pos h2]; omega
    · rw [if_neg h2]
      rcases Int.lt_or_le q1 q2 with h | h
      · omega
      · have : q1 = q2 := by omega
        subst this
        have e3 : (k + 1) * q1 = k * q1 + q1 := by rw [Int.add_mul, Int.one_mul]
        omega
  · rw [if_neg h1]
    split <;> omega
theorem bound_mono (ws : List Int) (h : ∀ y ∈ ws, 0 ≤ y) (k : Int) (hk : 1 ≤ k) : boundI ws (k + 1) ≤ boundI ws k := by
  unfold boundI
  have hs : 0 ≤ ws.sum := by
    clear hk
    induction ws with
    | nil => simp
    | cons x xs ih => have := h x (by simp); have := ih (fun y hy => h y (by simp [hy])); rw [List.sum_cons]; omega
  have := up_mono ws.sum k hs hk
  omega
theorem maxW_ge (ws : List Int) : ∀ y ∈ ws, y ≤ maxW ws := by
  have h : ∀ (ws : List Int) (m : Int), m ≤ ws.foldl (fun m x => max m x) m ∧ ∀ y ∈ ws, y ≤ ws.foldl (fun m x => max m x) m := by
    intro ws
    induction ws with
    | nil => intro m; simp
    | cons x xs ih =>
      intro m
      have := ih (max m x)
      rw [List.foldl_cons]
      refine ⟨by omega, fun y hy => ?_⟩
      rcases List.mem_cons.1 hy with h | h
      · subst h; omega
      · exact this.2 y h
  exact (h ws 0).2
theorem up_ge0 (a k : Int) (h0 : 0 ≤ a) (hk : 1 ≤ k) : 0 ≤ upI a k := by
  unfold upI
  split
  · exact Int.le_refl _
  · have := Int.tdiv_nonneg h0 (show 0 ≤ k by omega)
    split <;> omega
theorem up_le (a k : Int) (h0 : 0 ≤ a) (hk : 1 ≤ k) : upI a k ≤ a := by
  unfold upI
  split
  · exact h0
  · rw [Int.tdiv_eq_ediv_of_nonneg h0]
    have e2 := Int.mul_ediv_add_emod a k
    have m2 := Int.emod_nonneg a (show k ≠ 0 by omega)
    have d2 := Int.ediv_nonneg h0 (show 0 ≤ k by omega)
    generalize a / k = q at *
    generalize a % k = r at *
    have hm : 1 * q ≤ k * q := Int.mul_le_mul_of_nonneg_right hk d2
    split <;> omega
/-- a bound, times the parts, is at least the whole. -/
theorem bound_all (ws : List Int) (h : ∀ y ∈ ws, 0 ≤ y) (hs : 0 ≤ ws.sum) (k : Int) (hk : 1 ≤ k) : ws.sum ≤ boundI ws k * k := by
  have h1 := up_ge ws.sum k hs hk
  have h2 := maxW_bd ws (ws.sum) hs (fun x hx => by
    clear h1
    induction ws with
    | nil => simp at hx
    | cons y ys ih =>
      have hy := h y (by simp)
      have hs' : 0 ≤ ys.sum := by
        have : ∀ zs : List Int, (∀ z ∈ zs, 0 ≤ z) → 0 ≤ zs.sum := fun zs => by
          induction zs with
          | nil => simp
          | cons a b ih => intro h; have := h a (by simp); have := ih (fun y hy => h y (by simp [hy])); rw [List.sum_cons]; omega
        exact this ys fun z hz => h z (by simp [hz])
      rw [List.sum_cons]
      rcases List.mem_cons.1 hx with e | e
      · subst e; omega
      · have := ih (fun z hz => h z (by simp [hz])) hs' e; omega)
  unfold boundI
  rw [Int.add_mul]
  have := Int.mul_nonneg h2.1 (show 0 ≤ k by omega)
  omega

/-! ### empty parts -/
theorem wt_zero_iff {ws : List Int} (hw : ∀ y ∈ ws, 1 ≤ y) {ps : List Int} (hl : ps.length = ws.length) (q : Int) : sumTo (wtE ws ps q) ps.length = 0 ↔ q ∉ ps := by
  have hge : ∀ m, m ≤ ps.length → 0 ≤ sumTo (wtE ws ps q) m ∧ (sumTo (wtE ws ps q) m = 0 ↔ q ∉ ps.take m) := by
    intro m
    induction m with
    | zero => intro _; simp [sumTo]
    | succ m ih =>
      intro hm
      obtain ⟨h1, h2⟩ := ih (by omega)
      have hws : 1 ≤ pt ws m := by rw [pt_get ws m (by omega)]; exact hw _ (List.getElem_mem _)
      rw [← take_snoc ps m (by omega)]
      show 0 ≤ sumTo (wtE ws ps q) m + wtE ws ps q m ∧ (sumTo (wtE ws ps q) m + wtE ws ps q m = 0 ↔ _)
      unfold wtE at *
      rw [pt_get ps m (by omega)]
      by_cases h : ps[m] = q
      · rw [if_pos h]
        refine ⟨by omega, by simp [h]; omega⟩
      · rw [if_neg h]
        refine ⟨by omega, ?_⟩
        rw [Int.add_zero, h2]
        have hq : ¬ q = ps[m] := fun e => h e.symm
        simp only [List.mem_append, List.mem_singleton, hq, or_false]
  have := (hge ps.length (Nat.le_refl _)).2
  rwa [List.take_length] at this
/-- how many of the first m parts weigh nothing. -/
def zerosTo (l : List Int) (m : Nat) : Nat := ((l.take m).filter fun x => x == 0).length
theorem zeros_empty {ws : List Int} (hw : ∀ y ∈ ws, 1 ≤ y) {ps : List Int} (hl : ps.length = ws.length) (K : Nat) : zerosTo (wtsB ws ps K) K = (emptyTo ps K).length := by
  unfold zerosTo emptyTo
  have hl2 : (wtsB ws ps K).length = K := wtsTo_length _ _ _ _
  rw [List.take_of_length_le (by omega), List.length_map]
  unfold wtsB wtsTo
  rw [List.filter_map, List.length_map]
  congr 1
  refine List.filter_congr fun q _ => ?_
  rw [Bool.eq_iff_iff]
  simp only [Function.comp, beq_iff_eq, decide_eq_true_eq]
  exact wt_zero_iff hw hl _
theorem zeros_snoc (l : List Int) (m : Nat) (h : m < l.length) : zerosTo l (m + 1) = zerosTo l m + if l[m] = 0 then 1 else 0 := by
  unfold zerosTo
  rw [← take_snoc l m h, List.filter_append]
  by_cases e : l[m] = 0 <;> simp [e]
theorem zeros_le (l : List Int) (m : Nat) : zerosTo l m ≤ m := by
  unfold zerosTo
  have := List.length_filter_le (fun x : Int => x == 0) (l.take m)
  have := List.length_take_le m l
  omega
end Go.Proofs.Ytjkcclcjhidokaa
