/- The plain laws of cuts. -/
import Derived.Test.YtjkcclcjhidokaaC9
namespace Go.Proofs.Ytjkcclcjhidokaa
open Go.RowKit

theorem sumTo_add (f g : Nat → Int) (n : Nat) : sumTo (fun i => f i + g i) n = sumTo f n + sumTo g n := by
  induction n with
  | zero => rfl
  | succ n ih => simp only [sumTo, ih]; omega
theorem sumTo_sub (f g : Nat → Int) (n : Nat) : sumTo (fun i => f i - g i) n = sumTo f n - sumTo g n := by
  induction n with
  | zero => rfl
  | succ n ih => simp only [sumTo, ih]; omega
theorem sumTo_le {f g : Nat → Int} {n : Nat} (h : ∀ i, i < n → f i ≤ g i) : sumTo f n ≤ sumTo g n := by
  induction n with
  | zero => exact Int.le_refl _
  | succ n ih => have := h n (by omega); have := ih (fun i hi => h i (by omega)); simp only [sumTo]; omega
theorem sumTo_swap (f : Nat → Nat → Int) (n m : Nat) : sumTo (fun a => sumTo (f a) m) n = sumTo (fun b => sumTo (fun a => f a b) n) m := by
  induction n with
  | zero => rw [sumTo_zero (fun b => sumTo (fun a => f a b) 0) m (fun _ _ => rfl)]; rfl
  | succ n ih => simp only [sumTo, ih, sumTo_add]
theorem sumTo_one (f : Nat → Int) (k n : Nat) : sumTo (fun i => if i = k then f i else 0) n = if k < n then f k else 0 := by
  induction n with
  | zero => simp [sumTo]
  | succ n ih =>
    simp only [sumTo, ih]
    by_cases h1 : k < n
    · rw [if_pos h1, if_neg (by omega), if_pos (by omega)]; omega
    · by_cases h2 : n = k
      · subst h2; rw [if_neg h1, if_pos rfl, if_pos (by omega)]; omega
      · rw [if_neg h1, if_neg h2, if_neg (by omega)]; omega
theorem sum_sumTo (ws : List Int) : ws.sum = sumTo (pt ws) ws.length := by
  suffices h : ∀ k, k ≤ ws.length → (ws.take k).sum = sumTo (pt ws) k by have := h ws.length (Nat.le_refl _); rwa [List.take_length] at this
  intro k hk
  induction k with
  | zero => rfl
  | succ k ih => rw [sum_snoc ws k (by omega), ih (by omega)]; simp only [sumTo]; rw [pt_get ws k (by omega)]
theorem pt_set (ps : List Int) (i : Nat) (q : Int) (b : Nat) : pt (ps.set i q) b = if i = b ∧ i < ps.length then q else pt ps b := by
  unfold pt
  simp only [List.getD_eq_getElem?_getD, List.getElem?_set]
  by_cases h : i = b
  · subst h
    by_cases hl : i < ps.length
    · simp [hl]
    · simp [hl]
  · simp [h]

/-- all that is between unlike parts, both ways. -/
def fullE (B : Nat → Nat → Int) (ps : List Int) (a b : Nat) : Int := if pt ps a ≠ pt ps b then B a b else 0
theorem full_cut {n : Nat} {B : Nat → Nat → Int} (hB : BOk n B) (ps : List Int) (m : Nat) : sumTo (fun a => sumTo (fullE B ps a) m) m = sumTo (fun a => sumTo (cutE B ps a) m) m + sumTo (fun a => sumTo (cutE B ps a) m) m := by
  have h1 : sumTo (fun a => sumTo (fullE B ps a) m) m = sumTo (fun a => sumTo (cutE B ps a) m) m + sumTo (fun a => sumTo (fun b => cutE B ps b a) m) m := by
    rw [← sumTo_add]
    refine sumTo_congr fun a _ => ?_
    rw [← sumTo_add]
    refine sumTo_congr fun b _ => ?_
    unfold fullE cutE
    by_cases hp : pt ps a = pt ps b
    · simp [hp]
    · have hab : a ≠ b := fun e => hp (by rw [e])
      have hp' : ¬ pt ps b = pt ps a := fun e => hp e.symm
      by_cases hlt : a < b
      · rw [if_pos hp, if_pos ⟨hlt, hp⟩, if_neg (by omega)]; omega
      · rw [if_pos hp, if_neg (by omega), if_pos ⟨by omega, hp'⟩, hB.sym b a]; omega
  rw [h1, sumTo_swap (fun a b => cutE B ps b a)]
theorem gain_cut {n : Nat} {B : Nat → Nat → Int} (hB : BOk n B) (ps : List Int) (i : Nat) (q : Int) (hi : i < ps.length) (hq : pt ps i ≠ q) : cutB B ps - cutB B (ps.set i q) = gainB B ps i q := by
  have h1 := full_cut hB ps ps.length
  have h2 := full_cut hB (ps.set i q) ps.length
  have h3 : sumTo (fun a => sumTo (fullE B ps a) ps.length) ps.length - sumTo (fun a => sumTo (fullE B (ps.set i q) a) ps.length) ps.length = gainB B ps i q + gainB B ps i q := by
    rw [← sumTo_sub]
    have h4 : ∀ a, sumTo (fullE B ps a) ps.length - sumTo (fullE B (ps.set i q) a) ps.length = (if a = i then sumTo (gainE B ps i q) ps.length else 0) + gainE B ps i q a := by
      intro a
      rw [← sumTo_sub]
      by_cases ha : a = i
      · subst ha
        rw [if_pos rfl]
        have h5 : gainE B ps a q a = 0 := by unfold gainE; rw [hB.self a]; simp
        rw [h5, Int.add_zero]
        refine sumTo_congr fun b _ => ?_
        have s1 : pt (ps.set a q) a = q := by rw [pt_set, if_pos ⟨rfl, hi⟩]
        by_cases hb : a = b
        · subst hb; unfold fullE gainE; rw [hB.self a]; simp
        · have s2 : pt (ps.set a q) b = pt ps b := by rw [pt_set, if_neg (fun h => hb h.1)]
          unfold fullE gainE
          rw [s1, s2]
          by_cases e1 : pt ps b = q
          · simp [e1, hq]
          · by_cases e3 : pt ps b = pt ps a
            · simp [e3, hq, Ne.symm hq]
            · simp [e1, e3, Ne.symm e1, Ne.symm e3]
      · rw [if_neg ha, Int.zero_add]
        have h6 : ∀ b, fullE B ps a b - fullE B (ps.set i q) a b = if b = i then gainE B ps i q a else 0 := by
          intro b
          have s1 : pt (ps.set i q) a = pt ps a := by rw [pt_set, if_neg (fun h => ha h.1.symm)]
          by_cases hb : b = i
          · subst hb
            have s2 : pt (ps.set b q) b = q := by rw [pt_set, if_pos ⟨rfl, hi⟩]
            unfold fullE gainE
            rw [s1, s2, if_pos rfl, hB.sym a b]
            by_cases e1 : pt ps a = q
            · simp [e1, Ne.symm hq]
            · by_cases e3 : pt ps a = pt ps b
              · simp [e3, hq]
              · simp [e1, e3]
          · have s2 : pt (ps.set i q) b = pt ps b := by rw [pt_set, if_neg (fun h => hb h.1.symm)]
            unfold fullE
            rw [s1, s2, if_neg hb]; omega
        rw [sumTo_congr (fun b _ => h6 b), sumTo_one (fun _ => gainE B ps i q a), if_pos hi]
    rw [sumTo_congr (fun a _ => h4 a), sumTo_add, sumTo_one (fun _ => sumTo (gainE B ps i q) ps.length), if_pos hi]
    rfl
  unfold cutB
  rw [List.length_set]
  omega
theorem gainV_cut {n : Nat} {B : Nat → Nat → Int} (hB : BOk n B) (ps : List Int) (k : Int) (i : Nat) (q : Int) (hr : rightB n ps k = true) (hi : i < ps.length) (h0 : 0 ≤ q) (hk : q < k) : cutB B ps - cutB B (ps.set i q) = gainV n B ps k i q := by
  unfold gainV
  by_cases hq : pt ps i = q
  · rw [if_neg (fun h => h.2.2.2.2.2 (by simpa using hq))]
    have : ps.set i q = ps := by rw [← hq, pt_get ps i hi]; exact List.set_getElem_self hi
    rw [this]; omega
  · rw [if_pos ⟨hr, by omega, by omega, h0, hk, by simpa using hq⟩]
    exact gain_cut hB ps i q hi hq
theorem right_set {n : Nat} {ps : List Int} {k : Int} (i : Nat) (q : Int) (hr : rightB n ps k = true) (h0 : 0 ≤ q) (hk : q < k) : rightB n (ps.set i q) k = true := by
  obtain ⟨h1, h2, h3, h4⟩ := rightB_iff hr
  refine decide_eq_true ⟨h1, h2, by simpa using h3, fun p hp => ?_⟩
  rcases List.mem_or_eq_of_mem_set hp with h | h
  · exact h4 p h
  · rw [h]; exact ⟨h0, hk⟩
theorem gainV_back {n : Nat} {B : Nat → Nat → Int} (hB : BOk n B) (ps : List Int) (k : Int) (i : Nat) (q : Int) (hr : rightB n ps k = true) (hi : i < ps.length) (h0 : 0 ≤ q) (hk : q < k) : gainV n B (ps.set i q) k i (pt ps i) = - gainV n B ps k i q := by
  have hp := (rightB_iff hr).2.2.2 _ (List.getElem_mem hi)
  rw [← pt_get ps i hi] at hp
  have h1 := gainV_cut hB ps k i q hr hi h0 hk
  have h2 := gainV_cut hB (ps.set i q) k i (pt ps i) (right_set i q hr h0 hk) (by simpa using hi) hp.1 hp.2
  rw [List.set_set] at h2
  have h3 : ps.set i (pt ps i) = ps := by rw [pt_get ps i hi]; exact List.set_getElem_self hi
  rw [h3] at h2
  omega
theorem sum_map_range (f : Nat → Int) (n : Nat) : ((List.range n).map f).sum = sumTo f n := by
  induction n with
  | zero => rfl
  | succ n ih => rw [List.range_succ, List.map_append, List.sum_append, ih]; simp [sumTo]
theorem wts_sum {n : Nat} (ws ps : List Int) (k : Nat) (hr : ∀ p ∈ ps, 0 ≤ p ∧ p < k) (hl : ps.length = n) (hw : ws.length = n) : (wtsB ws ps k).sum = ws.sum := by
  unfold wtsB wtsTo
  rw [sum_map_range, sumTo_swap, sum_sumTo, hw, hl]
  refine sumTo_congr fun i hi => ?_
  have hp := hr _ (List.getElem_mem (show i < ps.length by omega))
  rw [← pt_get ps i (by omega)] at hp
  obtain ⟨m, hm⟩ := Int.eq_ofNat_of_zero_le hp.1
  have : ∀ q : Nat, wtE ws ps (q : Int) i = if q = m then (fun _ => pt ws i) q else 0 := fun q => by
    unfold wtE
    rw [hm]
    by_cases h : q = m
    · subst h; simp
    · rw [if_neg (by omega), if_neg h]
  rw [sumTo_congr (fun q _ => this q), sumTo_one, if_pos (by omega)]
theorem cut_zeros (B : Nat → Nat → Int) (n : Nat) : cutB B (List.replicate n 0) = 0 := by
  unfold cutB
  refine sumTo_zero _ _ fun a _ => sumTo_zero _ _ fun b _ => ?_
  unfold cutE
  have : ∀ a, pt (List.replicate n 0) a = 0 := fun a => by unfold pt; simp [List.getElem?_replicate]; split <;> rfl
  rw [this, this]; simp
theorem right_zeros {n : Nat} : rightB n (List.replicate n 0) 1 = true := decide_eq_true ⟨by omega, by omega, by simp, fun p hp => by rw [(List.mem_replicate.1 hp).2]; omega⟩
theorem up_ge (a k : Int) (h0 : 0 ≤ a) (hk : 1 ≤ k) : a ≤ upI a k * k := by
  unfold upI
  by_cases h : a < 1
  · rw [if_pos (.inl h)]; omega
  · rw [if_neg (by omega), Int.tdiv_eq_ediv_of_nonneg h0]
    have h1 := Int.emod_add_mul_ediv a k
    have h2 := Int.emod_nonneg a (show k ≠ 0 by omega)
    have h3 := Int.emod_lt_of_pos a (show 0 < k by omega)
    split
    · rw [Int.add_mul, Int.mul_comm]; omega
    · rw [Int.mul_comm]; omega
theorem fits_zeros (ws : List Int) (hw : ∀ y ∈ ws, 0 ≤ y) : fitsB ws.length ws (List.replicate ws.length 0) 1 = true := by
  unfold fitsB
  rw [right_zeros, Bool.true_and]
  have h1 : wtsB ws (List.replicate ws.length 0) 1 = [ws.sum] := by
    have := wts_sum (n := ws.length) ws (List.replicate ws.length 0) 1 (fun p hp => by rw [(List.mem_replicate.1 hp).2]; omega) (by simp) rfl
    have hl : (wtsB ws (List.replicate ws.length 0) 1).length = 1 := wtsTo_length _ _ _ _
    match hh : wtsB ws (List.replicate ws.length 0) 1, hl with
    | [x], _ => rw [hh] at this; simp at this; rw [this]
  rw [show ((1 : Int).toNat) = 1 from rfl, h1]
  have h2 : 0 ≤ ws.sum := by
    clear h1
    induction ws with
    | nil => simp
    | cons y ws ih => have := hw y (by simp); have := ih (fun x hx => hw x (by simp [hx])); simp; omega
  have h3 := up_ge ws.sum 1 h2 (Int.le_refl _)
  have h4 : 0 ≤ maxW ws := by
    have : ∀ (l : List Int) (m : Int), 0 ≤ m → 0 ≤ l.foldl (fun m x => max m x) m := fun l => by
      induction l with
      | nil => exact fun m h => h
      | cons x l ih => exact fun m h => ih _ (show 0 ≤ max m x by omega)
    exact this ws 0 (Int.le_refl _)
  have h5 : ws.sum ≤ boundI ws 1 := by unfold boundI; omega
  simp; omega
theorem cut_ge {n : Nat} {B : Nat → Nat → Int} (hB : BOk n B) (ps : List Int) : 0 ≤ cutB B ps := by
  have h0 : sumTo (fun _ => (0 : Int)) ps.length = 0 := sumTo_zero _ _ (fun _ _ => rfl)
  unfold cutB
  rw [← h0]
  refine sumTo_le fun a _ => ?_
  have h1 : sumTo (fun _ => (0 : Int)) ps.length = 0 := h0
  rw [← h1]
  exact sumTo_le fun b _ => (cutE_bd hB ps a b).1
end Go.Proofs.Ytjkcclcjhidokaa
