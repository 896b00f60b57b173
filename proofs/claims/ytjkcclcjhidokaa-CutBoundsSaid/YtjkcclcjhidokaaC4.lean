/- The program's cut functions, walked: bounds, what fits. -/
import Derived.Test.YtjkcclcjhidokaaC3
namespace Go.Proofs.Ytjkcclcjhidokaa
open Go.RowKit
set_option maxHeartbeats 400000

theorem weights_not {w : World} {gb : Nat} {ws : List Int} {B : Nat → Nat → Int} {S : Nat → Prop} (h : GAt w gb ws B S) (ps : List Int) (v : Value) (hv : Rd w v ps.length (ints ps)) (hn : ps.length ≤ 1000000) (k : Int) (hr : rightB ws.length ps k = false) :
    Calls Try.prog 46 #[ptr gb, v, .int .i64 k] w fun e w' => e = .returned (.slice none 0 0) ∧ Frm Non w w' := by
  have hri := right_any h ps _ hv hn k
  rw [hr] at hri
  unfold ptr at *
  go_enter Try.func46, Try.ntmps46
  go_wp2_with fail
  refine hri.mono ?_
  rintro e w1 ⟨rfl, hf1⟩
  go_wp2
  go_ret
  exact ⟨rfl, hf1⟩
theorem cut_not {w : World} {gb : Nat} {ws : List Int} {B : Nat → Nat → Int} {S : Nat → Prop} (h : GAt w gb ws B S) (ps : List Int) (v : Value) (hv : Rd w v ps.length (ints ps)) (hn : ps.length ≤ 1000000) (k : Int) (hr : rightB ws.length ps k = false) :
    Calls Try.prog 45 #[ptr gb, v, .int .i64 k] w fun e w' => e = .returned (.int .i64 0) ∧ Frm Non w w' := by
  have hF : Frm Non w (w.alloc (.cells #[v] 33)) := (Frm.refl w).alloc _
  have hri := right_any (h.frm hF (fun _ _ x => x)) ps _ (hv.frm hF (fun _ _ x => x)) hn k
  rw [hr] at hri
  obtain ⟨a, cap, rfl, _, _, hc⟩ := hv
  obtain ⟨c0, _⟩ := blk_cell1 (show (w.alloc (.cells #[.slice a ps.length cap] 33)).heap[w.heap.size]? = some (.cells #[.slice a ps.length cap] 33 (0, 0)) from heap_alloc_new w _)
  unfold ptr at *
  go_enter Try.func45, Try.ntmps45
  go_wp2_with fail
  refine hri.mono ?_
  rintro e w1 ⟨rfl, hf1⟩
  go_wp2
  go_ret
  exact ⟨rfl, hF.trans' hf1⟩

theorem tdiv_up (a b : Int) (ha : 1 ≤ a) (hb : 1 ≤ b) : (a - 1).tdiv b + 1 = upI a b := by
  unfold upI
  rw [if_neg (by omega), Int.tdiv_eq_ediv_of_nonneg (by omega), Int.tdiv_eq_ediv_of_nonneg (by omega)]
  have h1 := Int.emod_add_mul_ediv a b
  have h2 := Int.emod_nonneg a (show b ≠ 0 by omega)
  have h3 := Int.emod_lt_of_pos a (show 0 < b by omega)
  have h4 := Int.emod_add_mul_ediv (a - 1) b
  have h5 := Int.emod_nonneg (a - 1) (show b ≠ 0 by omega)
  have h6 := Int.emod_lt_of_pos (a - 1) (show 0 < b by omega)
  split
  · have : (a - 1) / b = a / b := by
      refine Int.le_antisymm (Int.ediv_le_ediv (by omega) (by omega)) ?_
      rw [Int.le_ediv_iff_mul_le (by omega), Int.mul_comm]; omega
    rw [this]
  · have : (a - 1) / b = a / b - 1 := by
      have h7 : a = b * (a / b) := by omega
      refine Int.le_antisymm ?_ ?_
      · have : (a - 1) / b < a / b := by rw [Int.ediv_lt_iff_lt_mul (by omega), Int.mul_comm]; omega
        omega
      · rw [Int.le_ediv_iff_mul_le (by omega), Int.sub_mul, Int.mul_comm]; omega
    rw [this]; omega
theorem up_any (a b : Int) (w : World) (ha : a ≤ 4611686018427387904) (ha0 : 0 ≤ a) :
    Calls Try.prog 84 #[.int .i64 a, .int .i64 b] w fun e w' => e = .returned (.int .i64 (upI a b)) ∧ w = w' := by
  by_cases h1 : a < 1
  · rw [show upI a b = 0 from if_pos (.inl h1)]
    go_enter Try.func84, Try.ntmps84
    go_wp2
    go_ret
    exact ⟨rfl, rfl⟩
  have h1' : decide (a < 1) = false := by simpa using h1
  by_cases h2 : b < 1
  · rw [show upI a b = 0 from if_pos (.inr h2)]
    go_enter Try.func84, Try.ntmps84
    go_wp2
    go_ret
    exact ⟨rfl, rfl⟩
  have h2' : decide (b < 1) = false := by simpa using h2
  have hbz : (b == 0) = false := beq_eq_false_iff_ne.2 (by omega)
  rw [← tdiv_up a b (by omega) (by omega)]
  have q1 : 0 ≤ (a - 1).tdiv b := Int.tdiv_nonneg (by omega) (by omega)
  have q2 : (a - 1).tdiv b ≤ a := by rw [Int.tdiv_eq_ediv_of_nonneg (by omega)]; have := Int.ediv_le_self b (show 0 ≤ a - 1 by omega); omega
  go_enter Try.func84, Try.ntmps84
  go_wp2
  go_ret
  exact ⟨rfl, rfl⟩

/-- the bound of parts. -/
theorem bound_any {w : World} {gb : Nat} {ws : List Int} {B : Nat → Nat → Int} {S : Nat → Prop} (h : GAt w gb ws B S) (k : Int) :
    Calls Try.prog 42 #[ptr gb, .int .i64 k] w fun e w' => e = .returned (.int .i64 (if 1 ≤ k ∧ k ≤ 4096 then boundI ws k else 0)) ∧ w = w' := by
  have hG := h
  by_cases h1 : 1 ≤ k ∧ k ≤ 4096
  case neg =>
    rw [if_neg h1]
    have hd := decide_eq_false h1
    clear h1
    unfold ptr at *
    go_enter Try.func42, Try.ntmps42
    go_wp2_with (go_at_call 81; refine (cmay_any _ _).mono ?_; rintro e w' ⟨rfl, rfl⟩; rw [hd])
    go_ret
    exact ⟨rfl, rfl⟩
  rw [if_pos h1]
  have hd := decide_eq_true h1
  clear h1
  have hlen := glen_any h
  have htot := total_any h
  have hwb : ∀ y ∈ ws, 0 ≤ y ∧ y ≤ 1099511627776 := fun y hy => by have := h.2.2.2 y hy; omega
  have hn4 := h.2.2.1
  have hwt := fun i => gweight_any h i
  have hsum := sum_bd ws 1099511627776 hwb
  have hup : 0 ≤ upI ws.sum k ∧ upI ws.sum k ≤ ws.sum + 1 := by
    unfold upI
    split
    · omega
    · have : ws.sum.tdiv k ≤ ws.sum := by rw [Int.tdiv_eq_ediv_of_nonneg (by omega)]; exact Int.ediv_le_self _ (by omega)
      have : 0 ≤ ws.sum.tdiv k := Int.tdiv_nonneg (by omega) (by omega)
      split <;> omega
  have hmx := maxW_bd ws 1099511627776 (by omega) (fun x hx => (hwb x hx).2)
  obtain ⟨u1, u2⟩ := hup
  obtain ⟨m1, m2⟩ := hmx
  obtain ⟨s1, s2⟩ := hsum
  have HW := Lib.hid hwb
  clear hwb h hG
  unfold ptr at *
  go_enter Try.func42, Try.ntmps42
  go_wp2_with (first | (go_at_call 81; refine (cmay_any _ _).mono ?_; rintro e w' ⟨rfl, rfl⟩; rw [hd]) | (go_at_call 35; refine hlen.mono ?_; rintro e w' ⟨rfl, rfl⟩))
  go_loop [5, 12] (fun s i => ∃ k : Nat, k ≤ ws.length ∧ i = .int .i64 k ∧ s = .int .i64 (maxW (ws.take k))) (fun _ i => (ws.length - intOf i).toNat)
  case atStart => exact ⟨0, Nat.zero_le _, rfl, rfl⟩
  case round =>
    obtain ⟨k, hk, rfl, rfl⟩ := hrel
    by_cases hlt : k < ws.length
    · have hs := maxW_snoc ws k hlt
      rw [← pt_get ws k hlt] at hs
      have HS := Lib.hid hs
      clear hs
      go_wp2_with (first | (go_at_call 63; refine (hwt _).mono ?_; rintro e w' ⟨rfl, rfl⟩))
      refine ⟨⟨k + 1, by omega, by go_num, ?_⟩, by simp [intOf]; omega⟩
      rw [HS.out]
      congr 1
      split <;> omega
    · obtain rfl : k = ws.length := by omega
      go_wp2_with (first | (go_at_call 36; refine htot.mono ?_; rintro e w' ⟨rfl, rfl⟩) | (go_at_call 84; refine (up_any _ _ _ (by omega) s1).mono ?_; rintro e w' ⟨rfl, rfl⟩))
      go_ret
      exact ⟨rfl, rfl⟩

/-! ### what fits -/
theorem r88_any (k p : Int) (b : Nat) (w : World) (hb : w.heap[b]? = some (.cells #[.int .i64 k] 2 (0, 0))) :
    Calls Try.prog 88 #[.int .i64 p, .pointer (some ⟨b, 0, none⟩)] w fun e w' => e = .returned (.bool (decide (k < p))) ∧ w = w' := by
  obtain ⟨c0, _⟩ := blk_cell1 hb
  go_enter Try.func88, Try.ntmps88
  go_wp2
  go_ret
  exact ⟨rfl, rfl⟩
theorem r119_any (ps : List Int) (v : Value) (k : Int) (b : Nat) (w : World) (hv : Rd w v ps.length (ints ps)) (hn : ps.length ≤ 1000000) (hb : w.heap[b]? = some (.cells #[.int .i64 k] 2 (0, 0))) :
    Calls Try.prog 119 #[v, .func (.func 88) #[] #[.pointer (some ⟨b, 0, none⟩)]] w fun e w' => ∃ r : Int, e = .returned (.int .i64 r) ∧ decide (0 ≤ r) = ps.any (fun p => decide (k < p)) ∧ w = w' := by
  obtain ⟨a, cap, rfl, _, _, hc⟩ := hv
  go_enter Try.func119, Try.ntmps119
  go_wp2
  go_loop [8] (fun i => ∃ j : Nat, j ≤ ps.length ∧ i = .int .i64 j ∧ (ps.take j).any (fun p => decide (k < p)) = false) (fun i => (ps.length - intOf i).toNat)
  case atStart => exact ⟨0, Nat.zero_le _, rfl, rfl⟩
  case round =>
    obtain ⟨j, hj, rfl, hno⟩ := hrel
    have HN := Lib.hid hno
    clear hno
    by_cases hlt : j < ps.length
    · obtain ⟨b', off, rfl, hc1⟩ := ints_at hc j hlt
      cases hbad : decide (k < ps[j]) with
      | true =>
        have HB := Lib.hid hbad
        go_wp2_with (go_at_call 88; refine (r88_any k _ b _ hb).mono ?_; rintro e w' ⟨rfl, rfl⟩; rw [hbad])
        go_ret
        exact ⟨_, rfl, by rw [List.any_eq_true.2 ⟨ps[j], List.getElem_mem hlt, HB.out⟩]; simp, rfl⟩
      | false =>
        have HB := Lib.hid hbad
        go_wp2_with (go_at_call 88; refine (r88_any k _ b _ hb).mono ?_; rintro e w' ⟨rfl, rfl⟩; rw [hbad])
        go_round
        case rel => exact ⟨j + 1, by omega, by go_num, by rw [← take_snoc ps j hlt, List.any_append, HN.out, List.any_cons, HB.out]; rfl⟩
        case measure => simp [intOf]; omega
    · obtain rfl : j = ps.length := by omega
      go_wp2
      go_ret
      exact ⟨-1, rfl, by have := HN.out; rw [List.take_length] at this; rw [this]; rfl, rfl⟩
theorem r87_any (ps : List Int) (v : Value) (k : Int) (b : Nat) (w : World) (hv : Rd w v ps.length (ints ps)) (hn : ps.length ≤ 1000000) (hb : w.heap[b]? = some (.cells #[.int .i64 k] 2 (0, 0))) :
    Calls Try.prog 87 #[v, .func (.func 88) #[] #[.pointer (some ⟨b, 0, none⟩)]] w fun e w' => e = .returned (.bool (ps.any (fun p => decide (k < p)))) ∧ w = w' := by
  go_enter Try.func87, Try.ntmps87
  go_wp2_with (go_at_call 119; refine (r119_any ps _ k b _ hv hn hb).mono ?_; rintro e w' ⟨r, rfl, hr, rfl⟩; have HR := Lib.hid hr; clear hr)
  go_ret
  exact ⟨by rw [← HR.out]; rfl, rfl⟩

/-- do parts fit? -/
def fitsB (n : Nat) (ws ps : List Int) (k : Int) : Bool := rightB n ps k && !(wtsB ws ps k.toNat).any (fun p => decide (boundI ws k < p))
theorem fits_any {w : World} {gb : Nat} {ws : List Int} {B : Nat → Nat → Int} {S : Nat → Prop} (h : GAt w gb ws B S) (ps : List Int) (v : Value) (hv : Rd w v ps.length (ints ps)) (hn : ps.length ≤ 1000000) (k : Int) :
    Calls Try.prog 48 #[ptr gb, v, .int .i64 k] w fun e w' => e = .returned (.bool (fitsB ws.length ws ps k)) ∧ Frm Non w w' := by
  obtain ⟨bd, hbd⟩ : ∃ bd, bd = (if 1 ≤ k ∧ k ≤ 4096 then boundI ws k else 0) := ⟨_, rfl⟩
  have hbo := bound_any h k
  rw [← hbd] at hbo
  have hF : Frm Non w (w.alloc (.cells #[.int .i64 bd] 2)) := (Frm.refl w).alloc _
  have hblk : (w.alloc (.cells #[.int .i64 bd] 2)).heap[w.heap.size]? = some (.cells #[.int .i64 bd] 2 (0, 0)) := heap_alloc_new w _
  have hG1 := h.frm hF (fun _ _ x => x)
  have hv1 := hv.frm hF (fun _ _ x => x)
  have hri := right_any hG1 ps _ hv1 hn k
  cases hr : rightB ws.length ps k with
  | false =>
    rw [hr] at hri
    rw [show fitsB ws.length ws ps k = false from by unfold fitsB; rw [hr]; rfl]
    clear hr hbd
    unfold ptr at *
    go_enter Try.func48, Try.ntmps48
    go_wp2_with fail
    refine hbo.mono ?_
    rintro e w' ⟨rfl, rfl⟩
    go_wp2_with fail
    refine hri.mono ?_
    rintro e w1 ⟨rfl, hf1⟩
    go_wp2
    go_ret
    exact ⟨rfl, hF.trans' hf1⟩
  | true =>
    rw [hr] at hri
    have hk := rightB_iff hr
    rw [if_pos ⟨hk.1, hk.2.1⟩] at hbd
    have HB := Lib.hid hbd
    have hwts : ∀ W, Frm Non (w.alloc (.cells #[.int .i64 bd] 2)) W → _ := fun W f => weights_any (hG1.frm f (fun _ _ x => x)) ps _ (hv1.frm f (fun _ _ x => x)) hn k hr
    have HE := Lib.hid (show fitsB ws.length ws ps k = !(wtsB ws ps k.toNat).any (fun p => decide (boundI ws k < p)) from by unfold fitsB; rw [hr]; rfl)
    have hwl : (wtsB ws ps k.toNat).length = k.toNat := wtsTo_length _ _ _ _
    have hk2 : k.toNat ≤ 1000000 := by omega
    have hlt0 : w.heap.size < (w.alloc (.cells #[.int .i64 bd] 2)).heap.size := (Array.getElem?_eq_some_iff.1 hblk).1
    have HL := Lib.hid hwl
    clear hr hbd hwl hk
    unfold ptr at *
    go_enter Try.func48, Try.ntmps48
    go_wp2_with fail
    refine hbo.mono ?_
    rintro e w' ⟨rfl, rfl⟩
    go_wp2_with fail
    refine hri.mono ?_
    rintro e w1 ⟨rfl, hf1⟩
    go_wp2_with fail
    refine (hwts _ hf1).mono ?_
    rintro e w2 ⟨wv, rfl, ho, hf2, _⟩
    have hrd := own_rd ho
    have hcf := r87_any (wtsB ws ps k.toNat) wv bd w.heap.size w2 (by rw [HL.out]; exact hrd) (by rw [HL.out]; exact hk2) (((hf1.trans' hf2).block _ hlt0 (fun x => x)).trans hblk)
    obtain ⟨ga, gc, rfl, _, _, _⟩ := hrd
    clear hwts
    go_wp2_with fail
    refine hcf.mono ?_
    rintro e w3 ⟨rfl, rfl⟩
    go_wp2
    go_ret
    exact ⟨by rw [HE.out, ← HB.out]; rfl, hF.trans' (hf1.trans' hf2)⟩
end Go.Proofs.Ytjkcclcjhidokaa
