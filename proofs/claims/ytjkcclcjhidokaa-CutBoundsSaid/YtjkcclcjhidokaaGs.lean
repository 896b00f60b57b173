/- Sums, walked; what is near a thing. -/
import Derived.Test.YtjkcclcjhidokaaGn
namespace Go.Proofs.Ytjkcclcjhidokaa
open Go.RowKit
set_option maxHeartbeats 400000

theorem xor_i64 (a b : Nat) (ha : a < 2 ^ 63) (hb : b < 2 ^ 63) : bits .xor .i64 (a : Int) (b : Int) = ((a ^^^ b : Nat) : Int) := by
  have hx : a ^^^ b < 2 ^ 63 := Nat.xor_lt_two_pow ha hb
  have h1 : (BitVec.ofInt 64 (a : Int)).toNat = a := by
    rw [BitVec.ofInt_natCast, BitVec.toNat_ofNat]; exact Nat.mod_eq_of_lt (by omega)
  have h2 : (BitVec.ofInt 64 (b : Int)).toNat = b := by
    rw [BitVec.ofInt_natCast, BitVec.toNat_ofNat]; exact Nat.mod_eq_of_lt (by omega)
  show IntKind.i64.wrap ((BitVec.ofInt 64 (a : Int) ^^^ BitVec.ofInt 64 (b : Int)).toNat : Int) = _
  rw [BitVec.toNat_xor, h1, h2, IntKind.wrap_i64]
  omega
theorem and_i64 (a b : Nat) (ha : a < 2 ^ 63) (hb : b < 2 ^ 63) : bits .and .i64 (a : Int) (b : Int) = ((a &&& b : Nat) : Int) := by
  have hx : a &&& b < 2 ^ 63 := Nat.and_lt_two_pow _ hb
  have h1 : (BitVec.ofInt 64 (a : Int)).toNat = a := by
    rw [BitVec.ofInt_natCast, BitVec.toNat_ofNat]; exact Nat.mod_eq_of_lt (by omega)
  have h2 : (BitVec.ofInt 64 (b : Int)).toNat = b := by
    rw [BitVec.ofInt_natCast, BitVec.toNat_ofNat]; exact Nat.mod_eq_of_lt (by omega)
  show IntKind.i64.wrap ((BitVec.ofInt 64 (a : Int) &&& BitVec.ofInt 64 (b : Int)).toNat : Int) = _
  rw [BitVec.toNat_and, h1, h2, IntKind.wrap_i64]
  omega
theorem add_bits (a b : Int) (ha : 0 ≤ a) (hb : 0 ≤ b) (h : a + b < 9223372036854775808) : 0 ≤ bits .and .i64 (bits .xor .i64 a (a + b)) (bits .xor .i64 b (a + b)) := by
  obtain ⟨x, rfl⟩ := Int.eq_ofNat_of_zero_le ha
  obtain ⟨y, rfl⟩ := Int.eq_ofNat_of_zero_le hb
  rw [← Int.natCast_add, xor_i64 _ _ (by omega) (by omega), xor_i64 _ _ (by omega) (by omega), and_i64 _ _ (Nat.xor_lt_two_pow (by omega) (by omega)) (Nat.xor_lt_two_pow (by omega) (by omega))]
  exact Int.natCast_nonneg _

theorem add_any (a b : Int) (w : World) (ha : 0 ≤ a) (hb : 0 ≤ b) (h : a + b ≤ 4611686018427387904) :
    Calls Try.prog 113 #[.int .i64 a, .int .i64 b] w fun e w' => e = .returned (.tuple #[.int .i64 (a + b), .bool true]) ∧ w = w' := by
  have hab := add_bits a b ha hb (by omega)
  go_enter Try.func113, Try.ntmps113
  go_wp2
  go_ret2
  exact ⟨rfl, rfl⟩

theorem sum_snoc (xs : List Int) (k : Nat) (h : k < xs.length) : (xs.take (k + 1)).sum = (xs.take k).sum + xs[k] := by
  rw [← take_snoc xs k h, List.sum_append]; simp
theorem sum_bd (xs : List Int) (M : Int) (h : ∀ x ∈ xs, 0 ≤ x ∧ x ≤ M) : 0 ≤ xs.sum ∧ xs.sum ≤ M * xs.length := by
  induction xs with
  | nil => simp
  | cons x xs ih =>
    have h1 := ih (fun y hy => h y (List.mem_cons_of_mem _ hy))
    have h2 := h x (by simp)
    simp only [List.sum_cons, List.length_cons, Int.natCast_add, Int.mul_add]
    omega
theorem sum_any (xs : List Int) (v : Value) (w : World) (h : Rd w v xs.length (ints xs)) (hn : xs.length ≤ 4096) (hx : ∀ x ∈ xs, 0 ≤ x ∧ x ≤ 1099511627776) :
    Calls Try.prog 78 #[v] w fun e w' => e = .returned (.tuple #[.int .i64 xs.sum, .bool true]) ∧ w = w' := by
  obtain ⟨a, cap, rfl, hcap, hnil, hc⟩ := h
  have HX := Lib.hid hx
  clear hx
  go_enter Try.func78, Try.ntmps78
  go_wp2
  go_loop [4, 5, 10] (fun s o i => ∃ k : Nat, k ≤ xs.length ∧ i = .int .i64 k ∧ o = .bool true ∧ s = .int .i64 (xs.take k).sum) (fun _ _ i => (xs.length - intOf i).toNat)
  case atStart => exact ⟨0, Nat.zero_le _, rfl, rfl, rfl⟩
  case round =>
    obtain ⟨k, hk, rfl, rfl, rfl⟩ := hrel
    by_cases hlt : k < xs.length
    · obtain ⟨b, off, rfl, hc1⟩ := ints_at hc k hlt
      have hb := sum_bd (xs.take k) 1099511627776 (fun x hx => HX.out x (List.mem_of_mem_take hx))
      have hb2 := HX.out xs[k] (List.getElem_mem hlt)
      have hl : (xs.take k).length ≤ 4096 := by rw [List.length_take]; omega
      have HS := Lib.hid (sum_snoc xs k hlt)
      have hle : (xs.take k).sum ≤ 4503599627370496 := by omega
      obtain ⟨hb0, _⟩ := hb
      obtain ⟨hb3, hb4⟩ := hb2
      clear hl
      go_wp2_with (go_at_call 113; refine (add_any _ _ _ hb0 hb3 (by omega)).mono ?_; rintro e w' ⟨rfl, rfl⟩)
      go_round
      case rel => exact ⟨k + 1, by omega, by go_num, rfl, by rw [HS.out]⟩
      case measure => simp [intOf]; omega
    · obtain rfl : k = xs.length := by omega
      go_wp2
      go_ret2
      exact ⟨rfl, rfl⟩
theorem total_any {w : World} {gb : Nat} {ws : List Int} {B : Nat → Nat → Int} {S : Nat → Prop} (h : GAt w gb ws B S) :
    Calls Try.prog 36 #[ptr gb] w fun e w' => e = .returned (.int .i64 ws.sum) ∧ w = w' := by
  obtain ⟨⟨wv, nv, ms, vs, h⟩, _, hn, hx⟩ := h
  obtain ⟨c0, _, _, _⟩ := blk_cell2 h.blk
  have hr := own_rd h.wo
  have hx' : ∀ x ∈ ws, 0 ≤ x ∧ x ≤ 1099511627776 := fun x hx0 => by have := hx x hx0; omega
  have HX := Lib.hid hx'
  clear hx hx'
  unfold ptr
  go_enter Try.func36, Try.ntmps36
  go_wp2_with (go_at_call 78; refine (sum_any ws _ _ hr hn HX.out).mono ?_; rintro e w' ⟨rfl, rfl⟩)
  go_ret
  exact ⟨rfl, rfl⟩
end Go.Proofs.Ytjkcclcjhidokaa
