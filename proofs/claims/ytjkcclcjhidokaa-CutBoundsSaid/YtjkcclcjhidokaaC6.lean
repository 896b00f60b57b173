/- What a thing gains, walked. -/
import Derived.Test.YtjkcclcjhidokaaC5
import Derived.Lib.QuietBelowIn
namespace Go.Proofs.Ytjkcclcjhidokaa
open Go.RowKit
set_option maxHeartbeats 400000

theorem three_new (w : World) (o1 o2 o3 : Obj) : (((w.alloc o1).alloc o2).alloc o3).heap[w.heap.size]? = some o1 ∧ (((w.alloc o1).alloc o2).alloc o3).heap[w.heap.size + 1]? = some o2 ∧ (((w.alloc o1).alloc o2).alloc o3).heap[w.heap.size + 1 + 1]? = some o3 := by
  have s1 : (w.alloc o1).heap.size = w.heap.size + 1 := by simp
  have s2 : ((w.alloc o1).alloc o2).heap.size = w.heap.size + 1 + 1 := by simp
  have n1 := heap_alloc_new w o1
  have n2 := heap_alloc_new (w.alloc o1) o2
  have n3 := heap_alloc_new ((w.alloc o1).alloc o2) o3
  rw [s1] at n2
  rw [s2] at n3
  exact ⟨(Below.heap_alloc _ _ _ (by omega)).trans ((Below.heap_alloc _ _ _ (by omega)).trans n1), (Below.heap_alloc _ _ _ (by omega)).trans n2, n3⟩
theorem cells_grown {w : World} {a : Addr} {v : Value} (h : w.cell? a = some v) : ∀ d os, (Go.Sort.grow (redrawn w d) os).cell? a = some v := cell_regrown h
theorem regrown_in {P : Program} {f : Nat} {args : Array Value} {W : World} {v : Value} (h : ∀ W', Frm Non W W' → Calls P f args W' fun e w' => e = .returned v ∧ Frm Non W' w') (d : Nat) (os : Array Obj) :
    CallsIn FW 0 P f args (Go.Sort.grow (redrawn W d) os) fun e w' => e = .returned v ∧ ∃ p : Regrown, w' = Go.Sort.grow (redrawn W p.d) p.os :=
  CallsIn.regrown_of (in_of_calls ((h _ (Frm.of_below (below_regrown W d os))).mono fun _ _ ⟨he, hf⟩ => ⟨he, hf.below⟩))

attribute [local go_sem] Oper.semAt_some wide_fn wide_depth
/-- what a thing gains. -/
def gainE (B : Nat → Nat → Int) (ps : List Int) (a : Nat) (q : Int) (b : Nat) : Int := if pt ps b = q then B a b else if pt ps b = pt ps a then - B a b else 0
def gainB (B : Nat → Nat → Int) (ps : List Int) (a : Nat) (q : Int) : Int := sumTo (gainE B ps a q) ps.length
def gainV (n : Nat) (B : Nat → Nat → Int) (ps : List Int) (k i q : Int) : Int :=
  if rightB n ps k = true ∧ 0 ≤ i ∧ i < ps.length ∧ 0 ≤ q ∧ q < k ∧ pt ps i.toNat ≠ q then gainB B ps i.toNat q else 0

set_option maxHeartbeats 4000000 in
set_option maxRecDepth 100000 in
theorem gain_zero {w : World} {gb : Nat} {ws : List Int} {B : Nat → Nat → Int} {G : Nat → Prop} (h : GAt w gb ws B G) (ps : List Int) (v : Value) (hv : Rd w v ps.length (ints ps)) (hn : ps.length ≤ 1000) (k i q : Int)
    (hz : ¬ (rightB ws.length ps k = true ∧ 0 ≤ i ∧ i < ps.length ∧ 0 ≤ q ∧ q < k ∧ pt ps i.toNat ≠ q)) :
    Calls Try.prog 47 #[ptr gb, v, .int .i64 k, .int .i64 i, .int .i64 q] w fun e w' => e = .returned (.int .i64 0) ∧ Frm Non w w' := by
  have hv0 := hv
  obtain ⟨va, vc, rfl, _, _, hc⟩ := hv
  obtain ⟨W, hW⟩ : ∃ W, W = ((w.alloc (.cells #[.slice va ps.length vc] 33)).alloc (.cells #[.int .i64 i] 3)).alloc (.cells #[.int .i64 q] 3) := ⟨_, rfl⟩
  have hF : Frm Non w W := by rw [hW]; exact (((Frm.refl w).alloc _).alloc _).alloc _
  obtain ⟨h6, h8, h9⟩ := three_new w (.cells #[.slice va ps.length vc] 33) (.cells #[.int .i64 i] 3) (.cells #[.int .i64 q] 3)
  rw [← hW] at h6 h8 h9
  have c6 := cells_grown (blk_cell1 h6).1
  have c8 := cells_grown (blk_cell1 h8).1
  have c9 := cells_grown (blk_cell1 h9).1
  have hri := regrown_in (fun W' (f : Frm Non W W') => right_any (h.frm (hF.trans' f) (fun _ _ x => x)) ps _ (hv0.frm (hF.trans' f) (fun _ _ x => x)) (by omega) k)
  have mixed : Try.prog.follows .mixedOrders = true := by kernel_rfl
  have hcw := hc.frm hF (Off.non _)
  unfold ptr at *
  cases hr : rightB ws.length ps k with
  | false =>
    rw [hr] at hri
    clear hz hr
    refine calls_of_range Try.func47 rfl ?_
    simp only [Try.ntmps47, List.size_toArray, List.length_cons, List.length_nil, Nat.reduceAdd, Nat.reduceSub, Array.replicate_succ, Array.replicate_zero, List.push_toArray, List.append_toArray, List.nil_append, List.cons_append]
    gi_wp2
    rw [← hW]
    clear hW
    refine wpIn_region_quiet_below rfl (by assumption) (by kernel_rfl) ?_
    repeat (quiet_step_in (first | exact hri _ _))
    refine wpQuietIn_nil ?_
    intro w' hw'
    have hfw : Frm Non W w' := by obtain ⟨p, rfl⟩ := hw'; exact Frm.of_below (below_regrown _ _ _)
    clear hw'
    gi_wp2
    exact ⟨[], rfl, by simp, by simp, fun w5 hf5 => ⟨_, results_tmp rfl _ _ _, rfl, (hF.trans' hfw).trans' (hf5.mono (fun b hb => by simp at hb))⟩⟩
  | true =>
    rw [hr] at hri
    have HR := Lib.hid hr
    by_cases h1 : i < 0
    · clear hz hr
      refine calls_of_range Try.func47 rfl ?_
      simp only [Try.ntmps47, List.size_toArray, List.length_cons, List.length_nil, Nat.reduceAdd, Nat.reduceSub, Array.replicate_succ, Array.replicate_zero, List.push_toArray, List.append_toArray, List.nil_append, List.cons_append]
      gi_wp2
      rw [← hW]
      clear hW
      refine wpIn_region_quiet_below rfl (by assumption) (by kernel_rfl) ?_
      repeat (quiet_step_in (first | exact hri _ _))
      refine wpQuietIn_nil ?_
      intro w' hw'
      have hfw : Frm Non W w' := by obtain ⟨p, rfl⟩ := hw'; exact Frm.of_below (below_regrown _ _ _)
      clear hw'
      gi_wp2
      exact ⟨[], rfl, by simp, by simp, fun w5 hf5 => ⟨_, results_tmp rfl _ _ _, rfl, (hF.trans' hfw).trans' (hf5.mono (fun b hb => by simp at hb))⟩⟩
    by_cases h2 : (ps.length : Int) ≤ i
    · clear hz hr
      refine calls_of_range Try.func47 rfl ?_
      simp only [Try.ntmps47, List.size_toArray, List.length_cons, List.length_nil, Nat.reduceAdd, Nat.reduceSub, Array.replicate_succ, Array.replicate_zero, List.push_toArray, List.append_toArray, List.nil_append, List.cons_append]
      gi_wp2
      rw [← hW]
      clear hW
      refine wpIn_region_quiet_below rfl (by assumption) (by kernel_rfl) ?_
      repeat (quiet_step_in (first | exact hri _ _))
      refine wpQuietIn_nil ?_
      intro w' hw'
      have hfw : Frm Non W w' := by obtain ⟨p, rfl⟩ := hw'; exact Frm.of_below (below_regrown _ _ _)
      clear hw'
      gi_wp2
      exact ⟨[], rfl, by simp, by simp, fun w5 hf5 => ⟨_, results_tmp rfl _ _ _, rfl, (hF.trans' hfw).trans' (hf5.mono (fun b hb => by simp at hb))⟩⟩
    obtain ⟨a, rfl⟩ := Int.eq_ofNat_of_zero_le (show 0 ≤ i by omega)
    have ha : a < ps.length := by omega
    clear h1 h2
    by_cases h3 : q < 0
    · clear hz hr
      refine calls_of_range Try.func47 rfl ?_
      simp only [Try.ntmps47, List.size_toArray, List.length_cons, List.length_nil, Nat.reduceAdd, Nat.reduceSub, Array.replicate_succ, Array.replicate_zero, List.push_toArray, List.append_toArray, List.nil_append, List.cons_append]
      gi_wp2
      rw [← hW]
      clear hW
      refine wpIn_region_quiet_below rfl (by assumption) (by kernel_rfl) ?_
      repeat (quiet_step_in (first | exact hri _ _))
      refine wpQuietIn_nil ?_
      intro w' hw'
      have hfw : Frm Non W w' := by obtain ⟨p, rfl⟩ := hw'; exact Frm.of_below (below_regrown _ _ _)
      clear hw'
      gi_wp2
      exact ⟨[], rfl, by simp, by simp, fun w5 hf5 => ⟨_, results_tmp rfl _ _ _, rfl, (hF.trans' hfw).trans' (hf5.mono (fun b hb => by simp at hb))⟩⟩
    by_cases h4 : k ≤ q
    · clear hz hr
      refine calls_of_range Try.func47 rfl ?_
      simp only [Try.ntmps47, List.size_toArray, List.length_cons, List.length_nil, Nat.reduceAdd, Nat.reduceSub, Array.replicate_succ, Array.replicate_zero, List.push_toArray, List.append_toArray, List.nil_append, List.cons_append]
      gi_wp2
      rw [← hW]
      clear hW
      refine wpIn_region_quiet_below rfl (by assumption) (by kernel_rfl) ?_
      repeat (quiet_step_in (first | exact hri _ _))
      refine wpQuietIn_nil ?_
      intro w' hw'
      have hfw : Frm Non W w' := by obtain ⟨p, rfl⟩ := hw'; exact Frm.of_below (below_regrown _ _ _)
      clear hw'
      gi_wp2
      exact ⟨[], rfl, by simp, by simp, fun w5 hf5 => ⟨_, results_tmp rfl _ _ _, rfl, (hF.trans' hfw).trans' (hf5.mono (fun b hb => by simp at hb))⟩⟩
    have h5 : ps[a] = q := by
      rw [← pt_get ps a ha]
      exact Decidable.byContradiction fun h5 => hz ⟨hr, by omega, by omega, by omega, by omega, h5⟩
    obtain ⟨b, off, rfl, p1⟩ := ints_at hcw a ha
    have p1' := cells_grown p1
    have hpq : (ps[a] == q) = true := beq_iff_eq.2 h5
    clear hz hr h5
    refine calls_of_range Try.func47 rfl ?_
    simp only [Try.ntmps47, List.size_toArray, List.length_cons, List.length_nil, Nat.reduceAdd, Nat.reduceSub, Array.replicate_succ, Array.replicate_zero, List.push_toArray, List.append_toArray, List.nil_append, List.cons_append]
    gi_wp2
    rw [← hW]
    clear hW
    refine wpIn_region_quiet_below rfl (by assumption) (by kernel_rfl) ?_
    repeat (quiet_step_in (first | exact hri _ _))
    refine wpQuietIn_nil ?_
    intro w' hw'
    have hfw : Frm Non W w' := by obtain ⟨p, rfl⟩ := hw'; exact Frm.of_below (below_regrown _ _ _)
    clear hw'
    gi_wp2
    exact ⟨[], rfl, by simp, by simp, fun w5 hf5 => ⟨_, results_tmp rfl _ _ _, rfl, (hF.trans' hfw).trans' (hf5.mono (fun b hb => by simp at hb))⟩⟩
end Go.Proofs.Ytjkcclcjhidokaa
