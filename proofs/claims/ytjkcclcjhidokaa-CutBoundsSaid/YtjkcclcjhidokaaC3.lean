/- The program's cut functions, walked. -/
import Derived.Test.YtjkcclcjhidokaaC2
namespace Go.Proofs.Ytjkcclcjhidokaa
open Go.RowKit
set_option maxHeartbeats 400000

theorem cmay_any (k : Int) (w : World) : Calls Try.prog 81 #[.int .i64 k] w fun e w' => e = .returned (.bool (decide (1 ≤ k ∧ k ≤ 4096))) ∧ w = w' := by
  by_cases h1 : 1 ≤ k
  · by_cases h2 : k ≤ 4096
    · rw [decide_eq_true ⟨h1, h2⟩]
      go_enter Try.func81, Try.ntmps81
      go_wp2
      go_ret
      exact ⟨rfl, rfl⟩
    · rw [decide_eq_false (fun h => h2 h.2)]
      have h2' : decide (k ≤ 4096) = false := by simpa using h2
      go_enter Try.func81, Try.ntmps81
      go_wp2
      go_ret
      exact ⟨rfl, rfl⟩
  · rw [decide_eq_false (fun h => h1 h.1)]
    have h1' : decide (1 ≤ k) = false := by simpa using h1
    go_enter Try.func81, Try.ntmps81
    go_wp2
    go_ret
    exact ⟨rfl, rfl⟩

def badP (k p : Int) : Bool := decide (p < 0) || decide (k ≤ p)
theorem r83_any (k p : Int) (b : Nat) (w : World) (hb : w.heap[b]? = some (.cells #[.int .i64 k] 3 (0, 0))) :
    Calls Try.prog 83 #[.int .i64 p, .pointer (some ⟨b, 0, none⟩)] w fun e w' => e = .returned (.bool (badP k p)) ∧ w = w' := by
  obtain ⟨c0, _⟩ := blk_cell1 hb
  by_cases h1 : p < 0
  · rw [show badP k p = true from by simp [badP, h1]]
    go_enter Try.func83, Try.ntmps83
    go_wp2
    go_ret
    exact ⟨rfl, rfl⟩
  · have h1' : decide (p < 0) = false := by simpa using h1
    rw [show badP k p = decide (k ≤ p) from by simp [badP, h1']]
    go_enter Try.func83, Try.ntmps83
    go_wp2
    go_ret
    exact ⟨rfl, rfl⟩

theorem r114_any (ps : List Int) (v : Value) (k : Int) (b : Nat) (w : World) (hv : Rd w v ps.length (ints ps)) (hn : ps.length ≤ 1000000) (hb : w.heap[b]? = some (.cells #[.int .i64 k] 3 (0, 0))) :
    Calls Try.prog 114 #[v, .func (.func 83) #[] #[.pointer (some ⟨b, 0, none⟩)]] w fun e w' => ∃ r : Int, e = .returned (.int .i64 r) ∧ decide (0 ≤ r) = ps.any (badP k) ∧ w = w' := by
  obtain ⟨a, cap, rfl, _, _, hc⟩ := hv
  go_enter Try.func114, Try.ntmps114
  go_wp2
  go_loop [8] (fun i => ∃ j : Nat, j ≤ ps.length ∧ i = .int .i64 j ∧ (ps.take j).any (badP k) = false) (fun i => (ps.length - intOf i).toNat)
  case atStart => exact ⟨0, Nat.zero_le _, rfl, rfl⟩
  case round =>
    obtain ⟨j, hj, rfl, hno⟩ := hrel
    have HN := Lib.hid hno
    clear hno
    by_cases hlt : j < ps.length
    · obtain ⟨b', off, rfl, hc1⟩ := ints_at hc j hlt
      cases hbad : badP k ps[j] with
      | true =>
        have HB := Lib.hid hbad
        go_wp2_with (go_at_call 83; refine (r83_any k _ b _ hb).mono ?_; rintro e w' ⟨rfl, rfl⟩; rw [hbad])
        go_ret
        exact ⟨_, rfl, by rw [List.any_eq_true.2 ⟨ps[j], List.getElem_mem hlt, HB.out⟩]; simp, rfl⟩
      | false =>
        have HB := Lib.hid hbad
        go_wp2_with (go_at_call 83; refine (r83_any k _ b _ hb).mono ?_; rintro e w' ⟨rfl, rfl⟩; rw [hbad])
        go_round
        case rel => exact ⟨j + 1, by omega, by go_num, by rw [← take_snoc ps j hlt, List.any_append, HN.out]; simp [HB.out]⟩
        case measure => simp [intOf]; omega
    · obtain rfl : j = ps.length := by omega
      go_wp2
      go_ret
      exact ⟨-1, rfl, by have := HN.out; rw [List.take_length] at this; rw [this]; rfl, rfl⟩
theorem r82_any (ps : List Int) (v : Value) (k : Int) (b : Nat) (w : World) (hv : Rd w v ps.length (ints ps)) (hn : ps.length ≤ 1000000) (hb : w.heap[b]? = some (.cells #[.int .i64 k] 3 (0, 0))) :
    Calls Try.prog 82 #[v, .func (.func 83) #[] #[.pointer (some ⟨b, 0, none⟩)]] w fun e w' => e = .returned (.bool (ps.any (badP k))) ∧ w = w' := by
  go_enter Try.func82, Try.ntmps82
  go_wp2_with (go_at_call 114; refine (r114_any ps _ k b _ hv hn hb).mono ?_; rintro e w' ⟨r, rfl, hr, rfl⟩; have HR := Lib.hid hr; clear hr)
  go_ret
  exact ⟨by rw [← HR.out]; rfl, rfl⟩

theorem glen_any {w : World} {gb : Nat} {ws : List Int} {B : Nat → Nat → Int} {S : Nat → Prop} (h : GAt w gb ws B S) :
    Calls Try.prog 35 #[ptr gb] w fun e w' => e = .returned (.int .i64 ws.length) ∧ w = w' := by
  obtain ⟨⟨_, _, _, _, h1⟩, _, h2, _⟩ := h; exact len_any h1 h2
theorem gweight_any {w : World} {gb : Nat} {ws : List Int} {B : Nat → Nat → Int} {S : Nat → Prop} (h : GAt w gb ws B S) (i : Nat) :
    Calls Try.prog 63 #[ptr gb, .int .i64 i] w fun e w' => e = .returned (.int .i64 (pt ws i)) ∧ w = w' := by
  obtain ⟨⟨_, _, _, _, h1⟩, _, h2, _⟩ := h
  have := weight_any h1 h2 i
  rw [if_pos (by omega)] at this
  exact this
theorem rightB_any (n : Nat) (ps : List Int) (k : Int) (h1 : 1 ≤ k ∧ k ≤ 4096) (h2 : ps.length = n) : rightB n ps k = !ps.any (badP k) := by
  rw [Bool.eq_iff_iff]
  simp only [rightB, decide_eq_true_eq, Bool.not_eq_true', List.any_eq_false, badP, Bool.or_eq_true, not_or]
  exact ⟨fun h p hp => by have := h.2.2.2 p hp; omega, fun h => ⟨h1.1, h1.2, h2, fun p hp => by have := h p hp; omega⟩⟩
theorem right_any {w : World} {gb : Nat} {ws : List Int} {B : Nat → Nat → Int} {S : Nat → Prop} (h : GAt w gb ws B S) (ps : List Int) (v : Value) (hv : Rd w v ps.length (ints ps)) (hn : ps.length ≤ 1000000) (k : Int) :
    Calls Try.prog 41 #[ptr gb, v, .int .i64 k] w fun e w' => e = .returned (.bool (rightB ws.length ps k)) ∧ Frm Non w w' := by
  have hv0 := hv
  obtain ⟨a, cap, rfl, _, _, hc⟩ := hv
  have hF : Frm Non w (w.alloc (.cells #[.int .i64 k] 3)) := (Frm.refl w).alloc _
  have hblk : (w.alloc (.cells #[.int .i64 k] 3)).heap[w.heap.size]? = some (.cells #[.int .i64 k] 3 (0, 0)) := heap_alloc_new w _
  obtain ⟨c0, _⟩ := blk_cell1 hblk
  have hlen := glen_any (h.frm hF (fun _ _ x => x))
  have hcf := r82_any ps _ k _ _ (hv0.frm hF (fun _ _ x => x)) hn hblk
  by_cases h1 : 1 ≤ k ∧ k ≤ 4096
  case neg =>
    rw [show rightB ws.length ps k = false from decide_eq_false (fun h => h1 ⟨h.1, h.2.1⟩)]
    have hd := decide_eq_false h1
    clear h1
    unfold ptr at *
    go_enter Try.func41, Try.ntmps41
    go_wp2_with (go_at_call 81; refine (cmay_any _ _).mono ?_; rintro e w' ⟨rfl, rfl⟩; rw [hd])
    go_ret
    exact ⟨rfl, hF⟩
  have hd := decide_eq_true h1
  have H1 := Lib.hid h1
  clear h1
  by_cases h2 : ps.length = ws.length
  case neg =>
    rw [show rightB ws.length ps k = false from decide_eq_false (fun h => h2 h.2.2.1)]
    have hne : ((ps.length : Int) == (ws.length : Int)) = false := beq_eq_false_iff_ne.2 (by omega)
    clear h2
    unfold ptr at *
    go_enter Try.func41, Try.ntmps41
    go_wp2_with (first | (go_at_call 81; refine (cmay_any _ _).mono ?_; rintro e w' ⟨rfl, rfl⟩; rw [hd]) | (go_at_call 35; refine hlen.mono ?_; rintro e w' ⟨rfl, rfl⟩))
    go_ret
    exact ⟨rfl, hF⟩
  have heq : ((ps.length : Int) == (ws.length : Int)) = true := beq_iff_eq.2 (by omega)
  rw [rightB_any _ _ _ H1.out h2]
  clear h2
  unfold ptr at *
  go_enter Try.func41, Try.ntmps41
  go_wp2_with (first | (go_at_call 81; refine (cmay_any _ _).mono ?_; rintro e w' ⟨rfl, rfl⟩; rw [hd]) | (go_at_call 35; refine hlen.mono ?_; rintro e w' ⟨rfl, rfl⟩) | (go_at_call 82; refine hcf.mono ?_; rintro e w' ⟨rfl, rfl⟩))
  go_ret
  exact ⟨rfl, hF⟩

/-- what parts weigh. -/
theorem rightB_iff {n : Nat} {ps : List Int} {k : Int} (h : rightB n ps k = true) : 1 ≤ k ∧ k ≤ 4096 ∧ ps.length = n ∧ ∀ p ∈ ps, 0 ≤ p ∧ p < k := of_decide_eq_true h
set_option maxRecDepth 100000 in
theorem weights_any {w : World} {gb : Nat} {ws : List Int} {B : Nat → Nat → Int} {S : Nat → Prop} (h : GAt w gb ws B S) (ps : List Int) (v : Value) (hv : Rd w v ps.length (ints ps)) (hn : ps.length ≤ 1000000) (k : Int) (hr : rightB ws.length ps k = true) :
    Calls Try.prog 46 #[ptr gb, v, .int .i64 k] w fun e w' => ∃ v', e = .returned v' ∧ Own w' 2 1 v' k.toNat (ints (wtsB ws ps k.toNat)) ∧ Frm Non w w' ∧ ∀ b, v'.ownBlock = some b → w.heap.size ≤ b := by
  have hv0 := hv
  have hG := h
  obtain ⟨a, cap, rfl, _, _, hc⟩ := hv
  have hri := right_any h ps _ hv0 hn k
  rw [hr] at hri
  obtain ⟨h1, h2, h3, h4⟩ := rightB_iff hr
  have mixed : Try.prog.follows .mixedOrders = true := by kernel_rfl
  obtain ⟨K, rfl⟩ := Int.eq_ofNat_of_zero_le (show 0 ≤ k by omega)
  have hwb : ∀ y ∈ ws, 0 ≤ y ∧ y ≤ 1099511627776 := fun y hy => by have := h.2.2.2 y hy; omega
  have hn4 := h.2.2.1
  have HR := Lib.hid h4
  have HL := Lib.hid h3
  have HW := Lib.hid hwb
  have HZ := Lib.hid (wtsTo_zero ws ps K)
  have hmk := fun W => run_make0 T22 K (by omega) W
  have hps : ps.length ≤ 4096 := by omega
  rw [Int.toNat_natCast]
  clear hr h4 h3 hwb hn4
  unfold ptr at *
  go_enter Try.func46, Try.ntmps46
  go_wp2_with fail
  refine hri.mono ?_
  rintro e w1 ⟨rfl, hf1⟩
  have hoz := own_zrow w1 2 K (by omega)
  have hF2 : Frm Non w1 (w1.alloc (.cells (zrow K) 2)) := (Frm.refl w1).alloc _
  have hwt := fun W (f : Frm Non w W) i => gweight_any (hG.frm f (fun _ _ x => x)) i
  unfold ptr at hwt
  clear hri
  go_wp2
  go_loopw [19] (fun i wr => ∃ j : Nat, j ≤ ps.length ∧ i = .int .i64 j ∧ Own wr 2 1 (.slice (some ⟨w1.heap.size, 0, none⟩) K K) K (ints (wtsTo ws ps K j)) ∧ Frm Non w1 wr) (fun i _ => (ps.length - intOf i).toNat)
  case atStart => exact ⟨0, Nat.zero_le _, rfl, by rw [HZ.out]; exact hoz, hF2⟩
  case round =>
    obtain ⟨j, hj, rfl, ho, hf⟩ := hrel
    by_cases hlt : j < ps.length
    · obtain ⟨b, off, rfl, hc1⟩ := ints_at (hc.frm (hf1.trans' hf) (Off.non _)) j hlt
      have hltw : j < ws.length := HL.out ▸ hlt
      have hpk := HR.out ps[j] (List.getElem_mem hlt)
      obtain ⟨q, hq⟩ := Int.eq_ofNat_of_zero_le hpk.1
      rw [hq] at hc1 hpk
      have hqk : q < K := by omega
      have hst := wtsTo_step ws ps K j q ((pt_get ps j hlt).trans hq)
      have HS := Lib.hid hst
      obtain ⟨g, c, hg, _, hx, hfr⟩ := int_at (xs := wtsTo ws ps K j) (by rw [wtsTo_length]; exact ho) q (by rw [wtsTo_length]; exact hqk)
      rw [wtsTo_get ws ps K j q hqk] at hx
      rw [wtsTo_length] at hg
      cases hg
      have hb := wt_bd HW.out ps q j (by omega)
      have hw1 := HW.out _ (List.getElem_mem hltw)
      rw [← pt_get ws j hltw] at hw1
      obtain ⟨hb1, hb2⟩ := hb
      obtain ⟨hw1, hw2⟩ := hw1
      have hos := own_set ho q (sumTo (wtE ws ps q) j + pt ws j)
      have hwr : IntKind.i64.wrap (sumTo (wtE ws ps q) j + pt ws j) = sumTo (wtE ws ps q) j + pt ws j := by rw [IntKind.wrap_i64]; omega
      clear hst hpk hq
      have hwj : Calls Try.prog 63 #[.pointer (some ⟨gb, 0, none⟩), .int .i64 j] wr.drew fun e w' => e = .returned (.int .i64 (pt ws j)) ∧ wr.drew = w' := hwt wr.drew (hf1.trans' hf).drew j
      have hx' : wr.drew.cell? ⟨w1.heap.size, q, none⟩ = some (.int .i64 (sumTo (wtE ws ps q) j)) := hx
      have hfr' : wr.drew.frozen? ⟨w1.heap.size, q, none⟩ = false := hfr
      go_wp2
      go_region_with (go_at_call 63; refine hwj.mono ?_; rintro e w' ⟨rfl, rfl⟩)
      all_goals
        go_wp2
        refine ⟨⟨j + 1, by omega, by go_num, ?_, ?_⟩, by simp [intOf]; omega⟩
        · rw [HS.out]; exact own_frm (S := Non) hos ((Frm.refl _).drew) (fun _ _ x => x)
        · refine Frm.drew (Frm.setCell hf _ ?_)
          exact .inr (Nat.le_refl _)
    · obtain rfl : j = ps.length := by omega
      go_wp2
      go_ret
      exact ⟨_, rfl, ho, hf1.trans' hf, fun b hb => by have := hf1.size; simp [Value.ownBlock] at hb; omega⟩
end Go.Proofs.Ytjkcclcjhidokaa
