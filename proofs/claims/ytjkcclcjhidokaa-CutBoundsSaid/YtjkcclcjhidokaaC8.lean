/- The parts that no thing has: the iterator, walked. -/
import Derived.Test.YtjkcclcjhidokaaC7
namespace Go.Proofs.Ytjkcclcjhidokaa
open Go.RowKit
set_option maxHeartbeats 1000000

/-- where a number stands. -/
def IdxAt (ps : List Int) (y r : Int) : Prop := (y ∉ ps ∧ r = -1) ∨ ∃ (j : Nat) (hj : j < ps.length), r = j ∧ ps[j] = y ∧ y ∉ ps.take j
theorem index_any (ps : List Int) (y : Int) (v : Value) (w : World) (hv : Rd w v ps.length (ints ps)) (hn : ps.length ≤ 1000000) :
    Calls Try.prog 95 #[v, .int .i64 y] w fun e w' => ∃ r : Int, e = .returned (.int .i64 r) ∧ IdxAt ps y r ∧ w = w' := by
  obtain ⟨a, cap, rfl, _, _, hc⟩ := hv
  go_enter Try.func95, Try.ntmps95
  go_wp2
  go_loop [8] (fun i => ∃ j : Nat, j ≤ ps.length ∧ i = .int .i64 j ∧ y ∉ ps.take j) (fun i => (ps.length - intOf i).toNat)
  case atStart => exact ⟨0, Nat.zero_le _, rfl, by simp⟩
  case round =>
    obtain ⟨j, hj, rfl, hno⟩ := hrel
    have HN := Lib.hid hno
    clear hno
    by_cases hlt : j < ps.length
    · obtain ⟨b', off, rfl, hc1⟩ := ints_at hc j hlt
      by_cases hy : ps[j] = y
      · have hb : (y == ps[j]) = true := beq_iff_eq.2 hy.symm
        have HY := Lib.hid hy
        clear hy
        go_wp2
        go_ret
        exact ⟨_, rfl, .inr ⟨j, hlt, rfl, HY.out, HN.out⟩, rfl⟩
      · have hb : (y == ps[j]) = false := beq_eq_false_iff_ne.2 (fun h => hy h.symm)
        have HY := Lib.hid hy
        clear hy
        go_wp2
        go_round
        case rel => exact ⟨j + 1, by omega, by go_num, by rw [← take_snoc ps j hlt]; simp only [List.mem_append, List.mem_singleton, not_or]; exact ⟨HN.out, fun h => HY.out h.symm⟩⟩
        case measure => simp [intOf]; omega
    · obtain rfl : j = ps.length := by omega
      go_wp2
      go_ret
      exact ⟨-1, rfl, .inl ⟨by have := HN.out; rwa [List.take_length] at this, rfl⟩, rfl⟩
theorem contains_any (ps : List Int) (y : Int) (v : Value) (w : World) (hv : Rd w v ps.length (ints ps)) (hn : ps.length ≤ 1000000) :
    Calls Try.prog 116 #[v, .int .i64 y] w fun e w' => e = .returned (.bool (decide (y ∈ ps))) ∧ w = w' := by
  go_enter Try.func116, Try.ntmps116
  go_wp2_with (go_at_call 95; refine (index_any ps y _ _ hv hn).mono ?_; rintro e w' ⟨r, rfl, hr, rfl⟩)
  go_ret
  refine ⟨?_, rfl⟩
  have : decide (0 ≤ r) = decide (y ∈ ps) := by
    rcases hr with ⟨h1, rfl⟩ | ⟨j, hj, rfl, h1, _⟩
    · simp [h1]
    · have := List.getElem_mem hj; rw [h1] at this; simp [this]
  rw [← this]; rfl

attribute [local go_sem] Oper.semAt_some wide_fn wide_depth
def encI (x : Int) : Array Value := #[.int .i64 x]
theorem Rd.frm2 {S : Nat → Prop} {w w' : World} {v : Value} {n : Nat} {cs : List Value} (h : Rd w v n cs) (f : Frm S w w') (hS : cs ≠ [] → ∀ b, v.ownBlock = some b → ¬ S b) : Rd w' v n cs := by
  by_cases he : cs = []
  · obtain ⟨a, cap, h1, h2, h3, _⟩ := h
    exact ⟨a, cap, h1, h2, h3, fun hne => absurd he hne⟩
  · exact h.frm f (hS he)
theorem Rd.lt {w : World} {v : Value} {n : Nat} {cs : List Value} (h : Rd w v n cs) (he : cs ≠ []) (b : Nat) (hb : v.ownBlock = some b) : b < w.heap.size := by
  obtain ⟨a, cap, rfl, h2, h3, h4⟩ := h
  obtain ⟨b', off, c', E, fr, rfl, hh, _⟩ := h4 he
  have : b' = b := by simpa [Value.ownBlock] using hb
  rw [← this]; exact (Array.getElem?_eq_some_iff.1 hh).1
theorem empty_iter (ps : List Int) (k : Int) (b3 b2 : Nat) (v : Value) (w0 : World) (h3 : w0.heap[b3]? = some (.cells #[.int .i64 k] 3 (0, 0))) (h2 : w0.heap[b2]? = some (.cells #[v] 33 (0, 0))) (hv : Rd w0 v ps.length (ints ps)) (hn : ps.length ≤ 1000000) (hk : k ≤ 1000000) :
    Iter Try.prog 115 #[.pointer (some ⟨b3, 0, none⟩), .pointer (some ⟨b2, 0, none⟩)] encI (fun b => b = b3 ∨ b = b2 ∨ (ints ps ≠ [] ∧ v.ownBlock = some b)) w0 (emptyTo ps k.toNat) := by
  intro l I X w S hfr hOS hSlt hI hX hround h0
  have hv1 : Rd w v ps.length (ints ps) := hv.frm2 hfr (fun he b hb hn => hn (.inr (.inr ⟨he, hb⟩)))
  have hv0 : ints ps ≠ [] → ∀ b, v.ownBlock = some b → ¬ S b := fun he b hb => hOS b (.inr (.inr ⟨he, hb⟩))
  have g3 := (hfr.block b3 (Array.getElem?_eq_some_iff.1 h3).1 (fun hn => hn (.inl rfl))).trans h3
  have g2 := (hfr.block b2 (Array.getElem?_eq_some_iff.1 h2).1 (fun hn => hn (.inr (.inl rfl)))).trans h2
  obtain ⟨c3, _⟩ := blk_cell1 g3
  have hn2 : ¬ S b2 := hOS b2 (.inr (.inl rfl))
  clear hfr h3 h2 hv hOS
  have hvv := hv1
  obtain ⟨va, vc, rfl, _, _, _⟩ := hv1
  refine callsIn_of_wp Try.func115 rfl trivial ?_
  simp only [Try.ntmps115, List.size_toArray, List.length_cons, List.length_nil, Nat.reduceAdd, Nat.reduceSub, Array.replicate_succ, Array.replicate_zero, List.push_toArray, List.append_toArray, List.nil_append, List.cons_append]
  gi_wp2
  gi_loopw [6] (fun i wr => ∃ (j : Nat) (S' : Nat → Prop), (0 < j → j ≤ k) ∧ i = .int .i64 j ∧ Turn S S' w wr ∧ I (emptyTo ps j) S' wr) (fun i _ => (k - intOf i).toNat)
  case atStart => exact ⟨0, S, by omega, rfl, Turn.refl hSlt, h0⟩
  case round =>
    obtain ⟨j, S', hjk, rfl, ht, hi⟩ := hrel
    have hr : Rd wr (.slice va ps.length vc) ps.length (ints ps) := hvv.frm2 ht.frm hv0
    obtain ⟨c2, _⟩ := blk_cell1 ((ht.frm.block b2 (Array.getElem?_eq_some_iff.1 g2).1 hn2).trans g2)
    have HJ := Lib.hid hjk
    clear hjk
    by_cases hlt : (j : Int) < k
    · by_cases hin : (j : Int) ∈ ps
      · have hd : decide ((j : Int) ∈ ps) = true := decide_eq_true hin
        have HE := Lib.hid (emptyTo_in ps j hin)
        clear hround hin
        gi_wp2_with (gi_at_call 116; refine in_of_calls ((contains_any ps j _ _ hr hn).mono ?_); rintro e w' ⟨rfl, rfl⟩; rw [hd])
        refine ⟨⟨j + 1, S', by omega, by go_num, ht, ?_⟩, by simp [intOf]; omega⟩
        rw [HE.out]; exact hi
      · have hd : decide ((j : Int) ∈ ps) = false := decide_eq_false hin
        have HE := Lib.hid (emptyTo_out ps j hin)
        have hpre : emptyTo ps j ++ [(j : Int)] <+: emptyTo ps k.toNat := by
          rw [← emptyTo_out ps j hin]
          have : ∀ m, j + 1 ≤ m → emptyTo ps (j + 1) <+: emptyTo ps m := fun m hm => by
            induction m with
            | zero => omega
            | succ m ih =>
              rcases Nat.lt_or_ge j m with h1 | h1
              · refine (ih (by omega)).trans ?_
                by_cases hm2 : (m : Int) ∈ ps
                · rw [emptyTo_in ps m hm2]; exact List.prefix_refl _
                · rw [emptyTo_out ps m hm2]; exact List.prefix_append _ _
              · obtain rfl : j = m := by omega
                exact List.prefix_refl _
          exact this _ (by omega)
        have hy := hround (emptyTo ps j) (j : Int) S' wr hi hpre ht.lt
        have HP := Lib.hid hpre
        have HI := Lib.hid hi
        clear hround hin hpre hi hI hX
        unfold encI at hy
        gi_wp2_with (gi_at_call 116; refine in_of_calls ((contains_any ps j _ _ hr hn).mono ?_); rintro e w' ⟨rfl, rfl⟩; rw [hd])
        refine yield_step hy ?_
        rintro b w2 ⟨S2, ht2, hc2⟩
        have htt := ht.trans ht2
        cases b
        · rw [if_neg (by simp)] at hc2
          gi_wp2
          refine bodyPost_ret (results_none rfl _ _ _) rfl ⟨rfl, S2, htt, .inr ⟨_, HP.out, hc2⟩⟩
        · rw [if_pos rfl] at hc2
          gi_wp2
          refine ⟨⟨j + 1, S2, by omega, by go_num, htt, ?_⟩, by simp [intOf]; omega⟩
          rw [HE.out]; exact hc2
    · have hkj : k.toNat = j := by have := HJ.out; omega
      have HK := Lib.hid hkj
      clear hkj hround
      gi_wp2
      refine bodyPost_end (results_none rfl _ _ _) rfl ⟨rfl, S', ht, .inl ?_⟩
      rw [HK.out]; exact hi

theorem empty_any (ps : List Int) (k : Int) (v : Value) (w : World) (hv : Rd w v ps.length (ints ps)) (hn : ps.length ≤ 1000000) (hk : k ≤ 1000000) :
    Calls Try.prog 85 #[v, .int .i64 k] w fun e w' => ∃ fv O, e = .returned fv ∧ IterV Try.prog w' fv encI O (emptyTo ps k.toNat) ∧ Frm Non w w' ∧ ∀ b, O b → w.heap.size ≤ b ∨ (ints ps ≠ [] ∧ v.ownBlock = some b) := by
  have hF : Frm Non w ((w.alloc (.cells #[v] 33)).alloc (.cells #[.int .i64 k] 3)) := ((Frm.refl w).alloc _).alloc _
  have hb2 : ((w.alloc (.cells #[v] 33)).alloc (.cells #[.int .i64 k] 3)).heap[w.heap.size]? = some (.cells #[v] 33 (0, 0)) := (Below.heap_alloc _ _ _ (by simp)).trans (heap_alloc_new w _)
  have hb3 : ((w.alloc (.cells #[v] 33)).alloc (.cells #[.int .i64 k] 3)).heap[w.heap.size + 1]? = some (.cells #[.int .i64 k] 3 (0, 0)) := by
    have := heap_alloc_new (w.alloc (.cells #[v] 33)) (.cells #[.int .i64 k] 3); rwa [show (w.alloc (.cells #[v] 33)).heap.size = w.heap.size + 1 from by simp] at this
  have hit := empty_iter ps k _ _ v _ hb3 hb2 (hv.frm hF (fun _ _ x => x)) hn hk
  have hvl := hv.lt
  obtain ⟨va, vc, rfl, _, _, _⟩ := hv
  go_enter Try.func85, Try.ntmps85
  go_wp2
  go_ret
  refine ⟨_, _, rfl, ⟨115, _, rfl, callFunc_enter Try.func115 rfl rfl, hit, fun b hb => ?_⟩, hF, fun b hb => ?_⟩
  · rcases hb with rfl | rfl | ⟨h1, h2⟩
    · simp
    · simp; omega
    · have := hvl h1 b h2; simp; omega
  · rcases hb with rfl | rfl | ⟨h1, h2⟩
    · exact .inl (by omega)
    · exact .inl (Nat.le_refl _)
    · exact .inr ⟨h1, h2⟩
end Go.Proofs.Ytjkcclcjhidokaa
