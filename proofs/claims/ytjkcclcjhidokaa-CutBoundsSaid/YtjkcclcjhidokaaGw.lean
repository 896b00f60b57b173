/- The graph's small functions, walked. -/
import Derived.Test.YtjkcclcjhidokaaGr
namespace Go.Proofs.Ytjkcclcjhidokaa
open Go.RowKit
set_option maxHeartbeats 400000

theorem within_any (n lo hi : Int) (w : World) : Calls Try.prog 127 #[.int .i64 n, .int .i64 lo, .int .i64 hi] w fun e w' => e = .returned (.bool (decide (lo ≤ n ∧ n ≤ hi))) ∧ w = w' := by
  by_cases h : lo ≤ n
  · go_enter Try.func127, Try.ntmps127
    go_wp2
    go_ret
    exact ⟨by simp [h], rfl⟩
  · have hd : decide (lo ≤ n) = false := by simpa using h
    go_enter Try.func127, Try.ntmps127
    go_wp2
    go_ret
    exact ⟨by simp, rfl⟩
def mayB (n : Int) : Bool := decide (1 ≤ n ∧ n ≤ 1099511627776)
theorem may_any (n : Int) (w : World) : Calls Try.prog 102 #[.int .i64 n] w fun e w' => e = .returned (.bool (mayB n)) ∧ w = w' := by
  go_enter Try.func102, Try.ntmps102
  go_wp2_with (go_at_call 127; refine (within_any _ _ _ _).mono ?_; rintro e w' ⟨rfl, rfl⟩)
  go_ret
  exact ⟨by simp [mayB], rfl⟩

theorem blk_cell2 {w : World} {m : Nat} {v u : Value} {t : Nat} (h : w.heap[m]? = some (.cells #[v, u] t (0, 0))) : w.cell? ⟨m, 0, none⟩ = some v ∧ w.cell? ⟨m, 1, none⟩ = some u ∧ w.frozen? ⟨m, 0, none⟩ = false ∧ w.frozen? ⟨m, 1, none⟩ = false := by
  simp [World.cell?, World.frozen?, h]
section
variable {w : World} {gb : Nat} {ws : List Int} {adj : List (List (Int × Int))} {wv nv : Value} {ms : List Nat} {vs : List Value} {S : Nat → Prop}

theorem there_any (h : GP w gb ws adj wv nv ms vs S) (_hn : ws.length ≤ 4096) (i : Int) :
    Calls Try.prog 99 #[ptr gb, .int .i64 i] w fun e w' => e = .returned (.bool (decide (0 ≤ i ∧ i < ws.length))) ∧ w = w' := by
  obtain ⟨c0, _, _, _⟩ := blk_cell2 h.blk
  obtain ⟨a, cap, rfl, _, _, _⟩ := own_rd h.wo
  unfold ptr
  by_cases hi : 0 ≤ i
  · go_enter Try.func99, Try.ntmps99
    go_wp2
    go_ret
    exact ⟨by simp [hi], rfl⟩
  · have hd : decide (0 ≤ i) = false := by simpa using hi
    go_enter Try.func99, Try.ntmps99
    go_wp2
    go_ret
    exact ⟨by simp, rfl⟩
theorem len_any (h : GP w gb ws adj wv nv ms vs S) (_hn : ws.length ≤ 4096) :
    Calls Try.prog 35 #[ptr gb] w fun e w' => e = .returned (.int .i64 ws.length) ∧ w = w' := by
  obtain ⟨c0, _, _, _⟩ := blk_cell2 h.blk
  obtain ⟨a, cap, rfl, _, _, _⟩ := own_rd h.wo
  unfold ptr
  go_enter Try.func35, Try.ntmps35
  go_wp2
  go_ret
  exact ⟨rfl, rfl⟩
theorem weight_any (h : GP w gb ws adj wv nv ms vs S) (hn : ws.length ≤ 4096) (i : Int) :
    Calls Try.prog 63 #[ptr gb, .int .i64 i] w fun e w' => e = .returned (.int .i64 (if 0 ≤ i then ws.getD i.toNat 0 else 0)) ∧ w = w' := by
  obtain ⟨c0, _, _, _⟩ := blk_cell2 h.blk
  have hr := own_rd h.wo
  by_cases hi : 0 ≤ i ∧ i < ws.length
  · obtain ⟨k, rfl⟩ := Int.eq_ofNat_of_zero_le hi.1
    have hk : k < ws.length := by omega
    have ht := there_any h hn k
    rw [decide_eq_true hi] at ht
    obtain ⟨a, cap, rfl, hcap, _, hc⟩ := hr
    obtain ⟨b, off, rfl, hc1⟩ := ints_at hc k hk
    have hfin : (if (0 : Int) ≤ (k : Int) then ws.getD (k : Int).toNat 0 else 0) = ws[k] := by simp [hk]
    rw [hfin]
    clear hfin hi h hn hc
    unfold ptr at *
    go_enter Try.func63, Try.ntmps63
    go_wp2_with (go_at_call 99; refine ht.mono ?_; rintro e w' ⟨rfl, rfl⟩)
    go_ret
    exact ⟨rfl, rfl⟩
  · have ht := there_any h hn i
    rw [decide_eq_false hi] at ht
    have hfin : (if (0 : Int) ≤ i then ws.getD i.toNat 0 else 0) = 0 := by
      split
      · rw [List.getD_eq_getElem?_getD, List.getElem?_eq_none (by omega)]; rfl
      · rfl
    rw [hfin]
    clear hfin
    go_enter Try.func63, Try.ntmps63
    go_wp2_with (go_at_call 99; refine ht.mono ?_; rintro e w' ⟨rfl, rfl⟩)
    go_ret
    exact ⟨rfl, rfl⟩
end

/-- a graph's list of what is between a thing and the others. -/
theorem GP.at {w : World} {gb : Nat} {ws : List Int} {adj : List (List (Int × Int))} {wv nv : Value} {ms : List Nat} {vs : List Value} {S : Nat → Prop} (h : GP w gb ws adj wv nv ms vs S) (k : Nat) (es : List (Int × Int)) (hk : adj[k]? = some es) :
    ∃ g cap m v, nv = .slice (some ⟨g, 0, none⟩) ms.length cap ∧ ms.length ≤ cap ∧ k < ms.length ∧ w.cell? ⟨gb, 1, none⟩ = some nv ∧ w.cell? ⟨g, k, none⟩ = some (ptr m) ∧ ms[k]? = some m ∧ vs[k]? = some v ∧ MapAt w m es v := by
  obtain ⟨hka, _⟩ := List.getElem?_eq_some_iff.1 hk
  have hkm : k < ms.length := by rw [← h.la]; exact hka
  have hkv : k < vs.length := by rw [h.lv]; exact hkm
  have e1 := List.getElem?_eq_getElem hkm
  have e2 := List.getElem?_eq_getElem hkv
  obtain ⟨g, cap, hnv, hcap, _, hc, _⟩ := own_at h.no k (ptr ms[k]) (by simp [hkm])
  exact ⟨g, cap, _, _, hnv, hcap, hkm, (blk_cell2 h.blk).2.1, hc, e1, e2, h.maps k _ _ es e1 e2 hk⟩
theorem adj_at (B : Nat → Nat → Int) (n k : Nat) (h : k < n) : (adjOf B n)[k]? = some (row B n k) := by simp [adjOf, h]
theorem between_any {w : World} {gb : Nat} {ws : List Int} {B : Nat → Nat → Int} {S : Nat → Prop} (h : GAt w gb ws B S) (a b : Int) :
    Calls Try.prog 62 #[ptr gb, .int .i64 a, .int .i64 b] w fun e w' => e = .returned (.int .i64 (if 0 ≤ a ∧ a < ws.length ∧ 0 ≤ b ∧ b < ws.length then B a.toNat b.toNat else 0)) ∧ Frm Non w w' := by
  obtain ⟨⟨wv, nv, ms, vs, hg⟩, hB, hn, hw⟩ := h
  clear hw
  by_cases hi : 0 ≤ a ∧ a < ws.length
  · obtain ⟨k, rfl⟩ := Int.eq_ofNat_of_zero_le hi.1
    have hk : k < ws.length := by omega
    have ht := there_any hg hn k
    rw [decide_eq_true hi] at ht
    obtain ⟨g, cap, m, v, rfl, hcap, hkm, hc0, hc1, _, _, hm⟩ := hg.at k _ (adj_at B _ k hk)
    have hfin : (if 0 ≤ (k : Int) ∧ (k : Int) < ws.length ∧ 0 ≤ b ∧ b < ws.length then B (k : Int).toNat b.toNat else 0) = getK (row B ws.length k) b := by
      rw [row_get]; simp [hk]
    rw [hfin]
    have hrl := row_len B ws.length k
    have hgt := get_any _ m v b w hm (row_srt _ _ _) (by omega)
    clear hfin hi hg hB hrl hm
    unfold ptr at *
    go_enter Try.func62, Try.ntmps62
    go_wp2_with (first | (go_at_call 99; refine ht.mono ?_; rintro e w' ⟨rfl, rfl⟩) | (go_at_call 100; refine hgt.mono ?_; rintro e w' ⟨rfl, hf⟩))
    go_ret
    exact ⟨rfl, hf⟩
  · have ht := there_any hg hn a
    rw [decide_eq_false hi] at ht
    rw [if_neg (fun h => hi ⟨h.1, h.2.1⟩)]
    go_enter Try.func62, Try.ntmps62
    go_wp2_with (go_at_call 99; refine ht.mono ?_; rintro e w' ⟨rfl, rfl⟩)
    go_ret
    exact ⟨rfl, Frm.refl _⟩
end Go.Proofs.Ytjkcclcjhidokaa
