/- Small functions of the document, walked. -/
import Derived.Test.YtjkcclcjhidokaaBp
namespace Go.Proofs.Ytjkcclcjhidokaa
open Go.RowKit
set_option maxHeartbeats 400000

set_option maxRecDepth 100000 in
theorem same_any (xs ys : List Int) (v u : Value) (w : World) (hv : Rd w v xs.length (ints xs)) (hu : Rd w u ys.length (ints ys)) (hn : xs.length ≤ 1000000) :
    Calls Try.prog 26 #[v, u] w fun e w' => e = .returned (.bool (decide (xs = ys))) ∧ Frm Non w w' := by
  obtain ⟨a, cap, rfl, _, _, hc⟩ := hv
  obtain ⟨a', cap', rfl, _, _, hc'⟩ := hu
  by_cases hl : xs.length = ys.length
  case neg =>
    have hne : ((xs.length : Int) == (ys.length : Int)) = false := beq_eq_false_iff_ne.2 (by omega)
    have hd : decide (xs = ys) = false := decide_eq_false (fun h => hl (by rw [h]))
    rw [hd]
    clear hl hd
    go_enter Try.func26, Try.ntmps26
    go_wp2
    go_ret
    exact ⟨rfl, Frm.refl _⟩
  case pos =>
    have HL := Lib.hid hl
    rw [← hl]
    clear hl
    go_enter Try.func26, Try.ntmps26
    go_wp2
    go_loopw [5] (fun i wr => ∃ k : Nat, k ≤ xs.length ∧ i = .int .i64 k ∧ xs.take k = ys.take k ∧ Frm Non w wr) (fun i _ => (xs.length - intOf i).toNat)
    case atStart => exact ⟨0, Nat.zero_le _, rfl, rfl, Frm.refl _⟩
    case round =>
      obtain ⟨k, hk, rfl, heq, hf⟩ := hrel
      have HE := Lib.hid heq
      clear heq
      by_cases hlt : k < xs.length
      · obtain ⟨b, off, rfl, hc1⟩ := ints_at (hc.frm hf (Off.non _)) k hlt
        have hlt2 : k < ys.length := HL.out ▸ hlt
        obtain ⟨b', off', rfl, hc2⟩ := ints_at (hc'.frm hf (Off.non _)) k hlt2
        by_cases hab : xs[k] = ys[k]
        · go_wp2
          go_still_tail 8, (by kernel_rfl)
          go_wp2
          go_round
          case rel => exact ⟨k + 1, by omega, by go_num, by rw [← take_snoc xs k hlt, ← take_snoc ys k hlt2, HE.out, hab], hf.drew⟩
          case measure => simp [intOf]; omega
        · have hd : decide (xs = ys) = false := decide_eq_false (fun h => hab (by simp [h]))
          have HD := Lib.hid hd
          have hne : (xs[k] == ys[k]) = false := beq_eq_false_iff_ne.2 hab
          clear hd hab
          go_wp2
          go_still_tail 8, (by kernel_rfl)
          go_wp2
          go_ret
          exact ⟨by rw [HD.out]; rfl, hf.drew⟩
      · obtain rfl : k = xs.length := by omega
        have hd : decide (xs = ys) = true := decide_eq_true (by have := HE.out; rwa [List.take_length, HL.out, List.take_length] at this)
        have HD := Lib.hid hd
        clear hd
        go_wp2
        go_ret
        exact ⟨by rw [HD.out]; rfl, hf⟩
theorem in_any (xs : List Int) (y : Int) (v : Value) (w : World) (hv : Rd w v xs.length (ints xs)) (hn : xs.length ≤ 1000000) :
    Calls Try.prog 72 #[v, .int .i64 y] w fun e w' => e = .returned (.bool (decide (y ∈ xs))) ∧ w = w' := by
  obtain ⟨a, cap, rfl, _, _, hc⟩ := hv
  go_enter Try.func72, Try.ntmps72
  go_wp2
  go_loop [5] (fun i => ∃ k : Nat, k ≤ xs.length ∧ i = .int .i64 k ∧ y ∉ xs.take k) (fun i => (xs.length - intOf i).toNat)
  case atStart => exact ⟨0, Nat.zero_le _, rfl, by simp⟩
  case round =>
    obtain ⟨k, hk, rfl, hnot⟩ := hrel
    have HE := Lib.hid hnot
    clear hnot
    by_cases hlt : k < xs.length
    · obtain ⟨b, off, rfl, hc1⟩ := ints_at hc k hlt
      by_cases hab : xs[k] = y
      · have hd : decide (y ∈ xs) = true := decide_eq_true (hab ▸ List.getElem_mem hlt)
        have HD := Lib.hid hd
        have hne : (xs[k] == y) = true := beq_iff_eq.2 hab
        clear hd hab
        go_wp2
        go_ret
        exact ⟨by rw [HD.out]; rfl, rfl⟩
      · have hne : (xs[k] == y) = false := beq_eq_false_iff_ne.2 hab
        have HA := Lib.hid hab
        clear hab
        go_wp2
        go_round
        case rel => exact ⟨k + 1, by omega, by go_num, by rw [← take_snoc xs k hlt]; simp only [List.mem_append, List.mem_singleton, not_or]; exact ⟨HE.out, fun h => HA.out h.symm⟩⟩
        case measure => simp [intOf]; omega
    · obtain rfl : k = xs.length := by omega
      have hd : decide (y ∈ xs) = false := decide_eq_false (by have := HE.out; rwa [List.take_length] at this)
      have HD := Lib.hid hd
      clear hd
      go_wp2
      go_ret
      exact ⟨by rw [HD.out]; rfl, rfl⟩

/-- a quotient, upwards. -/
def upI (a b : Int) : Int := if a < 1 ∨ b < 1 then 0 else if 0 < a % b then a.tdiv b + 1 else a.tdiv b
theorem rup_any (a b : Int) (w : World) (ha : a ≤ 4611686018427387904) :
    Calls Try.prog 79 #[.int .i64 a, .int .i64 b] w fun e w' => e = .returned (.int .i64 (upI a b)) ∧ w = w' := by
  by_cases h1 : a < 1
  · rw [show upI a b = 0 from if_pos (.inl h1)]
    go_enter Try.func79, Try.ntmps79
    go_wp2
    go_ret
    exact ⟨rfl, rfl⟩
  have h1' : decide (a < 1) = false := by simpa using h1
  by_cases h2 : b < 1
  · rw [show upI a b = 0 from if_pos (.inr h2)]
    go_enter Try.func79, Try.ntmps79
    go_wp2
    go_ret
    exact ⟨rfl, rfl⟩
  have h2' : decide (b < 1) = false := by simpa using h2
  have hbz : (b == 0) = false := beq_eq_false_iff_ne.2 (by omega)
  have hq : 0 ≤ a.tdiv b ∧ a.tdiv b ≤ a := ⟨Int.tdiv_nonneg (by omega) (by omega), by rw [Int.tdiv_eq_ediv_of_nonneg (by omega)]; exact Int.ediv_le_self _ (by omega)⟩
  obtain ⟨q1, q2⟩ := hq
  have hr0 : 0 ≤ a % b := Int.emod_nonneg _ (by omega)
  have hr1 : a % b ≤ a := by have := Int.emod_add_mul_ediv a b; have h3 : 0 ≤ b * (a / b) := Int.mul_nonneg (by omega) (Int.ediv_nonneg (by omega) (by omega)); omega
  by_cases h3 : 0 < a % b
  · rw [show upI a b = a.tdiv b + 1 from (if_neg (by omega)).trans (if_pos h3)]
    go_enter Try.func79, Try.ntmps79
    go_wp2
    go_ret
    exact ⟨rfl, rfl⟩
  · have h3' : decide (0 < a % b) = false := by simpa using h3
    rw [show upI a b = a.tdiv b from (if_neg (by omega)).trans (if_neg h3)]
    clear h3
    go_enter Try.func79, Try.ntmps79
    go_wp2
    go_ret
    exact ⟨rfl, rfl⟩

theorem rtotal_any {w : World} {x : Value} {ws : List Int} {B : Nat → Nat → Int} {S : Nat → Prop} (h : XAt w x ws B S) (hn : ws.length ≤ 4096) (hw : ∀ y ∈ ws, 0 ≤ y ∧ y ≤ 1099511627776) :
    Calls Try.prog 80 #[x] w fun e w' => e = .returned (.int .i64 ws.sum) ∧ Frm Non w w' := by
  obtain ⟨wv, Mv, rs, rfl, h⟩ := h
  obtain ⟨a, cap, rfl, _, _, hc⟩ := own_rd h.wo
  obtain ⟨a', cap', rfl, _, _, _⟩ := own_rd h.mo
  have HW := Lib.hid hw
  clear hw
  have hF : Frm Non w (w.alloc (.cells #[.slice a ws.length cap, .slice a' rs.length cap'] 28)) := (Frm.refl w).alloc _
  obtain ⟨b0, _⟩ := blk_cell2 (show (w.alloc (.cells #[.slice a ws.length cap, .slice a' rs.length cap'] 28)).heap[w.heap.size]? = some (.cells #[.slice a ws.length cap, .slice a' rs.length cap'] 28 (0, 0)) from heap_alloc_new w _)
  go_enter Try.func80, Try.ntmps80
  go_wp2
  go_loop [3, 4] (fun s i => ∃ k : Nat, k ≤ ws.length ∧ i = .int .i64 k ∧ s = .int .i64 (ws.take k).sum) (fun _ i => (ws.length - intOf i).toNat)
  case atStart => exact ⟨0, Nat.zero_le _, rfl, rfl⟩
  case round =>
    obtain ⟨k, hk, rfl, rfl⟩ := hrel
    by_cases hlt : k < ws.length
    · obtain ⟨b, off, rfl, hc1⟩ := ints_at (hc.frm hF (Off.non _)) k hlt
      have hb := sum_bd (ws.take k) 1099511627776 (fun x hx => HW.out x (List.mem_of_mem_take hx))
      have hb2 := HW.out ws[k] (List.getElem_mem hlt)
      have hl : (ws.take k).length ≤ 4096 := by rw [List.length_take]; omega
      have HS := Lib.hid (sum_snoc ws k hlt)
      have hle : (ws.take k).sum ≤ 4503599627370496 := by omega
      obtain ⟨hb0, _⟩ := hb
      obtain ⟨hb3, hb4⟩ := hb2
      clear hl
      go_wp2
      go_round
      case rel => exact ⟨k + 1, by omega, by go_num, by rw [HS.out]⟩
      case measure => simp [intOf]; omega
    · obtain rfl : k = ws.length := by omega
      go_wp2
      go_ret
      exact ⟨rfl, hF⟩

/-- are parts right? -/
def rightB (n : Nat) (ps : List Int) (k : Int) : Bool := decide (1 ≤ k ∧ k ≤ 4096 ∧ ps.length = n ∧ ∀ p ∈ ps, 0 ≤ p ∧ p < k)
set_option maxRecDepth 100000 in
theorem rright_any {w : World} {x : Value} {ws : List Int} {B : Nat → Nat → Int} {S : Nat → Prop} (h : XAt w x ws B S) (ps : List Int) (v : Value) (hv : Rd w v ps.length (ints ps)) (hn : ps.length ≤ 4096) (k : Int) :
    Calls Try.prog 39 #[x, v, .int .i64 k] w fun e w' => e = .returned (.bool (rightB ws.length ps k)) ∧ Frm Non w w' := by
  obtain ⟨wv, Mv, rs, rfl, h⟩ := h
  obtain ⟨a, cap, rfl, _, _, _⟩ := own_rd h.wo
  obtain ⟨a', cap', rfl, _, _, _⟩ := own_rd h.mo
  obtain ⟨pa, pc, rfl, _, _, hp⟩ := hv
  have hF : Frm Non w (w.alloc (.cells #[.slice a ws.length cap, .slice a' rs.length cap'] 28)) := (Frm.refl w).alloc _
  obtain ⟨b0, _⟩ := blk_cell2 (show (w.alloc (.cells #[.slice a ws.length cap, .slice a' rs.length cap'] 28)).heap[w.heap.size]? = some (.cells #[.slice a ws.length cap, .slice a' rs.length cap'] 28 (0, 0)) from heap_alloc_new w _)
  by_cases h1 : k < 1
  · rw [show rightB ws.length ps k = false from decide_eq_false (by omega)]
    go_enter Try.func39, Try.ntmps39
    go_wp2
    go_ret
    exact ⟨rfl, hF⟩
  have h1' : decide (k < 1) = false := by simpa using h1
  by_cases h2 : 4096 < k
  · rw [show rightB ws.length ps k = false from decide_eq_false (by omega)]
    go_enter Try.func39, Try.ntmps39
    go_wp2
    go_ret
    exact ⟨rfl, hF⟩
  have h2' : decide (4096 < k) = false := by simpa using h2
  by_cases h3 : ps.length = ws.length
  case neg =>
    rw [show rightB ws.length ps k = false from decide_eq_false (fun h => h3 h.2.2.1)]
    have hne : ((ps.length : Int) == (ws.length : Int)) = false := beq_eq_false_iff_ne.2 (by omega)
    clear h3
    go_enter Try.func39, Try.ntmps39
    go_wp2
    go_ret
    exact ⟨rfl, hF⟩
  have H3 := Lib.hid h3
  have heq : ((ps.length : Int) == (ws.length : Int)) = true := beq_iff_eq.2 (by omega)
  clear h3
  go_enter Try.func39, Try.ntmps39
  go_wp2
  go_loop [7] (fun i => ∃ j : Nat, j ≤ ps.length ∧ i = .int .i64 j ∧ ∀ p ∈ ps.take j, 0 ≤ p ∧ p < k) (fun i => (ps.length - intOf i).toNat)
  case atStart => exact ⟨0, Nat.zero_le _, rfl, by simp⟩
  case round =>
    obtain ⟨j, hj, rfl, hall⟩ := hrel
    have HA := Lib.hid hall
    clear hall
    by_cases hlt : j < ps.length
    · obtain ⟨b, off, rfl, hc1⟩ := ints_at (hp.frm hF (Off.non _)) j hlt
      by_cases hg : 0 ≤ ps[j] ∧ ps[j] < k
      · have HG := Lib.hid hg
        obtain ⟨g1, g2⟩ := hg
        go_wp2
        go_round
        case rel => exact ⟨j + 1, by omega, by go_num, by rw [← take_snoc ps j hlt]; intro p hp; rcases List.mem_append.1 hp with hp | hp; exact HA.out p hp; rw [List.mem_singleton.1 hp]; exact HG.out⟩
        case measure => simp [intOf]; omega
      · have hd : rightB ws.length ps k = false := decide_eq_false (fun h => hg (h.2.2.2 _ (List.getElem_mem hlt)))
        have HD := Lib.hid hd
        clear hd
        by_cases g0 : ps[j] < 0
        · clear hg
          go_wp2
          go_ret
          exact ⟨by rw [HD.out]; rfl, hF⟩
        · have g1 : k ≤ ps[j] := by omega
          have g0' : decide (ps[j] < 0) = false := by simpa using g0
          clear hg g0
          go_wp2
          go_ret
          exact ⟨by rw [HD.out]; rfl, hF⟩
    · obtain rfl : j = ps.length := by omega
      have hd : rightB ws.length ps k = true := decide_eq_true ⟨by omega, by omega, H3.out, by have := HA.out; rwa [List.take_length] at this⟩
      have HD := Lib.hid hd
      clear hd
      go_wp2
      go_ret
      exact ⟨by rw [HD.out]; rfl, hF⟩

/-- the greatest. -/
def maxW (ws : List Int) : Int := ws.foldl (fun m x => max m x) 0
theorem maxW_snoc (ws : List Int) (k : Nat) (h : k < ws.length) : maxW (ws.take (k + 1)) = max (maxW (ws.take k)) ws[k] := by
  unfold maxW; rw [← take_snoc ws k h, List.foldl_append]; rfl
theorem maxW_bd (ws : List Int) (M : Int) (hM : 0 ≤ M) (h : ∀ x ∈ ws, x ≤ M) : 0 ≤ maxW ws ∧ maxW ws ≤ M := by
  suffices hs : ∀ m, 0 ≤ m → m ≤ M → 0 ≤ ws.foldl (fun m x => max m x) m ∧ ws.foldl (fun m x => max m x) m ≤ M from hs 0 (Int.le_refl _) hM
  induction ws with
  | nil => exact fun m h1 h2 => ⟨h1, h2⟩
  | cons y ws ih => exact fun m h1 h2 => ih (fun x hx => h x (List.mem_cons_of_mem _ hx)) _ (show 0 ≤ max m y by omega) (show max m y ≤ M by have := h y (by simp); omega)
def boundI (ws : List Int) (k : Int) : Int := upI ws.sum k + maxW ws
set_option maxRecDepth 100000 in
theorem rbound_any {w : World} {x : Value} {ws : List Int} {B : Nat → Nat → Int} {S : Nat → Prop} (h : XAt w x ws B S) (hn : ws.length ≤ 4096) (hw : ∀ y ∈ ws, 0 ≤ y ∧ y ≤ 1099511627776) (k : Int) :
    Calls Try.prog 40 #[x, .int .i64 k] w fun e w' => e = .returned (.int .i64 (boundI ws k)) ∧ Frm Non w w' := by
  have hX := h
  obtain ⟨wv, Mv, rs, rfl, h⟩ := h
  obtain ⟨a, cap, rfl, _, _, hc⟩ := own_rd h.wo
  obtain ⟨a', cap', rfl, _, _, _⟩ := own_rd h.mo
  have hF : Frm Non w (w.alloc (.cells #[.slice a ws.length cap, .slice a' rs.length cap'] 28)) := (Frm.refl w).alloc _
  obtain ⟨b0, b1, _⟩ := blk_cell2 (show (w.alloc (.cells #[.slice a ws.length cap, .slice a' rs.length cap'] 28)).heap[w.heap.size]? = some (.cells #[.slice a ws.length cap, .slice a' rs.length cap'] 28 (0, 0)) from heap_alloc_new w _)
  have htot := rtotal_any (hX.frm hF (fun _ _ x => x)) hn hw
  have hsum := sum_bd ws 1099511627776 hw
  have hup : 0 ≤ upI ws.sum k ∧ upI ws.sum k ≤ ws.sum + 1 := by
    unfold upI
    split
    · omega
    · have : ws.sum.tdiv k ≤ ws.sum := by rw [Int.tdiv_eq_ediv_of_nonneg (by omega)]; exact Int.ediv_le_self _ (by omega)
      have : 0 ≤ ws.sum.tdiv k := Int.tdiv_nonneg (by omega) (by omega)
      split <;> omega
  have hmx := maxW_bd ws 1099511627776 (by omega) (fun x hx => (hw x hx).2)
  obtain ⟨u1, u2⟩ := hup
  obtain ⟨m1, m2⟩ := hmx
  obtain ⟨s1, s2⟩ := hsum
  have HW := Lib.hid hw
  clear hw
  go_enter Try.func40, Try.ntmps40
  go_wp2
  go_loop [5, 6] (fun s i => ∃ k : Nat, k ≤ ws.length ∧ i = .int .i64 k ∧ s = .int .i64 (maxW (ws.take k))) (fun _ i => (ws.length - intOf i).toNat)
  case atStart => exact ⟨0, Nat.zero_le _, rfl, rfl⟩
  case round =>
    obtain ⟨k, hk, rfl, rfl⟩ := hrel
    by_cases hlt : k < ws.length
    · obtain ⟨b, off, rfl, hc1⟩ := ints_at (hc.frm hF (Off.non _)) k hlt
      have hs := maxW_snoc ws k hlt
      by_cases hg : maxW (ws.take k) < ws[k]
      · have HS := Lib.hid (hs.trans (by omega) : maxW (ws.take (k + 1)) = ws[k])
        clear hs
        go_wp2
        go_round
        case rel => exact ⟨k + 1, by omega, by go_num, by rw [HS.out]⟩
        case measure => simp [intOf]; omega
      · have HS := Lib.hid (hs.trans (by omega) : maxW (ws.take (k + 1)) = maxW (ws.take k))
        have hg' : decide (maxW (ws.take k) < ws[k]) = false := by simpa using hg
        clear hs hg
        go_wp2
        go_round
        case rel => exact ⟨k + 1, by omega, by go_num, by rw [HS.out]⟩
        case measure => simp [intOf]; omega
    · obtain rfl : k = ws.length := by omega
      go_wp2_with fail
      refine htot.mono ?_
      rintro e w1 ⟨rfl, hf⟩
      go_wp2_with (go_at_call 79; refine (rup_any _ _ _ (by omega)).mono ?_; rintro e w' ⟨rfl, rfl⟩)
      go_ret
      exact ⟨rfl, hF.trans' hf⟩

/-! ### the cut -/
def sumTo (f : Nat → Int) : Nat → Int
  | 0 => 0
  | n + 1 => sumTo f n + f n
theorem sumTo_bd (f : Nat → Int) (M : Int) (_hM : 0 ≤ M) (h : ∀ i, 0 ≤ f i ∧ f i ≤ M) (n : Nat) : 0 ≤ sumTo f n ∧ sumTo f n ≤ M * n := by
  induction n with
  | zero => simp [sumTo]
  | succ n ih => have := h n; simp only [sumTo, Int.natCast_add, Int.mul_add]; omega
theorem sumTo_zero (f : Nat → Int) (n : Nat) (h : ∀ i, i < n → f i = 0) : sumTo f n = 0 := by
  induction n with
  | zero => rfl
  | succ n ih => simp only [sumTo, h n (by omega), ih (fun i hi => h i (by omega))]; rfl
/-- the part of a thing. -/
def pt (ps : List Int) (a : Nat) : Int := ps.getD a 0
theorem pt_get (ps : List Int) (a : Nat) (h : a < ps.length) : pt ps a = ps[a] := by simp [pt, h]
def cutE (B : Nat → Nat → Int) (ps : List Int) (a b : Nat) : Int := if a < b ∧ pt ps a ≠ pt ps b then B a b else 0
def cutB (B : Nat → Nat → Int) (ps : List Int) : Int := sumTo (fun a => sumTo (cutE B ps a) ps.length) ps.length
theorem cutE_bd {n : Nat} {B : Nat → Nat → Int} (h : BOk n B) (ps : List Int) (a b : Nat) : 0 ≤ cutE B ps a b ∧ cutE B ps a b ≤ 1099511627776 := by
  unfold cutE; have := h.ge a b; have := h.le a b; split <;> omega
theorem cut_bd1 {n : Nat} {B : Nat → Nat → Int} (h : BOk n B) (ps : List Int) (a m : Nat) (hm : m ≤ 1000) : 0 ≤ sumTo (cutE B ps a) m ∧ sumTo (cutE B ps a) m ≤ 1099511627776000 := by
  have := sumTo_bd (cutE B ps a) 1099511627776 (by omega) (fun i => cutE_bd h ps a i) m; omega
theorem cut_bd2 {n : Nat} {B : Nat → Nat → Int} (h : BOk n B) (ps : List Int) (m : Nat) (hm : m ≤ 1000) (hp : ps.length ≤ 1000) : 0 ≤ sumTo (fun a => sumTo (cutE B ps a) ps.length) m ∧ sumTo (fun a => sumTo (cutE B ps a) ps.length) m ≤ 1099511627776000000 := by
  have := sumTo_bd (fun a => sumTo (cutE B ps a) ps.length) 1099511627776000 (by omega) (fun i => cut_bd1 h ps i _ hp) m; omega
set_option maxRecDepth 100000 in
theorem rcut_any {w : World} {x : Value} {ws : List Int} {B : Nat → Nat → Int} {S : Nat → Prop} (h : XAt w x ws B S) (hB : BOk ws.length B) (ps : List Int) (v : Value) (hv : Rd w v ps.length (ints ps)) (hl : ps.length = ws.length) (hn : ps.length ≤ 1000) :
    Calls Try.prog 49 #[x, v] w fun e w' => e = .returned (.int .i64 (cutB B ps)) ∧ Frm Non w w' := by
  obtain ⟨wv, Mv, rs, rfl, h⟩ := h
  have hX := h
  obtain ⟨a, cap, rfl, _, _, hc⟩ := own_rd h.wo
  obtain ⟨a', cap', rfl, _, _, hc'⟩ := own_rd h.mo
  obtain ⟨pa, pc, rfl, _, _, hp⟩ := hv
  have hF : Frm Non w (w.alloc (.cells #[.slice a ws.length cap, .slice a' rs.length cap'] 28)) := (Frm.refl w).alloc _
  have hblk : (w.alloc (.cells #[.slice a ws.length cap, .slice a' rs.length cap'] 28)).heap[w.heap.size]? = some (.cells #[.slice a ws.length cap, .slice a' rs.length cap'] 28 (0, 0)) := heap_alloc_new w _
  have hlt0 := (Array.getElem?_eq_some_iff.1 hblk).1
  have HL := Lib.hid hl
  have hat := fun (W : World) (f : Frm Non w W) (i j : Nat) (hi : i < ps.length) (hj : j < ps.length) => (hX.frm f (fun _ _ x => x)).at i j _ _ (mat_at B _ i (hl ▸ hi)) (mat_at2 B _ i j (hl ▸ hj))
  clear hl
  go_enter Try.func49, Try.ntmps49
  go_wp2
  go_loopw [5, 6] (fun s i wr => ∃ k : Nat, k ≤ ps.length ∧ i = .int .i64 k ∧ s = .int .i64 (sumTo (fun a => sumTo (cutE B ps a) ps.length) k) ∧ Frm Non (w.alloc (.cells #[.slice a ws.length cap, .slice a' rs.length cap'] 28)) wr) (fun _ i _ => (ps.length - intOf i).toNat)
  case atStart => exact ⟨0, Nat.zero_le _, rfl, rfl, Frm.refl _⟩
  case round =>
    obtain ⟨k, hk, rfl, rfl, hf⟩ := hrel
    by_cases hlt : k < ps.length
    · have hb := cut_bd2 hB ps k (by omega) hn
      obtain ⟨hb1, hb2⟩ := hb
      go_wp2
      go_loopw [5, 7] (fun s i wr2 => ∃ j : Nat, k < j ∧ j ≤ ps.length ∧ i = .int .i64 j ∧ s = .int .i64 (sumTo (fun a => sumTo (cutE B ps a) ps.length) k + sumTo (cutE B ps k) j) ∧ Frm Non (w.alloc (.cells #[.slice a ws.length cap, .slice a' rs.length cap'] 28)) wr2) (fun _ i _ => (ps.length - intOf i).toNat)
      case atStart => exact ⟨k + 1, by omega, by omega, by go_num, by rw [sumTo_zero (cutE B ps k) (k + 1) (fun i hi => by unfold cutE; rw [if_neg (by omega)])]; simp, hf⟩
      case round =>
        obtain ⟨j, hkj, hj, rfl, rfl, hf2⟩ := hrel
        by_cases hlt2 : j < ps.length
        · obtain ⟨b, off, rfl, hc1⟩ := ints_at (hp.frm (hF.trans' hf2) (Off.non _)) k hlt
          obtain ⟨b', off', hbb, hc2⟩ := ints_at (hp.frm (hF.trans' hf2) (Off.non _)) j hlt2
          cases hbb
          have hs1 := cut_bd1 hB ps k j (by omega)
          obtain ⟨hs2, hs3⟩ := hs1
          by_cases hpp : ps[k] = ps[j]
          · have hz : cutE B ps k j = 0 := by unfold cutE; rw [if_neg (by rw [pt_get ps k hlt, pt_get ps j hlt2]; exact fun h => h.2 hpp)]
            have HZ := Lib.hid hz
            have hpq : (ps[k] == ps[j]) = true := beq_iff_eq.2 hpp
            clear hz hpp
            go_wp2
            go_still_tail 8, (by kernel_rfl)
            go_wp2
            go_round
            case rel => exact ⟨j + 1, by omega, by omega, by go_num, by show _ = Value.int .i64 (_ + (_ + _)); rw [HZ.out]; simp, hf2.drew⟩
            case measure => simp [intOf]; omega
          · have hz : cutE B ps k j = B k j := by unfold cutE; rw [if_pos (by rw [pt_get ps k hlt, pt_get ps j hlt2]; exact ⟨hkj, hpp⟩)]
            have HZ := Lib.hid hz
            have hpq : (ps[k] == ps[j]) = false := beq_eq_false_iff_ne.2 hpp
            clear hz hpp
            have hble := hB.le k j
            have hbge := hB.ge k j
            obtain ⟨d0, d1, _⟩ := blk_cell2 ((hf2.drew.block _ hlt0 (fun x => x)).trans hblk)
            obtain ⟨G, C, g, c, hG, hC, hir, hc3, hc4, hc5, hrk, hc6, _⟩ := hat _ (hF.trans' hf2).drew k j hlt hlt2
            cases hG
            rw [List.length_map, List.length_range] at hc3 hc4 hc5
            go_wp2
            go_still_tail 8, (by kernel_rfl)
            go_wp2
            go_round
            case rel => exact ⟨j + 1, by omega, by omega, by go_num, by show _ = Value.int .i64 (_ + (_ + _)); rw [HZ.out, Int.add_assoc], hf2.drew⟩
            case measure => simp [intOf]; omega
        · obtain rfl : j = ps.length := by omega
          go_wp2
          go_round
          case rel => exact ⟨k + 1, by omega, by go_num, rfl, hf2⟩
          case measure => simp [intOf]; omega
    · obtain rfl : k = ps.length := by omega
      go_wp2
      go_ret
      exact ⟨rfl, hF.trans' hf⟩

theorem own_set {w : World} {e n g c : Nat} {xs : List Int} (h : Own w e 1 (.slice (some ⟨g, 0, none⟩) n c) n (ints xs)) (j : Nat) (x : Int) :
    Own (w.setCell ⟨g, j, none⟩ (.int .i64 x)) e 1 (.slice (some ⟨g, 0, none⟩) n c) n (ints (xs.set j x)) := by
  have := (World.ownsRow.stored h j (.int .i64 x)).1
  rw [show ints (xs.set j x) = (ints xs).set j (.int .i64 x) from by simp [ints]]
  exact this
theorem int_at {w : World} {e : Nat} {v : Value} {xs : List Int} (h : Own w e 1 v xs.length (ints xs)) (i : Nat) (hi : i < xs.length) :
    ∃ g cap, v = .slice (some ⟨g, 0, none⟩) xs.length cap ∧ xs.length ≤ cap ∧ w.cell? ⟨g, i, none⟩ = some (.int .i64 xs[i]) ∧ w.frozen? ⟨g, i, none⟩ = false := by
  obtain ⟨g, cap, h1, h2, _, h3, h4⟩ := own_at h i (.int .i64 xs[i]) (by simp [ints, hi])
  exact ⟨g, cap, h1, h2, h3, h4⟩

set_option maxRecDepth 100000 in
/-- a thing goes to another part. -/
theorem rmove_any (ps : List Int) (i : Nat) (q : Int) (v : Value) (w : World) (hv : Rd w v ps.length (ints ps)) (hi : i < ps.length) (hn : ps.length ≤ 1000000) :
    Calls Try.prog 50 #[v, .int .i64 i, .int .i64 q] w fun e w' => ∃ v', e = .returned v' ∧ Own w' 3 1 v' ps.length (ints (ps.set i q)) ∧ Frm Non w w' ∧ ∀ b, v'.ownBlock = some b → w.heap.size ≤ b := by
  have h0 := hv
  obtain ⟨a, cap, rfl, _, _, hc⟩ := hv
  have hF : Frm Non w (w.alloc (.cells #[] 3)) := (Frm.refl w).alloc _
  have h1 := h0.frm hF (fun _ _ x => x)
  have hown : Own (w.alloc (.cells #[] 3)) 3 1 (.slice (some ⟨w.heap.size, 0, none⟩) 0 0) 0 [] := World.ownsRow_lit w #[] 0 (Nat.zero_le _) (Nat.zero_le _) rfl
  go_enter Try.func50, Try.ntmps50
  go_wp2_with (at_builtin; refine wpList_app rfl (.tmp 9) (.tmp 10) T33 rfl hown rfl h1 rfl (by rw [ints_length]; omega) (ints_cell _) (by unfold maxLen; omega) (by omega) ?_; intro v' w' h2 h3 h4; rw [Nat.zero_add, List.nil_append] at h2; obtain ⟨g, c, rfl, hgc, hx, hfr⟩ := int_at h2 i hi)
  have h5 := own_set h2 i q
  have hg : w.heap.size ≤ g := by
    rcases h4 g rfl with h5 | h5
    · simp [Value.ownBlock] at h5; omega
    · simp at h5; omega
  go_ret
  refine ⟨_, rfl, h5, ?_, fun b hb => by simp [Value.ownBlock] at hb; omega⟩
  exact (hF.trans (U := Non) h3 (fun _ x => x) (fun b hb => .inr (by simp [Value.ownBlock] at hb; omega))).setCell _ (.inr hg)
end Go.Proofs.Ytjkcclcjhidokaa
