/- What parts weigh, walked; the parts that no thing has. -/
import Derived.Test.YtjkcclcjhidokaaC1
namespace Go.Proofs.Ytjkcclcjhidokaa
open Go.RowKit
set_option maxHeartbeats 400000

/-- what a part weighs. -/
def wtE (ws ps : List Int) (q : Int) (i : Nat) : Int := if pt ps i = q then pt ws i else 0
def wtsTo (ws ps : List Int) (k m : Nat) : List Int := (List.range k).map fun (q : Nat) => sumTo (wtE ws ps (q : Int)) m
def wtsB (ws ps : List Int) (k : Nat) : List Int := wtsTo ws ps k ps.length
theorem wtsTo_length (ws ps : List Int) (k m : Nat) : (wtsTo ws ps k m).length = k := by simp [wtsTo]
theorem wtsTo_get (ws ps : List Int) (k m q : Nat) (h : q < k) : (wtsTo ws ps k m)[q]'(by simp [wtsTo, h]) = sumTo (wtE ws ps q) m := by simp [wtsTo]
theorem wtsTo_zero (ws ps : List Int) (k : Nat) : wtsTo ws ps k 0 = List.replicate k 0 := by
  apply List.ext_getElem (by simp [wtsTo])
  intro i h1 h2
  simp [wtsTo, sumTo]
theorem wtsTo_step (ws ps : List Int) (k m q : Nat) (h : pt ps m = q) : wtsTo ws ps k (m + 1) = (wtsTo ws ps k m).set q (sumTo (wtE ws ps q) m + pt ws m) := by
  apply List.ext_getElem (by simp [wtsTo])
  intro i h1 h2
  rw [List.getElem_set]
  simp only [wtsTo, List.getElem_map, List.getElem_range, sumTo]
  by_cases e : q = i
  · subst e; simp [wtE, h]
  · rw [if_neg e]; simp [wtE, h]; omega
theorem wt_bd {ws : List Int} (h : ∀ y ∈ ws, 0 ≤ y ∧ y ≤ 1099511627776) (ps : List Int) (q : Int) (m : Nat) (hm : m ≤ 4096) : 0 ≤ sumTo (wtE ws ps q) m ∧ sumTo (wtE ws ps q) m ≤ 4503599627370496 := by
  have hp : ∀ i, 0 ≤ wtE ws ps q i ∧ wtE ws ps q i ≤ 1099511627776 := fun i => by
    unfold wtE
    split
    · unfold pt
      by_cases hi : i < ws.length
      · have := h ws[i] (List.getElem_mem hi); simpa [hi] using this
      · simp [hi]
    · omega
  have := sumTo_bd (wtE ws ps q) 1099511627776 (by omega) hp m
  omega
set_option maxRecDepth 100000 in
theorem rweights_any {w : World} {x : Value} {ws : List Int} {B : Nat → Nat → Int} {S : Nat → Prop} (h : XAt w x ws B S) (ps : List Int) (v : Value) (hv : Rd w v ps.length (ints ps)) (hl : ps.length = ws.length) (hn : ps.length ≤ 4096) (hw : ∀ y ∈ ws, 0 ≤ y ∧ y ≤ 1099511627776)
    (k : Nat) (hk : k ≤ 4096) (hr : ∀ p ∈ ps, 0 ≤ p ∧ p < k) :
    Calls Try.prog 51 #[x, v, .int .i64 k] w fun e w' => ∃ v', e = .returned v' ∧ Own w' 2 1 v' k (ints (wtsB ws ps k)) ∧ Frm Non w w' ∧ ∀ b, v'.ownBlock = some b → w.heap.size ≤ b := by
  obtain ⟨wv, Mv, rs, rfl, h⟩ := h
  obtain ⟨a, cap, rfl, _, _, hc⟩ := own_rd h.wo
  obtain ⟨a', cap', rfl, _, _, _⟩ := own_rd h.mo
  obtain ⟨pa, pc, rfl, _, _, hp⟩ := hv
  have hF : Frm Non w (w.alloc (.cells #[.slice a ws.length cap, .slice a' rs.length cap'] 28)) := (Frm.refl w).alloc _
  have hblk : (w.alloc (.cells #[.slice a ws.length cap, .slice a' rs.length cap'] 28)).heap[w.heap.size]? = some (.cells #[.slice a ws.length cap, .slice a' rs.length cap'] 28 (0, 0)) := heap_alloc_new w _
  obtain ⟨W1, hW1⟩ : ∃ W1, W1 = w.alloc (.cells #[.slice a ws.length cap, .slice a' rs.length cap'] 28) := ⟨_, rfl⟩
  rw [← hW1] at hF hblk
  have hmk := fun W => run_make0 T22 k (by omega) W
  have HR := Lib.hid hr
  have HL := Lib.hid hl
  have HW := Lib.hid hw
  have hoz := own_zrow W1 2 k (by omega)
  have hsz : W1.heap.size = w.heap.size + 1 := by rw [hW1]; simp
  rw [hsz] at hoz
  clear hsz
  have HZ := Lib.hid (wtsTo_zero ws ps k)
  have HW1 := Lib.hid hW1
  clear hr hl hw
  go_enter Try.func51, Try.ntmps51
  go_wp2_with fail
  rw [← hW1]
  go_wp2
  clear hW1
  have hF2 : Frm Non W1 (W1.alloc (.cells (zrow k) 2)) := (Frm.refl W1).alloc _
  have hlt0 : w.heap.size < W1.heap.size := (Array.getElem?_eq_some_iff.1 hblk).1
  go_loopw [8] (fun i wr => ∃ j : Nat, j ≤ ps.length ∧ i = .int .i64 j ∧ Own wr 2 1 (.slice (some ⟨w.heap.size + 1, 0, none⟩) k k) k (ints (wtsTo ws ps k j)) ∧ Frm Non W1 wr) (fun i _ => (ps.length - intOf i).toNat)
  case atStart => exact ⟨0, Nat.zero_le _, rfl, by rw [HZ.out]; exact hoz, hF2⟩
  case round =>
    obtain ⟨j, hj, rfl, ho, hf⟩ := hrel
    by_cases hlt : j < ps.length
    · obtain ⟨b, off, rfl, hc1⟩ := ints_at (hp.frm (hF.trans' hf) (Off.non _)) j hlt
      have hltw : j < ws.length := HL.out ▸ hlt
      obtain ⟨b', off', rfl, hc2⟩ := ints_at (hc.frm (hF.trans' hf) (Off.non _)) j hltw
      have hpk := HR.out ps[j] (List.getElem_mem hlt)
      obtain ⟨q, hq⟩ := Int.eq_ofNat_of_zero_le hpk.1
      rw [hq] at hc1 hpk
      have hqk : q < k := by omega
      have hst := wtsTo_step ws ps k j q ((pt_get ps j hlt).trans hq)
      rw [pt_get ws j hltw] at hst
      have HS := Lib.hid hst
      obtain ⟨g, c, hg, _, hx, hfr⟩ := int_at (xs := wtsTo ws ps k j) (by rw [wtsTo_length]; exact ho) q (by rw [wtsTo_length]; exact hqk)
      rw [wtsTo_get ws ps k j q hqk] at hx
      rw [wtsTo_length] at hg
      cases hg
      obtain ⟨d0, d1, _⟩ := blk_cell2 ((hf.block _ hlt0 (fun x => x)).trans hblk)
      have hb := wt_bd HW.out ps q j (by omega)
      have hw1 := HW.out _ (List.getElem_mem hltw)
      obtain ⟨hb1, hb2⟩ := hb
      obtain ⟨hw1, hw2⟩ := hw1
      have hos := own_set ho q (sumTo (wtE ws ps q) j + ws[j])
      clear hst hpk hq
      go_wp2
      go_still_tail 19, (by kernel_rfl)
      go_wp2
      refine ⟨⟨j + 1, by omega, by go_num, ?_, ?_⟩, by simp [intOf]; omega⟩
      · rw [HS.out]; exact own_frm (S := Non) hos ((Frm.refl _).drew) (fun _ _ x => x)
      · refine Frm.drew (Frm.setCell hf _ ?_)
        exact .inr (by rw [HW1.out]; simp)
    · obtain rfl : j = ps.length := by omega
      go_wp2
      go_ret
      exact ⟨_, rfl, ho, hF.trans' hf, fun b hb => by simp [Value.ownBlock] at hb; omega⟩

/-- the parts that no thing has. -/
def emptyTo (ps : List Int) (m : Nat) : List Int := ((List.range m).filter fun p : Nat => decide ((p : Int) ∉ ps)).map fun p : Nat => (p : Int)
theorem emptyTo_in (ps : List Int) (m : Nat) (h : (m : Int) ∈ ps) : emptyTo ps (m + 1) = emptyTo ps m := by
  simp [emptyTo, List.range_succ, h]
theorem emptyTo_out (ps : List Int) (m : Nat) (h : (m : Int) ∉ ps) : emptyTo ps (m + 1) = emptyTo ps m ++ [(m : Int)] := by
  simp [emptyTo, List.range_succ, h]
theorem emptyTo_len (ps : List Int) (m : Nat) : (emptyTo ps m).length ≤ m := by
  unfold emptyTo; rw [List.length_map]; have := List.length_filter_le (fun p : Nat => decide ((p : Int) ∉ ps)) (List.range m); simp at this ⊢; exact this
theorem rd_one {w : World} (x : Int) (e : Nat) : Rd (w.alloc (.cells #[.int .i64 x] e)) (.slice (some ⟨w.heap.size, 0, none⟩) 1 1) 1 (ints [x]) :=
  ⟨_, 1, rfl, Nat.le_refl _, (fun h => by cases h), fun _ => ⟨w.heap.size, 0, #[.int .i64 x], e, (0, 0), rfl, heap_alloc_new w _, fun i hi => by simp [ints] at hi ⊢⟩⟩
theorem own_none0 (w : World) (e : Nat) : Own (w.alloc (.cells #[] e)) e 1 (.slice (some ⟨w.heap.size, 0, none⟩) 0 0) 0 [] := World.ownsRow_lit w #[] 0 (Nat.zero_le _) (Nat.zero_le _) rfl
set_option maxRecDepth 100000 in
theorem rempty_any (ps : List Int) (v : Value) (w : World) (hv : Rd w v ps.length (ints ps)) (hn : ps.length ≤ 4096) (k : Int) (hk : k ≤ 4096) :
    Calls Try.prog 43 #[v, .int .i64 k] w fun e w' => ∃ v', e = .returned v' ∧ Own w' 3 1 v' (emptyTo ps k.toNat).length (ints (emptyTo ps k.toNat)) ∧ Frm Non w w' ∧ ∀ b, v'.ownBlock = some b → w.heap.size ≤ b := by
  have h0 := hv
  obtain ⟨pa, pc, rfl, _, _, hp⟩ := hv
  have hF : Frm Non w (w.alloc (.cells #[] 3)) := (Frm.refl w).alloc _
  go_enter Try.func43, Try.ntmps43
  go_wp2
  go_loopw [5, 6] (fun o i wr => ∃ (j : Nat) (g : Option Addr) (c : Nat), j ≤ 4096 ∧ (0 < j → j ≤ k) ∧ i = .int .i64 j ∧ o = .slice g (emptyTo ps j).length c ∧ Own wr 3 1 o (emptyTo ps j).length (ints (emptyTo ps j)) ∧ (∀ b, o.ownBlock = some b → w.heap.size ≤ b) ∧ Frm Non w wr) (fun _ i _ => (k - intOf i).toNat)
  case atStart => exact ⟨0, _, _, by omega, by omega, rfl, rfl, own_none0 w 3, fun b hb => by simp [Value.ownBlock] at hb; omega, hF⟩
  case round =>
    obtain ⟨j, g, c, hj, hjk, rfl, rfl, ho, hg, hf⟩ := hrel
    have HJ := Lib.hid hjk
    have hlen := emptyTo_len ps j
    clear hjk
    by_cases hlt : (j : Int) < k
    · by_cases hin : (j : Int) ∈ ps
      · have HE := Lib.hid (emptyTo_in ps j hin)
        have hd : decide ((j : Int) ∈ ps) = true := decide_eq_true hin
        go_wp2_with (go_at_call 72; refine (in_any ps j _ _ (h0.frm hf (fun _ _ x => x)) (by omega)).mono ?_; rintro e w' ⟨rfl, rfl⟩; rw [hd])
        go_round
        case rel => exact ⟨j + 1, g, c, by omega, by omega, by go_num, by rw [HE.out], by rw [HE.out]; exact ho, hg, hf⟩
        case measure => simp [intOf]; omega
      · have HE := Lib.hid (emptyTo_out ps j hin)
        have hd : decide ((j : Int) ∈ ps) = false := decide_eq_false hin
        have hfa : Frm Non wr (wr.alloc (.cells #[.int .i64 j] 3)) := (Frm.refl wr).alloc _
        have hoa := own_frm ho hfa (fun _ _ x => x)
        have hrd : Rd (wr.alloc (.cells #[.int .i64 j] 3)) _ 1 (ints [(j : Int)]) := rd_one _ 3
        go_wp2_with first
          | (go_at_call 72; refine (in_any ps j _ _ (h0.frm hf (fun _ _ x => x)) (by omega)).mono ?_; rintro e w' ⟨rfl, rfl⟩; rw [hd])
          | (at_builtin; refine wpList_app rfl (.tmp 17) (.tmp 19) T33 rfl hoa rfl hrd rfl rfl (ints_cell _) (by unfold maxLen; omega) (by omega) ?_; intro v' w' h2 h3 h4; obtain ⟨ga, gc, rfl, _, _, _⟩ := own_rd h2)
        go_wp2
        refine ⟨⟨j + 1, ga, gc, by omega, by omega, by go_num, ?_, ?_, ?_, ?_⟩, by simp [intOf]; omega⟩
        · rw [HE.out]; simp
        · rw [HE.out, List.length_append, show ints (emptyTo ps j ++ [(j : Int)]) = ints (emptyTo ps j) ++ ints [(j : Int)] from by simp [ints]]; exact h2
        · intro b hb
          rcases h4 b hb with h5 | h5
          · exact hg b h5
          · have := hf.size; simp at h5; omega
        · exact (hf.trans' hfa).trans (U := Non) h3 (fun _ x => x) (fun b hb => .inr (hg b hb))
    · have HE : (k.toNat = j) ∨ (k ≤ 0 ∧ j = 0) := by have := HJ.out; omega
      have HK := Lib.hid HE
      clear HE
      go_wp2
      go_ret
      refine ⟨_, rfl, ?_, hf, hg⟩
      have : k.toNat = j := by rcases HK.out with h | h <;> omega
      rw [this]; exact ho
end Go.Proofs.Ytjkcclcjhidokaa
