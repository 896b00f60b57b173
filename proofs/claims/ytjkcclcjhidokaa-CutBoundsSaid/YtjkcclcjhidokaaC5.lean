/- The cut, walked. -/
import Derived.Test.YtjkcclcjhidokaaRg
namespace Go.Proofs.Ytjkcclcjhidokaa
open Go.RowKit
set_option maxHeartbeats 400000

theorem edges_any {w : World} {gb : Nat} {ws : List Int} {B : Nat → Nat → Int} {G : Nat → Prop} (h : GAt w gb ws B G) :
    Calls Try.prog 77 #[ptr gb] w fun e w' => ∃ fv O, e = .returned fv ∧ IterV Try.prog w' fv encE O (edges B ws.length) ∧ Frm Non w w' ∧ ∀ b, O b → b = w.heap.size ∨ G b := by
  have hF : Frm Non w (w.alloc (.cells #[ptr gb] 25)) := (Frm.refl w).alloc _
  have hit := edges_iter (h.frm hF (fun _ _ x => x)) (heap_alloc_new w (.cells #[ptr gb] 25))
  unfold ptr at *
  go_enter Try.func77, Try.ntmps77
  go_wp2
  go_ret
  exact ⟨_, _, rfl, ⟨111, _, rfl, callFunc_enter Try.func111 rfl rfl, hit, fun b hb => by
    rcases hb with rfl | hb
    · simp
    · have := h.lt b hb; simp; omega⟩, hF, fun b hb => hb⟩

attribute [local go_sem] Oper.semAt_some wide_fn wide_depth
set_option maxRecDepth 100000 in
theorem cut_any {w : World} {gb : Nat} {ws : List Int} {B : Nat → Nat → Int} {G : Nat → Prop} (h : GAt w gb ws B G) (ps : List Int) (v : Value) (hv : Rd w v ps.length (ints ps)) (hn : ps.length ≤ 1000) (k : Int) (hr : rightB ws.length ps k = true) :
    Calls Try.prog 45 #[ptr gb, v, .int .i64 k] w fun e w' => e = .returned (.int .i64 (cutB B ps)) ∧ Frm Non w w' := by
  have hv0 := hv
  obtain ⟨va, vc, rfl, _, _, hc⟩ := hv
  have hF : Frm Non w (w.alloc (.cells #[.slice va ps.length vc] 33)) := (Frm.refl w).alloc _
  have hblk : (w.alloc (.cells #[.slice va ps.length vc] 33)).heap[w.heap.size]? = some (.cells #[.slice va ps.length vc] 33 (0, 0)) := heap_alloc_new w _
  obtain ⟨c4, _⟩ := blk_cell1 hblk
  have hri := right_any (h.frm hF (fun _ _ x => x)) ps _ (hv0.frm hF (fun _ _ x => x)) (by omega) k
  rw [hr] at hri
  have hed := fun W (f : Frm Non w W) => edges_any (h.frm f (fun _ _ x => x))
  have hlt0 : w.heap.size < (w.alloc (.cells #[.slice va ps.length vc] 33)).heap.size := (Array.getElem?_eq_some_iff.1 hblk).1
  have HL := Lib.hid (rightB_iff hr).2.2.1
  refine calls_of_range Try.func45 rfl ?_
  unfold ptr at *
  simp only [Try.ntmps45, List.size_toArray, List.length_cons, List.length_nil, Nat.reduceAdd, Nat.reduceSub, Array.replicate_succ, Array.replicate_zero, List.push_toArray, List.append_toArray, List.nil_append, List.cons_append]
  gi_wp2_with (gi_at_call 41; refine in_of_calls (hri.mono ?_); rintro e w1 ⟨rfl, hf1⟩)
  obtain ⟨W2, hW2⟩ : ∃ W2, W2 = w1.alloc (.cells #[.int .i64 0] 2) := ⟨_, rfl⟩
  have hf2 : Frm Non w1 W2 := by rw [hW2]; exact (Frm.refl w1).alloc _
  have hb2 : W2.heap[w1.heap.size]? = some (.cells #[.int .i64 0] 2 (0, 0)) := by rw [hW2]; exact heap_alloc_new w1 _
  rw [← hW2]
  clear hW2
  have hlt1 : w1.heap.size < W2.heap.size := (Array.getElem?_eq_some_iff.1 hb2).1
  refine in_of_calls ((hed _ ((hF.trans' hf1).trans' hf2)).mono ?_)
  rintro e W3 ⟨fv, O, rfl, hit, hf3, hO⟩
  have hz1 := hf1.size
  have hz3 := hf3.size
  have hb3 := (hf3.block _ hlt1 (fun x => x)).trans hb2
  have h43 := (((hf1.trans' hf2).trans' hf3).block _ hlt0 (fun x => x)).trans hblk
  have hF3 := hF.trans' ((hf1.trans' hf2).trans' hf3)
  have hps := hc.frm hF3 (Off.non _)
  have hOb : ∀ b, O b → b ≠ w1.heap.size := fun b hb e => by
    rcases hO b hb with h1 | h1
    · omega
    · have := h.lt b h1; omega
  have hSt : ∀ pre : List (Int × Int × Int), Stab W3.heap.size (fun S' w' => (∀ b, S' b ↔ b = w1.heap.size) ∧ w'.heap[w1.heap.size]? = some (.cells #[.int .i64 (pre.map (cutF ps)).sum] 2 (0, 0)) ∧ Frm (fun b => b = w1.heap.size) W3 w') := by
    rintro pre S' A C ⟨g1, g2, g3⟩ f
    have hlt3 : w1.heap.size < W3.heap.size := by omega
    refine ⟨g1, (f.block _ (Array.getElem?_eq_some_iff.1 g2).1 (fun h3 => by omega)).trans g2, g3.trans f (fun _ x => x) (fun b hb => .inr hb.1)⟩
  gi_wp2
  refine wp_rangeV (enc := encE) (O := O) (xs := edges B ws.length) hit (fun _ => rfl) _ (fun _ _ _ _ => False) (fun b => b = w1.heap.size) hOb (fun b hb => by omega) hSt (fun _ _ _ _ _ h _ => h) ?_ ?_ ?_ ?_
  · exact ⟨fun b => Iff.rfl, hb3, Frm.refl _⟩
  · intro l pre x S₁ w₁ hl1 hl2 hl3 hin hpre hSl
    rw [show encE x = #[.agg #[.int .i64 x.1, .int .i64 x.2.1, .int .i64 x.2.2]] from rfl, fold1]
    simp only [List.setIfInBounds_toArray, List.set_cons_succ, List.set_cons_zero]
    have hst := hSt pre
    clear hSt
    gi_wp2
    refine ⟨(Frm.refl _).alloc _, ?_⟩
    intro w3 ht3 hz3'
    obtain ⟨a, b, hab, hbn, h0, rfl⟩ := mem_edges (hpre.subset (by simp) : x ∈ edges B ws.length)
    obtain ⟨g1, g2, g3⟩ := hin
    have hal : a < ps.length := by rw [HL.out]; omega
    have hbl : b < ps.length := by rw [HL.out]; omega
    have hw13 : Frm (fun q => q = l) w₁ w3 := by
      refine Frm.trans (T := fun q => q = l) (S := Non) ((Frm.refl w₁).alloc _) ht3 (fun _ x => x.elim) (fun _ x => .inl x)
    have hl4 : l ≠ w.heap.size := by omega
    have hl7 : l ≠ w1.heap.size := by omega
    have hz7 : w1.heap.size < w₁.heap.size := (Array.getElem?_eq_some_iff.1 g2).1
    have h4r := (hw13.block _ (by omega) (fun e => hl4 e.symm)).trans ((g3.block _ (by omega) (by omega)).trans h43)
    have h7r := (hw13.block _ hz7 (fun e => hl7 e.symm)).trans g2
    have h8r := (ht3.block w₁.heap.size (by simp) (by omega)).trans (heap_alloc_new w₁ _)
    have hFr : Frm Non w w3 := (hF3.trans (U := Non) g3 (fun _ x => x) (fun q hq => .inr (by omega))).trans (U := Non) hw13 (fun _ x => x) (fun q hq => .inr (by omega))
    have hr3 := hc.frm hFr (Off.non _)
    obtain ⟨bb, off, rfl, p1⟩ := ints_at hr3 a hal
    obtain ⟨bb', off', e', p2⟩ := ints_at hr3 b hbl
    cases e'
    obtain ⟨q4, _⟩ := blk_cell1 h4r
    obtain ⟨q7, q7f⟩ := blk_cell1 h7r
    obtain ⟨q80, q81, q82⟩ := blk_cell3 h8r
    have hle : 0 ≤ (pre.map (cutF ps)).sum ∧ (pre.map (cutF ps)).sum ≤ 1099511627776000000 := by
      have h1 := sum_pre (List.IsPrefix.trans (List.prefix_append _ _) hpre) (f := cutF ps) (fun e he => by
        obtain ⟨a, b, _, _, _, rfl⟩ := mem_edges he
        unfold cutF; have := h.2.1.ge a b; split <;> simp <;> omega)
      rw [cut_edges B ps HL.out] at h1
      have h2 := cut_bd2 h.2.1 ps ps.length hn hn
      unfold cutB at h1
      omega
    obtain ⟨hle1, hle2⟩ := hle
    have hBl := h.2.1.le a b
    have hBg := h.2.1.ge a b
    have hfin : ∀ (s : Int), s = (pre.map (cutF ps)).sum + cutF ps ((a : Int), (b : Int), B a b) → ∀ w', Frm (fun q => q = w1.heap.size) w3 w' → w'.heap[w1.heap.size]? = some (.cells #[.int .i64 s] 2 (0, 0)) →
        ∃ S' : Nat → Prop, Frm (fun k => S₁ k ∨ w₁.heap.size ≤ k) w3 w' ∧ (∀ q, S' q → S₁ q ∨ w₁.heap.size ≤ q) ∧ (∀ q, S' q → q < w'.heap.size) ∧ ((∀ q, S' q ↔ q = w1.heap.size) ∧ w'.heap[w1.heap.size]? = some (.cells #[.int .i64 ((pre ++ [((a : Int), (b : Int), B a b)]).map (cutF ps)).sum] 2 (0, 0)) ∧ Frm (fun b => b = w1.heap.size) W3 w') := by
      rintro s rfl w' hf hs
      refine ⟨S₁, hf.mono fun q hq => .inl ((g1 q).2 hq), fun q hq => .inl hq, fun q hq => by rw [(g1 q).1 hq]; exact (Array.getElem?_eq_some_iff.1 hs).1, g1, by rw [map_snoc]; exact hs, (g3.trans (U := fun q => q = w1.heap.size) hw13 (fun _ x => x) (fun q hq => .inr (by omega))).trans' hf⟩
    by_cases hpp : ps[a] = ps[b]
    · have hz : cutF ps ((a : Int), (b : Int), B a b) = 0 := by
        unfold cutF; simp only [Int.toNat_natCast]; rw [pt_get ps a hal, pt_get ps b hbl, if_neg (by simpa using hpp)]
      have hne : (ps[a] == ps[b]) = true := beq_iff_eq.2 hpp
      have HZ := Lib.hid hz
      have HF := Lib.hid hfin
      clear hz hpp hfin
      gi_wp2
      refine round_still_tail 10 (by kernel_rfl) (by kernel_rfl) (by kernel_rfl) ?_
      simp only [List.take_succ_cons, List.take_zero, List.drop_succ_cons, List.drop_zero]
      repeat still_step
      try refine wpStill_nil ?_
      go_wp2
      rw [nrm_normal]
      gi_wp2
      exact HF.out _ (by rw [HZ.out]; simp) _ ((Frm.refl _).drew) h7r
    · have hz : cutF ps ((a : Int), (b : Int), B a b) = B a b := by
        unfold cutF; simp only [Int.toNat_natCast]; rw [pt_get ps a hal, pt_get ps b hbl, if_pos hpp]
      have hne : (ps[a] == ps[b]) = false := beq_eq_false_iff_ne.2 hpp
      have HZ := Lib.hid hz
      have HF := Lib.hid hfin
      clear hz hpp hfin
      gi_wp2
      refine round_still_tail 10 (by kernel_rfl) (by kernel_rfl) (by kernel_rfl) ?_
      simp only [List.take_succ_cons, List.take_zero, List.drop_succ_cons, List.drop_zero]
      repeat still_step
      try refine wpStill_nil ?_
      go_wp2
      rw [nrm_normal]
      gi_wp2
      refine HF.out _ (by rw [HZ.out]) _ (Frm.drew (Frm.setCell (Frm.refl _) _ ?_)) (set_one h7r _)
      exact .inl rfl
  · rintro S' w' ht ⟨g1, g2, g3⟩ hD hDS
    obtain ⟨q7, q7f⟩ := blk_cell1 g2
    rw [cut_edges B ps HL.out] at q7
    gi_wp2
    refine ⟨[W3.heap.size], rfl, by simp, fun D hDm => by rw [List.mem_singleton.1 hDm]; exact hD, fun w5 hf5 => ⟨_, results_tmp rfl _ _ _, rfl, ?_⟩⟩
    exact (hF3.trans (U := Non) g3 (fun _ x => x) (fun q hq => .inr (by omega))).trans (U := Non) hf5 (fun _ x => x) (fun q hq => .inr (by rw [List.mem_singleton.1 hq]; exact hF3.size))
  · intro c pre S' w' ht hpre hf
    exact hf.elim
end Go.Proofs.Ytjkcclcjhidokaa
