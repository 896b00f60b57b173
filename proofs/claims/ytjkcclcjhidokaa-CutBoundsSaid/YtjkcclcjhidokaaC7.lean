/- What a thing gains, walked: the sum. -/
import Derived.Test.YtjkcclcjhidokaaC6
namespace Go.Proofs.Ytjkcclcjhidokaa
open Go.RowKit
set_option maxHeartbeats 4000000

/-- what one near thing adds. -/
def gainF (ps : List Int) (a : Nat) (q : Int) (e : Int × Int) : Int := if pt ps e.1.toNat = q then e.2 else if pt ps e.1.toNat = pt ps a then - e.2 else 0
theorem gain_row {n : Nat} (B : Nat → Nat → Int) (ps : List Int) (hl : ps.length = n) (a : Nat) (q : Int) : ((row B n a).map (gainF ps a q)).sum = gainB B ps a q := by
  rw [sum_row]
  unfold gainB
  rw [hl]
  refine sumTo_congr fun b _ => ?_
  unfold gainF gainE
  simp only [Int.toNat_natCast]
  by_cases h0 : B a b = 0
  · simp [h0]
  · rw [if_neg h0]
theorem gain_bd {n : Nat} {B : Nat → Nat → Int} (hB : BOk n B) (ps : List Int) (a : Nat) (q : Int) (m : Nat) (pre : List (Int × Int)) (h : pre <+: row B m a) (hm : m ≤ 1000) : -1099511627776000 ≤ (pre.map (gainF ps a q)).sum ∧ (pre.map (gainF ps a q)).sum ≤ 1099511627776000 := by
  have hall : ∀ e ∈ pre, -1099511627776 ≤ gainF ps a q e ∧ gainF ps a q e ≤ 1099511627776 := fun e he => by
    obtain ⟨b, _, _, rfl⟩ := mem_row.1 (h.subset he)
    have := hB.ge a b; have := hB.le a b
    unfold gainF
    simp only
    split
    · omega
    · split <;> omega
  have hlen : pre.length ≤ 1000 := by have := h.length_le; have := row_len B m a; omega
  have : ∀ l : List (Int × Int), (∀ e ∈ l, -1099511627776 ≤ gainF ps a q e ∧ gainF ps a q e ≤ 1099511627776) → -1099511627776 * (l.length : Int) ≤ (l.map (gainF ps a q)).sum ∧ (l.map (gainF ps a q)).sum ≤ 1099511627776 * (l.length : Int) := by
    intro l hl
    induction l with
    | nil => simp
    | cons x l ih => have := hl x (by simp); have := ih (fun e he => hl e (by simp [he])); simp only [List.map_cons, List.sum_cons, List.length_cons, Int.natCast_add, Int.mul_add]; omega
  have := this pre hall
  omega

attribute [local go_sem] Oper.semAt_some wide_fn wide_depth
set_option maxRecDepth 100000 in
theorem gain_main {w : World} {gb : Nat} {ws : List Int} {B : Nat → Nat → Int} {G : Nat → Prop} (h : GAt w gb ws B G) (ps : List Int) (v : Value) (hv : Rd w v ps.length (ints ps)) (hn : ps.length ≤ 1000) (k q : Int) (a : Nat)
    (hr : rightB ws.length ps k = true) (ha : a < ps.length) (hq0 : 0 ≤ q) (hqk : q < k) (haq : pt ps a ≠ q) :
    Calls Try.prog 47 #[ptr gb, v, .int .i64 k, .int .i64 a, .int .i64 q] w fun e w' => e = .returned (.int .i64 (gainB B ps a q)) ∧ Frm Non w w' := by
  have hv0 := hv
  obtain ⟨va, vc, rfl, _, _, hc⟩ := hv
  obtain ⟨W, hW⟩ : ∃ W, W = ((w.alloc (.cells #[.slice va ps.length vc] 33)).alloc (.cells #[.int .i64 a] 3)).alloc (.cells #[.int .i64 q] 3) := ⟨_, rfl⟩
  have hF : Frm Non w W := by rw [hW]; exact (((Frm.refl w).alloc _).alloc _).alloc _
  obtain ⟨h6, h8, h9⟩ := three_new w (.cells #[.slice va ps.length vc] 33) (.cells #[.int .i64 a] 3) (.cells #[.int .i64 q] 3)
  rw [← hW] at h6 h8 h9
  have c6 := cells_grown (blk_cell1 h6).1
  have c8 := cells_grown (blk_cell1 h8).1
  have c9 := cells_grown (blk_cell1 h9).1
  have hri := regrown_in (fun W' (f : Frm Non W W') => right_any (h.frm (hF.trans' f) (fun _ _ x => x)) ps _ (hv0.frm (hF.trans' f) (fun _ _ x => x)) (by omega) k)
  have mixed : Try.prog.follows .mixedOrders = true := by kernel_rfl
  have hcw := hc.frm hF (Off.non _)
  rw [hr] at hri
  have HL := Lib.hid (rightB_iff hr).2.2.1
  have HK := Lib.hid (rightB_iff hr).2.2.2
  have haw : a < ws.length := by rw [← HL.out]; exact ha
  have hnear := fun W' (f : Frm Non w W') => near_any (h.frm f (fun _ _ x => x)) a haw
  rw [pt_get ps a ha] at haq
  obtain ⟨b, off, rfl, p1⟩ := ints_at hcw a ha
  have p1' := cells_grown p1
  have hpq : (ps[a] == q) = false := beq_eq_false_iff_ne.2 haq
  have HQ := Lib.hid haq
  clear hr haq
  unfold ptr at *
  refine calls_of_range Try.func47 rfl ?_
  simp only [Try.ntmps47, List.size_toArray, List.length_cons, List.length_nil, Nat.reduceAdd, Nat.reduceSub, Array.replicate_succ, Array.replicate_zero, List.push_toArray, List.append_toArray, List.nil_append, List.cons_append]
  gi_wp2
  rw [← hW]
  clear hW
  refine wpIn_region_quiet_below rfl (by assumption) (by kernel_rfl) ?_
  repeat (quiet_step_in (first | exact hri _ _))
  refine wpQuietIn_nil ?_
  intro w' hw'
  have hfw : Frm Non W w' := by obtain ⟨p, rfl⟩ := hw'; exact Frm.of_below (below_regrown _ _ _)
  clear hw' c6 c8 c9 p1' hri
  have h6' := (hfw.block _ (Array.getElem?_eq_some_iff.1 h6).1 (fun x => x)).trans h6
  have h8' := (hfw.block _ (Array.getElem?_eq_some_iff.1 h8).1 (fun x => x)).trans h8
  have h9' := (hfw.block _ (Array.getElem?_eq_some_iff.1 h9).1 (fun x => x)).trans h9
  have hFw := hF.trans' hfw
  obtain ⟨c8, _⟩ := blk_cell1 h8'
  have c8a := ((Frm.refl w').alloc (.cells #[.int .i64 0] 2)).cell (S := Non) c8 (fun x => x)
  gi_wp2
  obtain ⟨W2, hW2⟩ : ∃ W2, W2 = w'.alloc (.cells #[.int .i64 0] 2) := ⟨_, rfl⟩
  have hf2 : Frm Non w' W2 := by rw [hW2]; exact (Frm.refl w').alloc _
  have hb2 : W2.heap[w'.heap.size]? = some (.cells #[.int .i64 0] 2 (0, 0)) := by rw [hW2]; exact heap_alloc_new w' _
  rw [← hW2]
  clear hW2
  have hlt1 : w'.heap.size < W2.heap.size := (Array.getElem?_eq_some_iff.1 hb2).1
  refine in_of_calls ((hnear _ (hFw.trans' hf2)).mono ?_)
  rintro e W3 ⟨fv, O, rfl, hit, hf3, hO⟩
  have hz3 := hf3.size
  have hb3 := (hf3.block _ hlt1 (fun x => x)).trans hb2
  have hF3 := hFw.trans' (hf2.trans' hf3)
  have k6 := ((hf2.trans' hf3).block _ (Array.getElem?_eq_some_iff.1 h6').1 (fun x => x)).trans h6'
  have k8 := ((hf2.trans' hf3).block _ (Array.getElem?_eq_some_iff.1 h8').1 (fun x => x)).trans h8'
  have k9 := ((hf2.trans' hf3).block _ (Array.getElem?_eq_some_iff.1 h9').1 (fun x => x)).trans h9'
  have l9 := (Array.getElem?_eq_some_iff.1 h9').1
  have hwz := hFw.size
  have hOb : ∀ x, O x → x ≠ w'.heap.size := fun x hx e => by have := hO x hx; omega
  have hSt : ∀ pre : List (Int × Int), Stab W3.heap.size (fun S' w2 => (∀ x, S' x ↔ x = w'.heap.size) ∧ w2.heap[w'.heap.size]? = some (.cells #[.int .i64 (pre.map (gainF ps a q)).sum] 2 (0, 0)) ∧ Frm (fun x => x = w'.heap.size) W3 w2) := by
    rintro pre S' A C ⟨g1, g2, g3⟩ f
    have hlt3 : w'.heap.size < W3.heap.size := by omega
    refine ⟨g1, (f.block _ (Array.getElem?_eq_some_iff.1 g2).1 (fun h3 => by omega)).trans g2, g3.trans f (fun _ x => x) (fun b hb => .inr hb.1)⟩
  clear hnear c8 c8a
  gi_wp2
  refine wp_rangeV (enc := enc2) (O := O) (xs := row B ws.length a) hit (fun _ => rfl) _ (fun _ _ _ _ => False) (fun x => x = w'.heap.size) hOb (fun b hb => by omega) hSt (fun _ _ _ _ _ h _ => h) ?_ ?_ ?_ ?_
  · exact ⟨fun b => Iff.rfl, hb3, Frm.refl _⟩
  · intro l pre x S₁ w₁ hl1 hl2 hl3 hin hpre hSl
    obtain ⟨c, hcn, h0, rfl⟩ := mem_row.1 (hpre.subset (by simp) : x ∈ row B ws.length a)
    rw [show enc2 ((c : Int), B a c) = #[.int .i64 c, .int .i64 (B a c)] from rfl, fold2]
    simp only [List.setIfInBounds_toArray, List.set_cons_succ, List.set_cons_zero]
    clear hSt
    obtain ⟨g1, g2, g3⟩ := hin
    have hgb := gain_bd h.2.1 ps a q ws.length pre (List.IsPrefix.trans (List.prefix_append _ _) hpre) (by have := HL.out; omega)
    obtain ⟨hgb1, hgb2⟩ := hgb
    have hcl : c < ps.length := by rw [HL.out]; exact hcn
    have hBl := h.2.1.le a c
    have hBg := h.2.1.ge a c
    gi_wp2
    refine ⟨Frm.refl _, ?_⟩
    intro w3 ht3 hz3'
    have hl7 : l ≠ w'.heap.size := by omega
    have hz7 : w'.heap.size < w₁.heap.size := (Array.getElem?_eq_some_iff.1 g2).1
    have q11 := (ht3.block _ hz7 (fun e => hl7 e.symm)).trans g2
    have keep : ∀ y o, y < w'.heap.size → W3.heap[y]? = some o → w3.heap[y]? = some o := fun y o hy ho =>
      (ht3.block _ (by omega) (fun e => by omega)).trans ((g3.block _ (by omega) (by omega)).trans ho)
    have m6 := keep _ _ (by omega) k6
    have m8 := keep _ _ (by omega) k8
    have m9 := keep _ _ l9 k9
    have hFr : Frm Non w w3 := (hF3.trans (U := Non) g3 (fun _ x => x) (fun y hy => .inr (by omega))).trans (U := Non) ht3 (fun _ x => x) (fun y hy => .inr (by omega))
    obtain ⟨bb', off', e', p2⟩ := ints_at (hc.frm hFr (Off.non _)) c hcl
    cases e'
    have hcw3 := hc.frm hFr (Off.non _)
    obtain ⟨bb', off', e', p3⟩ := ints_at hcw3 a ha
    cases e'
    obtain ⟨q6, _⟩ := blk_cell1 m6
    obtain ⟨q8, _⟩ := blk_cell1 m8
    obtain ⟨q9, _⟩ := blk_cell1 m9
    obtain ⟨q7, q7f⟩ := blk_cell1 q11
    have hfin : ∀ (s : Int), s = (pre.map (gainF ps a q)).sum + gainF ps a q ((c : Int), B a c) → ∀ w2, Frm (fun y => y = w'.heap.size) w3 w2 → w2.heap[w'.heap.size]? = some (.cells #[.int .i64 s] 2 (0, 0)) →
        ∃ S' : Nat → Prop, Frm (fun k => S₁ k ∨ w₁.heap.size ≤ k) w3 w2 ∧ (∀ y, S' y → S₁ y ∨ w₁.heap.size ≤ y) ∧ (∀ y, S' y → y < w2.heap.size) ∧ ((∀ y, S' y ↔ y = w'.heap.size) ∧ w2.heap[w'.heap.size]? = some (.cells #[.int .i64 ((pre ++ [((c : Int), B a c)]).map (gainF ps a q)).sum] 2 (0, 0)) ∧ Frm (fun b => b = w'.heap.size) W3 w2) := by
      rintro s rfl w2 hf hs
      refine ⟨S₁, hf.mono fun y hy => .inl ((g1 y).2 hy), fun y hy => .inl hy, fun y hy => by rw [(g1 y).1 hy]; exact (Array.getElem?_eq_some_iff.1 hs).1, g1, by rw [map_snoc]; exact hs, (g3.trans (U := fun y => y = w'.heap.size) ht3 (fun _ x => x) (fun y hy => .inr (by omega))).trans' hf⟩
    have hge : gainF ps a q ((c : Int), B a c) = if ps[c] = q then B a c else if ps[c] = ps[a] then - B a c else 0 := by
      unfold gainF; simp only [Int.toNat_natCast]; rw [pt_get ps c hcl, pt_get ps a ha]
    by_cases e1 : ps[c] = q
    · rw [if_pos e1] at hge
      have e1' : (ps[c] == q) = true := beq_iff_eq.2 e1
      have HG := Lib.hid hge
      have HF := Lib.hid hfin
      clear hge hfin e1
      gi_wp2
      refine HF.out _ (by rw [HG.out]) _ (Frm.setCell (Frm.refl _) _ ?_) (set_one q11 _)
      exact .inl rfl
    · rw [if_neg e1] at hge
      have e1' : (ps[c] == q) = false := beq_eq_false_iff_ne.2 e1
      by_cases e2 : ps[c] = ps[a]
      · rw [if_pos e2] at hge
        have e2' : (ps[c] == ps[a]) = true := beq_iff_eq.2 e2
        have HG := Lib.hid hge
        have HF := Lib.hid hfin
        clear hge hfin e1 e2
        gi_wp2
        refine HF.out _ (by rw [HG.out]; omega) _ (Frm.setCell (Frm.refl _) _ ?_) (set_one q11 _)
        exact .inl rfl
      · rw [if_neg e2] at hge
        have e2' : (ps[c] == ps[a]) = false := beq_eq_false_iff_ne.2 e2
        have HG := Lib.hid hge
        have HF := Lib.hid hfin
        clear hge hfin e1 e2
        gi_wp2
        exact HF.out _ (by rw [HG.out]; simp) _ (Frm.refl _) q11
  · rintro S' w2 ht ⟨g1, g2, g3⟩ hD hDS
    obtain ⟨q7, q7f⟩ := blk_cell1 g2
    rw [gain_row B ps HL.out] at q7
    gi_wp2
    refine ⟨[W3.heap.size], rfl, by simp, fun D hDm => by rw [List.mem_singleton.1 hDm]; exact hD, fun w5 hf5 => ⟨_, results_tmp rfl _ _ _, rfl, ?_⟩⟩
    exact (hF3.trans (U := Non) g3 (fun _ x => x) (fun y hy => .inr (by omega))).trans (U := Non) hf5 (fun _ x => x) (fun y hy => .inr (by rw [List.mem_singleton.1 hy]; exact hF3.size))
  · intro c pre S' w2 ht hpre hf
    exact hf.elim
theorem gain_any {w : World} {gb : Nat} {ws : List Int} {B : Nat → Nat → Int} {G : Nat → Prop} (h : GAt w gb ws B G) (ps : List Int) (v : Value) (hv : Rd w v ps.length (ints ps)) (hn : ps.length ≤ 1000) (k i q : Int) :
    Calls Try.prog 47 #[ptr gb, v, .int .i64 k, .int .i64 i, .int .i64 q] w fun e w' => e = .returned (.int .i64 (gainV ws.length B ps k i q)) ∧ Frm Non w w' := by
  unfold gainV
  by_cases hz : rightB ws.length ps k = true ∧ 0 ≤ i ∧ i < ps.length ∧ 0 ≤ q ∧ q < k ∧ pt ps i.toNat ≠ q
  · rw [if_pos hz]
    obtain ⟨h1, h2, h3, h4, h5, h6⟩ := hz
    obtain ⟨a, rfl⟩ := Int.eq_ofNat_of_zero_le h2
    exact gain_main h ps v hv hn k q a h1 (by omega) h4 h5 h6
  · rw [if_neg hz]
    exact gain_zero h ps v hv hn k i q hz
end Go.Proofs.Ytjkcclcjhidokaa
