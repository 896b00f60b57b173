/- The law's list of the parts that no thing has, walked. -/
import Derived.Test.YtjkcclcjhidokaaC8
namespace Go.Proofs.Ytjkcclcjhidokaa
open Go.RowKit
set_option maxHeartbeats 4000000

theorem four_new (w : World) (o1 o2 o3 o4 : Obj) : ((((w.alloc o1).alloc o2).alloc o3).alloc o4).heap[w.heap.size]? = some o1 ∧ ((((w.alloc o1).alloc o2).alloc o3).alloc o4).heap[w.heap.size + 1]? = some o2 ∧ ((((w.alloc o1).alloc o2).alloc o3).alloc o4).heap[w.heap.size + 1 + 1]? = some o3 ∧ ((((w.alloc o1).alloc o2).alloc o3).alloc o4).heap[w.heap.size + 1 + 1 + 1]? = some o4 := by
  obtain ⟨h1, h2, h3⟩ := three_new w o1 o2 o3
  have s3 : (((w.alloc o1).alloc o2).alloc o3).heap.size = w.heap.size + 1 + 1 + 1 := by simp
  have n4 := heap_alloc_new (((w.alloc o1).alloc o2).alloc o3) o4
  rw [s3] at n4
  exact ⟨(Below.heap_alloc _ _ _ (by omega)).trans h1, (Below.heap_alloc _ _ _ (by omega)).trans h2, (Below.heap_alloc _ _ _ (by omega)).trans h3, n4⟩

def emptyL (ps : List Int) (k most : Int) : List Int := if most ≤ 0 then [] else (emptyTo ps k.toNat).take most.toNat
attribute [local go_sem] Oper.semAt_some wide_fn wide_depth
set_option maxRecDepth 100000 in
theorem lempty_any (ps : List Int) (k most : Int) (v : Value) (w : World) (hv : Rd w v ps.length (ints ps)) (hn : ps.length ≤ 1000000) (hk : k ≤ 1000000) :
    Calls Try.prog 44 #[v, .int .i64 k, .int .i64 most] w fun e w' => ∃ v', e = .returned v' ∧ Rd w' v' (emptyL ps k most).length (ints (emptyL ps k most)) ∧ Frm Non w w' := by
  have hv0 := hv
  obtain ⟨va, vc, rfl, _, _, _⟩ := hv
  obtain ⟨W, hW⟩ : ∃ W, W = (((w.alloc (.cells #[.int .i64 most] 3)).alloc (.cells #[.slice none 0 0] 33)).alloc (.cells #[] 3)).alloc (.cells #[.slice (some ⟨w.heap.size + 1 + 1, 0, none⟩) 0 0] 33) := ⟨_, rfl⟩
  have hF : Frm Non w W := by rw [hW]; exact ((((Frm.refl w).alloc _).alloc _).alloc _).alloc _
  obtain ⟨h5, h6, h8, h7⟩ := four_new w (.cells #[.int .i64 most] 3) (.cells #[.slice none 0 0] 33) (.cells #[] 3) (.cells #[.slice (some ⟨w.heap.size + 1 + 1, 0, none⟩) 0 0] 33)
  rw [← hW] at h5 h6 h8 h7
  obtain ⟨c5, _⟩ := blk_cell1 h5
  obtain ⟨c6, f6⟩ := blk_cell1 h6
  obtain ⟨c7, f7⟩ := blk_cell1 h7
  have hem := empty_any ps k _ W (hv0.frm hF (fun _ _ x => x)) hn hk
  have hlen := emptyTo_len ps k.toNat
  refine calls_of_range Try.func44 rfl ?_
  simp only [Try.ntmps44, List.size_toArray, List.length_cons, List.length_nil, Nat.reduceAdd, Nat.reduceSub, Array.replicate_succ, Array.replicate_zero, List.push_toArray, List.append_toArray, List.nil_append, List.cons_append]
  by_cases hm : most ≤ 0
  · unfold emptyL
    rw [if_pos hm]
    gi_wp2
    obtain ⟨-, k6, -, -⟩ := four_new w (.cells #[.int .i64 most] 3) (.cells #[.slice (some ⟨w.heap.size + 1 + 1, 0, none⟩) 0 0] 33) (.cells #[] 3) (.cells #[.slice (some ⟨w.heap.size + 1 + 1, 0, none⟩) 0 0] 33)
    refine ⟨[], rfl, by simp, by simp, fun w5 hf5 => ⟨.slice (some ⟨w.heap.size + 1 + 1, 0, none⟩) 0 0, ?_, _, rfl, ⟨_, 0, rfl, Nat.le_refl _, fun _ => rfl, fun h => absurd rfl h⟩, ((((((Frm.refl w).alloc _).alloc _).alloc _).alloc _).trans (U := Non) hf5 (fun _ x => x) (fun b hb => by simp at hb))⟩⟩
    obtain ⟨q6, _⟩ := blk_cell1 ((hf5.block _ (Array.getElem?_eq_some_iff.1 k6).1 (by simp)).trans k6)
    simp [results, Try.results44, go_sem, q6]
  · obtain ⟨M, rfl⟩ := Int.eq_ofNat_of_zero_le (show 0 ≤ most by omega)
    have hM : 0 < M := by omega
    have hE : emptyL ps k (M : Int) = (emptyTo ps k.toNat).take M := by unfold emptyL; rw [if_neg hm]; rfl
    rw [hE]
    clear hE hm
    gi_wp2
    rw [← hW]
    clear hW
    refine in_of_calls (hem.mono ?_)
    rintro e W3 ⟨fv, O, rfl, hit, hf3, hO⟩
    have hF3 := hF.trans' hf3
    have l7 : w.heap.size + 1 + 1 + 1 < W.heap.size := (Array.getElem?_eq_some_iff.1 h7).1
    have g5 := (hf3.block _ (by omega) (fun x => x)).trans h5
    have g6 := (hf3.block _ (by omega) (fun x => x)).trans h6
    have g7 := (hf3.block _ (by omega) (fun x => x)).trans h7
    have g8 := (hf3.block _ (by omega) (fun x => x)).trans h8
    have hown0 : Own W3 3 1 (.slice (some ⟨w.heap.size + 1 + 1, 0, none⟩) 0 0) 0 [] := ⟨rfl, .inr ⟨_, 0, #[], rfl, Nat.zero_le _, g8, Nat.le_refl _, Nat.zero_le _, rfl, rfl⟩⟩
    have hz3 := hf3.size
    have hOlt : ∀ b, O b → W.heap.size ≤ b ∨ b < w.heap.size := fun b hb => by
      rcases hO b hb with h1 | ⟨h1, h2⟩
      · exact .inl h1
      · exact .inr (hv0.lt h1 b h2)
    have hSt : ∀ pre : List Int, Stab W3.heap.size (fun S' w2 => pre.length < M ∧ (∃ oa oc, (∀ b, S' b ↔ b = w.heap.size + 1 + 1 + 1 ∨ b = w.heap.size + 1 ∨ (Value.slice oa pre.length oc).ownBlock = some b) ∧ w2.heap[w.heap.size + 1 + 1 + 1]? = some (.cells #[.slice oa pre.length oc] 33 (0, 0)) ∧ Own w2 3 1 (.slice oa pre.length oc) pre.length (ints pre) ∧
        (∀ b, (Value.slice oa pre.length oc).ownBlock = some b → b = w.heap.size + 1 + 1 ∨ W3.heap.size ≤ b)) ∧ w2.heap[w.heap.size + 1]? = some (.cells #[.slice none 0 0] 33 (0, 0)) ∧ Frm (fun b => b = w.heap.size + 1 + 1 + 1 ∨ b = w.heap.size + 1 + 1 ∨ b = w.heap.size + 1) W3 w2) := by
      rintro pre S' A C ⟨g0, ⟨oa, oc, g1, g2, g3, g4⟩, g5, g6⟩ f
      refine ⟨g0, ⟨oa, oc, g1, (f.block _ (Array.getElem?_eq_some_iff.1 g2).1 (fun h3 => by omega)).trans g2, own_frm g3 f (fun b hb h3 => h3.2 ((g1 b).2 (.inr (.inr hb)))), g4⟩, (f.block _ (Array.getElem?_eq_some_iff.1 g5).1 (fun h3 => by omega)).trans g5, g6.trans f (fun _ x => x) (fun b hb => .inr hb.1)⟩
    have hXt : ∀ (c : Code) (pre : List Int), Stab W3.heap.size (fun S' w2 => c = .ret ∧ pre.length = M ∧ (∃ oa oc, (∀ b, (Value.slice oa pre.length oc).ownBlock = some b → S' b) ∧ w2.heap[w.heap.size + 1]? = some (.cells #[.slice oa pre.length oc] 33 (0, 0)) ∧ Own w2 3 1 (.slice oa pre.length oc) pre.length (ints pre)) ∧
        Frm (fun b => b = w.heap.size + 1 + 1 + 1 ∨ b = w.heap.size + 1 + 1 ∨ b = w.heap.size + 1) W3 w2) := by
      rintro c pre S' A C ⟨g0, gm, ⟨oa, oc, g1, g2, g3⟩, g6⟩ f
      refine ⟨g0, gm, ⟨oa, oc, g1, (f.block _ (Array.getElem?_eq_some_iff.1 g2).1 (fun h3 => by omega)).trans g2, own_frm g3 f (fun b hb h3 => h3.2 (g1 b hb))⟩, g6.trans f (fun _ x => x) (fun b hb => .inr hb.1)⟩
    gi_wp2
    refine wp_rangeV (enc := encI) (O := O) (xs := emptyTo ps k.toNat) hit (fun _ => rfl) _ _ (fun b => b = w.heap.size + 1 + 1 + 1 ∨ b = w.heap.size + 1 ∨ (Value.slice (some ⟨w.heap.size + 1 + 1, 0, none⟩) 0 0).ownBlock = some b) ?_ ?_ hSt hXt ?_ ?_ ?_ ?_
    · rintro b hb h1
      have := hOlt b hb
      rcases h1 with h1 | h1 | h1
      · omega
      · omega
      · simp [Value.ownBlock] at h1; omega
    · rintro b (h1 | h1 | h1)
      · omega
      · omega
      · simp [Value.ownBlock] at h1; omega
    · exact ⟨hM, ⟨_, _, fun b => Iff.rfl, g7, hown0, fun b hb => by simp [Value.ownBlock] at hb; omega⟩, g6, Frm.refl _⟩
    · intro l pre x S₁ w₁ hl1 hl2 hl3 hin hpre hSl
      rw [show encI x = #[.int .i64 x] from rfl, fold1]
      simp only [List.setIfInBounds_toArray, List.set_cons_succ, List.set_cons_zero]
      have hst := hSt pre S₁ w₁
      clear hSt hXt
      gi_wp2
      refine ⟨Frm.refl _, ?_⟩
      intro w3 ht3 hz3'
      obtain ⟨j0, ⟨oa, oc, j1, j2, j3, j4⟩, j5, j6⟩ := hst w3 hin (ht3.mono fun b hb => by subst hb; exact ⟨hl2, hl1⟩)
      obtain ⟨q7, q7f⟩ := blk_cell1 j2
      have hlen2 := hpre.length_le
      rw [List.length_append, List.length_singleton] at hlen2
      have hfa : Frm Non w3 (w3.alloc (.cells #[.int .i64 x] 3)) := (Frm.refl w3).alloc _
      have q7a := hfa.cell q7 (fun x => x)
      have hoa := own_frm j3 hfa (fun _ _ x => x)
      have hrd : Rd (w3.alloc (.cells #[.int .i64 x] 3)) _ 1 (ints [x]) := rd_one _ 3
      have k5 := (j6.block _ (by omega) (by omega)).trans g5
      have hp1 : pre.length ≤ 1000000 := by omega
      have HZ3 := Lib.hid hz3'
      have hz7 : w.heap.size + 1 + 1 + 1 < w3.heap.size := (Array.getElem?_eq_some_iff.1 j2).1
      have hbk : ∀ b, b < w3.heap.size → b = w.heap.size ∨ b = w.heap.size + 1 ∨ b = w.heap.size + 1 + 1 + 1 → ∀ w4, Frm (fun b => (Value.slice oa pre.length oc).ownBlock = some b) (w3.alloc (.cells #[.int .i64 x] 3)) w4 → w4.heap[b]? = w3.heap[b]? := fun b hb1 hb2 w4 hf =>
        (hf.block b (by simp; omega) (fun h => by rcases j4 b h with h | h <;> omega)).trans (hfa.block b hb1 (fun x => x))
      have k5b := (j6.block w.heap.size (by omega) (by omega)).trans g5
      have hgo : ∀ w4, Frm (fun b => (Value.slice oa pre.length oc).ownBlock = some b) (w3.alloc (.cells #[.int .i64 x] 3)) w4 → w4.heap[w.heap.size + 1 + 1 + 1]? = some (.cells #[.slice oa pre.length oc] 33 (0, 0)) ∧ w4.heap[w.heap.size]? = some (.cells #[.int .i64 (M : Int)] 3 (0, 0)) ∧ w4.heap[w.heap.size + 1]? = some (.cells #[.slice none 0 0] 33 (0, 0)) := fun w4 hf =>
        ⟨(hbk _ hz7 (.inr (.inr rfl)) w4 hf).trans j2, (hbk _ (by omega) (.inl rfl) w4 hf).trans k5b, (hbk _ (by omega) (.inr (.inl rfl)) w4 hf).trans j5⟩
      clear hst hin hz3' hbk
      by_cases hlast : pre.length + 1 = M
      · have hd : ((pre.length : Int) + 1 == (M : Int)) = true := beq_iff_eq.2 (by omega)
        have HL := Lib.hid hlast
        clear hlast
        gi_wp2_with (gi_at_builtin; refine wpListIn_app rfl (.tmp 17) (.tmp 19) T33 rfl hoa rfl hrd rfl rfl (ints_cell _) (by unfold maxLen; omega) (by omega) ?_; intro v' w4 h2 h3 h4; obtain ⟨na, nc, rfl, _, _, _⟩ := own_rd h2; obtain ⟨m7, m5, m6⟩ := hgo _ h3; obtain ⟨r7, r7f⟩ := blk_cell1 m7; obtain ⟨r5, _⟩ := blk_cell1 m5; obtain ⟨r6, r6f⟩ := blk_cell1 m6)
        have hZ := HZ3.out
        have hnb : ∀ b, (Value.slice na (pre.length + 1) nc).ownBlock = some b → b = w.heap.size + 1 + 1 ∨ W3.heap.size ≤ b := fun b hb => by
          rcases h4 b hb with h5 | h5
          · exact j4 b h5
          · simp at h5; exact .inr (by omega)
        have hn1 : ∀ b, (Value.slice na (pre.length + 1) nc).ownBlock = some b → S₁ b ∨ w₁.heap.size ≤ b := fun b hb => by
          rcases h4 b hb with h5 | h5
          · exact .inl ((j1 b).2 (.inr (.inr h5)))
          · simp at h5; exact .inr (by omega)
        have hf34 : Frm (fun b => S₁ b ∨ w₁.heap.size ≤ b) w3 w4 := (hfa.non (S := fun b => S₁ b ∨ w₁.heap.size ≤ b)).trans h3 (fun _ x => x) (fun b hb => .inl (.inl ((j1 b).2 (.inr (.inr hb)))))
        have hz4 := hf34.size
        have hnlt : ∀ b, (Value.slice na (pre.length + 1) nc).ownBlock = some b → b < w4.heap.size := own_lt h2
        have hj34 : Frm (fun b => b = w.heap.size + 1 + 1 + 1 ∨ b = w.heap.size + 1 + 1 ∨ b = w.heap.size + 1) W3 w4 := (j6.trans' hfa.non).trans h3 (fun _ x => x) (fun b hb => by rcases j4 b hb with h | h; exact .inl (.inr (.inl h)); exact .inr h)
        have hio : ints (pre ++ [x]) = ints pre ++ ints [x] := by simp [ints]
        have hf45 : Frm (fun b => b = w.heap.size + 1 + 1 + 1) w4 (w4.setCell ⟨w.heap.size + 1 + 1 + 1, 0, none⟩ (.slice na (pre.length + 1) nc)) := by
          refine Frm.setCell (Frm.refl _) _ ?_
          exact .inl rfl
        have hown5 := own_frm h2 hf45 (fun b hb h => by rcases hnb b hb with h5 | h5 <;> omega)
        have hs7 := set_one m7 (.slice na (pre.length + 1) nc)
        have hs6 := (hf45.block _ (Array.getElem?_eq_some_iff.1 m6).1 (by omega)).trans m6
        have hf56 : Frm (fun b => b = w.heap.size + 1) (w4.setCell ⟨w.heap.size + 1 + 1 + 1, 0, none⟩ (.slice na (pre.length + 1) nc)) ((w4.setCell ⟨w.heap.size + 1 + 1 + 1, 0, none⟩ (.slice na (pre.length + 1) nc)).setCell ⟨w.heap.size + 1, 0, none⟩ (.slice na (pre.length + 1) nc)) := by
          refine Frm.setCell (Frm.refl _) _ ?_
          exact .inl rfl
        have hs66 := set_one hs6 (.slice na (pre.length + 1) nc)
        have hown6 := own_frm hown5 hf56 (fun b hb h => by rcases hnb b hb with h5 | h5 <;> omega)
        refine ⟨fun b => b = w.heap.size + 1 + 1 + 1 ∨ b = w.heap.size + 1 ∨ (Value.slice na (pre.length + 1) nc).ownBlock = some b, ?_, ?_, ?_, rfl, ?_, ⟨na, nc, ?_, ?_, ?_⟩, ?_⟩
        · exact (hf34.trans (U := fun b => S₁ b ∨ w₁.heap.size ≤ b) hf45 (fun _ x => x) (fun b hb => .inl (.inl ((j1 b).2 (.inl hb))))).trans hf56 (fun _ x => x) (fun b hb => .inl (.inl ((j1 b).2 (.inr (.inl hb)))))
        · rintro b (hb | hb | hb)
          · exact .inl ((j1 b).2 (.inl hb))
          · exact .inl ((j1 b).2 (.inr (.inl hb)))
          · exact hn1 b hb
        · rintro b (hb | hb | hb)
          · have := hf45.size; have := hf56.size; omega
          · have := hf45.size; have := hf56.size; omega
          · have := hf45.size; have := hf56.size; have := hnlt b hb; omega
        · rw [List.length_append, List.length_singleton]; exact HL.out
        · intro b hb; rw [List.length_append, List.length_singleton] at hb; exact .inr (.inr hb)
        · rw [List.length_append, List.length_singleton]; exact hs66
        · rw [List.length_append, List.length_singleton, hio]; exact hown6
        · exact (hj34.trans hf45 (fun _ x => x) (fun b hb => .inl (.inl hb))).trans hf56 (fun _ x => x) (fun b hb => .inl (.inr (.inr hb)))
      · have hd : ((pre.length : Int) + 1 == (M : Int)) = false := beq_eq_false_iff_ne.2 (by omega)
        have HL := Lib.hid hlast
        clear hlast
        gi_wp2_with (gi_at_builtin; refine wpListIn_app rfl (.tmp 17) (.tmp 19) T33 rfl hoa rfl hrd rfl rfl (ints_cell _) (by unfold maxLen; omega) (by omega) ?_; intro v' w4 h2 h3 h4; obtain ⟨na, nc, rfl, _, _, _⟩ := own_rd h2; obtain ⟨m7, m5, m6⟩ := hgo _ h3; obtain ⟨r7, r7f⟩ := blk_cell1 m7; obtain ⟨r5, _⟩ := blk_cell1 m5; obtain ⟨r6, r6f⟩ := blk_cell1 m6)
        have hZ := HZ3.out
        have hnb : ∀ b, (Value.slice na (pre.length + 1) nc).ownBlock = some b → b = w.heap.size + 1 + 1 ∨ W3.heap.size ≤ b := fun b hb => by
          rcases h4 b hb with h5 | h5
          · exact j4 b h5
          · simp at h5; exact .inr (by omega)
        have hn1 : ∀ b, (Value.slice na (pre.length + 1) nc).ownBlock = some b → S₁ b ∨ w₁.heap.size ≤ b := fun b hb => by
          rcases h4 b hb with h5 | h5
          · exact .inl ((j1 b).2 (.inr (.inr h5)))
          · simp at h5; exact .inr (by omega)
        have hf34 : Frm (fun b => S₁ b ∨ w₁.heap.size ≤ b) w3 w4 := (hfa.non (S := fun b => S₁ b ∨ w₁.heap.size ≤ b)).trans h3 (fun _ x => x) (fun b hb => .inl (.inl ((j1 b).2 (.inr (.inr hb)))))
        have hz4 := hf34.size
        have hnlt : ∀ b, (Value.slice na (pre.length + 1) nc).ownBlock = some b → b < w4.heap.size := own_lt h2
        have hj34 : Frm (fun b => b = w.heap.size + 1 + 1 + 1 ∨ b = w.heap.size + 1 + 1 ∨ b = w.heap.size + 1) W3 w4 := (j6.trans' hfa.non).trans h3 (fun _ x => x) (fun b hb => by rcases j4 b hb with h | h; exact .inl (.inr (.inl h)); exact .inr h)
        have hio : ints (pre ++ [x]) = ints pre ++ ints [x] := by simp [ints]
        have hf45 : Frm (fun b => b = w.heap.size + 1 + 1 + 1) w4 (w4.setCell ⟨w.heap.size + 1 + 1 + 1, 0, none⟩ (.slice na (pre.length + 1) nc)) := by
          refine Frm.setCell (Frm.refl _) _ ?_
          exact .inl rfl
        have hown5 := own_frm h2 hf45 (fun b hb h => by rcases hnb b hb with h5 | h5 <;> omega)
        have hs7 := set_one m7 (.slice na (pre.length + 1) nc)
        have hs6 := (hf45.block _ (Array.getElem?_eq_some_iff.1 m6).1 (by omega)).trans m6
        refine ⟨fun b => b = w.heap.size + 1 + 1 + 1 ∨ b = w.heap.size + 1 ∨ (Value.slice na (pre.length + 1) nc).ownBlock = some b, ?_, ?_, ?_, ?_, ⟨na, nc, ?_, ?_, ?_, ?_⟩, hs6, ?_⟩
        · exact hf34.trans (U := fun b => S₁ b ∨ w₁.heap.size ≤ b) hf45 (fun _ x => x) (fun b hb => .inl (.inl ((j1 b).2 (.inl hb))))
        · rintro b (hb | hb | hb)
          · exact .inl ((j1 b).2 (.inl hb))
          · exact .inl ((j1 b).2 (.inr (.inl hb)))
          · exact hn1 b hb
        · rintro b (hb | hb | hb)
          · have := hf45.size; omega
          · have := hf45.size; omega
          · have := hf45.size; have := hnlt b hb; omega
        · rw [List.length_append, List.length_singleton]; have := HL.out; omega
        · intro b; rw [List.length_append, List.length_singleton]
        · rw [List.length_append, List.length_singleton]; exact hs7
        · rw [List.length_append, List.length_singleton, hio]; exact hown5
        · rw [List.length_append, List.length_singleton]; exact hnb
        · exact hj34.trans hf45 (fun _ x => x) (fun b hb => .inl (.inl hb))
    · rintro S' w2 ht ⟨g0, ⟨oa, oc, j1, j2, j3, j4⟩, j5, j6⟩ hD hDS
      obtain ⟨q7, q7f⟩ := blk_cell1 j2
      obtain ⟨q6, q6f⟩ := blk_cell1 j5
      gi_wp2
      have hf26 : Frm (fun b => b = w.heap.size + 1) w2 (w2.setCell ⟨w.heap.size + 1, 0, none⟩ (.slice oa (emptyTo ps k.toNat).length oc)) := by
        refine Frm.setCell (Frm.refl _) _ ?_
        exact .inl rfl
      have hlD := (Array.getElem?_eq_some_iff.1 hD).1
      refine ⟨[W3.heap.size], rfl, by simp, fun D hDm => by rw [List.mem_singleton.1 hDm]; exact (hf26.block _ hlD (by omega)).trans hD, fun w5 hf5 => ⟨.slice oa (emptyTo ps k.toNat).length oc, ?_, ?_⟩⟩
      · have k6 := (hf5.block _ (by have := (Array.getElem?_eq_some_iff.1 j5).1; have := hf26.size; omega) (by simp; omega)).trans (set_one j5 (.slice oa (emptyTo ps k.toNat).length oc))
        obtain ⟨q6, _⟩ := blk_cell1 k6
        simp [results, Try.results44, go_sem, q6]
      · have hp : (emptyTo ps k.toNat).take M = emptyTo ps k.toNat := List.take_of_length_le (by omega)
        rw [hp]
        refine ⟨_, rfl, ((own_rd j3).frm hf26 (fun b hb h => by rcases j4 b hb with h5 | h5 <;> omega)).frm hf5 (fun b hb h => by rw [List.mem_singleton.1 h] at hb; exact hDS ((j1 _).2 (.inr (.inr hb)))), ?_⟩
        exact ((hF3.trans (U := Non) j6 (fun _ x => x) (fun y hy => .inr (by omega))).trans (U := Non) hf26 (fun _ x => x) (fun y hy => .inr (by omega))).trans (U := Non) hf5 (fun _ x => x) (fun y hy => .inr (by rw [List.mem_singleton.1 hy]; exact hF3.size))
    · rintro c pre S' w2 ht hpre ⟨rfl, gm, ⟨oa, oc, j1, j2, j3⟩, j6⟩ hD hDS
      refine wpIn_ret ?_
      refine ⟨[W3.heap.size], rfl, by simp, fun D hDm => by rw [List.mem_singleton.1 hDm]; exact hD, fun w5 hf5 => ⟨.slice oa pre.length oc, ?_, ?_⟩⟩
      · have k6 := (hf5.block _ (Array.getElem?_eq_some_iff.1 j2).1 (by simp; omega)).trans j2
        obtain ⟨q6, _⟩ := blk_cell1 k6
        simp [results, Try.results44, go_sem, q6]
      · have hp : pre = (emptyTo ps k.toNat).take M := by rw [← gm]; exact List.prefix_iff_eq_take.1 hpre
        rw [← hp]
        refine ⟨_, rfl, (own_rd j3).frm hf5 (fun b hb h => by rw [List.mem_singleton.1 h] at hb; exact hDS (j1 _ hb)), ?_⟩
        exact (hF3.trans (U := Non) j6 (fun _ x => x) (fun y hy => .inr (by omega))).trans (U := Non) hf5 (fun _ x => x) (fun y hy => .inr (by rw [List.mem_singleton.1 hy]; exact hF3.size))
end Go.Proofs.Ytjkcclcjhidokaa
