/- All pairs of a graph, as an iterator. -/
import Derived.Test.YtjkcclcjhidokaaGe
namespace Go.Proofs.Ytjkcclcjhidokaa
open Go.RowKit
set_option maxHeartbeats 400000
attribute [local go_sem] Oper.semAt_some wide_fn wide_depth

theorem edges_iter {w0 : World} {gb eb : Nat} {ws : List Int} {B : Nat → Nat → Int} {G : Nat → Prop} (h : GAt w0 gb ws B G) (he : w0.heap[eb]? = some (.cells #[ptr gb] 25 (0, 0))) :
    Iter Try.prog 111 #[ptr eb] encE (fun b => b = eb ∨ G b) w0 (edges B ws.length) := by
  intro l I X w S hfr hOS hSlt hI hX hround h0
  have hG : GAt w gb ws B G := h.frm hfr (fun b hb hn => hn (.inr hb))
  have hE : w.heap[eb]? = some (.cells #[ptr gb] 25 (0, 0)) := (hfr.block eb (Array.getElem?_eq_some_iff.1 he).1 (fun hn => hn (.inl rfl))).trans he
  obtain ⟨⟨wv, nv, ms, vs, hg⟩, hB, hn, hW⟩ := hG
  obtain ⟨c0, c1, _, _⟩ := blk_cell2 hg.blk
  obtain ⟨ce, _⟩ := blk_cell1 hE
  obtain ⟨wa, wc, hwv, _, _, _⟩ := own_rd hg.wo
  subst hwv
  refine in_of_calls (calls_of_range Try.func111 rfl ?_)
  unfold ptr at *
  have hF1 : Frm Non w (w.alloc (.cells #[.func (.yield l) #[] #[]] 167)) := (Frm.refl w).alloc _
  have ce1 := hF1.cell ce (fun x => x)
  have c01 := hF1.cell c0 (fun x => x)
  simp only [Try.ntmps111, List.size_toArray, List.length_cons, List.length_nil, Nat.reduceAdd, Nat.reduceSub, Array.replicate_succ, Array.replicate_zero, List.push_toArray, List.append_toArray, List.nil_append, List.cons_append]
  gi_wp2
  refine wpIn_loop_k (fun a' w' => ∃ (k : Nat) (Ds : List Nat) (S' : Nat → Prop) (u3 u12 u13 u14 u15 u16 u17 u18 u19 u20 u21 u22 u32 : Value), k ≤ ws.length ∧
      a' = { tmps := #[.func (.yield l) #[] #[], .pointer (some ⟨eb, 0, none⟩), .pointer (some ⟨w.heap.size, 0, none⟩), u3, undef, undef, .pointer (some ⟨gb, 0, none⟩), .pointer (some ⟨gb, 0, none⟩), .pointer (some ⟨gb, 0, none⟩), .slice wa ws.length wc, .int .i64 ws.length, .int .i64 k, u12, u13, u14, u15, u16, u17, u18, u19, u20, u21, u22, undef, undef, undef, undef, undef, undef, undef, undef, undef, u32], defers := Ds.map mark } ∧
      Turn S S' w w' ∧ I ((List.range k).flatMap (edgesAt B ws.length)) S' w' ∧ Marks Ds w.heap.size S' w' ∧ w'.heap[w.heap.size]? = some (.cells #[.func (.yield l) #[] #[]] 167 (0, 0)) ∧ ¬ S' w.heap.size)
    (fun a' _ => (ws.length - intOf (a'.tmps.getD 11 undef)).toNat) ?_ ?_
  · refine ⟨0, [], S, undef, undef, undef, undef, undef, undef, undef, undef, undef, undef, undef, undef, undef, Nat.zero_le _, rfl, turn_non hSlt hF1, ?_, Marks.nil _ _ _, heap_alloc_new w _, fun hb => by have := hSlt _ hb; omega⟩
    exact hI _ _ _ _ h0 hF1.non
  · rintro a' wr ⟨k, Ds, S', u3, u12, u13, u14, u15, u16, u17, u18, u19, u20, u21, u22, u32, hk, rfl, ht, hi, hm, hx, hxS⟩ K hK
    have hgr := hg.frm ht.frm (fun b hb => hOS b (.inr hb))
    obtain ⟨d0, d1, _, _⟩ := blk_cell2 hgr.blk
    have de := ht.frm.cell ce (hOS eb (.inl rfl))
    by_cases hlt : k < ws.length
    · obtain ⟨g, cap, m, v, hnv, hcap, hkm, _, hp, _, _, hM⟩ := hgr.at k _ (adj_at B _ k hlt)
      subst hnv
      unfold ptr at hp
      have hFa : Frm Non wr (wr.alloc (.cells #[.int .i64 k] 3)).drew := ((Frm.refl wr).alloc _).drew
      have f0 := hFa.cell de (fun x => x)
      have f1 := hFa.cell d1 (fun x => x)
      have f2 := hFa.cell hp (fun x => x)
      have fk : (wr.alloc (.cells #[.int .i64 k] 3)).drew.cell? ⟨wr.heap.size, 0, none⟩ = some (.int .i64 k) := (blk_cell1 (heap_alloc_new wr (.cells #[.int .i64 k] 3))).1
      have hM2 := hM.frm hFa (fun x => x) (fun _ _ x => x)
      have mixed : Try.prog.follows .mixedOrders = true := by kernel_rfl
      gi_wp2
      refine wpIn_via (fun a' w2 => ∃ fv O, a' = { tmps := #[.func (.yield l) #[] #[], .pointer (some ⟨eb, 0, none⟩), .pointer (some ⟨w.heap.size, 0, none⟩), .pointer (some ⟨wr.heap.size, 0, none⟩), undef, undef, .pointer (some ⟨gb, 0, none⟩), .pointer (some ⟨gb, 0, none⟩), .pointer (some ⟨gb, 0, none⟩), .slice wa ws.length wc, .int .i64 ws.length, .int .i64 k, .bool true, .int .i64 k, .pointer (some ⟨gb, 0, none⟩), .pointer (some ⟨gb, 0, none⟩), .pointer (some ⟨gb, 1, none⟩), .slice (some ⟨g, 0, none⟩) ms.length cap, .int .i64 k, .pointer (some ⟨g, k, none⟩), .pointer (some ⟨m, 0, none⟩), .int .i64 k, fv, undef, undef, undef, undef, undef, undef, undef, undef, undef, u32], defers := Ds.map mark } ∧ EIt w2 fv O ((row B ws.length k).drop (lb (row B ws.length k) k)) ∧ Frm Non wr w2 ∧ w2.heap[wr.heap.size]? = some (.cells #[.int .i64 k] 3 (0, 0)) ∧ (∀ b, O b → wr.heap.size < b)) ?_ ?_
      · have HK := Lib.hid hK
        have fz : (wr.alloc (.cells #[.int .i64 k] 3)).drew.heap[wr.heap.size]? = some (.cells #[.int .i64 k] 3 (0, 0)) := heap_alloc_new wr _
        clear hK hround hI hX
        gi_region_with_o (gi_at_call 112; refine in_of_calls ((from_any _ m v k _ hM2 (row_srt _ _ _) (by have := row_len B ws.length k; omega)).mono ?_); rintro e w2 ⟨fv, O, rfl, hit, hf2, hO⟩)
        all_goals exact ⟨fv, O, rfl, hit, hFa.trans' hf2, (hf2.block _ (by simp) (fun x => x)).trans fz, fun b hb => by have := hO b hb; simp at this; omega⟩
      · clear hFa f0 f1 f2 fk hM2 hM hp
        rintro a2 w2 ⟨fv, O, rfl, hit, hf2, hab, hO⟩
        have hz2 := hf2.size
        have hzr := ht.frm.size
        have hzlt : w.heap.size < wr.heap.size := (Array.getElem?_eq_some_iff.1 hx).1
        have hablt : wr.heap.size < w2.heap.size := (Array.getElem?_eq_some_iff.1 hab).1
        have ht2 := ht.trans (turn_non ht.lt hf2)
        have hDlt : ∀ D ∈ Ds, D < w2.heap.size := fun D hD => Nat.lt_of_lt_of_le (hm.lt D hD) hz2
        have hIst : ∀ pre : List (Int × Int), Stab w2.heap.size (fun S₁ w₁ => I ((List.range k).flatMap (edgesAt B ws.length) ++ pre.map (fun e => ((k : Int), e.1, e.2))) S₁ w₁ ∧ Marks Ds w.heap.size S₁ w₁ ∧ (w₁.heap[w.heap.size]? = some (.cells #[.func (.yield l) #[] #[]] 167 (0, 0)) ∧ ¬ S₁ w.heap.size) ∧ (w₁.heap[wr.heap.size]? = some (.cells #[.int .i64 k] 3 (0, 0)) ∧ ¬ S₁ wr.heap.size)) := by
          rintro pre S₁ A C ⟨g1, g2, ⟨g3, g4⟩, g5, g6⟩ f
          have q : ∀ b, b < w2.heap.size → b < A.heap.size → C.heap[b]? = A.heap[b]? := fun b h1 h2 => f.block b h2 (fun h3 => by omega)
          refine ⟨hI _ _ _ _ g1 (f.mono fun b hb => ⟨by omega, hb.2⟩), ⟨g2.1, fun D hD => ?_⟩, ⟨(q _ (by omega) (Array.getElem?_eq_some_iff.1 g3).1).trans g3, g4⟩, (q _ (by omega) (Array.getElem?_eq_some_iff.1 g5).1).trans g5, g6⟩
          obtain ⟨e1, e2, e3⟩ := g2.2 D hD
          exact ⟨e1, e2, (q D (hDlt D hD) (g2.lt D hD)).trans e3⟩
        have hXst : ∀ (c : Code) (pre : List (Int × Int)), Stab w2.heap.size (fun S₁ w₁ => c = .ret ∧ X ((List.range k).flatMap (edgesAt B ws.length) ++ pre.map (fun e => ((k : Int), e.1, e.2))) S₁ w₁ ∧ Marks Ds w.heap.size S₁ w₁) := by
          rintro c pre S₁ A C ⟨g0, g1, g2⟩ f
          refine ⟨g0, hX _ _ _ _ g1 (f.mono fun b hb => ⟨by omega, hb.2⟩), g2.1, fun D hD => ?_⟩
          obtain ⟨e1, e2, e3⟩ := g2.2 D hD
          exact ⟨e1, e2, (f.block D (g2.lt D hD) (fun h3 => by have := hDlt D hD; omega)).trans e3⟩
        gi_wp2
        refine wp_rangeV (enc := enc2) (O := O) (xs := (row B ws.length k).drop (lb (row B ws.length k) k)) hit (fun _ => rfl) _ _ S' ?_ ht2.lt hIst hXst ?_ ?_ ?_ ?_
        · intro b hb hs
          have h1 := ht.lt b hs
          have h2 := hO b hb
          omega
        · exact ⟨by simpa using hI _ _ _ _ hi (hf2.non), hm.turn (turn_non ht.lt hf2), ⟨(hf2.block _ hzlt (fun x => x)).trans hx, hxS⟩, hab, fun hs => by have := ht.lt _ hs; omega⟩
        · intro l' pre x S₁ w₁ hl1 hl2 hl3 hin hpre hSl
          rw [show enc2 x = #[.int .i64 x.1, .int .i64 x.2] from rfl, fold2]
          simp only [List.setIfInBounds_toArray, List.set_cons_succ, List.set_cons_zero]
          have hst := hIst pre
          have hrd := hround
          have hSl' := hSl
          clear hround hI hX hIst hXst hK
          gi_wp2
          refine ⟨Frm.refl _, ?_⟩
          intro w3 ht3 hz3
          obtain ⟨g1, g2, ⟨g3, g4⟩, g5, g6⟩ := hst S₁ w₁ w3 hin (ht3.mono fun b hb => by subst hb; exact ⟨hl2, hl1⟩)
          obtain ⟨k1, _⟩ := blk_cell1 g3
          obtain ⟨k2, _⟩ := blk_cell1 g5
          have hpx := edges_prefix B ws.length k hlt (pre ++ [x]) hpre
          rw [List.map_append, List.map_cons, List.map_nil, ← List.append_assoc] at hpx
          have hy := hrd _ ((k : Int), x.1, x.2) S₁ w3 g1 hpx (fun b hb => by rw [hz3]; exact hSl' b hb)
          clear hrd hst hin
          gi_wp2
          refine yield_step' hy ?_
          rintro bb w4 ⟨S₂, ht4, hc4⟩
          have hnew : ∀ b, S₂ b → S₁ b ∨ w₁.heap.size ≤ b := fun b hb => by rcases ht4.new b hb with h1 | h1; exact .inl h1; exact .inr (by omega)
          have hm4 := g2.turn ht4
          cases bb
          · rw [if_neg (by simp)] at hc4
            gi_wp2
            exact ⟨S₂, ht4.frm.mono fun b hb => .inl hb, hnew, ht4.lt, rfl, by rw [List.map_append, List.map_cons, List.map_nil, ← List.append_assoc]; exact hc4, hm4⟩
          · rw [if_pos rfl] at hc4
            gi_wp2
            have q : ∀ b, b < w3.heap.size → ¬ S₁ b → w4.heap[b]? = w3.heap[b]? := fun b h1 h2 => ht4.frm.block b h1 h2
            refine ⟨S₂, ht4.frm.mono fun b hb => .inl hb, hnew, ht4.lt, by rw [List.map_append, List.map_cons, List.map_nil, ← List.append_assoc]; exact hc4, hm4, ⟨(q _ (Array.getElem?_eq_some_iff.1 g3).1 g4).trans g3, fun hs => ?_⟩, (q _ (Array.getElem?_eq_some_iff.1 g5).1 g6).trans g5, fun hs => ?_⟩
            · rcases ht4.new _ hs with h1 | h1
              · exact g4 h1
              · have := (Array.getElem?_eq_some_iff.1 g3).1; omega
            · rcases ht4.new _ hs with h1 | h1
              · exact g6 h1
              · have := (Array.getElem?_eq_some_iff.1 g5).1; omega
        · rintro S₁ w4 ht4 ⟨g1, g2, ⟨g3, g4⟩, g5, g6⟩ hD hDS
          rw [edges_next] at g1
          have htf := ht2.trans ht4
          have hmk : Marks (w2.heap.size :: Ds) w.heap.size S₁ w4 := (hm.turn (turn_non ht.lt hf2)).cons ht4 (by omega) hD hDS rfl
          have HK := Lib.hid hK
          clear hround hI hX hIst hXst hK
          gi_wp2
          refine HK.out _ _ ⟨⟨k + 1, w2.heap.size :: Ds, S₁, _, _, _, _, _, _, _, _, _, _, _, _, _, by omega, rfl, htf, g1, hmk, g3, g4⟩, ?_⟩
          simp [intOf]; omega
        · rintro c pre S₁ w4 ht4 hpre ⟨rfl, g1, g2⟩ hD hDS
          have htf := ht2.trans ht4
          have hmk : Marks (w2.heap.size :: Ds) w.heap.size S₁ w4 := (hm.turn (turn_non ht.lt hf2)).cons ht4 (by omega) hD hDS rfl
          have hpx := edges_prefix B ws.length k hlt pre hpre
          refine wpIn_ret ?_
          refine ⟨w2.heap.size :: Ds, rfl, hmk.1, fun D hD => (hmk.2 D hD).2.2, fun w5 hf5 => ⟨_, results_none rfl _ _ _, rfl, S₁, htf.shut (hmk.shut hf5), .inr ⟨_, hpx, hX _ _ _ _ g1 (hmk.shut hf5)⟩⟩⟩
    · obtain rfl : k = ws.length := by omega
      clear hround hK
      gi_wp2
      refine ⟨Ds, rfl, hm.1, fun D hD => (hm.2 D hD).2.2, fun w5 hf5 => ⟨_, results_none rfl _ _ _, rfl, S', ht.shut (hm.shut hf5), .inl (hI _ _ _ _ hi (hm.shut hf5))⟩⟩
end Go.Proofs.Ytjkcclcjhidokaa
