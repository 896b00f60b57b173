/- The law's two graphs, built, walked (layer 09). -/
import Derived.Test.YtjkcclcjhidokaaBp
namespace Go.Proofs.Ytjkcclcjhidokaa
open Go.RowKit
set_option maxHeartbeats 400000

set_option maxRecDepth 100000 in
theorem build09_any (ws : List Int) (os : List (Int × Int × Int)) (v u : Value) (w : World) (hv : Rd w v ws.length (ints ws)) (hu : Rd w u os.length (flat3 os)) :
    Calls Try.prog 38 #[v, u] w fun e w' => Frm Non w w' ∧ ((okB ws os = false ∧ e = .returned (.tuple #[.pointer none, .agg #[.slice none 0 0, .slice none 0 0], .bool false])) ∨
      (okB ws os = true ∧ ∃ gb x S X, e = .returned (.tuple #[ptr gb, x, .bool true]) ∧ Both w' w.heap.size gb x ws (buildB ws.length os) S X)) := by
  have hv0 := hv
  obtain ⟨va, vc, rfl, _, hvn, hvc⟩ := hv
  obtain ⟨ua, uc, rfl, hul, hun, huc⟩ := hu
  by_cases h1 : 30 < ws.length
  case pos =>
    have hE : okB ws os = false := by unfold okB; rw [decide_eq_false (by omega)]; rfl
    have HE := Lib.hid hE
    clear hE
    go_enter Try.func38, Try.ntmps38
    go_wp2
    exact bodyPost_ret (v := .tuple #[.pointer none, .agg #[.slice none 0 0, .slice none 0 0], .bool false]) (by simp [results, Try.results38, go_sem]) rfl ⟨(Frm.refl _).alloc _, .inl ⟨HE.out, rfl⟩⟩
  have hd1 : decide ((30 : Int) < (ws.length : Int)) = false := by simp; omega
  by_cases h2 : 60 < os.length
  case pos =>
    have hE : okB ws os = false := by unfold okB; rw [decide_eq_false (p := os.length ≤ 60) (by omega), Bool.and_false]; rfl
    have HE := Lib.hid hE
    clear hE
    go_enter Try.func38, Try.ntmps38
    go_wp2
    exact bodyPost_ret (v := .tuple #[.pointer none, .agg #[.slice none 0 0, .slice none 0 0], .bool false]) (by simp [results, Try.results38, go_sem]) rfl ⟨(Frm.refl _).alloc _, .inl ⟨HE.out, rfl⟩⟩
  have hF0 : Frm Non w (w.alloc (.cells #[.slice none 0 0, .slice none 0 0] 28)) := (Frm.refl w).alloc _
  have hnew := new_any ws _ _ (hv0.frm hF0 (fun _ _ x => x))
  have hrnew := fun W (f : Frm Non w W) => rnew_any ws _ _ (hv0.frm f (fun _ _ x => x))
  have hbw : ∀ W, Frm Non (w.alloc (.cells #[.slice none 0 0, .slice none 0 0] 28)) W → W.heap[w.heap.size]? = some (.cells #[.slice none 0 0, .slice none 0 0] 28 (0, 0)) := fun W f => (f.block _ (by simp) (fun x => x)).trans (heap_alloc_new w _)
  by_cases hz : newE ws = 0
  case neg =>
    have hE : okB ws os = false := by unfold okB; rw [beq_eq_false_iff_ne.2 hz, Bool.and_false]
    have HE := Lib.hid hE
    have hnz : (newE ws == 0) = false := beq_eq_false_iff_ne.2 hz
    have hnz2 : (newE ws != 0) = true := by simp [bne, hnz]
    clear hE
    go_enter Try.func38, Try.ntmps38
    go_wp2_with fail
    refine hnew.mono ?_
    rintro e w1 ⟨hf1, ⟨_, rfl⟩ | ⟨hh, _⟩⟩
    rotate_left
    · exact absurd hh hz
    go_wp2_with fail
    refine (hrnew _ (hF0.trans' hf1)).mono ?_
    rintro e w2 ⟨hf2, ⟨_, rfl⟩ | ⟨hh, _⟩⟩
    rotate_left
    · exact absurd hh hz
    have hb5 := hbw _ (hf1.trans' hf2)
    have hlt2 : w.heap.size < w2.heap.size := (Array.getElem?_eq_some_iff.1 hb5).1
    have hf3 := (hF0.trans' hf1).trans' hf2
    clear hnew hrnew hbw hz
    go_wp2
    obtain ⟨W4, hW4⟩ : ∃ W4, W4 = w2.alloc (.cells #[.slice none 0 0, .slice none 0 0] 28) := ⟨_, rfl⟩
    have hfz : Frm Non w2 W4 := by rw [hW4]; exact (Frm.refl w2).alloc _
    obtain ⟨d0, d1, d2, d3⟩ := blk_cell2 ((hfz.block _ hlt2 (fun x => x)).trans hb5)
    obtain ⟨e0, e1, e2, e3⟩ := blk_cell2 (show W4.heap[w2.heap.size]? = some (.cells #[.slice none 0 0, .slice none 0 0] 28 (0, 0)) from by rw [hW4]; exact heap_alloc_new w2 _)
    have hfw : Frm Non w W4 := hf3.trans' hfz
    rw [← hW4]
    clear hW4
    go_still_tail 2, (by kernel_rfl)
    go_wp2
    refine bodyPost_ret (v := .tuple #[.pointer none, .agg #[.slice none 0 0, .slice none 0 0], .bool false]) (by simp [results, Try.results38, go_sem, d0, d1]) rfl ⟨?_, .inl ⟨HE.out, rfl⟩⟩
    refine Frm.drew (Frm.setCell (Frm.setCell hfw _ ?_) _ ?_)
    · exact .inr (Nat.le_refl _)
    · exact .inr (Nat.le_refl _)
  case pos =>
    have hE : okB ws os = true := by unfold okB; rw [decide_eq_true (by omega), decide_eq_true (by omega), hz]; rfl
    have HE := Lib.hid hE
    clear hE hd1
    go_enter Try.func38, Try.ntmps38
    go_wp2_with fail
    refine hnew.mono ?_
    rintro e w1 ⟨hf1, ⟨hh, _⟩ | ⟨_, gb, S0, rfl, hG, hS0⟩⟩
    · exact absurd hz hh
    go_wp2_with fail
    refine (hrnew _ (hF0.trans' hf1)).mono ?_
    rintro e w2 ⟨hf2, ⟨hh, _⟩ | ⟨_, x, X0, rfl, hX, hX0⟩⟩
    · exact absurd hz hh
    have hb5 := hbw _ (hf1.trans' hf2)
    have hlt2 : w.heap.size < w2.heap.size := (Array.getElem?_eq_some_iff.1 hb5).1
    have hf3 := (hF0.trans' hf1).trans' hf2
    have hBo : Both w2 (w.heap.size + 1) gb x ws zeroB S0 X0 := ⟨hG.frm hf2 (fun _ _ x => x), hX, fun b h1 h2 => by have := hG.lt b h1; have := hX0 b h2; omega, fun b hb => by have := hS0 b hb; simpa using this, fun b hb => ⟨by have := hX0 b hb; have := hf1.size; simp at this; omega, hX.lt b hb⟩⟩
    obtain ⟨wv, Mv, rs, rfl, hXP⟩ := hX
    obtain ⟨wa, wc, hwv, _, _, _⟩ := own_rd hXP.wo
    obtain ⟨ma, mc, hMv, _, _, _⟩ := own_rd hXP.mo
    have hSlt : ∀ b, S0 b ∨ X0 b → b ≠ w2.heap.size := fun b hb e => by
      rcases hb with h1 | h1
      · have := hG.lt b h1; have := hf2.size; omega
      · have := hXP.lt b h1; omega
    subst hwv hMv
    clear hnew hrnew hbw hz hXP hG hX0 hS0
    unfold ptr at *
    go_wp2
    go_loopw [45] (fun i wr => ∃ (k : Nat) (S X : Nat → Prop), k ≤ os.length ∧ i = .int .i64 k ∧ Both wr (w.heap.size + 1) gb (.agg #[.slice wa ws.length wc, .slice ma rs.length mc]) ws (buildB ws.length (os.take k)) S X ∧ (∀ b, S b ∨ X b → b ≠ w2.heap.size) ∧
      wr.heap[w2.heap.size]? = some (.cells #[.slice wa ws.length wc, .slice ma rs.length mc] 28 (0, 0)) ∧ wr.heap[w.heap.size]? = some (.cells #[.slice none 0 0, .slice none 0 0] 28 (0, 0)) ∧ Frm Non w wr) (fun i _ => (os.length - intOf i).toNat)
    case atStart =>
      have hfa : Frm Non w2 (w2.alloc (.cells #[.slice wa ws.length wc, .slice ma rs.length mc] 28)) := (Frm.refl w2).alloc _
      exact ⟨0, S0, X0, Nat.zero_le _, rfl, hBo.frm hfa (fun _ _ x => x) (fun _ _ x => x), hSlt, heap_alloc_new w2 _, (hfa.block _ hlt2 (fun x => x)).trans hb5, hf3.trans' hfa⟩
    case round =>
      obtain ⟨k, S, X, hk, rfl, hB, hne, hg9, hg5, hF⟩ := hrel
      by_cases hlt : k < os.length
      · obtain ⟨b, off, rfl, o1, o2, o3⟩ := flat3_at (huc.frm hF (Off.non _)) k hlt
        have hlt9 : w2.heap.size < wr.heap.size := (Array.getElem?_eq_some_iff.1 hg9).1
        obtain ⟨W3, hW3⟩ : ∃ W3, W3 = wr.alloc (.cells #[.int .i64 os[k].1, .int .i64 os[k].2.1, .int .i64 os[k].2.2] 127) := ⟨_, rfl⟩
        have hfa : Frm Non wr W3 := by rw [hW3]; exact (Frm.refl wr).alloc _
        have hbx : W3.heap[wr.heap.size]? = some (.cells #[.int .i64 os[k].1, .int .i64 os[k].2.1, .int .i64 os[k].2.2] 127 (0, 0)) := by rw [hW3]; exact heap_alloc_new wr _
        have hB3 := hB.frm hfa (fun _ _ x => x) (fun _ _ x => x)
        obtain ⟨x0, x1, x2⟩ := blk_cell3 hbx
        have h93 := (hfa.block _ hlt9 (fun x => x)).trans hg9
        have h53 := (hfa.block _ (by omega) (fun x => x)).trans hg5
        have HW := Lib.hid hW3
        have hsz3 : wr.heap.size < W3.heap.size := (Array.getElem?_eq_some_iff.1 hbx).1
        have hsn := buildB_snoc ws.length os k hlt
        have HS := Lib.hid hsn
        clear hsn
        have hSX := hB.2.2.1
        have hj := join_any hB3.1 os[k].1 os[k].2.1 os[k].2.2
        unfold ptr at hj
        go_wp2_with fail
        rw [← hW3]
        clear hW3
        go_wp2_with fail
        refine hj.mono ?_
        rintro e w4 ⟨rfl, S', hG4, hT⟩
        have h94 := (hT.frm.block _ (by omega) (fun h => hne _ (.inl h) rfl)).trans h93
        have h54 := (hT.frm.block _ (by omega) (fun h => by have := hB.2.2.2.1 _ h; omega)).trans h53
        have hbx4 := (hT.frm.block _ hsz3 (fun h => by have := hB.1.lt _ h; omega)).trans hbx
        have hX4 := hB3.2.1.frm hT.frm (fun b h1 h2 => hSX b h2 h1)
        obtain ⟨y0, y1, y2⟩ := blk_cell3 hbx4
        obtain ⟨z0, z1, _, _⟩ := blk_cell2 h94
        have hj2 := rjoin_any hX4 hB3.1.2.1 hB3.1.2.2.1 os[k].1 os[k].2.1 os[k].2.2
        clear hj
        go_wp2_with fail
        refine hj2.mono ?_
        rintro e w5 ⟨rfl, hX5, hf5⟩
        clear hj2
        go_wp2
        refine ⟨⟨k + 1, S', X, by omega, by go_num, ?_, ?_, ?_, ?_, ?_⟩, ?_⟩
        · rw [HS.out] at hX5 hG4
          refine ⟨hG4.frm hf5 (fun b h1 h2 => ?_), hX5, fun b h1 h2 => ?_, fun b h1 => ?_, fun b h1 => ?_⟩
          · rcases hT.new b h1 with h3 | h3
            · exact hSX b h3 h2
            · have := (hB3.2.2.2.2 b h2).2; omega
          · rcases hT.new b h1 with h3 | h3
            · exact hSX b h3 h2
            · have := (hB3.2.2.2.2 b h2).2; omega
          · rcases hT.new b h1 with h3 | h3
            · exact hB.2.2.2.1 b h3
            · omega
          · exact ⟨(hB.2.2.2.2 b h1).1, hX5.lt b h1⟩
        · rintro b (h1 | h1)
          · rcases hT.new b h1 with h3 | h3
            · exact hne b (.inl h3)
            · omega
          · exact hne b (.inr h1)
        · exact (hf5.block _ (by have := hT.frm.size; omega) (fun h => hne _ (.inr h) rfl)).trans h94
        · exact (hf5.block _ (by have := hT.frm.size; omega) (fun h => by have := (hB.2.2.2.2 _ h).1; omega)).trans h54
        · have f1 : Frm Non w W3 := hF.trans' hfa
          have f2 : Frm Non w w4 := f1.trans hT.frm (fun _ x => x) (fun b h => .inr (by have := hB.2.2.2.1 b h; omega))
          exact f2.trans hf5 (fun _ x => x) (fun b h => .inr (by have := (hB.2.2.2.2 b h).1; omega))
        · simp [intOf]; omega
      · obtain rfl : k = os.length := by omega
        obtain ⟨z0, z1, _, _⟩ := blk_cell2 hg9
        obtain ⟨y0, y1, y2, y3⟩ := blk_cell2 hg5
        rw [List.take_length] at hB
        go_wp2
        go_still_tail 3, (by kernel_rfl)
        go_wp2
        refine bodyPost_ret (v := .tuple #[.pointer (some ⟨gb, 0, none⟩), .agg #[.slice wa ws.length wc, .slice ma rs.length mc], .bool true]) (by simp [results, Try.results38, go_sem, y0, y1]) rfl ⟨?_, .inr ⟨HE.out, gb, _, S, X, rfl, ?_⟩⟩
        · refine Frm.drew (Frm.setCell (Frm.setCell hF _ ?_) _ ?_)
          · exact .inr (Nat.le_refl _)
          · exact .inr (Nat.le_refl _)
        · have hfr : Frm (fun b => b = w.heap.size) wr ((wr.setCell ⟨w.heap.size, 0, none⟩ (.slice wa ws.length wc)).setCell ⟨w.heap.size, 1, none⟩ (.slice ma rs.length mc)).drew := by
            refine Frm.drew (Frm.setCell (Frm.setCell (Frm.refl _) _ ?_) _ ?_)
            · exact .inl rfl
            · exact .inl rfl
          obtain ⟨q1, q2, q3, q4, q5⟩ := hB.frm hfr (fun b h1 h2 => by have := hB.2.2.2.1 b h1; omega) (fun b h1 h2 => by have := (hB.2.2.2.2 b h1).1; omega)
          exact ⟨q1, q2, q3, fun b hb => by have := q4 b hb; omega, fun b hb => ⟨by have := (q5 b hb).1; omega, (q5 b hb).2⟩⟩
end Go.Proofs.Ytjkcclcjhidokaa
