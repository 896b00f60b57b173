/- CutNames, walked: true of every input. -/
import Derived.Test.YtjkcclcjhidokaaP3
import Derived.Test.YtjkcclcjhidokaaL9
namespace Go.Proofs.Ytjkcclcjhidokaa
open Go.RowKit
set_option maxHeartbeats 4000000

theorem ints_snoc (xs : List Int) (x : Int) : ints (xs ++ [x]) = ints xs ++ ints [x] := by simp [ints]
set_option maxRecDepth 100000 in
theorem cutNames_any (ws : List Int) (os : List (Int × Int × Int)) (ps : List Int) (k : Int) (v u x : Value) (w : World) (hv : Rd w v ws.length (ints ws)) (hu : Rd w u os.length (flat3 os)) (hx : Rd w x ps.length (ints ps)) :
    Calls Try.prog 10 #[v, u, x, .int .i64 k] w fun e w' => e = .returned (.bool true) ∧ Frm Non w w' := by
  have hv0 := hv
  have hu0 := hu
  have hx0 := hx
  obtain ⟨va, vc, rfl, _, _, _⟩ := hv
  obtain ⟨ua, uc, rfl, _, _, _⟩ := hu
  obtain ⟨xa, xc, rfl, _, _, _⟩ := hx
  have hal := alive09_any w
  have hbd := fun W (f : Frm Non w W) => build09_any ws os _ _ W (hv0.frm f (fun _ _ x => x)) (hu0.frm f (fun _ _ x => x))
  go_enter Try.func10, Try.ntmps10
  go_wp2_with fail
  refine hal.mono ?_
  rintro e w1 ⟨rfl, hf1⟩
  go_wp2_with fail
  refine (hbd _ hf1).mono ?_
  rintro e w2 ⟨hf2, ⟨hok, rfl⟩ | ⟨hok, gb, gx, S, X, rfl, hB⟩⟩
  · clear hal hbd
    go_wp2
    go_ret
    exact ⟨rfl, (hf1.trans' hf2).alloc _⟩
  have hG2 := hB.1
  obtain ⟨wv, Mv, rs, rfl, hXP⟩ := hB.2.1
  obtain ⟨wa, wc, rfl, _, _, _⟩ := own_rd hXP.wo
  obtain ⟨ma, mc, rfl, _, _, _⟩ := own_rd hXP.mo
  have hBo := hG2.2.1
  have hfa : Frm Non w2 (w2.alloc (.cells #[.slice wa ws.length wc, .slice ma rs.length mc] 28)) := (Frm.refl w2).alloc _
  have hG3 := hG2.frm hfa (fun _ _ x => x)
  have hF3 := (hf1.trans' hf2).trans' hfa
  have hx3 := hx0.frm hF3 (fun _ _ x => x)
  clear hal hbd hB hXP hok
  unfold ptr at *
  by_cases h1 : 60 < ps.length
  · go_wp2
    go_ret
    exact ⟨rfl, hF3⟩
  have h1' : decide ((60 : Int) < (ps.length : Int)) = false := by simp; omega
  by_cases h2 : 60 < k
  · go_wp2
    go_ret
    exact ⟨rfl, hF3⟩
  have h2' : decide (60 < k) = false := by simpa using h2
  have hri := right_any hG3 ps _ hx3 (by omega) k
  cases hr : rightB ws.length ps k with
  | false =>
    rw [hr] at hri
    unfold ptr at *
    go_wp2_with fail
    refine hri.mono ?_
    rintro e w4 ⟨rfl, hf4⟩
    go_wp2
    go_ret
    exact ⟨rfl, hF3.trans' hf4⟩
  | true =>
    rw [hr] at hri
    obtain ⟨r1, r2, r3, r4⟩ := rightB_iff hr
    obtain ⟨K, rfl⟩ := Int.eq_ofNat_of_zero_le (show 0 ≤ k by omega)
    have hps : ps.length ≤ 60 := by omega
    have HR := Lib.hid hr
    have HL := Lib.hid r3
    have H4 := Lib.hid r4
    clear hr r3 r4
    unfold ptr at *
    go_wp2_with fail
    refine hri.mono ?_
    rintro e w4 ⟨rfl, hf4⟩
    clear hri
    have hF4 := hF3.trans' hf4
    go_wp2
    have ht0 : Own ((w4.alloc (.cells #[] 3)).alloc (.cells #[] 3)) 3 1 (.slice (some ⟨w4.heap.size, 0, none⟩) 0 0) 0 [] := own_alloc (own_none0 w4 3) _
    have ho0 : Own ((w4.alloc (.cells #[] 3)).alloc (.cells #[] 3)) 3 1 (.slice (some ⟨w4.heap.size + 1, 0, none⟩) 0 0) 0 [] := by have := own_none0 (w4.alloc (.cells #[] 3)) 3; rwa [World.size_alloc] at this
    go_loopw [12, 13, 50] (fun t o i wr => ∃ (j : Nat) (g1 g2 : Option Addr) (c1 c2 : Nat), j ≤ ps.length ∧ i = .int .i64 j ∧ t = .slice g1 j c1 ∧ o = .slice g2 j c2 ∧ Own wr 3 1 t j (ints ((turnL K ps).take j)) ∧ Own wr 3 1 o j (ints ((halfL ps).take j)) ∧ (∀ b, t.ownBlock = some b → w4.heap.size ≤ b) ∧ (∀ b, o.ownBlock = some b → w4.heap.size ≤ b) ∧ (∀ b, t.ownBlock = some b → o.ownBlock ≠ some b) ∧ Frm Non w4 wr) (fun _ _ i _ => (ps.length - intOf i).toNat)
    case atStart => exact ⟨0, _, _, _, _, Nat.zero_le _, rfl, rfl, rfl, ht0, ho0, fun b hb => by simp [Value.ownBlock] at hb; omega, fun b hb => by simp [Value.ownBlock] at hb; omega, fun b hb hb' => by simp [Value.ownBlock] at hb hb'; omega, ((Frm.refl w4).alloc _).alloc _⟩
    case round =>
      obtain ⟨j, g1, g2, c1, c2, hj, rfl, rfl, rfl, ht, ho, htn, hon, hne, hf⟩ := hrel
      by_cases hlt : j < ps.length
      · obtain ⟨b, off, hxe, p1⟩ := ints_at ((hx3.frm (hf4.trans' hf) (fun _ _ x => x)).cells) j hlt
        subst hxe
        obtain ⟨q1, q2⟩ := H4.out ps[j] (List.getElem_mem hlt)
        have HT := Lib.hid (turnL_snoc K ps j hlt)
        have HH := Lib.hid (halfL_snoc ps j hlt)
        have hfa : Frm Non wr (wr.alloc (.cells #[.int .i64 (↑K - 1 - ps[j])] 3)) := (Frm.refl wr).alloc _
        have hta := own_frm ht hfa (fun _ _ x => x)
        have hrd1 : Rd (wr.alloc (.cells #[.int .i64 (↑K - 1 - ps[j])] 3)) _ 1 (ints [↑K - 1 - ps[j]]) := rd_one _ 3
        go_wp2_with first
          | (at_builtin; refine wpList_app rfl (.tmp 54) (.tmp 59) T33 rfl hta rfl hrd1 rfl rfl (ints_cell _) (by unfold maxLen; omega) (by omega) ?_; intro v1 wa k2 k3 k4; obtain ⟨ga, gc, rfl, _, _, _⟩ := own_rd k2; have hdis := fun b (hb : Value.ownBlock (.slice ga (j + 1) gc) = some b) (hb' : Value.ownBlock (.slice g2 j c2) = some b) => (show False from by
              rcases k4 b hb with e | e
              · exact hne b e hb'
              · have := own_lt ho b hb'; simp at e; omega); have hfb : Frm Non wa (wa.alloc (.cells #[.int .i64 (ps[j] / 2)] 3)) := (Frm.refl wa).alloc _; have hob := own_frm (own_frm (own_frm ho hfa (fun _ _ x => x)) k3 (fun b hb hb' => hne b hb' hb)) hfb (fun _ _ x => x); have hrd2 : Rd (wa.alloc (.cells #[.int .i64 (ps[j] / 2)] 3)) _ 1 (ints [ps[j] / 2]) := rd_one _ 3)
          | (at_builtin; refine wpList_app rfl (.tmp 61) (.tmp 64) T33 rfl hob rfl hrd2 rfl rfl (ints_cell _) (by unfold maxLen; omega) (by omega) ?_; intro v2 wb l2 l3 l4; obtain ⟨gb', gc', rfl, _, _, _⟩ := own_rd l2)
        go_wp2
        refine ⟨⟨j + 1, ga, gb', gc, gc', by omega, by go_num, rfl, rfl, ?_, ?_, ?_, ?_, ?_, ?_⟩, by simp [intOf]; omega⟩
        · rw [HT.out, ints_snoc]; exact own_frm (own_frm k2 hfb (fun _ _ x => x)) l3 (fun b hb hb' => hdis b hb hb')
        · rw [HH.out, ints_snoc]; exact l2
        · intro b hb
          rcases k4 b hb with h5 | h5
          · exact htn b h5
          · have := hf.size; simp at h5; omega
        · intro b hb
          rcases l4 b hb with h5 | h5
          · exact hon b h5
          · have := hf.size; have := k3.size; simp at h5 this; omega
        · intro b hb hb'
          rcases l4 b hb' with h5 | h5
          · exact hdis b hb h5
          · have := own_lt k2 b hb; simp at h5; omega
        · exact ((hf.trans' hfa).trans (U := Non) k3 (fun _ x => x) (fun b hb => .inr (htn b hb))).trans (U := Non) (hfb.trans (U := fun b => Value.ownBlock (.slice g2 j c2) = some b) l3 (fun _ x => x.elim) (fun _ x => .inl x)) (fun _ x => x) (fun b hb => .inr (hon b hb))
      · obtain rfl : j = ps.length := by omega
        rw [List.take_of_length_le (by rw [turnL_length]; exact Nat.le_refl _)] at ht
        rw [List.take_of_length_le (by rw [halfL_length]; exact Nat.le_refl _)] at ho
        have htl := turnL_length K ps
        have hhl := halfL_length ps
        have hrt : Rd wr (.slice g1 ps.length c1) (turnL K ps).length (ints (turnL K ps)) := by rw [htl]; exact own_rd ht
        have hrh : Rd wr (.slice g2 ps.length c2) (halfL ps).length (ints (halfL ps)) := by rw [hhl]; exact own_rd ho
        have hrt1 : rightB ws.length (turnL K ps) K = true := right_turn HR.out
        have hrh1 : rightB ws.length (halfL ps) K = true := right_half HR.out
        have hFr := hf4.trans' hf
        have hGr := hG3.frm hFr (fun _ _ x => x)
        have hxr := hx3.frm hFr (fun _ _ x => x)
        have hW1 := weights_any hGr ps _ hxr (by omega) K HR.out
        have hW2 := fun W (f : Frm Non wr W) => weights_any (hGr.frm f (fun _ _ x => x)) (turnL K ps) _ (hrt.frm f (fun _ _ x => x)) (by rw [htl]; omega) K hrt1
        have hC1 := fun W (f : Frm Non wr W) => cut_any (hGr.frm f (fun _ _ x => x)) ps _ (hxr.frm f (fun _ _ x => x)) (by omega) K HR.out
        have hC2 := fun W (f : Frm Non wr W) => cut_any (hGr.frm f (fun _ _ x => x)) (turnL K ps) _ (hrt.frm f (fun _ _ x => x)) (by rw [htl]; omega) K hrt1
        have hC3 := fun W (f : Frm Non wr W) => cut_any (hGr.frm f (fun _ _ x => x)) (halfL ps) _ (hrh.frm f (fun _ _ x => x)) (by rw [hhl]; omega) K hrh1
        have hI1 := fun W (f : Frm Non wr W) => fits_any (hGr.frm f (fun _ _ x => x)) ps _ (hxr.frm f (fun _ _ x => x)) (by omega) K
        have hI2 := fun W (f : Frm Non wr W) => fits_any (hGr.frm f (fun _ _ x => x)) (turnL K ps) _ (hrt.frm f (fun _ _ x => x)) (by rw [htl]; omega) K
        rw [fits_turn ws HR.out] at hI2
        rw [cut_turn] at hC2
        have hcle := cut_half hBo ps
        have hwl1 : (wtsB ws ps K).length = K := wtsTo_length _ _ _ _
        have hwl2 : (wtsB ws (turnL K ps) K).length = K := wtsTo_length _ _ _ _
        have HW1 := Lib.hid hwl1
        have HW2 := Lib.hid hwl2
        have HAT := Lib.hid (fun q hq => wts_turn_at ws ps K q hq)
        clear htl hhl hrt1 hrh1 hwl1 hwl2
        unfold ptr at *
        go_wp2_with fail
        refine hW1.mono ?_
        rintro e w5 ⟨v5, rfl, ho5, hf5, _⟩
        go_wp2_with fail
        refine (hW2 _ hf5).mono ?_
        rintro e w6 ⟨v6, rfl, ho6, hf6, _⟩
        obtain ⟨a5, c5, rfl, _, _, hc5⟩ := own_rd (own_frm ho5 hf6 (fun _ _ x => x))
        obtain ⟨a6, c6, rfl, _, _, hc6⟩ := own_rd ho6
        replace hc5 : CellsAt w6 a5 (ints (wtsB ws ps K)) := hc5
        replace hc6 : CellsAt w6 a6 (ints (wtsB ws (turnL K ps) K)) := hc6
        clear hW1 hW2
        go_wp2
        go_loopw [77] (fun i wr => ∃ m : Nat, m ≤ K ∧ i = .int .i64 m ∧ Frm Non w6 wr) (fun i _ => (K - intOf i).toNat)
        case atStart => exact ⟨0, Nat.zero_le _, rfl, Frm.refl _⟩
        case round =>
          obtain ⟨m, hm, rfl, hf7⟩ := hrel
          by_cases hlt : m < K
          · obtain ⟨q, hq⟩ : ∃ q, q = K - 1 - m := ⟨_, rfl⟩
            have hlt5 : m < (wtsB ws ps K).length := by rw [HW1.out]; exact hlt
            have hlt6 : q < (wtsB ws (turnL K ps) K).length := by rw [HW2.out]; omega
            obtain ⟨b5, o5, rfl, s5⟩ := ints_at (hc5.frm hf7 (Off.non _)) m hlt5
            obtain ⟨b6, o6, rfl, s6⟩ := ints_at (hc6.frm hf7 (Off.non _)) q hlt6
            have hat := HAT.out m hlt
            rw [← hq, List.getElem?_eq_getElem hlt6, List.getElem?_eq_getElem hlt5] at hat
            injection hat with hat
            rw [hat] at s6
            have hqK : q < K := by omega
            have hqq : (K : Int) - 1 - (m : Int) = (q : Int) := by omega
            have hw1 : IntKind.i64.wrap ((K : Int) - 1) = (K : Int) - 1 := IntWalk.i64_in _ (by omega)
            have hw3 : IntKind.i64.wrap (q : Int) = (q : Int) := IntWalk.i64_in _ (by omega)
            clear hq hat
            go_wp2
            go_still_tail 11, (by kernel_rfl)
            go_wp2
            go_round
            case rel => exact ⟨m + 1, by omega, by go_num, hf7.drew⟩
            case measure => simp [intOf]; omega
          · obtain rfl : m = K := by omega
            have hF7 := hf5.trans' (hf6.trans' hf7)
            go_wp2_with fail
            refine (hC2 _ hF7).mono ?_
            rintro e w8 ⟨rfl, hf8⟩
            have hF8 := hF7.trans' hf8
            go_wp2_with fail
            refine (hC1 _ hF8).mono ?_
            rintro e w9 ⟨rfl, hf9⟩
            have hF9 := hF8.trans' hf9
            go_wp2_with fail
            refine (hC3 _ hF9).mono ?_
            rintro e w10 ⟨rfl, hf10⟩
            have hF10 := hF9.trans' hf10
            go_wp2_with fail
            refine (hC1 _ hF10).mono ?_
            rintro e w11 ⟨rfl, hf11⟩
            have hF11 := hF10.trans' hf11
            go_wp2_with fail
            refine (hI2 _ hF11).mono ?_
            rintro e w12 ⟨rfl, hf12⟩
            have hF12 := hF11.trans' hf12
            go_wp2_with fail
            refine (hI1 _ hF12).mono ?_
            rintro e w13 ⟨rfl, hf13⟩
            go_wp2
            go_ret
            exact ⟨rfl, hF3.trans' (hFr.trans' (hF12.trans' hf13))⟩
end Go.Proofs.Ytjkcclcjhidokaa
