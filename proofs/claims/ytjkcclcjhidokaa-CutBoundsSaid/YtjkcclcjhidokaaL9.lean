/- CutGains, walked: true of every input. -/
import Derived.Test.YtjkcclcjhidokaaP2
import Derived.Test.YtjkcclcjhidokaaCa
namespace Go.Proofs.Ytjkcclcjhidokaa
open Go.RowKit
set_option maxHeartbeats 4000000

theorem Rd.cells {w : World} {a : Option Addr} {n m c : Nat} {cs : List Value} (h : Rd w (.slice a m c) n cs) : CellsAt w a cs := by
  obtain ⟨a', c', h1, _, _, h2⟩ := h; cases h1; exact h2
theorem and_nat (i : Int) (n : Nat) (hn : n < 2 ^ 62) : ∃ m : Nat, bits .and .i64 i (n : Int) = (m : Int) ∧ m ≤ n := by
  refine ⟨(BitVec.ofInt 64 i &&& BitVec.ofInt 64 (n : Int)).toNat, ?_, ?_⟩
  · have hle : (BitVec.ofInt 64 i &&& BitVec.ofInt 64 (n : Int)).toNat ≤ n := by
      rw [BitVec.toNat_and, BitVec.ofInt_natCast (w := 64) n, BitVec.toNat_ofNat, Nat.mod_eq_of_lt (by omega)]
      exact Nat.and_le_right
    show IntKind.i64.wrap ((BitVec.ofInt 64 i &&& BitVec.ofInt 64 (n : Int)).toNat : Int) = _
    rw [IntKind.wrap_i64]
    omega
  · rw [BitVec.toNat_and, BitVec.ofInt_natCast (w := 64) n, BitVec.toNat_ofNat, Nat.mod_eq_of_lt (by omega)]
    exact Nat.and_le_right

set_option maxRecDepth 100000 in
theorem cutGains_any (ws : List Int) (os : List (Int × Int × Int)) (ps : List Int) (k i q : Int) (v u x : Value) (w : World) (hv : Rd w v ws.length (ints ws)) (hu : Rd w u os.length (flat3 os)) (hx : Rd w x ps.length (ints ps)) :
    Calls Try.prog 9 #[v, u, x, .int .i64 k, .int .i64 i, .int .i64 q] w fun e w' => e = .returned (.bool true) ∧ Frm Non w w' := by
  have hv0 := hv
  have hu0 := hu
  have hx0 := hx
  obtain ⟨va, vc, rfl, _, _, _⟩ := hv
  obtain ⟨ua, uc, rfl, _, _, _⟩ := hu
  obtain ⟨xa, xc, rfl, _, _, _⟩ := hx
  have hal := alive09_any w
  have hbd := fun W (f : Frm Non w W) => build09_any ws os _ _ W (hv0.frm f (fun _ _ x => x)) (hu0.frm f (fun _ _ x => x))
  go_enter Try.func9, Try.ntmps9
  go_wp2_with fail
  refine hal.mono ?_
  rintro e w1 ⟨rfl, hf1⟩
  go_wp2_with fail
  refine (hbd _ hf1).mono ?_
  rintro e w2 ⟨hf2, ⟨hok, rfl⟩ | ⟨hok, gb, gx, S, X, rfl, hB⟩⟩
  · clear hal hbd
    go_wp2
    go_ret
    exact ⟨rfl, (hf1.trans' hf2).alloc _⟩
  have hG2 := hB.1
  obtain ⟨wv, Mv, rs, rfl, hXP⟩ := hB.2.1
  obtain ⟨wa, wc, rfl, _, _, _⟩ := own_rd hXP.wo
  obtain ⟨ma, mc, rfl, _, _, _⟩ := own_rd hXP.mo
  have hBo := hG2.2.1
  have hwb : ∀ y ∈ ws, 0 ≤ y ∧ y ≤ 1099511627776 := fun y hy => by have := hG2.2.2.2 y hy; omega
  have hwl : ws.length ≤ 30 := by
    unfold okB at hok; simp at hok; exact hok.1.1
  have hfa : Frm Non w2 (w2.alloc (.cells #[.slice wa ws.length wc, .slice ma rs.length mc] 28)) := (Frm.refl w2).alloc _
  have hG3 := hG2.frm hfa (fun _ _ x => x)
  have hF3 := (hf1.trans' hf2).trans' hfa
  have hx3 := hx0.frm hF3 (fun _ _ x => x)
  clear hal hbd hB hXP hok
  unfold ptr at *
  by_cases h1 : 60 < ps.length
  · go_wp2
    go_ret
    exact ⟨rfl, hF3⟩
  have h1' : decide ((60 : Int) < (ps.length : Int)) = false := by simp; omega
  by_cases h2 : 60 < k
  · go_wp2
    go_ret
    exact ⟨rfl, hF3⟩
  have h2' : decide (60 < k) = false := by simpa using h2
  have hri := right_any hG3 ps _ hx3 (by omega) k
  cases hr : rightB ws.length ps k with
  | false =>
    rw [hr] at hri
    unfold ptr at *
    go_wp2_with fail
    refine hri.mono ?_
    rintro e w4 ⟨rfl, hf4⟩
    go_wp2
    go_ret
    exact ⟨rfl, hF3.trans' hf4⟩
  | true =>
    rw [hr] at hri
    obtain ⟨r1, r2, r3, r4⟩ := rightB_iff hr
    obtain ⟨K, rfl⟩ := Int.eq_ofNat_of_zero_le (show 0 ≤ k by omega)
    have hps : ps.length ≤ 1000 := by omega
    have HR := Lib.hid hr
    have HL := Lib.hid r3
    have H4 := Lib.hid r4
    have hWt := fun W (f : Frm Non (w2.alloc (.cells #[.slice wa ws.length wc, .slice ma rs.length mc] 28)) W) => weights_any (hG3.frm f (fun _ _ x => x)) ps _ (hx3.frm f (fun _ _ x => x)) (by omega) K HR.out
    have hTo := fun W (f : Frm Non (w2.alloc (.cells #[.slice wa ws.length wc, .slice ma rs.length mc] 28)) W) => total_any (hG3.frm f (fun _ _ x => x))
    have HWS := Lib.hid (wts_sum (n := ws.length) ws ps K r4 r3 rfl)
    have hwl2 : (wtsB ws ps K).length = K := wtsTo_length _ _ _ _
    have HWL := Lib.hid hwl2
    have hsum := sum_bd ws 1099511627776 hwb
    have hwbd : ∀ j, 0 ≤ ((wtsB ws ps K).take j).sum ∧ ((wtsB ws ps K).take j).sum ≤ 4503599627370496 * K ∧ ∀ hj : j < (wtsB ws ps K).length, 0 ≤ (wtsB ws ps K)[j] ∧ (wtsB ws ps K)[j] ≤ 4503599627370496 := by
      intro j
      have hall : ∀ y ∈ wtsB ws ps K, 0 ≤ y ∧ y ≤ 4503599627370496 := fun y hy => by
        unfold wtsB wtsTo at hy
        obtain ⟨q, _, rfl⟩ := List.mem_map.1 hy
        exact wt_bd hwb ps q _ (by omega)
      have h5 := sum_bd ((wtsB ws ps K).take j) 4503599627370496 (fun y hy => hall y (List.mem_of_mem_take hy))
      refine ⟨h5.1, ?_, fun hj => hall _ (List.getElem_mem hj)⟩
      have : ((wtsB ws ps K).take j).length ≤ K := by rw [List.length_take, hwl2]; omega
      omega
    have HB := Lib.hid hwbd
    clear hr r3 r4 hwl2 hwbd
    unfold ptr at *
    go_wp2_with fail
    refine hri.mono ?_
    rintro e w4 ⟨rfl, hf4⟩
    clear hri
    go_wp2_with fail
    refine (hWt _ hf4).mono ?_
    rintro e w5 ⟨v5, rfl, ho5, hf5, _⟩
    have ho5' : Own w5 2 1 v5 (wtsB ws ps K).length (ints (wtsB ws ps K)) := by rw [HWL.out]; exact ho5
    obtain ⟨wta, wtc, rfl, _, _, hwc⟩ := own_rd ho5
    clear hWt
    go_wp2
    go_loop [16, 54] (fun s j => ∃ m : Nat, m ≤ K ∧ j = .int .i64 m ∧ s = .int .i64 ((wtsB ws ps K).take m).sum) (fun _ j => (K - intOf j).toNat)
    case atStart => exact ⟨0, Nat.zero_le _, rfl, rfl⟩
    case round =>
      obtain ⟨m, hm, rfl, rfl⟩ := hrel
      by_cases hlt : m < K
      · have hlt' : m < (wtsB ws ps K).length := by rw [HWL.out]; exact hlt
        obtain ⟨b, off, rfl, p1⟩ := ints_at hwc m hlt'
        obtain ⟨b1, b2, b3⟩ := HB.out m
        obtain ⟨b4, b5⟩ := b3 hlt'
        have HS := Lib.hid (sum_snoc (wtsB ws ps K) m hlt')
        have hK60 : K ≤ 60 := by omega
        have b2' : ((wtsB ws ps K).take m).sum ≤ 270215977642229760 := by omega
        clear b2
        go_wp2
        go_round
        case rel => exact ⟨m + 1, by omega, by go_num, by rw [HS.out]⟩
        case measure => simp [intOf]; omega
      · obtain rfl : m = K := by omega
        have hse : ((wtsB ws ps m).take m).sum = ws.sum := by
          rw [List.take_of_length_le (by rw [HWL.out]; exact Nat.le_refl _)]; exact HWS.out
        have hne0 : (((wtsB ws ps m).take m).sum == ws.sum) = true := beq_iff_eq.2 hse
        have hmk := fun W => run_make0 T33 ps.length (by omega) W
        have hF5 := hf4.trans' hf5
        have hfz : Frm Non w5 (w5.alloc (.cells (zrow ps.length) 3)) := (Frm.refl w5).alloc _
        have hoz := own_zrow w5 3 ps.length (by omega)
        have hzl : (List.replicate ps.length (0 : Int)).length = ps.length := by simp
        have hrz : Rd (w5.alloc (.cells (zrow ps.length) 3)) (.slice (some ⟨w5.heap.size, 0, none⟩) ps.length ps.length) (List.replicate ps.length (0 : Int)).length (ints (List.replicate ps.length 0)) := by rw [hzl]; exact own_rd hoz
        have hFz := hF5.trans' hfz
        have hto := hTo _ hFz
        have hrz1 : rightB ws.length (List.replicate ps.length 0) 1 = true := by rw [HL.out]; exact right_zeros
        have hcz := cut_any (hG3.frm hFz (fun _ _ x => x)) (List.replicate ps.length 0) _ hrz (by rw [hzl]; exact hps) 1 hrz1
        rw [cut_zeros] at hcz
        have hfiz := fun W (f : Frm Non (w5.alloc (.cells (zrow ps.length) 3)) W) => fits_any (hG3.frm (hFz.trans' f) (fun _ _ x => x)) (List.replicate ps.length 0) _ (hrz.frm f (fun _ _ x => x)) (by rw [hzl]; omega) 1
        rw [show fitsB ws.length ws (List.replicate ps.length 0) 1 = true from by rw [HL.out]; exact fits_zeros ws (fun y hy => (hwb y hy).1)] at hfiz
        have hcu := fun W (f : Frm Non (w2.alloc (.cells #[.slice wa ws.length wc, .slice ma rs.length mc] 28)) W) => cut_any (hG3.frm f (fun _ _ x => x)) ps _ (hx3.frm f (fun _ _ x => x)) hps m HR.out
        have hcp := cut_ge hBo ps
        have hnn : decide (cutB (buildB ws.length os) ps < 0) = false := by simp; exact hcp
        have HSE := Lib.hid hse
        clear hse hzl hrz1 hTo
        unfold ptr at *
        go_wp2_with fail
        refine hto.mono ?_
        rintro e w6 ⟨rfl, rfl⟩
        go_wp2_with fail
        refine hcz.mono ?_
        rintro e w7 ⟨rfl, hf7⟩
        go_wp2_with fail
        refine (hfiz _ hf7).mono ?_
        rintro e w8 ⟨rfl, hf8⟩
        clear hcz hfiz hto
        have hF8 := hFz.trans' (hf7.trans' hf8)
        go_wp2_with fail
        refine (hcu _ hF8).mono ?_
        rintro e w9 ⟨rfl, hf9⟩
        have hF9 := hF8.trans' hf9
        by_cases hp0 : ps.length = 0
        · have hp0' : ((ps.length : Int) == 0) = true := beq_iff_eq.2 (by omega)
          clear hp0
          go_wp2
          go_ret
          exact ⟨rfl, hF3.trans' hF9⟩
        · have hp0' : ((ps.length : Int) == 0) = false := beq_eq_false_iff_ne.2 (by omega)
          have hpl : 0 < ps.length := by omega
          clear hp0
          obtain ⟨m1, hm1, _⟩ := and_nat i 255 (by decide)
          obtain ⟨m2, hm2, _⟩ := and_nat q 255 (by decide)
          obtain ⟨A, hA⟩ : ∃ A, A = m1 % ps.length := ⟨_, rfl⟩
          obtain ⟨C, hC⟩ : ∃ C, C = m2 % m := ⟨_, rfl⟩
          have hA1 : (m1 : Int) % (ps.length : Int) = (A : Int) := by rw [hA]; simp
          have hC1 : (m2 : Int) % (m : Int) = (C : Int) := by rw [hC]; simp
          have hAl : A < ps.length := by rw [hA]; exact Nat.mod_lt _ hpl
          have hCl : C < m := by rw [hC]; exact Nat.mod_lt _ (by omega)
          have hmz : ((m : Int) == 0) = false := beq_eq_false_iff_ne.2 (by omega)
          clear hA hC
          have hm1' : bits .and .i64 i 255 = (m1 : Int) := hm1
          have hm2' : bits .and .i64 q 255 = (m2 : Int) := hm2
          clear hm1 hm2
          go_wp2
          go_region
          rw [hA1, hC1]
          have hx9 := hx3.frm hF9 (fun _ _ x => x)
          have hf9d : Frm Non w9 (w9.drew.alloc (.cells #[] 3)) := (Frm.refl w9).drew.alloc _
          have hxd := hx9.frm hf9d (fun _ _ x => x)
          have hown : Own (w9.drew.alloc (.cells #[] 3)) 3 1 (.slice (some ⟨w9.heap.size, 0, none⟩) 0 0) 0 [] := World.ownsRow_lit w9.drew #[] 0 (Nat.zero_le _) (Nat.zero_le _) rfl
          clear hcu hfz hrz hoz hmk
          go_wp2_with (at_builtin; refine wpList_app rfl (.tmp 100) (.tmp 101) T33 rfl hown rfl hxd rfl (by rw [ints_length]; omega) (ints_cell _) (by unfold maxLen; omega) (by omega) ?_; intro v' w10 h2 h3 h4; rw [Nat.zero_add, List.nil_append] at h2; obtain ⟨g, c, rfl, hgc, hcx, hcf⟩ := int_at h2 A hAl)
          have hg9 : w9.heap.size ≤ g := by
            rcases h4 g rfl with h5 | h5
            · simp [Value.ownBlock] at h5; omega
            · simp at h5; omega
          have hos := own_set h2 A (C : Int)
          obtain ⟨W11, hW11⟩ : ∃ W11, W11 = w10.setCell ⟨g, A, none⟩ (.int .i64 (C : Int)) := ⟨_, rfl⟩
          have hf911 : Frm Non w9 W11 := by
            rw [hW11]
            refine Frm.setCell (hf9d.trans (U := Non) h3 (fun _ x => x) (fun b hb => .inr (by simp [Value.ownBlock] at hb; omega))) _ ?_
            exact .inr hg9
          rw [← hW11] at hos
          rw [← hW11]
          clear hW11
          have hF11 := hF9.trans' hf911
          have hml : (ps.set A (C : Int)).length = ps.length := List.length_set
          have hrm : Rd W11 (.slice (some ⟨g, 0, none⟩) ps.length c) (ps.set A (C : Int)).length (ints (ps.set A (C : Int))) := by rw [hml]; exact own_rd hos
          have hgn := gain_any (hG3.frm hF11 (fun _ _ x => x)) ps _ (hx3.frm hF11 (fun _ _ x => x)) hps m A C
          have hrr : rightB ws.length (ps.set A (C : Int)) m = true := right_set A C HR.out (by omega) (by omega)
          have hcu1 := fun W (f : Frm Non W11 W) => cut_any (hG3.frm (hF11.trans' f) (fun _ _ x => x)) ps _ (hx3.frm (hF11.trans' f) (fun _ _ x => x)) hps m HR.out
          have hcu2 := fun W (f : Frm Non W11 W) => cut_any (hG3.frm (hF11.trans' f) (fun _ _ x => x)) (ps.set A (C : Int)) _ (hrm.frm f (fun _ _ x => x)) (by rw [hml]; exact hps) m hrr
          have hgb := fun W (f : Frm Non W11 W) => gain_any (hG3.frm (hF11.trans' f) (fun _ _ x => x)) (ps.set A (C : Int)) _ (hrm.frm f (fun _ _ x => x)) (by rw [hml]; exact hps) m A ps[A]
          have hgv := gainV_cut hBo ps m A C HR.out hAl (by omega) (by omega)
          have hbk := gainV_back hBo ps m A C HR.out hAl (by omega) (by omega)
          rw [pt_get ps A hAl] at hbk
          rw [hbk] at hgb
          have hd1 := cut_bd2 hBo ps ps.length hps hps
          have hd2 := cut_bd2 hBo (ps.set A (C : Int)) (ps.set A (C : Int)).length (by rw [hml]; exact hps) (by rw [hml]; exact hps)
          have hd1' : 0 ≤ cutB (buildB ws.length os) ps ∧ cutB (buildB ws.length os) ps ≤ 1099511627776000000 := hd1
          have hd2' : 0 ≤ cutB (buildB ws.length os) (ps.set A (C : Int)) ∧ cutB (buildB ws.length os) (ps.set A (C : Int)) ≤ 1099511627776000000 := hd2
          obtain ⟨d1, d2⟩ := hd1'
          obtain ⟨d3, d4⟩ := hd2'
          obtain ⟨gv, hgve⟩ : ∃ gv, gv = gainV ws.length (buildB ws.length os) ps m A C := ⟨_, rfl⟩
          rw [← hgve] at hgn hgv hgb
          have hge : (cutB (buildB ws.length os) ps - cutB (buildB ws.length os) (ps.set A (C : Int)) == gv) = true := beq_iff_eq.2 hgv
          have hgl : -1099511627776000000 ≤ gv ∧ gv ≤ 1099511627776000000 := by omega
          obtain ⟨gl1, gl2⟩ := hgl
          have HGV := Lib.hid hgv
          clear hd1 hd2 hbk hgve hgv hml hrr
          unfold ptr at *
          go_wp2_with fail
          refine hgn.mono ?_
          rintro e w12 ⟨rfl, hf12⟩
          go_wp2_with fail
          refine (hcu1 _ hf12).mono ?_
          rintro e w13 ⟨rfl, hf13⟩
          have hf1113 := hf12.trans' hf13
          go_wp2_with fail
          refine (hcu2 _ hf1113).mono ?_
          rintro e w14 ⟨rfl, hf14⟩
          have hf1114 := hf1113.trans' hf14
          obtain ⟨pb, po, hpe, hpc⟩ := ints_at ((hx3.frm (hF11.trans' hf1114) (fun _ _ x => x)).cells) A hAl
          subst hpe
          clear hcu1 hcu2 hgn
          go_wp2_with fail
          refine (hgb _ hf1114).mono ?_
          rintro e w15 ⟨rfl, hf15⟩
          go_wp2
          go_ret
          exact ⟨rfl, hF3.trans' (hF11.trans' (hf1114.trans' hf15))⟩
end Go.Proofs.Ytjkcclcjhidokaa
