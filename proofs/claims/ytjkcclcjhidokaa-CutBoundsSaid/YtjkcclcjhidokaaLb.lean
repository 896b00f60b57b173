/- CutBounds, walked: true of every input. -/
import Derived.Test.YtjkcclcjhidokaaP3
import Derived.Test.YtjkcclcjhidokaaL9
namespace Go.Proofs.Ytjkcclcjhidokaa
open Go.RowKit
set_option maxHeartbeats 4000000

theorem emptyL_all (ps : List Int) (K : Nat) (hK : K ≤ 1000) : emptyL ps K 1000 = emptyTo ps K := by
  unfold emptyL
  rw [if_neg (by omega)]
  have := emptyTo_len ps K
  exact List.take_of_length_le (by simp; omega)
set_option maxRecDepth 100000 in
theorem cutBounds_any (ws : List Int) (os : List (Int × Int × Int)) (ps : List Int) (k : Int) (v u x : Value) (w : World) (hv : Rd w v ws.length (ints ws)) (hu : Rd w u os.length (flat3 os)) (hx : Rd w x ps.length (ints ps)) :
    Calls Try.prog 11 #[v, u, x, .int .i64 k] w fun e w' => e = .returned (.bool true) ∧ Frm Non w w' := by
  have hv0 := hv
  have hu0 := hu
  have hx0 := hx
  obtain ⟨va, vc, rfl, _, _, hvc⟩ := hv
  obtain ⟨ua, uc, rfl, _, _, _⟩ := hu
  obtain ⟨xa, xc, rfl, _, _, _⟩ := hx
  have hal := alive09_any w
  have hbd := fun W (f : Frm Non w W) => build09_any ws os _ _ W (hv0.frm f (fun _ _ x => x)) (hu0.frm f (fun _ _ x => x))
  go_enter Try.func11, Try.ntmps11
  go_wp2_with fail
  refine hal.mono ?_
  rintro e w1 ⟨rfl, hf1⟩
  go_wp2_with fail
  refine (hbd _ hf1).mono ?_
  rintro e w2 ⟨hf2, ⟨hok, rfl⟩ | ⟨hok, gb, gx, S, X, rfl, hB⟩⟩
  · clear hal hbd
    go_wp2
    go_ret
    exact ⟨rfl, (hf1.trans' hf2).alloc _⟩
  have hG2 := hB.1
  obtain ⟨wv, Mv, rs, rfl, hXP⟩ := hB.2.1
  obtain ⟨wa, wc, rfl, _, _, _⟩ := own_rd hXP.wo
  obtain ⟨ma, mc, rfl, _, _, _⟩ := own_rd hXP.mo
  have hBo := hG2.2.1
  have hwb : ∀ y ∈ ws, 1 ≤ y ∧ y ≤ 1099511627776 := fun y hy => hG2.2.2.2 y hy
  have hwl : ws.length ≤ 30 := by
    unfold okB at hok; simp at hok; exact hok.1.1
  have hfa : Frm Non w2 (w2.alloc (.cells #[.slice wa ws.length wc, .slice ma rs.length mc] 28)) := (Frm.refl w2).alloc _
  have hG3 := hG2.frm hfa (fun _ _ x => x)
  have hF3 := (hf1.trans' hf2).trans' hfa
  have hx3 := hx0.frm hF3 (fun _ _ x => x)
  have hvc3 := hvc.frm hF3 (Off.non _)
  clear hal hbd hB hXP hok
  unfold ptr at *
  by_cases h0 : k < 1
  · go_wp2
    go_ret
    exact ⟨rfl, hF3⟩
  obtain ⟨K, rfl⟩ := Int.eq_ofNat_of_zero_le (show 0 ≤ k by omega)
  have h0' : decide ((K : Int) < 1) = false := by simpa using h0
  have h0'' : (1 : Int) ≤ K := by omega
  by_cases h2 : (60 : Int) < K
  · go_wp2
    go_ret
    exact ⟨rfl, hF3⟩
  have h2' : decide (60 < (K : Int)) = false := by simpa using h2
  have h2'' : (K : Int) ≤ 60 := by omega
  by_cases h1 : 60 < ps.length
  · go_wp2
    go_ret
    exact ⟨rfl, hF3⟩
  have h1' : decide ((60 : Int) < (ps.length : Int)) = false := by simp; omega
  have h1'' : ps.length ≤ 60 := by omega
  have hsum := sum_bd ws 1099511627776 (fun y hy => by have := hwb y hy; omega)
  have hu0 := up_ge0 ws.sum K hsum.1 h0''
  have hu1 := up_le ws.sum K hsum.1 h0''
  have hmx := maxW_bd ws 1099511627776 (by omega) (fun y hy => (hwb y hy).2)
  have hball := bound_all ws (fun y hy => by have := hwb y hy; omega) hsum.1 K h0''
  have hbmono := bound_mono ws (fun y hy => by have := hwb y hy; omega) K h0''
  have hbge : ∀ y ∈ ws, y ≤ boundI ws K := fun y hy => by have := maxW_ge ws y hy; unfold boundI; omega
  have hbd0 : 0 ≤ boundI ws K ∧ boundI ws K ≤ 34084860461056 := by unfold boundI; omega
  have hb0 := bound_any hG3 (K : Int)
  have hb1 := bound_any hG3 ((K : Int) + 1)
  have hb2 := bound_any hG3 0
  have hb3 := bound_any hG3 4097
  have hto := total_any hG3
  rw [if_pos ⟨by omega, by omega⟩] at hb0
  rw [if_pos ⟨by omega, by omega⟩] at hb1
  rw [if_neg (by omega)] at hb2
  rw [if_neg (by omega)] at hb3
  have hri := right_any hG3 ps _ hx3 (by omega) K
  clear hu0 hu1 hmx
  obtain ⟨bd, hbdE⟩ : ∃ bd, bd = boundI ws K := ⟨_, rfl⟩
  obtain ⟨bd1, hbd1E⟩ : ∃ bd1, bd1 = boundI ws (K + 1) := ⟨_, rfl⟩
  obtain ⟨sm, hsmE⟩ : ∃ sm, sm = ws.sum := ⟨_, rfl⟩
  rw [← hbdE] at hb0 hball hbmono hbge hbd0
  rw [← hbd1E] at hb1 hbmono
  rw [← hsmE] at hball hto
  clear hbdE hbd1E hsmE
  obtain ⟨d1, d2⟩ := hbd0
  have hm0 : 0 ≤ bd * (K : Int) := Int.mul_nonneg d1 (by omega)
  have hm1 : bd * (K : Int) ≤ 2045091627663360 := by
    have := Int.mul_le_mul d2 h2'' (by omega) (by omega : (0 : Int) ≤ 34084860461056)
    omega
  have hmw : IntKind.i64.wrap (bd * (K : Int)) = bd * (K : Int) := IntWalk.i64_in _ (by omega)
  have ht1 : decide (bd * (K : Int) < sm) = false := by simpa using hball
  have ht2 : decide (bd < bd1) = false := by simpa using hbmono
  have HG := Lib.hid hbge
  have HW := Lib.hid hwb
  clear hbge hwb hsum h0 h1 h2
  unfold ptr at *
  go_wp2_with first
    | (go_at_call 42; ((with_reducible refine hb0.mono ?_); rintro e w' ⟨rfl, rfl⟩))
    | (go_at_call 36; ((with_reducible refine hto.mono ?_); rintro e w' ⟨rfl, rfl⟩))
    | (go_at_call 42; ((with_reducible refine hb1.mono ?_); rintro e w' ⟨rfl, rfl⟩))
    | (go_at_call 42; ((with_reducible refine hb2.mono ?_); rintro e w' ⟨rfl, rfl⟩))
    | (go_at_call 42; ((with_reducible refine hb3.mono ?_); rintro e w' ⟨rfl, rfl⟩))
  go_loop [71] (fun i => ∃ m : Nat, m ≤ ws.length ∧ i = .int .i64 m) (fun i => (ws.length - intOf i).toNat)
  case atStart => exact ⟨0, Nat.zero_le _, rfl⟩
  case round =>
    obtain ⟨m, hm, rfl⟩ := hrel
    by_cases hlt : m < ws.length
    · obtain ⟨b, off, hve, p1⟩ := ints_at hvc3 m hlt
      subst hve
      have hle := HG.out ws[m] (List.getElem_mem hlt)
      have hle' : decide (bd < ws[m]) = false := by simpa using hle
      go_wp2
      go_round
      case rel => exact ⟨m + 1, by omega, by go_num⟩
      case measure => simp [intOf]; omega
    · obtain rfl : m = ws.length := by omega
      cases hr : rightB ws.length ps K with
      | false =>
        rw [hr] at hri
        go_wp2_with fail
        refine hri.mono ?_
        rintro e w4 ⟨rfl, hf4⟩
        go_wp2
        go_ret
        exact ⟨rfl, hF3.trans' hf4⟩
      | true =>
        rw [hr] at hri
        obtain ⟨r1, r2, r3, r4⟩ := rightB_iff hr
        have HR := Lib.hid hr
        have HL := Lib.hid r3
        clear hr r3 r4
        have hwt := fun W (f : Frm Non (w2.alloc (.cells #[.slice wa ws.length wc, .slice ma rs.length mc] 28)) W) => weights_any (hG3.frm f (fun _ _ x => x)) ps _ (hx3.frm f (fun _ _ x => x)) (by omega) K HR.out
        have hem := fun W (f : Frm Non (w2.alloc (.cells #[.slice wa ws.length wc, .slice ma rs.length mc] 28)) W) => lempty_any ps K 1000 _ W (hx3.frm f (fun _ _ x => x)) (by omega) (by omega)
        rw [emptyL_all ps K (by omega)] at hem
        have hz := zeros_empty (fun y hy => (HW.out y hy).1) HL.out K
        have HZ := Lib.hid hz
        have hwl2 : (wtsB ws ps K).length = K := wtsTo_length _ _ _ _
        have HWL := Lib.hid hwl2
        clear hz hwl2
        unfold ptr at *
        go_wp2_with fail
        refine hri.mono ?_
        rintro e w4 ⟨rfl, hf4⟩
        clear hri
        go_wp2_with fail
        refine (hwt _ hf4).mono ?_
        rintro e w5 ⟨v5, rfl, ho5, hf5, _⟩
        obtain ⟨a5, c5, rfl, _, _, hc5⟩ := own_rd ho5
        replace hc5 : CellsAt w5 a5 (ints (wtsB ws ps K)) := hc5
        clear hwt
        go_wp2
        go_loop [15, 89] (fun n i => ∃ m : Nat, m ≤ K ∧ i = .int .i64 m ∧ n = .int .i64 (zerosTo (wtsB ws ps K) m)) (fun _ i => (K - intOf i).toNat)
        case atStart => exact ⟨0, Nat.zero_le _, rfl, rfl⟩
        case round =>
          obtain ⟨m, hm, rfl, rfl⟩ := hrel
          have hzl := zeros_le (wtsB ws ps K) m
          by_cases hlt : m < K
          · have hlt5 : m < (wtsB ws ps K).length := by rw [HWL.out]; exact hlt
            obtain ⟨b5, o5, rfl, s5⟩ := ints_at hc5 m hlt5
            have HS := Lib.hid (zeros_snoc (wtsB ws ps K) m hlt5)
            by_cases hzz : (wtsB ws ps K)[m] = 0
            · have hzt : ((wtsB ws ps K)[m] == 0) = true := beq_iff_eq.2 hzz
              have HZZ := Lib.hid hzz
              clear hzz
              go_wp2
              go_round
              case rel => exact ⟨m + 1, by omega, by go_num, by rw [HS.out, if_pos HZZ.out]; go_num⟩
              case measure => simp [intOf]; omega
            · have hzt : ((wtsB ws ps K)[m] == 0) = false := beq_eq_false_iff_ne.2 hzz
              have HZZ := Lib.hid hzz
              clear hzz
              go_wp2
              go_round
              case rel => exact ⟨m + 1, by omega, by go_num, by rw [HS.out, if_neg HZZ.out]; go_num⟩
              case measure => simp [intOf]; omega
          · obtain rfl : m = K := by omega
            rw [HZ.out]
            go_wp2_with fail
            refine (hem _ (hf4.trans' hf5)).mono ?_
            rintro e w6 ⟨v6, rfl, ⟨a6, c6, rfl, _, _, _⟩, hf6⟩
            go_wp2
            go_ret
            exact ⟨rfl, hF3.trans' (hf4.trans' (hf5.trans' hf6))⟩
end Go.Proofs.Ytjkcclcjhidokaa
