/- The document's example of cuts, walked. -/
import Derived.Test.YtjkcclcjhidokaaC9
import Derived.Test.YtjkcclcjhidokaaBd09
namespace Go.Proofs.Ytjkcclcjhidokaa
open Go.RowKit
set_option maxHeartbeats 4000000

theorem rd_two {w : World} (x y : Int) (e : Nat) : Rd (w.alloc (.cells #[.int .i64 x, .int .i64 y] e)) (.slice (some ⟨w.heap.size, 0, none⟩) 2 2) 2 (ints [x, y]) :=
  ⟨_, 2, rfl, Nat.le_refl _, (fun h => by cases h), fun _ => ⟨w.heap.size, 0, #[.int .i64 x, .int .i64 y], e, (0, 0), rfl, heap_alloc_new w _, fun i hi => by simp [ints] at hi ⊢⟩⟩

set_option maxRecDepth 100000 in
theorem alive09_any (w : World) : Calls Try.prog 37 #[] w fun e w' => e = .returned (.bool true) ∧ Frm Non w w' := by
  obtain ⟨W1, hW1⟩ : ∃ W1, W1 = w.alloc (.cells #[.int .i64 1, .int .i64 2] 2) := ⟨_, rfl⟩
  have hF1 : Frm Non w W1 := by rw [hW1]; exact (Frm.refl w).alloc _
  have hnew := new_any [1, 2] _ W1 (by rw [hW1]; exact rd_two 1 2 2)
  go_enter Try.func37, Try.ntmps37
  go_wp2_with fail
  rw [← hW1]
  clear hW1
  refine hnew.mono ?_
  rintro e w1 ⟨hf1, ⟨hh, _⟩ | ⟨_, gb, S0, rfl, hG, hS0⟩⟩
  · exact absurd (show newE [1, 2] = 0 by decide) hh
  have hj := join_any hG 0 1 7
  rw [show (joinB ([1, 2] : List Int).length zeroB 0 1 7).1 = 0 from by decide] at hj
  unfold ptr at *
  go_wp2_with fail
  refine hj.mono ?_
  rintro e w2 ⟨rfl, S1, hG1, hT⟩
  obtain ⟨B, hB⟩ : ∃ B, B = (joinB ([1, 2] : List Int).length zeroB 0 1 7).2 := ⟨_, rfl⟩
  rw [← hB] at hG1
  have hf2 : Frm Non W1 w2 := hf1.trans (U := Non) hT.frm (fun _ x => x) (fun b hb => .inr (hS0 b hb))
  obtain ⟨W3, hW3⟩ : ∃ W3, W3 = w2.alloc (.cells #[.int .i64 0, .int .i64 1] 3) := ⟨_, rfl⟩
  have hf3 : Frm Non w2 W3 := by rw [hW3]; exact (Frm.refl w2).alloc _
  have hps : Rd W3 (.slice (some ⟨w2.heap.size, 0, none⟩) 2 2) 2 (ints [0, 1]) := by rw [hW3]; exact rd_two 0 1 3
  have hG3 := hG1.frm hf3 (fun _ _ x => x)
  have hwt := fun W (f : Frm Non W3 W) => weights_any (hG3.frm f (fun _ _ x => x)) [0, 1] _ (hps.frm f (fun _ _ x => x)) (by decide) 2 (by decide)
  have hcu := fun W (f : Frm Non W3 W) => cut_any (hG3.frm f (fun _ _ x => x)) [0, 1] _ (hps.frm f (fun _ _ x => x)) (by decide) 2 (by decide)
  have hr2 := fun W (f : Frm Non W3 W) => right_any (hG3.frm f (fun _ _ x => x)) [0, 1] _ (hps.frm f (fun _ _ x => x)) (by decide) 2
  have hr1 := fun W (f : Frm Non W3 W) => right_any (hG3.frm f (fun _ _ x => x)) [0, 1] _ (hps.frm f (fun _ _ x => x)) (by decide) 1
  have hga := fun W (f : Frm Non W3 W) => gain_any (hG3.frm f (fun _ _ x => x)) [0, 1] _ (hps.frm f (fun _ _ x => x)) (by decide) 2 0 1
  have hbo := fun W (f : Frm Non W3 W) => bound_any (hG3.frm f (fun _ _ x => x)) 2
  have hfi := fun W (f : Frm Non W3 W) => fits_any (hG3.frm f (fun _ _ x => x)) [0, 1] _ (hps.frm f (fun _ _ x => x)) (by decide) 2
  have hem := fun W (f : Frm Non W3 W) => lempty_any [0, 1] 4 9 _ W (hps.frm f (fun _ _ x => x)) (by decide) (by decide)
  have hwl : wtsB [1, 2] [0, 1] 2 = [1, 2] := by decide
  simp only [show ((2 : Int).toNat) = 2 from rfl, hwl, show cutB B [0, 1] = 7 from by rw [hB]; decide, show rightB ([1, 2] : List Int).length [0, 1] 2 = true from by decide, show rightB ([1, 2] : List Int).length [0, 1] 1 = false from by decide,
    show gainV ([1, 2] : List Int).length B [0, 1] 2 0 1 = 7 from by rw [hB]; decide, show (if (1 : Int) ≤ 2 ∧ (2 : Int) ≤ 4096 then boundI [1, 2] 2 else 0) = 4 from by decide, show fitsB ([1, 2] : List Int).length [1, 2] [0, 1] 2 = true from by decide, show emptyL [0, 1] 4 9 = [2, 3] from by decide] at hwt hcu hr2 hr1 hga hbo hfi hem
  clear hj hnew hwl
  unfold ptr at *
  go_wp2_with fail
  rw [← hW3]
  clear hW3
  refine (hwt _ (Frm.refl _)).mono ?_
  rintro e w4 ⟨v4, rfl, ho4, hf4, _⟩
  obtain ⟨g4, cc4, rfl, _, hx1, _⟩ := int_at (xs := [1, 2]) ho4 1 (by decide)
  have hx1 : w4.cell? ⟨g4, 1, none⟩ = some (.int .i64 2) := hx1
  go_wp2_with fail
  refine (hcu _ hf4).mono ?_
  rintro e w5 ⟨rfl, hf5⟩
  have hf35 := hf4.trans' hf5
  go_wp2_with fail
  refine (hr2 _ hf35).mono ?_
  rintro e w6 ⟨rfl, hf6⟩
  have hf36 := hf35.trans' hf6
  go_wp2_with fail
  refine (hr1 _ hf36).mono ?_
  rintro e w7 ⟨rfl, hf7⟩
  have hf37 := hf36.trans' hf7
  have hx7 := (hf5.trans' (hf6.trans' hf7)).cell hx1 (fun x => x)
  go_wp2_with fail
  refine (hga _ hf37).mono ?_
  rintro e w8 ⟨rfl, hf8⟩
  have hf38 := hf37.trans' hf8
  go_wp2_with fail
  refine (hbo _ hf38).mono ?_
  rintro e w9 ⟨rfl, rfl⟩
  go_wp2_with fail
  refine (hfi _ hf38).mono ?_
  rintro e w10 ⟨rfl, hf10⟩
  have hf310 := hf38.trans' hf10
  go_wp2_with fail
  refine (hem _ hf310).mono ?_
  rintro e w11 ⟨v11, rfl, hr11, hf11⟩
  obtain ⟨a11, c11, rfl, _, _, _⟩ := hr11
  go_wp2
  go_ret
  exact ⟨rfl, hF1.trans' (hf2.trans' (hf3.trans' (hf310.trans' hf11)))⟩
end Go.Proofs.Ytjkcclcjhidokaa
