/- CutBounds of all inputs: true; the input reads as it did. No condition. The bound, times the parts, is at least the whole weight; with more parts it is no greater, and never below the greatest weight; empty parts are those without weight. -/
import Derived.Test.YtjkcclcjhidokaaLb
import Derived.Test.YtjkcclcjhidokaaOp
import Derived.Test.YtjkcclcjhidokaaHd
namespace Go.Proofs.Ytjkcclcjhidokaa
open Go.ChangeShapes Go.WideShapes Go.ChangeAt Go.RowKit

set_option maxRecDepth 100000 in
theorem cutBounds_lifted (os : Os) (started : os.Started) (H : Type) (enc : TypeId × Value → H) :
    ReturnsInHanded {} Try.checked os 11 .any (Rows.cutBoundsSpec.pre6 enc Try.prog Try.f11 Rows.cutBoundsRow.domain false) (Rows.cutBoundsSpec.post enc Try.prog Try.f11 false true false false) := by
  refine returnsInHanded_of_change (C := Try.checked) Try.own started (by kernel_rfl) Try.func11
    (ChangeSpec.witness6 (enc := enc) (C := Try.checked) false ⟨#[], #[.slice none 0 0, .slice none 0 0, .slice none 0 0, .int .i64 0], []⟩ 8 (by kernel_rfl) (by kernel_rfl) (by kernel_rfl) (by kernel_rfl)) ?_
  intro W base args ds gs before hval0 hW hcnd _
  have hval : ∀ (j : Nat) t v, Try.f11.params[j]? = some t → args[j]? = some v → Value.okWide Try.prog W .any base t v := hval0
  have hW' := hW
  obtain ⟨p, q, hA0, hV, rfl, hfz, hnd⟩ := hW
  have hA : DataW.TrodAll enc Try.prog W 0 (fun _ => true) true Try.f11.params.toList args.toList ds p := hA0
  rw [Try.params11] at hA hval
  obtain ⟨v0, vs0, d0, ds0, p0, q0, ha0, rfl, rfl, h0, hA⟩ := trodAll_cons hA
  obtain ⟨v1, vs1, d1, ds1, p1, q1, rfl, rfl, rfl, h1, hA⟩ := trodAll_cons hA
  obtain ⟨v2, vs2, d2, ds2, p2, q2, rfl, rfl, rfl, h2, hA⟩ := trodAll_cons hA
  obtain ⟨v3, vs3, d3, ds3, p3, q3, rfl, rfl, rfl, h3, hA⟩ := trodAll_cons hA
  obtain ⟨rfl, rfl, rfl⟩ := trodAll_nil hA
  obtain rfl : args = #[v0, v1, v2, v3] := by cases args; simp_all
  obtain ⟨rfl, rfl⟩ := trodVars_none hV
  clear hval0 hA0
  obtain ⟨x0, r0, _⟩ := open_rd Try.underlying22 Try.underlying2 (by kernel_rfl) (hval 0 22 v0 rfl rfl) h0
  obtain ⟨x1, r1⟩ := open_ops Try.underlying63 Try.underlying127 (by kernel_rfl) ⟨rfl, Try.underlying3, by kernel_rfl⟩ ⟨rfl, Try.underlying3, by kernel_rfl⟩ ⟨rfl, Try.underlying2, by kernel_rfl⟩ (hval 1 63 v1 rfl rfl) h1
  obtain ⟨x2, r2, _⟩ := open_rd Try.underlying33 Try.underlying3 (by kernel_rfl) (hval 2 33 v2 rfl rfl) h2
  obtain ⟨x3, rfl, rfl, rfl, wd3⟩ := open_int Try.underlying3 (hval 3 3 v3 rfl rfl) h3
  refine (cutBounds_any x0 x1 x2 x3 v0 v1 v2 W r0 r1 r2).mono fun e W' ⟨he, hw⟩ => ?_
  subst he
  exact ⟨_, rfl, law_post Try.laidOut rfl (fun t ht => by rw [Try.params11] at ht; simp at ht; rcases ht with rfl | rfl | rfl | rfl <;> exact ⟨by kernel_rfl, of_decide_eq_true (by kernel_rfl)⟩) (by kernel_rfl) Try.underlying4 hW' rfl rfl rfl hw⟩
theorem cutBounds_closed : joinedFacts Try.pinned.checked.prog 11 Try.f11 Rows.cutBoundsSpec Rows.cutBoundsRow = true := by
  unfold joinedFacts
  rw [show Try.pinned.checked.prog.mayEnter = true from door_enter, show Try.pinned.checked.prog.liftsFinal = false from door_final, show Try.pinned.checked.prog.make = some .cut from door_make]
  kernel_rfl
theorem cutBounds_holds : Rows.CutBoundsSaid :=
  OpenClaim.holds_of_wide 11 Try.f11 rfl rfl rfl rfl rfl rfl rfl ⟨rfl, rfl, rfl, rfl, rfl⟩ rfl rfl rfl rfl rfl (by kernel_rfl) Try.func11 cutBounds_closed
    (of_decide_eq_true (by kernel_rfl)) (by unfold Func.isWrapper; first | (rw [if_pos (by decide +kernel)]; kernel_rfl) | (rw [if_neg (by decide +kernel)]; exact ⟨rfl, rfl⟩))
    (fun os started H enc _ => cutBounds_lifted os started H enc)
end Go.Proofs.Ytjkcclcjhidokaa
