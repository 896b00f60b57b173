/- The ranked map's iterator from a key on. -/
import Derived.Test.YtjkcclcjhidokaaRi
import Derived.Deep.RegionWith
namespace Go.Proofs.Ytjkcclcjhidokaa
open Go.RowKit
set_option maxHeartbeats 400000

theorem from_any (es : List (Int × Int)) (m : Nat) (v : Value) (t : Int) (w : World) (h : MapAt w m es v) (hs : Srt es) (hn : es.length ≤ 1000000) :
    Calls Try.prog 112 #[ptr m, .int .i64 t] w fun e w' => ∃ fv O, e = .returned fv ∧ EIt w' fv O (es.drop (lb es t)) ∧ Frm Non w w' ∧ (∀ b, O b → w.heap.size ≤ b) := by
  have hM : ∀ W, Frm Non w W → MapAt W m es v := fun W f => h.frm f (fun x => x) (fun _ _ x => x)
  have hC : ∀ W, Frm Non w W → W.cell? ⟨m, 0, none⟩ = some v := fun W f => (blk_cell1 (hM W f).blk).1
  have hlb := lb_le es t
  have hdl : (es.drop (lb es t)).length ≤ 1000000 := by rw [List.length_drop]; omega
  rcases h.own.2 with ⟨rfl, h0⟩ | ⟨g, cap, cur, rfl, _, hg, hcap, _, hcs, ht⟩
  · have he : es = [] := List.eq_nil_of_length_eq_zero h0
    subst he
    unfold ptr
    have hR : ∀ W, Frm Non w W → Rd W (.slice none 0 0) (([] : List (Int × Int)).drop (lb [] t)).length (flat2 (([] : List (Int × Int)).drop (lb [] t))) := fun W f => by simpa using own_rd (hM W f).own
    have c0 := hC _ ((Frm.refl w).drew)
    have hl0 : lb [] t = 0 := rfl
    clear h hlb h0
    go_enter Try.func112, Try.ntmps112
    go_wp2
    go_region_with (first | (go_at_call 131; refine (rank_any [] _ _ _ _ (hM _ ((Frm.refl _).drew)) hs hn).mono ?_; rintro e w' ⟨rfl, hf1⟩; have hf2 := (Frm.refl w).drew.trans' hf1; have c1 := hC _ hf2) | (go_at_call 130; refine (run_any _ _ _ (hR _ hf2) hdl).mono ?_; rintro e w' ⟨fv, O, rfl, h1, h2, h3⟩))
    all_goals (go_wp2; go_ret; exact ⟨fv, O, rfl, h1, hf2.trans' h2, fun b hb => Nat.le_trans hf2.size (h3 b hb)⟩)
  · have hrd : ∀ W, Frm Non w W → ∀ i, i < (es.length - lb es t) * 2 → W.heap[g]? = some (.cells cur 180 (0, 0)) ∧ cur[lb es t * 2 + i]? = (flat2 (es.drop (lb es t)))[i]? := fun W f i hi => by
      refine ⟨(f.block g (Array.getElem?_eq_some_iff.1 hg).1 (fun x => x)).trans hg, ?_⟩
      rw [flat2_drop, List.getElem?_drop, ← ht, List.getElem?_take, if_pos (by omega)]
      simp
    unfold ptr
    by_cases hc : cap = lb es t
    · have hdn : es.drop (lb es t) = [] := List.drop_eq_nil_of_le (by omega)
      have hR : ∀ W, Frm Non w W → Rd W (.slice (some ⟨g, 0, none⟩) 0 0) (es.drop (lb es t)).length (flat2 (es.drop (lb es t))) := fun W f => by
        rw [hdn]; exact ⟨_, 0, rfl, Nat.le_refl _, fun _ => rfl, fun h => absurd rfl h⟩
      have hlen : es.length = lb es t := by omega
      have c0 := hC _ ((Frm.refl w).drew)
      obtain ⟨L, hL⟩ : ∃ L, L = es.length := ⟨_, rfl⟩
      have hcL : cap = L := by omega
      have hlL : lb es t = L := by omega
      rw [hcL] at c0 hC hM
      rw [← hL] at c0 hC hM
      have HR : ∀ W, Frm Non w W → MapAt W m es (.slice (some ⟨g, 0, none⟩) L L) := hM
      clear h hlb hcs ht hrd hcap hdn hM hlen hc hcL
      have HX : Calls Try.prog 112 #[.pointer (some ⟨m, 0, none⟩), .int .i64 t] w fun e w' => ∃ fv O, e = .returned fv ∧ EIt w' fv O (es.drop (lb es t)) ∧ Frm Non w w' ∧ (∀ b, O b → w.heap.size ≤ b) := by
        go_enter Try.func112, Try.ntmps112
        go_wp2
        go_region_with (first | (go_at_call 131; refine (rank_any es _ _ _ _ (HR _ ((Frm.refl _).drew)) hs hn).mono ?_; rintro e w' ⟨rfl, hf1⟩; have hf2 := (Frm.refl w).drew.trans' hf1; have c1 := hC _ hf2) | (go_at_call 130; refine (run_any _ _ _ (hR _ hf2) hdl).mono ?_; rintro e w' ⟨fv, O, rfl, h1, h2, h3⟩))
        all_goals (go_wp2; go_ret; exact ⟨fv, O, rfl, h1, hf2.trans' h2, fun b hb => Nat.le_trans hf2.size (h3 b hb)⟩)
      exact HX
    · have hR : ∀ W, Frm Non w W → Rd W (.slice (some ⟨g, lb es t * 2, none⟩) (es.length - lb es t) (cap - lb es t)) (es.drop (lb es t)).length (flat2 (es.drop (lb es t))) := fun W f => by
        rw [List.length_drop]
        refine ⟨_, _, rfl, by omega, (fun h => by cases h), fun _ => ⟨g, lb es t * 2, cur, 180, (0, 0), rfl, ?_, fun i hi => ?_⟩⟩
        · exact (f.block g (Array.getElem?_eq_some_iff.1 hg).1 (fun x => x)).trans hg
        · rw [flat2_length, List.length_drop] at hi
          exact (hrd W f i (by omega)).2
      have c0 := hC _ ((Frm.refl w).drew)
      have hb : ¬ (cap = lb es t) := hc
      clear h hcs ht hrd
      go_enter Try.func112, Try.ntmps112
      go_wp2
      go_region_with (first | (go_at_call 131; refine (rank_any es _ _ _ _ (hM _ ((Frm.refl _).drew)) hs hn).mono ?_; rintro e w' ⟨rfl, hf1⟩; have hf2 := (Frm.refl w).drew.trans' hf1; have c1 := hC _ hf2) | (go_at_call 130; refine (run_any _ _ _ (hR _ hf2) hdl).mono ?_; rintro e w' ⟨fv, O, rfl, h1, h2, h3⟩))
      all_goals (go_wp2; go_ret; exact ⟨fv, O, rfl, h1, hf2.trans' h2, fun b hb => Nat.le_trans hf2.size (h3 b hb)⟩)
end Go.Proofs.Ytjkcclcjhidokaa
