/- The ranked map's iterators (ints to int64s). -/
import Derived.Test.YtjkcclcjhidokaaRk
import Derived.Test.YtjkcclcjhidokaaIter
namespace Go.Proofs.Ytjkcclcjhidokaa
open Go.RowKit
set_option maxHeartbeats 400000
attribute [local go_sem] Oper.semAt_some

def enc2 (e : Int × Int) : Array Value := #[.int .i64 e.1, .int .i64 e.2]

theorem run1_iter (es : List (Int × Int)) (Lb : Nat) (v : Value) (w0 : World) (hbox : w0.cell? ⟨Lb, 0, none⟩ = some v) (hRd : Rd w0 v es.length (flat2 es)) (hn : es.length ≤ 1000000) :
    Iter Try.prog 141 #[.pointer (some ⟨Lb, 0, none⟩)] enc2 (fun b => b = Lb ∨ v.ownBlock = some b) w0 es := by
  intro l I X w S hfr hOS hSlt hI hX hround h0
  obtain ⟨a, cap, rfl, hcap, hnil, hc⟩ := hRd
  have hc1 : CellsAt w a (flat2 es) := hc.frm hfr (fun p e h => h (.inr (by subst e; rfl)))
  have hb1 := hfr.cell hbox (by simp)
  refine callsIn_of_wp Try.func141 rfl trivial ?_; simp only [Try.ntmps141, List.size_toArray, List.length_cons, List.length_nil, Nat.reduceAdd, Nat.reduceSub, Array.replicate_succ, Array.replicate_zero, List.push_toArray, List.append_toArray, List.nil_append, List.cons_append]
  gi_wp2
  gi_loopw [7] (fun i wr => ∃ (k : Nat) (S' : Nat → Prop), k ≤ es.length ∧ i = .int .i64 k ∧ Turn S S' w wr ∧ I (es.take k) S' wr) (fun i _ => (es.length - intOf i).toNat)
  case atStart => exact ⟨0, S, Nat.zero_le _, rfl, Turn.refl hSlt, by simpa using h0⟩
  case round =>
    obtain ⟨k, S', hk, rfl, ht, hi⟩ := hrel
    by_cases hlt : k < es.length
    · obtain ⟨b, off, rfl, hk1, hk2⟩ := flat2_at (hc1.frm ht.frm (fun p e h => hOS p.block (.inr (by subst e; rfl)) h)) k hlt
      gi_wp2
      refine yield_step (hround (es.take k) es[k] S' _ (hI _ _ _ _ hi ((Frm.refl _).alloc _)) (take_snoc_prefix es k hlt) (fun b hb => by have := ht.lt b hb; simp; omega)) ?_
      rintro b w2 ⟨S2, ht2, hc2⟩
      have htt := (ht.trans ⟨(Frm.refl (S := S') wr).alloc _, fun _ h => .inl h, fun b hb => by have := ht.lt b hb; simp; omega⟩).trans ht2
      cases b
      · rw [if_neg (by simp)] at hc2
        gi_wp2
        refine bodyPost_ret (results_none rfl _ _ _) rfl ⟨rfl, S2, htt, .inr ⟨_, take_snoc_prefix es k hlt, hc2⟩⟩
      · rw [if_pos rfl, take_snoc es k hlt] at hc2
        gi_wp2
        exact ⟨⟨k + 1, S2, by omega, by go_num, htt, hc2⟩, by simp [intOf]; omega⟩
    · obtain rfl : k = es.length := by omega
      rw [List.take_length] at hi
      gi_wp2
      refine bodyPost_end (results_none rfl _ _ _) rfl ⟨rfl, S', ht, .inl hi⟩

theorem eclone_any (es : List (Int × Int)) (v : Value) (w : World) (h : Rd w v es.length (flat2 es)) (hn : es.length ≤ 1000000) :
    Calls Try.prog 140 #[v] w fun e w' => ∃ v', e = .returned v' ∧ Own w' 180 2 v' es.length (flat2 es) ∧ Frm Non w w' ∧ (∀ b, v'.ownBlock = some b → w.heap.size ≤ b) := by
  have h0 := h
  obtain ⟨a, cap, rfl, hcap, hnil, hc⟩ := h
  cases a with
  | none =>
    obtain rfl : cap = 0 := hnil rfl
    have he : es = [] := List.eq_nil_of_length_eq_zero (by omega)
    subst he
    clear h0 hc hnil hcap hn
    have ht := fun w => Lib.run_eql_slice_nil w 155 180 none 0 0 0 0 Try.underlying155
    simp at ht
    go_enter Try.func140, Try.ntmps140
    go_wp2
    go_ret
    exact ⟨_, rfl, own_nil _ _ _, Frm.refl _, fun b hb => by simp [Value.ownBlock] at hb⟩
  | some ad =>
    have ht := fun w => Lib.run_eql_slice_nil w 155 180 (some ad) es.length cap 0 0 Try.underlying155
    simp at ht
    have hF : Frm Non w (w.alloc (.cells #[] 180)) := (Frm.refl w).alloc _
    have h1 := h0.frm hF (fun _ _ x => x)
    have hown : Own (w.alloc (.cells #[] 180)) 180 2 (.slice (some ⟨w.heap.size, 0, none⟩) 0 0) 0 [] := World.ownsRow_lit w #[] 0 (Nat.zero_le _) (Nat.zero_le _) rfl
    go_enter Try.func140, Try.ntmps140
    go_wp2_with (at_builtin; refine wpList_app rfl (.tmp 5) (.tmp 6) T155 rfl hown rfl h1 rfl (by rw [flat2_length]; omega) (flat2_cell _) (by unfold maxLen; omega) (by omega) ?_; intro v' w' h2 h3 h4)
    go_ret
    refine ⟨_, rfl, by simpa using h2, hF.trans h3 (fun _ x => x) (fun b hb => .inr (by simp [Value.ownBlock] at hb; omega)), fun b hb => ?_⟩
    rcases h4 b hb with h5 | h5
    · simp [Value.ownBlock] at h5; omega
    · simp at h5; omega

/-- the entries of a map, as an iterator. -/
def EIt (w : World) (fv : Value) (O : Nat → Prop) (es : List (Int × Int)) : Prop := IterV Try.prog w fv enc2 O es

theorem run_any (es : List (Int × Int)) (v : Value) (w : World) (h : Rd w v es.length (flat2 es)) (hn : es.length ≤ 1000000) :
    Calls Try.prog 130 #[v] w fun e w' => ∃ fv O, e = .returned fv ∧ EIt w' fv O es ∧ Frm Non w w' ∧ (∀ b, O b → w.heap.size ≤ b) := by
  have hF : Frm Non w (w.alloc (.cells #[v] 155)) := (Frm.refl w).alloc _
  have h1 := h.frm hF (fun _ _ x => x)
  obtain ⟨a, cap, rfl, _, _, _⟩ := h
  go_enter Try.func130, Try.ntmps130
  go_wp2_with (go_at_call 140; refine (eclone_any es _ _ h1 hn).mono ?_; rintro e w' ⟨v', rfl, ho, hf1, hnew⟩; have hbx : w'.heap[w.heap.size]? = some (.cells #[.slice a es.length cap] 155 (0, 0)) := (hf1.block _ (by simp) (fun x => x)).trans (heap_alloc_new w _); obtain ⟨hc1, hc2⟩ := blk_cell1 hbx; obtain ⟨sa, sc, rfl, _, _, _⟩ := own_rd ho)
  go_ret
  have hb2 := set_one hbx (.slice sa es.length sc)
  have hlt := own_lt ho
  have hne : ∀ b, (Value.slice sa es.length sc).ownBlock = some b → b ≠ w.heap.size := fun b hb e => by have := hnew b hb; simp at this; omega
  have hsz : w.heap.size < w'.heap.size := by have := hf1.size; simp at this; omega
  refine ⟨_, fun b => b = w.heap.size ∨ (Value.slice sa es.length sc).ownBlock = some b, rfl, ⟨141, _, rfl, callFunc_enter Try.func141 (by kernel_rfl) (by kernel_rfl), run1_iter es _ _ _ (blk_cell1 hb2).1 ?_ hn, ?_⟩, ?_, ?_⟩
  · exact own_rd (own_frm (S := fun b => b = w.heap.size) ho ((Frm.refl w').setCell _ (.inl rfl)) (fun b hb e => hne b hb e))
  · rintro b (rfl | hb)
    · simpa [World.setCell] using hsz
    · simpa [World.setCell] using hlt b hb
  · exact (hF.trans' hf1).setCell _ (.inr (Nat.le_refl _))
  · rintro b (rfl | hb)
    · exact Nat.le_refl _
    · have := hnew b hb; simp at this; omega

theorem all_any (es : List (Int × Int)) (m : Nat) (v : Value) (w : World) (h : MapAt w m es v) (hn : es.length ≤ 1000000) :
    Calls Try.prog 118 #[ptr m] w fun e w' => ∃ fv O, e = .returned fv ∧ EIt w' fv O es ∧ Frm Non w w' ∧ (∀ b, O b → w.heap.size ≤ b) := by
  obtain ⟨hc, _⟩ := blk_cell1 h.blk
  have hrd := own_rd h.own
  unfold ptr
  go_enter Try.func118, Try.ntmps118
  go_wp2_with (go_at_call 130; refine (run_any es _ _ hrd hn).mono ?_; rintro e w' ⟨fv, O, rfl, h1, h2, h3⟩)
  go_ret
  exact ⟨fv, O, rfl, h1, h2, h3⟩
end Go.Proofs.Ytjkcclcjhidokaa
