/- A new graph, walked. -/
import Derived.Test.YtjkcclcjhidokaaGj
namespace Go.Proofs.Ytjkcclcjhidokaa
open Go.RowKit
set_option maxHeartbeats 400000

theorem clone64_any (xs : List Int) (v : Value) (w : World) (h : Rd w v xs.length (ints xs)) (hn : xs.length ≤ 1000000) :
    Calls Try.prog 101 #[v] w fun e w' => ∃ v', e = .returned v' ∧ Own w' 2 1 v' xs.length (ints xs) ∧ Frm Non w w' ∧ (∀ b, v'.ownBlock = some b → w.heap.size ≤ b) := by
  have h0 := h
  obtain ⟨a, cap, rfl, hcap, hnil, hc⟩ := h
  cases a with
  | none =>
    obtain rfl : cap = 0 := hnil rfl
    have he : xs = [] := List.eq_nil_of_length_eq_zero (by omega)
    subst he
    clear h0 hc hnil hcap hn
    have ht := fun w => Lib.run_eql_slice_nil w 22 2 none 0 0 0 0 Try.underlying22
    simp at ht
    go_enter Try.func101, Try.ntmps101
    go_wp2
    go_ret
    exact ⟨_, rfl, own_nil _ _ _, Frm.refl _, fun b hb => by simp [Value.ownBlock] at hb⟩
  | some ad =>
    have ht := fun w => Lib.run_eql_slice_nil w 22 2 (some ad) xs.length cap 0 0 Try.underlying22
    simp at ht
    have hF : Frm Non w (w.alloc (.cells #[] 2)) := (Frm.refl w).alloc _
    have h1 := h0.frm hF (fun _ _ x => x)
    have hown : Own (w.alloc (.cells #[] 2)) 2 1 (.slice (some ⟨w.heap.size, 0, none⟩) 0 0) 0 [] := World.ownsRow_lit w #[] 0 (Nat.zero_le _) (Nat.zero_le _) rfl
    go_enter Try.func101, Try.ntmps101
    go_wp2_with (at_builtin; refine wpList_app rfl (.tmp 5) (.tmp 6) T22 rfl hown rfl h1 rfl (by rw [ints_length]; omega) (ints_cell _) (by unfold maxLen; omega) (by omega) ?_; intro v' w' h2 h3 h4)
    go_ret
    refine ⟨_, rfl, by simpa using h2, hF.trans h3 (fun _ x => x) (fun b hb => .inr (by simp [Value.ownBlock] at hb; omega)), fun b hb => ?_⟩
    rcases h4 b hb with h5 | h5
    · simp [Value.ownBlock] at h5; omega
    · simp at h5; omega
theorem cloneI_any (xs : List Int) (v : Value) (w : World) (h : Rd w v xs.length (ints xs)) (hn : xs.length ≤ 1000000) :
    Calls Try.prog 74 #[v] w fun e w' => ∃ v', e = .returned v' ∧ Own w' 3 1 v' xs.length (ints xs) ∧ Frm Non w w' ∧ (∀ b, v'.ownBlock = some b → w.heap.size ≤ b) := by
  have h0 := h
  obtain ⟨a, cap, rfl, hcap, hnil, hc⟩ := h
  cases a with
  | none =>
    obtain rfl : cap = 0 := hnil rfl
    have he : xs = [] := List.eq_nil_of_length_eq_zero (by omega)
    subst he
    clear h0 hc hnil hcap hn
    have ht := fun w => Lib.run_eql_slice_nil w 33 3 none 0 0 0 0 Try.underlying33
    simp at ht
    go_enter Try.func74, Try.ntmps74
    go_wp2
    go_ret
    exact ⟨_, rfl, own_nil _ _ _, Frm.refl _, fun b hb => by simp [Value.ownBlock] at hb⟩
  | some ad =>
    have ht := fun w => Lib.run_eql_slice_nil w 33 3 (some ad) xs.length cap 0 0 Try.underlying33
    simp at ht
    have hF : Frm Non w (w.alloc (.cells #[] 3)) := (Frm.refl w).alloc _
    have h1 := h0.frm hF (fun _ _ x => x)
    have hown : Own (w.alloc (.cells #[] 3)) 3 1 (.slice (some ⟨w.heap.size, 0, none⟩) 0 0) 0 [] := World.ownsRow_lit w #[] 0 (Nat.zero_le _) (Nat.zero_le _) rfl
    go_enter Try.func74, Try.ntmps74
    go_wp2_with (at_builtin; refine wpList_app rfl (.tmp 5) (.tmp 6) T33 rfl hown rfl h1 rfl (by rw [ints_length]; omega) (ints_cell _) (by unfold maxLen; omega) (by omega) ?_; intro v' w' h2 h3 h4)
    go_ret
    refine ⟨_, rfl, by simpa using h2, hF.trans h3 (fun _ x => x) (fun b hb => .inr (by simp [Value.ownBlock] at hb; omega)), fun b hb => ?_⟩
    rcases h4 b hb with h5 | h5
    · simp [Value.ownBlock] at h5; omega
    · simp at h5; omega

theorem set_two {w : World} {m : Nat} {v u : Value} {t : Nat} (h : w.heap[m]? = some (.cells #[v, u] t (0, 0))) (x : Value) : (w.setCell ⟨m, 1, none⟩ x).heap[m]? = some (.cells #[v, x] t (0, 0)) := by
  obtain ⟨hlt, hv⟩ := Array.getElem?_eq_some_iff.1 h
  simp only [World.setCell]
  rw [Array.getElem?_eq_getElem (by simpa using hlt), Array.getElem_modify_self, hv]
  simp

/-- one thing more. -/
theorem GP.snoc {w w3 : World} {gb : Nat} {ws : List Int} {adj : List (List (Int × Int))} {wv nv nv' : Value} {ms : List Nat} {vs : List Value} {S : Nat → Prop} (h : GP w gb ws adj wv nv ms vs S)
    (f : Frm (fun b => nv.ownBlock = some b) ((w.alloc (.cells #[.slice none 0 0] 157)).alloc (.cells #[ptr w.heap.size] 152)) w3)
    (ho : Own w3 152 1 nv' (ms.length + 1) (ms.map ptr ++ [ptr w.heap.size])) (_hnew : ∀ b, nv'.ownBlock = some b → nv.ownBlock = some b ∨ w.heap.size + 2 ≤ b) :
    GP (w3.setCell ⟨gb, 1, none⟩ nv') gb ws (adj ++ [[]]) wv nv' (ms ++ [w.heap.size]) (vs ++ [.slice none 0 0]) (fun b => S b ∨ b = w.heap.size ∨ nv'.ownBlock = some b) := by
  have hF : Frm Non w ((w.alloc (.cells #[.slice none 0 0] 157)).alloc (.cells #[ptr w.heap.size] 152)) := ((Frm.refl w).alloc _).alloc _
  have h2 := h.frm hF (fun _ _ x => x)
  have hgn : nv.ownBlock ≠ some gb := own_ne h.no h.blk (by decide)
  have hz := f.size
  simp at hz
  have hgb3 : w3.heap[gb]? = some (.cells #[wv, nv] 124 (0, 0)) := (f.block gb (h2.lt _ h2.sg) hgn).trans h2.blk
  have hmb : ((w.alloc (.cells #[.slice none 0 0] 157)).alloc (.cells #[ptr w.heap.size] 152)).heap[w.heap.size]? = some (.cells #[.slice none 0 0] 157 (0, 0)) :=
    (Below.heap_alloc _ _ _ (by simp)).trans (heap_alloc_new w _)
  have hmb3 : w3.heap[w.heap.size]? = some (.cells #[.slice none 0 0] 157 (0, 0)) := (f.block _ (by simp; omega) (fun e => by have := h.lt _ (h.sn _ e); omega)).trans hmb
  have hf4 : Frm (fun b => b = gb) w3 (w3.setCell ⟨gb, 1, none⟩ nv') := (Frm.refl w3).setCell _ (.inl rfl)
  have hgne : nv'.ownBlock ≠ some gb := own_ne ho hgb3 (by decide)
  have keep : ∀ b, b ≠ gb → nv.ownBlock ≠ some b → b < w.heap.size + 2 → (w3.setCell ⟨gb, 1, none⟩ nv').heap[b]? = ((w.alloc (.cells #[.slice none 0 0] 157)).alloc (.cells #[ptr w.heap.size] 152)).heap[b]? := fun b h1 h3 h4 =>
    (hf4.block b (by omega) h1).trans (f.block b (by simp; omega) h3)
  have hfull : Frm (fun b => nv.ownBlock = some b ∨ b = gb) ((w.alloc (.cells #[.slice none 0 0] 157)).alloc (.cells #[ptr w.heap.size] 152)) (w3.setCell ⟨gb, 1, none⟩ nv') :=
    f.trans hf4 (fun _ x => .inl x) (fun _ x => .inl (.inr x))
  refine ⟨set_two hgb3 nv', ?_, ?_, by simp [h.lv], by simp [h.la], ?_, ?_, ?_, .inl h.sg, fun b hb => .inl (h.sw b hb), fun b hb => .inr (.inr hb), ?_, ?_, ?_⟩
  · exact own_frm h2.wo hfull (fun b hb hx => by
      rcases hx with hx | rfl
      · exact own_own h2.wo h2.no (by decide) hb hx
      · exact own_ne h2.wo h2.blk (by decide) hb)
  · have := own_frm ho hf4 (fun b hb e => hgne (e ▸ hb))
    simpa using this
  · intro i m v es h1 h3 h4
    rw [List.getElem?_append] at h1 h3 h4
    by_cases hi : i < ms.length
    · rw [if_pos hi] at h1
      rw [if_pos (by rw [h.lv]; exact hi)] at h3
      rw [if_pos (by rw [h.la]; exact hi)] at h4
      have hm := h2.maps i m v es h1 h3 h4
      exact hm.frm hfull (fun hx => by
        rcases hx with hx | rfl
        · exact own_ne h2.no hm.blk (by decide) hx
        · have := blk_type h2.blk hm.blk; simp at this) (fun b hb hx => by
        rcases hx with hx | rfl
        · exact own_own hm.own h2.no (by decide) hb hx
        · exact own_ne hm.own h2.blk (by decide) hb)
    · rw [if_neg hi] at h1
      rw [if_neg (by rw [h.lv]; exact hi)] at h3
      rw [if_neg (by rw [h.la]; exact hi)] at h4
      obtain ⟨h5, rfl⟩ := List.getElem?_eq_some_iff.1 h1
      obtain ⟨h6, rfl⟩ := List.getElem?_eq_some_iff.1 h3
      obtain ⟨h7, rfl⟩ := List.getElem?_eq_some_iff.1 h4
      simp only [List.getElem_singleton]
      refine ⟨(hf4.block _ (by omega) (fun e => ?_)).trans hmb3, own_nil _ _ _⟩
      have := h.lt _ h.sg; omega
  · intro i j m h1 h3
    rw [List.getElem?_append] at h1 h3
    have hlt : ∀ i', ms[i']? = some m → m < w.heap.size := fun i' h => h2.sm m (List.mem_of_getElem? h) |> fun x => by have := h2.sm m (List.mem_of_getElem? h); exact ‹GP w _ _ _ _ _ _ _ _›.lt m this
    have last : ∀ i', ¬ i' < ms.length → ([w.heap.size] : List Nat)[i' - ms.length]? = some m → i' = ms.length ∧ m = w.heap.size := fun i' h8 h9 => by
      obtain ⟨h5, rfl⟩ := List.getElem?_eq_some_iff.1 h9
      simp at h5
      exact ⟨by omega, by simp⟩
    split at h1 <;> split at h3
    · exact h.nd i j m h1 h3
    · have := hlt i h1; have := last j (by assumption) h3; omega
    · have := hlt j h3; have := last i (by assumption) h1; omega
    · have := last i (by assumption) h1; have := last j (by assumption) h3; omega
  · intro i j v u b h1 h3 h4 h5
    rw [List.getElem?_append] at h1 h3
    have last : ∀ i' u', ([Value.slice none 0 0] : List Value)[i' - vs.length]? = some u' → u'.ownBlock = some b → False := fun i' u' h9 h10 => by
      obtain ⟨h6, rfl⟩ := List.getElem?_eq_some_iff.1 h9
      simp [Value.ownBlock] at h10
    split at h1 <;> split at h3
    · exact h.ndv i j v u b h1 h3 h4 h5
    · exact (last _ _ h3 h5).elim
    · exact (last _ _ h1 h4).elim
    · exact (last _ _ h3 h5).elim
  · intro m hm
    rcases List.mem_append.1 hm with hm | hm
    · exact .inl (h.sm m hm)
    · exact .inr (.inl (by simpa using hm))
  · intro v hv b hb
    rcases List.mem_append.1 hv with hv | hv
    · exact .inl (h.sv v hv b hb)
    · simp at hv; subst hv; simp [Value.ownBlock] at hb
  · have hz4 : (w3.setCell ⟨gb, 1, none⟩ nv').heap.size = w3.heap.size := by simp [World.setCell]
    rintro b (hb | rfl | hb)
    · have := h.lt b hb; omega
    · omega
    · rw [hz4]; exact own_lt ho b hb

/-- no weight is out of its bounds. -/
def allMay (ws : List Int) : Bool := ws.all mayB
theorem allMay_at {ws : List Int} {k : Nat} (hk : k < ws.length) (h : mayB ws[k] = false) : allMay ws = false := by
  unfold allMay
  rw [List.all_eq_false]
  exact ⟨_, List.getElem_mem hk, by simp [h]⟩
theorem allMay_of {ws : List Int} (h : ∀ i (hi : i < ws.length), mayB ws[i] = true) : allMay ws = true := by
  unfold allMay
  rw [List.all_eq_true]
  intro x hx
  obtain ⟨i, hi, rfl⟩ := List.getElem_of_mem hx
  exact h i hi
def newE (ws : List Int) : Int := if ws.length > 4096 then 3 else if allMay ws then 0 else 23
def zeroB : Nat → Nat → Int := fun _ _ => 0
theorem adj_zero (n : Nat) : adjOf zeroB n = List.replicate n [] := by
  apply List.ext_getElem?
  intro i
  simp only [adjOf, List.getElem?_map, List.getElem?_replicate]
  by_cases h : i < n
  · simp [h, row, zeroB]
  · simp [h]

theorem new_any (ws : List Int) (v : Value) (w : World) (h : Rd w v ws.length (ints ws)) :
    Calls Try.prog 64 #[v] w fun e w' => Frm Non w w' ∧ ((newE ws ≠ 0 ∧ e = .returned (.tuple #[.pointer none, .int .i64 (newE ws)])) ∨
      (newE ws = 0 ∧ ∃ gb S, e = .returned (.tuple #[ptr gb, .int .i64 0]) ∧ GAt w' gb ws zeroB S ∧ ∀ b, S b → w.heap.size ≤ b)) := by
  have h0 := h
  obtain ⟨a, cap, rfl, hcap, hnil, hc⟩ := h
  by_cases hn : 4096 < ws.length
  · have hE : newE ws = 3 := if_pos hn
    rw [hE]
    clear hE
    go_enter Try.func64, Try.ntmps64
    go_wp2
    go_ret2
    exact ⟨Frm.refl _, .inl ⟨by decide, rfl⟩⟩
  · have hcl := fun w' => clone64_any ws (.slice a ws.length cap) w' 
    go_enter Try.func64, Try.ntmps64
    go_wp2_with fail
    refine (hcl _ h0 (by omega)).mono ?_
    rintro e w1 ⟨wv, rfl, ho, hf1, hnew⟩
    clear hcl
    obtain ⟨wa, wc, hwv, _, _, _⟩ := own_rd ho
    subst hwv
    have hz1 := hf1.size
    have hst : GP (w1.alloc (.cells #[.slice wa ws.length wc, .slice none 0 0] 124)) w1.heap.size ws [] (.slice wa ws.length wc) (.slice none 0 0) [] [] (fun b => b = w1.heap.size ∨ (Value.slice wa ws.length wc).ownBlock = some b) :=
      ⟨heap_alloc_new w1 _, own_alloc ho _, own_nil _ _ _, rfl, rfl, fun i m v es h1 => by simp at h1, fun i j m h1 => by simp at h1, fun i j v u b h1 => by simp at h1, .inl rfl, fun b hb => .inr hb, fun b hb => by simp [Value.ownBlock] at hb,
        fun m hm => by simp at hm, fun v hv => by simp at hv, fun b hb => by
          rcases hb with rfl | hb
          · simp
          · have := own_lt ho b hb; simp; omega⟩
    have hF1 : Frm Non w (w1.alloc (.cells #[.slice wa ws.length wc, .slice none 0 0] 124)) := hf1.alloc _
    go_wp2_with fail
    go_loopw [16] (fun i wr => ∃ (k : Nat) (nv : Value) (ms : List Nat) (vs : List Value) (S : Nat → Prop), k ≤ ws.length ∧ i = .int .i64 k ∧ (∀ j (hj : j < ws.length), j < k → mayB ws[j] = true) ∧ ms.length = k ∧
      GP wr w1.heap.size ws (List.replicate k []) (.slice wa ws.length wc) nv ms vs S ∧ (∀ b, S b → w.heap.size ≤ b) ∧ Frm Non w wr) (fun i _ => (ws.length - intOf i).toNat)
    case atStart => exact ⟨0, _, _, _, _, Nat.zero_le _, rfl, fun j _ h => by omega, rfl, hst, fun b hb => by
      rcases hb with rfl | hb
      · exact hz1
      · exact hnew b hb, hF1⟩
    case round =>
      clear hst hF1
      obtain ⟨k, nv, ms, vs, S, hk, rfl, hmay, rfl, hg, hS, hF⟩ := hrel
      by_cases hlt : ms.length < ws.length
      · obtain ⟨b, off, rfl, hc1⟩ := ints_at (hc.frm hF (Off.non _)) ms.length hlt
        have hmx := may_any ws[ms.length]
        cases hm : mayB ws[ms.length] with
        | false =>
          have hE : newE ws = 23 := by unfold newE; rw [if_neg (by omega), allMay_at hlt hm]; rfl
          rw [hm] at hmx
          have HE := Lib.hid hE
          clear hE hm
          go_wp2_with (go_at_call 102; refine (hmx _).mono ?_; rintro e w' ⟨rfl, rfl⟩)
          go_ret2
          rw [HE.out]
          exact ⟨hF, .inl ⟨by decide, rfl⟩⟩
        | true =>
          rw [hm] at hmx
          obtain ⟨d0, d1, d2, d3⟩ := blk_cell2 hg.blk
          obtain ⟨na, nc, hnv, _, _, _⟩ := own_rd hg.no
          subst hnv
          have hfA : Frm Non wr ((wr.alloc (.cells #[.slice none 0 0] 157)).alloc (.cells #[ptr wr.heap.size] 152)) := ((Frm.refl wr).alloc _).alloc _
          have hno := own_frm hg.no hfA (fun _ _ x => x)
          have hrd : Rd ((wr.alloc (.cells #[.slice none 0 0] 157)).alloc (.cells #[ptr wr.heap.size] 152)) (.slice (some ⟨wr.heap.size + 1, 0, none⟩) 1 1) 1 [ptr wr.heap.size] :=
            ⟨_, 1, rfl, Nat.le_refl _, (fun h => by cases h), fun _ => ⟨wr.heap.size + 1, 0, #[ptr wr.heap.size], 152, (0, 0), rfl, by have := heap_alloc_new (wr.alloc (.cells #[.slice none 0 0] 157)) (.cells #[ptr wr.heap.size] 152); simpa using this, fun i hi => by simp⟩⟩
          have hcell : ∀ u ∈ [ptr wr.heap.size], u.oneCell' = true := fun u hu => by simp at hu; subst hu; rfl
          have HM := Lib.hid hm
          clear hm
          unfold ptr at hrd hno hfA hcell
          go_wp2_with (first | (go_at_call 102; refine (hmx _).mono ?_; rintro e w' ⟨rfl, rfl⟩) | (at_builtin; refine wpList_app rfl (.tmp 27) (.tmp 30) T122 rfl hno rfl hrd rfl rfl hcell (by unfold maxLen; omega) (by omega) ?_; intro nv' w3 h2 h3 h4; have hgb3 : w3.heap[w1.heap.size]? = some (.cells #[.slice wa ws.length wc, .slice na ms.length nc] 124 (0, 0)) := (h3.block _ (by have := hg.lt _ hg.sg; simp; omega) (own_ne hg.no hg.blk (by decide))).trans ((hfA.block _ (hg.lt _ hg.sg) (fun x => x)).trans hg.blk); obtain ⟨k0, k1, k2, k3⟩ := blk_cell2 hgb3; obtain ⟨na', nc', hnv', _, _, _⟩ := own_rd h2; subst hnv'))
          have hnew' : ∀ b, (Value.slice na' (ms.length + 1) nc').ownBlock = some b → (Value.slice na ms.length nc).ownBlock = some b ∨ wr.heap.size + 2 ≤ b := fun b hb => by
            rcases h4 b hb with h5 | h5
            · exact .inl h5
            · simp at h5; exact .inr h5
          have hs := hg.snoc h3 h2 hnew'
          have hre : List.replicate ms.length ([] : List (Int × Int)) ++ [[]] = List.replicate (ms.length + 1) [] := by rw [List.replicate_succ']
          rw [hre] at hs
          refine ⟨⟨ms.length + 1, _, _, _, _, by omega, by go_num, fun j hj hjk => ?_, by simp, hs, ?_, ?_⟩, by simp [intOf]; omega⟩
          · rcases Nat.lt_or_ge j ms.length with h5 | h5
            · exact hmay j hj h5
            · obtain rfl : j = ms.length := by omega
              exact HM.out
          · have := hF.size
            rintro b (hb | rfl | hb)
            · exact hS b hb
            · exact this
            · rcases hnew' b hb with h5 | h5
              · exact hS b (hg.sn b h5)
              · omega
          · refine ((hF.trans' hfA).trans h3 (fun _ x => x) (fun b hb => .inr (hS b (hg.sn b hb)))).setCell _ (.inr (hS _ hg.sg))
      · obtain hml : ms.length = ws.length := by omega
        have hE : newE ws = 0 := by unfold newE; rw [if_neg (by omega), allMay_of (fun i hi => hmay i hi (by omega))]; rfl
        have HE := Lib.hid hE
        have HM := Lib.hid hml
        have hge : ws.length ≤ ms.length := by omega
        have hg' : GP wr w1.heap.size ws (adjOf zeroB ws.length) (Value.slice wa ws.length wc) nv ms vs S := by
          have hre : List.replicate ms.length ([] : List (Int × Int)) = adjOf zeroB ws.length := by rw [adj_zero, hml]
          rw [← hre]; exact hg
        have HG := Lib.hid hg'
        have hw' : ∀ x ∈ ws, 1 ≤ x ∧ x ≤ 1099511627776 := fun x hx => by
          obtain ⟨i, hi, rfl⟩ := List.getElem_of_mem hx
          exact (mayB_iff _).1 (hmay i hi (by omega))
        have HW := Lib.hid hw'
        clear hE hml hmay hg' hw'
        go_wp2
        go_ret2
        refine ⟨hF, .inr ⟨HE.out, w1.heap.size, S, rfl, ⟨⟨_, _, _, _, HG.out⟩, ⟨fun _ _ => rfl, fun _ => rfl, fun _ _ => Int.le_refl _, fun _ _ => by unfold zeroB; decide⟩, by omega, HW.out⟩, hS⟩⟩
end Go.Proofs.Ytjkcclcjhidokaa
