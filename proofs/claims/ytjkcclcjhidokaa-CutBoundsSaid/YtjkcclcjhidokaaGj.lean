/- Joining two things of a graph, walked. -/
import Derived.Test.YtjkcclcjhidokaaGw
import Derived.Test.YtjkcclcjhidokaaIter
namespace Go.Proofs.Ytjkcclcjhidokaa
open Go.RowKit
set_option maxHeartbeats 400000

theorem blk_type {w : World} {b : Nat} {c d : Array Value} {t u : Nat} {f g : Nat × Nat} (h : w.heap[b]? = some (.cells c t f)) (k : w.heap[b]? = some (.cells d u g)) : t = u := by
  rw [h] at k; injection k with k; injection k
theorem own_ne {w : World} {e size n : Nat} {v : Value} {xs : List Value} (h : Own w e size v n xs) {b : Nat} {c : Array Value} {t : Nat} {f : Nat × Nat} (hb : w.heap[b]? = some (.cells c t f)) (ht : t ≠ e) : v.ownBlock ≠ some b := fun hv => by
  obtain ⟨cur, hc⟩ := own_type h b hv
  exact ht (blk_type hb hc)
theorem own_own {w : World} {e size n e' size' n' : Nat} {v v' : Value} {xs xs' : List Value} (h : Own w e size v n xs) (h' : Own w e' size' v' n' xs') (ht : e ≠ e') {b : Nat} (hb : v.ownBlock = some b) : v'.ownBlock ≠ some b := fun hv => by
  obtain ⟨c, hc⟩ := own_type h b hb
  obtain ⟨d, hd⟩ := own_type h' b hv
  exact ht (blk_type hc hd)

theorem GP.put {w w' : World} {gb : Nat} {ws : List Int} {adj : List (List (Int × Int))} {wv nv : Value} {ms : List Nat} {vs : List Value} {S : Nat → Prop} (h : GP w gb ws adj wv nv ms vs S)
    {k m : Nat} {v v' : Value} {es es' : List (Int × Int)} (hk : ms[k]? = some m) (hv : vs[k]? = some v) (he : adj[k]? = some es) (f : Frm (fun b => b = m ∨ v.ownBlock = some b) w w') (hm : MapAt w' m es' v')
    (hnew : ∀ b, v'.ownBlock = some b → v.ownBlock = some b ∨ w.heap.size ≤ b) :
    GP w' gb ws (adj.set k es') wv nv ms (vs.set k v') (fun b => S b ∨ v'.ownBlock = some b) := by
  have hM := h.maps k m v es hk hv he
  have hne : ∀ b, b ≠ m → v.ownBlock ≠ some b → ¬ (b = m ∨ v.ownBlock = some b) := fun b h1 h2 h3 => by rcases h3 with h3 | h3; exact h1 h3; exact h2 h3
  have hklt : k < vs.length := (List.getElem?_eq_some_iff.1 hv).1
  have hkla : k < adj.length := (List.getElem?_eq_some_iff.1 he).1
  have other : ∀ i v₀ b, vs[i]? = some v₀ → i ≠ k → v₀.ownBlock = some b → (b = m ∨ v.ownBlock = some b) → False := fun i v₀ b h1 hik h2 h3 => by
    have hil : i < ms.length := by rw [← h.lv]; exact (List.getElem?_eq_some_iff.1 h1).1
    have hi := h.maps i _ v₀ _ (List.getElem?_eq_getElem hil) h1 (List.getElem?_eq_getElem (by rw [h.la]; exact hil))
    rcases h3 with rfl | h3
    · exact own_ne hi.own hM.blk (by decide) h2
    · exact hik (h.ndv i k v₀ v b h1 hv h2 h3)
  refine ⟨?_, ?_, ?_, by simp [h.lv], by simp [h.la], ?_, h.nd, ?_, .inl h.sg, fun b hb => .inl (h.sw b hb), fun b hb => .inl (h.sn b hb), fun b hb => .inl (h.sm b hb), ?_, ?_⟩
  · refine (f.block gb (h.lt _ h.sg) (hne _ (fun e => ?_) (fun e => own_ne hM.own h.blk (by decide) e))).trans h.blk
    subst e; have := blk_type h.blk hM.blk; simp at this
  · exact own_frm h.wo f (fun b hb => hne b (fun e => own_ne h.wo hM.blk (by decide) (e ▸ hb)) (own_own h.wo hM.own (by decide) hb))
  · exact own_frm h.no f (fun b hb => hne b (fun e => own_ne h.no hM.blk (by decide) (e ▸ hb)) (own_own h.no hM.own (by decide) hb))
  · intro i m₀ v₀ es₀ h1 h2 h3
    rw [List.getElem?_set] at h2 h3
    by_cases hik : k = i
    · subst hik
      rw [if_pos rfl, if_pos hklt] at h2
      rw [if_pos rfl, if_pos hkla] at h3
      cases h2; cases h3
      rw [hk] at h1; cases h1
      exact hm
    · rw [if_neg hik] at h2 h3
      have hi := h.maps i m₀ v₀ es₀ h1 h2 h3
      refine hi.frm f (hne _ (fun e => hik ?_) (fun e => own_ne hM.own hi.blk (by decide) e)) (fun b hb hx => other i v₀ b h2 (fun e => hik e.symm) hb hx)
      subst e; exact h.nd k i m₀ hk h1
  · intro i j v₁ v₂ b h1 h2 h3 h4
    rw [List.getElem?_set] at h1 h2
    have new : ∀ j' v₃, vs[j']? = some v₃ → v₃.ownBlock = some b → v'.ownBlock = some b → j' = k := fun j' v₃ g1 g2 g3 => by
      rcases hnew b g3 with g4 | g4
      · exact h.ndv j' k v₃ v b g1 hv g2 g4
      · have := h.lt b (h.sv v₃ (List.mem_of_getElem? g1) b g2); omega
    by_cases hi : k = i
    · by_cases hj : k = j
      · omega
      · rw [if_neg hj] at h2
        rw [if_pos hi, if_pos hklt] at h1
        cases h1
        have := new j v₂ h2 h4 h3
        omega
    · by_cases hj : k = j
      · rw [if_neg hi] at h1
        rw [if_pos hj, if_pos hklt] at h2
        cases h2
        have := new i v₁ h1 h3 h4
        omega
      · rw [if_neg hi] at h1
        rw [if_neg hj] at h2
        exact h.ndv i j v₁ v₂ b h1 h2 h3 h4
  · intro v₀ hv₀ b hb
    rcases List.mem_or_eq_of_mem_set hv₀ with h1 | rfl
    · exact .inl (h.sv v₀ h1 b hb)
    · exact .inr hb
  · rintro b (hb | hb)
    · exact Nat.lt_of_lt_of_le (h.lt b hb) f.size
    · exact own_lt hm.own b hb

/-- what Join answers, and what is between then. -/
def joinB (n : Nat) (B : Nat → Nat → Int) (a b w : Int) : Int × (Nat → Nat → Int) :=
  if ¬ (0 ≤ a ∧ a < n) ∨ ¬ (0 ≤ b ∧ b < n) ∨ a = b then (1, B)
  else if mayB w = false ∨ mayB (B a.toNat b.toNat + w) = false then (23, B)
  else (0, upd B a.toNat b.toNat (B a.toNat b.toNat + w))

theorem mayB_iff (n : Int) : mayB n = true ↔ 1 ≤ n ∧ n ≤ 1099511627776 := by simp [mayB]
theorem joinB_ok {n : Nat} {B : Nat → Nat → Int} (h : BOk n B) (a b w : Int) : BOk n (joinB n B a b w).2 := by
  unfold joinB
  split
  · exact h
  · split
    · exact h
    · rename_i h1 h2
      have h2' : mayB (B a.toNat b.toNat + w) = true := by
        by_cases hx : mayB (B a.toNat b.toNat + w) = true
        · exact hx
        · exact absurd (.inr (by simpa using hx)) h2
      rw [mayB_iff] at h2'
      have hab : a.toNat ≠ b.toNat := fun e => h1 (.inr (.inr (by
        by_cases ha : 0 ≤ a ∧ a < n
        · by_cases hb : 0 ≤ b ∧ b < n
          · omega
          · exact absurd (.inr (.inl hb)) h1
        · exact absurd (.inl ha) h1)))
      refine ⟨fun i j => ?_, fun i => ?_, fun i j => ?_, fun i j => ?_⟩
      · simp only [upd]
        by_cases hc : i = a.toNat ∧ j = b.toNat ∨ i = b.toNat ∧ j = a.toNat
        · rw [if_pos hc, if_pos (by omega)]
        · rw [if_neg hc, if_neg (by omega)]; exact h.sym i j
      · simp only [upd]
        rw [if_neg (by omega)]; exact h.self i
      · simp only [upd]
        split
        · omega
        · exact h.ge i j
      · simp only [upd]
        split
        · omega
        · exact h.le i j

theorem GAt.lt {w : World} {gb : Nat} {ws : List Int} {B : Nat → Nat → Int} {S : Nat → Prop} (h : GAt w gb ws B S) : ∀ b, S b → b < w.heap.size := by
  obtain ⟨⟨_, _, _, _, h⟩, _⟩ := h; exact h.lt
theorem turn_non {S : Nat → Prop} {w w' : World} (h : ∀ b, S b → b < w.heap.size) (f : Frm Non w w') : Turn S S w w' := ⟨f.non, fun _ h => .inl h, fun b hb => Nat.lt_of_lt_of_le (h b hb) f.size⟩

theorem adj_upd (B : Nat → Nat → Int) (_hB : ∀ a b, B a b = B b a) (n k j : Nat) (x : Int) (hk : k < n) (hj : j < n) (_hkj : k ≠ j) (hx : x ≠ 0) :
    (((adjOf B n).set k (put (row B n k) j x)).set j (put (row B n j) k x)) = adjOf (upd B k j x) n := by
  have h1 : put (row B n k) j x = row (upd B k j x) n k := put_row B _ n k j x hj hx (by simp [upd]) (fun i hi => by simp only [upd]; rw [if_neg (by omega)])
  have h2 : put (row B n j) k x = row (upd B k j x) n j := put_row B _ n j k x hk hx (by simp [upd]) (fun i hi => by simp only [upd]; rw [if_neg (by omega)])
  rw [h1, h2]
  apply List.ext_getElem?
  intro i
  rw [List.getElem?_set, List.getElem?_set]
  by_cases hi : i < n
  · rw [adj_at _ _ _ hi]
    by_cases e1 : j = i
    · subst e1; simp [adjOf, hi]
    · rw [if_neg e1]
      by_cases e2 : k = i
      · subst e2; simp [adjOf, hi]
      · rw [if_neg e2, adj_at _ _ _ hi]
        congr 1
        unfold row
        congr 1
        funext b
        have : upd B k j x i b = B i b := by simp only [upd]; rw [if_neg (by omega)]
        rw [this]
  · rw [if_neg (by omega), if_neg (by omega), List.getElem?_eq_none (by simp [adjOf]; omega), List.getElem?_eq_none (by simp [adjOf]; omega)]

theorem join_any {w : World} {gb : Nat} {ws : List Int} {B : Nat → Nat → Int} {S : Nat → Prop} (h : GAt w gb ws B S) (a b x : Int) :
    Calls Try.prog 66 #[ptr gb, .int .i64 a, .int .i64 b, .int .i64 x] w fun e w' => e = .returned (.int .i64 (joinB ws.length B a b x).1) ∧ ∃ S', GAt w' gb ws (joinB ws.length B a b x).2 S' ∧ Turn S S' w w' := by
  have hG := h
  obtain ⟨⟨wv, nv, ms, vs, hg⟩, hB, hn, hw⟩ := h
  have HW := Lib.hid hw
  clear hw
  have htu : Turn S S w w := Turn.refl hg.lt
  by_cases ha : 0 ≤ a ∧ a < ws.length
  case neg =>
    have hta := there_any hg hn a
    rw [decide_eq_false ha] at hta
    rw [show joinB ws.length B a b x = (1, B) from if_pos (.inl ha)]
    clear ha
    go_enter Try.func66, Try.ntmps66
    go_wp2_with (go_at_call 99; refine hta.mono ?_; rintro e w' ⟨rfl, rfl⟩)
    go_ret
    exact ⟨rfl, S, hG, htu⟩
  have hta := there_any hg hn a
  rw [decide_eq_true ha] at hta
  by_cases hb : 0 ≤ b ∧ b < ws.length
  case neg =>
    have htb := there_any hg hn b
    rw [decide_eq_false hb] at htb
    rw [show joinB ws.length B a b x = (1, B) from if_pos (.inr (.inl hb))]
    clear ha hb
    unfold ptr at *
    go_enter Try.func66, Try.ntmps66
    go_wp2_with fail
    refine hta.mono ?_
    rintro e w' ⟨rfl, rfl⟩
    go_wp2_with fail
    refine htb.mono ?_
    rintro e w' ⟨rfl, rfl⟩
    go_wp2
    go_ret
    exact ⟨rfl, S, hG, htu⟩
  have htb := there_any hg hn b
  rw [decide_eq_true hb] at htb
  obtain ⟨k, rfl⟩ := Int.eq_ofNat_of_zero_le ha.1
  obtain ⟨j, rfl⟩ := Int.eq_ofNat_of_zero_le hb.1
  have hk : k < ws.length := by omega
  have hj : j < ws.length := by omega
  by_cases hkj : k = j
  case pos =>
    subst hkj
    rw [show joinB ws.length B (k : Int) (k : Int) x = (1, B) from if_pos (.inr (.inr rfl))]
    clear ha hb htb
    unfold ptr at *
    go_enter Try.func66, Try.ntmps66
    go_wp2_with fail
    refine hta.mono ?_
    rintro e w' ⟨rfl, rfl⟩
    go_wp2_with fail
    refine hta.mono ?_
    rintro e w' ⟨rfl, rfl⟩
    go_wp2
    go_ret
    exact ⟨rfl, S, hG, htu⟩
  have hne : ((k : Int) == (j : Int)) = false := beq_eq_false_iff_ne.2 (by omega)
  have hbt := between_any hG k j
  rw [if_pos ⟨ha.1, ha.2, hb.1, hb.2⟩] at hbt
  have hj0 : joinB ws.length B (k : Int) (j : Int) x = if mayB x = false ∨ mayB (B k j + x) = false then (23, B) else (0, upd B k j (B k j + x)) := by
    unfold joinB
    rw [if_neg (by omega)]
    simp
  rw [hj0]
  clear hj0
  have hle := hB.le k j
  have hge := hB.ge k j
  simp only [Int.toNat_natCast] at hbt
  cases hm : mayB x with
  | false =>
    have hmx := may_any x
    rw [hm] at hmx
    rw [if_pos (.inl rfl)]
    clear ha hb hkj hm
    unfold ptr at *
    go_enter Try.func66, Try.ntmps66
    go_wp2_with fail
    refine hta.mono ?_
    rintro e w' ⟨rfl, rfl⟩
    go_wp2_with fail
    refine htb.mono ?_
    rintro e w' ⟨rfl, rfl⟩
    go_wp2_with fail
    refine hbt.mono ?_
    rintro e w' ⟨rfl, hf⟩
    go_wp2_with fail
    refine (hmx _).mono ?_
    rintro e w' ⟨rfl, rfl⟩
    go_wp2
    go_ret
    exact ⟨rfl, S, hG.frm hf (fun _ _ x => x), turn_non hg.lt hf⟩
  | true =>
    have hmx := may_any x
    rw [hm] at hmx
    have hxb := (mayB_iff x).1 hm
    cases hm2 : mayB (B k j + x) with
    | false =>
      have hmy := may_any (B k j + x)
      rw [hm2] at hmy
      rw [if_pos (.inr rfl)]
      clear ha hb hkj hm hm2
      obtain ⟨hx1, hx2⟩ := hxb
      unfold ptr at *
      go_enter Try.func66, Try.ntmps66
      go_wp2_with fail
      refine hta.mono ?_
      rintro e w' ⟨rfl, rfl⟩
      go_wp2_with fail
      refine htb.mono ?_
      rintro e w' ⟨rfl, rfl⟩
      go_wp2_with fail
      refine hbt.mono ?_
      rintro e w' ⟨rfl, hf⟩
      go_wp2_with fail
      refine (hmx _).mono ?_
      rintro e w' ⟨rfl, rfl⟩
      go_wp2_with fail
      refine (hmy _).mono ?_
      rintro e w' ⟨rfl, rfl⟩
      go_wp2
      go_ret
      exact ⟨rfl, S, hG.frm hf (fun _ _ x => x), turn_non hg.lt hf⟩
    | true =>
      have hmy := may_any (B k j + x)
      rw [hm2] at hmy
      have hyb := (mayB_iff _).1 hm2
      rw [if_neg (by simp)]
      have hBo : BOk ws.length (upd B k j (B k j + x)) := by
        have := joinB_ok hB (k : Int) (j : Int) x
        rwa [show joinB ws.length B (k : Int) (j : Int) x = (0, upd B k j (B k j + x)) from by unfold joinB; rw [if_neg (by omega)]; simp [hm, hm2]] at this
      obtain ⟨hx1, hx2⟩ := hxb
      have hp := hg.at
      have hgp := hg
      clear ha hb hm hm2 hG htu
      unfold ptr at *
      go_enter Try.func66, Try.ntmps66
      go_wp2_with fail
      refine hta.mono ?_
      rintro e w' ⟨rfl, rfl⟩
      go_wp2_with fail
      refine htb.mono ?_
      rintro e w' ⟨rfl, rfl⟩
      go_wp2_with fail
      refine hbt.mono ?_
      rintro e w1 ⟨rfl, hf⟩
      have hg1 := hgp.frm hf (fun _ _ x => x)
      obtain ⟨g, cap, m, v, rfl, hcap, hkm, hc0, hc1, e1, e2, hM⟩ := hg1.at k _ (adj_at B _ k hk)
      have hjm : j < ms.length := by have := hg1.la; simp [adjOf] at this; omega
      unfold ptr at hc1
      go_wp2_with fail
      refine (hmx _).mono ?_
      rintro e w' ⟨rfl, rfl⟩
      go_wp2_with fail
      refine (hmy _).mono ?_
      rintro e w' ⟨rfl, rfl⟩
      go_wp2_with fail
      refine (put_any _ m v j (B k j + x) _ hM (row_srt _ _ _) (by have := row_len B ws.length k; omega)).mono ?_
      rintro e w2 ⟨rfl, v2, hM2, hf2, hnew2⟩
      have hg2 := hg1.put e1 e2 (adj_at B _ k hk) hf2 hM2 hnew2
      have hadj : ((adjOf B ws.length).set k (put (row B ws.length k) j (B k j + x)))[j]? = some (row B ws.length j) := by
        rw [List.getElem?_set_ne (by omega)]; exact adj_at B _ j hj
      obtain ⟨g', cap', m', v', hnv, hcap', _, hd0, hd1, f1, f2, hN⟩ := hg2.at j _ hadj
      cases hnv
      unfold ptr at hd1
      go_wp2_with fail
      refine (put_any _ m' v' k (B k j + x) _ hN (row_srt _ _ _) (by have := row_len B ws.length j; omega)).mono ?_
      rintro e w3 ⟨rfl, v3, hM3, hf3, hnew3⟩
      have hg3 := hg2.put f1 f2 hadj hf3 hM3 hnew3
      rw [adj_upd B hB.sym ws.length k j _ hk hj hkj (by omega)] at hg3
      go_wp2
      go_ret
      refine ⟨rfl, _, ⟨⟨_, _, _, _, hg3⟩, hBo, hn, HW.out⟩, ?_⟩
      have hsm : S m := hg1.sm m (List.mem_of_getElem? e1)
      have hsv : ∀ b, v.ownBlock = some b → S b := fun b hb => hg1.sv v (List.mem_of_getElem? e2) b hb
      have t1 : Turn S (fun b => S b ∨ v2.ownBlock = some b) w1 w2 := ⟨hf2.mono fun b hb => by rcases hb with rfl | hb; exact hsm; exact hsv b hb, fun b hb => by
        rcases hb with hb | hb
        · exact .inl hb
        · rcases hnew2 b hb with hb | hb
          · exact .inl (hsv b hb)
          · exact .inr hb, hg2.lt⟩
      have t2 : Turn (fun b => S b ∨ v2.ownBlock = some b) (fun b => (S b ∨ v2.ownBlock = some b) ∨ v3.ownBlock = some b) w2 w3 := ⟨hf3.mono fun b hb => by
          rcases hb with rfl | hb
          · exact hg2.sm _ (List.mem_of_getElem? f1)
          · exact hg2.sv _ (List.mem_of_getElem? f2) b hb, fun b hb => by
        rcases hb with hb | hb
        · exact .inl hb
        · rcases hnew3 b hb with hb | hb
          · exact .inl (hg2.sv _ (List.mem_of_getElem? f2) b hb)
          · exact .inr hb, hg3.lt⟩
      exact ((turn_non hgp.lt hf).trans t1).trans t2
end Go.Proofs.Ytjkcclcjhidokaa
