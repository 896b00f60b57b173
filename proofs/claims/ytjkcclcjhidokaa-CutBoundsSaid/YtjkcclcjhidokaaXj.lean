/- The document's graph: Join, Total, walked. -/
import Derived.Test.YtjkcclcjhidokaaXr
namespace Go.Proofs.Ytjkcclcjhidokaa
open Go.RowKit
set_option maxHeartbeats 400000

/-- a row with one number turned. -/
theorem XP.set {w : World} {ks : List Int} {M : List (List Int)} {wv Mv : Value} {rs : List Value} {S : Nat → Prop} (h : XP w ks M wv Mv rs S) {i j g c : Nat} {l : List Int} {x : Int}
    (hi : rs[i]? = some (.slice (some ⟨g, 0, none⟩) l.length c)) (hl : M[i]? = some l) :
    XP (w.setCell ⟨g, j, none⟩ (.int .i64 x)) ks (M.set i (l.set j x)) wv Mv rs S := by
  have hr := h.rows i _ l hi hl
  have hgS : S g := h.sr _ (List.mem_of_getElem? hi) g rfl
  have hF : Frm (fun b => b = g) w (w.setCell ⟨g, j, none⟩ (.int .i64 x)) := by
    refine Frm.setCell (Frm.refl w) _ ?_
    exact .inl rfl
  have hil : i < M.length := (List.getElem?_eq_some_iff.1 hl).1
  refine ⟨own_frm h.wo hF (fun b hb e => h.nw _ (List.mem_of_getElem? hi) b (by rw [e]; rfl) hb), own_frm h.mo hF (fun b hb e => own_own h.mo hr (by decide) hb (by rw [e]; rfl)), by simp [h.lm], ?_, h.nd, h.nw, h.sw, h.sm, h.sr, fun b hb => Nat.lt_of_lt_of_le (h.lt b hb) hF.size⟩
  intro i' r m h1 h2
  rw [List.getElem?_set] at h2
  by_cases e : i = i'
  · subst e
    rw [if_pos rfl, if_pos hil] at h2
    cases h2
    rw [hi] at h1
    cases h1
    have := (World.ownsRow.stored hr j (.int .i64 x)).1
    rw [List.length_set, show ints (l.set j x) = (ints l).set j (.int .i64 x) from by simp [ints]]
    exact this
  · rw [if_neg e] at h2
    exact own_frm (h.rows i' r m h1 h2) hF (fun b hb hg => e (h.nd i i' _ r g hi h1 rfl (by rw [hb, hg])))

theorem mat_upd (B : Nat → Nat → Int) (n a b : Nat) (x : Int) (ha : a < n) (hb : b < n) (_hab : a ≠ b) :
    (((matOf B n).set a (((List.range n).map (B a)).set b x)).set b (((List.range n).map (B b)).set a x)) = matOf (upd B a b x) n := by
  apply List.ext_getElem?
  intro i
  rw [List.getElem?_set, List.getElem?_set]
  have hl : (matOf B n).length = n := by simp [matOf]
  by_cases hi : i < n
  · rw [mat_at _ _ _ hi, mat_at _ _ _ hi]
    by_cases e1 : b = i
    · subst e1
      rw [if_pos rfl, if_pos (by simp [hl]; omega)]
      congr 1
      apply List.ext_getElem?
      intro j
      rw [List.getElem?_set]
      simp only [List.length_map, List.length_range, List.getElem?_map]
      by_cases hj : j < n
      · by_cases e2 : a = j
        · subst e2; simp [hj, upd]
        · rw [if_neg e2]; simp only [List.getElem?_range hj, Option.map_some, upd]
          rw [if_neg (by omega)]
      · rw [if_neg (by omega)]; simp [hj]
    · rw [if_neg e1]
      by_cases e2 : a = i
      · subst e2
        rw [if_pos rfl, if_pos (by omega)]
        congr 1
        apply List.ext_getElem?
        intro j
        rw [List.getElem?_set]
        simp only [List.length_map, List.length_range, List.getElem?_map]
        by_cases hj : j < n
        · by_cases e2 : b = j
          · subst e2; simp [hj, upd]
          · rw [if_neg e2]; simp only [List.getElem?_range hj, Option.map_some, upd]
            rw [if_neg (by omega)]
        · rw [if_neg (by omega)]; simp [hj]
      · rw [if_neg e2]
        congr 1
        apply List.map_congr_left
        intro j _
        simp only [upd]
        rw [if_neg (by omega)]
  · rw [if_neg (by omega), if_neg (by omega), List.getElem?_eq_none (by omega), List.getElem?_eq_none (by simp [matOf]; omega)]

/-- a row of the table, and a number of it, as a walk wants them. -/
theorem XP.at {w : World} {ks : List Int} {M : List (List Int)} {wv Mv : Value} {rs : List Value} {S : Nat → Prop} (h : XP w ks M wv Mv rs S) (i j : Nat) (l : List Int) (x : Int) (hl : M[i]? = some l) (hx : l[j]? = some x) :
    ∃ G C g c, Mv = .slice (some ⟨G, 0, none⟩) rs.length C ∧ rs.length ≤ C ∧ i < rs.length ∧ w.cell? ⟨G, i, none⟩ = some (.slice (some ⟨g, 0, none⟩) l.length c) ∧ l.length ≤ c ∧ j < l.length ∧
      rs[i]? = some (.slice (some ⟨g, 0, none⟩) l.length c) ∧ w.cell? ⟨g, j, none⟩ = some (.int .i64 x) ∧ w.frozen? ⟨g, j, none⟩ = false := by
  obtain ⟨hil, _⟩ := List.getElem?_eq_some_iff.1 hl
  have hir : i < rs.length := by rw [← h.lm]; exact hil
  have e1 := List.getElem?_eq_getElem hir
  obtain ⟨G, C, hM, hC, _, hc, _⟩ := own_at h.mo i _ e1
  obtain ⟨g, c, hr, hc', hj, hcx, hfx⟩ := own_at (h.rows i _ l e1 hl) j (.int .i64 x) (by simp [ints, hx])
  rw [hr] at hc e1
  exact ⟨G, C, g, c, hM, hC, hir, hc, hc', hj, e1, hcx, hfx⟩
theorem mat_at2 (B : Nat → Nat → Int) (n i j : Nat) (hj : j < n) : ((List.range n).map (B i))[j]? = some (B i j) := by simp [hj]

set_option maxRecDepth 100000 in
theorem rjoin_any {w : World} {x : Value} {ws : List Int} {B : Nat → Nat → Int} {S : Nat → Prop} (h : XAt w x ws B S) (hB : BOk ws.length B) (hn : ws.length ≤ 4096) (a b y : Int) :
    Calls Try.prog 67 #[x, .int .i64 a, .int .i64 b, .int .i64 y] w fun e w' => e = .returned (.int .i64 (joinB ws.length B a b y).1) ∧ XAt w' x ws (joinB ws.length B a b y).2 S ∧ Frm S w w' := by
  have hG := h
  obtain ⟨wv, Mv, rs, rfl, hx⟩ := h
  have hwr := own_rd hx.wo
  have hmr := own_rd hx.mo
  have hF1 : Frm Non w (w.alloc (.cells #[wv, Mv] 28)) := (Frm.refl w).alloc _
  have hth := fun (W : World) (f : Frm Non w W) (i : Int) => rthere_any wv Mv ws.length _ _ _ W (hwr.frm f (fun _ _ x => x)) (hmr.frm f (fun _ _ x => x)) hn i
  have hbx : ∀ W, Frm Non (w.alloc (.cells #[wv, Mv] 28)) W → W.cell? ⟨w.heap.size, 0, none⟩ = some wv ∧ W.cell? ⟨w.heap.size, 1, none⟩ = some Mv := fun W f => by
    obtain ⟨h1, h2, _, _⟩ := blk_cell2 ((f.block _ (by simp) (fun x => x)).trans (heap_alloc_new w _))
    exact ⟨h1, h2⟩
  obtain ⟨b00, b01⟩ := hbx _ (Frm.refl _)
  obtain ⟨wa, wc, hwv, _, _, _⟩ := hwr
  obtain ⟨ma, mc, hmv, _, _, _⟩ := hmr
  have hmlen : rs.length ≤ 4096 := by have := hx.lm; simp [matOf] at this; omega
  by_cases ha : 0 ≤ a ∧ a < ws.length
  case neg =>
    have hta := hth _ hF1 a
    rw [decide_eq_false ha] at hta
    rw [show joinB ws.length B a b y = (1, B) from if_pos (.inl ha)]
    clear ha hth hbx
    subst hwv hmv
    go_enter Try.func67, Try.ntmps67
    go_wp2_with (go_at_call 105; refine hta.mono ?_; rintro e w' ⟨rfl, hf⟩)
    go_ret
    exact ⟨rfl, hG.frm (hF1.trans' hf) (fun _ _ x => x), (hF1.trans' hf).non⟩
  have hta := hth _ hF1 a
  rw [decide_eq_true ha] at hta
  by_cases hb : 0 ≤ b ∧ b < ws.length
  case neg =>
    rw [show joinB ws.length B a b y = (1, B) from if_pos (.inr (.inl hb))]
    have htb := fun W f => hth W f b
    rw [decide_eq_false hb] at htb
    clear ha hb hth
    subst hwv hmv
    go_enter Try.func67, Try.ntmps67
    go_wp2_with fail
    refine hta.mono ?_
    rintro e w1 ⟨rfl, hf⟩
    obtain ⟨b10, b11⟩ := hbx _ hf
    go_wp2_with fail
    refine (htb _ (hF1.trans' hf)).mono ?_
    rintro e w2 ⟨rfl, hf2⟩
    clear htb hbx
    go_wp2
    go_ret
    exact ⟨rfl, hG.frm ((hF1.trans' hf).trans' hf2) (fun _ _ x => x), ((hF1.trans' hf).trans' hf2).non⟩
  have htb := fun W f => hth W f b
  rw [decide_eq_true hb] at htb
  obtain ⟨k, rfl⟩ := Int.eq_ofNat_of_zero_le ha.1
  obtain ⟨j, rfl⟩ := Int.eq_ofNat_of_zero_le hb.1
  have hk : k < ws.length := by omega
  have hj : j < ws.length := by omega
  by_cases hkj : k = j
  case pos =>
    subst hkj
    rw [show joinB ws.length B (k : Int) (k : Int) y = (1, B) from if_pos (.inr (.inr rfl))]
    clear ha hb hth
    subst hwv hmv
    go_enter Try.func67, Try.ntmps67
    go_wp2_with fail
    refine hta.mono ?_
    rintro e w1 ⟨rfl, hf⟩
    obtain ⟨b10, b11⟩ := hbx _ hf
    go_wp2_with fail
    refine (htb _ (hF1.trans' hf)).mono ?_
    rintro e w2 ⟨rfl, hf2⟩
    clear htb hbx
    go_wp2
    go_ret
    exact ⟨rfl, hG.frm ((hF1.trans' hf).trans' hf2) (fun _ _ x => x), ((hF1.trans' hf).trans' hf2).non⟩
  have hne : ((k : Int) == (j : Int)) = false := beq_eq_false_iff_ne.2 (by omega)
  have hj0 : joinB ws.length B (k : Int) (j : Int) y = if mayB y = false ∨ mayB (B k j + y) = false then (23, B) else (0, upd B k j (B k j + y)) := by
    unfold joinB
    rw [if_neg (by omega)]
    simp
  rw [hj0]
  clear hj0
  have hle := hB.le k j
  have hge := hB.ge k j
  cases hm : mayB y with
  | false =>
    have hmx := rmay_any y
    rw [hm] at hmx
    rw [if_pos (.inl rfl)]
    clear ha hb hkj hm hth
    subst hwv hmv
    go_enter Try.func67, Try.ntmps67
    go_wp2_with fail
    refine hta.mono ?_
    rintro e w1 ⟨rfl, hf⟩
    obtain ⟨b10, b11⟩ := hbx _ hf
    go_wp2_with fail
    refine (htb _ (hF1.trans' hf)).mono ?_
    rintro e w2 ⟨rfl, hf2⟩
    clear htb hbx
    go_wp2_with (go_at_call 103; refine (hmx _).mono ?_; rintro e w' ⟨rfl, rfl⟩)
    go_ret
    exact ⟨rfl, hG.frm ((hF1.trans' hf).trans' hf2) (fun _ _ x => x), ((hF1.trans' hf).trans' hf2).non⟩
  | true =>
    have hmx := rmay_any y
    rw [hm] at hmx
    have hxb := (mayB_iff y).1 hm
    have hat := fun (W : World) (f : Frm Non w W) => (hx.frm f (fun _ _ x => x)).at k j _ _ (mat_at B _ k hk) (mat_at2 B _ k j hj)
    cases hm2 : mayB (B k j + y) with
    | false =>
      have hmy := rmay_any (B k j + y)
      rw [hm2] at hmy
      rw [if_pos (.inr rfl)]
      clear ha hb hkj hm hm2 hth
      obtain ⟨hx1, hx2⟩ := hxb
      subst hwv
      go_enter Try.func67, Try.ntmps67
      subst hmv
      go_wp2_with fail
      refine hta.mono ?_
      rintro e w1 ⟨rfl, hf⟩
      obtain ⟨b10, b11⟩ := hbx _ hf
      go_wp2_with fail
      refine (htb _ (hF1.trans' hf)).mono ?_
      rintro e w2 ⟨rfl, hf2⟩
      have hf3 := (hF1.trans' hf).trans' hf2
      obtain ⟨b20, b21⟩ := hbx _ (hf.trans' hf2)
      obtain ⟨G, C, g, c, hMe, hC, hkr, hc1, hcl, hjl, _, hcx, _⟩ := hat _ hf3
      cases hMe
      clear htb hbx hat
      rw [List.length_map, List.length_range] at hc1 hcl hjl
      go_wp2_with fail
      refine (hmx _).mono ?_
      rintro e w' ⟨rfl, rfl⟩
      go_wp2_with fail
      refine (hmy _).mono ?_
      rintro e w' ⟨rfl, rfl⟩
      go_wp2
      go_ret
      exact ⟨rfl, hG.frm hf3 (fun _ _ x => x), hf3.non⟩
    | true =>
      have hmy := rmay_any (B k j + y)
      rw [hm2] at hmy
      have hyb := (mayB_iff _).1 hm2
      rw [if_neg (by simp)]
      have hmu := mat_upd B ws.length k j (B k j + y) hk hj hkj
      have hsym := hB.sym j k
      obtain ⟨hx1, hx2⟩ := hxb
      have hfin : ∀ (W : World) (f : Frm Non w W) (G C g c g2 c2 : Nat), rs[k]? = some (.slice (some ⟨g, 0, none⟩) ws.length c) → rs[j]? = some (.slice (some ⟨g2, 0, none⟩) ws.length c2) →
          XP (W.setCell ⟨g, j, none⟩ (.int .i64 (B k j + y))) ws ((matOf B ws.length).set k (((List.range ws.length).map (B k)).set j (B k j + y))) wv Mv rs S ∧
          XP ((W.setCell ⟨g, j, none⟩ (.int .i64 (B k j + y))).setCell ⟨g2, k, none⟩ (.int .i64 (B k j + y))) ws (matOf (upd B k j (B k j + y)) ws.length) wv Mv rs S ∧ S g ∧ S g2 := fun W f G C g c g2 c2 h1 h2 => by
        have hxW := hx.frm f (fun _ _ x => x)
        have s1 := hxW.set (i := k) (j := j) (x := B k j + y) (l := (List.range ws.length).map (B k)) (by simpa using h1) (mat_at B _ k hk)
        have s2 := s1.set (i := j) (j := k) (x := B k j + y) (l := (List.range ws.length).map (B j)) (by simpa using h2) (by rw [List.getElem?_set_ne hkj]; exact mat_at B _ j hj)
        rw [hmu] at s2
        exact ⟨s1, s2, hx.sr _ (List.mem_of_getElem? h1) g rfl, hx.sr _ (List.mem_of_getElem? h2) g2 rfl⟩
      have hgS : ∀ (W : World) (f : Frm Non w W) (g c : Nat), rs[k]? = some (.slice (some ⟨g, 0, none⟩) ws.length c) → g ≠ w.heap.size := fun W f g c h1 e => by
        have := hx.lt _ (hx.sr _ (List.mem_of_getElem? h1) g rfl); omega
      clear ha hb hm hm2 hth hmu
      subst hwv
      go_enter Try.func67, Try.ntmps67
      subst hmv
      go_wp2_with fail
      refine hta.mono ?_
      rintro e w1 ⟨rfl, hf⟩
      obtain ⟨b10, b11⟩ := hbx _ hf
      go_wp2_with fail
      refine (htb _ (hF1.trans' hf)).mono ?_
      rintro e w2 ⟨rfl, hf2⟩
      have hf3 := (hF1.trans' hf).trans' hf2
      obtain ⟨b20, b21⟩ := hbx _ (hf.trans' hf2)
      obtain ⟨G, C, g, c, hMe, hC, hkr, hc1, hcl, hjl, hrk, hcx, hcf⟩ := hat _ hf3
      cases hMe
      rw [List.length_map, List.length_range] at hc1 hcl hjl hrk
      have hg1 := hgS _ hf3 g c hrk
      have hd : w2.drew.cell? ⟨w.heap.size, 1, none⟩ = some (.slice (some ⟨G, 0, none⟩) rs.length mc) := b21
      have hd1 : w2.drew.cell? ⟨G, k, none⟩ = some (.slice (some ⟨g, 0, none⟩) ws.length c) := hc1
      have hd2 : w2.drew.cell? ⟨g, j, none⟩ = some (.int .i64 (B k j)) := hcx
      have hd3 : w2.drew.frozen? ⟨g, j, none⟩ = false := hcf
      clear htb hbx hgS
      go_wp2_with fail
      refine (hmx _).mono ?_
      rintro e w' ⟨rfl, rfl⟩
      go_wp2_with fail
      refine (hmy _).mono ?_
      rintro e w' ⟨rfl, rfl⟩
      obtain ⟨W3, hW3⟩ : ∃ W3, W3 = w2.setCell ⟨g, j, none⟩ (.int .i64 (B k j + y)) := ⟨_, rfl⟩
      have hf4 : Frm (fun b => b = g) w2 W3 := by
        rw [hW3]
        refine Frm.setCell (Frm.refl w2) _ ?_
        exact .inl rfl
      have b31 := hf4.cell b21 (fun e => hg1 e.symm)
      have hrj : ∃ g2 c2, rs[j]? = some (.slice (some ⟨g2, 0, none⟩) ws.length c2) ∧ ws.length ≤ c2 ∧ W3.cell? ⟨G, j, none⟩ = some (.slice (some ⟨g2, 0, none⟩) ws.length c2) ∧ W3.cell? ⟨g2, k, none⟩ = some (.int .i64 (B k j)) ∧ W3.frozen? ⟨g2, k, none⟩ = false ∧ j < rs.length := by
        have hxW := hx.frm hf3 (fun _ _ x => x)
        have s1 := hxW.set (i := k) (j := j) (x := B k j + y) (l := (List.range ws.length).map (B k)) (by simpa using hrk) (mat_at B _ k hk)
        rw [← hW3] at s1
        obtain ⟨G', C', g2, c2, hMe', _, hjr, q1, q2, _, q3, q4, q5⟩ := s1.at j k _ _ (by rw [List.getElem?_set_ne hkj]; exact mat_at B _ j hj) (mat_at2 B _ j k hk)
        cases hMe'
        rw [List.length_map, List.length_range] at q1 q2 q3
        rw [hsym] at q4
        exact ⟨g2, c2, q3, q2, q1, q4, q5, hjr⟩
      obtain ⟨g2, c2, hrj, hc2l, q1, q2, q3, hjr⟩ := hrj
      obtain ⟨_, hxf, hSg, hSg2⟩ := hfin w2 hf3 G mc g c g2 c2 hrk hrj
      rw [← hW3] at hxf
      have HXF := Lib.hid hxf
      have HW3 := Lib.hid hW3
      obtain ⟨W4, hW4⟩ : ∃ W4, W4 = W3.drew := ⟨_, rfl⟩
      have e1 : W4.cell? ⟨w.heap.size, 1, none⟩ = some (.slice (some ⟨G, 0, none⟩) rs.length mc) := by rw [hW4]; exact b31
      have e2 : W4.cell? ⟨G, j, none⟩ = some (.slice (some ⟨g2, 0, none⟩) ws.length c2) := by rw [hW4]; exact q1
      have e3 : W4.cell? ⟨g2, k, none⟩ = some (.int .i64 (B k j)) := by rw [hW4]; exact q2
      have e4 : W4.frozen? ⟨g2, k, none⟩ = false := by rw [hW4]; exact q3
      have hf5 : Frm (fun b => b = g) w2 W4 := by rw [hW4]; exact hf4.drew
      have hxf4 : XP (W4.setCell ⟨g2, k, none⟩ (.int .i64 (B k j + y))) ws (matOf (upd B k j (B k j + y)) ws.length) (.slice wa ws.length wc) (.slice (some ⟨G, 0, none⟩) rs.length mc) rs S := by
        rw [hW4]; exact hxf.frm (T := Non) (w' := (W3.drew.setCell ⟨g2, k, none⟩ (.int .i64 (B k j + y)))) ⟨rfl, rfl, rfl, Nat.le_refl _, fun _ _ _ => rfl⟩ (fun _ _ x => x)
      have HXF4 := Lib.hid hxf4
      clear hfin hat hxf hsym hxf4
      go_wp2
      go_still_tail 17, (by kernel_rfl)
      go_wp2
      rw [← hW3, ← hW4]
      clear hW3 hW4
      go_still_tail 17, (by kernel_rfl)
      go_wp2
      go_ret
      refine ⟨rfl, ⟨_, _, _, rfl, HXF4.out.frm (T := Non) ((Frm.refl _).drew) (fun _ _ x => x)⟩, ?_⟩
      refine Frm.drew (Frm.setCell (p := ⟨g2, k, none⟩) (((hf3.non (S := S)).trans (T := fun b => b = g) (U := S) hf5 (fun _ x => x) (fun b hb => .inl (by rw [hb]; exact hSg)))) _ ?_)
      exact .inl hSg2
end Go.Proofs.Ytjkcclcjhidokaa
