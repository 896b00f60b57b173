/- The document's graph in memory: a table. -/
import Derived.Test.YtjkcclcjhidokaaGf
import Derived.StillTailTactics
import Derived.Deep.RegionLaw
import Derived.Deep.DeepCutAuto
namespace Go.Proofs.Ytjkcclcjhidokaa
open Go.RowKit
set_option maxHeartbeats 400000

theorem T26 : SlT Try.prog 26 22 (.slice none 0 0) 1 24 := ⟨Try.underlying26, by kernel_rfl, rfl, by decide⟩

/-- a row of zeros. -/
def zrow (n : Nat) : Array Value := (ints (List.replicate n 0)).toArray
theorem zrow_size (n : Nat) : (zrow n).size = n := by simp [zrow, ints]
theorem run_make0 {t e : Nat} (hT : SlT Try.prog t e (.int .i64 0) 1 8) (n : Nat) (hn : n ≤ 1000000) (w : World) :
    (Instr.makeSlice t (.int .i64 n) (.int .i64 n)).run Try.prog w = .ok (.slice (some ⟨w.heap.size, 0, none⟩) n n) (w.alloc (.cells (zrow n) e)) := by
  obtain ⟨i, hi, hz, hs, hb⟩ := info_parts hT.hi
  have := run_make (P := Try.prog) w t e i _ hT.ht hi hz .i64 .i64 n n (by omega) (Int.le_refl _) (by rw [hb]; omega) (by omega)
  rw [this, hs]
  have hm : madeCells (Value.int .i64 0).cells ((n : Int).toNat * 1) = zrow n := by
    apply Array.ext'
    rw [show (Value.int .i64 0).cells = #[.int .i64 0] from rfl, toList_madeCells_one]
    simp [zrow, ints]
  rw [hm]; simp
theorem own_zrow (w : World) (e n : Nat) (hn : n ≤ 1000000) : Own (w.alloc (.cells (zrow n) e)) e 1 (.slice (some ⟨w.heap.size, 0, none⟩) n n) n (ints (List.replicate n 0)) := by
  have := World.ownsRow_lit w (base := 0) (e := e) (size := 1) (zrow n) n (Nat.zero_le _) (by unfold maxLen; omega) (by rw [zrow_size]; omega)
  simpa [zrow] using this

/-- append as one step of a region that draws its order. -/
theorem step_app {P : Program} {w : World} {ops : Array Oper} {o : Oper} {a : Act} {K : Act → World → Prop} {Q : Exit → Act → World → Prop} {E : Prop} (hgd : o.guard = none) (s x : Operand) {t e : Nat} {z : Value} {size bytes : Nat}
    (hT : SlT P t e z size bytes) (ho : o.op = .call { callee := .builtin .append, args := #[s, x], argTypes := #[t, t] })
    {v : Value} {n : Nat} {xs : List Value} (hown : Own w e size v n xs) (hs : a.eval s = v) {u : Value} {m : Nat} {news : List Value} (hrd : Rd w u m news) (hx : a.eval x = u) (hl : news.length = m * size) (h1 : ∀ u ∈ news, u.oneCell' = true)
    (h63 : n + m ≤ maxLen) (hbytes : (n + m) * bytes ≤ 140737488355328)
    (h : ∀ v' w', Own w' e size v' (n + m) (xs ++ news) → Frm (fun b => v.ownBlock = some b) w w' → (∀ b, v'.ownBlock = some b → v.ownBlock = some b ∨ w.heap.size ≤ b) → K (a.put o.dst v') w') :
    if Region.wanted o (yielded ops a.tmps) = true then Oper.wp P o a w K Q else E := by
  have hw : Region.wanted o (yielded ops a.tmps) = true := by simp [Region.wanted, hgd]
  rw [if_pos hw]
  obtain ⟨i, hi, hz, hsz, hby⟩ := info_parts hT.hi
  obtain ⟨v', w', hr, h2, h3, h4⟩ := run_app (P := P) w t o.type e i z size bytes hT.ht hi hz hsz hby hT.hz hT.hs v n xs hown u m news hrd hl h1 h63 hbytes
  unfold Oper.wp execOp
  simp only [ho, resolve, invoke, builtin, Sem.run_bind, Sem.run_pure, Result.andThen_ok, List.map_toArray, List.map_cons, List.map_nil, hs, hx, hr]
  exact h v' w' h2 h3 h4

/-- the parts of the document's graph: weights ks, table M. -/
structure XP (w : World) (ks : List Int) (M : List (List Int)) (wv Mv : Value) (rs : List Value) (S : Nat → Prop) : Prop where
  wo : Own w 2 1 wv ks.length (ints ks)
  mo : Own w 22 1 Mv rs.length rs
  lm : M.length = rs.length
  rows : ∀ (i : Nat) (r : Value) (l : List Int), rs[i]? = some r → M[i]? = some l → Own w 2 1 r l.length (ints l)
  nd : ∀ (i j : Nat) (r q : Value) (b : Nat), rs[i]? = some r → rs[j]? = some q → r.ownBlock = some b → q.ownBlock = some b → i = j
  nw : ∀ r ∈ rs, ∀ b, r.ownBlock = some b → wv.ownBlock ≠ some b
  sw : ∀ b, wv.ownBlock = some b → S b
  sm : ∀ b, Mv.ownBlock = some b → S b
  sr : ∀ r ∈ rs, ∀ b, r.ownBlock = some b → S b
  lt : ∀ b, S b → b < w.heap.size

theorem XP.frm {w w' : World} {ks : List Int} {M : List (List Int)} {wv Mv : Value} {rs : List Value} {S T : Nat → Prop} (h : XP w ks M wv Mv rs S) (f : Frm T w w') (hT : ∀ b, S b → ¬ T b) : XP w' ks M wv Mv rs S where
  wo := own_frm h.wo f (fun b hb => hT b (h.sw b hb))
  mo := own_frm h.mo f (fun b hb => hT b (h.sm b hb))
  lm := h.lm
  rows := fun i r l h1 h2 => own_frm (h.rows i r l h1 h2) f (fun b hb => hT b (h.sr r (List.mem_of_getElem? h1) b hb))
  nd := h.nd
  nw := h.nw
  sw := h.sw
  sm := h.sm
  sr := h.sr
  lt := fun b hb => Nat.lt_of_lt_of_le (h.lt b hb) f.size

def matOf (B : Nat → Nat → Int) (n : Nat) : List (List Int) := (List.range n).map fun i => (List.range n).map (B i)
theorem mat_at (B : Nat → Nat → Int) (n i : Nat) (h : i < n) : (matOf B n)[i]? = some ((List.range n).map (B i)) := by simp [matOf, h]
/-- the document's graph: weights ws, B between; it owns no block beyond S. -/
def XAt (w : World) (x : Value) (ws : List Int) (B : Nat → Nat → Int) (S : Nat → Prop) : Prop :=
  ∃ wv Mv rs, x = .agg #[wv, Mv] ∧ XP w ws (matOf B ws.length) wv Mv rs S
theorem XAt.frm {w w' : World} {x : Value} {ws : List Int} {B : Nat → Nat → Int} {S T : Nat → Prop} (h : XAt w x ws B S) (f : Frm T w w') (hT : ∀ b, S b → ¬ T b) : XAt w' x ws B S := by
  obtain ⟨wv, Mv, rs, rfl, h⟩ := h
  exact ⟨wv, Mv, rs, rfl, h.frm f hT⟩

theorem rmay_any (n : Int) (w : World) : Calls Try.prog 103 #[.int .i64 n] w fun e w' => e = .returned (.bool (mayB n)) ∧ w = w' := by
  by_cases h : 1 ≤ n
  · go_enter Try.func103, Try.ntmps103
    go_wp2
    go_ret
    exact ⟨by simp [mayB, h], rfl⟩
  · have hd : decide (1 ≤ n) = false := by simpa using h
    go_enter Try.func103, Try.ntmps103
    go_wp2
    go_ret
    exact ⟨by simp [mayB]; omega, rfl⟩
theorem rthere_any (wv Mv : Value) (n : Nat) (cs ds : List Value) (m : Nat) (w : World) (hw : Rd w wv n cs) (hM : Rd w Mv m ds) (_hn : n ≤ 4096) (i : Int) :
    Calls Try.prog 105 #[.agg #[wv, Mv], .int .i64 i] w fun e w' => e = .returned (.bool (decide (0 ≤ i ∧ i < n))) ∧ Frm Non w w' := by
  obtain ⟨a, cap, rfl, _, _, _⟩ := hw
  obtain ⟨a', cap', rfl, _, _, _⟩ := hM
  by_cases hi : 0 ≤ i
  · go_enter Try.func105, Try.ntmps105
    go_wp2
    go_ret
    exact ⟨by simp [hi], (Frm.refl _).alloc _⟩
  · have hd : decide (0 ≤ i) = false := by simpa using hi
    go_enter Try.func105, Try.ntmps105
    go_wp2
    go_ret
    exact ⟨by simp, (Frm.refl _).alloc _⟩

theorem set_two0 {w : World} {m : Nat} {v u : Value} {t : Nat} (h : w.heap[m]? = some (.cells #[v, u] t (0, 0))) (x : Value) : (w.setCell ⟨m, 0, none⟩ x).heap[m]? = some (.cells #[x, u] t (0, 0)) := by
  obtain ⟨hlt, hv⟩ := Array.getElem?_eq_some_iff.1 h
  simp only [World.setCell]
  rw [Array.getElem?_eq_getElem (by simpa using hlt), Array.getElem_modify_self, hv]
  simp

/-- a weight more. -/
theorem XP.snocW {w w' : World} {ks : List Int} {M : List (List Int)} {wv Mv wv' : Value} {rs : List Value} {S : Nat → Prop} {x : Int} (h : XP w ks M wv Mv rs S) (f : Frm (fun b => wv.ownBlock = some b) w w')
    (ho : Own w' 2 1 wv' (ks.length + 1) (ints (ks ++ [x]))) (hnew : ∀ b, wv'.ownBlock = some b → wv.ownBlock = some b ∨ w.heap.size ≤ b) :
    XP w' (ks ++ [x]) M wv' Mv rs (fun b => S b ∨ wv'.ownBlock = some b) := by
  have hr : ∀ r ∈ rs, ∀ b, r.ownBlock = some b → wv.ownBlock ≠ some b := h.nw
  refine ⟨by simpa using ho, own_frm h.mo f (fun b hb => own_own h.mo h.wo (by decide) hb), h.lm, fun i r l h1 h2 => own_frm (h.rows i r l h1 h2) f (fun b hb => h.nw r (List.mem_of_getElem? h1) b hb), h.nd, ?_, fun b hb => .inr hb, fun b hb => .inl (h.sm b hb), fun r hr b hb => .inl (h.sr r hr b hb), ?_⟩
  · intro r hr b hb hw
    rcases hnew b hw with h1 | h1
    · exact h.nw r hr b hb h1
    · have := h.lt b (h.sr r hr b hb); omega
  · rintro b (hb | hb)
    · exact Nat.lt_of_lt_of_le (h.lt b hb) f.size
    · exact own_lt ho b hb
/-- a row more. -/
theorem XP.snocR {w w1 w' : World} {ks : List Int} {M : List (List Int)} {wv Mv Mv' r : Value} {rs : List Value} {S : Nat → Prop} {l : List Int} (h : XP w ks M wv Mv rs S) (f1 : Frm Non w w1) (hr : Own w1 2 1 r l.length (ints l)) (hrn : ∀ b, r.ownBlock = some b → w.heap.size ≤ b)
    (f : Frm (fun b => Mv.ownBlock = some b) w1 w') (ho : Own w' 22 1 Mv' (rs.length + 1) (rs ++ [r])) (_hnew : ∀ b, Mv'.ownBlock = some b → Mv.ownBlock = some b ∨ w.heap.size ≤ b) :
    XP w' ks (M ++ [l]) wv Mv' (rs ++ [r]) (fun b => S b ∨ r.ownBlock = some b ∨ Mv'.ownBlock = some b) := by
  have h1 := h.frm f1 (fun _ _ x => x)
  have hold : ∀ q ∈ rs, ∀ b, q.ownBlock = some b → b < w.heap.size := fun q hq b hb => h.lt b (h.sr q hq b hb)
  refine ⟨own_frm h1.wo f (fun b hb => own_own h1.wo h1.mo (by decide) hb), by simpa using ho, by simp [h.lm], ?_, ?_, ?_, fun b hb => .inl (h.sw b hb), fun b hb => .inr (.inr hb), ?_, ?_⟩
  · intro i q m g1 g2
    rw [List.getElem?_append] at g1 g2
    by_cases hi : i < rs.length
    · rw [if_pos hi] at g1
      rw [if_pos (by rw [h.lm]; exact hi)] at g2
      have hq := h1.rows i q m g1 g2
      exact own_frm hq f (fun b hb => own_own hq h1.mo (by decide) hb)
    · rw [if_neg hi] at g1
      rw [if_neg (by rw [h.lm]; exact hi)] at g2
      obtain ⟨h5, rfl⟩ := List.getElem?_eq_some_iff.1 g1
      obtain ⟨h6, rfl⟩ := List.getElem?_eq_some_iff.1 g2
      simp only [List.getElem_singleton]
      exact own_frm hr f (fun b hb => own_own hr h1.mo (by decide) hb)
  · intro i j q q' b g1 g2 g3 g4
    rw [List.getElem?_append] at g1 g2
    have last : ∀ i' q', ¬ i' < rs.length → ([r] : List Value)[i' - rs.length]? = some q' → i' = rs.length ∧ q' = r := fun i' q' h8 h9 => by
      obtain ⟨h5, rfl⟩ := List.getElem?_eq_some_iff.1 h9
      simp at h5
      exact ⟨by omega, by simp⟩
    split at g1 <;> split at g2
    · exact h.nd i j q q' b g1 g2 g3 g4
    · obtain ⟨_, rfl⟩ := last j q' (by assumption) g2
      have := hold q (List.mem_of_getElem? g1) b g3; have := hrn b g4; omega
    · obtain ⟨_, rfl⟩ := last i q (by assumption) g1
      have := hold q' (List.mem_of_getElem? g2) b g4; have := hrn b g3; omega
    · have := last i q (by assumption) g1; have := last j q' (by assumption) g2; omega
  · intro q hq b hb
    rcases List.mem_append.1 hq with hq | hq
    · exact h.nw q hq b hb
    · simp at hq; subst hq
      intro hw
      have := h.lt b (h.sw b hw); have := hrn b hb; omega
  · intro q hq b hb
    rcases List.mem_append.1 hq with hq | hq
    · exact .inl (h.sr q hq b hb)
    · simp at hq; subst hq; exact .inr (.inl hb)
  · rintro b (hb | hb | hb)
    · exact Nat.lt_of_lt_of_le (h1.lt b hb) f.size
    · exact Nat.lt_of_lt_of_le (own_lt hr b hb) f.size
    · exact own_lt ho b hb
theorem mat_zero (n : Nat) : matOf zeroB n = List.replicate n (List.replicate n 0) := by
  apply List.ext_getElem?
  intro i
  simp only [matOf, List.getElem?_map, List.getElem?_replicate]
  by_cases h : i < n
  · simp only [h, List.getElem?_range, Option.map_some, if_true]
    congr 1
    apply List.ext_getElem?
    intro j
    simp only [List.getElem?_map, List.getElem?_replicate]
    by_cases hj : j < n
    · simp [hj, zeroB]
    · simp [hj]
  · simp [h]

set_option maxRecDepth 100000 in
theorem rnew_any (ws : List Int) (v : Value) (w : World) (h : Rd w v ws.length (ints ws)) :
    Calls Try.prog 65 #[v] w fun e w' => Frm Non w w' ∧ ((newE ws ≠ 0 ∧ e = .returned (.tuple #[.agg #[.slice none 0 0, .slice none 0 0], .int .i64 (newE ws)])) ∨
      (newE ws = 0 ∧ ∃ x S, e = .returned (.tuple #[x, .int .i64 0]) ∧ XAt w' x ws zeroB S ∧ ∀ b, S b → w.heap.size ≤ b)) := by
  have h0 := h
  obtain ⟨a, cap, rfl, hcap, hnil, hc⟩ := h
  by_cases hn : 4096 < ws.length
  · have hE : newE ws = 3 := if_pos hn
    rw [hE]
    clear hE
    go_enter Try.func65, Try.ntmps65
    go_wp2
    refine bodyPost_ret (v := .tuple #[.agg #[.slice none 0 0, .slice none 0 0], .int .i64 3]) (by simp [results, Try.results65, go_sem]) rfl ⟨((Frm.refl _).alloc _).alloc _, .inl ⟨by decide, rfl⟩⟩
  · go_enter Try.func65, Try.ntmps65
    go_wp2
    go_loop [5] (fun i => ∃ k : Nat, k ≤ ws.length ∧ i = .int .i64 k ∧ (∀ j (hj : j < ws.length), j < k → mayB ws[j] = true)) (fun i => (ws.length - intOf i).toNat)
    case atStart => exact ⟨0, Nat.zero_le _, rfl, fun j _ h => by omega⟩
    case round =>
      obtain ⟨k, hk, rfl, hmay⟩ := hrel
      by_cases hlt : k < ws.length
      · have hF0 : Frm Non w ((w.alloc (.cells #[.slice none 0 0, .slice none 0 0] 28)).alloc (.cells #[.slice none 0 0, .slice none 0 0] 28)) := ((Frm.refl w).alloc _).alloc _
        obtain ⟨b, off, rfl, hc1⟩ := ints_at (hc.frm hF0 (Off.non _)) k hlt
        have hmx := rmay_any ws[k]
        cases hm : mayB ws[k] with
        | false =>
          have hE : newE ws = 23 := by unfold newE; rw [if_neg (by omega), allMay_at hlt hm]; rfl
          rw [hm] at hmx
          have HE := Lib.hid hE
          clear hE hm hmay
          go_wp2_with (go_at_call 103; refine (hmx _).mono ?_; rintro e w' ⟨rfl, rfl⟩)
          refine bodyPost_ret (v := .tuple #[.agg #[.slice none 0 0, .slice none 0 0], .int .i64 23]) (by simp [results, Try.results65, go_sem]) rfl ?_
          rw [HE.out]
          exact ⟨((Frm.refl _).alloc _).alloc _, .inl ⟨by decide, rfl⟩⟩
        | true =>
          rw [hm] at hmx
          have HM := Lib.hid hm
          have HY := Lib.hid hmay
          clear hm hmay
          go_wp2_with (go_at_call 103; refine (hmx _).mono ?_; rintro e w' ⟨rfl, rfl⟩)
          go_round
          case rel => exact ⟨k + 1, by omega, by go_num, fun j hj hjk => by
            rcases Nat.lt_or_ge j k with h5 | h5
            · exact HY.out j hj h5
            · obtain rfl : j = k := by omega
              exact HM.out⟩
          case measure => simp [intOf]; omega
      · obtain rfl : k = ws.length := by omega
        have hE : newE ws = 0 := by unfold newE; rw [if_neg (by omega), allMay_of (fun i hi => hmay i hi hi)]; rfl
        have HE := Lib.hid hE
        clear hE hmay
        go_wp2
        have hF0 : Frm Non w ((w.alloc (.cells #[.slice none 0 0, .slice none 0 0] 28)).alloc (.cells #[.slice none 0 0, .slice none 0 0] 28)) := ((Frm.refl w).alloc _).alloc _
        go_loopw [6] (fun i wr => ∃ (k : Nat) (wv Mv : Value) (rs : List Value) (S : Nat → Prop), k ≤ ws.length ∧ i = .int .i64 k ∧ XP wr (ws.take k) (List.replicate k (List.replicate ws.length 0)) wv Mv rs S ∧
          wr.heap[w.heap.size + 1]? = some (.cells #[wv, Mv] 28 (0, 0)) ∧ wr.heap[w.heap.size]? = some (.cells #[.slice none 0 0, .slice none 0 0] 28 (0, 0)) ∧ (∀ b, S b → w.heap.size + 2 ≤ b) ∧ Frm Non w wr) (fun i _ => (ws.length - intOf i).toNat)
        case atStart =>
          refine ⟨0, .slice none 0 0, .slice none 0 0, [], Non, Nat.zero_le _, rfl, ⟨own_nil _ _ _, own_nil _ _ _, rfl, fun i r l h1 => by simp at h1, fun i j r q b h1 => by simp at h1, fun r hr => by simp at hr, fun b hb => by simp [Value.ownBlock] at hb, fun b hb => by simp [Value.ownBlock] at hb, fun r hr => by simp at hr, fun b hb => hb.elim⟩, ?_, ?_, fun b hb => hb.elim, hF0⟩
          · have := heap_alloc_new (w.alloc (.cells #[.slice none 0 0, .slice none 0 0] 28)) (.cells #[.slice none 0 0, .slice none 0 0] 28)
            simpa using this
          · exact (Below.heap_alloc _ _ _ (by simp)).trans (heap_alloc_new w _)
        case round =>
          obtain ⟨k, wv, Mv, rs, S, hk, rfl, hX, hg4, hg2, hS, hF⟩ := hrel
          obtain ⟨d0, d1, d2, d3⟩ := blk_cell2 hg4
          obtain ⟨wa, wc, hwv, _, _, _⟩ := own_rd hX.wo
          obtain ⟨ma, mc, hMv, _, _, _⟩ := own_rd hX.mo
          subst hwv hMv
          by_cases hlt : k < ws.length
          · obtain ⟨b, off, rfl, hc1⟩ := ints_at (hc.frm hF (Off.non _)) k hlt
            have hlt4 : w.heap.size + 1 < wr.heap.size := (Array.getElem?_eq_some_iff.1 hg4).1
            have hfA : Frm Non wr (wr.drew.alloc (.cells #[.int .i64 ws[k]] 2)) := ((Frm.refl wr).drew).alloc _
            have hno := own_frm hX.wo hfA (fun _ _ x => x)
            have hrd : Rd (wr.drew.alloc (.cells #[.int .i64 ws[k]] 2)) (.slice (some ⟨wr.heap.size, 0, none⟩) 1 1) 1 [.int .i64 ws[k]] :=
              ⟨_, 1, rfl, Nat.le_refl _, (fun h => by cases h), fun _ => ⟨wr.heap.size, 0, #[.int .i64 ws[k]], 2, (0, 0), rfl, heap_alloc_new wr.drew _, fun i hi => by simp⟩⟩
            have htk : (ws.take k).length = k := by rw [List.length_take]; omega
            rw [htk] at hno
            obtain ⟨f0, f1⟩ : wr.drew.cell? ⟨w.heap.size + 1, 0, none⟩ = some (.slice wa (ws.take k).length wc) ∧ wr.drew.cell? ⟨b, off + k, none⟩ = some (.int .i64 ws[k]) := ⟨d0, hc1⟩
            rw [htk] at d0 f0
            go_wp2
            have f0' := hfA.cell d0 (fun x => x)
            have hcell : ∀ u ∈ [Value.int .i64 ws[k]], u.oneCell' = true := fun u hu => by simp at hu; subst hu; rfl
            have hgbk : ∀ {w3 : World}, Frm (fun b => (Value.slice wa k wc).ownBlock = some b) (wr.drew.alloc (.cells #[.int .i64 ws[k]] 2)) w3 → w3.heap[w.heap.size + 1]? = some (.cells #[.slice wa k wc, .slice ma rs.length mc] 28 (0, 0)) ∧ w3.heap[w.heap.size]? = some (.cells #[.slice none 0 0, .slice none 0 0] 28 (0, 0)) := fun {w3} h3 => by
              refine ⟨(h3.block _ (by simp; omega) (own_ne hX.wo hg4 (by decide) |> fun x => by rwa [htk] at x)).trans ((hfA.block _ hlt4 (fun x => x)).trans (by rw [htk] at hg4; exact hg4)), (h3.block _ (by simp; omega) (own_ne hX.wo hg2 (by decide) |> fun x => by rwa [htk] at x)).trans ((hfA.block _ (by omega) (fun x => x)).trans hg2)⟩
            go_cut [] (fun w' => ∃ wv' S', XP w' (ws.take (k + 1)) (List.replicate k (List.replicate ws.length 0)) wv' (.slice ma rs.length mc) rs S' ∧ w'.heap[w.heap.size + 1]? = some (.cells #[wv', .slice ma rs.length mc] 28 (0, 0)) ∧ w'.heap[w.heap.size]? = some (.cells #[.slice none 0 0, .slice none 0 0] 28 (0, 0)) ∧ (∀ b, S' b → w.heap.size + 2 ≤ b) ∧ Frm Non w w')
            case first =>
              go_region_law (refine step_app rfl (.tmp 32) (.tmp 37) T22 rfl hno (by simp [Act.eval]) hrd (by simp [Act.eval]) rfl hcell (by unfold maxLen; omega) (by omega) ?_; intro wv' w3 h2 h3 h4; obtain ⟨hgb3, hgb2⟩ := hgbk h3; obtain ⟨k0, k1, k2, k3⟩ := blk_cell2 hgb3; obtain ⟨na', nc', hnv', _, _, _⟩ := own_rd h2; subst hnv')
              all_goals
                go_wp2
                go_meet
                have hfull : Frm (fun b => (Value.slice wa (ws.take k).length wc).ownBlock = some b) wr w3 := by rw [htk]; exact hfA.trans h3 (fun _ x => x.elim) (fun _ x => .inl x)
                have hsn := hX.snocW (x := ws[k]) hfull (by rw [htk, show ints (ws.take k ++ [ws[k]]) = ints (ws.take k) ++ [.int .i64 ws[k]] from by unfold ints; rw [List.map_append]; rfl]; exact h2) (fun b hb => by
                  rcases h4 b hb with h5 | h5
                  · exact .inl (by rw [htk]; exact h5)
                  · simp at h5; exact .inr (by omega))
                rw [take_snoc ws k hlt] at hsn
                have hS' : ∀ b, (S b ∨ (Value.slice na' (k + 1) nc').ownBlock = some b) → w.heap.size + 2 ≤ b := fun b hb => by
                  rcases hb with hb | hb
                  · exact hS b hb
                  · rcases h4 b hb with h5 | h5
                    · exact hS b (hX.sw b (by rw [htk]; exact h5))
                    · simp at h5; omega
                have hfs : Frm (fun b => b = w.heap.size + 1) w3 (w3.setCell ⟨w.heap.size + 1, 0, none⟩ (.slice na' (k + 1) nc')) := (Frm.refl w3).setCell _ (.inl rfl)
                exact ⟨.slice na' (k + 1) nc', _, hsn.frm hfs (fun b hb e => by have := hS' b hb; omega), set_two0 hgb3 _, (hfs.block _ (Array.getElem?_eq_some_iff.1 hgb2).1 (by omega)).trans hgb2, hS',
                  ((hF.trans (U := Non) hfull (fun _ x => x) (fun b hb => .inr (by have := hS b (hX.sw b hb); omega))).setCell _ (.inr (by simp)))⟩
            case rest =>
              clear hX hg4 hg2 hS hF hno hrd f0 f1 f0' hcell hgbk d0 d1 d2 d3 hc1 hfA hlt4
              obtain ⟨wv', S', hX, hg4, hg2, hS, hF⟩ := hcut
              obtain ⟨d0, d1, d2, d3⟩ := blk_cell2 hg4
              obtain ⟨wa, wc', hwv, _, _, _⟩ := own_rd hX.wo
              subst hwv
              have htk1 : (ws.take (k + 1)).length = k + 1 := by rw [List.length_take]; omega
              have hlt4 : w.heap.size + 1 < wc.heap.size := (Array.getElem?_eq_some_iff.1 hg4).1
              have hmk := run_make0 T22 ws.length (by omega)
              have hfA : Frm Non wc (wc.drew.alloc (.cells (zrow ws.length) 2)) := ((Frm.refl wc).drew).alloc _
              have hfB : Frm Non wc ((wc.drew.alloc (.cells (zrow ws.length) 2)).alloc (.cells #[.slice (some ⟨wc.heap.size, 0, none⟩) ws.length ws.length] 22)) := hfA.alloc _
              have hmo := own_frm hX.mo hfB (fun _ _ x => x)
              have hro : Own ((wc.drew.alloc (.cells (zrow ws.length) 2)).alloc (.cells #[.slice (some ⟨wc.heap.size, 0, none⟩) ws.length ws.length] 22)) 2 1 (.slice (some ⟨wc.heap.size, 0, none⟩) ws.length ws.length) ws.length (ints (List.replicate ws.length 0)) := own_alloc (own_zrow wc.drew 2 ws.length (by omega)) _
              have hrd : Rd ((wc.drew.alloc (.cells (zrow ws.length) 2)).alloc (.cells #[.slice (some ⟨wc.heap.size, 0, none⟩) ws.length ws.length] 22)) (.slice (some ⟨wc.heap.size + 1, 0, none⟩) 1 1) 1 [.slice (some ⟨wc.heap.size, 0, none⟩) ws.length ws.length] :=
                ⟨_, 1, rfl, Nat.le_refl _, (fun h => by cases h), fun _ => ⟨wc.heap.size + 1, 0, #[.slice (some ⟨wc.heap.size, 0, none⟩) ws.length ws.length], 22, (0, 0), rfl, by have := heap_alloc_new (wc.drew.alloc (.cells (zrow ws.length) 2)) (.cells #[.slice (some ⟨wc.heap.size, 0, none⟩) ws.length ws.length] 22); simpa using this, fun i hi => by simp⟩⟩
              have f1 : wc.drew.cell? ⟨w.heap.size + 1, 1, none⟩ = some (.slice ma rs.length mc) := d1
              have f1' := hfA.cell d1 (fun x => x)
              have f1'' := hfB.cell d1 (fun x => x)
              have f1n : (wc.alloc (.cells (zrow ws.length) 2)).cell? ⟨w.heap.size + 1, 1, none⟩ = some (.slice ma rs.length mc) := f1'
              have f1m : ((wc.alloc (.cells (zrow ws.length) 2)).alloc (.cells #[.slice (some ⟨wc.heap.size, 0, none⟩) ws.length ws.length] 22)).cell? ⟨w.heap.size + 1, 1, none⟩ = some (.slice ma rs.length mc) := f1''
              have hcell : ∀ u ∈ [Value.slice (some ⟨wc.heap.size, 0, none⟩) ws.length ws.length], u.oneCell' = true := fun u hu => by simp at hu; subst hu; rfl
              have hrs : rs.length ≤ 4096 := by have := hX.lm; simp at this; omega
              have hgbk : ∀ {w3 : World}, Frm (fun b => (Value.slice ma rs.length mc).ownBlock = some b) ((wc.drew.alloc (.cells (zrow ws.length) 2)).alloc (.cells #[.slice (some ⟨wc.heap.size, 0, none⟩) ws.length ws.length] 22)) w3 → w3.heap[w.heap.size + 1]? = some (.cells #[.slice wa (ws.take (k + 1)).length wc', .slice ma rs.length mc] 28 (0, 0)) ∧ w3.heap[w.heap.size]? = some (.cells #[.slice none 0 0, .slice none 0 0] 28 (0, 0)) := fun {w3} h3 => by
                refine ⟨(h3.block _ (by simp; omega) (own_ne hX.mo hg4 (by decide))).trans ((hfB.block _ hlt4 (fun x => x)).trans hg4), (h3.block _ (by simp; omega) (own_ne hX.mo hg2 (by decide))).trans ((hfB.block _ (by omega) (fun x => x)).trans hg2)⟩
              go_wp2
              go_region_law (refine step_app rfl (.tmp 41) (.tmp 45) T26 rfl hmo (by simp [Act.eval]) hrd (by simp [Act.eval]) rfl hcell (by unfold maxLen; omega) (by omega) ?_; intro Mv' w3 h2 h3 h4; obtain ⟨hgb3, hgb2⟩ := hgbk h3; obtain ⟨k0, k1, k2, k3⟩ := blk_cell2 hgb3; obtain ⟨na', nc', hnv', _, _, _⟩ := own_rd h2; subst hnv')
              all_goals
                have hsn := hX.snocR (l := List.replicate ws.length 0) hfB (by rw [List.length_replicate]; exact hro) (fun b hb => by simp [Value.ownBlock] at hb; omega) h3 h2 (fun b hb => by
                  rcases h4 b hb with h5 | h5
                  · exact .inl h5
                  · simp at h5; exact .inr (by omega))
                rw [← List.replicate_succ'] at hsn
                have hS' : ∀ b, (S' b ∨ (Value.slice (some ⟨wc.heap.size, 0, none⟩) ws.length ws.length).ownBlock = some b ∨ (Value.slice na' (rs.length + 1) nc').ownBlock = some b) → w.heap.size + 2 ≤ b := fun b hb => by
                  rcases hb with hb | hb | hb
                  · exact hS b hb
                  · simp [Value.ownBlock] at hb; omega
                  · rcases h4 b hb with h5 | h5
                    · exact hS b (hX.sm b h5)
                    · simp at h5; omega
                have hfs : Frm (fun b => b = w.heap.size + 1) w3 (w3.setCell ⟨w.heap.size + 1, 1, none⟩ (.slice na' (rs.length + 1) nc')) := (Frm.refl w3).setCell _ (.inl rfl)
                have hfin := hsn.frm hfs (fun b hb e => by have := hS' b hb; omega)
                have hg4' := set_two hgb3 (.slice na' (rs.length + 1) nc')
                have hg2' := (hfs.block _ (Array.getElem?_eq_some_iff.1 hgb2).1 (by omega)).trans hgb2
                have hF' : Frm Non w (w3.setCell ⟨w.heap.size + 1, 1, none⟩ (.slice na' (rs.length + 1) nc')) := (((hF.trans' hfB).trans (U := Non) h3 (fun _ x => x) (fun b hb => .inr (by have := hS b (hX.sm b hb); omega))).setCell _ (.inr (by simp)))
                clear hX hg4 hg2 hS hF hmk hfA hfB hmo hro hrd f1 f1' f1'' f1n f1m hcell hgbk d0 d1 d2 d3 hlt4 h2 h3 h4 hsn hfs hgb3 hgb2 k0 k1 k2 k3
                go_wp2
                exact ⟨⟨k + 1, _, _, _, _, by omega, by go_num, hfin, hg4', hg2', hS', hF'⟩, by simp [intOf]; omega⟩
          · obtain rfl : k = ws.length := by omega
            have htk : ws.take ws.length = ws := List.take_length
            rw [htk] at hX hg4 d0
            have hg2l : w.heap.size < wr.heap.size := (Array.getElem?_eq_some_iff.1 hg2).1
            obtain ⟨e0, e1, e2, e3⟩ := blk_cell2 hg2
            have hXf : XP ((wr.setCell ⟨w.heap.size, 0, none⟩ (.slice wa ws.length wc)).setCell ⟨w.heap.size, 1, none⟩ (.slice ma rs.length mc)) ws (matOf zeroB ws.length) (.slice wa ws.length wc) (.slice ma rs.length mc) rs S := by
              rw [mat_zero]
              have hff : Frm (fun b => b = w.heap.size) wr ((wr.setCell ⟨w.heap.size, 0, none⟩ (.slice wa ws.length wc)).setCell ⟨w.heap.size, 1, none⟩ (.slice ma rs.length mc)) := by
                refine Frm.setCell (Frm.setCell (Frm.refl wr) _ ?_) _ ?_
                · exact .inl rfl
                · exact .inl rfl
              exact hX.frm hff (fun b hb e => by have := hS b hb; omega)
            have hFf : Frm Non w ((wr.setCell ⟨w.heap.size, 0, none⟩ (.slice wa ws.length wc)).setCell ⟨w.heap.size, 1, none⟩ (.slice ma rs.length mc)) := (hF.setCell _ (.inr (Nat.le_refl _))).setCell _ (.inr (Nat.le_refl _))
            have hrc := set_two (set_two0 hg2 (.slice wa ws.length wc)) (.slice ma rs.length mc)
            obtain ⟨r0, r1, _, _⟩ := blk_cell2 hrc
            have HXF := Lib.hid hXf
            have htl : (List.take ws.length ws).length = ws.length := by rw [htk]
            clear htk hXf
            go_wp2
            refine bodyPost_ret (v := .tuple #[.agg #[.slice wa ws.length wc, .slice ma rs.length mc], .int .i64 0]) (by simp [results, Try.results65, go_sem, r0, r1]) rfl ⟨hFf, .inr ⟨HE.out, _, S, rfl, ⟨_, _, _, rfl, HXF.out⟩, fun b hb => by have := hS b hb; omega⟩⟩
end Go.Proofs.Ytjkcclcjhidokaa
