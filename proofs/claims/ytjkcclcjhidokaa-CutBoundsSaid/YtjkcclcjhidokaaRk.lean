/- The ranked map (ints to int64s), walked. -/
import Derived.Test.YtjkcclcjhidokaaIns
namespace Go.Proofs.Ytjkcclcjhidokaa
open Go.RowKit
set_option maxHeartbeats 400000

theorem isNaN_any (a : Int) (w : World) : Calls Try.prog 143 #[.int .i64 a] w fun e w' => e = .returned (.bool false) ∧ w = w' := by
  go_enter Try.func143, Try.ntmps143
  go_wp2
  go_ret
  exact ⟨by simp, rfl⟩
def cmpI (a b : Int) : Int := if a < b then -1 else if b < a then 1 else 0
theorem cmp_any (a b : Int) (w : World) : Calls Try.prog 137 #[.int .i64 a, .int .i64 b] w fun e w' => e = .returned (.int .i64 (cmpI a b)) ∧ w = w' := by
  unfold cmpI
  go_enter Try.func137, Try.ntmps137
  go_wp2_with (go_at_call 143; refine (isNaN_any _ _).mono ?_; rintro e w' ⟨rfl, rfl⟩)
  · go_ret
    exact ⟨by simp [*] <;> omega, rfl⟩
  · go_ret
    exact ⟨by simp [*] <;> omega, rfl⟩
  · go_ret
    exact ⟨by simp [*] <;> omega, rfl⟩
theorem find1_any (k v t : Int) (w : World) : Calls Try.prog 136 #[.agg #[.int .i64 k, .int .i64 v], .int .i64 t] w fun e w' => e = .returned (.int .i64 (cmpI k t)) ∧ Frm Non w w' := by
  go_enter Try.func136, Try.ntmps136
  go_wp2_with (go_at_call 137; refine (cmp_any _ _ _).mono ?_; rintro e w' ⟨rfl, rfl⟩)
  go_ret
  exact ⟨rfl, (Frm.refl _).alloc _⟩

def Srt (es : List (Int × Int)) : Prop := es.Pairwise fun a b => a.1 < b.1
/-- how many keys are less. -/
def lb (es : List (Int × Int)) (t : Int) : Nat := (es.filter fun e => e.1 < t).length
def hasK (es : List (Int × Int)) (t : Int) : Bool := es.any fun e => e.1 == t
theorem lb_le (es : List (Int × Int)) (t : Int) : lb es t ≤ es.length := List.length_filter_le _ _
def Srch (es : List (Int × Int)) (t : Int) (x y : Nat) : Prop := x ≤ y ∧ y ≤ es.length ∧ (∀ i (h : i < es.length), i < x → es[i].1 < t) ∧ (∀ i (h : i < es.length), y ≤ i → t ≤ es[i].1)
theorem Srch.le {es : List (Int × Int)} {t : Int} {x y : Nat} (h : Srch es t x y) : x ≤ y ∧ y ≤ es.length := ⟨h.1, h.2.1⟩
theorem srch_start (es : List (Int × Int)) (t : Int) : Srch es t 0 es.length := ⟨Nat.zero_le _, Nat.le_refl _, fun _ _ h => by omega, fun _ _ h => by omega⟩
theorem srt_get {es : List (Int × Int)} (hs : Srt es) (i j : Nat) (hi : i < es.length) (hj : j < es.length) (h : i < j) : es[i].1 < es[j].1 := List.pairwise_iff_getElem.1 hs i j hi hj h
theorem Srch.up {es : List (Int × Int)} {t : Int} {x y m : Nat} (hs : Srt es) (h : Srch es t x y) (hm : m < es.length) (hy : m < y) (hlt : es[m].1 < t) : Srch es t (m + 1) y :=
  ⟨by omega, h.2.1, fun i hi hlt' => by
    rcases Nat.lt_or_ge i m with h1 | h1
    · exact Int.lt_trans (srt_get hs i m hi hm h1) hlt
    · obtain rfl : i = m := by omega
      exact hlt, h.2.2.2⟩
theorem Srch.down {es : List (Int × Int)} {t : Int} {x y m : Nat} (hs : Srt es) (h : Srch es t x y) (hm : m < es.length) (hx : x ≤ m) (hge : t ≤ es[m].1) : Srch es t x m :=
  ⟨hx, by omega, h.2.2.1, fun i hi hle => by
    rcases Nat.lt_or_ge m i with h1 | h1
    · exact Int.le_trans hge (Int.le_of_lt (srt_get hs m i hm hi h1))
    · obtain rfl : i = m := by omega
      exact hge⟩
theorem lb_of (es : List (Int × Int)) (t : Int) : ∀ (x : Nat), x ≤ es.length → (∀ i (h : i < es.length), i < x → es[i].1 < t) → (∀ i (h : i < es.length), x ≤ i → t ≤ es[i].1) → lb es t = x := by
  induction es with
  | nil => intro x hx _ _; simp at hx; subst hx; rfl
  | cons e es ih =>
    intro x hx h1 h2
    cases x with
    | zero =>
      have h0 := h2 0 (by simp) (Nat.le_refl _)
      have := ih 0 (Nat.zero_le _) (fun _ _ h => by omega) (fun i hi _ => by have := h2 (i + 1) (by simpa using hi) (Nat.zero_le _); simpa using this)
      unfold lb at this ⊢
      rw [List.filter_cons, if_neg (by simpa using h0)]
      exact this
    | succ x =>
      have h0 := h1 0 (by simp) (Nat.succ_pos _)
      have := ih x (by simpa using hx) (fun i hi hlt => by have := h1 (i + 1) (by simpa using hi) (by omega); simpa using this) (fun i hi hle => by have := h2 (i + 1) (by simpa using hi) (by omega); simpa using this)
      unfold lb at this ⊢
      rw [List.filter_cons, if_pos (by simpa using h0), List.length_cons, this]
theorem Srch.lb {es : List (Int × Int)} {t : Int} {x : Nat} (h : Srch es t x x) : lb es t = x := lb_of es t x h.2.1 h.2.2.1 h.2.2.2
theorem Srch.has {es : List (Int × Int)} {t : Int} {x : Nat} (hs : Srt es) (h : Srch es t x x) (hx : x < es.length) : hasK es t = decide (es[x].1 = t) := by
  unfold hasK
  rw [Bool.eq_iff_iff]
  simp only [List.any_eq_true, beq_iff_eq, decide_eq_true_eq]
  constructor
  · rintro ⟨e, he, rfl⟩
    obtain ⟨i, hi, rfl⟩ := List.getElem_of_mem he
    rcases Nat.lt_trichotomy i x with h1 | h1 | h1
    · have := h.2.2.1 i hi h1; omega
    · subst h1; rfl
    · have := srt_get hs x i hx hi h1
      have := h.2.2.2 x hx (Nat.le_refl _)
      omega
  · intro he
    exact ⟨_, List.getElem_mem hx, he⟩
theorem Srch.hasNot {es : List (Int × Int)} {t : Int} (h : Srch es t es.length es.length) : hasK es t = false := by
  unfold hasK
  rw [List.any_eq_false]
  intro e he
  obtain ⟨i, hi, rfl⟩ := List.getElem_of_mem he
  have := h.2.2.1 i hi hi
  simp; omega
theorem cmpI_lt (a b : Int) : cmpI a b < 0 ↔ a < b := by unfold cmpI; split <;> (try split) <;> omega
theorem cmpI_eq (a b : Int) : cmpI a b = 0 ↔ a = b := by unfold cmpI; split <;> (try split) <;> omega
theorem cmpI_beq (a b : Int) : (cmpI a b == 0) = decide (a = b) := by rw [Bool.eq_iff_iff]; simp [cmpI_eq]

theorem bsearch_any (es : List (Int × Int)) (v : Value) (t : Int) (w : World) (h : Rd w v es.length (flat2 es)) (hs : Srt es) (hn : es.length ≤ 1000000) :
    Calls Try.prog 135 #[v, .int .i64 t, .func (.func 136) #[] #[]] w fun e w' => e = .returned (.tuple #[.int .i64 (lb es t), .bool (hasK es t)]) ∧ Frm Non w w' := by
  obtain ⟨a, cap, rfl, hcap, hnil, hc⟩ := h
  go_enter Try.func135, Try.ntmps135
  go_wp2
  go_loopw [9, 10] (fun i j wr => ∃ x y : Nat, Srch es t x y ∧ i = .int .i64 x ∧ j = .int .i64 y ∧ Frm Non w wr) (fun i j _ => (intOf j - intOf i).toNat)
  case atStart => exact ⟨0, es.length, srch_start es t, rfl, rfl, Frm.refl _⟩
  case round =>
    obtain ⟨x, y, hsr, rfl, rfl, hf⟩ := hrel
    obtain ⟨hxy, hy⟩ := hsr.le
    by_cases hlt : x < y
    · obtain ⟨b, off, rfl, hk, hv⟩ := flat2_at (hc.frm hf (Off.non _)) ((x + y) / 2) (by omega)
      go_wp2_with (go_at_call 136; refine (find1_any _ _ _ _).mono ?_; rintro e w' ⟨rfl, hf1⟩)
      · rename_i hcm
        rw [cmpI_lt] at hcm
        exact ⟨⟨(x + y) / 2 + 1, y, hsr.up hs (by omega) (by omega) hcm, by go_num, rfl, hf.trans' hf1⟩, by simp [intOf]; omega⟩
      · rename_i hcm
        have hge : t ≤ es[(x + y) / 2].1 := by
          rcases Int.lt_or_le es[(x + y) / 2].1 t with h1 | h1
          · rw [← cmpI_lt] at h1; omega
          · exact h1
        exact ⟨⟨x, (x + y) / 2, hsr.down hs (by omega) (by omega) hge, rfl, by go_num, hf.trans' hf1⟩, by simp [intOf]; omega⟩
    · obtain rfl : x = y := by omega
      have hlb := hsr.lb
      by_cases hx : x < es.length
      · obtain ⟨b, off, rfl, hk, hv⟩ := flat2_at (hc.frm hf (Off.non _)) x hx
        have hh := hsr.has hs hx
        have HH := Lib.hid hh
        have HL := Lib.hid hlb
        clear hh hlb
        go_wp2_with (go_at_call 136; refine (find1_any _ _ _ _).mono ?_; rintro e w' ⟨rfl, hf1⟩)
        go_ret2
        exact ⟨by rw [HH.out, HL.out, ← cmpI_beq]; simp, hf.trans' hf1⟩
      · obtain rfl : x = es.length := by omega
        have hh := hsr.hasNot
        have HH := Lib.hid hh
        have HL := Lib.hid hlb
        clear hh hlb
        go_wp2
        go_ret2
        exact ⟨by rw [HH.out, HL.out]; simp, hf⟩

/-- a map of entries at block m, its slice v. -/
structure MapAt (w : World) (m : Nat) (es : List (Int × Int)) (v : Value) : Prop where
  blk : w.heap[m]? = some (.cells #[v] 157 (0, 0))
  own : Own w 180 2 v es.length (flat2 es)
theorem MapAt.frm {S : Nat → Prop} {w w' : World} {m : Nat} {es : List (Int × Int)} {v : Value} (h : MapAt w m es v) (f : Frm S w w') (h1 : ¬ S m) (h2 : ∀ b, v.ownBlock = some b → ¬ S b) : MapAt w' m es v :=
  ⟨(f.block m (Array.getElem?_eq_some_iff.1 h.blk).1 h1).trans h.blk, own_frm h.own f h2⟩
theorem blk_cell1 {w : World} {m : Nat} {v : Value} {t : Nat} (h : w.heap[m]? = some (.cells #[v] t (0, 0))) : w.cell? ⟨m, 0, none⟩ = some v ∧ w.frozen? ⟨m, 0, none⟩ = false := by
  simp [World.cell?, World.frozen?, h]
def ptr (m : Nat) : Value := .pointer (some ⟨m, 0, none⟩)

theorem set_one {w : World} {m : Nat} {v : Value} {t : Nat} (h : w.heap[m]? = some (.cells #[v] t (0, 0))) (u : Value) : (w.setCell ⟨m, 0, none⟩ u).heap[m]? = some (.cells #[u] t (0, 0)) := by
  obtain ⟨hlt, hv⟩ := Array.getElem?_eq_some_iff.1 h
  simp only [World.setCell]
  rw [Array.getElem?_eq_getElem (by simpa using hlt), Array.getElem_modify_self, hv]
  simp
theorem find_any (es : List (Int × Int)) (m : Nat) (v : Value) (t : Int) (w : World) (h : MapAt w m es v) (hs : Srt es) (hn : es.length ≤ 1000000) :
    Calls Try.prog 126 #[ptr m, .int .i64 t] w fun e w' => e = .returned (.tuple #[.int .i64 (lb es t), .bool (hasK es t)]) ∧ Frm Non w w' := by
  obtain ⟨hc, _⟩ := blk_cell1 h.blk
  have hrd := own_rd h.own
  unfold ptr
  go_enter Try.func126, Try.ntmps126
  go_wp2_with (go_at_call 135; refine (bsearch_any es _ _ _ hrd hs hn).mono ?_; rintro e w' ⟨rfl, hf1⟩)
  go_ret2
  exact ⟨rfl, hf1⟩
theorem rank_any (es : List (Int × Int)) (m : Nat) (v : Value) (t : Int) (w : World) (h : MapAt w m es v) (hs : Srt es) (hn : es.length ≤ 1000000) :
    Calls Try.prog 131 #[ptr m, .int .i64 t] w fun e w' => e = .returned (.int .i64 (lb es t)) ∧ Frm Non w w' := by
  go_enter Try.func131, Try.ntmps131
  go_wp2_with (go_at_call 126; refine (find_any es _ _ _ _ h hs hn).mono ?_; rintro e w' ⟨rfl, hf1⟩)
  go_ret
  exact ⟨rfl, hf1⟩
def getK (es : List (Int × Int)) (k : Int) : Int := ((es.find? fun e => e.1 == k).map (·.2)).getD 0
theorem getK_not {es : List (Int × Int)} {k : Int} (h : hasK es k = false) : getK es k = 0 := by
  unfold getK hasK at *
  rw [List.any_eq_false] at h
  rw [List.find?_eq_none.2 (fun x hx => h x hx)]; rfl
theorem lb_lt {es : List (Int × Int)} (hs : Srt es) {k : Int} (h : hasK es k = true) : ∃ hl : lb es k < es.length, es[lb es k].1 = k := by
  unfold hasK at h
  obtain ⟨e, he, hk⟩ := List.any_eq_true.1 h
  obtain ⟨i, hi, rfl⟩ := List.getElem_of_mem he
  have hk' : es[i].1 = k := by simpa using hk
  have := lb_of es k i (by omega) (fun j hj hlt => by have := srt_get hs j i hj hi hlt; omega) (fun j hj hle => by
    rcases Nat.lt_or_ge i j with h1 | h1
    · have := srt_get hs i j hi hj h1; omega
    · obtain rfl : j = i := by omega
      omega)
  subst this
  exact ⟨hi, hk'⟩
theorem getK_at {es : List (Int × Int)} (hs : Srt es) {k : Int} (i : Nat) (hi : i < es.length) (h : es[i].1 = k) : getK es k = es[i].2 := by
  unfold getK
  rw [List.find?_eq_some_iff_getElem.2 ⟨by simpa using h, i, hi, rfl, fun j hj => by have := srt_get hs j i (by omega) hi hj; simp; omega⟩]
  rfl

theorem get_any (es : List (Int × Int)) (m : Nat) (v : Value) (t : Int) (w : World) (h : MapAt w m es v) (hs : Srt es) (hn : es.length ≤ 1000000) :
    Calls Try.prog 100 #[ptr m, .int .i64 t] w fun e w' => e = .returned (.tuple #[.int .i64 (getK es t), .bool (hasK es t)]) ∧ Frm Non w w' := by
  cases hh : hasK es t with
  | false =>
    rw [getK_not hh]
    go_enter Try.func100, Try.ntmps100
    go_wp2_with (go_at_call 126; refine (find_any es _ _ _ _ h hs hn).mono ?_; rintro e w' ⟨rfl, hf1⟩)
    go_ret2
    exact ⟨rfl, hf1⟩
  | true =>
    obtain ⟨hl, hk⟩ := lb_lt hs hh
    rw [getK_at hs _ hl hk]
    clear hk
    unfold ptr
    have hp : ∀ w', Frm Non w w' → MapAt w' m es v := fun w' f => h.frm f (fun x => x) (fun _ _ x => x)
    obtain ⟨g, cap, rfl, hcap, _⟩ := own_open h.own (by omega)
    have hpc : ∀ w', Frm Non w w' → w'.cell? ⟨m, 0, none⟩ = some (.slice (some ⟨g, 0, none⟩) es.length cap) ∧ w'.cell? ⟨g, lb es t * 2 + 1, none⟩ = some (.int .i64 es[lb es t].2) := fun w' f => by
      refine ⟨(blk_cell1 (hp w' f).blk).1, ?_⟩
      obtain ⟨a, c, e1, _, _, hc⟩ := own_rd (hp w' f).own
      cases e1
      obtain ⟨b, off, e2, _, h2⟩ := flat2_at hc _ hl
      cases e2
      simpa using h2
    go_enter Try.func100, Try.ntmps100
    go_wp2_with (go_at_call 126; refine (find_any es _ _ _ _ h hs hn).mono ?_; rintro e w' ⟨rfl, hf1⟩; obtain ⟨hc1, hc2⟩ := hpc _ hf1; clear hpc)
    go_ret2
    exact ⟨rfl, hf1⟩

def put (es : List (Int × Int)) (k x : Int) : List (Int × Int) := if hasK es k then es.set (lb es k) (k, x) else insAt es (lb es k) (k, x)
theorem flat2_set (es : List (Int × Int)) (i : Nat) (k x : Int) (h : i < es.length) (hk : es[i].1 = k) : flat2 (es.set i (k, x)) = (flat2 es).set (i * 2 + 1) (.int .i64 x) := by
  induction es generalizing i with
  | nil => simp at h
  | cons e es ih =>
    cases i with
    | zero => simp at hk; simp [flat2, hk]
    | succ i =>
      have := ih i (by simpa using h) (by simpa using hk)
      simp only [flat2, List.set_cons_succ, List.flatMap_cons] at this ⊢
      rw [this, show (i + 1) * 2 + 1 = i * 2 + 1 + 1 + 1 from by omega]
      simp

theorem ins_any (es : List (Int × Int)) (i : Nat) (p : Int × Int) (s : Value) (vb : Nat) (w : World) (hs : Own w 180 2 s es.length (flat2 es)) (hv : w.heap[vb]? = some (.cells (flat2 [p]).toArray 180 (0, 0))) (hvb : s.ownBlock ≠ some vb) (hi : i ≤ es.length) (hn : es.length ≤ 1000000) :
    Calls Try.prog 128 #[s, .int .i64 i, .slice (some ⟨vb, 0, none⟩) 1 1] w fun e w' => ∃ s', e = .returned s' ∧ Own w' 180 2 s' (es.length + 1) (flat2 (insAt es i p)) ∧ Frm (fun b => s.ownBlock = some b) w w' ∧
      (∀ b, s'.ownBlock = some b → s.ownBlock = some b ∨ w.heap.size ≤ b) := by
  rcases Nat.lt_or_ge i es.length with h | h
  · obtain ⟨g, cap, rfl, hcap, _⟩ := own_open hs (by omega)
    rcases Nat.lt_or_ge cap (es.length + 1) with hr | hr
    · refine (ins_grow es i p g cap vb w hs hv h hr hn).mono ?_
      rintro e w' ⟨s', rfl, h1, h2, h3⟩
      exact ⟨s', rfl, h1, h2.non, fun b hb => .inr (h3 b hb)⟩
    · refine (ins_shift es i p g cap vb w hs hv (fun e => hvb (by simp [Value.ownBlock, e])) h hr hn).mono ?_
      rintro e w' ⟨rfl, h1, h2⟩
      exact ⟨_, rfl, h1, h2.mono fun x hx => by simp [Value.ownBlock, hx], fun b hb => .inl (by simpa [Value.ownBlock] using hb)⟩
  · obtain rfl : i = es.length := by omega
    exact ins_end es p s _ w hs ⟨_, 1, rfl, Nat.le_refl _, (fun h => by cases h), fun _ => ⟨vb, 0, _, _, _, rfl, hv, fun j hj => by simp⟩⟩ hn

theorem put_any (es : List (Int × Int)) (m : Nat) (v : Value) (k x : Int) (w : World) (h : MapAt w m es v) (hs : Srt es) (hn : es.length ≤ 1000000) :
    Calls Try.prog 104 #[ptr m, .int .i64 k, .int .i64 x] w fun e w' => e = .returned (.bool (!hasK es k)) ∧ ∃ v', MapAt w' m (put es k x) v' ∧ Frm (fun b => b = m ∨ v.ownBlock = some b) w w' ∧
      (∀ b, v'.ownBlock = some b → v.ownBlock = some b ∨ w.heap.size ≤ b) := by
  unfold put
  have hne : v.ownBlock ≠ some m := fun e => by
    obtain ⟨cur, hc⟩ := own_type h.own m e
    rw [h.blk] at hc
    injection hc with hc
    injection hc with _ hc
    cases hc
  have hp : ∀ w', Frm Non w w' → MapAt w' m es v := fun w' f => h.frm f (fun x => x) (fun _ _ x => x)
  cases hh : hasK es k with
  | true =>
    obtain ⟨hl, hk⟩ := lb_lt hs hh
    have hfl := flat2_set es (lb es k) k x hl hk
    unfold ptr
    obtain ⟨g, cap, rfl, hcap, _⟩ := own_open h.own (by omega)
    have hgm : g ≠ m := fun e => hne (by simp [Value.ownBlock, e])
    have hpc : ∀ w', Frm Non w w' → w'.cell? ⟨m, 0, none⟩ = some (.slice (some ⟨g, 0, none⟩) es.length cap) ∧ (∃ u, w'.cell? ⟨g, lb es k * 2 + 1, none⟩ = some u) ∧ w'.frozen? ⟨g, lb es k * 2 + 1, none⟩ = false := fun w' f => by
      refine ⟨(blk_cell1 (hp w' f).blk).1, ?_, World.ownsRow.frozenAt (hp w' f).own _⟩
      obtain ⟨a, c, e1, _, _, hc⟩ := own_rd (hp w' f).own
      cases e1
      obtain ⟨b, off, e2, _, h2⟩ := flat2_at hc _ hl
      cases e2
      exact ⟨_, by simpa using h2⟩
    have hfin : ∀ w', Frm Non w w' → MapAt (w'.setCell ⟨g, lb es k * 2 + 1, none⟩ (.int .i64 x)) m (es.set (lb es k) (k, x)) (.slice (some ⟨g, 0, none⟩) es.length cap) := fun w' f => by
      have h' := hp w' f
      refine ⟨(Below.heap_setCell _ _ _ _ (fun e => hgm e.symm)).trans h'.blk, ?_⟩
      have := World.ownsRow.stored h'.own (lb es k * 2 + 1) (.int .i64 x)
      rw [hfl, List.length_set]
      exact this.1
    clear hfl hk hp
    go_enter Try.func104, Try.ntmps104
    go_wp2_with (go_at_call 126; refine (find_any es _ _ _ _ h hs hn).mono ?_; rintro e w' ⟨rfl, hf1⟩; obtain ⟨hc1, ⟨u, hc2⟩, hc3⟩ := hpc _ hf1; clear hpc)
    go_ret
    exact ⟨rfl, _, hfin _ hf1, (hf1.non (S := fun b => b = m ∨ (Value.slice (some ⟨g, 0, none⟩) es.length cap).ownBlock = some b)).setCell _ (.inl (.inr rfl)), fun b hb => .inl hb⟩
  | false =>
    have hii : insAt es (lb es k) (k, x) = insAt es (lb es k) (k, x) := rfl
    have hll : (insAt es (lb es k) (k, x)).length = es.length + 1 := by have := lb_le es k; simp [insAt]; omega
    unfold ptr
    have hpc : ∀ w', Frm Non w w' → w'.cell? ⟨m, 0, none⟩ = some v ∧ m < w'.heap.size := fun w' f => ⟨(blk_cell1 (hp w' f).blk).1, (Array.getElem?_eq_some_iff.1 (hp w' f).blk).1⟩
    clear hii
    go_enter Try.func104, Try.ntmps104
    go_wp2_with (go_at_call 126; refine (find_any es _ _ _ _ h hs hn).mono ?_; rintro e w' ⟨rfl, hf1⟩; obtain ⟨hc1, hlt⟩ := hpc _ hf1; have hp1 := hp _ hf1; clear hpc hp)
    have hp2 : MapAt (w'.alloc (.cells (flat2 [(k, x)]).toArray 180)) m es v := hp1.frm (S := Non) ((Frm.refl w').alloc _) (fun x => x) (fun _ _ x => x)
    have hq := ins_any es (lb es k) (k, x) v w'.heap.size (w'.alloc (.cells (flat2 [(k, x)]).toArray 180)) hp2.own (heap_alloc_new w' _) (fun e => by have := own_lt hp1.own _ e; omega) (lb_le es k) hn
    rw [flat2_one] at hq hp2
    refine hq.mono ?_
    rintro e w2 ⟨s', rfl, ho, hf2, hnew⟩
    obtain ⟨sa, sc, rfl, _, _, _⟩ := own_rd ho
    have hfm : w2.heap[m]? = some (.cells #[v] 157 (0, 0)) := (hf2.block m (by simp; omega) hne).trans hp2.blk
    obtain ⟨hc5, hc6⟩ := blk_cell1 hfm
    have hs'm : (Value.slice sa (es.length + 1) sc).ownBlock ≠ some m := fun e => by
      obtain ⟨cur, hc⟩ := own_type ho m e
      rw [hfm] at hc
      injection hc with hc
      injection hc with _ hc
      cases hc
    go_wp2
    go_ret
    refine ⟨rfl, .slice sa (es.length + 1) sc, ⟨?_, ?_⟩, ?_, fun b hb => ?_⟩
    · exact set_one hfm _
    · rw [hll]
      exact own_frm (S := fun b => b = m) ho ((Frm.refl w2).setCell _ (.inl rfl)) (fun b hb e => hs'm (e ▸ hb))
    · exact (((hf1.non (S := fun b => b = m ∨ v.ownBlock = some b)).alloc _).trans hf2 (fun _ x => x) (fun b hb => .inl (.inr hb))).setCell _ (.inl (.inl rfl))
    · rcases hnew b hb with h1 | h1
      · exact .inl h1
      · have := hf1.size; simp at h1; exact .inr (by omega)
end Go.Proofs.Ytjkcclcjhidokaa
