/- Graphs in memory: the program's, walked. -/
import Derived.Test.YtjkcclcjhidokaaRf
namespace Go.Proofs.Ytjkcclcjhidokaa
open Go.RowKit
set_option maxHeartbeats 400000

def ints (xs : List Int) : List Value := xs.map (Value.int .i64)
theorem ints_length (xs : List Int) : (ints xs).length = xs.length := List.length_map _
theorem ints_get (xs : List Int) (i : Nat) (h : i < xs.length) : (ints xs)[i]? = some (.int .i64 xs[i]) := by simp [ints, h]
theorem ints_cell (xs : List Int) : ∀ u ∈ ints xs, u.oneCell' = true := by
  intro u hu
  obtain ⟨x, _, rfl⟩ := List.mem_map.1 hu
  rfl
theorem T22 : SlT Try.prog 22 2 (.int .i64 0) 1 8 := ⟨Try.underlying22, by kernel_rfl, rfl, by decide⟩
theorem T33 : SlT Try.prog 33 3 (.int .i64 0) 1 8 := ⟨Try.underlying33, by kernel_rfl, rfl, by decide⟩
theorem T122 : SlT Try.prog 122 152 (.pointer none) 1 8 := ⟨Try.underlying122, by kernel_rfl, rfl, by decide⟩

/-- one number of a slice. -/
theorem ints_at {w : World} {a : Option Addr} {xs : List Int} (h : CellsAt w a (ints xs)) (i : Nat) (hi : i < xs.length) :
    ∃ b off, a = some ⟨b, off, none⟩ ∧ w.cell? ⟨b, off + i, none⟩ = some (.int .i64 xs[i]) := h.at i _ (ints_get xs i hi)

/-- what is in w' a slice of the call's own is read so. -/
theorem own_at {w : World} {e n : Nat} {v : Value} {cs : List Value} (h : Own w e 1 v n cs) (i : Nat) (u : Value) (hi : cs[i]? = some u) :
    ∃ g cap, v = .slice (some ⟨g, 0, none⟩) n cap ∧ n ≤ cap ∧ i < n ∧ w.cell? ⟨g, i, none⟩ = some u ∧ w.frozen? ⟨g, i, none⟩ = false := by
  obtain ⟨hi', _⟩ := List.getElem?_eq_some_iff.1 hi
  have hl := h.1
  rcases h.2 with ⟨_, h0⟩ | ⟨g, cap, cur, rfl, _, hg, hn, _, hcs, ht⟩
  · omega
  · refine ⟨g, cap, rfl, hn, by omega, ?_, by simp [World.frozen?, hg]⟩
    rw [← ht, List.getElem?_take, if_pos (by omega)] at hi
    simpa [World.cell?, hg] using hi

/-- the parts of a graph at block gb. -/
structure GP (w : World) (gb : Nat) (ws : List Int) (adj : List (List (Int × Int))) (wv nv : Value) (ms : List Nat) (vs : List Value) (S : Nat → Prop) : Prop where
  blk : w.heap[gb]? = some (.cells #[wv, nv] 124 (0, 0))
  wo : Own w 2 1 wv ws.length (ints ws)
  no : Own w 152 1 nv ms.length (ms.map ptr)
  lv : vs.length = ms.length
  la : adj.length = ms.length
  maps : ∀ (i : Nat) (m : Nat) (v : Value) (es : List (Int × Int)), ms[i]? = some m → vs[i]? = some v → adj[i]? = some es → MapAt w m es v
  nd : ∀ (i j m : Nat), ms[i]? = some m → ms[j]? = some m → i = j
  ndv : ∀ (i j : Nat) (v u : Value) (b : Nat), vs[i]? = some v → vs[j]? = some u → v.ownBlock = some b → u.ownBlock = some b → i = j
  sg : S gb
  sw : ∀ b, wv.ownBlock = some b → S b
  sn : ∀ b, nv.ownBlock = some b → S b
  sm : ∀ m ∈ ms, S m
  sv : ∀ v ∈ vs, ∀ b, v.ownBlock = some b → S b
  lt : ∀ b, S b → b < w.heap.size

theorem GP.frm {w w' : World} {gb : Nat} {ws : List Int} {adj : List (List (Int × Int))} {wv nv : Value} {ms : List Nat} {vs : List Value} {S T : Nat → Prop} (h : GP w gb ws adj wv nv ms vs S) (f : Frm T w w') (hT : ∀ b, S b → ¬ T b) : GP w' gb ws adj wv nv ms vs S where
  blk := (f.block gb (h.lt _ h.sg) (hT _ h.sg)).trans h.blk
  wo := own_frm h.wo f (fun b hb => hT b (h.sw b hb))
  no := own_frm h.no f (fun b hb => hT b (h.sn b hb))
  lv := h.lv
  la := h.la
  maps := fun i m v es h1 h2 h3 => (h.maps i m v es h1 h2 h3).frm f (hT m (h.sm m (List.mem_of_getElem? h1))) (fun b hb => hT b (h.sv v (List.mem_of_getElem? h2) b hb))
  nd := h.nd
  ndv := h.ndv
  sg := h.sg
  sw := h.sw
  sn := h.sn
  sm := h.sm
  sv := h.sv
  lt := fun b hb => Nat.lt_of_lt_of_le (h.lt b hb) f.size

/-- what is between a thing and the others: those that something is between. -/
def row (B : Nat → Nat → Int) (n a : Nat) : List (Int × Int) := (List.range n).filterMap fun b => if B a b = 0 then none else some ((b : Int), B a b)
def adjOf (B : Nat → Nat → Int) (n : Nat) : List (List (Int × Int)) := (List.range n).map (row B n)
/-- what is between: none is with itself; none is below 0; it's the same both ways. -/
structure BOk (n : Nat) (B : Nat → Nat → Int) : Prop where
  sym : ∀ a b, B a b = B b a
  self : ∀ a, B a a = 0
  ge : ∀ a b, 0 ≤ B a b
  le : ∀ a b, B a b ≤ 1099511627776
/-- a graph at block gb: weights ws, B between; it owns no block beyond S. -/
def GAt (w : World) (gb : Nat) (ws : List Int) (B : Nat → Nat → Int) (S : Nat → Prop) : Prop :=
  (∃ wv nv ms vs, GP w gb ws (adjOf B ws.length) wv nv ms vs S) ∧ BOk ws.length B ∧ ws.length ≤ 4096 ∧ ∀ x ∈ ws, 1 ≤ x ∧ x ≤ 1099511627776
theorem GAt.frm {w w' : World} {gb : Nat} {ws : List Int} {B : Nat → Nat → Int} {S T : Nat → Prop} (h : GAt w gb ws B S) (f : Frm T w w') (hT : ∀ b, S b → ¬ T b) : GAt w' gb ws B S := by
  obtain ⟨⟨wv, nv, ms, vs, h1⟩, h2, h3⟩ := h
  exact ⟨⟨wv, nv, ms, vs, h1.frm f hT⟩, h2, h3⟩

/-! ### what is between, as entries -/
theorem row_srt (B : Nat → Nat → Int) (n a : Nat) : Srt (row B n a) := by
  unfold Srt row
  rw [List.pairwise_filterMap]
  refine List.Pairwise.imp ?_ List.pairwise_lt_range
  intro x y hxy p hp q hq
  split at hp
  · cases hp
  · split at hq
    · cases hq
    · cases hp; cases hq
      simpa using hxy
theorem row_len (B : Nat → Nat → Int) (n a : Nat) : (row B n a).length ≤ n := by
  have := List.length_filterMap_le (fun b => if B a b = 0 then none else some ((b : Int), B a b)) (List.range n)
  simpa [row] using this
theorem mem_row {B : Nat → Nat → Int} {n a : Nat} {e : Int × Int} : e ∈ row B n a ↔ ∃ b : Nat, b < n ∧ B a b ≠ 0 ∧ e = ((b : Int), B a b) := by
  unfold row
  simp only [List.mem_filterMap, List.mem_range]
  constructor
  · rintro ⟨b, hb, h⟩
    split at h
    · cases h
    · cases h; exact ⟨b, hb, by assumption, rfl⟩
  · rintro ⟨b, hb, h1, rfl⟩
    exact ⟨b, hb, by rw [if_neg h1]⟩
theorem row_has (B : Nat → Nat → Int) (n a : Nat) (k : Int) : hasK (row B n a) k = decide (0 ≤ k ∧ k < n ∧ B a k.toNat ≠ 0) := by
  unfold hasK
  rw [Bool.eq_iff_iff]
  simp only [List.any_eq_true, beq_iff_eq, decide_eq_true_eq]
  constructor
  · rintro ⟨e, he, rfl⟩
    obtain ⟨b, hb, h0, rfl⟩ := mem_row.1 he
    simp only [Int.toNat_natCast]
    exact ⟨by omega, by omega, h0⟩
  · rintro ⟨h0, h1, h2⟩
    exact ⟨(k, B a k.toNat), mem_row.2 ⟨k.toNat, by omega, h2, by rw [Int.toNat_of_nonneg h0]⟩, rfl⟩
theorem row_get (B : Nat → Nat → Int) (n a : Nat) (k : Int) : getK (row B n a) k = if 0 ≤ k ∧ k < n then B a k.toNat else 0 := by
  cases h : hasK (row B n a) k with
  | false =>
    rw [getK_not h]
    rw [row_has] at h
    split
    · rename_i hk
      have : ¬ (0 ≤ k ∧ k < n ∧ B a k.toNat ≠ 0) := by simpa using h
      by_cases hb : B a k.toNat = 0
      · exact hb.symm
      · exact absurd ⟨hk.1, hk.2, hb⟩ this
    · rfl
  | true =>
    obtain ⟨hl, hk⟩ := lb_lt (row_srt B n a) h
    rw [getK_at (row_srt B n a) _ hl hk]
    obtain ⟨b, hb, h0, he⟩ := mem_row.1 (List.getElem_mem hl)
    rw [he] at hk ⊢
    simp only at hk
    subst hk
    rw [if_pos ⟨by omega, by omega⟩]
    simp
/-- lists of entries in order that hold the same are the same. -/
theorem srt_ext {es fs : List (Int × Int)} (h1 : Srt es) (h2 : Srt fs) (h : ∀ e, e ∈ es ↔ e ∈ fs) : es = fs := by
  have hn1 : es.Nodup := h1.imp fun hab e => by rw [e] at hab; omega
  have hn2 : fs.Nodup := h2.imp fun hab e => by rw [e] at hab; omega
  have hp : es.Perm fs := (List.perm_ext_iff_of_nodup hn1 hn2).2 h
  exact hp.eq_of_pairwise (fun a b _ _ hab hba => by omega) h1 h2
theorem put_srt {es : List (Int × Int)} (hs : Srt es) (k x : Int) : Srt (put es k x) := by
  unfold put
  cases hh : hasK es k with
  | true =>
    obtain ⟨hl, hk⟩ := lb_lt hs hh
    unfold Srt
    rw [if_pos rfl, List.pairwise_iff_getElem]
    intro i j hi hj hij
    simp only [List.length_set] at hi hj
    rw [List.getElem_set, List.getElem_set]
    have := srt_get hs i j hi hj hij
    split <;> split <;> simp_all <;> omega
  | false =>
    rw [if_neg (by simp)]
    have key : ∀ i (h : i < es.length), (i < lb es k → es[i].1 < k) ∧ (lb es k ≤ i → k < es[i].1) := by
      have aux : ∀ (es : List (Int × Int)), Srt es → hasK es k = false → ∀ i (h : i < es.length), (i < lb es k → es[i].1 < k) ∧ (lb es k ≤ i → k < es[i].1) := by
        intro es
        induction es with
        | nil => intro _ _ i h; simp at h
        | cons e es ih =>
          intro hs hh i hi
          have hs' : Srt es := (List.pairwise_cons.1 hs).2
          have hlt : ∀ y ∈ es, e.1 < y.1 := (List.pairwise_cons.1 hs).1
          unfold hasK at hh
          rw [List.any_cons, Bool.or_eq_false_iff] at hh
          have hne : e.1 ≠ k := by simpa using hh.1
          by_cases h0 : e.1 < k
          · have hlb : lb (e :: es) k = lb es k + 1 := by unfold lb; rw [List.filter_cons, if_pos (by simpa using h0)]; rfl
            rw [hlb]
            cases i with
            | zero => exact ⟨fun _ => h0, fun h => by omega⟩
            | succ i => have := ih hs' hh.2 i (by simpa using hi); simpa using ⟨fun h => this.1 (by omega), fun h => this.2 (by omega)⟩
          · have hlb : lb (e :: es) k = 0 := by
              unfold lb
              rw [List.length_eq_zero_iff, List.filter_eq_nil_iff]
              intro y hy
              rcases List.mem_cons.1 hy with rfl | hy
              · simpa using h0
              · have := hlt y hy; simp; omega
            rw [hlb]
            refine ⟨fun h => by omega, fun _ => ?_⟩
            cases i with
            | zero => simp; omega
            | succ i => have := hlt _ (List.getElem_mem (show i < es.length by simpa using hi)); simp; omega
      exact aux es hs hh
    unfold Srt insAt
    rw [List.pairwise_append, List.pairwise_cons]
    refine ⟨hs.sublist (List.take_sublist _ _), ⟨?_, hs.sublist (List.drop_sublist _ _)⟩, ?_⟩
    · intro y hy
      obtain ⟨i, hi, rfl⟩ := List.getElem_of_mem hy
      rw [List.length_drop] at hi
      rw [List.getElem_drop]
      exact (key _ (by omega)).2 (by omega)
    · intro x' hx y hy
      obtain ⟨i, hi, rfl⟩ := List.getElem_of_mem hx
      rw [List.length_take] at hi
      rw [List.getElem_take]
      have h1 := (key i (by omega)).1 (by omega)
      rcases List.mem_cons.1 hy with rfl | hy
      · exact h1
      · obtain ⟨j, hj, rfl⟩ := List.getElem_of_mem hy
        rw [List.length_drop] at hj
        rw [List.getElem_drop]
        have := (key (lb es k + j) (by omega)).2 (by omega)
        omega
theorem mem_put {es : List (Int × Int)} (hs : Srt es) (k x : Int) (e : Int × Int) : e ∈ put es k x ↔ e = (k, x) ∨ (e ∈ es ∧ e.1 ≠ k) := by
  unfold put
  cases hh : hasK es k with
  | true =>
    obtain ⟨hl, hk⟩ := lb_lt hs hh
    rw [if_pos rfl, List.mem_iff_getElem]
    simp only [List.length_set]
    constructor
    · rintro ⟨i, hi, rfl⟩
      rw [List.getElem_set]
      split
      · exact .inl rfl
      · rename_i hne
        refine .inr ⟨List.getElem_mem _, fun he => ?_⟩
        rcases Nat.lt_trichotomy i (lb es k) with h | h | h
        · have := srt_get hs _ _ (by omega) hl h; omega
        · exact hne h.symm
        · have := srt_get hs _ _ hl (by omega) h; omega
    · rintro (rfl | ⟨he, hne⟩)
      · exact ⟨lb es k, hl, by rw [List.getElem_set_self]⟩
      · obtain ⟨i, hi, rfl⟩ := List.getElem_of_mem he
        refine ⟨i, hi, ?_⟩
        rw [List.getElem_set_ne]
        intro h; subst h; exact hne hk
  | false =>
    rw [if_neg (by simp)]
    unfold insAt
    rw [List.mem_append, List.mem_cons]
    have : ∀ e, (e ∈ es.take (lb es k) ∨ e ∈ es.drop (lb es k)) ↔ e ∈ es := fun e => by rw [← List.mem_append, List.take_append_drop]
    have hne : ∀ e ∈ es, e.1 ≠ k := fun e he h => by
      unfold hasK at hh
      rw [List.any_eq_false] at hh
      exact hh e he (by simpa using h)
    constructor
    · rintro (h | rfl | h)
      · have h' := (this e).1 (.inl h); exact .inr ⟨h', hne e h'⟩
      · exact .inl rfl
      · have h' := (this e).1 (.inr h); exact .inr ⟨h', hne e h'⟩
    · rintro (rfl | ⟨h, _⟩)
      · exact .inr (.inl rfl)
      · rcases (this e).2 h with h | h
        · exact .inl h
        · exact .inr (.inr h)
/-- something more between a and b. -/
def upd (B : Nat → Nat → Int) (a b : Nat) (x : Int) : Nat → Nat → Int := fun i j => if i = a ∧ j = b ∨ i = b ∧ j = a then x else B i j
theorem put_row (B B' : Nat → Nat → Int) (n a b : Nat) (x : Int) (hb : b < n) (hx : x ≠ 0) (h1 : B' a b = x) (h2 : ∀ j, j ≠ b → B' a j = B a j) : put (row B n a) b x = row B' n a := by
  refine srt_ext (put_srt (row_srt B n a) _ _) (row_srt B' n a) fun e => ?_
  rw [mem_put (row_srt B n a), mem_row, mem_row]
  constructor
  · rintro (rfl | ⟨⟨j, hj, h0, rfl⟩, hne⟩)
    · exact ⟨b, hb, by rw [h1]; exact hx, by rw [h1]⟩
    · have : j ≠ b := fun h => hne (by rw [h])
      exact ⟨j, hj, by rw [h2 j this]; exact h0, by rw [h2 j this]⟩
  · rintro ⟨j, hj, h0, rfl⟩
    by_cases h : j = b
    · subst h; left; rw [h1]
    · right
      exact ⟨⟨j, hj, by rw [← h2 j h]; exact h0, by rw [h2 j h]⟩, fun hc => h (by have h9 : (j : Int) = (b : Int) := hc; omega)⟩
end Go.Proofs.Ytjkcclcjhidokaa
