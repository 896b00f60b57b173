/- Worlds that agree but for some blocks; slices that are read. -/
import Derived.WalkKit
import Derived.WalkSpells
import Derived.WalkLawsBesides
import Derived.LoopIn
import Derived.OwnWalkIn
namespace Go.Proofs.Ytjkcclcjhidokaa
open Go.RowKit

/-- w' is w but for the blocks of S and new ones. -/
structure Frm (S : Nat → Prop) (w w' : World) : Prop where
  os : w'.os = w.os
  tape : w'.tape = w.tape
  output : w'.output = w.output
  size : w.heap.size ≤ w'.heap.size
  block : ∀ k, k < w.heap.size → ¬ S k → w'.heap[k]? = w.heap[k]?

/-- no block. -/
def Non : Nat → Prop := fun _ => False

theorem Frm.refl {S : Nat → Prop} (w : World) : Frm S w w := ⟨rfl, rfl, rfl, Nat.le_refl _, fun _ _ _ => rfl⟩
theorem Frm.trans {S T U : Nat → Prop} {a b c : World} (h : Frm S a b) (k : Frm T b c) (hS : ∀ x, S x → U x) (hT : ∀ x, T x → U x ∨ a.heap.size ≤ x) : Frm U a c :=
  ⟨k.os.trans h.os, k.tape.trans h.tape, k.output.trans h.output, Nat.le_trans h.size k.size, fun x hx hU =>
    (k.block x (Nat.lt_of_lt_of_le hx h.size) (fun ht => by rcases hT x ht with h1 | h1; exact hU h1; omega)).trans (h.block x hx (fun hs => hU (hS x hs)))⟩
theorem Frm.mono {S T : Nat → Prop} {a b : World} (h : Frm S a b) (hS : ∀ x, S x → T x) : Frm T a b :=
  ⟨h.os, h.tape, h.output, h.size, fun x hx hT => h.block x hx (fun hs => hT (hS x hs))⟩
theorem Frm.non {S : Nat → Prop} {a b : World} (h : Frm Non a b) : Frm S a b := h.mono (fun _ x => x.elim)
theorem Frm.trans' {S : Nat → Prop} {a b c : World} (h : Frm S a b) (k : Frm S b c) : Frm S a c := h.trans k (fun _ x => x) (fun _ x => .inl x)
theorem Frm.of_below {a b : World} (h : Below a.heap.size a b) : Frm Non a b := ⟨h.os, h.tape, h.output, h.size, fun k hk _ => h.block k hk⟩
theorem Frm.below {a b : World} (h : Frm Non a b) : Below a.heap.size a b := ⟨h.os, h.tape, h.output, h.size, fun k hk => h.block k hk (fun x => x)⟩
theorem Frm.drew {S : Nat → Prop} {a b : World} (h : Frm S a b) : Frm S a b.drew := ⟨h.os, h.tape, h.output, h.size, h.block⟩
theorem Frm.drewN {S : Nat → Prop} {a b : World} (n : Nat) (h : Frm S a b) : Frm S a (b.drewN n) := ⟨h.os, h.tape, h.output, h.size, h.block⟩
theorem Frm.alloc {S : Nat → Prop} {a b : World} (h : Frm S a b) (o : Obj) : Frm S a (b.alloc o) :=
  h.trans (T := Non) ⟨rfl, rfl, rfl, by simp, fun k hk _ => Below.heap_alloc b o k hk⟩ (fun _ x => x) (fun _ x => x.elim)
theorem Frm.setCell {S : Nat → Prop} {a b : World} (h : Frm S a b) {p : Addr} (u : Value) (hp : S p.block ∨ a.heap.size ≤ p.block) : Frm S a (b.setCell p u) :=
  h.trans (T := fun x => x = p.block) ⟨rfl, rfl, rfl, by simp [World.setCell], fun k _ hk => Below.heap_setCell b p u k hk⟩ (fun _ x => x) (fun _ x => x ▸ hp)
theorem Frm.grown {S : Nat → Prop} {a b c : World} {row : Option Nat} (h : Frm S a b) (hg : b.grownBy c row) (hr : ∀ x, row = some x → S x ∨ a.heap.size ≤ x) : Frm S a c :=
  h.trans (T := fun x => row = some x) ⟨hg.os, hg.tape, hg.output, hg.size, fun k hk hk' => hg.block k hk (fun e => hk' e.symm)⟩ (fun _ x => x) hr
theorem Frm.cell {S : Nat → Prop} {w w' : World} (h : Frm S w w') {a : Addr} {v : Value} (hc : w.cell? a = some v) (hS : ¬ S a.block) : w'.cell? a = some v := by
  have hb : a.block < w.heap.size := by
    rcases Nat.lt_or_ge a.block w.heap.size with h | h
    · exact h
    · simp [World.cell?, Array.getElem?_eq_none h] at hc
  exact (World.cell?_of_block (h.block _ hb hS)).trans hc

/-- from a on the cells read as cs. -/
def CellsAt (w : World) (a : Option Addr) (cs : List Value) : Prop :=
  cs ≠ [] → ∃ b off c E fr, a = some ⟨b, off, none⟩ ∧ w.heap[b]? = some (.cells c E fr) ∧ ∀ i, i < cs.length → c[off + i]? = cs[i]?
/-- no block of a is in S. -/
def Off (S : Nat → Prop) (a : Option Addr) : Prop := ∀ p, a = some p → ¬ S p.block
theorem Off.non (a : Option Addr) : Off Non a := fun _ _ x => x

theorem CellsAt.frm {S : Nat → Prop} {w w' : World} {a : Option Addr} {cs : List Value} (h : CellsAt w a cs) (f : Frm S w w') (hS : Off S a) : CellsAt w' a cs := by
  intro hne
  obtain ⟨b, off, c, E, fr, rfl, hb, hi⟩ := h hne
  exact ⟨b, off, c, E, fr, rfl, (f.block b (Array.getElem?_eq_some_iff.1 hb).1 (hS _ rfl)).trans hb, hi⟩
/-- one cell, as a walk wants it. -/
theorem CellsAt.at {w : World} {a : Option Addr} {cs : List Value} (h : CellsAt w a cs) (i : Nat) (v : Value) (hi : cs[i]? = some v) :
    ∃ b off, a = some ⟨b, off, none⟩ ∧ w.cell? ⟨b, off + i, none⟩ = some v := by
  obtain ⟨hi', rfl⟩ := List.getElem?_eq_some_iff.1 hi
  obtain ⟨b, off, c, E, fr, rfl, hb, hh⟩ := h (by intro e; simp [e] at hi')
  exact ⟨b, off, rfl, by simp [World.cell?, hb, hh i hi', List.getElem?_eq_getElem hi']⟩
theorem CellsAt.at2 {w : World} {a : Option Addr} {cs : List Value} (h : CellsAt w a cs) (i : Nat) (v u : Value) (hi : cs[i]? = some v) (hj : cs[i + 1]? = some u) :
    ∃ b off, a = some ⟨b, off, none⟩ ∧ w.cell? ⟨b, off + i, none⟩ = some v ∧ w.cell? ⟨b, off + i + 1, none⟩ = some u := by
  obtain ⟨b, off, rfl, h1⟩ := h.at i v hi
  obtain ⟨b', off', e, h2⟩ := h.at (i + 1) u hj
  cases e
  exact ⟨_, _, rfl, h1, h2⟩

/-- A slice of n elements that reads as the cells cs. -/
def Rd (w : World) (v : Value) (n : Nat) (cs : List Value) : Prop :=
  ∃ a cap, v = .slice a n cap ∧ n ≤ cap ∧ (a = none → cap = 0) ∧ CellsAt w a cs
theorem Rd.frm {S : Nat → Prop} {w w' : World} {v : Value} {n : Nat} {cs : List Value} (h : Rd w v n cs) (f : Frm S w w') (hS : ∀ b, v.ownBlock = some b → ¬ S b) : Rd w' v n cs := by
  obtain ⟨a, cap, rfl, hc, hn, h⟩ := h
  exact ⟨a, cap, rfl, hc, hn, h.frm f (fun p e => by subst e; exact hS _ rfl)⟩

theorem take_snoc {α : Type} (l : List α) (k : Nat) (h : k < l.length) : l.take k ++ [l[k]] = l.take (k + 1) := by
  rw [List.take_succ_eq_append_getElem h]
theorem take_snoc_prefix {α : Type} (l : List α) (k : Nat) (h : k < l.length) : l.take k ++ [l[k]] <+: l := by
  rw [take_snoc l k h]; exact List.take_prefix _ _

/-- entries of two numbers, as cells. -/
def flat2 (es : List (Int × Int)) : List Value := es.flatMap fun e => [.int .i64 e.1, .int .i64 e.2]
theorem flat2_length (es : List (Int × Int)) : (flat2 es).length = 2 * es.length := by
  induction es with
  | nil => rfl
  | cons e es ih => simp [flat2] at ih ⊢; omega
theorem flat2_get (es : List (Int × Int)) (i : Nat) (h : i < es.length) : (flat2 es)[2 * i]? = some (.int .i64 es[i].1) ∧ (flat2 es)[2 * i + 1]? = some (.int .i64 es[i].2) := by
  induction es generalizing i with
  | nil => simp at h
  | cons e es ih =>
    cases i with
    | zero => simp [flat2]
    | succ i =>
      have := ih i (by simpa using h)
      have e1 : 2 * (i + 1) = 2 * i + 1 + 1 := by omega
      simp only [e1]
      simpa [flat2] using this
theorem flat2_at {w : World} {a : Option Addr} {es : List (Int × Int)} (h : CellsAt w a (flat2 es)) (i : Nat) (hi : i < es.length) :
    ∃ b off, a = some ⟨b, off, none⟩ ∧ w.cell? ⟨b, off + i * 2, none⟩ = some (.int .i64 es[i].1) ∧ w.cell? ⟨b, off + i * 2 + 1, none⟩ = some (.int .i64 es[i].2) := by
  obtain ⟨g1, g2⟩ := flat2_get es i hi
  rw [Nat.mul_comm i 2]
  exact h.at2 _ _ _ g1 g2

/-! ### slices that the call owns -/
abbrev Own (w : World) (e size : Nat) (v : Value) (n : Nat) (xs : List Value) : Prop := w.ownsRow 0 e size v n xs

theorem own_frm {S : Nat → Prop} {w w' : World} {e size n : Nat} {v : Value} {xs : List Value} (h : Own w e size v n xs) (f : Frm S w w') (hS : ∀ b, v.ownBlock = some b → ¬ S b) : Own w' e size v n xs := by
  obtain ⟨hl, h⟩ := h
  refine ⟨hl, ?_⟩
  rcases h with h | ⟨g, cap, cur, rfl, h0, hg, hr⟩
  · exact .inl h
  · exact .inr ⟨g, cap, cur, rfl, h0, (f.block g (Array.getElem?_eq_some_iff.1 hg).1 (hS g rfl)).trans hg, hr⟩
theorem own_rd {w : World} {e size n : Nat} {v : Value} {xs : List Value} (h : Own w e size v n xs) : Rd w v n xs := by
  obtain ⟨hl, h⟩ := h
  rcases h with ⟨rfl, rfl⟩ | ⟨g, cap, cur, rfl, h0, hg, hn, hm, hs, ht⟩
  · exact ⟨none, 0, rfl, Nat.le_refl _, fun _ => rfl, fun hne => by simp at hl; exact absurd hl hne⟩
  · refine ⟨some ⟨g, 0, none⟩, cap, rfl, hn, (fun h => by cases h), fun _ => ⟨g, 0, cur, e, _, rfl, hg, fun i hi => ?_⟩⟩
    rw [← ht, List.getElem?_take]
    rw [hl] at hi
    simp [hi]
theorem own_lt {w : World} {e size n : Nat} {v : Value} {xs : List Value} (h : Own w e size v n xs) (b : Nat) (hb : v.ownBlock = some b) : b < w.heap.size := (World.ownsRow.lt h b hb).2
theorem own_open {w : World} {e size n : Nat} {v : Value} {xs : List Value} (h : Own w e size v n xs) (hn : 0 < n) : ∃ g cap, v = .slice (some ⟨g, 0, none⟩) n cap ∧ n ≤ cap ∧ ∃ cur, w.heap[g]? = some (.cells cur e (0, 0)) := by
  rcases h.2 with ⟨_, h0⟩ | ⟨g, cap, cur, rfl, h0, hg, hn', hm, hs, ht⟩
  · omega
  · exact ⟨g, cap, rfl, hn', cur, hg⟩
/-- the type of a block tells it from others. -/
theorem own_type {w : World} {e size n : Nat} {v : Value} {xs : List Value} (h : Own w e size v n xs) (b : Nat) (hb : v.ownBlock = some b) : ∃ cur, w.heap[b]? = some (.cells cur e (0, 0)) := by
  rcases h.2 with ⟨rfl, h0⟩ | ⟨g, cap, cur, rfl, h0, hg, hn', hm, hs, ht⟩
  · simp [Value.ownBlock] at hb
  · simp [Value.ownBlock] at hb; subst hb; exact ⟨cur, hg⟩
theorem own_nil (w : World) (e size : Nat) : Own w e size (.slice none 0 0) 0 [] := World.ownsRow_nil w 0 e size
theorem own_alloc {w : World} {e size n : Nat} {v : Value} {xs : List Value} (h : Own w e size v n xs) (o : Obj) : Own (w.alloc o) e size v n xs := World.ownsRow.alloc h o

/-- append, whatever slice stands behind. -/
theorem run_app {P : Program} (w : World) (t ty e : TypeId) (i : TypeInfo) (z : Value) (size bytes : Nat) (ht : P.underlying t = some (.slice e)) (hi : P.info? e = some i) (hz : i.zero = some z)
    (hsize : i.size = size) (hby : i.bytes = bytes) (hzs : z.cells.size = size) (hsz : 0 < size)
    (v : Value) (n : Nat) (xs : List Value) (hown : Own w e size v n xs) (x : Value) (m : Nat) (news : List Value) (hx : Rd w x m news) (hl : news.length = m * size) (h1 : ∀ u ∈ news, u.oneCell' = true)
    (h63 : n + m ≤ maxLen) (hbytes : (n + m) * bytes ≤ 140737488355328) :
    ∃ v' w', (Builtin.append_ #[t, t] ty #[v, x]).run P w = .ok v' w' ∧ Own w' e size v' (n + m) (xs ++ news) ∧ Frm (fun b => v.ownBlock = some b) w w' ∧
      (∀ b, v'.ownBlock = some b → v.ownBlock = some b ∨ w.heap.size ≤ b) := by
  obtain ⟨a, c, rfl, hmc, hnn, hc⟩ := hx
  have frm : ∀ {w' : World}, w.grownBy w' v.ownBlock → Frm (fun b => v.ownBlock = some b) w w' := fun hg => ⟨hg.os, hg.tape, hg.output, hg.size, fun k hk hk' => hg.block k hk (fun e => hk' e.symm)⟩
  cases a with
  | none =>
    obtain rfl : c = 0 := hnn rfl
    obtain rfl : m = 0 := by omega
    obtain rfl : news = [] := List.eq_nil_of_length_eq_zero (by simpa using hl)
    refine ⟨v, w, run_append_owned_none (P := P) (w := w) 0 t ty e i size ht hi v n xs hown, by simpa using hown, Frm.refl _, fun b hb => .inl hb⟩
  | some ad =>
    have hnews : ∀ j u, news[j]? = some u → w.cell? (ad.add j) = some u := by
      intro j u hj
      obtain ⟨b, off, e1, h2⟩ := hc.at j u hj
      cases e1
      rw [show (⟨b, off, none⟩ : Addr).add j = ⟨b, off + j, none⟩ from by unfold Addr.add; split <;> simp_all]
      exact h2
    obtain ⟨v', w', hr, ho, hg, _⟩ := run_append_own (P := P) w 0 t ty e i z size bytes ht hi hz hsize hby hzs hsz v n xs hown ad m c news hl hnews h1 h63 hbytes (Nat.zero_le _)
    refine ⟨v', w', hr, ho, frm hg, fun b hb => ?_⟩
    subst hsize; subst hby
    rcases hown.2 with ⟨rfl, rfl⟩ | ⟨g, cap, cur, rfl, hbg, hgg, hnc, hcm, hcs, htake⟩
    · by_cases hm : m = 0
      · subst hm
        rcases ho.2 with ⟨rfl, _⟩ | ⟨g, cap, cur, rfl, _⟩
        · cases hb
        · have hnil : news = [] := List.eq_nil_of_length_eq_zero (by simpa using hl)
          subst hnil
          have hr2 : (Builtin.append_ #[t, t] ty #[.slice none 0 0, .slice (some ad) 0 c]).run P w = .ok (.slice none 0 0) w := by
            simp [Builtin.append_, run_underlying ht, sizeOf, typeInfo, hi, Builtin.lenOf, Builtin.firstCells, loadCells, loadCellsFrom]
          rw [hr] at hr2
          injection hr2 with e1 e2
          cases e1
      · have hr2 := run_append_nil (P := P) w t ty e i z ht hi hz ad m c news hl hnews (by omega) (by simp only [maxLen] at h63; omega) (by have hb := hbytes; simp only [Nat.zero_add] at hb; omega)
        rw [hr] at hr2
        injection hr2 with e1 e2
        subst e1
        simp [Value.ownBlock] at hb
        exact .inr (by omega)
    · by_cases hroom : n + m ≤ cap
      · have hfit : n * i.size + news.length ≤ cur.size := by rw [hl, hcs, ← Nat.add_mul]; exact Nat.mul_le_mul_right _ hroom
        have hr2 := run_append_room (P := P) w t ty e i ht hi g n cap cur hgg ad m c news hl hnews h1 hroom hfit
        rw [hr] at hr2
        injection hr2 with e1 e2
        subst e1
        exact .inl hb
      · have holds : ∀ j u, xs[j]? = some u → w.cell? ((⟨g, 0, none⟩ : Addr).add j) = some u := World.ownsRow.cells (g := g) hown rfl
        have hr2 := run_append_grow (P := P) w t ty e i z ht hi hz ⟨g, 0, none⟩ n cap xs hown.1 holds ad m c news hl hnews (by omega) (by simp only [maxLen] at h63; omega) (growslice_fits (by omega) hbytes)
        rw [hr] at hr2
        injection hr2 with e1 e2
        subst e1
        simp [Value.ownBlock] at hb
        exact .inr (by omega)

/-- copy, of elements of whatever size. -/
theorem run_cpy {P : Program} (w : World) (dT sT ty elem : TypeId) (g o dLen dCap : Nat) (a : Option Addr) (sLen sCap : Nat) (cur : Array Value) (t : TypeId) (cs : List Value) (size : Nat)
    (hu : P.underlying dT = some (.slice elem)) (hs : (P.info? elem).map (·.size) = some size)
    (hg : w.heap[g]? = some (.cells cur t (0, 0))) (hn : cs.length = Nat.min sLen dLen * size)
    (hsrc : CellsAt w a cs) (hfit : o + cs.length ≤ cur.size) (h1 : ∀ v ∈ cs, v.oneCell' = true) :
    (Builtin.copy_ #[dT, sT] ty #[.slice (some ⟨g, o, none⟩) dLen dCap, .slice a sLen sCap]).run P w =
      .ok (goInt (Nat.min sLen dLen)) (w.setRow g (cur.toList.take o ++ cs ++ cur.toList.drop (o + cs.length)).toArray) := by
  have hst := run_storeCells_at P g o t cs 0 cur w hg (by simpa using hfit) h1
  cases hq : P.info? elem with
  | none => simp [hq] at hs
  | some i =>
    have hi : i.size = size := by simpa [hq] using hs
    have hf : (Builtin.firstCells i.size (Nat.min sLen dLen) (.slice a sLen sCap)).run P w = .ok cs.toArray w := by
      cases a with
      | none =>
        have : cs = [] := by
          by_cases h : cs = []
          · exact h
          · obtain ⟨_, _, _, _, _, h', _⟩ := hsrc h; cases h'
        subst this
        rfl
      | some ad =>
        refine run_firstCells_some (P := P) w i.size _ ad sLen sCap cs (by rw [hi]; exact hn) (fun j u hj => ?_)
        obtain ⟨b, off, e1, h2⟩ := hsrc.at j u hj
        cases e1
        rw [show (⟨b, off, none⟩ : Addr).add j = ⟨b, off + j, none⟩ from by unfold Addr.add; split <;> simp_all]
        exact h2
    simp only [Nat.add_zero] at hst
    simp only [Builtin.copy_, run_underlying hu, Builtin.lenOf, sizeOf, typeInfo, Sem.run_bind, Sem.run_pure, Result.andThen_ok, List.getElem?_toArray, List.getElem?_cons_zero, List.getElem?_cons_succ]
    simp [hq, hf, hst, hn]

/-- what is asked of a slice type: its elements' type, zero, cells and bytes. -/
structure SlT (P : Program) (t e : Nat) (z : Value) (size bytes : Nat) : Prop where
  ht : P.underlying t = some (.slice e)
  hi : (P.info? e).map (fun i => (i.zero, i.size, i.bytes)) = some (some z, size, bytes)
  hz : z.cells.size = size
  hs : 0 < size

theorem wpList_app {P : Program} {w : World} {ops : Array Oper} {rest : List Oper} {o : Oper} {a : Act} {Q : Exit → Act → World → Prop} (hgd : o.guard = none) (s x : Operand) {t e : Nat} {z : Value} {size bytes : Nat}
    (hT : SlT P t e z size bytes) (ho : o.op = .call { callee := .builtin .append, args := #[s, x], argTypes := #[t, t] })
    {v : Value} {n : Nat} {xs : List Value} (hown : Own w e size v n xs) (hs : a.eval s = v) {u : Value} {m : Nat} {news : List Value} (hrd : Rd w u m news) (hx : a.eval x = u) (hl : news.length = m * size) (h1 : ∀ u ∈ news, u.oneCell' = true)
    (h63 : n + m ≤ maxLen) (hbytes : (n + m) * bytes ≤ 140737488355328)
    (h : ∀ v' w', Own w' e size v' (n + m) (xs ++ news) → Frm (fun b => v.ownBlock = some b) w w' → (∀ b, v'.ownBlock = some b → v.ownBlock = some b ∨ w.heap.size ≤ b) → wpList P ops Q rest (a.put o.dst v') w') : wpList P ops Q (o :: rest) a w := by
  obtain ⟨i, hi, hz, hsz, hby⟩ := info_parts hT.hi
  obtain ⟨v', w', hr, h2, h3, h4⟩ := run_app (P := P) w t o.type e i z size bytes hT.ht hi hz hsz hby hT.hz hT.hs v n xs hown u m news hrd hl h1 h63 hbytes
  refine wpList_plain hgd fun K hK => ?_
  unfold Oper.wp execOp
  simp only [ho, resolve, invoke, builtin, Sem.run_bind, Sem.run_pure, Result.andThen_ok, List.map_toArray, List.map_cons, List.map_nil, hs, hx, hr]
  exact hK _ _ (h v' w' h2 h3 h4)

theorem wpListIn_app {F : Fence} {k : Nat} {P : Program} {w : World} {ops : Array Oper} {rest : List Oper} {o : Oper} {a : Act} {Q : Exit → Act → World → Prop} (hgd : o.guard = none) (s x : Operand) {t e : Nat} {z : Value} {size bytes : Nat}
    (hT : SlT P t e z size bytes) (ho : o.op = .call { callee := .builtin .append, args := #[s, x], argTypes := #[t, t] })
    {v : Value} {n : Nat} {xs : List Value} (hown : Own w e size v n xs) (hs : a.eval s = v) {u : Value} {m : Nat} {news : List Value} (hrd : Rd w u m news) (hx : a.eval x = u) (hl : news.length = m * size) (h1 : ∀ u ∈ news, u.oneCell' = true)
    (h63 : n + m ≤ maxLen) (hbytes : (n + m) * bytes ≤ 140737488355328)
    (h : ∀ v' w', Own w' e size v' (n + m) (xs ++ news) → Frm (fun b => v.ownBlock = some b) w w' → (∀ b, v'.ownBlock = some b → v.ownBlock = some b ∨ w.heap.size ≤ b) → wpListIn F k P ops Q rest (a.put o.dst v') w') : wpListIn F k P ops Q (o :: rest) a w := by
  obtain ⟨i, hi, hz, hsz, hby⟩ := info_parts hT.hi
  obtain ⟨v', w', hr, h2, h3, h4⟩ := run_app (P := P) w t o.type e i z size bytes hT.ht hi hz hsz hby hT.hz hT.hs v n xs hown u m news hrd hl h1 h63 hbytes
  refine wpListIn_plain hgd fun K hK => ?_
  unfold Oper.wpIn
  refine ⟨?_, ?_⟩
  · simp [Oper.about, ho, resolve, Target.leads, Sem.run_pure]
  · rw [Oper.semAt_plain F _ _ (by rw [ho]; intro c hc'; cases hc')]
    simp only [execOp, ho, resolve, invoke, builtin, Sem.run_bind, Sem.run_pure, Result.andThen_ok, List.map_toArray, List.map_cons, List.map_nil, hs, hx, hr]
    exact hK _ _ (h v' w' h2 h3 h4)
end Go.Proofs.Ytjkcclcjhidokaa
