/- Opening a law's arguments, and shutting its row. -/
import Derived.Test.YtjkcclcjhidokaaBp
import Derived.Test.YtjkcclcjhidokaaRows
import Derived.ProofKit
import Derived.OpenShut
import Derived.Deep.Strs
namespace Go.Proofs.Ytjkcclcjhidokaa
open Go.ChangeShapes Go.WideShapes Go.ChangeAt Go.RowKit

theorem cellsAt_of {w : World} {a : Addr} {cs : List Value} (h : ∀ i, i < cs.length → w.cell? (a.add i) = cs[i]?) : CellsAt w (some a) cs := by
  intro hne
  have hpos : 0 < cs.length := List.length_pos_iff.2 hne
  have h0 := h 0 hpos
  rw [List.getElem?_eq_getElem hpos] at h0
  obtain ⟨b, off, sp⟩ := a
  have hsp : sp = none := by
    have := World.cell?_spot h0
    simpa [Addr.add] using this
  subst hsp
  have hb : ∃ c E fr, w.heap[b]? = some (.cells c E fr) := by
    rw [Go.WideShapes.add_plain] at h0
    unfold World.cell? at h0
    split at h0
    · rename_i c E fr hh; exact ⟨c, E, fr, hh⟩
    · cases h0
  obtain ⟨c, E, fr, hb⟩ := hb
  refine ⟨b, off, c, E, fr, rfl, hb, fun i hi => ?_⟩
  have := h i hi
  rw [Go.WideShapes.add_plain] at this
  simpa [World.cell?, hb] using this

section
variable {H : Type} {enc : TypeId × Value → H} {P : Program} {W : World}
theorem open_rd {r : Reach} {b0 : Nat} {t e : TypeId} {v : Value} {d : DataW H} {ps : List MemPlace} (ht : P.underlying t = some (.slice e)) (he : P.underlying e = some (.int .i64)) (hc : P.cellsOf e = 1)
    (hval : Value.okWide P W r b0 t v) (hd : DataW.Trod enc P W 0 (fun _ => true) true t v d ps) : ∃ zs : List Int, Rd W v zs.length (ints zs) ∧ ∀ z ∈ zs, -9223372036854775808 ≤ z ∧ z ≤ 9223372036854775807 := by
  obtain ⟨a0, len, cap, rfl⟩ := okWide_slice ht hval
  obtain ⟨fuel, hf⟩ := hd
  rcases open_ints ht he hc hf with ⟨hcs, hx⟩ | ⟨a, len', cap', zs, hcs, _, hl, hm, hz, hx, hcell, hwz⟩
  · simp [Value.cells] at hcs
    obtain ⟨rfl, rfl, rfl⟩ := hcs
    exact ⟨[], ⟨none, 0, rfl, Nat.le_refl _, fun _ => rfl, fun h => absurd rfl h⟩, by simp⟩
  · simp [Value.cells] at hcs
    obtain ⟨rfl, rfl, rfl⟩ := hcs
    rw [if_pos rfl] at hz
    have hlen : (zs.take len).length = len := by rw [List.length_take]; omega
    refine ⟨zs.take len, ⟨some a, cap, by rw [hlen], by rw [hlen]; exact hl, (fun h => by cases h), cellsAt_of fun i hi => ?_⟩, fun z hz => ?_⟩
    · rw [ints_length, hlen] at hi
      have h1 := hcell i (by omega)
      rw [h1]
      simp [ints, hi, List.getD]
      rw [List.getElem?_eq_getElem (by omega)]; simp
    · have := hwz z (List.mem_of_mem_take hz)
      exact bounds_i64 this

theorem open_ops {r : Reach} {b0 : Nat} {t e : TypeId} {f0 f1 f2 : Field} {v : Value} {d : DataW H} {ps : List MemPlace} (ht : P.underlying t = some (.slice e)) (he : P.underlying e = some (.struct #[f0, f1, f2])) (hc : P.cellsOf e = 3)
    (h0 : f0.offset = 0 ∧ P.underlying f0.type = some (.int .i64) ∧ P.cellsOf f0.type = 1) (h1 : f1.offset = 1 ∧ P.underlying f1.type = some (.int .i64) ∧ P.cellsOf f1.type = 1) (h2 : f2.offset = 2 ∧ P.underlying f2.type = some (.int .i64) ∧ P.cellsOf f2.type = 1)
    (hval : Value.okWide P W r b0 t v) (hd : DataW.Trod enc P W 0 (fun _ => true) true t v d ps) : ∃ os : List (Int × Int × Int), Rd W v os.length (flat3 os) := by
  obtain ⟨a0, len, cap, rfl⟩ := okWide_slice ht hval
  obtain ⟨fuel, hf⟩ := hd
  rcases DataW.trod_slice ht hf with ⟨hcs, hx⟩ | ⟨a, len', cap', elems, rest, n, _, hcs, _, _, hl, hm, hlen, hel, _, _⟩
  · simp [Value.cells] at hcs
    obtain ⟨rfl, rfl, rfl⟩ := hcs
    exact ⟨[], ⟨none, 0, rfl, Nat.le_refl _, fun _ => rfl, fun h => absurd rfl h⟩⟩
  · simp [Value.cells] at hcs
    obtain ⟨rfl, rfl, rfl⟩ := hcs
    have each : ∀ i, i < len → ∃ o : Int × Int × Int, W.cell? (a.add (i * 3)) = some (.int .i64 o.1) ∧ W.cell? (a.add (i * 3 + 1)) = some (.int .i64 o.2.1) ∧ W.cell? (a.add (i * 3 + 2)) = some (.int .i64 o.2.2) := by
      intro i hi
      have hE := hel i hi
      rw [hc, List.getElem?_eq_getElem (by omega), Option.bind_eq_some_iff] at hE
      obtain ⟨cs, hcs, hy⟩ := hE
      obtain ⟨_, hl3, hc3⟩ := World.cells?_some hcs
      obtain ⟨y0, y1, y2, m, _, _, g0, g1, g2⟩ := Go.Deep.trod_struct3 he hy
      rw [h0.1, h0.2.2] at g0
      rw [h1.1, h1.2.2] at g1
      rw [h2.1, h2.2.2] at g2
      match cs, hl3 with
      | [x0, x1, x2], _ =>
        obtain ⟨k0, e0, _, _⟩ := DataW.trod_int h0.2.1 g0
        obtain ⟨k1, e1, _, _⟩ := DataW.trod_int h1.2.1 g1
        obtain ⟨k2, e2, _, _⟩ := DataW.trod_int h2.2.1 g2
        simp at e0 e1 e2
        subst e0 e1 e2
        have q0 := hc3 0 (by omega)
        have q1 := hc3 1 (by omega)
        have q2 := hc3 2 (by omega)
        exact ⟨(k0, k1, k2), by simpa [Addr.add_add] using q0, by simpa [Addr.add_add] using q1, by simpa [Addr.add_add] using q2⟩
    have hch : ∃ os : List (Int × Int × Int), os.length = len ∧ ∀ i (h : i < os.length), W.cell? (a.add (i * 3)) = some (.int .i64 os[i].1) ∧ W.cell? (a.add (i * 3 + 1)) = some (.int .i64 os[i].2.1) ∧ W.cell? (a.add (i * 3 + 2)) = some (.int .i64 os[i].2.2) := by
      refine ⟨(List.range len).map fun i => if h : i < len then (each i h).choose else (0, 0, 0), by simp, fun i hi => ?_⟩
      have hi' : i < len := by simpa using hi
      simp only [List.getElem_map, List.getElem_range, dif_pos hi']
      exact (each i hi').choose_spec
    obtain ⟨os, hol, hos⟩ := hch
    refine ⟨os, ⟨some a, cap, by rw [hol], by rw [hol]; exact hl, (fun h => by cases h), cellsAt_of fun i hi => ?_⟩⟩
    rw [flat3_length] at hi
    obtain ⟨j, hj⟩ : ∃ j, j = i / 3 := ⟨_, rfl⟩
    obtain ⟨o1, o2, o3⟩ := hos j (by omega)
    obtain ⟨p1, p2, p3⟩ := flat3_get os j (by omega)
    rw [Nat.mul_comm 3 j] at p1 p2 p3
    have hi3 : i % 3 = 0 ∨ i % 3 = 1 ∨ i % 3 = 2 := by omega
    rcases hi3 with h | h | h
    · obtain rfl : i = j * 3 := by omega
      rw [o1, p1]
    · obtain rfl : i = j * 3 + 1 := by omega
      rw [o2, p2]
    · obtain rfl : i = j * 3 + 2 := by omega
      rw [o3, p3]

theorem trodAll_below (hl : laidOutB P = true) {W' : World} (hb : Below W.heap.size W W') : ∀ (ts : List TypeId) (vs : List Value) (ds : List (DataW H)) (ps : List MemPlace), (∀ t ∈ ts, P.readableRec t = true ∧ t < P.types.size) →
    DataW.TrodAll enc P W 0 (fun _ => true) true ts vs ds ps → (∀ x ∈ ps, x.block < W.heap.size) → DataW.TrodAll enc P W' 0 (fun b => decide (b < W.heap.size)) true ts vs ds ps
  | [], [], [], ps, _, h, _ => h
  | t :: ts, v :: vs, d :: ds, ps, ht, h, hlt => by
    obtain ⟨p, q, h1, h2, rfl⟩ := h
    exact ⟨p, q, Below.trod hl (ht t (by simp)).1 (ht t (by simp)).2 h1 hb (fun x hx => hlt x (List.mem_append_left _ hx)), trodAll_below hl hb ts vs ds q (fun t h => ht t (by simp [h])) h2 (fun x hx => hlt x (List.mem_append_right _ hx)), rfl⟩
  | [], _ :: _, _, _, _, h, _ => h.elim
  | [], [], _ :: _, _, _, h, _ => h.elim
  | _ :: _, [], _, _, _, h, _ => h.elim
  | _ :: _, _ :: _, [], _, _, h, _ => h.elim
/-- a law's row behind its walk: true; the input reads as it did. -/
theorem law_post (hl : laidOutB P = true) {f : Func} {s : ChangeSpec} {W' : World} {args : Array Value} {ds : List (DataW H)} {before : List MemPlace} {tb : TypeId}
    (hvars : s.vars = []) (hts : ∀ t ∈ f.params.toList, P.readableRec t = true ∧ t < P.types.size) (hrt : f.resultTypes = #[tb]) (htb : P.underlying tb = some .bool)
    (hW : DataW.Whole enc P f.params.toList s.vars false W args.toList ds [] before)
    (hres : (s.fn H (ds ++ [])).results = [.lit (.bool true)]) (hargs : (s.fn H (ds ++ [])).args = ds) (hv : (s.fn H (ds ++ [])).vars = []) (hf : Frm Non W W') : s.post enc P f false true false false W args (.bool true) W' := by
  have hlt := hW.lt
  obtain ⟨p, q, hA, hV, rfl, hfz, hnd⟩ := hW
  rw [hvars] at hV
  obtain rfl : q = [] := hV
  refine ⟨ds, [], p ++ [], [], p ++ [], [], ⟨p, [], hA, by rw [hvars]; rfl, rfl, hfz, hnd⟩, ?_, ?_, ?_, hf.below.frame _, fun h => by cases h⟩
  · rw [hrt, hres]
    exact ⟨[], [], shut_bool htb true, rfl, rfl⟩
  · rw [hargs, List.append_nil]
    exact trodAll_below hl hf.below _ _ _ _ hts hA (fun x hx => hlt x (by simpa using hx))
  · rw [hvars, hv]; rfl
end
theorem Try.own : ownKnob Try.prog.godebug = none := by kernel_rfl
theorem Try.laidOut : laidOutB Try.prog = true := by kernel_rfl
end Go.Proofs.Ytjkcclcjhidokaa
