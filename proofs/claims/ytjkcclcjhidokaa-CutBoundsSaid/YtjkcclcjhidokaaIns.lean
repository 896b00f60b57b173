/- slices.Insert of one entry. -/
import Derived.Test.YtjkcclcjhidokaaProg
import Derived.Test.YtjkcclcjhidokaaBase
import Derived.Lib.AppendZerosOnto
import Derived.Lib.Overlaps
import Derived.StillTailTactics
import Derived.Deep.RegionLaw
import Derived.Lib.Hide
namespace Go.Proofs.Ytjkcclcjhidokaa
open Go.RowKit
set_option maxHeartbeats 400000

theorem T155 : SlT Try.prog 155 180 (.agg #[.int .i64 0, .int .i64 0]) 2 16 := ⟨Try.underlying155, by kernel_rfl, rfl, by decide⟩

def insAt (es : List (Int × Int)) (i : Nat) (p : Int × Int) : List (Int × Int) := es.take i ++ p :: es.drop i

theorem flat2_append (a b : List (Int × Int)) : flat2 (a ++ b) = flat2 a ++ flat2 b := by simp [flat2]
theorem flat2_one (p : Int × Int) : flat2 [p] = [.int .i64 p.1, .int .i64 p.2] := rfl
theorem flat2_cell (es : List (Int × Int)) : ∀ u ∈ flat2 es, u.oneCell' = true := by
  intro u hu
  simp only [flat2, List.mem_flatMap] at hu
  obtain ⟨e, _, hu⟩ := hu
  simp at hu
  rcases hu with rfl | rfl <;> rfl

theorem ins_end (es : List (Int × Int)) (p : Int × Int) (s v : Value) (w : World) (hs : Own w 180 2 s es.length (flat2 es)) (hv : Rd w v 1 (flat2 [p])) (hn : es.length ≤ 1000000) :
    Calls Try.prog 128 #[s, .int .i64 es.length, v] w fun e w' => ∃ s', e = .returned s' ∧ Own w' 180 2 s' (es.length + 1) (flat2 (insAt es es.length p)) ∧ Frm (fun b => s.ownBlock = some b) w w' ∧
      (∀ b, s'.ownBlock = some b → s.ownBlock = some b ∨ w.heap.size ≤ b) := by
  have hs0 := hs
  obtain ⟨a, cap, rfl, hcap, hnil, hc⟩ := own_rd hs
  have hv0 := hv
  obtain ⟨va, vc, rfl, hvcap, hvn, hvc⟩ := hv
  have he : insAt es es.length p = es ++ [p] := by simp [insAt]
  rw [he, flat2_append]
  clear he
  go_enter Try.func128, Try.ntmps128
  go_wp2_with (at_builtin; refine wpList_app rfl (.tmp 23) (.tmp 24) T155 rfl hs0 rfl hv0 rfl rfl (flat2_cell _) (by unfold maxLen; omega) (by omega) ?_; intro v' w' h1 h2 h3)
  all_goals (go_ret; first | exact ⟨_, rfl, h1, h2, h3⟩ | (obtain rfl : cap = es.length := (by assumption); exact ⟨_, rfl, h1, h2, h3⟩))

theorem wpList_cpy {P : Program} (w : World) {ops : Array Oper} {rest : List Oper} {o : Oper} {a : Act} {Q : Exit → Act → World → Prop} (hgd : o.guard = none) (d s : Operand) (t t' : TypeId)
    (ho : o.op = .call { callee := .builtin .copy, args := #[d, s], argTypes := #[t, t'] }) (v u : Value) (hd : a.eval d = v) (hs : a.eval s = u) {v' : Value} {w' : World}
    (hr : (Builtin.copy_ #[t, t'] o.type #[v, u]).run P w = .ok v' w') (h : wpList P ops Q rest (a.put o.dst v') w') : wpList P ops Q (o :: rest) a w := by
  refine wpList_plain hgd fun K hK => ?_
  unfold Oper.wp
  simp [execOp, ho, resolve, invoke, builtin, hd, hs, hr, Result.andThen]
  exact hK _ _ h
theorem step_cpy {P : Program} {ops : Array Oper} {o : Oper} {a : Act} {w : World} {K : Act → World → Prop} {Q : Exit → Act → World → Prop} {E : Prop}
    (hg : o.guard = none) (d x : Operand) (dT sT : TypeId) (hop : o.op = Op.call { callee := Callee.builtin Builtin.copy, args := #[d, x], argTypes := #[dT, sT] })
    (v u : Value) (hd : a.eval d = v) (hx : a.eval x = u) {v' : Value} {w' : World} (hr : (Builtin.copy_ #[dT, sT] o.type #[v, u]).run P w = .ok v' w') (hK : K (a.put o.dst v') w') :
    if Region.wanted o (yielded ops a.tmps) = true then Oper.wp P o a w K Q else E := by
  have hw : Region.wanted o (yielded ops a.tmps) = true := by simp [Region.wanted, hg]
  rw [if_pos hw]
  unfold Oper.wp
  simp [execOp, hop, resolve, invoke, builtin, hd, hx, hr, Result.andThen]
  exact hK

theorem flat2_take (es : List (Int × Int)) (i : Nat) : flat2 (es.take i) = (flat2 es).take (i * 2) := by
  induction es generalizing i with
  | nil => simp [flat2]
  | cons e es ih =>
    cases i with
    | zero => simp [flat2]
    | succ i => have := ih i; simp only [flat2, List.take_succ_cons, List.flatMap_cons] at this ⊢; rw [this, show (i + 1) * 2 = i * 2 + 1 + 1 from by omega]; simp
theorem flat2_drop (es : List (Int × Int)) (i : Nat) : flat2 (es.drop i) = (flat2 es).drop (i * 2) := by
  induction es generalizing i with
  | nil => simp [flat2]
  | cons e es ih =>
    cases i with
    | zero => simp [flat2]
    | succ i => have := ih i; simp only [flat2, List.drop_succ_cons, List.flatMap_cons] at this ⊢; rw [this, show (i + 1) * 2 = i * 2 + 1 + 1 from by omega]; simp
theorem flat2_ins (es : List (Int × Int)) (i : Nat) (p : Int × Int) : flat2 (insAt es i p) = (flat2 es).take (i * 2) ++ (flat2 [p] ++ (flat2 es).drop (i * 2)) := by
  rw [← flat2_take, ← flat2_drop, ← flat2_append, ← flat2_append]; rfl

theorem shift_list (C F Q : List Value) (n i cap : Nat) (hF : F.length = n * 2) (hQ : Q.length = 2) (hC : C.length = cap * 2) (hi : i < n) (hcap : n + 1 ≤ cap) (ht : C.take (n * 2) = F) (L1 : List Value)
    (h1 : L1 = C.take ((i + 1) * 2) ++ F.drop (i * 2) ++ C.drop ((i + 1) * 2 + (F.drop (i * 2)).length)) :
    (L1.take (i * 2) ++ Q ++ L1.drop (i * 2 + Q.length)).length = cap * 2 ∧ (L1.take (i * 2) ++ Q ++ L1.drop (i * 2 + Q.length)).take ((n + 1) * 2) = F.take (i * 2) ++ (Q ++ F.drop (i * 2)) := by
  have hfd : (F.drop (i * 2)).length = n * 2 - i * 2 := by rw [List.length_drop, hF]
  have l1 : L1.length = cap * 2 := by rw [h1]; simp only [List.length_append, List.length_take, List.length_drop, hC, hF]; omega
  have t1 : L1.take (i * 2) = F.take (i * 2) := by
    rw [h1, List.append_assoc, List.take_append_of_le_length (by rw [List.length_take, hC]; omega), List.take_take, ← ht, List.take_take]
    congr 1; omega
  have d1 : L1.drop (i * 2 + 2) = F.drop (i * 2) ++ C.drop ((i + 1) * 2 + (F.drop (i * 2)).length) := by
    rw [h1, List.append_assoc, List.drop_append_of_le_length (by rw [List.length_take, hC]; omega)]
    rw [List.drop_eq_nil_of_le (by rw [List.length_take, hC]; omega)]
    rfl
  rw [hQ, t1, d1]
  constructor
  · simp only [List.length_append, List.length_take, List.length_drop, hC, hF, hQ]; omega
  · rw [List.append_assoc, ← List.append_assoc Q, ← List.append_assoc (F.take (i * 2))]
    rw [List.take_append_of_le_length (by simp only [List.length_append, List.length_take, List.length_drop, hF, hQ]; omega)]
    exact List.take_of_length_le (by simp only [List.length_append, List.length_take, List.length_drop, hF, hQ]; omega)

set_option maxRecDepth 100000 in
set_option maxHeartbeats 1000000 in
theorem ins_shift (es : List (Int × Int)) (i : Nat) (p : Int × Int) (g cap vb : Nat) (w : World) (hs : Own w 180 2 (.slice (some ⟨g, 0, none⟩) es.length cap) es.length (flat2 es)) (hv : w.heap[vb]? = some (.cells (flat2 [p]).toArray 180 (0, 0))) (hvb : vb ≠ g)
    (hi : i < es.length) (hroom : es.length + 1 ≤ cap) (hn : es.length ≤ 1000000) :
    Calls Try.prog 128 #[.slice (some ⟨g, 0, none⟩) es.length cap, .int .i64 i, .slice (some ⟨vb, 0, none⟩) 1 1] w fun e w' => e = .returned (.slice (some ⟨g, 0, none⟩) (es.length + 1) cap) ∧
      Own w' 180 2 (.slice (some ⟨g, 0, none⟩) (es.length + 1) cap) (es.length + 1) (flat2 (insAt es i p)) ∧ Frm (fun b => b = g) w w' := by
  obtain ⟨hl, h⟩ := hs
  rcases h with ⟨h, _⟩ | ⟨g', cap', cur, he, h0, hg, hnc, hm, hcs, ht⟩
  · cases h
  cases he
  have hl2 : (flat2 es).length = 2 * es.length := flat2_length es
  have hz2 : ¬ ((i : Int) = (es.length : Int)) := by omega
  have hov : ∀ lb cb, (callFunc 138 #[.slice (some ⟨vb, 0, none⟩) 1 1, .slice (some ⟨g, (i + 1) * 2, none⟩) lb cb]).run Try.prog w = .ok (.value (.bool false)) w := fun lb cb => by
    rw [run_callFunc_extern Try.func138 (by kernel_rfl) (by kernel_rfl) (by kernel_rfl) (e := Extern.SlicesOverlaps.overlaps #[155, 155] #[4]) (by kernel_rfl),
      Lib.run_overlaps_apart w 155 4 180 Try.underlying155 2 (fun _ => by kernel_rfl) ⟨vb, 0, none⟩ ⟨g, (i + 1) * 2, none⟩ 1 1 lb cb hvb 180 180 2 cur.size (by simp [World.shape?, hv, flat2]) (by simp [World.shape?, hg]) (by omega) (by simp [World.frozen?, hv]) (by simp [World.frozen?, hv])]
    rfl
  obtain ⟨L1, hL1⟩ : ∃ L1, L1 = cur.toList.take ((i + 1) * 2) ++ (flat2 es).drop (i * 2) ++ cur.toList.drop ((i + 1) * 2 + ((flat2 es).drop (i * 2)).length) := ⟨_, rfl⟩
  obtain ⟨W1, hW1⟩ : ∃ W1, W1 = w.drew.setRow g L1.toArray := ⟨_, rfl⟩
  have hsl := shift_list cur.toList (flat2 es) (flat2 [p]) es.length i cap hl rfl (by simpa using hcs) hi hroom ht L1 hL1
  have hC0 : CellsAt w.drew (some ⟨g, i * 2, none⟩) ((flat2 es).drop (i * 2)) := fun _ => ⟨g, i * 2, cur, 180, _, rfl, hg, fun j hj => by
    rw [List.length_drop] at hj
    rw [List.getElem?_drop, ← ht, List.getElem?_take, if_pos (by omega)]; simp⟩
  have hcp1 : ∀ ty dc sc, (Builtin.copy_ #[155, 155] ty #[.slice (some ⟨g, (i + 1) * 2, none⟩) (es.length - i) dc, .slice (some ⟨g, i * 2, none⟩) (es.length + 1 - i) sc]).run Try.prog w.drew = .ok (goInt (Nat.min (es.length + 1 - i) (es.length - i))) W1 := fun ty dc sc => by
    rw [hW1, hL1]
    exact run_cpy w.drew 155 155 ty 180 g ((i + 1) * 2) _ dc _ _ sc cur 180 ((flat2 es).drop (i * 2)) 2 Try.underlying155 (by kernel_rfl) hg (by rw [List.length_drop, hl]; simp only [Nat.min_def]; split <;> omega) hC0
      (by rw [List.length_drop, hl]; omega) (fun u hu => flat2_cell es u (List.mem_of_mem_drop hu))
  have hg1 : W1.heap[g]? = some (.cells L1.toArray 180 (0, 0)) := by rw [hW1]; exact setRow_heap w.drew g cur _ 180 _ hg
  have hv1 : W1.heap[vb]? = some (.cells (flat2 [p]).toArray 180 (0, 0)) := by rw [hW1]; exact (setRow_other _ _ _ _ hvb).trans hv
  have hl1 : L1.length = cap * 2 := by rw [hL1]; simp only [List.length_append, List.length_take, List.length_drop, hl]; simp only [Array.length_toList, hcs]; omega
  have hcp2 : ∀ ty dc, (Builtin.copy_ #[155, 155] ty #[.slice (some ⟨g, i * 2, none⟩) (es.length + 1 - i) dc, .slice (some ⟨vb, 0, none⟩) 1 1]).run Try.prog W1 = .ok (goInt (Nat.min 1 (es.length + 1 - i))) (W1.setRow g (L1.take (i * 2) ++ flat2 [p] ++ L1.drop (i * 2 + (flat2 [p]).length)).toArray) := fun ty dc => by
    have := run_cpy W1 155 155 ty 180 g (i * 2) (es.length + 1 - i) dc (some ⟨vb, 0, none⟩) 1 1 L1.toArray 180 (flat2 [p]) 2 Try.underlying155 (by kernel_rfl) hg1 (by simp only [Nat.min_def]; split <;> simp [flat2]; omega)
      (fun _ => ⟨vb, 0, _, 180, _, rfl, hv1, fun j _ => by simp⟩) (by simp [flat2, hl1]; omega) (flat2_cell _)
    simpa using this
  clear hL1
  have HW1 := Lib.hid hW1
  have HSL := Lib.hid hsl
  have HC := Lib.hid ht
  clear hW1 hsl ht
  have hw1 : IntKind.i64.wrap ((i : Int) + 1) = (i : Int) + 1 := by rw [IntKind.wrap_i64]; omega
  have hb1 : (0 : Int) ≤ (i : Int) + 1 := by omega
  have htn : ((i : Int) + 1).toNat = i + 1 := by omega
  have hb2 : ¬ (cap = i + 1) := by omega
  have hb3 : (i : Int) ≤ (es.length : Int) := by omega
  have hb5 : (i : Int) ≤ (es.length : Int) + 1 := by omega
  have hb4 : ¬ (cap = i) := by omega
  have hin : i ≤ es.length := by omega
  go_enter Try.func128, Try.ntmps128
  go_wp2_with (simp only [hov])
  go_region_law (refine step_cpy rfl _ _ 155 155 rfl _ _ (by simp [Act.eval]) (by simp [Act.eval]) (hcp1 _ _ _) ?_)
  go_wp2_with (at_builtin; refine wpList_cpy _ rfl _ _ 155 155 rfl _ _ rfl rfl (hcp2 _ _) ?_)
  go_ret
  refine ⟨rfl, ⟨by rw [flat2_length]; simp [insAt]; omega, .inr ⟨g, cap, _, rfl, h0, setRow_heap W1 g _ _ 180 _ hg1, hroom, hm, ?_, ?_⟩⟩, ?_⟩
  · simpa using HSL.out.1
  · rw [flat2_ins]; simpa using HSL.out.2
  · rw [HW1.out]
    exact ⟨rfl, rfl, rfl, by simp [World.setRow], fun k _ hk => (setRow_other _ _ _ _ hk).trans (setRow_other _ _ _ _ hk)⟩

theorem wpList_app_run {P : Program} (w : World) {ops : Array Oper} {rest : List Oper} {o : Oper} {a : Act} {Q : Exit → Act → World → Prop} (hgd : o.guard = none) (d s : Operand) (t t' : TypeId)
    (ho : o.op = .call { callee := .builtin .append, args := #[d, s], argTypes := #[t, t'] }) (v u : Value) (hd : a.eval d = v) (hs : a.eval s = u) {v' : Value} {w' : World}
    (hr : (Builtin.append_ #[t, t'] o.type #[v, u]).run P w = .ok v' w') (h : wpList P ops Q rest (a.put o.dst v') w') : wpList P ops Q (o :: rest) a w := by
  refine wpList_plain hgd fun K hK => ?_
  unfold Oper.wp
  simp [execOp, ho, resolve, invoke, builtin, hd, hs, hr, Result.andThen]
  exact hK _ _ h

theorem grow_list (F Q Z L0 L1 L2 : List Value) (n i k : Nat) (hF : F.length = n * 2) (hQ : Q.length = 2) (hi : i < n) (h0 : L0 = F.take (i * 2) ++ Z) (hZ : Z.length = k * 2) (hk : n + 1 ≤ i + k)
    (h1 : L1 = L0.take (i * 2) ++ Q ++ L0.drop (i * 2 + Q.length)) (h2 : L2 = L1.take ((i + 1) * 2) ++ F.drop (i * 2) ++ L1.drop ((i + 1) * 2 + (F.drop (i * 2)).length)) :
    L0.length = (i + k) * 2 ∧ L1.length = (i + k) * 2 ∧ L2.length = (i + k) * 2 ∧ L2.take ((n + 1) * 2) = F.take (i * 2) ++ (Q ++ F.drop (i * 2)) := by
  have hfd : (F.drop (i * 2)).length = n * 2 - i * 2 := by rw [List.length_drop, hF]
  have hft : (F.take (i * 2)).length = i * 2 := by rw [List.length_take, hF]; omega
  have l0 : L0.length = (i + k) * 2 := by rw [h0, List.length_append, hft, hZ]; omega
  have l1 : L1.length = (i + k) * 2 := by rw [h1]; simp only [List.length_append, List.length_take, List.length_drop, l0, hQ]; omega
  have l2 : L2.length = (i + k) * 2 := by rw [h2]; simp only [List.length_append, List.length_take, List.length_drop, l1, hF]; omega
  refine ⟨l0, l1, l2, ?_⟩
  have t0 : L0.take (i * 2) = F.take (i * 2) := by
    rw [h0, List.take_append_of_le_length (by omega), List.take_of_length_le (by omega)]
  have t1 : L1.take ((i + 1) * 2) = F.take (i * 2) ++ Q := by
    rw [h1, t0, List.take_append_of_le_length (by rw [List.length_append, hft, hQ]; omega)]
    exact List.take_of_length_le (by rw [List.length_append, hft, hQ]; omega)
  rw [h2, t1, List.append_assoc (F.take (i * 2)) Q, List.append_assoc (F.take (i * 2))]
  rw [show F.take (i * 2) ++ (Q ++ F.drop (i * 2) ++ L1.drop ((i + 1) * 2 + (F.drop (i * 2)).length)) = (F.take (i * 2) ++ (Q ++ F.drop (i * 2))) ++ L1.drop ((i + 1) * 2 + (F.drop (i * 2)).length) from by simp only [List.append_assoc]]
  rw [List.take_append_of_le_length (by simp only [List.length_append, hft, hfd, hQ]; omega)]
  exact List.take_of_length_le (by simp only [List.length_append, hft, hfd, hQ]; omega)

theorem zeroCells_length (z : Array Value) (n : Nat) : (Builtin.zeroCells z n).toList.length = n * z.size := by simp [Builtin.zeroCells]

set_option maxRecDepth 100000 in
set_option maxHeartbeats 1000000 in
theorem ins_grow (es : List (Int × Int)) (i : Nat) (p : Int × Int) (g cap vb : Nat) (w : World) (hs : Own w 180 2 (.slice (some ⟨g, 0, none⟩) es.length cap) es.length (flat2 es)) (hv : w.heap[vb]? = some (.cells (flat2 [p]).toArray 180 (0, 0)))
    (hi : i < es.length) (hroom : cap < es.length + 1) (hn : es.length ≤ 1000000) :
    Calls Try.prog 128 #[.slice (some ⟨g, 0, none⟩) es.length cap, .int .i64 i, .slice (some ⟨vb, 0, none⟩) 1 1] w fun e w' => ∃ s', e = .returned s' ∧
      Own w' 180 2 s' (es.length + 1) (flat2 (insAt es i p)) ∧ Frm Non w w' ∧ (∀ b, s'.ownBlock = some b → w.heap.size ≤ b) := by
  obtain ⟨hl, h⟩ := hs
  rcases h with ⟨h, _⟩ | ⟨g', cap', cur, he, h0, hg, hnc, hm, hcs, ht⟩
  · cases h
  cases he
  obtain rfl : cap = es.length := by omega
  obtain ⟨ii, hii, hzz, hsz, hby⟩ := info_parts T155.hi
  have hCF : ∀ (W : World), W.heap[g]? = some (.cells cur 180 (0, 0)) → CellsAt W (some ⟨g, i * 2, none⟩) ((flat2 es).drop (i * 2)) := fun W hW _ => ⟨g, i * 2, cur, 180, _, rfl, hW, fun j hj => by
    rw [List.length_drop] at hj
    rw [List.getElem?_drop, ← ht, List.getElem?_take, if_pos (by omega)]; simp⟩
  obtain ⟨C, hCdef⟩ : ∃ C, C = grownCap w (es.length + 1) es.length 180 := ⟨_, rfl⟩
  have hC1 : es.length + 1 ≤ C := by rw [hCdef]; exact grownCap_ge _ _ _ _
  have hC2 : C ≤ maxLen := by rw [hCdef]; exact grownCap_le_maxLen _ _ _ _ (by unfold maxLen; omega)
  obtain ⟨Z, hZ⟩ : ∃ Z, Z = (Builtin.zeroCells (Value.agg #[.int .i64 0, .int .i64 0]).cells (es.length + 1 - i)).toList ++ (Builtin.zeroCells (Value.agg #[.int .i64 0, .int .i64 0]).cells (C - (es.length + 1))).toList := ⟨_, rfl⟩
  obtain ⟨L0, hL0⟩ : ∃ L0, L0 = (flat2 es).take (i * 2) ++ Z := ⟨_, rfl⟩
  obtain ⟨L1, hL1⟩ : ∃ L1, L1 = L0.take (i * 2) ++ flat2 [p] ++ L0.drop (i * 2 + (flat2 [p]).length) := ⟨_, rfl⟩
  obtain ⟨L2, hL2⟩ : ∃ L2, L2 = L1.take ((i + 1) * 2) ++ (flat2 es).drop (i * 2) ++ L1.drop ((i + 1) * 2 + ((flat2 es).drop (i * 2)).length) := ⟨_, rfl⟩
  have hZl : Z.length = (C - i) * 2 := by rw [hZ, List.length_append, zeroCells_length, zeroCells_length]; simp only [Value.cells]; simp; omega
  obtain ⟨l0, l1, l2, hfin⟩ := grow_list (flat2 es) (flat2 [p]) Z L0 L1 L2 es.length i (C - i) hl rfl hi hL0 hZl (by omega) hL1 hL2
  rw [show i + (C - i) = C from by omega] at l0 l1 l2
  obtain ⟨W0, hW0⟩ : ∃ W0, W0 = w.drew.alloc (.cells L0.toArray 180) := ⟨_, rfl⟩
  have hF0 : Frm Non w W0 := by rw [hW0]; exact ((Frm.refl w).drew).alloc _
  have g0 : W0.heap[w.heap.size]? = some (.cells L0.toArray 180 (0, 0)) := by rw [hW0]; exact heap_alloc_new w.drew _
  have hglt : g < w.heap.size := (Array.getElem?_eq_some_iff.1 hg).1
  have hvlt : vb < w.heap.size := (Array.getElem?_eq_some_iff.1 hv).1
  have happ : ∀ ty, (Builtin.append_ #[155, 3] ty #[.slice (some ⟨g, 0, none⟩) i es.length, .int .i64 ((es.length : Int) + 1 - (i : Int))]).run Try.prog w = .ok (.slice (some ⟨w.heap.size, 0, none⟩) (es.length + 1) C) W0 := fun ty => by
    have := Lib.run_append_grow_zeros (P := Try.prog) w 155 3 ty 180 ii _ .i64 .i64 Try.underlying155 Try.underlying3 hii hzz (some ⟨g, 0, none⟩) i es.length ((flat2 es).take (i * 2))
      (run_firstCells_some w.drew _ _ _ _ _ _ (by rw [List.length_take, hsz]; omega) (fun j u hj => by
        rw [List.getElem?_take] at hj
        split at hj
        · rw [← ht, List.getElem?_take, if_pos (by omega)] at hj
          rw [show (⟨g, 0, none⟩ : Addr).add j = ⟨g, j, none⟩ from by unfold Addr.add; split <;> simp_all]
          show w.cell? _ = _
          simp only [World.cell?, hg]
          simpa using hj
        · cases hj)) (es.length + 1 - i) (by omega) (by omega) (by omega) (by omega) (by rw [hby]; omega) (growslice_fits (by omega) (by rw [hby]; omega))
    rw [show i + (es.length + 1 - i) = es.length + 1 from by omega, ← hCdef] at this
    rw [show ((es.length + 1 - i : Nat) : Int) = (es.length : Int) + 1 - (i : Int) from by omega] at this
    rw [this, hW0, hL0, hZ]
    congr 3
    apply Array.ext'
    simp
  obtain ⟨W1, hW1⟩ : ∃ W1, W1 = W0.setRow w.heap.size L1.toArray := ⟨_, rfl⟩
  have gg0 : W0.heap[g]? = some (.cells cur 180 (0, 0)) := (hF0.block g hglt (fun x => x)).trans hg
  have gv0 : W0.heap[vb]? = some (.cells (flat2 [p]).toArray 180 (0, 0)) := (hF0.block vb hvlt (fun x => x)).trans hv
  have g1 : W1.heap[w.heap.size]? = some (.cells L1.toArray 180 (0, 0)) := by rw [hW1]; exact setRow_heap W0 _ _ _ 180 _ g0
  have gg1 : W1.heap[g]? = some (.cells cur 180 (0, 0)) := by rw [hW1]; exact (setRow_other _ _ _ _ (by omega)).trans gg0
  have hcp1 : ∀ ty dc, (Builtin.copy_ #[155, 155] ty #[.slice (some ⟨w.heap.size, i * 2, none⟩) (es.length + 1 - i) dc, .slice (some ⟨vb, 0, none⟩) 1 1]).run Try.prog W0 = .ok (goInt (Nat.min 1 (es.length + 1 - i))) W1 := fun ty dc => by
    have := run_cpy W0 155 155 ty 180 w.heap.size (i * 2) (es.length + 1 - i) dc (some ⟨vb, 0, none⟩) 1 1 L0.toArray 180 (flat2 [p]) 2 Try.underlying155 (by kernel_rfl) g0 (by simp only [Nat.min_def]; split <;> simp [flat2]; omega)
      (fun _ => ⟨vb, 0, _, 180, _, rfl, gv0, fun j _ => by simp⟩) (by simp [flat2, l0]; omega) (flat2_cell _)
    rw [this, hW1, hL1]
  have hcp2 : ∀ ty dc sc, (Builtin.copy_ #[155, 155] ty #[.slice (some ⟨w.heap.size, (i + 1) * 2, none⟩) (es.length - i) dc, .slice (some ⟨g, i * 2, none⟩) (es.length - i) sc]).run Try.prog W1.drew = .ok (goInt (Nat.min (es.length - i) (es.length - i))) (W1.drew.setRow w.heap.size L2.toArray) := fun ty dc sc => by
    have := run_cpy W1.drew 155 155 ty 180 w.heap.size ((i + 1) * 2) (es.length - i) dc (some ⟨g, i * 2, none⟩) (es.length - i) sc L1.toArray 180 ((flat2 es).drop (i * 2)) 2 Try.underlying155 (by kernel_rfl) g1 (by rw [List.length_drop, hl]; simp only [Nat.min_def]; split <;> omega) (hCF W1.drew gg1)
      (by rw [List.length_drop, hl]; simp [l1]; omega) (fun u hu => flat2_cell es u (List.mem_of_mem_drop hu))
    rw [this, hL2]
  have hfrm : Frm Non w (W1.drew.setRow w.heap.size L2.toArray) := by
    rw [hW1]
    exact hF0.trans (T := fun b => w.heap.size ≤ b) ⟨rfl, rfl, rfl, by simp [World.setRow], fun k _ hk => (setRow_other _ _ _ _ (by omega)).trans (setRow_other _ _ _ _ (by omega))⟩ (fun _ x => x) (fun _ x => .inr x)
  have gfin : (W1.drew.setRow w.heap.size L2.toArray).heap[w.heap.size]? = some (.cells L2.toArray 180 (0, 0)) := setRow_heap W1.drew _ _ _ 180 _ g1
  clear hW0 hW1 hL0 hL1 hL2 hZ hCdef g0 g1 gg0 gg1 gv0 hii hzz hsz hby l0 l1 hZl hF0
  have HFIN := Lib.hid hfin
  have HG := Lib.hid gfin
  have HT := Lib.hid ht
  have HL2 := Lib.hid l2
  clear hfin gfin ht l2
  have hw1 : IntKind.i64.wrap ((i : Int) + 1) = (i : Int) + 1 := by rw [IntKind.wrap_i64]; omega
  have hb1 : (0 : Int) ≤ (i : Int) + 1 := by omega
  have htn : ((i : Int) + 1).toNat = i + 1 := by omega
  have hb2 : ¬ (C = i + 1) := by omega
  have hb3 : (i : Int) ≤ (es.length : Int) := by omega
  have hb5 : (i : Int) ≤ (es.length : Int) + 1 := by omega
  have hb4 : ¬ (C = i) := by omega
  have hb6 : ¬ (es.length = i) := by omega
  have hin : i ≤ es.length := by omega
  go_enter Try.func128, Try.ntmps128
  go_wp2_with (at_builtin; first | refine wpList_app_run _ rfl _ _ 155 3 rfl _ _ rfl rfl (happ _) ?_ | refine wpList_cpy _ rfl _ _ 155 155 rfl _ _ rfl rfl (hcp1 _ _) ?_)
  go_region_law (refine step_cpy rfl _ _ 155 155 rfl _ _ (by simp [Act.eval]) (by simp [Act.eval]) (hcp2 _ _ _) ?_)
  go_wp2
  go_ret
  exact ⟨_, rfl, ⟨by rw [flat2_length]; simp [insAt]; omega, .inr ⟨_, C, _, rfl, Nat.zero_le _, HG.out, hC1, hC2, by simpa using HL2.out, by rw [flat2_ins]; simpa using HFIN.out⟩⟩, hfrm, fun b hb => by simp [Value.ownBlock] at hb; omega⟩
end Go.Proofs.Ytjkcclcjhidokaa
