/- What a list of joins makes. -/
import Derived.Test.YtjkcclcjhidokaaXj
namespace Go.Proofs.Ytjkcclcjhidokaa
open Go.RowKit

def buildB (n : Nat) (ops : List (Int × Int × Int)) : Nat → Nat → Int := ops.foldl (fun B o => (joinB n B o.1 o.2.1 o.2.2).2) zeroB
theorem buildB_snoc (n : Nat) (ops : List (Int × Int × Int)) (k : Nat) (h : k < ops.length) : (joinB n (buildB n (ops.take k)) ops[k].1 ops[k].2.1 ops[k].2.2).2 = buildB n (ops.take (k + 1)) := by
  rw [← take_snoc ops k h]; simp only [buildB, List.foldl_append]; rfl
theorem buildB_ok (n : Nat) (ops : List (Int × Int × Int)) : BOk n (buildB n ops) := by
  suffices h : ∀ B, BOk n B → BOk n (ops.foldl (fun B o => (joinB n B o.1 o.2.1 o.2.2).2) B) from
    h zeroB ⟨fun _ _ => rfl, fun _ => rfl, fun _ _ => Int.le_refl _, fun _ _ => by unfold zeroB; decide⟩
  induction ops with
  | nil => exact fun B h => h
  | cons o ops ih => exact fun B h => ih _ (joinB_ok h _ _ _)
/-- can a graph be built? -/
def okB (ws : List Int) (ops : List (Int × Int × Int)) : Bool := decide (ws.length ≤ 30) && decide (ops.length ≤ 60) && (newE ws == 0)

/-- three numbers, as cells. -/
def flat3 (os : List (Int × Int × Int)) : List Value := os.flatMap fun o => [.int .i64 o.1, .int .i64 o.2.1, .int .i64 o.2.2]
theorem flat3_length (os : List (Int × Int × Int)) : (flat3 os).length = 3 * os.length := by
  induction os with
  | nil => rfl
  | cons e es ih => simp [flat3] at ih ⊢; omega
theorem flat3_get (os : List (Int × Int × Int)) (i : Nat) (h : i < os.length) : (flat3 os)[3 * i]? = some (.int .i64 os[i].1) ∧ (flat3 os)[3 * i + 1]? = some (.int .i64 os[i].2.1) ∧ (flat3 os)[3 * i + 2]? = some (.int .i64 os[i].2.2) := by
  induction os generalizing i with
  | nil => simp at h
  | cons e es ih =>
    cases i with
    | zero => simp [flat3]
    | succ i =>
      have := ih i (by simpa using h)
      have e1 : 3 * (i + 1) = 3 * i + 1 + 1 + 1 := by omega
      simp only [e1]
      simpa [flat3] using this
theorem flat3_at {w : World} {a : Option Addr} {os : List (Int × Int × Int)} (h : CellsAt w a (flat3 os)) (i : Nat) (hi : i < os.length) :
    ∃ b off, a = some ⟨b, off, none⟩ ∧ w.cell? ⟨b, off + i * 3, none⟩ = some (.int .i64 os[i].1) ∧ w.cell? ⟨b, off + i * 3 + 1, none⟩ = some (.int .i64 os[i].2.1) ∧ w.cell? ⟨b, off + i * 3 + 2, none⟩ = some (.int .i64 os[i].2.2) := by
  obtain ⟨g1, g2, g3⟩ := flat3_get os i hi
  rw [Nat.mul_comm i 3]
  obtain ⟨b, off, rfl, h1⟩ := h.at _ _ g1
  obtain ⟨b', off', e, h2⟩ := h.at _ _ g2
  cases e
  obtain ⟨b', off', e, h3⟩ := h.at _ _ g3
  cases e
  exact ⟨b, off, rfl, h1, h2, h3⟩
theorem blk_cell3 {w : World} {m : Nat} {v u x : Value} {t : Nat} (h : w.heap[m]? = some (.cells #[v, u, x] t (0, 0))) : w.cell? ⟨m, 0, none⟩ = some v ∧ w.cell? ⟨m, 1, none⟩ = some u ∧ w.cell? ⟨m, 2, none⟩ = some x := by
  simp [World.cell?, h]

/-- both graphs, apart from each other, of the blocks from N on. -/
def Both (w : World) (N gb : Nat) (x : Value) (ws : List Int) (B : Nat → Nat → Int) (S X : Nat → Prop) : Prop :=
  GAt w gb ws B S ∧ XAt w x ws B X ∧ (∀ b, S b → ¬ X b) ∧ (∀ b, S b → N ≤ b) ∧ (∀ b, X b → N ≤ b ∧ b < w.heap.size)
theorem XAt.lt {w : World} {x : Value} {ws : List Int} {B : Nat → Nat → Int} {S : Nat → Prop} (h : XAt w x ws B S) : ∀ b, S b → b < w.heap.size := by
  obtain ⟨_, _, _, _, h⟩ := h; exact h.lt
theorem Both.frm {w w' : World} {N gb : Nat} {x : Value} {ws : List Int} {B : Nat → Nat → Int} {S X T : Nat → Prop} (h : Both w N gb x ws B S X) (f : Frm T w w') (h1 : ∀ b, S b → ¬ T b) (h2 : ∀ b, X b → ¬ T b) : Both w' N gb x ws B S X :=
  ⟨h.1.frm f h1, h.2.1.frm f h2, h.2.2.1, h.2.2.2.1, fun b hb => ⟨(h.2.2.2.2 b hb).1, Nat.lt_of_lt_of_le (h.2.2.2.2 b hb).2 f.size⟩⟩
end Go.Proofs.Ytjkcclcjhidokaa
