/- What the program's head says, read word by word. -/
import Derived.Test.YtjkcclcjhidokaaRows
import Derived.ProofKit
import Derived.JoinedOf
namespace Go.Proofs.Ytjkcclcjhidokaa
open Go.ChangeShapes Go.WideShapes Go.ChangeAt Go.RowKit

theorem words_word (p : List Char) (hp : p.all (fun c => c != Char.ofNat 32) = true) (r : List Char) : wordsSigns (p ++ Char.ofNat 32 :: r) = p :: wordsSigns r := by
  induction p with
  | nil => rfl
  | cons c p ih =>
    simp only [List.all_cons, Bool.and_eq_true] at hp
    have h1 := ih hp.2
    have hc : c ≠ Char.ofNat 32 := by simpa using hp.1
    rw [List.cons_append, wordsSigns.eq_3 _ _ (fun h => hc h), h1]
noncomputable abbrev PP : Program := Try.pinned.checked.prog
theorem io_is : PP.initOrder = "harness aa9664b8942b3ceb4f0af74e64012f3f093086654e8600606f8f765a258e6134 cut at sandtable/sandtablelaw11.CoarseLevels sandtable/sandtablelaw13.RefineMoves sandtable/sandtablelaw13.RefineEnds sandtable/sandtablelaw13.RefineTwice sandtable/sandtablelaw11.CoarseAlone sandtable/sandtablelaw09.CutParts sandtable/sandtablelaw09.CutGains sandtable/sandtablelaw09.CutNames sandtable/sandtablelaw09.CutBounds sandtable/sandtablelaw13.RefineFalls sandtable/sandtablelaw13.RefineBounds sandtable/sandtablelaw11.CoarseCuts sandtable/sandtablelaw14.PartsFit sandtable/sandtablelaw14.PartsGroups sandtable/sandtablelaw14.PartsEach sandtable/sandtablelaw14.PartsAgain sandtable/sandtablelaw14.PartsMends" := by kernel_rfl
theorem key {α : Type} (F : List Char → α) (s : String) (l : List Char) (h : s = String.ofList l) : F s.toList = F l := by subst h; rw [String.toList_ofList]
set_option maxRecDepth 100000 in
theorem bmw (h s : List Char) (r : List (List Char)) (h1 : h = "harness".toList) (h2 : isSumSigns s = true) : behindMainWord (h :: s :: r) = r := by
  unfold behindMainWord
  simp only [h1, h2]
  simp
theorem words_at (l : List Char) (k : Nat) (h1 : l.drop k = Char.ofNat 32 :: l.drop (k + 1)) (h2 : (l.take k).all (fun c => c != Char.ofNat 32) = true) : wordsSigns l = l.take k :: wordsSigns (l.drop (k + 1)) := by
  have h := words_word (l.take k) h2 (l.drop (k + 1))
  rwa [← h1, List.take_append_drop] at h
theorem head_words (l h s c : List Char) (a b d : Nat) (h0 : behindMainWord [h, s] = []) (e1 : l.take a = h) (e2 : (l.drop (a + 1)).take b = s) (e3 : ((l.drop (a + 1)).drop (b + 1)).take d = c)
    (g1 : l.drop a = Char.ofNat 32 :: l.drop (a + 1)) (g2 : (l.drop (a + 1)).drop b = Char.ofNat 32 :: (l.drop (a + 1)).drop (b + 1)) (g3 : ((l.drop (a + 1)).drop (b + 1)).drop d = Char.ofNat 32 :: ((l.drop (a + 1)).drop (b + 1)).drop (d + 1))
    (p1 : h.all (fun c => c != Char.ofNat 32) = true) (p2 : s.all (fun c => c != Char.ofNat 32) = true) (p3 : c.all (fun c => c != Char.ofNat 32) = true) : ∃ X, behindMainWord (wordsSigns l) = c :: X := by
  subst e1 e2 e3
  refine ⟨wordsSigns (((l.drop (a + 1)).drop (b + 1)).drop (d + 1)), ?_⟩
  rw [words_at l a g1 p1, words_at _ b g2 p2, words_at _ d g3 p3]
  unfold behindMainWord at h0 ⊢
  split at h0
  · rename_i h s r heq
    injection heq with e1 heq
    injection heq with e2 heq
    subst e1 e2
    split at h0
    · rename_i hc
      simp only [hc, if_true]
    · cases h0
  · rename_i hne
    exact absurd rfl (hne _ _ _)
theorem bmw2 (s : List Char) (h2 : isSumSigns s = true) : behindMainWord ["harness".toList, s] = [] := by
  unfold behindMainWord
  simp [h2]
set_option maxRecDepth 100000 in
theorem door_words : ∃ X, behindMainWord (wordsSigns PP.initOrder.toList) = "cut".toList :: X := by
  rw [io_is, key (fun l => ∃ X, behindMainWord (wordsSigns l) = "cut".toList :: X) _ _ rfl]
  refine head_words _ "harness".toList _ "cut".toList 7 64 3 (bmw2 _ ?_) String.toList_ofList.symm rfl String.toList_ofList.symm rfl rfl rfl ?_ ?_ ?_
  · decide +kernel
  · rw [show "harness".toList = _ from String.toList_ofList]; decide +kernel
  · decide +kernel
  · rw [show "cut".toList = _ from String.toList_ofList]; decide +kernel
theorem w_ne (s t : String) (l m : List Char) (h : s.toList = l) (h2 : t.toList = m) (hd : (l == m) = false) : (s.toList == t.toList) = false := by rw [h, h2]; exact hd
theorem e_gc : ("cut".toList == "gc".toList) = false := w_ne _ _ _ _ String.toList_ofList String.toList_ofList (by decide +kernel)
theorem e_spec : ("cut".toList == "spec".toList) = false := w_ne _ _ _ _ String.toList_ofList String.toList_ofList (by decide +kernel)
theorem e_car : ("cut".toList == "carried".toList) = false := w_ne _ _ _ _ String.toList_ofList String.toList_ofList (by decide +kernel)
theorem e_cut : ("cut".toList == "cut".toList) = true := beq_self_eq_true _
theorem strip_none (w : List Char) (X : List (List Char)) : ∀ (os : List String), (os.all fun o => !(w == o.toList)) = true → stripLifts os (w :: X) = ([], w :: X)
  | [], _ => rfl
  | o :: os, h => by
    simp only [List.all_cons, Bool.and_eq_true, Bool.not_eq_true'] at h
    unfold stripLifts
    rw [h.1]
    simp only [Bool.false_eq_true, if_false]
    exact strip_none w X os h.2
theorem door_strip (X : List (List Char)) : stripLifts liftWords ("cut".toList :: X) = ([], "cut".toList :: X) := strip_none _ _ _ (by decide +kernel)
theorem door_make : PP.make = some .cut := by
  obtain ⟨X, hX⟩ := door_words
  unfold Program.make
  rw [hX]
  show (if ("cut".toList == "gc".toList || "cut".toList == "spec".toList) = true then _ else _) = _
  rw [e_gc, e_spec, e_cut]
  rfl
theorem door_heads : PP.headLifts = [] := by
  obtain ⟨X, hX⟩ := door_words
  unfold Program.headLifts
  rw [hX, door_strip]
  simp only [ite_self]
theorem door_final : PP.liftsFinal = false := by
  obtain ⟨X, hX⟩ := door_words
  unfold Program.liftsFinal
  rw [hX, door_heads]
  show ((some "cut".toList == some "carried".toList) && _ || _) = false
  rw [show (some "cut".toList == some "carried".toList) = false from e_car]
  rfl
theorem door_lays : PP.laysLater = false := by kernel_rfl
theorem door_refl : PP.bearsReflect = false := by kernel_rfl
theorem door_fits : PP.doorFits [] = true := by kernel_rfl
theorem door_enter : PP.mayEnter = true := by
  obtain ⟨X, hX⟩ := door_words
  unfold Program.mayEnter
  rw [hX]
  simp only [door_strip, door_lays, door_refl, door_fits, e_gc, e_spec, e_car]
  show (_ || (some "cut".toList == some "cut".toList) && _ && _ && _ && _) = true
  rw [show (some "cut".toList == some "cut".toList) = true from e_cut]
  rfl
end Go.Proofs.Ytjkcclcjhidokaa
