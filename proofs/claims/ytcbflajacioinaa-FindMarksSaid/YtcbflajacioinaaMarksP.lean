/- A machine of marks, one behind the other, an eater and an end: its ways, as plain Lean. -/
import Derived.Test.YtcbflajacioinaaFindWay
namespace Go.Proofs.Ytcbflajacioinaa
open Go.RowKit Go.Proofs.YtcbflajacioinaaW.PrintWords Go.Proofs.YtcbflajacioinaaW.PrintLast

def markN (t : Int) (i : Nat) : Node := ⟨3, [], [], t, (i : Int) + 1⟩
def eatN (c : Int) (n : Nat) : Node := ⟨1, [⟨c, c, (n : Int) + 1⟩], [], 0, 0⟩
def endN : Node := ⟨4, [], [], 0, 0⟩
/-- The marks of the first so many tags. -/
def marksN (tags : List Int) (k : Nat) : List Node := (List.range k).map (fun i => markN (tags.getD i 0) i)
def chainM (tags : List Int) (c : Int) : List Node := marksN tags tags.length ++ [eatN c tags.length, endN]
theorem marksN_snoc (tags : List Int) (k : Nat) : marksN tags (k + 1) = marksN tags k ++ [markN (tags.getD k 0) k] := by unfold marksN; rw [List.range_succ, List.map_append]; rfl
theorem marksN_len (tags : List Int) (k : Nat) : (marksN tags k).length = k := by simp [marksN]
theorem chainM_len (tags : List Int) (c : Int) : (chainM tags c).length = tags.length + 2 := by simp [chainM, marksN_len]

theorem chain_mark (tags : List Int) (c : Int) (i : Nat) (h : i < tags.length) : rd_Node (chainM tags c) (i : Int) = markN (tags.getD i 0) i := by
  unfold rd_Node chainM
  rw [Int.toNat_natCast, List.getD_eq_getElem?_getD, List.getElem?_append_left (by rw [marksN_len]; exact h)]
  unfold marksN
  rw [List.getElem?_map, List.getElem?_range h]
  rfl
theorem chain_eat (tags : List Int) (c : Int) : rd_Node (chainM tags c) (tags.length : Int) = eatN c tags.length := by
  unfold rd_Node chainM
  rw [Int.toNat_natCast, List.getD_eq_getElem?_getD, List.getElem?_append_right (by rw [marksN_len]; exact Nat.le_refl _), marksN_len, Nat.sub_self]
  rfl
theorem chain_end (tags : List Int) (c : Int) : rd_Node (chainM tags c) ((tags.length : Int) + 1) = endN := by
  unfold rd_Node chainM
  rw [show ((tags.length : Int) + 1).toNat = tags.length + 1 by omega, List.getD_eq_getElem?_getD, List.getElem?_append_right (by rw [marksN_len]; omega), marksN_len, show tags.length + 1 - tags.length = 1 by omega]
  rfl

theorem chain_may (tags : List Int) (c : Int) (hl : tags.length ≤ 100) : mayB (chainM tags c) = true := by
  unfold mayB
  simp only [Bool.and_eq_true, List.all_eq_true]
  refine ⟨by simp only [chainM_len, decide_eq_true_eq]; omega, fun i hi => ?_⟩
  have hi := List.mem_range.1 hi
  rw [chainM_len] at hi
  rcases Nat.lt_trichotomy i tags.length with h | h | h
  · rw [chain_mark tags c i h, chainM_len]
    unfold rightB upB markN
    simp
    omega
  · subst h
    rw [chain_eat, chainM_len]
    unfold rightB eatN eatsB edgeGood
    simp
    omega
  · obtain rfl : i = tags.length + 1 := by omega
    rw [show ((tags.length + 1 : Nat) : Int) = (tags.length : Int) + 1 by omega, chain_end, chainM_len]
    unfold rightB endN
    simp

section
variable (tags : List Int) (c : Int) (hl : tags.length ≤ 100)

theorem chain_in (s : ByteArray) (i : Nat) (h : i ≤ tags.length + 1) (a : Int) (h0 : 0 ≤ a) (h1 : a ≤ s.size) : InP (chainM tags c) s ⟨(i : Int), a⟩ := ⟨by dsimp only; omega, by rw [chainM_len]; dsimp only; omega, h0, h1⟩

theorem nexts_mark (s : ByteArray) (i : Nat) (h : i < tags.length) (a : Int) : nextsP (chainM tags c) s ⟨(i : Int), a⟩ = [⟨((i + 1 : Nat) : Int), a⟩] ∧ endsP (chainM tags c) s ⟨(i : Int), a⟩ = false := by
  unfold nextsP endsP
  dsimp only
  rw [chain_mark tags c i h]
  exact ⟨by rw [if_pos (show (markN (tags.getD i 0) i).f0 = 3 from rfl)]; simp [markN], by simp [markN]⟩
theorem nexts_end (s : ByteArray) (a : Int) : nextsP (chainM tags c) s ⟨(tags.length : Int) + 1, a⟩ = [] ∧ endsP (chainM tags c) s ⟨(tags.length : Int) + 1, a⟩ = decide (a = s.size) := by
  unfold nextsP endsP
  dsimp only
  rw [chain_end]
  exact ⟨by simp [endN], by simp [endN]⟩
theorem nexts_eat (s : ByteArray) (a : Int) : nextsP (chainM tags c) s ⟨(tags.length : Int), a⟩ = (if takesP s a ⟨c, c, (tags.length : Int) + 1⟩ then [⟨(tags.length : Int) + 1, a + 1⟩] else []) ∧ endsP (chainM tags c) s ⟨(tags.length : Int), a⟩ = false := by
  unfold nextsP endsP
  dsimp only
  rw [chain_eat]
  refine ⟨?_, by simp [eatN]⟩
  rw [if_neg (by simp [eatN]), if_neg (by simp [eatN]), if_pos (show (eatN c tags.length).f0 = 1 from rfl)]
  unfold eatN
  dsimp only
  cases h : takesP s a ⟨c, c, (tags.length : Int) + 1⟩ <;> simp [h]

include hl
/-- Of a text that is one byte, the eater's: one way from everywhere. -/
theorem chain_many (s : ByteArray) (hs : s.size = 1) (hb : bt s 0 = c) : ∀ (d i : Nat), i + d = tags.length → manyP (chainM tags c) s ⟨(i : Int), 0⟩ = 1 := by
  have hm := chain_may tags c hl
  have hend : manyP (chainM tags c) s ⟨(tags.length : Int) + 1, 1⟩ = 1 := by
    have hi := chain_in tags c s (tags.length + 1) (Nat.le_refl _) 1 (by omega) (by omega)
    rw [show ((tags.length + 1 : Nat) : Int) = (tags.length : Int) + 1 by omega] at hi
    rw [manyP_eq hm hi, (nexts_end tags c s 1).1, (nexts_end tags c s 1).2, hs]
    rfl
  intro d
  induction d with
  | zero =>
    intro i hi
    obtain rfl : i = tags.length := by omega
    have ht : takesP s 0 ⟨c, c, (tags.length : Int) + 1⟩ = true := by unfold takesP; rw [hb]; simp; omega
    rw [manyP_eq hm (chain_in tags c s tags.length (by omega) 0 (by omega) (by omega)), (nexts_eat tags c s 0).1, (nexts_eat tags c s 0).2, ht]
    simp only [if_true, Int.zero_add, List.foldl_cons, List.foldl_nil, hend]
    rfl
  | succ d ih =>
    intro i hi
    rw [manyP_eq hm (chain_in tags c s i (by omega) 0 (by omega) (by omega)), (nexts_mark tags c s i (by omega) 0).1, (nexts_mark tags c s i (by omega) 0).2]
    simp only [List.foldl_cons, List.foldl_nil, ih (i + 1) (by omega)]
    rfl
/-- Of no text: none. -/
theorem chain_none (s : ByteArray) (hs : s.size = 0) : ∀ (d i : Nat), i + d = tags.length → manyP (chainM tags c) s ⟨(i : Int), 0⟩ = 0 := by
  have hm := chain_may tags c hl
  intro d
  induction d with
  | zero =>
    intro i hi
    obtain rfl : i = tags.length := by omega
    have ht : takesP s 0 ⟨c, c, (tags.length : Int) + 1⟩ = false := by unfold takesP; rw [hs]; simp
    rw [manyP_eq hm (chain_in tags c s tags.length (by omega) 0 (by omega) (by omega)), (nexts_eat tags c s 0).1, (nexts_eat tags c s 0).2, ht]
    rfl
  | succ d ih =>
    intro i hi
    rw [manyP_eq hm (chain_in tags c s i (by omega) 0 (by omega) (by omega)), (nexts_mark tags c s i (by omega) 0).1, (nexts_mark tags c s i (by omega) 0).2]
    simp only [List.foldl_cons, List.foldl_nil, ih (i + 1) (by omega)]
    rfl
theorem chain_way (s : ByteArray) (hs : s.size = 1) (hb : bt s 0 = c) : ∀ (d i : Nat), i + d = tags.length → wayP (chainM tags c) s ⟨(i : Int), 0⟩ 0 = (tags.drop i).map (fun t => (⟨t, 0⟩ : Hit)) := by
  have hm := chain_may tags c hl
  intro d
  induction d with
  | zero =>
    intro i hi
    obtain rfl : i = tags.length := by omega
    have hin := chain_in tags c s tags.length (by omega) 0 (by omega) (by omega)
    have h1 := chain_many tags c hl s hs hb 0 tags.length rfl
    have ht : takesP s 0 ⟨c, c, (tags.length : Int) + 1⟩ = true := by unfold takesP; rw [hb]; simp; omega
    have he : endsP (chainM tags c) s ⟨(tags.length : Int) + 1, 1⟩ = true := by rw [(nexts_end tags c s 1).2, hs]; rfl
    have hmk : markP (chainM tags c) ⟨(tags.length : Int), 0⟩ = [] := by unfold markP; dsimp only; rw [chain_eat]; rfl
    have hi2 := chain_in tags c s (tags.length + 1) (Nat.le_refl _) 1 (by omega) (by omega)
    rw [show ((tags.length + 1 : Nat) : Int) = (tags.length : Int) + 1 by omega] at hi2
    have hm1 : manyP (chainM tags c) s ⟨(tags.length : Int) + 1, 1⟩ = 1 := by
      rw [manyP_eq hm hi2, (nexts_end tags c s 1).1, (nexts_end tags c s 1).2, hs]
      rfl
    rw [wayP_step hm hin (nexts_eat tags c s 0).2 (Int.le_refl _) (by rw [h1]; decide), hmk, (nexts_eat tags c s 0).1, ht]
    simp only [if_true, Int.zero_add, pickP, hm1]
    rw [if_pos (by decide), wayP_end he]
    simp
  | succ d ih =>
    intro i hi
    have hin := chain_in tags c s i (by omega) 0 (by omega) (by omega)
    have h1 := chain_many tags c hl s hs hb (d + 1) i hi
    have h2 := chain_many tags c hl s hs hb d (i + 1) (by omega)
    have hmk : markP (chainM tags c) ⟨(i : Int), 0⟩ = [⟨tags.getD i 0, 0⟩] := by unfold markP; dsimp only; rw [chain_mark tags c i (by omega)]; rfl
    rw [wayP_step hm hin (nexts_mark tags c s i (by omega) 0).2 (Int.le_refl _) (by rw [h1]; decide), hmk, (nexts_mark tags c s i (by omega) 0).1]
    simp only [pickP, h2]
    rw [if_pos (by decide), ih (i + 1) (by omega)]
    have hlt : i < tags.length := by omega
    rw [List.drop_eq_getElem_cons hlt, List.map_cons, List.getD_eq_getElem?_getD, List.getElem?_eq_getElem hlt]
    rfl
end

end Go.Proofs.Ytcbflajacioinaa
