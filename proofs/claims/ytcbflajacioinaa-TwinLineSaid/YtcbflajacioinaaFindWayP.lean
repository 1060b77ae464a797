/- A way through a machine, as a plain function. -/
import Derived.Test.YtcbflajacioinaaFindPure
namespace Go.Proofs.Ytcbflajacioinaa
open Go.RowKit Go.Proofs.YtcbflajacioinaaW.PrintWords Go.Proofs.YtcbflajacioinaaW.PrintLast

def sumP (m : List Node) (s : ByteArray) (l : List Place) : Int := l.foldr (fun q n => manyP m s q + n) 0
theorem sumP_cons (m : List Node) (s : ByteArray) (q : Place) (l : List Place) : sumP m s (q :: l) = manyP m s q + sumP m s l := rfl
theorem sumP_nonneg (m : List Node) (s : ByteArray) : ∀ l, 0 ≤ sumP m s l
  | [] => by simp [sumP]
  | q :: l => by rw [sumP_cons]; have := sumP_nonneg m s l; have := manyP_range m s q; omega
theorem fold_sumP (m : List Node) (s : ByteArray) : ∀ (l : List Place) (a : Int), 0 ≤ a → a ≤ 1000 → l.foldl (fun n q => min (n + manyP m s q) 1000) a = min (a + sumP m s l) 1000
  | [], a, h0, h1 => by simp [sumP]; omega
  | q :: l, a, h0, h1 => by
    have := manyP_range m s q
    rw [List.foldl_cons, fold_sumP m s l _ (by omega) (by omega), sumP_cons]
    have := sumP_nonneg m s l
    omega
theorem manyP_sum {m : List Node} {s : ByteArray} (hm : mayB m = true) {p : Place} (hp : InP m s p) : manyP m s p = min ((if endsP m s p then 1 else 0) + sumP m s (nextsP m s p)) 1000 := by
  rw [manyP_eq hm hp, fold_sumP _ _ _ _ (by split <;> omega) (by split <;> omega)]

/-- The place behind one that the k-th way takes, and which of its ways it is. -/
def pickP (m : List Node) (s : ByteArray) (p : Place) : List Place → Int → Place × Int
  | [], k => (p, k)
  | q :: l, k => if k < manyP m s q then (q, k) else pickP m s p l (k - manyP m s q)
theorem pickP_ok (m : List Node) (s : ByteArray) (p : Place) : ∀ (l : List Place) (k : Int), 0 ≤ k → k < sumP m s l → (pickP m s p l k).1 ∈ l ∧ 0 ≤ (pickP m s p l k).2 ∧ (pickP m s p l k).2 < manyP m s (pickP m s p l k).1 ∧ (pickP m s p l k).2 ≤ k
  | [], k, h0, h1 => by simp [sumP] at h1; omega
  | q :: l, k, h0, h1 => by
    unfold pickP
    by_cases h : k < manyP m s q
    · rw [if_pos h]; exact ⟨List.mem_cons_self, h0, h, Int.le_refl _⟩
    · rw [if_neg h]
      rw [sumP_cons] at h1
      have := manyP_range m s q
      obtain ⟨a, b, c, d⟩ := pickP_ok m s p l (k - manyP m s q) (by omega) (by omega)
      exact ⟨List.mem_cons_of_mem _ a, b, c, by omega⟩
theorem pick_in {m : List Node} {s : ByteArray} (hm : mayB m = true) {p : Place} (hp : InP m s p) (he : endsP m s p = false) {k : Int} (h0 : 0 ≤ k) (h1 : k < manyP m s p) :
    (pickP m s p (nextsP m s p) k).1 ∈ nextsP m s p ∧ InP m s (pickP m s p (nextsP m s p) k).1 ∧ muP m s (pickP m s p (nextsP m s p) k).1 < muP m s p ∧ 0 ≤ (pickP m s p (nextsP m s p) k).2 ∧ (pickP m s p (nextsP m s p) k).2 < manyP m s (pickP m s p (nextsP m s p) k).1 := by
  rw [manyP_sum hm hp, he] at h1
  obtain ⟨a, b, c, _⟩ := pickP_ok m s p (nextsP m s p) k h0 (by simp at h1; omega)
  obtain ⟨d, e⟩ := next_in hm hp a
  exact ⟨a, d, e, b, c⟩

/-- The mark of a place, if its node is one. -/
def markP (m : List Node) (p : Place) : List Hit := if (rd_Node m p.f0).f0 = 3 then [⟨(rd_Node m p.f0).f3, p.f1⟩] else []
def wayF (m : List Node) (s : ByteArray) : Nat → Place → Int → List Hit
  | 0, _, _ => []
  | d + 1, p, k => if endsP m s p then [] else markP m p ++ wayF m s d (pickP m s p (nextsP m s p) k).1 (pickP m s p (nextsP m s p) k).2
def wayP (m : List Node) (s : ByteArray) (p : Place) (k : Int) : List Hit := wayF m s (muP m s p + 1) p k
theorem wayF_more {m : List Node} {s : ByteArray} (hm : mayB m = true) : ∀ (d : Nat) (p : Place) (k : Int), InP m s p → 0 ≤ k → k < manyP m s p → muP m s p < d → wayF m s d p k = wayP m s p k := by
  have key : ∀ (d i j : Nat) (p : Place) (k : Int), InP m s p → 0 ≤ k → k < manyP m s p → muP m s p ≤ d → d < i → d < j → wayF m s i p k = wayF m s j p k := by
    intro d
    induction d using Nat.strongRecOn with
    | _ d ih =>
      intro i j p k hp h0 h1 hd hi hj
      obtain ⟨i, rfl⟩ : ∃ k', i = k' + 1 := ⟨i - 1, by omega⟩
      obtain ⟨j, rfl⟩ : ∃ j', j = j' + 1 := ⟨j - 1, by omega⟩
      unfold wayF
      cases he : endsP m s p
      · obtain ⟨_, a, b, c1, c2⟩ := pick_in hm hp he h0 h1
        simp only [Bool.false_eq_true, if_false]
        rw [ih _ (by omega) i j _ _ a c1 c2 (Nat.le_refl _) (by omega) (by omega)]
      · rfl
  intro d p k hp h0 h1 hd
  exact key (muP m s p) d _ p k hp h0 h1 (Nat.le_refl _) hd (Nat.lt_succ_self _)
theorem wayP_end {m : List Node} {s : ByteArray} {p : Place} (he : endsP m s p = true) (k : Int) : wayP m s p k = [] := by unfold wayP wayF; rw [if_pos he]
theorem wayP_step {m : List Node} {s : ByteArray} (hm : mayB m = true) {p : Place} (hp : InP m s p) (he : endsP m s p = false) {k : Int} (h0 : 0 ≤ k) (h1 : k < manyP m s p) :
    wayP m s p k = markP m p ++ wayP m s (pickP m s p (nextsP m s p) k).1 (pickP m s p (nextsP m s p) k).2 := by
  obtain ⟨_, a, b, c1, c2⟩ := pick_in hm hp he h0 h1
  have h : wayP m s p k = wayF m s (muP m s p + 1) p k := rfl
  rw [h, wayF, he]
  simp only [Bool.false_eq_true, if_false]
  rw [wayF_more hm _ _ _ a c1 c2 b]

/-- Induction along a way. -/
theorem way_ind {m : List Node} {s : ByteArray} (hm : mayB m = true) (Q : Place → Int → Prop) (hend : ∀ p k, InP m s p → endsP m s p = true → Q p k)
    (hstep : ∀ p k, InP m s p → endsP m s p = false → 0 ≤ k → k < manyP m s p → Q (pickP m s p (nextsP m s p) k).1 (pickP m s p (nextsP m s p) k).2 → Q p k) :
    ∀ (d : Nat) (p : Place) (k : Int), muP m s p < d → InP m s p → 0 ≤ k → k < manyP m s p → Q p k := by
  intro d
  induction d with
  | zero => intro p k h; omega
  | succ d ih =>
    intro p k hd hp h0 h1
    cases he : endsP m s p
    · obtain ⟨_, a, b, c1, c2⟩ := pick_in hm hp he h0 h1
      exact hstep p k hp he h0 h1 (ih _ _ (by omega) a c1 c2)
    · exact hend p k hp he

/-- Hits are the marks' own, and never fall. -/
theorem way_len {m : List Node} {s : ByteArray} (hm : mayB m = true) : ∀ (d : Nat) (p : Place) (k : Int), muP m s p < d → InP m s p → 0 ≤ k → k < manyP m s p → (wayP m s p k).length ≤ muP m s p :=
  way_ind hm (fun p k => (wayP m s p k).length ≤ muP m s p) (fun p k _ he => by rw [wayP_end he]; simp) (fun p k hp he h0 h1 ih => by
    obtain ⟨_, a, b, c1, c2⟩ := pick_in hm hp he h0 h1
    have hl : (markP m p).length ≤ 1 := by unfold markP; split <;> simp
    rw [wayP_step hm hp he h0 h1, List.length_append]
    omega)

end Go.Proofs.Ytcbflajacioinaa
