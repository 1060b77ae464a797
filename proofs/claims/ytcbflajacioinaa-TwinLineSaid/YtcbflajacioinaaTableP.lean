/- The document's table of ways: each cell, as it is reckoned, is the number of ways. -/
import Derived.Test.YtcbflajacioinaaFindPure
namespace Go.Proofs.Ytcbflajacioinaa
open Go.RowKit Go.Proofs.YtcbflajacioinaaW.PrintWords Go.Proofs.YtcbflajacioinaaW.PrintLast

/-- A cell's number, step by step. -/
def cell1 (m : List Node) (s : ByteArray) (p : Place) : Int := if (rd_Node m p.f0).f0 = 3 then manyP m s ⟨(rd_Node m p.f0).f4, p.f1⟩ else if (rd_Node m p.f0).f0 = 4 ∧ p.f1 = s.size then 1 else 0
def cell2 (m : List Node) (s : ByteArray) (p : Place) (k : Nat) : Int := ((rd_Node m p.f0).f2.take k).foldl (fun n t => min (n + manyP m s ⟨t, p.f1⟩) 1000) (cell1 m s p)
def cell3 (m : List Node) (s : ByteArray) (p : Place) (k : Nat) : Int := ((rd_Node m p.f0).f1.take k).foldl (fun n e => if takesP s p.f1 e = true then manyP m s ⟨e.f2, p.f1 + 1⟩ else n) (cell2 m s p (rd_Node m p.f0).f2.length)
theorem cell2_step (m : List Node) (s : ByteArray) (p : Place) (k : Nat) (hk : k < (rd_Node m p.f0).f2.length) : cell2 m s p (k + 1) = min (cell2 m s p k + manyP m s ⟨(rd_Node m p.f0).f2.getD k 0, p.f1⟩) 1000 := by
  unfold cell2
  rw [List.take_add_one, List.getElem?_eq_getElem hk, List.foldl_append, List.getD_eq_getElem?_getD, List.getElem?_eq_getElem hk]
  rfl
theorem cell3_step (m : List Node) (s : ByteArray) (p : Place) (k : Nat) (hk : k < (rd_Node m p.f0).f1.length) : cell3 m s p (k + 1) = if takesP s p.f1 (rd_Edge (rd_Node m p.f0).f1 (k : Int)) = true then manyP m s ⟨(rd_Edge (rd_Node m p.f0).f1 (k : Int)).f2, p.f1 + 1⟩ else cell3 m s p k := by
  unfold cell3 rd_Edge
  rw [Int.toNat_natCast, List.take_add_one, List.getElem?_eq_getElem hk, List.foldl_append, List.getD_eq_getElem?_getD, List.getElem?_eq_getElem hk]
  rfl

theorem fold_keep (m : List Node) (s : ByteArray) (a : Int) : ∀ (l : List Edge) (n : Int), (∀ e ∈ l, takesP s a e = false) → l.foldl (fun n e => if takesP s a e = true then manyP m s ⟨e.f2, a + 1⟩ else n) n = n
  | [], _, _ => rfl
  | e :: l, n, h => by
    rw [List.foldl_cons, h e List.mem_cons_self]
    exact fold_keep m s a l n (fun x hx => h x (List.mem_cons_of_mem _ hx))
/-- Of edges that lie apart one at most takes a byte. -/
theorem fold_edges (m : List Node) (s : ByteArray) (a : Int) : ∀ (l : List Edge), l.Pairwise edgesApart → (∀ e ∈ l, e.f0 ≤ e.f1) →
    l.foldl (fun n e => if takesP s a e = true then manyP m s ⟨e.f2, a + 1⟩ else n) 0 = ((l.filter (takesP s a)).map (fun e => (⟨e.f2, a + 1⟩ : Place))).foldl (fun n q => min (n + manyP m s q) 1000) 0
  | [], _, _ => rfl
  | e :: l, h, hle => by
    have hp := List.pairwise_cons.1 h
    cases ht : takesP s a e
    · rw [List.foldl_cons, ht, List.filter_cons_of_neg (by simp [ht])]
      exact fold_edges m s a l hp.2 (fun x hx => hle x (List.mem_cons_of_mem _ hx))
    · have hno : ∀ x ∈ l, takesP s a x = false := fun x hx => by
        cases hx' : takesP s a x
        · rfl
        · have h1 := hp.1 x hx
          unfold edgesApart at h1
          unfold takesP at ht hx'
          simp only [Bool.and_eq_true, decide_eq_true_eq] at ht hx'
          omega
      rw [List.foldl_cons, ht, if_pos rfl, fold_keep m s a l _ hno, List.filter_cons_of_pos ht, List.filter_eq_nil_iff.2 (fun x hx => by simp [hno x hx])]
      have := manyP_range m s ⟨e.f2, a + 1⟩
      simp only [List.map_cons, List.map_nil, List.foldl_cons, List.foldl_nil]
      omega

theorem cell_eq {m : List Node} {s : ByteArray} (hm : mayB m = true) {p : Place} (hp : InP m s p) : cell3 m s p (rd_Node m p.f0).f1.length = manyP m s p := by
  have hr := mayB_right hm p.f0 hp.1 hp.2.1
  rw [manyP_eq hm hp]
  unfold cell3 cell2 cell1 nextsP endsP
  rw [List.take_length, List.take_length]
  generalize rd_Node m p.f0 = x at hr
  rcases right_kind hr with h | h | h | h
  · obtain ⟨h1, h2, _⟩ := right_eat hr h
    have := fold_edges m s p.f1 x.f1 (eats_apart h1) (fun e he => (eats_edge h1 e he).1)
    simpa [h, h2] using this
  · obtain ⟨_, h1⟩ := right_fork hr h
    simp [h, h1, List.foldl_map]
  · obtain ⟨_, _, h1, h2⟩ := right_mark hr h
    have := manyP_range m s ⟨x.f4, p.f1⟩
    simp [h, h1, h2]
    omega
  · obtain ⟨h1, h2, _⟩ := right_end hr h
    by_cases hs : p.f1 = s.size <;> simp [h, h1, h2, hs]

theorem cell3_none (m : List Node) (s : ByteArray) (p : Place) (h : ∀ e, takesP s p.f1 e = false) (k : Nat) : cell3 m s p k = cell3 m s p 0 := by
  unfold cell3
  rw [List.take_zero, fold_keep m s p.f1 _ _ (fun e _ => h e)]
  rfl
theorem cell1_range (m : List Node) (s : ByteArray) (p : Place) : 0 ≤ cell1 m s p ∧ cell1 m s p ≤ 1000 := by
  unfold cell1
  split
  · exact manyP_range m s _
  · split <;> omega
theorem cell2_range (m : List Node) (s : ByteArray) (p : Place) (k : Nat) : 0 ≤ cell2 m s p k ∧ cell2 m s p k ≤ 1000 := by
  unfold cell2
  have h := cell1_range m s p
  generalize cell1 m s p = a at h
  generalize (rd_Node m p.f0).f2.take k = l
  induction l generalizing a with
  | nil => exact h
  | cons t l ih => exact ih _ (by have := manyP_range m s ⟨t, p.f1⟩; dsimp only; omega)
theorem right_forks {x : Node} {i n : Int} (h : rightB x i n = true) : ∀ t ∈ x.f2, i < t ∧ t < n := by
  rcases right_kind h with hk | hk | hk | hk
  · rw [(right_eat h hk).2.1]; intro t ht; cases ht
  · exact (right_fork h hk).1
  · rw [(right_mark h hk).2.2.2]; intro t ht; cases ht
  · rw [(right_end h hk).2.1]; intro t ht; cases ht
theorem right_edges {x : Node} {i n : Int} (h : rightB x i n = true) : ∀ e ∈ x.f1, 0 ≤ e.f2 ∧ e.f2 < n := by
  rcases right_kind h with hk | hk | hk | hk
  · intro e he; exact (eats_edge (right_eat h hk).1 e he).2
  · rw [(right_fork h hk).2]; intro e he; cases he
  · rw [(right_mark h hk).2.2.1]; intro e he; cases he
  · rw [(right_end h hk).1]; intro e he; cases he

end Go.Proofs.Ytcbflajacioinaa
