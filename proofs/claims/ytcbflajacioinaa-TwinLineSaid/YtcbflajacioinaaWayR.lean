/- The document's way through a machine, step by step: it picks as the program does. -/
import Derived.Test.YtcbflajacioinaaFindWayP
import Derived.Test.YtcbflajacioinaaTableP
namespace Go.Proofs.Ytcbflajacioinaa
open Go.RowKit Go.Proofs.YtcbflajacioinaaW.PrintWords Go.Proofs.YtcbflajacioinaaW.PrintLast

theorem kind4_ends {m : List Node} {s : ByteArray} (hm : mayB m = true) {p : Place} (hp : InP m s p) {k : Int} (h0 : 0 ≤ k) (h1 : k < manyP m s p) (hk : (rd_Node m p.f0).f0 = 4) : endsP m s p = true := by
  have h := manyP_sum (s := s) hm hp
  have hn : nextsP m s p = [] := by unfold nextsP; rw [hk]; simp
  rw [hn] at h
  cases he : endsP m s p
  · rw [he] at h; simp [sumP] at h; omega
  · rfl
theorem not4_ends {m : List Node} {s : ByteArray} {p : Place} (hk : (rd_Node m p.f0).f0 ≠ 4) : endsP m s p = false := by
  unfold endsP; rw [decide_eq_false hk]; rfl
theorem pick_sum {m : List Node} {s : ByteArray} (hm : mayB m = true) {p : Place} (hp : InP m s p) (he : endsP m s p = false) {k : Int} (h1 : k < manyP m s p) : k < sumP m s (nextsP m s p) := by
  have h := manyP_sum (s := s) hm hp
  rw [he] at h
  simp at h
  omega
theorem pick_mark {m : List Node} {s : ByteArray} {p : Place} {k : Int} (hk : (rd_Node m p.f0).f0 = 3) (h1 : k < sumP m s (nextsP m s p)) : pickP m s p (nextsP m s p) k = (⟨(rd_Node m p.f0).f4, p.f1⟩, k) := by
  have hn : nextsP m s p = [⟨(rd_Node m p.f0).f4, p.f1⟩] := by unfold nextsP; rw [if_pos hk]
  rw [hn] at h1 ⊢
  simp [sumP] at h1
  unfold pickP
  rw [if_pos h1]
theorem nexts_fork {m : List Node} {s : ByteArray} {p : Place} (hk : (rd_Node m p.f0).f0 = 2) : nextsP m s p = (rd_Node m p.f0).f2.map (fun t => ⟨t, p.f1⟩) := by
  unfold nextsP; rw [if_neg (by omega), if_pos hk]

def foldTo (s : ByteArray) (a i0 : Int) (l : List Edge) : Int := l.foldl (fun i e => if takesP s a e = true then e.f2 else i) i0
theorem foldTo_filter (s : ByteArray) (a : Int) : ∀ (l : List Edge) (i0 : Int), foldTo s a i0 l = foldTo s a i0 (l.filter (takesP s a))
  | [], _ => rfl
  | e :: l, i0 => by
    cases h : takesP s a e
    · rw [List.filter_cons_of_neg (by simp [h])]
      have : foldTo s a i0 (e :: l) = foldTo s a i0 l := by unfold foldTo; rw [List.foldl_cons, h]; rfl
      rw [this]
      exact foldTo_filter s a l i0
    · rw [List.filter_cons_of_pos h]
      have e1 : ∀ l', foldTo s a i0 (e :: l') = foldTo s a e.f2 l' := fun l' => by unfold foldTo; rw [List.foldl_cons, h]; rfl
      rw [e1, e1]
      exact foldTo_filter s a l e.f2
theorem foldTo_step (s : ByteArray) (a i0 : Int) (l : List Edge) (k : Nat) (hk : k < l.length) : foldTo s a i0 (l.take (k + 1)) = if takesP s a (rd_Edge l (k : Int)) = true then (rd_Edge l (k : Int)).f2 else foldTo s a i0 (l.take k) := by
  unfold foldTo rd_Edge
  rw [Int.toNat_natCast, List.take_add_one, List.getElem?_eq_getElem hk, List.foldl_append, List.getD_eq_getElem?_getD, List.getElem?_eq_getElem hk]
  rfl
/-- Of edges that lie apart at most one takes a byte. -/
theorem filter_one (s : ByteArray) (a : Int) : ∀ (l : List Edge), l.Pairwise edgesApart → (∀ e ∈ l, e.f0 ≤ e.f1) → (l.filter (takesP s a)).length ≤ 1
  | [], _, _ => by simp
  | e :: l, h, hle => by
    have hp := List.pairwise_cons.1 h
    cases ht : takesP s a e
    · rw [List.filter_cons_of_neg (by simp [ht])]
      exact filter_one s a l hp.2 (fun x hx => hle x (List.mem_cons_of_mem _ hx))
    · have hno : ∀ x ∈ l, takesP s a x = false := fun x hx => by
        cases hx' : takesP s a x
        · rfl
        · have h1 := hp.1 x hx
          unfold edgesApart at h1
          unfold takesP at ht hx'
          simp only [Bool.and_eq_true, decide_eq_true_eq] at ht hx'
          omega
      rw [List.filter_cons_of_pos ht, List.filter_eq_nil_iff.2 (fun x hx => by simp [hno x hx])]
      simp
theorem pick_eat {m : List Node} {s : ByteArray} (hm : mayB m = true) {p : Place} (hp : InP m s p) {k : Int} (h0 : 0 ≤ k) (hk : (rd_Node m p.f0).f0 = 1) (h1 : k < sumP m s (nextsP m s p)) (i0 : Int) :
    p.f1 < s.size ∧ pickP m s p (nextsP m s p) k = (⟨foldTo s p.f1 i0 (rd_Node m p.f0).f1, p.f1 + 1⟩, k) := by
  have hr := mayB_right hm p.f0 hp.1 hp.2.1
  have hn : nextsP m s p = ((rd_Node m p.f0).f1.filter (takesP s p.f1)).map (fun e => (⟨e.f2, p.f1 + 1⟩ : Place)) := by unfold nextsP; rw [if_neg (by omega), if_neg (by omega), if_pos hk]
  obtain ⟨he, _, _⟩ := right_eat hr hk
  have ho := filter_one s p.f1 _ (eats_apart he) (fun e hx => (eats_edge he e hx).1)
  rw [foldTo_filter]
  have hall : ∀ e ∈ (rd_Node m p.f0).f1.filter (takesP s p.f1), takesP s p.f1 e = true := fun e hx => (List.mem_filter.1 hx).2
  rw [hn] at h1 ⊢
  generalize (rd_Node m p.f0).f1.filter (takesP s p.f1) = L at ho h1 hall ⊢
  match L, ho, h1, hall with
  | [], _, h1, _ => simp [sumP] at h1; omega
  | [e], _, h1, hall =>
    have ht := hall e (by simp)
    simp [sumP] at h1
    refine ⟨?_, ?_⟩
    · unfold takesP at ht
      simp only [Bool.and_eq_true, decide_eq_true_eq] at ht
      exact ht.1.1
    · simp only [List.map_cons, List.map_nil]
      unfold pickP foldTo
      rw [if_pos h1, List.foldl_cons, ht]
      rfl

end Go.Proofs.Ytcbflajacioinaa
