/- Ways through machines, as plain functions. -/
import Derived.Test.YtcbflajacioinaaMachMay
namespace Go.Proofs.Ytcbflajacioinaa
open Go.RowKit Go.Proofs.YtcbflajacioinaaW.PrintWords Go.Proofs.YtcbflajacioinaaW.PrintLast

/-- Does an edge take the byte at a place? -/
def takesP (s : ByteArray) (at_ : Int) (e : Edge) : Bool := decide (at_ < s.size) && decide (e.f0 ≤ bt s at_) && decide (bt s at_ ≤ e.f1)
/-- The places behind one, in turn. -/
def nextsP (m : List Node) (s : ByteArray) (p : Place) : List Place :=
  if (rd_Node m p.f0).f0 = 3 then [⟨(rd_Node m p.f0).f4, p.f1⟩]
  else if (rd_Node m p.f0).f0 = 2 then (rd_Node m p.f0).f2.map (fun t => ⟨t, p.f1⟩)
  else if (rd_Node m p.f0).f0 = 1 then ((rd_Node m p.f0).f1.filter (takesP s p.f1)).map (fun e => ⟨e.f2, p.f1 + 1⟩)
  else []
def endsP (m : List Node) (s : ByteArray) (p : Place) : Bool := decide ((rd_Node m p.f0).f0 = 4) && decide (p.f1 = s.size)
/-- How many ways there are from a place on (up to 1000), by a number of steps. -/
def manyF (m : List Node) (s : ByteArray) : Nat → Place → Int
  | 0, _ => 0
  | k + 1, p => (nextsP m s p).foldl (fun n q => min (n + manyF m s k q) 1000) (if endsP m s p then 1 else 0)
/-- What falls at every step. -/
def muP (m : List Node) (s : ByteArray) (p : Place) : Nat := (s.size - p.f1.toNat) * (m.length + 1) + (m.length - p.f0.toNat)
def manyP (m : List Node) (s : ByteArray) (p : Place) : Int := manyF m s (muP m s p + 1) p
/-- A place of a machine and a text. -/
def InP (m : List Node) (s : ByteArray) (p : Place) : Prop := 0 ≤ p.f0 ∧ p.f0 < m.length ∧ 0 ≤ p.f1 ∧ p.f1 ≤ s.size

theorem rd_Node_mem (m : List Node) (i : Int) (h0 : 0 ≤ i) (h1 : i < m.length) : rd_Node m i ∈ m := by
  unfold rd_Node
  rw [List.getD_eq_getElem?_getD, List.getElem?_eq_getElem (by omega : i.toNat < m.length)]
  exact List.getElem_mem _

/-- What mayB says of one node. -/
theorem mayB_right {m : List Node} (h : mayB m = true) (i : Int) (h0 : 0 ≤ i) (h1 : i < m.length) : rightB (rd_Node m i) i m.length = true := by
  unfold mayB at h
  simp only [Bool.and_eq_true, List.all_eq_true] at h
  have := h.2 i.toNat (List.mem_range.2 (by omega))
  rwa [Int.toNat_of_nonneg h0] at this
theorem mayB_len {m : List Node} (h : mayB m = true) : 1 ≤ m.length ∧ m.length ≤ 100000 := by
  unfold mayB at h
  simp only [Bool.and_eq_true, decide_eq_true_eq] at h
  exact h.1

theorem right_mark {x : Node} {i n : Int} (h : rightB x i n = true) (hk : x.f0 = 3) : i < x.f4 ∧ x.f4 < n ∧ x.f1 = [] ∧ x.f2 = [] := by
  unfold rightB upB at h
  rw [if_neg (by omega), if_neg (by omega), if_pos hk] at h
  simp at h
  exact ⟨h.2.1, h.2.2, h.1.1, h.1.2⟩
theorem right_fork {x : Node} {i n : Int} (h : rightB x i n = true) (hk : x.f0 = 2) : (∀ t ∈ x.f2, i < t ∧ t < n) ∧ x.f1 = [] := by
  unfold rightB upB at h
  rw [if_neg (by omega), if_pos hk] at h
  simp at h
  exact ⟨fun t ht => h.2 t ht, h.1.1⟩
theorem right_eat {x : Node} {i n : Int} (h : rightB x i n = true) (hk : x.f0 = 1) : eatsB n x.f1 = true ∧ x.f2 = [] ∧ x.f4 = 0 := by
  unfold rightB at h
  rw [if_pos hk] at h
  simp at h
  exact ⟨h.2, h.1.1, h.1.2⟩
theorem right_end {x : Node} {i n : Int} (h : rightB x i n = true) (hk : x.f0 = 4) : x.f1 = [] ∧ x.f2 = [] ∧ x.f4 = 0 := by
  unfold rightB at h
  rw [if_neg (by omega), if_neg (by omega), if_neg (by omega), if_pos hk] at h
  simp at h
  exact ⟨h.1.1, h.1.2, h.2⟩
theorem right_kind {x : Node} {i n : Int} (h : rightB x i n = true) : x.f0 = 1 ∨ x.f0 = 2 ∨ x.f0 = 3 ∨ x.f0 = 4 := by
  unfold rightB at h
  by_cases h1 : x.f0 = 1
  · exact .inl h1
  by_cases h2 : x.f0 = 2
  · exact .inr (.inl h2)
  by_cases h3 : x.f0 = 3
  · exact .inr (.inr (.inl h3))
  by_cases h4 : x.f0 = 4
  · exact .inr (.inr (.inr h4))
  rw [if_neg h1, if_neg h2, if_neg h3, if_neg h4] at h
  cases h
theorem eats_edge {n : Int} {l : List Edge} (h : eatsB n l = true) : ∀ e ∈ l, e.f0 ≤ e.f1 ∧ 0 ≤ e.f2 ∧ e.f2 < n := by
  unfold eatsB edgeGood at h
  simp at h
  exact fun e he => ⟨(h.1 e he).1.1, (h.1 e he).1.2, (h.1 e he).2⟩
theorem eats_apart {n : Int} {l : List Edge} (h : eatsB n l = true) : l.Pairwise edgesApart := by
  unfold eatsB at h
  simp only [Bool.and_eq_true, decide_eq_true_eq] at h
  exact h.2

theorem next_in {m : List Node} {s : ByteArray} {p q : Place} (hm : mayB m = true) (hp : InP m s p) (hq : q ∈ nextsP m s p) : InP m s q ∧ muP m s q < muP m s p := by
  obtain ⟨h0, h1, h2, h3⟩ := hp
  have hr := mayB_right hm p.f0 h0 h1
  unfold nextsP at hq
  generalize rd_Node m p.f0 = x at hr hq
  by_cases k3 : x.f0 = 3
  · rw [if_pos k3] at hq
    obtain rfl : q = ⟨x.f4, p.f1⟩ := by simpa using hq
    have := right_mark hr k3
    refine ⟨⟨by dsimp only; omega, by dsimp only; omega, h2, h3⟩, ?_⟩
    unfold muP
    dsimp only
    omega
  rw [if_neg k3] at hq
  by_cases k2 : x.f0 = 2
  · rw [if_pos k2] at hq
    obtain ⟨t, ht, rfl⟩ := List.mem_map.1 hq
    have := (right_fork hr k2).1 t ht
    refine ⟨⟨by dsimp only; omega, by dsimp only; omega, h2, h3⟩, ?_⟩
    unfold muP
    dsimp only
    omega
  rw [if_neg k2] at hq
  by_cases k1 : x.f0 = 1
  · rw [if_pos k1] at hq
    obtain ⟨e, he, rfl⟩ := List.mem_map.1 hq
    obtain ⟨he, ht⟩ := List.mem_filter.1 he
    have := eats_edge (right_eat hr k1).1 e he
    unfold takesP at ht
    simp only [Bool.and_eq_true, decide_eq_true_eq] at ht
    refine ⟨⟨by dsimp only; omega, by dsimp only; omega, by dsimp only; omega, by dsimp only; omega⟩, ?_⟩
    unfold muP
    dsimp only
    have e1 : s.size - p.f1.toNat = (s.size - (p.f1 + 1).toNat) + 1 := by omega
    rw [e1, Nat.add_mul]
    omega
  rw [if_neg k1] at hq
  cases hq

theorem foldl_congr {α β : Type} {f g : α → β → α} (l : List β) (h : ∀ b ∈ l, ∀ a, f a b = g a b) : ∀ a, l.foldl f a = l.foldl g a := by
  induction l with
  | nil => intro a; rfl
  | cons b l ih => intro a; rw [List.foldl_cons, List.foldl_cons, h b List.mem_cons_self, ih (fun c hc => h c (List.mem_cons_of_mem _ hc))]

theorem manyF_more {m : List Node} {s : ByteArray} (hm : mayB m = true) : ∀ (k : Nat) (p : Place), InP m s p → muP m s p < k → manyF m s k p = manyP m s p := by
  have key : ∀ (d k j : Nat) (p : Place), InP m s p → muP m s p ≤ d → d < k → d < j → manyF m s k p = manyF m s j p := by
    intro d
    induction d using Nat.strongRecOn with
    | _ d ih =>
      intro k j p hp hd hk hj
      obtain ⟨k, rfl⟩ : ∃ k', k = k' + 1 := ⟨k - 1, by omega⟩
      obtain ⟨j, rfl⟩ : ∃ j', j = j' + 1 := ⟨j - 1, by omega⟩
      unfold manyF
      refine foldl_congr _ (fun q hq a => ?_) _
      obtain ⟨hq1, hq2⟩ := next_in hm hp hq
      rw [ih (muP m s q) (by omega) k j q hq1 (Nat.le_refl _) (by omega) (by omega)]
  intro k p hp hk
  exact key (muP m s p) k _ p hp (Nat.le_refl _) hk (Nat.lt_succ_self _)

theorem manyP_eq {m : List Node} {s : ByteArray} (hm : mayB m = true) {p : Place} (hp : InP m s p) : manyP m s p = (nextsP m s p).foldl (fun n q => min (n + manyP m s q) 1000) (if endsP m s p then 1 else 0) := by
  have h : manyP m s p = manyF m s (muP m s p + 1) p := rfl
  rw [h, manyF]
  refine foldl_congr _ (fun q hq a => ?_) _
  obtain ⟨hq1, hq2⟩ := next_in hm hp hq
  rw [manyF_more hm _ q hq1 hq2]

theorem manyF_range (m : List Node) (s : ByteArray) : ∀ (k : Nat) (p : Place), 0 ≤ manyF m s k p ∧ manyF m s k p ≤ 1000
  | 0, _ => by unfold manyF; omega
  | k + 1, p => by
    unfold manyF
    have : ∀ (l : List Place) (a : Int), 0 ≤ a ∧ a ≤ 1000 → 0 ≤ l.foldl (fun n q => min (n + manyF m s k q) 1000) a ∧ l.foldl (fun n q => min (n + manyF m s k q) 1000) a ≤ 1000 := by
      intro l
      induction l with
      | nil => intro a h; exact h
      | cons q l ih => intro a h; have := manyF_range m s k q; exact ih _ (by dsimp only; omega)
    exact this _ _ (by split <;> omega)
theorem manyP_range (m : List Node) (s : ByteArray) (p : Place) : 0 ≤ manyP m s p ∧ manyP m s p ≤ 1000 := manyF_range m s _ p

end Go.Proofs.Ytcbflajacioinaa
