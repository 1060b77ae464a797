/- What a finder's map says: every place known, with its ways; and its entries' number. -/
import Derived.Maps.Views
import Derived.Test.YtcbflajacioinaaFindPure
import Derived.Test.YtcbflajacioinaaFindKey
namespace Go.Proofs.Ytcbflajacioinaa
open Go.RowKit Go.Proofs.YtcbflajacioinaaW.PrintWords Go.Proofs.YtcbflajacioinaaW.PrintLast

def allP (m : List Node) (s : ByteArray) : List Place := (List.range m.length).flatMap fun (a : Nat) => (List.range (s.size + 1)).map fun (b : Nat) => (⟨(a : Int), (b : Int)⟩ : Place)
theorem mem_allP {m : List Node} {s : ByteArray} {p : Place} : p ∈ allP m s ↔ InP m s p := by
  unfold allP InP
  obtain ⟨a, b⟩ := p
  simp only [List.mem_flatMap, List.mem_range, List.mem_map]
  constructor
  · rintro ⟨i, hi, j, hj, e⟩
    injection e with e1 e2
    omega
  · rintro ⟨h0, h1, h2, h3⟩
    refine ⟨a.toNat, by omega, b.toNat, by omega, ?_⟩
    rw [Int.toNat_of_nonneg h0, Int.toNat_of_nonneg h2]
theorem length_allP (m : List Node) (s : ByteArray) : (allP m s).length = m.length * (s.size + 1) := by
  unfold allP
  rw [List.length_flatMap]
  simp only [List.length_map, List.length_range]
  generalize s.size + 1 = c
  generalize m.length = n
  induction n with
  | zero => simp
  | succ n ih => rw [List.range_succ, List.map_append, List.sum_append, ih, Nat.add_mul]; simp

theorem filter_more {α : Type} (f g : α → Bool) (l : List α) (h : ∀ x ∈ l, f x = true → g x = true) : (l.filter f).length ≤ (l.filter g).length := by
  induction l with
  | nil => simp
  | cons y l ih =>
    have ih := ih (fun x hx => h x (List.mem_cons_of_mem _ hx))
    have hy := h y List.mem_cons_self
    cases hf : f y <;> cases hg : g y <;> simp_all <;> omega
theorem filter_one_more {α : Type} (f g : α → Bool) (l : List α) (h : ∀ x ∈ l, f x = true → g x = true) {x : α} (hx : x ∈ l) (h1 : f x = false) (h2 : g x = true) : (l.filter f).length + 1 ≤ (l.filter g).length := by
  induction l with
  | nil => cases hx
  | cons y l ih =>
    have hy := h y List.mem_cons_self
    have hr := filter_more f g l (fun x hx => h x (List.mem_cons_of_mem _ hx))
    rcases List.mem_cons.1 hx with e | hx'
    · subst e
      simp [h1, h2]; omega
    · have ih := ih (fun x hx => h x (List.mem_cons_of_mem _ hx)) hx'
      cases hf : f y <;> cases hg : g y <;> simp_all <;> omega

theorem wf_i64 {a : Int} (h : -9223372036854775808 ≤ a ∧ a ≤ 9223372036854775807) : (Lit.int .i64 a).wf = true := by
  have : Lit.wf (.int .i64 a) = (decide (-9223372036854775808 ≤ a) && decide (a ≤ 9223372036854775807)) := by
    first
      | rfl
      | (simp only [Lit.wf]; rw [Bool.eq_iff_iff]; simp; rw [IntKind.wrap_i64]; omega)
  rw [this, decide_eq_true h.1, decide_eq_true h.2]; rfl

def cntD (m : List Node) (s : ByteArray) (D : DataW Value) : Nat := ((allP m s).filter (fun p => Maps.has D (placeKey p.f0 p.f1))).length
def FinD (m : List Node) (s : ByteArray) (n : Nat) (D : DataW Value) : Prop :=
  (∀ p, InP m s p → Maps.has D (placeKey p.f0 p.f1) = true → D.atKey (placeKey p.f0 p.f1) (.lit (.int .i64 0)) = .lit (.int .i64 (manyP m s p))) ∧ n ≤ cntD m s D
theorem cntD_le (m : List Node) (s : ByteArray) (D : DataW Value) : cntD m s D ≤ m.length * (s.size + 1) := by
  rw [← length_allP]; exact List.length_filter_le _ _
theorem InP_wf {m : List Node} {s : ByteArray} {p : Place} (hp : InP m s p) (hm : m.length ≤ 9223372036854775807) (hs : s.size ≤ 9223372036854775807) : (Lit.int .i64 p.f0).wf = true ∧ (Lit.int .i64 p.f1).wf = true := by
  obtain ⟨h0, h1, h2, h3⟩ := hp
  exact ⟨wf_i64 (by omega), wf_i64 (by omega)⟩
theorem placeKey_ne {m : List Node} {s : ByteArray} {p q : Place} (hp : InP m s p) (hq : InP m s q) (hm : m.length ≤ 9223372036854775807) (hs : s.size ≤ 9223372036854775807) (hne : p ≠ q) : placeKey p.f0 p.f1 ≠ placeKey q.f0 q.f1 := fun e => by
  obtain ⟨a1, a2⟩ := InP_wf hp hm hs
  obtain ⟨b1, b2⟩ := InP_wf hq hm hs
  obtain ⟨e1, e2⟩ := placeKey_inj a1 a2 b1 b2 e
  exact hne (by obtain ⟨x, y⟩ := p; obtain ⟨z, u⟩ := q; dsimp only at *; rw [e1, e2])

theorem FinD_put {m : List Node} {s : ByteArray} {n : Nat} {D : DataW Value} (h : FinD m s n D) (hD : Maps.IsMap D) {p : Place} (hp : InP m s p) (hm : m.length ≤ 9223372036854775807) (hs : s.size ≤ 9223372036854775807)
    (hno : Maps.has D (placeKey p.f0 p.f1) = false) : FinD m s (n + 1) (D.put (placeKey p.f0 p.f1) (.lit (.int .i64 (manyP m s p)))) := by
  have hsame := Maps.has_put_same hD (k := placeKey p.f0 p.f1) trivial (.lit (.int .i64 (manyP m s p)))
  have hother : ∀ q, InP m s q → q ≠ p → Maps.has (D.put (placeKey p.f0 p.f1) (.lit (.int .i64 (manyP m s p)))) (placeKey q.f0 q.f1) = Maps.has D (placeKey q.f0 q.f1) := fun q hq hne => Maps.has_put_other (placeKey_ne hq hp hm hs hne) _
  refine ⟨fun q hq hh => ?_, ?_⟩
  · by_cases e : q = p
    · subst e
      exact Maps.atKey_put_same hD (k := placeKey q.f0 q.f1) trivial _ _
    · rw [Maps.atKey_put_other (placeKey_ne hq hp hm hs e)]
      exact h.1 q hq ((hother q hq e).symm.trans hh)
  · have hmono : ∀ q ∈ allP m s, Maps.has D (placeKey q.f0 q.f1) = true → Maps.has (D.put (placeKey p.f0 p.f1) (.lit (.int .i64 (manyP m s p)))) (placeKey q.f0 q.f1) = true := fun q hq hh => by
      by_cases e : q = p
      · rw [e]; exact hsame
      · rw [hother q (mem_allP.1 hq) e]; exact hh
    have h2 := h.2
    unfold cntD at h2 ⊢
    have hmem : p ∈ allP m s := mem_allP.2 hp
    generalize D.put (placeKey p.f0 p.f1) (.lit (.int .i64 (manyP m s p))) = D' at hmono hsame ⊢
    generalize hf : (fun q : Place => Maps.has D (placeKey q.f0 q.f1)) = f at h2
    generalize hg : (fun q : Place => Maps.has D' (placeKey q.f0 q.f1)) = g
    have f1 : f p = false := by rw [← hf]; exact hno
    have g1 : g p = true := by rw [← hg]; exact hsame
    have := filter_one_more f g (allP m s) (fun q hq hh => by rw [← hg]; rw [← hf] at hh; exact hmono q hq hh) hmem f1 g1
    omega

end Go.Proofs.Ytcbflajacioinaa
