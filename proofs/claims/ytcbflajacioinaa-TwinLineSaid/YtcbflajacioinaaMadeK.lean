/- Nodes that a call makes: rows of edges that are its own, forks that came in. -/
import Derived.Test.YtcbflajacioinaaPx2
import Derived.Test.YtcbflajacioinaaFindWay
namespace Go.Proofs.Ytcbflajacioinaa
open Go.RowKit Go.Shelf Go.Proofs.YtcbflajacioinaaW.PrintWords Go.Proofs.YtcbflajacioinaaW.PrintLast Go.Proofs.Ytcbflajacioinaa.P

def toEdge (e : S72) : Edge := ⟨e.f0, e.f1, e.f2⟩
def toNode (n : S35) : Node := ⟨n.f0, n.f1.map toEdge, n.f2, n.f3, n.f4⟩
def madeL (l : List S35) : List Node := l.map toNode

theorem flatten_get {α : Type} {k : Nat} : ∀ (css : List (List α)) (_ : ∀ c ∈ css, c.length = k) (i j : Nat) (hi : i < css.length), j < k → css.flatten[i * k + j]? = (css[i])[j]?
  | [], _, i, _, hi, _ => absurd hi (Nat.not_lt_zero _)
  | c :: css, h, 0, j, _, hj => by
    rw [List.flatten_cons, Nat.zero_mul, Nat.zero_add, List.getElem?_append_left (by rw [h c List.mem_cons_self]; exact hj)]; rfl
  | c :: css, h, i + 1, j, hi, hj => by
    have hc := h c List.mem_cons_self
    rw [List.flatten_cons, List.getElem?_append_right (by rw [hc, Nat.add_mul]; omega), hc, show (i + 1) * k + j - k = i * k + j by rw [Nat.add_mul]; omega, flatten_get css (fun x hx => h x (List.mem_cons_of_mem _ hx)) i j (by simpa using hi) hj]
    rfl

/-- A row that the call owns reads as elements, where its cells do. -/
theorem C_of_own {α : Type} (k : Kd α) {w : World} {base : Nat} {e : TypeId} {v : Value} {xs : List α} {css : List (List Value)} (h : w.ownsRow base e k.sz v xs.length css.flatten) (hlen : css.length = xs.length)
    (hK : ∀ (j : Nat) x c, xs[j]? = some x → css[j]? = some c → k.K w x c) : ∃ A cap, v = .slice A xs.length cap ∧ xs.length ≤ cap ∧ k.C w A xs.length xs := by
  rcases h.2 with ⟨rfl, hn⟩ | ⟨g, cap, cur, rfl, hb, hg, hc1, hc2, _⟩
  · rw [hn]
    exact ⟨none, 0, rfl, Nat.le_refl _, hn, by decide, fun h => absurd h (by decide)⟩
  · refine ⟨_, _, rfl, hc1, rfl, by unfold maxLen at hc2; omega, fun _ => ⟨_, rfl, fun j p hj => ?_⟩⟩
    have hjl : j < xs.length := (List.getElem?_eq_some_iff.1 hj).1
    have hcs : css[j]? = some css[j] := List.getElem?_eq_getElem (by omega)
    have hk := hK j p _ hj hcs
    have hall : ∀ c ∈ css, c.length = k.sz := fun c hc => by
      obtain ⟨i, hi, rfl⟩ := List.mem_iff_getElem.1 hc
      exact k.K_len (hK i _ _ (List.getElem?_eq_getElem (by omega)) (List.getElem?_eq_getElem hi))
    refine ⟨_, k.K_len hk, hk, fun i u hu => ?_⟩
    have hi : i < k.sz := by have := (List.getElem?_eq_some_iff.1 hu).1; rwa [k.K_len hk] at this
    exact h.cells (g := g) rfl _ _ ((flatten_get css hall j i (by omega) hi).trans hu)

theorem own_edges_C {w : World} {base : Nat} {A : Option Addr} {c : Nat} {l : List Edge} (h : w.ownsRow base 52 3 (.slice A l.length c) l.length (l.flatMap encEdge)) : kEdge.C w A l.length l := by
  obtain ⟨A', c', e, _, hC⟩ := C_of_own kEdge (xs := l) (css := l.map encEdge) (by rw [← List.flatMap_def]; exact h) (by simp) (fun j x c hx hc => by
    rw [List.getElem?_map, hx] at hc
    obtain rfl : encEdge x = c := by simpa using hc
    exact kEdge_mk w x)
  injection e with e1 _ _
  rw [e1]; exact hC

/-- A node's cells, its edges the call's own, its forks as they lay in the old world. -/
def NodeIn (w0 w : World) (x : Node) (cs : List Value) : Prop := ∃ A1 c1 A2 c2, cs = [.int .i64 x.f0, .slice A1 x.f1.length c1, .slice A2 x.f2.length c2, .int .i64 x.f3, .int .i64 x.f4] ∧ x.f1.length ≤ c1 ∧ x.f2.length ≤ c2 ∧
  w.ownsRow w0.heap.size 52 3 (.slice A1 x.f1.length c1) x.f1.length (x.f1.flatMap encEdge) ∧ (Kd.int .i64).C w0 A2 x.f2.length x.f2
theorem NodeIn.kept {w0 w w' : World} {x : Node} {cs : List Value} (h : NodeIn w0 w x cs) {row : Option Nat} (hg : w.grownBy w' row) (hrow : ∀ b, row = some b → ∃ cells, w.heap[b]? = some (.cells cells 49 (0, 0))) : NodeIn w0 w' x cs := by
  obtain ⟨A1, c1, A2, c2, h0, h1, h2, h3, h4⟩ := h
  refine ⟨A1, c1, A2, c2, h0, h1, h2, h3.kept hg ?_, h4⟩
  cases row with
  | none => cases (Value.slice A1 x.f1.length c1).ownBlock <;> simp
  | some b =>
    obtain ⟨cells, hb⟩ := hrow b rfl
    exact .inr (Blk.not_row (W := w) (t := 49) (cs := cells) hb (by decide) h3).symm
theorem NodeIn.K {w0 w : World} {x : Node} {cs : List Value} (h : NodeIn w0 w x cs) (hb : RowKit.Below w0.heap.size w0 w) : kNode.K w x cs := by
  obtain ⟨A1, c1, A2, c2, rfl, h1, h2, h3, h4⟩ := h
  exact kNode_mk w x h1 (own_edges_C h3) h2 (Kd.C_below h4 hb)

end Go.Proofs.Ytcbflajacioinaa
