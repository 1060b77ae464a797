/- A machine that a call has made: carried through an append. -/
import Derived.Test.YtcbflajacioinaaMade17
namespace Go.Proofs.Ytcbflajacioinaa
open Go.RowKit Go.Shelf Go.Proofs.YtcbflajacioinaaW.PrintWords Go.Proofs.YtcbflajacioinaaW.PrintLast Go.Proofs.Ytcbflajacioinaa.P

/-- Nodes that lie in a row of the call's own. -/
structure NodesAt (w0 w : World) (v : Value) (l : List Node) (css : List (List Value)) : Prop where
  len : css.length = l.length
  own : w.ownsRow w0.heap.size 49 5 v l.length css.flatten
  each : ∀ (j : Nat) x c, l[j]? = some x → css[j]? = some c → NodeIn w0 w x c
  below : RowKit.Below w0.heap.size w0 w
theorem NodesAt.nil (w0 w : World) (h : RowKit.Below w0.heap.size w0 w) : NodesAt w0 w (.slice none 0 0) [] [] := ⟨rfl, World.ownsRow_nil _ _ _ _, fun j x c hx _ => by simp at hx, h⟩
theorem NodesAt.C {w0 w : World} {v : Value} {l : List Node} {css : List (List Value)} (h : NodesAt w0 w v l css) : ∃ A c, v = .slice A l.length c ∧ kNode.C w A l.length l := by
  obtain ⟨A, c, e, _, hC⟩ := C_of_own kNode (w := w) (xs := l) (css := css) h.own h.len (fun j x c hx hc => (h.each j x c hx hc).K h.below)
  exact ⟨A, c, e, hC⟩
theorem NodesAt.snoc {w0 w w' : World} {v v' : Value} {l : List Node} {css : List (List Value)} (h : NodesAt w0 w v l css) {x : Node} {cx : List Value} {o : Obj} (hg : (w.alloc o).grownBy w' v.ownBlock) (hown : w'.ownsRow w0.heap.size 49 5 v' (l.length + 1) (css.flatten ++ cx)) (hx : NodeIn w0 w' x cx) :
    NodesAt w0 w' v' (l ++ [x]) (css ++ [cx]) := by
  have hgU := (World.grownBy_alloc w o v.ownBlock).trans hg
  refine ⟨by simp [h.len], by rw [List.length_append, List.flatten_append]; simpa using hown, fun j y c hy hc => ?_, h.below.grown hgU h.below.size (own_base h.own)⟩
  by_cases hj : j < l.length
  · rw [List.getElem?_append_left hj] at hy
    rw [List.getElem?_append_left (by rw [h.len]; exact hj)] at hc
    exact (h.each j y c hy hc).kept hgU (fun b hb => own_typed h.own b hb)
  · obtain rfl : j = l.length := by
      have := (List.getElem?_eq_some_iff.1 hy).1
      simp at this; omega
    rw [← h.len] at hc
    simp at hy hc
    subst hy hc
    exact hx
theorem NodesAt.keep {w0 w w' : World} {v : Value} {l : List Node} {css : List (List Value)} (h : NodesAt w0 w v l css) (hb : RowKit.Below w.heap.size w w') : NodesAt w0 w' v l css :=
  ⟨h.len, own_below h.own hb, fun j x c hx hc => (h.each j x c hx hc).kept (grown_of_below hb none) (fun b hb => by cases hb), h.below.trans (hb.mono h.below.size)⟩
/-- A node without edges and forks. -/
theorem NodeIn.bare (w0 w : World) (x : Node) (h1 : x.f1 = []) (h2 : x.f2 = []) : NodeIn w0 w x [.int .i64 x.f0, .slice none 0 0, .slice none 0 0, .int .i64 x.f3, .int .i64 x.f4] := by
  obtain ⟨y0, y1, y2, y3, y4⟩ := x
  dsimp only at h1 h2
  subst h1 h2
  exact ⟨none, 0, none, 0, rfl, Nat.le_refl _, Nat.le_refl _, World.ownsRow_nil _ _ _ _, rfl, by show 0 ≤ 9223372036854775807; omega, fun h => absurd h (by show ¬ 0 < 0; omega)⟩

end Go.Proofs.Ytcbflajacioinaa
