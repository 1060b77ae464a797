/- Kinds: how the program's structs of machines and ways through them lie in memory. -/
import Derived.Test.YtcbflajacioinaaProg
import Derived.Test.YtcbflajacioinaaWWords
import Derived.Test.YtcbflajacioinaaWLast
namespace Go.Proofs.Ytcbflajacioinaa
open Go.RowKit Go.Proofs.YtcbflajacioinaaW.PrintWords Go.Proofs.YtcbflajacioinaaW.PrintLast

/-! #### struct Edge -/
structure Edge where
  f0 : Int
  f1 : Int
  f2 : Int
def zEdge : Edge := ⟨(0 : Int), (0 : Int), (0 : Int)⟩
def kEdge : Kd Edge := Kd.iso (Kd.pair (Kd.int .u8) (Kd.pair (Kd.int .u8) (Kd.int .i64))) (fun x : Edge => (x.f0, x.f1, x.f2))
theorem kEdge_open {w : World} {x : Edge} {cs : List Value} (h : kEdge.K w x cs) : cs = [.int .u8 x.f0, .int .u8 x.f1, .int .i64 x.f2] := by
  obtain ⟨_, _, rfl, rfl, ⟨_, _, rfl, rfl, rfl⟩⟩ := h
  exact rfl
theorem kEdge_openM {w : World} {base : Nat} {ok : Nat → Prop} {x : Edge} {cs : List Value} (h : kEdge.M w base ok x cs) : cs = [.int .u8 x.f0, .int .u8 x.f1, .int .i64 x.f2] := by
  obtain ⟨_, _, rfl, rfl, ⟨_, _, rfl, rfl, rfl⟩⟩ := h
  exact rfl
theorem kEdge_mk (w : World) (x : Edge)  : kEdge.K w x [.int .u8 x.f0, .int .u8 x.f1, .int .i64 x.f2] := ⟨[.int .u8 x.f0], [.int .u8 x.f1, .int .i64 x.f2], rfl, rfl, ⟨[.int .u8 x.f1], [.int .i64 x.f2], rfl, rfl, rfl⟩⟩
theorem kEdge_mkM (w : World) (base : Nat) (ok : Nat → Prop) (x : Edge)  : kEdge.M w base ok x [.int .u8 x.f0, .int .u8 x.f1, .int .i64 x.f2] := ⟨[.int .u8 x.f0], [.int .u8 x.f1, .int .i64 x.f2], rfl, rfl, ⟨[.int .u8 x.f1], [.int .i64 x.f2], rfl, rfl, rfl⟩⟩
def rd_Edge (xs : List Edge) (i : Int) : Edge := xs.getD i.toNat zEdge
theorem at_Edge {w : World} {A : Option Addr} {n : Nat} {xs : List Edge} (h : Kd.C kEdge w A n xs) (i : Int) (h0 : 0 ≤ i) (h1 : i < n) : ∃ ad , A = some ad ∧ w.cell? (ad.add (i.toNat * 3)) = some (.int .u8 (rd_Edge xs i).f0) ∧ w.cell? ⟨(ad.add (i.toNat * 3)).block, (ad.add (i.toNat * 3)).off + 1, none⟩ = some (.int .u8 (rd_Edge xs i).f1) ∧ w.cell? ⟨(ad.add (i.toNat * 3)).block, (ad.add (i.toNat * 3)).off + 2, none⟩ = some (.int .i64 (rd_Edge xs i).f2) := by
  obtain ⟨ad, c, e, _, hK, hc0⟩ := Kd.C_get h zEdge i h0 h1
  have hc : ∀ j u, c[j]? = some u → w.cell? (ad.add (i.toNat * 3 + j)) = some u := hc0
  obtain rfl := kEdge_open hK
  exact ⟨ad, e, hc 0 _ rfl, by rw [← add_field _ _ 1 (by omega)]; exact hc 1 _ rfl, by rw [← add_field _ _ 2 (by omega)]; exact hc 2 _ rfl⟩

def rd_L3 (xs : List (List Edge)) (i : Int) : (List Edge) := xs.getD i.toNat ([] : List Edge)
theorem at_L3 {w : World} {A : Option Addr} {n : Nat} {xs : List (List Edge)} (h : Kd.C (Kd.slice 52 kEdge) w A n xs) (i : Int) (h0 : 0 ≤ i) (h1 : i < n) : ∃ ad A0 c0, A = some ad ∧ w.cell? (ad.add i.toNat) = some (.slice A0 (rd_L3 xs i).length c0) ∧ (rd_L3 xs i).length ≤ c0 ∧ kEdge.C w A0 (rd_L3 xs i).length (rd_L3 xs i) := by
  obtain ⟨ad, c, e, _, hK, hc0⟩ := Kd.C_get h ([] : List Edge) i h0 h1
  have hc : ∀ j u, c[j]? = some u → w.cell? (ad.add (i.toNat * 1 + j)) = some u := hc0
  obtain ⟨A0, c0, rfl, l0, g0⟩ := hK
  exact ⟨ad, A0, c0, e, by have hq := hc 0 _ rfl; rwa [Nat.mul_one, Nat.add_zero] at hq, l0, g0⟩

def rd_L4 (xs : List (List Int)) (i : Int) : (List Int) := xs.getD i.toNat ([] : List Int)
theorem at_L4 {w : World} {A : Option Addr} {n : Nat} {xs : List (List Int)} (h : Kd.C (Kd.slice 3 (Kd.int .i64)) w A n xs) (i : Int) (h0 : 0 ≤ i) (h1 : i < n) : ∃ ad A0 c0, A = some ad ∧ w.cell? (ad.add i.toNat) = some (.slice A0 (rd_L4 xs i).length c0) ∧ (rd_L4 xs i).length ≤ c0 ∧ (Kd.int .i64).C w A0 (rd_L4 xs i).length (rd_L4 xs i) := by
  obtain ⟨ad, c, e, _, hK, hc0⟩ := Kd.C_get h ([] : List Int) i h0 h1
  have hc : ∀ j u, c[j]? = some u → w.cell? (ad.add (i.toNat * 1 + j)) = some u := hc0
  obtain ⟨A0, c0, rfl, l0, g0⟩ := hK
  exact ⟨ad, A0, c0, e, by have hq := hc 0 _ rfl; rwa [Nat.mul_one, Nat.add_zero] at hq, l0, g0⟩

/-! #### struct Node -/
structure Node where
  f0 : Int
  f1 : (List Edge)
  f2 : (List Int)
  f3 : Int
  f4 : Int
def zNode : Node := ⟨(0 : Int), ([] : List Edge), ([] : List Int), (0 : Int), (0 : Int)⟩
def kNode : Kd Node := Kd.iso (Kd.pair (Kd.int .i64) (Kd.pair (Kd.slice 52 kEdge) (Kd.pair (Kd.slice 3 (Kd.int .i64)) (Kd.pair (Kd.int .i64) (Kd.int .i64))))) (fun x : Node => (x.f0, x.f1, x.f2, x.f3, x.f4))
theorem kNode_open {w : World} {x : Node} {cs : List Value} (h : kNode.K w x cs) : ∃ A1 c1 A2 c2, cs = [.int .i64 x.f0, .slice A1 x.f1.length c1, .slice A2 x.f2.length c2, .int .i64 x.f3, .int .i64 x.f4] ∧ x.f1.length ≤ c1 ∧ kEdge.C w A1 x.f1.length x.f1 ∧ x.f2.length ≤ c2 ∧ (Kd.int .i64).C w A2 x.f2.length x.f2 := by
  obtain ⟨_, _, rfl, rfl, ⟨_, _, rfl, ⟨A1, c1, rfl, l1, g1⟩, ⟨_, _, rfl, ⟨A2, c2, rfl, l2, g2⟩, ⟨_, _, rfl, rfl, rfl⟩⟩⟩⟩ := h
  exact ⟨A1, c1, A2, c2, rfl, l1, g1, l2, g2⟩
theorem kNode_openM {w : World} {base : Nat} {ok : Nat → Prop} {x : Node} {cs : List Value} (h : kNode.M w base ok x cs) : ∃ v1 v2, cs = [.int .i64 x.f0, v1, v2, .int .i64 x.f3, .int .i64 x.f4] ∧ kEdge.R 52 w base ok v1 x.f1 ∧ (Kd.int .i64).R 3 w base ok v2 x.f2 := by
  obtain ⟨_, _, rfl, rfl, ⟨_, _, rfl, ⟨v1, rfl, g1⟩, ⟨_, _, rfl, ⟨v2, rfl, g2⟩, ⟨_, _, rfl, rfl, rfl⟩⟩⟩⟩ := h
  exact ⟨v1, v2, rfl, g1, g2⟩
theorem kNode_mk (w : World) (x : Node) {A1 : Option Addr} {c1 : Nat} (l1 : x.f1.length ≤ c1) (g1 : kEdge.C w A1 x.f1.length x.f1) {A2 : Option Addr} {c2 : Nat} (l2 : x.f2.length ≤ c2) (g2 : (Kd.int .i64).C w A2 x.f2.length x.f2) : kNode.K w x [.int .i64 x.f0, .slice A1 x.f1.length c1, .slice A2 x.f2.length c2, .int .i64 x.f3, .int .i64 x.f4] := ⟨[.int .i64 x.f0], [.slice A1 x.f1.length c1, .slice A2 x.f2.length c2, .int .i64 x.f3, .int .i64 x.f4], rfl, rfl, ⟨[.slice A1 x.f1.length c1], [.slice A2 x.f2.length c2, .int .i64 x.f3, .int .i64 x.f4], rfl, ⟨A1, c1, rfl, l1, g1⟩, ⟨[.slice A2 x.f2.length c2], [.int .i64 x.f3, .int .i64 x.f4], rfl, ⟨A2, c2, rfl, l2, g2⟩, ⟨[.int .i64 x.f3], [.int .i64 x.f4], rfl, rfl, rfl⟩⟩⟩⟩
theorem kNode_mkM (w : World) (base : Nat) (ok : Nat → Prop) (x : Node) {v1 : Value} (g1 : kEdge.R 52 w base ok v1 x.f1) {v2 : Value} (g2 : (Kd.int .i64).R 3 w base ok v2 x.f2) : kNode.M w base ok x [.int .i64 x.f0, v1, v2, .int .i64 x.f3, .int .i64 x.f4] := ⟨[.int .i64 x.f0], [v1, v2, .int .i64 x.f3, .int .i64 x.f4], rfl, rfl, ⟨[v1], [v2, .int .i64 x.f3, .int .i64 x.f4], rfl, ⟨v1, rfl, g1⟩, ⟨[v2], [.int .i64 x.f3, .int .i64 x.f4], rfl, ⟨v2, rfl, g2⟩, ⟨[.int .i64 x.f3], [.int .i64 x.f4], rfl, rfl, rfl⟩⟩⟩⟩
def rd_Node (xs : List Node) (i : Int) : Node := xs.getD i.toNat zNode
theorem at_Node {w : World} {A : Option Addr} {n : Nat} {xs : List Node} (h : Kd.C kNode w A n xs) (i : Int) (h0 : 0 ≤ i) (h1 : i < n) : ∃ ad A1 c1 A2 c2, A = some ad ∧ w.cell? (ad.add (i.toNat * 5)) = some (.int .i64 (rd_Node xs i).f0) ∧ w.cell? ⟨(ad.add (i.toNat * 5)).block, (ad.add (i.toNat * 5)).off + 1, none⟩ = some (.slice A1 (rd_Node xs i).f1.length c1) ∧ w.cell? ⟨(ad.add (i.toNat * 5)).block, (ad.add (i.toNat * 5)).off + 2, none⟩ = some (.slice A2 (rd_Node xs i).f2.length c2) ∧ w.cell? ⟨(ad.add (i.toNat * 5)).block, (ad.add (i.toNat * 5)).off + 3, none⟩ = some (.int .i64 (rd_Node xs i).f3) ∧ w.cell? ⟨(ad.add (i.toNat * 5)).block, (ad.add (i.toNat * 5)).off + 4, none⟩ = some (.int .i64 (rd_Node xs i).f4) ∧ (rd_Node xs i).f1.length ≤ c1 ∧ kEdge.C w A1 (rd_Node xs i).f1.length (rd_Node xs i).f1 ∧ (rd_Node xs i).f2.length ≤ c2 ∧ (Kd.int .i64).C w A2 (rd_Node xs i).f2.length (rd_Node xs i).f2 := by
  obtain ⟨ad, c, e, _, hK, hc0⟩ := Kd.C_get h zNode i h0 h1
  have hc : ∀ j u, c[j]? = some u → w.cell? (ad.add (i.toNat * 5 + j)) = some u := hc0
  obtain ⟨A1, c1, A2, c2, rfl, l1, g1, l2, g2⟩ := kNode_open hK
  exact ⟨ad, A1, c1, A2, c2, e, hc 0 _ rfl, by rw [← add_field _ _ 1 (by omega)]; exact hc 1 _ rfl, by rw [← add_field _ _ 2 (by omega)]; exact hc 2 _ rfl, by rw [← add_field _ _ 3 (by omega)]; exact hc 3 _ rfl, by rw [← add_field _ _ 4 (by omega)]; exact hc 4 _ rfl, l1, g1, l2, g2⟩

/-! #### struct Hit -/
structure Hit where
  f0 : Int
  f1 : Int
def zHit : Hit := ⟨(0 : Int), (0 : Int)⟩
def kHit : Kd Hit := Kd.iso (Kd.pair (Kd.int .i64) (Kd.int .i64)) (fun x : Hit => (x.f0, x.f1))
theorem kHit_open {w : World} {x : Hit} {cs : List Value} (h : kHit.K w x cs) : cs = [.int .i64 x.f0, .int .i64 x.f1] := by
  obtain ⟨_, _, rfl, rfl, rfl⟩ := h
  exact rfl
theorem kHit_openM {w : World} {base : Nat} {ok : Nat → Prop} {x : Hit} {cs : List Value} (h : kHit.M w base ok x cs) : cs = [.int .i64 x.f0, .int .i64 x.f1] := by
  obtain ⟨_, _, rfl, rfl, rfl⟩ := h
  exact rfl
theorem kHit_mk (w : World) (x : Hit)  : kHit.K w x [.int .i64 x.f0, .int .i64 x.f1] := ⟨[.int .i64 x.f0], [.int .i64 x.f1], rfl, rfl, rfl⟩
theorem kHit_mkM (w : World) (base : Nat) (ok : Nat → Prop) (x : Hit)  : kHit.M w base ok x [.int .i64 x.f0, .int .i64 x.f1] := ⟨[.int .i64 x.f0], [.int .i64 x.f1], rfl, rfl, rfl⟩
def rd_Hit (xs : List Hit) (i : Int) : Hit := xs.getD i.toNat zHit
theorem at_Hit {w : World} {A : Option Addr} {n : Nat} {xs : List Hit} (h : Kd.C kHit w A n xs) (i : Int) (h0 : 0 ≤ i) (h1 : i < n) : ∃ ad , A = some ad ∧ w.cell? (ad.add (i.toNat * 2)) = some (.int .i64 (rd_Hit xs i).f0) ∧ w.cell? ⟨(ad.add (i.toNat * 2)).block, (ad.add (i.toNat * 2)).off + 1, none⟩ = some (.int .i64 (rd_Hit xs i).f1) := by
  obtain ⟨ad, c, e, _, hK, hc0⟩ := Kd.C_get h zHit i h0 h1
  have hc : ∀ j u, c[j]? = some u → w.cell? (ad.add (i.toNat * 2 + j)) = some u := hc0
  obtain rfl := kHit_open hK
  exact ⟨ad, e, hc 0 _ rfl, by rw [← add_field _ _ 1 (by omega)]; exact hc 1 _ rfl⟩

/-! #### struct Place -/
structure Place where
  f0 : Int
  f1 : Int
def zPlace : Place := ⟨(0 : Int), (0 : Int)⟩
def kPlace : Kd Place := Kd.iso (Kd.pair (Kd.int .i64) (Kd.int .i64)) (fun x : Place => (x.f0, x.f1))
theorem kPlace_open {w : World} {x : Place} {cs : List Value} (h : kPlace.K w x cs) : cs = [.int .i64 x.f0, .int .i64 x.f1] := by
  obtain ⟨_, _, rfl, rfl, rfl⟩ := h
  exact rfl
theorem kPlace_openM {w : World} {base : Nat} {ok : Nat → Prop} {x : Place} {cs : List Value} (h : kPlace.M w base ok x cs) : cs = [.int .i64 x.f0, .int .i64 x.f1] := by
  obtain ⟨_, _, rfl, rfl, rfl⟩ := h
  exact rfl
theorem kPlace_mk (w : World) (x : Place)  : kPlace.K w x [.int .i64 x.f0, .int .i64 x.f1] := ⟨[.int .i64 x.f0], [.int .i64 x.f1], rfl, rfl, rfl⟩
theorem kPlace_mkM (w : World) (base : Nat) (ok : Nat → Prop) (x : Place)  : kPlace.M w base ok x [.int .i64 x.f0, .int .i64 x.f1] := ⟨[.int .i64 x.f0], [.int .i64 x.f1], rfl, rfl, rfl⟩
def rd_Place (xs : List Place) (i : Int) : Place := xs.getD i.toNat zPlace
theorem at_Place {w : World} {A : Option Addr} {n : Nat} {xs : List Place} (h : Kd.C kPlace w A n xs) (i : Int) (h0 : 0 ≤ i) (h1 : i < n) : ∃ ad , A = some ad ∧ w.cell? (ad.add (i.toNat * 2)) = some (.int .i64 (rd_Place xs i).f0) ∧ w.cell? ⟨(ad.add (i.toNat * 2)).block, (ad.add (i.toNat * 2)).off + 1, none⟩ = some (.int .i64 (rd_Place xs i).f1) := by
  obtain ⟨ad, c, e, _, hK, hc0⟩ := Kd.C_get h zPlace i h0 h1
  have hc : ∀ j u, c[j]? = some u → w.cell? (ad.add (i.toNat * 2 + j)) = some u := hc0
  obtain rfl := kPlace_open hK
  exact ⟨ad, e, hc 0 _ rfl, by rw [← add_field _ _ 1 (by omega)]; exact hc 1 _ rfl⟩


end Go.Proofs.Ytcbflajacioinaa
