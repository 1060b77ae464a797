/- machine.May: whether nodes are a machine. -/
import Derived.Shelf.SlicesE.IndexFunc
import Derived.Laws.EntriesVeiled
import Derived.Test.YtcbflajacioinaaMachEats
namespace Go.Proofs.Ytcbflajacioinaa
open Go.RowKit Go.Shelf Go.Proofs.YtcbflajacioinaaW.PrintWords Go.Proofs.YtcbflajacioinaaW.PrintLast

def Try.containsInt_ren : Go.Shelf.Ren := ⟨fun | 8 => 48 | 6 => 53 | n => n, fun | 22 => 33 | 23 => 3 | 25 => 99 | 4 => 4 | 3 => 3 | 0 => 0 | n => n, fun | n => n⟩
theorem Try.containsInt : Go.Proofs.SlLaysH.n8 Try.prog Try.containsInt_ren := {
  mixed := by kernel_rfl,
  f6 := ⟨Try.f53.name, by decide, Try.func53.trans (congrArg some (by kernel_rfl))⟩,
  f8 := ⟨Try.f48.name, by decide, Try.func48.trans (congrArg some (by kernel_rfl))⟩,
  t0 := Try.underlying0,
  a0 := Try.isAgg0,
  z0 := Try.sizeOf0,
  v0 := Try.zeroValue0,
  t3 := Try.underlying3,
  a3 := Try.isAgg3,
  z3 := Try.sizeOf3,
  v3 := Try.zeroValue3,
  t4 := Try.underlying4,
  a4 := Try.isAgg4,
  z4 := Try.sizeOf4,
  v4 := Try.zeroValue4,
  t22 := Try.underlying33,
  a22 := Try.isAgg33,
  z22 := Try.sizeOf33,
  v22 := Try.zeroValue33,
  a23 := Try.isAgg3,
  z23 := Try.sizeOf3,
  t25 := Try.underlying99,
  a25 := Try.isAgg99,
  z25 := Try.sizeOf99,
  v25 := Try.zeroValue99 }


theorem addr_of_cell {w : World} {ad : Addr} {v : Value} (h : w.cell? ad = some v) : ad = ⟨ad.block, ad.off, none⟩ := by
  obtain ⟨b, o, s⟩ := ad
  unfold World.cell? at h
  split at h
  · cases s with
    | none => rfl
    | some x => simp at h
  · cases h

theorem up_calls (tg at_ many : Int) (B1 B2 : Nat) (w : World) (h1 : w.cell? ⟨B1, 0, none⟩ = some (.int .i64 at_)) (h2 : w.cell? ⟨B2, 0, none⟩ = some (.int .i64 many)) :
    Calls Try.prog 46 #[.int .i64 tg, .pointer (some ⟨B1, 0, none⟩), .pointer (some ⟨B2, 0, none⟩)] w fun e w' => e = .returned (.bool (decide (at_ < tg) && decide (tg < many))) ∧ w' = w := by
  by_cases h : at_ < tg
  · rw [decide_eq_true h, Bool.true_and]
    go_enter Try.func46, Try.ntmps46
    go_wp2
    go_ret
    exact ⟨rfl, rfl⟩
  · rw [decide_eq_false h, Bool.false_and]
    go_enter Try.func46, Try.ntmps46
    go_wp2
    go_ret
    exact ⟨rfl, rfl⟩

theorem notup_calls (tg at_ many : Int) (B1 B2 B3 : Nat) (w : World) (h1 : w.cell? ⟨B1, 0, none⟩ = some (.int .i64 at_)) (h2 : w.cell? ⟨B2, 0, none⟩ = some (.int .i64 many))
    (h3 : w.cell? ⟨B3, 0, none⟩ = some (.func (.func 46) #[] #[.pointer (some ⟨B1, 0, none⟩), .pointer (some ⟨B2, 0, none⟩)])) :
    Calls Try.prog 49 #[.int .i64 tg, .pointer (some ⟨B3, 0, none⟩)] w fun e w' => e = .returned (.bool (!(decide (at_ < tg) && decide (tg < many)))) ∧ w' = w := by
  have hu := up_calls tg at_ many B1 B2 w h1 h2
  generalize (decide (at_ < tg) && decide (tg < many)) = r at hu ⊢
  clear h1 h2
  go_enter Try.func49, Try.ntmps49
  go_wp2_with (go_at_call 46; refine hu.mono ?_; rintro e w' ⟨rfl, rfl⟩)
  go_ret
  exact ⟨rfl, rfl⟩

def upB (at_ many tg : Int) : Bool := decide (at_ < tg) && decide (tg < many)

theorem containsNot_calls (A : Option Addr) (cap : Nat) (l : List Int) (at_ many : Int) (B1 B2 B3 : Nat) (w : World) (hC : (Kd.int .i64).C w A l.length l) (h1 : w.cell? ⟨B1, 0, none⟩ = some (.int .i64 at_)) (h2 : w.cell? ⟨B2, 0, none⟩ = some (.int .i64 many))
    (h3 : w.cell? ⟨B3, 0, none⟩ = some (.func (.func 46) #[] #[.pointer (some ⟨B1, 0, none⟩), .pointer (some ⟨B2, 0, none⟩)])) :
    Calls Try.prog 48 #[.slice A l.length cap, .func (.func 49) #[] #[.pointer (some ⟨B3, 0, none⟩)]] w fun e w' => e = .returned (.bool (!(l.all (upB at_ many)))) ∧ ∃ q, w' = w.drewN q := by
  rcases Nat.eq_zero_or_pos l.length with h0 | h0
  · obtain rfl : l = [] := List.eq_nil_of_length_eq_zero h0
    refine (AnyE.slices_ContainsFunc_empty Try.containsInt A cap _ w).mono ?_
    rintro e w' ⟨rfl, rfl⟩
    exact ⟨rfl, 0, rfl⟩
  · obtain ⟨hl, hn, hc0⟩ := hC
    obtain ⟨ad, rfl, hc⟩ := hc0 h0
    have hcell : ∀ j (hj : j < l.length), w.cell? (ad.add j) = some (.int .i64 l[j]) := fun j hj => by
      obtain ⟨c, h1, h2, h3⟩ := hc j _ (List.getElem?_eq_getElem hj)
      obtain rfl : c = [.int .i64 l[j]] := h2
      simpa [show (Kd.int .i64).sz = 1 from rfl] using h3 0 _ rfl
    have had := addr_of_cell (show w.cell? ad = some (.int .i64 l[0]) from by simpa [Addr.add] using hcell 0 h0)
    rw [had]
    have hb : ∀ j, (⟨ad.block, ad.off, none⟩ : Addr).add j = ⟨ad.block, ad.off + j, none⟩ := fun j => by
      unfold Addr.add
      split
      · rename_i h; subst h; rfl
      · rfl
    have hP : PredAt Try.prog 49 #[.pointer (some ⟨B3, 0, none⟩)] (Value.int .i64) (fun tg => !(upB at_ many tg)) w := fun W x hbel => by
      refine (notup_calls x at_ many B1 B2 B3 W (pw_cell_below hbel h1) (pw_cell_below hbel h2) (pw_cell_below hbel h3)).mono ?_
      rintro e w' ⟨rfl, rfl⟩
      exact ⟨rfl, 0, rfl⟩
    refine (AnyE.slices_ContainsFunc Try.containsInt (Value.int .i64) (fun tg => !(upB at_ many tg)) 49 #[.pointer (some ⟨B3, 0, none⟩)] (enters_of Try.func49 (by kernel_rfl) rfl) ad.block ad.off l.length cap l w hP (Nat.le_refl _) hn (fun j hj => ?_)).mono ?_
    · rw [← hb j, ← had, getElem!_pos l j hj]
      exact hcell j hj
    · rintro e w' ⟨rfl, h⟩
      refine ⟨?_, h⟩
      rw [List.take_length, List.not_all_eq_any_not]

/-- Whether a node may be, at its place, in a machine of so many. -/
def rightB (x : Node) (at_ many : Int) : Bool :=
  if x.f0 = 1 then decide (x.f2.length = 0) && decide (x.f4 = 0) && eatsB many x.f1
  else if x.f0 = 2 then decide (x.f1.length = 0) && decide (x.f4 = 0) && x.f2.all (upB at_ many)
  else if x.f0 = 3 then decide (x.f1.length + x.f2.length = 0) && upB at_ many x.f4
  else if x.f0 = 4 then decide (x.f1.length + x.f2.length = 0) && decide (x.f4 = 0)
  else false
/-- What is known of a node's own numbers. -/
def NodeOk (x : Node) : Prop := (∀ e ∈ x.f1, EdgeOk e) ∧ x.f1.length ≤ 1000000000 ∧ x.f2.length ≤ 1000000000

def valNode (x : Node) (A1 : Option Addr) (c1 : Nat) (A2 : Option Addr) (c2 : Nat) : Value := .agg #[.int .i64 x.f0, .slice A1 x.f1.length c1, .slice A2 x.f2.length c2, .int .i64 x.f3, .int .i64 x.f4]

set_option maxRecDepth 100000 in
set_option maxHeartbeats 1000000 in
theorem right_one (x : Node) (A1 : Option Addr) (c1 : Nat) (A2 : Option Addr) (c2 : Nat) (at_ many : Int) (w : World) (hx : NodeOk x) (hC1 : kEdge.C w A1 x.f1.length x.f1) (hk : x.f0 = 1) :
    Calls Try.prog 44 #[valNode x A1 c1 A2 c2, .int .i64 at_, .int .i64 many] w fun e w' => e = .returned (.bool (decide (x.f2.length = 0) && decide (x.f4 = 0) && eatsB many x.f1)) ∧ RowKit.Below w.heap.size w w' := by
  have he : ∀ W, RowKit.Below w.heap.size w W → Calls Try.prog 47 #[.slice A1 x.f1.length c1, .int .i64 many] W fun e w' => e = .returned (.bool (eatsB many x.f1)) ∧ RowKit.Below W.heap.size W w' := fun W hb => eats_calls A1 c1 x.f1 many hx.1 hx.2.1 W (Kd.C_below hC1 hb)
  generalize eatsB many x.f1 = r at he ⊢
  have hl2 := hx.2.2
  clear hC1 hx
  unfold valNode
  obtain ⟨y0, y1, y2, y3, y4⟩ := x
  dsimp only at *
  subst hk
  generalize y1.length = n1 at he ⊢
  generalize y2.length = n2 at hl2 ⊢
  go_enter Try.func44, Try.ntmps44
  go_wp2_with (go_at_call 47; refine (he _ (by repeat (first | exact RowKit.Below.refl _ _ | apply below_alloc))).mono ?_; rintro e w' ⟨rfl, hb'⟩)
  · go_ret
    exact ⟨by simp [*], below_step (by repeat (first | exact RowKit.Below.refl _ _ | apply below_alloc)) hb'⟩
  · go_ret
    exact ⟨by simp [*], (by repeat (first | exact RowKit.Below.refl _ _ | apply below_alloc))⟩
  · go_ret
    exact ⟨by simp [*], (by repeat (first | exact RowKit.Below.refl _ _ | apply below_alloc))⟩

set_option maxRecDepth 100000 in
set_option maxHeartbeats 1000000 in
theorem right_two (x : Node) (A1 : Option Addr) (c1 : Nat) (A2 : Option Addr) (c2 : Nat) (at_ many : Int) (w : World) (hx : NodeOk x) (hC2 : (Kd.int .i64).C w A2 x.f2.length x.f2) (hk : x.f0 = 2) :
    Calls Try.prog 44 #[valNode x A1 c1 A2 c2, .int .i64 at_, .int .i64 many] w fun e w' => e = .returned (.bool (decide (x.f1.length = 0) && decide (x.f4 = 0) && x.f2.all (upB at_ many))) ∧ RowKit.Below w.heap.size w w' := by
  have he : ∀ W B1 B2 B3, RowKit.Below w.heap.size w W → W.cell? ⟨B1, 0, none⟩ = some (.int .i64 at_) → W.cell? ⟨B2, 0, none⟩ = some (.int .i64 many) → W.cell? ⟨B3, 0, none⟩ = some (.func (.func 46) #[] #[.pointer (some ⟨B1, 0, none⟩), .pointer (some ⟨B2, 0, none⟩)]) →
      Calls Try.prog 48 #[.slice A2 x.f2.length c2, .func (.func 49) #[] #[.pointer (some ⟨B3, 0, none⟩)]] W fun e w' => e = .returned (.bool (!(x.f2.all (upB at_ many)))) ∧ ∃ q, w' = W.drewN q := fun W B1 B2 B3 hb h1 h2 h3 => containsNot_calls A2 c2 x.f2 at_ many B1 B2 B3 W (Kd.C_below hC2 hb) h1 h2 h3
  generalize x.f2.all (upB at_ many) = r at he ⊢
  have hl1 := hx.2.1
  have hl2 := hx.2.2
  clear hC2 hx
  unfold valNode
  obtain ⟨y0, y1, y2, y3, y4⟩ := x
  dsimp only at *
  subst hk
  generalize y1.length = n1 at hl1 ⊢
  generalize y2.length = n2 at he hl2 ⊢
  go_enter Try.func44, Try.ntmps44
  go_wp2_with (go_at_call 48; refine (he _ (w.heap.size + 1) (w.heap.size + 1 + 1) (w.heap.size + 1 + 1 + 1) (by repeat (first | exact RowKit.Below.refl _ _ | apply below_alloc)) (by go_simp) (by go_simp) (by go_simp)).mono ?_; rintro e w' ⟨rfl, q, rfl⟩)
  · go_ret
    exact ⟨by simp [*], pw_below_drewN (by repeat (first | exact RowKit.Below.refl _ _ | apply below_alloc)) q⟩
  · go_ret
    exact ⟨by simp [*], (by repeat (first | exact RowKit.Below.refl _ _ | apply below_alloc))⟩
  · go_ret
    exact ⟨by simp [*], (by repeat (first | exact RowKit.Below.refl _ _ | apply below_alloc))⟩

set_option maxRecDepth 100000 in
set_option maxHeartbeats 1000000 in
theorem right_three (x : Node) (A1 : Option Addr) (c1 : Nat) (A2 : Option Addr) (c2 : Nat) (at_ many : Int) (w : World) (hx : NodeOk x) (hk : x.f0 = 3) :
    Calls Try.prog 44 #[valNode x A1 c1 A2 c2, .int .i64 at_, .int .i64 many] w fun e w' => e = .returned (.bool (decide (x.f1.length + x.f2.length = 0) && upB at_ many x.f4)) ∧ RowKit.Below w.heap.size w w' := by
  have hl1 := hx.2.1
  have hl2 := hx.2.2
  clear hx
  unfold valNode
  obtain ⟨y0, y1, y2, y3, y4⟩ := x
  dsimp only at *
  subst hk
  generalize y1.length = n1 at hl1 ⊢
  generalize y2.length = n2 at hl2 ⊢
  have he : ∀ W B1 B2, W.cell? ⟨B1, 0, none⟩ = some (.int .i64 at_) → W.cell? ⟨B2, 0, none⟩ = some (.int .i64 many) → Calls Try.prog 46 #[.int .i64 y4, .pointer (some ⟨B1, 0, none⟩), .pointer (some ⟨B2, 0, none⟩)] W fun e w' => e = .returned (.bool (upB at_ many y4)) ∧ w' = W := fun W B1 B2 h1 h2 => up_calls y4 at_ many B1 B2 W h1 h2
  generalize upB at_ many y4 = r at he ⊢
  go_enter Try.func44, Try.ntmps44
  go_wp2_with (go_at_call 46; refine (he _ (w.heap.size + 1) (w.heap.size + 1 + 1) (by go_simp) (by go_simp)).mono ?_; rintro e w' ⟨rfl, rfl⟩)
  · have h : (n1 : Int) + n2 = 0 := by assumption
    go_ret
    exact ⟨by rw [decide_eq_true (show n1 + n2 = 0 by omega)]; rfl, (by repeat (first | exact RowKit.Below.refl _ _ | apply below_alloc))⟩
  · have h : ¬ (n1 : Int) + n2 = 0 := by assumption
    go_ret
    exact ⟨by rw [decide_eq_false (show ¬ n1 + n2 = 0 by omega)]; rfl, (by repeat (first | exact RowKit.Below.refl _ _ | apply below_alloc))⟩

set_option maxRecDepth 100000 in
set_option maxHeartbeats 1000000 in
theorem right_four (x : Node) (A1 : Option Addr) (c1 : Nat) (A2 : Option Addr) (c2 : Nat) (at_ many : Int) (w : World) (hx : NodeOk x) (hk : x.f0 = 4) :
    Calls Try.prog 44 #[valNode x A1 c1 A2 c2, .int .i64 at_, .int .i64 many] w fun e w' => e = .returned (.bool (decide (x.f1.length + x.f2.length = 0) && decide (x.f4 = 0))) ∧ RowKit.Below w.heap.size w w' := by
  have hl1 := hx.2.1
  have hl2 := hx.2.2
  clear hx
  unfold valNode
  obtain ⟨y0, y1, y2, y3, y4⟩ := x
  dsimp only at *
  subst hk
  generalize y1.length = n1 at hl1 ⊢
  generalize y2.length = n2 at hl2 ⊢
  go_enter Try.func44, Try.ntmps44
  go_wp2_with fail
  · have h : (n1 : Int) + n2 = 0 := by assumption
    go_ret
    exact ⟨by rw [decide_eq_true (show n1 + n2 = 0 by omega)]; rfl, (by repeat (first | exact RowKit.Below.refl _ _ | apply below_alloc))⟩
  · have h : ¬ (n1 : Int) + n2 = 0 := by assumption
    go_ret
    exact ⟨by rw [decide_eq_false (show ¬ n1 + n2 = 0 by omega)]; rfl, (by repeat (first | exact RowKit.Below.refl _ _ | apply below_alloc))⟩

set_option maxRecDepth 100000 in
set_option maxHeartbeats 1000000 in
theorem right_five (x : Node) (A1 : Option Addr) (c1 : Nat) (A2 : Option Addr) (c2 : Nat) (at_ many : Int) (w : World) (hk1 : x.f0 ≠ 1) (hk2 : x.f0 ≠ 2) (hk3 : x.f0 ≠ 3) (hk4 : x.f0 ≠ 4) :
    Calls Try.prog 44 #[valNode x A1 c1 A2 c2, .int .i64 at_, .int .i64 many] w fun e w' => e = .returned (.bool false) ∧ RowKit.Below w.heap.size w w' := by
  unfold valNode
  obtain ⟨y0, y1, y2, y3, y4⟩ := x
  dsimp only at *
  have b1 : (y0 == 1) = false := beq_eq_false_iff_ne.2 hk1
  have b2 : (y0 == 2) = false := beq_eq_false_iff_ne.2 hk2
  have b3 : (y0 == 3) = false := beq_eq_false_iff_ne.2 hk3
  have b4 : (y0 == 4) = false := beq_eq_false_iff_ne.2 hk4
  clear hk1 hk2 hk3 hk4
  go_enter Try.func44, Try.ntmps44
  go_wp2_with fail
  go_ret
  exact ⟨rfl, (by repeat (first | exact RowKit.Below.refl _ _ | apply below_alloc))⟩

theorem right_calls (x : Node) (A1 : Option Addr) (c1 : Nat) (A2 : Option Addr) (c2 : Nat) (at_ many : Int) (w : World) (hx : NodeOk x) (hC1 : kEdge.C w A1 x.f1.length x.f1) (hC2 : (Kd.int .i64).C w A2 x.f2.length x.f2) :
    Calls Try.prog 44 #[valNode x A1 c1 A2 c2, .int .i64 at_, .int .i64 many] w fun e w' => e = .returned (.bool (rightB x at_ many)) ∧ RowKit.Below w.heap.size w w' := by
  unfold rightB
  by_cases h1 : x.f0 = 1
  · rw [if_pos h1]; exact right_one x A1 c1 A2 c2 at_ many w hx hC1 h1
  rw [if_neg h1]
  by_cases h2 : x.f0 = 2
  · rw [if_pos h2]; exact right_two x A1 c1 A2 c2 at_ many w hx hC2 h2
  rw [if_neg h2]
  by_cases h3 : x.f0 = 3
  · rw [if_pos h3]; exact right_three x A1 c1 A2 c2 at_ many w hx h3
  rw [if_neg h3]
  by_cases h4 : x.f0 = 4
  · rw [if_pos h4]; exact right_four x A1 c1 A2 c2 at_ many w hx h4
  rw [if_neg h4]
  exact right_five x A1 c1 A2 c2 at_ many w h1 h2 h3 h4

/-- Whether nodes are a machine. -/
def mayB (m : List Node) : Bool := decide (1 ≤ m.length) && decide (m.length ≤ 100000) && (List.range m.length).all (fun i => rightB (rd_Node m i) i m.length)

set_option maxRecDepth 100000 in
set_option maxHeartbeats 1000000 in
theorem may_calls (A : Option Addr) (cap : Nat) (m : List Node) (hm : ∀ x ∈ m, NodeOk x) (w : World) (hC : kNode.C w A m.length m) (hlen : m.length ≤ 9223372036854775807) :
    Calls Try.prog 39 #[.slice A m.length cap] w fun e w' => e = .returned (.bool (mayB m)) ∧ RowKit.Below w.heap.size w w' := by
  by_cases d1 : m.length < 1
  · have hr : mayB m = false := by unfold mayB; rw [decide_eq_false (show ¬ 1 ≤ m.length by omega)]; rfl
    have HR := Aside0.mk hr
    clear hr hC hm
    generalize mayB m = r at HR ⊢
    have d2 : m.length = 0 := by omega
    rw [d2]
    go_enter Try.func39, Try.ntmps39
    go_wp2_with fail
    go_ret
    exact ⟨by rw [HR.out]; rfl, RowKit.Below.refl _ _⟩
  by_cases d2 : 100000 < m.length
  · have hr : mayB m = false := by unfold mayB; rw [decide_eq_false (show ¬ m.length ≤ 100000 by omega), Bool.and_false]; rfl
    have HR := Aside0.mk hr
    clear hr hC hm
    generalize mayB m = r at HR ⊢
    generalize m.length = n at *
    have e1 : decide ((n : Int) < 1) = false := decide_eq_false (by omega)
    have e2 : decide (100000 < (n : Int)) = true := decide_eq_true (by omega)
    have e3 : decide (n < 1) = false := decide_eq_false (by omega)
    have e4 : decide (100000 < n) = true := decide_eq_true (by omega)
    clear d1
    go_enter Try.func39, Try.ntmps39
    go_wp2_with fail
    go_ret
    exact ⟨by rw [HR.out]; rfl, RowKit.Below.refl _ _⟩
  have hr : mayB m = (List.range m.length).all (fun i => rightB (rd_Node m i) i m.length) := by unfold mayB; rw [decide_eq_true (show 1 ≤ m.length by omega), decide_eq_true (show m.length ≤ 100000 by omega)]; rfl
  rw [hr]
  have hno : ∀ k, k < m.length → rightB (rd_Node m k) k m.length = false → (List.range m.length).all (fun i => rightB (rd_Node m i) i m.length) = false := fun k hk h => List.all_eq_false.2 ⟨k, List.mem_range.2 hk, by rw [h]; decide⟩
  have hyes : (∀ k, k < m.length → rightB (rd_Node m k) k m.length = true) → (List.range m.length).all (fun i => rightB (rd_Node m i) i m.length) = true := fun h => List.all_eq_true.2 fun k hk => h k (List.mem_range.1 hk)
  generalize (List.range m.length).all (fun i => rightB (rd_Node m i) i m.length) = r at hno hyes ⊢
  have HNO := Aside0.mk hno
  have HYES := Aside0.mk hyes
  have HM := Aside0.mk hm
  have HC := Aside0.mk hC
  clear hr hno hyes hm hC
  have hn0 : 1 ≤ m.length := by omega
  have hn1 : m.length ≤ 100000 := by omega
  have e1 : decide ((m.length : Int) < 1) = false := decide_eq_false (by omega)
  have e2 : decide (100000 < (m.length : Int)) = false := decide_eq_false (by omega)
  have e3 : decide (m.length < 1) = false := decide_eq_false (by omega)
  have e4 : decide (100000 < m.length) = false := decide_eq_false (by omega)
  clear d1 d2
  go_enter Try.func39, Try.ntmps39
  go_wp2_with fail
  go_loopw [15] (fun i wr => ∃ k : Nat, k ≤ m.length ∧ i = .int .i64 k ∧ Aside0 (∀ j, j < k → rightB (rd_Node m j) j m.length = true) ∧ Aside0 (RowKit.Below w.heap.size w wr)) (fun i _ => m.length - (intOf i).toNat)
  case atStart => exact ⟨0, Nat.zero_le _, rfl, ⟨fun j hj => absurd hj (Nat.not_lt_zero _)⟩, ⟨RowKit.Below.refl _ _⟩⟩
  case round =>
    obtain ⟨k, hk, rfl, HG, HB⟩ := hrel
    by_cases hlt : k < m.length
    · have hC1 := Kd.C_below HC.out HB.out
      obtain ⟨ad, A1, c1, A2, c2, hA, x0, x1, x2, x3, x4, hl1, g1, hl2, g2⟩ := at_Node hC1 k (by omega) (by omega)
      simp only [Int.toNat_natCast] at x0 x1 x2 x3 x4
      have hxk : NodeOk (rd_Node m k) := HM.out _ (by unfold rd_Node; rw [Int.toNat_natCast, List.getD_eq_getElem?_getD, List.getElem?_eq_getElem hlt]; exact List.getElem_mem hlt)
      have hNO : rightB (rd_Node m k) k m.length = false → r = false := HNO.out k hlt
      have hYE : rightB (rd_Node m k) k m.length = true → ∀ j, j < k + 1 → rightB (rd_Node m j) j m.length = true := fun h j hj => by
        rcases Nat.lt_succ_iff_lt_or_eq.1 hj with h' | rfl
        · exact HG.out j h'
        · exact h
      have hR : ∀ W, RowKit.Below wr.heap.size wr W → Calls Try.prog 44 #[valNode (rd_Node m k) A1 c1 A2 c2, .int .i64 k, .int .i64 m.length] W fun e w' => e = .returned (.bool (rightB (rd_Node m k) k m.length)) ∧ RowKit.Below W.heap.size W w' :=
        fun W hb => right_calls _ A1 c1 A2 c2 k m.length W hxk (Kd.C_below g1 hb) (Kd.C_below g2 hb)
      unfold valNode at hR
      have HNO1 := Aside0.mk hNO
      have HYE1 := Aside0.mk hYE
      clear hNO hYE hxk hC1 g1 g2 hl1 hl2
      generalize rightB (rd_Node m k) k m.length = b at hR HNO1 HYE1
      generalize rd_Node m k = x at x0 x1 x2 x3 x4 hR
      obtain ⟨y0, y1, y2, y3, y4⟩ := x
      dsimp only at x0 x1 x2 x3 x4 hR
      subst hA
      generalize y1.length = n1 at *
      generalize y2.length = n2 at *
      cases b with
      | false =>
        have HN2 := Aside0.mk (HNO1.out rfl)
        clear HNO1 HYE1
        go_wp2_with (go_at_call 44; refine (hR _ (by repeat (first | exact RowKit.Below.refl _ _ | apply below_alloc))).mono ?_; rintro e w' ⟨rfl, hb'⟩)
        go_ret
        exact ⟨by rw [HN2.out]; rfl, HB.out.trans ((below_step (by repeat (first | exact RowKit.Below.refl _ _ | apply below_alloc)) hb').mono HB.out.size)⟩
      | true =>
        have HN2 := Aside0.mk (HYE1.out rfl)
        clear HNO1 HYE1
        go_wp2_with (go_at_call 44; refine (hR _ (by repeat (first | exact RowKit.Below.refl _ _ | apply below_alloc))).mono ?_; rintro e w' ⟨rfl, hb'⟩)
        go_roundw
        case rel => exact ⟨k + 1, by omega, by go_num, HN2, ⟨HB.out.trans ((below_step (by repeat (first | exact RowKit.Below.refl _ _ | apply below_alloc)) hb').mono HB.out.size)⟩⟩
        case measure => simp [intOf]; omega
    · obtain rfl : k = m.length := by omega
      go_wp2_with fail
      go_ret
      exact ⟨by rw [HYES.out HG.out]; rfl, HB.out⟩

end Go.Proofs.Ytcbflajacioinaa
