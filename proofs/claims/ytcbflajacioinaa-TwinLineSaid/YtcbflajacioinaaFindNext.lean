/- find: the places behind one; whether one is an end. -/
import Derived.BigQuiet
import Derived.Deep.RegionHeld3
import Derived.Outline
import Derived.Deep.QuietTactic
import Derived.Test.YtcbflajacioinaaFindPure
import Derived.Test.YtcbflajacioinaaFindKey
namespace Go.Proofs.Ytcbflajacioinaa
open Go.RowKit Go.Shelf Go.Proofs.YtcbflajacioinaaW.PrintWords Go.Proofs.YtcbflajacioinaaW.PrintLast

def encPlace (p : Place) : List Value := [.int .i64 p.f0, .int .i64 p.f1]
def valPlace (p : Place) : Value := .agg #[.int .i64 p.f0, .int .i64 p.f1]
theorem encPlace_new (x : Place) (W : World) : ∀ j u, (encPlace x)[j]? = some u → (W.alloc (.cells #[.int .i64 x.f0, .int .i64 x.f1] 68)).cell? ((⟨W.heap.size, 0, none⟩ : Addr).add j) = some u :=
  World.news_of_block (cs := #[.int .i64 x.f0, .int .i64 x.f1]) (t := 68) (fr := (0, 0)) (World.alloc_heap_new W _)
theorem encPlace_one (x : Place) : ∀ u ∈ encPlace x, u.oneCell' = true := by simp [encPlace, Value.oneCell']
theorem at_int {k : IntKind} {w : World} {A : Option Addr} {n : Nat} {xs : List Int} (h : (Kd.int k).C w A n xs) (i : Nat) (hi : i < n) : ∃ ad, A = some ad ∧ w.cell? (ad.add i) = some (.int k (xs.getD i 0)) := by
  obtain ⟨hl, _, hc0⟩ := h
  obtain ⟨ad, rfl, hc⟩ := hc0 (by omega)
  obtain ⟨c, h1, h2, h3⟩ := hc i _ (List.getElem?_eq_getElem (by omega))
  have h2' : c = [.int k xs[i]] := h2
  refine ⟨ad, rfl, ?_⟩
  have := h3 0 (.int k xs[i]) (by rw [h2']; rfl)
  rw [show (Kd.int k).sz = 1 from rfl, Nat.mul_one, Nat.add_zero] at this
  rw [this, List.getD_eq_getElem?_getD, List.getElem?_eq_getElem (by omega)]
  rfl
theorem take_snoc' {α : Type} (l : List α) (k : Nat) (d : α) (h : k < l.length) : l.take (k + 1) = l.take k ++ [l.getD k d] := by
  rw [List.take_add_one, List.getD_eq_getElem?_getD, List.getElem?_eq_getElem h]; rfl
theorem infoPlace : (Try.prog.info? 68).map (fun i => (i.zero, i.size, i.bytes)) = some (some (.agg #[.int .i64 0, .int .i64 0]), 2, 16) := by kernel_rfl

/-- A finder lies at block g: its machine, its text, its map. -/
def FndAt (W : World) (g : Nat) (A : Option Addr) (n c : Nat) (s : ByteArray) (gm : Nat) : Prop := Blk W g 85 #[.slice A n c, .string s, .map (some gm)]

set_option maxRecDepth 100000 in
set_option maxHeartbeats 1000000 in
theorem ends_calls (m : List Node) (s : ByteArray) (A : Option Addr) (c g gm : Nat) (p : Place) (hp : InP m s p) (w : World) (hC : kNode.C w A m.length m) (hF : FndAt w g A m.length c s gm) :
    Calls Try.prog 31 #[.pointer (some ⟨g, 0, none⟩), valPlace p] w fun e w' => e = .returned (.bool (endsP m s p)) ∧ RowKit.Below w.heap.size w w' := by
  obtain ⟨h0, h1, h2, h3⟩ := hp
  have hm : m.length ≤ 9223372036854775807 := hC.2.1
  have hC1 := Kd.C_below hC (below_alloc (RowKit.Below.refl _ _) (.cells #[.int .i64 p.f0, .int .i64 p.f1] 68))
  obtain ⟨ad, A1, c1, A2, c2, hA, x0, x1, x2, x3, x4, hl1, g1, hl2, g2⟩ := at_Node hC1 p.f0 h0 h1
  have b0 := hF.kept (World.grownBy_alloc w (.cells #[.int .i64 p.f0, .int .i64 p.f1] 68) none) (by simp)
  have f0 := b0.cell 0
  have f1 := b0.cell 1
  have f2 := b0.cell 2
  simp only [List.getElem?_toArray, List.getElem?_cons_zero, List.getElem?_cons_succ] at f0 f1 f2
  unfold endsP valPlace
  generalize (rd_Node m p.f0) = x at x0 ⊢
  subst hA
  have d0 : decide (0 ≤ p.f0) = true := decide_eq_true h0
  have d1 : decide (p.f0 < (m.length : Int)) = true := decide_eq_true h1
  clear x1 x2 x3 x4 hl1 g1 hl2 g2 hC1 hC hF b0
  by_cases k4 : x.f0 = 4
  · have e1 : (x.f0 == 4) = true := beq_iff_eq.2 k4
    rw [decide_eq_true k4, Bool.true_and]
    clear k4
    by_cases k5 : p.f1 = s.size
    · have e2 : (p.f1 == (s.size : Int)) = true := beq_iff_eq.2 k5
      rw [decide_eq_true k5]
      clear k5
      go_enter Try.func31, Try.ntmps31
      go_wp2
      go_quiet (fail)
      go_wp2
      go_ret
      exact ⟨rfl, pw_below_drewN (below_alloc (RowKit.Below.refl _ _) _) _⟩
    · have e2 : (p.f1 == (s.size : Int)) = false := beq_eq_false_iff_ne.2 k5
      rw [decide_eq_false k5]
      clear k5
      go_enter Try.func31, Try.ntmps31
      go_wp2
      go_quiet (fail)
      go_wp2
      go_ret
      exact ⟨rfl, pw_below_drewN (below_alloc (RowKit.Below.refl _ _) _) _⟩
  · have e1 : (x.f0 == 4) = false := beq_eq_false_iff_ne.2 k4
    rw [decide_eq_false k4, Bool.false_and]
    clear k4
    go_enter Try.func31, Try.ntmps31
    go_wp2
    go_quiet (fail)
    go_wp2
    go_ret
    exact ⟨rfl, pw_below_drewN (below_alloc (RowKit.Below.refl _ _) _) _⟩

set_option maxRecDepth 100000 in
set_option maxHeartbeats 1000000 in
theorem next_mark (m : List Node) (s : ByteArray) (A : Option Addr) (c g gm : Nat) (p : Place) (hp : InP m s p) (w : World) (hC : kNode.C w A m.length m) (hF : FndAt w g A m.length c s gm) (hk : (rd_Node m p.f0).f0 = 3) :
    Calls Try.prog 32 #[.pointer (some ⟨g, 0, none⟩), valPlace p] w fun e w' => ∃ v, e = .returned v ∧ w'.ownsRow w.heap.size 68 2 v 1 (encPlace ⟨(rd_Node m p.f0).f4, p.f1⟩) ∧ RowKit.Below w.heap.size w w' := by
  obtain ⟨h0, h1, h2, h3⟩ := hp
  have hm : m.length ≤ 9223372036854775807 := hC.2.1
  have hC1 := Kd.C_below hC (below_alloc (RowKit.Below.refl _ _) (.cells #[.int .i64 p.f0, .int .i64 p.f1] 68))
  obtain ⟨ad, A1, c1, A2, c2, hA, x0, x1, x2, x3, x4, hl1, g1, hl2, g2⟩ := at_Node hC1 p.f0 h0 h1
  have b0 := hF.kept (World.grownBy_alloc w (.cells #[.int .i64 p.f0, .int .i64 p.f1] 68) none) (by simp)
  have f0 := b0.cell 0
  have f1 := b0.cell 1
  have f2 := b0.cell 2
  have p0 := (Blk.new w 68 #[.int .i64 p.f0, .int .i64 p.f1]).cell 0
  have p1 := (Blk.new w 68 #[.int .i64 p.f0, .int .i64 p.f1]).cell 1
  simp only [List.getElem?_toArray, List.getElem?_cons_zero, List.getElem?_cons_succ] at f0 f1 f2 p0 p1
  unfold valPlace
  generalize (rd_Node m p.f0) = x at x0 x1 x2 x3 x4 g1 g2 hk ⊢
  obtain ⟨y0, y1, y2, y3, y4⟩ := x
  dsimp only at x0 x1 x2 x3 x4 g1 g2 hk ⊢
  subst hk
  subst hA
  have d0 : decide (0 ≤ p.f0) = true := decide_eq_true h0
  have d1 : decide (p.f0 < (m.length : Int)) = true := decide_eq_true h1
  have q0 := World.new_ne _ _ x0
  have q1 := World.new_ne _ _ f0
  have q2 := World.new_ne _ _ p0
  have HBW := Aside0.mk (below_alloc (RowKit.Below.refl w.heap.size w) (.cells #[.int .i64 p.f0, .int .i64 p.f1] 68))
  have hbW : w.heap.size ≤ (w.alloc (.cells #[.int .i64 p.f0, .int .i64 p.f1] 68)).heap.size := by simp
  generalize hw : w.alloc (.cells #[.int .i64 p.f0, .int .i64 p.f1] 68) = W at *
  have p1' : ∀ o, (W.alloc o).drew.cell? ⟨w.heap.size, 1, none⟩ = some (.int .i64 p.f1) := fun o => ((below_drew1 (below_alloc (RowKit.Below.refl W.heap.size W) o)).cell (World.block_lt_of_cell? W _ p1)).trans p1
  have G1 := Aside0.mk g1
  have G2 := Aside0.mk g2
  clear hl1 g1 hl2 g2 hC1 hC hF b0
  go_enter Try.func32, Try.ntmps32
  go_wp2
  go_region_held3 (fun w' => w'.cell? ⟨g, 0, none⟩ = some (.slice (some ad) m.length c) ∧ w'.cell? ⟨w.heap.size, 0, none⟩ = some (.int .i64 p.f0) ∧ w'.cell? (ad.add (p.f0.toNat * 5)) = some (.int .i64 3) ∧ w'.cell? ⟨(ad.add (p.f0.toNat * 5)).block, (ad.add (p.f0.toNat * 5)).off + 1, none⟩ = some (.slice A1 y1.length c1) ∧ w'.cell? ⟨(ad.add (p.f0.toNat * 5)).block, (ad.add (p.f0.toNat * 5)).off + 2, none⟩ = some (.slice A2 y2.length c2) ∧ w'.cell? ⟨(ad.add (p.f0.toNat * 5)).block, (ad.add (p.f0.toNat * 5)).off + 3, none⟩ = some (.int .i64 y3) ∧ w'.cell? ⟨(ad.add (p.f0.toNat * 5)).block, (ad.add (p.f0.toNat * 5)).off + 4, none⟩ = some (.int .i64 y4)) (go_keep) (fail)
  all_goals go_wp2
  go_ret
  have hrow := World.ownsRow_lit (base := w.heap.size) (e := 68) (size := 2) (W.alloc (.cells #[.int .i64 3, .slice A1 y1.length c1, .slice A2 y2.length c2, .int .i64 y3, .int .i64 y4] 49)) #[.int .i64 y4, .int .i64 p.f1] 1 (by rw [World.size_alloc]; omega) (by decide) rfl
  rw [World.size_alloc] at hrow
  exact ⟨_, rfl, hrow, below_drew1 (((HBW.out).alloc hbW _).alloc (by rw [World.size_alloc]; omega) _)⟩

set_option maxRecDepth 100000 in
set_option maxHeartbeats 1000000 in
theorem next_fork (m : List Node) (s : ByteArray) (A : Option Addr) (c g gm : Nat) (p : Place) (hp : InP m s p) (w : World) (hC : kNode.C w A m.length m) (hF : FndAt w g A m.length c s gm) (hN : ∀ x ∈ m, NodeOk x) (hk : (rd_Node m p.f0).f0 = 2) :
    Calls Try.prog 32 #[.pointer (some ⟨g, 0, none⟩), valPlace p] w fun e w' => ∃ v, e = .returned v ∧ w'.ownsRow w.heap.size 68 2 v (rd_Node m p.f0).f2.length (((rd_Node m p.f0).f2.map (fun t => (⟨t, p.f1⟩ : Place))).flatMap encPlace) ∧ RowKit.Below w.heap.size w w' := by
  obtain ⟨h0, h1, h2, h3⟩ := hp
  have hm : m.length ≤ 9223372036854775807 := hC.2.1
  have hC1 := Kd.C_below hC (below_alloc (RowKit.Below.refl _ _) (.cells #[.int .i64 p.f0, .int .i64 p.f1] 68))
  obtain ⟨ad, A1, c1, A2, c2, hA, x0, x1, x2, x3, x4, hl1, g1, hl2, g2⟩ := at_Node hC1 p.f0 h0 h1
  have b0 := hF.kept (World.grownBy_alloc w (.cells #[.int .i64 p.f0, .int .i64 p.f1] 68) none) (by simp)
  have f0 := b0.cell 0
  have f1 := b0.cell 1
  have f2 := b0.cell 2
  have p0 := (Blk.new w 68 #[.int .i64 p.f0, .int .i64 p.f1]).cell 0
  have p1 := (Blk.new w 68 #[.int .i64 p.f0, .int .i64 p.f1]).cell 1
  simp only [List.getElem?_toArray, List.getElem?_cons_zero, List.getElem?_cons_succ] at f0 f1 f2 p0 p1
  unfold valPlace
  have hx := hN _ (rd_Node_mem m p.f0 h0 h1)
  generalize (rd_Node m p.f0) = x at x0 x1 x2 x3 x4 g1 g2 hk hx ⊢
  obtain ⟨y0, y1, y2, y3, y4⟩ := x
  dsimp only at x0 x1 x2 x3 x4 g1 g2 hk hx ⊢
  subst hk
  have hn2 : y2.length ≤ 1000000000 := hx.2.2
  clear hx
  subst hA
  have d0 : decide (0 ≤ p.f0) = true := decide_eq_true h0
  have d1 : decide (p.f0 < (m.length : Int)) = true := decide_eq_true h1
  have q0 := World.new_ne _ _ x0
  have q1 := World.new_ne _ _ f0
  have q2 := World.new_ne _ _ p0
  have HBW := Aside0.mk (below_alloc (RowKit.Below.refl w.heap.size w) (.cells #[.int .i64 p.f0, .int .i64 p.f1] 68))
  have hbW : w.heap.size ≤ (w.alloc (.cells #[.int .i64 p.f0, .int .i64 p.f1] 68)).heap.size := by simp
  generalize hw : w.alloc (.cells #[.int .i64 p.f0, .int .i64 p.f1] 68) = W at *
  have p1' : ∀ o, (W.alloc o).drew.cell? ⟨w.heap.size, 1, none⟩ = some (.int .i64 p.f1) := fun o => ((below_drew1 (below_alloc (RowKit.Below.refl W.heap.size W) o)).cell (World.block_lt_of_cell? W _ p1)).trans p1
  have G1 := Aside0.mk g1
  have G2 := Aside0.mk g2
  clear hl1 g1 hl2 g2 hC1 hC hF b0
  go_enter Try.func32, Try.ntmps32
  go_wp2
  go_region_held3 (fun w' => w'.cell? ⟨g, 0, none⟩ = some (.slice (some ad) m.length c) ∧ w'.cell? ⟨w.heap.size, 0, none⟩ = some (.int .i64 p.f0) ∧ w'.cell? (ad.add (p.f0.toNat * 5)) = some (.int .i64 2) ∧ w'.cell? ⟨(ad.add (p.f0.toNat * 5)).block, (ad.add (p.f0.toNat * 5)).off + 1, none⟩ = some (.slice A1 y1.length c1) ∧ w'.cell? ⟨(ad.add (p.f0.toNat * 5)).block, (ad.add (p.f0.toNat * 5)).off + 2, none⟩ = some (.slice A2 y2.length c2) ∧ w'.cell? ⟨(ad.add (p.f0.toNat * 5)).block, (ad.add (p.f0.toNat * 5)).off + 3, none⟩ = some (.int .i64 y3) ∧ w'.cell? ⟨(ad.add (p.f0.toNat * 5)).block, (ad.add (p.f0.toNat * 5)).off + 4, none⟩ = some (.int .i64 y4)) (go_keep) (fail)
  obtain ⟨i0, hi, hz0, hz1, hz2⟩ := info_parts infoPlace
  all_goals go_wp2
  have HB2 := Aside0.mk (below_drew1 (below_alloc (RowKit.Below.refl W.heap.size W) (.cells #[.int .i64 2, .slice A1 y1.length c1, .slice A2 y2.length c2, .int .i64 y3, .int .i64 y4] 49)))
  have hp1 := p1' (.cells #[.int .i64 2, .slice A1 y1.length c1, .slice A2 y2.length c2, .int .i64 y3, .int .i64 y4] 49)
  generalize (W.alloc (.cells #[.int .i64 2, .slice A1 y1.length c1, .slice A2 y2.length c2, .int .i64 y3, .int .i64 y4] 49)).drew = W2 at HB2 hp1 ⊢
  clear p1' p1 p0 f0 f1 f2 x0 x1 x2 x3 x4
  go_loopw [6, 34] (fun v i wr => ∃ k : Nat, k ≤ y2.length ∧ i = .int .i64 k ∧ wr.ownsRow W2.heap.size 68 2 v k (((y2.take k).map (fun t => (⟨t, p.f1⟩ : Place))).flatMap encPlace) ∧ Aside0 (RowKit.Below W2.heap.size W2 wr)) (fun _ i _ => y2.length - (intOf i).toNat)
  case atStart => exact ⟨0, Nat.zero_le _, rfl, World.ownsRow_nil _ _ _ _, ⟨RowKit.Below.refl _ _⟩⟩
  case round =>
    obtain ⟨k, hk', rfl, hown, HB⟩ := hrel
    by_cases hlt : k < y2.length
    · have g2 := Kd.C_below (Kd.C_below G2.out HB2.out) HB.out
      obtain ⟨ad2, hA2, e0⟩ := at_int g2 k hlt
      have hpw := (HB.out.cell (World.block_lt_of_cell? _ _ hp1)).trans hp1
      have hts := take_snoc' y2 k 0 hlt
      generalize y2.getD k 0 = tt at e0 hts
      have HTS := Aside0.mk hts
      clear hts g2
      subst hA2
      have hb1 : k + 1 ≤ maxLen := by unfold maxLen; omega
      have hb2 : (k + 1) * 16 ≤ 140737488355328 := by omega
      have hb3 := HB.out.size
      go_wp2_with (at_builtin; refine wpList_append_own _ rfl _ _ 70 rfl W2.heap.size 68 i0 (.agg #[.int .i64 0, .int .i64 0]) 2 16 Try.underlying70 hi hz0 hz1 hz2 rfl (by decide) _ _ _ rfl (hown.alloc _) ⟨wr.heap.size, 0, none⟩ 1 1 (encPlace ⟨tt, p.f1⟩) rfl rfl (encPlace_new ⟨tt, p.f1⟩ wr) (encPlace_one _) hb1 hb2 (by simp; omega) ?_; intro v' w1 hown' hgrow _)
      exact ⟨⟨k + 1, by omega, by go_num, by rw [HTS.out, List.map_append, List.flatMap_append]; simpa using hown', ⟨(HB.out.alloc hb3 _).grown hgrow (by rw [World.size_alloc]; omega) (own_base hown)⟩⟩, by simp [intOf]; omega⟩
    · obtain rfl : k = y2.length := by omega
      rw [List.take_length] at hown
      go_wp2
      go_ret
      exact ⟨_, rfl, own_less hown (Nat.le_trans hbW HB2.out.size), HBW.out.trans ((HB2.out.mono hbW).trans (HB.out.mono (Nat.le_trans hbW HB2.out.size)))⟩

set_option maxRecDepth 100000 in
set_option maxHeartbeats 1000000 in
theorem next_eat (m : List Node) (s : ByteArray) (A : Option Addr) (c g gm : Nat) (p : Place) (hp : InP m s p) (w : World) (hC : kNode.C w A m.length m) (hF : FndAt w g A m.length c s gm) (hN : ∀ x ∈ m, NodeOk x) (hs : s.size ≤ 9223372036854775807) (hk : (rd_Node m p.f0).f0 = 1) :
    Calls Try.prog 32 #[.pointer (some ⟨g, 0, none⟩), valPlace p] w fun e w' => ∃ v, e = .returned v ∧ w'.ownsRow w.heap.size 68 2 v ((rd_Node m p.f0).f1.filter (takesP s p.f1)).length ((((rd_Node m p.f0).f1.filter (takesP s p.f1)).map (fun e => (⟨e.f2, p.f1 + 1⟩ : Place))).flatMap encPlace) ∧ RowKit.Below w.heap.size w w' := by
  obtain ⟨h0, h1, h2, h3⟩ := hp
  have hm : m.length ≤ 9223372036854775807 := hC.2.1
  have hC1 := Kd.C_below hC (below_alloc (RowKit.Below.refl _ _) (.cells #[.int .i64 p.f0, .int .i64 p.f1] 68))
  obtain ⟨ad, A1, c1, A2, c2, hA, x0, x1, x2, x3, x4, hl1, g1, hl2, g2⟩ := at_Node hC1 p.f0 h0 h1
  have b0 := hF.kept (World.grownBy_alloc w (.cells #[.int .i64 p.f0, .int .i64 p.f1] 68) none) (by simp)
  have f0 := b0.cell 0
  have f1 := b0.cell 1
  have f2 := b0.cell 2
  have p0 := (Blk.new w 68 #[.int .i64 p.f0, .int .i64 p.f1]).cell 0
  have p1 := (Blk.new w 68 #[.int .i64 p.f0, .int .i64 p.f1]).cell 1
  simp only [List.getElem?_toArray, List.getElem?_cons_zero, List.getElem?_cons_succ] at f0 f1 f2 p0 p1
  unfold valPlace
  have hx := hN _ (rd_Node_mem m p.f0 h0 h1)
  generalize (rd_Node m p.f0) = x at x0 x1 x2 x3 x4 g1 g2 hk hx ⊢
  obtain ⟨y0, y1, y2, y3, y4⟩ := x
  dsimp only at x0 x1 x2 x3 x4 g1 g2 hk hx ⊢
  subst hk
  have hn2 : y1.length ≤ 1000000000 := hx.2.1
  clear hx
  subst hA
  have d0 : decide (0 ≤ p.f0) = true := decide_eq_true h0
  have d1 : decide (p.f0 < (m.length : Int)) = true := decide_eq_true h1
  have q0 := World.new_ne _ _ x0
  have q1 := World.new_ne _ _ f0
  have q2 := World.new_ne _ _ p0
  have HBW := Aside0.mk (below_alloc (RowKit.Below.refl w.heap.size w) (.cells #[.int .i64 p.f0, .int .i64 p.f1] 68))
  have hbW : w.heap.size ≤ (w.alloc (.cells #[.int .i64 p.f0, .int .i64 p.f1] 68)).heap.size := by simp
  generalize hw : w.alloc (.cells #[.int .i64 p.f0, .int .i64 p.f1] 68) = W at *
  have F1 := Aside0.mk f1
  have p1' : ∀ o, (W.alloc o).drew.cell? ⟨w.heap.size, 1, none⟩ = some (.int .i64 p.f1) := fun o => ((below_drew1 (below_alloc (RowKit.Below.refl W.heap.size W) o)).cell (World.block_lt_of_cell? W _ p1)).trans p1
  have G1 := Aside0.mk g1
  have G2 := Aside0.mk g2
  clear hl1 g1 hl2 g2 hC1 hC hF b0
  go_enter Try.func32, Try.ntmps32
  go_wp2
  go_region_held3 (fun w' => w'.cell? ⟨g, 0, none⟩ = some (.slice (some ad) m.length c) ∧ w'.cell? ⟨w.heap.size, 0, none⟩ = some (.int .i64 p.f0) ∧ w'.cell? (ad.add (p.f0.toNat * 5)) = some (.int .i64 1) ∧ w'.cell? ⟨(ad.add (p.f0.toNat * 5)).block, (ad.add (p.f0.toNat * 5)).off + 1, none⟩ = some (.slice A1 y1.length c1) ∧ w'.cell? ⟨(ad.add (p.f0.toNat * 5)).block, (ad.add (p.f0.toNat * 5)).off + 2, none⟩ = some (.slice A2 y2.length c2) ∧ w'.cell? ⟨(ad.add (p.f0.toNat * 5)).block, (ad.add (p.f0.toNat * 5)).off + 3, none⟩ = some (.int .i64 y3) ∧ w'.cell? ⟨(ad.add (p.f0.toNat * 5)).block, (ad.add (p.f0.toNat * 5)).off + 4, none⟩ = some (.int .i64 y4)) (go_keep) (fail)
  obtain ⟨i0, hi, hz0, hz1, hz2⟩ := info_parts infoPlace
  all_goals go_wp2
  have HB2 := Aside0.mk (below_drew1 (below_alloc (RowKit.Below.refl W.heap.size W) (.cells #[.int .i64 1, .slice A1 y1.length c1, .slice A2 y2.length c2, .int .i64 y3, .int .i64 y4] 49)))
  have hp1 := p1' (.cells #[.int .i64 1, .slice A1 y1.length c1, .slice A2 y2.length c2, .int .i64 y3, .int .i64 y4] 49)
  generalize (W.alloc (.cells #[.int .i64 1, .slice A1 y1.length c1, .slice A2 y2.length c2, .int .i64 y3, .int .i64 y4] 49)).drew = W2 at HB2 hp1 ⊢
  clear p1' p1 p0 f0 f1 f2 x0 x1 x2 x3 x4
  go_loopw [6, 51] (fun v i wr => ∃ k : Nat, k ≤ y1.length ∧ i = .int .i64 k ∧ wr.ownsRow W2.heap.size 68 2 v ((y1.take k).filter (takesP s p.f1)).length ((((y1.take k).filter (takesP s p.f1)).map (fun e => (⟨e.f2, p.f1 + 1⟩ : Place))).flatMap encPlace) ∧ Aside0 (RowKit.Below W2.heap.size W2 wr)) (fun _ i _ => y1.length - (intOf i).toNat)
  case atStart => exact ⟨0, Nat.zero_le _, rfl, World.ownsRow_nil _ _ _ _, ⟨RowKit.Below.refl _ _⟩⟩
  case round =>
    obtain ⟨k, hk', rfl, hown, HB⟩ := hrel
    by_cases hlt : k < y1.length
    · have g1 := Kd.C_below (Kd.C_below G1.out HB2.out) HB.out
      obtain ⟨ad2, hA2, e0, e1, e2⟩ := at_Edge g1 k (by omega) (by omega)
      simp only [Int.toNat_natCast] at e0 e1 e2
      have hpw := (HB.out.cell (World.block_lt_of_cell? _ _ hp1)).trans hp1
      have hfw := (HB.out.cell (Nat.lt_of_lt_of_le (World.block_lt_of_cell? _ _ F1.out) HB2.out.size)).trans ((HB2.out.cell (World.block_lt_of_cell? _ _ F1.out)).trans F1.out)
      have hts : y1.take (k + 1) = y1.take k ++ [rd_Edge y1 k] := by unfold rd_Edge; rw [Int.toNat_natCast]; exact take_snoc' y1 k zEdge hlt
      generalize rd_Edge y1 k = x at e0 e1 e2 hts
      have hfl : ((y1.take k).filter (takesP s p.f1)).length ≤ k := Nat.le_trans (List.length_filter_le _ _) (List.length_take_le _ _)
      generalize hfe : (y1.take k).filter (takesP s p.f1) = ft at hown hfl
      have HTS := Aside0.mk hts
      have HFE := Aside0.mk hfe
      clear hts hfe g1
      subst hA2
      have hb1 : ft.length + 1 ≤ maxLen := by unfold maxLen; omega
      have hb2 : (ft.length + 1) * 16 ≤ 140737488355328 := by omega
      have hb3 := HB.out.size
      have hpw' := ((below_alloc (RowKit.Below.refl wr.heap.size wr) (.cells #[.int .u8 x.f0, .int .u8 x.f1, .int .i64 x.f2] 52)).cell (World.block_lt_of_cell? _ _ hpw)).trans hpw
      have hfw' := ((below_alloc (RowKit.Below.refl wr.heap.size wr) (.cells #[.int .u8 x.f0, .int .u8 x.f1, .int .i64 x.f2] 52)).cell (World.block_lt_of_cell? _ _ hfw)).trans hfw
      have hbt := bt_at s p.f1
      have HB3 : ∀ n, Aside0 (RowKit.Below W2.heap.size W2 ((wr.alloc (.cells #[.int .u8 x.f0, .int .u8 x.f1, .int .i64 x.f2] 52)).drewN n)) := fun n => ⟨pw_below_drewN (HB.out.alloc hb3 _) n⟩
      have HOW : ∀ n, Aside0 (((wr.alloc (.cells #[.int .u8 x.f0, .int .u8 x.f1, .int .i64 x.f2] 52)).drewN n).ownsRow W2.heap.size 68 2 u6 ft.length ((ft.map (fun e => (⟨e.f2, p.f1 + 1⟩ : Place))).flatMap encPlace)) := fun n => ⟨pw_own_drewN (hown.alloc _) n⟩
      have HFT : Aside0 ((y1.take (k + 1)).filter (takesP s p.f1) = ft ++ (if takesP s p.f1 x then [x] else [])) := ⟨by rw [HTS.out, List.filter_append, HFE.out]; congr 1; by_cases h : takesP s p.f1 x = true <;> simp [h]⟩
      by_cases d1 : p.f1 < s.size
      · have e3 : decide (p.f1 < (s.size : Int)) = true := decide_eq_true d1
        have e4 : decide (0 ≤ p.f1) = true := decide_eq_true h2
        by_cases d2 : x.f0 ≤ bt s p.f1
        · have e5 : decide (x.f0 ≤ bt s p.f1) = true := decide_eq_true d2
          by_cases d3 : bt s p.f1 ≤ x.f1
          · have t1 : takesP s p.f1 x = true := by unfold takesP; rw [decide_eq_true d1, e5, decide_eq_true d3]; rfl
            have HFT2 := Aside0.mk (show (y1.take (k + 1)).filter (takesP s p.f1) = ft ++ [x] by rw [HFT.out, t1]; simp)
            have e6 : decide (bt s p.f1 ≤ x.f1) = true := decide_eq_true d3
            clear HFT t1 d2 d3 h3
            have hwr : IntKind.i64.wrap (p.f1 + 1) = p.f1 + 1 := IntWalk.i64_in _ (by omega)
            go_wp2
            go_quiet (fail)
            have hc3 := (Blk.new wr 52 #[.int .u8 x.f0, .int .u8 x.f1, .int .i64 x.f2]).cell 2
            simp only [List.getElem?_toArray, List.getElem?_cons_zero, List.getElem?_cons_succ] at hc3
            generalize hW3 : World.drewN (wr.alloc _) _ = W3
            have hsz : W3.heap.size = wr.heap.size + 1 := by rw [← hW3]; simp
            have HO3 := Aside0.mk (show W3.ownsRow W2.heap.size 68 2 u6 ft.length ((ft.map (fun e => (⟨e.f2, p.f1 + 1⟩ : Place))).flatMap encPlace) by rw [← hW3]; exact (HOW _).out)
            have HB4 : Aside0 (RowKit.Below W2.heap.size W2 W3) := by rw [← hW3]; exact HB3 _
            have k1 : W3.cell? ⟨w.heap.size, 1, none⟩ = some (.int .i64 p.f1) := by rw [← hW3, World.cell?_drewN]; exact hpw'
            have k2 : W3.cell? ⟨wr.heap.size, 2, none⟩ = some (.int .i64 x.f2) := by rw [← hW3, World.cell?_drewN]; exact hc3
            have hb4 : W2.heap.size ≤ W3.heap.size := by omega
            clear hsz hW3 hc3 hpw' hfw' hpw hfw hown HOW HB3
            go_wp2_with (at_builtin; refine wpList_append_own _ rfl _ _ 70 rfl W2.heap.size 68 i0 (.agg #[.int .i64 0, .int .i64 0]) 2 16 Try.underlying70 hi hz0 hz1 hz2 rfl (by decide) _ _ _ rfl (HO3.out.alloc _) ⟨W3.heap.size, 0, none⟩ 1 1 (encPlace ⟨x.f2, p.f1 + 1⟩) rfl rfl (encPlace_new ⟨x.f2, p.f1 + 1⟩ W3) (encPlace_one _) hb1 hb2 (by simp; omega) ?_; intro v' w1 hown' hgrow _)
            exact ⟨⟨k + 1, by omega, by go_num, by rw [HFT2.out, List.length_append, List.map_append, List.flatMap_append]; simpa using hown', ⟨(HB4.out.alloc hb4 _).grown hgrow (by rw [World.size_alloc]; omega) (own_base HO3.out)⟩⟩, by simp [intOf]; omega⟩
          · have t1 : takesP s p.f1 x = false := by unfold takesP; rw [decide_eq_true d1, e5, decide_eq_false d3]; rfl
            have HFT2 := Aside0.mk (show (y1.take (k + 1)).filter (takesP s p.f1) = ft by rw [HFT.out, t1]; simp)
            have e6 : decide (bt s p.f1 ≤ x.f1) = false := decide_eq_false d3
            have HROW := hown
            clear hown HFT t1 d2 d3 h3
            go_wp2
            go_quiet (fail)
            go_wp2
            exact ⟨⟨k + 1, by omega, by go_num, by rw [HFT2.out]; exact (HOW _).out, HB3 _⟩, by simp [intOf]; omega⟩
        · have t1 : takesP s p.f1 x = false := by unfold takesP; rw [decide_eq_true d1, decide_eq_false d2]; rfl
          have HFT2 := Aside0.mk (show (y1.take (k + 1)).filter (takesP s p.f1) = ft by rw [HFT.out, t1]; simp)
          have e5 : decide (x.f0 ≤ bt s p.f1) = false := decide_eq_false d2
          have HROW := hown
          clear hown HFT t1 d2 h3
          go_wp2
          go_quiet (fail)
          go_wp2
          exact ⟨⟨k + 1, by omega, by go_num, by rw [HFT2.out]; exact (HOW _).out, HB3 _⟩, by simp [intOf]; omega⟩
      · have t1 : takesP s p.f1 x = false := by unfold takesP; rw [decide_eq_false d1]; rfl
        have HFT2 := Aside0.mk (show (y1.take (k + 1)).filter (takesP s p.f1) = ft by rw [HFT.out, t1]; simp)
        have e3 : decide (p.f1 < (s.size : Int)) = false := decide_eq_false d1
        have HROW := hown
        clear hown HFT t1 d1 h3
        go_wp2
        go_quiet (fail)
        go_wp2
        exact ⟨⟨k + 1, by omega, by go_num, by rw [HFT2.out]; exact (HOW _).out, HB3 _⟩, by simp [intOf]; omega⟩
    · obtain rfl : k = y1.length := by omega
      rw [List.take_length] at hown
      go_wp2
      go_ret
      exact ⟨_, rfl, own_less hown (Nat.le_trans hbW HB2.out.size), HBW.out.trans ((HB2.out.mono hbW).trans (HB.out.mono (Nat.le_trans hbW HB2.out.size)))⟩

set_option maxRecDepth 100000 in
set_option maxHeartbeats 1000000 in
theorem next_end (m : List Node) (s : ByteArray) (A : Option Addr) (c g gm : Nat) (p : Place) (hp : InP m s p) (w : World) (hC : kNode.C w A m.length m) (hF : FndAt w g A m.length c s gm) (hk : (rd_Node m p.f0).f0 = 4) :
    Calls Try.prog 32 #[.pointer (some ⟨g, 0, none⟩), valPlace p] w fun e w' => e = .returned (.slice none 0 0) ∧ RowKit.Below w.heap.size w w' := by
  obtain ⟨h0, h1, h2, h3⟩ := hp
  have hm : m.length ≤ 9223372036854775807 := hC.2.1
  have hC1 := Kd.C_below hC (below_alloc (RowKit.Below.refl _ _) (.cells #[.int .i64 p.f0, .int .i64 p.f1] 68))
  obtain ⟨ad, A1, c1, A2, c2, hA, x0, x1, x2, x3, x4, hl1, g1, hl2, g2⟩ := at_Node hC1 p.f0 h0 h1
  have b0 := hF.kept (World.grownBy_alloc w (.cells #[.int .i64 p.f0, .int .i64 p.f1] 68) none) (by simp)
  have f0 := b0.cell 0
  have f1 := b0.cell 1
  have f2 := b0.cell 2
  have p0 := (Blk.new w 68 #[.int .i64 p.f0, .int .i64 p.f1]).cell 0
  have p1 := (Blk.new w 68 #[.int .i64 p.f0, .int .i64 p.f1]).cell 1
  simp only [List.getElem?_toArray, List.getElem?_cons_zero, List.getElem?_cons_succ] at f0 f1 f2 p0 p1
  unfold valPlace
  generalize (rd_Node m p.f0) = x at x0 x1 x2 x3 x4 g1 g2 hk ⊢
  obtain ⟨y0, y1, y2, y3, y4⟩ := x
  dsimp only at x0 x1 x2 x3 x4 g1 g2 hk ⊢
  subst hk
  subst hA
  have d0 : decide (0 ≤ p.f0) = true := decide_eq_true h0
  have d1 : decide (p.f0 < (m.length : Int)) = true := decide_eq_true h1
  have q0 := World.new_ne _ _ x0
  have q1 := World.new_ne _ _ f0
  have q2 := World.new_ne _ _ p0
  have HBW := Aside0.mk (below_alloc (RowKit.Below.refl w.heap.size w) (.cells #[.int .i64 p.f0, .int .i64 p.f1] 68))
  have hbW : w.heap.size ≤ (w.alloc (.cells #[.int .i64 p.f0, .int .i64 p.f1] 68)).heap.size := by simp
  generalize hw : w.alloc (.cells #[.int .i64 p.f0, .int .i64 p.f1] 68) = W at *
  clear g1 g2 hl1 hl2 hC1 hC hF b0
  go_enter Try.func32, Try.ntmps32
  go_wp2
  go_region_held3 (fun w' => w'.cell? ⟨g, 0, none⟩ = some (.slice (some ad) m.length c) ∧ w'.cell? ⟨w.heap.size, 0, none⟩ = some (.int .i64 p.f0) ∧ w'.cell? (ad.add (p.f0.toNat * 5)) = some (.int .i64 4) ∧ w'.cell? ⟨(ad.add (p.f0.toNat * 5)).block, (ad.add (p.f0.toNat * 5)).off + 1, none⟩ = some (.slice A1 y1.length c1) ∧ w'.cell? ⟨(ad.add (p.f0.toNat * 5)).block, (ad.add (p.f0.toNat * 5)).off + 2, none⟩ = some (.slice A2 y2.length c2) ∧ w'.cell? ⟨(ad.add (p.f0.toNat * 5)).block, (ad.add (p.f0.toNat * 5)).off + 3, none⟩ = some (.int .i64 y3) ∧ w'.cell? ⟨(ad.add (p.f0.toNat * 5)).block, (ad.add (p.f0.toNat * 5)).off + 4, none⟩ = some (.int .i64 y4)) (go_keep) (fail)
  all_goals go_wp2
  go_ret
  exact ⟨rfl, below_drew1 ((HBW.out).alloc hbW _)⟩

theorem next_calls (m : List Node) (s : ByteArray) (A : Option Addr) (c g gm : Nat) (p : Place) (hp : InP m s p) (w : World) (hC : kNode.C w A m.length m) (hF : FndAt w g A m.length c s gm) (hN : ∀ x ∈ m, NodeOk x) (hM : mayB m = true) (hs : s.size ≤ 9223372036854775807) :
    Calls Try.prog 32 #[.pointer (some ⟨g, 0, none⟩), valPlace p] w fun e w' => ∃ v, e = .returned v ∧ w'.ownsRow w.heap.size 68 2 v (nextsP m s p).length ((nextsP m s p).flatMap encPlace) ∧ RowKit.Below w.heap.size w w' := by
  unfold nextsP
  rcases right_kind (mayB_right hM p.f0 hp.1 hp.2.1) with h | h | h | h
  · rw [if_neg (by omega), if_neg (by omega), if_pos h]
    refine (next_eat m s A c g gm p hp w hC hF hN hs h).mono ?_
    rintro e w' ⟨v, rfl, h1, h2⟩
    exact ⟨v, rfl, by rw [List.length_map]; exact h1, h2⟩
  · rw [if_neg (by omega), if_pos h]
    refine (next_fork m s A c g gm p hp w hC hF hN h).mono ?_
    rintro e w' ⟨v, rfl, h1, h2⟩
    exact ⟨v, rfl, by rw [List.length_map]; exact h1, h2⟩
  · rw [if_pos h]
    refine (next_mark m s A c g gm p hp w hC hF h).mono ?_
    rintro e w' ⟨v, rfl, h1, h2⟩
    exact ⟨v, rfl, by simpa using h1, h2⟩
  · rw [if_neg (by omega), if_neg (by omega), if_neg (by omega)]
    refine (next_end m s A c g gm p hp w hC hF h).mono ?_
    rintro e w' ⟨rfl, h1⟩
    exact ⟨_, rfl, World.ownsRow_nil _ _ _ _, h1⟩

end Go.Proofs.Ytcbflajacioinaa
