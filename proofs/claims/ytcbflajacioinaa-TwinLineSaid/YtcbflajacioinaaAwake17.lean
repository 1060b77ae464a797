/- The law's own: the small machine of awake. -/
import Derived.BigQuiet
import Derived.Deep.RegionHeld3
import Derived.Outline
import Derived.Deep.QuietTactic
import Derived.Test.YtcbflajacioinaaFindWay
namespace Go.Proofs.Ytcbflajacioinaa
open Go.RowKit Go.Shelf Go.Proofs.YtcbflajacioinaaW.PrintWords Go.Proofs.YtcbflajacioinaaW.PrintLast

def mAw : List Node := [⟨2, [], [2, 1], 0, 0⟩, ⟨3, [], [], 7, 2⟩, ⟨4, [], [], 0, 0⟩]
theorem mAw_may : mayB mAw = true := by decide
theorem mAw_many : manyP mAw ByteArray.empty ⟨0, 0⟩ = 2 := by decide

theorem mAw_way0 : wayP mAw ByteArray.empty ⟨0, 0⟩ 0 = [] := by kernel_rfl
theorem mAw_way1 : wayP mAw ByteArray.empty ⟨0, 0⟩ 1 = [⟨7, 0⟩] := by kernel_rfl
theorem C_nil {α : Type} (k : Kd α) (w : World) (A : Option Addr) : k.C w A 0 [] := ⟨rfl, by decide, fun h => absurd h (by decide)⟩
theorem own_hits {w : World} {base : Nat} {v : Value} {l : List Hit} (h : w.ownsRow base 31 2 v l.length (l.flatMap encHit)) : ∃ A cap, v = .slice A l.length cap ∧ ∀ i, i < l.length → ∃ ad, A = some ad ∧
    w.cell? (ad.add (i * 2)) = some (.int .i64 (l.getD i zHit).f0) ∧ w.cell? ⟨(ad.add (i * 2)).block, (ad.add (i * 2)).off + 1, none⟩ = some (.int .i64 (l.getD i zHit).f1) := by
  rcases h.2 with ⟨rfl, hn⟩ | ⟨g, cap, cur, rfl, hb, hr⟩
  · rw [hn]
    exact ⟨none, 0, rfl, fun i hi => absurd hi (Nat.not_lt_zero _)⟩
  · refine ⟨_, _, rfl, fun i hi => ⟨_, rfl, ?_⟩⟩
    have hc := h.cells (g := g) rfl
    have e0 := flatMap_get (f := encHit) (k := 2) (fun _ => rfl) l i 0 hi (by decide)
    have e1 := flatMap_get (f := encHit) (k := 2) (fun _ => rfl) l i 1 hi (by decide)
    rw [List.getD_eq_getElem?_getD, List.getElem?_eq_getElem hi]
    exact ⟨hc _ _ e0, by rw [← add_field _ _ 1 (by omega)]; exact hc _ _ e1⟩

theorem mAw_ok : ∀ x ∈ mAw, NodeOk x := by
  intro x hx
  simp only [mAw, List.mem_cons, List.not_mem_nil, or_false] at hx
  rcases hx with rfl | rfl | rfl <;> exact ⟨fun e he => (by cases he), by decide, by decide⟩

theorem mAw_C (w : World) : kNode.C ((w.alloc (.cells #[.int .i64 2, .int .i64 1] 3)).alloc (.cells #[.int .i64 2, .slice none 0 0, .slice (some ⟨w.heap.size, 0, none⟩) 2 2, .int .i64 0, .int .i64 0, .int .i64 3, .slice none 0 0, .slice none 0 0, .int .i64 7, .int .i64 2, .int .i64 4, .slice none 0 0, .slice none 0 0, .int .i64 0, .int .i64 0] 49)) (some ⟨w.heap.size + 1, 0, none⟩) 3 mAw := by
  have b1 := Blk.new (w.alloc (.cells #[.int .i64 2, .int .i64 1] 3)) 49 #[.int .i64 2, .slice none 0 0, .slice (some ⟨w.heap.size, 0, none⟩) 2 2, .int .i64 0, .int .i64 0, .int .i64 3, .slice none 0 0, .slice none 0 0, .int .i64 7, .int .i64 2, .int .i64 4, .slice none 0 0, .slice none 0 0, .int .i64 0, .int .i64 0]
  have b0 := (Blk.new w 3 #[.int .i64 2, .int .i64 1]).kept (World.grownBy_alloc (w.alloc (.cells #[.int .i64 2, .int .i64 1] 3)) (.cells #[.int .i64 2, .slice none 0 0, .slice (some ⟨w.heap.size, 0, none⟩) 2 2, .int .i64 0, .int .i64 0, .int .i64 3, .slice none 0 0, .slice none 0 0, .int .i64 7, .int .i64 2, .int .i64 4, .slice none 0 0, .slice none 0 0, .int .i64 0, .int .i64 0] 49) none) (by simp)
  rw [World.size_alloc] at b1
  generalize (w.alloc (.cells #[.int .i64 2, .int .i64 1] 3)).alloc _ = W at b0 b1 ⊢
  have g2 : (Kd.int .i64).C W (some ⟨w.heap.size, 0, none⟩) 2 [2, 1] := by
    refine ⟨rfl, by decide, fun _ => ⟨_, rfl, fun j p hj => ?_⟩⟩
    match j, hj with
    | 0, hj => obtain rfl : 2 = p := by simpa using hj
               exact ⟨[.int .i64 2], rfl, rfl, fun i u hu => by
                 match i, hu with
                 | 0, hu => obtain rfl : Value.int .i64 2 = u := by simpa using hu
                            exact b0.cell 0⟩
    | 1, hj => obtain rfl : 1 = p := by simpa using hj
               exact ⟨[.int .i64 1], rfl, rfl, fun i u hu => by
                 match i, hu with
                 | 0, hu => obtain rfl : Value.int .i64 1 = u := by simpa using hu
                            exact b0.cell 1⟩
  have hcell : ∀ (j : Nat) (c : List Value), (∀ i u, c[i]? = some u → (#[.int .i64 2, .slice none 0 0, .slice (some ⟨w.heap.size, 0, none⟩) 2 2, .int .i64 0, .int .i64 0, .int .i64 3, .slice none 0 0, .slice none 0 0, .int .i64 7, .int .i64 2, .int .i64 4, .slice none 0 0, .slice none 0 0, .int .i64 0, .int .i64 0] : Array Value)[j * 5 + i]? = some u) → ∀ i u, c[i]? = some u → W.cell? ((⟨w.heap.size + 1, 0, none⟩ : Addr).add (j * kNode.sz + i)) = some u := fun j c h i u hu => by
    rw [add_plain]
    exact (b1.cell (j * 5 + i)).trans (h i u hu)
  refine ⟨rfl, by decide, fun _ => ⟨_, rfl, fun j p hj => ?_⟩⟩
  match j, hj with
  | 0, hj =>
    obtain rfl : (⟨2, [], [2, 1], 0, 0⟩ : Node) = p := by simpa [mAw] using hj
    exact ⟨_, rfl, kNode_mk W ⟨2, [], [2, 1], 0, 0⟩ (A1 := none) (c1 := 0) (Nat.le_refl _) (C_nil _ _ _) (A2 := some ⟨w.heap.size, 0, none⟩) (c2 := 2) (Nat.le_refl _) g2, hcell 0 _ (fun i u hu => by match i, hu with | 0, hu | 1, hu | 2, hu | 3, hu | 4, hu => exact hu)⟩
  | 1, hj =>
    obtain rfl : (⟨3, [], [], 7, 2⟩ : Node) = p := by simpa [mAw] using hj
    exact ⟨_, rfl, kNode_mk W ⟨3, [], [], 7, 2⟩ (A1 := none) (c1 := 0) (Nat.le_refl _) (C_nil _ _ _) (A2 := none) (c2 := 0) (Nat.le_refl _) (C_nil _ _ _), hcell 1 _ (fun i u hu => by match i, hu with | 0, hu | 1, hu | 2, hu | 3, hu | 4, hu => exact hu)⟩
  | 2, hj =>
    obtain rfl : (⟨4, [], [], 0, 0⟩ : Node) = p := by simpa [mAw] using hj
    exact ⟨_, rfl, kNode_mk W ⟨4, [], [], 0, 0⟩ (A1 := none) (c1 := 0) (Nat.le_refl _) (C_nil _ _ _) (A2 := none) (c2 := 0) (Nat.le_refl _) (C_nil _ _ _), hcell 2 _ (fun i u hu => by match i, hu with | 0, hu | 1, hu | 2, hu | 3, hu | 4, hu => exact hu)⟩

set_option maxRecDepth 100000 in
set_option maxHeartbeats 1000000 in
theorem awake_calls (w : World) :
    Calls Try.prog 10 #[] w fun e w' => e = .returned (.bool true) ∧ RowKit.Below w.heap.size w w' := by
  have hC := mAw_C w
  have hB := ((RowKit.Below.refl w.heap.size w).alloc (Nat.le_refl _) (.cells #[.int .i64 2, .int .i64 1] 3)).alloc (by simp) (.cells #[.int .i64 2, .slice none 0 0, .slice (some ⟨w.heap.size, 0, none⟩) 2 2, .int .i64 0, .int .i64 0, .int .i64 3, .slice none 0 0, .slice none 0 0, .int .i64 7, .int .i64 2, .int .i64 4, .slice none 0 0, .slice none 0 0, .int .i64 0, .int .i64 0] 49)
  have hs : (ByteArray.empty).size ≤ 9223372036854775807 := by decide
  have hfew : mAw.length * ((ByteArray.empty).size + 1) < maxLen := by
    have : mAw.length * ((ByteArray.empty).size + 1) = 3 := by decide
    rw [this]; unfold maxLen; omega
  have hmu : muP mAw ByteArray.empty ⟨0, 0⟩ ≤ 1000000000 := by decide
  have k0 : wayOk mAw ByteArray.empty 0 := ⟨mAw_may, by decide, by rw [mAw_many]; decide⟩
  have k1 : wayOk mAw ByteArray.empty 1 := ⟨mAw_may, by decide, by rw [mAw_many]; decide⟩
  have k2 : ¬ wayOk mAw ByteArray.empty 2 := fun h => by have := h.2.2; rw [mAw_many] at this; omega
  have r0 := fun (W : World) (h : kNode.C W (some ⟨w.heap.size + 1, 0, none⟩) 3 mAw) => way_good mAw ByteArray.empty (some ⟨w.heap.size + 1, 0, none⟩) 3 0 mAw_ok hs hfew hmu k0 W h
  have r1 := fun (W : World) (h : kNode.C W (some ⟨w.heap.size + 1, 0, none⟩) 3 mAw) => way_good mAw ByteArray.empty (some ⟨w.heap.size + 1, 0, none⟩) 3 1 mAw_ok hs hfew hmu k1 W h
  have r2 := fun (W : World) (h : kNode.C W (some ⟨w.heap.size + 1, 0, none⟩) 3 mAw) => way_bad mAw ByteArray.empty (some ⟨w.heap.size + 1, 0, none⟩) 3 2 mAw_ok hs hfew k2 W h
  have r3 := fun (W : World) (h : kNode.C W (some ⟨w.heap.size + 1, 0, none⟩) 3 mAw) => findMany_calls mAw ByteArray.empty (some ⟨w.heap.size + 1, 0, none⟩) 3 9 mAw_ok hs hfew W h
  rw [mAw_way0] at r0
  rw [mAw_way1] at r1
  have e3 : manyOut mAw ByteArray.empty 9 = 2 := by unfold manyOut; rw [if_pos ⟨mAw_may, by decide⟩, mAw_many]; rfl
  rw [e3] at r3
  rw [show mAw.length = 3 from rfl, show ByteArray.empty = ⟨#[]⟩ from rfl] at r0 r1 r2 r3
  have R0 := Aside0.mk r0
  have R1 := Aside0.mk r1
  have R2 := Aside0.mk r2
  have R3 := Aside0.mk r3
  have HB := Aside0.mk hB
  have HC := Aside0.mk hC
  clear r0 r1 r2 r3 e3 k0 k1 k2 hs hfew hmu hB hC
  go_enter Try.func10, Try.ntmps10
  go_wp2_with fail
  refine (R0.out _ HC.out).mono ?_
  rintro e w2 ⟨v0, rfl, hown0, hb2⟩
  obtain ⟨A0, c0, rfl, -⟩ := own_hits (l := []) hown0
  have HC2 := Aside0.mk (Kd.C_below HC.out hb2)
  have HB2 := Aside0.mk (HB.out.trans (hb2.mono HB.out.size))
  clear HC HB hown0 hb2 R0
  go_wp2_with fail
  refine (R1.out _ HC2.out).mono ?_
  rintro e w3 ⟨v1, rfl, hown1, hb3⟩
  have HC3 := Aside0.mk (Kd.C_below HC2.out hb3)
  have HB3 := Aside0.mk (HB2.out.trans (hb3.mono HB2.out.size))
  clear HC2 HB2 R1
  go_wp2_with fail
  refine (R2.out _ HC3.out).mono ?_
  rintro e w4 ⟨rfl, hb4⟩
  have HC4 := Aside0.mk (Kd.C_below HC3.out hb4)
  have HB4 := Aside0.mk (HB3.out.trans (hb4.mono HB3.out.size))
  have hown4 := own_below hown1 hb4
  clear HC3 HB3 R2 hown1 hb4 hb3
  go_wp2_with fail
  refine (R3.out _ HC4.out).mono ?_
  rintro e w5 ⟨rfl, hb5⟩
  have HB5 := Aside0.mk (HB4.out.trans (hb5.mono HB4.out.size))
  have hown5 := own_below hown4 hb5
  obtain ⟨A1, c1, rfl, hh⟩ := own_hits hown5
  obtain ⟨ad, rfl, e0, e1⟩ := hh 0 (by decide)
  simp only [Nat.zero_mul, List.getD_cons_zero] at e0 e1
  replace e0 : w5.cell? ad = some (.int .i64 7) := e0
  replace e1 : w5.cell? ⟨ad.block, ad.off + 1, none⟩ = some (.int .i64 0) := e1
  clear hh hown5 hown4 hb5 HC4 HB4 R3
  go_wp2_with fail
  go_ret
  exact ⟨rfl, HB5.out⟩

end Go.Proofs.Ytcbflajacioinaa
