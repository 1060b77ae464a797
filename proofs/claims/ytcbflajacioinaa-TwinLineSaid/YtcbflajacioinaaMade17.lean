/- The law's own: a machine, as the program has it. -/
import Derived.BigQuiet
import Derived.Deep.RegionHeld3
import Derived.Deep.RegionHeldLaw
import Derived.Deep.AppendLies
import Derived.Outline
import Derived.Lib.SmallJoins
import Derived.Deep.QuietTactic
import Derived.Test.YtcbflajacioinaaMadeK
namespace Go.Proofs.Ytcbflajacioinaa
open Go.RowKit Go.Shelf Go.Proofs.YtcbflajacioinaaW.PrintWords Go.Proofs.YtcbflajacioinaaW.PrintLast Go.Proofs.Ytcbflajacioinaa.P

theorem infoNode : (Try.prog.info? 49).map (fun i => (i.zero, i.size, i.bytes)) = some (some (.agg #[.int .i64 0, .slice none 0 0, .slice none 0 0, .int .i64 0, .int .i64 0]), 5, 72) := by kernel_rfl

set_option linter.unusedSimpArgs false
theorem grown_but {a b : World} (h : a.grownBy b none) (row : Option Nat) : a.grownBy b row := ⟨h.os, h.tape, h.output, h.size, fun i hi _ => h.block i hi (by simp)⟩
theorem Blk.set {W : World} {B : Nat} {t : TypeId} {cs : Array Value} (h : Blk W B t cs) (i : Nat) (v : Value) : Blk (W.setCell ⟨B, i, none⟩ v) B t (cs.setIfInBounds i v) := Joins.block_setCell h v

set_option maxRecDepth 100000 in
set_option maxHeartbeats 1000000 in
theorem made_own (l : List S35) (A : Option Addr) (c : Nat) (w : World) (hC : Kd.C k35 w A l.length l) (hl : l.length ≤ 1000000) (hle : ∀ x ∈ l, x.f1.length ≤ 1000000) :
    Calls Try.prog 13 #[.slice A l.length c] w fun e w' => ∃ (v : Value) (css : List (List Value)), e = .returned v ∧ css.length = l.length ∧ w'.ownsRow w.heap.size 49 5 v l.length css.flatten ∧ (∀ (j : Nat) x c, (madeL l)[j]? = some x → css[j]? = some c → NodeIn w w' x c) ∧ RowKit.Below w.heap.size w w' := by
  go_enter Try.func13, Try.ntmps13
  go_wp2_with fail
  go_loopw [3, 4] (fun ov iv wr => ∃ (i : Nat) (css : List (List Value)), i ≤ l.length ∧ iv = .int .i64 i ∧ css.length = i ∧ wr.ownsRow w.heap.size 49 5 ov i css.flatten ∧ Aside0 (∀ (j : Nat) x c, (madeL l)[j]? = some x → css[j]? = some c → NodeIn w wr x c) ∧ Aside0 (RowKit.Below w.heap.size w wr)) (fun _ i _ => l.length - (intOf i).toNat)
  case atStart => exact ⟨0, [], Nat.zero_le _, rfl, rfl, World.ownsRow_nil _ _ _ _, ⟨fun j x c _ h => by simp at h⟩, ⟨RowKit.Below.refl _ _⟩⟩
  case round =>
    obtain ⟨i, css, hi', rfl, hcl, hown, HN, HB⟩ := hrel
    by_cases hlt : i < l.length
    · obtain ⟨ad, A1, c1, A2, c2, hA, x0, x1, x2, x3, x4, hl1, g1, hl2, g2⟩ := at_T35 hC i (by omega) (by omega)
      simp only [Int.toNat_natCast] at x0 x1 x2 x3 x4
      replace x0 := (HB.out.cell (World.block_lt_of_cell? _ _ x0)).trans x0
      replace x1 := (HB.out.cell (World.block_lt_of_cell? _ _ x1)).trans x1
      replace x2 := (HB.out.cell (World.block_lt_of_cell? _ _ x2)).trans x2
      replace x3 := (HB.out.cell (World.block_lt_of_cell? _ _ x3)).trans x3
      replace x4 := (HB.out.cell (World.block_lt_of_cell? _ _ x4)).trans x4
      replace g1 := Kd.C_below g1 HB.out
      have hmem : rd_T35 l i ∈ l := by unfold rd_T35; rw [Int.toNat_natCast, List.getD_eq_getElem?_getD, List.getElem?_eq_getElem hlt]; exact List.getElem_mem _
      have hnode : (madeL l)[i]? = some (toNode (rd_T35 l i)) := by unfold madeL rd_T35; rw [Int.toNat_natCast, List.getElem?_map, List.getD_eq_getElem?_getD, List.getElem?_eq_getElem hlt]; rfl
      have hes := hle _ hmem
      generalize rd_T35 l i = x at x0 x1 x2 x3 x4 hl1 g1 hl2 g2 hmem hnode hes
      obtain ⟨y0, y1, y2, y3, y4⟩ := x
      dsimp only at x0 x1 x2 x3 x4 hl1 g1 hl2 g2 hnode hes
      subst hA
      have q0 := World.new_ne _ _ x0
      have HNODE := Aside0.mk hnode
      have HG1 := Aside0.mk g1
      have HG2 := Aside0.mk g2
      have hi0 : (0 : Int) ≤ i := by omega
      have hi1 : (i : Int) < l.length := by omega
      clear g1 g2 hnode hmem
      go_wp2_with fail
      go_region_held3 (fun w' => w'.cell? (ad.add (i * 5)) = some (.int .i64 y0) ∧ w'.cell? ⟨(ad.add (i * 5)).block, (ad.add (i * 5)).off + 1, none⟩ = some (.slice A1 y1.length c1) ∧ w'.cell? ⟨(ad.add (i * 5)).block, (ad.add (i * 5)).off + 2, none⟩ = some (.slice A2 y2.length c2) ∧ w'.cell? ⟨(ad.add (i * 5)).block, (ad.add (i * 5)).off + 3, none⟩ = some (.int .i64 y3) ∧ w'.cell? ⟨(ad.add (i * 5)).block, (ad.add (i * 5)).off + 4, none⟩ = some (.int .i64 y4)) (go_keep) (fail)
      all_goals go_wp2_with fail
      have bN := Blk.new wr 49 #[.int .i64 y0, .slice none 0 0, .slice A2 y2.length c2, .int .i64 y3, .int .i64 y4]
      have bN : Blk (wr.alloc (.cells #[.int .i64 y0, .slice none 0 0, .slice A2 y2.length c2, .int .i64 y3, .int .i64 y4] 49)).drew wr.heap.size 49 #[.int .i64 y0, .slice none 0 0, .slice A2 y2.length c2, .int .i64 y3, .int .i64 y4] := bN
      have hg5 := (World.grownBy_alloc wr (.cells #[.int .i64 y0, .slice none 0 0, .slice A2 y2.length c2, .int .i64 y3, .int .i64 y4] 49) none).trans (grown_of_below (below_drew1 (RowKit.Below.refl _ _)) none)
      have hs5 : (wr.alloc (.cells #[.int .i64 y0, .slice none 0 0, .slice A2 y2.length c2, .int .i64 y3, .int .i64 y4] 49)).drew.heap.size = wr.heap.size + 1 := by simp
      generalize (wr.alloc (.cells #[.int .i64 y0, .slice none 0 0, .slice A2 y2.length c2, .int .i64 y3, .int .i64 y4] 49)).drew = w5 at bN hg5 hs5 ⊢
      have HB5 := Aside0.mk (HB.out.grown hg5 HB.out.size (fun j hj => by cases hj))
      have hwr := HB.out.size
      have hlw := World.block_lt_of_cell? _ _ x0
      have X0 := Aside0.mk x0
      have X1 := Aside0.mk x1
      have hrb : wr.heap.size < w5.heap.size := by omega
      generalize hRb : wr.heap.size = Bn at bN hrb hwr q0 hlw hs5 ⊢
      clear x0 x1 x2 x3 x4
      go_loopw [6] (fun kv wq => ∃ (k : Nat) (v1 : Value), k ≤ y1.length ∧ kv = .int .i64 k ∧ Blk wq Bn 49 #[.int .i64 y0, v1, .slice A2 y2.length c2, .int .i64 y3, .int .i64 y4] ∧ wq.ownsRow w5.heap.size 52 3 v1 k (((y1.take k).map toEdge).flatMap encEdge) ∧ Aside0 (w5.grownBy wq (some Bn))) (fun iv _ => y1.length - (intOf iv).toNat)
      case atStart => exact ⟨0, _, Nat.zero_le _, rfl, bN, World.ownsRow_nil _ _ _ _, ⟨grown_of_below (RowKit.Below.refl _ _) _⟩⟩
      case round =>
        obtain ⟨k, v1, hk, rfl, hb, hrow, HGq⟩ := hrel
        have HGall := Aside0.mk (hg5.andThen HGq.out (fun j hj => .inl (by cases hj; rw [hRb]; exact Nat.le_refl _)))
        have x1 := (HGall.out.cell_far ⟨(ad.add (i * 5)).block, (ad.add (i * 5)).off + 1, none⟩ (by rw [hRb]; exact hlw) (by simp)).trans X1.out
        have b1 := hb.cell 1
        have f1 := hb.free 1
        simp only [List.getElem?_toArray, List.getElem?_cons_zero, List.getElem?_cons_succ] at b1
        obtain ⟨i0, hi, hz0, hz1, hz2⟩ := info_parts infoEdge
        have hq5 := HGq.out.size
        by_cases hkl : k < y1.length
        · obtain ⟨ad1, hA1, eo0, eo1, eo2⟩ := at_T72 HG1.out k (by omega) (by omega)
          simp only [Int.toNat_natCast] at eo0 eo1 eo2
          have hts : y1.take (k + 1) = y1.take k ++ [rd_T72 y1 k] := by unfold rd_T72; rw [Int.toNat_natCast]; exact take_snoc' y1 k z72 hkl
          generalize rd_T72 y1 k = x at eo0 eo1 eo2 hts
          have hle1 := World.block_lt_of_cell? _ _ eo0
          rw [hRb] at hle1
          have e0 := (HGall.out.cell_far (ad1.add (k * 3)) (by rw [hRb]; exact hle1) (by simp)).trans eo0
          have e1 := (HGall.out.cell_far ⟨(ad1.add (k * 3)).block, (ad1.add (k * 3)).off + 1, none⟩ (by rw [hRb]; exact hle1) (by simp)).trans eo1
          have e2 := (HGall.out.cell_far ⟨(ad1.add (k * 3)).block, (ad1.add (k * 3)).off + 2, none⟩ (by rw [hRb]; exact hle1) (by simp)).trans eo2
          subst hA1
          have HTS := Aside0.mk hts
          have hk0 : (0 : Int) ≤ k := by omega
          have hk1 : (k : Int) < y1.length := by omega
          have hb1 : k + 1 ≤ maxLen := by unfold maxLen; omega
          have hb2 : (k + 1) * 16 ≤ 140737488355328 := by omega
          have hnB : some Bn ≠ v1.ownBlock := hb.not_row (by decide) hrow
          have hfar : ∀ b, b < Bn → some b ≠ v1.ownBlock := fun b hbB e => by have := own_base hrow b e.symm; omega
          have hlB := hb.lt
          have q1 := World.new_ne _ _ x1
          have q2 := World.new_ne _ _ b1
          have q3 := World.new_ne _ _ e0
          have keepS : ∀ o w1, (wr.drew.alloc o).grownBy w1 v1.ownBlock → (w1.cell? ⟨Bn, 1, none⟩ = some v1 ∧ w1.cell? ⟨(ad.add (i * 5)).block, (ad.add (i * 5)).off + 1, none⟩ = some (.slice (some ad1) y1.length c1) ∧ w1.cell? (ad1.add (k * 3)) = some (.int .u8 x.f0) ∧ w1.cell? ⟨(ad1.add (k * 3)).block, (ad1.add (k * 3)).off + 1, none⟩ = some (.int .u8 x.f1) ∧ w1.cell? ⟨(ad1.add (k * 3)).block, (ad1.add (k * 3)).off + 2, none⟩ = some (.int .i64 x.f2)) ∧ w1.frozen? ⟨Bn, 1, none⟩ = false := fun o w1 hg => by
            have hg2 := (World.grownBy_alloc wr.drew o v1.ownBlock).trans hg
            refine ⟨⟨(hg2.cell_far ⟨Bn, 1, none⟩ hlB hnB).trans b1, (hg2.cell_far ⟨(ad.add (i * 5)).block, (ad.add (i * 5)).off + 1, none⟩ (Nat.lt_trans hlw hlB) (hfar _ hlw)).trans x1, (hg2.cell_far (ad1.add (k * 3)) (Nat.lt_trans hle1 hlB) (hfar _ hle1)).trans e0, (hg2.cell_far ⟨(ad1.add (k * 3)).block, (ad1.add (k * 3)).off + 1, none⟩ (Nat.lt_trans hle1 hlB) (hfar _ hle1)).trans e1, (hg2.cell_far ⟨(ad1.add (k * 3)).block, (ad1.add (k * 3)).off + 2, none⟩ (Nat.lt_trans hle1 hlB) (hfar _ hle1)).trans e2⟩, (hg2.frozen_far ⟨Bn, 1, none⟩ hlB hnB).trans f1⟩
          have grefl : ∀ (W : World) (row : Option Nat), W.grownBy W row := fun W row => grown_of_below (RowKit.Below.refl _ _) row
          clear eo0 eo1 eo2 hts
          go_wp2_with fail
          refine start_ (n := 34) (S := fun w' => w'.cell? ⟨Bn, 1, none⟩ = some v1 ∧ w'.cell? ⟨(ad.add (i * 5)).block, (ad.add (i * 5)).off + 1, none⟩ = some (.slice (some ad1) y1.length c1) ∧ w'.cell? (ad1.add (k * 3)) = some (.int .u8 x.f0) ∧ w'.cell? ⟨(ad1.add (k * 3)).block, (ad1.add (k * 3)).off + 1, none⟩ = some (.int .u8 x.f1) ∧ w'.cell? ⟨(ad1.add (k * 3)).block, (ad1.add (k * 3)).off + 2, none⟩ = some (.int .i64 x.f2)) (ds := [33]) #[false, false, false, false, false, false, false, false, false, false, false, false, false, false, false, false, false, false, false, false, false, false, false, false, false, false, false, false, false, false, false, false, false, false] (by kernel_rfl) rfl rfl ⟨b1, x1, e0, e1, e2⟩ (fun hHeld => ?_)
          refine pure_ (i := 0) (N := some 44) (v := ?_) (a' := ?_) #[true, false, false, false, false, false, false, false, false, false, false, false, false, false, false, false, false, false, false, false, false, false, false, false, false, false, false, false, false, false, false, false, false, false] rfl rfl (by kernel_rfl) (fun _ _ _ h => h) (Or.inl ⟨by rfl, ?_⟩) ?_ ?_
          rotate_left
          · intro w'
            go_simp
            with_reducible rfl
          rotate_left
          · simp only [Act.put, List.setIfInBounds_toArray, List.set_cons_zero, List.set_cons_succ, i64_w, i32_w]
            rfl
          refine pure_ (i := 2) (N := some 46) (v := ?_) (a' := ?_) #[true, false, true, false, false, false, false, false, false, false, false, false, false, false, false, false, false, false, false, false, false, false, false, false, false, false, false, false, false, false, false, false, false, false] rfl rfl (by kernel_rfl) (fun _ _ _ h => h) (Or.inl ⟨by rfl, ?_⟩) ?_ ?_
          rotate_left
          · intro w'
            go_simp
            with_reducible rfl
          rotate_left
          · simp only [Act.put, List.setIfInBounds_toArray, List.set_cons_zero, List.set_cons_succ, i64_w, i32_w]
            rfl
          refine pure_ (i := 3) (N := some 47) (v := ?_) (a' := ?_) #[true, false, true, true, false, false, false, false, false, false, false, false, false, false, false, false, false, false, false, false, false, false, false, false, false, false, false, false, false, false, false, false, false, false] rfl rfl (by kernel_rfl) (fun _ _ _ h => h) (Or.inl ⟨by rfl, ?_⟩) ?_ ?_
          rotate_left
          · intro w'
            go_simp
            with_reducible rfl
          rotate_left
          · simp only [Act.put, List.setIfInBounds_toArray, List.set_cons_zero, List.set_cons_succ, i64_w, i32_w]
            rfl
          refine pure_ (i := 4) (N := some 48) (v := ?_) (a' := ?_) #[true, false, true, true, true, false, false, false, false, false, false, false, false, false, false, false, false, false, false, false, false, false, false, false, false, false, false, false, false, false, false, false, false, false] rfl rfl (by kernel_rfl) (fun _ _ _ h => h) (Or.inl ⟨by rfl, ?_⟩) ?_ ?_
          rotate_left
          · intro w'
            go_simp
            with_reducible rfl
          rotate_left
          · simp only [Act.put, List.setIfInBounds_toArray, List.set_cons_zero, List.set_cons_succ, i64_w, i32_w]
            rfl
          refine pure_ (i := 5) (N := some 49) (v := ?_) (a' := ?_) #[true, false, true, true, true, true, false, false, false, false, false, false, false, false, false, false, false, false, false, false, false, false, false, false, false, false, false, false, false, false, false, false, false, false] rfl rfl (by kernel_rfl) (fun _ _ _ h => h) (Or.inl ⟨by rfl, ?_⟩) ?_ ?_
          rotate_left
          · intro w'
            go_simp
            with_reducible rfl
          rotate_left
          · simp only [Act.put, List.setIfInBounds_toArray, List.set_cons_zero, List.set_cons_succ, i64_w, i32_w]
            rfl
          refine pure_ (i := 7) (N := some 51) (v := ?_) (a' := ?_) #[true, false, true, true, true, true, false, true, false, false, false, false, false, false, false, false, false, false, false, false, false, false, false, false, false, false, false, false, false, false, false, false, false, false] rfl rfl (by kernel_rfl) (fun _ _ _ h => h) (Or.inl ⟨by rfl, ?_⟩) ?_ ?_
          rotate_left
          · intro w'
            go_simp
            with_reducible rfl
          rotate_left
          · simp only [Act.put, List.setIfInBounds_toArray, List.set_cons_zero, List.set_cons_succ, i64_w, i32_w]
            rfl
          refine pure_ (i := 11) (N := some 55) (v := ?_) (a' := ?_) #[true, false, true, true, true, true, false, true, false, false, false, true, false, false, false, false, false, false, false, false, false, false, false, false, false, false, false, false, false, false, false, false, false, false] rfl rfl (by kernel_rfl) (fun _ _ _ h => h) (Or.inl ⟨by rfl, ?_⟩) ?_ ?_
          rotate_left
          · intro w'
            go_simp
            with_reducible rfl
          rotate_left
          · simp only [Act.put, List.setIfInBounds_toArray, List.set_cons_zero, List.set_cons_succ, i64_w, i32_w]
            rfl
          refine pure_ (i := 12) (N := some 56) (v := ?_) (a' := ?_) #[true, false, true, true, true, true, false, true, false, false, false, true, true, false, false, false, false, false, false, false, false, false, false, false, false, false, false, false, false, false, false, false, false, false] rfl rfl (by kernel_rfl) (fun _ _ _ h => h) (Or.inl ⟨by rfl, ?_⟩) ?_ ?_
          rotate_left
          · intro w'
            go_simp
            with_reducible rfl
          rotate_left
          · simp only [Act.put, List.setIfInBounds_toArray, List.set_cons_zero, List.set_cons_succ, i64_w, i32_w]
            rfl
          refine pure_ (i := 13) (N := some 57) (v := ?_) (a' := ?_) #[true, false, true, true, true, true, false, true, false, false, false, true, true, true, false, false, false, false, false, false, false, false, false, false, false, false, false, false, false, false, false, false, false, false] rfl rfl (by kernel_rfl) (fun _ _ _ h => h) (Or.inl ⟨by rfl, ?_⟩) ?_ ?_
          rotate_left
          · intro w'
            go_simp
            with_reducible rfl
          rotate_left
          · simp only [Act.put, List.setIfInBounds_toArray, List.set_cons_zero, List.set_cons_succ, i64_w, i32_w]
            rfl
          refine pure_ (i := 14) (N := some 58) (v := ?_) (a' := ?_) #[true, false, true, true, true, true, false, true, false, false, false, true, true, true, true, false, false, false, false, false, false, false, false, false, false, false, false, false, false, false, false, false, false, false] rfl rfl (by kernel_rfl) (fun _ _ _ h => h) (Or.inl ⟨by rfl, ?_⟩) ?_ ?_
          rotate_left
          · intro w'
            go_simp
            with_reducible rfl
          rotate_left
          · simp only [Act.put, List.setIfInBounds_toArray, List.set_cons_zero, List.set_cons_succ, i64_w, i32_w]
            rfl
          refine pure_ (i := 16) (N := some 60) (v := ?_) (a' := ?_) #[true, false, true, true, true, true, false, true, false, false, false, true, true, true, true, false, true, false, false, false, false, false, false, false, false, false, false, false, false, false, false, false, false, false] rfl rfl (by kernel_rfl) (fun _ _ _ h => h) (Or.inl ⟨by rfl, ?_⟩) ?_ ?_
          rotate_left
          · intro w'
            go_simp
            with_reducible rfl
          rotate_left
          · simp only [Act.put, List.setIfInBounds_toArray, List.set_cons_zero, List.set_cons_succ, i64_w, i32_w]
            rfl
          refine pure_ (i := 20) (N := some 64) (v := ?_) (a' := ?_) #[true, false, true, true, true, true, false, true, false, false, false, true, true, true, true, false, true, false, false, false, true, false, false, false, false, false, false, false, false, false, false, false, false, false] rfl rfl (by kernel_rfl) (fun _ _ _ h => h) (Or.inl ⟨by rfl, ?_⟩) ?_ ?_
          rotate_left
          · intro w'
            go_simp
            with_reducible rfl
          rotate_left
          · simp only [Act.put, List.setIfInBounds_toArray, List.set_cons_zero, List.set_cons_succ, i64_w, i32_w]
            rfl
          refine pure_ (i := 21) (N := some 65) (v := ?_) (a' := ?_) #[true, false, true, true, true, true, false, true, false, false, false, true, true, true, true, false, true, false, false, false, true, true, false, false, false, false, false, false, false, false, false, false, false, false] rfl rfl (by kernel_rfl) (fun _ _ _ h => h) (Or.inl ⟨by rfl, ?_⟩) ?_ ?_
          rotate_left
          · intro w'
            go_simp
            with_reducible rfl
          rotate_left
          · simp only [Act.put, List.setIfInBounds_toArray, List.set_cons_zero, List.set_cons_succ, i64_w, i32_w]
            rfl
          refine pure_ (i := 22) (N := some 66) (v := ?_) (a' := ?_) #[true, false, true, true, true, true, false, true, false, false, false, true, true, true, true, false, true, false, false, false, true, true, true, false, false, false, false, false, false, false, false, false, false, false] rfl rfl (by kernel_rfl) (fun _ _ _ h => h) (Or.inl ⟨by rfl, ?_⟩) ?_ ?_
          rotate_left
          · intro w'
            go_simp
            with_reducible rfl
          rotate_left
          · simp only [Act.put, List.setIfInBounds_toArray, List.set_cons_zero, List.set_cons_succ, i64_w, i32_w]
            rfl
          refine pure_ (i := 23) (N := some 67) (v := ?_) (a' := ?_) #[true, false, true, true, true, true, false, true, false, false, false, true, true, true, true, false, true, false, false, false, true, true, true, true, false, false, false, false, false, false, false, false, false, false] rfl rfl (by kernel_rfl) (fun _ _ _ h => h) (Or.inl ⟨by rfl, ?_⟩) ?_ ?_
          rotate_left
          · intro w'
            go_simp
            with_reducible rfl
          rotate_left
          · simp only [Act.put, List.setIfInBounds_toArray, List.set_cons_zero, List.set_cons_succ, i64_w, i32_w]
            rfl
          refine pure_ (i := 25) (N := some 69) (v := ?_) (a' := ?_) #[true, false, true, true, true, true, false, true, false, false, false, true, true, true, true, false, true, false, false, false, true, true, true, true, false, true, false, false, false, false, false, false, false, false] rfl rfl (by kernel_rfl) (fun _ _ _ h => h) (Or.inl ⟨by rfl, ?_⟩) ?_ ?_
          rotate_left
          · intro w'
            go_simp
            with_reducible rfl
          rotate_left
          · simp only [Act.put, List.setIfInBounds_toArray, List.set_cons_zero, List.set_cons_succ, i64_w, i32_w]
            rfl
          refine take_ (i := 1) (N := some 45) (v := ?_) (a' := ?_) #[true, true, true, true, true, true, false, true, false, false, false, true, true, true, true, false, true, false, false, false, true, true, true, true, false, true, false, false, false, false, false, false, false, false] rfl rfl (by kernel_rfl) (fun _ _ _ h => h) (Or.inl ⟨by rfl, ?_⟩) hHeld ?_ ?_
          rotate_left
          · rintro w' ⟨s0, s1, s2, s3, s4⟩
            go_simp
            with_reducible rfl
          rotate_left
          · simp only [Act.put, List.setIfInBounds_toArray, List.set_cons_zero, List.set_cons_succ, i64_w, i32_w]
            rfl
          refine take_ (i := 6) (N := some 50) (v := ?_) (a' := ?_) #[true, true, true, true, true, true, true, true, false, false, false, true, true, true, true, false, true, false, false, false, true, true, true, true, false, true, false, false, false, false, false, false, false, false] rfl rfl (by kernel_rfl) (fun _ _ _ h => h) (Or.inl ⟨by rfl, ?_⟩) hHeld ?_ ?_
          rotate_left
          · rintro w' ⟨s0, s1, s2, s3, s4⟩
            go_simp
            with_reducible rfl
          rotate_left
          · simp only [Act.put, List.setIfInBounds_toArray, List.set_cons_zero, List.set_cons_succ, i64_w, i32_w]
            rfl
          refine pure_ (i := 8) (N := some 52) (v := ?_) (a' := ?_) #[true, true, true, true, true, true, true, true, true, false, false, true, true, true, true, false, true, false, false, false, true, true, true, true, false, true, false, false, false, false, false, false, false, false] rfl rfl (by kernel_rfl) (fun _ _ _ h => h) (Or.inl ⟨by rfl, ?_⟩) ?_ ?_
          rotate_left
          · intro w'
            go_simp
            with_reducible rfl
          rotate_left
          · simp only [Act.put, List.setIfInBounds_toArray, List.set_cons_zero, List.set_cons_succ, i64_w, i32_w]
            rfl
          refine pure_ (i := 9) (N := some 53) (v := ?_) (a' := ?_) #[true, true, true, true, true, true, true, true, true, true, false, true, true, true, true, false, true, false, false, false, true, true, true, true, false, true, false, false, false, false, false, false, false, false] rfl rfl (by kernel_rfl) (fun _ _ _ h => h) (Or.inl ⟨by rfl, ?_⟩) ?_ ?_
          rotate_left
          · intro w'
            go_simp
            with_reducible rfl
          rotate_left
          · simp only [Act.put, List.setIfInBounds_toArray, List.set_cons_zero, List.set_cons_succ, i64_w, i32_w]
            rfl
          refine take_ (i := 10) (N := some 54) (v := ?_) (a' := ?_) #[true, true, true, true, true, true, true, true, true, true, true, true, true, true, true, false, true, false, false, false, true, true, true, true, false, true, false, false, false, false, false, false, false, false] rfl rfl (by kernel_rfl) (fun _ _ _ h => h) (Or.inl ⟨by rfl, ?_⟩) hHeld ?_ ?_
          rotate_left
          · rintro w' ⟨s0, s1, s2, s3, s4⟩
            go_simp
            with_reducible rfl
          rotate_left
          · simp only [Act.put, List.setIfInBounds_toArray, List.set_cons_zero, List.set_cons_succ, i64_w, i32_w]
            rfl
          refine take_ (i := 15) (N := some 59) (v := ?_) (a' := ?_) #[true, true, true, true, true, true, true, true, true, true, true, true, true, true, true, true, true, false, false, false, true, true, true, true, false, true, false, false, false, false, false, false, false, false] rfl rfl (by kernel_rfl) (fun _ _ _ h => h) (Or.inl ⟨by rfl, ?_⟩) hHeld ?_ ?_
          rotate_left
          · rintro w' ⟨s0, s1, s2, s3, s4⟩
            go_simp
            with_reducible rfl
          rotate_left
          · simp only [Act.put, List.setIfInBounds_toArray, List.set_cons_zero, List.set_cons_succ, i64_w, i32_w]
            rfl
          refine pure_ (i := 17) (N := some 61) (v := ?_) (a' := ?_) #[true, true, true, true, true, true, true, true, true, true, true, true, true, true, true, true, true, true, false, false, true, true, true, true, false, true, false, false, false, false, false, false, false, false] rfl rfl (by kernel_rfl) (fun _ _ _ h => h) (Or.inl ⟨by rfl, ?_⟩) ?_ ?_
          rotate_left
          · intro w'
            go_simp
            with_reducible rfl
          rotate_left
          · simp only [Act.put, List.setIfInBounds_toArray, List.set_cons_zero, List.set_cons_succ, i64_w, i32_w]
            rfl
          refine pure_ (i := 18) (N := some 62) (v := ?_) (a' := ?_) #[true, true, true, true, true, true, true, true, true, true, true, true, true, true, true, true, true, true, true, false, true, true, true, true, false, true, false, false, false, false, false, false, false, false] rfl rfl (by kernel_rfl) (fun _ _ _ h => h) (Or.inl ⟨by rfl, ?_⟩) ?_ ?_
          rotate_left
          · intro w'
            go_simp
            with_reducible rfl
          rotate_left
          · simp only [Act.put, List.setIfInBounds_toArray, List.set_cons_zero, List.set_cons_succ, i64_w, i32_w]
            rfl
          refine take_ (i := 19) (N := some 63) (v := ?_) (a' := ?_) #[true, true, true, true, true, true, true, true, true, true, true, true, true, true, true, true, true, true, true, true, true, true, true, true, false, true, false, false, false, false, false, false, false, false] rfl rfl (by kernel_rfl) (fun _ _ _ h => h) (Or.inl ⟨by rfl, ?_⟩) hHeld ?_ ?_
          rotate_left
          · rintro w' ⟨s0, s1, s2, s3, s4⟩
            go_simp
            with_reducible rfl
          rotate_left
          · simp only [Act.put, List.setIfInBounds_toArray, List.set_cons_zero, List.set_cons_succ, i64_w, i32_w]
            rfl
          refine take_ (i := 24) (N := some 68) (v := ?_) (a' := ?_) #[true, true, true, true, true, true, true, true, true, true, true, true, true, true, true, true, true, true, true, true, true, true, true, true, true, true, false, false, false, false, false, false, false, false] rfl rfl (by kernel_rfl) (fun _ _ _ h => h) (Or.inl ⟨by rfl, ?_⟩) hHeld ?_ ?_
          rotate_left
          · rintro w' ⟨s0, s1, s2, s3, s4⟩
            go_simp
            with_reducible rfl
          rotate_left
          · simp only [Act.put, List.setIfInBounds_toArray, List.set_cons_zero, List.set_cons_succ, i64_w, i32_w]
            rfl
          refine pure_ (i := 26) (N := some 70) (v := ?_) (a' := ?_) #[true, true, true, true, true, true, true, true, true, true, true, true, true, true, true, true, true, true, true, true, true, true, true, true, true, true, true, false, false, false, false, false, false, false] rfl rfl (by kernel_rfl) (fun _ _ _ h => h) (Or.inl ⟨by rfl, ?_⟩) ?_ ?_
          rotate_left
          · intro w'
            go_simp
            with_reducible rfl
          rotate_left
          · simp only [Act.put, List.setIfInBounds_toArray, List.set_cons_zero, List.set_cons_succ, i64_w, i32_w]
            rfl
          refine pure_ (i := 27) (N := some 71) (v := ?_) (a' := ?_) #[true, true, true, true, true, true, true, true, true, true, true, true, true, true, true, true, true, true, true, true, true, true, true, true, true, true, true, true, false, false, false, false, false, false] rfl rfl (by kernel_rfl) (fun _ _ _ h => h) (Or.inl ⟨by rfl, ?_⟩) ?_ ?_
          rotate_left
          · intro w'
            go_simp
            with_reducible rfl
          rotate_left
          · simp only [Act.put, List.setIfInBounds_toArray, List.set_cons_zero, List.set_cons_succ, i64_w, i32_w]
            rfl
          refine take_ (i := 28) (N := some 72) (v := ?_) (a' := ?_) #[true, true, true, true, true, true, true, true, true, true, true, true, true, true, true, true, true, true, true, true, true, true, true, true, true, true, true, true, true, false, false, false, false, false] rfl rfl (by kernel_rfl) (fun _ _ _ h => h) (Or.inl ⟨by rfl, ?_⟩) hHeld ?_ ?_
          rotate_left
          · rintro w' ⟨s0, s1, s2, s3, s4⟩
            go_simp
            with_reducible rfl
          rotate_left
          · simp only [Act.put, List.setIfInBounds_toArray, List.set_cons_zero, List.set_cons_succ, i64_w, i32_w]
            rfl
          refine pure_ (i := 29) (N := some 73) (v := ?_) (a' := ?_) #[true, true, true, true, true, true, true, true, true, true, true, true, true, true, true, true, true, true, true, true, true, true, true, true, true, true, true, true, true, true, false, false, false, false] rfl rfl (by kernel_rfl) (fun _ _ _ h => h) (Or.inl ⟨by rfl, ?_⟩) ?_ ?_
          rotate_left
          · intro w'
            go_simp
            with_reducible rfl
          rotate_left
          · simp only [Act.put, List.setIfInBounds_toArray, List.set_cons_zero, List.set_cons_succ, i64_w, i32_w]
            rfl
          refine one_ (i := 30) (N := some 74) #[true, true, true, true, true, true, true, true, true, true, true, true, true, true, true, true, true, true, true, true, true, true, true, true, true, true, true, true, true, true, true, false, false, false] rfl rfl (by kernel_rfl) (by decide) (fun K hK => ?_)
          refine value_ (w1 := ?_) (v := ?_) (by rfl) rfl ?_ ?_
          rotate_left 2
          · go_simp
            constructor
            · rfl
            · rfl
          refine hK.out _ _ ⟨(keepS _ _ (grefl _ _)).1.1, (keepS _ _ (grefl _ _)).1.2.1, (keepS _ _ (grefl _ _)).1.2.2.1, (keepS _ _ (grefl _ _)).1.2.2.2.1, (keepS _ _ (grefl _ _)).1.2.2.2.2⟩ (fun hHeld => ?_)
          clear hK K
          refine norm_ (a' := ?_) ?_ ?_
          rotate_left
          · show Act.put _ (some 74) _ = _
            simp only [Act.put, List.setIfInBounds_toArray, List.set_cons_zero, List.set_cons_succ, i64_w, i32_w]
            rfl
          refine one_ (i := 31) (N := some 75) #[true, true, true, true, true, true, true, true, true, true, true, true, true, true, true, true, true, true, true, true, true, true, true, true, true, true, true, true, true, true, true, true, false, false] rfl rfl (by kernel_rfl) (by decide) (fun K hK => ?_)
          refine step_append_lies _ rfl _ _ 47 rfl w5.heap.size 52 i0 (.agg #[.int .u8 0, .int .u8 0, .int .i64 0]) 3 16 Try.underlying47 hi hz0 hz1 hz2 rfl (by decide) v1 k _ rfl (World.ownsRow.alloc (World.ownsRow.drew hrow) _) ⟨wr.heap.size, 0, none⟩ 1 1 (encEdge ⟨x.f0, x.f1, x.f2⟩) rfl rfl (encEdge_new ⟨x.f0, x.f1, x.f2⟩ wr.drew) (encEdge_one _) (by decide) hb1 hb2 (by simp; omega) _ rfl ?_
          intro g cap w1 hown1 hgrow hat hlt1
          have hfz := (keepS _ _ hgrow).2
          have hfc := (keepS _ _ hgrow).1.1
          refine hK.out _ _ ⟨(keepS _ _ hgrow).1.1, (keepS _ _ hgrow).1.2.1, (keepS _ _ hgrow).1.2.2.1, (keepS _ _ hgrow).1.2.2.2.1, (keepS _ _ hgrow).1.2.2.2.2⟩ (fun hHeld => ?_)
          clear hK K
          refine norm_ (a' := ?_) ?_ ?_
          rotate_left
          · show Act.put _ (some 75) _ = _
            simp only [Act.put, List.setIfInBounds_toArray, List.set_cons_zero, List.set_cons_succ, i64_w, i32_w]
            rfl
          refine pure_ (i := 32) (N := some 76) (v := ?_) (a' := ?_) #[true, true, true, true, true, true, true, true, true, true, true, true, true, true, true, true, true, true, true, true, true, true, true, true, true, true, true, true, true, true, true, true, true, false] rfl rfl (by kernel_rfl) (fun _ _ _ h => h) (Or.inl ⟨by rfl, ?_⟩) ?_ ?_
          rotate_left
          · intro w'
            go_simp
            with_reducible rfl
          rotate_left
          · simp only [Act.put, List.setIfInBounds_toArray, List.set_cons_zero, List.set_cons_succ, i64_w, i32_w]
            rfl
          refine last_ (i := 33) (N := none) #[true, true, true, true, true, true, true, true, true, true, true, true, true, true, true, true, true, true, true, true, true, true, true, true, true, true, true, true, true, true, true, true, true, true] rfl rfl (by kernel_rfl) (by decide) (fun K hK => ?_)
          refine skip_ (w1 := ?_) (by rfl) rfl ?_ ?_
          rotate_left
          · go_simp
            rfl
          refine hK.out _ _ ?_
          clear hK K
          refine done_ (by kernel_rfl) ?_
          go_wp2_with fail
          all_goals
            have hgw := (grown_of_below (below_drew1 (RowKit.Below.refl wr.heap.size wr)) v1.ownBlock).trans ((World.grownBy_alloc wr.drew _ v1.ownBlock).trans hgrow)
            have hB1 := hb.kept hgw hnB
            have hB2 := hB1.set 1 (.slice (some ⟨g, 0, none⟩) (k + 1) cap)
            have hrow2 := hown1.kept (grown_set w1 ⟨Bn, 1, none⟩ (.slice (some ⟨g, 0, none⟩) (k + 1) cap)) (.inr (hB1.not_row (by decide) hown1).symm)
            have hgs := (HGq.out.andThen hgw (fun j hj => .inl (own_base hrow j hj))).trans (grown_set w1 ⟨Bn, 1, none⟩ (.slice (some ⟨g, 0, none⟩) (k + 1) cap))
            exact ⟨⟨k + 1, _, by omega, by go_num, hB2, by rw [HTS.out, List.map_append, List.flatMap_append]; simpa [toEdge] using hrow2, ⟨hgs⟩⟩, by simp [intOf]; omega⟩
        · obtain rfl : k = y1.length := by omega
          have b0 := hb.cell 0
          have b2 := hb.cell 2
          have b3 := hb.cell 3
          have b4 := hb.cell 4
          simp only [List.getElem?_toArray, List.getElem?_cons_zero, List.getElem?_cons_succ] at b0 b2 b3 b4
          rw [List.take_length] at hrow
          obtain ⟨i1, hi1', hy0, hy1, hy2⟩ := info_parts infoNode
          have hownR := hown.kept HGall.out (by cases u3.ownBlock <;> simp)
          have hone : v1.oneCell' = true := by rcases hrow.2 with ⟨rfl, _⟩ | ⟨g, cap, cur, rfl, _⟩ <;> rfl
          have hones : ∀ u ∈ [Value.int .i64 y0, v1, .slice A2 y2.length c2, .int .i64 y3, .int .i64 y4], u.oneCell' = true := by
            intro u hu
            simp only [List.mem_cons, List.not_mem_nil, or_false] at hu
            rcases hu with rfl | rfl | rfl | rfl | rfl
            · rfl
            · exact hone
            · rfl
            · rfl
            · rfl
          have hnews := World.news_of_block (cs := #[.int .i64 y0, v1, .slice A2 y2.length c2, .int .i64 y3, .int .i64 y4]) (t := 49) (fr := (0, 0)) (World.alloc_heap_new wr _)
          have hb3 : i + 1 ≤ maxLen := by unfold maxLen; omega
          have hb4 : (i + 1) * 72 ≤ 140737488355328 := by omega
          have hwq := HGall.out.size
          go_wp2_with (at_builtin; refine wpList_append_own _ rfl _ _ 28 rfl w.heap.size 49 i1 (.agg #[.int .i64 0, .slice none 0 0, .slice none 0 0, .int .i64 0, .int .i64 0]) 5 72 Try.underlying28 hi1' hy0 hy1 hy2 rfl (by decide) _ _ _ rfl (hownR.alloc _) ⟨wr.heap.size, 0, none⟩ 1 1 [.int .i64 y0, v1, .slice A2 y2.length c2, .int .i64 y3, .int .i64 y4] rfl rfl hnews hones hb3 hb4 (by simp; omega) ?_; intro v' w2 hown2 hgrow2 _)
          have hgT := (grown_but HGall.out u3.ownBlock).trans ((World.grownBy_alloc wr (.cells #[.int .i64 y0, v1, .slice A2 y2.length c2, .int .i64 y3, .int .i64 y4] 49) u3.ownBlock).trans hgrow2)
          have hgU := (World.grownBy_alloc wr (.cells #[.int .i64 y0, v1, .slice A2 y2.length c2, .int .i64 y3, .int .i64 y4] 49) u3.ownBlock).trans hgrow2
          have htyp : ∀ b, u3.ownBlock = some b → ∃ cells, wr.heap[b]? = some (.cells cells 49 (0, 0)) := fun b hb => own_typed hownR b hb
          have HN2 : ∀ (j : Nat) x' c', (madeL l)[j]? = some x' → (css ++ [[Value.int .i64 y0, v1, .slice A2 y2.length c2, .int .i64 y3, .int .i64 y4]])[j]? = some c' → NodeIn w w2 x' c' := by
            intro j x' c' hx' hc'
            by_cases hj : j < css.length
            · rw [List.getElem?_append_left hj] at hc'
              exact ((HN.out j x' c' hx' hc').kept HGall.out (fun b hb => by cases hb)).kept hgU htyp
            · obtain rfl : j = css.length := by
                have := (List.getElem?_eq_some_iff.1 hc').1
                simp at this; omega
              rw [hcl, HNODE.out] at hx'
              simp at hc' hx'
              subst hc' hx'
              have hr1 := own_less hrow (show w.heap.size ≤ w5.heap.size by omega)
              have hr2 : w2.ownsRow w.heap.size 52 3 v1 y1.length ((y1.map toEdge).flatMap encEdge) := hr1.kept hgU (by
                cases hu : u3.ownBlock with
                | none => cases v1.ownBlock <;> simp
                | some b =>
                  obtain ⟨cells, hb⟩ := htyp b hu
                  exact .inr (Blk.not_row (W := wr) (t := 49) (cs := cells) hb (by decide) hr1).symm)
              have hv : ∃ A1' c1', v1 = .slice A1' y1.length c1' ∧ y1.length ≤ c1' := by
                rcases hrow.2 with ⟨rfl, hn⟩ | ⟨g, cap, cur, rfl, _, _, hcap, _⟩
                · exact ⟨none, 0, by rw [hn], by omega⟩
                · exact ⟨_, _, rfl, hcap⟩
              obtain ⟨A1', c1', rfl, hcap⟩ := hv
              refine ⟨A1', c1', A2, c2, ?_, ?_, hl2, ?_, HG2.out⟩
              · simp [toNode]
              · simpa [toNode] using hcap
              · simpa [toNode] using hr2
          exact ⟨⟨i + 1, css ++ [[.int .i64 y0, v1, .slice A2 y2.length c2, .int .i64 y3, .int .i64 y4]], by omega, by go_num, by simp [hcl], by rw [List.flatten_append]; simpa using hown2, ⟨HN2⟩, ⟨(HB.out.grown hgT HB.out.size (own_base hown))⟩⟩, by simp [intOf]; omega⟩
    · obtain rfl : i = l.length := by omega
      go_wp2_with fail
      go_ret
      exact ⟨_, css, rfl, hcl, hown, HN.out, HB.out⟩

theorem made_calls (l : List S35) (A : Option Addr) (c : Nat) (w : World) (hC : Kd.C k35 w A l.length l) (hl : l.length ≤ 1000000) (hle : ∀ x ∈ l, x.f1.length ≤ 1000000) :
    Calls Try.prog 13 #[.slice A l.length c] w fun e w' => ∃ A' c', e = .returned (.slice A' l.length c') ∧ kNode.C w' A' l.length (madeL l) ∧ RowKit.Below w.heap.size w w' := by
  refine (made_own l A c w hC hl hle).mono ?_
  rintro e w' ⟨v, css, rfl, hcl, hown, hN, hB⟩
  have hml : (madeL l).length = l.length := by simp [madeL]
  obtain ⟨A', c', rfl, _, hC'⟩ := C_of_own kNode (w := w') (xs := madeL l) (css := css) (by rw [hml]; exact hown) (by rw [hml]; exact hcl) (fun j x c hx hc => (hN j x c hx hc).K hB)
  rw [hml] at hC'
  exact ⟨A', c', by rw [hml], hC', hB⟩

end Go.Proofs.Ytcbflajacioinaa
