/- FindMarks: the walk. -/
import Derived.BigQuiet
import Derived.Deep.RegionHeld3
import Derived.Outline
import Derived.Deep.QuietTactic
import Derived.Test.YtcbflajacioinaaAwake17
import Derived.Test.YtcbflajacioinaaFindFirst
import Derived.Test.YtcbflajacioinaaNodesAt
import Derived.Test.YtcbflajacioinaaMarksP
namespace Go.Proofs.Ytcbflajacioinaa
open Go.RowKit Go.Shelf Go.Proofs.YtcbflajacioinaaW.PrintWords Go.Proofs.YtcbflajacioinaaW.PrintLast Go.Proofs.Ytcbflajacioinaa.P

theorem NodesAt.append {w0 w w' : World} {v v' : Value} {l ys : List Node} {css cys : List (List Value)} (h : NodesAt w0 w v l css) (hgU : w.grownBy w' v.ownBlock) (hown : w'.ownsRow w0.heap.size 49 5 v' (l.length + ys.length) (css.flatten ++ cys.flatten)) (hl : cys.length = ys.length)
    (hx : ∀ (j : Nat) x c, ys[j]? = some x → cys[j]? = some c → NodeIn w0 w' x c) : NodesAt w0 w' v' (l ++ ys) (css ++ cys) := by
  refine ⟨by simp [h.len, hl], by rw [List.length_append, List.flatten_append]; exact hown, fun j y c hy hc => ?_, h.below.grown hgU h.below.size (own_base h.own)⟩
  by_cases hj : j < l.length
  · rw [List.getElem?_append_left hj] at hy
    rw [List.getElem?_append_left (by rw [h.len]; exact hj)] at hc
    exact (h.each j y c hy hc).kept hgU (fun b hb => own_typed h.own b hb)
  · rw [List.getElem?_append_right (by omega)] at hy
    rw [List.getElem?_append_right (by rw [h.len]; omega), h.len] at hc
    exact hx _ y c hy hc
/-- A node whose one edge lies in a row of its own. -/
theorem NodeIn.one {w0 w : World} (x : Node) (e : Edge) (B : Nat) (h1 : x.f1 = [e]) (h2 : x.f2 = []) (h : w.ownsRow w0.heap.size 52 3 (.slice (some ⟨B, 0, none⟩) 1 1) 1 (encEdge e)) : NodeIn w0 w x [.int .i64 x.f0, .slice (some ⟨B, 0, none⟩) 1 1, .slice none 0 0, .int .i64 x.f3, .int .i64 x.f4] := by
  obtain ⟨y0, y1, y2, y3, y4⟩ := x
  dsimp only at h1 h2
  subst h1 h2
  exact ⟨some ⟨B, 0, none⟩, 1, none, 0, rfl, Nat.le_refl _, Nat.le_refl _, by simpa using h, rfl, by show 0 ≤ 9223372036854775807; omega, fun h => absurd h (by show ¬ 0 < 0; omega)⟩

set_option maxRecDepth 100000 in
set_option maxHeartbeats 1000000 in
theorem marks_walk (tags : List Int) (c : Int) (hc : 0 ≤ c ∧ c ≤ 255) (A : Option Addr) (cap : Nat) (_hlc : tags.length ≤ cap) (w : World) (hC : (Kd.int .i64).C w A tags.length tags) :
    Calls Try.prog 6 #[.slice A tags.length cap, .int .u8 c] w fun e w' => e = .returned (.bool true) ∧ RowKit.Below w.heap.size w w' := by
  have hlen : tags.length ≤ 9223372036854775807 := hC.2.1
  by_cases hl : 100 < tags.length
  · have d0 : decide (100 < (tags.length : Int)) = true := decide_eq_true (by omega)
    go_enter Try.func6, Try.ntmps6
    go_wp2_with (go_at_call 10; refine (awake_calls _).mono ?_; rintro e w2 ⟨rfl, hb2⟩)
    go_ret
    exact ⟨rfl, hb2⟩
  · have d0 : decide (100 < (tags.length : Int)) = false := decide_eq_false (by omega)
    obtain ⟨i1, hi1', hy0, hy1, hy2⟩ := info_parts infoNode
    have hconv : ∀ W : World, (convert 53 9 (.slice (some ⟨W.heap.size, 0, none⟩) 1 1)).run Try.prog (W.alloc (.cells #[.int .u8 c] 5)) = .ok (.string (strOfNums [c])) (W.alloc (.cells #[.int .u8 c] 5)) := fun W => own_string (xs := [c]) Try.underlying53 Try.underlying5 Try.underlying9 (World.ownsRow_lit (base := W.heap.size) (e := 5) (size := 1) W #[.int .u8 c] 1 (Nat.le_refl _) (by decide) rfl)
    go_enter Try.func6, Try.ntmps6
    go_wp2_with (go_at_call 10; refine (awake_calls _).mono ?_; rintro e w2 ⟨rfl, hb2⟩)
    go_loopw [6, 7] (fun mv iv wr => ∃ (i : Nat) (css : List (List Value)), i ≤ tags.length ∧ iv = .int .i64 i ∧ NodesAt w wr mv (marksN tags i) css) (fun _ iv _ => tags.length - (intOf iv).toNat)
    case atStart => exact ⟨0, [], Nat.zero_le _, rfl, NodesAt.nil _ _ hb2⟩
    case round =>
      obtain ⟨i, css, hi', rfl, hN⟩ := hrel
      have hrw := hN.below.size
      by_cases hlt : i < tags.length
      · obtain ⟨ad, hA, e0⟩ := at_int (Kd.C_below hC hN.below) i hlt
        subst hA
        have hown := hN.own
        rw [marksN_len] at hown
        have HN := Aside0.mk hN
        generalize ht : tags.getD i 0 = t at e0
        have HT := Aside0.mk (show marksN tags (i + 1) = marksN tags i ++ [markN t i] by rw [marksN_snoc, ht])
        clear hN ht
        have hi0 : (0 : Int) ≤ i := by omega
        have hi1 : (i : Int) < tags.length := by omega
        have hwr : IntKind.i64.wrap ((i : Int) + 1) = (i : Int) + 1 := IntWalk.i64_in _ (by omega)
        have hb3 : i + 1 ≤ maxLen := by unfold maxLen; omega
        have hb4 : (i + 1) * 72 ≤ 140737488355328 := by omega
        go_wp2_with (at_builtin; refine wpList_append_own _ rfl _ _ 28 rfl w.heap.size 49 i1 (.agg #[.int .i64 0, .slice none 0 0, .slice none 0 0, .int .i64 0, .int .i64 0]) 5 72 Try.underlying28 hi1' hy0 hy1 hy2 rfl (by decide) _ _ _ rfl (hown.alloc _) ⟨wr.heap.size, 0, none⟩ 1 1 [.int .i64 3, .slice none 0 0, .slice none 0 0, .int .i64 t, .int .i64 ((i : Int) + 1)] rfl rfl (World.news_of_block (cs := #[.int .i64 3, .slice none 0 0, .slice none 0 0, .int .i64 t, .int .i64 ((i : Int) + 1)]) (t := 49) (fr := (0, 0)) (World.alloc_heap_new wr _)) (by simp [Value.oneCell']) hb3 hb4 (by simp; omega) ?_; intro v' w1 hown1 hgrow _)
        have hN2 := HN.out.snoc (x := markN t i) hgrow (by rw [marksN_len]; exact hown1) (NodeIn.bare w w1 (markN t i) rfl rfl)
        rw [← HT.out] at hN2
        exact ⟨⟨i + 1, _, by omega, by go_num, hN2⟩, by simp [intOf]; omega⟩
      · obtain rfl : i = tags.length := by omega
        have hown := hN.own
        rw [marksN_len] at hown
        have HN := Aside0.mk hN
        clear hN
        have hb3 : tags.length + 2 ≤ maxLen := by unfold maxLen; omega
        have hb4 : (tags.length + 2) * 72 ≤ 140737488355328 := by omega
        have hwr : IntKind.i64.wrap ((tags.length : Int) + 1) = (tags.length : Int) + 1 := IntWalk.i64_in _ (by omega)
        have hne : (Value.slice (some ⟨wr.heap.size, 0, none⟩) 1 1).ownBlock = none ∨ (Value.slice (some ⟨wr.heap.size, 0, none⟩) 1 1).ownBlock ≠ u6.ownBlock := by
          cases hu : u6.ownBlock with
          | none => exact .inr (by simp [Value.ownBlock])
          | some b =>
            obtain ⟨cells, hb⟩ := own_typed hown b hu
            have hlt' := blk_lt hb
            exact .inr (fun e => by simp [Value.ownBlock] at e; omega)
        have hedge := World.ownsRow_lit (base := w.heap.size) (e := 52) (size := 3) wr #[.int .u8 c, .int .u8 c, .int .i64 ((tags.length : Int) + 1)] 1 hrw (by decide) rfl
        have hnews := World.news_of_block (cs := #[.int .i64 1, .slice (some ⟨wr.heap.size, 0, none⟩) 1 1, .slice none 0 0, .int .i64 0, .int .i64 0, .int .i64 4, .slice none 0 0, .slice none 0 0, .int .i64 0, .int .i64 0]) (t := 49) (fr := (0, 0)) (World.alloc_heap_new (wr.alloc (.cells #[.int .u8 c, .int .u8 c, .int .i64 ((tags.length : Int) + 1)] 52)) _)
        rw [World.size_alloc] at hnews
        go_wp2_with (at_builtin; refine wpList_append_own _ rfl _ _ 28 rfl w.heap.size 49 i1 (.agg #[.int .i64 0, .slice none 0 0, .slice none 0 0, .int .i64 0, .int .i64 0]) 5 72 Try.underlying28 hi1' hy0 hy1 hy2 rfl (by decide) _ _ _ rfl ((hown.alloc _).alloc _) ⟨wr.heap.size + 1, 0, none⟩ 2 2 [.int .i64 1, .slice (some ⟨wr.heap.size, 0, none⟩) 1 1, .slice none 0 0, .int .i64 0, .int .i64 0, .int .i64 4, .slice none 0 0, .slice none 0 0, .int .i64 0, .int .i64 0] rfl rfl hnews (by simp [Value.oneCell']) hb3 hb4 (by simp; omega) ?_; intro v' w1 hown1 hgrow _; have hgU := (World.grownBy_alloc wr _ _).trans ((World.grownBy_alloc _ _ _).trans hgrow); have hedge1 := (hedge.alloc _).kept hgrow hne)
        have hN2 := HN.out.append (v' := v') (w' := w1) (ys := [eatN c tags.length, endN]) (cys := [[.int .i64 1, .slice (some ⟨wr.heap.size, 0, none⟩) 1 1, .slice none 0 0, .int .i64 0, .int .i64 0], [.int .i64 4, .slice none 0 0, .slice none 0 0, .int .i64 0, .int .i64 0]]) hgU (by rw [marksN_len]; exact hown1) rfl (fun j x c' hx hc' => by
          match j, hx, hc' with
          | 0, hx, hc' =>
            obtain rfl : eatN c tags.length = x := by simpa using hx
            obtain rfl : [.int .i64 1, .slice (some ⟨wr.heap.size, 0, none⟩) 1 1, .slice none 0 0, .int .i64 0, .int .i64 0] = c' := by simpa using hc'
            exact NodeIn.one (eatN c tags.length) ⟨c, c, (tags.length : Int) + 1⟩ wr.heap.size rfl rfl hedge1
          | 1, hx, hc' =>
            obtain rfl : endN = x := by simpa using hx
            obtain rfl : [.int .i64 4, .slice none 0 0, .slice none 0 0, .int .i64 0, .int .i64 0] = c' := by simpa using hc'
            exact NodeIn.bare w w1 endN rfl rfl)
        have hN2 : NodesAt w w1 v' (chainM tags c) (css ++ [[.int .i64 1, .slice (some ⟨wr.heap.size, 0, none⟩) 1 1, .slice none 0 0, .int .i64 0, .int .i64 0], [.int .i64 4, .slice none 0 0, .slice none 0 0, .int .i64 0, .int .i64 0]]) := hN2
        have HB1 := Aside0.mk hN2.below
        obtain ⟨A1, c1, hv1, hC1⟩ := hN2.C
        rw [chainM_len] at hv1 hC1
        subst hv1
        have hs : (strOfNums [c]).size = 1 := rfl
        have hb : bt (strOfNums [c]) 0 = c := by
          unfold bt
          rw [dif_pos (show (0 : Int).toNat < (strOfNums [c]).size by rw [hs]; decide)]
          show ((UInt8.ofNat c.toNat).toNat : Int) = c
          rw [UInt8.toNat_ofNat']
          omega
        have hl' : tags.length ≤ 100 := by omega
        have hok : ∀ x ∈ chainM tags c, NodeOk x := by
          intro x hx
          unfold chainM marksN at hx
          rcases List.mem_append.1 hx with hx | hx
          · obtain ⟨i, _, rfl⟩ := List.mem_map.1 hx
            exact ⟨fun e he => (by cases he), by simp [markN], by simp [markN]⟩
          · simp only [List.mem_cons, List.not_mem_nil, or_false] at hx
            rcases hx with rfl | rfl
            · exact ⟨fun e he => by obtain rfl : e = ⟨c, c, (tags.length : Int) + 1⟩ := by simpa [eatN] using he
                                    exact hc, by simp [eatN], by simp [eatN]⟩
            · exact ⟨fun e he => (by cases he), by simp [endN], by simp [endN]⟩
        have hm0 := chain_many tags c hl' (strOfNums [c]) hs hb tags.length 0 (by omega)
        have hn0 := chain_none tags c hl' ByteArray.empty rfl tags.length 0 (by omega)
        have hw0 := chain_way tags c hl' (strOfNums [c]) hs hb tags.length 0 (by omega)
        simp only [List.drop_zero, Int.natCast_zero] at hm0 hn0 hw0
        have hmay := chain_may tags c hl'
        have hsz : ∀ n : Nat, n ≤ 1 → (chainM tags c).length * (n + 1) < maxLen := fun n hn => by
          rw [chainM_len]
          have : (tags.length + 2) * (n + 1) ≤ 102 * 2 := Nat.mul_le_mul (by omega) (by omega)
          unfold maxLen; omega
        have hmu : muP (chainM tags c) (strOfNums [c]) ⟨0, 0⟩ ≤ 1000000000 := by unfold muP; rw [chainM_len, hs]; simp; omega
        have R1 := Aside0.mk (fun (W : World) (h : kNode.C W A1 (chainM tags c).length (chainM tags c)) => first_good (chainM tags c) (strOfNums [c]) A1 c1 hok (by rw [hs]; omega) (hsz _ (by rw [hs]; omega)) hmu ⟨hmay, Int.le_refl _, by rw [hm0]; decide⟩ W h)
        have R2 := Aside0.mk (fun (W : World) (h : kNode.C W A1 (chainM tags c).length (chainM tags c)) => findMany_calls (chainM tags c) (strOfNums [c]) A1 c1 9 hok (by rw [hs]; omega) (hsz _ (by rw [hs]; omega)) W h)
        have R3 := Aside0.mk (fun (W : World) (h : kNode.C W A1 (chainM tags c).length (chainM tags c)) => findMany_calls (chainM tags c) ⟨#[]⟩ A1 c1 9 hok (by decide) (hsz 0 (by omega)) W h)
        have e2 : manyOut (chainM tags c) (strOfNums [c]) 9 = 1 := by unfold manyOut; rw [if_pos ⟨hmay, by decide⟩, hm0]; rfl
        have e3 : manyOut (chainM tags c) ⟨#[]⟩ 9 = 0 := by unfold manyOut; rw [if_pos ⟨hmay, by decide⟩]; exact (congrArg (min 9) hn0).trans rfl
        rw [e2] at R2
        rw [e3] at R3
        rw [hw0] at R1
        rw [chainM_len] at R1 R2 R3
        have HC1 := Aside0.mk (Kd.C_below hC1 (below_alloc (RowKit.Below.refl w1.heap.size w1) (.cells #[.int .u8 c] 5)))
        have HB2 := Aside0.mk (HB1.out.alloc HB1.out.size (.cells #[.int .u8 c] 5))
        have HT := Aside0.mk (Kd.C_below hC HB2.out)
        clear hC1 hm0 hn0 hw0 e2 e3 hN2 hown1 hgrow hgU hedge1 HN hok hmay hsz hmu HB1
        refine (R1.out _ HC1.out).mono ?_
        rintro e w3 ⟨v3, rfl, hown3, hb3'⟩
        obtain ⟨A3, c3, hv3, hh3⟩ := own_hits hown3
        rw [List.length_map] at hv3 hh3
        subst hv3
        have HH3 := Aside0.mk hh3
        have HC3 := Aside0.mk (Kd.C_below HC1.out hb3')
        have HT3 := Aside0.mk (Kd.C_below HT.out hb3')
        have HB3 := Aside0.mk (HB2.out.trans (hb3'.mono HB2.out.size))
        clear hh3 hown3 hb3' HC1 HT HB2 R1
        go_wp2_with fail
        go_loopw [12] (fun iv wq => ∃ i : Nat, i ≤ tags.length ∧ iv = .int .i64 i ∧ Aside0 (RowKit.Below w3.heap.size w3 wq)) (fun iv _ => tags.length - (intOf iv).toNat)
        case atStart => exact ⟨0, Nat.zero_le _, rfl, ⟨RowKit.Below.refl _ _⟩⟩
        case round =>
          obtain ⟨i, hi, rfl, HBq⟩ := hrel
          by_cases hit : i < tags.length
          · obtain ⟨ad, hA3, e0, e1⟩ := HH3.out i hit
            obtain ⟨at_, hA, t0⟩ := at_int HT3.out i hit
            have hge : ((tags.map (fun t => (⟨t, 0⟩ : Hit))).getD i zHit) = ⟨tags.getD i 0, 0⟩ := by
              rw [List.getD_eq_getElem?_getD, List.getElem?_map, List.getElem?_eq_getElem hit, List.getD_eq_getElem?_getD, List.getElem?_eq_getElem hit]
              rfl
            rw [hge] at e0 e1
            dsimp only at e0 e1
            replace e0 := (HBq.out.cell (World.block_lt_of_cell? _ _ e0)).trans e0
            replace e1 := (HBq.out.cell (World.block_lt_of_cell? _ _ e1)).trans e1
            replace t0 := (HBq.out.cell (World.block_lt_of_cell? _ _ t0)).trans t0
            generalize tags.getD i 0 = t at e0 t0
            subst hA3 hA
            have hi0 : (0 : Int) ≤ i := by omega
            have hi1 : (i : Int) < tags.length := by omega
            have HJ := Aside0.mk (show i + 1 ≤ tags.length by omega)
            clear hge
            go_wp2_with fail
            go_quiet (fail)
            go_wp2_with fail
            exact ⟨⟨i + 1, HJ.out, by go_num, ⟨pw_below_drewN HBq.out _⟩⟩, by have := HJ.out; simp [intOf]; omega⟩
          · obtain rfl : i = tags.length := by omega
            have HC4 := Aside0.mk (Kd.C_below HC3.out HBq.out)
            have HB4 := Aside0.mk (HB3.out.trans (HBq.out.mono HB3.out.size))
            go_wp2_with fail
            refine (R2.out _ HC4.out).mono ?_
            rintro e w5 ⟨rfl, hb5⟩
            have HC5 := Aside0.mk (Kd.C_below HC4.out hb5)
            have HB5 := Aside0.mk (HB4.out.trans (hb5.mono HB4.out.size))
            clear hb5 HC4 HB4
            go_wp2_with fail
            refine (R3.out _ HC5.out).mono ?_
            rintro e w6 ⟨rfl, hb6⟩
            have HB6 := Aside0.mk (HB5.out.trans (hb6.mono HB5.out.size))
            clear hb6 HC5 HB5
            go_wp2_with fail
            go_ret
            exact ⟨rfl, HB6.out⟩

end Go.Proofs.Ytcbflajacioinaa
