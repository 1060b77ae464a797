/- FindNobody: the walk. -/
import Derived.BigQuiet
import Derived.Deep.RegionHeld3
import Derived.Outline
import Derived.Deep.QuietTactic
import Derived.Test.YtcbflajacioinaaPlacesWalk
import Derived.Test.YtcbflajacioinaaFindFirst
import Derived.Test.YtcbflajacioinaaNodesAt
namespace Go.Proofs.Ytcbflajacioinaa
open Go.RowKit Go.Shelf Go.Proofs.YtcbflajacioinaaW.PrintWords Go.Proofs.YtcbflajacioinaaW.PrintLast Go.Proofs.Ytcbflajacioinaa.P

def nMark : Node := ⟨3, [], [], 0, 0⟩
theorem may_mark_end (l : List Node) : mayB (l ++ [nMark]) = false := by
  cases h : mayB (l ++ [nMark])
  · rfl
  · have hr := mayB_right h (l.length : Int) (by omega) (by simp; omega)
    have hx : rd_Node (l ++ [nMark]) (l.length : Int) = nMark := by unfold rd_Node; rw [Int.toNat_natCast]; simp
    rw [hx] at hr
    have := right_mark hr rfl
    have h1 := this.1
    unfold nMark at h1
    dsimp only at h1
    omega

set_option maxRecDepth 100000 in
set_option maxHeartbeats 1000000 in
theorem nobody_walk (l : List S35) (s : ByteArray) (k : Int) (hk : -9223372036854775808 ≤ k ∧ k ≤ 9223372036854775807) (A : Option Addr) (c : Nat) (hc : l.length ≤ c) (hw : ∀ x ∈ l, ∀ e ∈ x.f1, 0 ≤ e.f0 ∧ e.f0 ≤ 255) (w : World) (hC : Kd.C k35 w A l.length l) :
    Calls Try.prog 5 #[.slice A l.length c, .string s, .int .i64 k] w fun e w' => e = .returned (.bool true) ∧ RowKit.Below w.heap.size w w' := by
  obtain ⟨kf, rf, hf, hr⟩ := few_eval l s
  have FC := Aside0.mk (fun (W : World) (h : Kd.C k35 W A l.length l) => phalaropelaw17_few.calls kf A c l s rf W h hc hf)
  clear hf
  cases rf
  · go_enter Try.func5, Try.ntmps5
    go_wp2_with (first
      | (go_at_call 10; refine (awake_calls _).mono ?_; rintro e w2 ⟨rfl, hb2⟩; have HC2 := Aside0.mk (Kd.C_below hC hb2))
      | (go_at_call 11; refine (FC.out _ HC2.out).mono ?_; rintro e w3 ⟨rfl, hd3⟩))
    go_ret
    exact ⟨rfl, hb2.trans (hd3.below.mono hb2.size)⟩
  · have hfew := hr rfl
    clear hr
    have hok := made_ok hfew hw
    obtain ⟨hs, hmul, hmu⟩ := few_small hfew
    have hl60 : l.length ≤ 60 := hfew.1
    have hs200 : s.size ≤ 200 := hfew.2.2
    have hlm : (madeL l).length = l.length := by simp [madeL]
    have MC := Aside0.mk (fun (W : World) (h : Kd.C k35 W A l.length l) => made_calls l A c W h (by have := hfew.1; omega) (fun x hx => by have := (hfew.2.1 x hx).1; omega))
    have MO := Aside0.mk (fun (W : World) (h : Kd.C k35 W A l.length l) => made_own l A c W h (by have := hfew.1; omega) (fun x hx => by have := (hfew.2.1 x hx).1; omega))
    have hokx : ∀ x ∈ madeL l ++ [nMark], NodeOk x := by
      intro x hx
      rcases List.mem_append.1 hx with hx | hx
      · exact hok x hx
      · obtain rfl : x = nMark := by simpa using hx
        exact ⟨fun e he => (by cases he), by decide, by decide⟩
    have hxl : (madeL l ++ [nMark]).length = l.length + 1 := by simp [madeL]
    have hxmul : (madeL l ++ [nMark]).length * (s.size + 1) < maxLen := by
      rw [hxl]
      have h4 : (l.length + 1) * (s.size + 1) ≤ 61 * 201 := Nat.mul_le_mul (by omega) (by omega)
      unfold maxLen; omega
    have hmx := may_mark_end (madeL l)
    have F1 := Aside0.mk (fun (W : World) (A' : Option Addr) (c' : Nat) (h : kNode.C W A' (madeL l ++ [nMark]).length (madeL l ++ [nMark])) => first_bad (madeL l ++ [nMark]) s A' c' hokx hs hxmul (fun hh => by have := hh.1; rw [hmx] at this; cases this) W h)
    have M1 := Aside0.mk (fun (W : World) (A' : Option Addr) (c' : Nat) (h : kNode.C W A' (madeL l ++ [nMark]).length (madeL l ++ [nMark])) => findMany_calls (madeL l ++ [nMark]) s A' c' 5 hokx hs hxmul W h)
    have e1 : manyOut (madeL l ++ [nMark]) s 5 = 0 := by unfold manyOut; rw [if_neg (by rw [hmx]; simp)]
    rw [e1] at M1
    rw [hxl] at F1 M1
    have W1 := Aside0.mk (fun (W : World) (A' : Option Addr) (c' : Nat) (h : kNode.C W A' (madeL l).length (madeL l)) => way_bad (madeL l) s A' c' (-1) hok hs hmul (fun hh => by have := hh.2.1; omega) W h)
    have W2 := Aside0.mk (fun (W : World) (A' : Option Addr) (c' : Nat) (h : kNode.C W A' (madeL l).length (madeL l)) => way_bad (madeL l) s A' c' (max k 1000) hok hs hmul (fun hh => by have := hh.2.2; have := manyP_range (madeL l) s ⟨0, 0⟩; omega) W h)
    have M2 := Aside0.mk (fun (W : World) (A' : Option Addr) (c' : Nat) (h : kNode.C W A' (madeL l).length (madeL l)) => findMany_calls (madeL l) s A' c' (min k 0) hok hs hmul W h)
    have e2 : manyOut (madeL l) s (min k 0) = 0 := by unfold manyOut; rw [if_neg (by omega)]
    rw [e2] at M2
    have M3 := Aside0.mk (fun (W : World) => findMany_calls [] s none 0 5 (fun x hx => by cases hx) hs (by rw [List.length_nil, Nat.zero_mul]; unfold maxLen; omega) W (C_nil _ _ _))
    have e3 : manyOut [] s 5 = 0 := by unfold manyOut; rw [if_neg (by decide)]
    rw [e3] at M3
    rw [hlm] at W1 W2 M2
    clear e1 e2 e3 hmx
    obtain ⟨i1, hi1', hy0, hy1, hy2⟩ := info_parts infoNode
    have hb3 : l.length + 1 ≤ maxLen := by unfold maxLen; omega
    have hb4 : (l.length + 1) * 72 ≤ 140737488355328 := by omega
    go_enter Try.func5, Try.ntmps5
    go_wp2_with (first
      | (go_at_call 10; refine (awake_calls _).mono ?_; rintro e w2 ⟨rfl, hb2⟩; have HC2 := Aside0.mk (Kd.C_below hC hb2))
      | (go_at_call 11; refine (FC.out _ HC2.out).mono ?_; rintro e w3 ⟨rfl, hd3⟩; have HC3 := Aside0.mk (Kd.C_below HC2.out hd3.below); have HB3 := Aside0.mk (hb2.trans (hd3.below.mono hb2.size)))
      | (go_at_call 13; refine (MO.out _ HC3.out).mono ?_; rintro e w4 ⟨v4, css, rfl, hcl, hown4, hN4, hb4'⟩; have HC4 := Aside0.mk (Kd.C_below HC3.out hb4'); have HB4 := Aside0.mk (HB3.out.trans (hb4'.mono HB3.out.size)); have HN4 : Aside0 (NodesAt w3 w4 v4 (madeL l) css) := ⟨⟨by rw [hlm]; exact hcl, by rw [hlm]; exact hown4, hN4, hb4'⟩⟩; have hsz4 := hb4'.size)
      | (at_builtin; refine wpList_append_own _ rfl _ _ 28 rfl w3.heap.size 49 i1 (.agg #[.int .i64 0, .slice none 0 0, .slice none 0 0, .int .i64 0, .int .i64 0]) 5 72 Try.underlying28 hi1' hy0 hy1 hy2 rfl (by decide) _ _ _ rfl (hown4.alloc _) ⟨w4.heap.size, 0, none⟩ 1 1 [.int .i64 3, .slice none 0 0, .slice none 0 0, .int .i64 0, .int .i64 0] rfl rfl (World.news_of_block (cs := #[.int .i64 3, .slice none 0 0, .slice none 0 0, .int .i64 0, .int .i64 0]) (t := 49) (fr := (0, 0)) (World.alloc_heap_new w4 _)) (by simp [Value.oneCell']) hb3 hb4 (by simp; omega) ?_; intro v' w5 hown5 hgrow5 _; have HN5 := Aside0.mk (HN4.out.snoc (x := nMark) hgrow5 (by rw [hlm]; exact hown5) (NodeIn.bare w3 w5 nMark rfl rfl)); have HC5 := Aside0.mk (Kd.C_below HC3.out HN5.out.below); have HB5 := Aside0.mk (HB3.out.trans (HN5.out.below.mono HB3.out.size)); obtain ⟨A5, c5, hv5, hx5⟩ := HN5.out.C; rw [hxl] at hv5 hx5; subst hv5; have HX5 := Aside0.mk hx5; clear hx5))
    refine (F1.out _ _ _ HX5.out).mono ?_
    rintro e w6 ⟨rfl, hb6⟩
    have HX6 := Aside0.mk (Kd.C_below HX5.out hb6)
    have HC6 := Aside0.mk (Kd.C_below HC5.out hb6)
    have HB6 := Aside0.mk (HB5.out.trans (hb6.mono HB5.out.size))
    clear HX5 HC5 HB5 hb6
    go_wp2_with fail
    refine (MC.out _ HC6.out).mono ?_
    rintro e w7 ⟨A7, c7, rfl, hC7, hb7⟩
    have HX7 := Aside0.mk (Kd.C_below HX6.out hb7)
    have HC7 := Aside0.mk (Kd.C_below HC6.out hb7)
    have HB7 := Aside0.mk (HB6.out.trans (hb7.mono HB6.out.size))
    have HM7 := Aside0.mk hC7
    clear hC7
    clear HX6 HC6 HB6 hb7
    go_wp2_with fail
    refine (W1.out _ _ _ HM7.out).mono ?_
    rintro e w8 ⟨rfl, hb8⟩
    have HX8 := Aside0.mk (Kd.C_below HX7.out hb8)
    have HC8 := Aside0.mk (Kd.C_below HC7.out hb8)
    have HB8 := Aside0.mk (HB7.out.trans (hb8.mono HB7.out.size))
    clear HX7 HC7 HB7 hb8
    go_wp2_with fail
    refine (MC.out _ HC8.out).mono ?_
    rintro e w9 ⟨A9, c9, rfl, hC9, hb9⟩
    have HX9 := Aside0.mk (Kd.C_below HX8.out hb9)
    have HC9 := Aside0.mk (Kd.C_below HC8.out hb9)
    have HB9 := Aside0.mk (HB8.out.trans (hb9.mono HB8.out.size))
    have HM9 := Aside0.mk hC9
    clear hC9
    clear HX8 HC8 HB8 hb9
    go_wp2_with fail
    refine (W2.out _ _ _ HM9.out).mono ?_
    rintro e w10 ⟨rfl, hb10⟩
    have HX10 := Aside0.mk (Kd.C_below HX9.out hb10)
    have HC10 := Aside0.mk (Kd.C_below HC9.out hb10)
    have HB10 := Aside0.mk (HB9.out.trans (hb10.mono HB9.out.size))
    clear HX9 HC9 HB9 hb10
    go_wp2_with fail
    refine (M1.out _ _ _ HX10.out).mono ?_
    rintro e w11 ⟨rfl, hb11⟩
    have HX11 := Aside0.mk (Kd.C_below HX10.out hb11)
    have HC11 := Aside0.mk (Kd.C_below HC10.out hb11)
    have HB11 := Aside0.mk (HB10.out.trans (hb11.mono HB10.out.size))
    clear HX10 HC10 HB10 hb11
    go_wp2_with fail
    refine (MC.out _ HC11.out).mono ?_
    rintro e w12 ⟨A12, c12, rfl, hC12, hb12⟩
    have HX12 := Aside0.mk (Kd.C_below HX11.out hb12)
    have HC12 := Aside0.mk (Kd.C_below HC11.out hb12)
    have HB12 := Aside0.mk (HB11.out.trans (hb12.mono HB11.out.size))
    have HM12 := Aside0.mk hC12
    clear hC12
    clear HX11 HC11 HB11 hb12
    go_wp2_with fail
    refine (M2.out _ _ _ HM12.out).mono ?_
    rintro e w13 ⟨rfl, hb13⟩
    have HX13 := Aside0.mk (Kd.C_below HX12.out hb13)
    have HC13 := Aside0.mk (Kd.C_below HC12.out hb13)
    have HB13 := Aside0.mk (HB12.out.trans (hb13.mono HB12.out.size))
    clear HX12 HC12 HB12 hb13
    go_wp2_with fail
    refine (M3.out _).mono ?_
    rintro e w14 ⟨rfl, hb14⟩
    have HX14 := Aside0.mk (Kd.C_below HX13.out hb14)
    have HC14 := Aside0.mk (Kd.C_below HC13.out hb14)
    have HB14 := Aside0.mk (HB13.out.trans (hb14.mono HB13.out.size))
    clear HX13 HC13 HB13 hb14
    go_wp2_with fail
    go_ret
    exact ⟨rfl, HB14.out⟩

end Go.Proofs.Ytcbflajacioinaa
