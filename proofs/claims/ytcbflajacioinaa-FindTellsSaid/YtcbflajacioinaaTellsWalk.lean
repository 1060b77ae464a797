/- FindTells: the walk. -/
import Derived.BigQuiet
import Derived.Deep.RegionHeld3
import Derived.Outline
import Derived.Deep.QuietTactic
import Derived.Test.YtcbflajacioinaaPlacesWalk
import Derived.Test.YtcbflajacioinaaFindFirst
import Derived.Test.YtcbflajacioinaaTellsW
namespace Go.Proofs.Ytcbflajacioinaa
open Go.RowKit Go.Shelf Go.Proofs.YtcbflajacioinaaW.PrintWords Go.Proofs.YtcbflajacioinaaW.PrintLast Go.Proofs.Ytcbflajacioinaa.P

theorem hits_C {w : World} {base : Nat} {v : Value} {l : List Hit} (h : w.ownsRow base 31 2 v l.length (l.flatMap encHit)) : ∃ A cap, v = .slice A l.length cap ∧ l.length ≤ cap ∧ k31.C w A l.length (l.map ofHit) := by
  obtain ⟨A, cap, h1, h2, h3⟩ := C_of_own k31 (w := w) (base := base) (e := 31) (v := v) (xs := l.map ofHit) (css := l.map encHit) (by rw [List.length_map, ← List.flatMap_def]; exact h) (by simp) (fun j x c hx hc => by
    rw [List.getElem?_map] at hx hc
    obtain ⟨y, hy, rfl⟩ := Option.map_eq_some_iff.1 hx
    rw [hy] at hc
    obtain rfl : encHit y = c := by simpa using hc
    exact k31_mk w (ofHit y))
  rw [List.length_map] at h1 h2 h3
  exact ⟨A, cap, h1, h2, h3⟩
theorem way_any (m : List Node) (s : ByteArray) (A : Option Addr) (c : Nat) (k : Int) (hN : ∀ x ∈ m, NodeOk x) (hs : s.size ≤ 9223372036854775807) (hfew : m.length * (s.size + 1) < maxLen) (hmu : muP m s ⟨0, 0⟩ ≤ 1000000000) (w : World) (hC : kNode.C w A m.length m) :
    Calls Try.prog 12 #[.slice A m.length c, .string s, .int .i64 k] w fun e w' => ∃ v, e = .returned (.tuple #[v, .bool (wayB m s k)]) ∧ w'.ownsRow w.heap.size 31 2 v (wayL m s k).length ((wayL m s k).flatMap encHit) ∧ RowKit.Below w.heap.size w w' := by
  unfold wayB wayL
  by_cases hk : wayOk m s k
  · rw [decide_eq_true hk, if_pos hk]
    exact way_good m s A c k hN hs hfew hmu hk w hC
  · rw [decide_eq_false hk, if_neg hk]
    exact (way_bad m s A c k hN hs hfew hk w hC).mono fun e w' ⟨he, hb⟩ => ⟨_, he, World.ownsRow_nil _ _ _ _, hb⟩
theorem first_any (m : List Node) (s : ByteArray) (A : Option Addr) (c : Nat) (hN : ∀ x ∈ m, NodeOk x) (hs : s.size ≤ 9223372036854775807) (hfew : m.length * (s.size + 1) < maxLen) (hmu : muP m s ⟨0, 0⟩ ≤ 1000000000) (w : World) (hC : kNode.C w A m.length m) :
    Calls Try.prog 15 #[.slice A m.length c, .string s] w fun e w' => ∃ v, e = .returned (.tuple #[v, .bool (wayB m s 0)]) ∧ w'.ownsRow w.heap.size 31 2 v (wayL m s 0).length ((wayL m s 0).flatMap encHit) ∧ RowKit.Below w.heap.size w w' := by
  unfold wayB wayL
  by_cases hk : wayOk m s 0
  · rw [decide_eq_true hk, if_pos hk]
    exact first_good m s A c hN hs hfew hmu hk w hC
  · rw [decide_eq_false hk, if_neg hk]
    exact (first_bad m s A c hN hs hfew hk w hC).mono fun e w' ⟨he, hb⟩ => ⟨_, he, World.ownsRow_nil _ _ _ _, hb⟩
theorem wayL_len (m : List Node) (s : ByteArray) (k : Int) (hmu : muP m s ⟨0, 0⟩ ≤ 1000000) : (wayL m s k).length ≤ 1000000 := by
  unfold wayL
  by_cases hk : wayOk m s k
  · rw [if_pos hk]
    exact Nat.le_trans (way_len hk.1 (muP m s ⟨0, 0⟩ + 1) ⟨0, 0⟩ k (Nat.lt_succ_self _) ⟨Int.le_refl _, by have := mayB_len hk.1; dsimp only; omega, Int.le_refl _, by dsimp only; omega⟩ hk.2.1 hk.2.2) hmu
  · rw [if_neg hk]; simp
theorem below_more {w0 w w' : World} (h : RowKit.Below w0.heap.size w0 w) (h' : RowKit.Below w.heap.size w w') : RowKit.Below w0.heap.size w0 w' := h.trans (h'.mono h.size)

set_option maxRecDepth 100000 in
set_option maxHeartbeats 2000000 in
theorem tells_walk (l : List S35) (s : ByteArray) (n0 n1 : Int) (A : Option Addr) (c : Nat) (hc : l.length ≤ c) (hw : ∀ x ∈ l, ∀ e ∈ x.f1, 0 ≤ e.f0 ∧ e.f0 ≤ 255) (w : World) (hC : Kd.C k35 w A l.length l) :
    Calls Try.prog 4 #[.slice A l.length c, .string s, .agg #[.int .i64 n0, .int .i64 n1]] w fun e w' => e = .returned (.bool true) ∧ RowKit.Below w.heap.size w w' := by
  obtain ⟨kf, rf, hf, hr⟩ := few_eval l s
  have FC := Aside0.mk (fun (W : World) (h : Kd.C k35 W A l.length l) => phalaropelaw17_few.calls kf A c l s rf W h hc hf)
  clear hf
  have hb0 := below_alloc (RowKit.Below.refl w.heap.size w) (.cells #[.int .i64 n0, .int .i64 n1] 37)
  have hC0 := Kd.C_below hC hb0
  have bx := Blk.new w 37 #[.int .i64 n0, .int .i64 n1]
  have HC0 := Aside0.mk hC0
  have HB0 := Aside0.mk hb0
  clear hb0 hC0
  cases rf
  · clear bx
    go_enter Try.func4, Try.ntmps4
    go_wp2_with (first
      | (go_at_call 10; refine (awake_calls _).mono ?_; rintro e w2 ⟨rfl, hb2⟩; have HC2 := Aside0.mk (Kd.C_below HC0.out hb2))
      | (go_at_call 11; refine (FC.out _ HC2.out).mono ?_; rintro e w3 ⟨rfl, hd3⟩))
    go_ret
    exact ⟨rfl, below_more (below_more HB0.out hb2) hd3.below⟩
  · have hfew := hr rfl
    clear hr
    have hok := made_ok hfew hw
    have hl60 : l.length ≤ 60 := hfew.1
    obtain ⟨hs, hmul, hmu⟩ := few_small hfew
    have hlm : (madeL l).length = l.length := by simp [madeL]
    have hmu' : muP (madeL l) s ⟨0, 0⟩ ≤ 1000000 := by
      have h5 : s.size * (l.length + 1) ≤ 200 * 61 := Nat.mul_le_mul hfew.2.2 (by omega)
      unfold muP
      rw [hlm]
      simp
      omega
    have MC := Aside0.mk (fun (W : World) (h : Kd.C k35 W A l.length l) => made_calls l A c W h (by have := hfew.1; omega) (fun x hx => by have := (hfew.2.1 x hx).1; omega))
    have WC := Aside0.mk (fun (W : World) (A' : Option Addr) (c' : Nat) (h : kNode.C W A' (madeL l).length (madeL l)) => way_any (madeL l) s A' c' n0 hok hs hmul hmu W h)
    have FI := Aside0.mk (fun (W : World) (A' : Option Addr) (c' : Nat) (h : kNode.C W A' (madeL l).length (madeL l)) => first_any (madeL l) s A' c' hok hs hmul hmu W h)
    have MA := Aside0.mk (fun (W : World) (A' : Option Addr) (c' : Nat) (h : kNode.C W A' (madeL l).length (madeL l)) => findMany_calls (madeL l) s A' c' n1 hok hs hmul W h)
    rw [hlm] at WC FI MA
    obtain ⟨kw, hkw⟩ := (way_eval hfew n0).rounds
    obtain ⟨kz, hkz⟩ := (way_eval hfew 0).rounds
    obtain ⟨km, hkm⟩ := (many_eval hfew n1).rounds
    obtain ⟨kr, hkr⟩ := (real_eval (wayL (madeL l) s n0) (wayL_len _ _ _ hmu')).rounds
    obtain ⟨kq, hkq⟩ := (real_eval (wayL (madeL l) s 0) (wayL_len _ _ _ hmu')).rounds
    obtain ⟨ks, hks⟩ := (same_eval ((wayL (madeL l) s n0).map toHit) (by rw [List.length_map]; exact wayL_len _ _ _ hmu')).rounds
    obtain ⟨kt, hkt⟩ := (same_eval ((wayL (madeL l) s 0).map toHit) (by rw [List.length_map]; exact wayL_len _ _ _ hmu')).rounds
    have RW := Aside0.mk (fun (W : World) (h : Kd.C k35 W A l.length l) => phalaroperef17_Way.calls kw A c l s n0 _ _ W h hc hkw)
    have RZ := Aside0.mk (fun (W : World) (h : Kd.C k35 W A l.length l) => phalaroperef17_Way.calls kz A c l s 0 _ _ W h hc hkz)
    have RM := Aside0.mk (fun (W : World) (h : Kd.C k35 W A l.length l) => phalaroperef17_Many.calls km A c l s n1 _ W h hc hkm)
    have RR := Aside0.mk (fun (W : World) (A' : Option Addr) (c' : Nat) (hc' : ((wayL (madeL l) s n0).map ofHit).length ≤ c') (h : Kd.C k31 W A' ((wayL (madeL l) s n0).map ofHit).length ((wayL (madeL l) s n0).map ofHit)) => phalaropelaw17_real.calls kr A' c' _ _ W h hc' hkr)
    have RQ := Aside0.mk (fun (W : World) (A' : Option Addr) (c' : Nat) (hc' : ((wayL (madeL l) s 0).map ofHit).length ≤ c') (h : Kd.C k31 W A' ((wayL (madeL l) s 0).map ofHit).length ((wayL (madeL l) s 0).map ofHit)) => phalaropelaw17_real.calls kq A' c' _ _ W h hc' hkq)
    have RS := Aside0.mk (fun (W : World) (A1 A2 : Option Addr) (c1 c2 : Nat) (hc1 : ((wayL (madeL l) s n0).map toHit).length ≤ c1) (hc2 : ((wayL (madeL l) s n0).map toHit).length ≤ c2) (h1 : Kd.C k75 W A1 ((wayL (madeL l) s n0).map toHit).length ((wayL (madeL l) s n0).map toHit)) (h2 : Kd.C k75 W A2 ((wayL (madeL l) s n0).map toHit).length ((wayL (madeL l) s n0).map toHit)) => phalaroperef17_Same.calls ks A1 c1 _ A2 c2 _ _ W h1 hc1 h2 hc2 hks)
    have RT := Aside0.mk (fun (W : World) (A1 A2 : Option Addr) (c1 c2 : Nat) (hc1 : ((wayL (madeL l) s 0).map toHit).length ≤ c1) (hc2 : ((wayL (madeL l) s 0).map toHit).length ≤ c2) (h1 : Kd.C k75 W A1 ((wayL (madeL l) s 0).map toHit).length ((wayL (madeL l) s 0).map toHit)) (h2 : Kd.C k75 W A2 ((wayL (madeL l) s 0).map toHit).length ((wayL (madeL l) s 0).map toHit)) => phalaroperef17_Same.calls kt A1 c1 _ A2 c2 _ _ W h1 hc1 h2 hc2 hkt)
    clear hkw hkz hkm hkr hkq hks hkt hok
    rw [List.length_map] at RR RQ RS RT
    generalize wayL (madeL l) s n0 = h0 at *
    generalize wayL (madeL l) s 0 = h1 at *
    generalize wayB (madeL l) s n0 = b0 at *
    generalize wayB (madeL l) s 0 = b1 at *
    generalize manyOut (madeL l) s n1 = mo at *
    have x0 := bx.cell 0
    have x1 := bx.cell 1
    simp only [List.getElem?_toArray, List.getElem?_cons_zero, List.getElem?_cons_succ] at x0 x1
    have hx0 := World.block_lt_of_cell? _ _ x0
    have X0 := Aside0.mk x0
    have X1 := Aside0.mk x1
    have HX := Aside0.mk hx0
    clear bx x0 x1 hx0
    go_enter Try.func4, Try.ntmps4
    generalize hW0 : w.alloc (.cells #[.int .i64 n0, .int .i64 n1] 37) = W0 at *
    go_wp2_with fail
    refine (awake_calls _).mono ?_
    rintro e w2 ⟨rfl, hb2⟩
    have HK2 := Aside0.mk hb2
    clear hb2
    go_wp2_with fail
    refine (FC.out _ (Kd.C_below HC0.out HK2.out)).mono ?_
    rintro e w3 ⟨rfl, hd3⟩
    have HK3 := Aside0.mk (below_more HK2.out hd3.below)
    clear hd3 HK2
    go_wp2_with fail
    refine (MC.out _ (Kd.C_below HC0.out HK3.out)).mono ?_
    rintro e w4 ⟨A4, c4, rfl, hC4, hb4⟩
    have HM4 := Aside0.mk hC4
    have HK4 := Aside0.mk (below_more HK3.out hb4)
    have y0 := (HK4.out.cell HX.out).trans X0.out
    clear hC4 hb4 HK3
    go_wp2_with fail
    refine (WC.out _ _ _ HM4.out).mono ?_
    rintro e w5 ⟨v5, rfl, hown5, hb5⟩
    obtain ⟨A5, c5, rfl, hc5, hh5⟩ := hits_C hown5
    have HH5 := Aside0.mk hh5
    have HM5 := Aside0.mk (Kd.C_below HM4.out hb5)
    have HK5 := Aside0.mk (below_more HK4.out hb5)
    have y0 := (HK5.out.cell HX.out).trans X0.out
    clear hh5 hown5 hb5 HM4 HK4
    go_wp2_with fail
    refine (RW.out _ (Kd.C_below HC0.out HK5.out)).mono ?_
    rintro e w6 ⟨v6, rfl, hr6, hb6⟩
    obtain ⟨A6, c6, rfl, hc6, hh6⟩ := Kd.R_reads hr6
    have HH6 := Aside0.mk hh6
    have HH5' := Aside0.mk (Kd.C_below HH5.out hb6)
    have HM6 := Aside0.mk (Kd.C_below HM5.out hb6)
    have HK6 := Aside0.mk (below_more HK5.out hb6)
    clear hr6 hh6 hb6 HH5 HM5 HK5
    go_wp2_with fail
    refine (FI.out _ _ _ HM6.out).mono ?_
    rintro e w7 ⟨v7, rfl, hown7, hb7⟩
    obtain ⟨A7, c7, rfl, hc7, hh7⟩ := hits_C hown7
    have HH7 := Aside0.mk hh7
    have HG6 := Aside0.mk (Kd.C_below HH6.out hb7)
    have HG5 := Aside0.mk (Kd.C_below HH5'.out hb7)
    have HM7 := Aside0.mk (Kd.C_below HM6.out hb7)
    have HK7 := Aside0.mk (below_more HK6.out hb7)
    clear hh7 hown7 hb7 HM6 HK6 HH6 HH5' y0
    go_wp2_with fail
    refine (RZ.out _ (Kd.C_below HC0.out HK7.out)).mono ?_
    rintro e w8 ⟨v8, rfl, hr8, hb8⟩
    obtain ⟨A8, c8, rfl, hc8, hh8⟩ := Kd.R_reads hr8
    have HC8 := Aside0.mk (Kd.C_below HC0.out (below_more HK7.out hb8))
    have HH8 := Aside0.mk hh8
    have HG7 := Aside0.mk (Kd.C_below HH7.out hb8)
    have HF6 := Aside0.mk (Kd.C_below HG6.out hb8)
    have HF5 := Aside0.mk (Kd.C_below HG5.out hb8)
    have HM8 := Aside0.mk (Kd.C_below HM7.out hb8)
    have HK8 := Aside0.mk (below_more HK7.out hb8)
    have y0 := (HK8.out.cell HX.out).trans X0.out
    have y1 := (HK8.out.cell (p := ⟨w.heap.size, 1, none⟩) HX.out).trans X1.out
    have HX8 := Aside0.mk (Nat.lt_of_lt_of_le HX.out HK8.out.size)
    clear hr8 hh8 hb8 HM7 HK7 HH7 HG6 HG5
    rw [List.length_map] at hc6 hc8
    have HF6' : Aside0 (Kd.C k75 w8 A6 h0.length (h0.map toHit)) := ⟨by have := HF6.out; rwa [List.length_map] at this⟩
    have HH8' : Aside0 (Kd.C k75 w8 A8 h1.length (h1.map toHit)) := ⟨by have := HH8.out; rwa [List.length_map] at this⟩
    have Y1 := Aside0.mk y1
    have HD0 := Aside0.mk (below_drew1 (RowKit.Below.refl w8.heap.size w8))
    clear HF6 HH8 y0
    have ebe : (b0 == b0) = true := by simp
    have ebf : (b1 == b1) = true := by simp
    have emo : (mo == mo) = true := by simp
    have tok1 : True := trivial
    go_wp2_with fail
    go_region_held3 (fun w' => w'.cell? ⟨w.heap.size, 1, none⟩ = some (.int .i64 n1)) (go_keep) (first
      | (go_at_call 17; have _t := tok1; refine (RR.out _ _ _ hc5 (Kd.C_below HF5.out HD0.out)).mono ?_; rintro e w9 ⟨v9, rfl, hr9, hb9⟩; obtain ⟨A9, c9, rfl, hc9, hh9⟩ := Kd.R_reads hr9; rw [List.length_map] at hc9 hh9; have HH9 := Aside0.mk hh9; have HD9 := Aside0.mk (below_more HD0.out hb9); have y9 := (HD9.out.cell (p := ⟨w.heap.size, 1, none⟩) HX8.out).trans Y1.out; clear tok1 _t hr9 hh9 hb9; have tok2 : True := trivial)
      | (go_at_call 16; have _t := tok2; refine (RS.out _ _ _ _ _ hc9 hc6 HH9.out (Kd.C_below HF6'.out HD9.out)).mono ?_; rintro e w10 ⟨rfl, hd10⟩; have HD10 := Aside0.mk (below_more HD9.out hd10.below); have y10 := (HD10.out.cell (p := ⟨w.heap.size, 1, none⟩) HX8.out).trans Y1.out; clear tok2 _t hd10; have tok3 : True := trivial)
      | (go_at_call 18; have _t := tok3; refine (MA.out _ _ _ (Kd.C_below HM8.out HD10.out)).mono ?_; rintro e w11 ⟨rfl, hb11⟩; have HD11 := Aside0.mk (below_more HD10.out hb11); have y11 := (HD11.out.cell (p := ⟨w.heap.size, 1, none⟩) HX8.out).trans Y1.out; clear tok3 _t hb11; have tok4 : True := trivial)
      | (go_at_call 19; have _t := tok4; refine (RM.out _ (Kd.C_below HC8.out HD11.out)).mono ?_; rintro e w12 ⟨rfl, hb12⟩; have HD12 := Aside0.mk (below_more HD11.out hb12); have y12 := (HD12.out.cell (p := ⟨w.heap.size, 1, none⟩) HX8.out).trans Y1.out; clear tok4 _t hb12; have tok5 : True := trivial)
      | (go_at_call 17; have _t := tok5; refine (RQ.out _ _ _ hc7 (Kd.C_below HG7.out HD12.out)).mono ?_; rintro e w13 ⟨v13, rfl, hr13, hb13⟩; obtain ⟨A13, c13, rfl, hc13, hh13⟩ := Kd.R_reads hr13; rw [List.length_map] at hc13 hh13; have HH13 := Aside0.mk hh13; have HD13 := Aside0.mk (below_more HD12.out hb13); have y13 := (HD13.out.cell (p := ⟨w.heap.size, 1, none⟩) HX8.out).trans Y1.out; clear tok5 _t hr13 hh13 hb13; have tok6 : True := trivial)
      | (go_at_call 16; have _t := tok6; refine (RT.out _ _ _ _ _ hc13 hc8 HH13.out (Kd.C_below HH8'.out HD13.out)).mono ?_; rintro e w14 ⟨rfl, hd14⟩; have HD14 := Aside0.mk (below_more HD13.out hd14.below); have y14 := (HD14.out.cell (p := ⟨w.heap.size, 1, none⟩) HX8.out).trans Y1.out; clear tok6 _t hd14))
    go_wp2_with fail
    go_ret
    exact ⟨rfl, below_more (below_more HB0.out HK8.out) HD14.out⟩

end Go.Proofs.Ytcbflajacioinaa
