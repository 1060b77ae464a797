/- TwinNone: the walk. -/
import Derived.BigQuiet
import Derived.Deep.QuietTactic
import Derived.Outline
import Derived.Test.YtcbflajacioinaaPx3
import Derived.Test.YtcbflajacioinaaFindOf
import Derived.Test.YtcbflajacioinaaTwinC
set_option linter.unusedSimpArgs false
set_option linter.unusedVariables false
namespace Go.Proofs.Ytcbflajacioinaa
open Go.RowKit Go.Shelf Go.Proofs.YtcbflajacioinaaW.PrintWords Go.Proofs.YtcbflajacioinaaW.PrintLast Go.Proofs.Ytcbflajacioinaa.P

theorem strOfNums_size (l : List Int) : (strOfNums l).size = l.length := by
  show (strOfNums l).data.size = _
  simp [strOfNums]
theorem top20 {l : List S35} (h : Few20 l) : (topP (madeL l) : Int) ≤ 1000 := by
  unfold topP
  have hl : (madeL l).length ≤ 10 := by rw [made_len]; exact h.1
  have : 2 * (madeL l).length * (madeL l).length ≤ 2 * 10 * 10 := Nat.mul_le_mul (Nat.mul_le_mul (Nat.le_refl _) hl) hl
  omega

set_option maxRecDepth 100000 in
set_option maxHeartbeats 1000000 in
theorem none_walk (l : List S35) (s : ByteArray) (A : Option Addr) (c : Nat) (hc : l.length ≤ c) (hw : ∀ x ∈ l, ∀ e ∈ x.f1, 0 ≤ e.f0 ∧ e.f0 ≤ 255) (w : World) (hC : Kd.C k35 w A l.length l) :
    Calls Try.prog 9 #[.slice A l.length c, .string s] w fun e w' => e = .returned (.bool true) ∧ RowKit.Below w.heap.size w w' := by
  obtain ⟨kf, rf, hf, hr⟩ := few20_eval l
  have FC := Aside0.mk (fun (W : World) (h : Kd.C k35 W A l.length l) => phalaropelaw20_few.calls kf A c l rf W h hc hf)
  clear hf
  cases rf
  · go_enter Try.func9, Try.ntmps9
    go_wp2_with (first
      | (go_at_call 20; refine (awake20_calls _).mono ?_; rintro e w2 ⟨rfl, hb2⟩; have HC2 := Aside0.mk (Kd.C_below hC hb2))
      | (go_at_call 21; refine (FC.out _ HC2.out).mono ?_; rintro e w3 ⟨rfl, hd3⟩))
    go_ret
    exact ⟨rfl, hb2.trans (hd3.below.mono hb2.size)⟩
  · have hfew := hr rfl
    clear hr
    by_cases hs : 200 < s.size
    · have d0 : decide (200 < (s.size : Int)) = true := decide_eq_true (by omega)
      go_enter Try.func9, Try.ntmps9
      go_wp2_with (first
        | (go_at_call 20; refine (awake20_calls _).mono ?_; rintro e w2 ⟨rfl, hb2⟩; have HC2 := Aside0.mk (Kd.C_below hC hb2))
        | (go_at_call 21; refine (FC.out _ HC2.out).mono ?_; rintro e w3 ⟨rfl, hd3⟩))
      go_ret
      exact ⟨rfl, hb2.trans (hd3.below.mono hb2.size)⟩
    · have d0 : decide (200 < (s.size : Int)) = false := decide_eq_false (by omega)
      have hok := made_ok20 hfew hw
      have hl10 : l.length ≤ 10 := hfew.1
      have hlm : (madeL l).length = l.length := by simp [madeL]
      obtain ⟨km, hkm⟩ := (few20_may hfew).rounds
      have RM := Aside0.mk (fun (W : World) (h : Kd.C k35 W A l.length l) => phalaroperef16_May.calls km A c l _ W h hc hkm)
      have MC := Aside0.mk (fun (W : World) (h : Kd.C k35 W A l.length l) => made20_calls l A c W h (by omega) (fun x hx => by have := (hfew.2 x hx).1; omega))
      have TW := Aside0.mk (fun (W : World) (A' : Option Addr) (c' : Nat) (h : kNode.C W A' l.length (madeL l)) => twin_calls (madeL l) A' c' hok (by omega) (made_f20 hfew) 1000 W (by rw [hlm]; exact h))
      have hmul : (madeL l).length * (s.size + 1) < maxLen := by
        rw [hlm]
        have h4 : l.length * (s.size + 1) ≤ 10 * 201 := Nat.mul_le_mul (by omega) (by omega)
        unfold maxLen; omega
      have FM := Aside0.mk (fun (W : World) (A' : Option Addr) (c' : Nat) (h : kNode.C W A' l.length (madeL l)) => findMany_calls (madeL l) s A' c' 1000 hok (by omega) hmul W (by rw [hlm]; exact h))
      rw [hlm] at TW FM
      cases hM : mayB (madeL l)
      · have ht : twinP (madeL l) 1000 = ([], false, 1) := by unfold twinP; rw [if_neg (by rw [hM]; simp)]
        rw [ht] at TW
        rw [hM] at RM
        clear hkm hok hmul ht
        generalize manyOut (madeL l) s 1000 = n0 at *
        go_enter Try.func9, Try.ntmps9
        go_wp2_with (first
          | (go_at_call 20; refine (awake20_calls _).mono ?_; rintro e w2 ⟨rfl, hb2⟩; have HC2 := Aside0.mk (Kd.C_below hC hb2))
          | (go_at_call 21; refine (FC.out _ HC2.out).mono ?_; rintro e w3 ⟨rfl, hd3⟩; have HC3 := Aside0.mk (Kd.C_below HC2.out hd3.below); have HB3 := Aside0.mk (hb2.trans (hd3.below.mono hb2.size)))
          | (go_at_call 24; refine (MC.out _ HC3.out).mono ?_; rintro e w4 ⟨A4, c4, rfl, hC4, hb4⟩; have HM4 := Aside0.mk hC4; have HC4 := Aside0.mk (Kd.C_below HC3.out hb4); have HB4 := Aside0.mk (HB3.out.trans (hb4.mono HB3.out.size)); clear hC4)
          | (go_at_call 23; refine (TW.out _ _ _ HM4.out).mono ?_; rintro e w5 ⟨rfl, hb5⟩; have HM5 := Aside0.mk (Kd.C_below HM4.out hb5); have HC5 := Aside0.mk (Kd.C_below HC4.out hb5); have HB5 := Aside0.mk (HB4.out.trans (hb5.mono HB4.out.size)))
          | (go_at_call 18; refine (FM.out _ _ _ HM5.out).mono ?_; rintro e w6 ⟨rfl, hb6⟩; have HC6 := Aside0.mk (Kd.C_below HC5.out hb6); have HB6 := Aside0.mk (HB5.out.trans (hb6.mono HB5.out.size)))
          | (go_at_call 22; refine (RM.out _ HC6.out).mono ?_; rintro e w7 ⟨rfl, hb7⟩; have HB7 := Aside0.mk (HB6.out.trans (hb7.mono HB6.out.size))))
        go_ret
        exact ⟨rfl, HB7.out⟩
      · obtain ⟨n1, n2, n3⟩ := none_law (s := s) hM hok (top20 hfew)
        have HN1 := Aside0.mk n1
        have HN2 := Aside0.mk n2
        have HN3 := Aside0.mk n3
        clear hkm hok hmul RM n1 n2 n3
        generalize manyOut (madeL l) s 1000 = n0 at *
        generalize twinP (madeL l) 1000 = tp at *
        obtain ⟨tl, ti, te⟩ := tp
        dsimp only at *
        obtain rfl : te = 0 := HN1.out
        have hsz := strOfNums_size tl
        have HSZ := Aside0.mk hsz
        clear hsz HN1
        generalize strOfNums tl = T at *
        go_enter Try.func9, Try.ntmps9
        go_wp2_with (first
          | (go_at_call 20; refine (awake20_calls _).mono ?_; rintro e w2 ⟨rfl, hb2⟩; have HC2 := Aside0.mk (Kd.C_below hC hb2))
          | (go_at_call 21; refine (FC.out _ HC2.out).mono ?_; rintro e w3 ⟨rfl, hd3⟩; have HC3 := Aside0.mk (Kd.C_below HC2.out hd3.below); have HB3 := Aside0.mk (hb2.trans (hd3.below.mono hb2.size)))
          | (go_at_call 24; refine (MC.out _ HC3.out).mono ?_; rintro e w4 ⟨A4, c4, rfl, hC4, hb4⟩; have HM4 := Aside0.mk hC4; have HC4 := Aside0.mk (Kd.C_below HC3.out hb4); have HB4 := Aside0.mk (HB3.out.trans (hb4.mono HB3.out.size)); clear hC4)
          | (go_at_call 23; refine (TW.out _ _ _ HM4.out).mono ?_; rintro e w5 ⟨rfl, hb5⟩; have HM5 := Aside0.mk (Kd.C_below HM4.out hb5); have HC5 := Aside0.mk (Kd.C_below HC4.out hb5); have HB5 := Aside0.mk (HB4.out.trans (hb5.mono HB4.out.size)))
          | (go_at_call 18; refine (FM.out _ _ _ HM5.out).mono ?_; rintro e w6 ⟨rfl, hb6⟩; have HC6 := Aside0.mk (Kd.C_below HC5.out hb6); have HB6 := Aside0.mk (HB5.out.trans (hb6.mono HB5.out.size))))
        all_goals first
          | (go_ret; exact ⟨rfl, HB6.out⟩)
          | (exfalso; rcases HN2.out with h | h <;> first | contradiction | omega)
          | (have h3 : T.size ≤ s.size := by
               have h4 := HSZ.out
               rcases HN3.out with h | h | h
               · rename_i h5 h6; rw [h] at h5; cases h5
               · omega
               · omega
             go_ret
             refine ⟨?_, HB6.out⟩
             simp [h3])

end Go.Proofs.Ytcbflajacioinaa
