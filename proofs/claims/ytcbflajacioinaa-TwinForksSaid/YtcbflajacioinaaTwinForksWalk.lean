/- TwinForks: the walk. -/
import Derived.BigQuiet
import Derived.Deep.QuietTactic
import Derived.Outline
import Derived.Test.YtcbflajacioinaaPx3
import Derived.Test.YtcbflajacioinaaTwinB
set_option linter.unusedSimpArgs false
set_option linter.unusedVariables false
namespace Go.Proofs.Ytcbflajacioinaa
open Go.RowKit Go.Shelf Go.Proofs.YtcbflajacioinaaW.PrintWords Go.Proofs.YtcbflajacioinaaW.PrintLast Go.Proofs.Ytcbflajacioinaa.P

set_option maxRecDepth 100000 in
set_option maxHeartbeats 1000000 in
theorem forks_walk (l : List S35) (A : Option Addr) (c : Nat) (hc : l.length ≤ c) (hw : ∀ x ∈ l, ∀ e ∈ x.f1, 0 ≤ e.f0 ∧ e.f0 ≤ 255) (w : World) (hC : Kd.C k35 w A l.length l) :
    Calls Try.prog 7 #[.slice A l.length c] w fun e w' => e = .returned (.bool true) ∧ RowKit.Below w.heap.size w w' := by
  obtain ⟨kf, rf, hf, hr⟩ := few20_eval l
  have FC := Aside0.mk (fun (W : World) (h : Kd.C k35 W A l.length l) => phalaropelaw20_few.calls kf A c l rf W h hc hf)
  clear hf
  cases rf
  · go_enter Try.func7, Try.ntmps7
    go_wp2_with (first
      | (go_at_call 20; refine (awake20_calls _).mono ?_; rintro e w2 ⟨rfl, hb2⟩; have HC2 := Aside0.mk (Kd.C_below hC hb2))
      | (go_at_call 21; refine (FC.out _ HC2.out).mono ?_; rintro e w3 ⟨rfl, hd3⟩))
    go_ret
    exact ⟨rfl, hb2.trans (hd3.below.mono hb2.size)⟩
  · have hfew := hr rfl
    clear hr
    have hok := made_ok20 hfew hw
    have hl10 : l.length ≤ 10 := hfew.1
    have hlm : (madeL l).length = l.length := by simp [madeL]
    obtain ⟨km, hkm⟩ := (few20_may hfew).rounds
    have RM := Aside0.mk (fun (W : World) (h : Kd.C k35 W A l.length l) => phalaroperef16_May.calls km A c l _ W h hc hkm)
    clear hkm
    cases hM : mayB (madeL l)
    · rw [hM] at RM
      go_enter Try.func7, Try.ntmps7
      go_wp2_with (first
        | (go_at_call 20; refine (awake20_calls _).mono ?_; rintro e w2 ⟨rfl, hb2⟩; have HC2 := Aside0.mk (Kd.C_below hC hb2))
        | (go_at_call 21; refine (FC.out _ HC2.out).mono ?_; rintro e w3 ⟨rfl, hd3⟩; have HC3 := Aside0.mk (Kd.C_below HC2.out hd3.below); have HB3 := Aside0.mk (hb2.trans (hd3.below.mono hb2.size)))
        | (go_at_call 22; refine (RM.out _ HC3.out).mono ?_; rintro e w4 ⟨rfl, hb4⟩))
      go_ret
      exact ⟨rfl, HB3.out.trans (hb4.mono HB3.out.size)⟩
    · rw [hM] at RM
      have MC := Aside0.mk (fun (W : World) (h : Kd.C k35 W A l.length l) => made20_calls l A c W h (by omega) (fun x hx => by have := (hfew.2 x hx).1; omega))
      have TW := Aside0.mk (fun (W : World) (A' : Option Addr) (c' : Nat) (h : kNode.C W A' l.length (madeL l)) => twin_calls (madeL l) A' c' hok (by omega) (made_f20 hfew) 1000 W (by rw [hlm]; exact h))
      have t3 := fun (W : World) (A : Option Addr) (c : Nat) (h : kNode.C W A 2 mA3) => twin_calls mA3 A c mA3_ok (by decide) (by decide) 1000 W h
      rw [mA3_twin, show mA3.length = 2 from rfl] at t3
      have T3 := Aside0.mk t3
      have h0 : strOfNums [] = ⟨#[]⟩ := by kernel_rfl
      have HMM := Aside0.mk hM
      have HOK := Aside0.mk hok
      have HNF : Aside0 ((∀ j, j < l.length → (rd_T35 l (j : Int)).f0 ≠ 2) → twinP (madeL l) 1000 = ([], false, 0)) := ⟨fun hn => twin_noFork hM hok (fun x hx => by
        obtain ⟨j, hj, rfl⟩ := List.mem_iff_getElem.1 hx
        have h1 := rd_made l j (by omega)
        rw [List.getElem?_eq_getElem hj] at h1
        obtain h1 := Option.some.inj h1
        rw [h1]
        exact hn j (by omega)) (by
          unfold topP
          rw [hlm]
          have : 2 * l.length * l.length ≤ 2 * 10 * 10 := Nat.mul_le_mul (Nat.mul_le_mul (Nat.le_refl _) hl10) hl10
          omega)⟩
      rw [hlm] at TW
      clear t3 hM hok
      go_enter Try.func7, Try.ntmps7
      go_wp2_with (first
        | (go_at_call 20; refine (awake20_calls _).mono ?_; rintro e w2 ⟨rfl, hb2⟩; have HC2 := Aside0.mk (Kd.C_below hC hb2))
        | (go_at_call 21; refine (FC.out _ HC2.out).mono ?_; rintro e w3 ⟨rfl, hd3⟩; have HC3 := Aside0.mk (Kd.C_below HC2.out hd3.below); have HB3 := Aside0.mk (hb2.trans (hd3.below.mono hb2.size)))
        | (go_at_call 22; refine (RM.out _ HC3.out).mono ?_; rintro e w4 ⟨rfl, hb4⟩; have HC4 := Aside0.mk (Kd.C_below HC3.out hb4); have HB4 := Aside0.mk (HB3.out.trans (hb4.mono HB3.out.size))))
      clear hb2 hd3 hb4 HC2 HC3 HB3
      go_loopw [4] (fun iv wr => ∃ i : Nat, i ≤ l.length ∧ iv = .int .i64 i ∧ Aside0 (∀ j, j < i → (rd_T35 l (j : Int)).f0 ≠ 2) ∧ Aside0 (RowKit.Below w.heap.size w wr)) (fun iv _ => l.length - (intOf iv).toNat)
      case atStart => exact ⟨0, Nat.zero_le _, rfl, ⟨fun j hj => by omega⟩, HB4⟩
      case round =>
        obtain ⟨i, hi, rfl, HNI, HB⟩ := hrel
        have HCr := Aside0.mk (Kd.C_below hC HB.out)
        by_cases hlt : i < l.length
        · obtain ⟨ad, A1, c1, A2, c2, hA, x0, _⟩ := at_T35 HCr.out i (by omega) (by omega)
          simp only [Int.toNat_natCast] at x0
          subst hA
          have hi0 : (0 : Int) ≤ i := by omega
          have hi1 : (i : Int) < l.length := by omega
          by_cases h2 : (rd_T35 l (i : Int)).f0 = 2
          · rw [h2] at x0
            go_wp2_with fail
            go_ret
            exact ⟨rfl, HB.out⟩
          · have HN2 : Aside0 (∀ j, j < i + 1 → (rd_T35 l (j : Int)).f0 ≠ 2) := ⟨fun j hj => by
              by_cases hji : j = i
              · subst hji; exact h2
              · exact HNI.out j (by omega)⟩
            generalize (rd_T35 l (i : Int)).f0 = k0 at *
            have e2 : (k0 == 2) = false := beq_eq_false_iff_ne.2 h2
            go_wp2_with fail
            exact ⟨⟨i + 1, by omega, by go_num, HN2, HB⟩, by simp [intOf]; omega⟩
        · obtain rfl : i = l.length := by omega
          have hT := HNF.out HNI.out
          have TW2 := TW.out
          rw [hT] at TW2
          have HTW := Aside0.mk TW2
          clear TW TW2 hT HNF HNI
          go_wp2_with fail
          refine (MC.out _ HCr.out).mono ?_
          rintro e w5 ⟨A5, c5, rfl, hC5, hb5⟩
          have HC5 := Aside0.mk hC5
          have HB5 := Aside0.mk (HB.out.trans (hb5.mono HB.out.size))
          clear hC5 hb5 HB HCr
          go_wp2_with fail
          refine (HTW.out _ _ _ HC5.out).mono ?_
          rintro e w6 ⟨rfl, hb6⟩
          have HB6 := Aside0.mk (HB5.out.trans (hb6.mono HB5.out.size))
          clear hb6 HB5 HC5
          go_wp2_with fail
          have hb7 := (below_alloc (RowKit.Below.refl w6.heap.size w6) (.cells #[.int .i64 1, .int .i64 1] 3)).alloc (by simp) (.cells #[.int .i64 2, .slice none 0 0, .slice (some ⟨w6.heap.size, 0, none⟩) 2 2, .int .i64 0, .int .i64 0, .int .i64 4, .slice none 0 0, .slice none 0 0, .int .i64 0, .int .i64 0] 49)
          have bN := Blk.new (w6.alloc (.cells #[.int .i64 1, .int .i64 1] 3)) 49 #[.int .i64 2, .slice none 0 0, .slice (some ⟨w6.heap.size, 0, none⟩) 2 2, .int .i64 0, .int .i64 0, .int .i64 4, .slice none 0 0, .slice none 0 0, .int .i64 0, .int .i64 0]
          have bI := ((below_alloc (RowKit.Below.refl _ (w6.alloc (.cells #[.int .i64 1, .int .i64 1] 3))) (.cells #[.int .i64 2, .slice none 0 0, .slice (some ⟨w6.heap.size, 0, none⟩) 2 2, .int .i64 0, .int .i64 0, .int .i64 4, .slice none 0 0, .slice none 0 0, .int .i64 0, .int .i64 0] 49)).block w6.heap.size (by simp)).trans (Blk.new w6 3 #[.int .i64 1, .int .i64 1])
          have hC7 := mA3_C bN bI
          rw [World.size_alloc] at hC7
          have HC7 := Aside0.mk hC7
          have HB7 := Aside0.mk (HB6.out.trans (hb7.mono HB6.out.size))
          clear bN bI hC7 hb7 HB6
          refine (T3.out _ _ _ HC7.out).mono ?_
          rintro e w8 ⟨rfl, hb8⟩
          have HB8 := Aside0.mk (HB7.out.trans (hb8.mono HB7.out.size))
          clear hb8 HB7 HC7
          rw [h0]
          go_wp2_with fail
          go_ret
          exact ⟨rfl, HB8.out⟩

end Go.Proofs.Ytcbflajacioinaa
