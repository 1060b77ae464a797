/- TwinLine: the walk. -/
import Derived.BigQuiet
import Derived.Deep.QuietTactic
import Derived.Outline
import Derived.Test.YtcbflajacioinaaTwinD
set_option linter.unusedSimpArgs false
set_option linter.unusedVariables false
namespace Go.Proofs.Ytcbflajacioinaa
open Go.RowKit Go.Shelf Go.Proofs.YtcbflajacioinaaW.PrintWords Go.Proofs.YtcbflajacioinaaW.PrintLast Go.Proofs.Ytcbflajacioinaa.P

theorem line20_calls (s : ByteArray) (hs : s.size ≤ 1000) (N : Nat) (hN : N = s.size + 1) (w : World) :
    Calls Try.prog 25 #[.string s] w fun e w' => ∃ A c, e = .returned (.slice A N c) ∧ kNode.C w' A N (lineN s) ∧ RowKit.Below w.heap.size w w' := by
  obtain ⟨k, hk⟩ := (line_eval s hs).rounds
  refine (phalaropelaw20_line.calls k s _ w hk).mono ?_
  rintro e w' ⟨v, rfl, hS, hb⟩
  obtain ⟨A, c, rfl, hc, hC⟩ := Kd.R_reads (Kd.S_R hS)
  have h := C_n49 hC
  rw [line_nodes, line49_len, ← hN] at h
  exact ⟨A, c, by rw [line49_len, ← hN], h, hb⟩

set_option maxRecDepth 100000 in
set_option maxHeartbeats 1000000 in
theorem line_walk (s : ByteArray) (w : World) :
    Calls Try.prog 8 #[.string s] w fun e w' => e = .returned (.bool true) ∧ RowKit.Below w.heap.size w w' := by
  by_cases hs : 50 < s.size
  · have d0 : decide (50 < (s.size : Int)) = true := decide_eq_true (by omega)
    go_enter Try.func8, Try.ntmps8
    go_wp2_with (go_at_call 20; refine (awake20_calls _).mono ?_; rintro e w2 ⟨rfl, hb2⟩)
    go_ret
    exact ⟨rfl, hb2⟩
  · have d0 : decide (50 < (s.size : Int)) = false := decide_eq_false (by omega)
    have hs2 : s.size ≤ 1000 := by omega
    obtain ⟨N, hN⟩ : ∃ N, N = s.size + 1 := ⟨_, rfl⟩
    have hlen : (lineN s).length = N := by rw [lineN_len, hN]
    have LC := Aside0.mk (fun W => line20_calls s hs2 N hN W)
    have t1 := fun (W : World) (A : Option Addr) (c : Nat) (h : kNode.C W A (lineN s).length (lineN s)) => twin_calls (lineN s) A c (lineN_ok s hs2) (by omega) (lineN_f2 s) (2 * (lineN s).length * (lineN s).length) W h
    have t2 := fun (W : World) (A : Option Addr) (c : Nat) (h : kNode.C W A (lineN s).length (lineN s)) => short_calls (lineN s) A c (lineN_ok s hs2) (by omega) (lineN_f2 s) W h
    have t3 := fun (W : World) (A : Option Addr) (c : Nat) (h : kNode.C W A (lineN s).length (lineN s)) => empty_calls (lineN s) A c (lineN_ok s hs2) (by omega) (lineN_f2 s) W h
    rw [line_twin s hs2] at t1
    rw [line_short s hs2] at t2 t3
    rw [line_bytes] at t2
    rw [hlen] at t1 t2 t3
    have T1 := Aside0.mk t1
    have T2 := Aside0.mk t2
    have T3 := Aside0.mk t3
    have hn51 : N ≤ 51 := by omega
    have hmul : N * N ≤ 51 * 51 := Nat.mul_le_mul hn51 hn51
    have hw1 : wrap64 (2 * (N : Int)) = 2 * N := w64 _ (by omega)
    have hw2 : wrap64 (2 * (N : Int) * (N : Int)) = 2 * N * N := w64 _ (by
      have h1 : ((N * N : Nat) : Int) ≤ ((51 * 51 : Nat) : Int) := Int.ofNat_le.2 hmul
      have h2 : 2 * (N : Int) * (N : Int) = 2 * ((N * N : Nat) : Int) := by push_cast; rw [Int.mul_assoc]
      rw [h2]
      omega)
    clear t1 t2 t3 hlen hN
    go_enter Try.func8, Try.ntmps8
    go_wp2_with (go_at_call 20; refine (awake20_calls _).mono ?_; rintro e w2 ⟨rfl, hb2⟩)
    refine (LC.out _).mono ?_
    rintro e w3 ⟨A, c, rfl, hC3, hb3⟩
    have HC3 := Aside0.mk hC3
    have HB3 := Aside0.mk (hb2.trans (hb3.mono hb2.size))
    clear hC3 hb3 hb2
    go_wp2_with fail
    refine (T1.out _ _ _ HC3.out).mono ?_
    rintro e w4 ⟨rfl, hb4⟩
    have HC4 := Aside0.mk (Kd.C_below HC3.out hb4)
    have HB4 := Aside0.mk (HB3.out.trans (hb4.mono HB3.out.size))
    clear hb4 HC3 HB3
    go_wp2_with fail
    refine (T2.out _ _ _ HC4.out).mono ?_
    rintro e w5 ⟨rfl, hb5⟩
    have HC5 := Aside0.mk (Kd.C_below HC4.out hb5)
    have HB5 := Aside0.mk (HB4.out.trans (hb5.mono HB4.out.size))
    clear hb5 HC4 HB4
    go_wp2_with fail
    refine (T3.out _ _ _ HC5.out).mono ?_
    rintro e w6 ⟨rfl, hb6⟩
    have HB6 := Aside0.mk (HB5.out.trans (hb6.mono HB5.out.size))
    clear hb6 HC5 HB5
    go_wp2_with fail
    go_ret
    exact ⟨rfl, HB6.out⟩

end Go.Proofs.Ytcbflajacioinaa
