/- FindTells: for every input the law returns true, and each argument reads behind the call as it read before: the row, out of the walk. No condition. -/
import Derived.Test.YtcbflajacioinaaRows
import Derived.Test.YtcbflajacioinaaTellsWalk
import Derived.Test.YtcbflajacioinaaOpens
import Derived.WalkKit
import Derived.ProofKit
import Derived.OpenShut
import Derived.ShutString
import Derived.ChangeOld
import Derived.Below
import Derived.SizedLaws
import Derived.Carry
namespace Go.Proofs.Ytcbflajacioinaa.findTells
open Go.ChangeShapes Go.WideShapes Go.ChangeAt Go.RowKit Go.Proofs.YtcbflajacioinaaW.PrintWords Go.Proofs.YtcbflajacioinaaW.PrintLast Go.Proofs.Ytcbflajacioinaa.P
open Go.ChangeMaps (open_string shut_string)
set_option linter.unusedVariables false
theorem own : ownKnob Try.prog.godebug = none := by kernel_rfl
theorem laidOut' : laidOutB Try.prog = true := by kernel_rfl

theorem open_arr2 {H : Type} {enc : TypeId × Value → H} {P : Program} {t e : TypeId} {q : IntKind} (ht : P.underlying t = some (.array 2 e)) (he : P.underlying e = some (.int q)) (hc : P.cellsOf t = 2) (hce : P.cellsOf e = 1) {W : World} {r : Reach} {base base' : Nat} {sp : Nat → Bool} {held : Bool} {v : Value} {d : DataW H} {p : List MemPlace}
    (hv : Value.okWide P W r base t v) (h : DataW.Trod enc P W base' sp held t v d p) : ∃ n0 n1 : Int, v = .agg #[.int q n0, .int q n1] := by
  obtain ⟨cs, rfl, hsz⟩ : ∃ cs, v = .agg cs ∧ cs.size = P.cellsOf t := by
    have h : ∃ cs, v = .agg cs ∧ cs.size = P.cellsOf t ∧ Row.okWide P W r base t cs := by simpa [Value.okWide, ht] using hv
    obtain ⟨cs, h1, h2, _⟩ := h
    exact ⟨cs, h1, h2⟩
  rw [hc] at hsz
  obtain ⟨fuel, hf⟩ := h
  obtain ⟨xs, m, rfl, hx, hlen, hxn, hel⟩ := DataW.trod_array ht hf
  have e0 := hel 0 (by decide)
  have e1 := hel 1 (by decide)
  rw [hce, List.getElem?_eq_getElem (by omega)] at e0 e1
  obtain ⟨n0, q0, _, _⟩ := DataW.trod_int he e0
  obtain ⟨n1, q1, _, _⟩ := DataW.trod_int he e1
  obtain ⟨l⟩ := cs
  match l, hsz with
  | [c0, c1], _ =>
    simp [Value.cells] at q0 q1
    subst q0 q1
    exact ⟨n0, n1, rfl⟩

set_option maxRecDepth 100000 in
theorem lifted (os : Os) (started : os.Started) (H : Type) (enc : TypeId × Value → H) :
    ReturnsInHanded {} Try.checked os 4 .any (Rows.findTellsSpec.pre6 enc Try.prog Try.f4 Rows.findTellsRow.domain false) (Rows.findTellsSpec.post enc Try.prog Try.f4 false true false false) := by
  refine returnsInHanded_of_change_sized (C := Try.checked) own started (by kernel_rfl) Try.func4
    (ChangeSpec.witness6 (enc := enc) (C := Try.checked) false ⟨#[], #[.slice none 0 0, .string ByteArray.empty, (.agg #[.int .i64 0, .int .i64 0])], []⟩ 8 (by kernel_rfl) (by kernel_rfl) (by kernel_rfl) (by kernel_rfl)) ?_
  intro W base args ds gs before hval0 hW hcnd hsz0 _
  have hval : ∀ (j : Nat) t v, Try.f4.params[j]? = some t → args[j]? = some v → Value.okWide Try.prog W .any base t v := hval0
  have hW' := hW
  obtain ⟨p, q, hA0, hV, rfl, hfz, hnd⟩ := hW
  have hA : DataW.TrodAll enc Try.prog W 0 (fun _ => true) true Try.f4.params.toList args.toList ds p := hA0
  rw [Try.params4] at hA hval
  obtain ⟨v0, vs0, d0, ds0, p0, q0, hargs, rfl, rfl, h0, r0⟩ := trodAll_cons hA
  obtain ⟨v1, vs1, d1, ds1, p1, q1, rfl, rfl, rfl, h1, r1⟩ := trodAll_cons r0
  obtain ⟨v2, vs2, d2, ds2, p2, q2, rfl, rfl, rfl, h2, r2⟩ := trodAll_cons r1
  obtain ⟨rfl, rfl, rfl⟩ := trodAll_nil r2
  obtain rfl : args = #[v0, v1, v2] := by cases args; simp_all
  obtain ⟨rfl, rfl⟩ := trodVars_none hV
  obtain ⟨a0, len0, cap0, rfl⟩ := okWide_slice Try.underlying22 (hval 0 22 v0 rfl rfl)
  have k0 := h0
  have lt0 : ∀ x ∈ p0, x.block < W.heap.size := by obtain ⟨m, hm⟩ := k0; exact DataW.trod_lt m _ _ _ hm
  obtain ⟨l, hC, hlc, hlw, rfl⟩ : ∃ l : List S35, Kd.C k35 W a0 l.length l ∧ l.length ≤ cap0 ∧ (∀ x ∈ l, NodeWf x) ∧ len0 = l.length := by
    obtain ⟨fuel, hf⟩ := h0
    obtain ⟨l, ⟨A, c, e, hl, hC⟩, hw⟩ := opens_nodes.out H enc W _ _ fuel _ _ hf
    simp [Value.cells] at e
    obtain ⟨rfl, rfl, rfl⟩ := e
    exact ⟨l, hC, hl, hw, rfl⟩
  obtain ⟨a1, rfl, rfl, rfl, y1⟩ := open_string Try.underlying9 (hval 1 9 v1 rfl rfl) h1
  have k2 := h2
  have lt2 : ∀ x ∈ p2, x.block < W.heap.size := by obtain ⟨m, hm⟩ := k2; exact DataW.trod_lt m _ _ _ hm
  obtain ⟨n0, n1, rfl⟩ := open_arr2 Try.underlying37 Try.underlying3 (by kernel_rfl) (by kernel_rfl) (hval 2 37 v2 rfl rfl) k2
  clear hA0 hval0 hsz0
  refine (tells_walk l a1 n0 n1 a0 cap0 hlc (fun x hx e he => u8_range ((hlw x hx).2.1 e he).1) W hC).mono fun e W' ⟨he, bel⟩ => ?_
  subst he
  exact ⟨_, rfl, _, _, _, [], _, [], hW', trodAll_mk1 (shut_bool Try.underlying4 _), (trodAll_cons_mk (Below.trod laidOut' (by kernel_rfl) (of_decide_eq_true (by kernel_rfl)) k0 bel lt0) (trodAll_cons_mk (shut_string Try.underlying9 y1) (trodAll_cons_mk (Below.trod laidOut' (by kernel_rfl) (of_decide_eq_true (by kernel_rfl)) k2 bel lt2) trodAll_mk0))), rfl, bel.frame _, fun h => by cases h⟩
theorem over : Rows.findTellsRow.holds Try.pinned (OpenSpec.ofChange Rows.findTellsSpec) :=
  OpenClaim.holds_of_wide 4 Try.f4 rfl rfl rfl rfl rfl rfl rfl ⟨rfl, rfl, rfl, rfl, rfl⟩ rfl rfl rfl rfl rfl (by kernel_rfl) Try.func4 (by kernel_rfl)
    (of_decide_eq_true (by kernel_rfl)) (by unfold Func.isWrapper; first | (rw [if_pos (by decide +kernel)]; kernel_rfl) | (rw [if_neg (by decide +kernel)]; exact ⟨rfl, rfl⟩))
    (fun os started H enc _ => lifted os started H enc)
theorem proved : Rows.FindTellsSaid := over
#print axioms proved
end Go.Proofs.Ytcbflajacioinaa.findTells
namespace Go.Proofs.Ytcbflajacioinaa
theorem findTells_holds : Rows.FindTellsSaid := findTells.proved
end Go.Proofs.Ytcbflajacioinaa
