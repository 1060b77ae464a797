/- The document's table of ways, told as the print tells a function's answer (its printed proof falls; this one goes by the walk of TableWalk). -/
import Derived.Test.YtcbflajacioinaaPx0
import Derived.Test.YtcbflajacioinaaTableWalk
set_option linter.unusedVariables false
namespace Go.Proofs.Ytcbflajacioinaa.P
open Go.RowKit Go.Proofs.YtcbflajacioinaaW.PrintWords Go.Proofs.YtcbflajacioinaaW.PrintLast Go.Proofs.YtcbflajacioinaaW.PrintMore

def rowL (l : List S35) (s : ByteArray) (q : Nat) : List Int := (List.range l.length).map fun (i : Nat) => manyP (madeL l) s ⟨(i : Int), (q : Int)⟩
def tabL (l : List S35) (s : ByteArray) : List (List Int) := (List.range (s.size + 1)).map (rowL l s)
def tabOk (l : List S35) (s : ByteArray) : Bool := mayB (madeL l) && decide (l.length ≤ 1000) && decide (s.size ≤ 1000) && l.all (fun x => decide (x.f1.length ≤ 1000) && decide (x.f2.length ≤ 1000))
def phalaroperef17_Table.f (_k : Nat) (l0 : List (S35)) (a1 : ByteArray) : Option ((List (List Int))) := if tabOk l0 a1 = true then some (tabL l0 a1) else none
theorem phalaroperef17_Table.mono : ∀ a0 a1 k, LeO (phalaroperef17_Table.f k a0 a1) (phalaroperef17_Table.f (k + 1) a0 a1) := fun _ _ _ => LeO.refl _

theorem row_R {W : World} {base B n : Nat} {f : Nat → Int} (hn : n ≤ 1000000) (hB : base ≤ B) (ok : Nat → Prop) (hok : ok B) (r : RowAt W B n f 0) :
    Kd.R (Kd.int .i64) 3 W base ok (.slice (some ⟨B, 0, none⟩) n n) ((List.range n).map f) := by
  obtain ⟨rc, h1, h2, h3⟩ := r
  refine ⟨fun k hk => ?_, rc.toList, ⟨?_, .inr ⟨B, n, rc, ?_, hB, h1, ?_, ?_, ?_, ?_⟩⟩, ?_, fun j p hj => ?_⟩
  · obtain rfl : B = k := by simpa [Value.ownBlock] using hk
    exact hok
  · show rc.toList.length = ((List.range n).map f).length * 1
    simp [h2]
  · simp
  · simp
  · unfold maxLen; omega
  · show rc.size = n * 1
    omega
  · show rc.toList.take (((List.range n).map f).length * 1) = rc.toList
    exact List.take_of_length_le (by simp [h2])
  · show rc.toList.length = ((List.range n).map f).length * 1
    simp [h2]
  · have hjn : j < n := by have := (List.getElem?_eq_some_iff.1 hj).1; simpa using this
    have hp : f j = p := by
      rw [List.getElem?_map, List.getElem?_range hjn] at hj
      simpa using hj
    show (rc.toList.drop (j * 1)).take 1 = [Value.int .i64 p]
    have h4 := h3 j (Nat.zero_le _) hjn
    have h5 : rc[j]'(by omega) = .int .i64 (f j) := by rw [Array.getElem?_eq_getElem (by omega)] at h4; exact Option.some.inj h4
    rw [Nat.mul_one, List.drop_eq_getElem_cons (by simpa [h2] using hjn), List.take_succ_cons, List.take_zero]
    simp [h5, hp]

theorem tab_S {W : World} {base top B n h : Nat} {f : Nat → Nat → Int} (hn : n ≤ 1000000) (hh : h ≤ 1000000) (hB : base ≤ B) (t : TabAt W base top B n h f 0) :
    Kd.S (Kd.slice 3 (Kd.int .i64)) 33 W base (fun _ => True) (.slice (some ⟨B, 0, none⟩) h h) ((List.range h).map fun q => (List.range n).map (f q)) := by
  obtain ⟨cs, g, h1, h2, h3⟩ := t
  refine ⟨g, fun _ _ => trivial, cs.toList, ⟨?_, .inr ⟨B, h, cs, ?_, hB, h1, ?_, ?_, ?_, ?_⟩⟩, ?_, fun j p hj => ?_⟩
  · show cs.toList.length = (((List.range h).map fun q => (List.range n).map (f q)).zipIdx).length * 1
    simp [h2]
  · simp
  · simp
  · unfold maxLen; omega
  · show cs.size = h * 1
    omega
  · show cs.toList.take ((((List.range h).map fun q => (List.range n).map (f q)).zipIdx).length * 1) = cs.toList
    exact List.take_of_length_le (by simp [h2])
  · show cs.toList.length = (((List.range h).map fun q => (List.range n).map (f q)).zipIdx).length * 1
    simp [h2]
  · have hjn : j < h := by have := (List.getElem?_eq_some_iff.1 hj).1; simpa using this
    have hp : ((List.range n).map (f j), j) = p := by
      rw [List.getElem?_zipIdx, List.getElem?_map, List.getElem?_range hjn] at hj
      simpa using hj
    subst hp
    obtain ⟨Bq, h4, ⟨h5, _, h6⟩, h7, h8⟩ := h3 j (Nat.zero_le _) hjn
    have h9 : cs[j]'(by omega) = .slice (some ⟨Bq, 0, none⟩) n n := by rw [Array.getElem?_eq_getElem (by omega)] at h4; exact Option.some.inj h4
    refine ⟨.slice (some ⟨Bq, 0, none⟩) n n, ?_, ?_⟩
    · show (cs.toList.drop (j * 1)).take 1 = _
      rw [Nat.mul_one, List.drop_eq_getElem_cons (by simpa [h2] using hjn), List.take_succ_cons, List.take_zero]
      simp [h9]
    · exact row_R hn h5 _ ⟨⟨trivial, by simp [Value.ownBlock]; omega⟩, h6⟩ h8

theorem phalaroperef17_Table.calls (k : Nat) (A0 : Option Addr) (c0 : Nat) (l0 : List (S35)) (a1 : ByteArray) (r : List (List Int)) (w : World) (hr0 : Kd.C k35 w A0 l0.length l0) (hc0 : l0.length ≤ c0) (h : phalaroperef17_Table.f k l0 a1 = some r) :
    Calls Try.prog 33 #[.slice A0 l0.length c0, .string a1] w fun e w' => ∃ v0_ : Value, e = .returned (v0_) ∧ Kd.S (Kd.slice 3 (Kd.int .i64)) 33 w' w.heap.size (fun _ => True) v0_ r ∧ Below w.heap.size w w' := by
  unfold phalaroperef17_Table.f at h
  by_cases hk : tabOk l0 a1 = true
  · rw [if_pos hk] at h
    obtain rfl := Option.some.inj h
    unfold tabOk at hk
    simp only [Bool.and_eq_true, decide_eq_true_eq, List.all_eq_true] at hk
    refine (table_calls l0 a1 hk.1.1.1 hk.1.1.2 hk.1.2 hk.2 A0 c0 w hr0).mono ?_
    rintro e w' ⟨B, rfl, hB, ht, hb⟩
    exact ⟨_, rfl, tab_S (by omega) (by omega) hB ht, hb⟩
  · rw [if_neg hk] at h
    cases h

end Go.Proofs.Ytcbflajacioinaa.P
