/- What an argument reads as: its cells, as kinds. -/
import Derived.Deep.Slices
import Derived.ChangeSame
import Derived.DataReads
import Derived.Test.YtcbflajacioinaaPx2
namespace Go.Proofs.Ytcbflajacioinaa
open Go.RowKit Go.Proofs.YtcbflajacioinaaW.PrintWords Go.Proofs.YtcbflajacioinaaW.PrintLast Go.Proofs.Ytcbflajacioinaa.P

/-- A type's readings are a kind's cells, and its values are well made. -/
structure Opens {α : Type} (P : Program) (t : TypeId) (k : Kd α) (ok : α → Prop) : Prop where
  out : ∀ (H : Type) (enc : TypeId × Value → H) (w : World) (spare : Nat → Bool) (held : Bool) (fuel : Nat) (cs : List Value) (x : DataW H × List MemPlace), DataW.trod enc P w 0 spare held fuel t cs = some x → ∃ v, k.K w v cs ∧ ok v

theorem opens_int {P : Program} {t : TypeId} {q : IntKind} (ht : P.underlying t = some (.int q)) : Opens P t (Kd.int q) (fun n => (Lit.int q n).wf = true) := by
  refine ⟨fun H enc w spare held fuel cs => ?_⟩
  intro x h
  cases fuel with
  | zero => cases h
  | succ fuel =>
    unfold DataW.trod at h
    rw [ht] at h
    match cs, h with
    | [.int k' n], h =>
      simp only at h
      split at h
      · rename_i hh
        obtain ⟨rfl, hw⟩ := hh
        exact ⟨n, rfl, hw⟩
      · cases h

theorem Deep_add_add (a : Addr) (m n : Nat) : (a.add m).add n = a.add (m + n) := by
  first
    | exact Addr.add_add a m n
    | (unfold Addr.add; split <;> simp_all [Nat.add_assoc])
    | rfl

theorem opens_slice {α : Type} {P : Program} {t e : TypeId} {k : Kd α} {ok : α → Prop} (ht : P.underlying t = some (.slice e)) (he : Opens P e k ok) (hsz : P.cellsOf e = k.sz) : Opens P t (Kd.slice e k) (fun l => ∀ x ∈ l, ok x) := by
  refine ⟨fun H enc w spare held fuel cs => ?_⟩
  intro x h
  rcases Deep.open_slice ht h with ⟨rfl, _⟩ | ⟨a, len, cap, m, n, D, Pl, rfl, _, hl, hm, hmm, _, hel⟩
  · exact ⟨[], ⟨none, 0, rfl, Nat.le_refl _, rfl, by show 0 ≤ 9223372036854775807; omega, fun h => absurd h (by show ¬ 0 < 0; omega)⟩, fun x hx => by cases hx⟩
  · have hlm : len ≤ m := by rw [hmm]; split <;> omega
    have hx : ∀ i, i < len → ∃ v, (∃ cs', w.cells? 0 (a.add (i * P.cellsOf e)) (P.cellsOf e) = some cs' ∧ k.K w v cs') ∧ ok v := fun i hi => by
      obtain ⟨cs', h1, h2⟩ := hel i (by omega)
      obtain ⟨v, h3, h4⟩ := he.out H enc w spare held n cs' _ h2
      exact ⟨v, ⟨cs', h1, h3⟩, h4⟩
    have hlist : ∀ j, j ≤ len → ∃ l : List α, l.length = j ∧ (∀ i v, l[i]? = some v → (∃ cs', w.cells? 0 (a.add (i * P.cellsOf e)) (P.cellsOf e) = some cs' ∧ k.K w v cs')) ∧ ∀ x ∈ l, ok x := by
      intro j
      induction j with
      | zero => exact fun _ => ⟨[], rfl, fun i v h => by simp at h, fun x hx => by cases hx⟩
      | succ j ih =>
        intro hj
        obtain ⟨l, h1, h2, h3⟩ := ih (by omega)
        obtain ⟨v, h4, h5⟩ := hx j (by omega)
        refine ⟨l ++ [v], by simp [h1], fun i u hu => ?_, fun x hx => ?_⟩
        · by_cases hi : i < l.length
          · rw [List.getElem?_append_left hi] at hu
            exact h2 i u hu
          · obtain rfl : i = l.length := by
              have := (List.getElem?_eq_some_iff.1 hu).1
              simp at this; omega
            simp at hu
            subst hu
            rw [h1]
            exact h4
        · rcases List.mem_append.1 hx with hx | hx
          · exact h3 x hx
          · obtain rfl : x = v := by simpa using hx
            exact h5
    obtain ⟨l, h1, h2, h3⟩ := hlist len (Nat.le_refl _)
    refine ⟨l, ⟨some a, cap, by rw [h1], by omega, rfl, ?_, fun _ => ⟨a, rfl, fun j p hj => ?_⟩⟩, h3⟩
    · unfold maxLen at hm; omega
    · obtain ⟨cs', h4, h5⟩ := h2 j p hj
      obtain ⟨_, h6, h7⟩ := World.cells?_some h4
      refine ⟨cs', k.K_len h5, h5, fun i u hu => ?_⟩
      have hi : i < P.cellsOf e := by have := (List.getElem?_eq_some_iff.1 hu).1; rwa [h6] at this
      have h8 := h7 i hi
      rw [hu] at h8
      rw [← h8, hsz]
      exact congrArg w.cell? (Deep_add_add a _ _).symm

/-- Fields, one behind the other, from a cell on. -/
structure OpensF {α : Type} (P : Program) (fs : List Field) (off : Nat) (k : Kd α) (ok : α → Prop) : Prop where
  out : ∀ (H : Type) (enc : TypeId × Value → H) (w : World) (spare : Nat → Bool) (held : Bool) (fuel : Nat) (cs : List Value), cs.length = off + k.sz →
    (∀ (i : Nat) (f : Field), fs[i]? = some f → ∃ x, DataW.trod enc P w 0 spare held fuel f.type ((cs.drop f.offset).take (P.cellsOf f.type)) = some x) → ∃ v, k.K w v (cs.drop off) ∧ ok v

theorem opensF_one {α : Type} {P : Program} {f : Field} {off : Nat} {k : Kd α} {ok : α → Prop} (h : Opens P f.type k ok) (ho : f.offset = off) (hs : P.cellsOf f.type = k.sz) : OpensF P [f] off k ok := by
  refine ⟨fun H enc w spare held fuel cs => ?_⟩
  intro hl hx
  obtain ⟨x, hx⟩ := hx 0 f rfl
  obtain ⟨v, h1, h2⟩ := h.out H enc w spare held fuel _ x hx
  rw [ho, hs, List.take_of_length_le (by simp; omega)] at h1
  exact ⟨v, h1, h2⟩
theorem opensF_cons {α β : Type} {P : Program} {f : Field} {fs : List Field} {off : Nat} {k : Kd α} {k' : Kd β} {ok : α → Prop} {ok' : β → Prop} (h : Opens P f.type k ok) (ho : f.offset = off) (hs : P.cellsOf f.type = k.sz) (h' : OpensF P fs (off + k.sz) k' ok') :
    OpensF P (f :: fs) off (Kd.pair k k') (fun p => ok p.1 ∧ ok' p.2) := by
  refine ⟨fun H enc w spare held fuel cs => ?_⟩
  intro hl hx
  have hsz : (Kd.pair k k').sz = k.sz + k'.sz := rfl
  rw [hsz] at hl
  obtain ⟨x, hx0⟩ := hx 0 f rfl
  obtain ⟨v, h1, h2⟩ := h.out H enc w spare held fuel _ x hx0
  rw [ho, hs] at h1
  obtain ⟨v', h3, h4⟩ := h'.out H enc w spare held fuel cs (by omega) (fun i g hg => hx (i + 1) g (by simpa using hg))
  refine ⟨(v, v'), ⟨_, _, ?_, h1, h3⟩, h2, h4⟩
  rw [← List.drop_drop, List.take_append_drop]

theorem opens_struct {α β : Type} {P : Program} {t : TypeId} {fs : Array Field} {k : Kd α} {ok : α → Prop} (ht : P.underlying t = some (.struct fs)) (g : β → α) (g' : α → β) (hg : ∀ a, g (g' a) = a) (h : OpensF P fs.toList 0 k ok) (hs : P.cellsOf t = k.sz) :
    Opens P t (Kd.iso k g) (fun b => ok (g b)) := by
  refine ⟨fun H enc w spare held fuel cs => ?_⟩
  intro x hx
  obtain ⟨xs, n, _, _, hl, hlen, hf⟩ := DataW.trod_struct ht hx
  obtain ⟨v, h1, h2⟩ := h.out H enc w spare held n cs (by omega) (fun i f hi => by
    have hi' : i < xs.length := by have := (List.getElem?_eq_some_iff.1 hi).1; simp at this; omega
    exact ⟨xs[i], (hf i f (by simpa using hi)).trans (List.getElem?_eq_getElem hi')⟩)
  refine ⟨g' v, ?_, by show ok (g (g' v)); rw [hg]; exact h2⟩
  show k.K w (g (g' v)) cs
  rw [hg]
  exact h1

/-- The document's nodes, as an argument. -/
def EdgeWf (x : S72) : Prop := (Lit.int .u8 x.f0).wf = true ∧ (Lit.int .u8 x.f1).wf = true ∧ (Lit.int .i64 x.f2).wf = true
abbrev wfI (q : IntKind) (n : Int) : Prop := (Lit.int q n).wf = true
theorem u8_range {n : Int} (h : (Lit.int .u8 n).wf = true) : 0 ≤ n ∧ n ≤ 255 := by
  have h1 : IntKind.u8.min = 0 := by decide
  have h2 : IntKind.u8.max = 255 := by decide
  simp only [Lit.wf, Bool.and_eq_true, decide_eq_true_eq, h1, h2] at h
  exact h
theorem i64_range {n : Int} (h : (Lit.int .i64 n).wf = true) : -9223372036854775808 ≤ n ∧ n ≤ 9223372036854775807 := by
  have h1 : IntKind.i64.min = -9223372036854775808 := by decide
  have h2 : IntKind.i64.max = 9223372036854775807 := by decide
  simp only [Lit.wf, Bool.and_eq_true, decide_eq_true_eq, h1, h2] at h
  exact h
theorem opens_edge : Opens Try.prog 72 k72 EdgeWf := by
  refine opens_struct (k := Kd.pair (Kd.int .u8) (Kd.pair (Kd.int .u8) (Kd.int .i64))) (ok := fun p => wfI .u8 p.1 ∧ wfI .u8 p.2.1 ∧ wfI .i64 p.2.2) Try.underlying72 (fun x : S72 => (x.f0, x.f1, x.f2)) (fun p => ⟨p.1, p.2.1, p.2.2⟩) (fun _ => rfl) ?_ (by kernel_rfl)
  refine opensF_cons (k := Kd.int .u8) (k' := Kd.pair (Kd.int .u8) (Kd.int .i64)) (ok := wfI .u8) (ok' := fun p => wfI .u8 p.1 ∧ wfI .i64 p.2) (opens_int Try.underlying5) rfl (by kernel_rfl) ?_
  refine opensF_cons (k := Kd.int .u8) (k' := Kd.int .i64) (ok := wfI .u8) (ok' := wfI .i64) (opens_int Try.underlying5) rfl (by kernel_rfl) ?_
  exact opensF_one (opens_int Try.underlying3) rfl (by kernel_rfl)
def NodeWf (x : S35) : Prop := wfI .i64 x.f0 ∧ (∀ e ∈ x.f1, EdgeWf e) ∧ (∀ t ∈ x.f2, wfI .i64 t) ∧ wfI .i64 x.f3 ∧ wfI .i64 x.f4
theorem opens_node : Opens Try.prog 35 k35 NodeWf := by
  refine opens_struct (k := Kd.pair (Kd.int .i64) (Kd.pair (Kd.slice 72 k72) (Kd.pair (Kd.slice 3 (Kd.int .i64)) (Kd.pair (Kd.int .i64) (Kd.int .i64))))) (ok := fun p => wfI .i64 p.1 ∧ (∀ e ∈ p.2.1, EdgeWf e) ∧ (∀ t ∈ p.2.2.1, wfI .i64 t) ∧ wfI .i64 p.2.2.2.1 ∧ wfI .i64 p.2.2.2.2) Try.underlying35 (fun x : S35 => (x.f0, x.f1, x.f2, x.f3, x.f4)) (fun p => ⟨p.1, p.2.1, p.2.2.1, p.2.2.2.1, p.2.2.2.2⟩) (fun _ => rfl) ?_ (by kernel_rfl)
  refine opensF_cons (k := Kd.int .i64) (k' := Kd.pair (Kd.slice 72 k72) (Kd.pair (Kd.slice 3 (Kd.int .i64)) (Kd.pair (Kd.int .i64) (Kd.int .i64)))) (ok := wfI .i64) (ok' := fun p => (∀ e ∈ p.1, EdgeWf e) ∧ (∀ t ∈ p.2.1, wfI .i64 t) ∧ wfI .i64 p.2.2.1 ∧ wfI .i64 p.2.2.2) (opens_int Try.underlying3) rfl (by kernel_rfl) ?_
  refine opensF_cons (k := Kd.slice 72 k72) (k' := Kd.pair (Kd.slice 3 (Kd.int .i64)) (Kd.pair (Kd.int .i64) (Kd.int .i64))) (ok := fun l => ∀ e ∈ l, EdgeWf e) (ok' := fun p => (∀ t ∈ p.1, wfI .i64 t) ∧ wfI .i64 p.2.1 ∧ wfI .i64 p.2.2) (opens_slice Try.underlying32 opens_edge (by kernel_rfl)) rfl (by kernel_rfl) ?_
  refine opensF_cons (k := Kd.slice 3 (Kd.int .i64)) (k' := Kd.pair (Kd.int .i64) (Kd.int .i64)) (ok := fun l => ∀ t ∈ l, wfI .i64 t) (ok' := fun p => wfI .i64 p.1 ∧ wfI .i64 p.2) (opens_slice Try.underlying33 (opens_int Try.underlying3) (by kernel_rfl)) rfl (by kernel_rfl) ?_
  refine opensF_cons (k := Kd.int .i64) (k' := Kd.int .i64) (ok := wfI .i64) (ok' := wfI .i64) (opens_int Try.underlying3) rfl (by kernel_rfl) ?_
  exact opensF_one (opens_int Try.underlying3) rfl (by kernel_rfl)
theorem opens_nodes : Opens Try.prog 22 (Kd.slice 35 k35) (fun l => ∀ x ∈ l, NodeWf x) := opens_slice Try.underlying22 opens_node (by kernel_rfl)

end Go.Proofs.Ytcbflajacioinaa
