/- slices.SortedFunc(slices.Values(l), cmp) at edges: the edges, sorted by their lower bounds. -/
import Derived.Shelf.SlSortCmp.WholeK
import Derived.Shelf.SlSortCmp.NoneTotal
import Derived.Lib.OwnBridge
import Derived.Test.YtcbflajacioinaaMachIter
namespace Go.Proofs.Ytcbflajacioinaa
open Go.RowKit Go.Shelf Go.Sort Go.Proofs.YtcbflajacioinaaW.PrintWords Go.Proofs.YtcbflajacioinaaW.PrintLast

def Try.sortEdge_ren : Go.Shelf.Ren := ⟨fun | 6 => 55 | 15 => 59 | 14 => 58 | 28 => 68 | 29 => 69 | 20 => 60 | 21 => 61 | 22 => 62 | 23 => 63 | 24 => 64 | 25 => 65 | 26 => 66 | 27 => 67 | 46 => 70 | 47 => 71 | 48 => 72 | 49 => 73 | 50 => 74 | 57 => 75 | n => n, fun | 22 => 47 | 24 => 52 | 25 => 106 | 3 => 3 | 39 => 114 | 0 => 0 | 53 => 123 | 55 => 125 | 4 => 4 | 46 => 117 | 45 => 116 | 50 => 80 | 5 => 5 | 9 => 9 | 66 => 126 | 70 => 130 | 76 => 132 | 77 => 133 | n => n, fun | n => n⟩
theorem Try.sortEdge : Go.Proofs.SlLaysF0.n6 Try.prog Try.sortEdge_ren := {
  mixed := by kernel_rfl,
  f6 := ⟨Try.f55.name, by decide, Try.func55.trans (congrArg some (by kernel_rfl))⟩,
  f14 := ⟨Try.f58.name, by decide, Try.func58.trans (congrArg some (by kernel_rfl))⟩,
  f15 := Try.func59.trans (congrArg some (by kernel_rfl)),
  f20 := ⟨Try.f60.name, by decide, Try.func60.trans (congrArg some (by kernel_rfl))⟩,
  f21 := ⟨Try.f61.name, by decide, Try.func61.trans (congrArg some (by kernel_rfl))⟩,
  f22 := ⟨Try.f62.name, by decide, Try.func62.trans (congrArg some (by kernel_rfl))⟩,
  f23 := ⟨Try.f63.name, by decide, Try.func63.trans (congrArg some (by kernel_rfl))⟩,
  f24 := ⟨Try.f64.name, by decide, Try.func64.trans (congrArg some (by kernel_rfl))⟩,
  f25 := ⟨Try.f65.name, by decide, Try.func65.trans (congrArg some (by kernel_rfl))⟩,
  f26 := ⟨Try.f66.name, by decide, Try.func66.trans (congrArg some (by kernel_rfl))⟩,
  f27 := ⟨Try.f67.name, by decide, Try.func67.trans (congrArg some (by kernel_rfl))⟩,
  f28 := Try.func68.trans (congrArg some (by kernel_rfl)),
  f29 := Try.func69.trans (congrArg some (by kernel_rfl)),
  f46 := ⟨Try.f70.name, by decide, Try.func70.trans (congrArg some (by kernel_rfl))⟩,
  f47 := Try.func71.trans (congrArg some (by kernel_rfl)),
  f48 := Try.func72.trans (congrArg some (by kernel_rfl)),
  f49 := ⟨Try.f73.name, by decide, Try.func73.trans (congrArg some (by kernel_rfl))⟩,
  f50 := ⟨Try.f74.name, by decide, Try.func74.trans (congrArg some (by kernel_rfl))⟩,
  f57 := ⟨Try.f75.name, by decide, Try.func75.trans (congrArg some (by kernel_rfl))⟩,
  t0 := Try.underlying0,
  a0 := Try.isAgg0,
  z0 := Try.sizeOf0,
  v0 := Try.zeroValue0,
  t3 := Try.underlying3,
  a3 := Try.isAgg3,
  z3 := Try.sizeOf3,
  v3 := Try.zeroValue3,
  t4 := Try.underlying4,
  a4 := Try.isAgg4,
  z4 := Try.sizeOf4,
  v4 := Try.zeroValue4,
  t5 := Try.underlying5,
  a5 := Try.isAgg5,
  z5 := Try.sizeOf5,
  v5 := Try.zeroValue5,
  t9 := Try.underlying9,
  a9 := Try.isAgg9,
  z9 := Try.sizeOf9,
  v9 := Try.zeroValue9,
  t22 := Try.underlying47,
  a22 := Try.isAgg47,
  z22 := Try.sizeOf47,
  v22 := Try.zeroValue47,
  t25 := Try.underlying106,
  a25 := Try.isAgg106,
  z25 := Try.sizeOf106,
  v25 := Try.zeroValue106,
  t39 := Try.underlying114,
  a39 := Try.isAgg114,
  z39 := Try.sizeOf114,
  v39 := Try.zeroValue114,
  t45 := Try.underlying116,
  a45 := Try.isAgg116,
  z45 := Try.sizeOf116,
  v45 := Try.zeroValue116,
  t46 := Try.underlying117,
  a46 := Try.isAgg117,
  z46 := Try.sizeOf117,
  v46 := Try.zeroValue117,
  t50 := Try.underlying80,
  a50 := Try.isAgg80,
  z50 := Try.sizeOf80,
  v50 := Try.zeroValue80,
  t53 := Try.underlying123,
  a53 := Try.isAgg123,
  z53 := Try.sizeOf123,
  v53 := Try.zeroValue123,
  t55 := Try.underlying125,
  a55 := Try.isAgg125,
  z55 := Try.sizeOf125,
  v55 := Try.zeroValue125,
  t66 := Try.underlying126,
  a66 := Try.isAgg126,
  z66 := Try.sizeOf126,
  v66 := Try.zeroValue126,
  t70 := Try.underlying130,
  a70 := Try.isAgg130,
  z70 := Try.sizeOf130,
  v70 := Try.zeroValue130,
  t76 := Try.underlying132,
  a76 := Try.isAgg132,
  z76 := Try.sizeOf132,
  v76 := Try.zeroValue132,
  t77 := Try.underlying133,
  a77 := Try.isAgg133,
  z77 := Try.sizeOf133,
  v77 := Try.zeroValue133 }


theorem flatMap_get {α : Type} {f : α → List Value} {k : Nat} (hk : ∀ x, (f x).length = k) : ∀ (xs : List α) (i c : Nat) (hi : i < xs.length), c < k → (xs.flatMap f)[i * k + c]? = (f xs[i])[c]?
  | [], i, c, hi, _ => absurd hi (Nat.not_lt_zero _)
  | x :: xs, 0, c, _, hc => by
    rw [List.flatMap_cons, Nat.zero_mul, Nat.zero_add, List.getElem?_append_left (by rw [hk]; exact hc)]; rfl
  | x :: xs, i + 1, c, hi, hc => by
    rw [List.flatMap_cons, List.getElem?_append_right (by rw [hk, Nat.add_mul]; omega), hk, show (i + 1) * k + c - k = i * k + c by rw [Nat.add_mul]; omega, flatMap_get hk xs i c (by simpa using hi) hc]
    rfl

theorem holdsK_of_cells {α : Type} [Inhabited α] {enc : α → List Value} {k : Nat} (hk : ∀ x, (enc x).length = k) (W : World) (g : Nat) (d : Array α)
    (hc : ∀ t u, (d.toList.flatMap enc)[t]? = some u → W.cell? ⟨g, t, none⟩ = some u) (hf : ∀ t, W.frozen? ⟨g, t, none⟩ = false) : HoldsK enc k W g 0 d := by
  intro t ht
  have ht' : t < d.size * k := by simpa using ht
  have k0 : 0 < k := by rcases Nat.eq_zero_or_pos k with h | h; · subst h; simp at ht'
                        · exact h
  refine ⟨?_, hf _⟩
  rw [Nat.zero_add]
  refine hc t _ ?_
  have hq : t / k < d.size := Nat.div_lt_of_lt_mul (by rw [Nat.mul_comm]; exact ht')
  have hm := Nat.mod_lt t k0
  have e : t = t / k * k + t % k := by rw [Nat.mul_comm]; exact (Nat.div_add_mod t k).symm
  have e2 := flatMap_get hk d.toList (t / k) (t % k) (by simpa using hq) hm
  rw [← e] at e2
  rw [e2, get_flatK _ _ _ _ ht']
  simp only [id, Array.getElem_toList]
  rw [getElem!_pos d _ hq, getElem!_pos _ _ (by rw [hk]; exact hm), List.getElem?_eq_getElem (by rw [hk]; exact hm)]

theorem readsRow_of_holdsK {α β : Type} [Inhabited α] {enc : α → List Value} {k : Nat} (hk : ∀ x, (enc x).length = k) {R : β → List Value → Prop} {pr : α → β} (hR : ∀ x, R (pr x) (enc x)) {W : World} {g : Nat} {d : Array α} (h : HoldsK enc k W g 0 d) (hn : d.size ≤ 9223372036854775807) :
    ReadsRow R k W (some ⟨g, 0, none⟩) d.size (d.toList.map pr) := by
  refine ⟨by simp, hn, fun _ => ⟨_, rfl, fun j p hj => ?_⟩⟩
  rw [List.getElem?_map, Array.getElem?_toList] at hj
  obtain ⟨x, hx, rfl⟩ := Option.map_eq_some_iff.1 hj
  have hjd : j < d.size := (Array.getElem?_eq_some_iff.1 hx).1
  refine ⟨enc x, hk x, hR x, fun i u hu => ?_⟩
  have hi : i < k := by have := (List.getElem?_eq_some_iff.1 hu).1; rwa [hk] at this
  have hc := (HoldsK.cell h hjd hi).1
  rw [add_plain]
  rw [Nat.zero_add] at hc
  rw [hc, getElem!_pos d j hjd]
  have hx' : d[j] = x := by rw [Array.getElem?_eq_getElem hjd] at hx; exact Option.some.inj hx
  rw [hx', getElem!_pos _ _ (by rw [hk]; exact hi)]
  rw [List.getElem?_eq_getElem (by rw [hk]; exact hi)] at hu
  exact hu

/-- Edges whose lower bounds are bytes. -/
def EdgeOk (x : Edge) : Prop := 0 ≤ x.f0 ∧ x.f0 ≤ 255
abbrev EdgeB := { x : Edge // EdgeOk x }
instance : Inhabited EdgeB := ⟨⟨zEdge, by unfold EdgeOk zEdge; decide⟩⟩
def encB (x : EdgeB) : List Value := encEdge x.1
theorem encB_len (x : EdgeB) : (encB x).length = 3 := rfl
def cfB (x y : EdgeB) : Int := x.1.f0 - y.1.f0
theorem ltB (x y : EdgeB) : ltOf cfB x y = decide (x.1.f0 < y.1.f0) := by unfold ltOf cfB; simp; omega
theorem swoB : SWO (ltOf cfB) where
  irrefl x := by rw [ltB]; simp
  trans x y z h1 h2 := by rw [ltB] at *; simp at *; omega
  ntrans x y z h1 h2 := by rw [ltB] at *; simp at *; omega

theorem cmpLays (blk off size : Nat) (w : World) : CmpLays Try.prog 52 #[] encB 3 cfB blk off size w := by
  intro m os dk _ x y
  refine (cmp_calls x.1.f0 x.1.f1 x.1.f2 y.1.f0 y.1.f1 y.1.f2 _ x.2 y.2).mono ?_
  rintro e w' ⟨rfl, o1, o2, rfl⟩
  exact ⟨rfl, 0, #[o1, o2], by rw [alloc_eq_grow, alloc_eq_grow, grow_grow]; rfl⟩

theorem sort_calls (g cap : Nat) (d : Array EdgeB) (w : World) (hH : HoldsK encB 3 w g 0 d) (hg : g < w.heap.size) (hsz : d.size < 4611686018427387904) :
    Calls Try.prog 55 #[.slice (some ⟨g, 0, none⟩) d.size cap, .func (.func 52) #[] #[]] w fun e w' =>
      e = .returned (.tuple #[]) ∧ ∃ d' : Array EdgeB, d'.toList.Perm d.toList ∧ d'.toList.Pairwise (fun a b => a.1.f0 ≤ b.1.f0) ∧ HoldsK encB 3 w' g 0 d' ∧ (∀ B, B ≤ g → B ≤ w.heap.size → RowKit.Below B w w') := by
  refine (AnyQ.slices_SortFunc Try.sortEdge 3 Try.isAgg52 Try.sizeOf52 encB encB_len (fun x v hv => encEdge_one x.1 v hv) cfB swoB 52 #[] g 0 cap d w (enters_of Try.func52 (by kernel_rfl) rfl) (cmpLays g 0 d.size w) hH hg hsz).mono ?_
  rintro e w' ⟨rfl, d', n, os, ⟨hs, _, hp⟩, hS, rfl⟩
  refine ⟨rfl, d', ?_, ?_, holdsK_sortWorldK encB 3 w g 0 n d d' os hg hH hs, fun B hB hB' => ?_⟩
  · have e1 : d'.extract 0 d.size = d' := by rw [← hs]; exact Array.extract_size
    have e2 : d.extract 0 d.size = d := Array.extract_size
    rw [e1, e2] at hp
    exact hp
  · rw [List.pairwise_iff_getElem]
    intro i j hi hj hij
    have hi' : i < d'.size := by simpa using hi
    have hj' : j < d'.size := by simpa using hj
    have h := hS i j (Nat.zero_le _) hij (by omega)
    rw [getElem!_pos d' i hi', getElem!_pos d' j hj', ltB] at h
    simp at h
    simpa using h
  · have h1 : RowKit.Below B w (putRow id (Sort.ahead w n) g 0 (flatK encB 3 d')) := Lib.below_putRow (RowKit.Below.refl B w) hB
    refine ⟨h1.os, h1.tape, h1.output, Nat.le_trans h1.size (by unfold sortWorldK grow putRowK; simp), fun k hk => ?_⟩
    rw [← h1.block k hk]
    unfold sortWorldK grow putRowK
    exact Array.getElem?_append_left (by have := h1.size; simp [putRow, mapBlock, Sort.ahead]; omega)

theorem collect_in (F : Fence) (n : Nat) (h0 : F.fn 54) (h3 : F.fn 57) (h7 : F.fn 56) (hro : F.round = none) (hn : 4 ≤ n) (Bs : Nat) (A : Option Addr) (cap : Nat) (xs : List Edge) (hlen : xs.length ≤ maxLen) (hbytes : xs.length * 16 ≤ 140737488355328)
    (w : World) (hBs : Bs < w.heap.size) (hc : w.cell? ⟨Bs, 0, none⟩ = some (.slice A xs.length cap)) (hC : kEdge.C w A xs.length xs) :
    CallsIn F n Try.prog 54 #[.func (.func 56) #[] #[.pointer (some ⟨Bs, 0, none⟩)]] w fun e W' => ∃ v, e = .returned v ∧ W'.ownsRow w.heap.size 52 3 v xs.length (xs.flatMap encEdge) ∧ (v = .slice none 0 0 ↔ xs = []) ∧ RowKit.Below w.heap.size w W' := by
  have hn1 : 1 ≤ n := by omega
  have hcon := appendseq_in F (n - 1) h3 h7 hro (by omega) Bs A cap xs hlen hbytes w hBs hc hC
  refine callsIn_of_wp Try.func54 rfl h0 ?_ hro
  simp only [Try.ntmps54, List.size_toArray, List.length_cons, List.length_nil, Nat.reduceAdd, Nat.reduceSub, Array.replicate_succ, Array.replicate_zero, List.push_toArray, List.append_toArray, List.nil_append, List.cons_append]
  gi_wp2_with (gi_at_call 57; refine hcon.mono ?_; rintro e w' ⟨v, rfl, h1, h2, h3⟩)
  go_ret
  exact ⟨_, rfl, h1, h2, h3⟩

end Go.Proofs.Ytcbflajacioinaa
