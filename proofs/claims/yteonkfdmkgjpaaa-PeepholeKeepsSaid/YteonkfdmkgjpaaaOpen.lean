/- An argument that is an image: its code read as a list of instructions. -/
import Derived.Test.YteonkfdmkgjpaaaCode
import Derived.Test.YteonkfdmkgjpaaaLaw
import Derived.Deep.Slices
import Derived.Deep.Fields
import Derived.ChangeSame
import Derived.Lib.SmallJoins
namespace Go.Proofs.Yteonkfdmkgjpaaa
open Go.ChangeShapes Go.WideShapes Go.ChangeAt Go.RowKit Go.Joins Go.Deep
set_option linter.unusedVariables false
section
variable {H : Type} {enc : TypeId × Value → H} {P : Program} {w : World} {base : Nat} {spare : Nat → Bool} {held : Bool}
theorem open_slice_fields {t e : TypeId} {fs : Array Field} {fuel : Nat} {cs : List Value} {x : DataW H × List MemPlace} (ht : P.underlying t = some (.slice e)) (he : P.underlying e = some (.struct fs))
    (hone : oneCellFields P fs = true) (hC : P.cellsOf e = fs.size) (h : DataW.trod enc P w base spare held fuel t cs = some x) :
    (cs = [.slice none 0 0] ∧ x = (.nil, [])) ∨
    ∃ (a : Addr) (len cap m : Nat) (D : Nat → DataW H) (Pl : Nat → List MemPlace), cs = [.slice (some a) len cap] ∧ base ≤ a.block ∧ len ≤ cap ∧ cap ≤ maxLen ∧ m = (if spare a.block then cap else len) ∧
      x = (.slice ((List.range len).map D) ((List.range (m - len)).map fun j => D (len + j)), MemPlace.row a (m * fs.size) ++ (List.range m).flatMap Pl) ∧
      ∀ i, i < m → ∃ (ys : List (DataW H × List MemPlace)) (n : Nat), D i = .agg (ys.map (·.1)) ∧ Pl i = ys.flatMap (·.2) ∧ ys.length = fs.size ∧
        ∀ (j : Nat) (f : Field), fs[j]? = some f → ∃ (v : Value) (y : DataW H × List MemPlace), w.cell? (a.add (i * fs.size + j)) = some v ∧ ys[j]? = some y ∧ DataW.trod enc P w base spare held n f.type [v] = some y := by
  rcases open_slice ht h with h0 | ⟨a, len, cap, m, n, D, Pl, hcs, hb, hl, hm, hmm, hx, hi⟩
  · exact .inl h0
  · refine .inr ⟨a, len, cap, m, D, Pl, hcs, hb, hl, hm, hmm, by rw [hC] at hx; exact hx, fun i him => ?_⟩
    obtain ⟨cs', hc, ht'⟩ := hi i him
    rw [hC] at hc
    obtain ⟨ys, n', hn', hy, hlen, hyl, hf⟩ := DataW.trod_struct he ht'
    obtain ⟨_, hcl, hat⟩ := World.cells?_some hc
    simp only [Prod.mk.injEq] at hy
    refine ⟨ys, n', hy.1, hy.2, hyl, fun j f hj => ?_⟩
    obtain ⟨ho, hk⟩ := hone_of hone j f hj
    have hjl : j < fs.size := (Array.getElem?_eq_some_iff.1 hj).1
    have hcell := hat j hjl
    have hv : cs'[j]? = some (cs'[j]'(by omega)) := List.getElem?_eq_getElem (by omega)
    have h1 := hf j f hj
    rw [ho, hk] at h1
    have hone' : (cs'.drop j).take 1 = [cs'[j]'(by omega)] := by
      rw [List.drop_eq_getElem_cons (by omega)]
      rfl
    rw [hone'] at h1
    have hys : ys[j]? = some (ys[j]'(by omega)) := List.getElem?_eq_getElem (by omega)
    refine ⟨_, _, ?_, hys, h1.trans hys⟩
    rw [← Go.Deep.add_add, hcell, hv]
end

/-- the number in a cell -/
def numAt (c : Option Value) : Int := match c with | some (.int _ n) => n | _ => 0
def insW (w : World) (b o i : Nat) : Ins := ⟨numAt (w.cell? ⟨b, o + i * 5, none⟩), numAt (w.cell? ⟨b, o + i * 5 + 1, none⟩), numAt (w.cell? ⟨b, o + i * 5 + 2, none⟩), numAt (w.cell? ⟨b, o + i * 5 + 3, none⟩), numAt (w.cell? ⟨b, o + i * 5 + 4, none⟩)⟩
def InsOk (l : List Ins) : Prop := ∀ i, i < l.length → (Img.at_ l i).ok
theorem InsOk.ops {l : List Ins} (h : InsOk l) : ∀ i, i < l.length → 0 ≤ (Img.at_ l i).op := fun i hi => (h i hi).1.1
theorem add_plain (b o n : Nat) : (⟨b, o, none⟩ : Addr).add n = ⟨b, o + n, none⟩ := by
  unfold Addr.add
  split
  · rename_i h; subst h; rfl
  · rfl
theorem lt_heap {w : World} {b o : Nat} {s : Option Nat} {v : Value} (h : w.cell? ⟨b, o, s⟩ = some v) : b < w.heap.size := by
  unfold World.cell? at h
  split at h
  · rename_i hh; exact (Array.getElem?_eq_some_iff.1 hh).1
  · cases h
theorem at_insW (w : World) (b o n : Nat) {i : Nat} (hi : i < n) : Img.at_ ((List.range n).map (insW w b o)) i = insW w b o i := by
  unfold Img.at_
  rw [List.getD_eq_getElem?_getD, List.getElem?_map, List.getElem?_range hi]
  rfl
theorem open_code {H : Type} {enc : TypeId × Value → H} {w : World} {base n : Nat} {spare : Nat → Bool} {held : Bool} {v : Value} {y : DataW H × List MemPlace}
    (h : DataW.trod enc Try.prog w base spare held n 22 [v] = some y) : ∃ (l : List Ins) (A : Option Addr) (cap : Nat), v = .slice A l.length cap ∧ CodeAt w A l ∧ InsOk l ∧ l.length ≤ maxLen := by
  rcases open_slice_fields Try.underlying22 Try.underlying38 (by kernel_rfl) (by kernel_rfl) h with ⟨hv, -⟩ | ⟨a, len, cap, m, D, Pl, hv, hb, hlc, hcm, hm, hx, hi⟩
  · simp only [List.cons.injEq, and_true] at hv
    exact ⟨[], none, 0, hv, fun h => by simp at h, fun i h => by simp at h, Nat.zero_le _⟩
  · simp only [List.cons.injEq, and_true] at hv
    have hlm : len ≤ m := by rw [hm]; split <;> omega
    obtain ⟨b, o, s⟩ := a
    refine ⟨(List.range len).map (insW w b o), some ⟨b, o, s⟩, cap, by simpa using hv, ?_, ?_, by simp; omega⟩
    · intro h0
      simp at h0
      obtain ⟨ys, n', -, -, -, hf⟩ := hi 0 (by omega)
      obtain ⟨v0, y0, hc0, -, -⟩ := hf 0 _ rfl
      have hs := World.cell?_spot hc0
      simp [Addr.add] at hs
      subst hs
      refine ⟨b, o, rfl, ?_, fun i hil => ?_⟩
      · rw [add_plain] at hc0; exact lt_heap hc0
      · simp at hil
        obtain ⟨ys, n', -, -, -, hf⟩ := hi i (by omega)
        obtain ⟨v0, y0, c0, -, t0⟩ := hf 0 _ rfl
        obtain ⟨v1, y1, c1, -, t1⟩ := hf 1 _ rfl
        obtain ⟨v2, y2, c2, -, t2⟩ := hf 2 _ rfl
        obtain ⟨v3, y3, c3, -, t3⟩ := hf 3 _ rfl
        obtain ⟨v4, y4, c4, -, t4⟩ := hf 4 _ rfl
        obtain ⟨x0, e0, -, -⟩ := DataW.trod_int Try.underlying5 t0
        obtain ⟨x1, e1, -, -⟩ := DataW.trod_int Try.underlying3 t1
        obtain ⟨x2, e2, -, -⟩ := DataW.trod_int Try.underlying3 t2
        obtain ⟨x3, e3, -, -⟩ := DataW.trod_int Try.underlying3 t3
        obtain ⟨x4, e4, -, -⟩ := DataW.trod_int Try.underlying3 t4
        simp only [List.cons.injEq, and_true] at e0 e1 e2 e3 e4
        subst e0 e1 e2 e3 e4
        rw [add_plain] at c0 c1 c2 c3 c4
        simp only [List.size_toArray, List.length_cons, List.length_nil, Nat.zero_add, Nat.reduceAdd, Nat.add_zero, ← Nat.add_assoc] at c0 c1 c2 c3 c4
        rw [at_insW w b o len hil]
        unfold insW
        rw [c0, c1, c2, c3, c4]
        exact ⟨rfl, rfl, rfl, rfl, rfl⟩
    · intro i hil
      simp at hil
      obtain ⟨ys, n', -, -, -, hf⟩ := hi i (by omega)
      obtain ⟨v0, y0, c0, -, t0⟩ := hf 0 _ rfl
      obtain ⟨v1, y1, c1, -, t1⟩ := hf 1 _ rfl
      obtain ⟨v2, y2, c2, -, t2⟩ := hf 2 _ rfl
      obtain ⟨v3, y3, c3, -, t3⟩ := hf 3 _ rfl
      obtain ⟨v4, y4, c4, -, t4⟩ := hf 4 _ rfl
      obtain ⟨x0, e0, -, w0⟩ := DataW.trod_int Try.underlying5 t0
      obtain ⟨x1, e1, -, w1⟩ := DataW.trod_int Try.underlying3 t1
      obtain ⟨x2, e2, -, w2⟩ := DataW.trod_int Try.underlying3 t2
      obtain ⟨x3, e3, -, w3⟩ := DataW.trod_int Try.underlying3 t3
      obtain ⟨x4, e4, -, w4⟩ := DataW.trod_int Try.underlying3 t4
      simp only [List.cons.injEq, and_true] at e0 e1 e2 e3 e4
      subst e0 e1 e2 e3 e4
      have hs : s = none := by
        obtain ⟨ys, n', -, -, -, hf⟩ := hi 0 (by omega)
        obtain ⟨v0, y0, hc0, -, -⟩ := hf 0 _ rfl
        have hs := World.cell?_spot hc0
        simpa [Addr.add] using hs
      subst hs
      rw [add_plain] at c0 c1 c2 c3 c4
      simp only [List.size_toArray, List.length_cons, List.length_nil, Nat.zero_add, Nat.reduceAdd, Nat.add_zero, ← Nat.add_assoc] at c0 c1 c2 c3 c4
      rw [at_insW w b o len hil]
      unfold insW Ins.ok
      rw [c0, c1, c2, c3, c4]
      exact ⟨U8.of w0, I64.of w1, I64.of w2, I64.of w3, I64.of w4⟩
/-- an image, by value -/
theorem open_image {H : Type} {enc : TypeId × Value → H} {w : World} {base : Nat} {spare : Nat → Bool} {held : Bool} {r : Reach} {b0 : Nat} {v : Value} {d : DataW H} {p : List MemPlace}
    (hv : Value.okWide Try.prog w r b0 24 v) (h : DataW.Trod enc Try.prog w base spare held 24 v d p) :
    ∃ (l : List Ins) (A : Option Addr) (cap : Nat) (mem st : Int), v = .agg #[.slice A l.length cap, .int .i64 mem, .int .i64 st] ∧ CodeAt w A l ∧ InsOk l ∧ l.length ≤ maxLen ∧ I64 mem ∧ I64 st := by
  obtain ⟨v0, v1, v2, y0, y1, y2, n, rfl, -, -, h0, h1, h2⟩ := open_agg3 Try.underlying24 (by kernel_rfl) (by kernel_rfl) hv h
  obtain ⟨l, A, cap, rfl, a1, a2, a3⟩ := open_code h0
  obtain ⟨x1, e1, _, w1⟩ := DataW.trod_int Try.underlying3 h1
  obtain ⟨x2, e2, _, w2⟩ := DataW.trod_int Try.underlying3 h2
  simp only [List.cons.injEq, and_true] at e1 e2
  subst e1 e2
  exact ⟨l, A, cap, x1, x2, rfl, a1, a2, a3, I64.of w1, I64.of w2⟩
end Go.Proofs.Yteonkfdmkgjpaaa
