/- Contracts of layer 23: image.Invert. -/
import Derived.Test.YteonkfdmkgjpaaaCode3
import Derived.Deep.RegionHeld3
import Derived.Deep.DeepCutAuto
import Derived.BigQuiet
import Derived.Deep.QuietTactic
import Derived.BigRegion
namespace Go.Proofs.Yteonkfdmkgjpaaa
open Go.RowKit
set_option linter.unusedVariables false
set_option linter.unusedSimpArgs false

theorem results_ct {P : Program} {fn : Func} {p u : Tmp} {ty : TypeId} (h : fn.results = #[.cell p ty, .tmp u]) (tmps : Array Value) (w : World) (g : Nat) (t : TypeId) (cs : Array Value) (d : TypeDesc)
    (hp : tmps.getD p undef = .pointer (some ⟨g, 0, none⟩)) (hg : Blk w g t cs)
    (hu : P.underlying ty = some d) (hd : (match d with | .struct _ | .array _ _ => true | _ => false) = true) (hi : (P.info? ty).map (·.size) = some cs.size) :
    (results fn tmps).run P w = .ok (.tuple #[.agg cs, tmps.getD u undef]) w := by
  have hp' : tmps[p]?.getD undef = .pointer (some ⟨g, 0, none⟩) := by simpa using hp
  simp [results, h, hp', asAddr, run_loadVar_row w g t ty cs (0, 0) d hg hu hd hi]
def set3 (W : World) (g : Nat) (a b c : Value) : World := ((W.setCell ⟨g, 0, none⟩ a).setCell ⟨g, 1, none⟩ b).setCell ⟨g, 2, none⟩ c
theorem Blk_set3 {W : World} {g : Nat} {t : TypeId} {x0 x1 x2 : Value} (h : Blk W g t #[x0, x1, x2]) (a b c : Value) : Blk (set3 W g a b c) g t #[a, b, c] := ((h.set_ 0 a).set_ 1 b).set_ 2 c
theorem Blk_far3 {W : World} {g g' : Nat} {t : TypeId} {cs : Array Value} (h : Blk W g' t cs) (hne : g' ≠ g) (a b c : Value) : Blk (set3 W g a b c) g' t cs :=
  ((h.far (p := ⟨g, 0, none⟩) hne a).far (p := ⟨g, 1, none⟩) hne b).far (p := ⟨g, 2, none⟩) hne c
theorem Below_set3 {B : Nat} {w W : World} {g : Nat} (h : Below B w W) (hg : B ≤ g) (a b c : Value) : Below B w (set3 W g a b c) :=
  ((h.setCell (p := ⟨g, 0, none⟩) hg a).setCell (p := ⟨g, 1, none⟩) hg b).setCell (p := ⟨g, 2, none⟩) hg c
theorem St.put3 {w0 W : World} {L : List (Nat × TypeId × Array Value)} {g : Nat} {t : TypeId} {x0 x1 x2 : Value} (h : St w0 ((g, t, #[x0, x1, x2]) :: L) W) (hg : w0.heap.size ≤ g) (hL : ∀ y ∈ L, y.1 ≠ g) (a b c : Value) :
    St w0 ((g, t, #[a, b, c]) :: L) (set3 W g a b c) :=
  ⟨Below_set3 h.1 hg a b c, fun y hy => by
    rcases List.mem_cons.1 hy with rfl | hy
    · exact Blk_set3 h.b1 a b c
    · exact Blk_far3 (h.tail.2 y hy) (hL y hy) a b c⟩

set_option maxHeartbeats 8000000 in
theorem invert_bad (l : List Ins) (A : Option Addr) (cap : Nat) (mem st : Int) (w : World) (hc : CodeAt w A l) (hv : Img.valid l mem st = false) :
    Calls Try.prog 20 #[.agg #[.slice A l.length cap, .int .i64 mem, .int .i64 st]] w fun e w' => e = .returned (.tuple #[.agg #[.slice none 0 0, .int .i64 0, .int .i64 0], .int .i64 (Img.check l mem st).2]) ∧ Below w.heap.size w w' := by
  have hne : ((Img.check l mem st).2 != 0) = true := by unfold Img.valid at hv; simp at hv; simpa using hv
  have HCK := Lib.hid (fun wx h => check_any l A cap mem st wx h)
  generalize (Img.check l mem st).1 = c1 at *
  generalize (Img.check l mem st).2 = c2 at *
  clear hv
  go_enter Try.func20, Try.ntmps20
  have hS := ((St.start w).alloc #[.slice A l.length cap, .int .i64 mem, .int .i64 st] 24).alloc #[.slice none 0 0, .int .i64 0, .int .i64 0] 24
  simp only [World.size_alloc] at hS
  go_upto_region 1 with fail
  generalize ((w.alloc (.cells #[.slice A l.length cap, .int .i64 mem, .int .i64 st] 24)).alloc (.cells #[.slice none 0 0, .int .i64 0, .int .i64 0] 24)) = w1 at *
  obtain ⟨i0, i1, i2, -⟩ := Blk.cells3 hS.b2
  go_wp2_with (first | (go_at_call 24; refine (HCK.out _ (CodeAt.after hS.1 hc)).mono ?_; rintro e wn ⟨rfl, hB⟩; have hS3 := St.call hB hS; obtain ⟨r0, r1, r2, f0, f1, f2⟩ := Blk.cells3 hS3.b1))
  have hS4 := hS3.put3 (by omega) (by intro y hy; simp at hy; subst hy; simp) (.slice none 0 0) (.int .i64 0) (.int .i64 0)
  refine bodyPost_ret (results_ct rfl _ _ (w.heap.size + 1) 24 _ _ rfl hS4.b1 Try.underlying24 rfl (by kernel_rfl)) rfl ?_
  exact ⟨rfl, hS4.1⟩

/-- the code of the inverse, i rounds done -/
def Img.invF (l : List Ins) (i k : Nat) : Ins := if l.length ≤ k + i then Img.invAt l (l.length - 1 - k) else Img.zero
theorem Img.invF_zero (l : List Ins) (k : Nat) : k < l.length → Img.invF l 0 k = Img.zero := fun h => if_neg (by omega)

/-- an instruction of the inverse, before its opcode is inverted -/
def Img.preI (l : List Ins) (i : Nat) : Ins :=
  if has (at_ l i) then ret (at_ l i) (if isC (at_ l i) then (l.length : Int) - 1 - num (partner l (tg (at_ l i)).toNat) else (l.length : Int) - 1 - tg (at_ l i)) else at_ l i
theorem Img.invAt_pre (l : List Ins) (i : Nat) : invAt l i = inv (preI l i) := rfl
theorem Img.invF_step (l : List Ins) (i m : Nat) (hm : l.length = i + 1 + m) (k : Nat) : (if k = m then inv (preI l i) else invF l i k) = invF l (i + 1) k := by
  unfold invF
  by_cases h : k = m
  · rw [if_pos h, if_pos (by omega), ← invAt_pre]
    congr 1
    omega
  · rw [if_neg h]
    by_cases h2 : l.length ≤ k + i
    · rw [if_pos h2, if_pos (by omega)]
    · rw [if_neg h2, if_neg (by omega)]
theorem St.sub {w0 W : World} {L L' : List (Nat × TypeId × Array Value)} (h : St w0 L W) (hs : ∀ x ∈ L', x ∈ L) : St w0 L' W := ⟨h.1, fun x hx => h.2 x (hs x hx)⟩
namespace Img
theorem invert_length (l : List Ins) : (invert l).length = l.length := by simp [invert]
theorem invert_at (l : List Ins) (k : Nat) (hk : k < l.length) : at_ (invert l) k = invAt l (l.length - 1 - k) := by
  unfold at_ invert
  rw [List.getD_eq_getElem?_getD, List.getElem?_map, List.getElem?_reverse (by simpa using hk)]
  simp [hk]
  rw [List.getElem?_range (by omega)]
  rfl
theorem invF_all (l : List Ins) (k : Nat) (hk : k < l.length) : invF l l.length k = at_ (invert l) k := by
  unfold invF
  rw [if_pos (by omega), invert_at l k hk]
theorem firstF_zero (l : List Ins) : ∀ (n i : Nat), (firstF l n i).2 = 0 → ∀ j, i ≤ j → j < i + n → fault l j = 0
  | 0, i, _, j, h1, h2 => by omega
  | n + 1, i, h, j, h1, h2 => by
    unfold firstF at h
    by_cases hf : fault l i = 0
    · rw [if_neg (by simp [hf])] at h
      by_cases e : j = i
      · rw [e]; exact hf
      · exact firstF_zero l n (i + 1) h j (by omega) (by omega)
    · rw [if_pos hf] at h
      exact absurd h hf
theorem check_zero {l : List Ins} {mem st : Int} (h : (check l mem st).2 = 0) : ¬ outside l mem st ∧ ∀ j, j < l.length → fault l j = 0 := by
  unfold check at h
  by_cases ho : outside l mem st
  · rw [if_pos ho] at h; cases h
  · rw [if_neg ho] at h
    exact ⟨ho, fun j hj => firstF_zero l _ _ h j (Nat.zero_le _) (by omega)⟩
theorem fault_vl {l : List Ins} {i : Nat} (h : fault l i = 0) : vl (at_ l i) = true := by
  cases hv : vl (at_ l i)
  · simp [fault, hv] at h
  · rfl
theorem fault_call {l : List Ins} {i : Nat} (h : fault l i = 0) (hC : isC (at_ l i) = true) : startAt l (tg (at_ l i)) = true := by
  have hv := fault_vl h
  have hh := isC_has hC
  cases hs : startAt l (tg (at_ l i))
  · simp [fault, hv, hh, hC, hs] at h
  · rfl
/-- what the inversion needs of a valid image's instruction -/
theorem fault_inv {l : List Ins} {i : Nat} (h : fault l i = 0) : vl (at_ l i) = true ∧ (has (at_ l i) = true → 0 ≤ tg (at_ l i) ∧ tg (at_ l i) < 65536) ∧
    (isC (at_ l i) = true → ∃ q, partner l (tg (at_ l i)).toNat = some q ∧ tg (at_ l i) < l.length) := by
  refine ⟨fault_vl h, fun hh => tg_valid (fault_vl h) hh, fun hC => ?_⟩
  have hs := fault_call h hC
  unfold startAt at hs
  simp only [Bool.and_eq_true, decide_eq_true_eq] at hs
  obtain ⟨q, hq⟩ := Option.isSome_iff_exists.1 hs.2
  exact ⟨q, hq, hs.1.1.2⟩
end Img
theorem carr_cells {W : World} {g : Nat} {t : TypeId} {f : Nat → Ins} {n m : Nat} (h : Blk W g t (carr f n)) (hm : m < n) : ∃ v0 v1 v2 v3 v4,
    W.cell? ⟨g, m * 5, none⟩ = some v0 ∧ W.cell? ⟨g, m * 5 + 1, none⟩ = some v1 ∧ W.cell? ⟨g, m * 5 + 2, none⟩ = some v2 ∧ W.cell? ⟨g, m * 5 + 3, none⟩ = some v3 ∧ W.cell? ⟨g, m * 5 + 4, none⟩ = some v4 ∧
    W.frozen? ⟨g, m * 5, none⟩ = false ∧ W.frozen? ⟨g, m * 5 + 1, none⟩ = false ∧ W.frozen? ⟨g, m * 5 + 2, none⟩ = false ∧ W.frozen? ⟨g, m * 5 + 3, none⟩ = false ∧ W.frozen? ⟨g, m * 5 + 4, none⟩ = false := by
  have hc : ∀ j, j < 5 → W.cell? ⟨g, m * 5 + j, none⟩ = some ((f m).cell j) := fun j hj => by rw [h.cell]; exact carr_get hm hj
  exact ⟨_, _, _, _, _, hc 0 (by omega), hc 1 (by omega), hc 2 (by omega), hc 3 (by omega), hc 4 (by omega), h.frozen _, h.frozen _, h.frozen _, h.frozen _, h.frozen _⟩
def setc5 (W : World) (g q : Nat) (a b c d e : Value) : World := ((((W.setCell ⟨g, q, none⟩ a).setCell ⟨g, q + 1, none⟩ b).setCell ⟨g, q + 2, none⟩ c).setCell ⟨g, q + 3, none⟩ d).setCell ⟨g, q + 4, none⟩ e
theorem Blk_setc5 {W : World} {g : Nat} {t : TypeId} {cs : Array Value} (h : Blk W g t cs) (q : Nat) (a b c d e : Value) :
    Blk (setc5 W g q a b c d e) g t (((((cs.setIfInBounds q a).setIfInBounds (q + 1) b).setIfInBounds (q + 2) c).setIfInBounds (q + 3) d).setIfInBounds (q + 4) e) :=
  ((((h.set_ q a).set_ (q + 1) b).set_ (q + 2) c).set_ (q + 3) d).set_ (q + 4) e
theorem Blk_farc5 {W : World} {g g' : Nat} {t : TypeId} {cs : Array Value} (h : Blk W g' t cs) (hn : g' ≠ g) (q : Nat) (a b c d e : Value) : Blk (setc5 W g q a b c d e) g' t cs :=
  ((((h.far (p := ⟨g, q, none⟩) hn a).far (p := ⟨g, q + 1, none⟩) hn b).far (p := ⟨g, q + 2, none⟩) hn c).far (p := ⟨g, q + 3, none⟩) hn d).far (p := ⟨g, q + 4, none⟩) hn e
theorem Below_setc5 {B : Nat} {w W : World} {g : Nat} (h : Below B w W) (hg : B ≤ g) (q : Nat) (a b c d e : Value) : Below B w (setc5 W g q a b c d e) :=
  ((((h.setCell (p := ⟨g, q, none⟩) hg a).setCell (p := ⟨g, q + 1, none⟩) hg b).setCell (p := ⟨g, q + 2, none⟩) hg c).setCell (p := ⟨g, q + 3, none⟩) hg d).setCell (p := ⟨g, q + 4, none⟩) hg e
theorem Blk_put {W : World} {g : Nat} {t : TypeId} {f f' : Nat → Ins} {n m : Nat} (h : Blk W g t (carr f n)) (hm : m < n) (x : Ins) (hf : ∀ k, k < n → (if k = m then x else f k) = f' k) :
    Blk (setc5 W g (m * 5) (x.cell 0) (x.cell 1) (x.cell 2) (x.cell 3) (x.cell 4)) g t (carr f' n) := by
  have h2 := Blk_setc5 h (m * 5) (x.cell 0) (x.cell 1) (x.cell 2) (x.cell 3) (x.cell 4)
  rw [carr_set5 hm x, carr_congr hf] at h2
  exact h2
theorem St.putc {w0 W : World} {L : List (Nat × TypeId × Array Value)} {g : Nat} {t : TypeId} {f f' : Nat → Ins} {n m : Nat} (h : St w0 ((g, t, carr f n) :: L) W) (hg : w0.heap.size ≤ g) (hL : ∀ y ∈ L, y.1 ≠ g) (hm : m < n) (x : Ins) (hf : ∀ k, k < n → (if k = m then x else f k) = f' k) :
    St w0 ((g, t, carr f' n) :: L) (setc5 W g (m * 5) (x.cell 0) (x.cell 1) (x.cell 2) (x.cell 3) (x.cell 4)) :=
  ⟨Below_setc5 h.1 hg _ _ _ _ _ _, fun y hy => by
    rcases List.mem_cons.1 hy with rfl | hy
    · exact Blk_put h.b1 hm x hf
    · exact Blk_farc5 (h.tail.2 y hy) (hL y hy) _ _ _ _ _ _⟩
def InvRel (l : List Ins) (w : World) (A : Option Addr) (cap : Nat) (mem st : Int) (s7 : Value) (wx : World) : Prop :=
  ∃ gm g7 : Nat, s7 = .pointer (some ⟨g7, 0, none⟩) ∧ gm ≠ g7 ∧ w.heap.size + 1 < gm ∧ w.heap.size + 1 < g7 ∧ St w [(g7, 24, #[.slice (some ⟨gm, 0, none⟩) l.length l.length, .int .i64 mem, .int .i64 st]), (gm, 38, carr (fun _ => Img.zero) l.length), (w.heap.size + 1, 24, #[.slice none 0 0, .int .i64 0, .int .i64 0]), (w.heap.size, 24, #[.slice A l.length cap, .int .i64 mem, .int .i64 st])] wx

theorem inv_round {l : List Ins} {w W : World} {b o cap : Nat} {mem st : Int} {g7 gm g i m : Nat} {y : Ins} (hgm : w.heap.size + 1 < gm) (hg7 : w.heap.size + 1 < g7) (hne : gm ≠ g7) (hil : i < l.length)
    (hst : ∀ k, k < l.length → (if k = m then Img.inv y else Img.invF l i k) = Img.invF l (i + 1) k) (hml : m < l.length) (hm : ((l.length : Nat) : Int) - 1 - ((i + 1 : Nat) : Int) = (m : Int) - 1)
    (hS : St w ((g, 38, #[.int .u8 (y).op, .int .i64 (y).a, .int .i64 (y).b, .int .i64 (y).c, .int .i64 (y).d]) :: [(g7, 24, #[.slice (some ⟨gm, 0, none⟩) l.length l.length, .int .i64 mem, .int .i64 st]), (gm, 38, carr (Img.invF l i) l.length), (w.heap.size + 1, 24, #[.slice none 0 0, .int .i64 0, .int .i64 0]), (w.heap.size, 24, #[.slice (some ⟨b, o, none⟩) l.length cap, .int .i64 mem, .int .i64 st])]) W) :
    ∃ i9 : Nat, i9 ≤ l.length ∧ Value.int .i64 ((i : Int) + 1) = .int .i64 (i9 : Int) ∧ Value.int .i64 ((m : Int) - 1) = .int .i64 ((l.length : Int) - 1 - i9) ∧
      St w [(g7, 24, #[.slice (some ⟨gm, 0, none⟩) l.length l.length, .int .i64 mem, .int .i64 st]), (gm, 38, carr (Img.invF l i9) l.length), (w.heap.size + 1, 24, #[.slice none 0 0, .int .i64 0, .int .i64 0]), (w.heap.size, 24, #[.slice (some ⟨b, o, none⟩) l.length cap, .int .i64 mem, .int .i64 st])] (setc5 W gm (m * 5) (.int .u8 (Isa.inv y.op)) (.int .i64 y.a) (.int .i64 y.b) (.int .i64 y.c) (.int .i64 y.d)) :=
  ⟨i + 1, hil, rfl, by rw [hm], ((hS.tail.swap).putc (by omega) (by intro z hz; simp at hz; rcases hz with rfl | rfl | rfl <;> simp <;> omega) hml (Img.inv y) hst).swap⟩

set_option maxHeartbeats 8000000 in
theorem invert_good (l : List Ins) (A : Option Addr) (cap : Nat) (mem st : Int) (w : World) (hn0 : l.length ≤ 65536) (hc : CodeAt w A l) (hv : Img.valid l mem st = true) :
    Calls Try.prog 20 #[.agg #[.slice A l.length cap, .int .i64 mem, .int .i64 st]] w fun e w' => ∃ g, e = .returned (.tuple #[.agg #[.slice (some ⟨g, 0, none⟩) l.length l.length, .int .i64 mem, .int .i64 st], .int .i64 0]) ∧ Below w.heap.size w w' ∧ CodeB w' g 0 (Img.invert l) := by
  have HCK := Lib.hid (fun wx h => check_any l A cap mem st wx h)
  have hck : (Img.check l mem st).2 = 0 := by unfold Img.valid at hv; simpa using hv
  rw [hck] at HCK
  have Hok := Lib.hid (show ∀ i, i < l.length → _ from fun i hi => Img.fault_inv ((Img.check_zero hck).2 i hi))
  generalize (Img.check l mem st).1 = c1 at *
  clear hck hv
  have hmk := fun wx => run_make_code wx l.length (by omega)
  go_enter Try.func20, Try.ntmps20
  have hS := ((St.start w).alloc #[.slice A l.length cap, .int .i64 mem, .int .i64 st] 24).alloc #[.slice none 0 0, .int .i64 0, .int .i64 0] 24
  simp only [World.size_alloc] at hS
  go_upto_region 1 with fail
  generalize ((w.alloc (.cells #[.slice A l.length cap, .int .i64 mem, .int .i64 st] 24)).alloc (.cells #[.slice none 0 0, .int .i64 0, .int .i64 0] 24)) = w1 at *
  obtain ⟨i0, i1, i2, -⟩ := Blk.cells3 hS.b2
  go_upto_region 5 with (first | (go_at_call 24; refine (HCK.out _ (CodeAt.after hS.1 hc)).mono ?_; rintro e wn ⟨rfl, hB⟩; have hS3 := St.call hB hS; obtain ⟨i0, i1, i2, -⟩ := Blk.cells3 hS3.b2))
  clear hS
  have l1 := hS3.b1.lt
  have l2 := hS3.b2.lt
  go_cut [7] (fun s7 wx => InvRel l w A cap mem st s7 wx)
  case first =>
    go_region
    all_goals (go_wp2_with fail; go_meet)
    · have h2 := ((hS3.alloc (carr (fun _ => Img.zero) l.length) 38).alloc #[.slice (some ⟨wn.heap.size, 0, none⟩) l.length l.length, .int .i64 mem, .int .i64 st] 24).drew
      simp only [World.size_alloc] at h2
      have l1' : w.heap.size + 1 < wn.heap.size := l1
      exact ⟨_, _, rfl, by omega, l1', by omega, h2⟩
    · have h2 := ((hS3.alloc #[.slice (some ⟨wn.heap.size + 1, 0, none⟩) l.length l.length, .int .i64 mem, .int .i64 st] 24).alloc (carr (fun _ => Img.zero) l.length) 38).swap.drew
      simp only [World.size_alloc] at h2
      have l1' : w.heap.size + 1 < wn.heap.size := l1
      exact ⟨_, _, rfl, by omega, by omega, l1', h2⟩
  case rest =>
    obtain ⟨gm, g7, rfl, hne, hgm, hg7, hR⟩ := hcut
    clear hS3 l1 l2 i0 i1 i2 hmk
    go_wp2
    obtain ⟨wo, hwo⟩ : ∃ wo : World, wo = wc := ⟨_, rfl⟩
    go_loopw [8, 9] (fun s8 s9 wr => ∃ i : Nat, i ≤ l.length ∧ s8 = .int .i64 i ∧ s9 = .int .i64 ((l.length : Int) - 1 - i) ∧ St w [(g7, 24, #[.slice (some ⟨gm, 0, none⟩) l.length l.length, .int .i64 mem, .int .i64 st]), (gm, 38, carr (Img.invF l i) l.length), (w.heap.size + 1, 24, #[.slice none 0 0, .int .i64 0, .int .i64 0]), (w.heap.size, 24, #[.slice A l.length cap, .int .i64 mem, .int .i64 st])] wr) (fun s8 _ _ => l.length - (intOf s8).toNat)
    case atStart => exact ⟨0, Nat.zero_le _, rfl, by go_num, by rw [carr_congr (f := Img.invF l 0) (g := fun _ => Img.zero) (fun k hk => Img.invF_zero l k hk)]; exact hR⟩
    case round =>
      clear hR hwo
      obtain ⟨i, hil0, rfl, rfl, hS⟩ := hrel
      obtain ⟨i0, i1, i2, -⟩ := Blk.cells3 hS.b4
      by_cases hil : i < l.length
      · obtain ⟨m, hm⟩ : ∃ m : Nat, l.length = i + 1 + m := ⟨l.length - 1 - i, by omega⟩
        rw [show (l.length : Int) - 1 - i = (m : Int) from by omega]
        have hml : m < l.length := by omega
        have Hm := Lib.hid hm
        clear hm
        obtain ⟨b, o, rfl, hcB⟩ := hc (by omega)
        have hcW := CodeB.after hS.1 hcB
        have hb := hcW.1
        obtain ⟨x0, x1, x2, x3, x4⟩ := hcW.2 i hil
        clear hcW
        obtain ⟨i0, i1, i2, -⟩ := Blk.cells3 hS.b4
        go_upto_region 10 with fail
        have hS2 := hS.alloc #[.int .u8 (Img.at_ l i).op, .int .i64 (Img.at_ l i).a, .int .i64 (Img.at_ l i).b, .int .i64 (Img.at_ l i).c, .int .i64 (Img.at_ l i).d] 38
        have l4 := hS.b1.lt
        have l3 := hS.b2.lt
        generalize (wr.alloc (.cells #[.int .u8 (Img.at_ l i).op, .int .i64 (Img.at_ l i).a, .int .i64 (Img.at_ l i).b, .int .i64 (Img.at_ l i).c, .int .i64 (Img.at_ l i).d] 38)) = w3 at *
        generalize wr.heap.size = g at *
        clear x0 x1 x2 x3 x4 hS
        obtain ⟨x0, x1, x2, x3, x4, xf0, xf1, xf2, xf3, xf4⟩ := Blk.cells5 hS2.b1
        go_upto_if 51 with (first | (go_at_call 33; refine (target2_any _ _ _ _ _ _).mono ?_; rintro e wt ⟨rfl, hB⟩; have hS3 := St.call hB hS2))
        clear hS2 x0 x1 x2 x3 x4 xf0 xf1 xf2 xf3 xf4 hB
        rw [show (Isa.tgt (Img.at_ l i).op).isSome = Img.has (Img.at_ l i) from rfl, show Isa.tval (Img.at_ l i).op (Img.at_ l i).a (Img.at_ l i).b = Img.tg (Img.at_ l i) from rfl]
        obtain ⟨hb', Hb⟩ : ∃ hb', Hid (Img.has (Img.at_ l i) = hb') := ⟨_, rfl⟩
        rw [Hb.out]
        obtain ⟨t, Ht⟩ : ∃ t, Hid (Img.tg (Img.at_ l i) = t) := ⟨_, rfl⟩
        rw [Ht.out]
        go_cut [] (fun wx => St w ((g, 38, Ins.cells (Img.preI l i)) :: [(g7, 24, #[.slice (some ⟨gm, 0, none⟩) l.length l.length, .int .i64 mem, .int .i64 st]), (gm, 38, carr (Img.invF l i) l.length), (w.heap.size + 1, 24, #[.slice none 0 0, .int .i64 0, .int .i64 0]), (w.heap.size, 24, #[.slice (some ⟨b, o, none⟩) l.length cap, .int .i64 mem, .int .i64 st])]) wx)
        case first =>
          obtain ⟨x0, x1, x2, x3, x4, xf0, xf1, xf2, xf3, xf4⟩ := Blk.cells5 hS3.b1
          obtain ⟨i0, i1, i2, -⟩ := Blk.cells3 hS3.b5
          have hfi := Hok.out i hil
          have hLy : ∀ y ∈ [(g7, 24, #[.slice (some ⟨gm, 0, none⟩) l.length l.length, .int .i64 mem, .int .i64 st]), (gm, 38, carr (Img.invF l i) l.length), (w.heap.size + 1, 24, #[.slice none 0 0, .int .i64 0, .int .i64 0]), (w.heap.size, 24, #[.slice (some ⟨b, o, none⟩) l.length cap, .int .i64 mem, .int .i64 st])], y.1 ≠ g := by
            intro y hy
            simp at hy
            rcases hy with rfl | rfl | rfl | rfl <;> simp <;> omega
          have HLy := Lib.hid hLy
          clear hLy
          cases hb'
          · have hh := Hb.out
            have HP := Lib.hid (show Img.preI l i = Img.at_ l i from by unfold Img.preI; rw [hh]; rfl)
            clear hh hfi
            go_wp2_with fail
            go_meet
            rw [HP.out]
            exact hS3
          · have hh := Hb.out
            have hb0 := hfi.2.1 hh
            rw [Ht.out] at hb0
            cases hC : Img.isC (Img.at_ l i)
            · have hC2 : ((Img.at_ l i).op == 30) = false ∧ ((Img.at_ l i).op == 31) = false := by unfold Img.isC at hC; exact Bool.or_eq_false_iff.1 hC
              obtain ⟨o30, o31⟩ := hC2
              have HP := Lib.hid (show Img.preI l i = Img.ret (Img.at_ l i) ((l.length : Int) - 1 - t) from by unfold Img.preI; rw [hh, hC, Ht.out]; rfl)
              have b1 := hb0.1
              have b2 := hb0.2
              clear hh hfi hC hb0
              go_wp2_with (first | (go_at_call 34; refine (retarget_any _ _ _ _ _ _ _).mono ?_; rintro e wn2 ⟨rfl, hB2⟩; have hS4 := St.call hB2 hS3; obtain ⟨x0, x1, x2, x3, x4, xf0, xf1, xf2, xf3, xf4⟩ := Blk.cells5 hS4.b1))
              go_meet
              rw [HP.out]
              exact hS4.put5 (by omega) HLy.out _ _ _ _ _
            · obtain ⟨q, hq, hql⟩ := hfi.2.2 hC
              rw [Ht.out] at hq hql
              have hC2 : ((Img.at_ l i).op == 30) = true ∨ ((Img.at_ l i).op == 30) = false ∧ ((Img.at_ l i).op == 31) = true := by
                unfold Img.isC at hC
                cases h : ((Img.at_ l i).op == 30)
                · rw [h] at hC; exact Or.inr ⟨rfl, hC⟩
                · exact Or.inl rfl
              have HP := Lib.hid (show Img.preI l i = Img.ret (Img.at_ l i) ((l.length : Int) - 1 - q) from by unfold Img.preI; rw [hh, hC, Ht.out, hq]; rfl)
              have hql2 := (Img.partner_lt hq).2
              have HPA := Lib.hid (show ∀ wx, CodeB wx b o l → Calls Try.prog 27 #[.agg #[.slice (some ⟨b, o, none⟩) l.length cap, .int .i64 mem, .int .i64 st], .int .i64 t] wx fun e w' => e = .returned (.tuple #[.int .i64 q, .bool true]) ∧ Below wx.heap.size wx w' from fun wx h => by
                have h2 := partner_any l (some ⟨b, o, none⟩) cap mem st t wx (fun _ => ⟨b, o, rfl, h⟩)
                unfold Img.partnerI at h2
                rw [if_pos ⟨hb0.1, hql⟩, hq] at h2
                exact h2)
              clear hh hfi hC hb0 hq hql
              have hcBs := Lib.hid (fun wx (h : St w ((g, 38, #[.int .u8 (Img.at_ l i).op, .int .i64 (Img.at_ l i).a, .int .i64 (Img.at_ l i).b, .int .i64 (Img.at_ l i).c, .int .i64 (Img.at_ l i).d]) :: [(g7, 24, #[.slice (some ⟨gm, 0, none⟩) l.length l.length, .int .i64 mem, .int .i64 st]), (gm, 38, carr (Img.invF l i) l.length), (w.heap.size + 1, 24, #[.slice none 0 0, .int .i64 0, .int .i64 0]), (w.heap.size, 24, #[.slice (some ⟨b, o, none⟩) l.length cap, .int .i64 mem, .int .i64 st])]) wx) => CodeB.after h.1 hcB)
              rcases hC2 with o30 | ⟨o30, o31⟩
              all_goals go_wp2_with (first | (go_at_call 27; refine (HPA.out _ (hcBs.out _ hS3)).mono ?_; rintro e wn3 ⟨rfl, hB3⟩; have hS6 := St.call hB3 hS3; obtain ⟨x0, x1, x2, x3, x4, xf0, xf1, xf2, xf3, xf4⟩ := Blk.cells5 hS6.b1) | (go_at_call 34; refine (retarget_any _ _ _ _ _ _ _).mono ?_; rintro e wn2 ⟨rfl, hB2⟩; have hS4 := St.call hB2 hS6; obtain ⟨x0, x1, x2, x3, x4, xf0, xf1, xf2, xf3, xf4⟩ := Blk.cells5 hS4.b1))
              all_goals go_meet
              all_goals rw [HP.out]
              all_goals exact hS4.put5 (by omega) HLy.out _ _ _ _ _
        case rest =>
          have hS5 := hcut
          clear hS3 hcut
          have HSTEP := Lib.hid (fun k (_ : k < l.length) => Img.invF_step l i m Hm.out k)
          generalize Img.preI l i = y at *
          have hS5 : St w ((g, 38, #[.int .u8 (y).op, .int .i64 (y).a, .int .i64 (y).b, .int .i64 (y).c, .int .i64 (y).d]) :: [(g7, 24, #[.slice (some ⟨gm, 0, none⟩) l.length l.length, .int .i64 mem, .int .i64 st]), (gm, 38, carr (Img.invF l i) l.length), (w.heap.size + 1, 24, #[.slice none 0 0, .int .i64 0, .int .i64 0]), (w.heap.size, 24, #[.slice (some ⟨b, o, none⟩) l.length cap, .int .i64 mem, .int .i64 st])]) wc := hS5
          obtain ⟨x0, x1, x2, x3, x4, -⟩ := Blk.cells5 hS5.b1
          obtain ⟨k0, -⟩ := Blk.cells3 hS5.b2
          have hgl := hS5.b3.lt
          have hSd := hS5.drew
          have hml2 : m < l.length := hml
          go_wp2_with fail
          go_region_with (first | (go_at_call 32; refine (inverse_any _ _ _ _ _ _).mono ?_; rintro e wn ⟨rfl, hB⟩; have hS7 := St.call hB hSd; obtain ⟨v0, v1, v2, v3, v4, z0, z1, z2, z3, z4, zf0, zf1, zf2, zf3, zf4⟩ := carr_cells hS7.b3 hml2; obtain ⟨k0, -⟩ := Blk.cells3 hS7.b2))
          all_goals go_wp2
          all_goals go_roundw
          all_goals first | (simp [intOf]; omega; done) | exact inv_round hgm hg7 hne hil HSTEP.out hml2 (show ((l.length : Nat) : Int) - 1 - ((i + 1 : Nat) : Int) = (m : Int) - 1 from by have := Hm.out; omega) hS7
      · obtain rfl : i = l.length := by omega
        clear hil hil0
        obtain ⟨k0, k1, k2, -⟩ := Blk.cells3 hS.b1
        obtain ⟨r0, r1, r2, rf0, rf1, rf2⟩ := Blk.cells3 hS.b3
        rw [show carr (Img.invF l l.length) l.length = carr (Img.at_ (Img.invert l)) l.length from carr_congr (fun k hk => Img.invF_all l k hk)] at hS
        have hS6 := (hS.sub (L' := [(w.heap.size + 1, 24, #[.slice none 0 0, .int .i64 0, .int .i64 0]), (gm, 38, carr (Img.at_ (Img.invert l)) l.length)]) (by intro x hx; simp at hx; rcases hx with rfl | rfl <;> simp)).put3 (by omega) (by intro y hy; simp at hy; subst hy; simp; omega) (.slice (some ⟨gm, 0, none⟩) l.length l.length) (.int .i64 mem) (.int .i64 st)
        clear hS
        go_wp2
        refine bodyPost_ret (results_ct rfl _ _ (w.heap.size + 1) 24 _ _ rfl hS6.b1 Try.underlying24 rfl (by kernel_rfl)) rfl ?_
        exact ⟨gm, rfl, hS6.1, carr_code (by rw [Img.invert_length]; exact hS6.b2)⟩
end Go.Proofs.Yteonkfdmkgjpaaa
