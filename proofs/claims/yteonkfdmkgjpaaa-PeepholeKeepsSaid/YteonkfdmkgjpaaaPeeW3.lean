/- Contracts of layer 32: Optimize. -/
import Derived.Test.YteonkfdmkgjpaaaPeeW2
import Derived.Test.YteonkfdmkgjpaaaPeePure2
import Derived.Test.YteonkfdmkgjpaaaImgW7
import Derived.Deep.RegionHeld3
import Derived.Deep.DeepCutAuto
import Derived.BigQuiet
import Derived.Deep.QuietTactic
import Derived.BigRegion
import Derived.Deep.CutBlock
namespace Go.Proofs.Yteonkfdmkgjpaaa
open Go.RowKit
set_option linter.unusedVariables false
set_option linter.unusedSimpArgs false

namespace Pee
theorem posN_step {K : List Nat} (hn : K.Nodup) {k : Nat} (hk : k < K.length) (t : Nat) : (if t = K[k] then k else posN (K.take k) t) = posN (K.take (k + 1)) t := by
  unfold posN
  rw [List.take_succ_eq_append_getElem hk, List.findIdx?_append]
  by_cases e : t = K[k]
  · rw [if_pos e]
    have h0 : (K.take k).findIdx? (· == t) = none := by
      rw [List.findIdx?_eq_none_iff]
      intro x hx
      obtain ⟨j, hj, ej⟩ := List.getElem_of_mem hx
      simp only [List.length_take] at hj
      rw [List.getElem_take] at ej
      have := (List.pairwise_iff_getElem.1 hn) j k (by omega) hk (by omega)
      subst ej
      rw [e]
      simpa using this
    rw [h0]
    simp [e, Nat.min_eq_left (Nat.le_of_lt hk)]
  · rw [if_neg e]
    cases h1 : (K.take k).findIdx? (· == t) with
    | some q => simp
    | none => simp [Ne.symm e]
theorem kept_len (l : List Ins) : (kept l).length ≤ l.length := by unfold kept; rw [List.length_reverse]; exact (kr_desc l l.length).len
end Pee
theorem kept_ex (l : List Ins) (A : Option Addr) (cap : Nat) (K : List Nat) (hK : Pee.kept l = K) (w : World) (hn0 : l.length ≤ 65536) (hA : CodeAt w A l) :
    Calls Try.prog 63 #[.slice A l.length cap] w fun e w' => ∃ A1 c1, e = .returned (.slice A1 K.length c1) ∧ Below w.heap.size w w' ∧ IntsAt w' A1 (K.map fun (i : Nat) => (i : Int)) := by
  subst hK
  refine (kept_any l A cap w hn0 hA).mono ?_
  rintro e w' ⟨v, rfl, hB, ho⟩
  have ho2 : w'.ownsRow w.heap.size 3 1 v ((Pee.kept l).map fun (i : Nat) => (i : Int)).length (((Pee.kept l).map fun (i : Nat) => (i : Int)).map (Value.int .i64)) := by
    rw [List.map_map, List.length_map]
    exact ho
  obtain ⟨A1, c1, rfl, hI⟩ := ints_of_own ho2
  exact ⟨A1, c1, by rw [List.length_map], hB, hI⟩
theorem far_ints {g : Nat} {A : Option Addr} {ns : List Int} (h : ∀ b o, A = some ⟨b, o, none⟩ → 0 < ns.length → b ≠ g) : Far g (intsF A ns) := by
  intro W p u hp hc h0
  obtain ⟨b, o, e, hb, hcell⟩ := hc h0
  have hne := h b o e h0
  refine ⟨b, o, e, by simpa using hb, fun i hi => ?_⟩
  have hk : (W.setCell p u).cell? ⟨b, o + i, none⟩ = W.cell? ⟨b, o + i, none⟩ := by
    have hb := Below.heap_setCell W p u b (by rw [hp]; exact hne)
    unfold World.cell?
    rw [hb]
  exact hk.trans (hcell i hi)
theorem far_code' {g : Nat} {A : Option Addr} {l : List Ins} (h : ∀ b o, A = some ⟨b, o, none⟩ → 0 < l.length → b ≠ g) : Far g (codeF A l) := by
  intro W p u hp hc h0
  obtain ⟨b, o, e, hB⟩ := hc h0
  subst e
  exact far_code (h b o rfl h0) W p u hp hc h0

theorem ints_grown {W W' : World} {A : Option Addr} {ns : List Int} {row : Option Nat} (h : IntsAt W A ns) (hg : W.grownBy W' row) (hne : ∀ b o, A = some ⟨b, o, none⟩ → 0 < ns.length → some b ≠ row) : IntsAt W' A ns := fun h0 => by
  obtain ⟨b, o, e, hb, hcell⟩ := h h0
  exact ⟨b, o, e, Nat.lt_of_lt_of_le hb hg.size, fun i hi => hg.cell (hcell i hi) (hne b o e h0)⟩
theorem code_grown {W W' : World} {A : Option Addr} {l : List Ins} {row : Option Nat} (h : CodeAt W A l) (hg : W.grownBy W' row) (hne : ∀ b o, A = some ⟨b, o, none⟩ → 0 < l.length → some b ≠ row) : CodeAt W' A l := fun h0 => by
  obtain ⟨b, o, e, hb, hcell⟩ := h h0
  have q := hne b o e h0
  refine ⟨b, o, e, Nat.lt_of_lt_of_le hb hg.size, fun i hi => ?_⟩
  obtain ⟨a0, a1, a2, a3, a4⟩ := hcell i hi
  exact ⟨hg.cell a0 q, hg.cell a1 q, hg.cell a2 q, hg.cell a3 q, hg.cell a4 q⟩
theorem own_mono {w : World} {base base' : Nat} {e : TypeId} {size : Nat} {v : Value} {n : Nat} {xs : List Value} (h : w.ownsRow base e size v n xs) (hb : base' ≤ base) : w.ownsRow base' e size v n xs :=
  ⟨h.1, h.2.imp id fun ⟨g, cap, cur, e1, e2, e3⟩ => ⟨g, cap, cur, e1, Nat.le_trans hb e2, e3⟩⟩
/-- the optimized code behind k rounds -/
def Pee.optT (l : List Ins) (K : List Nat) (k : Nat) : List Ins := (K.take k).map fun i => Pee.rt (Pee.posI K) (Img.at_ l i)
theorem Pee.optT_step (l : List Ins) {K : List Nat} {k : Nat} (hk : k < K.length) : Pee.optT l K (k + 1) = Pee.optT l K k ++ [Pee.rt (Pee.posI K) (Img.at_ l K[k])] := by
  unfold Pee.optT
  rw [List.take_succ_eq_append_getElem hk, List.map_append]
  rfl
theorem Pee.optT_len (l : List Ins) {K : List Nat} {k : Nat} (hk : k ≤ K.length) : (Pee.optT l K k).length = k := by
  unfold Pee.optT
  rw [List.length_map, List.length_take]
  omega

set_option maxHeartbeats 8000000 in
set_option maxRecDepth 100000 in
theorem poptimize_bad (l : List Ins) (A : Option Addr) (cap : Nat) (mem st : Int) (w : World) (hA : CodeAt w A l) (hv : Img.valid l mem st = false) :
    Calls Try.prog 41 #[.agg #[.slice A l.length cap, .int .i64 mem, .int .i64 st]] w fun e w' => e = .returned (.tuple #[.agg #[.slice none 0 0, .int .i64 0, .int .i64 0], .int .i64 (Img.check l mem st).2]) ∧ Below w.heap.size w w' := by
  have hne : ((Img.check l mem st).2 != 0) = true := by unfold Img.valid at hv; simp at hv; simpa using hv
  have HCK := Lib.hid (fun wx h => check_any l A cap mem st wx h)
  generalize (Img.check l mem st).1 = c1 at *
  generalize (Img.check l mem st).2 = c2 at *
  clear hv
  go_enter Try.func41, Try.ntmps41
  have hS := ((St.start w).alloc #[.slice A l.length cap, .int .i64 mem, .int .i64 st] 24).alloc #[.slice none 0 0, .int .i64 0, .int .i64 0] 24
  simp only [World.size_alloc] at hS
  go_upto_region 1 with fail
  generalize ((w.alloc (.cells #[.slice A l.length cap, .int .i64 mem, .int .i64 st] 24)).alloc (.cells #[.slice none 0 0, .int .i64 0, .int .i64 0] 24)) = w1 at *
  obtain ⟨i0, i1, i2, -⟩ := Blk.cells3 hS.b2
  go_wp2_with (first | (go_at_call 24; refine (HCK.out _ (CodeAt.after hS.1 hA)).mono ?_; rintro e wn ⟨rfl, hB⟩; have hS3 := St.call hB hS; obtain ⟨r0, r1, r2, f0, f1, f2⟩ := Blk.cells3 hS3.b1))
  have hS4 := hS3.put3 (by omega) (by intro y hy; simp at hy; subst hy; simp) (.slice none 0 0) (.int .i64 0) (.int .i64 0)
  refine bodyPost_ret (results_ct rfl _ _ (w.heap.size + 1) 24 _ _ rfl hS4.b1 Try.underlying24 rfl (by kernel_rfl)) rfl ?_
  exact ⟨rfl, hS4.1⟩

set_option maxHeartbeats 8000000 in
set_option maxRecDepth 100000 in
theorem poptimize_good (l : List Ins) (A : Option Addr) (cap : Nat) (mem st : Int) (w : World) (hA : CodeAt w A l) (hv : Img.valid l mem st = true) :
    Calls Try.prog 41 #[.agg #[.slice A l.length cap, .int .i64 mem, .int .i64 st]] w fun e w' => ∃ v, e = .returned (.tuple #[.agg #[v, .int .i64 mem, .int .i64 st], .int .i64 0]) ∧ Below w.heap.size w w' ∧ CRow w' w.heap.size v (Pee.opt l) := by
  have hOk := Img.valid_ok hv
  have hn0 := hOk.n
  have HCK := Lib.hid (fun wx h => check_any l A cap mem st wx h)
  have hz : (Img.check l mem st).2 = 0 := by unfold Img.valid at hv; simpa using hv
  rw [hz] at HCK
  generalize (Img.check l mem st).1 = cn at *
  have HTG := Lib.hid (Pee.Tg.of hOk)
  have HOPT := Lib.hid (show Pee.opt l = (Pee.kept l).map fun i => Pee.rt (Pee.posI (Pee.kept l)) (Img.at_ l i) from rfl)
  have HKL := Lib.hid (show ∀ i ∈ Pee.kept l, i < l.length from fun i h => Pee.kept_lt h)
  have HND := Lib.hid (Pee.kept_nodup l)
  have hkl := Pee.kept_len l
  obtain ⟨i0, hi, hz0, hz1, hz2⟩ := info_parts info_instr
  obtain ⟨K, hK⟩ : ∃ K, Pee.kept l = K := ⟨_, rfl⟩
  have HKE := Lib.hid (fun wx h => kept_ex l A cap K hK wx hn0 h)
  rw [hK] at HOPT HKL HND hkl
  have hmk := fun wx => run_make_ints wx l.length (by omega)
  clear hz hv hOk hK
  have hS : Sx w [] [codeF A l] w := (Sx.add (f := codeF A l) (hA) (Sx.start (F := []) w (fun _ h => by cases h)))
  have hc : True := trivial
  go_enter Try.func41, Try.ntmps41
  go_upto_region 5 with (first | (go_at_call 24; apply calls_abs (w0 := w); (repeat (first | with_reducible apply Sx.alloc | with_reducible apply Sx.drew | with_reducible apply Sx.drewN | with_reducible exact hS)); intro wx hS2; clear hS; have hS := hS2; clear hS2; (try simp only [World.size_alloc, World.size_drew] at hS); refine (HCK.out _ hS.f1).mono ?_; rintro e wn ⟨rfl, hB⟩; replace hS := Sx.call hB hS; clear hB; clear hc; have hc := hS.cellsL; simp only [CellsL, CellsF, Nat.zero_add, Nat.reduceAdd, and_true, true_and] at hc) | (go_at_call 63; apply calls_abs (w0 := w); (repeat (first | with_reducible apply Sx.alloc | with_reducible apply Sx.drew | with_reducible apply Sx.drewN | with_reducible exact hS)); intro wx hS2; clear hS; have hS := hS2; clear hS2; (try simp only [World.size_alloc, World.size_drew] at hS); refine (HKE.out _ hS.f1).mono ?_; rintro e wn ⟨A1, c1, rfl, hB, hI⟩; replace hS := Sx.callF (f := intsF A1 (K.map fun (i : Nat) => (i : Int))) hB (hI) hS; clear hB; clear hc; have hc := hS.cellsL; simp only [CellsL, CellsF, Nat.zero_add, Nat.reduceAdd, and_true, true_and] at hc))
  apply wp_abs (w0 := w)
  · (repeat (first | with_reducible apply Sx.alloc | with_reducible apply Sx.drew | with_reducible apply Sx.drewN | with_reducible exact hS))
  intro wx hS2; clear hS; have hS := hS2; clear hS2; (try simp only [World.size_alloc, World.size_drew] at hS)
  clear hc; have hc := hS.cellsL; simp only [CellsL, CellsF, Nat.zero_add, Nat.reduceAdd, and_true, true_and] at hc
  obtain ⟨ws, hws⟩ : ∃ ws : World, ws = wx := ⟨_, rfl⟩
  rw [← hws] at hS hc ⊢
  clear hws
  obtain ⟨gat, hgat⟩ : ∃ q, ws.heap.size = q := ⟨_, rfl⟩
  have hgw : w.heap.size + 2 ≤ gat := by rw [← hgat]; exact hS.1.b1.lt
  have HfI := Lib.hid (show ∀ b o, A1 = some ⟨b, o, none⟩ → 0 < (K.map fun (i : Nat) => (i : Int)).length → b < gat from fun b o e h0 => by
    obtain ⟨b', o', e', hb', -⟩ := (show IntsAt ws A1 _ from hS.f1) h0
    rw [e] at e'
    cases e'
    omega)
  have HfC := Lib.hid (show ∀ b o, A = some ⟨b, o, none⟩ → 0 < l.length → b < w.heap.size from fun b o e h0 => by
    obtain ⟨b', o', e', hB⟩ := hA h0
    rw [e] at e'
    cases e'
    exact hB.1)
  go_upto_region 7 with fail
  apply wp_abs (w0 := w)
  · (repeat (first | with_reducible apply Sx.alloc | with_reducible apply Sx.drew | with_reducible apply Sx.drewN | with_reducible exact hS))
  intro wx hS2; clear hS; have hS := hS2; clear hS2; (try simp only [World.size_alloc, World.size_drew] at hS)
  clear hc; have hc := hS.cellsL; simp only [CellsL, CellsF, Nat.zero_add, Nat.reduceAdd, and_true, true_and] at hc
  simp only [hgat] at hS hc ⊢
  clear hmk HCK HKE
  have h34 := HND
  obtain ⟨wo, hwo⟩ : ∃ wo : World, wo = wx := ⟨_, rfl⟩
  rw [← hwo] at hS hc ⊢
  clear hwo hgat
  go_loopw [34] (fun s wr => ∃ k : Nat, k ≤ K.length ∧ s = .int .i64 k ∧ Sx w [(gat, 3, arr (fun t => (Pee.posN (K.take k) t : Int)) l.length), (w.heap.size + 1, 24, #[.slice none 0 0, .int .i64 0, .int .i64 0]), (w.heap.size, 24, #[.slice A l.length cap, .int .i64 mem, .int .i64 st])] [intsF A1 (K.map fun (i : Nat) => (i : Int)), codeF A l] wr) (fun s _ => K.length - (intOf s).toNat)
  case atStart => exact ⟨0, Nat.zero_le _, rfl, by
    have h9 := hS
    rw [arr_congr (f := fun _ => 0) (g := fun t => (Pee.posN (K.take 0) t : Int)) (fun k _ => rfl)] at h9
    exact h9⟩
  case round =>
    clear hS hc
    obtain ⟨k, hk, rfl, hS⟩ := hrel
    have hc : True := trivial
    by_cases hlt : k < K.length
    · obtain ⟨bq, oq, rfl⟩ := IntsAt.some (show IntsAt wr A1 _ from hS.f1) (by simpa using (by omega : 0 < K.length))
      obtain ⟨hbq, y0⟩ := IntsAt.cell hS.f1 (q := k) (by simpa using hlt)
      obtain ⟨p, hp⟩ : ∃ p, K[k] = p := ⟨_, rfl⟩
      have hpl : p < l.length := HKL.out p (by rw [← hp]; exact List.getElem_mem hlt)
      rw [show (K.map fun (i : Nat) => (i : Int)).getD k 0 = (p : Int) from by rw [List.getD_eq_getElem?_getD, List.getElem?_map, List.getElem?_eq_getElem hlt, hp]; rfl] at y0
      have o1 : (0 : Int) ≤ (p : Int) := by omega
      have o2 : (p : Int) < (l.length : Int) := by omega
      have c1 := (St.arrCells (w0 := w) (L := []) hS.1.b1).1 p hpl
      have c2 := (St.arrCells (w0 := w) (L := []) hS.1.b1).2 p
      have hbl := hS.1.b1.lt
      have hfar : bq ≠ gat := by have := HfI.out bq oq rfl (by simpa using (by omega : 0 < K.length)); omega
      go_wp2
      go_roundw
      case rel =>
        refine ⟨k + 1, hlt, by go_num, ?_⟩
        have h2 := hS.set1 (by omega) (by intro y hy; simp at hy; rcases hy with rfl | rfl <;> simp <;> omega) (by
          intro f hf
          simp only [List.mem_cons, List.not_mem_nil, or_false] at hf
          rcases hf with rfl | rfl
          · exact far_ints (fun b' o' e _ => by cases e; exact hfar)
          · exact far_code' (fun b' o' e h0 => by have := HfC.out b' o' e h0; omega)) p (.int .i64 (k : Int))
        rw [arr_set hpl, arr_congr (g := fun t => (Pee.posN (K.take (k + 1)) t : Int)) (fun t _ => by rw [← Pee.posN_step HND.out hlt t, hp]; split <;> rfl)] at h2
        exact h2
      case measure => simp [intOf] <;> omega
    · obtain rfl : k = K.length := by omega
      rw [arr_congr (g := fun t => (Pee.posN K t : Int)) (fun t _ => by rw [List.take_length])] at hS
      have hwr0 := hS.1.b1.lt
      have hc := hS.cellsL
      simp only [CellsL, CellsF, Nat.zero_add, Nat.reduceAdd, and_true, true_and] at hc
      go_upto_region 13 with fail
      apply wp_abs (w0 := w)
      · (repeat (first | with_reducible apply Sx.alloc | with_reducible apply Sx.drew | with_reducible apply Sx.drewN | with_reducible exact hS))
      intro wx hS2; clear hS; have hS := hS2; clear hS2; (try simp only [World.size_alloc, World.size_drew] at hS)
      clear hc; have hc := hS.cellsL; simp only [CellsL, CellsF, Nat.zero_add, Nat.reduceAdd, and_true, true_and] at hc
      obtain ⟨gout, hgo⟩ : ∃ q, wr.heap.size = q := ⟨_, rfl⟩
      have hgg : gat < gout := by rw [← hgo]; have := hwr0; exact this
      simp only [hgo] at hS hc ⊢
      obtain ⟨wo2, hwo⟩ : ∃ wo2 : World, wo2 = wx := ⟨_, rfl⟩
      rw [← hwo] at hS hc ⊢
      clear hwo hgo hc
      go_loopw [51] (fun s wr => ∃ (k : Nat) (v : Value), k ≤ K.length ∧ s = .int .i64 k ∧ Sx w [(gout, 24, #[v, .int .i64 mem, .int .i64 st]), (gat, 3, arr (fun t => (Pee.posN K t : Int)) l.length), (w.heap.size + 1, 24, #[.slice none 0 0, .int .i64 0, .int .i64 0]), (w.heap.size, 24, #[.slice A l.length cap, .int .i64 mem, .int .i64 st])] (rowF (gout + 1) v (Pee.optT l K k) :: [intsF A1 (K.map fun (i : Nat) => (i : Int)), codeF A l]) wr) (fun s _ => K.length - (intOf s).toNat)
      case atStart => exact ⟨0, _, Nat.zero_le _, rfl, Sx.add (f := rowF (gout + 1) (.slice none 0 0) (Pee.optT l K 0)) (World.ownsRow_nil _ _ _ _) hS⟩
      case round =>
        clear hS hwr0
        obtain ⟨k, v, hk, rfl, hS⟩ := hrel
        have hc := hS.cellsL
        simp only [CellsL, CellsF, Nat.zero_add, Nat.reduceAdd, and_true, true_and] at hc
        by_cases hlt : k < K.length
        · obtain ⟨bq, oq, rfl⟩ := IntsAt.some (show IntsAt wr A1 _ from hS.f2) (by simpa using (by omega : 0 < K.length))
          obtain ⟨hbq, y0⟩ := IntsAt.cell hS.f2 (q := k) (by simpa using hlt)
          have HST := Lib.hid (Pee.optT_step l hlt)
          obtain ⟨p, hp⟩ : ∃ p, K[k] = p := ⟨_, rfl⟩
          have hpl : p < l.length := HKL.out p (by rw [← hp]; exact List.getElem_mem hlt)
          rw [show (K.map fun (i : Nat) => (i : Int)).getD k 0 = (p : Int) from by rw [List.getD_eq_getElem?_getD, List.getElem?_map, List.getElem?_eq_getElem hlt, hp]; rfl] at y0
          rw [hp] at HST
          have o1 : (0 : Int) ≤ (p : Int) := by omega
          have o2 : (p : Int) < (l.length : Int) := by omega
          obtain ⟨b, o, rfl⟩ := hA.some (by omega)
          obtain ⟨hb, x0, x1, x2, x3, x4⟩ := CodeAt.cells (CodeAt.after hS.below hA) hpl
          have hlen := Lib.hid (Pee.optT_len l (K := K) (k := k) hk)
          have hT := HTG.out p hpl
          obtain ⟨x, hx⟩ : ∃ x, Img.at_ l p = x := ⟨_, rfl⟩
          rw [hx] at x0 x1 x2 x3 x4 HST hT
          obtain ⟨y, Hy⟩ : ∃ y, Hid (Pee.rt (Pee.posI K) x = y) := ⟨_, Lib.hid rfl⟩
          rw [Hy.out] at HST
          generalize Pee.optT l K k = ls at *
          have hc0 := hc
          have hrow : ∀ q, v.ownBlock = some q → q < wr.heap.size := fun q hq => (World.ownsRow.lt hS.f1 q hq).2
          go_upto_region 16 with fail
          apply wp_abs (w0 := w)
          · (repeat (first | with_reducible apply Sx.alloc | with_reducible apply Sx.drew | with_reducible apply Sx.drewN | with_reducible exact hS))
          intro wx hS2; clear hS; have hS := hS2; clear hS2; (try simp only [World.size_alloc, World.size_drew] at hS)
          clear hc; have hc := hS.cellsL; simp only [CellsL, CellsF, Nat.zero_add, Nat.reduceAdd, and_true, true_and] at hc
          obtain ⟨gx, hgx⟩ : ∃ q, wr.heap.size = q := ⟨_, rfl⟩
          have hgox : gout < gx := by rw [← hgx]; exact hc0.1
          simp only [hgx] at hS hc hb hrow ⊢
          clear x0 x1 x2 x3 x4 hgx hbq y0 hx hp hc0
          have HFX := Lib.hid (show ∀ f ∈ (rowF (gout + 1) v ls :: [intsF (some ⟨bq, oq, none⟩) (K.map fun (i : Nat) => (i : Int)), codeF (some ⟨b, o, none⟩) l] : List WF), Far gx f from by
            intro f hf
            simp only [List.mem_cons, List.not_mem_nil, or_false] at hf
            rcases hf with rfl | rfl | rfl
            · exact far_row (fun e => by have := hrow _ e; omega)
            · exact far_ints (fun b' o' e h0 => by have := HfI.out b' o' e h0; omega)
            · exact far_code' (fun b' o' e h0 => by have := HfC.out b' o' e h0; omega))
          cases hh : Img.has x
          · have HT := Lib.hid (target_ex x _ false rfl hh)
            have hy : x = y := by have := Hy.out; rw [Pee.rt_no hh] at this; exact this
            rw [hy] at hS HT hc
            clear hh Hy hy hT HFX
            go_upto_region 19 with (first | (go_at_call 33; apply calls_abs (w0 := w); (repeat (first | with_reducible apply Sx.alloc | with_reducible apply Sx.drew | with_reducible apply Sx.drewN | with_reducible exact hS)); intro wx hS2; clear hS; have hS := hS2; clear hS2; (try simp only [World.size_alloc, World.size_drew] at hS); refine (HT.out _).mono ?_; rintro e wn ⟨rfl, hB⟩; replace hS := Sx.call hB hS; clear hB; clear hc; have hc := hS.cellsL; simp only [CellsL, CellsF, Nat.zero_add, Nat.reduceAdd, and_true, true_and] at hc))
            apply wp_abs (w0 := w)
            · (repeat (first | with_reducible apply Sx.alloc | with_reducible apply Sx.drew | with_reducible apply Sx.drewN | with_reducible exact hS))
            intro wx hS2; clear hS; have hS := hS2; clear hS2; (try simp only [World.size_alloc, World.size_drew] at hS)
            clear hc; have hc := hS.cellsL; simp only [CellsL, CellsF, Nat.zero_add, Nat.reduceAdd, and_true, true_and] at hc
            obtain ⟨wz, hwz⟩ : ∃ wz : World, wz = wx := ⟨_, rfl⟩
            rw [← hwz] at hS hc ⊢
            clear hwz
            have hown := hS.f1
            have hgz := hS.1.b1.lt
            have Q1 := Lib.hid (show ls.length + 1 ≤ maxLen by rw [hlen.out]; unfold maxLen; omega)
            have Q2 := Lib.hid (show (ls.length + 1) * 40 ≤ 140737488355328 by rw [hlen.out]; omega)
            have Q4 := Lib.hid (show ∀ u ∈ ([Value.int .u8 (y).op, Value.int .i64 (y).a, Value.int .i64 (y).b, Value.int .i64 (y).c, Value.int .i64 (y).d] : List Value), u.oneCell' = true from ins_oneCell y)
            have Q3 := Lib.hid (show ∀ o : Obj, gout + 1 ≤ (wz.alloc o).heap.size from fun o => by simp; omega)
            have Q5 := Lib.hid (show ∀ j u, ([Value.int .u8 (y).op, Value.int .i64 (y).a, Value.int .i64 (y).b, Value.int .i64 (y).c, Value.int .i64 (y).d] : List Value)[j]? = some u → (wz.alloc (.cells #[.int .u8 (y).op, .int .i64 (y).a, .int .i64 (y).b, .int .i64 (y).c, .int .i64 (y).d] 38)).cell? ((⟨wz.heap.size, 0, none⟩ : Addr).add j) = some u from cells5_from (Blk.new _ _ _))
            go_upto_region 20 with (at_builtin; refine wpList_append_own _ rfl _ _ 22 rfl (gout + 1) 38 i0 (.agg #[.int .u8 0, .int .i64 0, .int .i64 0, .int .i64 0, .int .i64 0]) 5 40 Try.underlying22 hi hz0 hz1 hz2 rfl (by decide) v ls.length (codeL ls) rfl (hown.alloc _) ⟨wz.heap.size, 0, none⟩ 1 1 [Value.int .u8 (y).op, Value.int .i64 (y).a, Value.int .i64 (y).b, Value.int .i64 (y).c, Value.int .i64 (y).d] rfl rfl Q5.out Q4.out Q1.out Q2.out (Q3.out _) ?_)
            intro V9 w10 hownA hgrow _
            obtain ⟨A2, c2, rfl⟩ := own_slice' hownA
            have hrA := CRow.snoc (x := y) rfl hownA
            rw [← HST.out] at hrA
            have hlt9 := World.ownsRow.lt hown
            have hltA := World.ownsRow.lt hrA
            have hIa := IntsAt.after ((Below.refl wz.heap.size wz).alloc (Nat.le_refl _) (.cells #[.int .u8 (y).op, .int .i64 (y).a, .int .i64 (y).b, .int .i64 (y).c, .int .i64 (y).d] 38)) (show IntsAt wz _ _ from hS.f2)
            have hCa := CodeAt.after ((Below.refl wz.heap.size wz).alloc (Nat.le_refl _) (.cells #[.int .u8 (y).op, .int .i64 (y).a, .int .i64 (y).b, .int .i64 (y).c, .int .i64 (y).d] 38)) (show CodeAt wz _ _ from hS.f3)
            have hS10 : Sx w [(gout, 24, #[v, .int .i64 mem, .int .i64 st]), (gat, 3, arr (fun t => (Pee.posN K t : Int)) l.length), (w.heap.size + 1, 24, #[.slice none 0 0, .int .i64 0, .int .i64 0]), (w.heap.size, 24, #[.slice (some ⟨b, o, none⟩) l.length cap, .int .i64 mem, .int .i64 st])] (rowF (gout + 1) (.slice A2 (ls.length + 1) c2) (Pee.optT l K (k + 1)) :: [intsF (some ⟨bq, oq, none⟩) (K.map fun (i : Nat) => (i : Int)), codeF (some ⟨b, o, none⟩) l]) w10 := Sx.grown (((hS.1.tail).alloc #[.int .u8 (y).op, .int .i64 (y).a, .int .i64 (y).b, .int .i64 (y).c, .int .i64 (y).d] 38).tail) hgrow (fun q hq => by have := (hlt9 q hq).1; omega) (by intro z hz e; have := (hlt9 z.1 e.symm).1; simp only [List.mem_cons, List.not_mem_nil, or_false] at hz; rcases hz with rfl | rfl | rfl | rfl <;> simp at this <;> omega) (by
              intro f hf
              simp only [List.mem_cons, List.not_mem_nil, or_false] at hf
              rcases hf with rfl | rfl | rfl
              · exact hrA
              · exact ints_grown hIa hgrow (fun b' o' e h0 e2 => by have := (hlt9 b' e2.symm).1; have := HfI.out b' o' e h0; omega)
              · exact code_grown hCa hgrow (fun b' o' e h0 e2 => by have := (hlt9 b' e2.symm).1; have := HfC.out b' o' e h0; omega))
            clear hgrow hS hown Q1 Q2 Q3 Q4 Q5 hownA hrA hc hIa hCa
            have hc := hS10.cellsL
            simp only [CellsL, CellsF, Nat.zero_add, Nat.reduceAdd, and_true, true_and] at hc
            have h9 := hS10.set1 (by omega) (by intro z hz; simp only [List.mem_cons, List.not_mem_nil, or_false] at hz; rcases hz with rfl | rfl | rfl <;> simp <;> omega) (by
              intro f hf
              simp only [List.mem_cons, List.not_mem_nil, or_false] at hf
              rcases hf with rfl | rfl | rfl
              · exact far_row (fun e => by have := (hltA _ e).1; omega)
              · exact far_ints (fun b' o' e h0 => by have := HfI.out b' o' e h0; omega)
              · exact far_code' (fun b' o' e h0 => by have := HfC.out b' o' e h0; omega)) 0 (.slice A2 (ls.length + 1) c2)
            go_wp2
            go_roundw
            case rel => exact ⟨k + 1, (.slice A2 (ls.length + 1) c2), hlt, by go_num, h9⟩
            case measure => simp [intOf] <;> omega
          · obtain ⟨t, ht1, ht2, -⟩ := hT hh
            have HT := Lib.hid (target_ex x (t : Int) true ht1 hh)
            have HR := Lib.hid (retarget_ex x y (Pee.posN K t : Int) (by have := Hy.out; rw [Pee.rt_yes hh, ht1] at this; exact this))
            clear hh Hy hT ht1
            have o3 : (0 : Int) ≤ (t : Int) := by omega
            have o4 : (t : Int) < (l.length : Int) := by omega
            go_upto_region 18 with (first | (go_at_call 33; apply calls_abs (w0 := w); (repeat (first | with_reducible apply Sx.alloc | with_reducible apply Sx.drew | with_reducible apply Sx.drewN | with_reducible exact hS)); intro wx hS2; clear hS; have hS := hS2; clear hS2; (try simp only [World.size_alloc, World.size_drew] at hS); refine (HT.out _).mono ?_; rintro e wn ⟨rfl, hB⟩; replace hS := Sx.call hB hS; clear hB; clear hc; have hc := hS.cellsL; simp only [CellsL, CellsF, Nat.zero_add, Nat.reduceAdd, and_true, true_and] at hc))
            have c3 := (St.arrCells (w0 := w) (L := []) hS.1.b3).1 t ht2
            generalize Pee.posN K t = pt at HR c3
            go_region_with (first | (go_at_call 34; apply calls_abs (w0 := w); (repeat (first | with_reducible apply Sx.alloc | with_reducible apply Sx.drew | with_reducible apply Sx.drewN | with_reducible exact hS)); intro wx hS2; clear hS; have hS := hS2; clear hS2; (try simp only [World.size_alloc, World.size_drew] at hS); refine (HR.out _).mono ?_; rintro e wn ⟨rfl, hB⟩; replace hS := Sx.call hB hS; clear hB; clear hc; have hc := hS.cellsL; simp only [CellsL, CellsF, Nat.zero_add, Nat.reduceAdd, and_true, true_and] at hc))
            all_goals have hS9 := hS.set5 (by omega) (by intro z hz; simp only [List.mem_cons, List.not_mem_nil, or_false] at hz; rcases hz with rfl | rfl | rfl | rfl <;> simp <;> omega) HFX.out (.int .u8 y.op) (.int .i64 y.a) (.int .i64 y.b) (.int .i64 y.c) (.int .i64 y.d)
            all_goals go_upto_region 19 with fail
            all_goals refine wp_abs hS9 ?_
            all_goals (intro wx hS2; clear hS; have hS := hS2; clear hS2; (try simp only [World.size_alloc, World.size_drew] at hS))
            all_goals (clear hc; have hc := hS.cellsL; simp only [CellsL, CellsF, Nat.zero_add, Nat.reduceAdd, and_true, true_and] at hc)
            all_goals clear hS9
            all_goals
              apply wp_abs (w0 := w)
              · (repeat (first | with_reducible apply Sx.alloc | with_reducible apply Sx.drew | with_reducible apply Sx.drewN | with_reducible exact hS))
              intro wx hS2; clear hS; have hS := hS2; clear hS2; (try simp only [World.size_alloc, World.size_drew] at hS)
              clear hc; have hc := hS.cellsL; simp only [CellsL, CellsF, Nat.zero_add, Nat.reduceAdd, and_true, true_and] at hc
              obtain ⟨wz, hwz⟩ : ∃ wz : World, wz = wx := ⟨_, rfl⟩
              rw [← hwz] at hS hc ⊢
              clear hwz
              have hown := hS.f1
              have hgz := hS.1.b1.lt
              have Q1 := Lib.hid (show ls.length + 1 ≤ maxLen by rw [hlen.out]; unfold maxLen; omega)
              have Q2 := Lib.hid (show (ls.length + 1) * 40 ≤ 140737488355328 by rw [hlen.out]; omega)
              have Q4 := Lib.hid (show ∀ u ∈ ([Value.int .u8 (y).op, Value.int .i64 (y).a, Value.int .i64 (y).b, Value.int .i64 (y).c, Value.int .i64 (y).d] : List Value), u.oneCell' = true from ins_oneCell y)
              have Q3 := Lib.hid (show ∀ o : Obj, gout + 1 ≤ (wz.alloc o).heap.size from fun o => by simp; omega)
              have Q5 := Lib.hid (show ∀ j u, ([Value.int .u8 (y).op, Value.int .i64 (y).a, Value.int .i64 (y).b, Value.int .i64 (y).c, Value.int .i64 (y).d] : List Value)[j]? = some u → (wz.alloc (.cells #[.int .u8 (y).op, .int .i64 (y).a, .int .i64 (y).b, .int .i64 (y).c, .int .i64 (y).d] 38)).cell? ((⟨wz.heap.size, 0, none⟩ : Addr).add j) = some u from cells5_from (Blk.new _ _ _))
              go_upto_region 20 with (at_builtin; refine wpList_append_own _ rfl _ _ 22 rfl (gout + 1) 38 i0 (.agg #[.int .u8 0, .int .i64 0, .int .i64 0, .int .i64 0, .int .i64 0]) 5 40 Try.underlying22 hi hz0 hz1 hz2 rfl (by decide) v ls.length (codeL ls) rfl (hown.alloc _) ⟨wz.heap.size, 0, none⟩ 1 1 [Value.int .u8 (y).op, Value.int .i64 (y).a, Value.int .i64 (y).b, Value.int .i64 (y).c, Value.int .i64 (y).d] rfl rfl Q5.out Q4.out Q1.out Q2.out (Q3.out _) ?_)
              intro V9 w10 hownA hgrow _
              obtain ⟨A2, c2, rfl⟩ := own_slice' hownA
              have hrA := CRow.snoc (x := y) rfl hownA
              rw [← HST.out] at hrA
              have hlt9 := World.ownsRow.lt hown
              have hltA := World.ownsRow.lt hrA
              have hIa := IntsAt.after ((Below.refl wz.heap.size wz).alloc (Nat.le_refl _) (.cells #[.int .u8 (y).op, .int .i64 (y).a, .int .i64 (y).b, .int .i64 (y).c, .int .i64 (y).d] 38)) (show IntsAt wz _ _ from hS.f2)
              have hCa := CodeAt.after ((Below.refl wz.heap.size wz).alloc (Nat.le_refl _) (.cells #[.int .u8 (y).op, .int .i64 (y).a, .int .i64 (y).b, .int .i64 (y).c, .int .i64 (y).d] 38)) (show CodeAt wz _ _ from hS.f3)
              have hS10 : Sx w [(gout, 24, #[v, .int .i64 mem, .int .i64 st]), (gat, 3, arr (fun t => (Pee.posN K t : Int)) l.length), (w.heap.size + 1, 24, #[.slice none 0 0, .int .i64 0, .int .i64 0]), (w.heap.size, 24, #[.slice (some ⟨b, o, none⟩) l.length cap, .int .i64 mem, .int .i64 st])] (rowF (gout + 1) (.slice A2 (ls.length + 1) c2) (Pee.optT l K (k + 1)) :: [intsF (some ⟨bq, oq, none⟩) (K.map fun (i : Nat) => (i : Int)), codeF (some ⟨b, o, none⟩) l]) w10 := Sx.grown (((hS.1.tail).alloc #[.int .u8 (y).op, .int .i64 (y).a, .int .i64 (y).b, .int .i64 (y).c, .int .i64 (y).d] 38).tail) hgrow (fun q hq => by have := (hlt9 q hq).1; omega) (by intro z hz e; have := (hlt9 z.1 e.symm).1; simp only [List.mem_cons, List.not_mem_nil, or_false] at hz; rcases hz with rfl | rfl | rfl | rfl <;> simp at this <;> omega) (by
                intro f hf
                simp only [List.mem_cons, List.not_mem_nil, or_false] at hf
                rcases hf with rfl | rfl | rfl
                · exact hrA
                · exact ints_grown hIa hgrow (fun b' o' e h0 e2 => by have := (hlt9 b' e2.symm).1; have := HfI.out b' o' e h0; omega)
                · exact code_grown hCa hgrow (fun b' o' e h0 e2 => by have := (hlt9 b' e2.symm).1; have := HfC.out b' o' e h0; omega))
              clear hgrow hS hown Q1 Q2 Q3 Q4 Q5 hownA hrA hc hIa hCa
              have hc := hS10.cellsL
              simp only [CellsL, CellsF, Nat.zero_add, Nat.reduceAdd, and_true, true_and] at hc
              have h9 := hS10.set1 (by omega) (by intro z hz; simp only [List.mem_cons, List.not_mem_nil, or_false] at hz; rcases hz with rfl | rfl | rfl <;> simp <;> omega) (by
                intro f hf
                simp only [List.mem_cons, List.not_mem_nil, or_false] at hf
                rcases hf with rfl | rfl | rfl
                · exact far_row (fun e => by have := (hltA _ e).1; omega)
                · exact far_ints (fun b' o' e h0 => by have := HfI.out b' o' e h0; omega)
                · exact far_code' (fun b' o' e h0 => by have := HfC.out b' o' e h0; omega)) 0 (.slice A2 (ls.length + 1) c2)
              go_wp2
              go_roundw
              case rel => exact ⟨k + 1, (.slice A2 (ls.length + 1) c2), hlt, by go_num, h9⟩
              case measure => simp [intOf] <;> omega
        · obtain rfl : k = K.length := by omega
          have HE : Pee.optT l K K.length = Pee.opt l := by unfold Pee.optT; rw [List.take_length]; exact HOPT.out.symm
          rw [HE] at hS
          obtain ⟨A2, c2, rfl⟩ := own_slice' hS.f1
          have hlt2 := World.ownsRow.lt hS.f1
          have hrow := hS.f1
          go_wp2
          have hS5 := (St.sub hS.1 (L' := [(w.heap.size + 1, 24, #[.slice none 0 0, .int .i64 0, .int .i64 0]), (w.heap.size, 24, #[.slice A l.length cap, .int .i64 mem, .int .i64 st])]) (by intro z hz; simp only [List.mem_cons, List.not_mem_nil, or_false] at hz ⊢; rcases hz with rfl | rfl <;> simp)).put3 (by omega) (by intro y hy; simp at hy; subst hy; simp) (.slice A2 (Pee.opt l).length c2) (.int .i64 mem) (.int .i64 st)
          refine bodyPost_ret (results_ct rfl _ _ (w.heap.size + 1) 24 _ _ rfl hS5.b1 Try.underlying24 rfl (by kernel_rfl)) rfl ?_
          have hne : (Value.slice A2 (Pee.opt l).length c2).ownBlock ≠ some (w.heap.size + 1) := fun e => by have := (hlt2 _ e).1; omega
          exact ⟨_, rfl, hS5.1, own_mono (((CRow.far hrow ⟨w.heap.size + 1, 0, none⟩ hne _).far ⟨w.heap.size + 1, 1, none⟩ hne _).far ⟨w.heap.size + 1, 2, none⟩ hne _) (by omega)⟩

end Go.Proofs.Yteonkfdmkgjpaaa
