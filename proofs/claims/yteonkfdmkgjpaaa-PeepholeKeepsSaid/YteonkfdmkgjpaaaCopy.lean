/- Words for memory: a slice that reads as a list, an append from whatever source onto a row of the call's own; a copy of code that the call makes. -/
import Derived.Test.YteonkfdmkgjpaaaCode4
import Derived.Test.YteonkfdmkgjpaaaAuto
import Derived.Maps.AppendAt
import Derived.Deep.AppendLies
import Derived.RegionTactic
import Derived.OwnWalk
import Derived.Deep.Draws
namespace Go.Proofs.Yteonkfdmkgjpaaa
open Go.RowKit Go.Deep
set_option linter.unusedVariables false
theorem block_of_add (a : Addr) (n : Nat) : (a.add n).block = a.block := by unfold Addr.add; split <;> rfl
theorem add_of_add (a : Addr) (i j : Nat) : (a.add i).add j = a.add (i + j) := by
  unfold Addr.add
  by_cases hi : i = 0 <;> by_cases hj : j = 0 <;> simp [hi, hj, Nat.add_assoc]

def Reads (w : World) (B size : Nat) (A : Option Addr) (n : Nat) (xs : List Value) : Prop :=
  xs.length = n * size ∧ (0 < n → ∃ ad, A = some ad ∧ ad.block < B ∧ ∀ j u, xs[j]? = some u → w.cell? (ad.add j) = some u)

section
variable {w w' : World} {B B' size n : Nat} {A : Option Addr} {xs : List Value}
theorem Reads.none_ : Reads w B size A 0 [] := ⟨by simp, fun h => absurd h (by omega)⟩
theorem Reads.at_ {k : Nat} (h : Reads w B 1 A n xs) (hk : k < n) : ∃ ad u, A = some ad ∧ ad.block < B ∧ xs[k]? = some u ∧ w.cell? (ad.add k) = some u := by
  obtain ⟨ad, e, hb, hc⟩ := h.2 (by omega)
  have hl : k < xs.length := by have := h.1; omega
  exact ⟨ad, xs[k], e, hb, List.getElem?_eq_getElem hl, hc k _ (List.getElem?_eq_getElem hl)⟩
theorem Reads.keep (h : Reads w B size A n xs) (hk : ∀ p : Addr, p.block < B → w'.cell? p = w.cell? p) : Reads w' B size A n xs :=
  ⟨h.1, fun hn => by
    obtain ⟨ad, e, hb, hc⟩ := h.2 hn
    exact ⟨ad, e, hb, fun j u hu => (hk _ (by rw [block_of_add]; exact hb)).trans (hc j u hu)⟩⟩
theorem Reads.more (h : Reads w B size A n xs) (hB : B ≤ B') : Reads w B' size A n xs :=
  ⟨h.1, fun hn => by
    obtain ⟨ad, e, hb, hc⟩ := h.2 hn
    exact ⟨ad, e, by omega, hc⟩⟩
theorem Reads.below (h : Reads w B size A n xs) (hb : Below B w w') : Reads w' B size A n xs := h.keep fun _ hp => hb.cell hp
theorem Reads.drew (h : Reads w B size A n xs) : Reads w.drew B size A n xs := h
theorem Reads.drewN (h : Reads w B size A n xs) (k : Nat) : Reads (w.drewN k) B size A n xs := h
theorem Reads.alloc (h : Reads w B size A n xs) (hB : B ≤ w.heap.size) (o : Obj) : Reads (w.alloc o) B size A n xs := h.keep fun p hp => World.cell?_alloc_lt w o p (by omega)
theorem Reads.setCell (h : Reads w B size A n xs) {p : Addr} (hB : B ≤ p.block) (u : Value) : Reads (w.setCell p u) B size A n xs :=
  h.keep fun q hq => World.cell?_setCell_other w p q u (fun e => by subst e; omega)
theorem Reads.grown (h : Reads w B size A n xs) {row : Option Nat} (hg : w.grownBy w' row) (hB : B ≤ w.heap.size) (hr : ∀ g, row = some g → B ≤ g) : Reads w' B size A n xs :=
  h.keep fun p hp => World.cell?_of_block (hg.block p.block (by omega) (fun e => by have := hr _ e.symm; omega))
theorem Reads.cut (h : Reads w B size A n xs) {k cap : Nat} (hk : k ≤ n) (hc : n ≤ cap) :
    Reads w B size (if cap = k then A else A.map (·.add (k * size))) (n - k) (xs.drop (k * size)) := by
  refine ⟨by rw [List.length_drop, h.1, Nat.sub_mul], fun hn => ?_⟩
  obtain ⟨ad, rfl, hb, hcell⟩ := h.2 (by omega)
  rw [if_neg (by omega)]
  refine ⟨ad.add (k * size), rfl, by rw [block_of_add]; exact hb, fun j u hu => ?_⟩
  rw [add_of_add]
  exact hcell _ u (by rw [← hu, List.getElem?_drop])
theorem Reads.of_own {base : Nat} {e : TypeId} {c : Nat} (h : w.ownsRow base e size (.slice A n c) n xs) : Reads w w.heap.size size A n xs := by
  refine ⟨h.1, fun hn => ?_⟩
  obtain ⟨g, cap, hv, _, hlt⟩ := h.form hn
  have hA : A = some ⟨g, 0, none⟩ := by injection hv
  subst hA
  exact ⟨_, rfl, hlt, h.cells (g := g) rfl⟩
end
section
variable {P : Program} (w : World)

theorem run_append_of_nil (base : Nat) (t ty e : TypeId) (i : TypeInfo) (size : Nat) (ht : P.underlying t = some (.slice e)) (hi : P.info? e = some i)
    (v : Value) (n : Nat) (xs : List Value) (hown : w.ownsRow base e size v n xs) (c : Nat) : (Builtin.append_ #[t, t] ty #[v, .slice none 0 c]).run P w = .ok v w := by
  rcases hown.2 with ⟨rfl, rfl⟩ | ⟨g, cap, cur, rfl, _, _, hnc, _⟩
  · simp [Builtin.append_, run_underlying ht, sizeOf, typeInfo, hi, Builtin.lenOf, Builtin.firstCells]
  · simp [Builtin.append_, run_underlying ht, sizeOf, typeInfo, hi, Builtin.lenOf, Builtin.firstCells, hnc, storeCells]

theorem run_append_any (base : Nat) (t ty e : TypeId) (i : TypeInfo) (z : Value) (size bytes : Nat) (ht : P.underlying t = some (.slice e)) (hi : P.info? e = some i) (hz : i.zero = some z)
    (hsize : i.size = size) (hby : i.bytes = bytes) (hzs : z.cells.size = size) (hsz : 0 < size)
    (v : Value) (n : Nat) (xs : List Value) (hown : w.ownsRow base e size v n xs)
    (B : Nat) (A : Option Addr) (m c : Nat) (news : List Value) (hr : Reads w B size A m news) (h1 : ∀ u ∈ news, u.oneCell' = true)
    (h63 : n + m ≤ maxLen) (hbytes : (n + m) * bytes ≤ 140737488355328) (hbase : base ≤ w.heap.size) :
    ∃ v' w', (Builtin.append_ #[t, t] ty #[v, .slice A m c]).run P w = .ok v' w' ∧ w'.ownsRow base e size v' (n + m) (xs ++ news) ∧ w.grownBy w' v.ownBlock ∧
      (v'.ownBlock = v.ownBlock ∨ v'.ownBlock = some w.heap.size) := by
  rcases A with _ | ad
  · have hm : m = 0 := by
      rcases Nat.eq_zero_or_pos m with h0 | h0
      · exact h0
      · obtain ⟨ad, h, _⟩ := hr.2 h0
        cases h
    subst hm
    have hn : news = [] := List.eq_nil_of_length_eq_zero (by simpa using hr.1)
    subst hn
    exact ⟨v, w, run_append_of_nil w base t ty e i size ht hi v n xs hown c, by simpa using hown, World.grownBy.refl w _, .inl rfl⟩
  · have hcells : ∀ j u, news[j]? = some u → w.cell? (ad.add j) = some u := by
      intro j u hu
      rcases Nat.eq_zero_or_pos m with h0 | h0
      · subst h0
        have hn : news = [] := List.eq_nil_of_length_eq_zero (by simpa using hr.1)
        subst hn
        simp at hu
      · obtain ⟨ad', h, _, hc⟩ := hr.2 h0
        injection h with h
        subst h
        exact hc j u hu
    obtain ⟨v', w', hrun, h2, h3, _, h5⟩ := run_append_own_at (P := P) w base t ty e i z size bytes ht hi hz hsize hby hzs hsz v n xs hown ad m c news hr.1 hcells h1 h63 hbytes hbase
    exact ⟨v', w', hrun, h2, h3, h5⟩

theorem wp_append_any {o : Oper} {a : Act} {K : Act → World → Prop} {Q : Exit → Act → World → Prop} (s x : Operand) (t : TypeId)
    (ho : o.op = .call { callee := .builtin .append, args := #[s, x], argTypes := #[t, t] })
    (base : Nat) (e : TypeId) (i : TypeInfo) (z : Value) (size bytes : Nat) (ht : P.underlying t = some (.slice e)) (hi : P.info? e = some i) (hz : i.zero = some z)
    (hsize : i.size = size) (hby : i.bytes = bytes) (hzs : z.cells.size = size) (hsz : 0 < size)
    (v : Value) (n : Nat) (xs : List Value) (hs : a.eval s = v) (hown : w.ownsRow base e size v n xs)
    (B : Nat) (A : Option Addr) (m c : Nat) (news : List Value) (hx : a.eval x = .slice A m c) (hr : Reads w B size A m news) (h1 : ∀ u ∈ news, u.oneCell' = true)
    (h63 : n + m ≤ maxLen) (hbytes : (n + m) * bytes ≤ 140737488355328) (hbase : base ≤ w.heap.size)
    (h : ∀ v' w', w'.ownsRow base e size v' (n + m) (xs ++ news) → w.grownBy w' v.ownBlock → (v'.ownBlock = v.ownBlock ∨ v'.ownBlock = some w.heap.size) → K (a.put o.dst v') w') : o.wp P a w K Q := by
  obtain ⟨v', w', hrun, h2, h3, h4⟩ := run_append_any (P := P) w base t o.type e i z size bytes ht hi hz hsize hby hzs hsz v n xs hown B A m c news hr h1 h63 hbytes hbase
  unfold Oper.wp execOp
  simp only [ho, resolve, invoke, builtin, Sem.run_bind, Sem.run_pure, Result.andThen_ok, List.map_toArray, List.map_cons, List.map_nil, hs, hx, hrun]
  exact h v' w' h2 h3 h4

theorem wpList_append_any {ops : Array Oper} {rest : List Oper} {o : Oper} {a : Act} {Q : Exit → Act → World → Prop} (hgd : o.guard = none) (s x : Operand) (t : TypeId)
    (ho : o.op = .call { callee := .builtin .append, args := #[s, x], argTypes := #[t, t] })
    (base : Nat) (e : TypeId) (i : TypeInfo) (z : Value) (size bytes : Nat) (ht : P.underlying t = some (.slice e)) (hi : P.info? e = some i) (hz : i.zero = some z)
    (hsize : i.size = size) (hby : i.bytes = bytes) (hzs : z.cells.size = size) (hsz : 0 < size)
    (v : Value) (n : Nat) (xs : List Value) (hs : a.eval s = v) (hown : w.ownsRow base e size v n xs)
    (B : Nat) (A : Option Addr) (m c : Nat) (news : List Value) (hx : a.eval x = .slice A m c) (hr : Reads w B size A m news) (h1 : ∀ u ∈ news, u.oneCell' = true)
    (h63 : n + m ≤ maxLen) (hbytes : (n + m) * bytes ≤ 140737488355328) (hbase : base ≤ w.heap.size)
    (h : ∀ v' w', w'.ownsRow base e size v' (n + m) (xs ++ news) → w.grownBy w' v.ownBlock → (v'.ownBlock = v.ownBlock ∨ v'.ownBlock = some w.heap.size) → wpList P ops Q rest (a.put o.dst v') w') : wpList P ops Q (o :: rest) a w :=
  wpList_plain hgd fun _ hK => wp_append_any w s x t ho base e i z size bytes ht hi hz hsize hby hzs hsz v n xs hs hown B A m c news hx hr h1 h63 hbytes hbase fun v' w' h2 h3 h4 => hK _ _ (h v' w' h2 h3 h4)

theorem step_append_any {ops : Array Oper} {o : Oper} {a : Act} {K : Act → World → Prop} {Q : Exit → Act → World → Prop} {E : Prop} (hgd : o.guard = none) (s x : Operand) (t : TypeId)
    (ho : o.op = .call { callee := .builtin .append, args := #[s, x], argTypes := #[t, t] })
    (base : Nat) (e : TypeId) (i : TypeInfo) (z : Value) (size bytes : Nat) (ht : P.underlying t = some (.slice e)) (hi : P.info? e = some i) (hz : i.zero = some z)
    (hsize : i.size = size) (hby : i.bytes = bytes) (hzs : z.cells.size = size) (hsz : 0 < size)
    (v : Value) (n : Nat) (xs : List Value) (hs : a.eval s = v) (hown : w.ownsRow base e size v n xs)
    (B : Nat) (A : Option Addr) (m c : Nat) (news : List Value) (hx : a.eval x = .slice A m c) (hr : Reads w B size A m news) (h1 : ∀ u ∈ news, u.oneCell' = true)
    (h63 : n + m ≤ maxLen) (hbytes : (n + m) * bytes ≤ 140737488355328) (hbase : base ≤ w.heap.size)
    (h : ∀ v' w', w'.ownsRow base e size v' (n + m) (xs ++ news) → w.grownBy w' v.ownBlock → (v'.ownBlock = v.ownBlock ∨ v'.ownBlock = some w.heap.size) → K (a.put o.dst v') w') :
    if Region.wanted o (yielded ops a.tmps) = true then Oper.wp P o a w K Q else E := by
  have hw : Region.wanted o (yielded ops a.tmps) = true := by simp [Region.wanted, hgd]
  rw [if_pos hw]
  exact wp_append_any w s x t ho base e i z size bytes ht hi hz hsize hby hzs hsz v n xs hs hown B A m c news hx hr h1 h63 hbytes hbase h
end
theorem own_blk_ne {w : World} {g : Nat} {t : TypeId} {cs : Array Value} {base : Nat} {e : TypeId} {size n : Nat} {v : Value} {xs : List Value} (h : w.ownsRow base e size v n xs) (hg : Blk w g t cs) (hne : e ≠ t) : v.ownBlock ≠ some g := by
  rcases h.2 with ⟨rfl, _⟩ | ⟨g', cap, cur, rfl, _, hh, _⟩
  · simp [Value.ownBlock]
  · intro he
    have : g' = g := by simpa [Value.ownBlock] using he
    subst this
    exact Blk.ne_ (t := e) hh hg hne rfl
theorem cell_cases (x : Ins) (j : Nat) (hj : j < 5) : (j = 0 ∧ x.cell j = .int .u8 x.op) ∨ (j = 1 ∧ x.cell j = .int .i64 x.a) ∨ (j = 2 ∧ x.cell j = .int .i64 x.b) ∨ (j = 3 ∧ x.cell j = .int .i64 x.c) ∨ (j = 4 ∧ x.cell j = .int .i64 x.d) := by
  have : j = 0 ∨ j = 1 ∨ j = 2 ∨ j = 3 ∨ j = 4 := by omega
  rcases this with rfl | rfl | rfl | rfl | rfl <;> simp [Ins.cell]
theorem code_reads {w : World} {A : Option Addr} {l : List Ins} (h : CodeAt w A l) : Reads w w.heap.size 5 A l.length (codeL l) := by
  refine ⟨codeL_length l, fun hn => ?_⟩
  obtain ⟨b, o, rfl, hb, hc⟩ := h hn
  refine ⟨⟨b, o, none⟩, rfl, hb, fun j u hj => ?_⟩
  have e : ((⟨b, o, none⟩ : Addr).add j) = ⟨b, o + j, none⟩ := by
    unfold Addr.add
    split
    · rename_i h; subst h; rfl
    · rfl
  rw [e]
  unfold codeL at hj
  rw [Array.getElem?_toList, carr_at] at hj
  split at hj
  · rename_i hlt
    injection hj with hj
    subst hj
    obtain ⟨a0, a1, a2, a3, a4⟩ := hc (j / 5) (by omega)
    have hd : j = j / 5 * 5 + j % 5 := by omega
    have hr : j % 5 < 5 := by omega
    generalize j / 5 = k at *
    generalize j % 5 = r at *
    subst hd
    rcases cell_cases (Img.at_ l k) r hr with ⟨rfl, e2⟩ | ⟨rfl, e2⟩ | ⟨rfl, e2⟩ | ⟨rfl, e2⟩ | ⟨rfl, e2⟩ <;> rw [e2]
    · exact a0
    · rw [← Nat.add_assoc]; exact a1
    · rw [← Nat.add_assoc]; exact a2
    · rw [← Nat.add_assoc]; exact a3
    · rw [← Nat.add_assoc]; exact a4
  · cases hj
theorem codeL_one (l : List Ins) : ∀ u ∈ codeL l, u.oneCell' = true := by
  intro u hu
  obtain ⟨j, hj, rfl⟩ := List.getElem_of_mem hu
  have h := List.getElem?_eq_getElem hj
  unfold codeL at h
  rw [Array.getElem?_toList, carr_at] at h
  split at h
  · injection h with h
    have h' : (codeL l)[j] = (Img.at_ l (j / 5)).cell (j % 5) := h.symm
    rw [h']
    rcases cell_cases (Img.at_ l (j / 5)) (j % 5) (by omega) with ⟨e1, e2⟩ | ⟨e1, e2⟩ | ⟨e1, e2⟩ | ⟨e1, e2⟩ | ⟨e1, e2⟩ <;> rw [e2] <;> rfl
  · cases h
theorem own_slice' {w : World} {base size n : Nat} {e : TypeId} {v : Value} {xs : List Value} (h : w.ownsRow base e size v n xs) : ∃ A c, v = .slice A n c := by
  obtain ⟨hl, ⟨rfl, hn⟩ | ⟨g, cap, cur, rfl, hb, hg, hcap, hmax, hsz, htk⟩⟩ := h
  · exact ⟨none, 0, by rw [hn]⟩
  · exact ⟨_, _, rfl⟩
theorem CRow.far {W : World} {base : Nat} {v : Value} {ls : List Ins} (h : CRow W base v ls) (p : Addr) (hne : v.ownBlock ≠ some p.block) (u : Value) : CRow (W.setCell p u) base v ls := by
  obtain ⟨h1, hn | ⟨g, cap, cur, rfl, hb, hg, rest⟩⟩ := h
  · exact ⟨h1, .inl hn⟩
  · exact ⟨h1, .inr ⟨g, cap, cur, rfl, hb, (Below.heap_setCell W p u g (fun e => hne (by rw [e]; rfl))).trans hg, rest⟩⟩
theorem below_alloc' {ws W : World} (h : Below ws.heap.size ws W) (o : Obj) : Below ws.heap.size ws (W.alloc o) := h.alloc h.size o
theorem below_drew' {ws W : World} (h : Below ws.heap.size ws W) : Below ws.heap.size ws W.drew := h.drew
theorem own_empty {ws W : World} (h : Below ws.heap.size ws W) (e : TypeId) (size : Nat) : (W.alloc (.cells #[] e)).ownsRow ws.heap.size e size (.slice (some ⟨W.heap.size, 0, none⟩) 0 0) 0 [] := World.ownsRow_made W #[] 0 h.size (Nat.zero_le _) (by simp)
theorem own_empty1 {ws : World} (o : Obj) (e : TypeId) (size : Nat) : ((ws.alloc o).alloc (.cells #[] e)).ownsRow ws.heap.size e size (.slice (some ⟨ws.heap.size + 1, 0, none⟩) 0 0) 0 [] := by
  have h := own_empty (below_alloc' (Below.refl ws.heap.size ws) o) e size
  rw [World.size_alloc] at h
  exact h
theorem below_set' {ws W : World} {p : Addr} {v : Value} (h : Below ws.heap.size ws W) (hp : ws.heap.size ≤ p.block) : Below ws.heap.size ws (W.setCell p v) := h.setCell hp v
/-- behind the copy: the box that holds it, and the copy's code -/
theorem own_copy {w ws w1 : World} {L : List (Nat × TypeId × Array Value)} {F : List WF} {g : Nat} {v m s z0 z1 z2 : Value} {l : List Ins} (hS : Sx w L F ws) (hB : Below ws.heap.size ws w1) (hbx : Blk w1 g 24 #[z0, z1, z2]) (hg : ws.heap.size ≤ g)
    (hown : CRow w1 ws.heap.size v l) : ∃ A c, v = .slice A l.length c ∧ Sx w ((g, 24, #[v, m, s]) :: L) (codeF A l :: F) (set3 w1 g v m s) ∧ CRow (set3 w1 g v m s) ws.heap.size v l := by
  have hne := own_blk_ne hown hbx (by decide)
  have ho : CRow (set3 w1 g v m s) ws.heap.size v l := ((hown.far ⟨g, 0, none⟩ hne v).far ⟨g, 1, none⟩ hne m).far ⟨g, 2, none⟩ hne s
  have hB2 : Below ws.heap.size ws (set3 w1 g v m s) := Below_set3 hB hg v m s
  obtain ⟨A, c, rfl, hc⟩ := code_of_own ho
  refine ⟨A, c, rfl, ⟨⟨hS.1.1.trans (hB2.mono hS.1.1.size), fun x hx => ?_⟩, fun f hf => ?_⟩, ho⟩
  · rcases List.mem_cons.1 hx with rfl | hx
    · exact Blk_set3 hbx _ _ _
    · exact (hS.1.2 x hx).below hB2 (hS.1.2 x hx).lt
  · rcases List.mem_cons.1 hf with rfl | hf
    · exact hc
    · exact f.2 _ _ hB2 (hS.2 f hf)
theorem own_copy' {w ws w1 : World} {L : List (Nat × TypeId × Array Value)} {F : List WF} {g c : Nat} {A : Option Addr} {m s z0 z1 z2 : Value} {l : List Ins} (hS : Sx w L F ws) (hB : Below ws.heap.size ws w1) (hbx : Blk w1 g 24 #[z0, z1, z2]) (hg : ws.heap.size ≤ g)
    (hown : CRow w1 ws.heap.size (.slice A l.length c) l) : Sx w ((g, 24, #[.slice A l.length c, m, s]) :: L) (codeF A l :: F) (set3 w1 g (.slice A l.length c) m s) ∧ CRow (set3 w1 g (.slice A l.length c) m s) ws.heap.size (.slice A l.length c) l ∧ ws.heap.size ≤ g := by
  obtain ⟨A2, c2, e, h1, h2⟩ := own_copy (m := m) (s := s) hS hB hbx hg hown
  injection e with e1 e2 e3
  subst e1
  exact ⟨h1, h2, hg⟩
theorem own_copy3 {w ws w1 : World} {L : List (Nat × TypeId × Array Value)} {F : List WF} {c : Nat} {A : Option Addr} {l : List Ins} (hS : Sx w L F ws) (hB : Below ws.heap.size ws w1)
    (hown : CRow w1 ws.heap.size (.slice A l.length c) l) (cs : Array Value) (t : TypeId) : Sx w ((w1.heap.size, t, cs) :: L) (codeF A l :: F) (w1.alloc (.cells cs t)) ∧ CRow (w1.alloc (.cells cs t)) ws.heap.size (.slice A l.length c) l ∧ ws.heap.size ≤ w1.heap.size := by
  have h1 := Sx.call hB hS
  obtain ⟨A2, c2, e, h2⟩ := code_of_own hown
  injection e with e1 e2 e3
  subst e1
  exact ⟨(Sx.add (f := codeF A l) h2 h1).alloc cs t, hown.alloc _, hB.size⟩
end Go.Proofs.Yteonkfdmkgjpaaa
