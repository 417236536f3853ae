/- Contracts of the reference of layer 23: region. -/
import Derived.Test.YteonkfdmkgjpaaaImgR2
import Derived.Deep.RegionHeld3
import Derived.Deep.DeepCutAuto
import Derived.BigQuiet
import Derived.Deep.QuietTactic
namespace Go.Proofs.Yteonkfdmkgjpaaa
open Go.RowKit
set_option linter.unusedVariables false
set_option linter.unusedSimpArgs false

namespace Img
/-- the reference's region: the greatest start below m, other than sk, whose partner is not below k -/
def rregU (l : List Ins) (sk : Int) : Nat → Nat → Int
  | 0, _ => -1
  | m + 1, k => if (m : Int) ≠ sk ∧ (at_ l m).op = 32 ∧ (k : Int) ≤ num1 (partner l m) then (m : Int) else rregU l sk m k
theorem rregU_step (l : List Ins) (sk : Int) (m k : Nat) : rregU l sk (m + 1) k = if (m : Int) ≠ sk ∧ (at_ l m).op = 32 ∧ (k : Int) ≤ num1 (partner l m) then (m : Int) else rregU l sk m k := rfl
theorem covers_iff {l : List Ins} {m k : Nat} (h : m ≤ k) : covers l m k = true ↔ (at_ l m).op = 32 ∧ (k : Int) ≤ num1 (partner l m) := by
  cases hp : partner l m with
  | none => simp [covers, hp, num1]; omega
  | some e => simp [covers, hp, num1, isS, h]
theorem rregU_lt {l : List Ins} {sk : Int} {k : Nat} : ∀ {m : Nat}, m ≤ k + 1 → (∀ j : Nat, j < m → (j : Int) ≠ sk) → rregU l sk m k = regU l m k
  | 0, _, _ => rfl
  | m + 1, h, hs => by
    rw [rregU_step, regU_step, rregU_lt (m := m) (by omega) (fun j hj => hs j (by omega))]
    have := covers_iff (l := l) (m := m) (k := k) (by omega)
    by_cases hc : covers l m k = true
    · rw [if_pos hc, if_pos ⟨hs m (by omega), this.1 hc⟩]
    · rw [if_neg hc, if_neg (fun h2 => hc (this.2 h2.2))]
theorem regU_above {l : List Ins} {k : Nat} : ∀ {m : Nat}, k + 1 ≤ m → regU l m k = regU l (k + 1) k
  | 0, h => by omega
  | m + 1, h => by
    by_cases e : m = k
    · rw [e]
    · rw [regU_step, regU_above (m := m) (by omega), if_neg]
      cases hp : partner l m with
      | none => simp [covers, hp]
      | some q => simp [covers, hp]; intro _ h2; omega
/-- the reference's region is the region -/
theorem rreg_all {l : List Ins} {k : Nat} (h : k < l.length) : rregU l (-1) (k + 1) k = region l k := by
  rw [rregU_lt (Nat.le_refl _) (fun j _ => by omega)]
  exact (regU_above h).symm
theorem rreg_skip {l : List Ins} {k : Nat} : rregU l (k : Int) (k + 1) k = regU l k k := by
  rw [rregU_step, if_neg (by simp), rregU_lt (by omega) (fun j hj => by omega)]
theorem regU_ge (l : List Ins) (k : Nat) : ∀ m, -1 ≤ regU l m k
  | 0 => Int.le_refl _
  | m + 1 => by
    rw [regU_step]
    split
    · omega
    · exact regU_ge l k m
theorem nested_iff {l : List Ins} {k : Nat} : nested l k = decide (0 ≤ rregU l (k : Int) (k + 1) k) := by
  rw [rreg_skip]
  unfold nested
  have := regU_ge l k k
  rw [decide_eq_decide]
  omega
end Img

set_option maxHeartbeats 4000000 in
theorem rregion_any (l : List Ins) (b o cap : Nat) (k : Nat) (sk : Int) (w : World) (hn0 : l.length ≤ 65536) (hk : k < l.length) (hok : OpsOk l) (hcB : CodeB w b o l) :
    Calls Try.prog 65 #[(.slice (some ⟨b, o, none⟩) l.length cap), .int .i64 k, .int .i64 sk] w fun e w' => e = .returned (.int .i64 (Img.rregU l sk (k + 1) k)) ∧ Below w.heap.size w w' := by
  have hS := St.start w
  go_enter Try.func65, Try.ntmps65
  go_wp2
  obtain ⟨wo, hwo⟩ : ∃ wo : World, wo = w := ⟨_, rfl⟩
  go_loopw [7] (fun c wx => ∃ s : Nat, s ≤ k + 1 ∧ c = .int .i64 ((s : Int) - 1) ∧ St w [] wx ∧ Hid (Img.rregU l sk (k + 1) k = Img.rregU l sk s k)) (fun c _ => (intOf c + 1).toNat)
  case atStart => exact ⟨k + 1, Nat.le_refl _, by go_num, hS, rfl⟩
  case round =>
    clear hS
    obtain ⟨s, hs, rfl, hS, hn⟩ := hrel
    cases s with
    | zero =>
      rw [show ((0 : Nat) : Int) - 1 = -1 from rfl]
      go_wp2
      go_ret
      exact ⟨by rw [hn.out]; rfl, hS.1⟩
    | succ m =>
      rw [show ((m + 1 : Nat) : Int) - 1 = (m : Int) from by omega]
      have hml : m < l.length := by omega
      have HP := Lib.hid (show ∀ wx, CodeB wx b o l → Calls Try.prog 35 #[(.slice (some ⟨b, o, none⟩) l.length cap), .int .i64 m] wx fun e w' => e = .returned (.int .i64 (Img.num1 (Img.partner l m))) ∧ Below wx.heap.size wx w' from fun wx h => rpartner_in l b o cap m wx hml hok h)
      have hcW := CodeB.after hS.1 hcB
      have hcell := (hcW.2 m hml).1
      have hb := hcW.1
      have HcW := Lib.hid hcW
      clear hcW
      have hstep := Img.rregU_step l sk m k
      generalize Img.num1 (Img.partner l m) = v at *
      by_cases c1 : (m : Int) = sk
      · have g1 : ((m : Int) != sk) = false := by simp [c1]
        have hnx := Lib.hid (hn.out.trans (hstep.trans (if_neg (fun h => h.1 c1))))
        clear c1 hn hstep
        go_wp2
        go_roundw
        case rel => exact ⟨m, by omega, by go_num, hS, hnx⟩
        case measure => simp [intOf]; try omega
      have g1 : ((m : Int) != sk) = true := by simp [c1]
      by_cases c2 : (Img.at_ l m).op = 32
      · have g2 : ((Img.at_ l m).op == 32) = true := beq_iff_eq.2 c2
        by_cases c3 : (k : Int) ≤ v
        · have hnx := Lib.hid (hn.out.trans (hstep.trans (if_pos ⟨c1, c2, c3⟩)))
          clear c1 c2 hn hstep
          go_wp2_with (first | (go_at_call 35; refine (HP.out _ HcW.out).mono ?_; rintro e wn ⟨rfl, hB⟩; have hS2 := St.call hB hS))
          go_ret
          exact ⟨by rw [hnx.out]; rfl, hS2.1⟩
        · have hnx := Lib.hid (hn.out.trans (hstep.trans (if_neg (fun h => c3 h.2.2))))
          have c4 : v < (k : Int) := by omega
          clear c1 c2 hn hstep c3
          go_wp2_with (first | (go_at_call 35; refine (HP.out _ HcW.out).mono ?_; rintro e wn ⟨rfl, hB⟩; have hS2 := St.call hB hS))
          go_roundw
          case rel => exact ⟨m, by omega, by go_num, hS2, hnx⟩
          case measure => simp [intOf]; try omega
      · have g2 : ((Img.at_ l m).op == 32) = false := beq_eq_false_iff_ne.2 c2
        have hnx := Lib.hid (hn.out.trans (hstep.trans (if_neg (fun h => c2 h.2.1))))
        clear c1 c2 hn hstep
        go_wp2
        go_roundw
        case rel => exact ⟨m, by omega, by go_num, hS, hnx⟩
        case measure => simp [intOf]; try omega
end Go.Proofs.Yteonkfdmkgjpaaa
