import Derived.Test.YtbngmkopgoelbaaDoorSlMgC
import Derived.Test.YtbngmkopgoelbaaDoorPost
/- SlabClasses: a block's class holds what was asked for, is no more than twice it (or the least class), and the block's place is a multiple of it. -/
set_option linter.unusedVariables false
set_option linter.unusedSimpArgs false
namespace Go.Proofs.YtbngmkopgoelbaaDoor
open Go.RowKit

/-- What is had of a block that was taken. -/
structure Got (A : Nat → Ap) (n m a : Nat) (A' : Nat → Ap) : Prop where
  wf : Wf A' n
  tk : tkn A' a = true
  c : (A' (a / 512)).c = cls m
  new : tkn A a = false
  all : ∀ b, tkn A' b = (tkn A b || b == a)
  lo : 512 ≤ a
  hi : a + cls m ≤ 512 * n
  md : a % cls m = 0
  pg : a / 512 = (a + cls m - 1) / 512
  us : usd A' n = usd A n + cls m
  same : ∀ b, tkn A b = true → (A' (b / 512)).c = (A (b / 512)).c
theorem got {A : Nat → Ap} {n m a : Nat} {A' : Nat → Ap} (W : Wf A n) (h : allc A n (cls m) = some (a, A')) : Got A n m a A' := by
  obtain ⟨p, l, S, rfl, _⟩ := spot_of W (cls_isC m) h
  have hat := S.at_
  have hf := S.fits
  have hcp := S.cc.pos
  have htk := S.tkn W
  refine ⟨S.wf W, by rw [htk a]; simp, by rw [hat.1, upd_same], S.new W, htk, hf.1, hf.2.1, hat.2, ?_, S.usd W, fun b hb => ?_⟩
  · have := inpage S.cc hat.2 hat.1
    omega
  · by_cases e : b / 512 = p
    · rw [e, upd_same]
      have ⟨t1, _, _⟩ := tkn_iff.1 hb
      rcases S.cl with h1 | h1
      · exact h1.1.symm
      · rw [e] at t1; exact absurd h1.1 t1
    · rw [upd_other _ _ e]
theorem Got.mod {A : Nat → Ap} {n m a : Nat} {A' : Nat → Ap} (G : Got A n m a A') : (a : Int) % ((cls m : Nat) : Int) = 0 := by
  have := G.md
  rw [← Int.natCast_emod, this]; rfl

set_option maxRecDepth 100000 in
set_option maxHeartbeats 2000000 in
theorem SlabClasses_calls (A : Option Addr) (len cap : Nat) (f : Nat → Int) (w : World) (T : Tb w) (hC : ColI w A len 1 0 .u16 f) (hlen : len ≤ 9223372036854775807) :
    Calls Tryd.prog 3 #[.slice A len cap] w fun e w' => e = .returned (.bool true) ∧ Kept w w' := by
  have HC := Lib.hid hC
  clear hC
  go_enter Tryd.func3, Tryd.ntmps3
  go_wp2_with fail
  refine (shown_calls _ T).mono ?_
  rintro e w1 ⟨rfl, K1⟩
  go_wp2_with fail
  refine (SNew_st K1 T 64 (by omega) (by omega)).mono ?_
  rintro e w2 ⟨s, pa, pd, pp, rfl, S2, _⟩
  have HS2 := Lib.hid S2
  clear S2 K1 T
  go_wp2_with fail
  go_loopw [6, 7, 8, 9, 10, 11] (fun i _ _ _ _ _ wr => ∃ (k : Nat) (B : Nat → Ap) (bs : List Int), k ≤ len ∧ k ≤ 100 ∧ i = .int .i64 (k : Int) ∧ St w wr s pa pd pp 64 B bs) (fun i _ _ _ _ _ _ => 100 - (intOf i).toNat)
  case atStart => exact ⟨0, _, _, by omega, by omega, rfl, HS2.out⟩
  case round =>
    obtain ⟨k, B, bs, hk, hk2, rfl, hS⟩ := hrel
    have HS := Lib.hid hS
    clear hS
    by_cases hlt : k < len ∧ k < 100
    · obtain ⟨hl1, hl2⟩ := hlt
      obtain ⟨ad, hA, hadl, hcell, hwf⟩ := (HC.out.below HS.out.kept.below) k hl1
      have hb := bd_u16 hwf
      obtain ⟨m, hm⟩ := Int.eq_ofNat_of_zero_le (show 0 ≤ 1 + f k % 256 by omega)
      have hm1 : 1 ≤ m := by omega
      have hm2 : m ≤ 256 := by omega
      rw [Nat.mul_one, Nat.add_zero] at hcell
      subst hA
      have hki : (k : Int) < (len : Int) := by omega
      clear hwf
      cases hal : allc B 64 (cls m) with
      | none =>
        have HAL := Lib.hid hal
        clear hal
        go_wp2_with fail
        refine (Alloc_none HS.out m hm1 hm2 HAL.out).mono ?_
        rintro e w3 ⟨rfl, S3, _⟩
        have HS3 := Lib.hid S3
        clear S3
        go_wp2
        go_ret
        exact ⟨rfl, HS3.out.kept⟩
      | some r =>
        obtain ⟨a, B'⟩ := r
        have G := got HS.out.wf hal
        have hge := cls_ge hm2
        have hlt2 := @cls_lt m
        have hcp := (cls_isC m).pos
        have hmod := G.mod
        have hpg := G.pg
        have ha1 := G.lo
        have ha2 := G.hi
        have ht := G.tk
        rw [← tI_nat] at ht
        have hcc : (B' (((a : Int)).toNat / 512)).c = cls m := by rw [Int.toNat_natCast]; exact G.c
        have HT := Lib.hid (And.intro ht hcc)
        have HAL := Lib.hid hal
        clear hal G ht hcc
        go_wp2_with fail
        refine (Alloc_some HS.out m a hm1 hm2 HAL.out).mono ?_
        rintro e w3 ⟨rfl, bs', S3, _, _, _⟩
        have HS3 := Lib.hid S3
        clear S3
        go_wp2_with fail
        refine (Block_st HS3.out (a : Int)).mono ?_
        rintro e w4 ⟨rfl, hB4⟩
        rw [HT.out.1, HT.out.2, if_pos rfl]
        have HS4 := Lib.hid (HS3.out.then_ hB4)
        clear hB4
        generalize cls m = c at *
        have e1 : (a : Int) / 512 = ((a : Int) + c - 1) / 512 := by omega
        have e2 : (c : Int) ≠ 0 := by omega
        have e3 : ¬ ((c : Int) < (m : Int)) := by omega
        clear hpg
        by_cases h16 : 16 < c
        · have e4 : ¬ (2 * (m : Int) ≤ (c : Int)) := by have := hlt2 h16; omega
          have e5 : (16 : Int) < (c : Int) := by omega
          clear hlt2
          go_wp2
          go_roundw
          case rel => exact ⟨k + 1, _, _, by omega, by omega, by go_num, HS4.out⟩
          case measure => simp [intOf]; omega
        · have e5 : ¬ ((16 : Int) < (c : Int)) := by omega
          clear hlt2
          go_wp2
          go_roundw
          case rel => exact ⟨k + 1, _, _, by omega, by omega, by go_num, HS4.out⟩
          case measure => simp [intOf]; omega
    · by_cases hl1 : k < len
      · have hl2 : k = 100 := by omega
        subst hl2
        clear hlt
        go_wp2
        go_ret
        exact ⟨rfl, HS.out.kept⟩
      · have hl2 : ¬ ((k : Int) < (len : Int)) := by omega
        clear hlt
        go_wp2
        go_ret
        exact ⟨rfl, HS.out.kept⟩
end Go.Proofs.YtbngmkopgoelbaaDoor
