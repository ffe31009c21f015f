/- The reference's Read, plain: each instruction that may be is the candidate of its text (printed by wip/gen/inrr1.py). -/
import Derived.Test.YtlomgbackphmmaaDoorInRr0
set_option linter.unusedVariables false
set_option linter.unusedSimpArgs false
namespace Go.Proofs.YtlomgbackphmmaaDoor.RefC
open Go.RowKit Go.Lib Go.Proofs.YtlomgbackphmmaaDoorW.PrintWords Go.Proofs.YtlomgbackphmmaaDoor.PInsnReads
open Go.Proofs.YtlomgbackphmmaaDoor (Ins z0 chk isOp bnd hasW over dig dig_size data_inj txt parts wl wAlu wCond wCall wrd mkN sR sS sF sE sP chk_op chk_word)

theorem cd_step (L : List ByteArray) (P : ByteArray) (x : Ins) (j : Nat) (v f : Int) (hv : cdv L P j = (v, true)) (hk : bt P (2 * (j : Int) + 1) ≠ 119) (hf : bt P (2 * (j : Int)) = f) : cd L P x (j + 1) = wth (cd L P x j) f v := by
  rw [cd, hv, if_pos ⟨rfl, hk⟩, hf]
theorem cd_skip (L : List ByteArray) (P : ByteArray) (x : Ins) (j : Nat) (hk : bt P (2 * (j : Int) + 1) = 119) : cd L P x (j + 1) = cd L P x j := by
  rw [cd, if_neg (fun h => h.2 hk)]
theorem cdv_mk (L : List ByteArray) (P : ByteArray) (j : Nat) (s : ByteArray) (hs : s.size ≤ 1) (v : Int) (h0 : 0 ≤ v) (h1 : v ≤ 4294967295) (he : L.getD (1 + j) ⟨#[]⟩ = mkN s v) (hn : (if bt P (2 * (j : Int) + 1) = 110 then 0 else 1 : Int) = (s.size : Int)) : cdv L P j = (v, true) := by
  unfold cdv
  rw [he, hn, Dg_mk s hs v h0 h1]
theorem wth_a (x : Ins) (v : Int) : wth x 65 v = ⟨x.op, v % 256, x.b, x.c, x.imm⟩ := rfl
theorem wth_b (x : Ins) (v : Int) : wth x 66 v = ⟨x.op, x.a, v % 256, x.c, x.imm⟩ := rfl
theorem wth_c (x : Ins) (v : Int) : wth x 67 v = ⟨x.op, x.a, x.b, v % 256, x.imm⟩ := rfl
theorem wth_i (x : Ins) (v : Int) : wth x 73 v = ⟨x.op, x.a, x.b, x.c, v⟩ := rfl
def Bk (x : Ins) : Prop := ∃ k : Nat, k ≤ (Wop x.op).length ∧ (parts x).length = 1 + mop x.op ∧ cd (parts x) (Pop x.op) ⟨x.op, 0, 0, (k : Int), 0⟩ (mop x.op) = x
theorem cback_1 (a b c imm : Int) (hx : Ins.Ok ⟨1, a, b, c, imm⟩) (h : chk ⟨1, a, b, c, imm⟩ = 0) : Bk ⟨1, a, b, c, imm⟩ := by
  unfold Bk
  obtain ⟨⟨_, _⟩, ⟨a0, a1⟩, ⟨b0, b1⟩, ⟨c0, c1⟩, ⟨i0, i1⟩⟩ := hx
  dsimp only at *
  have hp : parts ⟨1, a, b, c, imm⟩ = [(⟨#[109, 111, 118]⟩ : ByteArray), mkN sR a, mkN sR b] := rfl
  have hm : mop 1 = 2 := by decide +kernel
  have hw : (Wop 1).length = 0 := by decide +kernel
  simp [chk, isOp, hasW, over, bnd] at h
  refine ⟨0, by omega, by rw [hp, hm]; rfl, ?_⟩
  rw [hp, hm]
  rw [cd_step _ _ _ 1 b 66 (cdv_mk _ _ 1 sR (by decide) b b0 (by omega) rfl (by decide +kernel)) (by decide +kernel) (by decide +kernel)]
  rw [cd_step _ _ _ 0 a 65 (cdv_mk _ _ 0 sR (by decide) a a0 (by omega) rfl (by decide +kernel)) (by decide +kernel) (by decide +kernel)]
  simp only [wth_a, wth_b, cd]
  try (first | rfl | (congr 1 <;> omega))
theorem cback_2 (a b c imm : Int) (hx : Ins.Ok ⟨2, a, b, c, imm⟩) (h : chk ⟨2, a, b, c, imm⟩ = 0) : Bk ⟨2, a, b, c, imm⟩ := by
  unfold Bk
  obtain ⟨⟨_, _⟩, ⟨a0, a1⟩, ⟨b0, b1⟩, ⟨c0, c1⟩, ⟨i0, i1⟩⟩ := hx
  dsimp only at *
  have hp : parts ⟨2, a, b, c, imm⟩ = [(⟨#[105, 109, 109]⟩ : ByteArray), mkN sR a, mkN sE imm] := rfl
  have hm : mop 2 = 2 := by decide +kernel
  have hw : (Wop 2).length = 0 := by decide +kernel
  simp [chk, isOp, hasW, over, bnd] at h
  refine ⟨0, by omega, by rw [hp, hm]; rfl, ?_⟩
  rw [hp, hm]
  rw [cd_step _ _ _ 1 imm 73 (cdv_mk _ _ 1 sE (by decide) imm i0 (by omega) rfl (by decide +kernel)) (by decide +kernel) (by decide +kernel)]
  rw [cd_step _ _ _ 0 a 65 (cdv_mk _ _ 0 sR (by decide) a a0 (by omega) rfl (by decide +kernel)) (by decide +kernel) (by decide +kernel)]
  simp only [wth_a, wth_i, cd]
  try (first | rfl | (congr 1 <;> omega))
theorem cback_3 (a b c imm : Int) (hx : Ins.Ok ⟨3, a, b, c, imm⟩) (h : chk ⟨3, a, b, c, imm⟩ = 0) : Bk ⟨3, a, b, c, imm⟩ := by
  unfold Bk
  obtain ⟨⟨_, _⟩, ⟨a0, a1⟩, ⟨b0, b1⟩, ⟨c0, c1⟩, ⟨i0, i1⟩⟩ := hx
  dsimp only at *
  have hp : parts ⟨3, a, b, c, imm⟩ = [wrd 3 c, mkN sR a, mkN sR b] := rfl
  have hm : mop 3 = 2 := by decide +kernel
  have hw : (Wop 3).length = 11 := by decide +kernel
  simp [chk, isOp, hasW, over, bnd] at h
  try simp only [show (wl 3).length = 12 from by decide +kernel] at h
  refine ⟨c.toNat, by omega, by rw [hp, hm]; rfl, ?_⟩
  rw [hp, hm]
  rw [show ((c.toNat : Nat) : Int) = c from by omega]
  rw [cd_step _ _ _ 1 b 66 (cdv_mk _ _ 1 sR (by decide) b b0 (by omega) rfl (by decide +kernel)) (by decide +kernel) (by decide +kernel)]
  rw [cd_step _ _ _ 0 a 65 (cdv_mk _ _ 0 sR (by decide) a a0 (by omega) rfl (by decide +kernel)) (by decide +kernel) (by decide +kernel)]
  simp only [wth_a, wth_b, cd]
  try (first | rfl | (congr 1 <;> omega))
theorem cback_4 (a b c imm : Int) (hx : Ins.Ok ⟨4, a, b, c, imm⟩) (h : chk ⟨4, a, b, c, imm⟩ = 0) : Bk ⟨4, a, b, c, imm⟩ := by
  unfold Bk
  obtain ⟨⟨_, _⟩, ⟨a0, a1⟩, ⟨b0, b1⟩, ⟨c0, c1⟩, ⟨i0, i1⟩⟩ := hx
  dsimp only at *
  have hp : parts ⟨4, a, b, c, imm⟩ = [wrd 4 c ++ (⟨#[105]⟩ : ByteArray), mkN sR a, mkN sE imm] := rfl
  have hm : mop 4 = 2 := by decide +kernel
  have hw : (Wop 4).length = 11 := by decide +kernel
  simp [chk, isOp, hasW, over, bnd] at h
  try simp only [show (wl 4).length = 12 from by decide +kernel] at h
  refine ⟨c.toNat, by omega, by rw [hp, hm]; rfl, ?_⟩
  rw [hp, hm]
  rw [show ((c.toNat : Nat) : Int) = c from by omega]
  rw [cd_step _ _ _ 1 imm 73 (cdv_mk _ _ 1 sE (by decide) imm i0 (by omega) rfl (by decide +kernel)) (by decide +kernel) (by decide +kernel)]
  rw [cd_step _ _ _ 0 a 65 (cdv_mk _ _ 0 sR (by decide) a a0 (by omega) rfl (by decide +kernel)) (by decide +kernel) (by decide +kernel)]
  simp only [wth_a, wth_i, cd]
  try (first | rfl | (congr 1 <;> omega))
theorem cback_5 (a b c imm : Int) (hx : Ins.Ok ⟨5, a, b, c, imm⟩) (h : chk ⟨5, a, b, c, imm⟩ = 0) : Bk ⟨5, a, b, c, imm⟩ := by
  unfold Bk
  obtain ⟨⟨_, _⟩, ⟨a0, a1⟩, ⟨b0, b1⟩, ⟨c0, c1⟩, ⟨i0, i1⟩⟩ := hx
  dsimp only at *
  have hp : parts ⟨5, a, b, c, imm⟩ = [(⟨#[106, 109, 112]⟩ : ByteArray), mkN sP imm] := rfl
  have hm : mop 5 = 1 := by decide +kernel
  have hw : (Wop 5).length = 0 := by decide +kernel
  simp [chk, isOp, hasW, over, bnd] at h
  refine ⟨0, by omega, by rw [hp, hm]; rfl, ?_⟩
  rw [hp, hm]
  rw [cd_step _ _ _ 0 imm 73 (cdv_mk _ _ 0 sP (by decide) imm i0 (by omega) rfl (by decide +kernel)) (by decide +kernel) (by decide +kernel)]
  simp only [wth_i, cd]
  try (first | rfl | (congr 1 <;> omega))
theorem cback_6 (a b c imm : Int) (hx : Ins.Ok ⟨6, a, b, c, imm⟩) (h : chk ⟨6, a, b, c, imm⟩ = 0) : Bk ⟨6, a, b, c, imm⟩ := by
  unfold Bk
  obtain ⟨⟨_, _⟩, ⟨a0, a1⟩, ⟨b0, b1⟩, ⟨c0, c1⟩, ⟨i0, i1⟩⟩ := hx
  dsimp only at *
  have hp : parts ⟨6, a, b, c, imm⟩ = [(⟨#[106]⟩ : ByteArray) ++ wrd 6 c, mkN sR a, mkN sR b, mkN sP imm] := rfl
  have hm : mop 6 = 3 := by decide +kernel
  have hw : (Wop 6).length = 9 := by decide +kernel
  simp [chk, isOp, hasW, over, bnd] at h
  try simp only [show (wl 6).length = 10 from by decide +kernel] at h
  refine ⟨c.toNat, by omega, by rw [hp, hm]; rfl, ?_⟩
  rw [hp, hm]
  rw [show ((c.toNat : Nat) : Int) = c from by omega]
  rw [cd_step _ _ _ 2 imm 73 (cdv_mk _ _ 2 sP (by decide) imm i0 (by omega) rfl (by decide +kernel)) (by decide +kernel) (by decide +kernel)]
  rw [cd_step _ _ _ 1 b 66 (cdv_mk _ _ 1 sR (by decide) b b0 (by omega) rfl (by decide +kernel)) (by decide +kernel) (by decide +kernel)]
  rw [cd_step _ _ _ 0 a 65 (cdv_mk _ _ 0 sR (by decide) a a0 (by omega) rfl (by decide +kernel)) (by decide +kernel) (by decide +kernel)]
  simp only [wth_a, wth_b, wth_i, cd]
  try (first | rfl | (congr 1 <;> omega))
theorem cback_7 (a b c imm : Int) (hx : Ins.Ok ⟨7, a, b, c, imm⟩) (h : chk ⟨7, a, b, c, imm⟩ = 0) : Bk ⟨7, a, b, c, imm⟩ := by
  unfold Bk
  obtain ⟨⟨_, _⟩, ⟨a0, a1⟩, ⟨b0, b1⟩, ⟨c0, c1⟩, ⟨i0, i1⟩⟩ := hx
  dsimp only at *
  have hp : parts ⟨7, a, b, c, imm⟩ = [(⟨#[106]⟩ : ByteArray) ++ wrd 7 c ++ (⟨#[105]⟩ : ByteArray), mkN sR a, mkN sE b, mkN sP imm] := rfl
  have hm : mop 7 = 3 := by decide +kernel
  have hw : (Wop 7).length = 9 := by decide +kernel
  simp [chk, isOp, hasW, over, bnd] at h
  try simp only [show (wl 7).length = 10 from by decide +kernel] at h
  refine ⟨c.toNat, by omega, by rw [hp, hm]; rfl, ?_⟩
  rw [hp, hm]
  rw [show ((c.toNat : Nat) : Int) = c from by omega]
  rw [cd_step _ _ _ 2 imm 73 (cdv_mk _ _ 2 sP (by decide) imm i0 (by omega) rfl (by decide +kernel)) (by decide +kernel) (by decide +kernel)]
  rw [cd_step _ _ _ 1 b 66 (cdv_mk _ _ 1 sE (by decide) b b0 (by omega) rfl (by decide +kernel)) (by decide +kernel) (by decide +kernel)]
  rw [cd_step _ _ _ 0 a 65 (cdv_mk _ _ 0 sR (by decide) a a0 (by omega) rfl (by decide +kernel)) (by decide +kernel) (by decide +kernel)]
  simp only [wth_a, wth_b, wth_i, cd]
  try (first | rfl | (congr 1 <;> omega))
theorem cback_8 (a b c imm : Int) (hx : Ins.Ok ⟨8, a, b, c, imm⟩) (h : chk ⟨8, a, b, c, imm⟩ = 0) : Bk ⟨8, a, b, c, imm⟩ := by
  unfold Bk
  obtain ⟨⟨_, _⟩, ⟨a0, a1⟩, ⟨b0, b1⟩, ⟨c0, c1⟩, ⟨i0, i1⟩⟩ := hx
  dsimp only at *
  have hp : parts ⟨8, a, b, c, imm⟩ = [(⟨#[115, 97, 118, 101]⟩ : ByteArray), mkN sS c, mkN sR a] := rfl
  have hm : mop 8 = 2 := by decide +kernel
  have hw : (Wop 8).length = 0 := by decide +kernel
  simp [chk, isOp, hasW, over, bnd] at h
  refine ⟨0, by omega, by rw [hp, hm]; rfl, ?_⟩
  rw [hp, hm]
  rw [cd_step _ _ _ 1 a 65 (cdv_mk _ _ 1 sR (by decide) a a0 (by omega) rfl (by decide +kernel)) (by decide +kernel) (by decide +kernel)]
  rw [cd_step _ _ _ 0 c 67 (cdv_mk _ _ 0 sS (by decide) c c0 (by omega) rfl (by decide +kernel)) (by decide +kernel) (by decide +kernel)]
  simp only [wth_a, wth_c, cd]
  try (first | rfl | (congr 1 <;> omega))
theorem cback_9 (a b c imm : Int) (hx : Ins.Ok ⟨9, a, b, c, imm⟩) (h : chk ⟨9, a, b, c, imm⟩ = 0) : Bk ⟨9, a, b, c, imm⟩ := by
  unfold Bk
  obtain ⟨⟨_, _⟩, ⟨a0, a1⟩, ⟨b0, b1⟩, ⟨c0, c1⟩, ⟨i0, i1⟩⟩ := hx
  dsimp only at *
  have hp : parts ⟨9, a, b, c, imm⟩ = [(⟨#[108, 111, 97, 100]⟩ : ByteArray), mkN sR a, mkN sS c] := rfl
  have hm : mop 9 = 2 := by decide +kernel
  have hw : (Wop 9).length = 0 := by decide +kernel
  simp [chk, isOp, hasW, over, bnd] at h
  refine ⟨0, by omega, by rw [hp, hm]; rfl, ?_⟩
  rw [hp, hm]
  rw [cd_step _ _ _ 1 c 67 (cdv_mk _ _ 1 sS (by decide) c c0 (by omega) rfl (by decide +kernel)) (by decide +kernel) (by decide +kernel)]
  rw [cd_step _ _ _ 0 a 65 (cdv_mk _ _ 0 sR (by decide) a a0 (by omega) rfl (by decide +kernel)) (by decide +kernel) (by decide +kernel)]
  simp only [wth_a, wth_c, cd]
  try (first | rfl | (congr 1 <;> omega))
theorem cback_10 (a b c imm : Int) (hx : Ins.Ok ⟨10, a, b, c, imm⟩) (h : chk ⟨10, a, b, c, imm⟩ = 0) : Bk ⟨10, a, b, c, imm⟩ := by
  unfold Bk
  obtain ⟨⟨_, _⟩, ⟨a0, a1⟩, ⟨b0, b1⟩, ⟨c0, c1⟩, ⟨i0, i1⟩⟩ := hx
  dsimp only at *
  have hp : parts ⟨10, a, b, c, imm⟩ = [(⟨#[103, 101, 116]⟩ : ByteArray), mkN sR a, mkN sR b, mkN sF c, mkN sE imm] := rfl
  have hm : mop 10 = 4 := by decide +kernel
  have hw : (Wop 10).length = 0 := by decide +kernel
  simp [chk, isOp, hasW, over, bnd] at h
  refine ⟨0, by omega, by rw [hp, hm]; rfl, ?_⟩
  rw [hp, hm]
  rw [cd_step _ _ _ 3 imm 73 (cdv_mk _ _ 3 sE (by decide) imm i0 (by omega) rfl (by decide +kernel)) (by decide +kernel) (by decide +kernel)]
  rw [cd_step _ _ _ 2 c 67 (cdv_mk _ _ 2 sF (by decide) c c0 (by omega) rfl (by decide +kernel)) (by decide +kernel) (by decide +kernel)]
  rw [cd_step _ _ _ 1 b 66 (cdv_mk _ _ 1 sR (by decide) b b0 (by omega) rfl (by decide +kernel)) (by decide +kernel) (by decide +kernel)]
  rw [cd_step _ _ _ 0 a 65 (cdv_mk _ _ 0 sR (by decide) a a0 (by omega) rfl (by decide +kernel)) (by decide +kernel) (by decide +kernel)]
  simp only [wth_a, wth_b, wth_c, wth_i, cd]
  try (first | rfl | (congr 1 <;> omega))
theorem cback_11 (a b c imm : Int) (hx : Ins.Ok ⟨11, a, b, c, imm⟩) (h : chk ⟨11, a, b, c, imm⟩ = 0) : Bk ⟨11, a, b, c, imm⟩ := by
  unfold Bk
  obtain ⟨⟨_, _⟩, ⟨a0, a1⟩, ⟨b0, b1⟩, ⟨c0, c1⟩, ⟨i0, i1⟩⟩ := hx
  dsimp only at *
  have hp : parts ⟨11, a, b, c, imm⟩ = [(⟨#[103, 101, 116, 120]⟩ : ByteArray), mkN sR a, mkN sR b, mkN sF c, mkN sR imm] := rfl
  have hm : mop 11 = 4 := by decide +kernel
  have hw : (Wop 11).length = 0 := by decide +kernel
  simp [chk, isOp, hasW, over, bnd] at h
  refine ⟨0, by omega, by rw [hp, hm]; rfl, ?_⟩
  rw [hp, hm]
  rw [cd_step _ _ _ 3 imm 73 (cdv_mk _ _ 3 sR (by decide) imm i0 (by omega) rfl (by decide +kernel)) (by decide +kernel) (by decide +kernel)]
  rw [cd_step _ _ _ 2 c 67 (cdv_mk _ _ 2 sF (by decide) c c0 (by omega) rfl (by decide +kernel)) (by decide +kernel) (by decide +kernel)]
  rw [cd_step _ _ _ 1 b 66 (cdv_mk _ _ 1 sR (by decide) b b0 (by omega) rfl (by decide +kernel)) (by decide +kernel) (by decide +kernel)]
  rw [cd_step _ _ _ 0 a 65 (cdv_mk _ _ 0 sR (by decide) a a0 (by omega) rfl (by decide +kernel)) (by decide +kernel) (by decide +kernel)]
  simp only [wth_a, wth_b, wth_c, wth_i, cd]
  try (first | rfl | (congr 1 <;> omega))
theorem cback_12 (a b c imm : Int) (hx : Ins.Ok ⟨12, a, b, c, imm⟩) (h : chk ⟨12, a, b, c, imm⟩ = 0) : Bk ⟨12, a, b, c, imm⟩ := by
  unfold Bk
  obtain ⟨⟨_, _⟩, ⟨a0, a1⟩, ⟨b0, b1⟩, ⟨c0, c1⟩, ⟨i0, i1⟩⟩ := hx
  dsimp only at *
  have hp : parts ⟨12, a, b, c, imm⟩ = [(⟨#[112, 117, 116]⟩ : ByteArray), mkN sR b, mkN sF c, mkN sE imm, mkN sR a] := rfl
  have hm : mop 12 = 4 := by decide +kernel
  have hw : (Wop 12).length = 0 := by decide +kernel
  simp [chk, isOp, hasW, over, bnd] at h
  refine ⟨0, by omega, by rw [hp, hm]; rfl, ?_⟩
  rw [hp, hm]
  rw [cd_step _ _ _ 3 a 65 (cdv_mk _ _ 3 sR (by decide) a a0 (by omega) rfl (by decide +kernel)) (by decide +kernel) (by decide +kernel)]
  rw [cd_step _ _ _ 2 imm 73 (cdv_mk _ _ 2 sE (by decide) imm i0 (by omega) rfl (by decide +kernel)) (by decide +kernel) (by decide +kernel)]
  rw [cd_step _ _ _ 1 c 67 (cdv_mk _ _ 1 sF (by decide) c c0 (by omega) rfl (by decide +kernel)) (by decide +kernel) (by decide +kernel)]
  rw [cd_step _ _ _ 0 b 66 (cdv_mk _ _ 0 sR (by decide) b b0 (by omega) rfl (by decide +kernel)) (by decide +kernel) (by decide +kernel)]
  simp only [wth_a, wth_b, wth_c, wth_i, cd]
  try (first | rfl | (congr 1 <;> omega))
theorem cback_13 (a b c imm : Int) (hx : Ins.Ok ⟨13, a, b, c, imm⟩) (h : chk ⟨13, a, b, c, imm⟩ = 0) : Bk ⟨13, a, b, c, imm⟩ := by
  unfold Bk
  obtain ⟨⟨_, _⟩, ⟨a0, a1⟩, ⟨b0, b1⟩, ⟨c0, c1⟩, ⟨i0, i1⟩⟩ := hx
  dsimp only at *
  have hp : parts ⟨13, a, b, c, imm⟩ = [(⟨#[112, 117, 116, 120]⟩ : ByteArray), mkN sR b, mkN sF c, mkN sR imm, mkN sR a] := rfl
  have hm : mop 13 = 4 := by decide +kernel
  have hw : (Wop 13).length = 0 := by decide +kernel
  simp [chk, isOp, hasW, over, bnd] at h
  refine ⟨0, by omega, by rw [hp, hm]; rfl, ?_⟩
  rw [hp, hm]
  rw [cd_step _ _ _ 3 a 65 (cdv_mk _ _ 3 sR (by decide) a a0 (by omega) rfl (by decide +kernel)) (by decide +kernel) (by decide +kernel)]
  rw [cd_step _ _ _ 2 imm 73 (cdv_mk _ _ 2 sR (by decide) imm i0 (by omega) rfl (by decide +kernel)) (by decide +kernel) (by decide +kernel)]
  rw [cd_step _ _ _ 1 c 67 (cdv_mk _ _ 1 sF (by decide) c c0 (by omega) rfl (by decide +kernel)) (by decide +kernel) (by decide +kernel)]
  rw [cd_step _ _ _ 0 b 66 (cdv_mk _ _ 0 sR (by decide) b b0 (by omega) rfl (by decide +kernel)) (by decide +kernel) (by decide +kernel)]
  simp only [wth_a, wth_b, wth_c, wth_i, cd]
  try (first | rfl | (congr 1 <;> omega))
theorem cback_14 (a b c imm : Int) (hx : Ins.Ok ⟨14, a, b, c, imm⟩) (h : chk ⟨14, a, b, c, imm⟩ = 0) : Bk ⟨14, a, b, c, imm⟩ := by
  unfold Bk
  obtain ⟨⟨_, _⟩, ⟨a0, a1⟩, ⟨b0, b1⟩, ⟨c0, c1⟩, ⟨i0, i1⟩⟩ := hx
  dsimp only at *
  have hp : parts ⟨14, a, b, c, imm⟩ = [(⟨#[99, 97, 108, 108]⟩ : ByteArray), wrd 14 c, mkN sE imm] := rfl
  have hm : mop 14 = 2 := by decide +kernel
  have hw : (Wop 14).length = 22 := by decide +kernel
  simp [chk, isOp, hasW, over, bnd] at h
  try simp only [show (wl 14).length = 23 from by decide +kernel] at h
  refine ⟨c.toNat, by omega, by rw [hp, hm]; rfl, ?_⟩
  rw [hp, hm]
  rw [show ((c.toNat : Nat) : Int) = c from by omega]
  rw [cd_step _ _ _ 1 imm 73 (cdv_mk _ _ 1 sE (by decide) imm i0 (by omega) rfl (by decide +kernel)) (by decide +kernel) (by decide +kernel)]
  rw [cd_skip _ _ _ 0 (by decide +kernel)]
  simp only [wth_i, cd]
  try (first | rfl | (congr 1 <;> omega))
theorem cback_15 (a b c imm : Int) (hx : Ins.Ok ⟨15, a, b, c, imm⟩) (h : chk ⟨15, a, b, c, imm⟩ = 0) : Bk ⟨15, a, b, c, imm⟩ := by
  unfold Bk
  obtain ⟨⟨_, _⟩, ⟨a0, a1⟩, ⟨b0, b1⟩, ⟨c0, c1⟩, ⟨i0, i1⟩⟩ := hx
  dsimp only at *
  have hp : parts ⟨15, a, b, c, imm⟩ = [(⟨#[101, 120, 105, 116]⟩ : ByteArray)] := rfl
  have hm : mop 15 = 0 := by decide +kernel
  have hw : (Wop 15).length = 0 := by decide +kernel
  simp [chk, isOp, hasW, over, bnd] at h
  refine ⟨0, by omega, by rw [hp, hm]; rfl, ?_⟩
  rw [hp, hm]
  simp only [cd]
  try (first | rfl | (congr 1 <;> omega))
theorem back_ref (x : Ins) (hx : x.Ok) (h : chk x = 0) : Bk x := by
  have ho := chk_op h
  obtain ⟨op, a, b, c, imm⟩ := x
  dsimp only at ho
  have : op = 1 ∨ op = 2 ∨ op = 3 ∨ op = 4 ∨ op = 5 ∨ op = 6 ∨ op = 7 ∨ op = 8 ∨ op = 9 ∨ op = 10 ∨ op = 11 ∨ op = 12 ∨ op = 13 ∨ op = 14 ∨ op = 15 := by omega
  rcases this with rfl | rfl | rfl | rfl | rfl | rfl | rfl | rfl | rfl | rfl | rfl | rfl | rfl | rfl | rfl
  · exact cback_1 a b c imm hx h
  · exact cback_2 a b c imm hx h
  · exact cback_3 a b c imm hx h
  · exact cback_4 a b c imm hx h
  · exact cback_5 a b c imm hx h
  · exact cback_6 a b c imm hx h
  · exact cback_7 a b c imm hx h
  · exact cback_8 a b c imm hx h
  · exact cback_9 a b c imm hx h
  · exact cback_10 a b c imm hx h
  · exact cback_11 a b c imm hx h
  · exact cback_12 a b c imm hx h
  · exact cback_13 a b c imm hx h
  · exact cback_14 a b c imm hx h
  · exact cback_15 a b c imm hx h
/-- What the reference's candidates say: none is the text's, or one is. -/
def hit (s : ByteArray) (i : Ins) : Prop := chk i = 0 ∧ txt i = s
def isL (L : List ByteArray) (op : Int) : Prop := L.length = 1 + mop op
theorem none_hit (s : ByteArray) (hno : ∀ (op : Int) (k : Nat), 1 ≤ op → op ≤ 15 → k ≤ (Wop op).length → isL (cutL s) op → ¬ hit s (cd (cutL s) (Pop op) ⟨op, 0, 0, (k : Int), 0⟩ (mop op))) (x : Ins) (hx : x.Ok) : ¬ hit s x := by
  rintro ⟨h1, h2⟩
  subst h2
  obtain ⟨k, hk, hl, hc⟩ := back_ref x hx h1
  have ho := chk_op h1
  refine hno x.op k ho.1 ho.2 hk ?_ ?_
  · unfold isL; rw [cut_txt]; exact hl
  · rw [cut_txt, hc]; exact ⟨h1, rfl⟩
end Go.Proofs.YtlomgbackphmmaaDoor.RefC
