/- insn, plain: what was written is read back. -/
import Derived.Test.YtlomgbackphmmaaDoorInQ2
set_option linter.unusedVariables false
set_option linter.unusedSimpArgs false
namespace Go.Proofs.YtlomgbackphmmaaDoor
open Go.RowKit Go.Lib

theorem back_1 (a b c imm : Int) (hx : Ins.Ok ⟨1, a, b, c, imm⟩) (h : chk ⟨1, a, b, c, imm⟩ = 0) : cand (parts ⟨1, a, b, c, imm⟩) = ⟨1, a, b, c, imm⟩ := by
  obtain ⟨⟨_, _⟩, ⟨a0, a1⟩, ⟨b0, b1⟩, ⟨c0, c1⟩, ⟨i0, i1⟩⟩ := hx
  dsimp only at *
  have hp : parts ⟨1, a, b, c, imm⟩ = [(⟨#[109, 111, 118]⟩ : ByteArray), mkN sR a, mkN sR b] := rfl
  simp [chk, isOp, hasW, over, bnd] at h
  rw [hp]
  unfold cand
  have e : opF (ptAt [(⟨#[109, 111, 118]⟩ : ByteArray), mkN sR a, mkN sR b] 0).data.toList = (1, 0) := by show opF (⟨#[109, 111, 118]⟩ : ByteArray).data.toList = _; decide +kernel
  rw [e]
  dsimp only
  show (⟨1, smallF [(⟨#[109, 111, 118]⟩ : ByteArray), mkN sR a, mkN sR b] 1 sR, smallF [(⟨#[109, 111, 118]⟩ : ByteArray), mkN sR a, mkN sR b] 2 sR, 0, 0⟩ : Ins) = _
  rw [smallF_mk _ 1 sR a a0 a1 rfl]
  rw [smallF_mk _ 2 sR b b0 b1 rfl]
  try (first | rfl | (congr 1 <;> omega))
theorem back_2 (a b c imm : Int) (hx : Ins.Ok ⟨2, a, b, c, imm⟩) (h : chk ⟨2, a, b, c, imm⟩ = 0) : cand (parts ⟨2, a, b, c, imm⟩) = ⟨2, a, b, c, imm⟩ := by
  obtain ⟨⟨_, _⟩, ⟨a0, a1⟩, ⟨b0, b1⟩, ⟨c0, c1⟩, ⟨i0, i1⟩⟩ := hx
  dsimp only at *
  have hp : parts ⟨2, a, b, c, imm⟩ = [(⟨#[105, 109, 109]⟩ : ByteArray), mkN sR a, mkN sE imm] := rfl
  simp [chk, isOp, hasW, over, bnd] at h
  rw [hp]
  unfold cand
  have e : opF (ptAt [(⟨#[105, 109, 109]⟩ : ByteArray), mkN sR a, mkN sE imm] 0).data.toList = (2, 0) := by show opF (⟨#[105, 109, 109]⟩ : ByteArray).data.toList = _; decide +kernel
  rw [e]
  dsimp only
  show (⟨2, smallF [(⟨#[105, 109, 109]⟩ : ByteArray), mkN sR a, mkN sE imm] 1 sR, 0, 0, wideF [(⟨#[105, 109, 109]⟩ : ByteArray), mkN sR a, mkN sE imm] 2 sE⟩ : Ins) = _
  rw [smallF_mk _ 1 sR a a0 a1 rfl]
  rw [wideF_mk _ 2 sE imm i0 i1 rfl]
  try (first | rfl | (congr 1 <;> omega))
theorem back_3 (a b c imm : Int) (hx : Ins.Ok ⟨3, a, b, c, imm⟩) (h : chk ⟨3, a, b, c, imm⟩ = 0) : cand (parts ⟨3, a, b, c, imm⟩) = ⟨3, a, b, c, imm⟩ := by
  obtain ⟨⟨_, _⟩, ⟨a0, a1⟩, ⟨b0, b1⟩, ⟨c0, c1⟩, ⟨i0, i1⟩⟩ := hx
  dsimp only at *
  have hp : parts ⟨3, a, b, c, imm⟩ = [wrd 3 c, mkN sR a, mkN sR b] := rfl
  simp [chk, isOp, hasW, over, bnd] at h
  rw [hp]
  unfold cand
  have e : opF (ptAt [wrd 3 c, mkN sR a, mkN sR b] 0).data.toList = (3, c) := word_3 c (by omega) (by omega)
  rw [e]
  dsimp only
  show (⟨3, smallF [wrd 3 c, mkN sR a, mkN sR b] 1 sR, smallF [wrd 3 c, mkN sR a, mkN sR b] 2 sR, c, 0⟩ : Ins) = _
  rw [smallF_mk _ 1 sR a a0 a1 rfl]
  rw [smallF_mk _ 2 sR b b0 b1 rfl]
  try (first | rfl | (congr 1 <;> omega))
theorem back_4 (a b c imm : Int) (hx : Ins.Ok ⟨4, a, b, c, imm⟩) (h : chk ⟨4, a, b, c, imm⟩ = 0) : cand (parts ⟨4, a, b, c, imm⟩) = ⟨4, a, b, c, imm⟩ := by
  obtain ⟨⟨_, _⟩, ⟨a0, a1⟩, ⟨b0, b1⟩, ⟨c0, c1⟩, ⟨i0, i1⟩⟩ := hx
  dsimp only at *
  have hp : parts ⟨4, a, b, c, imm⟩ = [wrd 4 c ++ (⟨#[105]⟩ : ByteArray), mkN sR a, mkN sE imm] := rfl
  simp [chk, isOp, hasW, over, bnd] at h
  rw [hp]
  unfold cand
  have e : opF (ptAt [wrd 4 c ++ (⟨#[105]⟩ : ByteArray), mkN sR a, mkN sE imm] 0).data.toList = (4, c) := word_4 c (by omega) (by omega)
  rw [e]
  dsimp only
  show (⟨4, smallF [wrd 4 c ++ (⟨#[105]⟩ : ByteArray), mkN sR a, mkN sE imm] 1 sR, 0, c, wideF [wrd 4 c ++ (⟨#[105]⟩ : ByteArray), mkN sR a, mkN sE imm] 2 sE⟩ : Ins) = _
  rw [smallF_mk _ 1 sR a a0 a1 rfl]
  rw [wideF_mk _ 2 sE imm i0 i1 rfl]
  try (first | rfl | (congr 1 <;> omega))
theorem back_5 (a b c imm : Int) (hx : Ins.Ok ⟨5, a, b, c, imm⟩) (h : chk ⟨5, a, b, c, imm⟩ = 0) : cand (parts ⟨5, a, b, c, imm⟩) = ⟨5, a, b, c, imm⟩ := by
  obtain ⟨⟨_, _⟩, ⟨a0, a1⟩, ⟨b0, b1⟩, ⟨c0, c1⟩, ⟨i0, i1⟩⟩ := hx
  dsimp only at *
  have hp : parts ⟨5, a, b, c, imm⟩ = [(⟨#[106, 109, 112]⟩ : ByteArray), mkN sP imm] := rfl
  simp [chk, isOp, hasW, over, bnd] at h
  rw [hp]
  unfold cand
  have e : opF (ptAt [(⟨#[106, 109, 112]⟩ : ByteArray), mkN sP imm] 0).data.toList = (5, 0) := by show opF (⟨#[106, 109, 112]⟩ : ByteArray).data.toList = _; decide +kernel
  rw [e]
  dsimp only
  show (⟨5, 0, 0, 0, wideF [(⟨#[106, 109, 112]⟩ : ByteArray), mkN sP imm] 1 sP⟩ : Ins) = _
  rw [wideF_mk _ 1 sP imm i0 i1 rfl]
  try (first | rfl | (congr 1 <;> omega))
theorem back_6 (a b c imm : Int) (hx : Ins.Ok ⟨6, a, b, c, imm⟩) (h : chk ⟨6, a, b, c, imm⟩ = 0) : cand (parts ⟨6, a, b, c, imm⟩) = ⟨6, a, b, c, imm⟩ := by
  obtain ⟨⟨_, _⟩, ⟨a0, a1⟩, ⟨b0, b1⟩, ⟨c0, c1⟩, ⟨i0, i1⟩⟩ := hx
  dsimp only at *
  have hp : parts ⟨6, a, b, c, imm⟩ = [(⟨#[106]⟩ : ByteArray) ++ wrd 6 c, mkN sR a, mkN sR b, mkN sP imm] := rfl
  simp [chk, isOp, hasW, over, bnd] at h
  rw [hp]
  unfold cand
  have e : opF (ptAt [(⟨#[106]⟩ : ByteArray) ++ wrd 6 c, mkN sR a, mkN sR b, mkN sP imm] 0).data.toList = (6, c) := word_6 c (by omega) (by omega)
  rw [e]
  dsimp only
  show (⟨6, smallF [(⟨#[106]⟩ : ByteArray) ++ wrd 6 c, mkN sR a, mkN sR b, mkN sP imm] 1 sR, smallF [(⟨#[106]⟩ : ByteArray) ++ wrd 6 c, mkN sR a, mkN sR b, mkN sP imm] 2 sR, c, wideF [(⟨#[106]⟩ : ByteArray) ++ wrd 6 c, mkN sR a, mkN sR b, mkN sP imm] 3 sP⟩ : Ins) = _
  rw [smallF_mk _ 1 sR a a0 a1 rfl]
  rw [smallF_mk _ 2 sR b b0 b1 rfl]
  rw [wideF_mk _ 3 sP imm i0 i1 rfl]
  try (first | rfl | (congr 1 <;> omega))
theorem back_7 (a b c imm : Int) (hx : Ins.Ok ⟨7, a, b, c, imm⟩) (h : chk ⟨7, a, b, c, imm⟩ = 0) : cand (parts ⟨7, a, b, c, imm⟩) = ⟨7, a, b, c, imm⟩ := by
  obtain ⟨⟨_, _⟩, ⟨a0, a1⟩, ⟨b0, b1⟩, ⟨c0, c1⟩, ⟨i0, i1⟩⟩ := hx
  dsimp only at *
  have hp : parts ⟨7, a, b, c, imm⟩ = [(⟨#[106]⟩ : ByteArray) ++ wrd 7 c ++ (⟨#[105]⟩ : ByteArray), mkN sR a, mkN sE b, mkN sP imm] := rfl
  simp [chk, isOp, hasW, over, bnd] at h
  rw [hp]
  unfold cand
  have e : opF (ptAt [(⟨#[106]⟩ : ByteArray) ++ wrd 7 c ++ (⟨#[105]⟩ : ByteArray), mkN sR a, mkN sE b, mkN sP imm] 0).data.toList = (7, c) := word_7 c (by omega) (by omega)
  rw [e]
  dsimp only
  show (⟨7, smallF [(⟨#[106]⟩ : ByteArray) ++ wrd 7 c ++ (⟨#[105]⟩ : ByteArray), mkN sR a, mkN sE b, mkN sP imm] 1 sR, smallF [(⟨#[106]⟩ : ByteArray) ++ wrd 7 c ++ (⟨#[105]⟩ : ByteArray), mkN sR a, mkN sE b, mkN sP imm] 2 sE, c, wideF [(⟨#[106]⟩ : ByteArray) ++ wrd 7 c ++ (⟨#[105]⟩ : ByteArray), mkN sR a, mkN sE b, mkN sP imm] 3 sP⟩ : Ins) = _
  rw [smallF_mk _ 1 sR a a0 a1 rfl]
  rw [smallF_mk _ 2 sE b b0 b1 rfl]
  rw [wideF_mk _ 3 sP imm i0 i1 rfl]
  try (first | rfl | (congr 1 <;> omega))
theorem back_8 (a b c imm : Int) (hx : Ins.Ok ⟨8, a, b, c, imm⟩) (h : chk ⟨8, a, b, c, imm⟩ = 0) : cand (parts ⟨8, a, b, c, imm⟩) = ⟨8, a, b, c, imm⟩ := by
  obtain ⟨⟨_, _⟩, ⟨a0, a1⟩, ⟨b0, b1⟩, ⟨c0, c1⟩, ⟨i0, i1⟩⟩ := hx
  dsimp only at *
  have hp : parts ⟨8, a, b, c, imm⟩ = [(⟨#[115, 97, 118, 101]⟩ : ByteArray), mkN sS c, mkN sR a] := rfl
  simp [chk, isOp, hasW, over, bnd] at h
  rw [hp]
  unfold cand
  have e : opF (ptAt [(⟨#[115, 97, 118, 101]⟩ : ByteArray), mkN sS c, mkN sR a] 0).data.toList = (8, 0) := by show opF (⟨#[115, 97, 118, 101]⟩ : ByteArray).data.toList = _; decide +kernel
  rw [e]
  dsimp only
  show (⟨8, smallF [(⟨#[115, 97, 118, 101]⟩ : ByteArray), mkN sS c, mkN sR a] 2 sR, 0, smallF [(⟨#[115, 97, 118, 101]⟩ : ByteArray), mkN sS c, mkN sR a] 1 sS, 0⟩ : Ins) = _
  rw [smallF_mk _ 2 sR a a0 a1 rfl]
  rw [smallF_mk _ 1 sS c c0 c1 rfl]
  try (first | rfl | (congr 1 <;> omega))
theorem back_9 (a b c imm : Int) (hx : Ins.Ok ⟨9, a, b, c, imm⟩) (h : chk ⟨9, a, b, c, imm⟩ = 0) : cand (parts ⟨9, a, b, c, imm⟩) = ⟨9, a, b, c, imm⟩ := by
  obtain ⟨⟨_, _⟩, ⟨a0, a1⟩, ⟨b0, b1⟩, ⟨c0, c1⟩, ⟨i0, i1⟩⟩ := hx
  dsimp only at *
  have hp : parts ⟨9, a, b, c, imm⟩ = [(⟨#[108, 111, 97, 100]⟩ : ByteArray), mkN sR a, mkN sS c] := rfl
  simp [chk, isOp, hasW, over, bnd] at h
  rw [hp]
  unfold cand
  have e : opF (ptAt [(⟨#[108, 111, 97, 100]⟩ : ByteArray), mkN sR a, mkN sS c] 0).data.toList = (9, 0) := by show opF (⟨#[108, 111, 97, 100]⟩ : ByteArray).data.toList = _; decide +kernel
  rw [e]
  dsimp only
  show (⟨9, smallF [(⟨#[108, 111, 97, 100]⟩ : ByteArray), mkN sR a, mkN sS c] 1 sR, 0, smallF [(⟨#[108, 111, 97, 100]⟩ : ByteArray), mkN sR a, mkN sS c] 2 sS, 0⟩ : Ins) = _
  rw [smallF_mk _ 1 sR a a0 a1 rfl]
  rw [smallF_mk _ 2 sS c c0 c1 rfl]
  try (first | rfl | (congr 1 <;> omega))
theorem back_10 (a b c imm : Int) (hx : Ins.Ok ⟨10, a, b, c, imm⟩) (h : chk ⟨10, a, b, c, imm⟩ = 0) : cand (parts ⟨10, a, b, c, imm⟩) = ⟨10, a, b, c, imm⟩ := by
  obtain ⟨⟨_, _⟩, ⟨a0, a1⟩, ⟨b0, b1⟩, ⟨c0, c1⟩, ⟨i0, i1⟩⟩ := hx
  dsimp only at *
  have hp : parts ⟨10, a, b, c, imm⟩ = [(⟨#[103, 101, 116]⟩ : ByteArray), mkN sR a, mkN sR b, mkN sF c, mkN sE imm] := rfl
  simp [chk, isOp, hasW, over, bnd] at h
  rw [hp]
  unfold cand
  have e : opF (ptAt [(⟨#[103, 101, 116]⟩ : ByteArray), mkN sR a, mkN sR b, mkN sF c, mkN sE imm] 0).data.toList = (10, 0) := by show opF (⟨#[103, 101, 116]⟩ : ByteArray).data.toList = _; decide +kernel
  rw [e]
  dsimp only
  show (⟨10, smallF [(⟨#[103, 101, 116]⟩ : ByteArray), mkN sR a, mkN sR b, mkN sF c, mkN sE imm] 1 sR, smallF [(⟨#[103, 101, 116]⟩ : ByteArray), mkN sR a, mkN sR b, mkN sF c, mkN sE imm] 2 sR, smallF [(⟨#[103, 101, 116]⟩ : ByteArray), mkN sR a, mkN sR b, mkN sF c, mkN sE imm] 3 sF, wideF [(⟨#[103, 101, 116]⟩ : ByteArray), mkN sR a, mkN sR b, mkN sF c, mkN sE imm] 4 sE⟩ : Ins) = _
  rw [smallF_mk _ 1 sR a a0 a1 rfl]
  rw [smallF_mk _ 2 sR b b0 b1 rfl]
  rw [smallF_mk _ 3 sF c c0 c1 rfl]
  rw [wideF_mk _ 4 sE imm i0 i1 rfl]
  try (first | rfl | (congr 1 <;> omega))
theorem back_11 (a b c imm : Int) (hx : Ins.Ok ⟨11, a, b, c, imm⟩) (h : chk ⟨11, a, b, c, imm⟩ = 0) : cand (parts ⟨11, a, b, c, imm⟩) = ⟨11, a, b, c, imm⟩ := by
  obtain ⟨⟨_, _⟩, ⟨a0, a1⟩, ⟨b0, b1⟩, ⟨c0, c1⟩, ⟨i0, i1⟩⟩ := hx
  dsimp only at *
  have hp : parts ⟨11, a, b, c, imm⟩ = [(⟨#[103, 101, 116, 120]⟩ : ByteArray), mkN sR a, mkN sR b, mkN sF c, mkN sR imm] := rfl
  simp [chk, isOp, hasW, over, bnd] at h
  rw [hp]
  unfold cand
  have e : opF (ptAt [(⟨#[103, 101, 116, 120]⟩ : ByteArray), mkN sR a, mkN sR b, mkN sF c, mkN sR imm] 0).data.toList = (11, 0) := by show opF (⟨#[103, 101, 116, 120]⟩ : ByteArray).data.toList = _; decide +kernel
  rw [e]
  dsimp only
  show (⟨11, smallF [(⟨#[103, 101, 116, 120]⟩ : ByteArray), mkN sR a, mkN sR b, mkN sF c, mkN sR imm] 1 sR, smallF [(⟨#[103, 101, 116, 120]⟩ : ByteArray), mkN sR a, mkN sR b, mkN sF c, mkN sR imm] 2 sR, smallF [(⟨#[103, 101, 116, 120]⟩ : ByteArray), mkN sR a, mkN sR b, mkN sF c, mkN sR imm] 3 sF, wideF [(⟨#[103, 101, 116, 120]⟩ : ByteArray), mkN sR a, mkN sR b, mkN sF c, mkN sR imm] 4 sR⟩ : Ins) = _
  rw [smallF_mk _ 1 sR a a0 a1 rfl]
  rw [smallF_mk _ 2 sR b b0 b1 rfl]
  rw [smallF_mk _ 3 sF c c0 c1 rfl]
  rw [wideF_mk _ 4 sR imm i0 i1 rfl]
  try (first | rfl | (congr 1 <;> omega))
theorem back_12 (a b c imm : Int) (hx : Ins.Ok ⟨12, a, b, c, imm⟩) (h : chk ⟨12, a, b, c, imm⟩ = 0) : cand (parts ⟨12, a, b, c, imm⟩) = ⟨12, a, b, c, imm⟩ := by
  obtain ⟨⟨_, _⟩, ⟨a0, a1⟩, ⟨b0, b1⟩, ⟨c0, c1⟩, ⟨i0, i1⟩⟩ := hx
  dsimp only at *
  have hp : parts ⟨12, a, b, c, imm⟩ = [(⟨#[112, 117, 116]⟩ : ByteArray), mkN sR b, mkN sF c, mkN sE imm, mkN sR a] := rfl
  simp [chk, isOp, hasW, over, bnd] at h
  rw [hp]
  unfold cand
  have e : opF (ptAt [(⟨#[112, 117, 116]⟩ : ByteArray), mkN sR b, mkN sF c, mkN sE imm, mkN sR a] 0).data.toList = (12, 0) := by show opF (⟨#[112, 117, 116]⟩ : ByteArray).data.toList = _; decide +kernel
  rw [e]
  dsimp only
  show (⟨12, smallF [(⟨#[112, 117, 116]⟩ : ByteArray), mkN sR b, mkN sF c, mkN sE imm, mkN sR a] 4 sR, smallF [(⟨#[112, 117, 116]⟩ : ByteArray), mkN sR b, mkN sF c, mkN sE imm, mkN sR a] 1 sR, smallF [(⟨#[112, 117, 116]⟩ : ByteArray), mkN sR b, mkN sF c, mkN sE imm, mkN sR a] 2 sF, wideF [(⟨#[112, 117, 116]⟩ : ByteArray), mkN sR b, mkN sF c, mkN sE imm, mkN sR a] 3 sE⟩ : Ins) = _
  rw [smallF_mk _ 4 sR a a0 a1 rfl]
  rw [smallF_mk _ 1 sR b b0 b1 rfl]
  rw [smallF_mk _ 2 sF c c0 c1 rfl]
  rw [wideF_mk _ 3 sE imm i0 i1 rfl]
  try (first | rfl | (congr 1 <;> omega))
theorem back_13 (a b c imm : Int) (hx : Ins.Ok ⟨13, a, b, c, imm⟩) (h : chk ⟨13, a, b, c, imm⟩ = 0) : cand (parts ⟨13, a, b, c, imm⟩) = ⟨13, a, b, c, imm⟩ := by
  obtain ⟨⟨_, _⟩, ⟨a0, a1⟩, ⟨b0, b1⟩, ⟨c0, c1⟩, ⟨i0, i1⟩⟩ := hx
  dsimp only at *
  have hp : parts ⟨13, a, b, c, imm⟩ = [(⟨#[112, 117, 116, 120]⟩ : ByteArray), mkN sR b, mkN sF c, mkN sR imm, mkN sR a] := rfl
  simp [chk, isOp, hasW, over, bnd] at h
  rw [hp]
  unfold cand
  have e : opF (ptAt [(⟨#[112, 117, 116, 120]⟩ : ByteArray), mkN sR b, mkN sF c, mkN sR imm, mkN sR a] 0).data.toList = (13, 0) := by show opF (⟨#[112, 117, 116, 120]⟩ : ByteArray).data.toList = _; decide +kernel
  rw [e]
  dsimp only
  show (⟨13, smallF [(⟨#[112, 117, 116, 120]⟩ : ByteArray), mkN sR b, mkN sF c, mkN sR imm, mkN sR a] 4 sR, smallF [(⟨#[112, 117, 116, 120]⟩ : ByteArray), mkN sR b, mkN sF c, mkN sR imm, mkN sR a] 1 sR, smallF [(⟨#[112, 117, 116, 120]⟩ : ByteArray), mkN sR b, mkN sF c, mkN sR imm, mkN sR a] 2 sF, wideF [(⟨#[112, 117, 116, 120]⟩ : ByteArray), mkN sR b, mkN sF c, mkN sR imm, mkN sR a] 3 sR⟩ : Ins) = _
  rw [smallF_mk _ 4 sR a a0 a1 rfl]
  rw [smallF_mk _ 1 sR b b0 b1 rfl]
  rw [smallF_mk _ 2 sF c c0 c1 rfl]
  rw [wideF_mk _ 3 sR imm i0 i1 rfl]
  try (first | rfl | (congr 1 <;> omega))
theorem back_14 (a b c imm : Int) (hx : Ins.Ok ⟨14, a, b, c, imm⟩) (h : chk ⟨14, a, b, c, imm⟩ = 0) : cand (parts ⟨14, a, b, c, imm⟩) = ⟨14, a, b, c, imm⟩ := by
  obtain ⟨⟨_, _⟩, ⟨a0, a1⟩, ⟨b0, b1⟩, ⟨c0, c1⟩, ⟨i0, i1⟩⟩ := hx
  dsimp only at *
  have hp : parts ⟨14, a, b, c, imm⟩ = [(⟨#[99, 97, 108, 108]⟩ : ByteArray), wrd 14 c, mkN sE imm] := rfl
  simp [chk, isOp, hasW, over, bnd] at h
  rw [hp]
  unfold cand
  have e : opF (ptAt [(⟨#[99, 97, 108, 108]⟩ : ByteArray), wrd 14 c, mkN sE imm] 0).data.toList = (14, 0) := by show opF (⟨#[99, 97, 108, 108]⟩ : ByteArray).data.toList = _; decide +kernel
  rw [e]
  dsimp only
  show (⟨14, 0, 0, placeF 14 (ptAt [(⟨#[99, 97, 108, 108]⟩ : ByteArray), wrd 14 c, mkN sE imm] 1), wideF [(⟨#[99, 97, 108, 108]⟩ : ByteArray), wrd 14 c, mkN sE imm] 2 sE⟩ : Ins) = _
  rw [wideF_mk _ 2 sE imm i0 i1 rfl]
  rw [show placeF 14 (ptAt [(⟨#[99, 97, 108, 108]⟩ : ByteArray), wrd 14 c, mkN sE imm] 1) = c from word_14 c (by omega) (by omega)]
  try (first | rfl | (congr 1 <;> omega))
theorem back_15 (a b c imm : Int) (hx : Ins.Ok ⟨15, a, b, c, imm⟩) (h : chk ⟨15, a, b, c, imm⟩ = 0) : cand (parts ⟨15, a, b, c, imm⟩) = ⟨15, a, b, c, imm⟩ := by
  obtain ⟨⟨_, _⟩, ⟨a0, a1⟩, ⟨b0, b1⟩, ⟨c0, c1⟩, ⟨i0, i1⟩⟩ := hx
  dsimp only at *
  have hp : parts ⟨15, a, b, c, imm⟩ = [(⟨#[101, 120, 105, 116]⟩ : ByteArray)] := rfl
  simp [chk, isOp, hasW, over, bnd] at h
  rw [hp]
  unfold cand
  have e : opF (ptAt [(⟨#[101, 120, 105, 116]⟩ : ByteArray)] 0).data.toList = (15, 0) := by show opF (⟨#[101, 120, 105, 116]⟩ : ByteArray).data.toList = _; decide +kernel
  rw [e]
  dsimp only
  show (⟨15, 0, 0, 0, 0⟩ : Ins) = _
  try (first | rfl | (congr 1 <;> omega))
theorem cand_parts (x : Ins) (hx : x.Ok) (h : chk x = 0) : cand (parts x) = x := by
  have ho := chk_op h
  obtain ⟨op, a, b, c, imm⟩ := x
  dsimp only at ho
  have : op = 1 ∨ op = 2 ∨ op = 3 ∨ op = 4 ∨ op = 5 ∨ op = 6 ∨ op = 7 ∨ op = 8 ∨ op = 9 ∨ op = 10 ∨ op = 11 ∨ op = 12 ∨ op = 13 ∨ op = 14 ∨ op = 15 := by omega
  rcases this with rfl | rfl | rfl | rfl | rfl | rfl | rfl | rfl | rfl | rfl | rfl | rfl | rfl | rfl | rfl
  · exact back_1 a b c imm hx h
  · exact back_2 a b c imm hx h
  · exact back_3 a b c imm hx h
  · exact back_4 a b c imm hx h
  · exact back_5 a b c imm hx h
  · exact back_6 a b c imm hx h
  · exact back_7 a b c imm hx h
  · exact back_8 a b c imm hx h
  · exact back_9 a b c imm hx h
  · exact back_10 a b c imm hx h
  · exact back_11 a b c imm hx h
  · exact back_12 a b c imm hx h
  · exact back_13 a b c imm hx h
  · exact back_14 a b c imm hx h
  · exact back_15 a b c imm hx h
theorem parts_no32 (x : Ins) : ∀ y ∈ parts x, (32 : UInt8) ∉ y.data.toList := by
  have r1 := fun n => no32_mk sR (by decide) n
  have r2 := fun n => no32_mk sE (by decide) n
  have r3 := fun n => no32_mk sP (by decide) n
  have r4 := fun n => no32_mk sS (by decide) n
  have r5 := fun n => no32_mk sF (by decide) n
  have r6 := no32_wrd x.op x.c
  have r7 : (32 : UInt8) ∉ (wrd x.op x.c ++ (⟨#[105]⟩ : ByteArray)).data.toList := by rw [data_add, List.mem_append]; rintro (h | h); exact r6 h; revert h; decide
  have r8 : (32 : UInt8) ∉ ((⟨#[106]⟩ : ByteArray) ++ wrd x.op x.c).data.toList := by rw [data_add, List.mem_append]; rintro (h | h); revert h; decide; exact r6 h
  have r9 : (32 : UInt8) ∉ ((⟨#[106]⟩ : ByteArray) ++ wrd x.op x.c ++ (⟨#[105]⟩ : ByteArray)).data.toList := by rw [data_add, List.mem_append]; rintro (h | h); exact r8 h; revert h; decide
  intro y hy
  unfold parts at hy
  by_cases e1 : x.op = 1
  · rw [if_pos e1] at hy
    (simp only [List.mem_cons, List.not_mem_nil, or_false] at hy; rcases hy with rfl | rfl | rfl <;> first | exact r1 _ | exact r2 _ | exact r3 _ | exact r4 _ | exact r5 _ | exact r6 | exact r7 | exact r8 | exact r9 | decide)
  rw [if_neg e1] at hy
  by_cases e2 : x.op = 2
  · rw [if_pos e2] at hy
    (simp only [List.mem_cons, List.not_mem_nil, or_false] at hy; rcases hy with rfl | rfl | rfl <;> first | exact r1 _ | exact r2 _ | exact r3 _ | exact r4 _ | exact r5 _ | exact r6 | exact r7 | exact r8 | exact r9 | decide)
  rw [if_neg e2] at hy
  by_cases e3 : x.op = 3
  · rw [if_pos e3] at hy
    (simp only [List.mem_cons, List.not_mem_nil, or_false] at hy; rcases hy with rfl | rfl | rfl <;> first | exact r1 _ | exact r2 _ | exact r3 _ | exact r4 _ | exact r5 _ | exact r6 | exact r7 | exact r8 | exact r9 | decide)
  rw [if_neg e3] at hy
  by_cases e4 : x.op = 4
  · rw [if_pos e4] at hy
    (simp only [List.mem_cons, List.not_mem_nil, or_false] at hy; rcases hy with rfl | rfl | rfl <;> first | exact r1 _ | exact r2 _ | exact r3 _ | exact r4 _ | exact r5 _ | exact r6 | exact r7 | exact r8 | exact r9 | decide)
  rw [if_neg e4] at hy
  by_cases e5 : x.op = 5
  · rw [if_pos e5] at hy
    (simp only [List.mem_cons, List.not_mem_nil, or_false] at hy; rcases hy with rfl | rfl <;> first | exact r1 _ | exact r2 _ | exact r3 _ | exact r4 _ | exact r5 _ | exact r6 | exact r7 | exact r8 | exact r9 | decide)
  rw [if_neg e5] at hy
  by_cases e6 : x.op = 6
  · rw [if_pos e6] at hy
    (simp only [List.mem_cons, List.not_mem_nil, or_false] at hy; rcases hy with rfl | rfl | rfl | rfl <;> first | exact r1 _ | exact r2 _ | exact r3 _ | exact r4 _ | exact r5 _ | exact r6 | exact r7 | exact r8 | exact r9 | decide)
  rw [if_neg e6] at hy
  by_cases e7 : x.op = 7
  · rw [if_pos e7] at hy
    (simp only [List.mem_cons, List.not_mem_nil, or_false] at hy; rcases hy with rfl | rfl | rfl | rfl <;> first | exact r1 _ | exact r2 _ | exact r3 _ | exact r4 _ | exact r5 _ | exact r6 | exact r7 | exact r8 | exact r9 | decide)
  rw [if_neg e7] at hy
  by_cases e8 : x.op = 8
  · rw [if_pos e8] at hy
    (simp only [List.mem_cons, List.not_mem_nil, or_false] at hy; rcases hy with rfl | rfl | rfl <;> first | exact r1 _ | exact r2 _ | exact r3 _ | exact r4 _ | exact r5 _ | exact r6 | exact r7 | exact r8 | exact r9 | decide)
  rw [if_neg e8] at hy
  by_cases e9 : x.op = 9
  · rw [if_pos e9] at hy
    (simp only [List.mem_cons, List.not_mem_nil, or_false] at hy; rcases hy with rfl | rfl | rfl <;> first | exact r1 _ | exact r2 _ | exact r3 _ | exact r4 _ | exact r5 _ | exact r6 | exact r7 | exact r8 | exact r9 | decide)
  rw [if_neg e9] at hy
  by_cases e10 : x.op = 10
  · rw [if_pos e10] at hy
    (simp only [List.mem_cons, List.not_mem_nil, or_false] at hy; rcases hy with rfl | rfl | rfl | rfl | rfl <;> first | exact r1 _ | exact r2 _ | exact r3 _ | exact r4 _ | exact r5 _ | exact r6 | exact r7 | exact r8 | exact r9 | decide)
  rw [if_neg e10] at hy
  by_cases e11 : x.op = 11
  · rw [if_pos e11] at hy
    (simp only [List.mem_cons, List.not_mem_nil, or_false] at hy; rcases hy with rfl | rfl | rfl | rfl | rfl <;> first | exact r1 _ | exact r2 _ | exact r3 _ | exact r4 _ | exact r5 _ | exact r6 | exact r7 | exact r8 | exact r9 | decide)
  rw [if_neg e11] at hy
  by_cases e12 : x.op = 12
  · rw [if_pos e12] at hy
    (simp only [List.mem_cons, List.not_mem_nil, or_false] at hy; rcases hy with rfl | rfl | rfl | rfl | rfl <;> first | exact r1 _ | exact r2 _ | exact r3 _ | exact r4 _ | exact r5 _ | exact r6 | exact r7 | exact r8 | exact r9 | decide)
  rw [if_neg e12] at hy
  by_cases e13 : x.op = 13
  · rw [if_pos e13] at hy
    (simp only [List.mem_cons, List.not_mem_nil, or_false] at hy; rcases hy with rfl | rfl | rfl | rfl | rfl <;> first | exact r1 _ | exact r2 _ | exact r3 _ | exact r4 _ | exact r5 _ | exact r6 | exact r7 | exact r8 | exact r9 | decide)
  rw [if_neg e13] at hy
  by_cases e14 : x.op = 14
  · rw [if_pos e14] at hy
    (simp only [List.mem_cons, List.not_mem_nil, or_false] at hy; rcases hy with rfl | rfl | rfl <;> first | exact r1 _ | exact r2 _ | exact r3 _ | exact r4 _ | exact r5 _ | exact r6 | exact r7 | exact r8 | exact r9 | decide)
  rw [if_neg e14] at hy
  (simp only [List.mem_cons, List.not_mem_nil, or_false] at hy; rcases hy with rfl <;> first | exact r1 _ | exact r2 _ | exact r3 _ | exact r4 _ | exact r5 _ | exact r6 | exact r7 | exact r8 | exact r9 | decide)
theorem parts_cons (x : Ins) : ∃ p ps, parts x = p :: ps := by
  unfold parts
  by_cases e1 : x.op = 1
  · rw [if_pos e1]; exact ⟨_, _, rfl⟩
  rw [if_neg e1]
  by_cases e2 : x.op = 2
  · rw [if_pos e2]; exact ⟨_, _, rfl⟩
  rw [if_neg e2]
  by_cases e3 : x.op = 3
  · rw [if_pos e3]; exact ⟨_, _, rfl⟩
  rw [if_neg e3]
  by_cases e4 : x.op = 4
  · rw [if_pos e4]; exact ⟨_, _, rfl⟩
  rw [if_neg e4]
  by_cases e5 : x.op = 5
  · rw [if_pos e5]; exact ⟨_, _, rfl⟩
  rw [if_neg e5]
  by_cases e6 : x.op = 6
  · rw [if_pos e6]; exact ⟨_, _, rfl⟩
  rw [if_neg e6]
  by_cases e7 : x.op = 7
  · rw [if_pos e7]; exact ⟨_, _, rfl⟩
  rw [if_neg e7]
  by_cases e8 : x.op = 8
  · rw [if_pos e8]; exact ⟨_, _, rfl⟩
  rw [if_neg e8]
  by_cases e9 : x.op = 9
  · rw [if_pos e9]; exact ⟨_, _, rfl⟩
  rw [if_neg e9]
  by_cases e10 : x.op = 10
  · rw [if_pos e10]; exact ⟨_, _, rfl⟩
  rw [if_neg e10]
  by_cases e11 : x.op = 11
  · rw [if_pos e11]; exact ⟨_, _, rfl⟩
  rw [if_neg e11]
  by_cases e12 : x.op = 12
  · rw [if_pos e12]; exact ⟨_, _, rfl⟩
  rw [if_neg e12]
  by_cases e13 : x.op = 13
  · rw [if_pos e13]; exact ⟨_, _, rfl⟩
  rw [if_neg e13]
  by_cases e14 : x.op = 14
  · rw [if_pos e14]; exact ⟨_, _, rfl⟩
  rw [if_neg e14]
  exact ⟨_, _, rfl⟩
theorem split_txt (x : Ins) : SplitOf (txt x) = parts x := by
  obtain ⟨p, ps, h⟩ := parts_cons x
  have h32 := parts_no32 x
  unfold txt
  rw [h] at h32 ⊢
  exact split_join p ps h32
/-- What was written is read back. -/
theorem read_back (x : Ins) (hx : x.Ok) (h : chk x = 0) : cand (SplitOf (txt x)) = x := by rw [split_txt]; exact cand_parts x hx h
theorem rd_back (x : Ins) (hx : x.Ok) (h : chk x = 0) : rdI (cand (SplitOf (txt x))) (txt x) = x ∧ rdE (cand (SplitOf (txt x))) (txt x) = 0 := by
  rw [read_back x hx h]
  unfold rdI rdE
  rw [if_pos ⟨h, rfl⟩, if_pos ⟨h, rfl⟩]
  exact ⟨rfl, rfl⟩
/-- Two instructions that may be have the same text just if they are the same. -/
theorem txt_inj {x y : Ins} (hx : x.Ok) (hy : y.Ok) (h1 : chk x = 0) (h2 : chk y = 0) (h : txt x = txt y) : x = y := by
  rw [← read_back x hx h1, ← read_back y hy h2, h]
end Go.Proofs.YtlomgbackphmmaaDoor
