/- The reference's Text, plain: operation by operation (printed by wip/gen/inrf2.py). -/
import Derived.Test.YtlomgbackphmmaaDoorInRf1
set_option linter.unusedVariables false
set_option linter.unusedSimpArgs false
namespace Go.Proofs.YtlomgbackphmmaaDoor.RefC
open Go.RowKit Go.Lib Go.Proofs.YtlomgbackphmmaaDoorW.PrintWords Go.Proofs.YtlomgbackphmmaaDoor.PInsnReads
open Go.Proofs.YtlomgbackphmmaaDoor (Ins z0 chk isOp bnd hasW over dig dig_size data_inj txt parts wl wAlu wCond wCall wrd mkN sR sS sF sE sP chk_op chk_word data_add join_two)
theorem wrd_tail (op c : Int) (h : 1 ≤ c) (z : ByteArray) (T : List ByteArray) (e : wl op = z :: T) : wrd op c = T.getD (c - 1).toNat ⟨#[]⟩ := by
  unfold wrd
  obtain ⟨k, hk⟩ : ∃ k : Nat, c = (k : Int) + 1 := ⟨(c - 1).toNat, by omega⟩
  subst hk
  rw [e, show ((k : Int) + 1).toNat = k + 1 from by omega, show ((k : Int) + 1 - 1).toNat = k from by omega]
  rfl
theorem getD_sz (W : List ByteArray) (hW : ∀ b ∈ W, b.size ≤ 9) (i : Nat) : (W.getD i ⟨#[]⟩).size ≤ 9 := by
  rw [List.getD_eq_getElem?_getD]
  cases h : W[i]? with
  | none => exact Nat.zero_le _
  | some b => exact hW b (List.mem_of_getElem? h)
theorem pt_1 (a b c imm : Int) (hx : Ins.Ok ⟨1, a, b, c, imm⟩) (h : chk ⟨1, a, b, c, imm⟩ = 0) : ∃ F P W m s0, Pt ⟨1, a, b, c, imm⟩ F P W m s0 := by
  refine ⟨(⟨#[109, 111, 118]⟩ : ByteArray), (⟨#[65, 114, 66, 114]⟩ : ByteArray), [], 2, (⟨#[109, 111, 118]⟩ : ByteArray), ?_⟩
  refine { f := by kernel_rfl, w := by kernel_rfl, sz := rfl, m4 := by decide, wz := by decide, s0z := ?_, fz := by decide, wl := by decide, head := ?_, kd := ?_, word := ?_, all := ?_ }
  · decide
  · exact .inl ⟨rfl, rfl⟩
  · intro j hj
    have : j = 0 ∨ j = 1 := by omega
    rcases this with rfl | rfl <;> decide +kernel
  · intro j hj e
    have : j = 0 ∨ j = 1 := by omega
    rcases this with rfl | rfl <;> exact absurd e (by decide +kernel)
  · have e1 : rts ⟨1, a, b, c, imm⟩ (⟨#[65, 114, 66, 114]⟩ : ByteArray) [] (⟨#[109, 111, 118]⟩ : ByteArray) 2 = (((((((⟨#[109, 111, 118]⟩ : ByteArray) ++ (⟨#[32]⟩ : ByteArray)) ++ (⟨#[114]⟩ : ByteArray)) ++ dig a.toNat) ++ (⟨#[32]⟩ : ByteArray)) ++ (⟨#[114]⟩ : ByteArray)) ++ dig b.toNat) := by kernel_rfl
    rw [e1]
    apply data_inj
    simp only [txt, parts, mkN, sR, sS, sF, sE, sP, List.map_cons, List.map_nil, join_two, join_one, data_add, List.append_assoc]
    simp [join_two, join_one]
theorem pt_2 (a b c imm : Int) (hx : Ins.Ok ⟨2, a, b, c, imm⟩) (h : chk ⟨2, a, b, c, imm⟩ = 0) : ∃ F P W m s0, Pt ⟨2, a, b, c, imm⟩ F P W m s0 := by
  refine ⟨(⟨#[105, 109, 109]⟩ : ByteArray), (⟨#[65, 114, 73, 110]⟩ : ByteArray), [], 2, (⟨#[105, 109, 109]⟩ : ByteArray), ?_⟩
  refine { f := by kernel_rfl, w := by kernel_rfl, sz := rfl, m4 := by decide, wz := by decide, s0z := ?_, fz := by decide, wl := by decide, head := ?_, kd := ?_, word := ?_, all := ?_ }
  · decide
  · exact .inl ⟨rfl, rfl⟩
  · intro j hj
    have : j = 0 ∨ j = 1 := by omega
    rcases this with rfl | rfl <;> decide +kernel
  · intro j hj e
    have : j = 0 ∨ j = 1 := by omega
    rcases this with rfl | rfl <;> exact absurd e (by decide +kernel)
  · have e1 : rts ⟨2, a, b, c, imm⟩ (⟨#[65, 114, 73, 110]⟩ : ByteArray) [] (⟨#[105, 109, 109]⟩ : ByteArray) 2 = ((((((⟨#[105, 109, 109]⟩ : ByteArray) ++ (⟨#[32]⟩ : ByteArray)) ++ (⟨#[114]⟩ : ByteArray)) ++ dig a.toNat) ++ (⟨#[32]⟩ : ByteArray)) ++ dig imm.toNat) := by kernel_rfl
    rw [e1]
    apply data_inj
    simp only [txt, parts, mkN, sR, sS, sF, sE, sP, List.map_cons, List.map_nil, join_two, join_one, data_add, List.append_assoc]
    simp [join_two, join_one]
theorem pt_3 (a b c imm : Int) (hx : Ins.Ok ⟨3, a, b, c, imm⟩) (h : chk ⟨3, a, b, c, imm⟩ = 0) : ∃ F P W m s0, Pt ⟨3, a, b, c, imm⟩ F P W m s0 := by
  have hw := chk_word h hx.c.1 rfl
  have hwl : ((wl 3).length : Int) = 12 := by decide
  dsimp only at hw
  rw [hwl] at hw
  have hz : ∀ b ∈ wAlu.tail, b.size ≤ 9 := by decide
  have hg := getD_sz wAlu.tail hz (c - 1).toNat
  refine ⟨(⟨#[]⟩ : ByteArray), (⟨#[65, 114, 66, 114]⟩ : ByteArray), wAlu.tail, 2, (wAlu.tail.getD (c - 1).toNat ⟨#[]⟩), ?_⟩
  refine { f := by kernel_rfl, w := by kernel_rfl, sz := rfl, m4 := by decide, wz := by decide, s0z := ?_, fz := by decide, wl := by decide, head := ?_, kd := ?_, word := ?_, all := ?_ }
  · omega
  · refine .inr (.inr ⟨by decide, (show (3 : Int) ≠ 14 by decide), hw.1, ?_, ?_⟩)
    · show c ≤ ((wAlu.tail : List ByteArray).length : Int)
      have : ((wAlu.tail : List ByteArray).length : Int) = 11 := by decide
      omega
    · exact .inl ⟨rfl, rfl⟩
  · intro j hj
    have : j = 0 ∨ j = 1 := by omega
    rcases this with rfl | rfl <;> decide +kernel
  · intro j hj e
    have : j = 0 ∨ j = 1 := by omega
    rcases this with rfl | rfl <;> exact absurd e (by decide +kernel)
  · have e1 : rts ⟨3, a, b, c, imm⟩ (⟨#[65, 114, 66, 114]⟩ : ByteArray) wAlu.tail (wAlu.tail.getD (c - 1).toNat ⟨#[]⟩) 2 = (((((((wAlu.tail.getD (c - 1).toNat ⟨#[]⟩) ++ (⟨#[32]⟩ : ByteArray)) ++ (⟨#[114]⟩ : ByteArray)) ++ dig a.toNat) ++ (⟨#[32]⟩ : ByteArray)) ++ (⟨#[114]⟩ : ByteArray)) ++ dig b.toNat) := by kernel_rfl
    rw [e1]
    apply data_inj
    have ew : wrd 3 c = (wAlu.tail.getD (c - 1).toNat ⟨#[]⟩) := wrd_tail 3 c hw.1 ⟨#[]⟩ wAlu.tail (by kernel_rfl)
    rw [← ew]
    simp only [txt, parts, mkN, sR, sS, sF, sE, sP, List.map_cons, List.map_nil, join_two, join_one, data_add, List.append_assoc]
    simp [join_two, join_one]
theorem pt_4 (a b c imm : Int) (hx : Ins.Ok ⟨4, a, b, c, imm⟩) (h : chk ⟨4, a, b, c, imm⟩ = 0) : ∃ F P W m s0, Pt ⟨4, a, b, c, imm⟩ F P W m s0 := by
  have hw := chk_word h hx.c.1 rfl
  have hwl : ((wl 4).length : Int) = 12 := by decide
  dsimp only at hw
  rw [hwl] at hw
  have hz : ∀ b ∈ wAlu.tail, b.size ≤ 9 := by decide
  have hg := getD_sz wAlu.tail hz (c - 1).toNat
  refine ⟨(⟨#[105]⟩ : ByteArray), (⟨#[65, 114, 73, 110]⟩ : ByteArray), wAlu.tail, 2, ((wAlu.tail.getD (c - 1).toNat ⟨#[]⟩) ++ (⟨#[105]⟩ : ByteArray)), ?_⟩
  refine { f := by kernel_rfl, w := by kernel_rfl, sz := rfl, m4 := by decide, wz := by decide, s0z := ?_, fz := by decide, wl := by decide, head := ?_, kd := ?_, word := ?_, all := ?_ }
  · have h1 : (⟨#[105]⟩ : ByteArray).size = 1 := rfl
    have h2 : (⟨#[106]⟩ : ByteArray).size = 1 := rfl
    simp only [size_add]
    omega
  · refine .inr (.inr ⟨by decide, (show (4 : Int) ≠ 14 by decide), hw.1, ?_, ?_⟩)
    · show c ≤ ((wAlu.tail : List ByteArray).length : Int)
      have : ((wAlu.tail : List ByteArray).length : Int) = 11 := by decide
      omega
    · exact .inr (.inl ⟨rfl, rfl⟩)
  · intro j hj
    have : j = 0 ∨ j = 1 := by omega
    rcases this with rfl | rfl <;> decide +kernel
  · intro j hj e
    have : j = 0 ∨ j = 1 := by omega
    rcases this with rfl | rfl <;> exact absurd e (by decide +kernel)
  · have e1 : rts ⟨4, a, b, c, imm⟩ (⟨#[65, 114, 73, 110]⟩ : ByteArray) wAlu.tail ((wAlu.tail.getD (c - 1).toNat ⟨#[]⟩) ++ (⟨#[105]⟩ : ByteArray)) 2 = (((((((wAlu.tail.getD (c - 1).toNat ⟨#[]⟩) ++ (⟨#[105]⟩ : ByteArray)) ++ (⟨#[32]⟩ : ByteArray)) ++ (⟨#[114]⟩ : ByteArray)) ++ dig a.toNat) ++ (⟨#[32]⟩ : ByteArray)) ++ dig imm.toNat) := by kernel_rfl
    rw [e1]
    apply data_inj
    have ew : wrd 4 c = (wAlu.tail.getD (c - 1).toNat ⟨#[]⟩) := wrd_tail 4 c hw.1 ⟨#[]⟩ wAlu.tail (by kernel_rfl)
    rw [← ew]
    simp only [txt, parts, mkN, sR, sS, sF, sE, sP, List.map_cons, List.map_nil, join_two, join_one, data_add, List.append_assoc]
    simp [join_two, join_one]
theorem pt_5 (a b c imm : Int) (hx : Ins.Ok ⟨5, a, b, c, imm⟩) (h : chk ⟨5, a, b, c, imm⟩ = 0) : ∃ F P W m s0, Pt ⟨5, a, b, c, imm⟩ F P W m s0 := by
  refine ⟨(⟨#[106, 109, 112]⟩ : ByteArray), (⟨#[73, 43]⟩ : ByteArray), [], 1, (⟨#[106, 109, 112]⟩ : ByteArray), ?_⟩
  refine { f := by kernel_rfl, w := by kernel_rfl, sz := rfl, m4 := by decide, wz := by decide, s0z := ?_, fz := by decide, wl := by decide, head := ?_, kd := ?_, word := ?_, all := ?_ }
  · decide
  · exact .inl ⟨rfl, rfl⟩
  · intro j hj
    have : j = 0 := by omega
    subst this
    decide +kernel
  · intro j hj e
    have : j = 0 := by omega
    subst this
    exact absurd e (by decide +kernel)
  · have e1 : rts ⟨5, a, b, c, imm⟩ (⟨#[73, 43]⟩ : ByteArray) [] (⟨#[106, 109, 112]⟩ : ByteArray) 1 = ((((⟨#[106, 109, 112]⟩ : ByteArray) ++ (⟨#[32]⟩ : ByteArray)) ++ (⟨#[43]⟩ : ByteArray)) ++ dig imm.toNat) := by kernel_rfl
    rw [e1]
    apply data_inj
    simp only [txt, parts, mkN, sR, sS, sF, sE, sP, List.map_cons, List.map_nil, join_two, join_one, data_add, List.append_assoc]
    simp [join_two, join_one]
theorem pt_6 (a b c imm : Int) (hx : Ins.Ok ⟨6, a, b, c, imm⟩) (h : chk ⟨6, a, b, c, imm⟩ = 0) : ∃ F P W m s0, Pt ⟨6, a, b, c, imm⟩ F P W m s0 := by
  have hw := chk_word h hx.c.1 rfl
  have hwl : ((wl 6).length : Int) = 10 := by decide
  dsimp only at hw
  rw [hwl] at hw
  have hz : ∀ b ∈ wCond.tail, b.size ≤ 9 := by decide
  have hg := getD_sz wCond.tail hz (c - 1).toNat
  refine ⟨(⟨#[106]⟩ : ByteArray), (⟨#[65, 114, 66, 114, 73, 43]⟩ : ByteArray), wCond.tail, 3, ((⟨#[106]⟩ : ByteArray) ++ (wCond.tail.getD (c - 1).toNat ⟨#[]⟩)), ?_⟩
  refine { f := by kernel_rfl, w := by kernel_rfl, sz := rfl, m4 := by decide, wz := by decide, s0z := ?_, fz := by decide, wl := by decide, head := ?_, kd := ?_, word := ?_, all := ?_ }
  · have h1 : (⟨#[105]⟩ : ByteArray).size = 1 := rfl
    have h2 : (⟨#[106]⟩ : ByteArray).size = 1 := rfl
    simp only [size_add]
    omega
  · refine .inr (.inr ⟨by decide, (show (6 : Int) ≠ 14 by decide), hw.1, ?_, ?_⟩)
    · show c ≤ ((wCond.tail : List ByteArray).length : Int)
      have : ((wCond.tail : List ByteArray).length : Int) = 9 := by decide
      omega
    · exact .inr (.inr (.inl ⟨rfl, rfl⟩))
  · intro j hj
    have : j = 0 ∨ j = 1 ∨ j = 2 := by omega
    rcases this with rfl | rfl | rfl <;> decide +kernel
  · intro j hj e
    have : j = 0 ∨ j = 1 ∨ j = 2 := by omega
    rcases this with rfl | rfl | rfl <;> exact absurd e (by decide +kernel)
  · have e1 : rts ⟨6, a, b, c, imm⟩ (⟨#[65, 114, 66, 114, 73, 43]⟩ : ByteArray) wCond.tail ((⟨#[106]⟩ : ByteArray) ++ (wCond.tail.getD (c - 1).toNat ⟨#[]⟩)) 3 = (((((((((((⟨#[106]⟩ : ByteArray) ++ (wCond.tail.getD (c - 1).toNat ⟨#[]⟩)) ++ (⟨#[32]⟩ : ByteArray)) ++ (⟨#[114]⟩ : ByteArray)) ++ dig a.toNat) ++ (⟨#[32]⟩ : ByteArray)) ++ (⟨#[114]⟩ : ByteArray)) ++ dig b.toNat) ++ (⟨#[32]⟩ : ByteArray)) ++ (⟨#[43]⟩ : ByteArray)) ++ dig imm.toNat) := by kernel_rfl
    rw [e1]
    apply data_inj
    have ew : wrd 6 c = (wCond.tail.getD (c - 1).toNat ⟨#[]⟩) := wrd_tail 6 c hw.1 ⟨#[]⟩ wCond.tail (by kernel_rfl)
    rw [← ew]
    simp only [txt, parts, mkN, sR, sS, sF, sE, sP, List.map_cons, List.map_nil, join_two, join_one, data_add, List.append_assoc]
    simp [join_two, join_one]
theorem pt_7 (a b c imm : Int) (hx : Ins.Ok ⟨7, a, b, c, imm⟩) (h : chk ⟨7, a, b, c, imm⟩ = 0) : ∃ F P W m s0, Pt ⟨7, a, b, c, imm⟩ F P W m s0 := by
  have hw := chk_word h hx.c.1 rfl
  have hwl : ((wl 7).length : Int) = 10 := by decide
  dsimp only at hw
  rw [hwl] at hw
  have hz : ∀ b ∈ wCond.tail, b.size ≤ 9 := by decide
  have hg := getD_sz wCond.tail hz (c - 1).toNat
  refine ⟨(⟨#[106, 105]⟩ : ByteArray), (⟨#[65, 114, 66, 110, 73, 43]⟩ : ByteArray), wCond.tail, 3, (((⟨#[106]⟩ : ByteArray) ++ (wCond.tail.getD (c - 1).toNat ⟨#[]⟩)) ++ (⟨#[105]⟩ : ByteArray)), ?_⟩
  refine { f := by kernel_rfl, w := by kernel_rfl, sz := rfl, m4 := by decide, wz := by decide, s0z := ?_, fz := by decide, wl := by decide, head := ?_, kd := ?_, word := ?_, all := ?_ }
  · have h1 : (⟨#[105]⟩ : ByteArray).size = 1 := rfl
    have h2 : (⟨#[106]⟩ : ByteArray).size = 1 := rfl
    simp only [size_add]
    omega
  · refine .inr (.inr ⟨by decide, (show (7 : Int) ≠ 14 by decide), hw.1, ?_, ?_⟩)
    · show c ≤ ((wCond.tail : List ByteArray).length : Int)
      have : ((wCond.tail : List ByteArray).length : Int) = 9 := by decide
      omega
    · exact .inr (.inr (.inr ⟨rfl, rfl⟩))
  · intro j hj
    have : j = 0 ∨ j = 1 ∨ j = 2 := by omega
    rcases this with rfl | rfl | rfl <;> decide +kernel
  · intro j hj e
    have : j = 0 ∨ j = 1 ∨ j = 2 := by omega
    rcases this with rfl | rfl | rfl <;> exact absurd e (by decide +kernel)
  · have e1 : rts ⟨7, a, b, c, imm⟩ (⟨#[65, 114, 66, 110, 73, 43]⟩ : ByteArray) wCond.tail (((⟨#[106]⟩ : ByteArray) ++ (wCond.tail.getD (c - 1).toNat ⟨#[]⟩)) ++ (⟨#[105]⟩ : ByteArray)) 3 = (((((((((((⟨#[106]⟩ : ByteArray) ++ (wCond.tail.getD (c - 1).toNat ⟨#[]⟩)) ++ (⟨#[105]⟩ : ByteArray)) ++ (⟨#[32]⟩ : ByteArray)) ++ (⟨#[114]⟩ : ByteArray)) ++ dig a.toNat) ++ (⟨#[32]⟩ : ByteArray)) ++ dig b.toNat) ++ (⟨#[32]⟩ : ByteArray)) ++ (⟨#[43]⟩ : ByteArray)) ++ dig imm.toNat) := by kernel_rfl
    rw [e1]
    apply data_inj
    have ew : wrd 7 c = (wCond.tail.getD (c - 1).toNat ⟨#[]⟩) := wrd_tail 7 c hw.1 ⟨#[]⟩ wCond.tail (by kernel_rfl)
    rw [← ew]
    simp only [txt, parts, mkN, sR, sS, sF, sE, sP, List.map_cons, List.map_nil, join_two, join_one, data_add, List.append_assoc]
    simp [join_two, join_one]
theorem pt_8 (a b c imm : Int) (hx : Ins.Ok ⟨8, a, b, c, imm⟩) (h : chk ⟨8, a, b, c, imm⟩ = 0) : ∃ F P W m s0, Pt ⟨8, a, b, c, imm⟩ F P W m s0 := by
  refine ⟨(⟨#[115, 97, 118, 101]⟩ : ByteArray), (⟨#[67, 115, 65, 114]⟩ : ByteArray), [], 2, (⟨#[115, 97, 118, 101]⟩ : ByteArray), ?_⟩
  refine { f := by kernel_rfl, w := by kernel_rfl, sz := rfl, m4 := by decide, wz := by decide, s0z := ?_, fz := by decide, wl := by decide, head := ?_, kd := ?_, word := ?_, all := ?_ }
  · decide
  · exact .inl ⟨rfl, rfl⟩
  · intro j hj
    have : j = 0 ∨ j = 1 := by omega
    rcases this with rfl | rfl <;> decide +kernel
  · intro j hj e
    have : j = 0 ∨ j = 1 := by omega
    rcases this with rfl | rfl <;> exact absurd e (by decide +kernel)
  · have e1 : rts ⟨8, a, b, c, imm⟩ (⟨#[67, 115, 65, 114]⟩ : ByteArray) [] (⟨#[115, 97, 118, 101]⟩ : ByteArray) 2 = (((((((⟨#[115, 97, 118, 101]⟩ : ByteArray) ++ (⟨#[32]⟩ : ByteArray)) ++ (⟨#[115]⟩ : ByteArray)) ++ dig c.toNat) ++ (⟨#[32]⟩ : ByteArray)) ++ (⟨#[114]⟩ : ByteArray)) ++ dig a.toNat) := by kernel_rfl
    rw [e1]
    apply data_inj
    simp only [txt, parts, mkN, sR, sS, sF, sE, sP, List.map_cons, List.map_nil, join_two, join_one, data_add, List.append_assoc]
    simp [join_two, join_one]
theorem pt_9 (a b c imm : Int) (hx : Ins.Ok ⟨9, a, b, c, imm⟩) (h : chk ⟨9, a, b, c, imm⟩ = 0) : ∃ F P W m s0, Pt ⟨9, a, b, c, imm⟩ F P W m s0 := by
  refine ⟨(⟨#[108, 111, 97, 100]⟩ : ByteArray), (⟨#[65, 114, 67, 115]⟩ : ByteArray), [], 2, (⟨#[108, 111, 97, 100]⟩ : ByteArray), ?_⟩
  refine { f := by kernel_rfl, w := by kernel_rfl, sz := rfl, m4 := by decide, wz := by decide, s0z := ?_, fz := by decide, wl := by decide, head := ?_, kd := ?_, word := ?_, all := ?_ }
  · decide
  · exact .inl ⟨rfl, rfl⟩
  · intro j hj
    have : j = 0 ∨ j = 1 := by omega
    rcases this with rfl | rfl <;> decide +kernel
  · intro j hj e
    have : j = 0 ∨ j = 1 := by omega
    rcases this with rfl | rfl <;> exact absurd e (by decide +kernel)
  · have e1 : rts ⟨9, a, b, c, imm⟩ (⟨#[65, 114, 67, 115]⟩ : ByteArray) [] (⟨#[108, 111, 97, 100]⟩ : ByteArray) 2 = (((((((⟨#[108, 111, 97, 100]⟩ : ByteArray) ++ (⟨#[32]⟩ : ByteArray)) ++ (⟨#[114]⟩ : ByteArray)) ++ dig a.toNat) ++ (⟨#[32]⟩ : ByteArray)) ++ (⟨#[115]⟩ : ByteArray)) ++ dig c.toNat) := by kernel_rfl
    rw [e1]
    apply data_inj
    simp only [txt, parts, mkN, sR, sS, sF, sE, sP, List.map_cons, List.map_nil, join_two, join_one, data_add, List.append_assoc]
    simp [join_two, join_one]
theorem pt_10 (a b c imm : Int) (hx : Ins.Ok ⟨10, a, b, c, imm⟩) (h : chk ⟨10, a, b, c, imm⟩ = 0) : ∃ F P W m s0, Pt ⟨10, a, b, c, imm⟩ F P W m s0 := by
  refine ⟨(⟨#[103, 101, 116]⟩ : ByteArray), (⟨#[65, 114, 66, 114, 67, 102, 73, 110]⟩ : ByteArray), [], 4, (⟨#[103, 101, 116]⟩ : ByteArray), ?_⟩
  refine { f := by kernel_rfl, w := by kernel_rfl, sz := rfl, m4 := by decide, wz := by decide, s0z := ?_, fz := by decide, wl := by decide, head := ?_, kd := ?_, word := ?_, all := ?_ }
  · decide
  · exact .inl ⟨rfl, rfl⟩
  · intro j hj
    have : j = 0 ∨ j = 1 ∨ j = 2 ∨ j = 3 := by omega
    rcases this with rfl | rfl | rfl | rfl <;> decide +kernel
  · intro j hj e
    have : j = 0 ∨ j = 1 ∨ j = 2 ∨ j = 3 := by omega
    rcases this with rfl | rfl | rfl | rfl <;> exact absurd e (by decide +kernel)
  · have e1 : rts ⟨10, a, b, c, imm⟩ (⟨#[65, 114, 66, 114, 67, 102, 73, 110]⟩ : ByteArray) [] (⟨#[103, 101, 116]⟩ : ByteArray) 4 = ((((((((((((⟨#[103, 101, 116]⟩ : ByteArray) ++ (⟨#[32]⟩ : ByteArray)) ++ (⟨#[114]⟩ : ByteArray)) ++ dig a.toNat) ++ (⟨#[32]⟩ : ByteArray)) ++ (⟨#[114]⟩ : ByteArray)) ++ dig b.toNat) ++ (⟨#[32]⟩ : ByteArray)) ++ (⟨#[102]⟩ : ByteArray)) ++ dig c.toNat) ++ (⟨#[32]⟩ : ByteArray)) ++ dig imm.toNat) := by kernel_rfl
    rw [e1]
    apply data_inj
    simp only [txt, parts, mkN, sR, sS, sF, sE, sP, List.map_cons, List.map_nil, join_two, join_one, data_add, List.append_assoc]
    simp [join_two, join_one]
theorem pt_11 (a b c imm : Int) (hx : Ins.Ok ⟨11, a, b, c, imm⟩) (h : chk ⟨11, a, b, c, imm⟩ = 0) : ∃ F P W m s0, Pt ⟨11, a, b, c, imm⟩ F P W m s0 := by
  refine ⟨(⟨#[103, 101, 116, 120]⟩ : ByteArray), (⟨#[65, 114, 66, 114, 67, 102, 73, 120]⟩ : ByteArray), [], 4, (⟨#[103, 101, 116, 120]⟩ : ByteArray), ?_⟩
  refine { f := by kernel_rfl, w := by kernel_rfl, sz := rfl, m4 := by decide, wz := by decide, s0z := ?_, fz := by decide, wl := by decide, head := ?_, kd := ?_, word := ?_, all := ?_ }
  · decide
  · exact .inl ⟨rfl, rfl⟩
  · intro j hj
    have : j = 0 ∨ j = 1 ∨ j = 2 ∨ j = 3 := by omega
    rcases this with rfl | rfl | rfl | rfl <;> decide +kernel
  · intro j hj e
    have : j = 0 ∨ j = 1 ∨ j = 2 ∨ j = 3 := by omega
    rcases this with rfl | rfl | rfl | rfl <;> exact absurd e (by decide +kernel)
  · have e1 : rts ⟨11, a, b, c, imm⟩ (⟨#[65, 114, 66, 114, 67, 102, 73, 120]⟩ : ByteArray) [] (⟨#[103, 101, 116, 120]⟩ : ByteArray) 4 = (((((((((((((⟨#[103, 101, 116, 120]⟩ : ByteArray) ++ (⟨#[32]⟩ : ByteArray)) ++ (⟨#[114]⟩ : ByteArray)) ++ dig a.toNat) ++ (⟨#[32]⟩ : ByteArray)) ++ (⟨#[114]⟩ : ByteArray)) ++ dig b.toNat) ++ (⟨#[32]⟩ : ByteArray)) ++ (⟨#[102]⟩ : ByteArray)) ++ dig c.toNat) ++ (⟨#[32]⟩ : ByteArray)) ++ (⟨#[114]⟩ : ByteArray)) ++ dig imm.toNat) := by kernel_rfl
    rw [e1]
    apply data_inj
    simp only [txt, parts, mkN, sR, sS, sF, sE, sP, List.map_cons, List.map_nil, join_two, join_one, data_add, List.append_assoc]
    simp [join_two, join_one]
theorem pt_12 (a b c imm : Int) (hx : Ins.Ok ⟨12, a, b, c, imm⟩) (h : chk ⟨12, a, b, c, imm⟩ = 0) : ∃ F P W m s0, Pt ⟨12, a, b, c, imm⟩ F P W m s0 := by
  refine ⟨(⟨#[112, 117, 116]⟩ : ByteArray), (⟨#[66, 114, 67, 102, 73, 110, 65, 114]⟩ : ByteArray), [], 4, (⟨#[112, 117, 116]⟩ : ByteArray), ?_⟩
  refine { f := by kernel_rfl, w := by kernel_rfl, sz := rfl, m4 := by decide, wz := by decide, s0z := ?_, fz := by decide, wl := by decide, head := ?_, kd := ?_, word := ?_, all := ?_ }
  · decide
  · exact .inl ⟨rfl, rfl⟩
  · intro j hj
    have : j = 0 ∨ j = 1 ∨ j = 2 ∨ j = 3 := by omega
    rcases this with rfl | rfl | rfl | rfl <;> decide +kernel
  · intro j hj e
    have : j = 0 ∨ j = 1 ∨ j = 2 ∨ j = 3 := by omega
    rcases this with rfl | rfl | rfl | rfl <;> exact absurd e (by decide +kernel)
  · have e1 : rts ⟨12, a, b, c, imm⟩ (⟨#[66, 114, 67, 102, 73, 110, 65, 114]⟩ : ByteArray) [] (⟨#[112, 117, 116]⟩ : ByteArray) 4 = ((((((((((((⟨#[112, 117, 116]⟩ : ByteArray) ++ (⟨#[32]⟩ : ByteArray)) ++ (⟨#[114]⟩ : ByteArray)) ++ dig b.toNat) ++ (⟨#[32]⟩ : ByteArray)) ++ (⟨#[102]⟩ : ByteArray)) ++ dig c.toNat) ++ (⟨#[32]⟩ : ByteArray)) ++ dig imm.toNat) ++ (⟨#[32]⟩ : ByteArray)) ++ (⟨#[114]⟩ : ByteArray)) ++ dig a.toNat) := by kernel_rfl
    rw [e1]
    apply data_inj
    simp only [txt, parts, mkN, sR, sS, sF, sE, sP, List.map_cons, List.map_nil, join_two, join_one, data_add, List.append_assoc]
    simp [join_two, join_one]
theorem pt_13 (a b c imm : Int) (hx : Ins.Ok ⟨13, a, b, c, imm⟩) (h : chk ⟨13, a, b, c, imm⟩ = 0) : ∃ F P W m s0, Pt ⟨13, a, b, c, imm⟩ F P W m s0 := by
  refine ⟨(⟨#[112, 117, 116, 120]⟩ : ByteArray), (⟨#[66, 114, 67, 102, 73, 120, 65, 114]⟩ : ByteArray), [], 4, (⟨#[112, 117, 116, 120]⟩ : ByteArray), ?_⟩
  refine { f := by kernel_rfl, w := by kernel_rfl, sz := rfl, m4 := by decide, wz := by decide, s0z := ?_, fz := by decide, wl := by decide, head := ?_, kd := ?_, word := ?_, all := ?_ }
  · decide
  · exact .inl ⟨rfl, rfl⟩
  · intro j hj
    have : j = 0 ∨ j = 1 ∨ j = 2 ∨ j = 3 := by omega
    rcases this with rfl | rfl | rfl | rfl <;> decide +kernel
  · intro j hj e
    have : j = 0 ∨ j = 1 ∨ j = 2 ∨ j = 3 := by omega
    rcases this with rfl | rfl | rfl | rfl <;> exact absurd e (by decide +kernel)
  · have e1 : rts ⟨13, a, b, c, imm⟩ (⟨#[66, 114, 67, 102, 73, 120, 65, 114]⟩ : ByteArray) [] (⟨#[112, 117, 116, 120]⟩ : ByteArray) 4 = (((((((((((((⟨#[112, 117, 116, 120]⟩ : ByteArray) ++ (⟨#[32]⟩ : ByteArray)) ++ (⟨#[114]⟩ : ByteArray)) ++ dig b.toNat) ++ (⟨#[32]⟩ : ByteArray)) ++ (⟨#[102]⟩ : ByteArray)) ++ dig c.toNat) ++ (⟨#[32]⟩ : ByteArray)) ++ (⟨#[114]⟩ : ByteArray)) ++ dig imm.toNat) ++ (⟨#[32]⟩ : ByteArray)) ++ (⟨#[114]⟩ : ByteArray)) ++ dig a.toNat) := by kernel_rfl
    rw [e1]
    apply data_inj
    simp only [txt, parts, mkN, sR, sS, sF, sE, sP, List.map_cons, List.map_nil, join_two, join_one, data_add, List.append_assoc]
    simp [join_two, join_one]
theorem pt_14 (a b c imm : Int) (hx : Ins.Ok ⟨14, a, b, c, imm⟩) (h : chk ⟨14, a, b, c, imm⟩ = 0) : ∃ F P W m s0, Pt ⟨14, a, b, c, imm⟩ F P W m s0 := by
  have hw := chk_word h hx.c.1 rfl
  have hwl : ((wl 14).length : Int) = 23 := by decide
  dsimp only at hw
  rw [hwl] at hw
  have hz : ∀ b ∈ wCall.tail, b.size ≤ 9 := by decide
  have hg := getD_sz wCall.tail hz (c - 1).toNat
  refine ⟨(⟨#[99, 97, 108, 108]⟩ : ByteArray), (⟨#[67, 119, 73, 110]⟩ : ByteArray), wCall.tail, 2, (⟨#[99, 97, 108, 108]⟩ : ByteArray), ?_⟩
  refine { f := by kernel_rfl, w := by kernel_rfl, sz := rfl, m4 := by decide, wz := by decide, s0z := ?_, fz := by decide, wl := by decide, head := ?_, kd := ?_, word := ?_, all := ?_ }
  · decide
  · exact .inr (.inl ⟨by decide, rfl, rfl⟩)
  · intro j hj
    have : j = 0 ∨ j = 1 := by omega
    rcases this with rfl | rfl <;> decide +kernel
  · intro j hj e
    have : j = 0 ∨ j = 1 := by omega
    rcases this with rfl | rfl
    · have : ((wCall.tail : List ByteArray).length : Int) = 22 := by decide
      show 1 ≤ c ∧ c ≤ ((wCall.tail : List ByteArray).length : Int)
      omega
    · exact absurd e (by decide +kernel)
  · have e1 : rts ⟨14, a, b, c, imm⟩ (⟨#[67, 119, 73, 110]⟩ : ByteArray) wCall.tail (⟨#[99, 97, 108, 108]⟩ : ByteArray) 2 = (((((⟨#[99, 97, 108, 108]⟩ : ByteArray) ++ (⟨#[32]⟩ : ByteArray)) ++ (wCall.tail.getD (c - 1).toNat ⟨#[]⟩)) ++ (⟨#[32]⟩ : ByteArray)) ++ dig imm.toNat) := by kernel_rfl
    rw [e1]
    apply data_inj
    have ew : wrd 14 c = (wCall.tail.getD (c - 1).toNat ⟨#[]⟩) := wrd_tail 14 c hw.1 ⟨#[]⟩ wCall.tail (by kernel_rfl)
    rw [← ew]
    simp only [txt, parts, mkN, sR, sS, sF, sE, sP, List.map_cons, List.map_nil, join_two, join_one, data_add, List.append_assoc]
    simp [join_two, join_one]
theorem pt_15 (a b c imm : Int) (hx : Ins.Ok ⟨15, a, b, c, imm⟩) (h : chk ⟨15, a, b, c, imm⟩ = 0) : ∃ F P W m s0, Pt ⟨15, a, b, c, imm⟩ F P W m s0 := by
  refine ⟨(⟨#[101, 120, 105, 116]⟩ : ByteArray), (⟨#[]⟩ : ByteArray), [], 0, (⟨#[101, 120, 105, 116]⟩ : ByteArray), ?_⟩
  refine { f := by kernel_rfl, w := by kernel_rfl, sz := rfl, m4 := by decide, wz := by decide, s0z := ?_, fz := by decide, wl := by decide, head := ?_, kd := ?_, word := ?_, all := ?_ }
  · decide
  · exact .inl ⟨rfl, rfl⟩
  · intro j hj; omega
  · intro j hj; omega
  · have e1 : rts ⟨15, a, b, c, imm⟩ (⟨#[]⟩ : ByteArray) [] (⟨#[101, 120, 105, 116]⟩ : ByteArray) 0 = (⟨#[101, 120, 105, 116]⟩ : ByteArray) := by kernel_rfl
    rw [e1]
    apply data_inj
    simp only [txt, parts, mkN, sR, sS, sF, sE, sP, List.map_cons, List.map_nil, join_two, join_one, data_add, List.append_assoc]
    simp [join_two, join_one]
theorem pt (x : Ins) (hx : x.Ok) (h : chk x = 0) : ∃ F P W m s0, Pt x F P W m s0 := by
  have ho := chk_op h
  obtain ⟨op, a, b, c, imm⟩ := x
  dsimp only at ho
  have : op = 1 ∨ op = 2 ∨ op = 3 ∨ op = 4 ∨ op = 5 ∨ op = 6 ∨ op = 7 ∨ op = 8 ∨ op = 9 ∨ op = 10 ∨ op = 11 ∨ op = 12 ∨ op = 13 ∨ op = 14 ∨ op = 15 := by omega
  rcases this with rfl | rfl | rfl | rfl | rfl | rfl | rfl | rfl | rfl | rfl | rfl | rfl | rfl | rfl | rfl
  · exact pt_1 a b c imm hx h
  · exact pt_2 a b c imm hx h
  · exact pt_3 a b c imm hx h
  · exact pt_4 a b c imm hx h
  · exact pt_5 a b c imm hx h
  · exact pt_6 a b c imm hx h
  · exact pt_7 a b c imm hx h
  · exact pt_8 a b c imm hx h
  · exact pt_9 a b c imm hx h
  · exact pt_10 a b c imm hx h
  · exact pt_11 a b c imm hx h
  · exact pt_12 a b c imm hx h
  · exact pt_13 a b c imm hx h
  · exact pt_14 a b c imm hx h
  · exact pt_15 a b c imm hx h
end Go.Proofs.YtlomgbackphmmaaDoor.RefC
