/- A program's instructions, as they lie in memory (layer 16, 6). -/
import Derived.Test.YtlomgbackphmmaaDoorCol
import Derived.Test.YtlomgbackphmmaaDoorPost
set_option linter.unusedVariables false
set_option linter.unusedSimpArgs false
namespace Go.Proofs.YtlomgbackphmmaaDoor
open Go.RowKit

structure Ins where
  op : Int
  a : Int
  b : Int
  c : Int
  imm : Int
deriving DecidableEq
def z0 : Ins := ⟨0, 0, 0, 0, 0⟩
/-- The fields' kinds. -/
structure Ins.Ok (x : Ins) : Prop where
  op : 0 ≤ x.op ∧ x.op ≤ 255
  a : 0 ≤ x.a ∧ x.a ≤ 255
  b : 0 ≤ x.b ∧ x.b ≤ 255
  c : 0 ≤ x.c ∧ x.c ≤ 255
  imm : 0 ≤ x.imm ∧ x.imm ≤ 4294967295
theorem z0_ok : z0.Ok := by constructor <;> decide
/-- Its cells. -/
abbrev Ins.cells (x : Ins) : Array Value := #[.int .u8 x.op, .int .u8 x.a, .int .u8 x.b, .int .u8 x.c, .int .u32 x.imm]

theorem add_of_add (a : Addr) (i j : Nat) : (a.add i).add j = a.add (i + j) := by
  unfold Addr.add
  by_cases hi : i = 0 <;> by_cases hj : j = 0 <;> simp [hi, hj, Nat.add_assoc]
theorem add_none (a : Addr) : a.add 0 = a := rfl
theorem add_some (a : Addr) (j : Nat) : a.add (j + 1) = ⟨a.block, a.off + (j + 1), none⟩ := rfl

/-- A slice that reads as these instructions. -/
structure Pr (w : World) (A : Option Addr) (L : List Ins) : Prop where
  at' : ∀ i, i < L.length → ∃ ad : Addr, A = some ad ∧ ad.block < w.heap.size ∧ ∀ j v, (L.getD i z0).cells[j]? = some v → w.cell? (ad.add (i * 5 + j)) = some v
  ok : ∀ x ∈ L, x.Ok
theorem Pr.below {w w1 : World} {A : Option Addr} {L : List Ins} (h : Pr w A L) (hb : Below w.heap.size w w1) : Pr w1 A L := ⟨fun i hi => by
  obtain ⟨ad, e, hl, hc⟩ := h.at' i hi
  exact ⟨ad, e, Nat.lt_of_lt_of_le hl hb.size, fun j v hv => (hb.cell (by rw [block_add]; exact hl)).trans (hc j v hv)⟩, h.ok⟩
theorem getD_mem {L : List Ins} {i : Nat} (h : i < L.length) : L.getD i z0 ∈ L := by
  rw [List.getD_eq_getElem?_getD, List.getElem?_eq_getElem h]; exact List.getElem_mem h
theorem Pr.okD {w : World} {A : Option Addr} {L : List Ins} (h : Pr w A L) (i : Nat) : (L.getD i z0).Ok := by
  by_cases hi : i < L.length
  · exact h.ok _ (getD_mem hi)
  · rw [List.getD_eq_getElem?_getD, List.getElem?_eq_none (by omega)]; exact z0_ok
theorem Pr.at_ {w : World} {A : Option Addr} {L : List Ins} (h : Pr w A L) (i : Nat) (hi : i < L.length) : ∃ ad : Addr, A = some ad ∧ ad.block < w.heap.size ∧
    w.cell? (ad.add (i * 5)) = some (.int .u8 (L.getD i z0).op) ∧ w.cell? ⟨(ad.add (i * 5)).block, (ad.add (i * 5)).off + 1, none⟩ = some (.int .u8 (L.getD i z0).a) ∧
    w.cell? ⟨(ad.add (i * 5)).block, (ad.add (i * 5)).off + 2, none⟩ = some (.int .u8 (L.getD i z0).b) ∧ w.cell? ⟨(ad.add (i * 5)).block, (ad.add (i * 5)).off + 3, none⟩ = some (.int .u8 (L.getD i z0).c) ∧
    w.cell? ⟨(ad.add (i * 5)).block, (ad.add (i * 5)).off + 4, none⟩ = some (.int .u32 (L.getD i z0).imm) := by
  obtain ⟨ad, rfl, hl, hc⟩ := h.at' i hi
  refine ⟨ad, rfl, hl, ?_, ?_, ?_, ?_, ?_⟩
  · exact hc 0 _ rfl
  · have := hc 1 _ rfl; rwa [← add_of_add, add_some] at this
  · have := hc 2 _ rfl; rwa [← add_of_add, add_some] at this
  · have := hc 3 _ rfl; rwa [← add_of_add, add_some] at this
  · have := hc 4 _ rfl; rwa [← add_of_add, add_some] at this
/-- An argument's columns. -/
theorem Pr.of_cols {w : World} {A : Option Addr} {len : Nat} {f0 f1 f2 f3 f4 : Nat → Int} (h0 : ColI w A len 5 0 .u8 f0) (h1 : ColI w A len 5 1 .u8 f1) (h2 : ColI w A len 5 2 .u8 f2) (h3 : ColI w A len 5 3 .u8 f3) (h4 : ColI w A len 5 4 .u32 f4) :
    ∃ L : List Ins, L.length = len ∧ Pr w A L := by
  refine ⟨(List.range len).map (fun i => ⟨f0 i, f1 i, f2 i, f3 i, f4 i⟩), by simp, ⟨fun i hi => ?_, fun x hx => ?_⟩⟩
  · have hi' : i < len := by simpa using hi
    have e : ((List.range len).map (fun i => (⟨f0 i, f1 i, f2 i, f3 i, f4 i⟩ : Ins))).getD i z0 = ⟨f0 i, f1 i, f2 i, f3 i, f4 i⟩ := by
      rw [List.getD_eq_getElem?_getD, List.getElem?_map, List.getElem?_range hi']; rfl
    rw [e]
    obtain ⟨ad, hA, hl, c0, _⟩ := h0 i hi'
    obtain ⟨ad1, hA1, _, c1, _⟩ := h1 i hi'
    obtain ⟨ad2, hA2, _, c2, _⟩ := h2 i hi'
    obtain ⟨ad3, hA3, _, c3, _⟩ := h3 i hi'
    obtain ⟨ad4, hA4, _, c4, _⟩ := h4 i hi'
    subst hA
    obtain rfl : ad = ad1 := by injection hA1
    obtain rfl : ad = ad2 := by injection hA2
    obtain rfl : ad = ad3 := by injection hA3
    obtain rfl : ad = ad4 := by injection hA4
    refine ⟨ad, rfl, hl, fun j v hv => ?_⟩
    match j, hv with
    | 0, hv => cases hv; exact c0
    | 1, hv => cases hv; exact c1
    | 2, hv => cases hv; exact c2
    | 3, hv => cases hv; exact c3
    | 4, hv => cases hv; exact c4
    | j + 5, hv => simp at hv
  · obtain ⟨i, hi, rfl⟩ := List.mem_map.1 hx
    have hi' := List.mem_range.1 hi
    obtain ⟨_, _, _, _, w0⟩ := h0 i hi'
    obtain ⟨_, _, _, _, w1⟩ := h1 i hi'
    obtain ⟨_, _, _, _, w2⟩ := h2 i hi'
    obtain ⟨_, _, _, _, w3⟩ := h3 i hi'
    obtain ⟨_, _, _, _, w4⟩ := h4 i hi'
    exact ⟨bd_u8 w0, bd_u8 w1, bd_u8 w2, bd_u8 w3, bd_u32 w4⟩

/-- What stands behind an instruction, in the order in which it is told. -/
def beh (L : List Ins) (pc : Int) : List Int :=
  if pc < 0 ∨ (L.length : Int) ≤ pc then [] else
    if (L.getD pc.toNat z0).op = 15 then [] else
      if (L.getD pc.toNat z0).op = 5 then [pc + (L.getD pc.toNat z0).imm] else
        if (L.getD pc.toNat z0).op = 6 ∨ (L.getD pc.toNat z0).op = 7 then (if (L.getD pc.toNat z0).imm = 1 then [pc + 1] else [pc + 1, pc + (L.getD pc.toNat z0).imm]) else [pc + 1]
end Go.Proofs.YtlomgbackphmmaaDoor
