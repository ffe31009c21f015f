/- insn, plain: what was written is read back: operation by operation. -/
import Derived.Test.YtlomgbackphmmaaDoorInQ
set_option linter.unusedVariables false
set_option linter.unusedSimpArgs false
namespace Go.Proofs.YtlomgbackphmmaaDoor
open Go.RowKit Go.Lib

theorem no32_mk (s : ByteArray) (hs : (32 : UInt8) ∉ s.data.toList) (n : Int) : (32 : UInt8) ∉ (mkN s n).data.toList := by
  unfold mkN
  rw [data_add, List.mem_append]
  rintro (h | h)
  · exact hs h
  · have := (digits_all n.toNat).1 32 h
    have e : (32 : UInt8).toNat = 32 := rfl
    omega
theorem no32_wrd (op c : Int) : (32 : UInt8) ∉ (wrd op c).data.toList := by
  have key : ∀ (L : List ByteArray) (k : Nat), (∀ b ∈ L, (32 : UInt8) ∉ b.data.toList) → (32 : UInt8) ∉ (L.getD k ⟨#[]⟩).data.toList := by
    intro L k hL
    rw [List.getD_eq_getElem?_getD]
    cases h : L[k]? with
    | none => simp
    | some b => exact hL b (List.mem_of_getElem? h)
  unfold wrd wl
  apply key
  split
  · decide
  · split
    · decide
    · split
      · decide
      · intro b hb; cases hb
theorem smallF_mk (L : List ByteArray) (k : Nat) (s : ByteArray) (n : Int) (h0 : 0 ≤ n) (h1 : n ≤ 255) (h : ptAt L k = mkN s n) : smallF L k s = n := by
  unfold smallF
  rw [h, numV_mk s n h0 (by omega)]
  omega
theorem wideF_mk (L : List ByteArray) (k : Nat) (s : ByteArray) (n : Int) (h0 : 0 ≤ n) (h1 : n ≤ 4294967295) (h : ptAt L k = mkN s n) : wideF L k s = n := by
  unfold wideF
  rw [h, numV_mk s n h0 h1]
theorem word_3 (c : Int) (h0 : 1 ≤ c) (h1 : c ≤ 11) : opF (wrd 3 c).data.toList = (3, c) := by
  have : c = 1 ∨ c = 2 ∨ c = 3 ∨ c = 4 ∨ c = 5 ∨ c = 6 ∨ c = 7 ∨ c = 8 ∨ c = 9 ∨ c = 10 ∨ c = 11 := by omega
  rcases this with rfl | rfl | rfl | rfl | rfl | rfl | rfl | rfl | rfl | rfl | rfl <;> decide +kernel
theorem word_4 (c : Int) (h0 : 1 ≤ c) (h1 : c ≤ 11) : opF (wrd 4 c ++ (⟨#[105]⟩ : ByteArray)).data.toList = (4, c) := by
  have : c = 1 ∨ c = 2 ∨ c = 3 ∨ c = 4 ∨ c = 5 ∨ c = 6 ∨ c = 7 ∨ c = 8 ∨ c = 9 ∨ c = 10 ∨ c = 11 := by omega
  rcases this with rfl | rfl | rfl | rfl | rfl | rfl | rfl | rfl | rfl | rfl | rfl <;> decide +kernel
theorem word_6 (c : Int) (h0 : 1 ≤ c) (h1 : c ≤ 9) : opF ((⟨#[106]⟩ : ByteArray) ++ wrd 6 c).data.toList = (6, c) := by
  have : c = 1 ∨ c = 2 ∨ c = 3 ∨ c = 4 ∨ c = 5 ∨ c = 6 ∨ c = 7 ∨ c = 8 ∨ c = 9 := by omega
  rcases this with rfl | rfl | rfl | rfl | rfl | rfl | rfl | rfl | rfl <;> decide +kernel
theorem word_7 (c : Int) (h0 : 1 ≤ c) (h1 : c ≤ 9) : opF ((⟨#[106]⟩ : ByteArray) ++ wrd 7 c ++ (⟨#[105]⟩ : ByteArray)).data.toList = (7, c) := by
  have : c = 1 ∨ c = 2 ∨ c = 3 ∨ c = 4 ∨ c = 5 ∨ c = 6 ∨ c = 7 ∨ c = 8 ∨ c = 9 := by omega
  rcases this with rfl | rfl | rfl | rfl | rfl | rfl | rfl | rfl | rfl <;> decide +kernel
theorem word_14 (c : Int) (h0 : 1 ≤ c) (h1 : c ≤ 22) : placeF 14 (wrd 14 c) = c := by
  have : c = 1 ∨ c = 2 ∨ c = 3 ∨ c = 4 ∨ c = 5 ∨ c = 6 ∨ c = 7 ∨ c = 8 ∨ c = 9 ∨ c = 10 ∨ c = 11 ∨ c = 12 ∨ c = 13 ∨ c = 14 ∨ c = 15 ∨ c = 16 ∨ c = 17 ∨ c = 18 ∨ c = 19 ∨ c = 20 ∨ c = 21 ∨ c = 22 := by omega
  rcases this with rfl | rfl | rfl | rfl | rfl | rfl | rfl | rfl | rfl | rfl | rfl | rfl | rfl | rfl | rfl | rfl | rfl | rfl | rfl | rfl | rfl | rfl <;> decide +kernel
end Go.Proofs.YtlomgbackphmmaaDoor
