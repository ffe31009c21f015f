/- insn.mark: a number behind a sign. -/
import Derived.Test.YtlomgbackphmmaaDoorInF
set_option linter.unusedVariables false
set_option linter.unusedSimpArgs false
namespace Go.Proofs.YtlomgbackphmmaaDoor
open Go.RowKit Go.Lib

theorem eFormatUint (u : Nat) (hu64 : u < 18446744073709551616) (w : World) (htab : TabIs Tryd.prog w "internal/strconv.uint64pow10" .u64 pow10Tab) :
    Calls Tryd.prog 42 #[.int .u64 u, .int .i64 10] w fun e w' => e = .returned (.string ⟨(decDigits u).toArray⟩) ∧ Below w.heap.size w w' := by
  have HT := Lib.hid htab
  clear htab
  go_enter Tryd.func42, Tryd.ntmps42
  go_wp2_with fail
  refine (iFormatUint u hu64 _ HT.out).mono ?_
  rintro e w' ⟨rfl, hB⟩
  have HB := Lib.hid hB
  clear hB
  go_wp2
  go_ret
  exact ⟨rfl, HB.out⟩
/-- A number's digits. -/
def dig (u : Nat) : ByteArray := ⟨(decDigits u).toArray⟩
theorem nDigits_le : ∀ (k u : Nat), 1 ≤ k → u < 10 ^ k → nDigits u ≤ k
  | 0, u, h, _ => by omega
  | k + 1, u, _, h => by
    by_cases h1 : u < 10
    · rw [nDigits_small h1]; omega
    · rw [nDigits_big h1]
      have h3 : u / 10 < 10 ^ k := by rw [Nat.pow_succ] at h; omega
      have hk : 1 ≤ k := by
        rcases k with _ | k
        · simp at h; omega
        · omega
      have := nDigits_le k (u / 10) hk h3
      omega
theorem dig_size (u : Nat) (hu : u < 4294967296) : (⟨(decDigits u).toArray⟩ : ByteArray).size ≤ 10 := by
  show (decDigits u).toArray.size ≤ 10
  rw [List.size_toArray, decDigits_length]
  exact nDigits_le 10 u (by omega) (by omega)
set_option maxHeartbeats 1000000 in
theorem mark_calls (sign : ByteArray) (hs : sign.size ≤ 1) (u : Nat) (hu : u < 4294967296) (w : World) (htab : TabIs Tryd.prog w "internal/strconv.uint64pow10" .u64 pow10Tab) :
    Calls Tryd.prog 22 #[.string sign, .int .u32 u] w fun e w' => e = .returned (.string (sign ++ dig u)) ∧ Below w.heap.size w w' := by
  have HT := Lib.hid htab
  have hw : IntKind.u64.wrap (u : Int) = (u : Int) := by rw [IntKind.wrap_u64]; omega
  have hsz := dig_size u hu
  clear htab
  go_enter Tryd.func22, Tryd.ntmps22
  go_wp2_with fail
  refine (eFormatUint u (by omega) _ HT.out).mono ?_
  rintro e w' ⟨rfl, hB⟩
  have HB := Lib.hid hB
  clear hB
  go_wp2
  go_ret
  exact ⟨rfl, HB.out⟩
end Go.Proofs.YtlomgbackphmmaaDoor
