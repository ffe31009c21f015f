/- One arena of the call's own: each function's step. -/
import Derived.Test.YthkppnkhiimaeaaAr4
import Derived.ShutString
set_option linter.unusedVariables false
set_option linter.unusedSimpArgs false
namespace Go.Proofs.Ythkppnkhiimaeaa
open Go.RowKit

theorem grown_below {B : Nat} {w w1 w2 : World} (h : Below B w w1) {g : Nat} (hg : w1.grownBy w2 (some g)) (hB : B ≤ g) (hs : B ≤ w1.heap.size) : Below B w w2 :=
  h.grown hg hs (fun k hk => by injection hk with hk; omega)
theorem below_then {B : Nat} {w w1 w2 : World} (h : Below B w w1) (hB : B ≤ w1.heap.size) (k : Below w1.heap.size w1 w2) : Below B w w2 :=
  h.trans ⟨k.os, k.tape, k.output, k.size, fun i hi => k.block i (Nat.lt_of_lt_of_le hi hB)⟩

/-- What lay there when the call began lies as it lay. -/
structure Kept (w0 w : World) : Prop where
  below : Below w0.heap.size w0 w
theorem Kept.refl (w : World) : Kept w w := ⟨Below.refl _ _⟩
theorem Kept.then_ {w0 w w1 : World} (h : Kept w0 w) (k : Below w.heap.size w w1) : Kept w0 w1 := ⟨below_then h.below h.below.size k⟩

/-- An arena that was made since the call began. -/
structure One (w0 w : World) (p d : Nat) (bs : List Int) : Prop where
  kept : Kept w0 w
  ar : Ar w p d bs
  new : w0.heap.size ≤ d

theorem One.then_ {w0 w w1 : World} {p d : Nat} {bs : List Int} (h : One w0 w p d bs) (k : Below w.heap.size w w1) : One w0 w1 p d bs := ⟨h.kept.then_ k, h.ar.below k, h.new⟩

theorem New_st {w0 w : World} (K : Kept w0 w) (n : Int) (h0 : 0 ≤ n) (h1 : n ≤ 65536) :
    Calls Try.prog 32 #[.int .i64 n] w fun e w' => ∃ p d : Nat, e = .returned (.tuple #[.pointer (some ⟨p, 0, none⟩), .int .i64 0]) ∧ One w0 w' p d (zeros n.toNat) := by
  refine (New_ok n w h0 h1).mono ?_
  rintro e w' ⟨p, d, h, hA, hp, hd, hB⟩
  exact ⟨p, d, h, K.then_ hB, hA, Nat.le_trans K.below.size hd⟩

theorem Load_st {w0 w : World} {p d : Nat} {bs : List Int} (S : One w0 w p d bs) (at_ wd : Int) :
    Calls Try.prog 20 #[.pointer (some ⟨p, 0, none⟩), .int .i64 at_, .int .i64 wd] w fun e w' =>
      e = .returned (.tuple #[.int .u64 (ldA bs at_ wd), .int .i64 (nErr bs.length at_ wd)]) ∧ One w0 w' p d bs :=
  (Load_any at_ wd w S.ar).mono fun _ _ ⟨h, hB⟩ => ⟨h, S.then_ hB⟩

theorem Store_st {w0 w : World} {p d : Nat} {bs : List Int} (S : One w0 w p d bs) (at_ wd v : Int) (hv : 0 ≤ v) :
    Calls Try.prog 28 #[.pointer (some ⟨p, 0, none⟩), .int .i64 at_, .int .i64 wd, .int .u64 v] w fun e w' =>
      e = .returned (.int .i64 (nErr bs.length at_ wd)) ∧ One w0 w' p d (stA bs at_ wd v) :=
  (Store_any at_ wd v w S.ar hv).mono fun _ _ ⟨h, hA, hg⟩ => ⟨h, ⟨grown_below S.kept.below hg S.new S.kept.below.size⟩, hA, S.new⟩

theorem Fill_st {w0 w : World} {p d : Nat} {bs : List Int} (S : One w0 w p d bs) (at_ m c : Int) (hm : m ≤ 9223372036854775807) (hc0 : 0 ≤ c) (hc1 : c ≤ 255) :
    Calls Try.prog 37 #[.pointer (some ⟨p, 0, none⟩), .int .i64 at_, .int .i64 m, .int .u8 c] w fun e w' =>
      e = .returned (.int .i64 (rErr bs.length at_ m)) ∧ One w0 w' p d (fillA bs at_ m c) :=
  (Fill_any at_ m c w S.ar hm hc0 hc1).mono fun _ _ ⟨h, hA, hg⟩ => ⟨h, ⟨grown_below S.kept.below hg S.new S.kept.below.size⟩, hA, S.new⟩

theorem Bytes_st {w0 w : World} {p d : Nat} {bs : List Int} (S : One w0 w p d bs) (at_ m : Int) (hm : m ≤ 9223372036854775807) :
    Calls Try.prog 29 #[.pointer (some ⟨p, 0, none⟩), .int .i64 at_, .int .i64 m] w fun e w' =>
      ∃ g, e = .returned (.tuple #[.slice (some ⟨g, 0, none⟩) (cutA bs at_ m).length (cutA bs at_ m).length, .int .i64 (rErr bs.length at_ m)]) ∧ Bk w' g (cutA bs at_ m) ∧ One w0 w' p d bs :=
  (Bytes_any at_ m w S.ar hm).mono fun _ _ ⟨g, h, hk, hg, hB⟩ => ⟨g, h, hk, S.then_ hB⟩

theorem Len_st {w0 w : World} {p d : Nat} {bs : List Int} (S : One w0 w p d bs) :
    Calls Try.prog 63 #[.pointer (some ⟨p, 0, none⟩)] w fun e w' => e = .returned (.int .i64 bs.length) ∧ One w0 w' p d bs := by
  refine (Len_calls S.ar).mono ?_
  rintro e w' ⟨h, rfl⟩
  exact ⟨h, S⟩

/-- Bytes as a text. -/
theorem Bk.text {w : World} {g : Nat} {bs : List Int} (h : Bk w g bs) (cap : Nat) : (convert 58 9 (.slice (some ⟨g, 0, none⟩) bs.length cap)).run Try.prog w = .ok (.string (strOfNums bs)) w :=
  run_convert_bytes_arg w 58 5 Try.underlying58 Try.underlying5 g 0 bs.length cap bs rfl (fun i hi => by rw [Nat.zero_add]; exact h.byte i hi) 9 Try.underlying9

theorem ldA_err {bs : List Int} {at_ wd : Int} (h : ¬ nErr bs.length at_ wd = 0) : ldA bs at_ wd = 0 := by unfold ldA; rw [if_neg h]
theorem stA_err {bs : List Int} {at_ wd v : Int} (h : ¬ nErr bs.length at_ wd = 0) : stA bs at_ wd v = bs := by unfold stA; rw [if_neg h]

/-- What was stored is loaded. -/
theorem ldA_stA {bs : List Int} {at_ wd v : Int} (h : nErr bs.length at_ wd = 0) : ldA (stA bs at_ wd v) at_ wd = v % 256 ^ wd.toNat := by
  have ⟨hw, h0, h1⟩ := nErr_zero h
  have hw' : 1 ≤ wd ∧ wd ≤ 8 := by unfold WOk at hw; omega
  unfold ldA
  rw [stA_length, if_pos h]
  unfold stA
  rw [if_pos h]
  exact ldv_stv _ _ _ _ (by omega)

/-- Bytes that aren't stored to are as they were. -/
theorem ldA_stA_other {bs : List Int} {at_ wd v to k : Int} (h : nErr bs.length at_ wd = 0) (hk : to + k ≤ at_ ∨ at_ + wd ≤ to) : ldA (stA bs at_ wd v) to k = ldA bs to k := by
  have ⟨hw, h0, h1⟩ := nErr_zero h
  unfold ldA
  rw [stA_length]
  split
  · rename_i hz
    have ⟨hw2, h2, h3⟩ := nErr_zero hz
    have hw' : 1 ≤ wd ∧ wd ≤ 8 := by unfold WOk at hw; omega
    have hk' : 1 ≤ k ∧ k ≤ 8 := by unfold WOk at hw2; omega
    unfold stA
    rw [if_pos h]
    apply ldv_stv_other
    omega
  · rfl
end Go.Proofs.Ythkppnkhiimaeaa
