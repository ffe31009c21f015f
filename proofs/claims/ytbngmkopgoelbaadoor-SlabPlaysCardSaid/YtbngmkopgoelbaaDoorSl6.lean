import Derived.Test.YtbngmkopgoelbaaDoorSl5
/- The slab (layer 3): Alloc of a fresh page; and where there is none. -/
set_option linter.unusedVariables false
set_option linter.unusedSimpArgs false
namespace Go.Proofs.YtbngmkopgoelbaaDoor
open Go.RowKit

set_option maxRecDepth 100000 in
set_option maxHeartbeats 1000000 in
theorem Alloc_new {w : World} {s pa pd pp n : Nat} {bs : List Int} {f : Nat → Bool} {P : Nat → Pg} {u : Int} (S : Sm w s pa pd pp n bs f P u) (T : Tb w) (m p a c : Nat) (h1 : 1 ≤ m) (h2 : m ≤ 256) (hc : c = cls m) (hC : isC c)
    (hlen : bs.length = 512 * n) (hp0 : 1 ≤ p) (hp1 : p < n) (hf : f p = false) (hl : ∀ i, i < p → f i = true) (hn : ∀ j, j < 128 → ¬ HitP P c j) (haa : 512 * p = a) (hu0 : 0 ≤ u) (hu : u ≤ 1000000) :
    Calls Tryd.prog 11 #[.pointer (some ⟨s, 0, none⟩), .int .i64 (m : Int)] w fun e w' => e = .returned (.tuple #[.int .i64 (a : Int), .int .i64 0]) ∧
      ∃ bs', bs'.length = bs.length ∧ linked bs' (blks p c) ∧ (∀ j, j < 512 * p ∨ 512 * p + 512 ≤ j → gb bs' j = gb bs j) ∧
      Sm w' s pa pd pp n (fillA bs' a c 0) (fun i => f i || i == p) (updP P p ⟨c, bits .or .u32 0 ((2 ^ (a % 512 / c) : Nat) : Int), 0 + 1, ldA bs' a 4⟩) (u + c) ∧ Fr (S3 s pd pp) w w' := by
  have HS := Lib.hid S
  have HT := Lib.hid T
  have hcp := hC.pos
  have n128 := S.po.len
  have hpn : ((p : Int) == 0) = false := beq_eq_false_iff_ne.2 (by omega)
  have HHP := Lib.hid (And.intro hf (And.intro hl hn))
  have hpi : (p : Int) < 128 := by omega
  have hp128 : p < 128 := by omega
  have ha : a < 65536 := by omega
  have HAA := Lib.hid haa
  have HCC := Lib.hid hc
  have HCL := Lib.hid hC
  have HL := Lib.hid hlen
  clear S T hn hC hc haa hf hl hlen
  go_enter Tryd.func11, Tryd.ntmps11
  go_wp2_with fail
  refine (class_calls m _ h1 h2).mono ?_
  rintro e w1 ⟨rfl, rfl⟩
  rw [← HCC.out]
  go_wp2_with fail
  refine (find_none HS.out.sb c HHP.out.2.2).mono ?_
  rintro e w1 ⟨rfl, hB0⟩
  have S0 := Lib.hid (HS.out.below hB0)
  have T0 := Lib.hid (HT.out.below hB0 HT.out.lt)
  have HB0 := Lib.hid hB0
  clear hB0
  go_wp2_with fail
  refine (fresh_ok S0.out T0.out c p HCL.out HL.out hp1 HHP.out.1 HHP.out.2.1).mono ?_
  rintro e w1 ⟨rfl, bs', S1, hl1, hlk, hout, hfr⟩
  rw [show (512 * (p : Int)) = (a : Int) from by rw [← HAA.out]; omega] at S1
  have HLK := Lib.hid (And.intro hl1 (And.intro hlk (And.intro hout hfr)))
  clear hl1 hlk hout hfr
  have hcells := S1.sb.pg p hp128
  rw [updP_same] at hcells
  obtain ⟨c0, c1, c2, c3⟩ := hcells
  have ca := S1.sb.c0
  have hlr := ldA_range S1.ar.rng (a : Int)
  have HS1 := Lib.hid S1
  clear S1 c0 c1 c2
  dsimp only at c3
  go_wp2_with fail
  refine (Load_any (a : Int) 4 _ HS1.out.ar).mono ?_
  rintro e w2 ⟨rfl, hB2⟩
  generalize hnx : ldA bs' (a : Int) 4 = nx at *
  obtain ⟨nx0, nx1⟩ := hlr
  have S2 := HS1.out.below hB2
  have hcells := S2.sb.pg p hp128
  rw [updP_same] at hcells
  obtain ⟨c0, c1, c2, c3⟩ := hcells
  have ca := S2.sb.c0
  have cu := S2.sb.cu
  have fz := fun i => S2.sb.frozen i
  have HS2 := Lib.hid S2
  have HB2 := Lib.hid hB2
  clear S2 hB2
  dsimp only at c0 c1 c2 c3
  have en : IntKind.i64.wrap nx = nx := by rw [IntKind.wrap_i64]; omega
  go_wp2_with fail
  obtain ⟨y, hy, hbit⟩ : ∃ y : Int, ((2 ^ (a % 512 / c) : Nat) : Int) = y ∧ ∀ W, Calls Tryd.prog 34 #[.int .i64 (a : Int), .int .i64 (c : Int)] W fun e w' => e = .returned (.int .u32 y) ∧ W = w' := ⟨_, rfl, fun W => bit_calls a c W HCL.out ha⟩
  have HY := Lib.hid hy
  clear hy
  go_region_with (refine (hbit _).mono ?_; rintro e w3 ⟨rfl, rfl⟩)
  all_goals
    go_wp2_with fail
    have G := (((((HS2.out.setP p hp128 3 (by omega) (.int .i64 nx) ⟨c, 0, 0, nx⟩ (by rw [updP_same]; rfl) (by rw [updP_same]; rfl) (by rw [updP_same]; rfl) rfl).setP p hp128 1 (by omega) (.int .u32 (bits BinOp.or IntKind.u32 0 y)) ⟨c, bits BinOp.or IntKind.u32 0 y, 0, nx⟩ (by rw [updP_same]; rfl) rfl (by rw [updP_same]; rfl) (by rw [updP_same]; rfl)).drew.setP p hp128 2 (by omega) (.int .i64 (0 + 1)) ⟨c, bits BinOp.or IntKind.u32 0 y, 0 + 1, nx⟩ (by rw [updP_same]; rfl) (by rw [updP_same]; rfl) rfl (by rw [updP_same]; rfl)).setU (u + c)))
    rw [updP_upd, updP_upd, updP_upd] at G
    refine (Fill_any (a : Int) (c : Int) 0 _ G.ar (by omega) (by omega) (by omega)).mono ?_
    rintro e w5 ⟨rfl, hA5, hg5⟩
    have HF := Lib.hid (And.intro G (And.intro hA5 hg5))
    clear G hA5 hg5
    go_wp2
    go_ret2
    refine ⟨rfl, bs', HLK.out.1, HLK.out.2.1, HLK.out.2.2.1, ?_, ?_⟩
    · rw [HY.out, hnx]
      exact HF.out.1.onA HF.out.2.1 HF.out.2.2
    · have S3s : S3 s pd pp s := .inl rfl
      exact ((Fr.of_below HB0.out).trans HLK.out.2.2.2).trans ((Fr.of_below HB2.out).trans ((Fr.set _ s _ S3s).trans ((Fr.set _ s _ S3s).trans (Fr.drew.trans ((Fr.set _ s _ S3s).trans ((Fr.set _ s _ S3s).trans (Fr.of_grown HF.out.2.2 (fun j e => by injection e with e; exact .inr (.inr (.inl e.symm))))))))))

set_option maxRecDepth 100000 in
theorem Alloc_full {w : World} {s pa pd pp n : Nat} {bs : List Int} {f : Nat → Bool} {P : Nat → Pg} {u : Int} (S : Sm w s pa pd pp n bs f P u) (T : Tb w) (m c : Nat) (h1 : 1 ≤ m) (h2 : m ≤ 256) (hc : c = cls m)
    (hl : ∀ i, i < n → f i = true) (hn : ∀ j, j < 128 → ¬ HitP P c j) :
    Calls Tryd.prog 11 #[.pointer (some ⟨s, 0, none⟩), .int .i64 (m : Int)] w fun e w' => e = .returned (.tuple #[.int .i64 0, .int .i64 5]) ∧ Below w.heap.size w w' := by
  have HS := Lib.hid S
  have HT := Lib.hid T
  have HHP := Lib.hid (And.intro hl hn)
  have HCC := Lib.hid hc
  clear S T hn hc hl
  go_enter Tryd.func11, Tryd.ntmps11
  go_wp2_with fail
  refine (class_calls m _ h1 h2).mono ?_
  rintro e w1 ⟨rfl, rfl⟩
  rw [← HCC.out]
  go_wp2_with fail
  refine (find_none HS.out.sb c HHP.out.2).mono ?_
  rintro e w1 ⟨rfl, hB0⟩
  have S0 := Lib.hid (HS.out.below hB0)
  have T0 := Lib.hid (HT.out.below hB0 HT.out.lt)
  have HB0 := Lib.hid hB0
  clear hB0
  go_wp2_with fail
  refine (fresh_full S0.out T0.out c HHP.out.1).mono ?_
  rintro e w2 ⟨rfl, hB1⟩
  have HB1 := Lib.hid hB1
  clear hB1
  go_wp2
  go_ret2
  exact ⟨rfl, HB0.out.trans ⟨HB1.out.os, HB1.out.tape, HB1.out.output, HB1.out.size, fun i hi => HB1.out.block i (Nat.lt_of_lt_of_le hi HB0.out.size)⟩⟩
end Go.Proofs.YtbngmkopgoelbaaDoor
