import Derived.Test.YtbngmkopgoelbaaDoorSl4
/- The slab (layer 3): Alloc. -/
set_option linter.unusedVariables false
set_option linter.unusedSimpArgs false
namespace Go.Proofs.YtbngmkopgoelbaaDoor
open Go.RowKit

theorem Sm.below {w w1 : World} {s pa pd pp n : Nat} {bs : List Int} {f : Nat → Bool} {P : Nat → Pg} {u : Int} (S : Sm w s pa pd pp n bs f P u) (h : Below w.heap.size w w1) : Sm w1 s pa pd pp n bs f P u := ⟨S.sb.below h, S.ar.below h, S.po.below h⟩

theorem ldA_range {bs : List Int} (hr : ∀ x ∈ bs, 0 ≤ x ∧ x ≤ 255) (a : Int) : 0 ≤ ldA bs a 4 ∧ ldA bs a 4 < 4294967296 := by
  unfold ldA
  split
  · have := ldv_range bs hr a.toNat (4 : Int).toNat
    have e : (256 : Int) ^ (4 : Int).toNat = 4294967296 := by decide
    rw [e] at this; exact this
  · omega

section
variable {w : World} {s pa pd pp n : Nat} {bs : List Int} {f : Nat → Bool} {P : Nat → Pg} {u : Int}
theorem Sm.onS (S : Sm w s pa pd pp n bs f P u) {P' : Nat → Pg} {u' : Int} (o : Nat) (v : Value) (h : Sb (w.setCell ⟨s, o, none⟩ v) s pa pp P' u') : Sm (w.setCell ⟨s, o, none⟩ v) s pa pd pp n bs f P' u' := by
  have hne := S.ne
  have e : ∀ i, i ≠ s → (w.setCell ⟨s, o, none⟩ v).heap[i]? = w.heap[i]? := fun i hi => Below.heap_setCell _ _ _ i hi
  exact ⟨h, ⟨(e pa (fun x => hne.1 x.symm)).trans S.ar.hdr, (e pd (fun x => hne.2.1 x.symm)).trans S.ar.row, S.ar.ne, S.ar.len, S.ar.rng⟩, ⟨(e pp (fun x => hne.2.2.1 x.symm)).trans S.po.blk, S.po.len, S.po.out⟩⟩
theorem Sm.setP (S : Sm w s pa pd pp n bs f P u) (p : Nat) (hp' : p < 128) (k : Nat) (hk : k < 4) (v : Value) (x : Pg)
    (e0 : if k = 0 then v = .int .i64 x.c else x.c = (P p).c) (e1 : if k = 1 then v = .int .u32 x.t else x.t = (P p).t) (e2 : if k = 2 then v = .int .i64 x.m else x.m = (P p).m) (e3 : if k = 3 then v = .int .i64 x.f else x.f = (P p).f) :
    Sm (w.setCell ⟨s, 2 + p * 4 + k, none⟩ v) s pa pd pp n bs f (updP P p x) u := S.onS _ _ (S.sb.setP p hp' k hk v x e0 e1 e2 e3)
theorem Sm.setU (S : Sm w s pa pd pp n bs f P u) (v : Int) : Sm (w.setCell ⟨s, 514, none⟩ (.int .i64 v)) s pa pd pp n bs f P v := S.onS _ _ (S.sb.setU v)
theorem Sm.drew (S : Sm w s pa pd pp n bs f P u) : Sm w.drew s pa pd pp n bs f P u := S.below ⟨rfl, rfl, rfl, Nat.le_refl _, fun _ _ => rfl⟩
/-- The arena turned alone. -/
theorem Sm.onA {w1 : World} {bs' : List Int} (S : Sm w s pa pd pp n bs f P u) (hA : Ar w1 pa pd bs') (hg : w.grownBy w1 (some pd)) : Sm w1 s pa pd pp n bs' f P u := by
  have hne := S.ne
  exact ⟨S.sb.other hg (fun e => hne.2.1 (by injection e with e; exact e.symm)), hA, ⟨(hg.block pp S.po.lt (fun e => hne.2.2.2.2.1 (by injection e with e; exact e.symm))).trans S.po.blk, S.po.len, S.po.out⟩⟩
/-- The pool turned alone. -/
theorem Sm.onP {w1 : World} {f' : Nat → Bool} (S : Sm w s pa pd pp n bs f P u) (hP : Po w1 pp n f') (hg : w.grownBy w1 (some pp)) : Sm w1 s pa pd pp n bs f' P u := by
  have hne := S.ne
  exact ⟨S.sb.other hg (fun e => hne.2.2.1 (by injection e with e; exact e.symm)), ⟨(hg.block pa S.ar.lt.1 (fun e => hne.2.2.2.1 (by injection e))).trans S.ar.hdr, (hg.block pd S.ar.lt.2 (fun e => hne.2.2.2.2.1 (by injection e))).trans S.ar.row, S.ar.ne, S.ar.len, S.ar.rng⟩, hP⟩
end

theorem Alloc_bad (v : Value) (m : Int) (w : World) (h : m < 1 ∨ 256 < m) :
    Calls Tryd.prog 11 #[v, .int .i64 m] w fun e w' => e = .returned (.tuple #[.int .i64 0, .int .i64 1]) ∧ w = w' := by
  by_cases h1 : m < 1
  · clear h
    go_enter Tryd.func11, Tryd.ntmps11
    go_wp2
    go_ret2
    exact ⟨rfl, rfl⟩
  · have h2 : 256 < m := by omega
    clear h
    go_enter Tryd.func11, Tryd.ntmps11
    go_wp2
    go_ret2
    exact ⟨rfl, rfl⟩
theorem Alloc_nil (m : Int) (w : World) (h : 1 ≤ m ∧ m ≤ 256) :
    Calls Tryd.prog 11 #[.pointer none, .int .i64 m] w fun e w' => e = .returned (.tuple #[.int .i64 0, .int .i64 5]) ∧ w = w' := by
  obtain ⟨h1, h2⟩ := h
  go_enter Tryd.func11, Tryd.ntmps11
  go_wp2
  go_ret2
  exact ⟨rfl, rfl⟩

set_option maxRecDepth 100000 in
set_option maxHeartbeats 400000 in
theorem Alloc_hit {w : World} {s pa pd pp n : Nat} {bs : List Int} {f : Nat → Bool} {P : Nat → Pg} {u : Int} (S : Sm w s pa pd pp n bs f P u) (m p a c : Nat) (t k : Int) (h1 : 1 ≤ m) (h2 : m ≤ 256) (hc : c = cls m) (hC : isC c)
    (hp0 : 1 ≤ p) (hp1 : p < 128) (hP : P p = ⟨c, t, k, a⟩) (ha0 : 1 ≤ a) (ha : a < 65536) (hn : ∀ j, j < p → ¬ HitP P c j) (ht : 0 ≤ t) (hk0 : 0 ≤ k) (hk : k ≤ 100) (hu0 : 0 ≤ u) (hu : u ≤ 1000000) :
    Calls Tryd.prog 11 #[.pointer (some ⟨s, 0, none⟩), .int .i64 (m : Int)] w fun e w' => e = .returned (.tuple #[.int .i64 (a : Int), .int .i64 0]) ∧
      Sm w' s pa pd pp n (fillA bs a c 0) f (updP P p ⟨c, bits .or .u32 t ((2 ^ (a % 512 / c) : Nat) : Int), k + 1, ldA bs a 4⟩) (u + c) ∧ Fr (S3 s pd pp) w w' := by
  have HS := Lib.hid S
  have hcp := hC.pos
  have hpn : ((p : Int) == 0) = false := beq_eq_false_iff_ne.2 (by omega)
  have HP : HitP P c p := by unfold HitP; rw [hP]; exact ⟨rfl, by show (a : Int) ≠ 0; omega⟩
  have HHP := Lib.hid (And.intro HP hn)
  have hpi : (p : Int) < 128 := by omega
  have HPP := Lib.hid hP
  have HCC := Lib.hid hc
  have HCL := Lib.hid hC
  clear S HP hn hP hC hc
  go_enter Tryd.func11, Tryd.ntmps11
  go_wp2_with fail
  refine (class_calls m _ h1 h2).mono ?_
  rintro e w1 ⟨rfl, rfl⟩
  rw [← HCC.out]
  go_wp2_with fail
  refine (find_hit HS.out.sb c p hp1 HHP.out.1 HHP.out.2).mono ?_
  rintro e w1 ⟨rfl, hB1⟩
  have S1 := HS.out.below hB1
  have hcells := S1.sb.pg p hp1
  rw [HPP.out] at hcells
  obtain ⟨c0, c1, c2, c3⟩ := hcells
  have ca := S1.sb.c0
  have hlr := ldA_range S1.ar.rng (a : Int)
  have HS1 := Lib.hid S1
  have HB1 := Lib.hid hB1
  clear S1 hB1 c0 c1 c2
  dsimp only at c3
  go_wp2_with fail
  refine (Load_any (a : Int) 4 _ HS1.out.ar).mono ?_
  rintro e w2 ⟨rfl, hB2⟩
  generalize hnx : ldA bs (a : Int) 4 = nx at *
  obtain ⟨nx0, nx1⟩ := hlr
  have S2 := HS1.out.below hB2
  have hcells := S2.sb.pg p hp1
  rw [HPP.out] at hcells
  obtain ⟨c0, c1, c2, c3⟩ := hcells
  have ca := S2.sb.c0
  have cu := S2.sb.cu
  have fz := fun i => S2.sb.frozen i
  have HS2 := Lib.hid S2
  have HB2 := Lib.hid hB2
  clear S2 hB2
  dsimp only at c0 c1 c2 c3
  have en : IntKind.i64.wrap nx = nx := by rw [IntKind.wrap_i64]; omega
  go_wp2_with fail
  obtain ⟨y, hy, hbit⟩ : ∃ y : Int, ((2 ^ (a % 512 / c) : Nat) : Int) = y ∧ ∀ W, Calls Tryd.prog 34 #[.int .i64 (a : Int), .int .i64 (c : Int)] W fun e w' => e = .returned (.int .u32 y) ∧ W = w' := ⟨_, rfl, fun W => bit_calls a c W HCL.out ha⟩
  have HY := Lib.hid hy
  clear hy
  go_region_with (refine (hbit _).mono ?_; rintro e w3 ⟨rfl, rfl⟩)
  all_goals
    go_wp2_with fail
    have G := (((((HS2.out.setP p hp1 3 (by omega) (.int .i64 nx) ⟨c, t, k, nx⟩ (by rw [HPP.out]; rfl) (by rw [HPP.out]; rfl) (by rw [HPP.out]; rfl) rfl).setP p hp1 1 (by omega) (.int .u32 (bits BinOp.or IntKind.u32 t y)) ⟨c, bits BinOp.or IntKind.u32 t y, k, nx⟩ (by rw [updP_same]; rfl) rfl (by rw [updP_same]; rfl) (by rw [updP_same]; rfl)).drew.setP p hp1 2 (by omega) (.int .i64 (k + 1)) ⟨c, bits BinOp.or IntKind.u32 t y, k + 1, nx⟩ (by rw [updP_same]; rfl) (by rw [updP_same]; rfl) rfl (by rw [updP_same]; rfl)).setU (u + c)))
    rw [updP_upd, updP_upd] at G
    refine (Fill_any (a : Int) (c : Int) 0 _ G.ar (by omega) (by omega) (by omega)).mono ?_
    rintro e w5 ⟨rfl, hA5, hg5⟩
    have HF := Lib.hid (And.intro G (And.intro hA5 hg5))
    clear G hA5 hg5
    go_wp2
    go_ret2
    refine ⟨rfl, ?_, ?_⟩
    · rw [HY.out, hnx]
      exact HF.out.1.onA HF.out.2.1 HF.out.2.2
    · have S3s : S3 s pd pp s := .inl rfl
      exact (Fr.of_below HB1.out).trans ((Fr.of_below HB2.out).trans ((Fr.set _ s _ S3s).trans ((Fr.set _ s _ S3s).trans (Fr.drew.trans ((Fr.set _ s _ S3s).trans ((Fr.set _ s _ S3s).trans (Fr.of_grown HF.out.2.2 (fun j e => by injection e with e; exact .inr (.inr (.inl e.symm))))))))))
end Go.Proofs.YtbngmkopgoelbaaDoor
