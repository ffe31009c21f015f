import Derived.Test.YtbngmkopgoelbaaDoorSl8
import Derived.Shelf.Abstract
import Derived.Shelf.RegionOpen
import Derived.OwnWalkIn
import Derived.TacticsInMore
import Derived.LoopNIn
import Derived.LoopIn
/- The slab (layer 3): Free of a page's last block. -/
set_option linter.unusedVariables false
set_option linter.unusedSimpArgs false
namespace Go.Proofs.YtbngmkopgoelbaaDoor
open Go.RowKit Go.Shelf
attribute [local go_sem] Oper.semAt_some

section
variable {w : World} {s pa pd pp n : Nat} {bs : List Int} {f : Nat → Bool} {P : Nat → Pg} {u : Int}
set_option maxRecDepth 100000 in
set_option maxHeartbeats 1000000 in
theorem Free_last (S : Sm w s pa pd pp n bs f P u) (a p c : Nat) (t g : Int) (hp : p = a / 512) (hp1 : p < 128) (hP : P p = ⟨c, t, 1, g⟩) (hC : isC c) (h0 : 512 ≤ a) (h1 : a < bs.length)
    (hB : Calls Tryd.prog 12 #[.pointer (some ⟨s, 0, none⟩), .int .i64 (a : Int)] w fun e w' => e = .returned (.tuple #[.int .i64 c, .bool true]) ∧ Below w.heap.size w w') 
    (hg0 : 0 ≤ g) (hg1 : g < 65536) (hpn : p < n) (hfp : f p = true) (hu0 : 0 ≤ u) (hu : u ≤ 1000000) :
    Calls Tryd.prog 13 #[.pointer (some ⟨s, 0, none⟩), .int .i64 (a : Int)] w fun e w' => e = .returned (.int .i64 0) ∧
      Sm w' s pa pd pp n (stA bs a 4 g) (fun i => f i && !(i == p)) (updP P p ⟨0, 0, 0, 0⟩) (u - c) ∧ Fr (S3 s pd pp) w w' := by
  have HS := Lib.hid S
  have H := Lib.hid hB
  have hl := S.ar.len
  have e3 : (a : Int) / 512 = (p : Int) := by omega
  have hpi : (p : Int) < 128 := by omega
  have HPP := Lib.hid hP
  have HCL := Lib.hid hC
  have hcp := hC.pos
  have HFP := Lib.hid (And.intro hpn hfp)
  clear S hB hP hC hp hpn hfp
  go_enter Tryd.func13, Tryd.ntmps13
  go_wp2_with fail
  refine H.out.mono ?_
  rintro e w1 ⟨rfl, hB1⟩
  have S1 := HS.out.below hB1
  have hcells := S1.sb.pg p hp1
  rw [HPP.out] at hcells
  obtain ⟨c0, c1, c2, c3⟩ := hcells
  dsimp only at c0 c1 c2 c3
  have ca := S1.sb.c0
  have HB1 := Lib.hid hB1
  have HS1 := Lib.hid S1
  clear hB1 S1
  have en : IntKind.u64.wrap g = g := by rw [IntKind.wrap_u64]; omega
  go_wp2_with fail
  refine (wpIn_wide (n := 9)).1 ?_
  refine region_reads (by kernel_rfl) 10 rfl (fun i => 24 + i) (frV s pa p a g) (fun x => ∃ v, x = frF s p a p c v) ?hdst ?hput ?hstep ?hlast ?hgl ?hcl ?hb
  case hb => exact ⟨fun _ => undef, rfl⟩
  case hput =>
    rintro x i hi ⟨v, rfl⟩
    refine ⟨⟨_, frF_put hi _⟩, ?_, fun j hj hji => ?_⟩
    · rw [frF_put hi, frF_get hi, if_pos rfl]
    · rw [frF_put hi, frF_get hj, frF_get hj, if_neg hji]
  case hdst =>
    intro i o hi ho
    rcases ten hi with rfl | rfl | rfl | rfl | rfl | rfl | rfl | rfl | rfl | rfl <;> (obtain rfl := Option.some.inj ho; exact ⟨rfl, rfl, by simp⟩)
  case hgl =>
    intro o ho
    obtain rfl := Option.some.inj ho
    exact ⟨rfl, by simp⟩
  case hcl =>
    intro p h1 h2
    have h3 := h2 _ rfl
    simp [Region.binds] at h3
    obtain ⟨p3, p4, p9⟩ := h3
    have p2 := h1 3 _ rfl p3
    have p8 := h1 9 _ rfl p9
    simp [Region.binds] at p2 p8
    have p1 := h1 2 _ rfl p2
    have p7 := h1 8 _ rfl p8
    simp [Region.binds] at p1 p7
    have p0 := h1 1 _ rfl p1
    have p6 := h1 7 _ rfl p7
    simp [Region.binds] at p0 p6
    have p5 := h1 6 _ rfl p6
    simp [Region.binds] at p5
    intro j hj
    rcases ten hj with rfl | rfl | rfl | rfl | rfl | rfl | rfl | rfl | rfl | rfl <;> assumption
  case hstep =>
    rintro i o x K hi ho ⟨v, rfl⟩ hdep hk2
    rcases ten hi with rfl | rfl | rfl | rfl | rfl | rfl | rfl | rfl | rfl | rfl
    all_goals
      obtain rfl := Option.some.inj ho
      simp [Region.binds, frV, frF] at hdep
      simp only [frV, frF] at hk2 ⊢
      try simp only [hdep] at hk2
      go_simp
      exact hk2
  case hlast =>
    rintro o x K ho ⟨v, rfl⟩ hv hk2
    have y3 := (frF_get (i := 3) (by omega)).symm.trans (hv 3 (by omega))
    have y4 := (frF_get (i := 4) (by omega)).symm.trans (hv 4 (by omega))
    have y9 := (frF_get (i := 9) (by omega)).symm.trans (hv 9 (by omega))
    simp only [frV] at y3 y4 y9
    obtain rfl := Option.some.inj ho
    clear hv ho
    simp only [frF] at hk2 ⊢
    go_simp
    refine ⟨trivial, (callsIn_wide.2 (Store_any (a : Int) 4 g w1.drew ⟨HS1.out.ar.hdr, HS1.out.ar.row, HS1.out.ar.ne, HS1.out.ar.len, HS1.out.ar.rng⟩ hg0)).mono ?_⟩
    rintro e w2 ⟨rfl, hA2, hg2⟩
    have S2 : Sm w2 s pa pd pp n (stA bs (a : Int) 4 g) f P u := HS1.out.drew.onA hA2 hg2
    have hcells := S2.sb.pg p hp1
    rw [HPP.out] at hcells
    obtain ⟨c0, c1, c2, c3⟩ := hcells
    dsimp only at c0 c1 c2 c3
    have ca := S2.sb.c0
    have cu := S2.sb.cu
    have cpp := S2.sb.c1
    have fz := fun i => S2.sb.frozen i
    have HG2 := Lib.hid (And.intro S2 hg2)
    clear hA2 hg2 S2
    go_simp
    refine hk2 _ _ ?_
    obtain ⟨y, hy, hbit⟩ : ∃ y : Int, ((2 ^ (a % 512 / c) : Nat) : Int) = y ∧ ∀ W, Calls Tryd.prog 34 #[.int .i64 (a : Int), .int .i64 (c : Int)] W fun e w' => e = .returned (.int .u32 y) ∧ W = w' := ⟨_, rfl, fun W => bit_calls a c W HCL.out (by omega)⟩
    have HY := Lib.hid hy
    clear hy
    go_wp2_with fail
    go_region_with (refine (hbit _).mono ?_; rintro e w3 ⟨rfl, rfl⟩)
    all_goals
      have G := (((((HG2.out.1.setP p hp1 3 (by omega) (.int .i64 a) ⟨c, t, 1, a⟩ (by rw [HPP.out]; rfl) (by rw [HPP.out]; rfl) (by rw [HPP.out]; rfl) rfl).setP p hp1 1 (by omega) (.int .u32 (bits BinOp.andNot IntKind.u32 t y)) ⟨c, bits BinOp.andNot IntKind.u32 t y, 1, a⟩ (by rw [updP_same]; rfl) rfl (by rw [updP_same]; rfl) (by rw [updP_same]; rfl)).setP p hp1 2 (by omega) (.int .i64 0) ⟨c, bits BinOp.andNot IntKind.u32 t y, 0, a⟩ (by rw [updP_same]; rfl) (by rw [updP_same]; rfl) rfl (by rw [updP_same]; rfl)).setU (u - c)))
      have G := (G.setPage p hp1 ⟨0, 0, 0, 0⟩).drew
      rw [updP_upd, updP_upd, updP_upd] at G
      have HGG := Lib.hid G
      clear G
      go_wp2_with fail
      refine (Give_ok HGG.out.po p HFP.out.1 HFP.out.2).mono ?_
      rintro e w5 ⟨rfl, hP5, hg5⟩
      have HF := Lib.hid (And.intro hP5 hg5)
      clear hP5 hg5
      go_wp2
      go_ret
      refine ⟨rfl, HGG.out.onP HF.out.1 HF.out.2, ?_⟩
      have S3s : S3 s pd pp s := .inl rfl
      exact (Fr.of_below HB1.out).trans (Fr.drew.trans ((Fr.of_grown HG2.out.2 (fun j e => by injection e with e; exact .inr (.inr (.inl e.symm)))).trans ((Fr.set _ s _ S3s).trans ((Fr.set _ s _ S3s).trans ((Fr.set _ s _ S3s).trans ((Fr.set _ s _ S3s).trans ((Fr.set _ s _ S3s).trans ((Fr.set _ s _ S3s).trans ((Fr.set _ s _ S3s).trans ((Fr.set _ s _ S3s).trans (Fr.drew.trans (Fr.of_grown HF.out.2 (fun j e => by injection e with e; exact .inr (.inr (.inr e.symm)))))))))))))))
end
end Go.Proofs.YtbngmkopgoelbaaDoor
