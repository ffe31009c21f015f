import Derived.Test.YtbngmkopgoelbaaDoorSl7
import Derived.Test.YtbngmkopgoelbaaDoorFlY
import Derived.Shelf.Abstract
import Derived.Shelf.RegionOpen
import Derived.OwnWalkIn
import Derived.TacticsInMore
import Derived.LoopNIn
import Derived.LoopIn
/- The slab (layer 3): Free. -/
set_option linter.unusedVariables false
set_option linter.unusedSimpArgs false
namespace Go.Proofs.YtbngmkopgoelbaaDoor
open Go.RowKit Go.Shelf
attribute [local go_sem] Oper.semAt_some

theorem Free_no {w : World} (v : Value) (at_ : Int)
    (h : Calls Tryd.prog 12 #[v, .int .i64 at_] w fun e w' => e = .returned (.tuple #[.int .i64 0, .bool false]) ∧ Below w.heap.size w w') :
    Calls Tryd.prog 13 #[v, .int .i64 at_] w fun e w' => e = .returned (.int .i64 1) ∧ Below w.heap.size w w' := by
  have H := Lib.hid h
  clear h
  go_enter Tryd.func13, Tryd.ntmps13
  go_wp2_with fail
  refine H.out.mono ?_
  rintro e w1 ⟨rfl, hB⟩
  have HB := Lib.hid hB
  clear hB
  go_wp2
  go_ret
  exact ⟨rfl, HB.out⟩

/-- The region that stores the link: its frame, whatever of its reads were carried out. -/
def frF (s q : Nat) (a p c : Int) (v : Nat → Value) : Act := { tmps := #[Value.pointer (some ⟨s, 0, none⟩), Value.int IntKind.i64 a, undef, undef, Value.int IntKind.i64 0, Value.int IntKind.i64 c, Value.bool true, Value.int IntKind.i64 p, Value.pointer (some ⟨s, 2 + q * 4, none⟩), Value.tuple #[Value.int IntKind.i64 c, Value.bool true], Value.pointer (some ⟨s, 0, none⟩), Value.int IntKind.i64 a, Value.tuple #[Value.int IntKind.i64 c, Value.bool true], Value.int IntKind.i64 c, Value.bool true, Value.bool true, Value.bool false, Value.int IntKind.i64 a, Value.int IntKind.i64 p, Value.pointer (some ⟨s, 0, none⟩), Value.int IntKind.i64 p, Value.pointer (some ⟨s, 0, none⟩), Value.pointer (some ⟨s, 2, none⟩), Value.pointer (some ⟨s, 2 + q * 4, none⟩), v 0, v 1, v 2, v 3, v 4, v 5, v 6, v 7, v 8, v 9, undef, undef, undef, undef, undef, undef, undef, undef, undef, undef, undef, undef, undef, undef, undef, undef, undef, undef, undef, undef, undef, undef, undef, undef, undef, undef, undef, undef, undef, undef, undef, undef, undef, undef, undef, undef, undef, undef, undef, undef, undef, undef, undef, undef], defers := [] }
def frV (s pa q : Nat) (a g : Int) : Nat → Value
  | 0 | 1 | 2 => .pointer (some ⟨s, 0, none⟩)
  | 3 => .pointer (some ⟨pa, 0, none⟩)
  | 4 => .int .i64 a
  | 5 | 6 => .pointer (some ⟨s, 2 + q * 4, none⟩)
  | 7 => .pointer (some ⟨s, 2 + q * 4 + 3, none⟩)
  | 8 => .int .i64 g
  | _ => .int .u64 g
theorem ten {i : Nat} (h : i < 10) : i = 0 ∨ i = 1 ∨ i = 2 ∨ i = 3 ∨ i = 4 ∨ i = 5 ∨ i = 6 ∨ i = 7 ∨ i = 8 ∨ i = 9 := by omega
theorem frF_put {s q : Nat} {a p c : Int} {v : Nat → Value} {i : Nat} (hi : i < 10) (x : Value) : (frF s q a p c v).put (some (24 + i)) x = frF s q a p c (fun j => if j = i then x else v j) := by
  rcases ten hi with rfl | rfl | rfl | rfl | rfl | rfl | rfl | rfl | rfl | rfl <;> rfl
theorem frF_get {s q : Nat} {a p c : Int} {v : Nat → Value} {i : Nat} (hi : i < 10) : (frF s q a p c v).tmps.getD (24 + i) undef = v i := by
  rcases ten hi with rfl | rfl | rfl | rfl | rfl | rfl | rfl | rfl | rfl | rfl <;> rfl

section
variable {w : World} {s pa pd pp n : Nat} {bs : List Int} {f : Nat → Bool} {P : Nat → Pg} {u : Int}
theorem Sm.setPage (S : Sm w s pa pd pp n bs f P u) (p : Nat) (hp : p < 128) (x : Pg) :
    Sm ((((w.setCell ⟨s, 2 + p * 4, none⟩ (.int .i64 x.c)).setCell ⟨s, 2 + p * 4 + 1, none⟩ (.int .u32 x.t)).setCell ⟨s, 2 + p * 4 + 2, none⟩ (.int .i64 x.m)).setCell ⟨s, 2 + p * 4 + 3, none⟩ (.int .i64 x.f)) s pa pd pp n bs f (updP P p x) u := by
  have hne := S.ne
  have e : ∀ i, i ≠ s → ((((w.setCell ⟨s, 2 + p * 4, none⟩ (.int .i64 x.c)).setCell ⟨s, 2 + p * 4 + 1, none⟩ (.int .u32 x.t)).setCell ⟨s, 2 + p * 4 + 2, none⟩ (.int .i64 x.m)).setCell ⟨s, 2 + p * 4 + 3, none⟩ (.int .i64 x.f)).heap[i]? = w.heap[i]? := fun i hi =>
    (Below.heap_setCell _ _ _ i hi).trans ((Below.heap_setCell _ _ _ i hi).trans ((Below.heap_setCell _ _ _ i hi).trans (Below.heap_setCell _ _ _ i hi)))
  exact ⟨S.sb.setPage p hp x, ⟨(e pa (fun x => hne.1 x.symm)).trans S.ar.hdr, (e pd (fun x => hne.2.1 x.symm)).trans S.ar.row, S.ar.ne, S.ar.len, S.ar.rng⟩, ⟨(e pp (fun x => hne.2.2.1 x.symm)).trans S.po.blk, S.po.len, S.po.out⟩⟩

set_option maxRecDepth 100000 in
set_option maxHeartbeats 1000000 in
theorem Free_more (S : Sm w s pa pd pp n bs f P u) (a p c : Nat) (t k g : Int) (hp : p = a / 512) (hp1 : p < 128) (hP : P p = ⟨c, t, k, g⟩) (hC : isC c) (h0 : 512 ≤ a) (h1 : a < bs.length)
    (hB : Calls Tryd.prog 12 #[.pointer (some ⟨s, 0, none⟩), .int .i64 (a : Int)] w fun e w' => e = .returned (.tuple #[.int .i64 c, .bool true]) ∧ Below w.heap.size w w') 
    (hg0 : 0 ≤ g) (hg1 : g < 65536) (hk0 : 2 ≤ k) (hk : k ≤ 100) (hu0 : 0 ≤ u) (hu : u ≤ 1000000) :
    Calls Tryd.prog 13 #[.pointer (some ⟨s, 0, none⟩), .int .i64 (a : Int)] w fun e w' => e = .returned (.int .i64 0) ∧
      Sm w' s pa pd pp n (stA bs a 4 g) f (updP P p ⟨c, bits .andNot .u32 t ((2 ^ (a % 512 / c) : Nat) : Int), k - 1, a⟩) (u - c) ∧ Fr (S3 s pd pp) w w' := by
  have HS := Lib.hid S
  have H := Lib.hid hB
  have hl := S.ar.len
  have e3 : (a : Int) / 512 = (p : Int) := by omega
  have hpi : (p : Int) < 128 := by omega
  have HPP := Lib.hid hP
  have HCL := Lib.hid hC
  have hcp := hC.pos
  clear S hB hP hC hp
  go_enter Tryd.func13, Tryd.ntmps13
  go_wp2_with fail
  refine H.out.mono ?_
  rintro e w1 ⟨rfl, hB1⟩
  have S1 := HS.out.below hB1
  have hcells := S1.sb.pg p hp1
  rw [HPP.out] at hcells
  obtain ⟨c0, c1, c2, c3⟩ := hcells
  dsimp only at c0 c1 c2 c3
  have ca := S1.sb.c0
  have HB1 := Lib.hid hB1
  have HS1 := Lib.hid S1
  clear hB1 S1
  have en : IntKind.u64.wrap g = g := by rw [IntKind.wrap_u64]; omega
  go_wp2_with fail
  refine (wpIn_wide (n := 9)).1 ?_
  refine region_reads (by kernel_rfl) 10 rfl (fun i => 24 + i) (frV s pa p a g) (fun x => ∃ v, x = frF s p a p c v) ?hdst ?hput ?hstep ?hlast ?hgl ?hcl ?hb
  case hb => exact ⟨fun _ => undef, rfl⟩
  case hput =>
    rintro x i hi ⟨v, rfl⟩
    refine ⟨⟨_, frF_put hi _⟩, ?_, fun j hj hji => ?_⟩
    · rw [frF_put hi, frF_get hi, if_pos rfl]
    · rw [frF_put hi, frF_get hj, frF_get hj, if_neg hji]
  case hdst =>
    intro i o hi ho
    rcases ten hi with rfl | rfl | rfl | rfl | rfl | rfl | rfl | rfl | rfl | rfl <;> (obtain rfl := Option.some.inj ho; exact ⟨rfl, rfl, by simp⟩)
  case hgl =>
    intro o ho
    obtain rfl := Option.some.inj ho
    exact ⟨rfl, by simp⟩
  case hcl =>
    intro p h1 h2
    have h3 := h2 _ rfl
    simp [Region.binds] at h3
    obtain ⟨p3, p4, p9⟩ := h3
    have p2 := h1 3 _ rfl p3
    have p8 := h1 9 _ rfl p9
    simp [Region.binds] at p2 p8
    have p1 := h1 2 _ rfl p2
    have p7 := h1 8 _ rfl p8
    simp [Region.binds] at p1 p7
    have p0 := h1 1 _ rfl p1
    have p6 := h1 7 _ rfl p7
    simp [Region.binds] at p0 p6
    have p5 := h1 6 _ rfl p6
    simp [Region.binds] at p5
    intro j hj
    rcases ten hj with rfl | rfl | rfl | rfl | rfl | rfl | rfl | rfl | rfl | rfl <;> assumption
  case hstep =>
    rintro i o x K hi ho ⟨v, rfl⟩ hdep hk2
    rcases ten hi with rfl | rfl | rfl | rfl | rfl | rfl | rfl | rfl | rfl | rfl
    all_goals
      obtain rfl := Option.some.inj ho
      simp [Region.binds, frV, frF] at hdep
      simp only [frV, frF] at hk2 ⊢
      try simp only [hdep] at hk2
      go_simp
      exact hk2
  case hlast =>
    rintro o x K ho ⟨v, rfl⟩ hv hk2
    have y3 := (frF_get (i := 3) (by omega)).symm.trans (hv 3 (by omega))
    have y4 := (frF_get (i := 4) (by omega)).symm.trans (hv 4 (by omega))
    have y9 := (frF_get (i := 9) (by omega)).symm.trans (hv 9 (by omega))
    simp only [frV] at y3 y4 y9
    obtain rfl := Option.some.inj ho
    clear hv ho
    simp only [frF] at hk2 ⊢
    go_simp
    refine ⟨trivial, (callsIn_wide.2 (Store_any (a : Int) 4 g w1.drew ⟨HS1.out.ar.hdr, HS1.out.ar.row, HS1.out.ar.ne, HS1.out.ar.len, HS1.out.ar.rng⟩ hg0)).mono ?_⟩
    rintro e w2 ⟨rfl, hA2, hg2⟩
    have S2 : Sm w2 s pa pd pp n (stA bs (a : Int) 4 g) f P u := HS1.out.drew.onA hA2 hg2
    have hcells := S2.sb.pg p hp1
    rw [HPP.out] at hcells
    obtain ⟨c0, c1, c2, c3⟩ := hcells
    dsimp only at c0 c1 c2 c3
    have ca := S2.sb.c0
    have cu := S2.sb.cu
    have cpp := S2.sb.c1
    have fz := fun i => S2.sb.frozen i
    have HG2 := Lib.hid (And.intro S2 hg2)
    clear hA2 hg2 S2
    go_simp
    refine hk2 _ _ ?_
    obtain ⟨y, hy, hbit⟩ : ∃ y : Int, ((2 ^ (a % 512 / c) : Nat) : Int) = y ∧ ∀ W, Calls Tryd.prog 34 #[.int .i64 (a : Int), .int .i64 (c : Int)] W fun e w' => e = .returned (.int .u32 y) ∧ W = w' := ⟨_, rfl, fun W => bit_calls a c W HCL.out (by omega)⟩
    have HY := Lib.hid hy
    clear hy
    go_wp2_with fail
    go_region_with (refine (hbit _).mono ?_; rintro e w3 ⟨rfl, rfl⟩)
    all_goals
      have G := (((((HG2.out.1.setP p hp1 3 (by omega) (.int .i64 a) ⟨c, t, k, a⟩ (by rw [HPP.out]; rfl) (by rw [HPP.out]; rfl) (by rw [HPP.out]; rfl) rfl).setP p hp1 1 (by omega) (.int .u32 (bits BinOp.andNot IntKind.u32 t y)) ⟨c, bits BinOp.andNot IntKind.u32 t y, k, a⟩ (by rw [updP_same]; rfl) rfl (by rw [updP_same]; rfl) (by rw [updP_same]; rfl)).drew.setP p hp1 2 (by omega) (.int .i64 (k - 1)) ⟨c, bits BinOp.andNot IntKind.u32 t y, k - 1, a⟩ (by rw [updP_same]; rfl) (by rw [updP_same]; rfl) rfl (by rw [updP_same]; rfl)).setU (u - c)))
      rw [updP_upd, updP_upd] at G
      have HGG := Lib.hid G
      clear G
      go_wp2
      go_ret
      refine ⟨rfl, ?_, ?_⟩
      · rw [HY.out]; exact HGG.out
      · have S3s : S3 s pd pp s := .inl rfl
        exact (Fr.of_below HB1.out).trans (Fr.drew.trans ((Fr.of_grown HG2.out.2 (fun j e => by injection e with e; exact .inr (.inr (.inl e.symm)))).trans ((Fr.set _ s _ S3s).trans ((Fr.set _ s _ S3s).trans (Fr.drew.trans ((Fr.set _ s _ S3s).trans (Fr.set _ s _ S3s)))))))
end
end Go.Proofs.YtbngmkopgoelbaaDoor
