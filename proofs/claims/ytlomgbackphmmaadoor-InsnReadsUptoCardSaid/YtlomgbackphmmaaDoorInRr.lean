/- The reference's Read: the walk. -/
import Derived.Test.YtlomgbackphmmaaDoorInRr1
import Derived.Test.YtlomgbackphmmaaDoorInRf3
import Derived.Test.YtlomgbackphmmaaDoorInPa0
import Derived.Deep.LoopGhost
set_option linter.unusedVariables false
set_option linter.unusedSimpArgs false
namespace Go.Proofs.YtlomgbackphmmaaDoor.RefC
open Go.RowKit Go.Lib Go.Proofs.YtlomgbackphmmaaDoorW.PrintWords Go.Proofs.YtlomgbackphmmaaDoor.PInsnReads
open Go.Proofs.YtlomgbackphmmaaDoor (Ins z0 chk isOp bnd hasW over dig dig_size data_inj txt parts wl wrd chk_op tx Bx Pz)

/-- An instruction stored over another. -/
def put5 (W : World) (g : Nat) (y : Ins) : World := ((((W.setCell ⟨g, 0, none⟩ (.int .u8 y.op)).setCell ⟨g, 1, none⟩ (.int .u8 y.a)).setCell ⟨g, 2, none⟩ (.int .u8 y.b)).setCell ⟨g, 3, none⟩ (.int .u8 y.c)).setCell ⟨g, 4, none⟩ (.int .u32 y.imm)
theorem below_setCell (W : World) (g o : Nat) (v : Value) (B : Nat) (hB : B ≤ g) : Below B W (W.setCell ⟨g, o, none⟩ v) :=
  ⟨rfl, rfl, rfl, by rw [World.size_setCell]; exact Nat.le_refl _, fun i hi => Below.heap_setCell W ⟨g, o, none⟩ v i (by show i ≠ g; omega)⟩
theorem put5_bx {W : World} {g : Nat} {x : Ins} (h : Bx W g x) (y : Ins) : Bx (put5 W g y) g y := by
  have h0 := heap_setCell_same W g 0 _ _ (.int .u8 y.op) h
  have h1 := heap_setCell_same _ g 1 _ _ (.int .u8 y.a) h0
  have h2 := heap_setCell_same _ g 2 _ _ (.int .u8 y.b) h1
  have h3 := heap_setCell_same _ g 3 _ _ (.int .u8 y.c) h2
  have h4 := heap_setCell_same _ g 4 _ _ (.int .u32 y.imm) h3
  exact h4
theorem put5_below (W : World) (g : Nat) (y : Ins) (B : Nat) (hB : B ≤ g) : Below B W (put5 W g y) := by
  unfold put5
  exact ((((below_setCell _ g 0 _ B hB).trans (below_setCell _ g 1 _ B hB)).trans (below_setCell _ g 2 _ B hB)).trans (below_setCell _ g 3 _ B hB)).trans (below_setCell _ g 4 _ B hB)

/-- What the reference's Read says. -/
def RdR (s : ByteArray) (i : Ins) (r : Int) : Prop := (r = 0 ∧ i.Ok ∧ hit s i) ∨ (r = 3 ∧ i = z0 ∧ ∀ x : Ins, x.Ok → ¬ hit s x)
/-- No hit ahead of an operation; ahead of a word. -/
def cdx (s : ByteArray) (op : Int) (k : Nat) : Ins := cd (cutL s) (Pop op) ⟨op, 0, 0, (k : Int), 0⟩ (mop op)
def NH (s : ByteArray) (op : Int) : Prop := ∀ (o : Int) (k : Nat), 1 ≤ o → o < op → k ≤ (Wop o).length → isL (cutL s) o → ¬ hit s (cdx s o k)
def NC (s : ByteArray) (op : Int) (c : Nat) : Prop := ∀ k, k < c → ¬ hit s (cdx s op k)
theorem spl_len : ∀ (l cur : List UInt8), ∀ y ∈ spl cur l, y.length ≤ cur.length + l.length
  | [], cur, y, hy => by
    have : y ∈ [cur] := hy
    rw [List.mem_singleton.1 this]; omega
  | c :: r, cur, y, hy => by
    unfold spl at hy
    split at hy
    · rcases List.mem_cons.1 hy with rfl | hy
      · omega
      · have := spl_len r [] y hy
        simp at this ⊢; omega
    · have := spl_len r _ y hy
      simp at this ⊢; omega
theorem cutL_size (s : ByteArray) (hs : (s.size : Int) ≤ 4294967281) : ∀ b ∈ cutL s, (b.size : Int) ≤ 4294967281 := by
  intro b hb
  unfold cutL at hb
  obtain ⟨y, hy, rfl⟩ := List.mem_map.1 hb
  have := spl_len _ _ y hy
  have e : (toBA y).size = y.length := rfl
  have e2 := size_list s
  simp at this
  rw [e]
  have e3 : s.data.size = s.size := rfl
  omega
theorem getD_size (L : List ByteArray) (hL : ∀ b ∈ L, (b.size : Int) ≤ 4294967281) (i : Nat) : ((L.getD i ⟨#[]⟩).size : Int) ≤ 4294967281 := by
  rw [List.getD_eq_getElem?_getD]
  cases h : L[i]? with
  | none => show ((⟨#[]⟩ : ByteArray).size : Int) ≤ _; decide
  | some b => exact hL b (List.mem_of_getElem? h)
theorem Pz.then_ {wr W W' : World} {x : Ins} (h : Pz wr x W) (hb : Below W.heap.size W W') : Pz wr x W' := ⟨h.bx.below hb, h.below.trans (hb.mono h.below.size)⟩
theorem fzs {W : World} {g : Nat} {x : Ins} (h : Bx W g x) : W.frozen? ⟨g, 0, none⟩ = false ∧ W.frozen? ⟨g, 1, none⟩ = false ∧ W.frozen? ⟨g, 2, none⟩ = false ∧ W.frozen? ⟨g, 3, none⟩ = false ∧ W.frozen? ⟨g, 4, none⟩ = false := ⟨Lib.frozen_of_heap h 0, Lib.frozen_of_heap h 1, Lib.frozen_of_heap h 2, Lib.frozen_of_heap h 3, Lib.frozen_of_heap h 4⟩
theorem Bx.all {W : World} {g : Nat} {x : Ins} (h : Bx W g x) : W.cell? ⟨g, 0, none⟩ = some (.int .u8 x.op) ∧ W.cell? ⟨g, 1, none⟩ = some (.int .u8 x.a) ∧ W.cell? ⟨g, 2, none⟩ = some (.int .u8 x.b) ∧ W.cell? ⟨g, 3, none⟩ = some (.int .u8 x.c) ∧ W.cell? ⟨g, 4, none⟩ = some (.int .u32 x.imm) := ⟨h.k0, h.k1, h.k2, h.k3, h.k4⟩
theorem Pz.put5 {wr W : World} {x : Ins} (h : Pz wr x W) (y : Ins) : Pz wr y (put5 W wr.heap.size y) := ⟨put5_bx h.bx y, h.below.trans (put5_below W wr.heap.size y _ (Nat.le_refl _))⟩
/-- The world, while it is looked for. -/
structure Wi (w : World) (A : Option Addr) (L : List ByteArray) (W : World) : Prop where
  box : Bx W w.heap.size z0
  row : Kd.string.C W A L.length L
  below : Below w.heap.size w W
theorem Wi.then_ {w W W' : World} {A : Option Addr} {L : List ByteArray} (h : Wi w A L W) (hb : Below W.heap.size W W') : Wi w A L W' := ⟨h.box.below hb, Kd.C_below h.row hb, h.below.trans (hb.mono h.below.size)⟩

set_option maxRecDepth 100000 in
set_option maxHeartbeats 4000000 in
theorem RRead (s : ByteArray) (hs : (s.size : Int) ≤ 4294967281) (w : World) : Calls Tryd.prog 16 #[.string s] w fun e w' => ∃ i r, e = .returned (.tuple #[.agg i.cells, .int .i64 r]) ∧ RdR s i r ∧ Below w.heap.size w w' := by
  have HCU := Lib.hid (fun w => turnbuckleref06_cut.calls (s.size + 2) s (cutL s) w (cut_some s hs))
  have hls := cutL_size s hs
  generalize hL : cutL s = L at *
  have HLS := Lib.hid hls
  clear hls
  go_enter Tryd.func16, Tryd.ntmps16
  go_wp2_with fail
  refine (HCU.out _).mono ?_
  rintro e w1 ⟨v1, rfl, hR1, hB1⟩
  obtain ⟨A1, c1, rfl⟩ := Kd.R_slice hR1
  have HW1 : Hid (Wi w A1 L w1) := Lib.hid ⟨(Bx.new w z0).below hB1, (Kd.R_reads' hR1).2.2, ((Below.refl _ w).alloc (Nat.le_refl _) _).trans (hB1.mono (by simp))⟩
  clear hR1 hB1 HCU
  go_wp2_with fail
  go_loopw [5] (fun ov wr => ∃ op : Int, 1 ≤ op ∧ op ≤ 16 ∧ ov = .int .i64 op ∧ Hid (NH s op) ∧ Hid (Wi w A1 L wr)) (fun ov _ => 17 - (RowKit.intOf ov).toNat)
  case atStart => exact ⟨1, by omega, by omega, rfl, Lib.hid (fun o k h1 h2 => by omega), HW1⟩
  case round =>
    clear HW1
    obtain ⟨op, ho1, ho2, rfl, HN, HW⟩ := hrel
    by_cases hgo : op ≤ 15
    · have OT := op_ok op ho1 hgo
      have HPT := Lib.hid (fun w => turnbuckleref06_Parts.calls op (Fop op) (Pop op) w OT.f)
      have HWO := Lib.hid (fun w => turnbuckleref06_Words.calls 10 op (Wop op) w OT.w)
      have hP := OT.sz
      have hm4 := OT.m4
      have hwl := OT.wl
      clear OT
      generalize Fop op = F at *
      have HRS : Hid (∀ (x : Ins) (j : Nat), cd L (Pop op) x (j + 1) = if (cdv L (Pop op) j).2 = true ∧ bt (Pop op) (2 * (j : Int) + 1) ≠ 119 then wth (cd L (Pop op) x j) (bt (Pop op) (2 * (j : Int))) (cdv L (Pop op) j).1 else cd L (Pop op) x j) := Lib.hid (fun x j => rfl)
      have HR0 : Hid (∀ x : Ins, cd L (Pop op) x 0 = x) := Lib.hid (fun x => rfl)
      have HCX : Hid (∀ k : Nat, cdx s op k = cd L (Pop op) ⟨op, 0, 0, (k : Int), 0⟩ (mop op)) := Lib.hid (fun k => by unfold cdx; rw [hL])
      have HCV : Hid (∀ j : Nat, cdv L (Pop op) j = Dg (L.getD (1 + j) ⟨#[]⟩) (if bt (Pop op) (2 * (j : Int) + 1) = 110 then 0 else 1)) := Lib.hid (fun j => rfl)
      have HNN : Hid (isL L op ↔ L.length = 1 + mop op) := Lib.hid Iff.rfl
      have HWL : Hid (∀ k : Nat, k ≤ (Wop op).length ↔ k < (Wop op).length + 1) := Lib.hid (fun k => by omega)
      have HNS : Hid (NC s op ((Wop op).length + 1) ∨ ¬ isL L op → NH s (op + 1)) := Lib.hid (fun hh o k h1 h2 h3 h4 => by
        by_cases e : o < op
        · exact HN.out o k h1 e h3 h4
        · obtain rfl : o = op := by omega
          rcases hh with hh | hh
          · exact hh k (by omega)
          · rw [hL] at h4; exact absurd h4 hh)
      clear HN
      generalize Pop op = P at *
      generalize Wop op = WW at *
      generalize mop op = m at *
      go_wp2_with fail
      refine (HPT.out _).mono ?_
      rintro e w2 ⟨rfl, hD2⟩
      have HW2 := Lib.hid (HW.out.then_ hD2.below)
      clear hD2 HW HPT
      go_wp2_with fail
      refine (HWO.out _).mono ?_
      rintro e w3 ⟨v3, rfl, hR3, hB3⟩
      obtain ⟨A3, c3, rfl⟩ := Kd.R_slice hR3
      have HW3 := Lib.hid (HW2.out.then_ hB3)
      clear hB3 hR3 HW2 HWO
      by_cases hlen : L.length = 1 + m
      · have HNS' : Hid (NC s op (WW.length + 1) → NH s (op + 1)) := Lib.hid (fun h => HNS.out (.inl h))
        have HLEN := Lib.hid hlen
        have ql1 : ((L.length : Int) == 1 + (m : Int)) = true := beq_iff_eq.2 (by omega)
        have ql2 : ((L.length : Int) != 1 + (m : Int)) = false := by rw [bne_eq_false_iff_eq]; omega
        clear HNS hlen
        have ob : op % 256 = op := by omega
        go_wp2_with fail
        go_loopw [9] (fun cv wr => ∃ k : Nat, k ≤ WW.length + 1 ∧ cv = .int .i64 (k : Int) ∧ Hid (NC s op k) ∧ Hid (Wi w A1 L wr)) (fun cv _ => 24 - (RowKit.intOf cv).toNat)
        case atStart => exact ⟨0, by omega, rfl, Lib.hid (fun k h => by omega), HW3⟩
        case round =>
          clear HW3
          obtain ⟨k, hk, rfl, HN, HW⟩ := hrel
          by_cases hgk : k ≤ WW.length
          · have kb : (k : Int) % 256 = (k : Int) := by omega
            have HX0 : Hid ((⟨op, 0, 0, (k : Int), 0⟩ : Ins).Ok) := Lib.hid ⟨by dsimp only; omega, by dsimp only; omega, by dsimp only; omega, by dsimp only; omega, by dsimp only; omega⟩
            have HOK := Lib.hid (cd_ok L HLS.out P ⟨op, 0, 0, (k : Int), 0⟩ HX0.out)
            have HRSk := Lib.hid (HRS.out ⟨op, 0, 0, (k : Int), 0⟩)
            have HR0k := Lib.hid (HR0.out ⟨op, 0, 0, (k : Int), 0⟩)
            have HCXk := Lib.hid (HCX.out k)
            generalize cd L P ⟨op, 0, 0, (k : Int), 0⟩ = rt at *
            have HZ : Hid (Pz wr ⟨op, 0, 0, (k : Int), 0⟩ (wr.alloc (.cells #[.int .u8 op, .int .u8 0, .int .u8 0, .int .u8 (k : Int), .int .u32 0] 24))) := Lib.hid ⟨Bx.new wr ⟨op, 0, 0, (k : Int), 0⟩, (Below.refl _ _).alloc (Nat.le_refl _) _⟩
            clear HX0
            go_wp2_with fail
            go_loopw [11] (fun kv W => ∃ j : Nat, j ≤ m ∧ kv = .int .i64 (2 * (j : Int)) ∧ Hid (Pz wr (rt j) W)) (fun kv _ => 10 - (RowKit.intOf kv).toNat)
            case atStart => exact ⟨0, by omega, rfl, by rw [HR0k.out]; exact HZ⟩
            case round =>
              clear HZ
              obtain ⟨j, hj, rfl, HZ⟩ := hrel
              by_cases hgj : j < m
              · have hC := (HW.out.then_ HZ.out.below).row
                obtain ⟨ad, rfl, hcell⟩ := Kd.at_string hC (1 + (j : Int)) (by omega) (by have := HLEN.out; omega)
                have hjl : 1 + (j : Int) < (L.length : Int) := by have := HLEN.out; omega
                rw [show rdOf ByteArray.empty L (1 + (j : Int)) = L.getD (1 + j) ⟨#[]⟩ from by unfold rdOf; rw [show (1 + (j : Int)).toNat = 1 + j from by omega]; rfl, show (1 + (j : Int)).toNat = 1 + j from by omega] at hcell
                have hbs : ((L.getD (1 + j) ⟨#[]⟩).size : Int) ≤ 4294967281 := getD_size L HLS.out (1 + j)
                have hix0 := ix P (2 * (j : Int)) (by omega) (by omega)
                have hix1 := ix P (2 * (j : Int) + 1) (by omega) (by omega)
                have hrj := HRSk.out j
                have hcv := HCV.out j
                generalize cdv L P j = dg at *
                generalize L.getD (1 + j) ⟨#[]⟩ = bj at *
                generalize bt P (2 * (j : Int)) = f at *
                generalize bt P (2 * (j : Int) + 1) = kd at *
                generalize rt j = y at *
                have HRJ0 := Lib.hid hrj
                have HCVj := Lib.hid hcv
                have HBS := Lib.hid hbs
                clear hC hbs hrj hcv
                by_cases h110 : kd = 110
                · subst h110
                  have hdg := Dg_some bj 0 (.inl rfl) HBS.out
                  have hcv : dg = Dg bj 0 := HCVj.out
                  rw [← hcv] at hdg
                  obtain ⟨dv, di⟩ := dg
                  have HDG := Lib.hid (fun w => turnbuckleref06_digits.calls 20 bj 0 dv di w hdg.1)
                  have hd0 := hdg.2.1
                  have hd1 := hdg.2.2
                  have HRJ : Hid (rt (j + 1) = if di = true ∧ (110 : Int) ≠ 119 then wth y f dv else y) := Lib.hid HRJ0.out
                  have HWT := Lib.hid (fun w => Rwith y f dv w)
                  clear hdg hcv HCVj HBS HRJ0
                  go_wp2_with fail
                  refine (HDG.out _).mono ?_
                  rintro e w5 ⟨rfl, hD5⟩
                  have HZ5 := Lib.hid (Pz.then_ HZ.out hD5.below)
                  clear hD5 HZ HDG
                  cases di
                  · -- no number
                    have e : rt (j + 1) = y := HRJ.out.trans (if_neg (fun h => Bool.noConfusion h.1))
                    have HE := Lib.hid e
                    clear e HRJ HWT
                    go_wp2
                    go_roundw
                    case rel => exact ⟨j + 1, by omega, by go_num, by rw [HE.out]; exact HZ5⟩
                    case measure => simp [RowKit.intOf]; omega
                  · by_cases h119 : (110 : Int) = 119
                    · exact absurd h119 (by decide)
                    · have e : rt (j + 1) = wth y f dv := HRJ.out.trans (if_pos ⟨rfl, h119⟩)
                      have HE := Lib.hid e
                      clear e HRJ
                      obtain ⟨y0, y1, y2, y3, y4⟩ := y
                      obtain ⟨z, hz⟩ : ∃ z, wth ⟨y0, y1, y2, y3, y4⟩ f dv = z := ⟨_, rfl⟩
                      rw [hz] at HE HWT
                      obtain ⟨z0, z1, z2, z3, z4⟩ := z
                      have HWT' : Hid (∀ w, Calls Tryd.prog 41 #[.agg #[.int .u8 y0, .int .u8 y1, .int .u8 y2, .int .u8 y3, .int .u32 y4], .int .u8 f, .int .u32 dv] w fun e w' => e = .returned (.agg #[.int .u8 z0, .int .u8 z1, .int .u8 z2, .int .u8 z3, .int .u32 z4]) ∧ Below w.heap.size w w') := Lib.hid HWT.out
                      clear hz HWT
                      have HZd := Lib.hid (Pz.then_ HZ5.out (Below.refl _ _).drew)
                      obtain ⟨x0, x1, x2, x3, x4⟩ := Bx.all HZd.out.bx
                      go_wp2_with fail
                      go_region_with (go_at_call 41; refine (HWT'.out _).mono ?_; rintro e w6 ⟨rfl, hB6⟩; have HZ6 := Lib.hid (Pz.then_ HZd.out hB6); obtain ⟨p0, p1, p2, p3, p4⟩ := Bx.all HZ6.out.bx; obtain ⟨f0, f1, f2, f3, f4⟩ := fzs HZ6.out.bx; clear hB6)
                      all_goals
                        have HZ7 := Lib.hid (Pz.put5 HZ6.out ⟨z0, z1, z2, z3, z4⟩)
                        unfold put5 at HZ7
                        dsimp only at HZ7
                        go_wp2
                        go_roundw
                        case rel => exact ⟨j + 1, by omega, by go_num, by rw [HE.out]; exact HZ7⟩
                        case measure => simp [RowKit.intOf]; omega
                · have q110 : (kd == 110) = false := beq_eq_false_iff_ne.2 h110
                  have hdg := Dg_some bj 1 (.inr rfl) HBS.out
                  have hcv : dg = Dg bj 1 := HCVj.out.trans (by rw [if_neg h110])
                  rw [← hcv] at hdg
                  obtain ⟨dv, di⟩ := dg
                  have HDG := Lib.hid (fun w => turnbuckleref06_digits.calls 20 bj 1 dv di w hdg.1)
                  have hd0 := hdg.2.1
                  have hd1 := hdg.2.2
                  have HRJ : Hid (rt (j + 1) = if di = true ∧ kd ≠ 119 then wth y f dv else y) := Lib.hid HRJ0.out
                  have HWT := Lib.hid (fun w => Rwith y f dv w)
                  clear hdg hcv HCVj HBS HRJ0 h110
                  go_wp2_with fail
                  refine (HDG.out _).mono ?_
                  rintro e w5 ⟨rfl, hD5⟩
                  have HZ5 := Lib.hid (Pz.then_ HZ.out hD5.below)
                  clear hD5 HZ HDG
                  cases di
                  · -- no number
                    have e : rt (j + 1) = y := HRJ.out.trans (if_neg (fun h => Bool.noConfusion h.1))
                    have HE := Lib.hid e
                    clear e HRJ HWT
                    go_wp2
                    go_roundw
                    case rel => exact ⟨j + 1, by omega, by go_num, by rw [HE.out]; exact HZ5⟩
                    case measure => simp [RowKit.intOf]; omega
                  · by_cases h119 : kd = 119
                    · have e : rt (j + 1) = y := HRJ.out.trans (if_neg (fun h => h.2 h119))
                      have HE := Lib.hid e
                      clear e HRJ HWT
                      go_wp2
                      go_roundw
                      case rel => exact ⟨j + 1, by omega, by go_num, by rw [HE.out]; exact HZ5⟩
                      case measure => simp [RowKit.intOf]; omega
                    · have e : rt (j + 1) = wth y f dv := HRJ.out.trans (if_pos ⟨rfl, h119⟩)
                      have q119 : (kd != 119) = true := bne_iff_ne.2 h119
                      have HE := Lib.hid e
                      clear e HRJ
                      obtain ⟨y0, y1, y2, y3, y4⟩ := y
                      obtain ⟨z, hz⟩ : ∃ z, wth ⟨y0, y1, y2, y3, y4⟩ f dv = z := ⟨_, rfl⟩
                      rw [hz] at HE HWT
                      obtain ⟨z0, z1, z2, z3, z4⟩ := z
                      have HWT' : Hid (∀ w, Calls Tryd.prog 41 #[.agg #[.int .u8 y0, .int .u8 y1, .int .u8 y2, .int .u8 y3, .int .u32 y4], .int .u8 f, .int .u32 dv] w fun e w' => e = .returned (.agg #[.int .u8 z0, .int .u8 z1, .int .u8 z2, .int .u8 z3, .int .u32 z4]) ∧ Below w.heap.size w w') := Lib.hid HWT.out
                      clear hz HWT
                      have HZd := Lib.hid (Pz.then_ HZ5.out (Below.refl _ _).drew)
                      obtain ⟨x0, x1, x2, x3, x4⟩ := Bx.all HZd.out.bx
                      go_wp2_with fail
                      go_region_with (go_at_call 41; refine (HWT'.out _).mono ?_; rintro e w6 ⟨rfl, hB6⟩; have HZ6 := Lib.hid (Pz.then_ HZd.out hB6); obtain ⟨p0, p1, p2, p3, p4⟩ := Bx.all HZ6.out.bx; obtain ⟨f0, f1, f2, f3, f4⟩ := fzs HZ6.out.bx; clear hB6)
                      all_goals
                        have HZ7 := Lib.hid (Pz.put5 HZ6.out ⟨z0, z1, z2, z3, z4⟩)
                        unfold put5 at HZ7
                        dsimp only at HZ7
                        go_wp2
                        go_roundw
                        case rel => exact ⟨j + 1, by omega, by go_num, by rw [HE.out]; exact HZ7⟩
                        case measure => simp [RowKit.intOf]; omega
              · obtain rfl : j = m := by omega
                have hy := HOK.out j
                have HTX := Lib.hid (fun w => RText (rt j) hy w)
                have hcx := HCXk.out
                have HW5 := Lib.hid (HW.out.then_ HZ.out.below)
                clear HW
                generalize rt j = y at *
                obtain ⟨y0, y1, y2, y3, y4⟩ := y
                have HTX' : Hid (∀ w, Calls Tryd.prog 12 #[.agg #[.int .u8 y0, .int .u8 y1, .int .u8 y2, .int .u8 y3, .int .u32 y4]] w fun e w' => e = .returned (.tuple #[.string (tx ⟨y0, y1, y2, y3, y4⟩), .int .i64 (chk ⟨y0, y1, y2, y3, y4⟩)]) ∧ Below w.heap.size w w') := Lib.hid HTX.out
                obtain ⟨x0, x1, x2, x3, x4⟩ := Bx.all HZ.out.bx
                have HCX5 := Lib.hid hcx
                have HY := Lib.hid hy
                clear HTX hcx hy
                go_wp2_with fail
                refine (HTX'.out _).mono ?_
                rintro e w6 ⟨rfl, hB6⟩
                have HW6 := Lib.hid (HW5.out.then_ hB6)
                have HZ6 := Lib.hid (Pz.then_ HZ.out hB6)
                clear hB6 HW5 HZ HTX' x0 x1 x2 x3 x4
                have HTXE : Hid (chk ⟨y0, y1, y2, y3, y4⟩ = 0 → tx ⟨y0, y1, y2, y3, y4⟩ = txt ⟨y0, y1, y2, y3, y4⟩) := Lib.hid (fun h => by unfold tx; rw [if_pos h])
                have HHIT : Hid (hit s ⟨y0, y1, y2, y3, y4⟩ ↔ chk ⟨y0, y1, y2, y3, y4⟩ = 0 ∧ txt ⟨y0, y1, y2, y3, y4⟩ = s) := Lib.hid Iff.rfl
                have HNEXT : Hid (¬ hit s ⟨y0, y1, y2, y3, y4⟩ → NC s op (k + 1)) := Lib.hid (fun h q hq => by
                  by_cases e : q < k
                  · exact HN.out q e
                  · obtain rfl : q = k := by omega
                    rw [HCX5.out]; exact h)
                clear HN HCX5
                generalize chk ⟨y0, y1, y2, y3, y4⟩ = cy at *
                generalize tx ⟨y0, y1, y2, y3, y4⟩ = ty at *
                generalize txt ⟨y0, y1, y2, y3, y4⟩ = tt at *
                by_cases hc : cy = 0
                · subst hc
                  obtain rfl := HTXE.out rfl
                  by_cases ht : ty = s
                  · have HH := Lib.hid (HHIT.out.2 ⟨rfl, ht⟩)
                    have hq : (ty.toList == s.toList) = true := (bytes_beq_iff _ _).2 ht
                    clear HTXE HHIT HNEXT ht
                    obtain ⟨x0, x1, x2, x3, x4⟩ := Bx.all HZ6.out.bx
                    obtain ⟨p0, p1, p2, p3, p4⟩ := Bx.all HW6.out.box
                    obtain ⟨f0, f1, f2, f3, f4⟩ := fzs HW6.out.box
                    go_wp2
                    have hx5 : Bx _ w.heap.size _ := put5_bx HW6.out.box ⟨y0, y1, y2, y3, y4⟩
                    have hb5 := put5_below w6 w.heap.size ⟨y0, y1, y2, y3, y4⟩ w.heap.size (Nat.le_refl _)
                    unfold put5 at hx5 hb5
                    dsimp only at hx5 hb5
                    generalize (((((w6.setCell ⟨w.heap.size, 0, none⟩ (.int .u8 y0)).setCell ⟨w.heap.size, 1, none⟩ (.int .u8 y1)).setCell ⟨w.heap.size, 2, none⟩ (.int .u8 y2)).setCell ⟨w.heap.size, 3, none⟩ (.int .u8 y3)).setCell ⟨w.heap.size, 4, none⟩ (.int .u32 y4)) = w7 at *
                    obtain ⟨j0, j1, j2, j3, j4⟩ := Bx.all hx5
                    exact bodyPost_ret (v := .tuple #[.agg #[.int .u8 y0, .int .u8 y1, .int .u8 y2, .int .u8 y3, .int .u32 y4], .int .i64 0]) (by simp [results, Tryd.results16, go_sem, j0, j1, j2, j3, j4]) rfl ⟨⟨y0, y1, y2, y3, y4⟩, 0, rfl, .inl ⟨rfl, HY.out, HH.out⟩, HW6.out.below.trans hb5⟩
                  · have HNX := Lib.hid (HNEXT.out (fun h => ht (HHIT.out.1 h).2))
                    have hq : (ty.toList == s.toList) = false := (bytes_beq_false_iff _ _).2 ht
                    clear HTXE HHIT HNEXT ht
                    go_wp2
                    go_roundw
                    case rel => exact ⟨k + 1, by omega, by go_num, HNX, HW6⟩
                    case measure => simp [RowKit.intOf]; omega
                · have HNX := Lib.hid (HNEXT.out (fun h => hc (HHIT.out.1 h).1))
                  have hq : (cy == 0) = false := beq_eq_false_iff_ne.2 hc
                  clear HTXE HHIT HNEXT hc
                  go_wp2
                  go_roundw
                  case rel => exact ⟨k + 1, by omega, by go_num, HNX, HW6⟩
                  case measure => simp [RowKit.intOf]; omega
          · obtain rfl : k = WW.length + 1 := by omega
            go_wp2_with fail
            go_roundw
            case rel => exact ⟨op + 1, by omega, by omega, rfl, Lib.hid (HNS'.out HN.out), HW⟩
            case measure => simp [RowKit.intOf]; omega
      · have HNS' : Hid (NH s (op + 1)) := Lib.hid (HNS.out (.inr (fun hh => hlen (HNN.out.1 hh))))
        go_wp2_with fail
        go_roundw
        case rel => exact ⟨op + 1, by omega, by omega, rfl, HNS', HW3⟩
        case measure => simp [RowKit.intOf]; omega
    · obtain rfl : op = 16 := by omega
      have hbx := HW.out.box
      obtain ⟨k0, k1, k2, k3, k4⟩ := Bx.all hbx
      obtain ⟨f0, f1, f2, f3, f4⟩ := fzs hbx
      clear hbx
      go_wp2
      have hx5 : Bx _ w.heap.size z0 := put5_bx HW.out.box z0
      have hb5 := put5_below wr w.heap.size z0 w.heap.size (Nat.le_refl _)
      unfold put5 at hx5 hb5
      dsimp only [z0] at hx5 hb5
      generalize (((((wr.setCell ⟨w.heap.size, 0, none⟩ (.int .u8 0)).setCell ⟨w.heap.size, 1, none⟩ (.int .u8 0)).setCell ⟨w.heap.size, 2, none⟩ (.int .u8 0)).setCell ⟨w.heap.size, 3, none⟩ (.int .u8 0)).setCell ⟨w.heap.size, 4, none⟩ (.int .u32 0)) = w5 at *
      obtain ⟨j0, j1, j2, j3, j4⟩ := Bx.all hx5
      exact bodyPost_ret (v := .tuple #[.agg #[.int .u8 0, .int .u8 0, .int .u8 0, .int .u8 0, .int .u32 0], .int .i64 3]) (by simp [results, Tryd.results16, go_sem, j0, j1, j2, j3, j4]) rfl ⟨z0, 3, rfl, .inr ⟨rfl, rfl, fun x hx => none_hit s (fun o k h1 h2 h3 h4 => HN.out o k h1 (by omega) h3 h4) x hx⟩, HW.out.below.trans hb5⟩
end Go.Proofs.YtlomgbackphmmaaDoor.RefC
