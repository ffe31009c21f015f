/- flow.Ahead: behind what an instruction stands. -/
import Derived.Test.YtaomlfnffnapmaaFlN
set_option linter.unusedVariables false
set_option linter.unusedSimpArgs false
namespace Go.Proofs.Ytaomlfnffnapmaa
open Go.RowKit Go.Shelf
attribute [local go_sem] Oper.semAt_some

/-- Does it stand behind that one, and within? -/
def hit (L : List Ins) (pc : Int) (i : Nat) : Bool := decide (pc ∈ beh L (i : Int)) && decide (pc < (L.length : Int))
def ahU (L : List Ins) (pc : Int) (k : Nat) : List Int := ((List.range k).filter (hit L pc)).map (fun i : Nat => (i : Int))
def ah (L : List Ins) (pc : Int) : List Int := ahU L pc L.length
theorem ahU_hit {L : List Ins} {pc : Int} {k : Nat} (h : hit L pc k = true) : ahU L pc (k + 1) = ahU L pc k ++ [(k : Int)] := by
  unfold ahU; rw [List.range_succ, List.filter_append, List.map_append]; simp [h]
theorem ahU_miss {L : List Ins} {pc : Int} {k : Nat} (h : hit L pc k = false) : ahU L pc (k + 1) = ahU L pc k := by
  unfold ahU; rw [List.range_succ, List.filter_append, List.map_append]; simp [h]
theorem ahU_le (L : List Ins) (pc : Int) (k : Nat) : (ahU L pc k).length ≤ k := by
  unfold ahU; rw [List.length_map]; exact Nat.le_trans (List.length_filter_le _ _) (by simp)

def NoHit (L : List Ins) (pc : Int) (pre : List Int) : Prop := ∀ x ∈ pre, ¬ (x = pc ∧ pc < (L.length : Int))
def AHit (L : List Ins) (pc : Int) (pre : List Int) : Prop := pc ∈ pre ∧ pc < (L.length : Int)
/-- The variables of Ahead. -/
abbrev abx (w : World) (A : Option Addr) (cap : Nat) (L : List Ins) (pc : Int) : List (Nat × TypeId × Value) := [(w.heap.size, 22, .slice A L.length cap), (w.heap.size + 1, 3, .int .i64 pc)]
def AheadInv (w : World) (A : Option Addr) (cap : Nat) (L : List Ins) (pc : Int) (a' : Act) (W : World) : Prop :=
  ∃ (k : Nat) (u6 u7 u11 u12 u13 u14 u15 u16 u17 u18 u19 u20 u21 u22 u23 u24 u25 u26 u27 u28 u29 u30 : Value) (ds : List Deferred), k ≤ L.length ∧ Coll w (w.heap.size + 3) (w.heap.size + 1 + 1) (abx w A cap L pc) (ahU L pc k) W ∧ Marks w.heap.size W ds ∧
    a' = { tmps := #[.slice A L.length cap, .int .i64 pc, .pointer (some ⟨w.heap.size, 0, none⟩), .pointer (some ⟨w.heap.size + 1, 0, none⟩), .slice none 0 0, .pointer (some ⟨w.heap.size + 1 + 1, 0, none⟩), u6, u7, .slice A L.length cap, .int .i64 (L.length : Int), .int .i64 (k : Int), u11, u12, u13, u14, u15, u16, u17, u18, u19, u20, u21, u22, u23, u24, u25, u26, u27, u28, u29, u30, undef], defers := ds }
def slot10 (a : Act) : Nat := (intOf (a.tmps.getD 10 undef)).toNat

set_option maxRecDepth 100000 in
set_option maxHeartbeats 4000000 in
theorem Ahead_any (A : Option Addr) (cap : Nat) (L : List Ins) (pc : Int) (w : World) (hlen : L.length ≤ 1000000) (hP : Pr w A L) :
    Calls Try.prog 17 #[.slice A L.length cap, .int .i64 pc] w fun e w' =>
      ∃ v, e = .returned v ∧ w'.ownsRow w.heap.size 3 1 v (ah L pc).length ((ah L pc).map (Value.int .i64)) ∧ Below w.heap.size w w' := by
  obtain ⟨i0, hi, hz0, hz1, hz2⟩ := info_parts int_info
  have HP := Lib.hid hP
  clear hP
  refine calls_marks Try.func17 rfl ?_
  simp only [Try.ntmps17, List.size_toArray, List.length_cons, List.length_nil, Nat.reduceAdd, Nat.reduceSub, Array.replicate_succ, Array.replicate_zero, List.push_toArray, List.append_toArray, List.nil_append, List.cons_append]
  go_wp2_with fail
  refine wp_loop (AheadInv w A cap L pc) (fun a _ => L.length - slot10 a) ?_ ?_
  · refine ⟨0, _, _, _, _, _, _, _, _, _, _, _, _, _, _, _, _, _, _, _, _, _, _, [], by omega, ⟨⟨.slice none 0 0, ?_, World.ownsRow_nil _ _ _ _⟩, fun b hb => ?_, ?_, by simp⟩, trivial, rfl⟩
    · have := Boxed.new ((w.alloc (.cells #[.slice A L.length cap] 22)).alloc (.cells #[.int .i64 pc] 3)) 31 (.slice none 0 0)
      rw [World.size_alloc, World.size_alloc] at this; exact this
    · rcases List.mem_cons.1 hb with rfl | hb
      · exact ((Boxed.new w _ _).alloc _).alloc _
      rcases List.mem_cons.1 hb with rfl | hb
      · have := Boxed.new (w.alloc (.cells #[.slice A L.length cap] 22)) 3 (.int .i64 pc); rw [World.size_alloc] at this; exact this.alloc _
      · cases hb
    · exact (((Below.refl _ w).alloc (Nat.le_refl _) _).alloc (by simp) _).alloc (by simp; omega) _
  · rintro a wr ⟨k, u6, u7, u11, u12, u13, u14, u15, u16, u17, u18, u19, u20, u21, u22, u23, u24, u25, u26, u27, u28, u29, u30, ds, hk, hC, hM, rfl⟩
    have hn1 := hC.n1
    by_cases hlt : k < L.length
    · have HC := Lib.hid hC
      have HM := Lib.hid hM
      have hp0 : wr.cell? ⟨w.heap.size, 0, none⟩ = some (.slice A L.length cap) := (hC.bx (w.heap.size, 22, .slice A L.length cap) (by simp)).cell
      have hp1 := cell_alloc_l (.cells #[.int .i64 (k : Int)] 3) hp0
      clear hC hM
      go_wp2_with fail
      refine (behind_plain A L.length cap (k : Int) _).mono ?_
      rintro e w1 ⟨rfl, rfl⟩
      go_wp2_with fail
      obtain ⟨W1, hW1⟩ : ∃ W1, W1 = ((wr.alloc (.cells #[.int .i64 (k : Int)] 3)).alloc (.cells #[.slice A L.length cap] 22)).alloc (.cells #[.int .i64 (k : Int)] 3) := ⟨_, rfl⟩
      rw [← hW1]
      have hsz : W1.heap.size = wr.heap.size + 3 := by rw [hW1]; simp
      have hB : Below wr.heap.size wr W1 := by rw [hW1]; exact (((Below.refl _ wr).alloc (Nat.le_refl _) _).alloc (by simp) _).alloc (by simp; omega) _
      have hG : wr.grownBy W1 none := by rw [hW1]; exact ((World.grownBy_alloc _ _ _).trans (World.grownBy_alloc _ _ _)).trans (World.grownBy_alloc _ _ _)
      have bI : Boxed W1 wr.heap.size 3 (.int .i64 (k : Int)) := by rw [hW1]; exact ((Boxed.new wr _ _).alloc _).alloc _
      have bQ : Boxed W1 (wr.heap.size + 1) 22 (.slice A L.length cap) := by
        rw [hW1]; have := Boxed.new (wr.alloc (.cells #[.int .i64 (k : Int)] 3)) 22 (.slice A L.length cap); rw [World.size_alloc] at this; exact this.alloc _
      have bC : Boxed W1 (wr.heap.size + 1 + 1) 3 (.int .i64 (k : Int)) := by
        rw [hW1]; have := Boxed.new ((wr.alloc (.cells #[.int .i64 (k : Int)] 3)).alloc (.cells #[.slice A L.length cap] 22)) 3 (.int .i64 (k : Int)); rw [World.size_alloc, World.size_alloc] at this; exact this
      have hC1 : Coll w (w.heap.size + 3) (w.heap.size + 1 + 1) (abx w A cap L pc) (ahU L pc k) W1 := HC.out.turn (N := w.heap.size) (Nat.le_refl _) hG (fun r e => by cases e)
      have hM1 : Marks w.heap.size W1 ds := HM.out.turn (N := wr.heap.size) (fun d hd r e => HM.out.lt d hd r e) hG (fun r e => by cases e)
      have hds : ∀ d ∈ ds, ∀ r, d.target = .collected r → r < W1.heap.size := fun d hd r e => hM1.lt d hd r e
      have hPw : Pr W1 A L := (HP.out.below HC.out.below).below (hB)
      have HDS := Lib.hid hds
      have HSZ := Lib.hid hsz
      have hsz1 : wr.heap.size + 3 ≤ W1.heap.size := by omega
      clear hW1 hp0 hp1 hds hsz
      apply wp_range_beh (w := W1) (Bc := wr.heap.size + 1 + 1) (Bp := wr.heap.size + 1) (A := A) (cap := cap) (L := L) (pc := (k : Int)) rfl (by omega) (by omega) hlen bC.cell bQ.cell hPw
        (fun pre W => Coll w (w.heap.size + 3) (w.heap.size + 1 + 1) (abx w A cap L pc) (ahU L pc k) W ∧ Boxed W wr.heap.size 3 (.int .i64 (k : Int)) ∧ Marks w.heap.size W ds ∧ NoHit L pc pre)
        (fun c pre W => c = .exit 2 ∧ Coll w (w.heap.size + 3) (w.heap.size + 1 + 1) (abx w A cap L pc) (ahU L pc k ++ [(k : Int)]) W ∧ Marks w.heap.size W ds ∧ AHit L pc pre)
      case hassign =>
        intro l x W K hK
        gi_wp2
        exact hK
      case hI => exact fun s X Y row hs hg hr => ⟨hs.1.turn (N := W1.heap.size) (by omega) hg hr, boxed_turn hs.2.1 hg (fun r e => (hr r e).2), hs.2.2.1.turn HDS.out hg (fun r e => (hr r e).1), hs.2.2.2⟩
      case hIx => exact fun c s X Y row hs hg hr => ⟨hs.1, hs.2.1.turn (N := W1.heap.size) (by omega) hg hr, hs.2.2.1.turn HDS.out hg (fun r e => (hr r e).1), hs.2.2.2⟩
      case h0 => exact ⟨hC1, bI, hM1, fun x hx => by cases hx⟩
      case hbody =>
        rintro l pre x W ⟨hCx, bx, hMx, hno⟩ hltp _
        obtain ⟨v, hv, hrow⟩ := hCx.ex
        have hc := hv.cell
        have hci := bx.cell
        have hp := (hCx.bx (w.heap.size, 22, .slice A L.length cap) (by simp)).cell
        have hq := (hCx.bx (w.heap.size + 1, 3, .int .i64 pc) (by simp)).cell
        have hal := ahU_le L pc k
        have hn2 := hCx.n1
        dsimp only at hp hq
        by_cases hx : x = pc ∧ pc < (L.length : Int)
        · obtain ⟨rfl, hxl⟩ := hx
          gi_wp2_with (gi_at_builtin; go_must (have hA3 : (ahU L x k).length + 1 ≤ maxLen := (by unfold maxLen; omega); have hA4 : ((ahU L x k).length + 1) * 8 ≤ 140737488355328 := (by omega); have hA5 : w.heap.size + 3 ≤ (W.alloc (.cells #[.int .i64 (k : Int)] 3)).heap.size := (by rw [World.size_alloc]; omega); refine wpListIn_append_own _ rfl _ _ 31 rfl (w.heap.size + 3) 3 i0 (.int .i64 0) 1 8 Try.underlying31 hi hz0 hz1 hz2 rfl (by decide) _ _ _ rfl (hrow.alloc _) ⟨W.heap.size, 0, none⟩ 1 1 [.int .i64 (k : Int)] rfl rfl (cell_one_new _ _ _) (by simp [Value.oneCell']) hA3 hA4 hA5 ?_; intro v' w1 hown' hgrow _); go_must (rw [snoc_int, len_snoc _ (k : Int)] at hown'; obtain ⟨g', cap', rfl⟩ := row_snoc hown'; obtain ⟨hv1, hC2, hk2, hx2, hd2⟩ := hCx.appended (N := W1.heap.size) hv hrow (by omega) (by omega) (bx_two (w.heap.size + 3) (w.heap.size + 1 + 1) w.heap.size (w.heap.size + 1) ⟨by omega, by omega⟩ ⟨by omega, by omega⟩) hown' hgrow; have hc1 := hv1.cell; have hf1 := hv1.frozen))
          exact ⟨hk2, rfl, hC2, hMx.keep (fun r _ _ hr => hd2 r hr), ⟨by simp, hxl⟩⟩
        · have hd : (x == pc && decide (pc < (L.length : Int))) = false := by
            rw [Bool.and_eq_false_iff]
            by_cases e : x = pc
            · right; rw [decide_eq_false_iff_not]; exact fun h => hx ⟨e, h⟩
            · left; exact beq_eq_false_iff_ne.2 e
          have hgood : KeepsFrom W1.heap.size W W ∧ Kb (wr.heap.size + 1 + 1) W W ∧ (Coll w (w.heap.size + 3) (w.heap.size + 1 + 1) (abx w A cap L pc) (ahU L pc k) W ∧ Boxed W wr.heap.size 3 (.int .i64 (k : Int)) ∧ Marks w.heap.size W ds ∧ NoHit L pc (pre ++ [x])) :=
            ⟨KeepsFrom.refl _ _, rfl, hCx, bx, hMx, fun y hy => by
              rcases List.mem_append.1 hy with h | h
              · exact hno y h
              · simp at h; subst h; exact hx⟩
          have HG := Lib.hid hgood
          clear hgood hno hd
          by_cases e : x = pc
          · have hxl : ¬ pc < (L.length : Int) := fun h => hx ⟨e, h⟩
            subst e
            clear hx
            have hxl' : (L.length : Int) ≤ x := by omega
            gi_wp2
            exact HG.out
          · have e' : (x == pc) = false := beq_eq_false_iff_ne.2 e
            clear hx e
            gi_wp2
            exact HG.out
      case hdone =>
        rintro D W hD ⟨hCx, bx, hMx, hno⟩ hK
        have hh : hit L pc k = false := by
          unfold hit
          rw [Bool.and_eq_false_iff]
          by_cases e : pc ∈ beh L (k : Int)
          · right; rw [decide_eq_false_iff_not]; exact fun h => hno pc e ⟨rfl, h⟩
          · left; exact decide_eq_false e
        have HC2 := Lib.hid hCx
        have HM2 := Lib.hid (hMx.more (D := D) (by omega) hK (fun d hd r e => by have := HDS.out d hd r e; omega))
        have HH := Lib.hid hh
        clear hCx bx hMx hno hK hh
        go_wp2
        refine ⟨⟨k + 1, _, _, _, _, _, _, _, _, _, _, _, _, _, _, _, _, _, _, _, _, _, _, _, by omega, ?_, HM2.out, by rfl⟩, ?_⟩
        · rw [ahU_miss HH.out]; exact HC2.out
        · simp [slot10, intOf]; omega
      case hstop =>
        rintro D c pre W hD hpre ⟨rfl, hCx, hMx, ⟨hmem, hpl⟩⟩ hK
        have hh : hit L pc k = true := by
          unfold hit
          rw [Bool.and_eq_true]
          exact ⟨decide_eq_true (hpre.subset hmem), decide_eq_true hpl⟩
        have HC2 := Lib.hid hCx
        have HM2 := Lib.hid (hMx.more (D := D) (by omega) hK (fun d hd r e => by have := HDS.out d hd r e; omega))
        have HH := Lib.hid hh
        clear hCx hMx hmem hpl hK hh
        go_wp2
        refine ⟨⟨k + 1, _, _, _, _, _, _, _, _, _, _, _, _, _, _, _, _, _, _, _, _, _, _, _, by omega, ?_, HM2.out, by rfl⟩, ?_⟩
        · rw [ahU_hit HH.out]; exact HC2.out
        · simp [slot10, intOf]; omega
    · obtain ⟨v, hv, hrow⟩ := hC.ex
      have hcl := hv.cell
      have hge : (L.length : Int) ≤ (k : Int) := by omega
      have hke : ahU L pc k = ah L pc := by unfold ah; rw [show k = L.length from by omega]
      rw [hke] at hrow
      have HR := Lib.hid hrow
      have HB := Lib.hid hC.below
      have HM := Lib.hid hM
      clear hv hrow hC hM hke hlt hk
      go_wp2
      refine leaves_marks (B := w.heap.size) (fun W => W.ownsRow w.heap.size 3 1 v (ah L pc).length ((ah L pc).map (Value.int .i64)) ∧ Below w.heap.size w W) (fun W r hg hr hd => ⟨ownsRow_putObj hg.1 _ hd rfl, hg.2.trans (belowK_b (w := w) (Nat.le_refl _) W r _ _ hr hd rfl rfl)⟩)
        (fun W hg => ⟨_, results_tmp rfl _ _ _, v, rfl, hg.1, hg.2⟩) _ _ HM.out ⟨row_mono HR.out (by omega), HB.out⟩
end Go.Proofs.Ytaomlfnffnapmaa
