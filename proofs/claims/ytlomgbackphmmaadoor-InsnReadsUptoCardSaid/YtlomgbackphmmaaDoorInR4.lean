/- insn.Read: the walk, operation by operation. -/
import Derived.Test.YtlomgbackphmmaaDoorInR2
set_option linter.unusedVariables false
set_option linter.unusedSimpArgs false
namespace Go.Proofs.YtlomgbackphmmaaDoor
open Go.RowKit Go.Lib

set_option maxRecDepth 100000 in
set_option maxHeartbeats 4000000 in
theorem Read_8 (s : ByteArray) (hs : s.size < 4294967281) (m : Int) (w : World) (hp : Pw w) (hq : 8 ≤ (opF (ptAt (SplitOf s) 0).data.toList).1 ∧ (opF (ptAt (SplitOf s) 0).data.toList).1 ≤ 15) (hm : w.cell? ⟨1, 0, none⟩ = some (.int .i64 m)) :
    Calls Tryd.prog 15 #[.string s] w (RdPost (cand (SplitOf s)) s w) := by
  have HP := Lib.hid hp
  have hSp := Tryd.strings_Split s ⟨#[32]⟩ m (w.alloc (.cells #[.int .u8 0, .int .u8 0, .int .u8 0, .int .u8 0, .int .u32 0] 24)) hs (((Below.refl _ w).alloc (Nat.le_refl _) _).cell (p := ⟨1, 0, none⟩) (World.block_lt_of_cell? _ _ hm) |>.trans hm) (by decide)
  rw [show splitB ⟨#[32]⟩ 0 (countB s ⟨#[32]⟩) s = SplitOf s from rfl, ← split_length s, World.size_alloc] at hSp
  have hle := split_le s
  have hl1 := split_length s
  have hsz : ∀ p ∈ SplitOf s, p.size ≤ 4294967295 := split_sz ⟨#[32]⟩ 4294967295 _ s (by omega)
  have HQ := Lib.hid hq
  clear hq
  generalize SplitOf s = L at *
  have hl2 : L.length ≤ 4294967295 := by omega
  have hl3 : 0 < L.length := by omega
  have hc0 := cand_ok L
  have HOK := Lib.hid hc0
  have HSZ := Lib.hid hsz
  have HSp := Lib.hid hSp
  have HS := Lib.hid hs
  clear hSp hp hle hl1 hc0 hsz hm hs
  go_enter Tryd.func15, Tryd.ntmps15
  go_wp2_with fail
  refine HSp.out.mono ?_
  rintro e w1 ⟨rfl, hw1⟩
  have hb1 : Below w.heap.size w w1 := by rw [hw1]; exact ((Below.refl _ w).alloc (Nat.le_refl _) _).alloc (by rw [World.size_alloc]; omega) _
  have hrow : w1.heap[w.heap.size + 1]? = some (.cells ((L.map Value.string).toArray) 9) := by
    rw [hw1]
    have := heap_alloc_new (w.alloc (.cells #[.int .u8 0, .int .u8 0, .int .u8 0, .int .u8 0, .int .u32 0] 24)) (.cells ((L.map Value.string).toArray) 9)
    rw [World.size_alloc] at this
    exact this
  have h2 : w1.heap[w.heap.size]? = some (.cells z0.cells 24) := by
    rw [hw1]
    exact ((Below.refl _ _).alloc (Nat.le_refl _) _).block w.heap.size (by rw [World.size_alloc]; omega) |>.trans (heap_alloc_new w _)
  have hs1 : w1.heap.size = w.heap.size + 2 := by rw [hw1, World.size_alloc, World.size_alloc]
  have HB1 := Lib.hid hb1
  have HROW := Lib.hid hrow
  have H2 := Lib.hid h2
  have HS1 := Lib.hid hs1
  have hcl : w1.cell? ⟨w.heap.size + 1, 0, none⟩ = some (.string (ptAt L 0)) := by
    rw [cell_of_row w1 (w.heap.size + 1) 0 _ _ _ hrow, List.getElem?_toArray, List.getElem?_map]
    unfold ptAt
    rw [List.getD_eq_getElem?_getD, List.getElem?_eq_getElem hl3]
    rfl
  have hbl : w.heap.size + 1 < w1.heap.size := by omega
  have hbl1 : w.heap.size + 1 < w1.heap.size + 1 := by omega
  have hbl2 : w.heap.size + 1 < w1.heap.size + 2 := by omega
  clear hw1 hb1 hrow h2 hs1 HSp
  generalize hn : L.length = n at *
  have HN := Lib.hid hn
  clear hn
  have hl3i : (0 : Int) < (n : Int) := by omega
  go_wp2_with fail
  have hA : Below w1.heap.size w1 ((w1.alloc (.cells #[.slice (some ⟨w.heap.size + 1, 0, none⟩) n n] 51)).alloc (.cells #[.int .u8 0, .int .u8 0, .int .u8 0, .int .u8 0, .int .u32 0] 24)) :=
    ((Below.refl _ w1).alloc (Nat.le_refl _) _).alloc (by rw [World.size_alloc]; omega) _
  have h4 : ((w1.alloc (.cells #[.slice (some ⟨w.heap.size + 1, 0, none⟩) n n] 51)).alloc (.cells #[.int .u8 0, .int .u8 0, .int .u8 0, .int .u8 0, .int .u32 0] 24)).heap[w1.heap.size]? = some (.cells #[.slice (some ⟨w.heap.size + 1, 0, none⟩) n n] 51) :=
    (((Below.refl _ _).alloc (Nat.le_refl _) _).block w1.heap.size (by rw [World.size_alloc]; omega)).trans (heap_alloc_new w1 _)
  have h5 : ((w1.alloc (.cells #[.slice (some ⟨w.heap.size + 1, 0, none⟩) n n] 51)).alloc (.cells #[.int .u8 0, .int .u8 0, .int .u8 0, .int .u8 0, .int .u32 0] 24)).heap[w1.heap.size + 1]? = some (.cells z0.cells 24) := by
    have := heap_alloc_new (w1.alloc (.cells #[.slice (some ⟨w.heap.size + 1, 0, none⟩) n n] 51)) (.cells #[.int .u8 0, .int .u8 0, .int .u8 0, .int .u8 0, .int .u32 0] 24)
    rw [World.size_alloc] at this
    exact this
  have hszA : ((w1.alloc (.cells #[.slice (some ⟨w.heap.size + 1, 0, none⟩) n n] 51)).alloc (.cells #[.int .u8 0, .int .u8 0, .int .u8 0, .int .u8 0, .int .u32 0] 24)).heap.size = w1.heap.size + 2 := by rw [World.size_alloc, World.size_alloc]
  generalize ((w1.alloc (.cells #[.slice (some ⟨w.heap.size + 1, 0, none⟩) n n] 51)).alloc (.cells #[.int .u8 0, .int .u8 0, .int .u8 0, .int .u8 0, .int .u32 0] 24)) = wA at *
  have hpz : (ptAt L 0).size ≤ 9223372036854775807 := by
    have := HSZ.out (ptAt L 0) (by unfold ptAt; rw [List.getD_eq_getElem?_getD, List.getElem?_eq_getElem (by rw [HN.out]; exact hl3)]; exact List.getElem_mem _)
    omega
  refine (operation_any (ptAt L 0) hpz _).mono ?_
  rintro e w2 ⟨rfl, hb2⟩
  have hop := opF_range (ptAt L 0).data.toList
  have hq := HQ.out
  clear HQ
  have HCD : Hid (cand L = candO L (opF (ptAt L 0).data.toList).1 (opF (ptAt L 0).data.toList).2) := Lib.hid rfl
  generalize (opF (ptAt L 0).data.toList).1 = op at *
  generalize (opF (ptAt L 0).data.toList).2 = c at *
  obtain ⟨ho0, ho1, hc0, hc1⟩ := hop
  have q4 : w2.heap[w1.heap.size]? = _ := (hb2.block _ (by rw [hszA]; omega)).trans h4
  have q5 : w2.heap[w1.heap.size + 1]? = _ := (hb2.block _ (by rw [hszA]; omega)).trans h5
  have q2 : w2.heap[w.heap.size]? = _ := ((hb2.block _ (by rw [hszA]; omega)).trans (hA.block _ (by omega))).trans H2.out
  have qB : w2.heap[w.heap.size + 1]? = _ := ((hb2.block _ (by rw [hszA]; omega)).trans (hA.block _ (by omega))).trans HROW.out
  have hs2 : w1.heap.size + 2 ≤ w2.heap.size := by have := hb2.size; omega
  have HB2 := Lib.hid (HB1.out.trans ((hA.trans (hb2.mono (by omega))).mono HB1.out.size))
  have hS1 := HS1.out
  clear hA h4 h5 hszA hb2 hpz HB1 H2 HROW hcl hbl hbl1 hbl2
  have hg25 : w.heap.size ≠ w1.heap.size + 1 := by omega
  have hgB5 : w.heap.size + 1 ≠ w1.heap.size + 1 := by omega
  have hg2 : w.heap.size < w2.heap.size := by omega
  have hg45 : w1.heap.size ≠ w1.heap.size + 1 := by omega
  have hg5 : w1.heap.size + 1 < w2.heap.size := by omega
  have hn2 : w.heap.size ≤ w1.heap.size + 1 := by omega
  clear HS1 hS1
  generalize w.heap.size + 1 = B at *
  generalize w1.heap.size + 1 = g5 at *
  generalize w1.heap.size = g4 at *
  have q5c : ∀ i, w2.cell? ⟨g5, i, none⟩ = z0.cells[i]? := fun i => cell_of_row w2 g5 i _ _ _ q5
  have q50 : w2.cell? ⟨g5, 0, none⟩ = some (.int .u8 0) := q5c 0
  have q53 : w2.cell? ⟨g5, 3, none⟩ = some (.int .u8 0) := q5c 3
  have f50 := blk_fr q5 0
  have f53 := blk_fr q5 3
  have Q2 := Lib.hid q2
  have Q4 := Lib.hid q4
  have Q5 := Lib.hid q5
  have QB := Lib.hid qB
  clear q2 q4 q5 qB q5c
  go_upto_region 7 with fail
  have hR : Rs w (((w2.setCell ⟨g5, 0, none⟩ (.int .u8 op)).setCell ⟨g5, 3, none⟩ (.int .u8 c)).alloc (.cells #[.func (.func 34) #[] #[.pointer (some ⟨g4, 0, none⟩)]] 69)) w.heap.size g4 g5 w2.heap.size B L ⟨op, 0, 0, c, 0⟩ := by
    have hsz : ((w2.setCell ⟨g5, 0, none⟩ (.int .u8 op)).setCell ⟨g5, 3, none⟩ (.int .u8 c)).heap.size = w2.heap.size := by rw [World.size_setCell, World.size_setCell]
    have hal := (Below.refl _ ((w2.setCell ⟨g5, 0, none⟩ (.int .u8 op)).setCell ⟨g5, 3, none⟩ (.int .u8 c))).alloc (Nat.le_refl _) (.cells #[.func (.func 34) #[] #[.pointer (some ⟨g4, 0, none⟩)]] 69)
    have far : ∀ k, k ≠ g5 → k < w2.heap.size → (((w2.setCell ⟨g5, 0, none⟩ (.int .u8 op)).setCell ⟨g5, 3, none⟩ (.int .u8 c)).alloc (.cells #[.func (.func 34) #[] #[.pointer (some ⟨g4, 0, none⟩)]] 69)).heap[k]? = w2.heap[k]? := fun k hk hl =>
      (hal.block k (by rw [hsz]; exact hl)).trans ((set_far _ g5 k 3 _ hk).trans (set_far _ g5 k 0 _ hk))
    refine ⟨⟨?_, ?_, ?_, by rw [HN.out]; exact hl2, HSZ.out⟩, ?_, ?_, ?_, ?_, ?_, HP.out⟩
    · rw [far g4 hg45 (blk_lt' Q4.out), HN.out]; exact Q4.out
    · have := heap_alloc_new ((w2.setCell ⟨g5, 0, none⟩ (.int .u8 op)).setCell ⟨g5, 3, none⟩ (.int .u8 c)) (.cells #[.func (.func 34) #[] #[.pointer (some ⟨g4, 0, none⟩)]] 69)
      rw [hsz] at this
      exact this
    · rw [far B hgB5 (blk_lt' QB.out)]; exact QB.out
    · rw [hal.block g5 (by rw [hsz]; exact hg5)]
      exact (set_block (set_block Q5.out 0 (.int .u8 op)) 3 (.int .u8 c)).trans rfl
    · rw [far _ hg25 hg2]; exact Q2.out
    · exact ⟨hg45, by omega, hgB5, hg25⟩
    · exact ⟨Nat.le_refl _, hn2⟩
    · exact ((HB2.out.setCell hn2 _).setCell hn2 _).alloc (by rw [hsz]; omega) _
  generalize (((w2.setCell ⟨g5, 0, none⟩ (.int .u8 op)).setCell ⟨g5, 3, none⟩ (.int .u8 c)).alloc (.cells #[.func (.func 34) #[] #[.pointer (some ⟨g4, 0, none⟩)]] 69)) = wC at *
  have HR0 := Lib.hid hR
  clear hR Q2 Q4 Q5 QB q50 q53 f50 f53 hg25 hgB5 hg2 hg5 hn2 hg45 HB2 hs2 HP
  generalize w2.heap.size = g6 at *
  have HW : Hid (0 = 0) := Lib.hid rfl
  obtain ⟨hq0, hq1⟩ := hq
  have hops : op = 8 ∨ op = 9 ∨ op = 10 ∨ op = 11 ∨ op = 12 ∨ op = 13 ∨ op = 14 ∨ op = 15 := by omega
  clear ho0 ho1 hq0 hq1
  have hx0 := HR0.out.k0
  rcases hops with rfl | rfl | rfl | rfl | rfl | rfl | rfl | rfl
  · skip
    go_wp2_with fail
    refine (small_f HR0.out 1 (by omega) sS).mono ?_
    rintro e v0 ⟨rfl, hq⟩
    have HRn := Lib.hid hq
    clear hq HR0
    have HR0 := HRn
    clear HRn
    go_wp2_with fail
    refine (small_f HR0.out 2 (by omega) sR).mono ?_
    rintro e v1 ⟨rfl, hq⟩
    have HRn := Lib.hid hq
    clear hq HR0
    have HR0 := HRn
    clear HRn
    have x0 := HR0.out.k0
    have x1 := HR0.out.k1
    have x2 := HR0.out.k2
    have x3 := HR0.out.k3
    have x4 := HR0.out.k4
    have f1 := HR0.out.f1
    have f2 := HR0.out.f2
    have f3 := HR0.out.f3
    have f4 := HR0.out.f4
    clear hx0
    go_upto_region 34 with fail
    have hZ := ((HR0.out).st 3 (.int .u8 (smallF L 1 sS)) ⟨8, 0, 0, smallF L 1 sS, 0⟩ rfl).st 1 (.int .u8 (smallF L 2 sR)) ⟨8, smallF L 2 sR, 0, smallF L 1 sS, 0⟩ rfl
    have HCN : Hid (cand L = ⟨8, smallF L 2 sR, 0, smallF L 1 sS, 0⟩) := Lib.hid HCD.out
    have HY : Hid (Ins.Ok ⟨8, smallF L 2 sR, 0, smallF L 1 sS, 0⟩) := Lib.hid (by have := HOK.out; rw [HCN.out] at this; exact this)
    clear x0 x1 x2 x3 x4 f1 f2 f3 f4 HR0 HCD
    generalize ((v1.setCell ⟨g5, 3, none⟩ (.int .u8 (smallF L 1 sS))).setCell ⟨g5, 1, none⟩ (.int .u8 (smallF L 2 sR))) = wz at *
    have HZ := Lib.hid hZ
    have y0 := hZ.k0
    have y1 := hZ.k1
    have y2 := hZ.k2
    have y3 := hZ.k3
    have y4 := hZ.k4
    clear hZ
    by_cases hch : chk ⟨8, smallF L 2 sR, 0, smallF L 1 sS, 0⟩ = 0
    · by_cases he : txt ⟨8, smallF L 2 sR, 0, smallF L 1 sS, 0⟩ = s
      · have HX := fun wq hq => Text_ok ⟨8, smallF L 2 sR, 0, smallF L 1 sS, 0⟩ HY.out hch wq hq
        have HT := Lib.hid HX
        have HCH := Lib.hid hch
        have HE := Lib.hid he
        clear hch HX he
        go_wp2_with fail
        refine (HT.out _ (HZ.out.pw.below HZ.out.below)).mono ?_
        rintro e wt ⟨rfl, hbt⟩
        rw [HE.out]
        have HZt := Lib.hid (HZ.out.then_ hbt)
        clear hbt y0 y1 y2 y3 y4
        have y0 := HZt.out.k0
        have y1 := HZt.out.k1
        have y2 := HZt.out.k2
        have y3 := HZt.out.k3
        have y4 := HZt.out.k4
        have q0 := HZt.out.y0
        have q1 := HZt.out.y1
        have q2 := HZt.out.y2
        have q3 := HZt.out.y3
        have q4 := HZt.out.y4
        have f0 := HZt.out.z0
        have f1 := HZt.out.z1
        have f2 := HZt.out.z2
        have f3 := HZt.out.z3
        have f4 := HZt.out.z4
        go_wp2
        have hfin := set_block (set_block (set_block (set_block (set_block (HZt.out.c2) 0 (.int .u8 (8))) 1 (.int .u8 (smallF L 2 sR))) 2 (.int .u8 (0))) 3 (.int .u8 (smallF L 1 sS))) 4 (.int .u32 (0))
        have hbf : Below w.heap.size w (((((wt.setCell ⟨w.heap.size, 0, none⟩ (.int .u8 (8))).setCell ⟨w.heap.size, 1, none⟩ (.int .u8 (smallF L 2 sR))).setCell ⟨w.heap.size, 2, none⟩ (.int .u8 (0))).setCell ⟨w.heap.size, 3, none⟩ (.int .u8 (smallF L 1 sS))).setCell ⟨w.heap.size, 4, none⟩ (.int .u32 (0))) := (((((HZt.out.below.setCell (Nat.le_refl _) _).setCell (Nat.le_refl _) _).setCell (Nat.le_refl _) _).setCell (Nat.le_refl _) _).setCell (Nat.le_refl _) _)
        clear y0 y1 y2 y3 y4 q0 q1 q2 q3 q4 f0 f1 f2 f3 f4
        generalize (((((wt.setCell ⟨w.heap.size, 0, none⟩ (.int .u8 (8))).setCell ⟨w.heap.size, 1, none⟩ (.int .u8 (smallF L 2 sR))).setCell ⟨w.heap.size, 2, none⟩ (.int .u8 (0))).setCell ⟨w.heap.size, 3, none⟩ (.int .u8 (smallF L 1 sS))).setCell ⟨w.heap.size, 4, none⟩ (.int .u32 (0))) = wf at *
        have kf0 : wf.cell? ⟨w.heap.size, 0, none⟩ = some (.int .u8 (8)) := by rw [cell_of_row wf w.heap.size 0 _ _ _ hfin]; rfl
        have kf1 : wf.cell? ⟨w.heap.size, 1, none⟩ = some (.int .u8 (smallF L 2 sR)) := by rw [cell_of_row wf w.heap.size 1 _ _ _ hfin]; rfl
        have kf2 : wf.cell? ⟨w.heap.size, 2, none⟩ = some (.int .u8 (0)) := by rw [cell_of_row wf w.heap.size 2 _ _ _ hfin]; rfl
        have kf3 : wf.cell? ⟨w.heap.size, 3, none⟩ = some (.int .u8 (smallF L 1 sS)) := by rw [cell_of_row wf w.heap.size 3 _ _ _ hfin]; rfl
        have kf4 : wf.cell? ⟨w.heap.size, 4, none⟩ = some (.int .u32 (0)) := by rw [cell_of_row wf w.heap.size 4 _ _ _ hfin]; rfl
        clear hfin
        exact bodyPost_ret (v := .tuple #[.agg (⟨8, smallF L 2 sR, 0, smallF L 1 sS, 0⟩ : Ins).cells, .int .i64 0]) (by simp [results, Tryd.results15, go_sem, kf0, kf1, kf2, kf3, kf4]) rfl (rd_yes (by rw [HCN.out]; exact HCH.out) (by rw [HCN.out]; exact HE.out) (by rw [HCN.out]) hbf)
      · have HX := fun wq hq => Text_ok ⟨8, smallF L 2 sR, 0, smallF L 1 sS, 0⟩ HY.out hch wq hq
        have HE : Hid (¬ (chk (cand L) = 0 ∧ txt (cand L) = s)) := Lib.hid (by rw [HCN.out]; exact fun hh => he hh.2)
        generalize txt ⟨8, smallF L 2 sR, 0, smallF L 1 sS, 0⟩ = ty at *
        have hne : (ty.toList == s.toList) = false := (bytes_beq_false_iff _ _).2 he
        have HT := Lib.hid HX
        clear hch HX he
        go_wp2_with fail
        refine (HT.out _ (HZ.out.pw.below HZ.out.below)).mono ?_
        rintro e wt ⟨rfl, hbt⟩
        have HZt := Lib.hid (HZ.out.then_ hbt)
        clear hbt y0 y1 y2 y3 y4
        have y0 := HZt.out.k0
        have y1 := HZt.out.k1
        have y2 := HZt.out.k2
        have y3 := HZt.out.k3
        have y4 := HZt.out.k4
        have q0 := HZt.out.y0
        have q1 := HZt.out.y1
        have q2 := HZt.out.y2
        have q3 := HZt.out.y3
        have q4 := HZt.out.y4
        have f0 := HZt.out.z0
        have f1 := HZt.out.z1
        have f2 := HZt.out.z2
        have f3 := HZt.out.z3
        have f4 := HZt.out.z4
        go_wp2
        have hfin := set_block (set_block (set_block (set_block (set_block (HZt.out.c2) 0 (.int .u8 0)) 1 (.int .u8 0)) 2 (.int .u8 0)) 3 (.int .u8 0)) 4 (.int .u32 0)
        have hbf : Below w.heap.size w (((((wt.setCell ⟨w.heap.size, 0, none⟩ (.int .u8 0)).setCell ⟨w.heap.size, 1, none⟩ (.int .u8 0)).setCell ⟨w.heap.size, 2, none⟩ (.int .u8 0)).setCell ⟨w.heap.size, 3, none⟩ (.int .u8 0)).setCell ⟨w.heap.size, 4, none⟩ (.int .u32 0)) := (((((HZt.out.below.setCell (Nat.le_refl _) _).setCell (Nat.le_refl _) _).setCell (Nat.le_refl _) _).setCell (Nat.le_refl _) _).setCell (Nat.le_refl _) _)
        clear y0 y1 y2 y3 y4 q0 q1 q2 q3 q4 f0 f1 f2 f3 f4
        generalize (((((wt.setCell ⟨w.heap.size, 0, none⟩ (.int .u8 0)).setCell ⟨w.heap.size, 1, none⟩ (.int .u8 0)).setCell ⟨w.heap.size, 2, none⟩ (.int .u8 0)).setCell ⟨w.heap.size, 3, none⟩ (.int .u8 0)).setCell ⟨w.heap.size, 4, none⟩ (.int .u32 0)) = wf at *
        have kf0 : wf.cell? ⟨w.heap.size, 0, none⟩ = some (.int .u8 0) := by rw [cell_of_row wf w.heap.size 0 _ _ _ hfin]; rfl
        have kf1 : wf.cell? ⟨w.heap.size, 1, none⟩ = some (.int .u8 0) := by rw [cell_of_row wf w.heap.size 1 _ _ _ hfin]; rfl
        have kf2 : wf.cell? ⟨w.heap.size, 2, none⟩ = some (.int .u8 0) := by rw [cell_of_row wf w.heap.size 2 _ _ _ hfin]; rfl
        have kf3 : wf.cell? ⟨w.heap.size, 3, none⟩ = some (.int .u8 0) := by rw [cell_of_row wf w.heap.size 3 _ _ _ hfin]; rfl
        have kf4 : wf.cell? ⟨w.heap.size, 4, none⟩ = some (.int .u32 0) := by rw [cell_of_row wf w.heap.size 4 _ _ _ hfin]; rfl
        clear hfin
        exact bodyPost_ret (v := .tuple #[.agg #[.int .u8 0, .int .u8 0, .int .u8 0, .int .u8 0, .int .u32 0], .int .i64 3]) (by simp [results, Tryd.results15, go_sem, kf0, kf1, kf2, kf3, kf4]) rfl (rd_no HE.out rfl hbf)
    · have HX := fun wq => Text_bad ⟨8, smallF L 2 sR, 0, smallF L 1 sS, 0⟩ HY.out hch wq
      have HE : Hid (¬ (chk (cand L) = 0 ∧ txt (cand L) = s)) := Lib.hid (by rw [HCN.out]; exact fun hh => hch hh.1)
      generalize chk ⟨8, smallF L 2 sR, 0, smallF L 1 sS, 0⟩ = ty at *
      have hne : (ty != 0) = true := by rw [bne_iff_ne]; exact hch
      have HT := Lib.hid HX
      clear hch HX
      go_wp2_with fail
      refine (HT.out _).mono ?_
      rintro e wt ⟨rfl, hbt⟩
      have HZt := Lib.hid (HZ.out.then_ hbt)
      clear hbt y0 y1 y2 y3 y4
      have y0 := HZt.out.k0
      have y1 := HZt.out.k1
      have y2 := HZt.out.k2
      have y3 := HZt.out.k3
      have y4 := HZt.out.k4
      have q0 := HZt.out.y0
      have q1 := HZt.out.y1
      have q2 := HZt.out.y2
      have q3 := HZt.out.y3
      have q4 := HZt.out.y4
      have f0 := HZt.out.z0
      have f1 := HZt.out.z1
      have f2 := HZt.out.z2
      have f3 := HZt.out.z3
      have f4 := HZt.out.z4
      go_wp2
      have hfin := set_block (set_block (set_block (set_block (set_block (HZt.out.c2) 0 (.int .u8 0)) 1 (.int .u8 0)) 2 (.int .u8 0)) 3 (.int .u8 0)) 4 (.int .u32 0)
      have hbf : Below w.heap.size w (((((wt.setCell ⟨w.heap.size, 0, none⟩ (.int .u8 0)).setCell ⟨w.heap.size, 1, none⟩ (.int .u8 0)).setCell ⟨w.heap.size, 2, none⟩ (.int .u8 0)).setCell ⟨w.heap.size, 3, none⟩ (.int .u8 0)).setCell ⟨w.heap.size, 4, none⟩ (.int .u32 0)) := (((((HZt.out.below.setCell (Nat.le_refl _) _).setCell (Nat.le_refl _) _).setCell (Nat.le_refl _) _).setCell (Nat.le_refl _) _).setCell (Nat.le_refl _) _)
      clear y0 y1 y2 y3 y4 q0 q1 q2 q3 q4 f0 f1 f2 f3 f4
      generalize (((((wt.setCell ⟨w.heap.size, 0, none⟩ (.int .u8 0)).setCell ⟨w.heap.size, 1, none⟩ (.int .u8 0)).setCell ⟨w.heap.size, 2, none⟩ (.int .u8 0)).setCell ⟨w.heap.size, 3, none⟩ (.int .u8 0)).setCell ⟨w.heap.size, 4, none⟩ (.int .u32 0)) = wf at *
      have kf0 : wf.cell? ⟨w.heap.size, 0, none⟩ = some (.int .u8 0) := by rw [cell_of_row wf w.heap.size 0 _ _ _ hfin]; rfl
      have kf1 : wf.cell? ⟨w.heap.size, 1, none⟩ = some (.int .u8 0) := by rw [cell_of_row wf w.heap.size 1 _ _ _ hfin]; rfl
      have kf2 : wf.cell? ⟨w.heap.size, 2, none⟩ = some (.int .u8 0) := by rw [cell_of_row wf w.heap.size 2 _ _ _ hfin]; rfl
      have kf3 : wf.cell? ⟨w.heap.size, 3, none⟩ = some (.int .u8 0) := by rw [cell_of_row wf w.heap.size 3 _ _ _ hfin]; rfl
      have kf4 : wf.cell? ⟨w.heap.size, 4, none⟩ = some (.int .u32 0) := by rw [cell_of_row wf w.heap.size 4 _ _ _ hfin]; rfl
      clear hfin
      exact bodyPost_ret (v := .tuple #[.agg #[.int .u8 0, .int .u8 0, .int .u8 0, .int .u8 0, .int .u32 0], .int .i64 3]) (by simp [results, Tryd.results15, go_sem, kf0, kf1, kf2, kf3, kf4]) rfl (rd_no HE.out rfl hbf)
  · skip
    go_wp2_with fail
    refine (small_f HR0.out 1 (by omega) sR).mono ?_
    rintro e v0 ⟨rfl, hq⟩
    have HRn := Lib.hid hq
    clear hq HR0
    have HR0 := HRn
    clear HRn
    go_wp2_with fail
    refine (small_f HR0.out 2 (by omega) sS).mono ?_
    rintro e v1 ⟨rfl, hq⟩
    have HRn := Lib.hid hq
    clear hq HR0
    have HR0 := HRn
    clear HRn
    have x0 := HR0.out.k0
    have x1 := HR0.out.k1
    have x2 := HR0.out.k2
    have x3 := HR0.out.k3
    have x4 := HR0.out.k4
    have f1 := HR0.out.f1
    have f2 := HR0.out.f2
    have f3 := HR0.out.f3
    have f4 := HR0.out.f4
    clear hx0
    go_upto_region 34 with fail
    have hZ := ((HR0.out).st 1 (.int .u8 (smallF L 1 sR)) ⟨9, smallF L 1 sR, 0, c, 0⟩ rfl).st 3 (.int .u8 (smallF L 2 sS)) ⟨9, smallF L 1 sR, 0, smallF L 2 sS, 0⟩ rfl
    have HCN : Hid (cand L = ⟨9, smallF L 1 sR, 0, smallF L 2 sS, 0⟩) := Lib.hid HCD.out
    have HY : Hid (Ins.Ok ⟨9, smallF L 1 sR, 0, smallF L 2 sS, 0⟩) := Lib.hid (by have := HOK.out; rw [HCN.out] at this; exact this)
    clear x0 x1 x2 x3 x4 f1 f2 f3 f4 HR0 HCD
    generalize ((v1.setCell ⟨g5, 1, none⟩ (.int .u8 (smallF L 1 sR))).setCell ⟨g5, 3, none⟩ (.int .u8 (smallF L 2 sS))) = wz at *
    have HZ := Lib.hid hZ
    have y0 := hZ.k0
    have y1 := hZ.k1
    have y2 := hZ.k2
    have y3 := hZ.k3
    have y4 := hZ.k4
    clear hZ
    by_cases hch : chk ⟨9, smallF L 1 sR, 0, smallF L 2 sS, 0⟩ = 0
    · by_cases he : txt ⟨9, smallF L 1 sR, 0, smallF L 2 sS, 0⟩ = s
      · have HX := fun wq hq => Text_ok ⟨9, smallF L 1 sR, 0, smallF L 2 sS, 0⟩ HY.out hch wq hq
        have HT := Lib.hid HX
        have HCH := Lib.hid hch
        have HE := Lib.hid he
        clear hch HX he
        go_wp2_with fail
        refine (HT.out _ (HZ.out.pw.below HZ.out.below)).mono ?_
        rintro e wt ⟨rfl, hbt⟩
        rw [HE.out]
        have HZt := Lib.hid (HZ.out.then_ hbt)
        clear hbt y0 y1 y2 y3 y4
        have y0 := HZt.out.k0
        have y1 := HZt.out.k1
        have y2 := HZt.out.k2
        have y3 := HZt.out.k3
        have y4 := HZt.out.k4
        have q0 := HZt.out.y0
        have q1 := HZt.out.y1
        have q2 := HZt.out.y2
        have q3 := HZt.out.y3
        have q4 := HZt.out.y4
        have f0 := HZt.out.z0
        have f1 := HZt.out.z1
        have f2 := HZt.out.z2
        have f3 := HZt.out.z3
        have f4 := HZt.out.z4
        go_wp2
        have hfin := set_block (set_block (set_block (set_block (set_block (HZt.out.c2) 0 (.int .u8 (9))) 1 (.int .u8 (smallF L 1 sR))) 2 (.int .u8 (0))) 3 (.int .u8 (smallF L 2 sS))) 4 (.int .u32 (0))
        have hbf : Below w.heap.size w (((((wt.setCell ⟨w.heap.size, 0, none⟩ (.int .u8 (9))).setCell ⟨w.heap.size, 1, none⟩ (.int .u8 (smallF L 1 sR))).setCell ⟨w.heap.size, 2, none⟩ (.int .u8 (0))).setCell ⟨w.heap.size, 3, none⟩ (.int .u8 (smallF L 2 sS))).setCell ⟨w.heap.size, 4, none⟩ (.int .u32 (0))) := (((((HZt.out.below.setCell (Nat.le_refl _) _).setCell (Nat.le_refl _) _).setCell (Nat.le_refl _) _).setCell (Nat.le_refl _) _).setCell (Nat.le_refl _) _)
        clear y0 y1 y2 y3 y4 q0 q1 q2 q3 q4 f0 f1 f2 f3 f4
        generalize (((((wt.setCell ⟨w.heap.size, 0, none⟩ (.int .u8 (9))).setCell ⟨w.heap.size, 1, none⟩ (.int .u8 (smallF L 1 sR))).setCell ⟨w.heap.size, 2, none⟩ (.int .u8 (0))).setCell ⟨w.heap.size, 3, none⟩ (.int .u8 (smallF L 2 sS))).setCell ⟨w.heap.size, 4, none⟩ (.int .u32 (0))) = wf at *
        have kf0 : wf.cell? ⟨w.heap.size, 0, none⟩ = some (.int .u8 (9)) := by rw [cell_of_row wf w.heap.size 0 _ _ _ hfin]; rfl
        have kf1 : wf.cell? ⟨w.heap.size, 1, none⟩ = some (.int .u8 (smallF L 1 sR)) := by rw [cell_of_row wf w.heap.size 1 _ _ _ hfin]; rfl
        have kf2 : wf.cell? ⟨w.heap.size, 2, none⟩ = some (.int .u8 (0)) := by rw [cell_of_row wf w.heap.size 2 _ _ _ hfin]; rfl
        have kf3 : wf.cell? ⟨w.heap.size, 3, none⟩ = some (.int .u8 (smallF L 2 sS)) := by rw [cell_of_row wf w.heap.size 3 _ _ _ hfin]; rfl
        have kf4 : wf.cell? ⟨w.heap.size, 4, none⟩ = some (.int .u32 (0)) := by rw [cell_of_row wf w.heap.size 4 _ _ _ hfin]; rfl
        clear hfin
        exact bodyPost_ret (v := .tuple #[.agg (⟨9, smallF L 1 sR, 0, smallF L 2 sS, 0⟩ : Ins).cells, .int .i64 0]) (by simp [results, Tryd.results15, go_sem, kf0, kf1, kf2, kf3, kf4]) rfl (rd_yes (by rw [HCN.out]; exact HCH.out) (by rw [HCN.out]; exact HE.out) (by rw [HCN.out]) hbf)
      · have HX := fun wq hq => Text_ok ⟨9, smallF L 1 sR, 0, smallF L 2 sS, 0⟩ HY.out hch wq hq
        have HE : Hid (¬ (chk (cand L) = 0 ∧ txt (cand L) = s)) := Lib.hid (by rw [HCN.out]; exact fun hh => he hh.2)
        generalize txt ⟨9, smallF L 1 sR, 0, smallF L 2 sS, 0⟩ = ty at *
        have hne : (ty.toList == s.toList) = false := (bytes_beq_false_iff _ _).2 he
        have HT := Lib.hid HX
        clear hch HX he
        go_wp2_with fail
        refine (HT.out _ (HZ.out.pw.below HZ.out.below)).mono ?_
        rintro e wt ⟨rfl, hbt⟩
        have HZt := Lib.hid (HZ.out.then_ hbt)
        clear hbt y0 y1 y2 y3 y4
        have y0 := HZt.out.k0
        have y1 := HZt.out.k1
        have y2 := HZt.out.k2
        have y3 := HZt.out.k3
        have y4 := HZt.out.k4
        have q0 := HZt.out.y0
        have q1 := HZt.out.y1
        have q2 := HZt.out.y2
        have q3 := HZt.out.y3
        have q4 := HZt.out.y4
        have f0 := HZt.out.z0
        have f1 := HZt.out.z1
        have f2 := HZt.out.z2
        have f3 := HZt.out.z3
        have f4 := HZt.out.z4
        go_wp2
        have hfin := set_block (set_block (set_block (set_block (set_block (HZt.out.c2) 0 (.int .u8 0)) 1 (.int .u8 0)) 2 (.int .u8 0)) 3 (.int .u8 0)) 4 (.int .u32 0)
        have hbf : Below w.heap.size w (((((wt.setCell ⟨w.heap.size, 0, none⟩ (.int .u8 0)).setCell ⟨w.heap.size, 1, none⟩ (.int .u8 0)).setCell ⟨w.heap.size, 2, none⟩ (.int .u8 0)).setCell ⟨w.heap.size, 3, none⟩ (.int .u8 0)).setCell ⟨w.heap.size, 4, none⟩ (.int .u32 0)) := (((((HZt.out.below.setCell (Nat.le_refl _) _).setCell (Nat.le_refl _) _).setCell (Nat.le_refl _) _).setCell (Nat.le_refl _) _).setCell (Nat.le_refl _) _)
        clear y0 y1 y2 y3 y4 q0 q1 q2 q3 q4 f0 f1 f2 f3 f4
        generalize (((((wt.setCell ⟨w.heap.size, 0, none⟩ (.int .u8 0)).setCell ⟨w.heap.size, 1, none⟩ (.int .u8 0)).setCell ⟨w.heap.size, 2, none⟩ (.int .u8 0)).setCell ⟨w.heap.size, 3, none⟩ (.int .u8 0)).setCell ⟨w.heap.size, 4, none⟩ (.int .u32 0)) = wf at *
        have kf0 : wf.cell? ⟨w.heap.size, 0, none⟩ = some (.int .u8 0) := by rw [cell_of_row wf w.heap.size 0 _ _ _ hfin]; rfl
        have kf1 : wf.cell? ⟨w.heap.size, 1, none⟩ = some (.int .u8 0) := by rw [cell_of_row wf w.heap.size 1 _ _ _ hfin]; rfl
        have kf2 : wf.cell? ⟨w.heap.size, 2, none⟩ = some (.int .u8 0) := by rw [cell_of_row wf w.heap.size 2 _ _ _ hfin]; rfl
        have kf3 : wf.cell? ⟨w.heap.size, 3, none⟩ = some (.int .u8 0) := by rw [cell_of_row wf w.heap.size 3 _ _ _ hfin]; rfl
        have kf4 : wf.cell? ⟨w.heap.size, 4, none⟩ = some (.int .u32 0) := by rw [cell_of_row wf w.heap.size 4 _ _ _ hfin]; rfl
        clear hfin
        exact bodyPost_ret (v := .tuple #[.agg #[.int .u8 0, .int .u8 0, .int .u8 0, .int .u8 0, .int .u32 0], .int .i64 3]) (by simp [results, Tryd.results15, go_sem, kf0, kf1, kf2, kf3, kf4]) rfl (rd_no HE.out rfl hbf)
    · have HX := fun wq => Text_bad ⟨9, smallF L 1 sR, 0, smallF L 2 sS, 0⟩ HY.out hch wq
      have HE : Hid (¬ (chk (cand L) = 0 ∧ txt (cand L) = s)) := Lib.hid (by rw [HCN.out]; exact fun hh => hch hh.1)
      generalize chk ⟨9, smallF L 1 sR, 0, smallF L 2 sS, 0⟩ = ty at *
      have hne : (ty != 0) = true := by rw [bne_iff_ne]; exact hch
      have HT := Lib.hid HX
      clear hch HX
      go_wp2_with fail
      refine (HT.out _).mono ?_
      rintro e wt ⟨rfl, hbt⟩
      have HZt := Lib.hid (HZ.out.then_ hbt)
      clear hbt y0 y1 y2 y3 y4
      have y0 := HZt.out.k0
      have y1 := HZt.out.k1
      have y2 := HZt.out.k2
      have y3 := HZt.out.k3
      have y4 := HZt.out.k4
      have q0 := HZt.out.y0
      have q1 := HZt.out.y1
      have q2 := HZt.out.y2
      have q3 := HZt.out.y3
      have q4 := HZt.out.y4
      have f0 := HZt.out.z0
      have f1 := HZt.out.z1
      have f2 := HZt.out.z2
      have f3 := HZt.out.z3
      have f4 := HZt.out.z4
      go_wp2
      have hfin := set_block (set_block (set_block (set_block (set_block (HZt.out.c2) 0 (.int .u8 0)) 1 (.int .u8 0)) 2 (.int .u8 0)) 3 (.int .u8 0)) 4 (.int .u32 0)
      have hbf : Below w.heap.size w (((((wt.setCell ⟨w.heap.size, 0, none⟩ (.int .u8 0)).setCell ⟨w.heap.size, 1, none⟩ (.int .u8 0)).setCell ⟨w.heap.size, 2, none⟩ (.int .u8 0)).setCell ⟨w.heap.size, 3, none⟩ (.int .u8 0)).setCell ⟨w.heap.size, 4, none⟩ (.int .u32 0)) := (((((HZt.out.below.setCell (Nat.le_refl _) _).setCell (Nat.le_refl _) _).setCell (Nat.le_refl _) _).setCell (Nat.le_refl _) _).setCell (Nat.le_refl _) _)
      clear y0 y1 y2 y3 y4 q0 q1 q2 q3 q4 f0 f1 f2 f3 f4
      generalize (((((wt.setCell ⟨w.heap.size, 0, none⟩ (.int .u8 0)).setCell ⟨w.heap.size, 1, none⟩ (.int .u8 0)).setCell ⟨w.heap.size, 2, none⟩ (.int .u8 0)).setCell ⟨w.heap.size, 3, none⟩ (.int .u8 0)).setCell ⟨w.heap.size, 4, none⟩ (.int .u32 0)) = wf at *
      have kf0 : wf.cell? ⟨w.heap.size, 0, none⟩ = some (.int .u8 0) := by rw [cell_of_row wf w.heap.size 0 _ _ _ hfin]; rfl
      have kf1 : wf.cell? ⟨w.heap.size, 1, none⟩ = some (.int .u8 0) := by rw [cell_of_row wf w.heap.size 1 _ _ _ hfin]; rfl
      have kf2 : wf.cell? ⟨w.heap.size, 2, none⟩ = some (.int .u8 0) := by rw [cell_of_row wf w.heap.size 2 _ _ _ hfin]; rfl
      have kf3 : wf.cell? ⟨w.heap.size, 3, none⟩ = some (.int .u8 0) := by rw [cell_of_row wf w.heap.size 3 _ _ _ hfin]; rfl
      have kf4 : wf.cell? ⟨w.heap.size, 4, none⟩ = some (.int .u32 0) := by rw [cell_of_row wf w.heap.size 4 _ _ _ hfin]; rfl
      clear hfin
      exact bodyPost_ret (v := .tuple #[.agg #[.int .u8 0, .int .u8 0, .int .u8 0, .int .u8 0, .int .u32 0], .int .i64 3]) (by simp [results, Tryd.results15, go_sem, kf0, kf1, kf2, kf3, kf4]) rfl (rd_no HE.out rfl hbf)
  · skip
    go_wp2_with fail
    refine (small_f HR0.out 1 (by omega) sR).mono ?_
    rintro e v0 ⟨rfl, hq⟩
    have HRn := Lib.hid hq
    clear hq HR0
    have HR0 := HRn
    clear HRn
    go_wp2_with fail
    refine (small_f HR0.out 2 (by omega) sR).mono ?_
    rintro e v1 ⟨rfl, hq⟩
    have HRn := Lib.hid hq
    clear hq HR0
    have HR0 := HRn
    clear HRn
    go_wp2_with fail
    refine (small_f HR0.out 3 (by omega) sF).mono ?_
    rintro e v2 ⟨rfl, hq⟩
    have HRn := Lib.hid hq
    clear hq HR0
    have HR0 := HRn
    clear HRn
    go_wp2_with fail
    refine (wide_f HR0.out 4 (by omega) sE).mono ?_
    rintro e v3 ⟨rfl, hq⟩
    have HRn := Lib.hid hq
    clear hq HR0
    have HR0 := HRn
    clear HRn
    have x0 := HR0.out.k0
    have x1 := HR0.out.k1
    have x2 := HR0.out.k2
    have x3 := HR0.out.k3
    have x4 := HR0.out.k4
    have f1 := HR0.out.f1
    have f2 := HR0.out.f2
    have f3 := HR0.out.f3
    have f4 := HR0.out.f4
    clear hx0
    go_upto_region 34 with fail
    have hZ := ((((HR0.out).st 1 (.int .u8 (smallF L 1 sR)) ⟨10, smallF L 1 sR, 0, c, 0⟩ rfl).st 2 (.int .u8 (smallF L 2 sR)) ⟨10, smallF L 1 sR, smallF L 2 sR, c, 0⟩ rfl).st 3 (.int .u8 (smallF L 3 sF)) ⟨10, smallF L 1 sR, smallF L 2 sR, smallF L 3 sF, 0⟩ rfl).st 4 (.int .u32 (wideF L 4 sE)) ⟨10, smallF L 1 sR, smallF L 2 sR, smallF L 3 sF, wideF L 4 sE⟩ rfl
    have HCN : Hid (cand L = ⟨10, smallF L 1 sR, smallF L 2 sR, smallF L 3 sF, wideF L 4 sE⟩) := Lib.hid HCD.out
    have HY : Hid (Ins.Ok ⟨10, smallF L 1 sR, smallF L 2 sR, smallF L 3 sF, wideF L 4 sE⟩) := Lib.hid (by have := HOK.out; rw [HCN.out] at this; exact this)
    clear x0 x1 x2 x3 x4 f1 f2 f3 f4 HR0 HCD
    generalize ((((v3.setCell ⟨g5, 1, none⟩ (.int .u8 (smallF L 1 sR))).setCell ⟨g5, 2, none⟩ (.int .u8 (smallF L 2 sR))).setCell ⟨g5, 3, none⟩ (.int .u8 (smallF L 3 sF))).setCell ⟨g5, 4, none⟩ (.int .u32 (wideF L 4 sE))) = wz at *
    have HZ := Lib.hid hZ
    have y0 := hZ.k0
    have y1 := hZ.k1
    have y2 := hZ.k2
    have y3 := hZ.k3
    have y4 := hZ.k4
    clear hZ
    by_cases hch : chk ⟨10, smallF L 1 sR, smallF L 2 sR, smallF L 3 sF, wideF L 4 sE⟩ = 0
    · by_cases he : txt ⟨10, smallF L 1 sR, smallF L 2 sR, smallF L 3 sF, wideF L 4 sE⟩ = s
      · have HX := fun wq hq => Text_ok ⟨10, smallF L 1 sR, smallF L 2 sR, smallF L 3 sF, wideF L 4 sE⟩ HY.out hch wq hq
        have HT := Lib.hid HX
        have HCH := Lib.hid hch
        have HE := Lib.hid he
        clear hch HX he
        go_wp2_with fail
        refine (HT.out _ (HZ.out.pw.below HZ.out.below)).mono ?_
        rintro e wt ⟨rfl, hbt⟩
        rw [HE.out]
        have HZt := Lib.hid (HZ.out.then_ hbt)
        clear hbt y0 y1 y2 y3 y4
        have y0 := HZt.out.k0
        have y1 := HZt.out.k1
        have y2 := HZt.out.k2
        have y3 := HZt.out.k3
        have y4 := HZt.out.k4
        have q0 := HZt.out.y0
        have q1 := HZt.out.y1
        have q2 := HZt.out.y2
        have q3 := HZt.out.y3
        have q4 := HZt.out.y4
        have f0 := HZt.out.z0
        have f1 := HZt.out.z1
        have f2 := HZt.out.z2
        have f3 := HZt.out.z3
        have f4 := HZt.out.z4
        go_wp2
        have hfin := set_block (set_block (set_block (set_block (set_block (HZt.out.c2) 0 (.int .u8 (10))) 1 (.int .u8 (smallF L 1 sR))) 2 (.int .u8 (smallF L 2 sR))) 3 (.int .u8 (smallF L 3 sF))) 4 (.int .u32 (wideF L 4 sE))
        have hbf : Below w.heap.size w (((((wt.setCell ⟨w.heap.size, 0, none⟩ (.int .u8 (10))).setCell ⟨w.heap.size, 1, none⟩ (.int .u8 (smallF L 1 sR))).setCell ⟨w.heap.size, 2, none⟩ (.int .u8 (smallF L 2 sR))).setCell ⟨w.heap.size, 3, none⟩ (.int .u8 (smallF L 3 sF))).setCell ⟨w.heap.size, 4, none⟩ (.int .u32 (wideF L 4 sE))) := (((((HZt.out.below.setCell (Nat.le_refl _) _).setCell (Nat.le_refl _) _).setCell (Nat.le_refl _) _).setCell (Nat.le_refl _) _).setCell (Nat.le_refl _) _)
        clear y0 y1 y2 y3 y4 q0 q1 q2 q3 q4 f0 f1 f2 f3 f4
        generalize (((((wt.setCell ⟨w.heap.size, 0, none⟩ (.int .u8 (10))).setCell ⟨w.heap.size, 1, none⟩ (.int .u8 (smallF L 1 sR))).setCell ⟨w.heap.size, 2, none⟩ (.int .u8 (smallF L 2 sR))).setCell ⟨w.heap.size, 3, none⟩ (.int .u8 (smallF L 3 sF))).setCell ⟨w.heap.size, 4, none⟩ (.int .u32 (wideF L 4 sE))) = wf at *
        have kf0 : wf.cell? ⟨w.heap.size, 0, none⟩ = some (.int .u8 (10)) := by rw [cell_of_row wf w.heap.size 0 _ _ _ hfin]; rfl
        have kf1 : wf.cell? ⟨w.heap.size, 1, none⟩ = some (.int .u8 (smallF L 1 sR)) := by rw [cell_of_row wf w.heap.size 1 _ _ _ hfin]; rfl
        have kf2 : wf.cell? ⟨w.heap.size, 2, none⟩ = some (.int .u8 (smallF L 2 sR)) := by rw [cell_of_row wf w.heap.size 2 _ _ _ hfin]; rfl
        have kf3 : wf.cell? ⟨w.heap.size, 3, none⟩ = some (.int .u8 (smallF L 3 sF)) := by rw [cell_of_row wf w.heap.size 3 _ _ _ hfin]; rfl
        have kf4 : wf.cell? ⟨w.heap.size, 4, none⟩ = some (.int .u32 (wideF L 4 sE)) := by rw [cell_of_row wf w.heap.size 4 _ _ _ hfin]; rfl
        clear hfin
        exact bodyPost_ret (v := .tuple #[.agg (⟨10, smallF L 1 sR, smallF L 2 sR, smallF L 3 sF, wideF L 4 sE⟩ : Ins).cells, .int .i64 0]) (by simp [results, Tryd.results15, go_sem, kf0, kf1, kf2, kf3, kf4]) rfl (rd_yes (by rw [HCN.out]; exact HCH.out) (by rw [HCN.out]; exact HE.out) (by rw [HCN.out]) hbf)
      · have HX := fun wq hq => Text_ok ⟨10, smallF L 1 sR, smallF L 2 sR, smallF L 3 sF, wideF L 4 sE⟩ HY.out hch wq hq
        have HE : Hid (¬ (chk (cand L) = 0 ∧ txt (cand L) = s)) := Lib.hid (by rw [HCN.out]; exact fun hh => he hh.2)
        generalize txt ⟨10, smallF L 1 sR, smallF L 2 sR, smallF L 3 sF, wideF L 4 sE⟩ = ty at *
        have hne : (ty.toList == s.toList) = false := (bytes_beq_false_iff _ _).2 he
        have HT := Lib.hid HX
        clear hch HX he
        go_wp2_with fail
        refine (HT.out _ (HZ.out.pw.below HZ.out.below)).mono ?_
        rintro e wt ⟨rfl, hbt⟩
        have HZt := Lib.hid (HZ.out.then_ hbt)
        clear hbt y0 y1 y2 y3 y4
        have y0 := HZt.out.k0
        have y1 := HZt.out.k1
        have y2 := HZt.out.k2
        have y3 := HZt.out.k3
        have y4 := HZt.out.k4
        have q0 := HZt.out.y0
        have q1 := HZt.out.y1
        have q2 := HZt.out.y2
        have q3 := HZt.out.y3
        have q4 := HZt.out.y4
        have f0 := HZt.out.z0
        have f1 := HZt.out.z1
        have f2 := HZt.out.z2
        have f3 := HZt.out.z3
        have f4 := HZt.out.z4
        go_wp2
        have hfin := set_block (set_block (set_block (set_block (set_block (HZt.out.c2) 0 (.int .u8 0)) 1 (.int .u8 0)) 2 (.int .u8 0)) 3 (.int .u8 0)) 4 (.int .u32 0)
        have hbf : Below w.heap.size w (((((wt.setCell ⟨w.heap.size, 0, none⟩ (.int .u8 0)).setCell ⟨w.heap.size, 1, none⟩ (.int .u8 0)).setCell ⟨w.heap.size, 2, none⟩ (.int .u8 0)).setCell ⟨w.heap.size, 3, none⟩ (.int .u8 0)).setCell ⟨w.heap.size, 4, none⟩ (.int .u32 0)) := (((((HZt.out.below.setCell (Nat.le_refl _) _).setCell (Nat.le_refl _) _).setCell (Nat.le_refl _) _).setCell (Nat.le_refl _) _).setCell (Nat.le_refl _) _)
        clear y0 y1 y2 y3 y4 q0 q1 q2 q3 q4 f0 f1 f2 f3 f4
        generalize (((((wt.setCell ⟨w.heap.size, 0, none⟩ (.int .u8 0)).setCell ⟨w.heap.size, 1, none⟩ (.int .u8 0)).setCell ⟨w.heap.size, 2, none⟩ (.int .u8 0)).setCell ⟨w.heap.size, 3, none⟩ (.int .u8 0)).setCell ⟨w.heap.size, 4, none⟩ (.int .u32 0)) = wf at *
        have kf0 : wf.cell? ⟨w.heap.size, 0, none⟩ = some (.int .u8 0) := by rw [cell_of_row wf w.heap.size 0 _ _ _ hfin]; rfl
        have kf1 : wf.cell? ⟨w.heap.size, 1, none⟩ = some (.int .u8 0) := by rw [cell_of_row wf w.heap.size 1 _ _ _ hfin]; rfl
        have kf2 : wf.cell? ⟨w.heap.size, 2, none⟩ = some (.int .u8 0) := by rw [cell_of_row wf w.heap.size 2 _ _ _ hfin]; rfl
        have kf3 : wf.cell? ⟨w.heap.size, 3, none⟩ = some (.int .u8 0) := by rw [cell_of_row wf w.heap.size 3 _ _ _ hfin]; rfl
        have kf4 : wf.cell? ⟨w.heap.size, 4, none⟩ = some (.int .u32 0) := by rw [cell_of_row wf w.heap.size 4 _ _ _ hfin]; rfl
        clear hfin
        exact bodyPost_ret (v := .tuple #[.agg #[.int .u8 0, .int .u8 0, .int .u8 0, .int .u8 0, .int .u32 0], .int .i64 3]) (by simp [results, Tryd.results15, go_sem, kf0, kf1, kf2, kf3, kf4]) rfl (rd_no HE.out rfl hbf)
    · have HX := fun wq => Text_bad ⟨10, smallF L 1 sR, smallF L 2 sR, smallF L 3 sF, wideF L 4 sE⟩ HY.out hch wq
      have HE : Hid (¬ (chk (cand L) = 0 ∧ txt (cand L) = s)) := Lib.hid (by rw [HCN.out]; exact fun hh => hch hh.1)
      generalize chk ⟨10, smallF L 1 sR, smallF L 2 sR, smallF L 3 sF, wideF L 4 sE⟩ = ty at *
      have hne : (ty != 0) = true := by rw [bne_iff_ne]; exact hch
      have HT := Lib.hid HX
      clear hch HX
      go_wp2_with fail
      refine (HT.out _).mono ?_
      rintro e wt ⟨rfl, hbt⟩
      have HZt := Lib.hid (HZ.out.then_ hbt)
      clear hbt y0 y1 y2 y3 y4
      have y0 := HZt.out.k0
      have y1 := HZt.out.k1
      have y2 := HZt.out.k2
      have y3 := HZt.out.k3
      have y4 := HZt.out.k4
      have q0 := HZt.out.y0
      have q1 := HZt.out.y1
      have q2 := HZt.out.y2
      have q3 := HZt.out.y3
      have q4 := HZt.out.y4
      have f0 := HZt.out.z0
      have f1 := HZt.out.z1
      have f2 := HZt.out.z2
      have f3 := HZt.out.z3
      have f4 := HZt.out.z4
      go_wp2
      have hfin := set_block (set_block (set_block (set_block (set_block (HZt.out.c2) 0 (.int .u8 0)) 1 (.int .u8 0)) 2 (.int .u8 0)) 3 (.int .u8 0)) 4 (.int .u32 0)
      have hbf : Below w.heap.size w (((((wt.setCell ⟨w.heap.size, 0, none⟩ (.int .u8 0)).setCell ⟨w.heap.size, 1, none⟩ (.int .u8 0)).setCell ⟨w.heap.size, 2, none⟩ (.int .u8 0)).setCell ⟨w.heap.size, 3, none⟩ (.int .u8 0)).setCell ⟨w.heap.size, 4, none⟩ (.int .u32 0)) := (((((HZt.out.below.setCell (Nat.le_refl _) _).setCell (Nat.le_refl _) _).setCell (Nat.le_refl _) _).setCell (Nat.le_refl _) _).setCell (Nat.le_refl _) _)
      clear y0 y1 y2 y3 y4 q0 q1 q2 q3 q4 f0 f1 f2 f3 f4
      generalize (((((wt.setCell ⟨w.heap.size, 0, none⟩ (.int .u8 0)).setCell ⟨w.heap.size, 1, none⟩ (.int .u8 0)).setCell ⟨w.heap.size, 2, none⟩ (.int .u8 0)).setCell ⟨w.heap.size, 3, none⟩ (.int .u8 0)).setCell ⟨w.heap.size, 4, none⟩ (.int .u32 0)) = wf at *
      have kf0 : wf.cell? ⟨w.heap.size, 0, none⟩ = some (.int .u8 0) := by rw [cell_of_row wf w.heap.size 0 _ _ _ hfin]; rfl
      have kf1 : wf.cell? ⟨w.heap.size, 1, none⟩ = some (.int .u8 0) := by rw [cell_of_row wf w.heap.size 1 _ _ _ hfin]; rfl
      have kf2 : wf.cell? ⟨w.heap.size, 2, none⟩ = some (.int .u8 0) := by rw [cell_of_row wf w.heap.size 2 _ _ _ hfin]; rfl
      have kf3 : wf.cell? ⟨w.heap.size, 3, none⟩ = some (.int .u8 0) := by rw [cell_of_row wf w.heap.size 3 _ _ _ hfin]; rfl
      have kf4 : wf.cell? ⟨w.heap.size, 4, none⟩ = some (.int .u32 0) := by rw [cell_of_row wf w.heap.size 4 _ _ _ hfin]; rfl
      clear hfin
      exact bodyPost_ret (v := .tuple #[.agg #[.int .u8 0, .int .u8 0, .int .u8 0, .int .u8 0, .int .u32 0], .int .i64 3]) (by simp [results, Tryd.results15, go_sem, kf0, kf1, kf2, kf3, kf4]) rfl (rd_no HE.out rfl hbf)
  · skip
    go_wp2_with fail
    refine (small_f HR0.out 1 (by omega) sR).mono ?_
    rintro e v0 ⟨rfl, hq⟩
    have HRn := Lib.hid hq
    clear hq HR0
    have HR0 := HRn
    clear HRn
    go_wp2_with fail
    refine (small_f HR0.out 2 (by omega) sR).mono ?_
    rintro e v1 ⟨rfl, hq⟩
    have HRn := Lib.hid hq
    clear hq HR0
    have HR0 := HRn
    clear HRn
    go_wp2_with fail
    refine (small_f HR0.out 3 (by omega) sF).mono ?_
    rintro e v2 ⟨rfl, hq⟩
    have HRn := Lib.hid hq
    clear hq HR0
    have HR0 := HRn
    clear HRn
    go_wp2_with fail
    refine (wide_f HR0.out 4 (by omega) sR).mono ?_
    rintro e v3 ⟨rfl, hq⟩
    have HRn := Lib.hid hq
    clear hq HR0
    have HR0 := HRn
    clear HRn
    have x0 := HR0.out.k0
    have x1 := HR0.out.k1
    have x2 := HR0.out.k2
    have x3 := HR0.out.k3
    have x4 := HR0.out.k4
    have f1 := HR0.out.f1
    have f2 := HR0.out.f2
    have f3 := HR0.out.f3
    have f4 := HR0.out.f4
    clear hx0
    go_upto_region 34 with fail
    have hZ := ((((HR0.out).st 1 (.int .u8 (smallF L 1 sR)) ⟨11, smallF L 1 sR, 0, c, 0⟩ rfl).st 2 (.int .u8 (smallF L 2 sR)) ⟨11, smallF L 1 sR, smallF L 2 sR, c, 0⟩ rfl).st 3 (.int .u8 (smallF L 3 sF)) ⟨11, smallF L 1 sR, smallF L 2 sR, smallF L 3 sF, 0⟩ rfl).st 4 (.int .u32 (wideF L 4 sR)) ⟨11, smallF L 1 sR, smallF L 2 sR, smallF L 3 sF, wideF L 4 sR⟩ rfl
    have HCN : Hid (cand L = ⟨11, smallF L 1 sR, smallF L 2 sR, smallF L 3 sF, wideF L 4 sR⟩) := Lib.hid HCD.out
    have HY : Hid (Ins.Ok ⟨11, smallF L 1 sR, smallF L 2 sR, smallF L 3 sF, wideF L 4 sR⟩) := Lib.hid (by have := HOK.out; rw [HCN.out] at this; exact this)
    clear x0 x1 x2 x3 x4 f1 f2 f3 f4 HR0 HCD
    generalize ((((v3.setCell ⟨g5, 1, none⟩ (.int .u8 (smallF L 1 sR))).setCell ⟨g5, 2, none⟩ (.int .u8 (smallF L 2 sR))).setCell ⟨g5, 3, none⟩ (.int .u8 (smallF L 3 sF))).setCell ⟨g5, 4, none⟩ (.int .u32 (wideF L 4 sR))) = wz at *
    have HZ := Lib.hid hZ
    have y0 := hZ.k0
    have y1 := hZ.k1
    have y2 := hZ.k2
    have y3 := hZ.k3
    have y4 := hZ.k4
    clear hZ
    by_cases hch : chk ⟨11, smallF L 1 sR, smallF L 2 sR, smallF L 3 sF, wideF L 4 sR⟩ = 0
    · by_cases he : txt ⟨11, smallF L 1 sR, smallF L 2 sR, smallF L 3 sF, wideF L 4 sR⟩ = s
      · have HX := fun wq hq => Text_ok ⟨11, smallF L 1 sR, smallF L 2 sR, smallF L 3 sF, wideF L 4 sR⟩ HY.out hch wq hq
        have HT := Lib.hid HX
        have HCH := Lib.hid hch
        have HE := Lib.hid he
        clear hch HX he
        go_wp2_with fail
        refine (HT.out _ (HZ.out.pw.below HZ.out.below)).mono ?_
        rintro e wt ⟨rfl, hbt⟩
        rw [HE.out]
        have HZt := Lib.hid (HZ.out.then_ hbt)
        clear hbt y0 y1 y2 y3 y4
        have y0 := HZt.out.k0
        have y1 := HZt.out.k1
        have y2 := HZt.out.k2
        have y3 := HZt.out.k3
        have y4 := HZt.out.k4
        have q0 := HZt.out.y0
        have q1 := HZt.out.y1
        have q2 := HZt.out.y2
        have q3 := HZt.out.y3
        have q4 := HZt.out.y4
        have f0 := HZt.out.z0
        have f1 := HZt.out.z1
        have f2 := HZt.out.z2
        have f3 := HZt.out.z3
        have f4 := HZt.out.z4
        go_wp2
        have hfin := set_block (set_block (set_block (set_block (set_block (HZt.out.c2) 0 (.int .u8 (11))) 1 (.int .u8 (smallF L 1 sR))) 2 (.int .u8 (smallF L 2 sR))) 3 (.int .u8 (smallF L 3 sF))) 4 (.int .u32 (wideF L 4 sR))
        have hbf : Below w.heap.size w (((((wt.setCell ⟨w.heap.size, 0, none⟩ (.int .u8 (11))).setCell ⟨w.heap.size, 1, none⟩ (.int .u8 (smallF L 1 sR))).setCell ⟨w.heap.size, 2, none⟩ (.int .u8 (smallF L 2 sR))).setCell ⟨w.heap.size, 3, none⟩ (.int .u8 (smallF L 3 sF))).setCell ⟨w.heap.size, 4, none⟩ (.int .u32 (wideF L 4 sR))) := (((((HZt.out.below.setCell (Nat.le_refl _) _).setCell (Nat.le_refl _) _).setCell (Nat.le_refl _) _).setCell (Nat.le_refl _) _).setCell (Nat.le_refl _) _)
        clear y0 y1 y2 y3 y4 q0 q1 q2 q3 q4 f0 f1 f2 f3 f4
        generalize (((((wt.setCell ⟨w.heap.size, 0, none⟩ (.int .u8 (11))).setCell ⟨w.heap.size, 1, none⟩ (.int .u8 (smallF L 1 sR))).setCell ⟨w.heap.size, 2, none⟩ (.int .u8 (smallF L 2 sR))).setCell ⟨w.heap.size, 3, none⟩ (.int .u8 (smallF L 3 sF))).setCell ⟨w.heap.size, 4, none⟩ (.int .u32 (wideF L 4 sR))) = wf at *
        have kf0 : wf.cell? ⟨w.heap.size, 0, none⟩ = some (.int .u8 (11)) := by rw [cell_of_row wf w.heap.size 0 _ _ _ hfin]; rfl
        have kf1 : wf.cell? ⟨w.heap.size, 1, none⟩ = some (.int .u8 (smallF L 1 sR)) := by rw [cell_of_row wf w.heap.size 1 _ _ _ hfin]; rfl
        have kf2 : wf.cell? ⟨w.heap.size, 2, none⟩ = some (.int .u8 (smallF L 2 sR)) := by rw [cell_of_row wf w.heap.size 2 _ _ _ hfin]; rfl
        have kf3 : wf.cell? ⟨w.heap.size, 3, none⟩ = some (.int .u8 (smallF L 3 sF)) := by rw [cell_of_row wf w.heap.size 3 _ _ _ hfin]; rfl
        have kf4 : wf.cell? ⟨w.heap.size, 4, none⟩ = some (.int .u32 (wideF L 4 sR)) := by rw [cell_of_row wf w.heap.size 4 _ _ _ hfin]; rfl
        clear hfin
        exact bodyPost_ret (v := .tuple #[.agg (⟨11, smallF L 1 sR, smallF L 2 sR, smallF L 3 sF, wideF L 4 sR⟩ : Ins).cells, .int .i64 0]) (by simp [results, Tryd.results15, go_sem, kf0, kf1, kf2, kf3, kf4]) rfl (rd_yes (by rw [HCN.out]; exact HCH.out) (by rw [HCN.out]; exact HE.out) (by rw [HCN.out]) hbf)
      · have HX := fun wq hq => Text_ok ⟨11, smallF L 1 sR, smallF L 2 sR, smallF L 3 sF, wideF L 4 sR⟩ HY.out hch wq hq
        have HE : Hid (¬ (chk (cand L) = 0 ∧ txt (cand L) = s)) := Lib.hid (by rw [HCN.out]; exact fun hh => he hh.2)
        generalize txt ⟨11, smallF L 1 sR, smallF L 2 sR, smallF L 3 sF, wideF L 4 sR⟩ = ty at *
        have hne : (ty.toList == s.toList) = false := (bytes_beq_false_iff _ _).2 he
        have HT := Lib.hid HX
        clear hch HX he
        go_wp2_with fail
        refine (HT.out _ (HZ.out.pw.below HZ.out.below)).mono ?_
        rintro e wt ⟨rfl, hbt⟩
        have HZt := Lib.hid (HZ.out.then_ hbt)
        clear hbt y0 y1 y2 y3 y4
        have y0 := HZt.out.k0
        have y1 := HZt.out.k1
        have y2 := HZt.out.k2
        have y3 := HZt.out.k3
        have y4 := HZt.out.k4
        have q0 := HZt.out.y0
        have q1 := HZt.out.y1
        have q2 := HZt.out.y2
        have q3 := HZt.out.y3
        have q4 := HZt.out.y4
        have f0 := HZt.out.z0
        have f1 := HZt.out.z1
        have f2 := HZt.out.z2
        have f3 := HZt.out.z3
        have f4 := HZt.out.z4
        go_wp2
        have hfin := set_block (set_block (set_block (set_block (set_block (HZt.out.c2) 0 (.int .u8 0)) 1 (.int .u8 0)) 2 (.int .u8 0)) 3 (.int .u8 0)) 4 (.int .u32 0)
        have hbf : Below w.heap.size w (((((wt.setCell ⟨w.heap.size, 0, none⟩ (.int .u8 0)).setCell ⟨w.heap.size, 1, none⟩ (.int .u8 0)).setCell ⟨w.heap.size, 2, none⟩ (.int .u8 0)).setCell ⟨w.heap.size, 3, none⟩ (.int .u8 0)).setCell ⟨w.heap.size, 4, none⟩ (.int .u32 0)) := (((((HZt.out.below.setCell (Nat.le_refl _) _).setCell (Nat.le_refl _) _).setCell (Nat.le_refl _) _).setCell (Nat.le_refl _) _).setCell (Nat.le_refl _) _)
        clear y0 y1 y2 y3 y4 q0 q1 q2 q3 q4 f0 f1 f2 f3 f4
        generalize (((((wt.setCell ⟨w.heap.size, 0, none⟩ (.int .u8 0)).setCell ⟨w.heap.size, 1, none⟩ (.int .u8 0)).setCell ⟨w.heap.size, 2, none⟩ (.int .u8 0)).setCell ⟨w.heap.size, 3, none⟩ (.int .u8 0)).setCell ⟨w.heap.size, 4, none⟩ (.int .u32 0)) = wf at *
        have kf0 : wf.cell? ⟨w.heap.size, 0, none⟩ = some (.int .u8 0) := by rw [cell_of_row wf w.heap.size 0 _ _ _ hfin]; rfl
        have kf1 : wf.cell? ⟨w.heap.size, 1, none⟩ = some (.int .u8 0) := by rw [cell_of_row wf w.heap.size 1 _ _ _ hfin]; rfl
        have kf2 : wf.cell? ⟨w.heap.size, 2, none⟩ = some (.int .u8 0) := by rw [cell_of_row wf w.heap.size 2 _ _ _ hfin]; rfl
        have kf3 : wf.cell? ⟨w.heap.size, 3, none⟩ = some (.int .u8 0) := by rw [cell_of_row wf w.heap.size 3 _ _ _ hfin]; rfl
        have kf4 : wf.cell? ⟨w.heap.size, 4, none⟩ = some (.int .u32 0) := by rw [cell_of_row wf w.heap.size 4 _ _ _ hfin]; rfl
        clear hfin
        exact bodyPost_ret (v := .tuple #[.agg #[.int .u8 0, .int .u8 0, .int .u8 0, .int .u8 0, .int .u32 0], .int .i64 3]) (by simp [results, Tryd.results15, go_sem, kf0, kf1, kf2, kf3, kf4]) rfl (rd_no HE.out rfl hbf)
    · have HX := fun wq => Text_bad ⟨11, smallF L 1 sR, smallF L 2 sR, smallF L 3 sF, wideF L 4 sR⟩ HY.out hch wq
      have HE : Hid (¬ (chk (cand L) = 0 ∧ txt (cand L) = s)) := Lib.hid (by rw [HCN.out]; exact fun hh => hch hh.1)
      generalize chk ⟨11, smallF L 1 sR, smallF L 2 sR, smallF L 3 sF, wideF L 4 sR⟩ = ty at *
      have hne : (ty != 0) = true := by rw [bne_iff_ne]; exact hch
      have HT := Lib.hid HX
      clear hch HX
      go_wp2_with fail
      refine (HT.out _).mono ?_
      rintro e wt ⟨rfl, hbt⟩
      have HZt := Lib.hid (HZ.out.then_ hbt)
      clear hbt y0 y1 y2 y3 y4
      have y0 := HZt.out.k0
      have y1 := HZt.out.k1
      have y2 := HZt.out.k2
      have y3 := HZt.out.k3
      have y4 := HZt.out.k4
      have q0 := HZt.out.y0
      have q1 := HZt.out.y1
      have q2 := HZt.out.y2
      have q3 := HZt.out.y3
      have q4 := HZt.out.y4
      have f0 := HZt.out.z0
      have f1 := HZt.out.z1
      have f2 := HZt.out.z2
      have f3 := HZt.out.z3
      have f4 := HZt.out.z4
      go_wp2
      have hfin := set_block (set_block (set_block (set_block (set_block (HZt.out.c2) 0 (.int .u8 0)) 1 (.int .u8 0)) 2 (.int .u8 0)) 3 (.int .u8 0)) 4 (.int .u32 0)
      have hbf : Below w.heap.size w (((((wt.setCell ⟨w.heap.size, 0, none⟩ (.int .u8 0)).setCell ⟨w.heap.size, 1, none⟩ (.int .u8 0)).setCell ⟨w.heap.size, 2, none⟩ (.int .u8 0)).setCell ⟨w.heap.size, 3, none⟩ (.int .u8 0)).setCell ⟨w.heap.size, 4, none⟩ (.int .u32 0)) := (((((HZt.out.below.setCell (Nat.le_refl _) _).setCell (Nat.le_refl _) _).setCell (Nat.le_refl _) _).setCell (Nat.le_refl _) _).setCell (Nat.le_refl _) _)
      clear y0 y1 y2 y3 y4 q0 q1 q2 q3 q4 f0 f1 f2 f3 f4
      generalize (((((wt.setCell ⟨w.heap.size, 0, none⟩ (.int .u8 0)).setCell ⟨w.heap.size, 1, none⟩ (.int .u8 0)).setCell ⟨w.heap.size, 2, none⟩ (.int .u8 0)).setCell ⟨w.heap.size, 3, none⟩ (.int .u8 0)).setCell ⟨w.heap.size, 4, none⟩ (.int .u32 0)) = wf at *
      have kf0 : wf.cell? ⟨w.heap.size, 0, none⟩ = some (.int .u8 0) := by rw [cell_of_row wf w.heap.size 0 _ _ _ hfin]; rfl
      have kf1 : wf.cell? ⟨w.heap.size, 1, none⟩ = some (.int .u8 0) := by rw [cell_of_row wf w.heap.size 1 _ _ _ hfin]; rfl
      have kf2 : wf.cell? ⟨w.heap.size, 2, none⟩ = some (.int .u8 0) := by rw [cell_of_row wf w.heap.size 2 _ _ _ hfin]; rfl
      have kf3 : wf.cell? ⟨w.heap.size, 3, none⟩ = some (.int .u8 0) := by rw [cell_of_row wf w.heap.size 3 _ _ _ hfin]; rfl
      have kf4 : wf.cell? ⟨w.heap.size, 4, none⟩ = some (.int .u32 0) := by rw [cell_of_row wf w.heap.size 4 _ _ _ hfin]; rfl
      clear hfin
      exact bodyPost_ret (v := .tuple #[.agg #[.int .u8 0, .int .u8 0, .int .u8 0, .int .u8 0, .int .u32 0], .int .i64 3]) (by simp [results, Tryd.results15, go_sem, kf0, kf1, kf2, kf3, kf4]) rfl (rd_no HE.out rfl hbf)
  · skip
    go_wp2_with fail
    refine (small_f HR0.out 1 (by omega) sR).mono ?_
    rintro e v0 ⟨rfl, hq⟩
    have HRn := Lib.hid hq
    clear hq HR0
    have HR0 := HRn
    clear HRn
    go_wp2_with fail
    refine (small_f HR0.out 2 (by omega) sF).mono ?_
    rintro e v1 ⟨rfl, hq⟩
    have HRn := Lib.hid hq
    clear hq HR0
    have HR0 := HRn
    clear HRn
    go_wp2_with fail
    refine (wide_f HR0.out 3 (by omega) sE).mono ?_
    rintro e v2 ⟨rfl, hq⟩
    have HRn := Lib.hid hq
    clear hq HR0
    have HR0 := HRn
    clear HRn
    go_wp2_with fail
    refine (small_f HR0.out 4 (by omega) sR).mono ?_
    rintro e v3 ⟨rfl, hq⟩
    have HRn := Lib.hid hq
    clear hq HR0
    have HR0 := HRn
    clear HRn
    have x0 := HR0.out.k0
    have x1 := HR0.out.k1
    have x2 := HR0.out.k2
    have x3 := HR0.out.k3
    have x4 := HR0.out.k4
    have f1 := HR0.out.f1
    have f2 := HR0.out.f2
    have f3 := HR0.out.f3
    have f4 := HR0.out.f4
    clear hx0
    go_upto_region 34 with fail
    have hZ := ((((HR0.out).st 2 (.int .u8 (smallF L 1 sR)) ⟨12, 0, smallF L 1 sR, c, 0⟩ rfl).st 3 (.int .u8 (smallF L 2 sF)) ⟨12, 0, smallF L 1 sR, smallF L 2 sF, 0⟩ rfl).st 4 (.int .u32 (wideF L 3 sE)) ⟨12, 0, smallF L 1 sR, smallF L 2 sF, wideF L 3 sE⟩ rfl).st 1 (.int .u8 (smallF L 4 sR)) ⟨12, smallF L 4 sR, smallF L 1 sR, smallF L 2 sF, wideF L 3 sE⟩ rfl
    have HCN : Hid (cand L = ⟨12, smallF L 4 sR, smallF L 1 sR, smallF L 2 sF, wideF L 3 sE⟩) := Lib.hid HCD.out
    have HY : Hid (Ins.Ok ⟨12, smallF L 4 sR, smallF L 1 sR, smallF L 2 sF, wideF L 3 sE⟩) := Lib.hid (by have := HOK.out; rw [HCN.out] at this; exact this)
    clear x0 x1 x2 x3 x4 f1 f2 f3 f4 HR0 HCD
    generalize ((((v3.setCell ⟨g5, 2, none⟩ (.int .u8 (smallF L 1 sR))).setCell ⟨g5, 3, none⟩ (.int .u8 (smallF L 2 sF))).setCell ⟨g5, 4, none⟩ (.int .u32 (wideF L 3 sE))).setCell ⟨g5, 1, none⟩ (.int .u8 (smallF L 4 sR))) = wz at *
    have HZ := Lib.hid hZ
    have y0 := hZ.k0
    have y1 := hZ.k1
    have y2 := hZ.k2
    have y3 := hZ.k3
    have y4 := hZ.k4
    clear hZ
    by_cases hch : chk ⟨12, smallF L 4 sR, smallF L 1 sR, smallF L 2 sF, wideF L 3 sE⟩ = 0
    · by_cases he : txt ⟨12, smallF L 4 sR, smallF L 1 sR, smallF L 2 sF, wideF L 3 sE⟩ = s
      · have HX := fun wq hq => Text_ok ⟨12, smallF L 4 sR, smallF L 1 sR, smallF L 2 sF, wideF L 3 sE⟩ HY.out hch wq hq
        have HT := Lib.hid HX
        have HCH := Lib.hid hch
        have HE := Lib.hid he
        clear hch HX he
        go_wp2_with fail
        refine (HT.out _ (HZ.out.pw.below HZ.out.below)).mono ?_
        rintro e wt ⟨rfl, hbt⟩
        rw [HE.out]
        have HZt := Lib.hid (HZ.out.then_ hbt)
        clear hbt y0 y1 y2 y3 y4
        have y0 := HZt.out.k0
        have y1 := HZt.out.k1
        have y2 := HZt.out.k2
        have y3 := HZt.out.k3
        have y4 := HZt.out.k4
        have q0 := HZt.out.y0
        have q1 := HZt.out.y1
        have q2 := HZt.out.y2
        have q3 := HZt.out.y3
        have q4 := HZt.out.y4
        have f0 := HZt.out.z0
        have f1 := HZt.out.z1
        have f2 := HZt.out.z2
        have f3 := HZt.out.z3
        have f4 := HZt.out.z4
        go_wp2
        have hfin := set_block (set_block (set_block (set_block (set_block (HZt.out.c2) 0 (.int .u8 (12))) 1 (.int .u8 (smallF L 4 sR))) 2 (.int .u8 (smallF L 1 sR))) 3 (.int .u8 (smallF L 2 sF))) 4 (.int .u32 (wideF L 3 sE))
        have hbf : Below w.heap.size w (((((wt.setCell ⟨w.heap.size, 0, none⟩ (.int .u8 (12))).setCell ⟨w.heap.size, 1, none⟩ (.int .u8 (smallF L 4 sR))).setCell ⟨w.heap.size, 2, none⟩ (.int .u8 (smallF L 1 sR))).setCell ⟨w.heap.size, 3, none⟩ (.int .u8 (smallF L 2 sF))).setCell ⟨w.heap.size, 4, none⟩ (.int .u32 (wideF L 3 sE))) := (((((HZt.out.below.setCell (Nat.le_refl _) _).setCell (Nat.le_refl _) _).setCell (Nat.le_refl _) _).setCell (Nat.le_refl _) _).setCell (Nat.le_refl _) _)
        clear y0 y1 y2 y3 y4 q0 q1 q2 q3 q4 f0 f1 f2 f3 f4
        generalize (((((wt.setCell ⟨w.heap.size, 0, none⟩ (.int .u8 (12))).setCell ⟨w.heap.size, 1, none⟩ (.int .u8 (smallF L 4 sR))).setCell ⟨w.heap.size, 2, none⟩ (.int .u8 (smallF L 1 sR))).setCell ⟨w.heap.size, 3, none⟩ (.int .u8 (smallF L 2 sF))).setCell ⟨w.heap.size, 4, none⟩ (.int .u32 (wideF L 3 sE))) = wf at *
        have kf0 : wf.cell? ⟨w.heap.size, 0, none⟩ = some (.int .u8 (12)) := by rw [cell_of_row wf w.heap.size 0 _ _ _ hfin]; rfl
        have kf1 : wf.cell? ⟨w.heap.size, 1, none⟩ = some (.int .u8 (smallF L 4 sR)) := by rw [cell_of_row wf w.heap.size 1 _ _ _ hfin]; rfl
        have kf2 : wf.cell? ⟨w.heap.size, 2, none⟩ = some (.int .u8 (smallF L 1 sR)) := by rw [cell_of_row wf w.heap.size 2 _ _ _ hfin]; rfl
        have kf3 : wf.cell? ⟨w.heap.size, 3, none⟩ = some (.int .u8 (smallF L 2 sF)) := by rw [cell_of_row wf w.heap.size 3 _ _ _ hfin]; rfl
        have kf4 : wf.cell? ⟨w.heap.size, 4, none⟩ = some (.int .u32 (wideF L 3 sE)) := by rw [cell_of_row wf w.heap.size 4 _ _ _ hfin]; rfl
        clear hfin
        exact bodyPost_ret (v := .tuple #[.agg (⟨12, smallF L 4 sR, smallF L 1 sR, smallF L 2 sF, wideF L 3 sE⟩ : Ins).cells, .int .i64 0]) (by simp [results, Tryd.results15, go_sem, kf0, kf1, kf2, kf3, kf4]) rfl (rd_yes (by rw [HCN.out]; exact HCH.out) (by rw [HCN.out]; exact HE.out) (by rw [HCN.out]) hbf)
      · have HX := fun wq hq => Text_ok ⟨12, smallF L 4 sR, smallF L 1 sR, smallF L 2 sF, wideF L 3 sE⟩ HY.out hch wq hq
        have HE : Hid (¬ (chk (cand L) = 0 ∧ txt (cand L) = s)) := Lib.hid (by rw [HCN.out]; exact fun hh => he hh.2)
        generalize txt ⟨12, smallF L 4 sR, smallF L 1 sR, smallF L 2 sF, wideF L 3 sE⟩ = ty at *
        have hne : (ty.toList == s.toList) = false := (bytes_beq_false_iff _ _).2 he
        have HT := Lib.hid HX
        clear hch HX he
        go_wp2_with fail
        refine (HT.out _ (HZ.out.pw.below HZ.out.below)).mono ?_
        rintro e wt ⟨rfl, hbt⟩
        have HZt := Lib.hid (HZ.out.then_ hbt)
        clear hbt y0 y1 y2 y3 y4
        have y0 := HZt.out.k0
        have y1 := HZt.out.k1
        have y2 := HZt.out.k2
        have y3 := HZt.out.k3
        have y4 := HZt.out.k4
        have q0 := HZt.out.y0
        have q1 := HZt.out.y1
        have q2 := HZt.out.y2
        have q3 := HZt.out.y3
        have q4 := HZt.out.y4
        have f0 := HZt.out.z0
        have f1 := HZt.out.z1
        have f2 := HZt.out.z2
        have f3 := HZt.out.z3
        have f4 := HZt.out.z4
        go_wp2
        have hfin := set_block (set_block (set_block (set_block (set_block (HZt.out.c2) 0 (.int .u8 0)) 1 (.int .u8 0)) 2 (.int .u8 0)) 3 (.int .u8 0)) 4 (.int .u32 0)
        have hbf : Below w.heap.size w (((((wt.setCell ⟨w.heap.size, 0, none⟩ (.int .u8 0)).setCell ⟨w.heap.size, 1, none⟩ (.int .u8 0)).setCell ⟨w.heap.size, 2, none⟩ (.int .u8 0)).setCell ⟨w.heap.size, 3, none⟩ (.int .u8 0)).setCell ⟨w.heap.size, 4, none⟩ (.int .u32 0)) := (((((HZt.out.below.setCell (Nat.le_refl _) _).setCell (Nat.le_refl _) _).setCell (Nat.le_refl _) _).setCell (Nat.le_refl _) _).setCell (Nat.le_refl _) _)
        clear y0 y1 y2 y3 y4 q0 q1 q2 q3 q4 f0 f1 f2 f3 f4
        generalize (((((wt.setCell ⟨w.heap.size, 0, none⟩ (.int .u8 0)).setCell ⟨w.heap.size, 1, none⟩ (.int .u8 0)).setCell ⟨w.heap.size, 2, none⟩ (.int .u8 0)).setCell ⟨w.heap.size, 3, none⟩ (.int .u8 0)).setCell ⟨w.heap.size, 4, none⟩ (.int .u32 0)) = wf at *
        have kf0 : wf.cell? ⟨w.heap.size, 0, none⟩ = some (.int .u8 0) := by rw [cell_of_row wf w.heap.size 0 _ _ _ hfin]; rfl
        have kf1 : wf.cell? ⟨w.heap.size, 1, none⟩ = some (.int .u8 0) := by rw [cell_of_row wf w.heap.size 1 _ _ _ hfin]; rfl
        have kf2 : wf.cell? ⟨w.heap.size, 2, none⟩ = some (.int .u8 0) := by rw [cell_of_row wf w.heap.size 2 _ _ _ hfin]; rfl
        have kf3 : wf.cell? ⟨w.heap.size, 3, none⟩ = some (.int .u8 0) := by rw [cell_of_row wf w.heap.size 3 _ _ _ hfin]; rfl
        have kf4 : wf.cell? ⟨w.heap.size, 4, none⟩ = some (.int .u32 0) := by rw [cell_of_row wf w.heap.size 4 _ _ _ hfin]; rfl
        clear hfin
        exact bodyPost_ret (v := .tuple #[.agg #[.int .u8 0, .int .u8 0, .int .u8 0, .int .u8 0, .int .u32 0], .int .i64 3]) (by simp [results, Tryd.results15, go_sem, kf0, kf1, kf2, kf3, kf4]) rfl (rd_no HE.out rfl hbf)
    · have HX := fun wq => Text_bad ⟨12, smallF L 4 sR, smallF L 1 sR, smallF L 2 sF, wideF L 3 sE⟩ HY.out hch wq
      have HE : Hid (¬ (chk (cand L) = 0 ∧ txt (cand L) = s)) := Lib.hid (by rw [HCN.out]; exact fun hh => hch hh.1)
      generalize chk ⟨12, smallF L 4 sR, smallF L 1 sR, smallF L 2 sF, wideF L 3 sE⟩ = ty at *
      have hne : (ty != 0) = true := by rw [bne_iff_ne]; exact hch
      have HT := Lib.hid HX
      clear hch HX
      go_wp2_with fail
      refine (HT.out _).mono ?_
      rintro e wt ⟨rfl, hbt⟩
      have HZt := Lib.hid (HZ.out.then_ hbt)
      clear hbt y0 y1 y2 y3 y4
      have y0 := HZt.out.k0
      have y1 := HZt.out.k1
      have y2 := HZt.out.k2
      have y3 := HZt.out.k3
      have y4 := HZt.out.k4
      have q0 := HZt.out.y0
      have q1 := HZt.out.y1
      have q2 := HZt.out.y2
      have q3 := HZt.out.y3
      have q4 := HZt.out.y4
      have f0 := HZt.out.z0
      have f1 := HZt.out.z1
      have f2 := HZt.out.z2
      have f3 := HZt.out.z3
      have f4 := HZt.out.z4
      go_wp2
      have hfin := set_block (set_block (set_block (set_block (set_block (HZt.out.c2) 0 (.int .u8 0)) 1 (.int .u8 0)) 2 (.int .u8 0)) 3 (.int .u8 0)) 4 (.int .u32 0)
      have hbf : Below w.heap.size w (((((wt.setCell ⟨w.heap.size, 0, none⟩ (.int .u8 0)).setCell ⟨w.heap.size, 1, none⟩ (.int .u8 0)).setCell ⟨w.heap.size, 2, none⟩ (.int .u8 0)).setCell ⟨w.heap.size, 3, none⟩ (.int .u8 0)).setCell ⟨w.heap.size, 4, none⟩ (.int .u32 0)) := (((((HZt.out.below.setCell (Nat.le_refl _) _).setCell (Nat.le_refl _) _).setCell (Nat.le_refl _) _).setCell (Nat.le_refl _) _).setCell (Nat.le_refl _) _)
      clear y0 y1 y2 y3 y4 q0 q1 q2 q3 q4 f0 f1 f2 f3 f4
      generalize (((((wt.setCell ⟨w.heap.size, 0, none⟩ (.int .u8 0)).setCell ⟨w.heap.size, 1, none⟩ (.int .u8 0)).setCell ⟨w.heap.size, 2, none⟩ (.int .u8 0)).setCell ⟨w.heap.size, 3, none⟩ (.int .u8 0)).setCell ⟨w.heap.size, 4, none⟩ (.int .u32 0)) = wf at *
      have kf0 : wf.cell? ⟨w.heap.size, 0, none⟩ = some (.int .u8 0) := by rw [cell_of_row wf w.heap.size 0 _ _ _ hfin]; rfl
      have kf1 : wf.cell? ⟨w.heap.size, 1, none⟩ = some (.int .u8 0) := by rw [cell_of_row wf w.heap.size 1 _ _ _ hfin]; rfl
      have kf2 : wf.cell? ⟨w.heap.size, 2, none⟩ = some (.int .u8 0) := by rw [cell_of_row wf w.heap.size 2 _ _ _ hfin]; rfl
      have kf3 : wf.cell? ⟨w.heap.size, 3, none⟩ = some (.int .u8 0) := by rw [cell_of_row wf w.heap.size 3 _ _ _ hfin]; rfl
      have kf4 : wf.cell? ⟨w.heap.size, 4, none⟩ = some (.int .u32 0) := by rw [cell_of_row wf w.heap.size 4 _ _ _ hfin]; rfl
      clear hfin
      exact bodyPost_ret (v := .tuple #[.agg #[.int .u8 0, .int .u8 0, .int .u8 0, .int .u8 0, .int .u32 0], .int .i64 3]) (by simp [results, Tryd.results15, go_sem, kf0, kf1, kf2, kf3, kf4]) rfl (rd_no HE.out rfl hbf)
  · skip
    go_wp2_with fail
    refine (small_f HR0.out 1 (by omega) sR).mono ?_
    rintro e v0 ⟨rfl, hq⟩
    have HRn := Lib.hid hq
    clear hq HR0
    have HR0 := HRn
    clear HRn
    go_wp2_with fail
    refine (small_f HR0.out 2 (by omega) sF).mono ?_
    rintro e v1 ⟨rfl, hq⟩
    have HRn := Lib.hid hq
    clear hq HR0
    have HR0 := HRn
    clear HRn
    go_wp2_with fail
    refine (wide_f HR0.out 3 (by omega) sR).mono ?_
    rintro e v2 ⟨rfl, hq⟩
    have HRn := Lib.hid hq
    clear hq HR0
    have HR0 := HRn
    clear HRn
    go_wp2_with fail
    refine (small_f HR0.out 4 (by omega) sR).mono ?_
    rintro e v3 ⟨rfl, hq⟩
    have HRn := Lib.hid hq
    clear hq HR0
    have HR0 := HRn
    clear HRn
    have x0 := HR0.out.k0
    have x1 := HR0.out.k1
    have x2 := HR0.out.k2
    have x3 := HR0.out.k3
    have x4 := HR0.out.k4
    have f1 := HR0.out.f1
    have f2 := HR0.out.f2
    have f3 := HR0.out.f3
    have f4 := HR0.out.f4
    clear hx0
    go_upto_region 34 with fail
    have hZ := ((((HR0.out).st 2 (.int .u8 (smallF L 1 sR)) ⟨13, 0, smallF L 1 sR, c, 0⟩ rfl).st 3 (.int .u8 (smallF L 2 sF)) ⟨13, 0, smallF L 1 sR, smallF L 2 sF, 0⟩ rfl).st 4 (.int .u32 (wideF L 3 sR)) ⟨13, 0, smallF L 1 sR, smallF L 2 sF, wideF L 3 sR⟩ rfl).st 1 (.int .u8 (smallF L 4 sR)) ⟨13, smallF L 4 sR, smallF L 1 sR, smallF L 2 sF, wideF L 3 sR⟩ rfl
    have HCN : Hid (cand L = ⟨13, smallF L 4 sR, smallF L 1 sR, smallF L 2 sF, wideF L 3 sR⟩) := Lib.hid HCD.out
    have HY : Hid (Ins.Ok ⟨13, smallF L 4 sR, smallF L 1 sR, smallF L 2 sF, wideF L 3 sR⟩) := Lib.hid (by have := HOK.out; rw [HCN.out] at this; exact this)
    clear x0 x1 x2 x3 x4 f1 f2 f3 f4 HR0 HCD
    generalize ((((v3.setCell ⟨g5, 2, none⟩ (.int .u8 (smallF L 1 sR))).setCell ⟨g5, 3, none⟩ (.int .u8 (smallF L 2 sF))).setCell ⟨g5, 4, none⟩ (.int .u32 (wideF L 3 sR))).setCell ⟨g5, 1, none⟩ (.int .u8 (smallF L 4 sR))) = wz at *
    have HZ := Lib.hid hZ
    have y0 := hZ.k0
    have y1 := hZ.k1
    have y2 := hZ.k2
    have y3 := hZ.k3
    have y4 := hZ.k4
    clear hZ
    by_cases hch : chk ⟨13, smallF L 4 sR, smallF L 1 sR, smallF L 2 sF, wideF L 3 sR⟩ = 0
    · by_cases he : txt ⟨13, smallF L 4 sR, smallF L 1 sR, smallF L 2 sF, wideF L 3 sR⟩ = s
      · have HX := fun wq hq => Text_ok ⟨13, smallF L 4 sR, smallF L 1 sR, smallF L 2 sF, wideF L 3 sR⟩ HY.out hch wq hq
        have HT := Lib.hid HX
        have HCH := Lib.hid hch
        have HE := Lib.hid he
        clear hch HX he
        go_wp2_with fail
        refine (HT.out _ (HZ.out.pw.below HZ.out.below)).mono ?_
        rintro e wt ⟨rfl, hbt⟩
        rw [HE.out]
        have HZt := Lib.hid (HZ.out.then_ hbt)
        clear hbt y0 y1 y2 y3 y4
        have y0 := HZt.out.k0
        have y1 := HZt.out.k1
        have y2 := HZt.out.k2
        have y3 := HZt.out.k3
        have y4 := HZt.out.k4
        have q0 := HZt.out.y0
        have q1 := HZt.out.y1
        have q2 := HZt.out.y2
        have q3 := HZt.out.y3
        have q4 := HZt.out.y4
        have f0 := HZt.out.z0
        have f1 := HZt.out.z1
        have f2 := HZt.out.z2
        have f3 := HZt.out.z3
        have f4 := HZt.out.z4
        go_wp2
        have hfin := set_block (set_block (set_block (set_block (set_block (HZt.out.c2) 0 (.int .u8 (13))) 1 (.int .u8 (smallF L 4 sR))) 2 (.int .u8 (smallF L 1 sR))) 3 (.int .u8 (smallF L 2 sF))) 4 (.int .u32 (wideF L 3 sR))
        have hbf : Below w.heap.size w (((((wt.setCell ⟨w.heap.size, 0, none⟩ (.int .u8 (13))).setCell ⟨w.heap.size, 1, none⟩ (.int .u8 (smallF L 4 sR))).setCell ⟨w.heap.size, 2, none⟩ (.int .u8 (smallF L 1 sR))).setCell ⟨w.heap.size, 3, none⟩ (.int .u8 (smallF L 2 sF))).setCell ⟨w.heap.size, 4, none⟩ (.int .u32 (wideF L 3 sR))) := (((((HZt.out.below.setCell (Nat.le_refl _) _).setCell (Nat.le_refl _) _).setCell (Nat.le_refl _) _).setCell (Nat.le_refl _) _).setCell (Nat.le_refl _) _)
        clear y0 y1 y2 y3 y4 q0 q1 q2 q3 q4 f0 f1 f2 f3 f4
        generalize (((((wt.setCell ⟨w.heap.size, 0, none⟩ (.int .u8 (13))).setCell ⟨w.heap.size, 1, none⟩ (.int .u8 (smallF L 4 sR))).setCell ⟨w.heap.size, 2, none⟩ (.int .u8 (smallF L 1 sR))).setCell ⟨w.heap.size, 3, none⟩ (.int .u8 (smallF L 2 sF))).setCell ⟨w.heap.size, 4, none⟩ (.int .u32 (wideF L 3 sR))) = wf at *
        have kf0 : wf.cell? ⟨w.heap.size, 0, none⟩ = some (.int .u8 (13)) := by rw [cell_of_row wf w.heap.size 0 _ _ _ hfin]; rfl
        have kf1 : wf.cell? ⟨w.heap.size, 1, none⟩ = some (.int .u8 (smallF L 4 sR)) := by rw [cell_of_row wf w.heap.size 1 _ _ _ hfin]; rfl
        have kf2 : wf.cell? ⟨w.heap.size, 2, none⟩ = some (.int .u8 (smallF L 1 sR)) := by rw [cell_of_row wf w.heap.size 2 _ _ _ hfin]; rfl
        have kf3 : wf.cell? ⟨w.heap.size, 3, none⟩ = some (.int .u8 (smallF L 2 sF)) := by rw [cell_of_row wf w.heap.size 3 _ _ _ hfin]; rfl
        have kf4 : wf.cell? ⟨w.heap.size, 4, none⟩ = some (.int .u32 (wideF L 3 sR)) := by rw [cell_of_row wf w.heap.size 4 _ _ _ hfin]; rfl
        clear hfin
        exact bodyPost_ret (v := .tuple #[.agg (⟨13, smallF L 4 sR, smallF L 1 sR, smallF L 2 sF, wideF L 3 sR⟩ : Ins).cells, .int .i64 0]) (by simp [results, Tryd.results15, go_sem, kf0, kf1, kf2, kf3, kf4]) rfl (rd_yes (by rw [HCN.out]; exact HCH.out) (by rw [HCN.out]; exact HE.out) (by rw [HCN.out]) hbf)
      · have HX := fun wq hq => Text_ok ⟨13, smallF L 4 sR, smallF L 1 sR, smallF L 2 sF, wideF L 3 sR⟩ HY.out hch wq hq
        have HE : Hid (¬ (chk (cand L) = 0 ∧ txt (cand L) = s)) := Lib.hid (by rw [HCN.out]; exact fun hh => he hh.2)
        generalize txt ⟨13, smallF L 4 sR, smallF L 1 sR, smallF L 2 sF, wideF L 3 sR⟩ = ty at *
        have hne : (ty.toList == s.toList) = false := (bytes_beq_false_iff _ _).2 he
        have HT := Lib.hid HX
        clear hch HX he
        go_wp2_with fail
        refine (HT.out _ (HZ.out.pw.below HZ.out.below)).mono ?_
        rintro e wt ⟨rfl, hbt⟩
        have HZt := Lib.hid (HZ.out.then_ hbt)
        clear hbt y0 y1 y2 y3 y4
        have y0 := HZt.out.k0
        have y1 := HZt.out.k1
        have y2 := HZt.out.k2
        have y3 := HZt.out.k3
        have y4 := HZt.out.k4
        have q0 := HZt.out.y0
        have q1 := HZt.out.y1
        have q2 := HZt.out.y2
        have q3 := HZt.out.y3
        have q4 := HZt.out.y4
        have f0 := HZt.out.z0
        have f1 := HZt.out.z1
        have f2 := HZt.out.z2
        have f3 := HZt.out.z3
        have f4 := HZt.out.z4
        go_wp2
        have hfin := set_block (set_block (set_block (set_block (set_block (HZt.out.c2) 0 (.int .u8 0)) 1 (.int .u8 0)) 2 (.int .u8 0)) 3 (.int .u8 0)) 4 (.int .u32 0)
        have hbf : Below w.heap.size w (((((wt.setCell ⟨w.heap.size, 0, none⟩ (.int .u8 0)).setCell ⟨w.heap.size, 1, none⟩ (.int .u8 0)).setCell ⟨w.heap.size, 2, none⟩ (.int .u8 0)).setCell ⟨w.heap.size, 3, none⟩ (.int .u8 0)).setCell ⟨w.heap.size, 4, none⟩ (.int .u32 0)) := (((((HZt.out.below.setCell (Nat.le_refl _) _).setCell (Nat.le_refl _) _).setCell (Nat.le_refl _) _).setCell (Nat.le_refl _) _).setCell (Nat.le_refl _) _)
        clear y0 y1 y2 y3 y4 q0 q1 q2 q3 q4 f0 f1 f2 f3 f4
        generalize (((((wt.setCell ⟨w.heap.size, 0, none⟩ (.int .u8 0)).setCell ⟨w.heap.size, 1, none⟩ (.int .u8 0)).setCell ⟨w.heap.size, 2, none⟩ (.int .u8 0)).setCell ⟨w.heap.size, 3, none⟩ (.int .u8 0)).setCell ⟨w.heap.size, 4, none⟩ (.int .u32 0)) = wf at *
        have kf0 : wf.cell? ⟨w.heap.size, 0, none⟩ = some (.int .u8 0) := by rw [cell_of_row wf w.heap.size 0 _ _ _ hfin]; rfl
        have kf1 : wf.cell? ⟨w.heap.size, 1, none⟩ = some (.int .u8 0) := by rw [cell_of_row wf w.heap.size 1 _ _ _ hfin]; rfl
        have kf2 : wf.cell? ⟨w.heap.size, 2, none⟩ = some (.int .u8 0) := by rw [cell_of_row wf w.heap.size 2 _ _ _ hfin]; rfl
        have kf3 : wf.cell? ⟨w.heap.size, 3, none⟩ = some (.int .u8 0) := by rw [cell_of_row wf w.heap.size 3 _ _ _ hfin]; rfl
        have kf4 : wf.cell? ⟨w.heap.size, 4, none⟩ = some (.int .u32 0) := by rw [cell_of_row wf w.heap.size 4 _ _ _ hfin]; rfl
        clear hfin
        exact bodyPost_ret (v := .tuple #[.agg #[.int .u8 0, .int .u8 0, .int .u8 0, .int .u8 0, .int .u32 0], .int .i64 3]) (by simp [results, Tryd.results15, go_sem, kf0, kf1, kf2, kf3, kf4]) rfl (rd_no HE.out rfl hbf)
    · have HX := fun wq => Text_bad ⟨13, smallF L 4 sR, smallF L 1 sR, smallF L 2 sF, wideF L 3 sR⟩ HY.out hch wq
      have HE : Hid (¬ (chk (cand L) = 0 ∧ txt (cand L) = s)) := Lib.hid (by rw [HCN.out]; exact fun hh => hch hh.1)
      generalize chk ⟨13, smallF L 4 sR, smallF L 1 sR, smallF L 2 sF, wideF L 3 sR⟩ = ty at *
      have hne : (ty != 0) = true := by rw [bne_iff_ne]; exact hch
      have HT := Lib.hid HX
      clear hch HX
      go_wp2_with fail
      refine (HT.out _).mono ?_
      rintro e wt ⟨rfl, hbt⟩
      have HZt := Lib.hid (HZ.out.then_ hbt)
      clear hbt y0 y1 y2 y3 y4
      have y0 := HZt.out.k0
      have y1 := HZt.out.k1
      have y2 := HZt.out.k2
      have y3 := HZt.out.k3
      have y4 := HZt.out.k4
      have q0 := HZt.out.y0
      have q1 := HZt.out.y1
      have q2 := HZt.out.y2
      have q3 := HZt.out.y3
      have q4 := HZt.out.y4
      have f0 := HZt.out.z0
      have f1 := HZt.out.z1
      have f2 := HZt.out.z2
      have f3 := HZt.out.z3
      have f4 := HZt.out.z4
      go_wp2
      have hfin := set_block (set_block (set_block (set_block (set_block (HZt.out.c2) 0 (.int .u8 0)) 1 (.int .u8 0)) 2 (.int .u8 0)) 3 (.int .u8 0)) 4 (.int .u32 0)
      have hbf : Below w.heap.size w (((((wt.setCell ⟨w.heap.size, 0, none⟩ (.int .u8 0)).setCell ⟨w.heap.size, 1, none⟩ (.int .u8 0)).setCell ⟨w.heap.size, 2, none⟩ (.int .u8 0)).setCell ⟨w.heap.size, 3, none⟩ (.int .u8 0)).setCell ⟨w.heap.size, 4, none⟩ (.int .u32 0)) := (((((HZt.out.below.setCell (Nat.le_refl _) _).setCell (Nat.le_refl _) _).setCell (Nat.le_refl _) _).setCell (Nat.le_refl _) _).setCell (Nat.le_refl _) _)
      clear y0 y1 y2 y3 y4 q0 q1 q2 q3 q4 f0 f1 f2 f3 f4
      generalize (((((wt.setCell ⟨w.heap.size, 0, none⟩ (.int .u8 0)).setCell ⟨w.heap.size, 1, none⟩ (.int .u8 0)).setCell ⟨w.heap.size, 2, none⟩ (.int .u8 0)).setCell ⟨w.heap.size, 3, none⟩ (.int .u8 0)).setCell ⟨w.heap.size, 4, none⟩ (.int .u32 0)) = wf at *
      have kf0 : wf.cell? ⟨w.heap.size, 0, none⟩ = some (.int .u8 0) := by rw [cell_of_row wf w.heap.size 0 _ _ _ hfin]; rfl
      have kf1 : wf.cell? ⟨w.heap.size, 1, none⟩ = some (.int .u8 0) := by rw [cell_of_row wf w.heap.size 1 _ _ _ hfin]; rfl
      have kf2 : wf.cell? ⟨w.heap.size, 2, none⟩ = some (.int .u8 0) := by rw [cell_of_row wf w.heap.size 2 _ _ _ hfin]; rfl
      have kf3 : wf.cell? ⟨w.heap.size, 3, none⟩ = some (.int .u8 0) := by rw [cell_of_row wf w.heap.size 3 _ _ _ hfin]; rfl
      have kf4 : wf.cell? ⟨w.heap.size, 4, none⟩ = some (.int .u32 0) := by rw [cell_of_row wf w.heap.size 4 _ _ _ hfin]; rfl
      clear hfin
      exact bodyPost_ret (v := .tuple #[.agg #[.int .u8 0, .int .u8 0, .int .u8 0, .int .u8 0, .int .u32 0], .int .i64 3]) (by simp [results, Tryd.results15, go_sem, kf0, kf1, kf2, kf3, kf4]) rfl (rd_no HE.out rfl hbf)
  · skip
    have k6 := HR0.out.r.k6
    go_wp2_with fail
    refine (at_any HR0.out.r 1 (by omega)).mono ?_
    rintro e v0 ⟨rfl, rfl⟩
    clear k6
    go_wp2_with fail
    refine (place_any 14 (by omega) (ptAt L 1) _).mono ?_
    rintro e v1 ⟨rfl, hb⟩
    have HRn := Lib.hid (HR0.out.then_ hb)
    clear hb HR0
    have HR0 := HRn
    clear HRn
    go_wp2_with fail
    refine (wide_f HR0.out 2 (by omega) sE).mono ?_
    rintro e v2 ⟨rfl, hq⟩
    have HRn := Lib.hid hq
    clear hq HR0
    have HR0 := HRn
    clear HRn
    have x0 := HR0.out.k0
    have x1 := HR0.out.k1
    have x2 := HR0.out.k2
    have x3 := HR0.out.k3
    have x4 := HR0.out.k4
    have f1 := HR0.out.f1
    have f2 := HR0.out.f2
    have f3 := HR0.out.f3
    have f4 := HR0.out.f4
    clear hx0
    go_upto_region 34 with fail
    have hZ := ((HR0.out).st 3 (.int .u8 (placeF 14 (ptAt L 1))) ⟨14, 0, 0, placeF 14 (ptAt L 1), 0⟩ rfl).st 4 (.int .u32 (wideF L 2 sE)) ⟨14, 0, 0, placeF 14 (ptAt L 1), wideF L 2 sE⟩ rfl
    have HCN : Hid (cand L = ⟨14, 0, 0, placeF 14 (ptAt L 1), wideF L 2 sE⟩) := Lib.hid HCD.out
    have HY : Hid (Ins.Ok ⟨14, 0, 0, placeF 14 (ptAt L 1), wideF L 2 sE⟩) := Lib.hid (by have := HOK.out; rw [HCN.out] at this; exact this)
    clear x0 x1 x2 x3 x4 f1 f2 f3 f4 HR0 HCD
    generalize ((v2.setCell ⟨g5, 3, none⟩ (.int .u8 (placeF 14 (ptAt L 1)))).setCell ⟨g5, 4, none⟩ (.int .u32 (wideF L 2 sE))) = wz at *
    have HZ := Lib.hid hZ
    have y0 := hZ.k0
    have y1 := hZ.k1
    have y2 := hZ.k2
    have y3 := hZ.k3
    have y4 := hZ.k4
    clear hZ
    by_cases hch : chk ⟨14, 0, 0, placeF 14 (ptAt L 1), wideF L 2 sE⟩ = 0
    · by_cases he : txt ⟨14, 0, 0, placeF 14 (ptAt L 1), wideF L 2 sE⟩ = s
      · have HX := fun wq hq => Text_ok ⟨14, 0, 0, placeF 14 (ptAt L 1), wideF L 2 sE⟩ HY.out hch wq hq
        have HT := Lib.hid HX
        have HCH := Lib.hid hch
        have HE := Lib.hid he
        clear hch HX he
        go_wp2_with fail
        refine (HT.out _ (HZ.out.pw.below HZ.out.below)).mono ?_
        rintro e wt ⟨rfl, hbt⟩
        rw [HE.out]
        have HZt := Lib.hid (HZ.out.then_ hbt)
        clear hbt y0 y1 y2 y3 y4
        have y0 := HZt.out.k0
        have y1 := HZt.out.k1
        have y2 := HZt.out.k2
        have y3 := HZt.out.k3
        have y4 := HZt.out.k4
        have q0 := HZt.out.y0
        have q1 := HZt.out.y1
        have q2 := HZt.out.y2
        have q3 := HZt.out.y3
        have q4 := HZt.out.y4
        have f0 := HZt.out.z0
        have f1 := HZt.out.z1
        have f2 := HZt.out.z2
        have f3 := HZt.out.z3
        have f4 := HZt.out.z4
        go_wp2
        have hfin := set_block (set_block (set_block (set_block (set_block (HZt.out.c2) 0 (.int .u8 (14))) 1 (.int .u8 (0))) 2 (.int .u8 (0))) 3 (.int .u8 (placeF 14 (ptAt L 1)))) 4 (.int .u32 (wideF L 2 sE))
        have hbf : Below w.heap.size w (((((wt.setCell ⟨w.heap.size, 0, none⟩ (.int .u8 (14))).setCell ⟨w.heap.size, 1, none⟩ (.int .u8 (0))).setCell ⟨w.heap.size, 2, none⟩ (.int .u8 (0))).setCell ⟨w.heap.size, 3, none⟩ (.int .u8 (placeF 14 (ptAt L 1)))).setCell ⟨w.heap.size, 4, none⟩ (.int .u32 (wideF L 2 sE))) := (((((HZt.out.below.setCell (Nat.le_refl _) _).setCell (Nat.le_refl _) _).setCell (Nat.le_refl _) _).setCell (Nat.le_refl _) _).setCell (Nat.le_refl _) _)
        clear y0 y1 y2 y3 y4 q0 q1 q2 q3 q4 f0 f1 f2 f3 f4
        generalize (((((wt.setCell ⟨w.heap.size, 0, none⟩ (.int .u8 (14))).setCell ⟨w.heap.size, 1, none⟩ (.int .u8 (0))).setCell ⟨w.heap.size, 2, none⟩ (.int .u8 (0))).setCell ⟨w.heap.size, 3, none⟩ (.int .u8 (placeF 14 (ptAt L 1)))).setCell ⟨w.heap.size, 4, none⟩ (.int .u32 (wideF L 2 sE))) = wf at *
        have kf0 : wf.cell? ⟨w.heap.size, 0, none⟩ = some (.int .u8 (14)) := by rw [cell_of_row wf w.heap.size 0 _ _ _ hfin]; rfl
        have kf1 : wf.cell? ⟨w.heap.size, 1, none⟩ = some (.int .u8 (0)) := by rw [cell_of_row wf w.heap.size 1 _ _ _ hfin]; rfl
        have kf2 : wf.cell? ⟨w.heap.size, 2, none⟩ = some (.int .u8 (0)) := by rw [cell_of_row wf w.heap.size 2 _ _ _ hfin]; rfl
        have kf3 : wf.cell? ⟨w.heap.size, 3, none⟩ = some (.int .u8 (placeF 14 (ptAt L 1))) := by rw [cell_of_row wf w.heap.size 3 _ _ _ hfin]; rfl
        have kf4 : wf.cell? ⟨w.heap.size, 4, none⟩ = some (.int .u32 (wideF L 2 sE)) := by rw [cell_of_row wf w.heap.size 4 _ _ _ hfin]; rfl
        clear hfin
        exact bodyPost_ret (v := .tuple #[.agg (⟨14, 0, 0, placeF 14 (ptAt L 1), wideF L 2 sE⟩ : Ins).cells, .int .i64 0]) (by simp [results, Tryd.results15, go_sem, kf0, kf1, kf2, kf3, kf4]) rfl (rd_yes (by rw [HCN.out]; exact HCH.out) (by rw [HCN.out]; exact HE.out) (by rw [HCN.out]) hbf)
      · have HX := fun wq hq => Text_ok ⟨14, 0, 0, placeF 14 (ptAt L 1), wideF L 2 sE⟩ HY.out hch wq hq
        have HE : Hid (¬ (chk (cand L) = 0 ∧ txt (cand L) = s)) := Lib.hid (by rw [HCN.out]; exact fun hh => he hh.2)
        generalize txt ⟨14, 0, 0, placeF 14 (ptAt L 1), wideF L 2 sE⟩ = ty at *
        have hne : (ty.toList == s.toList) = false := (bytes_beq_false_iff _ _).2 he
        have HT := Lib.hid HX
        clear hch HX he
        go_wp2_with fail
        refine (HT.out _ (HZ.out.pw.below HZ.out.below)).mono ?_
        rintro e wt ⟨rfl, hbt⟩
        have HZt := Lib.hid (HZ.out.then_ hbt)
        clear hbt y0 y1 y2 y3 y4
        have y0 := HZt.out.k0
        have y1 := HZt.out.k1
        have y2 := HZt.out.k2
        have y3 := HZt.out.k3
        have y4 := HZt.out.k4
        have q0 := HZt.out.y0
        have q1 := HZt.out.y1
        have q2 := HZt.out.y2
        have q3 := HZt.out.y3
        have q4 := HZt.out.y4
        have f0 := HZt.out.z0
        have f1 := HZt.out.z1
        have f2 := HZt.out.z2
        have f3 := HZt.out.z3
        have f4 := HZt.out.z4
        go_wp2
        have hfin := set_block (set_block (set_block (set_block (set_block (HZt.out.c2) 0 (.int .u8 0)) 1 (.int .u8 0)) 2 (.int .u8 0)) 3 (.int .u8 0)) 4 (.int .u32 0)
        have hbf : Below w.heap.size w (((((wt.setCell ⟨w.heap.size, 0, none⟩ (.int .u8 0)).setCell ⟨w.heap.size, 1, none⟩ (.int .u8 0)).setCell ⟨w.heap.size, 2, none⟩ (.int .u8 0)).setCell ⟨w.heap.size, 3, none⟩ (.int .u8 0)).setCell ⟨w.heap.size, 4, none⟩ (.int .u32 0)) := (((((HZt.out.below.setCell (Nat.le_refl _) _).setCell (Nat.le_refl _) _).setCell (Nat.le_refl _) _).setCell (Nat.le_refl _) _).setCell (Nat.le_refl _) _)
        clear y0 y1 y2 y3 y4 q0 q1 q2 q3 q4 f0 f1 f2 f3 f4
        generalize (((((wt.setCell ⟨w.heap.size, 0, none⟩ (.int .u8 0)).setCell ⟨w.heap.size, 1, none⟩ (.int .u8 0)).setCell ⟨w.heap.size, 2, none⟩ (.int .u8 0)).setCell ⟨w.heap.size, 3, none⟩ (.int .u8 0)).setCell ⟨w.heap.size, 4, none⟩ (.int .u32 0)) = wf at *
        have kf0 : wf.cell? ⟨w.heap.size, 0, none⟩ = some (.int .u8 0) := by rw [cell_of_row wf w.heap.size 0 _ _ _ hfin]; rfl
        have kf1 : wf.cell? ⟨w.heap.size, 1, none⟩ = some (.int .u8 0) := by rw [cell_of_row wf w.heap.size 1 _ _ _ hfin]; rfl
        have kf2 : wf.cell? ⟨w.heap.size, 2, none⟩ = some (.int .u8 0) := by rw [cell_of_row wf w.heap.size 2 _ _ _ hfin]; rfl
        have kf3 : wf.cell? ⟨w.heap.size, 3, none⟩ = some (.int .u8 0) := by rw [cell_of_row wf w.heap.size 3 _ _ _ hfin]; rfl
        have kf4 : wf.cell? ⟨w.heap.size, 4, none⟩ = some (.int .u32 0) := by rw [cell_of_row wf w.heap.size 4 _ _ _ hfin]; rfl
        clear hfin
        exact bodyPost_ret (v := .tuple #[.agg #[.int .u8 0, .int .u8 0, .int .u8 0, .int .u8 0, .int .u32 0], .int .i64 3]) (by simp [results, Tryd.results15, go_sem, kf0, kf1, kf2, kf3, kf4]) rfl (rd_no HE.out rfl hbf)
    · have HX := fun wq => Text_bad ⟨14, 0, 0, placeF 14 (ptAt L 1), wideF L 2 sE⟩ HY.out hch wq
      have HE : Hid (¬ (chk (cand L) = 0 ∧ txt (cand L) = s)) := Lib.hid (by rw [HCN.out]; exact fun hh => hch hh.1)
      generalize chk ⟨14, 0, 0, placeF 14 (ptAt L 1), wideF L 2 sE⟩ = ty at *
      have hne : (ty != 0) = true := by rw [bne_iff_ne]; exact hch
      have HT := Lib.hid HX
      clear hch HX
      go_wp2_with fail
      refine (HT.out _).mono ?_
      rintro e wt ⟨rfl, hbt⟩
      have HZt := Lib.hid (HZ.out.then_ hbt)
      clear hbt y0 y1 y2 y3 y4
      have y0 := HZt.out.k0
      have y1 := HZt.out.k1
      have y2 := HZt.out.k2
      have y3 := HZt.out.k3
      have y4 := HZt.out.k4
      have q0 := HZt.out.y0
      have q1 := HZt.out.y1
      have q2 := HZt.out.y2
      have q3 := HZt.out.y3
      have q4 := HZt.out.y4
      have f0 := HZt.out.z0
      have f1 := HZt.out.z1
      have f2 := HZt.out.z2
      have f3 := HZt.out.z3
      have f4 := HZt.out.z4
      go_wp2
      have hfin := set_block (set_block (set_block (set_block (set_block (HZt.out.c2) 0 (.int .u8 0)) 1 (.int .u8 0)) 2 (.int .u8 0)) 3 (.int .u8 0)) 4 (.int .u32 0)
      have hbf : Below w.heap.size w (((((wt.setCell ⟨w.heap.size, 0, none⟩ (.int .u8 0)).setCell ⟨w.heap.size, 1, none⟩ (.int .u8 0)).setCell ⟨w.heap.size, 2, none⟩ (.int .u8 0)).setCell ⟨w.heap.size, 3, none⟩ (.int .u8 0)).setCell ⟨w.heap.size, 4, none⟩ (.int .u32 0)) := (((((HZt.out.below.setCell (Nat.le_refl _) _).setCell (Nat.le_refl _) _).setCell (Nat.le_refl _) _).setCell (Nat.le_refl _) _).setCell (Nat.le_refl _) _)
      clear y0 y1 y2 y3 y4 q0 q1 q2 q3 q4 f0 f1 f2 f3 f4
      generalize (((((wt.setCell ⟨w.heap.size, 0, none⟩ (.int .u8 0)).setCell ⟨w.heap.size, 1, none⟩ (.int .u8 0)).setCell ⟨w.heap.size, 2, none⟩ (.int .u8 0)).setCell ⟨w.heap.size, 3, none⟩ (.int .u8 0)).setCell ⟨w.heap.size, 4, none⟩ (.int .u32 0)) = wf at *
      have kf0 : wf.cell? ⟨w.heap.size, 0, none⟩ = some (.int .u8 0) := by rw [cell_of_row wf w.heap.size 0 _ _ _ hfin]; rfl
      have kf1 : wf.cell? ⟨w.heap.size, 1, none⟩ = some (.int .u8 0) := by rw [cell_of_row wf w.heap.size 1 _ _ _ hfin]; rfl
      have kf2 : wf.cell? ⟨w.heap.size, 2, none⟩ = some (.int .u8 0) := by rw [cell_of_row wf w.heap.size 2 _ _ _ hfin]; rfl
      have kf3 : wf.cell? ⟨w.heap.size, 3, none⟩ = some (.int .u8 0) := by rw [cell_of_row wf w.heap.size 3 _ _ _ hfin]; rfl
      have kf4 : wf.cell? ⟨w.heap.size, 4, none⟩ = some (.int .u32 0) := by rw [cell_of_row wf w.heap.size 4 _ _ _ hfin]; rfl
      clear hfin
      exact bodyPost_ret (v := .tuple #[.agg #[.int .u8 0, .int .u8 0, .int .u8 0, .int .u8 0, .int .u32 0], .int .i64 3]) (by simp [results, Tryd.results15, go_sem, kf0, kf1, kf2, kf3, kf4]) rfl (rd_no HE.out rfl hbf)
  · skip
    have x0 := HR0.out.k0
    have x1 := HR0.out.k1
    have x2 := HR0.out.k2
    have x3 := HR0.out.k3
    have x4 := HR0.out.k4
    have f1 := HR0.out.f1
    have f2 := HR0.out.f2
    have f3 := HR0.out.f3
    have f4 := HR0.out.f4
    go_upto_region 34 with fail
    have hZ := HR0.out
    have HCN : Hid (cand L = ⟨15, 0, 0, c, 0⟩) := Lib.hid HCD.out
    have HY : Hid (Ins.Ok ⟨15, 0, 0, c, 0⟩) := Lib.hid (by have := HOK.out; rw [HCN.out] at this; exact this)
    clear x0 x1 x2 x3 x4 f1 f2 f3 f4 HR0 HCD
    generalize wC = wz at *
    have HZ := Lib.hid hZ
    have y0 := hZ.k0
    have y1 := hZ.k1
    have y2 := hZ.k2
    have y3 := hZ.k3
    have y4 := hZ.k4
    clear hZ
    by_cases hch : chk ⟨15, 0, 0, c, 0⟩ = 0
    · by_cases he : txt ⟨15, 0, 0, c, 0⟩ = s
      · have HX := fun wq hq => Text_ok ⟨15, 0, 0, c, 0⟩ HY.out hch wq hq
        have HT := Lib.hid HX
        have HCH := Lib.hid hch
        have HE := Lib.hid he
        clear hch HX he
        go_wp2_with fail
        refine (HT.out _ (HZ.out.pw.below HZ.out.below)).mono ?_
        rintro e wt ⟨rfl, hbt⟩
        rw [HE.out]
        have HZt := Lib.hid (HZ.out.then_ hbt)
        clear hbt y0 y1 y2 y3 y4
        have y0 := HZt.out.k0
        have y1 := HZt.out.k1
        have y2 := HZt.out.k2
        have y3 := HZt.out.k3
        have y4 := HZt.out.k4
        have q0 := HZt.out.y0
        have q1 := HZt.out.y1
        have q2 := HZt.out.y2
        have q3 := HZt.out.y3
        have q4 := HZt.out.y4
        have f0 := HZt.out.z0
        have f1 := HZt.out.z1
        have f2 := HZt.out.z2
        have f3 := HZt.out.z3
        have f4 := HZt.out.z4
        go_wp2
        have hfin := set_block (set_block (set_block (set_block (set_block (HZt.out.c2) 0 (.int .u8 (15))) 1 (.int .u8 (0))) 2 (.int .u8 (0))) 3 (.int .u8 (c))) 4 (.int .u32 (0))
        have hbf : Below w.heap.size w (((((wt.setCell ⟨w.heap.size, 0, none⟩ (.int .u8 (15))).setCell ⟨w.heap.size, 1, none⟩ (.int .u8 (0))).setCell ⟨w.heap.size, 2, none⟩ (.int .u8 (0))).setCell ⟨w.heap.size, 3, none⟩ (.int .u8 (c))).setCell ⟨w.heap.size, 4, none⟩ (.int .u32 (0))) := (((((HZt.out.below.setCell (Nat.le_refl _) _).setCell (Nat.le_refl _) _).setCell (Nat.le_refl _) _).setCell (Nat.le_refl _) _).setCell (Nat.le_refl _) _)
        clear y0 y1 y2 y3 y4 q0 q1 q2 q3 q4 f0 f1 f2 f3 f4
        generalize (((((wt.setCell ⟨w.heap.size, 0, none⟩ (.int .u8 (15))).setCell ⟨w.heap.size, 1, none⟩ (.int .u8 (0))).setCell ⟨w.heap.size, 2, none⟩ (.int .u8 (0))).setCell ⟨w.heap.size, 3, none⟩ (.int .u8 (c))).setCell ⟨w.heap.size, 4, none⟩ (.int .u32 (0))) = wf at *
        have kf0 : wf.cell? ⟨w.heap.size, 0, none⟩ = some (.int .u8 (15)) := by rw [cell_of_row wf w.heap.size 0 _ _ _ hfin]; rfl
        have kf1 : wf.cell? ⟨w.heap.size, 1, none⟩ = some (.int .u8 (0)) := by rw [cell_of_row wf w.heap.size 1 _ _ _ hfin]; rfl
        have kf2 : wf.cell? ⟨w.heap.size, 2, none⟩ = some (.int .u8 (0)) := by rw [cell_of_row wf w.heap.size 2 _ _ _ hfin]; rfl
        have kf3 : wf.cell? ⟨w.heap.size, 3, none⟩ = some (.int .u8 (c)) := by rw [cell_of_row wf w.heap.size 3 _ _ _ hfin]; rfl
        have kf4 : wf.cell? ⟨w.heap.size, 4, none⟩ = some (.int .u32 (0)) := by rw [cell_of_row wf w.heap.size 4 _ _ _ hfin]; rfl
        clear hfin
        exact bodyPost_ret (v := .tuple #[.agg (⟨15, 0, 0, c, 0⟩ : Ins).cells, .int .i64 0]) (by simp [results, Tryd.results15, go_sem, kf0, kf1, kf2, kf3, kf4]) rfl (rd_yes (by rw [HCN.out]; exact HCH.out) (by rw [HCN.out]; exact HE.out) (by rw [HCN.out]) hbf)
      · have HX := fun wq hq => Text_ok ⟨15, 0, 0, c, 0⟩ HY.out hch wq hq
        have HE : Hid (¬ (chk (cand L) = 0 ∧ txt (cand L) = s)) := Lib.hid (by rw [HCN.out]; exact fun hh => he hh.2)
        generalize txt ⟨15, 0, 0, c, 0⟩ = ty at *
        have hne : (ty.toList == s.toList) = false := (bytes_beq_false_iff _ _).2 he
        have HT := Lib.hid HX
        clear hch HX he
        go_wp2_with fail
        refine (HT.out _ (HZ.out.pw.below HZ.out.below)).mono ?_
        rintro e wt ⟨rfl, hbt⟩
        have HZt := Lib.hid (HZ.out.then_ hbt)
        clear hbt y0 y1 y2 y3 y4
        have y0 := HZt.out.k0
        have y1 := HZt.out.k1
        have y2 := HZt.out.k2
        have y3 := HZt.out.k3
        have y4 := HZt.out.k4
        have q0 := HZt.out.y0
        have q1 := HZt.out.y1
        have q2 := HZt.out.y2
        have q3 := HZt.out.y3
        have q4 := HZt.out.y4
        have f0 := HZt.out.z0
        have f1 := HZt.out.z1
        have f2 := HZt.out.z2
        have f3 := HZt.out.z3
        have f4 := HZt.out.z4
        go_wp2
        have hfin := set_block (set_block (set_block (set_block (set_block (HZt.out.c2) 0 (.int .u8 0)) 1 (.int .u8 0)) 2 (.int .u8 0)) 3 (.int .u8 0)) 4 (.int .u32 0)
        have hbf : Below w.heap.size w (((((wt.setCell ⟨w.heap.size, 0, none⟩ (.int .u8 0)).setCell ⟨w.heap.size, 1, none⟩ (.int .u8 0)).setCell ⟨w.heap.size, 2, none⟩ (.int .u8 0)).setCell ⟨w.heap.size, 3, none⟩ (.int .u8 0)).setCell ⟨w.heap.size, 4, none⟩ (.int .u32 0)) := (((((HZt.out.below.setCell (Nat.le_refl _) _).setCell (Nat.le_refl _) _).setCell (Nat.le_refl _) _).setCell (Nat.le_refl _) _).setCell (Nat.le_refl _) _)
        clear y0 y1 y2 y3 y4 q0 q1 q2 q3 q4 f0 f1 f2 f3 f4
        generalize (((((wt.setCell ⟨w.heap.size, 0, none⟩ (.int .u8 0)).setCell ⟨w.heap.size, 1, none⟩ (.int .u8 0)).setCell ⟨w.heap.size, 2, none⟩ (.int .u8 0)).setCell ⟨w.heap.size, 3, none⟩ (.int .u8 0)).setCell ⟨w.heap.size, 4, none⟩ (.int .u32 0)) = wf at *
        have kf0 : wf.cell? ⟨w.heap.size, 0, none⟩ = some (.int .u8 0) := by rw [cell_of_row wf w.heap.size 0 _ _ _ hfin]; rfl
        have kf1 : wf.cell? ⟨w.heap.size, 1, none⟩ = some (.int .u8 0) := by rw [cell_of_row wf w.heap.size 1 _ _ _ hfin]; rfl
        have kf2 : wf.cell? ⟨w.heap.size, 2, none⟩ = some (.int .u8 0) := by rw [cell_of_row wf w.heap.size 2 _ _ _ hfin]; rfl
        have kf3 : wf.cell? ⟨w.heap.size, 3, none⟩ = some (.int .u8 0) := by rw [cell_of_row wf w.heap.size 3 _ _ _ hfin]; rfl
        have kf4 : wf.cell? ⟨w.heap.size, 4, none⟩ = some (.int .u32 0) := by rw [cell_of_row wf w.heap.size 4 _ _ _ hfin]; rfl
        clear hfin
        exact bodyPost_ret (v := .tuple #[.agg #[.int .u8 0, .int .u8 0, .int .u8 0, .int .u8 0, .int .u32 0], .int .i64 3]) (by simp [results, Tryd.results15, go_sem, kf0, kf1, kf2, kf3, kf4]) rfl (rd_no HE.out rfl hbf)
    · have HX := fun wq => Text_bad ⟨15, 0, 0, c, 0⟩ HY.out hch wq
      have HE : Hid (¬ (chk (cand L) = 0 ∧ txt (cand L) = s)) := Lib.hid (by rw [HCN.out]; exact fun hh => hch hh.1)
      generalize chk ⟨15, 0, 0, c, 0⟩ = ty at *
      have hne : (ty != 0) = true := by rw [bne_iff_ne]; exact hch
      have HT := Lib.hid HX
      clear hch HX
      go_wp2_with fail
      refine (HT.out _).mono ?_
      rintro e wt ⟨rfl, hbt⟩
      have HZt := Lib.hid (HZ.out.then_ hbt)
      clear hbt y0 y1 y2 y3 y4
      have y0 := HZt.out.k0
      have y1 := HZt.out.k1
      have y2 := HZt.out.k2
      have y3 := HZt.out.k3
      have y4 := HZt.out.k4
      have q0 := HZt.out.y0
      have q1 := HZt.out.y1
      have q2 := HZt.out.y2
      have q3 := HZt.out.y3
      have q4 := HZt.out.y4
      have f0 := HZt.out.z0
      have f1 := HZt.out.z1
      have f2 := HZt.out.z2
      have f3 := HZt.out.z3
      have f4 := HZt.out.z4
      go_wp2
      have hfin := set_block (set_block (set_block (set_block (set_block (HZt.out.c2) 0 (.int .u8 0)) 1 (.int .u8 0)) 2 (.int .u8 0)) 3 (.int .u8 0)) 4 (.int .u32 0)
      have hbf : Below w.heap.size w (((((wt.setCell ⟨w.heap.size, 0, none⟩ (.int .u8 0)).setCell ⟨w.heap.size, 1, none⟩ (.int .u8 0)).setCell ⟨w.heap.size, 2, none⟩ (.int .u8 0)).setCell ⟨w.heap.size, 3, none⟩ (.int .u8 0)).setCell ⟨w.heap.size, 4, none⟩ (.int .u32 0)) := (((((HZt.out.below.setCell (Nat.le_refl _) _).setCell (Nat.le_refl _) _).setCell (Nat.le_refl _) _).setCell (Nat.le_refl _) _).setCell (Nat.le_refl _) _)
      clear y0 y1 y2 y3 y4 q0 q1 q2 q3 q4 f0 f1 f2 f3 f4
      generalize (((((wt.setCell ⟨w.heap.size, 0, none⟩ (.int .u8 0)).setCell ⟨w.heap.size, 1, none⟩ (.int .u8 0)).setCell ⟨w.heap.size, 2, none⟩ (.int .u8 0)).setCell ⟨w.heap.size, 3, none⟩ (.int .u8 0)).setCell ⟨w.heap.size, 4, none⟩ (.int .u32 0)) = wf at *
      have kf0 : wf.cell? ⟨w.heap.size, 0, none⟩ = some (.int .u8 0) := by rw [cell_of_row wf w.heap.size 0 _ _ _ hfin]; rfl
      have kf1 : wf.cell? ⟨w.heap.size, 1, none⟩ = some (.int .u8 0) := by rw [cell_of_row wf w.heap.size 1 _ _ _ hfin]; rfl
      have kf2 : wf.cell? ⟨w.heap.size, 2, none⟩ = some (.int .u8 0) := by rw [cell_of_row wf w.heap.size 2 _ _ _ hfin]; rfl
      have kf3 : wf.cell? ⟨w.heap.size, 3, none⟩ = some (.int .u8 0) := by rw [cell_of_row wf w.heap.size 3 _ _ _ hfin]; rfl
      have kf4 : wf.cell? ⟨w.heap.size, 4, none⟩ = some (.int .u32 0) := by rw [cell_of_row wf w.heap.size 4 _ _ _ hfin]; rfl
      clear hfin
      exact bodyPost_ret (v := .tuple #[.agg #[.int .u8 0, .int .u8 0, .int .u8 0, .int .u8 0, .int .u32 0], .int .i64 3]) (by simp [results, Tryd.results15, go_sem, kf0, kf1, kf2, kf3, kf4]) rfl (rd_no HE.out rfl hbf)
end Go.Proofs.YtlomgbackphmmaaDoor
