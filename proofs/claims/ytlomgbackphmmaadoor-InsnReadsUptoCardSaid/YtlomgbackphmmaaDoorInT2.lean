/- insn.Text: the walk. -/
import Derived.Test.YtlomgbackphmmaaDoorInP
set_option linter.unusedVariables false
set_option linter.unusedSimpArgs false
namespace Go.Proofs.YtlomgbackphmmaaDoor
open Go.RowKit Go.Lib

set_option maxRecDepth 100000 in
theorem Text_bad (x : Ins) (hx : x.Ok) (h : chk x ≠ 0) (w : World) : Calls Tryd.prog 11 #[.agg x.cells] w fun e w' => e = .returned (.tuple #[.string ⟨#[]⟩, .int .i64 (chk x)]) ∧ Below w.heap.size w w' := by
  have hb : (chk x != 0) = true := by rw [bne_iff_ne]; exact h
  have hC := fun w => Check_any x hx w
  obtain ⟨op, a, b, c, imm⟩ := x
  generalize chk ⟨op, a, b, c, imm⟩ = n at *
  have HC := Lib.hid hC
  clear hC hx h
  go_enter Tryd.func11, Tryd.ntmps11
  go_wp2_with fail
  refine (HC.out _).mono ?_
  rintro e w1 ⟨rfl, hB⟩
  have HB := Lib.hid (((Below.refl _ w).alloc (Nat.le_refl _) (.cells #[.int .u8 op, .int .u8 a, .int .u8 b, .int .u8 c, .int .u32 imm] 24)).trans (hB.mono (by rw [World.size_alloc]; omega)))
  clear hB
  go_wp2
  go_ret2
  exact ⟨rfl, HB.out⟩

def zeros53 : Array Value := Array.replicate 16 (.slice none 0 0)
theorem zero_sl (w : World) : (zeroValue 53).run Tryd.prog w = .ok (.agg zeros53) w := by kernel_rfl
set_option maxRecDepth 100000 in
set_option maxHeartbeats 8000000 in
theorem Text_ok (x : Ins) (hx : x.Ok) (h : chk x = 0) (w : World) (hp : Pw w) : Calls Tryd.prog 11 #[.agg x.cells] w fun e w' => e = .returned (.tuple #[.string (txt x), .int .i64 0]) ∧ Below w.heap.size w w' := by
  have hC := fun w => Check_any x hx w
  rw [h] at hC
  have HLEN := Lib.hid (txt_len x hx)
  obtain ⟨⟨ho0, ho1⟩, ⟨ha0, ha1⟩, ⟨hb0, hb1⟩, ⟨hc0, hc1⟩, ⟨hi0, hi1⟩⟩ := hx
  obtain ⟨op, a, b, c, imm⟩ := x
  dsimp only at *
  have HC := Lib.hid hC
  have Ha0 := Lib.hid ha0
  have Ha1 := Lib.hid ha1
  have Hb0 := Lib.hid hb0
  have Hb1 := Lib.hid hb1
  have Hc0 := Lib.hid hc0
  have Hc1 := Lib.hid hc1
  have Hi0 := Lib.hid hi0
  have Hi1 := Lib.hid hi1
  have HCH := Lib.hid h
  have HP := Lib.hid hp
  clear hC h hp ha0 ha1 hb0 hb1 hc0 hc1 hi0 hi1
  go_enter Tryd.func11, Tryd.ntmps11
  go_wp2_with fail
  refine (HC.out _).mono ?_
  rintro e w1 ⟨rfl, hB⟩
  have hT0 : Tx w (w.alloc (.cells #[.int .u8 op, .int .u8 a, .int .u8 b, .int .u8 c, .int .u32 imm] 24)) w.heap.size ⟨op, a, b, c, imm⟩ :=
    ⟨heap_alloc_new w _, (Below.refl _ w).alloc (Nat.le_refl _) _, Nat.le_refl _, HP.out.below ((Below.refl _ w).alloc (Nat.le_refl _) _)⟩
  have HT1 := Lib.hid (hT0.then_ hB)
  obtain ⟨g, hg⟩ : ∃ g, w.heap.size = g := ⟨_, rfl⟩
  rw [hg] at HT1
  clear hB hT0 HC HP
  go_wp2_with fail
  clear hg
  refine region_settled (by kernel_rfl) [(20, .pointer (some ⟨g, 1, none⟩)), (21, .int .u8 a), (22, .int .u32 a), (23, .string (mkN sR a)), (24, .pointer (some ⟨g, 2, none⟩)), (25, .int .u8 b), (26, .int .u32 b), (27, .string (mkN sR b)), (5, .string (mkN sR a)), (6, .string (mkN sR b))] (fun w' => Tx w w' g ⟨op, a, b, c, imm⟩) rfl (by simp) rfl (edges_all (by kernel_rfl)) HT1.out.drew (settled_all (And.intro (st_fld1 rfl rfl (.inl rfl) rfl rfl)
    (And.intro (st_ld8 0 rfl rfl (.inl rfl) (by kernel_rfl) rfl (fun _ h => h.c1))
    (And.intro (st_cv Ha0.out Ha1.out 1 rfl rfl (.inl rfl) (by kernel_rfl) rfl)
    (And.intro (st_call (f := 22) (vs := #[.string sR, .int .u32 a]) rfl rfl rfl (.inl rfl) rfl (args2 (.inl rfl) (.inr ⟨22, rfl, .inr ⟨2, by kernel_rfl, rfl⟩⟩)) (enters_mark _) (fun _ h => h.mark sR (by decide) a Ha0.out (by have := Ha1.out; omega)))
    (And.intro (st_fld2 rfl rfl (.inl rfl) rfl rfl)
    (And.intro (st_ld8 4 rfl rfl (.inl rfl) (by kernel_rfl) rfl (fun _ h => h.c2))
    (And.intro (st_cv Hb0.out Hb1.out 5 rfl rfl (.inl rfl) (by kernel_rfl) rfl)
    (And.intro (st_call (f := 22) (vs := #[.string sR, .int .u32 b]) rfl rfl rfl (.inl rfl) rfl (args2 (.inl rfl) (.inr ⟨26, rfl, .inr ⟨6, by kernel_rfl, rfl⟩⟩)) (enters_mark _) (fun _ h => h.mark sR (by decide) b Hb0.out (by have := Hb1.out; omega)))
    (And.intro (st_assign rfl rfl rfl (.inl rfl) (.inr ⟨23, rfl, .inr ⟨3, by kernel_rfl, rfl⟩⟩))
    (And.intro (st_assign rfl rfl rfl (.inl rfl) (.inr ⟨27, rfl, .inr ⟨7, by kernel_rfl, rfl⟩⟩))
    trivial))))))))))) ?_
  intro w2 T2
  simp only [puts, List.foldl_cons, List.foldl_nil, Act.put, List.setIfInBounds_toArray, List.set_cons_zero, List.set_cons_succ]
  have HT2 := Lib.hid T2
  clear T2
  go_wp2_with fail
  refine region_settled (by kernel_rfl) [(28, .pointer (some ⟨g, 3, none⟩)), (29, .int .u8 c), (30, .int .u32 c), (31, .string (mkN sS c)), (32, .pointer (some ⟨g, 3, none⟩)), (33, .int .u8 c), (34, .int .u32 c), (35, .string (mkN sF c)), (7, .string (mkN sS c)), (8, .string (mkN sF c))] (fun w' => Tx w w' g ⟨op, a, b, c, imm⟩) rfl (by simp) rfl (edges_all (by kernel_rfl)) HT2.out.drew (settled_all (And.intro (st_fld3 rfl rfl (.inl rfl) rfl rfl)
    (And.intro (st_ld8 0 rfl rfl (.inl rfl) (by kernel_rfl) rfl (fun _ h => h.c3))
    (And.intro (st_cv Hc0.out Hc1.out 1 rfl rfl (.inl rfl) (by kernel_rfl) rfl)
    (And.intro (st_call (f := 22) (vs := #[.string sS, .int .u32 c]) rfl rfl rfl (.inl rfl) rfl (args2 (.inl rfl) (.inr ⟨30, rfl, .inr ⟨2, by kernel_rfl, rfl⟩⟩)) (enters_mark _) (fun _ h => h.mark sS (by decide) c Hc0.out (by have := Hc1.out; omega)))
    (And.intro (st_fld3 rfl rfl (.inl rfl) rfl rfl)
    (And.intro (st_ld8 4 rfl rfl (.inl rfl) (by kernel_rfl) rfl (fun _ h => h.c3))
    (And.intro (st_cv Hc0.out Hc1.out 5 rfl rfl (.inl rfl) (by kernel_rfl) rfl)
    (And.intro (st_call (f := 22) (vs := #[.string sF, .int .u32 c]) rfl rfl rfl (.inl rfl) rfl (args2 (.inl rfl) (.inr ⟨34, rfl, .inr ⟨6, by kernel_rfl, rfl⟩⟩)) (enters_mark _) (fun _ h => h.mark sF (by decide) c Hc0.out (by have := Hc1.out; omega)))
    (And.intro (st_assign rfl rfl rfl (.inl rfl) (.inr ⟨31, rfl, .inr ⟨3, by kernel_rfl, rfl⟩⟩))
    (And.intro (st_assign rfl rfl rfl (.inl rfl) (.inr ⟨35, rfl, .inr ⟨7, by kernel_rfl, rfl⟩⟩))
    trivial))))))))))) ?_
  intro w3 T3
  simp only [puts, List.foldl_cons, List.foldl_nil, Act.put, List.setIfInBounds_toArray, List.set_cons_zero, List.set_cons_succ]
  have HT3 := Lib.hid T3
  clear T3
  go_wp2_with fail
  refine region_settled (by kernel_rfl) [(36, .pointer (some ⟨g, 4, none⟩)), (37, .int .u32 imm), (38, .string (mkN sE imm)), (39, .pointer (some ⟨g, 4, none⟩)), (40, .int .u32 imm), (41, .string (mkN sP imm)), (42, .pointer (some ⟨g, 4, none⟩)), (43, .int .u32 imm), (44, .string (mkN sR imm)), (9, .string (mkN sE imm)), (10, .string (mkN sP imm)), (11, .string (mkN sR imm))] (fun w' => Tx w w' g ⟨op, a, b, c, imm⟩) rfl (by simp) rfl (edges_all (by kernel_rfl)) HT3.out.drew (settled_all (And.intro (st_fld4 rfl rfl (.inl rfl) rfl rfl)
    (And.intro (st_ld32 0 rfl rfl (.inl rfl) (by kernel_rfl) rfl (fun _ h => h.c4))
    (And.intro (st_call (f := 22) (vs := #[.string sE, .int .u32 imm]) rfl rfl rfl (.inl rfl) rfl (args2 (.inl rfl) (.inr ⟨37, rfl, .inr ⟨1, by kernel_rfl, rfl⟩⟩)) (enters_mark _) (fun _ h => h.mark sE (by decide) imm Hi0.out Hi1.out))
    (And.intro (st_fld4 rfl rfl (.inl rfl) rfl rfl)
    (And.intro (st_ld32 3 rfl rfl (.inl rfl) (by kernel_rfl) rfl (fun _ h => h.c4))
    (And.intro (st_call (f := 22) (vs := #[.string sP, .int .u32 imm]) rfl rfl rfl (.inl rfl) rfl (args2 (.inl rfl) (.inr ⟨40, rfl, .inr ⟨4, by kernel_rfl, rfl⟩⟩)) (enters_mark _) (fun _ h => h.mark sP (by decide) imm Hi0.out Hi1.out))
    (And.intro (st_fld4 rfl rfl (.inl rfl) rfl rfl)
    (And.intro (st_ld32 6 rfl rfl (.inl rfl) (by kernel_rfl) rfl (fun _ h => h.c4))
    (And.intro (st_call (f := 22) (vs := #[.string sR, .int .u32 imm]) rfl rfl rfl (.inl rfl) rfl (args2 (.inl rfl) (.inr ⟨43, rfl, .inr ⟨7, by kernel_rfl, rfl⟩⟩)) (enters_mark _) (fun _ h => h.mark sR (by decide) imm Hi0.out Hi1.out))
    (And.intro (st_assign rfl rfl rfl (.inl rfl) (.inr ⟨38, rfl, .inr ⟨2, by kernel_rfl, rfl⟩⟩))
    (And.intro (st_assign rfl rfl rfl (.inl rfl) (.inr ⟨41, rfl, .inr ⟨5, by kernel_rfl, rfl⟩⟩))
    (And.intro (st_assign rfl rfl rfl (.inl rfl) (.inr ⟨44, rfl, .inr ⟨8, by kernel_rfl, rfl⟩⟩))
    trivial))))))))))))) ?_
  intro w4 T4
  simp only [puts, List.foldl_cons, List.foldl_nil, Act.put, List.setIfInBounds_toArray, List.set_cons_zero, List.set_cons_succ]
  have HT4 := Lib.hid T4
  clear T4
  have hnn := words_cmp
  have hz := zero_sl
  have hx0 := HT4.out.c0
  cases hW : hasW op
  · go_wp2_with fail
    refine (words_no op _ hW).mono ?_
    rintro e w5 ⟨rfl, rfl⟩
    clear hx0
    have hops : op = 1 ∨ op = 2 ∨ op = 5 ∨ op = 8 ∨ op = 9 ∨ op = 10 ∨ op = 11 ∨ op = 12 ∨ op = 13 ∨ op = 15 := by
      have h2 := chk_op HCH.out
      dsimp only at h2
      unfold hasW at hW
      simp at hW
      omega
    clear hW
    have hg0 := HT4.out.lt
    have hg1 : g < w4.heap.size + 1 := by have := HT4.out.lt; omega
    have hg2 : g < w4.heap.size + 2 := by have := HT4.out.lt; omega
    have hg3 : g < w4.heap.size + 3 := by have := HT4.out.lt; omega
    have hg4 : g < w4.heap.size + 4 := by have := HT4.out.lt; omega
    have hg5 : g < w4.heap.size + 5 := by have := HT4.out.lt; omega
    have hg6 : g < w4.heap.size + 6 := by have := HT4.out.lt; omega
    have hg7 : g < w4.heap.size + 7 := by have := HT4.out.lt; omega
    have hx0 := HT4.out.c0
    have hx1 := HT4.out.c1
    have hx2 := HT4.out.c2
    have hx3 := HT4.out.c3
    have hx4 := HT4.out.c4
    have b0 := Hb0.out
    have b1 := Hb1.out
    go_wp2_with fail
    refine (HT4.out.mark2 ?hb6 sE (by decide) b b0 (by omega)).mono ?_
    case hb6 => exact (((((((Below.refl _ w4).alloc (Nat.le_refl _) _).alloc (by simp only [World.size_alloc]; omega) _).alloc (by simp only [World.size_alloc]; omega) _).alloc (by simp only [World.size_alloc]; omega) _).alloc (by simp only [World.size_alloc]; omega) _).alloc (by simp only [World.size_alloc]; omega) _).alloc (by simp only [World.size_alloc]; omega) _
    rintro e w6 ⟨rfl, T6, hB6⟩
    have HT6 := Lib.hid T6
    have HS1 : Hid (Sl w6 (w4.heap.size + 1) [⟨#[109, 111, 118]⟩, mkN sR a, mkN sR b]) := Lib.hid (Sl.below (Sl.alloc (Sl.alloc (Sl.alloc (Sl.alloc (Sl.alloc (Sl.new [⟨#[109, 111, 118]⟩, mkN sR a, mkN sR b] _ _ (by simp) _) _) _) _) _) _) hB6)
    have HS2 : Hid (Sl w6 (w4.heap.size + 2) [⟨#[105, 109, 109]⟩, mkN sR a, mkN sE imm]) := Lib.hid (Sl.below (Sl.alloc (Sl.alloc (Sl.alloc (Sl.alloc (Sl.new [⟨#[105, 109, 109]⟩, mkN sR a, mkN sE imm] _ _ (by simp) _) _) _) _) _) hB6)
    have HS5 : Hid (Sl w6 (w4.heap.size + 5) [⟨#[106, 109, 112]⟩, mkN sP imm]) := Lib.hid (Sl.below (Sl.alloc (Sl.new [⟨#[106, 109, 112]⟩, mkN sP imm] _ _ (by simp) _) _) hB6)
    clear T6 hB6 hx0 hx1 hx2 hx3 hx4 b0 b1 hg0 hg1 hg2 hg3 hg4 hg5 hg6 hg7
    have hg0 := HT6.out.lt
    have hg1 : g < w6.heap.size + 1 := by have := HT6.out.lt; omega
    have hg2 : g < w6.heap.size + 2 := by have := HT6.out.lt; omega
    have hg3 : g < w6.heap.size + 3 := by have := HT6.out.lt; omega
    have hg4 : g < w6.heap.size + 4 := by have := HT6.out.lt; omega
    have hg5 : g < w6.heap.size + 5 := by have := HT6.out.lt; omega
    have hg6 : g < w6.heap.size + 6 := by have := HT6.out.lt; omega
    have hg7 : g < w6.heap.size + 7 := by have := HT6.out.lt; omega
    have hg8 : g < w6.heap.size + 8 := by have := HT6.out.lt; omega
    have hg9 : g < w6.heap.size + 9 := by have := HT6.out.lt; omega
    have hg10 : g < w6.heap.size + 10 := by have := HT6.out.lt; omega
    have hx0 := HT6.out.c0
    obtain ⟨arr, harr⟩ : ∃ arr : Array Value, #[.slice (some ⟨w4.heap.size, 0, none⟩) 0 0, .slice (some ⟨w4.heap.size + 1, 0, none⟩) 3 3, .slice (some ⟨w4.heap.size + 2, 0, none⟩) 3 3, .slice (some ⟨w4.heap.size + 3, 0, none⟩) 3 3, .slice (some ⟨w4.heap.size + 4, 0, none⟩) 3 3, .slice (some ⟨w4.heap.size + 5, 0, none⟩) 2 2, .slice (some ⟨w4.heap.size + 6, 0, none⟩) 4 4, .slice (some ⟨w6.heap.size, 0, none⟩) 4 4, .slice (some ⟨w6.heap.size + 1, 0, none⟩) 3 3, .slice (some ⟨w6.heap.size + 2, 0, none⟩) 3 3, .slice (some ⟨w6.heap.size + 3, 0, none⟩) 5 5, .slice (some ⟨w6.heap.size + 4, 0, none⟩) 5 5, .slice (some ⟨w6.heap.size + 5, 0, none⟩) 5 5, .slice (some ⟨w6.heap.size + 6, 0, none⟩) 5 5, .slice (some ⟨w6.heap.size + 7, 0, none⟩) 3 3, .slice (some ⟨w6.heap.size + 8, 0, none⟩) 1 1] = arr := ⟨_, rfl⟩
    have has : arr.size = 16 := by rw [← harr]; rfl
    have hst : ∀ (W : World) (n : Nat), n = W.heap.size → (storeCells ⟨n, 0, none⟩ arr.toList).run Tryd.prog (W.alloc (.cells zeros53 53)) = .ok () (W.alloc (.cells arr 53)) := fun W n hn => by
      subst hn
      exact run_storeCells_new (P := Tryd.prog) W 53 zeros53 arr (by rw [has]; kernel_rfl) (by rw [has]; kernel_rfl) (by rw [← harr]; kernel_rfl)
    have HARR := Lib.hid harr
    clear harr
    go_upto_region 12 with ((with_reducible refine wpList_buildTo rfl 53 _ rfl (some 119) rfl arr ?hbb ?_); (case hbb => rw [← HARR.out]; kernel_rfl))
    clear has hst
    have hsz6 : w.heap.size ≤ w6.heap.size := HT6.out.below.size
    rcases hops with rfl | rfl | rfl | rfl | rfl | rfl | rfl | rfl | rfl | rfl
    · have har : arr[1]? = some (.slice (some ⟨w4.heap.size + 1, 0, none⟩) 3 3) := by rw [← HARR.out]; rfl
      have htx : txt ⟨1, a, b, c, imm⟩ = ⟨(join (([⟨#[109, 111, 118]⟩, mkN sR a, mkN sR b] : List ByteArray).map (·.data.toList)) [32]).toArray⟩ := rfl
      have hln : (join (([⟨#[109, 111, 118]⟩, mkN sR a, mkN sR b] : List ByteArray).map (·.data.toList)) [32]).length ≤ 105 := HLEN.out
      have HTX := Lib.hid htx
      have HLN := Lib.hid hln
      clear htx hln
      go_wp2_with fail
      (with_reducible refine (join_sl [⟨#[109, 111, 118]⟩, mkN sR a, mkN sR b] 3 rfl (w4.heap.size + 1) _ ?hs HLN.out).mono ?_)
      case hs => exact Sl.alloc (Sl.alloc (Sl.alloc (Sl.alloc (Sl.alloc (Sl.alloc (Sl.alloc (Sl.alloc (Sl.alloc (Sl.alloc (HS1.out) _) _) _) _) _) _) _) _) _) _
      rintro e wj ⟨rfl, hBj⟩
      have HBj := Lib.hid ((((((((((((HT6.out.below).alloc (by first | omega | (simp only [World.size_alloc]; omega)) _).alloc (by first | omega | (simp only [World.size_alloc]; omega)) _).alloc (by first | omega | (simp only [World.size_alloc]; omega)) _).alloc (by first | omega | (simp only [World.size_alloc]; omega)) _).alloc (by first | omega | (simp only [World.size_alloc]; omega)) _).alloc (by first | omega | (simp only [World.size_alloc]; omega)) _).alloc (by first | omega | (simp only [World.size_alloc]; omega)) _).alloc (by first | omega | (simp only [World.size_alloc]; omega)) _).alloc (by first | omega | (simp only [World.size_alloc]; omega)) _).alloc (by first | omega | (simp only [World.size_alloc]; omega)) _).trans (hBj.mono (by simp only [World.size_alloc]; omega)))
      clear hBj
      rw [← HTX.out]
      go_wp2
      go_ret2
      exact ⟨rfl, HBj.out⟩
    · have har : arr[2]? = some (.slice (some ⟨w4.heap.size + 2, 0, none⟩) 3 3) := by rw [← HARR.out]; rfl
      have htx : txt ⟨2, a, b, c, imm⟩ = ⟨(join (([⟨#[105, 109, 109]⟩, mkN sR a, mkN sE imm] : List ByteArray).map (·.data.toList)) [32]).toArray⟩ := rfl
      have hln : (join (([⟨#[105, 109, 109]⟩, mkN sR a, mkN sE imm] : List ByteArray).map (·.data.toList)) [32]).length ≤ 105 := HLEN.out
      have HTX := Lib.hid htx
      have HLN := Lib.hid hln
      clear htx hln
      go_wp2_with fail
      (with_reducible refine (join_sl [⟨#[105, 109, 109]⟩, mkN sR a, mkN sE imm] 3 rfl (w4.heap.size + 2) _ ?hs HLN.out).mono ?_)
      case hs => exact Sl.alloc (Sl.alloc (Sl.alloc (Sl.alloc (Sl.alloc (Sl.alloc (Sl.alloc (Sl.alloc (Sl.alloc (Sl.alloc (HS2.out) _) _) _) _) _) _) _) _) _) _
      rintro e wj ⟨rfl, hBj⟩
      have HBj := Lib.hid ((((((((((((HT6.out.below).alloc (by first | omega | (simp only [World.size_alloc]; omega)) _).alloc (by first | omega | (simp only [World.size_alloc]; omega)) _).alloc (by first | omega | (simp only [World.size_alloc]; omega)) _).alloc (by first | omega | (simp only [World.size_alloc]; omega)) _).alloc (by first | omega | (simp only [World.size_alloc]; omega)) _).alloc (by first | omega | (simp only [World.size_alloc]; omega)) _).alloc (by first | omega | (simp only [World.size_alloc]; omega)) _).alloc (by first | omega | (simp only [World.size_alloc]; omega)) _).alloc (by first | omega | (simp only [World.size_alloc]; omega)) _).alloc (by first | omega | (simp only [World.size_alloc]; omega)) _).trans (hBj.mono (by simp only [World.size_alloc]; omega)))
      clear hBj
      rw [← HTX.out]
      go_wp2
      go_ret2
      exact ⟨rfl, HBj.out⟩
    · have har : arr[5]? = some (.slice (some ⟨w4.heap.size + 5, 0, none⟩) 2 2) := by rw [← HARR.out]; rfl
      have htx : txt ⟨5, a, b, c, imm⟩ = ⟨(join (([⟨#[106, 109, 112]⟩, mkN sP imm] : List ByteArray).map (·.data.toList)) [32]).toArray⟩ := rfl
      have hln : (join (([⟨#[106, 109, 112]⟩, mkN sP imm] : List ByteArray).map (·.data.toList)) [32]).length ≤ 105 := HLEN.out
      have HTX := Lib.hid htx
      have HLN := Lib.hid hln
      clear htx hln
      go_wp2_with fail
      (with_reducible refine (join_sl [⟨#[106, 109, 112]⟩, mkN sP imm] 2 rfl (w4.heap.size + 5) _ ?hs HLN.out).mono ?_)
      case hs => exact Sl.alloc (Sl.alloc (Sl.alloc (Sl.alloc (Sl.alloc (Sl.alloc (Sl.alloc (Sl.alloc (Sl.alloc (Sl.alloc (HS5.out) _) _) _) _) _) _) _) _) _) _
      rintro e wj ⟨rfl, hBj⟩
      have HBj := Lib.hid ((((((((((((HT6.out.below).alloc (by first | omega | (simp only [World.size_alloc]; omega)) _).alloc (by first | omega | (simp only [World.size_alloc]; omega)) _).alloc (by first | omega | (simp only [World.size_alloc]; omega)) _).alloc (by first | omega | (simp only [World.size_alloc]; omega)) _).alloc (by first | omega | (simp only [World.size_alloc]; omega)) _).alloc (by first | omega | (simp only [World.size_alloc]; omega)) _).alloc (by first | omega | (simp only [World.size_alloc]; omega)) _).alloc (by first | omega | (simp only [World.size_alloc]; omega)) _).alloc (by first | omega | (simp only [World.size_alloc]; omega)) _).alloc (by first | omega | (simp only [World.size_alloc]; omega)) _).trans (hBj.mono (by simp only [World.size_alloc]; omega)))
      clear hBj
      rw [← HTX.out]
      go_wp2
      go_ret2
      exact ⟨rfl, HBj.out⟩
    · have har : arr[8]? = some (.slice (some ⟨w6.heap.size + 1, 0, none⟩) 3 3) := by rw [← HARR.out]; rfl
      have htx : txt ⟨8, a, b, c, imm⟩ = ⟨(join (([⟨#[115, 97, 118, 101]⟩, mkN sS c, mkN sR a] : List ByteArray).map (·.data.toList)) [32]).toArray⟩ := rfl
      have hln : (join (([⟨#[115, 97, 118, 101]⟩, mkN sS c, mkN sR a] : List ByteArray).map (·.data.toList)) [32]).length ≤ 105 := HLEN.out
      have HTX := Lib.hid htx
      have HLN := Lib.hid hln
      clear htx hln
      go_wp2_with fail
      (with_reducible refine (join_sl [⟨#[115, 97, 118, 101]⟩, mkN sS c, mkN sR a] 3 rfl (w6.heap.size + 1) _ ?hs HLN.out).mono ?_)
      case hs => exact Sl.alloc (Sl.alloc (Sl.alloc (Sl.alloc (Sl.alloc (Sl.alloc (Sl.alloc (Sl.alloc (Sl.new [⟨#[115, 97, 118, 101]⟩, mkN sS c, mkN sR a] _ _ (by simp) _) _) _) _) _) _) _) _) _
      rintro e wj ⟨rfl, hBj⟩
      have HBj := Lib.hid ((((((((((((HT6.out.below).alloc (by first | omega | (simp only [World.size_alloc]; omega)) _).alloc (by first | omega | (simp only [World.size_alloc]; omega)) _).alloc (by first | omega | (simp only [World.size_alloc]; omega)) _).alloc (by first | omega | (simp only [World.size_alloc]; omega)) _).alloc (by first | omega | (simp only [World.size_alloc]; omega)) _).alloc (by first | omega | (simp only [World.size_alloc]; omega)) _).alloc (by first | omega | (simp only [World.size_alloc]; omega)) _).alloc (by first | omega | (simp only [World.size_alloc]; omega)) _).alloc (by first | omega | (simp only [World.size_alloc]; omega)) _).alloc (by first | omega | (simp only [World.size_alloc]; omega)) _).trans (hBj.mono (by simp only [World.size_alloc]; omega)))
      clear hBj
      rw [← HTX.out]
      go_wp2
      go_ret2
      exact ⟨rfl, HBj.out⟩
    · have har : arr[9]? = some (.slice (some ⟨w6.heap.size + 2, 0, none⟩) 3 3) := by rw [← HARR.out]; rfl
      have htx : txt ⟨9, a, b, c, imm⟩ = ⟨(join (([⟨#[108, 111, 97, 100]⟩, mkN sR a, mkN sS c] : List ByteArray).map (·.data.toList)) [32]).toArray⟩ := rfl
      have hln : (join (([⟨#[108, 111, 97, 100]⟩, mkN sR a, mkN sS c] : List ByteArray).map (·.data.toList)) [32]).length ≤ 105 := HLEN.out
      have HTX := Lib.hid htx
      have HLN := Lib.hid hln
      clear htx hln
      go_wp2_with fail
      (with_reducible refine (join_sl [⟨#[108, 111, 97, 100]⟩, mkN sR a, mkN sS c] 3 rfl (w6.heap.size + 2) _ ?hs HLN.out).mono ?_)
      case hs => exact Sl.alloc (Sl.alloc (Sl.alloc (Sl.alloc (Sl.alloc (Sl.alloc (Sl.alloc (Sl.new [⟨#[108, 111, 97, 100]⟩, mkN sR a, mkN sS c] _ _ (by simp) _) _) _) _) _) _) _) _
      rintro e wj ⟨rfl, hBj⟩
      have HBj := Lib.hid ((((((((((((HT6.out.below).alloc (by first | omega | (simp only [World.size_alloc]; omega)) _).alloc (by first | omega | (simp only [World.size_alloc]; omega)) _).alloc (by first | omega | (simp only [World.size_alloc]; omega)) _).alloc (by first | omega | (simp only [World.size_alloc]; omega)) _).alloc (by first | omega | (simp only [World.size_alloc]; omega)) _).alloc (by first | omega | (simp only [World.size_alloc]; omega)) _).alloc (by first | omega | (simp only [World.size_alloc]; omega)) _).alloc (by first | omega | (simp only [World.size_alloc]; omega)) _).alloc (by first | omega | (simp only [World.size_alloc]; omega)) _).alloc (by first | omega | (simp only [World.size_alloc]; omega)) _).trans (hBj.mono (by simp only [World.size_alloc]; omega)))
      clear hBj
      rw [← HTX.out]
      go_wp2
      go_ret2
      exact ⟨rfl, HBj.out⟩
    · have har : arr[10]? = some (.slice (some ⟨w6.heap.size + 3, 0, none⟩) 5 5) := by rw [← HARR.out]; rfl
      have htx : txt ⟨10, a, b, c, imm⟩ = ⟨(join (([⟨#[103, 101, 116]⟩, mkN sR a, mkN sR b, mkN sF c, mkN sE imm] : List ByteArray).map (·.data.toList)) [32]).toArray⟩ := rfl
      have hln : (join (([⟨#[103, 101, 116]⟩, mkN sR a, mkN sR b, mkN sF c, mkN sE imm] : List ByteArray).map (·.data.toList)) [32]).length ≤ 105 := HLEN.out
      have HTX := Lib.hid htx
      have HLN := Lib.hid hln
      clear htx hln
      go_wp2_with fail
      (with_reducible refine (join_sl [⟨#[103, 101, 116]⟩, mkN sR a, mkN sR b, mkN sF c, mkN sE imm] 5 rfl (w6.heap.size + 3) _ ?hs HLN.out).mono ?_)
      case hs => exact Sl.alloc (Sl.alloc (Sl.alloc (Sl.alloc (Sl.alloc (Sl.alloc (Sl.new [⟨#[103, 101, 116]⟩, mkN sR a, mkN sR b, mkN sF c, mkN sE imm] _ _ (by simp) _) _) _) _) _) _) _
      rintro e wj ⟨rfl, hBj⟩
      have HBj := Lib.hid ((((((((((((HT6.out.below).alloc (by first | omega | (simp only [World.size_alloc]; omega)) _).alloc (by first | omega | (simp only [World.size_alloc]; omega)) _).alloc (by first | omega | (simp only [World.size_alloc]; omega)) _).alloc (by first | omega | (simp only [World.size_alloc]; omega)) _).alloc (by first | omega | (simp only [World.size_alloc]; omega)) _).alloc (by first | omega | (simp only [World.size_alloc]; omega)) _).alloc (by first | omega | (simp only [World.size_alloc]; omega)) _).alloc (by first | omega | (simp only [World.size_alloc]; omega)) _).alloc (by first | omega | (simp only [World.size_alloc]; omega)) _).alloc (by first | omega | (simp only [World.size_alloc]; omega)) _).trans (hBj.mono (by simp only [World.size_alloc]; omega)))
      clear hBj
      rw [← HTX.out]
      go_wp2
      go_ret2
      exact ⟨rfl, HBj.out⟩
    · have har : arr[11]? = some (.slice (some ⟨w6.heap.size + 4, 0, none⟩) 5 5) := by rw [← HARR.out]; rfl
      have htx : txt ⟨11, a, b, c, imm⟩ = ⟨(join (([⟨#[103, 101, 116, 120]⟩, mkN sR a, mkN sR b, mkN sF c, mkN sR imm] : List ByteArray).map (·.data.toList)) [32]).toArray⟩ := rfl
      have hln : (join (([⟨#[103, 101, 116, 120]⟩, mkN sR a, mkN sR b, mkN sF c, mkN sR imm] : List ByteArray).map (·.data.toList)) [32]).length ≤ 105 := HLEN.out
      have HTX := Lib.hid htx
      have HLN := Lib.hid hln
      clear htx hln
      go_wp2_with fail
      (with_reducible refine (join_sl [⟨#[103, 101, 116, 120]⟩, mkN sR a, mkN sR b, mkN sF c, mkN sR imm] 5 rfl (w6.heap.size + 4) _ ?hs HLN.out).mono ?_)
      case hs => exact Sl.alloc (Sl.alloc (Sl.alloc (Sl.alloc (Sl.alloc (Sl.new [⟨#[103, 101, 116, 120]⟩, mkN sR a, mkN sR b, mkN sF c, mkN sR imm] _ _ (by simp) _) _) _) _) _) _
      rintro e wj ⟨rfl, hBj⟩
      have HBj := Lib.hid ((((((((((((HT6.out.below).alloc (by first | omega | (simp only [World.size_alloc]; omega)) _).alloc (by first | omega | (simp only [World.size_alloc]; omega)) _).alloc (by first | omega | (simp only [World.size_alloc]; omega)) _).alloc (by first | omega | (simp only [World.size_alloc]; omega)) _).alloc (by first | omega | (simp only [World.size_alloc]; omega)) _).alloc (by first | omega | (simp only [World.size_alloc]; omega)) _).alloc (by first | omega | (simp only [World.size_alloc]; omega)) _).alloc (by first | omega | (simp only [World.size_alloc]; omega)) _).alloc (by first | omega | (simp only [World.size_alloc]; omega)) _).alloc (by first | omega | (simp only [World.size_alloc]; omega)) _).trans (hBj.mono (by simp only [World.size_alloc]; omega)))
      clear hBj
      rw [← HTX.out]
      go_wp2
      go_ret2
      exact ⟨rfl, HBj.out⟩
    · have har : arr[12]? = some (.slice (some ⟨w6.heap.size + 5, 0, none⟩) 5 5) := by rw [← HARR.out]; rfl
      have htx : txt ⟨12, a, b, c, imm⟩ = ⟨(join (([⟨#[112, 117, 116]⟩, mkN sR b, mkN sF c, mkN sE imm, mkN sR a] : List ByteArray).map (·.data.toList)) [32]).toArray⟩ := rfl
      have hln : (join (([⟨#[112, 117, 116]⟩, mkN sR b, mkN sF c, mkN sE imm, mkN sR a] : List ByteArray).map (·.data.toList)) [32]).length ≤ 105 := HLEN.out
      have HTX := Lib.hid htx
      have HLN := Lib.hid hln
      clear htx hln
      go_wp2_with fail
      (with_reducible refine (join_sl [⟨#[112, 117, 116]⟩, mkN sR b, mkN sF c, mkN sE imm, mkN sR a] 5 rfl (w6.heap.size + 5) _ ?hs HLN.out).mono ?_)
      case hs => exact Sl.alloc (Sl.alloc (Sl.alloc (Sl.alloc (Sl.new [⟨#[112, 117, 116]⟩, mkN sR b, mkN sF c, mkN sE imm, mkN sR a] _ _ (by simp) _) _) _) _) _
      rintro e wj ⟨rfl, hBj⟩
      have HBj := Lib.hid ((((((((((((HT6.out.below).alloc (by first | omega | (simp only [World.size_alloc]; omega)) _).alloc (by first | omega | (simp only [World.size_alloc]; omega)) _).alloc (by first | omega | (simp only [World.size_alloc]; omega)) _).alloc (by first | omega | (simp only [World.size_alloc]; omega)) _).alloc (by first | omega | (simp only [World.size_alloc]; omega)) _).alloc (by first | omega | (simp only [World.size_alloc]; omega)) _).alloc (by first | omega | (simp only [World.size_alloc]; omega)) _).alloc (by first | omega | (simp only [World.size_alloc]; omega)) _).alloc (by first | omega | (simp only [World.size_alloc]; omega)) _).alloc (by first | omega | (simp only [World.size_alloc]; omega)) _).trans (hBj.mono (by simp only [World.size_alloc]; omega)))
      clear hBj
      rw [← HTX.out]
      go_wp2
      go_ret2
      exact ⟨rfl, HBj.out⟩
    · have har : arr[13]? = some (.slice (some ⟨w6.heap.size + 6, 0, none⟩) 5 5) := by rw [← HARR.out]; rfl
      have htx : txt ⟨13, a, b, c, imm⟩ = ⟨(join (([⟨#[112, 117, 116, 120]⟩, mkN sR b, mkN sF c, mkN sR imm, mkN sR a] : List ByteArray).map (·.data.toList)) [32]).toArray⟩ := rfl
      have hln : (join (([⟨#[112, 117, 116, 120]⟩, mkN sR b, mkN sF c, mkN sR imm, mkN sR a] : List ByteArray).map (·.data.toList)) [32]).length ≤ 105 := HLEN.out
      have HTX := Lib.hid htx
      have HLN := Lib.hid hln
      clear htx hln
      go_wp2_with fail
      (with_reducible refine (join_sl [⟨#[112, 117, 116, 120]⟩, mkN sR b, mkN sF c, mkN sR imm, mkN sR a] 5 rfl (w6.heap.size + 6) _ ?hs HLN.out).mono ?_)
      case hs => exact Sl.alloc (Sl.alloc (Sl.alloc (Sl.new [⟨#[112, 117, 116, 120]⟩, mkN sR b, mkN sF c, mkN sR imm, mkN sR a] _ _ (by simp) _) _) _) _
      rintro e wj ⟨rfl, hBj⟩
      have HBj := Lib.hid ((((((((((((HT6.out.below).alloc (by first | omega | (simp only [World.size_alloc]; omega)) _).alloc (by first | omega | (simp only [World.size_alloc]; omega)) _).alloc (by first | omega | (simp only [World.size_alloc]; omega)) _).alloc (by first | omega | (simp only [World.size_alloc]; omega)) _).alloc (by first | omega | (simp only [World.size_alloc]; omega)) _).alloc (by first | omega | (simp only [World.size_alloc]; omega)) _).alloc (by first | omega | (simp only [World.size_alloc]; omega)) _).alloc (by first | omega | (simp only [World.size_alloc]; omega)) _).alloc (by first | omega | (simp only [World.size_alloc]; omega)) _).alloc (by first | omega | (simp only [World.size_alloc]; omega)) _).trans (hBj.mono (by simp only [World.size_alloc]; omega)))
      clear hBj
      rw [← HTX.out]
      go_wp2
      go_ret2
      exact ⟨rfl, HBj.out⟩
    · have har : arr[15]? = some (.slice (some ⟨w6.heap.size + 8, 0, none⟩) 1 1) := by rw [← HARR.out]; rfl
      have htx : txt ⟨15, a, b, c, imm⟩ = ⟨(join (([⟨#[101, 120, 105, 116]⟩] : List ByteArray).map (·.data.toList)) [32]).toArray⟩ := rfl
      have hln : (join (([⟨#[101, 120, 105, 116]⟩] : List ByteArray).map (·.data.toList)) [32]).length ≤ 105 := HLEN.out
      have HTX := Lib.hid htx
      have HLN := Lib.hid hln
      clear htx hln
      go_wp2_with fail
      (with_reducible refine (join_sl [⟨#[101, 120, 105, 116]⟩] 1 rfl (w6.heap.size + 8) _ ?hs HLN.out).mono ?_)
      case hs => exact Sl.alloc (Sl.new [⟨#[101, 120, 105, 116]⟩] _ _ (by simp) _) _
      rintro e wj ⟨rfl, hBj⟩
      have HBj := Lib.hid ((((((((((((HT6.out.below).alloc (by first | omega | (simp only [World.size_alloc]; omega)) _).alloc (by first | omega | (simp only [World.size_alloc]; omega)) _).alloc (by first | omega | (simp only [World.size_alloc]; omega)) _).alloc (by first | omega | (simp only [World.size_alloc]; omega)) _).alloc (by first | omega | (simp only [World.size_alloc]; omega)) _).alloc (by first | omega | (simp only [World.size_alloc]; omega)) _).alloc (by first | omega | (simp only [World.size_alloc]; omega)) _).alloc (by first | omega | (simp only [World.size_alloc]; omega)) _).alloc (by first | omega | (simp only [World.size_alloc]; omega)) _).alloc (by first | omega | (simp only [World.size_alloc]; omega)) _).trans (hBj.mono (by simp only [World.size_alloc]; omega)))
      clear hBj
      rw [← HTX.out]
      go_wp2
      go_ret2
      exact ⟨rfl, HBj.out⟩
  · have hw := chk_word HCH.out Hc0.out hW
    have hcw0 : (((wl op).map Value.string).toArray)[c.toNat]? = some (.string (wrd op c)) := by
      dsimp only at hw
      rw [List.getElem?_toArray, List.getElem?_map]
      unfold wrd
      rw [List.getD_eq_getElem?_getD, List.getElem?_eq_getElem (by omega)]
      rfl
    have hops : op = 3 ∨ op = 4 ∨ op = 6 ∨ op = 7 ∨ op = 14 := by
      unfold hasW at hW
      simp at hW
      omega
    have HOPS := Lib.hid hops
    clear hW hops
    dsimp only at hw
    go_wp2_with fail
    refine (words_are op _ HOPS.out).mono ?_
    rintro e w5 ⟨rfl, hw5⟩
    have hcw : w5.cell? ⟨w4.heap.size, c.toNat, none⟩ = some (.string (wrd op c)) := by rw [hw5, World.cell?_alloc_new]; exact hcw0
    have HT5 : Hid (Tx w w5 g ⟨op, a, b, c, imm⟩) := Lib.hid (by rw [hw5]; exact HT4.out.then_ ((Below.refl _ _).alloc (Nat.le_refl _) _))
    generalize (wl op).length = L at *
    obtain ⟨hcl0, hcl⟩ := hw
    have hcl1 : 0 ≤ c := by omega
    clear hw5 hcw0 hx0
    have hx0 := HT5.out.c0
    have hx3 := HT5.out.c3
    go_upto_region 11 with fail
    have hops := HOPS.out
    have hws : (wrd op c).size ≤ 9 := wrd_len op c
    clear HOPS hcw hcl hcl0 hcl1 hx0 hx3
    have hg0 := HT5.out.lt
    have hg1 : g < w5.heap.size + 1 := by have := HT5.out.lt; omega
    have hg2 : g < w5.heap.size + 2 := by have := HT5.out.lt; omega
    have hg3 : g < w5.heap.size + 3 := by have := HT5.out.lt; omega
    have hg4 : g < w5.heap.size + 4 := by have := HT5.out.lt; omega
    have hg5 : g < w5.heap.size + 5 := by have := HT5.out.lt; omega
    have hg6 : g < w5.heap.size + 6 := by have := HT5.out.lt; omega
    have hg7 : g < w5.heap.size + 7 := by have := HT5.out.lt; omega
    have hx0 := HT5.out.c0
    have hx1 := HT5.out.c1
    have hx2 := HT5.out.c2
    have hx3 := HT5.out.c3
    have hx4 := HT5.out.c4
    have b0 := Hb0.out
    have b1 := Hb1.out
    go_wp2_with fail
    refine (HT5.out.mark2 ?hb6 sE (by decide) b b0 (by omega)).mono ?_
    case hb6 => exact (((((((Below.refl _ w5).alloc (Nat.le_refl _) _).alloc (by simp only [World.size_alloc]; omega) _).alloc (by simp only [World.size_alloc]; omega) _).alloc (by simp only [World.size_alloc]; omega) _).alloc (by simp only [World.size_alloc]; omega) _).alloc (by simp only [World.size_alloc]; omega) _).alloc (by simp only [World.size_alloc]; omega) _
    rintro e w6 ⟨rfl, T6, hB6⟩
    have HT6 := Lib.hid T6
    have HS3 : Hid (Sl w6 (w5.heap.size + 3) [wrd op c, mkN sR a, mkN sR b]) := Lib.hid (Sl.below (Sl.alloc (Sl.alloc (Sl.alloc (Sl.new [wrd op c, mkN sR a, mkN sR b] _ _ (by simp) _) _) _) _) hB6)
    have HS4 : Hid (Sl w6 (w5.heap.size + 4) [wrd op c ++ (⟨#[105]⟩ : ByteArray), mkN sR a, mkN sE imm]) := Lib.hid (Sl.below (Sl.alloc (Sl.alloc (Sl.new [wrd op c ++ (⟨#[105]⟩ : ByteArray), mkN sR a, mkN sE imm] _ _ (by simp) _) _) _) hB6)
    have HS6 : Hid (Sl w6 (w5.heap.size + 6) [(⟨#[106]⟩ : ByteArray) ++ wrd op c, mkN sR a, mkN sR b, mkN sP imm]) := Lib.hid (Sl.below (Sl.new [(⟨#[106]⟩ : ByteArray) ++ wrd op c, mkN sR a, mkN sR b, mkN sP imm] _ _ (by simp) _) hB6)
    clear T6 hB6 hx0 hx1 hx2 hx3 hx4 b0 b1 hg0 hg1 hg2 hg3 hg4 hg5 hg6 hg7
    have hg0 := HT6.out.lt
    have hg1 : g < w6.heap.size + 1 := by have := HT6.out.lt; omega
    have hg2 : g < w6.heap.size + 2 := by have := HT6.out.lt; omega
    have hg3 : g < w6.heap.size + 3 := by have := HT6.out.lt; omega
    have hg4 : g < w6.heap.size + 4 := by have := HT6.out.lt; omega
    have hg5 : g < w6.heap.size + 5 := by have := HT6.out.lt; omega
    have hg6 : g < w6.heap.size + 6 := by have := HT6.out.lt; omega
    have hg7 : g < w6.heap.size + 7 := by have := HT6.out.lt; omega
    have hg8 : g < w6.heap.size + 8 := by have := HT6.out.lt; omega
    have hg9 : g < w6.heap.size + 9 := by have := HT6.out.lt; omega
    have hg10 : g < w6.heap.size + 10 := by have := HT6.out.lt; omega
    have hx0 := HT6.out.c0
    obtain ⟨arr, harr⟩ : ∃ arr : Array Value, #[.slice (some ⟨w5.heap.size, 0, none⟩) 0 0, .slice (some ⟨w5.heap.size + 1, 0, none⟩) 3 3, .slice (some ⟨w5.heap.size + 2, 0, none⟩) 3 3, .slice (some ⟨w5.heap.size + 3, 0, none⟩) 3 3, .slice (some ⟨w5.heap.size + 4, 0, none⟩) 3 3, .slice (some ⟨w5.heap.size + 5, 0, none⟩) 2 2, .slice (some ⟨w5.heap.size + 6, 0, none⟩) 4 4, .slice (some ⟨w6.heap.size, 0, none⟩) 4 4, .slice (some ⟨w6.heap.size + 1, 0, none⟩) 3 3, .slice (some ⟨w6.heap.size + 2, 0, none⟩) 3 3, .slice (some ⟨w6.heap.size + 3, 0, none⟩) 5 5, .slice (some ⟨w6.heap.size + 4, 0, none⟩) 5 5, .slice (some ⟨w6.heap.size + 5, 0, none⟩) 5 5, .slice (some ⟨w6.heap.size + 6, 0, none⟩) 5 5, .slice (some ⟨w6.heap.size + 7, 0, none⟩) 3 3, .slice (some ⟨w6.heap.size + 8, 0, none⟩) 1 1] = arr := ⟨_, rfl⟩
    have has : arr.size = 16 := by rw [← harr]; rfl
    have hst : ∀ (W : World) (n : Nat), n = W.heap.size → (storeCells ⟨n, 0, none⟩ arr.toList).run Tryd.prog (W.alloc (.cells zeros53 53)) = .ok () (W.alloc (.cells arr 53)) := fun W n hn => by
      subst hn
      exact run_storeCells_new (P := Tryd.prog) W 53 zeros53 arr (by rw [has]; kernel_rfl) (by rw [has]; kernel_rfl) (by rw [← harr]; kernel_rfl)
    have HARR := Lib.hid harr
    clear harr
    go_upto_region 12 with ((with_reducible refine wpList_buildTo rfl 53 _ rfl (some 119) rfl arr ?hbb ?_); (case hbb => rw [← HARR.out]; kernel_rfl))
    clear has hst
    have hsz6 : w.heap.size ≤ w6.heap.size := HT6.out.below.size
    rcases hops with rfl | rfl | rfl | rfl | rfl
    · have har : arr[3]? = some (.slice (some ⟨w5.heap.size + 3, 0, none⟩) 3 3) := by rw [← HARR.out]; rfl
      have htx : txt ⟨3, a, b, c, imm⟩ = ⟨(join (([wrd 3 c, mkN sR a, mkN sR b] : List ByteArray).map (·.data.toList)) [32]).toArray⟩ := rfl
      have hln : (join (([wrd 3 c, mkN sR a, mkN sR b] : List ByteArray).map (·.data.toList)) [32]).length ≤ 105 := HLEN.out
      have HTX := Lib.hid htx
      have HLN := Lib.hid hln
      clear htx hln
      go_wp2_with fail
      (with_reducible refine (join_sl [wrd 3 c, mkN sR a, mkN sR b] 3 rfl (w5.heap.size + 3) _ ?hs HLN.out).mono ?_)
      case hs => exact Sl.alloc (Sl.alloc (Sl.alloc (Sl.alloc (Sl.alloc (Sl.alloc (Sl.alloc (Sl.alloc (Sl.alloc (Sl.alloc (HS3.out) _) _) _) _) _) _) _) _) _) _
      rintro e wj ⟨rfl, hBj⟩
      have HBj := Lib.hid ((((((((((((HT6.out.below).alloc (by first | omega | (simp only [World.size_alloc]; omega)) _).alloc (by first | omega | (simp only [World.size_alloc]; omega)) _).alloc (by first | omega | (simp only [World.size_alloc]; omega)) _).alloc (by first | omega | (simp only [World.size_alloc]; omega)) _).alloc (by first | omega | (simp only [World.size_alloc]; omega)) _).alloc (by first | omega | (simp only [World.size_alloc]; omega)) _).alloc (by first | omega | (simp only [World.size_alloc]; omega)) _).alloc (by first | omega | (simp only [World.size_alloc]; omega)) _).alloc (by first | omega | (simp only [World.size_alloc]; omega)) _).alloc (by first | omega | (simp only [World.size_alloc]; omega)) _).trans (hBj.mono (by simp only [World.size_alloc]; omega)))
      clear hBj
      rw [← HTX.out]
      go_wp2
      go_ret2
      exact ⟨rfl, HBj.out⟩
    · have har : arr[4]? = some (.slice (some ⟨w5.heap.size + 4, 0, none⟩) 3 3) := by rw [← HARR.out]; rfl
      have htx : txt ⟨4, a, b, c, imm⟩ = ⟨(join (([wrd 4 c ++ (⟨#[105]⟩ : ByteArray), mkN sR a, mkN sE imm] : List ByteArray).map (·.data.toList)) [32]).toArray⟩ := rfl
      have hln : (join (([wrd 4 c ++ (⟨#[105]⟩ : ByteArray), mkN sR a, mkN sE imm] : List ByteArray).map (·.data.toList)) [32]).length ≤ 105 := HLEN.out
      have HTX := Lib.hid htx
      have HLN := Lib.hid hln
      clear htx hln
      go_wp2_with fail
      (with_reducible refine (join_sl [wrd 4 c ++ (⟨#[105]⟩ : ByteArray), mkN sR a, mkN sE imm] 3 rfl (w5.heap.size + 4) _ ?hs HLN.out).mono ?_)
      case hs => exact Sl.alloc (Sl.alloc (Sl.alloc (Sl.alloc (Sl.alloc (Sl.alloc (Sl.alloc (Sl.alloc (Sl.alloc (Sl.alloc (HS4.out) _) _) _) _) _) _) _) _) _) _
      rintro e wj ⟨rfl, hBj⟩
      have HBj := Lib.hid ((((((((((((HT6.out.below).alloc (by first | omega | (simp only [World.size_alloc]; omega)) _).alloc (by first | omega | (simp only [World.size_alloc]; omega)) _).alloc (by first | omega | (simp only [World.size_alloc]; omega)) _).alloc (by first | omega | (simp only [World.size_alloc]; omega)) _).alloc (by first | omega | (simp only [World.size_alloc]; omega)) _).alloc (by first | omega | (simp only [World.size_alloc]; omega)) _).alloc (by first | omega | (simp only [World.size_alloc]; omega)) _).alloc (by first | omega | (simp only [World.size_alloc]; omega)) _).alloc (by first | omega | (simp only [World.size_alloc]; omega)) _).alloc (by first | omega | (simp only [World.size_alloc]; omega)) _).trans (hBj.mono (by simp only [World.size_alloc]; omega)))
      clear hBj
      rw [← HTX.out]
      go_wp2
      go_ret2
      exact ⟨rfl, HBj.out⟩
    · have har : arr[6]? = some (.slice (some ⟨w5.heap.size + 6, 0, none⟩) 4 4) := by rw [← HARR.out]; rfl
      have htx : txt ⟨6, a, b, c, imm⟩ = ⟨(join (([(⟨#[106]⟩ : ByteArray) ++ wrd 6 c, mkN sR a, mkN sR b, mkN sP imm] : List ByteArray).map (·.data.toList)) [32]).toArray⟩ := rfl
      have hln : (join (([(⟨#[106]⟩ : ByteArray) ++ wrd 6 c, mkN sR a, mkN sR b, mkN sP imm] : List ByteArray).map (·.data.toList)) [32]).length ≤ 105 := HLEN.out
      have HTX := Lib.hid htx
      have HLN := Lib.hid hln
      clear htx hln
      go_wp2_with fail
      (with_reducible refine (join_sl [(⟨#[106]⟩ : ByteArray) ++ wrd 6 c, mkN sR a, mkN sR b, mkN sP imm] 4 rfl (w5.heap.size + 6) _ ?hs HLN.out).mono ?_)
      case hs => exact Sl.alloc (Sl.alloc (Sl.alloc (Sl.alloc (Sl.alloc (Sl.alloc (Sl.alloc (Sl.alloc (Sl.alloc (Sl.alloc (HS6.out) _) _) _) _) _) _) _) _) _) _
      rintro e wj ⟨rfl, hBj⟩
      have HBj := Lib.hid ((((((((((((HT6.out.below).alloc (by first | omega | (simp only [World.size_alloc]; omega)) _).alloc (by first | omega | (simp only [World.size_alloc]; omega)) _).alloc (by first | omega | (simp only [World.size_alloc]; omega)) _).alloc (by first | omega | (simp only [World.size_alloc]; omega)) _).alloc (by first | omega | (simp only [World.size_alloc]; omega)) _).alloc (by first | omega | (simp only [World.size_alloc]; omega)) _).alloc (by first | omega | (simp only [World.size_alloc]; omega)) _).alloc (by first | omega | (simp only [World.size_alloc]; omega)) _).alloc (by first | omega | (simp only [World.size_alloc]; omega)) _).alloc (by first | omega | (simp only [World.size_alloc]; omega)) _).trans (hBj.mono (by simp only [World.size_alloc]; omega)))
      clear hBj
      rw [← HTX.out]
      go_wp2
      go_ret2
      exact ⟨rfl, HBj.out⟩
    · have har : arr[7]? = some (.slice (some ⟨w6.heap.size, 0, none⟩) 4 4) := by rw [← HARR.out]; rfl
      have htx : txt ⟨7, a, b, c, imm⟩ = ⟨(join (([(⟨#[106]⟩ : ByteArray) ++ wrd 7 c ++ (⟨#[105]⟩ : ByteArray), mkN sR a, mkN sE b, mkN sP imm] : List ByteArray).map (·.data.toList)) [32]).toArray⟩ := rfl
      have hln : (join (([(⟨#[106]⟩ : ByteArray) ++ wrd 7 c ++ (⟨#[105]⟩ : ByteArray), mkN sR a, mkN sE b, mkN sP imm] : List ByteArray).map (·.data.toList)) [32]).length ≤ 105 := HLEN.out
      have HTX := Lib.hid htx
      have HLN := Lib.hid hln
      clear htx hln
      go_wp2_with fail
      (with_reducible refine (join_sl [(⟨#[106]⟩ : ByteArray) ++ wrd 7 c ++ (⟨#[105]⟩ : ByteArray), mkN sR a, mkN sE b, mkN sP imm] 4 rfl (w6.heap.size) _ ?hs HLN.out).mono ?_)
      case hs => exact Sl.alloc (Sl.alloc (Sl.alloc (Sl.alloc (Sl.alloc (Sl.alloc (Sl.alloc (Sl.alloc (Sl.alloc (Sl.new [(⟨#[106]⟩ : ByteArray) ++ wrd 7 c ++ (⟨#[105]⟩ : ByteArray), mkN sR a, mkN sE b, mkN sP imm] _ _ (by simp) _) _) _) _) _) _) _) _) _) _
      rintro e wj ⟨rfl, hBj⟩
      have HBj := Lib.hid ((((((((((((HT6.out.below).alloc (by first | omega | (simp only [World.size_alloc]; omega)) _).alloc (by first | omega | (simp only [World.size_alloc]; omega)) _).alloc (by first | omega | (simp only [World.size_alloc]; omega)) _).alloc (by first | omega | (simp only [World.size_alloc]; omega)) _).alloc (by first | omega | (simp only [World.size_alloc]; omega)) _).alloc (by first | omega | (simp only [World.size_alloc]; omega)) _).alloc (by first | omega | (simp only [World.size_alloc]; omega)) _).alloc (by first | omega | (simp only [World.size_alloc]; omega)) _).alloc (by first | omega | (simp only [World.size_alloc]; omega)) _).alloc (by first | omega | (simp only [World.size_alloc]; omega)) _).trans (hBj.mono (by simp only [World.size_alloc]; omega)))
      clear hBj
      rw [← HTX.out]
      go_wp2
      go_ret2
      exact ⟨rfl, HBj.out⟩
    · have har : arr[14]? = some (.slice (some ⟨w6.heap.size + 7, 0, none⟩) 3 3) := by rw [← HARR.out]; rfl
      have htx : txt ⟨14, a, b, c, imm⟩ = ⟨(join (([⟨#[99, 97, 108, 108]⟩, wrd 14 c, mkN sE imm] : List ByteArray).map (·.data.toList)) [32]).toArray⟩ := rfl
      have hln : (join (([⟨#[99, 97, 108, 108]⟩, wrd 14 c, mkN sE imm] : List ByteArray).map (·.data.toList)) [32]).length ≤ 105 := HLEN.out
      have HTX := Lib.hid htx
      have HLN := Lib.hid hln
      clear htx hln
      go_wp2_with fail
      (with_reducible refine (join_sl [⟨#[99, 97, 108, 108]⟩, wrd 14 c, mkN sE imm] 3 rfl (w6.heap.size + 7) _ ?hs HLN.out).mono ?_)
      case hs => exact Sl.alloc (Sl.alloc (Sl.new [⟨#[99, 97, 108, 108]⟩, wrd 14 c, mkN sE imm] _ _ (by simp) _) _) _
      rintro e wj ⟨rfl, hBj⟩
      have HBj := Lib.hid ((((((((((((HT6.out.below).alloc (by first | omega | (simp only [World.size_alloc]; omega)) _).alloc (by first | omega | (simp only [World.size_alloc]; omega)) _).alloc (by first | omega | (simp only [World.size_alloc]; omega)) _).alloc (by first | omega | (simp only [World.size_alloc]; omega)) _).alloc (by first | omega | (simp only [World.size_alloc]; omega)) _).alloc (by first | omega | (simp only [World.size_alloc]; omega)) _).alloc (by first | omega | (simp only [World.size_alloc]; omega)) _).alloc (by first | omega | (simp only [World.size_alloc]; omega)) _).alloc (by first | omega | (simp only [World.size_alloc]; omega)) _).alloc (by first | omega | (simp only [World.size_alloc]; omega)) _).trans (hBj.mono (by simp only [World.size_alloc]; omega)))
      clear hBj
      rw [← HTX.out]
      go_wp2
      go_ret2
      exact ⟨rfl, HBj.out⟩
end Go.Proofs.YtlomgbackphmmaaDoor
