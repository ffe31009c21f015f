/- SlabApart: blocks that are taken don't overlap, lie within the arena behind the page 0, hold as much as was asked for, and keep what is written in them, whatever else is taken. -/
import Derived.Test.YtbngmkopgoelbaaDoorSlEmpty
import Derived.Maps.AppendAt
import Derived.StillTailTactics
set_option linter.unusedVariables false
set_option linter.unusedSimpArgs false
namespace Go.Proofs.YtbngmkopgoelbaaDoor
open Go.RowKit

theorem taken_apart {A : Nat → Ap} {n a b : Nat} (W : Wf A n) (ha : tkn A a = true) (hb : tkn A b = true) (hne : a ≠ b) : a + (A (a / 512)).c ≤ b ∨ b + (A (b / 512)).c ≤ a := by
  have ⟨a1, a2, a3⟩ := tkn_iff.1 ha
  have ⟨b1, b2, b3⟩ := tkn_iff.1 hb
  have aC := W.cc _ a1
  have bC := W.cc _ b1
  by_cases e : a / 512 = b / 512
  · rw [← e] at b2 ⊢
    exact apart aC a2 b2 hne
  · have h1 := inpage aC a2 rfl
    have h2 := inpage bC b2 rfl
    omega
theorem getD_snoc_lt {L : List Nat} {a i : Nat} (h : i < L.length) : (L ++ [a]).getD i 0 = L.getD i 0 := by
  rw [List.getD_eq_getElem?_getD, List.getD_eq_getElem?_getD, List.getElem?_append_left h]
theorem getD_snoc_eq {L : List Nat} {a i : Nat} (h : i = L.length) : (L ++ [a]).getD i 0 = a := by
  subst h
  rw [List.getD_eq_getElem?_getD, List.getElem?_append_right (Nat.le_refl _)]; simp
theorem gb_cut {bs : List Int} {a m k : Nat} (h : a + m ≤ bs.length) (hk : k < m) : gb (cutA bs (a : Int) (m : Int)) k = gb bs (a + k) := by
  unfold cutA
  rw [rErr_ok (by omega) (by omega) (by omega), if_pos rfl]
  unfold cutb gb
  rw [Int.toNat_natCast, Int.toNat_natCast, List.getD_eq_getElem?_getD, List.getD_eq_getElem?_getD, List.getElem?_take_of_lt hk, List.getElem?_drop]
theorem cut_len {bs : List Int} {a m : Nat} (h : a + m ≤ bs.length) : (cutA bs (a : Int) (m : Int)).length = m := by
  unfold cutA
  rw [rErr_ok (by omega) (by omega) (by omega), if_pos rfl, Int.toNat_natCast, Int.toNat_natCast, cutb_length _ _ _ h]

/-- Blocks that were taken and filled, each with its own number. -/
structure Sp (A : Nat → Ap) (n : Nat) (bs : List Int) (L M : List Nat) : Prop where
  tri : Tri A L n
  len : M.length = L.length
  le : ∀ i, i < L.length → 1 ≤ M.getD i 0 ∧ M.getD i 0 ≤ (A (L.getD i 0 / 512)).c
  by_ : ∀ i j, i < L.length → L.getD i 0 ≤ j → j < L.getD i 0 + M.getD i 0 → gb bs j = (i : Int)
  us : L.length ≤ usd A n
theorem Tri.at_ {A : Nat → Ap} {L : List Nat} {n i : Nat} (T : Tri A L n) (h : i < L.length) : tkn A (L.getD i 0) = true := by
  rw [T.tk, List.getD_eq_getElem?_getD, List.getElem?_eq_getElem h]
  exact List.contains_iff_mem.2 (List.getElem_mem h)
theorem Sp.next {A : Nat → Ap} {n m a : Nat} {bs bs' : List Int} {L M : List Nat} {A' : Nat → Ap} (S : Sp A n bs L M) (h : allc A n (cls m) = some (a, A')) (hm1 : 1 ≤ m) (hm2 : m ≤ 256) (hl : bs'.length = 512 * n)
    (hk : ∀ b j, tkn A b = true → b ≤ j → j < b + (A (b / 512)).c → gb bs' j = gb bs j) : Sp A' n (fillA bs' a m L.length) (L ++ [a]) (M ++ [m]) := by
  have G := got S.tri.wf h
  have hge := cls_ge hm2
  have hcp := (cls_isC m).pos
  have hhi := G.hi
  refine ⟨S.tri.next h, by simp [S.len], fun i hi => ?_, fun i j hi h1 h2 => ?_, by rw [G.us]; have := S.us; simp; omega⟩
  · rcases Nat.lt_or_ge i L.length with hlt | hge'
    · rw [getD_snoc_lt hlt, getD_snoc_lt (by rw [S.len]; exact hlt), G.same _ (S.tri.at_ hlt)]
      exact S.le i hlt
    · have e : i = L.length := by simp at hi; omega
      rw [getD_snoc_eq e, getD_snoc_eq (by rw [S.len]; exact e), G.c]
      omega
  · rcases Nat.lt_or_ge i L.length with hlt | hge'
    · rw [getD_snoc_lt hlt] at h1 h2
      rw [getD_snoc_lt (by rw [S.len]; exact hlt)] at h2
      have ht := S.tri.at_ hlt
      have hle := S.le i hlt
      have hne : a ≠ L.getD i 0 := fun e => by
        have := G.new
        rw [e, ht] at this; cases this
      have ht' : tkn A' (L.getD i 0) = true := by rw [G.all, ht]; rfl
      have hap := taken_apart G.wf G.tk ht' hne
      rw [G.c, G.same _ ht] at hap
      rw [gb_fillA _ _ _ _ _ (by omega), hk _ j ht h1 (by omega)]
      exact S.by_ i j hlt h1 h2
    · have e : i = L.length := by simp at hi; omega
      rw [getD_snoc_eq e] at h1 h2
      rw [getD_snoc_eq (by rw [S.len]; exact e)] at h2
      rw [e]
      exact gb_fillA_in _ _ _ _ _ ⟨h1, h2⟩ (by omega)

/-- Two values that own no block in common. -/
def NE (v1 v2 : Value) : Prop := ∀ g, v1.ownBlock = some g → v2.ownBlock ≠ some g
theorem NE.sym {v1 v2 : Value} (h : NE v1 v2) : NE v2 v1 := fun g h1 h2 => h g h2 h1
theorem NE.kept {v1 v2 : Value} (h : NE v1 v2) : v2.ownBlock = none ∨ v2.ownBlock ≠ v1.ownBlock := by
  cases h2 : v2.ownBlock with
  | none => exact .inl rfl
  | some g => exact .inr (fun e => h g e.symm h2)
theorem NE.grown {v1 v2 v1' : Value} {w : World} {B : Nat} {e : TypeId} {size k : Nat} {xs : List Value} {H : Nat} (h : NE v1 v2) (h2 : w.ownsRow B e size v2 k xs) (hH : w.heap.size ≤ H) (ho : v1'.ownBlock = v1.ownBlock ∨ v1'.ownBlock = some H) : NE v1' v2 := fun g hg h3 => by
  rcases ho with ho | ho
  · exact h g (by rw [← ho]; exact hg) h3
  · rw [hg] at ho
    injection ho with ho
    have := (h2.lt g h3).2
    omega

theorem Arena_still {w0 w : World} {s pa pd pp n : Nat} {A : Nat → Ap} {bs : List Int} (S : St w0 w s pa pd pp n A bs) (W : World) (hW : ∀ i : Nat, W.heap[i]? = w.heap[i]?) :
    Calls Tryd.prog 14 #[.pointer (some ⟨s, 0, none⟩)] W fun e w'' => e = .returned (.pointer (some ⟨pa, 0, none⟩)) ∧ w'' = W := by
  obtain ⟨f, P, hS, R⟩ := S.ex
  exact (SArena_calls (hS.sb.turn (hW s))).mono fun _ _ ⟨h, e⟩ => ⟨h, e.symm⟩

set_option maxRecDepth 100000 in
set_option maxHeartbeats 1000000 in
theorem SlabApart_calls (pages : Int) (A0 : Option Addr) (len cap : Nat) (f : Nat → Int) (w : World) (T : Tb w) (hC : ColI w A0 len 1 0 .u16 f) (hlen : len ≤ 9223372036854775807) (h0 : 0 ≤ pages ∧ pages ≤ 255) :
    Calls Tryd.prog 5 #[.int .u8 pages, .slice A0 len cap] w fun e w' => e = .returned (.bool true) ∧ Kept w w' := by
  obtain ⟨i0, hi, hz0, hz1, hz2⟩ := info_parts int_info
  obtain ⟨n, hn⟩ := Int.eq_ofNat_of_zero_le (show 0 ≤ 1 + pages % 128 by omega)
  have hn1 : 1 ≤ n := by omega
  have hn2 : n ≤ 128 := by omega
  obtain ⟨hp0, hp1⟩ := h0
  have HC := Lib.hid hC
  obtain ⟨K, hK⟩ : ∃ K, K = min len 120 := ⟨_, rfl⟩
  have HK := Lib.hid hK
  have hK1 : K ≤ 120 := by omega
  have hK2 : K ≤ len := by omega
  clear hC hK
  go_enter Tryd.func5, Tryd.ntmps5
  go_wp2_with fail
  refine (shown_calls _ T).mono ?_
  rintro e w1 ⟨rfl, K1⟩
  go_wp2_with fail
  refine (SNew_st K1 T n hn1 hn2).mono ?_
  rintro e w2 ⟨s, pa, pd, pp, rfl, S2, _⟩
  have hlt := S2.lt
  have hk2 := S2.kept.below.size
  have HS2 := Lib.hid S2
  obtain ⟨B, hB⟩ : ∃ B, B = w2.heap.size := ⟨_, rfl⟩
  have HLT : Hid ((s < B ∧ pa < B ∧ pd < B ∧ pp < B) ∧ w.heap.size ≤ B ∧ B ≤ w2.heap.size) := Lib.hid (by rw [hB]; exact ⟨hlt, hk2, Nat.le_refl _⟩)
  clear S2 K1 T hlt hk2 hB
  go_wp2_with fail
  refine (Arena_st HS2.out).mono ?_
  rintro e w3 ⟨rfl, rfl⟩
  go_wp2_with fail
  refine (Len_calls HS2.out.ar).mono ?_
  rintro e w3 ⟨rfl, rfl⟩
  rw [HS2.out.len]
  have hN : ((512 * n : Nat) : Int) = 512 * (n : Int) := by omega
  go_wp2_with fail
  go_loopw [9, 10, 11, 12, 13, 14] (fun l l2 i _ _ _ wr => ∃ (k : Nat) (A : Nat → Ap) (bs : List Int) (L M : List Nat), k ≤ K ∧ i = .int .i64 (k : Int) ∧ L.length ≤ k ∧ wr.ownsRow B 3 1 l L.length (vn L) ∧ wr.ownsRow B 3 1 l2 M.length (vn M) ∧ NE l l2 ∧ St w wr s pa pd pp n A bs ∧ Sp A n bs L M ∧ B ≤ wr.heap.size) (fun _ _ i _ _ _ _ => K - (intOf i).toNat)
  case atStart => exact ⟨0, _, _, [], [], by omega, rfl, by simp, World.ownsRow_nil _ _ _ _, World.ownsRow_nil _ _ _ _, fun g h => (by cases h), HS2.out, ⟨⟨none0_wf hn2, fun b => rfl, List.nodup_nil⟩, rfl, fun i h => (by cases h), fun i j h => (by cases h), by simp⟩, HLT.out.2.2⟩
  case round =>
    obtain ⟨k, A, bs, L, M, hk, rfl, hLk, hrow, hrow2, hne, hS, hSp, hBw⟩ := hrel
    have HS := Lib.hid hS
    have HSp := Lib.hid hSp
    have HNE := Lib.hid hne
    have HRow := Lib.hid hrow
    have HRow2 := Lib.hid hrow2
    clear hS hrow hrow2 hSp hne
    by_cases hkK : k < K
    · have hl1 : k < len := by omega
      have hl2 : (k : Int) < (len : Int) := by omega
      have hl3 : (k : Int) < 120 := by omega
      obtain ⟨ad, hA, hadl, hcell, hwf⟩ := (HC.out.below HS.out.kept.below) k hl1
      have hb := bd_u16 hwf
      obtain ⟨m, hm⟩ := Int.eq_ofNat_of_zero_le (show 0 ≤ 1 + f k % 256 by omega)
      have hm1 : 1 ≤ m := by omega
      have hm2 : m ≤ 256 := by omega
      rw [Nat.mul_one, Nat.add_zero] at hcell
      subst hA
      clear hwf
      cases hal : allc A n (cls m) with
      | none =>
        have HAL := Lib.hid hal
        clear hal
        go_wp2_with fail
        refine (Alloc_none HS.out m hm1 hm2 HAL.out).mono ?_
        rintro e w3 ⟨rfl, S3', hF⟩
        have HS3 := Lib.hid S3'
        have HRow3 := Lib.hid (row_fr HRow.out hF HLT.out.1)
        have HRow4 := Lib.hid (row_fr HRow2.out hF HLT.out.1)
        have hB3 : B ≤ w3.heap.size := Nat.le_trans hBw hF.size
        clear S3' hF
        go_wp2
        go_roundw
        case rel => exact ⟨k + 1, A, bs, L, M, by omega, by go_num, by omega, HRow3.out, HRow4.out, HNE.out, HS3.out, HSp.out, hB3⟩
        case measure => simp [intOf]; omega
      | some r =>
        obtain ⟨a, A'⟩ := r
        have G := got HS.out.wf hal
        have hge := cls_ge hm2
        have ha1 := G.lo
        have ha2 := G.hi
        have HG := Lib.hid G
        have HAL := Lib.hid hal
        have e1 : ¬ ((a : Int) < 512) := by omega
        have e2 : (a : Int) + (m : Int) ≤ 512 * (n : Int) := by omega
        have e3 : IntKind.u8.wrap ((L.length : Nat) : Int) = ((L.length : Nat) : Int) := by rw [IntKind.wrap_u8]; omega
        clear hal G
        obtain ⟨A1, c1, hv1, _⟩ := row_cells HRow.out
        subst hv1
        go_wp2_with fail
        refine (Alloc_some HS.out m a hm1 hm2 HAL.out).mono ?_
        rintro e w3 ⟨rfl, bs', S3', hkp, _, hFr⟩
        have HS3 := Lib.hid S3'
        have HKP := Lib.hid hkp
        have HRow3 := Lib.hid (row_fr HRow.out hFr HLT.out.1)
        have HRow4 := Lib.hid (row_fr HRow2.out hFr HLT.out.1)
        have hB3 : B ≤ w3.heap.size := Nat.le_trans hBw hFr.size
        clear S3' hFr hkp
        go_wp2_with fail
        refine (Arena_st HS3.out).mono ?_
        rintro e w4 ⟨rfl, rfl⟩
        go_wp2_with fail
        refine (Fill_st3 HS3.out a m ((L.length : Nat) : Int) HG.out.tk (by rw [HG.out.c]; exact hge) (by omega) (by omega)).mono ?_
        rintro e w4 ⟨rfl, S4, hF4⟩
        have HS4 := Lib.hid S4
        have HRow5 := Lib.hid (row_fr HRow3.out hF4 HLT.out.1)
        have HRow6 := Lib.hid (row_fr HRow4.out hF4 HLT.out.1)
        have hB4 : B ≤ w4.heap.size := Nat.le_trans hB3 hF4.size
        have HN : Hid (Sp A' n (fillA bs' a m L.length) (L ++ [a]) (M ++ [m])) := Lib.hid (HSp.out.next HAL.out hm1 hm2 HS3.out.len HKP.out)
        have HML := Lib.hid HSp.out.len
        clear S4 hF4
        go_wp2_with (at_builtin; refine wpList_append_own_at _ rfl _ _ 34 rfl B 3 i0 (.int .i64 0) 1 8 Tryd.underlying34 hi hz0 hz1 hz2 rfl (by decide) _ _ _ rfl (HRow5.out.alloc _) ⟨w4.heap.size, 0, none⟩ 1 1 [.int .i64 (a : Int)] rfl rfl ?c1 ?c2 ?c3 ?c4 ?c5 ?_)
        case c1 =>
          intro j u hj
          match j, hj with
          | 0, hj => simp at hj; subst hj; simp [Addr.add]
        case c2 => intro u hu; simp at hu; subst hu; rfl
        case c3 => unfold maxLen; omega
        case c4 => omega
        case c5 => simp; omega
        · intro v5 w5 hown5 hg5 _ hob5
          have NE5 : NE v5 _ := HNE.out.grown HRow6.out (Nat.le_succ _) hob5
          have HRow7 := (HRow6.out.alloc (.cells #[.int .i64 (a : Int)] 3)).kept hg5 HNE.out.kept
          rw [vn_snoc, len_snoc _ a] at hown5
          have S5 := (HS4.out.then_ ((Below.refl _ _).alloc (Nat.le_refl _) _)).row hg5 HLT.out.1 HLT.out.2.1 (fun k hk => (HRow5.out.lt k hk).1)
          have HO5 := Lib.hid hown5
          have HS5 := Lib.hid S5
          have HR7 := Lib.hid HRow7
          have HN5 := Lib.hid NE5
          have hB5 : B ≤ w5.heap.size := Nat.le_trans (Nat.le_trans hB4 (by simp)) hg5.size
          clear hown5 hg5 S5 NE5 HRow7 hob5
          go_wp2_with (at_builtin; refine wpList_append_own_at _ rfl _ _ 34 rfl B 3 i0 (.int .i64 0) 1 8 Tryd.underlying34 hi hz0 hz1 hz2 rfl (by decide) _ _ _ rfl (HR7.out.alloc _) ⟨w5.heap.size, 0, none⟩ 1 1 [.int .i64 (m : Int)] rfl rfl ?c1 ?c2 ?c3 ?c4 ?c5 ?_)
          case c1 =>
            intro j u hj
            match j, hj with
            | 0, hj => simp at hj; subst hj; simp [Addr.add]
          case c2 => intro u hu; simp at hu; subst hu; rfl
          case c3 => have := HML.out; unfold maxLen; omega
          case c4 => have := HML.out; omega
          case c5 => simp; omega
          · intro v6 w6 hown6 hg6 _ hob6
            have NE6 := HN5.out.sym.grown HO5.out (Nat.le_succ _) hob6
            have HO6 := (HO5.out.alloc (.cells #[.int .i64 (m : Int)] 3)).kept hg6 HN5.out.sym.kept
            rw [vn_snoc, len_snoc _ m] at hown6
            have S6 := (HS5.out.then_ ((Below.refl _ _).alloc (Nat.le_refl _) _)).row hg6 HLT.out.1 HLT.out.2.1 (fun k hk => (HR7.out.lt k hk).1)
            have HO7 := Lib.hid hown6
            have HO8 := Lib.hid HO6
            have HS6 := Lib.hid S6
            have HN6 := Lib.hid NE6.sym
            have hB6 : B ≤ w6.heap.size := Nat.le_trans (Nat.le_trans hB5 (by simp)) hg6.size
            clear hown6 hg6 S6 NE6 HO6 hob6
            go_wp2
            go_roundw
            case rel => exact ⟨k + 1, A', _, L ++ [a], M ++ [m], by omega, by go_num, by simp; omega, HO8.out, HO7.out, HN6.out, HS6.out, HN.out, hB6⟩
            case measure => simp [intOf]; omega
    · obtain rfl : k = K := by omega
      have hk1 : ¬ ((k : Int) < (len : Int) ∧ (k : Int) < 120) := by have := HK.out; omega
      by_cases hk3 : (k : Int) < (len : Int)
      · have hk4 : ¬ ((k : Int) < 120) := fun h => hk1 ⟨hk3, h⟩
        clear hk1
        obtain ⟨A1, c1, hv1, hcs1⟩ := row_cells HRow.out
        subst hv1
        obtain ⟨A2, c2, hv2, hcs2⟩ := row_cells HRow2.out
        subst hv2
        have hML := HSp.out.len
        have HC1 := Lib.hid hcs1
        have HC2 := Lib.hid hcs2
        clear hcs1 hcs2
        go_wp2_with fail
        go_loopw [15, 16, 17, 18] (fun i _ _ _ wx => ∃ q : Nat, q ≤ L.length ∧ i = .int .i64 (q : Int) ∧ Below wr.heap.size wr wx) (fun i _ _ _ _ => L.length - (intOf i).toNat)
        case atStart => exact ⟨0, by omega, rfl, Below.refl _ _⟩
        case round =>
          obtain ⟨q, hq, rfl, hBq⟩ := hrel
          have HBq := Lib.hid hBq
          have HSq := Lib.hid (HS.out.then_ hBq)
          by_cases hqL : q < L.length
          · obtain ⟨A3, c3, e3, h3⟩ := row_cells (row_below HRow.out hBq)
            injection e3 with e31 e32 e33
            obtain ⟨g1, e4, hc1⟩ := h3 q hqL
            obtain rfl : A1 = some ⟨g1, 0, none⟩ := e31.trans e4
            obtain ⟨A5, c5, e5, h5⟩ := row_cells (row_below HRow2.out hBq)
            injection e5 with e51 e52 e53
            obtain ⟨g2, e6, hc2⟩ := h5 q (by rw [hML]; exact hqL)
            obtain rfl : A2 = some ⟨g2, 0, none⟩ := e51.trans e6
            clear h3 h5 e31 e32 e33 e4 e51 e52 e53 e6
            have ht := HSp.out.tri.at_ hqL
            have hle := HSp.out.le q hqL
            have hby := HSp.out.by_ q
            have hfit := HS.out.wf.fits ht
            have hbl := HS.out.len
            have HBY := Lib.hid (fun j => hby j hqL)
            clear hby hBq
            generalize L.getD q 0 = a at *
            generalize M.getD q 0 = m at *
            obtain ⟨hm1, hm2⟩ := hle
            have hm3 := hfit.2.2.2.pos
            have ham : a + m ≤ bs.length := by omega
            have hqi : (q : Int) < (L.length : Int) := by omega
            have hqi2 : (q : Int) < (M.length : Int) := by omega
            have hq8 : IntKind.u8.wrap (q : Int) = (q : Int) := by rw [IntKind.wrap_u8]; omega
            have HQ8 := Lib.hid hq8
            have hcl := cut_len ham
            have hre : rErr bs.length (a : Int) (m : Int) = 0 := rErr_ok (by omega) (by omega) (by omega)
            have HCL := Lib.hid (And.intro hcl hre)
            clear hfit ht hcl hre hbl hq8
            go_wp2_with fail
            have HSd := Lib.hid (HSq.out.then_ ((Below.refl _ _).drew))
            have hgl1 : g1 < wr.drew.heap.size := World.block_lt_of_cell? wr ⟨g1, q, none⟩ hc1
            have hgl2 : g2 < wr.drew.heap.size := World.block_lt_of_cell? wr ⟨g2, q, none⟩ hc2
            go_region_held3 (fun w' => w'.cell? ⟨g1, q, none⟩ = some (.int .i64 (a : Int)) ∧ w'.cell? ⟨g2, q, none⟩ = some (.int .i64 (m : Int))) (first | exact ⟨hc1, hc2⟩ | exact ⟨(hB4.cell (p := ⟨g1, q, none⟩) hgl1).trans hc1, (hB4.cell (p := ⟨g2, q, none⟩) hgl2).trans hc2⟩) (first | (go_simp; go_at_call 14; refine (Arena_st HSd.out).mono ?_; rintro e w3 ⟨rfl, rfl⟩) | (go_simp; go_at_call 17; refine (Bytes_any (a : Int) (m : Int) _ HSd.out.ar (by omega)).mono ?_; rintro e w4 ⟨gb', rfl, hBk, hgle, hB4⟩))
            rw [HCL.out.1, HCL.out.2]
            have hc4 := (hB4.cell (p := ⟨g2, q, none⟩) hgl2).trans hc2
            have HBK := Lib.hid hBk
            have hB5 : Below wr.heap.size wr w4 := ⟨hB4.os, hB4.tape, hB4.output, hB4.size, hB4.block⟩
            have HB5 := Lib.hid (HBq.out.trans ⟨hB5.os, hB5.tape, hB5.output, hB5.size, fun i hi => hB5.block i (Nat.lt_of_lt_of_le hi HBq.out.size)⟩)
            clear hBk hB4 hgle hB5 hc1 hc2
            have hmi : ¬ ((m : Int) < 0) := by omega
            have e8 : IntKind.u8.wrap (q : Int) = (q : Int) := HQ8.out
            go_wp2_with fail
            go_loop [18] (fun k => ∃ r : Nat, r ≤ m ∧ k = .int .i64 (r : Int)) (fun k => m - (intOf k).toNat)
            case atStart => exact ⟨0, by omega, rfl⟩
            case round =>
              obtain ⟨r, hr, rfl⟩ := hrel
              by_cases hrm : r < m
              · have hri : (r : Int) < (m : Int) := by omega
                have hcb := HBK.out.byte r (by rw [HCL.out.1]; exact hrm)
                rw [gb_cut ham hrm, HBY.out (a + r) (by omega) (by omega)] at hcb
                go_wp2
                go_round
                case rel => exact ⟨r + 1, by omega, by go_num⟩
                case measure => simp [intOf]; omega
              · obtain rfl : r = m := by omega
                clear hrm hr
                go_wp2
                go_roundw
                case rel => exact ⟨q + 1, by omega, by go_num, HB5.out⟩
                case measure => simp [intOf]; omega
          · obtain rfl : q = L.length := by omega
            have hus : ((L.length : Nat) : Int) ≤ ((usd A n : Nat) : Int) := by have := HSp.out.us; omega
            clear hqL hq hBq
            go_wp2_with fail
            refine (Used_st HSq.out).mono ?_
            rintro e w5 ⟨rfl, rfl⟩
            generalize ((usd A n : Nat) : Int) = U at *
            go_wp2
            go_ret
            exact ⟨rfl, HSq.out.kept⟩
      · clear hk1
        obtain ⟨A1, c1, hv1, hcs1⟩ := row_cells HRow.out
        subst hv1
        obtain ⟨A2, c2, hv2, hcs2⟩ := row_cells HRow2.out
        subst hv2
        have hML := HSp.out.len
        have HC1 := Lib.hid hcs1
        have HC2 := Lib.hid hcs2
        clear hcs1 hcs2
        go_wp2_with fail
        go_loopw [15, 16, 17, 18] (fun i _ _ _ wx => ∃ q : Nat, q ≤ L.length ∧ i = .int .i64 (q : Int) ∧ Below wr.heap.size wr wx) (fun i _ _ _ _ => L.length - (intOf i).toNat)
        case atStart => exact ⟨0, by omega, rfl, Below.refl _ _⟩
        case round =>
          obtain ⟨q, hq, rfl, hBq⟩ := hrel
          have HBq := Lib.hid hBq
          have HSq := Lib.hid (HS.out.then_ hBq)
          by_cases hqL : q < L.length
          · obtain ⟨A3, c3, e3, h3⟩ := row_cells (row_below HRow.out hBq)
            injection e3 with e31 e32 e33
            obtain ⟨g1, e4, hc1⟩ := h3 q hqL
            obtain rfl : A1 = some ⟨g1, 0, none⟩ := e31.trans e4
            obtain ⟨A5, c5, e5, h5⟩ := row_cells (row_below HRow2.out hBq)
            injection e5 with e51 e52 e53
            obtain ⟨g2, e6, hc2⟩ := h5 q (by rw [hML]; exact hqL)
            obtain rfl : A2 = some ⟨g2, 0, none⟩ := e51.trans e6
            clear h3 h5 e31 e32 e33 e4 e51 e52 e53 e6
            have ht := HSp.out.tri.at_ hqL
            have hle := HSp.out.le q hqL
            have hby := HSp.out.by_ q
            have hfit := HS.out.wf.fits ht
            have hbl := HS.out.len
            have HBY := Lib.hid (fun j => hby j hqL)
            clear hby hBq
            generalize L.getD q 0 = a at *
            generalize M.getD q 0 = m at *
            obtain ⟨hm1, hm2⟩ := hle
            have hm3 := hfit.2.2.2.pos
            have ham : a + m ≤ bs.length := by omega
            have hqi : (q : Int) < (L.length : Int) := by omega
            have hqi2 : (q : Int) < (M.length : Int) := by omega
            have hq8 : IntKind.u8.wrap (q : Int) = (q : Int) := by rw [IntKind.wrap_u8]; omega
            have HQ8 := Lib.hid hq8
            have hcl := cut_len ham
            have hre : rErr bs.length (a : Int) (m : Int) = 0 := rErr_ok (by omega) (by omega) (by omega)
            have HCL := Lib.hid (And.intro hcl hre)
            clear hfit ht hcl hre hbl hq8
            go_wp2_with fail
            have HSd := Lib.hid (HSq.out.then_ ((Below.refl _ _).drew))
            have hgl1 : g1 < wr.drew.heap.size := World.block_lt_of_cell? wr ⟨g1, q, none⟩ hc1
            have hgl2 : g2 < wr.drew.heap.size := World.block_lt_of_cell? wr ⟨g2, q, none⟩ hc2
            go_region_held3 (fun w' => w'.cell? ⟨g1, q, none⟩ = some (.int .i64 (a : Int)) ∧ w'.cell? ⟨g2, q, none⟩ = some (.int .i64 (m : Int))) (first | exact ⟨hc1, hc2⟩ | exact ⟨(hB4.cell (p := ⟨g1, q, none⟩) hgl1).trans hc1, (hB4.cell (p := ⟨g2, q, none⟩) hgl2).trans hc2⟩) (first | (go_simp; go_at_call 14; refine (Arena_st HSd.out).mono ?_; rintro e w3 ⟨rfl, rfl⟩) | (go_simp; go_at_call 17; refine (Bytes_any (a : Int) (m : Int) _ HSd.out.ar (by omega)).mono ?_; rintro e w4 ⟨gb', rfl, hBk, hgle, hB4⟩))
            rw [HCL.out.1, HCL.out.2]
            have hc4 := (hB4.cell (p := ⟨g2, q, none⟩) hgl2).trans hc2
            have HBK := Lib.hid hBk
            have hB5 : Below wr.heap.size wr w4 := ⟨hB4.os, hB4.tape, hB4.output, hB4.size, hB4.block⟩
            have HB5 := Lib.hid (HBq.out.trans ⟨hB5.os, hB5.tape, hB5.output, hB5.size, fun i hi => hB5.block i (Nat.lt_of_lt_of_le hi HBq.out.size)⟩)
            clear hBk hB4 hgle hB5 hc1 hc2
            have hmi : ¬ ((m : Int) < 0) := by omega
            have e8 : IntKind.u8.wrap (q : Int) = (q : Int) := HQ8.out
            go_wp2_with fail
            go_loop [18] (fun k => ∃ r : Nat, r ≤ m ∧ k = .int .i64 (r : Int)) (fun k => m - (intOf k).toNat)
            case atStart => exact ⟨0, by omega, rfl⟩
            case round =>
              obtain ⟨r, hr, rfl⟩ := hrel
              by_cases hrm : r < m
              · have hri : (r : Int) < (m : Int) := by omega
                have hcb := HBK.out.byte r (by rw [HCL.out.1]; exact hrm)
                rw [gb_cut ham hrm, HBY.out (a + r) (by omega) (by omega)] at hcb
                go_wp2
                go_round
                case rel => exact ⟨r + 1, by omega, by go_num⟩
                case measure => simp [intOf]; omega
              · obtain rfl : r = m := by omega
                clear hrm hr
                go_wp2
                go_roundw
                case rel => exact ⟨q + 1, by omega, by go_num, HB5.out⟩
                case measure => simp [intOf]; omega
          · obtain rfl : q = L.length := by omega
            have hus : ((L.length : Nat) : Int) ≤ ((usd A n : Nat) : Int) := by have := HSp.out.us; omega
            clear hqL hq hBq
            go_wp2_with fail
            refine (Used_st HSq.out).mono ?_
            rintro e w5 ⟨rfl, rfl⟩
            generalize ((usd A n : Nat) : Int) = U at *
            go_wp2
            go_ret
            exact ⟨rfl, HSq.out.kept⟩
end Go.Proofs.YtbngmkopgoelbaaDoor
