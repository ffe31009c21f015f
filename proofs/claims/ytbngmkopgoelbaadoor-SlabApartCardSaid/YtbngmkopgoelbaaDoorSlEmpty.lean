/- SlabEmpty: when all blocks were freed, in whichever order, no page is anybody's, nothing is taken, and as much can be taken as at first; nothing is freed twice. -/
import Derived.Test.YtbngmkopgoelbaaDoorSlLast
import Derived.Test.YtbngmkopgoelbaaDoorSlStep
import Derived.RegionTactic
import Derived.Deep.RegionHeld3
import Derived.Deep.AppendLies
set_option linter.unusedVariables false
set_option linter.unusedSimpArgs false
namespace Go.Proofs.YtbngmkopgoelbaaDoor
open Go.RowKit

/-- What a size of 16 bits asks for. -/
def szs (f : Nat → Int) (k : Nat) : Nat := (1 + f k % 256).toNat
/-- So many sizes were asked of an empty slab: what it is, and which places were told. -/
def tries (n : Nat) (f : Nat → Int) : Nat → (Nat → Ap) × List Nat
  | 0 => (none0, [])
  | k + 1 => match allc (tries n f k).1 n (cls (szs f k)) with
    | none => tries n f k
    | some r => (r.2, (tries n f k).2 ++ [r.1])
structure Tri (A : Nat → Ap) (L : List Nat) (n : Nat) : Prop where
  wf : Wf A n
  tk : ∀ b, tkn A b = L.contains b
  nd : L.Nodup
theorem Tri.next {A : Nat → Ap} {L : List Nat} {n m a : Nat} {A' : Nat → Ap} (T : Tri A L n) (h : allc A n (cls m) = some (a, A')) : Tri A' (L ++ [a]) n := by
  have G := got T.wf h
  refine ⟨G.wf, fun b => by rw [G.all, T.tk, Bool.eq_iff_iff]; simp, ?_⟩
  have hna : a ∉ L := fun hm => by
    have := T.tk a
    rw [G.new] at this
    have h2 := List.contains_iff_mem.2 hm
    rw [h2] at this; cases this
  rw [List.nodup_append]
  refine ⟨T.nd, by simp, fun x hx y hy => ?_⟩
  simp at hy
  subst hy
  exact fun e => hna (by rw [← e]; exact hx)
theorem tries_tri (n : Nat) (hn : n ≤ 128) (f : Nat → Int) : ∀ k, Tri (tries n f k).1 (tries n f k).2 n
  | 0 => ⟨none0_wf hn, fun b => rfl, List.nodup_nil⟩
  | k + 1 => by
    have ih := tries_tri n hn f k
    unfold tries
    cases h : allc (tries n f k).1 n (cls (szs f k)) with
    | none => exact ih
    | some r => exact ih.next (a := r.1) (A' := r.2) h
theorem tries_len (n : Nat) (f : Nat → Int) : ∀ k, (tries n f k).2.length ≤ k
  | 0 => by simp [tries]
  | k + 1 => by
    have ih := tries_len n f k
    unfold tries
    cases allc (tries n f k).1 n (cls (szs f k)) with
    | none => show (tries n f k).2.length ≤ k + 1; omega
    | some r => show ((tries n f k).2 ++ [r.1]).length ≤ k + 1; simp; omega
theorem tries_none {n k : Nat} {f : Nat → Int} (h : allc (tries n f k).1 n (cls (szs f k)) = none) : tries n f (k + 1) = tries n f k := by
  show (match allc (tries n f k).1 n (cls (szs f k)) with | none => tries n f k | some r => (r.2, (tries n f k).2 ++ [r.1])) = _
  rw [h]
theorem tries_some {n k a : Nat} {A' : Nat → Ap} {f : Nat → Int} (h : allc (tries n f k).1 n (cls (szs f k)) = some (a, A')) : tries n f (k + 1) = (A', (tries n f k).2 ++ [a]) := by
  show (match allc (tries n f k).1 n (cls (szs f k)) with | none => tries n f k | some r => (r.2, (tries n f k).2 ++ [r.1])) = _
  rw [h]

theorem nodup_erase {L : List Nat} (h : L.Nodup) {k : Nat} (hk : k < L.length) : (L.take k ++ L.drop (k + 1)).Nodup ∧ ∀ b, (L.take k ++ L.drop (k + 1)).contains b = (L.contains b && b != L.getD k 0) := by
  have e : L = L.take k ++ (L.getD k 0 :: L.drop (k + 1)) := by
    rw [List.getD_eq_getElem?_getD, List.getElem?_eq_getElem hk]
    show L = L.take k ++ (L[k] :: L.drop (k + 1))
    rw [← List.drop_eq_getElem_cons hk, List.take_append_drop]
  generalize L.getD k 0 = x at *
  generalize L.take k = P at *
  generalize L.drop (k + 1) = R at *
  subst e
  rw [List.nodup_append] at h
  obtain ⟨h1, h2, h3⟩ := h
  rw [List.nodup_cons] at h2
  refine ⟨?_, fun b => ?_⟩
  · rw [List.nodup_append]
    exact ⟨h1, h2.2, fun y hy z hz => h3 y hy z (List.mem_cons_of_mem _ hz)⟩
  · rw [Bool.eq_iff_iff]
    simp only [List.contains_iff_mem, Bool.and_eq_true, bne_iff_ne, ne_eq, List.mem_append, List.mem_cons]
    constructor
    · rintro (h | h)
      · exact ⟨.inl h, fun e => h3 b h x (List.mem_cons_self ..) e⟩
      · exact ⟨.inr (.inr h), fun e => h2.1 (by rw [← e]; exact h)⟩
    · rintro ⟨h | h | h, hne⟩
      · exact .inl h
      · exact absurd h hne
      · exact .inr h
theorem Tri.free {A : Nat → Ap} {L : List Nat} {n k : Nat} (T : Tri A L n) (hk : k < L.length) : tkn A (L.getD k 0) = true ∧ Tri (frd A (L.getD k 0)) (L.take k ++ L.drop (k + 1)) n := by
  have hm : tkn A (L.getD k 0) = true := by
    rw [T.tk, List.getD_eq_getElem?_getD, List.getElem?_eq_getElem hk]
    exact List.contains_iff_mem.2 (List.getElem_mem hk)
  have hN := nodup_erase T.nd hk
  exact ⟨hm, T.wf.frd hm, fun b => by rw [T.wf.tkn_frd hm b, T.tk, hN.2], hN.1⟩
theorem Tri.over {A : Nat → Ap} {n : Nat} (T : Tri A [] n) : A = none0 := by
  funext i
  have hc : (A i).c = 0 := by
    apply Classical.byContradiction
    intro h
    have hC := T.wf.cc i h
    have h1 := T.wf.some_ i h
    have hd := hC.div
    have : ∃ r, r < 32 ∧ gP (A i) i r = true := by
      apply Classical.byContradiction
      intro hno
      have : mny (A i) i = 0 := by
        unfold mny
        rw [cnt_congr (gP (A i) i) (fun _ => false) 32 (fun r hr => by
          cases hg : gP (A i) i r
          · rfl
          · exact absurd ⟨r, hr, hg⟩ hno)]
        exact cnt_none 32
      omega
    obtain ⟨r, hr, hg⟩ := this
    unfold gP at hg
    simp only [Bool.and_eq_true, decide_eq_true_eq, Bool.not_eq_true'] at hg
    obtain ⟨g1, g2⟩ := hg
    generalize hcc : (A i).c = c at *
    have hb : (512 * i + c * r) / 512 = i ∧ (512 * i + c * r) % c = 0 := by rcases hC with rfl | rfl | rfl | rfl | rfl <;> omega
    have ht : tkn A (512 * i + c * r) = true := by
      unfold tkn
      rw [hb.1, hcc, hb.2, g2]
      have : (c != 0) = true := by rw [bne_iff_ne]; exact h
      rw [this]; rfl
    rw [T.tk] at ht
    cases ht
  have := T.wf.none_ i hc
  show A i = ⟨0, []⟩
  rw [← hc, ← this]
theorem none0_pgs (n : Nat) : pgs none0 n = 0 := by unfold pgs; exact cnt_none n

theorem row_cap {w : World} {B n c : Nat} {e : TypeId} {size : Nat} {A : Option Addr} {xs : List Value} (h : w.ownsRow B e size (.slice A n c) n xs) : n ≤ c := by
  rcases h.2 with ⟨h1, h2⟩ | ⟨g, cap, cur, h1, _, _, h2, _⟩
  · injection h1 with _ h3 h4; omega
  · injection h1 with _ _ h4; omega
/-- An empty block of the call's own. -/
theorem row_empty (w : World) : ((w.alloc (.cells #[] 3)).drew).ownsRow w.heap.size 3 1 (.slice (some ⟨w.heap.size, 0, none⟩) 0 0) 0 [] :=
  ⟨rfl, .inr ⟨w.heap.size, 0, #[], rfl, Nat.le_refl _, heap_alloc_new w _, Nat.le_refl _, by unfold maxLen; omega, rfl, rfl⟩⟩
theorem news_head {w : World} {B g c j : Nat} {M : List Nat} (h : w.ownsRow B 3 1 (.slice (some ⟨g, 0, none⟩) M.length c) M.length (vn M)) (hj : j ≤ M.length) :
    ((vn M).take j).length = j * 1 ∧ ∀ i u, ((vn M).take j)[i]? = some u → ((w.alloc (.cells #[] 3)).drew).cell? ((⟨g, 0, none⟩ : Addr).add i) = some u := by
  refine ⟨by rw [List.length_take, vn_length]; omega, fun i u hu => ?_⟩
  have h2 := h.alloc (.cells #[] 3)
  refine h2.cells rfl i u ?_
  rw [List.getElem?_take] at hu
  split at hu
  · exact hu
  · cases hu
theorem news_tail {w : World} {B g c j : Nat} {M : List Nat} (h : w.ownsRow B 3 1 (.slice (some ⟨g, 0, none⟩) M.length c) M.length (vn M)) (hj : j < M.length) :
    ((vn M).drop (j + 1)).length = (M.length - (j + 1)) * 1 ∧ ∀ i u, ((vn M).drop (j + 1))[i]? = some u → w.cell? ((⟨g, j + 1, none⟩ : Addr).add i) = some u := by
  refine ⟨by rw [List.length_drop, vn_length]; omega, fun i u hu => ?_⟩
  rw [List.getElem?_drop] at hu
  have := h.cells rfl (j + 1 + i) u hu
  rw [show (⟨g, j + 1, none⟩ : Addr).add i = (⟨g, 0, none⟩ : Addr).add (j + 1 + i) from by unfold Addr.add; by_cases hi : i = 0 <;> simp [hi]]
  exact this
theorem news_over {w : World} {B g c j : Nat} {M : List Nat} (h : w.ownsRow B 3 1 (.slice (some ⟨g, 0, none⟩) M.length c) M.length (vn M)) (hj : j < M.length) (hc : M.length ≤ c) (e : c = j + 1) :
    ((vn M).drop (j + 1)).length = (M.length - (j + 1)) * 1 ∧ ∀ i u, ((vn M).drop (j + 1))[i]? = some u → w.cell? ((⟨g, 0, none⟩ : Addr).add i) = some u := by
  refine ⟨by rw [List.length_drop, vn_length]; omega, fun i u hu => ?_⟩
  rw [List.getElem?_drop, List.getElem?_eq_none (by rw [vn_length]; omega)] at hu
  cases hu
/-- The row lies as it lay where another one, beyond it, grew. -/
theorem row_two {w w1 : World} {B g c : Nat} {M : List Nat} (h : w.ownsRow B 3 1 (.slice (some ⟨g, 0, none⟩) M.length c) M.length (vn M)) (hg : ((w.alloc (.cells #[] 3)).drew).grownBy w1 (Value.slice (some ⟨w.heap.size, 0, none⟩) 0 0).ownBlock) :
    w1.ownsRow B 3 1 (.slice (some ⟨g, 0, none⟩) M.length c) M.length (vn M) := by
  have h1 : ((w.alloc (.cells #[] 3)).drew).ownsRow B 3 1 (.slice (some ⟨g, 0, none⟩) M.length c) M.length (vn M) := h.alloc _
  have h2 := (h.lt g rfl).2
  exact h1.kept hg (.inr (fun e => by
    have e : some g = some w.heap.size := e
    injection e with e; omega))
theorem vn_one (M : List Nat) : ∀ u ∈ vn M, u.oneCell' = true := by
  intro u hu
  obtain ⟨a, _, rfl⟩ := List.mem_map.1 hu
  rfl
theorem vn_erase (M : List Nat) (j : Nat) : (vn M).take j ++ (vn M).drop (j + 1) = vn (M.take j ++ M.drop (j + 1)) := by
  unfold vn
  rw [List.map_append, List.map_take, List.map_drop]
theorem row_mono {w : World} {base base' : Nat} {e : TypeId} {size : Nat} {v : Value} {n : Nat} {xs : List Value} (h : w.ownsRow base e size v n xs) (hb : base' ≤ base) : w.ownsRow base' e size v n xs := by
  refine ⟨h.1, ?_⟩
  rcases h.2 with h0 | ⟨g, cap, cur, h1, h2, h3⟩
  · exact .inl h0
  · exact .inr ⟨g, cap, cur, h1, Nat.le_trans hb h2, h3⟩
/-- How long a slice is. -/
def lenV : Value → Nat
  | .slice _ n _ => n
  | _ => 0

set_option maxRecDepth 100000 in
set_option maxHeartbeats 1000000 in
theorem SlabEmpty_calls (pages turn : Int) (A0 : Option Addr) (len cap : Nat) (f : Nat → Int) (w : World) (T : Tb w) (hC : ColI w A0 len 1 0 .u16 f) (hlen : len ≤ 9223372036854775807) (h0 : 0 ≤ pages ∧ pages ≤ 255) (h1 : 0 ≤ turn ∧ turn ≤ 65535) :
    Calls Tryd.prog 6 #[.int .u8 pages, .slice A0 len cap, .int .u16 turn] w fun e w' => e = .returned (.bool true) ∧ Kept w w' := by
  obtain ⟨i0, hi, hz0, hz1, hz2⟩ := info_parts int_info
  obtain ⟨n, hn⟩ := Int.eq_ofNat_of_zero_le (show 0 ≤ 1 + pages % 128 by omega)
  have hn1 : 1 ≤ n := by omega
  have hn2 : n ≤ 128 := by omega
  obtain ⟨hp0, hp1⟩ := h0
  obtain ⟨ht0, ht1⟩ := h1
  have HC := Lib.hid hC
  obtain ⟨K, hK⟩ : ∃ K, K = min len 120 := ⟨_, rfl⟩
  have HK := Lib.hid hK
  have hK1 : K ≤ 120 := by omega
  have hK2 : K ≤ len := by omega
  have HTR := Lib.hid (fun k => tries_tri n hn2 f k)
  have HTL := Lib.hid (fun k => tries_len n f k)
  clear hC hK
  go_enter Tryd.func6, Tryd.ntmps6
  go_wp2_with fail
  refine (shown_calls _ T).mono ?_
  rintro e w1 ⟨rfl, K1⟩
  go_wp2_with fail
  refine (SNew_st K1 T n hn1 hn2).mono ?_
  rintro e w2 ⟨s, pa, pd, pp, rfl, S2, _⟩
  have hlt := S2.lt
  have hk2 := S2.kept.below.size
  have HS2 := Lib.hid S2
  obtain ⟨B, hB⟩ : ∃ B, B = w2.heap.size := ⟨_, rfl⟩
  have HLT : Hid ((s < B ∧ pa < B ∧ pd < B ∧ pp < B) ∧ w.heap.size ≤ B ∧ B ≤ w2.heap.size) := Lib.hid (by rw [hB]; exact ⟨hlt, hk2, Nat.le_refl _⟩)
  clear S2 K1 T hlt hk2 hB
  go_wp2_with fail
  go_loopw [10, 11, 12, 13] (fun l i _ _ wr => ∃ (k : Nat) (bs : List Int), k ≤ K ∧ i = .int .i64 (k : Int) ∧ wr.ownsRow B 3 1 l (tries n f k).2.length (vn (tries n f k).2) ∧ St w wr s pa pd pp n (tries n f k).1 bs ∧ B ≤ wr.heap.size) (fun _ i _ _ _ => K - (intOf i).toNat)
  case atStart => exact ⟨0, _, by omega, rfl, World.ownsRow_nil _ _ _ _, HS2.out, HLT.out.2.2⟩
  case round =>
    obtain ⟨k, bs, hk, rfl, hrow, hS, hBw⟩ := hrel
    have HS := Lib.hid hS
    have HRow := Lib.hid hrow
    have hll := HTL.out k
    clear hS hrow
    by_cases hkK : k < K
    · have hl1 : k < len := by omega
      have hl2 : (k : Int) < (len : Int) := by omega
      have hl3 : (k : Int) < 120 := by omega
      obtain ⟨ad, hA, hadl, hcell, hwf⟩ := (HC.out.below HS.out.kept.below) k hl1
      have hb := bd_u16 hwf
      obtain ⟨m, hm⟩ := Int.eq_ofNat_of_zero_le (show 0 ≤ 1 + f k % 256 by omega)
      have hm1 : 1 ≤ m := by omega
      have hm2 : m ≤ 256 := by omega
      have hms : szs f k = m := by unfold szs; rw [hm]; rfl
      have HMS := Lib.hid hms
      rw [Nat.mul_one, Nat.add_zero] at hcell
      subst hA
      clear hwf hms
      cases hal : allc (tries n f k).1 n (cls m) with
      | none =>
        have hT := tries_none (n := n) (k := k) (f := f) (by rw [HMS.out]; exact hal)
        have HAL := Lib.hid (And.intro hal hT)
        clear hal hT
        go_wp2_with fail
        refine (Alloc_none HS.out m hm1 hm2 HAL.out.1).mono ?_
        rintro e w3 ⟨rfl, S3', hF⟩
        have HS3 := Lib.hid S3'
        have HRow3 := Lib.hid (row_fr HRow.out hF HLT.out.1)
        have hB3 : B ≤ w3.heap.size := Nat.le_trans hBw hF.size
        clear S3' hF
        go_wp2
        go_roundw
        case rel => exact ⟨k + 1, bs, by omega, by go_num, by rw [HAL.out.2]; exact HRow3.out, by rw [HAL.out.2]; exact HS3.out, hB3⟩
        case measure => simp [intOf]; omega
      | some r =>
        obtain ⟨a, A'⟩ := r
        have hT := tries_some (n := n) (k := k) (f := f) (a := a) (A' := A') (by rw [HMS.out]; exact hal)
        have HAL := Lib.hid (And.intro hal hT)
        clear hal hT
        go_wp2_with fail
        refine (Alloc_some HS.out m a hm1 hm2 HAL.out.1).mono ?_
        rintro e w3 ⟨rfl, bs', S3', _, _, hFr⟩
        have HS3 := Lib.hid S3'
        have HRow3 := Lib.hid (row_fr HRow.out hFr HLT.out.1)
        have hB3 : B ≤ w3.heap.size := Nat.le_trans hBw hFr.size
        clear S3' hFr
        go_wp2_with (at_builtin; refine wpList_append_own _ rfl _ _ 34 rfl B 3 i0 (.int .i64 0) 1 8 Tryd.underlying34 hi hz0 hz1 hz2 rfl (by decide) _ _ _ rfl (HRow3.out.alloc _) ⟨w3.heap.size, 0, none⟩ 1 1 [.int .i64 (a : Int)] rfl rfl ?c1 ?c2 ?c3 ?c4 ?c5 ?_)
        case c1 =>
          intro j u hj
          match j, hj with
          | 0, hj => simp at hj; subst hj; simp [Addr.add]
        case c2 => intro u hu; simp at hu; subst hu; rfl
        case c3 => unfold maxLen; omega
        case c4 => omega
        case c5 => simp; omega
        · intro v' w4 hown4 hg4 _
          rw [vn_snoc, len_snoc _ a] at hown4
          have S4 := (HS3.out.then_ ((Below.refl _ _).alloc (Nat.le_refl _) _)).row hg4 HLT.out.1 HLT.out.2.1 (fun k hk => (HRow3.out.lt k hk).1)
          have HO4 := Lib.hid hown4
          have HS4 := Lib.hid S4
          have hB4 : B ≤ w4.heap.size := Nat.le_trans (Nat.le_trans hB3 (by simp)) hg4.size
          clear hown4 hg4 S4
          go_wp2
          go_roundw
          case rel => exact ⟨k + 1, bs', by omega, by go_num, by rw [HAL.out.2]; exact HO4.out, by rw [HAL.out.2]; exact HS4.out, hB4⟩
          case measure => simp [intOf]; omega
    · obtain rfl : k = K := by omega
      clear hkK hk
      obtain ⟨A1, c1, hv1, _⟩ := row_cells HRow.out
      subst hv1
      have hTri := HTR.out k
      obtain ⟨L, hL⟩ : ∃ L, L = (tries n f k).2 := ⟨_, rfl⟩
      have HLL := Lib.hid hL
      have HRow2 := HRow.out
      rw [← hL] at hll HRow2 hTri ⊢
      have HRow3 := Lib.hid HRow2
      have HTri := Lib.hid hTri
      have hk1 : ¬ ((k : Int) < (len : Int) ∧ (k : Int) < 120) := by have := HK.out; omega
      have HLT3 : Hid (L.length ≤ 120) := Lib.hid (by omega)
      have HBW := Lib.hid hBw
      clear hL HRow HRow2 hTri hBw
      by_cases hk3 : (k : Int) < (len : Int)
      · have hk4 : ¬ ((k : Int) < 120) := fun h => hk1 ⟨hk3, h⟩
        clear hk1
        go_wp2_with fail
        go_loopw [10, 15, 16, 17, 18] (fun l _ _ _ _ wx => ∃ (M : List Nat) (A : Nat → Ap) (bs : List Int), wx.ownsRow B 3 1 l M.length (vn M) ∧ St w wx s pa pd pp n A bs ∧ Tri A M n ∧ M.length ≤ 120 ∧ B ≤ wx.heap.size) (fun l _ _ _ _ _ => lenV l)
        case atStart => exact ⟨L, _, _, HRow3.out, HS.out, HTri.out, HLT3.out, HBW.out⟩
        case round =>
          obtain ⟨M, A, bs2, hrow, hS2, hTr, hM, hBx⟩ := hrel
          obtain ⟨A3, c3, hv3, hcs⟩ := row_cells hrow
          subst hv3
          have HRowM := Lib.hid hrow
          have HSM := Lib.hid hS2
          have HTM := Lib.hid hTr
          clear hrow hS2 hTr
          by_cases hM0 : M.length = 0
          · have hM1 : M = [] := List.eq_nil_of_length_eq_zero hM0
            subst hM1
            have hA : A = none0 := HTM.out.over
            subst hA
            go_wp2_with fail
            refine (Used_st HSM.out).mono ?_
            rintro e w5 ⟨rfl, rfl⟩
            rw [none0_usd]
            go_wp2_with fail
            refine (Pages_st HSM.out).mono ?_
            rintro e w5 ⟨rfl, hB5⟩
            rw [none0_pgs]
            have HS5 := Lib.hid (HSM.out.then_ hB5)
            clear hB5
            go_wp2_with fail
            go_loopw [19, 20, 21, 22] (fun ag i _ _ wx => ∃ (q : Nat) (bs : List Int), q ≤ k ∧ i = .int .i64 (q : Int) ∧ ag = .int .i64 (((tries n f q).2.length : Nat) : Int) ∧ St w wx s pa pd pp n (tries n f q).1 bs) (fun _ i _ _ _ => k - (intOf i).toNat)
            case atStart => exact ⟨0, _, by omega, rfl, rfl, HS5.out⟩
            case round =>
              obtain ⟨q, bs6, hq, rfl, rfl, hS6⟩ := hrel
              have HS6 := Lib.hid hS6
              have hlq := HTL.out q
              clear hS6
              by_cases hqk : q < k
              · have hl1 : q < len := by omega
                have hl2 : (q : Int) < (len : Int) := by omega
                have hl3 : (q : Int) < 120 := by omega
                obtain ⟨ad, hA, hadl, hcell, hwf⟩ := (HC.out.below HS6.out.kept.below) q hl1
                have hb := bd_u16 hwf
                obtain ⟨m, hm⟩ := Int.eq_ofNat_of_zero_le (show 0 ≤ 1 + f q % 256 by omega)
                have hm1 : 1 ≤ m := by omega
                have hm2 : m ≤ 256 := by omega
                have hms : szs f q = m := by unfold szs; rw [hm]; rfl
                have HMS := Lib.hid hms
                rw [Nat.mul_one, Nat.add_zero] at hcell
                subst hA
                clear hwf hms
                cases hal : allc (tries n f q).1 n (cls m) with
                | none =>
                  have hT := tries_none (n := n) (k := q) (f := f) (by rw [HMS.out]; exact hal)
                  have HAL := Lib.hid (And.intro hal hT)
                  clear hal hT
                  go_wp2_with fail
                  refine (Alloc_none HS6.out m hm1 hm2 HAL.out.1).mono ?_
                  rintro e w3 ⟨rfl, S3', hF⟩
                  have HS3 := Lib.hid S3'
                  clear S3' hF
                  go_wp2
                  go_roundw
                  case rel => exact ⟨q + 1, bs6, by omega, by go_num, by rw [HAL.out.2], by rw [HAL.out.2]; exact HS3.out⟩
                  case measure => simp [intOf]; omega
                | some r =>
                  obtain ⟨a, A'⟩ := r
                  have hT := tries_some (n := n) (k := q) (f := f) (a := a) (A' := A') (by rw [HMS.out]; exact hal)
                  have HAL := Lib.hid (And.intro hal hT)
                  clear hal hT
                  go_wp2_with fail
                  refine (Alloc_some HS6.out m a hm1 hm2 HAL.out.1).mono ?_
                  rintro e w3 ⟨rfl, bs', S3', _, _, hFr⟩
                  have HS3 := Lib.hid S3'
                  clear S3' hFr
                  go_wp2
                  go_roundw
                  case rel => exact ⟨q + 1, bs', by omega, by go_num, by rw [HAL.out.2]; simp, by rw [HAL.out.2]; exact HS3.out⟩
                  case measure => simp [intOf]; omega
              · obtain rfl : q = k := by omega
                have he : (tries n f q).2.length = L.length := by rw [HLL.out]
                rw [he]
                clear hqk hq he
                go_wp2
                go_ret
                exact ⟨rfl, HS6.out.kept⟩
          · have hMi : (0 : Int) < (M.length : Int) := by omega
            obtain ⟨j, hj0⟩ := Int.eq_ofNat_of_zero_le (Int.emod_nonneg turn (show (M.length : Int) ≠ 0 by omega))
            have hj : j < M.length := by have := Int.emod_lt_of_pos turn hMi; omega
            obtain ⟨g, rfl, hcj⟩ := hcs j hj
            have hji : (j : Int) < (M.length : Int) := by omega
            have hjn : ¬ ((j : Int) < 0) := by omega
            have hcap : M.length ≤ c3 := row_cap HRowM.out
            have hcp1 : (j : Int) ≤ (c3 : Int) := by omega
            have hcp2 : (M.length : Int) ≤ (c3 : Int) := by omega
            have hcp3 : (j : Int) + 1 ≤ (M.length : Int) := by omega
            have hcp4 : (0 : Int) ≤ (j : Int) := by omega
            have HF := Lib.hid (HTM.out.free hj)
            generalize hM5 : M.getD j 0 = a at *
            have HM5 := Lib.hid hM5
            clear hcs hM5
            go_wp2_with fail
            have hgl : g < wr.heap.size := (HRowM.out.lt g rfl).2
            have HE := Lib.hid (row_empty wr)
            have HN1 := Lib.hid (news_head HRowM.out (Nat.le_of_lt hj))
            have HV1 : Hid (∀ u ∈ (vn M).take j, u.oneCell' = true) := Lib.hid (fun u hu => vn_one M u (List.mem_of_mem_take hu))
            have HV2 : Hid (∀ u ∈ (vn M).drop (j + 1), u.oneCell' = true) := Lib.hid (fun u hu => vn_one M u (List.mem_of_mem_drop hu))
            have hb1 : 0 + j ≤ maxLen := by unfold maxLen; omega
            have hb2 : (0 + j) * 8 ≤ 140737488355328 := by omega
            have hb3 : wr.heap.size ≤ (wr.alloc (.cells #[] 3)).drew.heap.size := by show wr.heap.size ≤ (wr.alloc (.cells #[] 3)).heap.size; simp
            have hew : IntKind.i64.wrap ((j : Int) + 1) = (j : Int) + 1 := by rw [IntKind.wrap_i64]; omega
            have hb4 : j + (M.length - (j + 1)) ≤ maxLen := by unfold maxLen; omega
            have hb5 : (j + (M.length - (j + 1))) * 8 ≤ 140737488355328 := by omega
            have hcp5 : (j : Int) ≤ (j : Int) + 1 := by omega
            have hcp6 : (0 : Int) ≤ (j : Int) + 1 := by omega
            by_cases hcc : c3 = j + 1
            · subst hcc
              go_region_law (first | (refine step_append_any _ (by rfl) (.tmp 80) (.tmp 83) 34 (by rfl) wr.heap.size 3 i0 (.int .i64 0) 1 8 Tryd.underlying34 hi hz0 hz1 hz2 rfl (by decide) (.slice (some ⟨wr.heap.size, 0, none⟩) 0 0) 0 [] (by rfl) HE.out ⟨g, 0, none⟩ j (j + 1) ((vn M).take j) (by rfl) HN1.out.1 HN1.out.2 HV1.out hb1 hb2 hb3 ?_; intro v1 w1 hown1 hg1 hob1; rw [Nat.zero_add, List.nil_append] at hown1; have HR1 := Lib.hid (row_two HRowM.out hg1); have HO1 := Lib.hid hown1; have hsz1 := hg1.size; have HG1 := Lib.hid hg1; clear hown1 hg1 hob1) | (refine step_append_any _ (by rfl) (.tmp 84) (.tmp 88) 34 (by rfl) wr.heap.size 3 i0 (.int .i64 0) 1 8 Tryd.underlying34 hi hz0 hz1 hz2 rfl (by decide) _ j ((vn M).take j) (by rfl) HO1.out ⟨g, 0, none⟩ 0 0 ((vn M).drop (j + 1)) (by rfl) (by have := (news_over HR1.out hj hcap rfl).1; omega) (news_over HR1.out hj hcap rfl).2 HV2.out (by unfold maxLen; omega) (by omega) (Nat.le_trans hb3 hsz1) ?_; intro v2 w4 hown2 hg2 hob2))
              have S3a := (HSM.out.then_ (((Below.refl _ wr).alloc (Nat.le_refl _) (.cells #[] 3)).drew)).row HG1.out HLT.out.1 HLT.out.2.1 (fun k hk => by
                have hk : some wr.heap.size = some k := hk
                injection hk with hk; omega)
              have S4 := Lib.hid (S3a.row hg2 HLT.out.1 HLT.out.2.1 (fun k hk => Nat.le_trans hBx (HO1.out.lt k hk).1))
              rw [vn_erase, show j + 0 = (M.take j ++ M.drop (j + 1)).length from by rw [List.length_append, List.length_take, List.length_drop]; omega] at hown2
              have HO2 := Lib.hid (row_mono hown2 hBx)
              have hsz2 := hg2.size
              have hB4 : B ≤ w4.heap.size := by omega
              clear S3a hown2 hg2 hob2
              go_wp2_with fail
              refine (Free_yes S4.out a HF.out.1).mono ?_
              rintro e w5 ⟨rfl, bs5, S5, _, hF5⟩
              have HS5 := Lib.hid S5
              have HO5 := Lib.hid (row_fr HO2.out hF5 HLT.out.1)
              have hB5 : B ≤ w5.heap.size := Nat.le_trans hB4 hF5.size
              clear S5 hF5
              go_wp2_with fail
              refine (Free_no_st HS5.out (a : Int) (by rw [tI_nat, HTM.out.wf.tkn_frd HF.out.1]; simp)).mono ?_
              rintro e w6 ⟨rfl, S6, hF6⟩
              have HS6 := Lib.hid S6
              have HO6 := Lib.hid (row_fr HO5.out hF6 HLT.out.1)
              have hB6 : B ≤ w6.heap.size := Nat.le_trans hB5 hF6.size
              clear S6 hF6
              have hfm : lenV v2 = j + (M.length - (j + 1)) := by
                obtain ⟨A7, c7, h7, _⟩ := row_cells HO6.out
                rw [h7]
                show (M.take j ++ M.drop (j + 1)).length = _
                rw [List.length_append, List.length_take, List.length_drop]; omega
              have HFM := Lib.hid hfm
              clear hfm
              go_wp2
              go_roundw
              case rel => exact ⟨_, _, bs5, HO6.out, HS6.out, HF.out.2, by rw [List.length_append, List.length_take, List.length_drop]; omega, hB6⟩
              case measure => rw [HFM.out]; show _ < M.length; omega
            · go_region_law (first | (refine step_append_any _ (by rfl) (.tmp 80) (.tmp 83) 34 (by rfl) wr.heap.size 3 i0 (.int .i64 0) 1 8 Tryd.underlying34 hi hz0 hz1 hz2 rfl (by decide) (.slice (some ⟨wr.heap.size, 0, none⟩) 0 0) 0 [] (by rfl) HE.out ⟨g, 0, none⟩ j c3 ((vn M).take j) (by rfl) HN1.out.1 HN1.out.2 HV1.out hb1 hb2 hb3 ?_; intro v1 w1 hown1 hg1 hob1; rw [Nat.zero_add, List.nil_append] at hown1; have HR1 := Lib.hid (row_two HRowM.out hg1); have HO1 := Lib.hid hown1; have hsz1 := hg1.size; have HG1 := Lib.hid hg1; clear hown1 hg1 hob1) | (refine step_append_any _ (by rfl) (.tmp 84) (.tmp 88) 34 (by rfl) wr.heap.size 3 i0 (.int .i64 0) 1 8 Tryd.underlying34 hi hz0 hz1 hz2 rfl (by decide) _ j ((vn M).take j) (by rfl) HO1.out ⟨g, j + 1, none⟩ (M.length - (j + 1)) (c3 - (j + 1)) ((vn M).drop (j + 1)) (by rfl) (news_tail HR1.out hj).1 (news_tail HR1.out hj).2 HV2.out hb4 hb5 (Nat.le_trans hb3 hsz1) ?_; intro v2 w4 hown2 hg2 hob2))
              have S3a := (HSM.out.then_ (((Below.refl _ wr).alloc (Nat.le_refl _) (.cells #[] 3)).drew)).row HG1.out HLT.out.1 HLT.out.2.1 (fun k hk => by
                have hk : some wr.heap.size = some k := hk
                injection hk with hk; omega)
              have S4 := Lib.hid (S3a.row hg2 HLT.out.1 HLT.out.2.1 (fun k hk => Nat.le_trans hBx (HO1.out.lt k hk).1))
              rw [vn_erase, show j + (M.length - (j + 1)) = (M.take j ++ M.drop (j + 1)).length from by rw [List.length_append, List.length_take, List.length_drop]; omega] at hown2
              have HO2 := Lib.hid (row_mono hown2 hBx)
              have hsz2 := hg2.size
              have hB4 : B ≤ w4.heap.size := by omega
              clear S3a hown2 hg2 hob2
              go_wp2_with fail
              refine (Free_yes S4.out a HF.out.1).mono ?_
              rintro e w5 ⟨rfl, bs5, S5, _, hF5⟩
              have HS5 := Lib.hid S5
              have HO5 := Lib.hid (row_fr HO2.out hF5 HLT.out.1)
              have hB5 : B ≤ w5.heap.size := Nat.le_trans hB4 hF5.size
              clear S5 hF5
              go_wp2_with fail
              refine (Free_no_st HS5.out (a : Int) (by rw [tI_nat, HTM.out.wf.tkn_frd HF.out.1]; simp)).mono ?_
              rintro e w6 ⟨rfl, S6, hF6⟩
              have HS6 := Lib.hid S6
              have HO6 := Lib.hid (row_fr HO5.out hF6 HLT.out.1)
              have hB6 : B ≤ w6.heap.size := Nat.le_trans hB5 hF6.size
              clear S6 hF6
              have hfm : lenV v2 = j + (M.length - (j + 1)) := by
                obtain ⟨A7, c7, h7, _⟩ := row_cells HO6.out
                rw [h7]
                show (M.take j ++ M.drop (j + 1)).length = _
                rw [List.length_append, List.length_take, List.length_drop]; omega
              have HFM := Lib.hid hfm
              clear hfm
              go_wp2
              go_roundw
              case rel => exact ⟨_, _, bs5, HO6.out, HS6.out, HF.out.2, by rw [List.length_append, List.length_take, List.length_drop]; omega, hB6⟩
              case measure => rw [HFM.out]; show _ < M.length; omega
      · clear hk1
        go_wp2_with fail
        go_loopw [10, 15, 16, 17, 18] (fun l _ _ _ _ wx => ∃ (M : List Nat) (A : Nat → Ap) (bs : List Int), wx.ownsRow B 3 1 l M.length (vn M) ∧ St w wx s pa pd pp n A bs ∧ Tri A M n ∧ M.length ≤ 120 ∧ B ≤ wx.heap.size) (fun l _ _ _ _ _ => lenV l)
        case atStart => exact ⟨L, _, _, HRow3.out, HS.out, HTri.out, HLT3.out, HBW.out⟩
        case round =>
          obtain ⟨M, A, bs2, hrow, hS2, hTr, hM, hBx⟩ := hrel
          obtain ⟨A3, c3, hv3, hcs⟩ := row_cells hrow
          subst hv3
          have HRowM := Lib.hid hrow
          have HSM := Lib.hid hS2
          have HTM := Lib.hid hTr
          clear hrow hS2 hTr
          by_cases hM0 : M.length = 0
          · have hM1 : M = [] := List.eq_nil_of_length_eq_zero hM0
            subst hM1
            have hA : A = none0 := HTM.out.over
            subst hA
            go_wp2_with fail
            refine (Used_st HSM.out).mono ?_
            rintro e w5 ⟨rfl, rfl⟩
            rw [none0_usd]
            go_wp2_with fail
            refine (Pages_st HSM.out).mono ?_
            rintro e w5 ⟨rfl, hB5⟩
            rw [none0_pgs]
            have HS5 := Lib.hid (HSM.out.then_ hB5)
            clear hB5
            go_wp2_with fail
            go_loopw [19, 20, 21, 22] (fun ag i _ _ wx => ∃ (q : Nat) (bs : List Int), q ≤ k ∧ i = .int .i64 (q : Int) ∧ ag = .int .i64 (((tries n f q).2.length : Nat) : Int) ∧ St w wx s pa pd pp n (tries n f q).1 bs) (fun _ i _ _ _ => k - (intOf i).toNat)
            case atStart => exact ⟨0, _, by omega, rfl, rfl, HS5.out⟩
            case round =>
              obtain ⟨q, bs6, hq, rfl, rfl, hS6⟩ := hrel
              have HS6 := Lib.hid hS6
              have hlq := HTL.out q
              clear hS6
              by_cases hqk : q < k
              · have hl1 : q < len := by omega
                have hl2 : (q : Int) < (len : Int) := by omega
                have hl3 : (q : Int) < 120 := by omega
                obtain ⟨ad, hA, hadl, hcell, hwf⟩ := (HC.out.below HS6.out.kept.below) q hl1
                have hb := bd_u16 hwf
                obtain ⟨m, hm⟩ := Int.eq_ofNat_of_zero_le (show 0 ≤ 1 + f q % 256 by omega)
                have hm1 : 1 ≤ m := by omega
                have hm2 : m ≤ 256 := by omega
                have hms : szs f q = m := by unfold szs; rw [hm]; rfl
                have HMS := Lib.hid hms
                rw [Nat.mul_one, Nat.add_zero] at hcell
                subst hA
                clear hwf hms
                cases hal : allc (tries n f q).1 n (cls m) with
                | none =>
                  have hT := tries_none (n := n) (k := q) (f := f) (by rw [HMS.out]; exact hal)
                  have HAL := Lib.hid (And.intro hal hT)
                  clear hal hT
                  go_wp2_with fail
                  refine (Alloc_none HS6.out m hm1 hm2 HAL.out.1).mono ?_
                  rintro e w3 ⟨rfl, S3', hF⟩
                  have HS3 := Lib.hid S3'
                  clear S3' hF
                  go_wp2
                  go_roundw
                  case rel => exact ⟨q + 1, bs6, by omega, by go_num, by rw [HAL.out.2], by rw [HAL.out.2]; exact HS3.out⟩
                  case measure => simp [intOf]; omega
                | some r =>
                  obtain ⟨a, A'⟩ := r
                  have hT := tries_some (n := n) (k := q) (f := f) (a := a) (A' := A') (by rw [HMS.out]; exact hal)
                  have HAL := Lib.hid (And.intro hal hT)
                  clear hal hT
                  go_wp2_with fail
                  refine (Alloc_some HS6.out m a hm1 hm2 HAL.out.1).mono ?_
                  rintro e w3 ⟨rfl, bs', S3', _, _, hFr⟩
                  have HS3 := Lib.hid S3'
                  clear S3' hFr
                  go_wp2
                  go_roundw
                  case rel => exact ⟨q + 1, bs', by omega, by go_num, by rw [HAL.out.2]; simp, by rw [HAL.out.2]; exact HS3.out⟩
                  case measure => simp [intOf]; omega
              · obtain rfl : q = k := by omega
                have he : (tries n f q).2.length = L.length := by rw [HLL.out]
                rw [he]
                clear hqk hq he
                go_wp2
                go_ret
                exact ⟨rfl, HS6.out.kept⟩
          · have hMi : (0 : Int) < (M.length : Int) := by omega
            obtain ⟨j, hj0⟩ := Int.eq_ofNat_of_zero_le (Int.emod_nonneg turn (show (M.length : Int) ≠ 0 by omega))
            have hj : j < M.length := by have := Int.emod_lt_of_pos turn hMi; omega
            obtain ⟨g, rfl, hcj⟩ := hcs j hj
            have hji : (j : Int) < (M.length : Int) := by omega
            have hjn : ¬ ((j : Int) < 0) := by omega
            have hcap : M.length ≤ c3 := row_cap HRowM.out
            have hcp1 : (j : Int) ≤ (c3 : Int) := by omega
            have hcp2 : (M.length : Int) ≤ (c3 : Int) := by omega
            have hcp3 : (j : Int) + 1 ≤ (M.length : Int) := by omega
            have hcp4 : (0 : Int) ≤ (j : Int) := by omega
            have HF := Lib.hid (HTM.out.free hj)
            generalize hM5 : M.getD j 0 = a at *
            have HM5 := Lib.hid hM5
            clear hcs hM5
            go_wp2_with fail
            have hgl : g < wr.heap.size := (HRowM.out.lt g rfl).2
            have HE := Lib.hid (row_empty wr)
            have HN1 := Lib.hid (news_head HRowM.out (Nat.le_of_lt hj))
            have HV1 : Hid (∀ u ∈ (vn M).take j, u.oneCell' = true) := Lib.hid (fun u hu => vn_one M u (List.mem_of_mem_take hu))
            have HV2 : Hid (∀ u ∈ (vn M).drop (j + 1), u.oneCell' = true) := Lib.hid (fun u hu => vn_one M u (List.mem_of_mem_drop hu))
            have hb1 : 0 + j ≤ maxLen := by unfold maxLen; omega
            have hb2 : (0 + j) * 8 ≤ 140737488355328 := by omega
            have hb3 : wr.heap.size ≤ (wr.alloc (.cells #[] 3)).drew.heap.size := by show wr.heap.size ≤ (wr.alloc (.cells #[] 3)).heap.size; simp
            have hew : IntKind.i64.wrap ((j : Int) + 1) = (j : Int) + 1 := by rw [IntKind.wrap_i64]; omega
            have hb4 : j + (M.length - (j + 1)) ≤ maxLen := by unfold maxLen; omega
            have hb5 : (j + (M.length - (j + 1))) * 8 ≤ 140737488355328 := by omega
            have hcp5 : (j : Int) ≤ (j : Int) + 1 := by omega
            have hcp6 : (0 : Int) ≤ (j : Int) + 1 := by omega
            by_cases hcc : c3 = j + 1
            · subst hcc
              go_region_law (first | (refine step_append_any _ (by rfl) (.tmp 80) (.tmp 83) 34 (by rfl) wr.heap.size 3 i0 (.int .i64 0) 1 8 Tryd.underlying34 hi hz0 hz1 hz2 rfl (by decide) (.slice (some ⟨wr.heap.size, 0, none⟩) 0 0) 0 [] (by rfl) HE.out ⟨g, 0, none⟩ j (j + 1) ((vn M).take j) (by rfl) HN1.out.1 HN1.out.2 HV1.out hb1 hb2 hb3 ?_; intro v1 w1 hown1 hg1 hob1; rw [Nat.zero_add, List.nil_append] at hown1; have HR1 := Lib.hid (row_two HRowM.out hg1); have HO1 := Lib.hid hown1; have hsz1 := hg1.size; have HG1 := Lib.hid hg1; clear hown1 hg1 hob1) | (refine step_append_any _ (by rfl) (.tmp 84) (.tmp 88) 34 (by rfl) wr.heap.size 3 i0 (.int .i64 0) 1 8 Tryd.underlying34 hi hz0 hz1 hz2 rfl (by decide) _ j ((vn M).take j) (by rfl) HO1.out ⟨g, 0, none⟩ 0 0 ((vn M).drop (j + 1)) (by rfl) (by have := (news_over HR1.out hj hcap rfl).1; omega) (news_over HR1.out hj hcap rfl).2 HV2.out (by unfold maxLen; omega) (by omega) (Nat.le_trans hb3 hsz1) ?_; intro v2 w4 hown2 hg2 hob2))
              have S3a := (HSM.out.then_ (((Below.refl _ wr).alloc (Nat.le_refl _) (.cells #[] 3)).drew)).row HG1.out HLT.out.1 HLT.out.2.1 (fun k hk => by
                have hk : some wr.heap.size = some k := hk
                injection hk with hk; omega)
              have S4 := Lib.hid (S3a.row hg2 HLT.out.1 HLT.out.2.1 (fun k hk => Nat.le_trans hBx (HO1.out.lt k hk).1))
              rw [vn_erase, show j + 0 = (M.take j ++ M.drop (j + 1)).length from by rw [List.length_append, List.length_take, List.length_drop]; omega] at hown2
              have HO2 := Lib.hid (row_mono hown2 hBx)
              have hsz2 := hg2.size
              have hB4 : B ≤ w4.heap.size := by omega
              clear S3a hown2 hg2 hob2
              go_wp2_with fail
              refine (Free_yes S4.out a HF.out.1).mono ?_
              rintro e w5 ⟨rfl, bs5, S5, _, hF5⟩
              have HS5 := Lib.hid S5
              have HO5 := Lib.hid (row_fr HO2.out hF5 HLT.out.1)
              have hB5 : B ≤ w5.heap.size := Nat.le_trans hB4 hF5.size
              clear S5 hF5
              go_wp2_with fail
              refine (Free_no_st HS5.out (a : Int) (by rw [tI_nat, HTM.out.wf.tkn_frd HF.out.1]; simp)).mono ?_
              rintro e w6 ⟨rfl, S6, hF6⟩
              have HS6 := Lib.hid S6
              have HO6 := Lib.hid (row_fr HO5.out hF6 HLT.out.1)
              have hB6 : B ≤ w6.heap.size := Nat.le_trans hB5 hF6.size
              clear S6 hF6
              have hfm : lenV v2 = j + (M.length - (j + 1)) := by
                obtain ⟨A7, c7, h7, _⟩ := row_cells HO6.out
                rw [h7]
                show (M.take j ++ M.drop (j + 1)).length = _
                rw [List.length_append, List.length_take, List.length_drop]; omega
              have HFM := Lib.hid hfm
              clear hfm
              go_wp2
              go_roundw
              case rel => exact ⟨_, _, bs5, HO6.out, HS6.out, HF.out.2, by rw [List.length_append, List.length_take, List.length_drop]; omega, hB6⟩
              case measure => rw [HFM.out]; show _ < M.length; omega
            · go_region_law (first | (refine step_append_any _ (by rfl) (.tmp 80) (.tmp 83) 34 (by rfl) wr.heap.size 3 i0 (.int .i64 0) 1 8 Tryd.underlying34 hi hz0 hz1 hz2 rfl (by decide) (.slice (some ⟨wr.heap.size, 0, none⟩) 0 0) 0 [] (by rfl) HE.out ⟨g, 0, none⟩ j c3 ((vn M).take j) (by rfl) HN1.out.1 HN1.out.2 HV1.out hb1 hb2 hb3 ?_; intro v1 w1 hown1 hg1 hob1; rw [Nat.zero_add, List.nil_append] at hown1; have HR1 := Lib.hid (row_two HRowM.out hg1); have HO1 := Lib.hid hown1; have hsz1 := hg1.size; have HG1 := Lib.hid hg1; clear hown1 hg1 hob1) | (refine step_append_any _ (by rfl) (.tmp 84) (.tmp 88) 34 (by rfl) wr.heap.size 3 i0 (.int .i64 0) 1 8 Tryd.underlying34 hi hz0 hz1 hz2 rfl (by decide) _ j ((vn M).take j) (by rfl) HO1.out ⟨g, j + 1, none⟩ (M.length - (j + 1)) (c3 - (j + 1)) ((vn M).drop (j + 1)) (by rfl) (news_tail HR1.out hj).1 (news_tail HR1.out hj).2 HV2.out hb4 hb5 (Nat.le_trans hb3 hsz1) ?_; intro v2 w4 hown2 hg2 hob2))
              have S3a := (HSM.out.then_ (((Below.refl _ wr).alloc (Nat.le_refl _) (.cells #[] 3)).drew)).row HG1.out HLT.out.1 HLT.out.2.1 (fun k hk => by
                have hk : some wr.heap.size = some k := hk
                injection hk with hk; omega)
              have S4 := Lib.hid (S3a.row hg2 HLT.out.1 HLT.out.2.1 (fun k hk => Nat.le_trans hBx (HO1.out.lt k hk).1))
              rw [vn_erase, show j + (M.length - (j + 1)) = (M.take j ++ M.drop (j + 1)).length from by rw [List.length_append, List.length_take, List.length_drop]; omega] at hown2
              have HO2 := Lib.hid (row_mono hown2 hBx)
              have hsz2 := hg2.size
              have hB4 : B ≤ w4.heap.size := by omega
              clear S3a hown2 hg2 hob2
              go_wp2_with fail
              refine (Free_yes S4.out a HF.out.1).mono ?_
              rintro e w5 ⟨rfl, bs5, S5, _, hF5⟩
              have HS5 := Lib.hid S5
              have HO5 := Lib.hid (row_fr HO2.out hF5 HLT.out.1)
              have hB5 : B ≤ w5.heap.size := Nat.le_trans hB4 hF5.size
              clear S5 hF5
              go_wp2_with fail
              refine (Free_no_st HS5.out (a : Int) (by rw [tI_nat, HTM.out.wf.tkn_frd HF.out.1]; simp)).mono ?_
              rintro e w6 ⟨rfl, S6, hF6⟩
              have HS6 := Lib.hid S6
              have HO6 := Lib.hid (row_fr HO5.out hF6 HLT.out.1)
              have hB6 : B ≤ w6.heap.size := Nat.le_trans hB5 hF6.size
              clear S6 hF6
              have hfm : lenV v2 = j + (M.length - (j + 1)) := by
                obtain ⟨A7, c7, h7, _⟩ := row_cells HO6.out
                rw [h7]
                show (M.take j ++ M.drop (j + 1)).length = _
                rw [List.length_append, List.length_take, List.length_drop]; omega
              have HFM := Lib.hid hfm
              clear hfm
              go_wp2
              go_roundw
              case rel => exact ⟨_, _, bs5, HO6.out, HS6.out, HF.out.2, by rw [List.length_append, List.length_take, List.length_drop]; omega, hB6⟩
              case measure => rw [HFM.out]; show _ < M.length; omega
end Go.Proofs.YtbngmkopgoelbaaDoor
