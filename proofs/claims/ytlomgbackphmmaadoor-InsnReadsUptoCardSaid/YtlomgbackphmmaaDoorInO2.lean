/- insn.operation. -/
import Derived.Test.YtlomgbackphmmaaDoorInO
import Derived.Maps.Own
import Derived.Maps.OwnOps
import Derived.Maps.Views
set_option linter.unusedVariables false
set_option linter.unusedSimpArgs false
namespace Go.Proofs.YtlomgbackphmmaaDoor
open Go.RowKit Go.Lib Go.Maps

/-- A map from words to operations. -/
def Mp (w : World) (b n : Nat) (f : List UInt8 → Int) : Prop :=
  ∃ D : DataW Unit, w.ownsMap Tryd.prog 9 (plainElem Tryd.prog 5) b n D ∧ IsMap D ∧ ∀ l, D.atKey (.string l) (.lit (.int .u8 0)) = .lit (.int .u8 (f l))
theorem wf8 {v : Int} (h0 : 0 ≤ v) (h1 : v ≤ 255) : (Lit.int .u8 v).wf = true := by
  show (decide (IntKind.u8.min ≤ v) && decide (v ≤ IntKind.u8.max)) = true
  rw [Bool.and_eq_true, decide_eq_true_eq, decide_eq_true_eq]
  exact ⟨h0, h1⟩
theorem zero_u8 (w : World) : (zeroValue 5).run Tryd.prog w = .ok (.int .u8 0) w := by kernel_rfl
theorem Mp.new (w : World) : Mp (w.alloc (.map #[] 0)) w.heap.size 0 (fun _ => 0) := by
  refine ⟨.map [], World.ownsMap_made _ _ _ _, ?_, fun l => ?_⟩
  · exact ⟨[], rfl⟩
  · rfl
set_option maxRecDepth 100000 in
theorem Mp.put {w : World} {b n : Nat} {f : List UInt8 → Int} (h : Mp w b n f) (hn : n < 100) (k : ByteArray) (hk : k.size ≤ 100) (v : Int) (h0 : 0 ≤ v) (h1 : v ≤ 255) :
    ∃ w', (Instr.mapUpdate 91 (.map (some b)) (.string k) (.int .u8 v)).run Tryd.prog w = .ok () w' ∧ Mp w' b (n + 1) (fun l => if l = k.data.toList then v else f l) ∧ w.grownBy w' (some b) := by
  obtain ⟨D, d1, d2, d3⟩ := h
  obtain ⟨w', e1, e2, e3⟩ := d1.update (string_keyed Tryd.underlying9) Tryd.underlying91 (by unfold maxLen; omega) (Go.WideMaps.keyOf_string_mk Tryd.underlying9 (s := k) (by unfold maxLen; omega)) (plainElem_int Tryd.underlying5 (q := .u8) (a := v) (wf8 h0 h1))
  refine ⟨w', e1, ⟨_, e2, d2.put _ _, fun l => ?_⟩, e3⟩
  dsimp only
  by_cases e : l = k.data.toList
  · rw [if_pos e, e]
    exact atKey_put_same (k := .string k.data.toList) d2 trivial _ _
  · rw [if_neg e, ← d3 l]
    exact atKey_put_other (fun e2 => e (by injection e2)) _ _
set_option maxRecDepth 100000 in
theorem Mp.look {w : World} {b n : Nat} {f : List UInt8 → Int} (h : Mp w b n f) (x : ByteArray) (hx : x.size ≤ maxLen) :
    (Instr.lookup 91 (.map (some b)) (.string x) false).run Tryd.prog w = .ok (.int .u8 (f x.data.toList)) w := by
  obtain ⟨D, d1, d2, d3⟩ := h
  obtain ⟨c, e1, e2, e3⟩ := d1.lookup_int (string_keyed Tryd.underlying9) Tryd.underlying91 Tryd.underlying5 (zero_u8 w) (Go.WideMaps.keyOf_string_mk Tryd.underlying9 (s := x) hx)
  rw [d3] at e2
  have : f x.data.toList = c := by injection e2 with e2; injection e2
  rw [this]
  exact e1
/-- The operations that a word names. -/
def mapF (l : List UInt8) : Int :=
  if l = [101, 120, 105, 116] then 15 else
  if l = [99, 97, 108, 108] then 14 else
  if l = [112, 117, 116, 120] then 13 else
  if l = [112, 117, 116] then 12 else
  if l = [103, 101, 116, 120] then 11 else
  if l = [103, 101, 116] then 10 else
  if l = [108, 111, 97, 100] then 9 else
  if l = [115, 97, 118, 101] then 8 else
  if l = [106, 109, 112] then 5 else
  if l = [105, 109, 109] then 2 else
  if l = [109, 111, 118] then 1 else
  0
def toB (l : List UInt8) : ByteArray := ⟨l.toArray⟩
theorem toB_data (x : ByteArray) : toB x.data.toList = x := rfl
/-- What a word says: the operation, and C. -/
def opF (l : List UInt8) : Int × Int :=
  if mapF l ≠ 0 then (mapF l, 0) else
  if hasPrefix l [106] = true then (if 0 < placeF 6 (toB (trimPrefix l [106])) then (6, placeF 6 (toB (trimPrefix l [106]))) else (7, placeF 6 (toB (trimPrefix (trimSuffix l [105]) [106])))) else
  if hasSuffix l [105] = true then (4, placeF 3 (toB (trimSuffix l [105]))) else (3, placeF 3 (toB l))
theorem mapF_range (l : List UInt8) : 0 ≤ mapF l ∧ mapF l ≤ 15 := by
  unfold mapF
  repeat' split
  all_goals omega
theorem placeF_range (op : Int) (x : ByteArray) : 0 ≤ placeF op x ∧ placeF op x ≤ 22 := by
  unfold placeF
  split
  · omega
  · have h1 := idx_range (wl op) x
    have h2 := wl_length op
    omega
theorem map_built (w : World) : ∃ w1 w2 w3 w4 w5 w6 w7 w8 w9 w10 w11,
    (Instr.mapUpdate 91 (.map (some w.heap.size)) (.string ⟨#[109, 111, 118]⟩) (.int .u8 1)).run Tryd.prog (w.alloc (.map #[] 0)) = .ok () w1 ∧
    (Instr.mapUpdate 91 (.map (some w.heap.size)) (.string ⟨#[105, 109, 109]⟩) (.int .u8 2)).run Tryd.prog w1 = .ok () w2 ∧
    (Instr.mapUpdate 91 (.map (some w.heap.size)) (.string ⟨#[106, 109, 112]⟩) (.int .u8 5)).run Tryd.prog w2 = .ok () w3 ∧
    (Instr.mapUpdate 91 (.map (some w.heap.size)) (.string ⟨#[115, 97, 118, 101]⟩) (.int .u8 8)).run Tryd.prog w3 = .ok () w4 ∧
    (Instr.mapUpdate 91 (.map (some w.heap.size)) (.string ⟨#[108, 111, 97, 100]⟩) (.int .u8 9)).run Tryd.prog w4 = .ok () w5 ∧
    (Instr.mapUpdate 91 (.map (some w.heap.size)) (.string ⟨#[103, 101, 116]⟩) (.int .u8 10)).run Tryd.prog w5 = .ok () w6 ∧
    (Instr.mapUpdate 91 (.map (some w.heap.size)) (.string ⟨#[103, 101, 116, 120]⟩) (.int .u8 11)).run Tryd.prog w6 = .ok () w7 ∧
    (Instr.mapUpdate 91 (.map (some w.heap.size)) (.string ⟨#[112, 117, 116]⟩) (.int .u8 12)).run Tryd.prog w7 = .ok () w8 ∧
    (Instr.mapUpdate 91 (.map (some w.heap.size)) (.string ⟨#[112, 117, 116, 120]⟩) (.int .u8 13)).run Tryd.prog w8 = .ok () w9 ∧
    (Instr.mapUpdate 91 (.map (some w.heap.size)) (.string ⟨#[99, 97, 108, 108]⟩) (.int .u8 14)).run Tryd.prog w9 = .ok () w10 ∧
    (Instr.mapUpdate 91 (.map (some w.heap.size)) (.string ⟨#[101, 120, 105, 116]⟩) (.int .u8 15)).run Tryd.prog w10 = .ok () w11 ∧
    (∀ x : ByteArray, x.size ≤ maxLen → (Instr.lookup 91 (.map (some w.heap.size)) (.string x) false).run Tryd.prog w11 = .ok (.int .u8 (mapF x.data.toList)) w11) ∧ Below w.heap.size w w11 := by
  have m0 := Mp.new w
  have b0 : Below w.heap.size w (w.alloc (.map #[] 0)) := (Below.refl _ _).alloc (Nat.le_refl _) _
  obtain ⟨w1, e1, m1, g1⟩ := m0.put (by omega) ⟨#[109, 111, 118]⟩ (by decide) 1 (by decide) (by decide)
  have b1 := b0.grown g1 b0.size (fun k hk => by injection hk with hk; omega)
  obtain ⟨w2, e2, m2, g2⟩ := m1.put (by omega) ⟨#[105, 109, 109]⟩ (by decide) 2 (by decide) (by decide)
  have b2 := b1.grown g2 b1.size (fun k hk => by injection hk with hk; omega)
  obtain ⟨w3, e3, m3, g3⟩ := m2.put (by omega) ⟨#[106, 109, 112]⟩ (by decide) 5 (by decide) (by decide)
  have b3 := b2.grown g3 b2.size (fun k hk => by injection hk with hk; omega)
  obtain ⟨w4, e4, m4, g4⟩ := m3.put (by omega) ⟨#[115, 97, 118, 101]⟩ (by decide) 8 (by decide) (by decide)
  have b4 := b3.grown g4 b3.size (fun k hk => by injection hk with hk; omega)
  obtain ⟨w5, e5, m5, g5⟩ := m4.put (by omega) ⟨#[108, 111, 97, 100]⟩ (by decide) 9 (by decide) (by decide)
  have b5 := b4.grown g5 b4.size (fun k hk => by injection hk with hk; omega)
  obtain ⟨w6, e6, m6, g6⟩ := m5.put (by omega) ⟨#[103, 101, 116]⟩ (by decide) 10 (by decide) (by decide)
  have b6 := b5.grown g6 b5.size (fun k hk => by injection hk with hk; omega)
  obtain ⟨w7, e7, m7, g7⟩ := m6.put (by omega) ⟨#[103, 101, 116, 120]⟩ (by decide) 11 (by decide) (by decide)
  have b7 := b6.grown g7 b6.size (fun k hk => by injection hk with hk; omega)
  obtain ⟨w8, e8, m8, g8⟩ := m7.put (by omega) ⟨#[112, 117, 116]⟩ (by decide) 12 (by decide) (by decide)
  have b8 := b7.grown g8 b7.size (fun k hk => by injection hk with hk; omega)
  obtain ⟨w9, e9, m9, g9⟩ := m8.put (by omega) ⟨#[112, 117, 116, 120]⟩ (by decide) 13 (by decide) (by decide)
  have b9 := b8.grown g9 b8.size (fun k hk => by injection hk with hk; omega)
  obtain ⟨w10, e10, m10, g10⟩ := m9.put (by omega) ⟨#[99, 97, 108, 108]⟩ (by decide) 14 (by decide) (by decide)
  have b10 := b9.grown g10 b9.size (fun k hk => by injection hk with hk; omega)
  obtain ⟨w11, e11, m11, g11⟩ := m10.put (by omega) ⟨#[101, 120, 105, 116]⟩ (by decide) 15 (by decide) (by decide)
  have b11 := b10.grown g11 b10.size (fun k hk => by injection hk with hk; omega)
  exact ⟨w1, w2, w3, w4, w5, w6, w7, w8, w9, w10, w11, e1, e2, e3, e4, e5, e6, e7, e8, e9, e10, e11, fun x hx => m11.look x hx, b11⟩

set_option maxRecDepth 100000 in
set_option maxHeartbeats 4000000 in
theorem operation_any (x : ByteArray) (hx : x.size ≤ 9223372036854775807) (w : World) : Calls Tryd.prog 33 #[.string x] w fun e w' => e = .returned (.tuple #[.int .u8 (opF x.data.toList).1, .int .u8 (opF x.data.toList).2]) ∧ Below w.heap.size w w' := by
  obtain ⟨w1, w2, w3, w4, w5, w6, w7, w8, w9, w10, w11, e1, e2, e3, e4, e5, e6, e7, e8, e9, e10, e11, hl, hB⟩ := map_built w
  have hlk := hl x (by unfold maxLen; exact hx)
  have hmm := @run_makeMap Tryd.prog
  have HB := Lib.hid hB
  have hop : opF x.data.toList = opF x.data.toList := rfl
  have hr := mapF_range x.data.toList
  obtain ⟨hr0, hr1⟩ := hr
  clear hl hB
  unfold opF
  generalize mapF x.data.toList = n at *
  by_cases hn : n = 0
  · subst hn
    rw [if_neg (by omega)]
    clear hr0 hr1 hop
    have HX := Lib.hid hx
    have hS := fun w => Tryd.strings_CutSuffix x ⟨#[105]⟩ w HX.out
    have hP := fun w => Tryd.strings_CutPrefix x ⟨#[106]⟩ w
    have hT := fun y w => Tryd.strings_TrimPrefix y ⟨#[106]⟩ w
    have e105 : (⟨#[105]⟩ : ByteArray).data.toList = [105] := rfl
    have e106 : (⟨#[106]⟩ : ByteArray).data.toList = [106] := rfl
    rw [e105] at hS
    rw [e106] at hP hT
    have HS := Lib.hid hS
    have HP := Lib.hid hP
    have HT := Lib.hid hT
    clear hS hP hT e105 e106
    obtain ⟨bare, hbare⟩ : ∃ y : ByteArray, (⟨(trimSuffix x.data.toList [105]).toArray⟩ : ByteArray) = y := ⟨_, rfl⟩
    obtain ⟨rest, hrest⟩ : ∃ y : ByteArray, (⟨(trimPrefix x.data.toList [106]).toArray⟩ : ByteArray) = y := ⟨_, rfl⟩
    have hbd : trimSuffix x.data.toList [105] = bare.data.toList := by rw [← hbare]
    rw [hbare] at HS
    rw [hrest] at HP
    rw [show toB (trimPrefix x.data.toList [106]) = rest from hrest, show toB (trimSuffix x.data.toList [105]) = bare from hbare, show toB x.data.toList = x from rfl, hbd]
    clear hbare hrest hbd
    cases hpj : hasPrefix x.data.toList [106]
    · rw [if_neg (by decide)]
      rw [hpj] at HP
      clear hpj
      cases hsi : hasSuffix x.data.toList [105]
      · rw [if_neg (by decide)]
        rw [hsi] at HS
        clear hsi
        go_enter Tryd.func33, Tryd.ntmps33
        go_wp2_with fail
        refine (HS.out _).mono ?_
        rintro e v1 ⟨rfl, rfl⟩
        go_wp2_with fail
        refine (HP.out _).mono ?_
        rintro e v2 ⟨rfl, rfl⟩
        go_wp2_with fail
        refine (place_any 3 (by omega) x _).mono ?_
        rintro e v3 ⟨rfl, hb3⟩
        have HB3 := Lib.hid (HB.out.trans (hb3.mono HB.out.size))
        clear hb3
        go_wp2
        go_ret2
        exact ⟨rfl, HB3.out⟩
      · rw [if_pos rfl]
        rw [hsi] at HS
        clear hsi
        go_enter Tryd.func33, Tryd.ntmps33
        go_wp2_with fail
        refine (HS.out _).mono ?_
        rintro e v1 ⟨rfl, rfl⟩
        go_wp2_with fail
        refine (HP.out _).mono ?_
        rintro e v2 ⟨rfl, rfl⟩
        go_wp2_with fail
        refine (place_any 3 (by omega) bare _).mono ?_
        rintro e v3 ⟨rfl, hb3⟩
        have HB3 := Lib.hid (HB.out.trans (hb3.mono HB.out.size))
        clear hb3
        go_wp2
        go_ret2
        exact ⟨rfl, HB3.out⟩
    · rw [if_pos rfl]
      rw [hpj] at HP
      clear hpj
      have hr := placeF_range 6 rest
      obtain ⟨c, hc⟩ : ∃ c, placeF 6 rest = c := ⟨_, rfl⟩
      have HC := Lib.hid hc
      rw [hc] at hr ⊢
      obtain ⟨hr0, hr1⟩ := hr
      clear hc
      by_cases hc0 : 0 < c
      · rw [if_pos hc0]
        go_enter Tryd.func33, Tryd.ntmps33
        go_wp2_with fail
        refine (HS.out _).mono ?_
        rintro e v1 ⟨rfl, rfl⟩
        go_wp2_with fail
        refine (HP.out _).mono ?_
        rintro e v2 ⟨rfl, rfl⟩
        go_wp2_with fail
        refine (place_any 6 (by omega) rest _).mono ?_
        rintro e v3 ⟨rfl, hb3⟩
        rw [HC.out]
        have HB3 := Lib.hid (HB.out.trans (hb3.mono HB.out.size))
        clear hb3
        go_wp2
        go_ret2
        exact ⟨rfl, HB3.out⟩
      · rw [if_neg hc0]
        obtain rfl : c = 0 := by omega
        go_enter Tryd.func33, Tryd.ntmps33
        go_wp2_with fail
        refine (HS.out _).mono ?_
        rintro e v1 ⟨rfl, rfl⟩
        go_wp2_with fail
        refine (HP.out _).mono ?_
        rintro e v2 ⟨rfl, rfl⟩
        go_wp2_with fail
        refine (place_any 6 (by omega) rest _).mono ?_
        rintro e v3 ⟨rfl, hb3⟩
        rw [HC.out]
        have HB3 := Lib.hid (HB.out.trans (hb3.mono HB.out.size))
        clear hb3
        go_wp2_with fail
        refine (HT.out bare _).mono ?_
        rintro e v4 ⟨rfl, rfl⟩
        go_wp2_with fail
        refine (place_any 6 (by omega) _ _).mono ?_
        rintro e v5 ⟨rfl, hb5⟩
        have HB5 := Lib.hid (HB3.out.trans (hb5.mono HB3.out.size))
        clear hb5
        go_wp2
        go_ret2
        exact ⟨rfl, HB5.out⟩
  · have hb : (n != 0) = true := by rw [bne_iff_ne]; exact hn
    rw [if_pos hn]
    clear hn
    go_enter Tryd.func33, Tryd.ntmps33
    go_wp2
    go_ret2
    exact ⟨rfl, HB.out⟩
end Go.Proofs.YtlomgbackphmmaaDoor
