/- FlowPlain: a program without jumps that ends with its one exit is well. -/
import Derived.Test.YtaomlfnffnapmaaFlS
import Derived.Test.YtaomlfnffnapmaaFlW
set_option linter.unusedVariables false
set_option linter.unusedSimpArgs false
namespace Go.Proofs.Ytaomlfnffnapmaa
open Go.RowKit

/-- The cells of a row of instructions. -/
def flat : List Ins → List Value
  | [] => []
  | x :: L => x.cells.toList ++ flat L
theorem flat_append : ∀ (L M : List Ins), flat (L ++ M) = flat L ++ flat M
  | [], M => rfl
  | x :: L, M => by
    show x.cells.toList ++ flat (L ++ M) = (x.cells.toList ++ flat L) ++ flat M
    rw [flat_append L M, List.append_assoc]
theorem flat_at : ∀ (L : List Ins) (i j : Nat) (v : Value), i < L.length → (L.getD i z0).cells[j]? = some v → (flat L)[i * 5 + j]? = some v
  | [], i, j, v, h, _ => absurd h (by simp)
  | x :: L, 0, j, v, h, hv => by
    have hv' : x.cells.toList[j]? = some v := by rw [Array.getElem?_toList]; exact hv
    have hj : j < x.cells.toList.length := (List.getElem?_eq_some_iff.1 hv').1
    show (x.cells.toList ++ flat L)[0 * 5 + j]? = some v
    rw [Nat.zero_mul, Nat.zero_add, List.getElem?_append_left hj]; exact hv'
  | x :: L, i + 1, j, v, h, hv => by
    have ih := flat_at L i j v (by simp at h; omega) (by simpa using hv)
    show (x.cells.toList ++ flat L)[(i + 1) * 5 + j]? = some v
    have hl : x.cells.toList.length = 5 := rfl
    rw [List.getElem?_append_right (by rw [hl]; omega), hl, show (i + 1) * 5 + j - 5 = i * 5 + j from by omega]
    exact ih
theorem Pr.of_row {w : World} {base n : Nat} {v : Value} {L : List Ins} (h : w.ownsRow base 37 5 v n (flat L)) (hn : n = L.length) (hok : ∀ x ∈ L, x.Ok) : ∃ A c, v = .slice A n c ∧ Pr w A L := by
  rcases h.2 with ⟨rfl, h0⟩ | ⟨g, cap, cur, rfl, hb, hg, _⟩
  · exact ⟨none, 0, by rw [h0], ⟨fun i hi => by omega, hok⟩⟩
  · exact ⟨_, cap, rfl, ⟨fun i hi => ⟨_, rfl, (Array.getElem?_eq_some_iff.1 hg).1, fun j v hv => h.cells rfl _ _ (flat_at L i j v hi hv)⟩, hok⟩⟩
theorem insn_info : (Try.prog.info? 37).map (fun i => (i.zero, i.size, i.bytes)) = some (some (.agg #[.int .u8 0, .int .u8 0, .int .u8 0, .int .u8 0, .int .u32 0]), 5, 8) := by kernel_rfl

/-- Instructions that neither jump nor leave, and may be. -/
structure Plain (x : Ins) : Prop where
  ok : x.Ok
  chk : chk x = 0
  n5 : x.op ≠ 5
  n6 : x.op ≠ 6
  n7 : x.op ≠ 7
  n15 : x.op ≠ 15
def exI : Ins := ⟨15, 0, 0, 0, 0⟩
theorem exI_ok : exI.Ok := by constructor <;> decide
theorem beh_next {L : List Ins} {k : Nat} (hk : k < L.length) (h5 : (L.getD k z0).op ≠ 5) (h6 : (L.getD k z0).op ≠ 6) (h7 : (L.getD k z0).op ≠ 7) (h15 : (L.getD k z0).op ≠ 15) : beh L (k : Int) = [((k + 1 : Nat) : Int)] := by
  rcases beh_cases k hk with ⟨e, h1⟩ | ⟨e, h1⟩ | ⟨e, e1, h1⟩ | ⟨e, e1, h1⟩ | ⟨e, h1⟩
  · exact absurd e h15
  · exact absurd e h5
  · exact (e.elim h6 h7).elim
  · exact (e.elim h6 h7).elim
  · rw [h1]; rfl
theorem beh_stop {L : List Ins} {k : Nat} (hk : k < L.length) (h15 : (L.getD k z0).op = 15) : beh L (k : Int) = [] := by
  rcases beh_cases k hk with ⟨e, h1⟩ | ⟨e, h1⟩ | ⟨e, e1, h1⟩ | ⟨e, e1, h1⟩ | ⟨e, h1⟩
  · exact h1
  · omega
  · omega
  · omega
  · exact absurd h15 e.1
section
variable {ps : List Ins} (hp : ∀ x ∈ ps, Plain x)
include hp
theorem pl_at {k : Nat} (hk : k < ps.length) : Plain ((ps ++ [exI]).getD k z0) := by
  rw [List.getD_eq_getElem?_getD, List.getElem?_append_left hk, List.getElem?_eq_getElem hk]
  exact hp _ (List.getElem_mem hk)
omit hp in
theorem pl_last : (ps ++ [exI]).getD ps.length z0 = exI := by
  rw [List.getD_eq_getElem?_getD, List.getElem?_append_right (Nat.le_refl _), Nat.sub_self]; rfl
omit hp in
theorem pl_len : (ps ++ [exI]).length = ps.length + 1 := by simp
theorem pl_beh {k : Nat} (hk : k < ps.length) : beh (ps ++ [exI]) (k : Int) = [((k + 1 : Nat) : Int)] := by
  have := pl_at hp hk
  exact beh_next (by rw [pl_len]; omega) this.n5 this.n6 this.n7 this.n15
omit hp in
theorem pl_end : beh (ps ++ [exI]) (ps.length : Int) = [] := beh_stop (by rw [pl_len]; omega) (by rw [pl_last]; rfl)
theorem pl_bad {k : Nat} (hk : k ≤ ps.length) : bad (ps ++ [exI]) k = 0 := by
  have hr : rch (ps ++ [exI]) k k = true := by
    cases k with
    | zero => rfl
    | succ j =>
      rw [rch_succ, pl_beh hp (by omega)]
      simp
  unfold bad
  rcases Nat.lt_or_ge k ps.length with h | h
  · have hc := (pl_at hp h).chk
    rw [if_neg (by rw [hc]; simp), if_neg (by rw [hr]; simp), if_neg]
    rw [pl_beh hp h, pl_len]
    simp; omega
  · obtain rfl : k = ps.length := by omega
    have hc : chk ((ps ++ [exI]).getD ps.length z0) = 0 := by rw [pl_last]; decide
    rw [if_neg (by rw [hc]; simp), if_neg (by rw [hr]; simp), if_neg]
    rw [pl_end]; simp
theorem pl_U : ∀ d k, k + d = ps.length + 1 → fchkU (ps ++ [exI]) d k = (0, 0)
  | 0, k, h => rfl
  | d + 1, k, h => by
    unfold fchkU
    rw [if_neg (by rw [pl_bad hp (by omega)]; simp)]
    exact pl_U d (k + 1) (by omega)
theorem pl_fchk (hl : ps.length ≤ 100) : fchk (ps ++ [exI]) = (0, 0) := by
  unfold fchk
  rw [pl_len, if_neg (by omega)]
  exact pl_U hp _ _ (by omega)
theorem pl_lgN (hl : ps.length ≤ 100) : ∀ d k, k + d = ps.length → lgN (ps ++ [exI]) k = (d : Int) + 1
  | 0, k, h => by
    obtain rfl : k = ps.length := by omega
    rw [lgN_eq (by rw [pl_fchk hp hl]) (by rw [pl_len]; omega), pl_end]; rfl
  | d + 1, k, h => by
    rw [lgN_eq (by rw [pl_fchk hp hl]) (by rw [pl_len]; omega), pl_beh hp (by omega)]
    unfold mxl
    rw [List.foldl_cons, List.foldl_nil, Int.toNat_natCast, pl_lgN hl d (k + 1) (by omega)]
    omega
theorem pl_lng (hl : ps.length ≤ 100) : lng (ps ++ [exI]) = (((ps.length + 1 : Nat) : Int), 0) := by
  rw [lng_well (by rw [pl_fchk hp hl]), pl_lgN hp hl ps.length 0 (by omega)]; rfl
end
theorem new_cells (w : World) (a b c d e : Value) : ∀ j u, [a, b, c, d, e][j]? = some u → (w.alloc (.cells #[a, b, c, d, e] 37)).cell? ((⟨w.heap.size, 0, none⟩ : Addr).add j) = some u := by
  intro j u hj
  match j, hj with
  | 0, hj => simp at hj; subst hj; simp [Addr.add]
  | 1, hj => simp at hj; subst hj; simp [Addr.add]
  | 2, hj => simp at hj; subst hj; simp [Addr.add]
  | 3, hj => simp at hj; subst hj; simp [Addr.add]
  | 4, hj => simp at hj; subst hj; simp [Addr.add]
  | j + 5, hj => simp at hj
theorem row_below {w w1 : World} {base : Nat} {e : TypeId} {size : Nat} {v : Value} {n : Nat} {xs : List Value} (h : w.ownsRow base e size v n xs) (hb : Below w.heap.size w w1) : w1.ownsRow base e size v n xs := by
  refine ⟨h.1, ?_⟩
  rcases h.2 with hn | ⟨g, cap, cur, rfl, hbb, hgg, rest⟩
  · exact .inl hn
  · exact .inr ⟨g, cap, cur, rfl, hbb, (hb.block g (Array.getElem?_eq_some_iff.1 hgg).1).trans hgg, rest⟩
theorem Kept.row {w0 w w1 : World} {row : Option Nat} (S : Kept w0 w) (hg : w.grownBy w1 row) (hr : ∀ k, row = some k → w0.heap.size ≤ k) : Kept w0 w1 := ⟨below_turn S.below hg (Nat.le_refl _) hr⟩
def AllPlain (ps : List Ins) : Prop := ∀ x ∈ ps, Plain x
theorem all_snoc {ps : List Ins} {x : Ins} (h : AllPlain ps) (hx : Plain x) : AllPlain (ps ++ [x]) := fun y hy => by
  rcases List.mem_append.1 hy with hy | hy
  · exact h y hy
  · rw [List.mem_singleton.1 hy]; exact hx
theorem all_ok {ps : List Ins} (h : AllPlain ps) : ∀ x ∈ ps ++ [exI], x.Ok := fun y hy => by
  rcases List.mem_append.1 hy with hy | hy
  · exact (h y hy).ok
  · rw [List.mem_singleton.1 hy]; exact exI_ok

set_option maxRecDepth 100000 in
set_option maxHeartbeats 4000000 in
theorem FlowPlain_calls (A : Option Addr) (cap : Nat) (L : List Ins) (w : World) (hP : Pr w A L) :
    Calls Try.prog 7 #[.slice A L.length cap] w fun e w' => e = .returned (.bool true) ∧ Kept w w' := by
  obtain ⟨i0, hi, hz0, hz1, hz2⟩ := info_parts insn_info
  have HP := Lib.hid hP
  clear hP
  generalize hn : L.length = n at *
  have HN := Lib.hid hn
  clear hn
  go_enter Try.func7, Try.ntmps7
  go_wp2_with fail
  refine (shown_calls _).mono ?_
  rintro e w1 ⟨rfl, K1⟩
  have HK1 := Lib.hid K1
  clear K1
  go_wp2_with fail
  go_loopw [4, 5] (fun v iv wr => ∃ (ps : List Ins) (i : Nat), i ≤ n ∧ i ≤ 100 ∧ iv = .int .i64 (i : Int) ∧ ps.length ≤ i ∧ AllPlain ps ∧ wr.ownsRow w.heap.size 37 5 v ps.length (flat ps) ∧ Kept w wr) (fun _ iv _ => n - (intOf iv).toNat)
  case atStart => exact ⟨[], 0, by omega, by omega, rfl, Nat.le_refl _, (fun x hx => by cases hx), World.ownsRow_nil _ _ _ _, HK1.out⟩
  case round =>
    clear HK1
    obtain ⟨ps, i, hin, hi100, rfl, hps, hpl, hrow, hK⟩ := hrel
    have HPL := Lib.hid hpl
    have HR := Lib.hid hrow
    have HK := Lib.hid hK
    clear hpl hrow hK
    by_cases hgo : i < n ∧ i < 100
    · obtain ⟨g1, g2⟩ := hgo
      have g2' : (i : Int) < 100 := by omega
      obtain ⟨ad, rfl, hlt, c0, c1, c2, c3, c4⟩ := (HP.out.below HK.out.below).at_ i (by rw [HN.out]; exact g1)
      have hok := HP.out.okD i
      have hre := Lib.hid (fun (w' : World) (hb : Below w.heap.size w w') => (HP.out.below hb).at_ i (by rw [HN.out]; exact g1))
      obtain ⟨x, hx⟩ : ∃ x, x = L.getD i z0 := ⟨_, rfl⟩
      rw [← hx] at c0 c1 c2 c3 c4 hok
      obtain ⟨op, a, b, c, imm⟩ := x
      dsimp only at c0 c1 c2 c3 c4
      have HOK := Lib.hid hok
      have HX := Lib.hid hx
      clear hok hx
      by_cases hop : op = 5 ∨ op = 6 ∨ op = 7 ∨ op = 15
      · rcases hop with rfl | rfl | rfl | rfl
        all_goals
          go_wp2
          go_roundw
          case rel => exact ⟨ps, i + 1, by omega, by omega, by go_num, by omega, HPL.out, HR.out, HK.out⟩
          case measure => simp [intOf]; omega
      · have n5 : op ≠ 5 := fun e => hop (.inl e)
        have n6 : op ≠ 6 := fun e => hop (.inr (.inl e))
        have n7 : op ≠ 7 := fun e => hop (.inr (.inr (.inl e)))
        have n15 : op ≠ 15 := fun e => hop (.inr (.inr (.inr e)))
        have N5 := Lib.hid n5
        have N6 := Lib.hid n6
        have N7 := Lib.hid n7
        have N15 := Lib.hid n15
        have p5 : (op != 5) = true := by rw [bne_iff_ne]; exact n5
        have p6 : (op != 6) = true := by rw [bne_iff_ne]; exact n6
        have p7 : (op != 7) = true := by rw [bne_iff_ne]; exact n7
        have p15 : (op != 15) = true := by rw [bne_iff_ne]; exact n15
        clear hop n5 n6 n7 n15
        go_wp2_with fail
        refine (Check_any ⟨op, a, b, c, imm⟩ HOK.out _).mono ?_
        rintro e w4 ⟨rfl, hB4⟩
        have HK4 := Lib.hid (HK.out.then_ hB4)
        have HR4 := Lib.hid (row_below HR.out hB4)
        obtain ⟨ad', ea, _, d0, d1, d2, d3, d4⟩ := hre.out w4 HK4.out.below
        obtain rfl : ad = ad' := by injection ea
        rw [← HX.out] at d0 d1 d2 d3 d4
        dsimp only at d0 d1 d2 d3 d4
        clear ea hB4 HK HR c0 c1 c2 c3 c4 hlt
        generalize hcv : chk ⟨op, a, b, c, imm⟩ = cv at *
        by_cases hc0 : cv = 0
        · subst hc0
          have HPx := Lib.hid (⟨HOK.out, hcv, N5.out, N6.out, N7.out, N15.out⟩ : Plain ⟨op, a, b, c, imm⟩)
          clear hcv
          obtain ⟨A8, c8, rfl⟩ := row_form HR4.out
          go_wp2_with (at_builtin; refine wpList_append_own _ rfl _ _ 22 rfl w.heap.size 37 i0 (.agg #[.int .u8 0, .int .u8 0, .int .u8 0, .int .u8 0, .int .u32 0]) 5 8 Try.underlying22 hi hz0 hz1 hz2 rfl (by decide) _ _ _ rfl (HR4.out.alloc _) ⟨w4.heap.size, 0, none⟩ 1 1 [.int .u8 op, .int .u8 a, .int .u8 b, .int .u8 c, .int .u32 imm] rfl rfl ?c1 ?c2 ?c3 ?c4 ?c5 ?_)
          case c1 => exact new_cells _ _ _ _ _ _
          case c2 => intro u hu; simp at hu; rcases hu with rfl | rfl | rfl | rfl | rfl <;> rfl
          case c3 => unfold maxLen; omega
          case c4 => omega
          case c5 => have := HK4.out.below.size; simp; omega
          · intro v' w5 hown5 hg5 _
            have hown5' : w5.ownsRow w.heap.size 37 5 v' (ps ++ [(⟨op, a, b, c, imm⟩ : Ins)]).length (flat (ps ++ [(⟨op, a, b, c, imm⟩ : Ins)])) := by rw [flat_append, List.length_append]; exact hown5
            have HO5 := Lib.hid hown5'
            have HK5 := Lib.hid (Kept.row (w0 := w) (HK4.out.then_ ((Below.refl _ _).alloc (Nat.le_refl _) (.cells #[.int .u8 op, .int .u8 a, .int .u8 b, .int .u8 c, .int .u32 imm] 37))) hg5 (fun k hk => (HR4.out.lt k hk).1))
            clear hown5 hown5' hg5 HR4 HK4
            go_wp2
            go_roundw
            case rel => exact ⟨_, i + 1, by omega, by omega, by go_num, by rw [List.length_append, List.length_singleton]; omega, all_snoc HPL.out HPx.out, HO5.out, HK5.out⟩
            case measure => simp [intOf]; omega
        · have hcb : (cv == 0) = false := beq_eq_false_iff_ne.2 hc0
          clear hc0 hcv
          go_wp2
          go_roundw
          case rel => exact ⟨ps, i + 1, by omega, by omega, by go_num, by omega, HPL.out, HR4.out, HK4.out⟩
          case measure => simp [intOf]; omega
    · have hno : ((n : Int) ≤ (i : Int)) ∨ ((i : Int) < (n : Int) ∧ (100 : Int) ≤ (i : Int)) := by omega
      have hpl := pl_len (ps := ps)
      obtain ⟨A8, c8, rfl⟩ := row_form HR.out
      clear hgo
      rcases hno with hno | ⟨hno, hno2⟩
      all_goals
        go_wp2_with (at_builtin; refine wpList_append_own _ rfl _ _ 22 rfl w.heap.size 37 i0 (.agg #[.int .u8 0, .int .u8 0, .int .u8 0, .int .u8 0, .int .u32 0]) 5 8 Try.underlying22 hi hz0 hz1 hz2 rfl (by decide) _ _ _ rfl (HR.out.alloc _) ⟨wr.heap.size, 0, none⟩ 1 1 [.int .u8 15, .int .u8 0, .int .u8 0, .int .u8 0, .int .u32 0] rfl rfl ?c1 ?c2 ?c3 ?c4 ?c5 ?_)
        case c1 => exact new_cells _ _ _ _ _ _
        case c2 => intro u hu; simp at hu; rcases hu with rfl | rfl | rfl <;> rfl
        case c3 => unfold maxLen; omega
        case c4 => omega
        case c5 => have := HK.out.below.size; simp; omega
        intro v' w5 hown5 hg5 _
        have hown5' : w5.ownsRow w.heap.size 37 5 v' (ps.length + 1) (flat (ps ++ [exI])) := by rw [flat_append]; exact hown5
        have HK5 := Lib.hid (Kept.row (HK.out.then_ ((Below.refl _ _).alloc (Nat.le_refl _) (.cells #[.int .u8 15, .int .u8 0, .int .u8 0, .int .u8 0, .int .u32 0] 37))) hg5 (fun k hk => (HR.out.lt k hk).1))
        obtain ⟨A5, c5, rfl, hP5⟩ := Pr.of_row hown5' (by rw [hpl]) (all_ok HPL.out)
        have HC := Lib.hid (fun (w : World) (hP : Pr w A5 (ps ++ [exI])) => Check_whole A5 c5 (ps ++ [exI]) w hP)
        have HL := Lib.hid (fun (w : World) (hP : Pr w A5 (ps ++ [exI])) => Longest_any A5 c5 (ps ++ [exI]) w hP)
        rw [pl_len, pl_fchk HPL.out (by omega)] at HC
        rw [pl_len, pl_lng HPL.out (by omega)] at HL
        have HP5 := Lib.hid hP5
        clear hown5 hown5' hg5 HR HK hP5
        go_wp2_with fail
        refine (HC.out _ HP5.out).mono ?_
        rintro e w6 ⟨rfl, hB6⟩
        have HK6 := Lib.hid (HK5.out.then_ hB6)
        have HP6 := Lib.hid (HP5.out.below hB6)
        clear hB6 HK5 HP5
        go_wp2_with fail
        refine (HL.out _ HP6.out).mono ?_
        rintro e w7 ⟨rfl, hB7⟩
        have HK7 := Lib.hid (HK6.out.then_ hB7)
        clear hB7 HK6 HP6
        go_wp2
        go_ret
        exact ⟨rfl, HK7.out⟩
theorem FlowPlain_row (A : Option Addr) (len cap : Nat) {f0 f1 f2 f3 f4 : Nat → Int} (w : World) (h0 : ColI w A len 5 0 .u8 f0) (h1 : ColI w A len 5 1 .u8 f1) (h2 : ColI w A len 5 2 .u8 f2) (h3 : ColI w A len 5 3 .u8 f3) (h4 : ColI w A len 5 4 .u32 f4) :
    Calls Try.prog 7 #[.slice A len cap] w fun e w' => e = .returned (.bool true) ∧ Kept w w' := by
  obtain ⟨L, rfl, hP⟩ := Pr.of_cols h0 h1 h2 h3 h4
  exact FlowPlain_calls A cap L w hP
end Go.Proofs.Ytaomlfnffnapmaa
