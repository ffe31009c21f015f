/- The reference's Read, plain: tables, digits, cut, candidates. -/
import Derived.Test.YtlomgbackphmmaaDoorPInsnReadsx7
import Derived.Test.YtlomgbackphmmaaDoorInRf2
set_option linter.unusedVariables false
set_option linter.unusedSimpArgs false
namespace Go.Proofs.YtlomgbackphmmaaDoor.RefC
open Go.RowKit Go.Lib Go.Proofs.YtlomgbackphmmaaDoorW.PrintWords Go.Proofs.YtlomgbackphmmaaDoor.PInsnReads
open Go.Proofs.YtlomgbackphmmaaDoor (Ins z0 chk isOp bnd hasW over dig dig_size data_inj txt parts wl wAlu wCond wCall wrd mkN sR sS sF sE sP chk_op chk_word data_add join_two fold10 digits_all nDigits_le parts_cons parts_no32)

/-! ### The tables -/
def Pop (op : Int) : ByteArray := match turnbuckleref06_Parts.f op with | some (_, P) => P | none => ⟨#[]⟩
def Fop (op : Int) : ByteArray := match turnbuckleref06_Parts.f op with | some (F, _) => F | none => ⟨#[]⟩
def Wop (op : Int) : List ByteArray := (turnbuckleref06_Words.f 10 op).getD []
def mop (op : Int) : Nat := (Pop op).size / 2
structure OpT (op : Int) : Prop where
  f : turnbuckleref06_Parts.f op = some (Fop op, Pop op)
  w : turnbuckleref06_Words.f 10 op = some (Wop op)
  sz : (Pop op).size = 2 * mop op
  m4 : mop op ≤ 4
  wl : (Wop op).length ≤ 22
theorem op_ok (op : Int) (h1 : 1 ≤ op) (h2 : op ≤ 15) : OpT op := by
  have : op = 1 ∨ op = 2 ∨ op = 3 ∨ op = 4 ∨ op = 5 ∨ op = 6 ∨ op = 7 ∨ op = 8 ∨ op = 9 ∨ op = 10 ∨ op = 11 ∨ op = 12 ∨ op = 13 ∨ op = 14 ∨ op = 15 := by omega
  rcases this with rfl | rfl | rfl | rfl | rfl | rfl | rfl | rfl | rfl | rfl | rfl | rfl | rfl | rfl | rfl <;>
    exact ⟨by kernel_rfl, by kernel_rfl, by kernel_rfl, by decide +kernel, by decide +kernel⟩

/-! ### One field -/
def wth (x : Ins) (f v : Int) : Ins := if f = 65 then ⟨x.op, v % 256, x.b, x.c, x.imm⟩ else if f = 66 then ⟨x.op, x.a, v % 256, x.c, x.imm⟩ else if f = 67 then ⟨x.op, x.a, x.b, v % 256, x.imm⟩ else ⟨x.op, x.a, x.b, x.c, v⟩
theorem wth_ok {x : Ins} (hx : x.Ok) (f v : Int) (h0 : 0 ≤ v) (h1 : v < 4294967296) : (wth x f v).Ok := by
  obtain ⟨h2, h3, h4, h5, h6⟩ := hx
  unfold wth
  split
  · exact ⟨h2, by dsimp only; omega, h4, h5, h6⟩
  · split
    · exact ⟨h2, h3, by dsimp only; omega, h5, h6⟩
    · split
      · exact ⟨h2, h3, h4, by dsimp only; omega, h6⟩
      · exact ⟨h2, h3, h4, h5, by dsimp only; omega⟩
theorem wth_op (x : Ins) (f v : Int) : (wth x f v).op = x.op := by unfold wth; split; rfl; split; rfl; split <;> rfl
theorem Rwith (x : Ins) (f v : Int) (w : World) : Calls Tryd.prog 41 #[.agg x.cells, .int .u8 f, .int .u32 v] w fun e w' => e = .returned (.agg (wth x f v).cells) ∧ Below w.heap.size w w' := by
  refine turnbuckleref06_with.calls x.op x.a x.b x.c x.imm f v (wth x f v).op (wth x f v).a (wth x f v).b (wth x f v).c (wth x f v).imm w ?_
  unfold turnbuckleref06_with.f wth
  split
  · rfl
  · split
    · rfl
    · split <;> rfl

/-! ### Digits -/
theorem j0_f (k : Nat) (b : ByteArray) (n : Int) : turnbuckleref06_digits.j0 (k + 1) b n false = turnbuckleref06_digits.l0 k b 0 n := by unfold turnbuckleref06_digits.j0; rfl
theorem j0_t (k : Nat) (b : ByteArray) (n : Int) : turnbuckleref06_digits.j0 (k + 1) b n true = some (0, false) := by unfold turnbuckleref06_digits.j0; rfl
theorem dgl_some : ∀ (k : Nat) (b : ByteArray) (x6 x7 : Int), 0 ≤ x7 → x7 ≤ (b.size : Int) → (b.size : Int) ≤ 4294967281 → (b.size : Int) - x7 < k → ∃ v is, turnbuckleref06_digits.l0 k b x6 x7 = some (v, is) ∧ 0 ≤ v ∧ v < 4294967296
  | 0, b, x6, x7, h0, h1, hb, hk => by omega
  | k + 1, b, x6, x7, h0, h1, hb, hk => by
    unfold turnbuckleref06_digits.l0
    by_cases c1 : x7 < (b.size : Int)
    · rw [if_pos c1, if_pos h0]
      by_cases c2 : bt b x7 < 48
      · rw [if_pos c2]; exact ⟨0, false, rfl, by omega, by omega⟩
      · rw [if_neg c2]
        by_cases c3 : bt b x7 > 57
        · rw [if_pos c3]; exact ⟨0, false, rfl, by omega, by omega⟩
        · rw [if_neg c3, w64 (x := x7 + 1) (by omega) (by omega)]
          exact dgl_some k b _ (x7 + 1) (by omega) (by omega) hb (by omega)
    · rw [if_neg c1]
      exact ⟨_, _, rfl, by omega, by omega⟩
def Dg (b : ByteArray) (n : Int) : Int × Bool := (turnbuckleref06_digits.f 20 b n).getD (0, false)
theorem Dg_some (b : ByteArray) (n : Int) (hn : n = 0 ∨ n = 1) (hb : (b.size : Int) ≤ 4294967281) : turnbuckleref06_digits.f 20 b n = some ((Dg b n).1, (Dg b n).2) ∧ 0 ≤ (Dg b n).1 ∧ (Dg b n).1 < 4294967296 := by
  have key : ∃ v is, turnbuckleref06_digits.f 20 b n = some (v, is) ∧ 0 ≤ v ∧ v < 4294967296 := by
    have t : ∃ v is, turnbuckleref06_digits.j0 20 b n true = some (v, is) ∧ 0 ≤ v ∧ v < 4294967296 := ⟨0, false, j0_t 19 b n, by omega, by omega⟩
    unfold turnbuckleref06_digits.f
    split
    · exact t
    · rename_i h1
      rw [w64 (x := n + 10) (by omega) (by omega)]
      by_cases h2 : (b.size : Int) > n + 10
      · rw [decide_eq_true h2]; exact t
      · rw [decide_eq_false h2]
        rw [j0_f 19]
        exact dgl_some 19 b 0 n (by omega) (by omega) hb (by omega)
  obtain ⟨v, is, e, h0, h1⟩ := key
  have e2 : Dg b n = (v, is) := by unfold Dg; rw [e]; rfl
  rw [e2]
  exact ⟨e, h0, h1⟩
theorem bt_list (s : ByteArray) (i : Nat) (c : UInt8) (h : s.data.toList[i]? = some c) : bt s (i : Int) = (c.toNat : Int) := by
  obtain ⟨hl, hc⟩ := List.getElem?_eq_some_iff.1 h
  have hs : ((i : Int)).toNat < s.size := by rw [Int.toNat_natCast]; simpa using hl
  rw [← bt_at s i hs]
  subst hc
  rfl
theorem size_list (s : ByteArray) : s.data.toList.length = s.size := rfl
theorem fold10_ge : ∀ (l : List UInt8) (v u : Int), 0 ≤ v → fold10 l v = some u → v ≤ u
  | [], v, u, h, e => by injection e with e; omega
  | c :: l, v, u, h, e => by
    unfold fold10 at e
    split at e
    · rename_i hc
      have := fold10_ge l _ u (by omega) e
      omega
    · cases e
theorem dgl_fold : ∀ (k : Nat) (b : ByteArray) (x6 : Int) (i : Nat) (u : Int), i ≤ b.size → (b.size : Int) ≤ 4294967281 → b.size - i < k → 0 ≤ x6 → u < 4294967296 → fold10 (b.data.toList.drop i) x6 = some u → turnbuckleref06_digits.l0 k b x6 (i : Int) = some (u, true)
  | 0, b, x6, i, u, h1, hb, hk, h6, hu, e => by omega
  | k + 1, b, x6, i, u, h1, hb, hk, h6, hu, e => by
    have hge := fold10_ge _ _ _ h6 e
    unfold turnbuckleref06_digits.l0
    by_cases c1 : i < b.size
    · rw [if_pos (by omega), if_pos (by omega)]
      have hl : i < b.data.toList.length := c1
      have hd := List.drop_eq_getElem_cons hl
      rw [hd] at e
      have hbt := bt_list b i _ (List.getElem?_eq_getElem hl)
      unfold fold10 at e
      split at e
      · rename_i hc
        have hge2 := fold10_ge _ _ _ (by omega) e
        rw [hbt, if_neg (by omega), if_neg (by omega), w64 (x := (i : Int) + 1) (by omega) (by omega)]
        have e1 : ((((b.data.toList[i]).toNat : Int) - 48) % 256) = ((b.data.toList[i]).toNat : Int) - 48 := by omega
        have e2 : IntKind.u64.wrap (10 * x6) = 10 * x6 := by rw [IntKind.wrap_u64]; omega
        have e3 : IntKind.u64.wrap (10 * x6 + (((b.data.toList[i]).toNat : Int) - 48)) = 10 * x6 + (((b.data.toList[i]).toNat : Int) - 48) := by rw [IntKind.wrap_u64]; omega
        rw [e1, e2, e3]
        exact dgl_fold k b _ (i + 1) u (by omega) hb (by omega) (by omega) hu e
      · cases e
    · rw [if_neg (by omega)]
      rw [List.drop_eq_nil_of_le (by rw [size_list]; omega)] at e
      injection e with e
      subst e
      rw [decide_eq_true hu]
      congr 2
      omega
theorem Dg_mk (s : ByteArray) (hs : s.size ≤ 1) (v : Int) (h0 : 0 ≤ v) (h1 : v ≤ 4294967295) : Dg (mkN s v) (s.size : Int) = (v, true) := by
  obtain ⟨u, rfl⟩ := Int.eq_ofNat_of_zero_le h0
  obtain ⟨_, hf, _, hp⟩ := digits_all u
  have hdg : (dig u).size ≤ 10 := dig_size u (by omega)
  have hsz : (mkN s (u : Int)).size = s.size + (dig u).size := by unfold mkN; rw [size_add, Int.toNat_natCast]
  have hdl : (dig u).size = (decDigits u).length := rfl
  unfold Dg turnbuckleref06_digits.f
  rw [if_neg (by rw [hsz]; omega), w64 (x := (s.size : Int) + 10) (by omega) (by omega), decide_eq_false (by rw [hsz]; omega)]
  rw [j0_f 19, dgl_fold 19 _ 0 s.size (u : Int) (by omega) (by omega) (by omega) (by omega) (by omega)]
  · rfl
  · unfold mkN
    rw [data_add, Int.toNat_natCast, List.drop_left' (size_list s)]
    exact hf

/-! ### cut -/
def spl : List UInt8 → List UInt8 → List (List UInt8)
  | cur, [] => [cur]
  | cur, c :: r => if c = 32 then cur :: spl [] r else spl (cur ++ [c]) r
theorem spl_app : ∀ (p cur : List UInt8), (32 : UInt8) ∉ p → ∀ r, spl cur (p ++ r) = spl (cur ++ p) r
  | [], cur, h, r => by simp
  | c :: p, cur, h, r => by
    show (if c = 32 then cur :: spl [] (p ++ r) else spl (cur ++ [c]) (p ++ r)) = _
    rw [if_neg (fun e => h (by rw [e]; exact List.mem_cons_self ..)), spl_app p _ (fun hh => h (List.mem_cons_of_mem _ hh))]
    rw [List.append_assoc]; rfl
theorem spl_join : ∀ (ps : List (List UInt8)) (p : List UInt8), (∀ y ∈ p :: ps, (32 : UInt8) ∉ y) → spl [] (join (p :: ps) [32]) = p :: ps
  | [], p, h => by
    have := spl_app p [] (h p (List.mem_cons_self ..)) []
    rw [List.append_nil] at this
    rw [join_one]
    rw [this]
    rfl
  | q :: ps, p, h => by
    rw [join_two, spl_app p [] (h p (List.mem_cons_self ..))]
    unfold spl
    rw [if_pos rfl, spl_join ps q (fun y hy => h y (List.mem_cons_of_mem _ hy))]
    simp
def toBA (l : List UInt8) : ByteArray := ⟨l.toArray⟩
theorem extract_list (s : ByteArray) (a b : Nat) : s.extract a b = toBA ((s.data.toList.drop a).take (b - a)) := by
  apply data_inj
  rw [ByteArray.data_extract, Array.toList_extract]
  simp [toBA, List.extract_eq_take_drop]
theorem cut_l : ∀ (k : Nat) (s : ByteArray) (acc : List ByteArray) (a i : Nat), a ≤ i → i ≤ s.size → acc.length ≤ i → (s.size : Int) ≤ 4294967281 → s.size + 1 - i < k →
    turnbuckleref06_cut.l0 k s acc (a : Int) (i : Int) = some (acc ++ (spl ((s.data.toList.drop a).take (i - a)) (s.data.toList.drop i)).map toBA)
  | 0, s, acc, a, i, ha, hi, hl, hs, hk => by omega
  | k + 1, s, acc, a, i, ha, hi, hl, hs, hk => by
    unfold turnbuckleref06_cut.l0
    rw [if_pos (by omega)]
    by_cases c1 : i = s.size
    · rw [if_pos (by omega), if_pos (by omega), if_pos (by omega), if_pos (by omega), w64 (x := (i : Int) + 1) (by omega) (by omega), Int.toNat_natCast, Int.toNat_natCast, extract_list]
      rw [List.drop_eq_nil_of_le (i := i) (by rw [size_list]; omega)]
      cases k with
      | zero => omega
      | succ k =>
        unfold turnbuckleref06_cut.l0
        rw [if_neg (by omega)]
        rfl
    · have hl' : i < s.data.toList.length := by rw [size_list]; omega
      have hbt := bt_list s i _ (List.getElem?_eq_getElem hl')
      have htk : (s.data.toList.drop a).take (i + 1 - a) = (s.data.toList.drop a).take (i - a) ++ [s.data.toList[i]] := by
        rw [show i + 1 - a = (i - a) + 1 from by omega, List.take_add_one, List.getElem?_drop, show a + (i - a) = i from by omega, List.getElem?_eq_getElem hl']
        rfl
      rw [if_neg (by omega), if_pos (by omega), if_pos (by omega), w64 (x := (i : Int) + 1) (by omega) (by omega), hbt, List.drop_eq_getElem_cons hl']
      unfold spl
      by_cases c2 : s.data.toList[i] = 32
      · rw [if_pos (by rw [c2]; rfl), if_pos (by omega), if_pos (by omega), if_pos (by omega), if_pos c2, Int.toNat_natCast, Int.toNat_natCast, extract_list]
        have := cut_l k s (acc ++ [toBA ((s.data.toList.drop a).take (i - a))]) (i + 1) (i + 1) (Nat.le_refl _) (by omega) (by simp; omega) hs (by omega)
        rw [show ((i : Int) + 1) = ((i + 1 : Nat) : Int) from rfl, this, Nat.sub_self, List.take_zero]
        simp
      · have c3 : ¬ ((s.data.toList[i]).toNat : Int) = 32 := fun e => c2 (UInt8.toNat_inj.1 (by have : (32 : UInt8).toNat = 32 := rfl; omega))
        rw [if_neg c3, if_neg c2, ← htk]
        exact cut_l k s acc a (i + 1) (by omega) (by omega) (by omega) hs (by omega)
def cutL (s : ByteArray) : List ByteArray := (spl [] s.data.toList).map toBA
theorem cut_some (s : ByteArray) (hs : (s.size : Int) ≤ 4294967281) : turnbuckleref06_cut.f (s.size + 2) s = some (cutL s) := by
  unfold turnbuckleref06_cut.f
  have := cut_l (s.size + 2) s [] 0 0 (Nat.le_refl _) (Nat.zero_le _) (Nat.le_refl _) hs (by omega)
  simpa [cutL] using this
theorem toBA_data (b : ByteArray) : toBA b.data.toList = b := data_inj rfl
theorem cut_txt (x : Ins) : cutL (txt x) = parts x := by
  obtain ⟨p, ps, e⟩ := parts_cons x
  have h := parts_no32 x
  unfold cutL txt
  rw [e] at h ⊢
  show (spl [] (join ((p :: ps).map (·.data.toList)) [32])).map toBA = _
  rw [List.map_cons, spl_join _ _ (fun y hy => by
    rw [← List.map_cons (f := fun b : ByteArray => b.data.toList)] at hy
    obtain ⟨b, hb, rfl⟩ := List.mem_map.1 hy
    exact h b hb)]
  rw [List.map_cons, toBA_data, List.map_map]
  congr 1
  rw [show (toBA ∘ fun b : ByteArray => b.data.toList) = id from funext toBA_data, List.map_id]

/-! ### Candidates -/
def cdv (L : List ByteArray) (P : ByteArray) (j : Nat) : Int × Bool := Dg (L.getD (1 + j) ⟨#[]⟩) (if bt P (2 * (j : Int) + 1) = 110 then 0 else 1)
def cd (L : List ByteArray) (P : ByteArray) (x : Ins) : Nat → Ins
  | 0 => x
  | j + 1 => if (cdv L P j).2 = true ∧ bt P (2 * (j : Int) + 1) ≠ 119 then wth (cd L P x j) (bt P (2 * (j : Int))) (cdv L P j).1 else cd L P x j
theorem cd_ok (L : List ByteArray) (hL : ∀ b ∈ L, (b.size : Int) ≤ 4294967281) (P : ByteArray) (x : Ins) (hx : x.Ok) : ∀ j, (cd L P x j).Ok
  | 0 => hx
  | j + 1 => by
    have ih := cd_ok L hL P x hx j
    unfold cd
    split
    · have hb : ((L.getD (1 + j) ⟨#[]⟩).size : Int) ≤ 4294967281 := by
        rw [List.getD_eq_getElem?_getD]
        cases h : L[1 + j]? with
        | none => show ((⟨#[]⟩ : ByteArray).size : Int) ≤ _; decide
        | some b => exact hL b (List.mem_of_getElem? h)
      have := (Dg_some (L.getD (1 + j) ⟨#[]⟩) (if bt P (2 * (j : Int) + 1) = 110 then 0 else 1) (by split <;> simp) hb).2
      exact wth_ok ih _ _ this.1 this.2
    · exact ih
end Go.Proofs.YtlomgbackphmmaaDoor.RefC
