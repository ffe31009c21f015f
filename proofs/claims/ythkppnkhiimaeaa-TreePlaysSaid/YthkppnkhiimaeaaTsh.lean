/- Lemmas of the claim TreePlays. -/
import Derived.Test.YthkppnkhiimaeaaTs1
import Derived.Test.YthkppnkhiimaeaaPost
import Derived.Test.YthkppnkhiimaeaaCol
/- The tree's law (layer 11): places, a fresh arena, the document's example. -/
set_option linter.unusedVariables false
set_option linter.unusedSimpArgs false
namespace Go.Proofs.Ythkppnkhiimaeaa
open Go.RowKit
theorem leaf_calls (n : Int) (h0 : 0 ≤ n) (h1 : n ≤ 1000000) (w : World) : Calls Try.prog 13 #[.int .i64 n] w fun e w' => e = .returned (.int .i64 (32 * n)) ∧ w = w' := by
  by_cases hz : n = 0
  · subst hz
    go_enter Try.func13, Try.ntmps13
    go_wp2
    go_ret
    exact ⟨rfl, rfl⟩
  · have hb : (n == 0) = false := beq_eq_false_iff_ne.2 hz
    go_enter Try.func13, Try.ntmps13
    go_wp2
    go_ret
    exact ⟨rfl, rfl⟩
/-! ### A key -/
theorem byteOf_add (v : Int) (k j : Nat) : byteOf v (k + j) = byteOf (v / 256 ^ k) j := by
  unfold byteOf
  rw [Int.pow_add, Int.ediv_ediv_of_nonneg (Int.le_of_lt (Int.pow_pos (by omega)))]
theorem ldA_stA_sub {bs : List Int} {at_ wd v : Int} (h : nErr bs.length at_ wd = 0) (k m : Int) (hm : WOk m) (hk : 0 ≤ k) (hkm : k + m ≤ wd) :
    nErr bs.length (at_ + k) m = 0 ∧ ldA (stA bs at_ wd v) (at_ + k) m = v / 256 ^ k.toNat % 256 ^ m.toNat := by
  have ⟨hw, h0, h1⟩ := nErr_zero h
  have hm' : 1 ≤ m ∧ m ≤ 8 := by unfold WOk at hm; omega
  have e : nErr bs.length (at_ + k) m = 0 := nErr_ok hm (by omega) (by omega)
  refine ⟨e, ?_⟩
  unfold ldA
  rw [stA_length, if_pos e]
  unfold stA
  rw [if_pos h]
  apply ldv_bytes
  intro j hj
  unfold stv
  rw [gb_put, if_pos (by omega), ← byteOf_add]
  congr 1
  omega
def setKey (kw : Int → Int) (n v : Int) : Int → Int := upd (upd kw (n - 8) (v % 4294967296)) (n - 4) (v / 4294967296)
theorem Wd.setKey {bs : List Int} {h : Hp} {kw : Int → Int} (W : Wd bs h kw) {n v : Int} (hn : isN n) (h0 : 0 ≤ v) (h1 : v ≤ 18446744073709551615) : Wd (stA bs (n - 8) 8 v) h (setKey kw n v) ∧ nErr bs.length (n - 8) 8 = 0 := by
  unfold isN at hn
  have hl : bs.length = 2048 := W.1
  have he : nErr bs.length (n - 8) 8 = 0 := nErr_ok (by unfold WOk; omega) (by omega) (by omega)
  refine ⟨⟨by rw [stA_length]; exact hl, fun a ha => ?_⟩, he⟩
  have ha4 := ha.2.2
  have p4 : (256 : Int) ^ (Int.toNat 4) = 4294967296 := by decide
  by_cases e1 : a = n - 8
  · subst e1
    obtain ⟨_, e⟩ := ldA_stA_sub (v := v) he 0 4 (by unfold WOk; omega) (by omega) (by omega)
    rw [Int.add_zero] at e
    unfold gt
    rw [e, p4, show (256 : Int) ^ (Int.toNat 0) = 1 from rfl, Int.ediv_one]
    unfold wordOf
    rw [if_neg (by omega), if_neg (by omega)]
    unfold Go.Proofs.Ythkppnkhiimaeaa.setKey
    rw [upd_ne (by omega), upd_eq rfl]
  · by_cases e2 : a = n - 4
    · subst e2
      obtain ⟨_, e⟩ := ldA_stA_sub (v := v) he 4 4 (by unfold WOk; omega) (by omega) (by omega)
      rw [show n - 8 + 4 = n - 4 from by omega] at e
      unfold gt
      rw [e, p4]
      unfold wordOf
      rw [if_neg (by omega), if_neg (by omega)]
      unfold Go.Proofs.Ythkppnkhiimaeaa.setKey
      rw [upd_eq rfl]
      omega
    · have hg := W.2 a ha
      have : gt (stA bs (n - 8) 8 v) a = gt bs a := by
        unfold gt
        exact ldA_stA_other he (by omega)
      rw [this, hg]
      unfold wordOf
      split
      · rfl
      · split
        · rfl
        · unfold Go.Proofs.Ythkppnkhiimaeaa.setKey
          rw [upd_ne e2, upd_ne e1]
theorem keyOf_set {kw : Int → Int} {n m v : Int} (hn : isN n) (hm : isN m) (h0 : 0 ≤ v) : keyOf (setKey kw n v) m = if m = n then v else keyOf kw m := by
  unfold isN at hn hm
  unfold keyOf setKey
  by_cases e : m = n
  · subst e
    rw [if_pos rfl, upd_ne (by omega), upd_eq rfl, upd_eq rfl]
    omega
  · rw [if_neg e, upd_ne (by omega), upd_ne (by omega), upd_ne (by omega), upd_ne (by omega)]
def Kz (kw : Int → Int) (S : List Int) : Prop := ∀ a, al a → (∀ n ∈ S, a ≠ n - 8 ∧ a ≠ n - 4) → kw a = 0
theorem Kz.set {kw : Int → Int} {S : List Int} (h : Kz kw S) (n v : Int) : Kz (setKey kw n v) (n :: S) := fun a ha hn => by
  have h1 := hn n (List.mem_cons_self ..)
  unfold setKey
  rw [upd_ne h1.2, upd_ne h1.1]
  exact h a ha (fun m hm => hn m (List.mem_cons_of_mem _ hm))
theorem Store_hs {w0 w : World} {p d : Nat} {kw : Int → Int} {h : Hp} (S : Hs w0 w p d kw h) {n v : Int} (hn : isN n) (h0 : 0 ≤ v) (h1 : v ≤ 18446744073709551615) :
    Calls Try.prog 28 #[.pointer (some ⟨p, 0, none⟩), .int .i64 (n - 8), .int .i64 8, .int .u64 v] w fun e w' => e = .returned (.int .i64 0) ∧ Hs w0 w' p d (setKey kw n v) h ∧ w.grownBy w' (some d) := by
  obtain ⟨bs, o1, W⟩ := S.ex
  obtain ⟨W', he⟩ := W.setKey hn h0 h1
  refine (Store_any (n - 8) 8 v w o1.ar h0).mono ?_
  rintro e w' ⟨rfl, hA, hg⟩
  exact ⟨by rw [he], ⟨_, o1.grown hA hg, W'⟩, hg⟩
def lf (i : Nat) : Int := 32 * ((i : Int) + 1)
theorem isN_lf {i : Nat} (h : i < 40) : isN (lf i) := by unfold isN lf; omega
theorem lf_inj {i j : Nat} (h : lf i = lf j) : i = j := by unfold lf at h; omega
def lfs (n : Nat) : List Int := (List.range n).map lf
theorem mem_lfs {n i : Nat} : lf i ∈ lfs n ↔ i < n := by
  unfold lfs
  rw [List.mem_map]
  constructor
  · rintro ⟨j, hj, e⟩; have := lf_inj e; subst this; exact List.mem_range.1 hj
  · intro h; exact ⟨i, List.mem_range.2 h, rfl⟩
theorem wd_zeros : Wd (zeros 2048) hp0 (fun _ => 0) := by
  refine ⟨zeros_length _, fun a ha => ?_⟩
  have hz : gt (zeros 2048) a = 0 := by
    unfold gt ldA
    split
    · have : ∀ k, ldv (zeros 2048) a.toNat k = 0 := fun k => by
        induction k with
        | zero => rfl
        | succ k ih =>
          show ldv _ _ k + gb (zeros 2048) (a.toNat + k) * 256 ^ k = 0
          rw [ih]
          have : gb (zeros 2048) (a.toNat + k) = 0 := by
            unfold gb zeros
            rw [List.getD_eq_getElem?_getD]
            by_cases hh : a.toNat + k < 2048
            · rw [List.getElem?_replicate, if_pos hh]; rfl
            · rw [List.getElem?_replicate, if_neg hh]; rfl
          rw [this]; simp
      exact this _
    · rfl
  rw [hz]
  unfold wordOf hp0
  split
  · rfl
  · split
    · split <;> (try split) <;> (try split) <;> (try split) <;> rfl
    · rfl
structure Fh (w0 w : World) (p d : Nat) (n : Nat) (f : Nat → Int) (kw : Int → Int) : Prop where
  S : Hs w0 w p d kw hp0
  key : ∀ i, i < n → keyOf kw (lf i) = f i
  kz : Kz kw (lfs n)
theorem Fh.ts {w0 w : World} {p d n : Nat} {f : Nat → Int} {kw : Int → Int} (H : Fh w0 w p d n f kw) : Ts w0 w p d kw hp0 .nil := ⟨H.S, foc0, rb0, by simp [Srt, Bt.ids], fun n _ _ => free0 n⟩
structure Ky (w : World) (A : Option Addr) (len : Nat) (f : Nat → Int) : Prop where
  at_ : ∀ i, i < len → ∃ ad : Addr, A = some ad ∧ ad.block < w.heap.size ∧ w.cell? (ad.add i) = some (.int .u64 (f i)) ∧ 0 ≤ f i ∧ f i ≤ 18446744073709551615
theorem Ky.of_col {w : World} {A : Option Addr} {len : Nat} {f : Nat → Int} (h : ColI w A len 1 0 .u64 f) : Ky w A len f := ⟨fun i hi => by
  obtain ⟨ad, e, hb, hc, hw⟩ := h i hi
  exact ⟨ad, e, hb, by simpa using hc, bd_u64 hw⟩⟩
theorem Ky.below {w w1 : World} {A : Option Addr} {len : Nat} {f : Nat → Int} (h : Ky w A len f) (hb : Below w.heap.size w w1) : Ky w1 A len f := ⟨fun i hi => by
  obtain ⟨ad, e, hl, hc, h0, h1⟩ := h.at_ i hi
  exact ⟨ad, e, Nat.lt_of_lt_of_le hl hb.size, (hb.cell (by rw [block_add]; exact hl)).trans hc, h0, h1⟩⟩
set_option maxHeartbeats 2000000 in
theorem fresh_fh {w0 w : World} (K : Kept w0 w) {A : Option Addr} {len cap : Nat} {f : Nat → Int} (hK : Ky w A len f) (hlen : len ≤ 40) :
    Calls Try.prog 11 #[.slice A len cap] w fun e w' => ∃ p d kw, e = .returned (.pointer (some ⟨p, 0, none⟩)) ∧ Fh w0 w' p d len f kw ∧ Below w.heap.size w w' ∧ w.heap.size ≤ d := by
  have HK := Lib.hid hK
  have HKt := Lib.hid K
  clear K hK
  go_enter Try.func11, Try.ntmps11
  go_wp2_with fail
  refine (New_st (Kept.refl w) 2048 (by omega) (by omega)).mono ?_
  rintro e w1 ⟨p, d, rfl, S⟩
  have H0 : Hid (Fh w w1 p d 0 f (fun _ => 0)) := Lib.hid ⟨⟨⟨_, S, wd_zeros⟩⟩, fun i hi => by omega, fun a _ _ => rfl⟩
  clear S
  go_wp2
  go_loopg [5] len (fun gq v wr => ∃ (k : Nat) (kw : Int → Int), k ≤ len ∧ gq = len - k ∧ v = .int .i64 (k : Int) ∧ Fh w wr p d k f kw)
  case atStart => exact ⟨0, _, by omega, by omega, rfl, H0.out⟩
  case round =>
    clear H0
    obtain ⟨k, kw, hk, rfl, rfl, hF⟩ := hrel
    have HF := Lib.hid hF
    clear hF
    by_cases hlt : k < len
    · have hk40 : k < 40 := by omega
      obtain ⟨ad, rfl, hbl, hcell0, f0, f1⟩ := HK.out.at_ k hlt
      have hcell := (HF.out.S.kept.below.cell (p := ad.add k) (by rw [block_add]; exact hbl)).trans hcell0
      have HF0 := Lib.hid f0
      have HF1 := Lib.hid f1
      have hd : decide ((k : Int) < (len : Int)) = true := decide_eq_true (by omega)
      have hw1 : IntKind.i64.wrap ((k : Int) + 1) = (k : Int) + 1 := by rw [IntKind.wrap_i64]; omega
      have hw2 : IntKind.i64.wrap (32 * ((k : Int) + 1) - 8) = 32 * ((k : Int) + 1) - 8 := by rw [IntKind.wrap_i64]; omega
      clear f0 f1
      have HS := Lib.hid HF.out.S
      have HSd : Hid (Hs w wr.drew p d kw hp0) := Lib.hid (HF.out.S.then_ ⟨rfl, rfl, rfl, Nat.le_refl _, fun _ _ => rfl⟩)
      have HC := Lib.hid hcell
      clear hcell0 hcell
      go_wp2_with fail
      go_region_held3 (fun w' => w'.cell? (ad.add k) = some (.int .u64 (f k))) (first | exact HC.out | exact (hg.cell HC.out (fun e => (by injection e with e; have := HS.out.new; rw [block_add] at e; omega)))) (first | (go_simp; go_at_call 13; refine (leaf_calls ((k : Int) + 1) (by omega) (by omega) _).mono ?_; rintro e w' ⟨rfl, rfl⟩) | (go_simp; go_at_call 28; refine (Store_hs HSd.out (n := 32 * ((k : Int) + 1)) (v := f k) (isN_lf hk40) HF0.out HF1.out).mono ?_; rintro e w' ⟨rfl, hS2, hg⟩))
      have HF2 : Hid (Fh w w' p d (k + 1) f (setKey kw (lf k) (f k))) := Lib.hid ⟨hS2, fun i hi => by
          rw [keyOf_set (isN_lf hk40) (isN_lf (by omega)) HF0.out]
          by_cases e : i = k
          · rw [e, if_pos rfl]
          · rw [if_neg (fun e2 => e (lf_inj e2))]; exact HF.out.key i (by omega), fun a ha hn => by
          refine (HF.out.kz.set (lf k) (f k)) a ha (fun n hn2 => hn n ?_)
          rcases List.mem_cons.1 hn2 with rfl | hn2
          · exact mem_lfs.2 (by omega)
          · unfold lfs at hn2 ⊢
            rw [List.range_succ, List.map_append]
            exact List.mem_append_left _ hn2⟩
      clear hS2 hg
      go_wp2
      go_roundg (len - (k + 1))
      case measure => omega
      case rel => exact ⟨k + 1, _, by omega, rfl, by go_num, HF2.out⟩
    · obtain rfl : len = k := by omega
      go_wp2
      go_ret
      exact ⟨p, d, kw, rfl, ⟨⟨by obtain ⟨bs, o, W⟩ := HF.out.S.ex; exact ⟨bs, ⟨HKt.out.then_ o.kept.below, o.ar, Nat.le_trans HKt.out.below.size o.new⟩, W⟩⟩, HF.out.key, HF.out.kz⟩, HF.out.S.kept.below, HF.out.S.new.1⟩
theorem few_calls {w : World} {A : Option Addr} {len cap : Nat} (hl : len ≤ cap) (hm : len ≤ maxLen) (hA : 0 < len → ∃ ad : Addr, A = some ad) :
    Calls Try.prog 10 #[.slice A len cap] w fun e w' => e = .returned (.slice A (min len 40) cap) ∧ w = w' := by
  have hml : len ≤ 9223372036854775807 := by unfold maxLen at hm; omega
  clear hm
  by_cases h : 40 < len
  · obtain ⟨ad, rfl⟩ := hA (by omega)
    have hd : decide ((40 : Int) < (len : Int)) = true := decide_eq_true (by omega)
    go_enter Try.func10, Try.ntmps10
    go_wp2
    go_ret
    exact ⟨by rw [Nat.min_eq_right (by omega)]; simp, rfl⟩
  · have hd : decide ((40 : Int) < (len : Int)) = false := decide_eq_false (by omega)
    go_enter Try.func10, Try.ntmps10
    go_wp2
    go_ret
    exact ⟨by rw [Nat.min_eq_left (by omega)]; rfl, rfl⟩
theorem t3_at {h : Hp} (F : Foc h [] t3) : h.top = 64 ∧ h.ch false 64 = 32 ∧ redH h 32 = true := by
  obtain ⟨z1, z2, z3, z4, z5, z6, Rl, Rr⟩ := F.T
  exact ⟨F.C, z5, redH_rt Rl⟩
theorem t4_at {h : Hp} (F : Foc h [] t4) : h.top = 96 ∧ h.ch false 96 = 32 ∧ redH h 32 = true := by
  obtain ⟨z1, z2, z3, z4, z5, z6, Rl, Rr⟩ := F.T
  exact ⟨F.C, z5, redH_rt Rl⟩
set_option maxRecDepth 100000 in
set_option maxHeartbeats 2000000 in
theorem shown_calls (w : World) : Calls Try.prog 9 #[] w fun e w' => e = .returned (.bool true) ∧ Kept w w' := by
  go_enter Try.func9, Try.ntmps9
  have hB0 : Below w.heap.size w (w.alloc (.cells #[.int .u64 1, .int .u64 2, .int .u64 3] 43)) := (Below.refl _ _).alloc (Nat.le_refl _) _
  have hrow := heap_alloc_new w (.cells #[.int .u64 1, .int .u64 2, .int .u64 3] 43)
  have hK : Ky (w.alloc (.cells #[.int .u64 1, .int .u64 2, .int .u64 3] 43)) (some ⟨w.heap.size, 0, none⟩) 3 (fun i => (i : Int) + 1) := ⟨fun i hi => by
    refine ⟨_, rfl, by simp, ?_, by omega, by omega⟩
    rw [add_at, cell_of_row _ _ (0 + i) _ _ _ hrow]
    match i, hi with
    | 0, _ => rfl
    | 1, _ => rfl
    | 2, _ => rfl⟩
  have HK := Lib.hid hK
  have HB0 := Lib.hid hB0
  clear hrow hK hB0
  go_wp2_with fail
  refine (fresh_fh (Kept.refl w |>.then_ HB0.out) HK.out (by omega)).mono ?_
  rintro e w1 ⟨p, d, kw, rfl, F1, _, _⟩
  have k1 : keyOf kw 32 = 1 := F1.key 0 (by omega)
  have k2 : keyOf kw 64 = 2 := F1.key 1 (by omega)
  have k3 : keyOf kw 96 = 3 := F1.key 2 (by omega)
  obtain ⟨h1, h2, h3, h4, A1, G1, A2, G2, A3, G3, R4, G4, o1, o2⟩ := example_runs k1 k2 k3
  have HS := Lib.hid F1.S
  have HA1 := Lib.hid A1
  have HA2 := Lib.hid A2
  have HA3 := Lib.hid A3
  have HR4 := Lib.hid R4
  have HO1 := Lib.hid o1
  have HO2 := Lib.hid o2
  obtain ⟨g1, g2, g3⟩ := t3_at G3
  obtain ⟨q1, q2, q3⟩ := t4_at G4
  have HG1 := Lib.hid g1
  have HG2 := Lib.hid g2
  have HG3 := Lib.hid g3
  have HQ1 := Lib.hid q1
  have HQ2 := Lib.hid q2
  have HQ3 := Lib.hid q3
  clear F1 A1 A2 A3 R4 o1 o2 g1 g2 g3 q1 q2 q3 k1 k2 k3 G1 G2 G3 G4
  go_wp2_with fail
  refine (leaf_calls 1 (by omega) (by omega) _).mono ?_
  rintro e w' ⟨rfl, rfl⟩
  go_wp2_with fail
  refine (Add_hs HS.out (n := 32) HA1.out rfl).mono ?_
  rintro e w2 ⟨rfl, S, _⟩
  have HS := Lib.hid S
  clear S
  go_wp2_with fail
  refine (leaf_calls 2 (by omega) (by omega) _).mono ?_
  rintro e w' ⟨rfl, rfl⟩
  go_wp2_with fail
  refine (Add_hs HS.out (n := 64) HA2.out HO1.out).mono ?_
  rintro e w3 ⟨rfl, S, _⟩
  have HS := Lib.hid S
  clear S
  go_wp2_with fail
  refine (leaf_calls 3 (by omega) (by omega) _).mono ?_
  rintro e w' ⟨rfl, rfl⟩
  go_wp2_with fail
  refine (Add_hs HS.out (n := 96) HA3.out HO2.out).mono ?_
  rintro e w4 ⟨rfl, S, _⟩
  have HS := Lib.hid S
  clear S
  go_wp2_with fail
  refine (Root_hs HS.out).mono ?_
  rintro e w5 ⟨rfl, S, _⟩
  rw [HG1.out]
  have HS := Lib.hid S
  clear S
  go_wp2_with fail
  refine (Child_hs HS.out isN64 false).mono ?_
  rintro e w6 ⟨rfl, S, _⟩
  rw [HG2.out]
  have HS := Lib.hid S
  clear S
  go_wp2_with fail
  refine (Red_hs HS.out isN32).mono ?_
  rintro e w7 ⟨rfl, S, _⟩
  rw [HG3.out]
  have HS := Lib.hid S
  clear S
  go_wp2_with fail
  refine (leaf_calls 2 (by omega) (by omega) _).mono ?_
  rintro e w' ⟨rfl, rfl⟩
  go_wp2_with fail
  refine (Remove_hs HS.out (z := 64) HR4.out).mono ?_
  rintro e w8 ⟨rfl, S, _⟩
  have HS := Lib.hid S
  clear S
  go_wp2_with fail
  refine (Root_hs HS.out).mono ?_
  rintro e w9 ⟨rfl, S, _⟩
  rw [HQ1.out]
  have HS := Lib.hid S
  clear S
  go_wp2_with fail
  refine (Child_hs HS.out isN96 false).mono ?_
  rintro e w10 ⟨rfl, S, _⟩
  rw [HQ2.out]
  have HS := Lib.hid S
  clear S
  go_wp2_with fail
  refine (Red_hs HS.out isN32).mono ?_
  rintro e w11 ⟨rfl, S, _⟩
  rw [HQ3.out]
  have HS := Lib.hid S
  clear S
  go_wp2_with fail
  refine (leaf_calls 2 (by omega) (by omega) _).mono ?_
  rintro e w' ⟨rfl, rfl⟩
  go_wp2_with fail
  refine (leaf_calls 1 (by omega) (by omega) _).mono ?_
  rintro e w' ⟨rfl, rfl⟩
  go_wp2_with fail
  refine (leaf_calls 3 (by omega) (by omega) _).mono ?_
  rintro e w' ⟨rfl, rfl⟩
  go_wp2_with fail
  refine (leaf_calls 1 (by omega) (by omega) _).mono ?_
  rintro e w' ⟨rfl, rfl⟩
  go_wp2
  go_ret
  exact ⟨rfl, HS.out.kept⟩
end Go.Proofs.Ythkppnkhiimaeaa
