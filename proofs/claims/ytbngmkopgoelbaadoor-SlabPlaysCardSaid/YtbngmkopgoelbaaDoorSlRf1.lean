/- Plain: the reference of layer 3 answers as the slab's pages say: Free, Used, Pages. -/
import Derived.Test.YtbngmkopgoelbaaDoorSlRf0
set_option linter.unusedVariables false
set_option linter.unusedSimpArgs false
namespace Go.Proofs.YtbngmkopgoelbaaDoor.Ref
open Go.RowKit Go.Proofs.YtbngmkopgoelbaaDoorW.PrintWords Go.Proofs.YtbngmkopgoelbaaDoor.PSlabPlays
open Go.Proofs.YtbngmkopgoelbaaDoor (Ap upd upd_same upd_other isC cls cls_isC blks hit fre allc tkn frd mny usd pgs Wf Spot spot_of find_range find_range_none tkn_iff Got got sm cnt)
section
variable {A : Nat → Ap} {n : Nat} {R : List S82}
theorem nodup_le : ∀ (N : Nat) (L : List Nat), L.Nodup → (∀ x ∈ L, x < N) → L.length ≤ N
  | 0, L, _, h => by
    cases L with
    | nil => simp
    | cons x t => exact absurd (h x (List.mem_cons_self ..)) (by omega)
  | N + 1, L, hn, h => by
    have h2 := nodup_le N (L.erase N) (hn.erase N) (fun x hx => by
      have h3 := h x (List.mem_of_mem_erase hx)
      have h4 : x ≠ N := fun e => by subst e; exact (List.Nodup.not_mem_erase hn) hx
      omega)
    have h5 := List.length_erase (a := N) (l := L)
    split at h5 <;> omega
theorem fl_le (W : Wf A n) {i : Nat} (hi : i < n) : (A i).fl.length ≤ 65536 := nodup_le 65536 _ (W.nd i) (fun b hb => by have h1 := (W.mem _ b hb).1; have := W.le; omega)
/-- The frees' page is another one. -/
theorem Sim_frd (S : Sim A n R) (W : Wf A n) (a : Nat) (h : tkn A a = true) (ha : a / 512 < n) (x : S82) (x0 : x.f0 = (((frd A a (a / 512)).c : Nat) : Int)) (x1 : x.f1 = zs (frd A a (a / 512)).fl)
    (x2 : ∃ T' : List Nat, x.f2 = zs T' ∧ T'.Nodup ∧ (∀ b, b ∈ T' ↔ tkn (frd A a) b = true ∧ b / 512 = a / 512) ∧ T'.length = mny (frd A a (a / 512)) (a / 512)) : Sim (frd A a) n (R.set (a / 512) x) := by
  have hoth : ∀ i, i ≠ a / 512 → frd A a i = A i := fun i hi => by unfold Go.Proofs.YtbngmkopgoelbaaDoor.frd; split <;> exact upd_other _ _ hi
  have htk := W.tkn_frd h
  have hlt : a / 512 < R.length := by rw [S.len]; exact ha
  refine ⟨by rw [List.length_set, S.len], fun i hi => ?_, fun i hi => ?_, fun i hi => ?_⟩
  · rw [rdT_set _ _ _ _ hlt]
    by_cases e : i = a / 512
    · subst e; rw [if_pos rfl]; exact x0
    · rw [if_neg e, hoth i e]; exact S.f0 i hi
  · rw [rdT_set _ _ _ _ hlt]
    by_cases e : i = a / 512
    · subst e; rw [if_pos rfl]; exact x1
    · rw [if_neg e, hoth i e]; exact S.f1 i hi
  · rw [rdT_set _ _ _ _ hlt]
    by_cases e : i = a / 512
    · subst e; rw [if_pos rfl]; exact x2
    · rw [if_neg e, hoth i e]
      obtain ⟨T', h1, h2, h3, h4⟩ := S.f2 i hi
      refine ⟨T', h1, h2, fun b => ?_, h4⟩
      rw [h3 b, htk b, Bool.and_eq_true, bne_iff_ne]
      constructor
      · rintro ⟨k1, k2⟩; exact ⟨⟨k1, fun e2 => e (by rw [← k2, e2])⟩, k2⟩
      · rintro ⟨⟨k1, _⟩, k2⟩; exact ⟨k1, k2⟩
theorem e512 {a n : Nat} (ha : a / 512 < n) (hn : n ≤ 128) : wrap64 (Int.tdiv (a : Int) 512) = ((a / 512 : Nat) : Int) := by
  rw [Int.tdiv_eq_ediv_of_nonneg (by omega), w64 (by omega) (by omega)]; omega
theorem Block_up {R : List S82} {a : Int} {r : Int × Bool} {kb : Nat} (hb : turnbuckleref03_Block.f kb R a = some r) : ∀ d, turnbuckleref03_Block.f (kb + d) R a = some r
  | 0 => hb
  | d + 1 => turnbuckleref03_Block.mono _ _ _ _ (Block_up hb d)
theorem Free_up {R : List S82} {a i c0 : Int} {F L T : List Int} {r : List S82 × Int} {k : Nat} (hk : turnbuckleref03_Free.l0 k R a L i c0 F T = some r) : ∀ d, turnbuckleref03_Free.l0 (k + d) R a L i c0 F T = some r
  | 0 => hk
  | d + 1 => turnbuckleref03_Free.mono_l _ _ _ _ _ _ _ _ _ (Free_up hk d)
theorem Free_in {R : List S82} {a p : Nat} {c0 c1 : Int} {F T : List Int} {r : List S82 × Int} (ep : wrap64 (Int.tdiv (a : Int) 512) = (p : Int)) (hp : p < R.length) {kb : Nat} (hb : turnbuckleref03_Block.f kb R (a : Int) = some (c1, true))
    (h0 : (rd_T82 R (p : Int)).f0 = c0) (h1 : (rd_T82 R (p : Int)).f1 = F) (h2 : (rd_T82 R (p : Int)).f2 = T) {k : Nat} (hk : turnbuckleref03_Free.l0 k R (a : Int) [] 0 c0 F T = some r) : ∃ k, turnbuckleref03_Free.f k R (a : Int) = some r := by
  have hk2 := Free_up hk kb
  rw [Nat.add_comm k kb] at hk2
  have e : turnbuckleref03_Free.f (kb + k) R (a : Int) = turnbuckleref03_Free.l0 (kb + k) R (a : Int) [] 0 c0 F T := by
    simp only [turnbuckleref03_Free.f, Block_up hb k, Option.bind_some, ep, if_pos (Int.natCast_nonneg p), if_pos (Int.ofNat_lt.2 hp), h0, h1, h2, if_true]
  exact ⟨kb + k, e.trans hk2⟩
theorem Free_e0 {R : List S82} {a p : Nat} {c0 : Int} {F : List Int} {T : List Nat} (ep : wrap64 (Int.tdiv (a : Int) 512) = (p : Int)) (hp : p < R.length) (hR : R.length ≤ 128) :
    ∃ k, turnbuckleref03_Free.l0 k R (a : Int) (zs []) ((T.length : Nat) : Int) c0 F (zs T) = some (R.set p ⟨0, [], []⟩, 0) := by
  refine ⟨1, ?_⟩
  unfold turnbuckleref03_Free.l0
  rw [zs_length, if_neg (by omega), if_pos (by rw [zs_length]; simp), ep]
  have hw := with_eq R p 0 [] [] hR hp
  rw [hw]; rfl
theorem Free_e1 {R : List S82} {a p : Nat} {c0 : Int} {F G T : List Nat} (ep : wrap64 (Int.tdiv (a : Int) 512) = (p : Int)) (hp : p < R.length) (hR : R.length ≤ 128) (hG : G.length ≠ 0) (hF : F.length ≤ 65536) :
    ∃ k, turnbuckleref03_Free.l0 k R (a : Int) (zs G) ((T.length : Nat) : Int) c0 (zs F) (zs T) = some (R.set p ⟨c0, zs (a :: F), zs G⟩, 0) := by
  refine ⟨1, ?_⟩
  unfold turnbuckleref03_Free.l0
  rw [zs_length, if_neg (by omega), if_neg (by rw [zs_length]; omega), ep]
  simp only [Option.bind_some]
  rw [if_pos (by rw [zs_length]; simp; omega), zs_one, zs_append]
  have hw := with_eq R p c0 (zs ([a] ++ F)) (zs G) hR hp
  rw [hw]; rfl
theorem Free_ref (S : Sim A n R) (W : Wf A n) (a : Nat) (h : tkn A a = true) : ∃ k R', turnbuckleref03_Free.f k R (a : Int) = some (R', 0) ∧ Sim (frd A a) n R' := by
  have hn := W.le
  have ⟨t1, t2, t3⟩ := tkn_iff.1 h
  have hin := W.ins t1
  have hlt : a / 512 < R.length := by rw [S.len]; exact hin.2
  have hR : R.length ≤ 128 := by rw [S.len]; exact hn
  have ep := e512 hin.2 hn
  obtain ⟨T, hT, hTn, hTm, hTl⟩ := S.f2 (a / 512) hin.2
  have hml := Go.Proofs.YtbngmkopgoelbaaDoor.mny_le (A (a / 512)) (a / 512)
  have haT : a ∈ T := (hTm a).2 ⟨h, rfl⟩
  have hfl := nodup_filter hTn haT
  have htk := W.tkn_frd h
  have hgive := W.mny_give h
  obtain ⟨kb, hb⟩ := Block_ref S W (a : Int)
  have hbv : blkR A (a : Int) = ((((A (a / 512)).c : Nat) : Int), true) := by unfold blkR; rw [Go.Proofs.YtbngmkopgoelbaaDoor.tI_nat, h, if_pos rfl, Int.toNat_natCast]
  rw [hbv] at hb
  have mem' : ∀ b, b ∈ T.filter (fun b => b != a) ↔ tkn (frd A a) b = true ∧ b / 512 = a / 512 := fun b => by
    rw [List.mem_filter, hTm b, htk b, Bool.and_eq_true]
    constructor
    · rintro ⟨⟨k1, k2⟩, k3⟩; exact ⟨⟨k1, k3⟩, k2⟩
    · rintro ⟨⟨k1, k3⟩, k2⟩; exact ⟨⟨k1, k2⟩, k3⟩
  have nd' : (T.filter (fun b => b != a)).Nodup := hTn.filter _
  have hT32 : T.length ≤ 32 := by rw [hTl]; exact hml
  have hfc := fl_le W hin.2
  by_cases hm : mny (A (a / 512)) (a / 512) = 1
  · have hfr : frd A a (a / 512) = ⟨0, []⟩ := by unfold Go.Proofs.YtbngmkopgoelbaaDoor.frd; rw [if_pos hm, upd_same]
    have hnil : T.filter (fun b => b != a) = [] := List.eq_nil_of_length_eq_zero (by rw [← hTl] at hm; clear hgive hml hTl; omega)
    obtain ⟨k0, hk0⟩ := Free_e0 (c0 := (((A (a / 512)).c : Nat) : Int)) (F := zs (A (a / 512)).fl) (T := T) ep hlt hR
    obtain ⟨k, hk⟩ := Free_l0 R a (((A (a / 512)).c : Nat) : Int) (zs (A (a / 512)).fl) T hT32 ⟨k0, by rw [hnil]; exact hk0⟩ T.length 0 (Nat.zero_add _)
    obtain ⟨k2, hk2⟩ := Free_in ep hlt hb (S.f0 _ hin.2) (S.f1 _ hin.2) hT hk
    exact ⟨k2, _, hk2, Sim_frd S W a h hin.2 _ (by rw [hfr]; rfl) (by rw [hfr]; rfl) ⟨[], rfl, List.nodup_nil, fun b => by rw [← mem' b, hnil], by rw [hfr, Go.Proofs.YtbngmkopgoelbaaDoor.mny_none]; rfl⟩⟩
  · have hfr : frd A a (a / 512) = ⟨(A (a / 512)).c, a :: (A (a / 512)).fl⟩ := by unfold Go.Proofs.YtbngmkopgoelbaaDoor.frd; rw [if_neg hm, upd_same]
    have hG : (T.filter (fun b => b != a)).length + 1 = mny ⟨(A (a / 512)).c, a :: (A (a / 512)).fl⟩ (a / 512) + 1 := by rw [hfl, hTl]; exact hgive
    have hG0 : (T.filter (fun b => b != a)).length ≠ 0 := fun e => hm (by rw [← hTl, ← hfl, e])
    obtain ⟨k0, hk0⟩ := Free_e1 (c0 := (((A (a / 512)).c : Nat) : Int)) (F := (A (a / 512)).fl) (T := T) ep hlt hR hG0 hfc
    obtain ⟨k, hk⟩ := Free_l0 R a (((A (a / 512)).c : Nat) : Int) (zs (A (a / 512)).fl) T hT32 ⟨k0, hk0⟩ T.length 0 (Nat.zero_add _)
    obtain ⟨k2, hk2⟩ := Free_in ep hlt hb (S.f0 _ hin.2) (S.f1 _ hin.2) hT hk
    exact ⟨k2, _, hk2, Sim_frd S W a h hin.2 _ (by rw [hfr]) (by rw [hfr]) ⟨_, rfl, nd', mem', by rw [hfr]; exact Nat.succ_inj.1 hG⟩⟩
theorem Free_ref_no (S : Sim A n R) (W : Wf A n) (at_ : Int) (h : Go.Proofs.YtbngmkopgoelbaaDoor.tI A at_ = false) : ∃ k, turnbuckleref03_Free.f k R at_ = some (R, 1) := by
  obtain ⟨kb, hb⟩ := Block_ref S W at_
  refine ⟨kb, ?_⟩
  unfold turnbuckleref03_Free.f
  rw [hb]
  unfold blkR
  rw [h]
  rfl
theorem Used_ref (S : Sim A n R) (W : Wf A n) : ∃ k, turnbuckleref03_Used.f k R = some ((usd A n : Nat) : Int) := by
  have hn := W.le
  have hl := S.len
  have hu := Go.Proofs.YtbngmkopgoelbaaDoor.Wf.usd_le W
  have key : ∀ d i : Nat, i + d = n → ∃ k, turnbuckleref03_Used.l0 k R ((usd A i : Nat) : Int) (i : Int) = some ((usd A n : Nat) : Int) := by
    intro d
    induction d with
    | zero =>
      intro i h
      refine ⟨1, ?_⟩
      unfold turnbuckleref03_Used.l0
      rw [if_neg (by omega), show i = n from by omega]
    | succ d ih =>
      intro i h
      obtain ⟨k, hk⟩ := ih (i + 1) (by omega)
      obtain ⟨T, hT, hTn, hTm, hTl⟩ := S.f2 i (by omega)
      have hstep : usd A (i + 1) = usd A i + (A i).c * mny (A i) i := rfl
      have hle := Go.Proofs.YtbngmkopgoelbaaDoor.Wf.use_le W i
      have hi : usd A i ≤ 512 * i := Go.Proofs.YtbngmkopgoelbaaDoor.sm_le (fun i => Go.Proofs.YtbngmkopgoelbaaDoor.Wf.use_le W i) i
      refine ⟨k + 1, ?_⟩
      unfold turnbuckleref03_Used.l0
      rw [if_pos (by omega), if_pos (by omega), S.f0 i (by omega), hT, zs_length, hTl]
      have e1 : ((((A i).c : Nat) : Int) * ((mny (A i) i : Nat) : Int)) = (((A i).c * mny (A i) i : Nat) : Int) := by rw [Int.natCast_mul]
      rw [e1, w64 (x := (((A i).c * mny (A i) i : Nat) : Int)) (by omega) (by omega)]
      rw [show wrap64 (((usd A i : Nat) : Int) + (((A i).c * mny (A i) i : Nat) : Int)) = ((usd A (i + 1) : Nat) : Int) from by rw [w64 (by omega) (by omega)]; omega]
      rw [show wrap64 ((i : Int) + 1) = ((i + 1 : Nat) : Int) from by rw [w64 (by omega) (by omega)]; omega]
      exact hk
  exact key n 0 (by omega)
theorem Pages_ref (S : Sim A n R) (W : Wf A n) : ∃ k, turnbuckleref03_Pages.f k R = some ((pgs A n : Nat) : Int) := by
  have hn := W.le
  have hl := S.len
  have key : ∀ d i : Nat, i + d = n → ∃ k, turnbuckleref03_Pages.l0 k R ((pgs A i : Nat) : Int) (i : Int) = some ((pgs A n : Nat) : Int) := by
    intro d
    induction d with
    | zero =>
      intro i h
      refine ⟨1, ?_⟩
      unfold turnbuckleref03_Pages.l0
      rw [if_neg (by omega), show i = n from by omega]
    | succ d ih =>
      intro i h
      obtain ⟨k, hk⟩ := ih (i + 1) (by omega)
      have hstep : pgs A (i + 1) = pgs A i + (if ((A i).c != 0) = true then 1 else 0) := rfl
      have hle : pgs A i ≤ i := Go.Proofs.YtbngmkopgoelbaaDoor.cnt_le _ _
      refine ⟨k + 1, ?_⟩
      unfold turnbuckleref03_Pages.l0
      rw [if_pos (by omega), if_pos (by omega), S.f0 i (by omega)]
      rw [show wrap64 ((i : Int) + 1) = ((i + 1 : Nat) : Int) from by rw [w64 (by omega) (by omega)]; omega]
      by_cases hc : (A i).c = 0
      · rw [if_neg (by omega)]
        rw [hstep, hc] at hk
        simpa using hk
      · rw [if_pos (by omega)]
        have e1 : ((A i).c != 0) = true := by rw [bne_iff_ne]; exact hc
        rw [hstep, if_pos e1] at hk
        rw [show wrap64 (((pgs A i : Nat) : Int) + 1) = ((pgs A i + 1 : Nat) : Int) from by rw [w64 (by omega) (by omega)]; omega]
        exact hk
  exact key n 0 (by omega)
theorem New_ref (n : Nat) (hn : n ≤ 128) : turnbuckleref03_New.f (n : Int) = some (List.replicate n z82) ∧ Sim Go.Proofs.YtbngmkopgoelbaaDoor.none0 n (List.replicate n z82) := by
  refine ⟨?_, ?_⟩
  · unfold turnbuckleref03_New.f
    rw [if_pos (by omega), Int.toNat_natCast, if_pos (by omega)]
  · have e : ∀ i, i < n → rd_T82 (List.replicate n z82) (i : Int) = z82 := fun i hi => by
      rw [rdT, List.getD_eq_getElem?_getD, List.getElem?_replicate_of_lt hi]; rfl
    refine ⟨List.length_replicate, fun i hi => by rw [e i hi]; rfl, fun i hi => by rw [e i hi]; rfl, fun i hi => ⟨[], by rw [e i hi]; rfl, List.nodup_nil, fun b => ⟨fun h => (by cases h), fun ⟨h, _⟩ => (by cases h)⟩, ?_⟩⟩
    show 0 = mny ⟨0, []⟩ i
    rw [Go.Proofs.YtbngmkopgoelbaaDoor.mny_none]
end
end Go.Proofs.YtbngmkopgoelbaaDoor.Ref
