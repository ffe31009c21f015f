/- TreeStable: what it wants of lists, rows, and words. -/
import Derived.Test.YthkppnkhiimaeaaTRange
import Derived.Test.YthkppnkhiimaeaaSlStep
import Derived.Deep.RegionLaw
set_option linter.unusedVariables false
set_option linter.unusedSimpArgs false
namespace Go.Proofs.Ythkppnkhiimaeaa
open Go.RowKit

/-- By keys, ones of the same key by their places. -/
def Stb (key : Int → Int) (L : List Int) : Prop := L.Pairwise (fun a b => key a < key b ∨ key a = key b ∧ a < b)
theorem stb_ins {key : Int → Int} {n : Int} : ∀ {L : List Int}, Stb key L → (∀ a ∈ L, a < n) → Stb key (ins key n L)
  | [], _, _ => by simp [ins, Stb]
  | a :: L, h, hn => by
    unfold Stb at h ⊢
    rw [List.pairwise_cons] at h
    show ((if key n < key a then n :: a :: L else a :: ins key n L) : List Int).Pairwise _
    split
    · rename_i hlt
      rw [List.pairwise_cons, List.pairwise_cons]
      refine ⟨fun b hb => .inl ?_, h⟩
      rcases List.mem_cons.1 hb with rfl | hb
      · exact hlt
      · have := h.1 b hb; omega
    · rename_i hge
      rw [List.pairwise_cons]
      refine ⟨fun b hb => ?_, stb_ins h.2 (fun x hx => hn x (List.mem_cons_of_mem _ hx))⟩
      rcases mem_ins_iff.1 hb with rfl | hb
      · have := hn a (List.mem_cons_self ..); omega
      · exact h.1 b hb
theorem stb_get {key : Int → Int} {L : List Int} (h : Stb key L) {k : Nat} (h1 : 1 ≤ k) (hk : k < L.length) : key (L.getD (k - 1) 0) < key (L.getD k 0) ∨ key (L.getD (k - 1) 0) = key (L.getD k 0) ∧ L.getD (k - 1) 0 < L.getD k 0 := by
  have := (List.pairwise_iff_getElem.1 h) (k - 1) k (by omega) hk (by omega)
  rw [List.getD_eq_getElem?_getD, List.getD_eq_getElem?_getD, List.getElem?_eq_getElem (by omega), List.getElem?_eq_getElem hk]
  exact this
theorem getD_mem' {L : List Int} {k : Nat} (hk : k < L.length) : L.getD k 0 ∈ L := by
  rw [List.getD_eq_getElem?_getD, List.getElem?_eq_getElem hk]
  exact List.getElem_mem hk
theorem erase_at {L : List Int} (hn : L.Nodup) {j : Nat} (hj : j < L.length) : L.erase (L.getD j 0) = L.take j ++ L.drop (j + 1) := by
  have e : L = L.take j ++ L.getD j 0 :: L.drop (j + 1) := by
    rw [List.getD_eq_getElem?_getD, List.getElem?_eq_getElem hj]
    show L = L.take j ++ L[j] :: L.drop (j + 1)
    rw [← List.drop_eq_getElem_cons hj, List.take_append_drop]
  have hnt : L.getD j 0 ∉ L.take j := by
    intro hm
    rw [e, List.nodup_append] at hn
    exact hn.2.2 _ hm _ (List.mem_cons_self ..) rfl
  conv => lhs; rw [e]
  rw [show (L.take j ++ L.getD j 0 :: L.drop (j + 1)).getD j 0 = L.getD j 0 from by rw [← e]]
  exact erase_mid hnt
theorem lf_of_mem {n : Nat} {x : Int} (h : x ∈ lfs n) : ∃ a, a < n ∧ x = lf a := by
  unfold lfs at h
  obtain ⟨a, ha, rfl⟩ := List.mem_map.1 h
  exact ⟨a, List.mem_range.1 ha, rfl⟩

/-! ### Rows -/
theorem nums_length (L : List Int) : (nums L).length = L.length := by unfold nums; simp
theorem nums_one (L : List Int) : ∀ u ∈ nums L, u.oneCell' = true := by
  intro u hu
  obtain ⟨a, _, rfl⟩ := List.mem_map.1 hu
  rfl
theorem row_empty (w : World) : ((w.alloc (.cells #[] 3)).drew).ownsRow w.heap.size 3 1 (.slice (some ⟨w.heap.size, 0, none⟩) 0 0) 0 [] :=
  ⟨rfl, .inr ⟨w.heap.size, 0, #[], rfl, Nat.le_refl _, heap_alloc_new w _, Nat.le_refl _, by unfold maxLen; omega, rfl, rfl⟩⟩
theorem news_head {w : World} {B g c j : Nat} {M : List Int} (h : w.ownsRow B 3 1 (.slice (some ⟨g, 0, none⟩) M.length c) M.length (nums M)) (hj : j ≤ M.length) :
    ((nums M).take j).length = j * 1 ∧ ∀ i u, ((nums M).take j)[i]? = some u → ((w.alloc (.cells #[] 3)).drew).cell? ((⟨g, 0, none⟩ : Addr).add i) = some u := by
  refine ⟨by rw [List.length_take, nums_length]; omega, fun i u hu => ?_⟩
  have h2 := h.alloc (.cells #[] 3)
  refine h2.cells rfl i u ?_
  rw [List.getElem?_take] at hu
  split at hu
  · exact hu
  · cases hu
theorem news_tail {w : World} {B g c j : Nat} {M : List Int} (h : w.ownsRow B 3 1 (.slice (some ⟨g, 0, none⟩) M.length c) M.length (nums M)) (hj : j < M.length) :
    ((nums M).drop (j + 1)).length = (M.length - (j + 1)) * 1 ∧ ∀ i u, ((nums M).drop (j + 1))[i]? = some u → w.cell? ((⟨g, j + 1, none⟩ : Addr).add i) = some u := by
  refine ⟨by rw [List.length_drop, nums_length]; omega, fun i u hu => ?_⟩
  rw [List.getElem?_drop] at hu
  have := h.cells rfl (j + 1 + i) u hu
  rw [show (⟨g, j + 1, none⟩ : Addr).add i = (⟨g, 0, none⟩ : Addr).add (j + 1 + i) from by unfold Addr.add; by_cases hi : i = 0 <;> simp [hi]]
  exact this
theorem news_over {w : World} {B g c j : Nat} {M : List Int} (h : w.ownsRow B 3 1 (.slice (some ⟨g, 0, none⟩) M.length c) M.length (nums M)) (hj : j < M.length) (hc : M.length ≤ c) (e : c = j + 1) :
    ((nums M).drop (j + 1)).length = (M.length - (j + 1)) * 1 ∧ ∀ i u, ((nums M).drop (j + 1))[i]? = some u → w.cell? ((⟨g, 0, none⟩ : Addr).add i) = some u := by
  refine ⟨by rw [List.length_drop, nums_length]; omega, fun i u hu => ?_⟩
  rw [List.getElem?_drop, List.getElem?_eq_none (by rw [nums_length]; omega)] at hu
  cases hu
theorem row_two {w w1 : World} {B g c : Nat} {M : List Int} (h : w.ownsRow B 3 1 (.slice (some ⟨g, 0, none⟩) M.length c) M.length (nums M)) (hg : ((w.alloc (.cells #[] 3)).drew).grownBy w1 (Value.slice (some ⟨w.heap.size, 0, none⟩) 0 0).ownBlock) :
    w1.ownsRow B 3 1 (.slice (some ⟨g, 0, none⟩) M.length c) M.length (nums M) := by
  have h1 : ((w.alloc (.cells #[] 3)).drew).ownsRow B 3 1 (.slice (some ⟨g, 0, none⟩) M.length c) M.length (nums M) := h.alloc _
  have h2 := (h.lt g rfl).2
  exact h1.kept hg (.inr (fun e => by
    have e : some g = some w.heap.size := e
    injection e with e; omega))
theorem nums_erase (M : List Int) (j : Nat) : (nums M).take j ++ (nums M).drop (j + 1) = nums (M.take j ++ M.drop (j + 1)) := by
  unfold nums
  rw [List.map_append, List.map_take, List.map_drop]
theorem row_mono {w : World} {base base' : Nat} {e : TypeId} {size : Nat} {v : Value} {n : Nat} {xs : List Value} (h : w.ownsRow base e size v n xs) (hb : base' ≤ base) : w.ownsRow base' e size v n xs := by
  refine ⟨h.1, ?_⟩
  rcases h.2 with h0 | ⟨g, cap, cur, h1, h2, h3⟩
  · exact .inl h0
  · exact .inr ⟨g, cap, cur, h1, Nat.le_trans hb h2, h3⟩
theorem row_keep {u u' : World} {base n d : Nat} {e : TypeId} {v : Value} {xs : List Value} (h : u.ownsRow base e 1 v n xs) (hg : u.grownBy u' (some d)) (hd : d < base) : u'.ownsRow base e 1 v n xs := by
  refine h.kept hg ?_
  cases hv : v.ownBlock with
  | none => exact .inl rfl
  | some k => exact .inr (fun e => by injection e with e; have := (h.lt k hv).1; omega)
theorem row_cap {w : World} {base n : Nat} {e : TypeId} {A : Option Addr} {c : Nat} {xs : List Value} (h : w.ownsRow base e 1 (.slice A n c) n xs) : n ≤ c := by
  rcases h.2 with ⟨h1, h2⟩ | ⟨g, cap, cur, h1, h2, h3, h4, _⟩
  · injection h1 with _ _ h1; omega
  · injection h1 with _ _ h1; omega
theorem row_slice {w : World} {base n : Nat} {v : Value} {L : List Int} (h : w.ownsRow base 3 1 v n (nums L)) (hn : n = L.length) (h0 : 0 < n) : ∃ g c, v = .slice (some ⟨g, 0, none⟩) n c ∧ base ≤ g ∧ ∀ i, i < L.length → w.cell? ⟨g, i, none⟩ = some (.int .i64 (L.getD i 0)) := by
  obtain ⟨A, c, rfl, hR⟩ := Ri.of_row h hn
  obtain ⟨g, rfl, hb, _⟩ := hR.at_ 0 (by omega)
  refine ⟨g, c, rfl, hb, fun i hi => ?_⟩
  obtain ⟨g', e, _, hc⟩ := hR.at_ i hi
  injection e with e
  injection e with e
  subst e
  exact hc

/-! ### A key is cleared; all is -/
theorem Kz.clear {kw : Int → Int} {S : List Int} (h : Kz kw S) (n : Int) : Kz (setKey kw n 0) (S.erase n) := fun a ha hn => by
  unfold setKey
  by_cases e1 : a = n - 4
  · rw [upd_eq e1]; rfl
  · rw [upd_ne e1]
    by_cases e2 : a = n - 8
    · rw [upd_eq e2]; rfl
    · rw [upd_ne e2]
      refine h a ha (fun m hm => ?_)
      by_cases e : m = n
      · subst e; exact ⟨e2, e1⟩
      · exact hn m ((List.mem_erase_of_ne e).2 hm)
theorem Store_ts {w0 w : World} {p d : Nat} {kw : Int → Int} {h : Hp} {t : Bt} (T : Ts w0 w p d kw h t) {n : Int} (hn : isN n) (hnt : n ∉ t.ids) :
    Calls Try.prog 28 #[.pointer (some ⟨p, 0, none⟩), .int .i64 (n - 8), .int .i64 8, .int .u64 0] w fun e w' => e = .returned (.int .i64 0) ∧ Ts w0 w' p d (setKey kw n 0) h t ∧ w.grownBy w' (some d) := by
  refine (Store_hs T.S hn (v := 0) (by omega) (by omega)).mono ?_
  rintro e w' ⟨rfl, S, hg⟩
  refine ⟨rfl, ⟨S, T.F, T.rb, ?_, T.fr⟩, hg⟩
  have hs := T.srt
  unfold Srt at hs ⊢
  refine hs.imp_of_mem (fun {a b} ha hb hab => ?_)
  have na : a ≠ n := fun e => hnt (by rw [← e]; exact ha)
  have nb : b ≠ n := fun e => hnt (by rw [← e]; exact hb)
  rw [keyOf_set hn (T.F.T.isN a ha) (by omega), keyOf_set hn (T.F.T.isN b hb) (by omega), if_neg na, if_neg nb]
  exact hab
theorem Ts.zr {w0 w : World} {p d : Nat} {kw : Int → Int} {h : Hp} {t : Bt} (T : Ts w0 w p d kw h t) (h0 : t.ids = []) (hz : Kz kw []) : Zr w0 w p d := by
  obtain ⟨bs, o, W⟩ := T.S.ex
  refine ⟨bs, o, W.1, bytes_zero W.1 o.ar.rng (fun a ha => ?_)⟩
  rw [W.2 a ha]
  have ht : t = .nil := by
    cases t with
    | nil => rfl
    | node c l n r => simp [Bt.ids] at h0
  have htop : h.top = 0 := by rw [show h.top = t.rt from T.F.C, ht]; rfl
  unfold wordOf
  by_cases e8 : a = 8
  · rw [if_pos e8]; exact htop
  · rw [if_neg e8]
    by_cases er : 32 ≤ a ∧ a < 1312 ∧ a % 32 < 20
    · rw [if_pos er]
      have hN : isN (a - a % 32) := by unfold isN; omega
      obtain ⟨f1, f2, f3, f4⟩ := T.fr _ hN (by rw [h0]; simp)
      rw [f1, f2, f3, f4, f4]
      split <;> (try split) <;> (try split) <;> (try split) <;> rfl
    · rw [if_neg er]; exact hz a ha (fun n hn => by cases hn)
theorem Ts.other {w0 w w1 : World} {p d : Nat} {kw : Int → Int} {h : Hp} {t : Bt} (T : Ts w0 w p d kw h t) {r : Option Nat} (hg : w.grownBy w1 r) (hne : ∀ k, r = some k → k ≠ p ∧ k ≠ d ∧ w0.heap.size ≤ k) : Ts w0 w1 p d kw h t := T.with_ (T.S.other hg hne)
end Go.Proofs.Ythkppnkhiimaeaa
