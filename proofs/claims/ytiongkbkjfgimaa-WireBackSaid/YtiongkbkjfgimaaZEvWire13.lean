/- WireBack: the law is true. -/
import Derived.Test.YtiongkbkjfgimaaZEvWire12
set_option linter.unusedVariables false
set_option linter.unusedSimpArgs false
set_option maxRecDepth 20000
namespace Go.Proofs.Ytiongkbkjfgimaa
open Go.Ev Go.RowKit

theorem end6 {x : S6} (h : Inv6b x) (ha : x.a = ByteArray.empty) : x.b = ByteArray.empty ∧ x.g.getD [] = x.R := by
  obtain ⟨L, hL, hR⟩ := h.fr
  rw [ha, W.app_empty, W.frames_none (by rw [h.b0]; omega)] at hL
  have h1 := congrArg Prod.fst hL
  have h2 := congrArg Prod.snd hL
  simp only [] at h1 h2
  refine ⟨h2, ?_⟩
  rw [← h1, List.append_nil] at hR
  exact hR

def zz (m : Option (List W.Fr)) (g : Option (List W.Fr)) : VS := Z6b ⟨[], m, g, ByteArray.empty, ByteArray.empty, 0, []⟩
theorem Z6b_zz {x : S6} (hb : x.b = ByteArray.empty) : Z6b x = zz x.m x.g := by
  obtain ⟨c, m, g, a, b, i, R⟩ := x
  have hb : b = ByteArray.empty := hb
  subst hb
  cases m with
  | none => rfl
  | some m =>
    cases g with
    | none => rfl
    | some g => rfl

theorem run6b : ∀ (k : Nat) (x : S6), Inv6b x → x.a.size < k → runS step6b k x = some (.exit 2, zz x.m (if x.a = ByteArray.empty then x.g else some x.R))
  | 0, x, h, hk => by omega
  | k + 1, x, h, hk => by
    by_cases ha : x.a = ByteArray.empty
    · have hs : step6b x = .inr (.exit 2, Z6b x) := by unfold step6b; rw [if_pos ha]
      simp only [runS, hs]
      rw [if_pos ha, Z6b_zz (end6 h ha).1]
    · have hs : step6b x = .inl (next6 x) := by unfold step6b; rw [if_neg ha]
      have hp := size_pos ha
      obtain ⟨n1, n2⟩ := nOf_pos (c := x.c) (i := x.i) hp
      have hy := inv6b x _ h hs
      simp only [runS, hs]
      rw [if_neg ha, run6b k (next6 x) hy (by show (left6 x).size < k; unfold left6; rw [ext_size]; omega)]
      by_cases hb : (next6 x).a = ByteArray.empty
      · rw [if_pos hb]
        have := (end6 hy hb).2
        show some (Ex.exit 2, zz x.m (some _)) = _
        rw [show (x.g.getD [] ++ (W.frames (x.b ++ part6 x)).1) = x.R from this]
      · rw [if_neg hb]
        rfl

theorem loop6b : LoopOK (evI 2) (E6.lend 0) (lc Try.f6 1) := by
  refine loopOK_S 14 [1, 4, 5, 6, 11, 12, 13] [4, 6, 11, 12] V6b Inv6b step6b (by kernel_rfl) rfl rfl hB6b inv6b ?_
  rintro ⟨N, v, h⟩ tr r h1 h2
  replace h1 := at_key (show (bif Nat.beq 14 14 && Nat.beq N 106 then g6b v h else none) = some tr from h1)
  obtain ⟨h1, rfl⟩ := h1
  unfold g6b at h1
  split at h1
  · rename_i c b a p q i k x y
    cases hn : natsEq [p, q, k] [0, 0, 0] with
    | false => rw [hn] at h1; cases h1
    | true =>
      rw [hn, cond_true] at h1
      have hn := natsEq_iff hn
      simp only [List.cons.injEq, and_true] at hn
      obtain ⟨rfl, rfl, rfl⟩ := hn
      cases h1
      simp only [Tr.val] at h2
      cases hc : (!b && (decide ((a : ByteArray) = ByteArray.empty) && (decide ((x : ByteArray) = ByteArray.empty) && (!y && decide ((i : Int) = 0))))) with
      | false => rw [hc] at h2; cases h2
      | true =>
        rw [hc, cond_true] at h2
        simp only [Bool.and_eq_true, Bool.not_eq_true', decide_eq_true_eq] at hc
        obtain ⟨rfl, rfl, rfl, rfl, rfl⟩ := hc
        have hI : Inv6b ⟨c, none, none, ByteArray.empty, ByteArray.empty, 0, []⟩ :=
          ⟨⟨[], by show W.frames (ByteArray.empty ++ ByteArray.empty) = _; rw [W.app_empty]; exact W.frames_none (by rw [W.first_empty]; omega), rfl⟩, W.first_empty, Nat.zero_le _, Nat.zero_le _, fun _ => ⟨rfl, rfl⟩⟩
        refine ⟨⟨c, none, none, ByteArray.empty, ByteArray.empty, 0, []⟩, 1, hI, by kernel_rfl, ?_⟩
        rw [run6b 1 _ hI (Nat.lt_succ_self 0)]
        exact h2
  · rename_i c b a rr p q i k0 e m k1 x y
    cases hn : natsEq [rr, p, q, k0, e, k1] [0, 1, 0, 0, 36, 1] with
    | false => rw [hn] at h1; cases h1
    | true =>
      rw [hn, cond_true] at h1
      have hn := natsEq_iff hn
      simp only [List.cons.injEq, and_true] at hn
      obtain ⟨rfl, rfl, rfl, rfl, rfl, rfl⟩ := hn
      cases h1
      simp only [Tr.val] at h2
      cases hc : (!b && (okB a && (!decide ((a : ByteArray) = ByteArray.empty) && (decide ((x : ByteArray) = ByteArray.empty) && (!y && decide ((i : Int) = 0)))))) with
      | false => rw [hc] at h2; cases h2
      | true =>
        rw [hc, cond_true] at h2
        simp only [okB, Bool.and_eq_true, Bool.not_eq_true', decide_eq_true_eq, decide_eq_false_iff_not] at hc
        obtain ⟨rfl, ⟨hsz, hfr⟩, hne, rfl, rfl, rfl⟩ := hc
        have hI : Inv6b ⟨c, some m, none, a, ByteArray.empty, 0, (W.frames a).1⟩ :=
          ⟨⟨(W.frames a).1, by show W.frames (ByteArray.empty ++ a) = _; rw [W.empty_app]; exact Prod.ext rfl hfr, rfl⟩, W.first_empty, by show 0 + ByteArray.size a ≤ 3900; omega, Nat.zero_le _, fun h => by cases h⟩
        refine ⟨⟨c, some m, none, a, ByteArray.empty, 0, (W.frames a).1⟩, ByteArray.size a + 1, hI, by kernel_rfl, ?_⟩
        rw [run6b _ _ hI (Nat.lt_succ_self _)]
        show some (Ex.exit 2, zz (some m) (if a = ByteArray.empty then none else some (W.frames a).1)) = some r
        rw [if_neg hne]
        exact h2
  · cases h1

theorem sent_may {l : List W.Fr} : ∀ f ∈ W.sent l, W.may f = true := fun f hf => (List.mem_filter.1 hf).2
theorem sent_len {l : List W.Fr} : (W.sent l).length ≤ 6 := by
  unfold W.sent
  refine Nat.le_trans (List.length_filter_le _ _) ?_
  rw [List.length_map, List.length_take]
  exact Nat.min_le_left _ _

theorem v6 (l : List W.Fr) (c : List Int) : (evFn E6 Try.f6 [.data .bool] (toAVs [.sl fk, .sl (.int .i64)] (l, c, ())) []).val = some (rb true) := by
  have hfr := W.frames_cat (l := W.sent l) sent_may
  have hsz := W.cat_size (l := W.sent l) sent_may
  have hln := sent_len (l := l)
  rw [t6 l c (v3 := W.sent l) rfl rfl (by rw [hfr])]
  have i1 : okB (W.cat (W.sent l)) = true := by
    unfold okB
    rw [hfr]
    simp only [decide_true, Bool.and_true]
    exact decide_eq_true (by omega)
  cases hs : W.sent l with
  | nil =>
    simp only [Tr.val, List.isEmpty, decide_true, Bool.and_self, cond_true]
    rfl
  | cons f m =>
    rw [hs] at i1 hln
    have i2 : (!decide (W.cat (f :: m) = ByteArray.empty)) = true := by
      simp only [Bool.not_eq_true', decide_eq_false_iff_not]
      intro e
      have := congrArg ByteArray.size e
      rw [show W.cat (f :: m) = W.enc f ++ W.cat m from rfl, app_size, W.enc_size] at this
      exact absurd this (by rw [show ByteArray.empty.size = 0 from rfl]; omega)
    have i3 : (decide ((f :: m).length ≤ (1048576 : Nat))) = true := decide_eq_true (by omega)
    simp only [Tr.val, List.isEmpty, i1, i2, i3, decide_true, Bool.and_self, cond_true, cond_false]
    rfl

def w6 : FSpec := dspec [.sl fk, .sl (.int .i64)] fun _ => bool1 true
theorem wk6 : SpecOK Try.prog E0 6 w6 := by
  refine dspec_ok (E0 := E0) (E := E6) (fns := M11) tab MA11 rfl rfl hm Try.func6 (by kernel_rfl) [.data .bool] (fun x hx => ?_) (L := ls_ok (lcs := [lc Try.f6 0, lc Try.f6 1]) (rgs := []) (by kernel_rfl) (by kernel_rfl) ⟨loop6a, loop6b⟩ trivial)
  obtain ⟨l, c, z⟩ := x
  exact v6 l c
end Go.Proofs.Ytiongkbkjfgimaa
