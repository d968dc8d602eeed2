/- WireBack: the second loop, and the law. -/
import Derived.Test.YtiongkbkjfgimaaZEvWire11
set_option linter.unusedVariables false
set_option linter.unusedSimpArgs false
set_option maxRecDepth 20000
namespace W
open Go Go.Ev Go.Proofs.Ytiongkbkjfgimaa
/-- What is left to take, a part of it taken. -/
theorem part {b a1 a2 : ByteArray} {R : List Fr} (h : frames (b ++ (a1 ++ a2)) = (R, ByteArray.empty)) :
    first (frames (b ++ a1)).2 = 0 ∧ (frames ((frames (b ++ a1)).2 ++ a2)).2 = ByteArray.empty ∧ (frames (b ++ a1)).1 ++ (frames ((frames (b ++ a1)).2 ++ a2)).1 = R := by
  rw [app_assoc, frames_app _ _ _ (Nat.le_refl _)] at h
  have h1 := congrArg Prod.fst h
  have h2 := congrArg Prod.snd h
  simp only [] at h1 h2
  refine ⟨?_, h2, h1⟩
  have hr := frames_rest _ (b ++ a1) (Nat.le_refl _)
  rcases Int.lt_or_le (first (frames (b ++ a1)).2) 0 with hn | hn
  · have h3 := first_app_neg (t := a2) hn
    rw [frames_none (by omega)] at h2
    simp only [] at h2
    rw [h2, first_empty] at h3
    omega
  · omega
theorem feed_ok {b a1 a2 : ByteArray} {R : List Fr} (hb : first b = 0) (h : frames (b ++ (a1 ++ a2)) = (R, ByteArray.empty)) : feed (b, false, ()) a1 = (((frames (b ++ a1)).2, false, ()), (frames (b ++ a1)).1, 0) := by
  obtain ⟨h1, _, _⟩ := part h
  unfold feed
  have e2 : right (b, false, ()) = true := by unfold right; simp [hb]
  simp only [e2, Bool.not_true, cond_false, h1]
  rfl
def cutN (x : Int) : Nat := ((IntKind.i64.wrap (x.tmod 40 + 40)).tmod 40).toNat
theorem cutN_eq (x : Int) : (IntKind.i64.wrap (x.tmod 40 + 40)).tmod 40 = (cutN x : Int) ∧ cutN x ≤ 39 := by
  have h1 := Int.tmod_lt_of_pos x (show (0 : Int) < 40 by omega)
  have h2 := Int.lt_tmod_of_pos x (show (0 : Int) < 40 by omega)
  have h3 : IntKind.i64.wrap (x.tmod 40 + 40) = x.tmod 40 + 40 := wrap64_byte (by omega) (by omega)
  have h4 := Int.tmod_lt_of_pos (x.tmod 40 + 40) (show (0 : Int) < 40 by omega)
  have h5 := Int.tmod_nonneg 40 (show 0 ≤ x.tmod 40 + 40 by omega)
  unfold cutN
  rw [h3]
  omega
def nOf (c : List Int) (i z : Nat) : Nat := if i < c.length then min (1 + cutN (rget (.int .i64) c (i : Int))) z else min 1 z
end W
namespace Go.Proofs.Ytiongkbkjfgimaa
open Go.Ev Go.RowKit

structure S6 where
  c : List Int
  m : Option (List W.Fr)
  g : Option (List W.Fr)
  a : ByteArray
  b : ByteArray
  i : Nat
  R : List W.Fr

def V6b (x : S6) : VS := match x.m, x.g with
  | none, _ => { n := 106, v := [dC x.c, kB false, dS x.a, lS .nils, pS 0, lS .nils, dI .i64 (x.i : Int)], h := [(0, boxD x.b false)] }
  | some m, none => { n := 106, v := [dC x.c, kB false, dS x.a, lS (.row 0), pS 1, lS .nils, dI .i64 (x.i : Int)], h := [(0, .row 36 fk m), (1, boxD x.b false)] }
  | some m, some g => { n := 106, v := [dC x.c, kB false, dS x.a, lS (.row 0), pS 1, lS (.row 2), dI .i64 (x.i : Int)], h := [(0, .row 36 fk m), (1, boxD x.b false), (2, .row 36 fk g)] }
def Z6b (x : S6) : VS := match x.m, x.g with
  | none, _ => { n := 106, v := [kB false, lS .nils, pS 0, lS .nils], h := [(0, boxD x.b false)] }
  | some m, none => { n := 106, v := [kB false, lS (.row 0), pS 1, lS .nils], h := [(0, .row 36 fk m), (1, boxD x.b false)] }
  | some m, some g => { n := 106, v := [kB false, lS (.row 0), pS 1, lS (.row 2)], h := [(0, .row 36 fk m), (1, boxD x.b false), (2, .row 36 fk g)] }
def part6 (x : S6) : ByteArray := x.a.extract 0 (W.nOf x.c x.i x.a.size)
def left6 (x : S6) : ByteArray := x.a.extract (W.nOf x.c x.i x.a.size) x.a.size
def next6 (x : S6) : S6 := { c := x.c, m := x.m, g := some (x.g.getD [] ++ (W.frames (x.b ++ part6 x)).1), a := left6 x, b := (W.frames (x.b ++ part6 x)).2, i := x.i + 1, R := x.R }
def step6b (x : S6) : S6 ⊕ (Ex × VS) := if x.a = ByteArray.empty then .inr (.exit 2, Z6b x) else .inl (next6 x)
structure Inv6b (x : S6) : Prop where
  fr : ∃ L, W.frames (x.b ++ x.a) = (L, ByteArray.empty) ∧ x.g.getD [] ++ L = x.R
  b0 : W.first x.b = 0
  sz : x.i + x.a.size ≤ 3900
  gl : (x.g.getD []).length ≤ 4000 + x.i * 1000
  none : x.m = none → x.a = ByteArray.empty ∧ x.g = none

theorem nOf_pos {c : List Int} {i z : Nat} (h : 0 < z) : 1 ≤ W.nOf c i z ∧ W.nOf c i z ≤ z := by unfold W.nOf; split <;> omega

theorem inv6b (x y : S6) (h : Inv6b x) (hs : step6b x = .inl y) : Inv6b y := by
  unfold step6b at hs
  split at hs
  · cases hs
  · rename_i ha
    cases hs
    have hp := size_pos ha
    obtain ⟨n1, n2⟩ := nOf_pos (c := x.c) (i := x.i) hp
    obtain ⟨L, hL, hR⟩ := h.fr
    have hsp : part6 x ++ left6 x = x.a := W.ext_split x.a n2
    rw [← hsp] at hL
    obtain ⟨p1, p2, p3⟩ := W.part hL
    have hb := W.first_zero_size h.b0
    have hps : (part6 x).size ≤ 3900 := by unfold part6; rw [ext_size]; have := h.sz; omega
    have hfl : (W.frames (x.b ++ part6 x)).1.length ≤ x.b.size + (part6 x).size := by
      have := (frs_size (x.b ++ part6 x).size (x.b ++ part6 x)).2
      rw [app_size] at this
      unfold W.frames
      rw [app_size]
      exact this
    refine ⟨⟨(W.frames ((W.frames (x.b ++ part6 x)).2 ++ left6 x)).1, ?_, ?_⟩, p1, ?_, ?_, ?_⟩
    · exact Prod.ext rfl p2
    · show (x.g.getD [] ++ (W.frames (x.b ++ part6 x)).1) ++ _ = x.R
      rw [List.append_assoc, p3, hR]
    · show x.i + 1 + (left6 x).size ≤ 3900
      unfold left6
      rw [ext_size]
      have := h.sz
      omega
    · have e : (part6 x).size ≤ 40 := by
        unfold part6
        rw [ext_size]
        unfold W.nOf
        have := (W.cutN_eq (rget (.int .i64) x.c (x.i : Int))).2
        split <;> omega
      show (x.g.getD [] ++ (W.frames (x.b ++ part6 x)).1).length ≤ 4000 + (x.i + 1) * 1000
      rw [List.length_append]
      have := h.gl
      omega
    · intro hn
      exact absurd (h.none hn).1 ha

theorem minI_min (x y : Int) : minI x y = min x y := by unfold minI; split <;> omega

theorem hB6b (x : S6) (hx : Inv6b x) : ((evC (evI 2) (lc Try.f6 1) (E6.lend 0) (unV [1, 4, 5, 6, 11, 12, 13] (V6b x))).map (decL 0 [1, 4, 5, 6, 11, 12, 13] [4, 6, 11, 12])).val = some (encL V6b (step6b x)) := by
  by_cases ha : x.a = ByteArray.empty
  · have hs : step6b x = .inr (.exit 2, Z6b x) := by unfold step6b; rw [if_pos ha]
    rw [hs]
    obtain ⟨c, m, g, a, b, i, R⟩ := x
    have ha : a = ByteArray.empty := ha
    have c0 : (!decide (a = ({ data := #[] } : ByteArray))) = false := by rw [ha]; rfl
    cases m with
    | none =>
      rw [show V6b ⟨c, none, g, a, b, i, R⟩ = { n := 106, v := [dC c, kB false, dS a, lS .nils, pS 0, lS .nils, dI .i64 (i : Int)], h := [(0, boxD b false)] } from rfl,
        b6bnn c a b false (i : Int) rfl rfl rfl rfl rfl rfl rfl rfl rfl rfl rfl rfl rfl rfl rfl rfl]
      simp only [Tr.val, c0, cond_false]
      rfl
    | some m =>
      cases g with
      | none =>
        rw [show V6b ⟨c, some m, none, a, b, i, R⟩ = { n := 106, v := [dC c, kB false, dS a, lS (.row 0), pS 1, lS .nils, dI .i64 (i : Int)], h := [(0, .row 36 fk m), (1, boxD b false)] } from rfl,
          b6brn c a b false (i : Int) m rfl rfl rfl rfl rfl rfl rfl rfl rfl rfl rfl rfl rfl rfl rfl rfl]
        simp only [Tr.val, c0, cond_false]
        rfl
      | some g =>
        rw [show V6b ⟨c, some m, some g, a, b, i, R⟩ = { n := 106, v := [dC c, kB false, dS a, lS (.row 0), pS 1, lS (.row 2), dI .i64 (i : Int)], h := [(0, .row 36 fk m), (1, boxD b false), (2, .row 36 fk g)] } from rfl,
          b6brr c a b false (i : Int) g m rfl rfl rfl rfl rfl rfl rfl rfl rfl rfl rfl rfl rfl rfl rfl rfl]
        simp only [Tr.val, c0, cond_false]
        rfl
  · have hs : step6b x = .inl (next6 x) := by unfold step6b; rw [if_neg ha]
    rw [hs]
    have hp := size_pos ha
    obtain ⟨n1, n2⟩ := nOf_pos (c := x.c) (i := x.i) hp
    obtain ⟨L, hL, hR⟩ := hx.fr
    have hsp : part6 x ++ left6 x = x.a := W.ext_split x.a n2
    rw [← hsp] at hL
    obtain ⟨p1, p2, p3⟩ := W.part hL
    have hfeed := W.feed_ok hx.b0 hL
    have hb := W.first_zero_size hx.b0
    have hr := W.first_zero_size p1
    have hsz := hx.sz
    have hgl := hx.gl
    have hm : x.m ≠ none := fun e => ha (hx.none e).1
    have hps : (part6 x).size = W.nOf x.c x.i x.a.size := by unfold part6; rw [ext_size]; omega
    have hfl : (W.frames (x.b ++ part6 x)).1.length ≤ x.b.size + (part6 x).size := by
      have := (frs_size (x.b ++ part6 x).size (x.b ++ part6 x)).2
      rw [app_size] at this
      unfold W.frames
      rw [app_size]
      exact this
    obtain ⟨c, m, g, a, b, i, R⟩ := x
    simp only [] at hp n1 n2 hb hsz hgl hm hps hfl hr
    unfold next6
    unfold part6 at hfeed hps hfl hr p1 ⊢
    unfold left6
    simp only [] at hfeed hps hfl hr p1 ⊢
    have c0 : (!decide (a = ({ data := #[] } : ByteArray))) = true := by
      have : ¬ a = ByteArray.empty := ha
      simp only [Bool.not_eq_true', decide_eq_false_iff_not]
      exact this
    have w1 : IntKind.i64.wrap ((i : Int) + 1) = ((i + 1 : Nat) : Int) := by rw [wrap64_byte (by omega) (by omega)]; omega
    generalize hn : W.nOf c i a.size = n at *
    generalize ha1 : a.extract 0 n = a1 at *
    generalize hF : W.frames (b ++ a1) = F at *
    obtain ⟨l, r⟩ := F
    simp only [] at hfeed hfl hr p1 ⊢
    have k1 : (decide ((0 : Int) ≤ (n : Int) ∧ (n : Int) ≤ (a.size : Int))) = true := decide_eq_true (by omega)
    have k2 : okF ((b, false, ()), a1, ()) = true := decide_eq_true (by show b.size + a1.size ≤ 1048576; omega)
    have k4 : (decide ((515 : Int) < (r.size : Int))) = false := decide_eq_false (by omega)
    have k5 : small r = true := decide_eq_true (by omega)
    have k6 : (!W.right (r, false, ())) = false := by
      show (!decide (W.first r = 0)) = false
      rw [p1]
      rfl
    have ke : (W.feed (b, false, ()) a1).2.2 = 0 := by rw [hfeed]
    have k7 : (decide ((4000 : Int) < (i : Int))) = false := decide_eq_false (by omega)
    have kl : (W.feed (b, false, ()) a1).2.1 = l := by rw [hfeed]
    have kr : (W.feed (b, false, ()) a1).1.1 = r := by rw [hfeed]
    have kf : (W.feed (b, false, ()) a1).1.2.1 = false := by rw [hfeed]
    have cut := W.cutN_eq (rget (.int .i64) c (i : Int))
    cases m with
    | none => exact absurd rfl hm
    | some m =>
      cases g with
      | none =>
        have k8 : (decide (l.length * (24 : Nat) ≤ (140737488355328 : Nat))) = true := decide_eq_true (by omega)
        rw [show V6b ⟨c, some m, none, a, b, i, R⟩ = { n := 106, v := [dC c, kB false, dS a, lS (.row 0), pS 1, lS .nils, dI .i64 (i : Int)], h := [(0, .row 36 fk m), (1, boxD b false)] } from rfl]
        by_cases ci : i < c.length
        · have ci' : (i : Int) < (c.length : Int) := by omega
          have ib : inB (i : Int) c.length = true := decide_eq_true (by omega)
          have hn' : n = min (1 + W.cutN (rget (.int .i64) c (i : Int))) a.size := by rw [← hn]; unfold W.nOf; rw [if_pos ci]
          rw [b6brn c a b false (i : Int) m (v7 := (W.cutN (rget (.int .i64) c (i : Int)) : Int)) (v8 := 1 + (W.cutN (rget (.int .i64) c (i : Int)) : Int)) (v9 := (n : Int)) (v10 := a1) rfl rfl rfl rfl rfl rfl cut.1 rfl
            (by rw [wrap64_byte (by omega) (by omega), minI_min]; omega) (by rw [← ha1]; rfl) rfl rfl rfl rfl rfl rfl]
          simp only [Tr.val, c0, ci', ib, k1, k2, ke, k4, k5, k6, k7, k8, kl, kr, kf, w1, decide_true, Bool.not_true, cond_true, cond_false]
          rfl
        · have ci' : ¬ (i : Int) < (c.length : Int) := by omega
          have hn' : n = min 1 a.size := by rw [← hn]; unfold W.nOf; rw [if_neg ci]
          rw [b6brn c a b false (i : Int) m (v2 := (n : Int)) (v3 := a1) rfl (by rw [minI_min]; omega) (by rw [← ha1]; rfl) rfl rfl rfl rfl rfl rfl rfl rfl rfl rfl rfl rfl rfl]
          simp only [Tr.val, c0, ci', k1, k2, ke, k4, k5, k6, k7, k8, kl, kr, kf, w1, decide_true, decide_false, Bool.not_true, cond_true, cond_false]
          rfl
      | some g =>
        have k8 : (decide ((g.length + l.length) * (24 : Nat) ≤ (140737488355328 : Nat))) = true := by
          have hgl : g.length ≤ 4000 + i * 1000 := hgl
          exact decide_eq_true (by omega)
        rw [show V6b ⟨c, some m, some g, a, b, i, R⟩ = { n := 106, v := [dC c, kB false, dS a, lS (.row 0), pS 1, lS (.row 2), dI .i64 (i : Int)], h := [(0, .row 36 fk m), (1, boxD b false), (2, .row 36 fk g)] } from rfl]
        by_cases ci : i < c.length
        · have ci' : (i : Int) < (c.length : Int) := by omega
          have ib : inB (i : Int) c.length = true := decide_eq_true (by omega)
          have hn' : n = min (1 + W.cutN (rget (.int .i64) c (i : Int))) a.size := by rw [← hn]; unfold W.nOf; rw [if_pos ci]
          rw [b6brr c a b false (i : Int) g m (v6 := (W.cutN (rget (.int .i64) c (i : Int)) : Int)) (v8 := 1 + (W.cutN (rget (.int .i64) c (i : Int)) : Int)) (v9 := (n : Int)) (v10 := a1) rfl rfl rfl rfl rfl cut.1 rfl rfl
            (by rw [wrap64_byte (by omega) (by omega), minI_min]; omega) (by rw [← ha1]; rfl) rfl rfl rfl rfl rfl rfl]
          simp only [Tr.val, c0, ci', ib, k1, k2, ke, k4, k5, k6, k7, k8, kl, kr, kf, w1, decide_true, Bool.not_true, cond_true, cond_false]
          rfl
        · have ci' : ¬ (i : Int) < (c.length : Int) := by omega
          have hn' : n = min 1 a.size := by rw [← hn]; unfold W.nOf; rw [if_neg ci]
          rw [b6brr c a b false (i : Int) g m (v3 := (n : Int)) (v4 := a1) rfl rfl (by rw [minI_min]; omega) (by rw [← ha1]; rfl) rfl rfl rfl rfl rfl rfl rfl rfl rfl rfl rfl rfl]
          simp only [Tr.val, c0, ci', k1, k2, ke, k4, k5, k6, k7, k8, kl, kr, kf, w1, decide_true, decide_false, Bool.not_true, cond_true, cond_false]
          rfl
end Go.Proofs.Ytiongkbkjfgimaa
