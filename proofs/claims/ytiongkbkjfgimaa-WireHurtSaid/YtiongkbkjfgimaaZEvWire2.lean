/- The wire's Feed. -/
import Derived.Test.YtiongkbkjfgimaaZEvWire1
set_option linter.unusedVariables false
set_option linter.unusedSimpArgs false
set_option maxRecDepth 20000
namespace W
open Go Go.Ev
theorem num_range (s : ByteArray) : 0 ≤ num s ∧ num s ≤ 65535 := by
  have := bt_ge s 1; have := bt_lt s 1; have := bt_ge s 2; have := bt_lt s 2
  unfold num; omega
/-- What a frame that stands first is. -/
theorem first_pos {s : ByteArray} (h : 0 < first s) : first s = num s + 4 ∧ num s ≤ 512 ∧ num s + 4 ≤ s.size ∧ 1 ≤ bt s 0 ∧ bt s 0 ≤ 12 ∧ sum (s.extract 0 (num s + 3).toNat) = bt s (num s + 3) := by
  have hn := num_range s
  unfold first at h ⊢
  by_cases c0 : s = ByteArray.empty
  · simp [c0] at h
  by_cases c1 : bt s 0 < 1
  · simp [c0, c1] at h
  by_cases c2 : 12 < bt s 0
  · simp [c0, c1, c2] at h
  by_cases c3 : (s.size : Int) < 3
  · simp [c0, c1, c2, c3] at h
  by_cases c4 : 512 < num s
  · simp [c0, c1, c2, c3, c4] at h
  by_cases c5 : (s.size : Int) < num s + 4
  · simp [c0, c1, c2, c3, c4, c5] at h
  by_cases c6 : sum (s.extract 0 (num s + 3).toNat) = bt s (num s + 3)
  · simp [c0, c1, c2, c3, c4, c5, c6]
    omega
  · simp [c0, c1, c2, c3, c4, c5, c6] at h
theorem first_le (s : ByteArray) : first s ≤ 516 := by
  rcases Int.lt_or_le 0 (first s) with h | h
  · have := first_pos h; omega
  · omega
theorem rest_size {s : ByteArray} (h : 0 < first s) : (rest s).size + 4 ≤ s.size ∧ ((rest s).size : Int) = s.size - first s := by
  obtain ⟨h1, h2, h3, _⟩ := first_pos h
  have := (num_range s).1
  unfold rest
  rw [Go.Proofs.Ytiongkbkjfgimaa.ext_size]
  omega
theorem frs_stable : ∀ {k k' : Nat} {s : ByteArray}, s.size ≤ k → s.size ≤ k' → frs k s = frs k' s := by
  intro k
  induction k with
  | zero =>
    intro k' s hk hk'
    have hno : ¬ 0 < first s := fun h => by have := (rest_size h).1; omega
    cases k' with
    | zero => rfl
    | succ k' => simp [frs, hno]
  | succ k ih =>
    intro k' s hk hk'
    by_cases h : 0 < first s
    · have := (rest_size h).1
      cases k' with
      | zero => omega
      | succ k' => simp only [frs, h, decide_true, cond_true, ih (k' := k') (s := rest s) (by omega) (by omega)]
    · cases k' with
      | zero => simp [frs, h]
      | succ k' => simp [frs, h]
end W
namespace Go.Proofs.Ytiongkbkjfgimaa
open Go.Ev Go.RowKit

def M3 : List (Nat × FSpec) := [(34, w34), (36, w36), (23, w23), (35, w35)]
theorem MA3 : AllFn Try.prog E0 M3 := .cons wk34 (.cons wk36 (.cons wk23 (.cons wk35 .nil)))
def live21 (key : Nat) : List Nat := bif Nat.beq key 1 then [0, 1, 3] else bif Nat.beq key 510 then [4, 7, 8, 25] else bif Nat.beq key 1510 then [4, 7, 8] else []
abbrev boxD (a : ByteArray) (b : Bool) : Blk := .box [.dat .str a, .dat .bool b]
abbrev pS (id : Nat) : Slot := .av (.one (.ptr id 0))
noncomputable def rl21 : RL := { ps := (rg Try.f21 0).ps.toList, asg := (rg Try.f21 0).asg, body := (rg Try.f21 0).body }
/-- The frames that have come, in the row numbered m. -/
def boxO (m : Nat) : List W.Fr → Blk
  | [] => .box [.nils]
  | _ :: _ => .box [.row m]
def rowO (m : Nat) : List W.Fr → Heap
  | [] => []
  | a :: l => [(m, .row 36 fk (a :: l))]
def X21 (a : ByteArray) (b : Bool) (s : ByteArray) : VS := ⟨41, [pS 0, pS 1, pS 2, .av (.one (.fn 44 [3]))], [(0, boxD a b), (1, .box [.dat .str s]), (2, .box [.nils]), (3, .box [.dat .str s])]⟩
def Y21 (a : ByteArray) (b : Bool) (l : List W.Fr) (s : ByteArray) : VS := ⟨41, [pS 0, pS 1, pS 2], (0, boxD a b) :: (1, .box [.dat .str s]) :: (2, boxO 3 l) :: rowO 3 l⟩
def Y21n (a : ByteArray) (b : Bool) (s : ByteArray) : VS := ⟨41, [pS 0, pS 1, pS 2], [(0, boxD a b), (1, .box [.dat .str s]), (2, .box [.nils])]⟩
def Y21r (a : ByteArray) (b : Bool) (l : List W.Fr) (s : ByteArray) : VS := ⟨41, [pS 0, pS 1, pS 2], [(0, boxD a b), (1, .box [.dat .str s]), (2, .box [.row 3]), (3, .row 36 fk l)]⟩
def g21 (v : List Slot) (h : Heap) : Option (Tr (Ex × VS)) :=
  match v, h with
  | [.av (.one (.ptr a0 b0)), .av (.one (.ptr a1 b1)), .av (.one (.ptr a2 b2)), .av (.one (.fn f [c]))], [(k0, .box [.dat .str a, .dat .bool b]), (k1, .box [.dat .str r]), (k2, .box [.nils]), (k3, .box [.dat .str s])] =>
    bif natsEq [a0, b0, a1, b1, a2, b2, f, c, k0, k1, k2, k3] [0, 0, 1, 0, 2, 0, 44, 3, 0, 1, 2, 3] then
      some (.ite (small s && decide ((r : ByteArray) = s)) (.ite (W.frames s).1.isEmpty (.ret (.nrm, Y21n a b (W.frames s).2)) (.ret (.nrm, Y21r a b (W.frames s).1 (W.frames s).2))) .fail)
    else none
  | _, _ => none
def ls21 (key : Nat) (x : VS) : Option (Tr (Ex × VS)) := bif Nat.beq key 510 && Nat.beq x.n 41 then g21 x.v x.h else none
noncomputable abbrev E21 : Env := ((E0.withFns M3).withIts [(44, Try.f44)]).loops live21 ls21

abbrev A21 : Type := ByteArray × Bool × List W.Fr × ByteArray
noncomputable def V21 (x : A21) : VS := ⟨27, [.av (.one (.yld 4)), pS 3, dI .i64 (W.first x.2.2.2)],
  (0, boxD x.1 x.2.1) :: (1, .box [.dat .str x.2.2.2]) :: (2, boxO 5 x.2.2.1) :: (3, .box [.dat .str x.2.2.2]) :: (4, .lrec false none rl21) :: rowO 5 x.2.2.1⟩
noncomputable def F21 (x : A21) : VS := ⟨27, [],
  (0, boxD x.1 x.2.1) :: (1, .box [.dat .str x.2.2.2]) :: (2, boxO 5 x.2.2.1) :: (3, .box [.dat .str x.2.2.2]) :: (4, .lrec false none rl21) :: rowO 5 x.2.2.1⟩
def fr21 (s : ByteArray) : W.Fr := (IntKind.i64.wrap (bt s 0), s.extract 3 (IntKind.i64.wrap (W.first s - 1)).toNat, ())
def cap21 (f : W.Fr) : List W.Fr → Bool
  | [] => decide ([f].length * 24 ≤ 140737488355328)
  | a :: l => decide (((a :: l).length + [f].length) * 24 ≤ 140737488355328)
noncomputable def B21 (x : A21) : Tr (A21 ⊕ (Ex × VS)) :=
  .ite (decide (0 < W.first x.2.2.2)) (.ite (inB 0 x.2.2.2.size) (.ite (decide ((0 : Int) ≤ (3 : Int) ∧ (3 : Int) ≤ IntKind.i64.wrap (W.first x.2.2.2 - 1) ∧ IntKind.i64.wrap (W.first x.2.2.2 - 1) ≤ (x.2.2.2.size : Int)))
    (.ite (decide ((0 : Int) ≤ W.first x.2.2.2 ∧ W.first x.2.2.2 ≤ (x.2.2.2.size : Int))) (.ite (cap21 (fr21 x.2.2.2) x.2.2.1) (.ite (small (W.rest x.2.2.2)) (.ret (.inl (x.1, x.2.1, x.2.2.1 ++ [fr21 x.2.2.2], W.rest x.2.2.2))) .fail) .fail) .fail) .fail) .fail)
    (.ret (.inr (.exit 0, F21 x)))

noncomputable abbrev Ei21 (k : Nat) (a : ByteArray) (b : Bool) (s : ByteArray) : Env := ((E21.lend 0).fueled k).inner 5 (yldR (evI 2 ((E21.lend 0).fueled k).round) (unV [4, 7, 8, 25] (X21 a b s)).t 4)

theorem hB21 (k : Nat) (a : ByteArray) (b : Bool) (s : ByteArray) (x : A21) : (evC (evI 1) (lc Try.f44 0) (Ei21 k a b s) (unV [0, 1, 3] (V21 x))).map (decL 5 [0, 1, 3] []) = (B21 x).map (encL V21) := by
  obtain ⟨a', b', l, s'⟩ := x
  cases l with
  | nil => kernel_rfl
  | cons f l => kernel_rfl

theorem run21 (a : ByteArray) (b : Bool) : ∀ (k : Nat) (l : List W.Fr) (s : ByteArray), l.length + s.size ≤ 1048576 → s.size < k →
    runB B21 k (a, b, l, s) = some (.exit 0, F21 (a, b, l ++ (W.frs k s).1, (W.frs k s).2))
  | 0, l, s, h1, h2 => by omega
  | k + 1, l, s, h1, h2 => by
    by_cases h : 0 < W.first s
    · obtain ⟨p1, p2, p3, p4, p5, p6⟩ := W.first_pos h
      have p7 := W.rest_size h
      have p8 := W.num_range s
      have w1 : IntKind.i64.wrap (W.first s - 1) = W.first s - 1 := wrap64_byte (by omega) (by omega)
      have w2 : fr21 s = W.frame s := by unfold fr21 W.frame; rw [w1, wrap64_byte (by omega) (by omega)]
      have c1 : cap21 (fr21 s) l = true := by
        cases l with
        | nil => simp [cap21]
        | cons a l => simp only [cap21, decide_eq_true_eq]; simp at h1 ⊢; omega
      have e : (B21 (a, b, l, s)).val = some (.inl (a, b, l ++ [fr21 s], W.rest s)) := by
        have i1 : inB 0 s.size = true := by simp [inB]; omega
        have i2 : (decide ((0 : Int) ≤ (3 : Int) ∧ (3 : Int) ≤ IntKind.i64.wrap (W.first s - 1) ∧ IntKind.i64.wrap (W.first s - 1) ≤ (s.size : Int))) = true := by rw [w1]; simp; omega
        have i3 : (decide ((0 : Int) ≤ W.first s ∧ W.first s ≤ (s.size : Int))) = true := by simp; omega
        have i4 : small (W.rest s) = true := by simp [small]; omega
        simp only [B21, Tr.val, h, decide_true, cond_true, i1, i2, i3, c1, i4]
      simp only [runB, e]
      rw [run21 a b k (l ++ [fr21 s]) (W.rest s) (by simp; omega) (by omega), w2]
      simp only [W.frs, h, decide_true, cond_true, List.append_assoc, List.singleton_append]
    · have e : (B21 (a, b, l, s)).val = some (.inr (.exit 0, F21 (a, b, l, s))) := by simp only [B21, Tr.val, h, decide_false, cond_false]
      simp only [runB, e, W.frs, h, decide_false, cond_false, List.append_nil]

theorem pre21 (k : Nat) (a : ByteArray) (b : Bool) (s : ByteArray) : (evC (evI 1) (match Try.f44.body with | some (.seq x _) => x | _ => .skip) (Ei21 k a b s)
    { t := { n := 27, m := argsT 0 [.one (.yld 4), .one (.ptr 3 0)] (Tm.full 10) }, h := (X21 a b s).h.set 4 (.lrec false none rl21) }).map (decL 5 [0, 1, 3] []) =
    .ite (small s) (.ret (.inl (V21 (a, b, [], s)))) .fail := by kernel_rfl

theorem canon21 (a : ByteArray) (b : Bool) (l : List W.Fr) (s s0 : ByteArray) (k : Nat) :
    canV 0 [4, 7, 8] { t := (unV [4, 7, 8, 25] (X21 a b s0)).t, h := (F21 (a, b, l, s)).h.set 4 .dead } = Y21 a b l s := by
  cases l with
  | nil => kernel_rfl
  | cons f l => kernel_rfl

theorem range21 : RangeOK (evI 2) (E21.lend 0) (rg Try.f21 0) := by
  rintro ⟨N, v, h⟩ tr r h1 h2
  replace h1 := at_key (show ls21 510 ⟨N, v, h⟩ = some tr from h1)
  obtain ⟨h1, rfl⟩ := h1
  replace h1 : g21 v h = some tr := h1
  unfold g21 at h1
  split at h1
  · rename_i a0 b0 a1 b1 a2 b2 f c k0 a b k1 s k2 k3 s'
    cases hn : natsEq [a0, b0, a1, b1, a2, b2, f, c, k0, k1, k2, k3] [0, 0, 1, 0, 2, 0, 44, 3, 0, 1, 2, 3] with
    | false => rw [hn] at h1; cases h1
    | true =>
      rw [hn, cond_true] at h1
      have hn := natsEq_iff hn
      simp only [List.cons.injEq, and_true] at hn
      obtain ⟨rfl, rfl, rfl, rfl, rfl, rfl, rfl, rfl, rfl, rfl, rfl, rfl⟩ := hn
      cases h1
      simp only [Tr.val] at h2
      cases hc : (small s' && decide ((s : ByteArray) = s')) with
      | false => rw [hc] at h2; cases h2
      | true =>
        rw [hc] at h2
        simp only [Bool.and_eq_true, decide_eq_true_eq, small] at hc
        obtain ⟨hs, rfl⟩ := hc
        have h3 : r = (.nrm, Y21 a b (W.frames s).1 (W.frames s).2) := by
          rw [cond_true] at h2
          cases hl : (W.frames s).1 with
          | nil => rw [hl] at h2; exact (Option.some.inj h2).symm
          | cons f l => rw [hl] at h2; exact (Option.some.inj h2).symm
        subst h3
        clear h2
        obtain ⟨r', i1, i2, i3⟩ := iter_val (k0 := 1) (Ei := Ei21 (s.size + 1) a b s) (A := match Try.f44.body with | some (.seq x _) => x | _ => .skip) (L := lc Try.f44 0) (b := 0) (V := V21) (B := B21) (lv := [0, 1, 3]) rfl (by kernel_rfl)
          (hB21 (s.size + 1) a b s) (x0 := (a, b, [], s)) (σ0 := { t := { n := 27, m := argsT 0 [.one (.yld 4), .one (.ptr 3 0)] (Tm.full 10) }, h := (X21 a b s).h.set 4 (.lrec false none rl21) })
          ((congrArg Tr.val (pre21 (s.size + 1) a b s)).trans (by simp only [Tr.val, small, hs, decide_true, cond_true])) (n := s.size + 1) rfl (run21 a b (s.size + 1) [] s (by simpa using hs) (by omega)) (.inl rfl)
        have hfr : W.frs (s.size + 1) s = W.frames s := W.frs_stable (by omega) (Nat.le_refl _)
        rw [hfr, List.nil_append] at i3
        refine ⟨s.size + 1, _, range_val (k0 := 1 + 1) (g := 44) (caps := [3]) (fn := Try.f44) (c := .seq (match Try.f44.body with | some (.seq x _) => x | _ => .skip) (.block 0 (.loop (lc Try.f44 0)))) (m := 4) (by kernel_rfl) (by kernel_rfl) (by kernel_rfl) (by kernel_rfl) (by kernel_rfl) i1 i2 i3 (pe := none) (rl' := rl21) ?_ rfl, ?_⟩
        · cases (W.frames s).1 <;> rfl
        · have := canon21 a b (W.frames s).1 (W.frames s).2 s 0
          exact Prod.ext rfl this.symm
  · cases h1
end Go.Proofs.Ytiongkbkjfgimaa
