/- Letters: what the decoder's tables say. -/
import Derived.Test.YtmnbcnhpklejcaaDoorZEvUtf0
import Derived.Test.YtmnbcnhpklejcaaDoorZEvPat
import Derived.Laws.BitsLemmas
set_option linter.unusedVariables false
set_option linter.unusedSimpArgs false
set_option maxRecDepth 20000
namespace U
open Go Go.Ev Go.Proofs.YtmnbcnhpklejcaaDoor

/-- How many bytes a first byte asks for; 0: it is none. -/
def need (c : Int) : Int := if c < 128 then 1 else if c < 194 then 0 else if c < 224 then 2 else if c < 240 then 3 else if c < 245 then 4 else 0
def lo (c : Int) : Int := if c = 224 then 160 else if c = 240 then 144 else 128
def hi (c : Int) : Int := if c = 237 then 159 else if c = 244 then 143 else 191
def ok1 (s : ByteArray) : Bool := decide (lo (bt s 0) ≤ bt s 1) && decide (bt s 1 ≤ hi (bt s 0))
def cont (c : Int) : Bool := decide (128 ≤ c) && decide (c ≤ 191)

def full (s : ByteArray) : Bool :=
  bif decide (s.size = 0) then false else bif decide (need (bt s 0) ≤ (s.size : Int)) then true else
  bif decide (1 < s.size) && !ok1 s then true else decide (2 < s.size) && !cont (bt s 2)

def val2 (s : ByteArray) : Int := (bt s 0 - 192) * 64 + (bt s 1 - 128)
def val3 (s : ByteArray) : Int := (bt s 0 - 224) * 4096 + (bt s 1 - 128) * 64 + (bt s 2 - 128)
def val4 (s : ByteArray) : Int := (bt s 0 - 240) * 262144 + (bt s 1 - 128) * 4096 + (bt s 2 - 128) * 64 + (bt s 3 - 128)

/-- The letter that stands first, and its bytes; no letter: 65533, and 1 (or 0). -/
def dec (s : ByteArray) : Int × Int :=
  bif decide (s.size = 0) then (65533, 0) else
  bif decide (need (bt s 0) = 0) then (65533, 1) else bif decide (need (bt s 0) = 1) then (bt s 0, 1) else
  bif decide ((s.size : Int) < need (bt s 0)) then (65533, 1) else bif !ok1 s then (65533, 1) else
  bif decide (need (bt s 0) = 2) then (val2 s, 2) else bif !cont (bt s 2) then (65533, 1) else
  bif decide (need (bt s 0) = 3) then (val3 s, 3) else bif !cont (bt s 3) then (65533, 1) else (val4 s, 4)

/-- What a table's entry is. -/
def q (c : Int) : Int := IntKind.i64.wrap (IntKind.u8.wrap (((BitVec.ofInt 8 (rget (.int .u8) firstL c) &&& BitVec.ofInt 8 7).toNat : Int)))
def chk (c : Nat) : Bool :=
  let b : Int := c
  let x : Int := rget (.int .u8) firstL b
  (decide (0 ≤ x) && decide (x ≤ 255)) && (decide (240 ≤ x) == decide (need b ≤ 1)) && decide (q b = if b < 128 then 0 else if need b ≤ 1 then 1 else need b) &&
    (decide (0 ≤ x.fdiv 16) && decide (x.fdiv 16 < 16)) && (decide (need b ≤ 1) || (decide ((rget acck accL (x.fdiv 16)).1 = lo b) && decide ((rget acck accL (x.fdiv 16)).2.1 = hi b))) &&
    (decide (2 ≤ need b) || decide (x = if b < 128 then 240 else 241))
theorem chk_all : ∀ c : Fin 256, chk c.val = true := by decide +kernel

structure Row (b : Int) : Prop where
  x0 : (0 : Int) ≤ (rget (.int .u8) firstL b : Int)
  x1 : (rget (.int .u8) firstL b : Int) ≤ 255
  big : ((240 : Int) ≤ (rget (.int .u8) firstL b : Int)) ↔ need b ≤ 1
  q : q b = if b < 128 then 0 else if need b ≤ 1 then 1 else need b
  f0 : 0 ≤ (rget (.int .u8) firstL b : Int).fdiv 16
  f1 : (rget (.int .u8) firstL b : Int).fdiv 16 < 16
  l : 2 ≤ need b → ((rget acck accL ((rget (.int .u8) firstL b : Int).fdiv 16)).1 : Int) = lo b
  h : 2 ≤ need b → ((rget acck accL ((rget (.int .u8) firstL b : Int).fdiv 16)).2.1 : Int) = hi b
  x : need b ≤ 1 → (rget (.int .u8) firstL b : Int) = if b < 128 then 240 else 241

theorem row {b : Int} (h0 : 0 ≤ b) (h1 : b ≤ 255) : Row b := by
  obtain ⟨n, rfl⟩ := Int.eq_ofNat_of_zero_le h0
  have hn : n < 256 := by omega
  have h := chk_all ⟨n, hn⟩
  simp only [chk, Bool.and_eq_true, decide_eq_true_eq, Bool.or_eq_true, beq_iff_eq] at h
  obtain ⟨⟨⟨⟨⟨⟨a1, a2⟩, a3⟩, a4⟩, a5, a6⟩, a7⟩, a8⟩ := h
  refine ⟨a1, a2, ?_, a4, a5, a6, fun h2 => ?_, fun h2 => ?_, fun h2 => ?_⟩
  · have := decide_eq_decide.1 a3
    exact this
  · rcases a7 with a7 | ⟨a7, _⟩
    · have : need (n : Int) ≤ 1 := a7
      omega
    · exact a7
  · rcases a7 with a7 | ⟨_, a7⟩
    · have : need (n : Int) ≤ 1 := a7
      omega
    · exact a7
  · rcases a8 with a8 | a8
    · have : 2 ≤ need (n : Int) := a8
      omega
    · exact a8

theorem need_cases (c : Int) : (need c = 1 ∧ c < 128) ∨ need c = 0 ∨ (need c = 2 ∧ 194 ≤ c ∧ c < 224) ∨ (need c = 3 ∧ 224 ≤ c ∧ c < 240) ∨ (need c = 4 ∧ 240 ≤ c ∧ c < 245) := by
  unfold need
  repeat' split
  all_goals omega
theorem lo_ge (c : Int) : 128 ≤ lo c := by unfold lo; repeat' split
                                           all_goals omega
theorem hi_le (c : Int) : hi c ≤ 191 := by unfold hi; repeat' split
                                           all_goals omega
end U
