/- The types of the program, for the evaluator. Written by program (gentab.py). -/
import Derived.Test.YtmnbcnhpklejcaaDoorProg
import Derived.Test.YtmnbcnhpklejcaaDoorZEvTab
set_option linter.unusedVariables false
namespace Go.Proofs.YtmnbcnhpklejcaaDoor
open Go.Ev Go.RowKit
theorem zR_3 (w : World) (K : KSet) : Kd.R w K (.int .i64) (Kd.dflt (.int .i64)) [.int .i64 0] := rfl
theorem zR_5 (w : World) (K : KSet) : Kd.R w K (.int .u8) (Kd.dflt (.int .u8)) [.int .u8 0] := rfl
theorem zR_9 (w : World) (K : KSet) : Kd.R w K (.str) (Kd.dflt (.str)) [.string ByteArray.empty] := rfl
theorem zR_21 (w : World) (K : KSet) : Kd.R w K (.int .i32) (Kd.dflt (.int .i32)) [.int .i32 0] := rfl
theorem zR_22 (w : World) (K : KSet) : Kd.R w K (.sl (.pr (.sl (.pr (.str) (.pr (.int .i64) (.pr (.pr (.int .i64) (.pr (.int .i64) (.pr (.int .i64) (.un)))) (.un))))) (.pr (.bool) (.un)))) (Kd.dflt (.sl (.pr (.sl (.pr (.str) (.pr (.int .i64) (.pr (.pr (.int .i64) (.pr (.int .i64) (.pr (.int .i64) (.un)))) (.un))))) (.pr (.bool) (.un))))) [.slice none 0 0] := ⟨none, 0, rfl, Nat.le_refl _, .inl rfl⟩
theorem zR_27 (w : World) (K : KSet) : Kd.R w K (.int .i64) (Kd.dflt (.int .i64)) [.int .i64 0] := rfl
theorem zR_32 (w : World) (K : KSet) : Kd.R w K (.sl (.pr (.str) (.pr (.int .i64) (.pr (.pr (.int .i64) (.pr (.int .i64) (.pr (.int .i64) (.un)))) (.un))))) (Kd.dflt (.sl (.pr (.str) (.pr (.int .i64) (.pr (.pr (.int .i64) (.pr (.int .i64) (.pr (.int .i64) (.un)))) (.un)))))) [.slice none 0 0] := ⟨none, 0, rfl, Nat.le_refl _, .inl rfl⟩
theorem zR_34 (w : World) (K : KSet) : Kd.R w K (.pr (.sl (.pr (.str) (.pr (.int .i64) (.pr (.pr (.int .i64) (.pr (.int .i64) (.pr (.int .i64) (.un)))) (.un))))) (.pr (.bool) (.un))) (Kd.dflt (.pr (.sl (.pr (.str) (.pr (.int .i64) (.pr (.pr (.int .i64) (.pr (.int .i64) (.pr (.int .i64) (.un)))) (.un))))) (.pr (.bool) (.un)))) [.slice none 0 0, .bool false] := ⟨[.slice none 0 0], [.bool false], rfl, ⟨none, 0, rfl, Nat.le_refl _, .inl rfl⟩, ⟨[.bool false], [], rfl, rfl, rfl⟩⟩
theorem zR_48 (w : World) (K : KSet) : Kd.R w K (.pr (.str) (.pr (.int .i64) (.pr (.pr (.int .i64) (.pr (.int .i64) (.pr (.int .i64) (.un)))) (.un)))) (Kd.dflt (.pr (.str) (.pr (.int .i64) (.pr (.pr (.int .i64) (.pr (.int .i64) (.pr (.int .i64) (.un)))) (.un))))) [.string ByteArray.empty, .int .i64 0, .int .i64 0, .int .i64 0, .int .i64 0] := ⟨[.string ByteArray.empty], [.int .i64 0, .int .i64 0, .int .i64 0, .int .i64 0], rfl, rfl, ⟨[.int .i64 0], [.int .i64 0, .int .i64 0, .int .i64 0], rfl, rfl, ⟨[.int .i64 0, .int .i64 0, .int .i64 0], [], rfl, ⟨[.int .i64 0], [.int .i64 0, .int .i64 0], rfl, rfl, ⟨[.int .i64 0], [.int .i64 0], rfl, rfl, ⟨[.int .i64 0], [], rfl, rfl, rfl⟩⟩⟩, rfl⟩⟩⟩
theorem zR_53 (w : World) (K : KSet) : Kd.R w K (.pr (.int .i64) (.pr (.sl (.pr (.sl (.pr (.str) (.pr (.int .i64) (.pr (.pr (.int .i64) (.pr (.int .i64) (.pr (.int .i64) (.un)))) (.un))))) (.pr (.bool) (.un)))) (.un))) (Kd.dflt (.pr (.int .i64) (.pr (.sl (.pr (.sl (.pr (.str) (.pr (.int .i64) (.pr (.pr (.int .i64) (.pr (.int .i64) (.pr (.int .i64) (.un)))) (.un))))) (.pr (.bool) (.un)))) (.un)))) [.int .i64 0, .slice none 0 0] := ⟨[.int .i64 0], [.slice none 0 0], rfl, rfl, ⟨[.slice none 0 0], [], rfl, ⟨none, 0, rfl, Nat.le_refl _, .inl rfl⟩, rfl⟩⟩
theorem zR_190 (w : World) (K : KSet) : Kd.R w K (.pr (.int .i32) (.pr (.int .i32) (.un))) (Kd.dflt (.pr (.int .i32) (.pr (.int .i32) (.un)))) [.int .i32 0, .int .i32 0] := ⟨[.int .i32 0], [.int .i32 0], rfl, rfl, ⟨[.int .i32 0], [], rfl, rfl, rfl⟩⟩
theorem ty1 : TyOK Tryd.prog 1 { d := .other, size := 1, z := [.nilf] } := ⟨by kernel_rfl, by kernel_rfl, fun _ => ⟨Tryd.t1, _, by kernel_rfl, rfl, fun w K A h => (.cons rfl .nil)⟩, trivial⟩
theorem ty2 : TyOK Tryd.prog 2 { d := .int .i64, size := 1, z := [.dat (.int .i64) (0 : Int)] } := ⟨by kernel_rfl, by kernel_rfl, fun _ => ⟨Tryd.t2, _, by kernel_rfl, rfl, fun w K A h => (.cons rfl .nil)⟩, Tryd.underlying2⟩
theorem ty3 : TyOK Tryd.prog 3 { d := .int .i64, size := 1, z := [.dat (.int .i64) (0 : Int)] } := ⟨by kernel_rfl, by kernel_rfl, fun _ => ⟨Tryd.t3, _, by kernel_rfl, rfl, fun w K A h => (.cons rfl .nil)⟩, Tryd.underlying3⟩
theorem ty4 : TyOK Tryd.prog 4 { d := .bool, size := 1, z := [.dat .bool false] } := ⟨by kernel_rfl, by kernel_rfl, fun _ => ⟨Tryd.t4, _, by kernel_rfl, rfl, fun w K A h => (.cons rfl .nil)⟩, Tryd.underlying4⟩
theorem ty5 : TyOK Tryd.prog 5 { d := .int .u8, size := 1, z := [.dat (.int .u8) (0 : Int)] } := ⟨by kernel_rfl, by kernel_rfl, fun _ => ⟨Tryd.t5, _, by kernel_rfl, rfl, fun w K A h => (.cons rfl .nil)⟩, Tryd.underlying5⟩
theorem ty9 : TyOK Tryd.prog 9 { d := .str, size := 1, z := [.dat .str ByteArray.empty] } := ⟨by kernel_rfl, by kernel_rfl, fun _ => ⟨Tryd.t9, _, by kernel_rfl, rfl, fun w K A h => (.cons rfl .nil)⟩, Tryd.underlying9⟩
theorem ty12 : TyOK Tryd.prog 12 { d := .int .u64, size := 1, z := [.dat (.int .u64) (0 : Int)] } := ⟨by kernel_rfl, by kernel_rfl, fun _ => ⟨Tryd.t12, _, by kernel_rfl, rfl, fun w K A h => (.cons rfl .nil)⟩, Tryd.underlying12⟩
theorem ty17 : TyOK Tryd.prog 17 { d := .other, size := 1, z := [.nilp] } := ⟨by kernel_rfl, by kernel_rfl, fun _ => ⟨Tryd.t17, _, by kernel_rfl, rfl, fun w K A h => (.cons rfl .nil)⟩, trivial⟩
theorem ty21 : TyOK Tryd.prog 21 { d := .int .i32, size := 1, z := [.dat (.int .i32) (0 : Int)] } := ⟨by kernel_rfl, by kernel_rfl, fun _ => ⟨Tryd.t21, _, by kernel_rfl, rfl, fun w K A h => (.cons rfl .nil)⟩, Tryd.underlying21⟩
theorem ty22 : TyOK Tryd.prog 22 { d := .slice 34 (.pr (.sl (.pr (.str) (.pr (.int .i64) (.pr (.pr (.int .i64) (.pr (.int .i64) (.pr (.int .i64) (.un)))) (.un))))) (.pr (.bool) (.un))) 32, size := 1, z := [.nils] } := ⟨by kernel_rfl, by kernel_rfl, fun _ => ⟨Tryd.t22, _, by kernel_rfl, rfl, fun w K A h => (.cons rfl .nil)⟩, ⟨Tryd.underlying22, Tryd.t34, _, by kernel_rfl, rfl, rfl, rfl, rfl, by decide, by decide, fun w K => zR_34 w K⟩⟩
theorem ty23 : TyOK Tryd.prog 23 { d := .struct [(0, 1), (1, 1)] [], size := 2, z := [.dat (.int .i64) (0 : Int), .nils] } := ⟨by kernel_rfl, by kernel_rfl, fun _ => ⟨Tryd.t23, _, by kernel_rfl, rfl, fun w K A h => (.cons rfl (.cons rfl .nil))⟩, ⟨_, Tryd.underlying23, by kernel_rfl, fun xs ys b h => nomatch h⟩⟩
theorem ty24 : TyOK Tryd.prog 24 { d := .struct [(0, 1), (1, 1)] [], size := 2, z := [.dat (.int .i64) (0 : Int), .nils] } := ⟨by kernel_rfl, by kernel_rfl, fun _ => ⟨Tryd.t24, _, by kernel_rfl, rfl, fun w K A h => (.cons rfl (.cons rfl .nil))⟩, ⟨_, Tryd.underlying24, by kernel_rfl, fun xs ys b h => nomatch h⟩⟩
theorem ty25 : TyOK Tryd.prog 25 { d := .other, size := 1, z := [.nilf] } := ⟨by kernel_rfl, by kernel_rfl, fun _ => ⟨Tryd.t25, _, by kernel_rfl, rfl, fun w K A h => (.cons rfl .nil)⟩, trivial⟩
theorem ty26 : TyOK Tryd.prog 26 { d := .other, size := 1, z := [.nilf] } := ⟨by kernel_rfl, by kernel_rfl, fun _ => ⟨Tryd.t26, _, by kernel_rfl, rfl, fun w K A h => (.cons rfl .nil)⟩, trivial⟩
theorem ty27 : TyOK Tryd.prog 27 { d := .int .i64, size := 1, z := [.dat (.int .i64) (0 : Int)] } := ⟨by kernel_rfl, by kernel_rfl, fun _ => ⟨Tryd.t27, _, by kernel_rfl, rfl, fun w K A h => (.cons rfl .nil)⟩, Tryd.underlying27⟩
theorem ty29 : TyOK Tryd.prog 29 { d := .other, size := 1, z := [.nilf] } := ⟨by kernel_rfl, by kernel_rfl, fun _ => ⟨Tryd.t29, _, by kernel_rfl, rfl, fun w K A h => (.cons rfl .nil)⟩, trivial⟩
theorem ty31 : TyOK Tryd.prog 31 { d := .other, size := 1, z := [.nilf] } := ⟨by kernel_rfl, by kernel_rfl, fun _ => ⟨Tryd.t31, _, by kernel_rfl, rfl, fun w K A h => (.cons rfl .nil)⟩, trivial⟩
theorem ty32 : TyOK Tryd.prog 32 { d := .slice 48 (.pr (.str) (.pr (.int .i64) (.pr (.pr (.int .i64) (.pr (.int .i64) (.pr (.int .i64) (.un)))) (.un)))) 48, size := 1, z := [.nils] } := ⟨by kernel_rfl, by kernel_rfl, fun _ => ⟨Tryd.t32, _, by kernel_rfl, rfl, fun w K A h => (.cons rfl .nil)⟩, ⟨Tryd.underlying32, Tryd.t48, _, by kernel_rfl, rfl, rfl, rfl, rfl, by decide, by decide, fun w K => zR_48 w K⟩⟩
theorem ty33 : TyOK Tryd.prog 33 { d := .struct [(0, 1), (1, 1)] [], size := 2, z := [.nils, .dat .bool false] } := ⟨by kernel_rfl, by kernel_rfl, fun _ => ⟨Tryd.t33, _, by kernel_rfl, rfl, fun w K A h => (.cons rfl (.cons rfl .nil))⟩, ⟨_, Tryd.underlying33, by kernel_rfl, fun xs ys b h => nomatch h⟩⟩
theorem ty34 : TyOK Tryd.prog 34 { d := .struct [(0, 1), (1, 1)] [], size := 2, z := [.nils, .dat .bool false] } := ⟨by kernel_rfl, by kernel_rfl, fun _ => ⟨Tryd.t34, _, by kernel_rfl, rfl, fun w K A h => (.cons rfl (.cons rfl .nil))⟩, ⟨_, Tryd.underlying34, by kernel_rfl, fun xs ys b h => nomatch h⟩⟩
theorem ty36 : TyOK Tryd.prog 36 { d := .other, size := 1, z := [.nilf] } := ⟨by kernel_rfl, by kernel_rfl, fun _ => ⟨Tryd.t36, _, by kernel_rfl, rfl, fun w K A h => (.cons rfl .nil)⟩, trivial⟩
theorem ty37 : TyOK Tryd.prog 37 { d := .other, size := 1, z := [.nilf] } := ⟨by kernel_rfl, by kernel_rfl, fun _ => ⟨Tryd.t37, _, by kernel_rfl, rfl, fun w K A h => (.cons rfl .nil)⟩, trivial⟩
theorem ty38 : TyOK Tryd.prog 38 { d := .other, size := 1, z := [.nilf] } := ⟨by kernel_rfl, by kernel_rfl, fun _ => ⟨Tryd.t38, _, by kernel_rfl, rfl, fun w K A h => (.cons rfl .nil)⟩, trivial⟩
theorem ty39 : TyOK Tryd.prog 39 { d := .other, size := 1, z := [.nilf] } := ⟨by kernel_rfl, by kernel_rfl, fun _ => ⟨Tryd.t39, _, by kernel_rfl, rfl, fun w K A h => (.cons rfl .nil)⟩, trivial⟩
theorem ty40 : TyOK Tryd.prog 40 { d := .other, size := 1, z := [.nilf] } := ⟨by kernel_rfl, by kernel_rfl, fun _ => ⟨Tryd.t40, _, by kernel_rfl, rfl, fun w K A h => (.cons rfl .nil)⟩, trivial⟩
theorem ty41 : TyOK Tryd.prog 41 { d := .other, size := 1, z := [.nilf] } := ⟨by kernel_rfl, by kernel_rfl, fun _ => ⟨Tryd.t41, _, by kernel_rfl, rfl, fun w K A h => (.cons rfl .nil)⟩, trivial⟩
theorem ty42 : TyOK Tryd.prog 42 { d := .other, size := 1, z := [.nilf] } := ⟨by kernel_rfl, by kernel_rfl, fun _ => ⟨Tryd.t42, _, by kernel_rfl, rfl, fun w K A h => (.cons rfl .nil)⟩, trivial⟩
theorem ty43 : TyOK Tryd.prog 43 { d := .other, size := 1, z := [.nilf] } := ⟨by kernel_rfl, by kernel_rfl, fun _ => ⟨Tryd.t43, _, by kernel_rfl, rfl, fun w K A h => (.cons rfl .nil)⟩, trivial⟩
theorem ty44 : TyOK Tryd.prog 44 { d := .other, size := 1, z := [.nilf] } := ⟨by kernel_rfl, by kernel_rfl, fun _ => ⟨Tryd.t44, _, by kernel_rfl, rfl, fun w K A h => (.cons rfl .nil)⟩, trivial⟩
theorem ty45 : TyOK Tryd.prog 45 { d := .struct [(0, 1), (1, 1), (2, 1)] [], size := 3, z := [.dat (.int .i64) (0 : Int), .dat (.int .i64) (0 : Int), .dat (.int .i64) (0 : Int)] } := ⟨by kernel_rfl, by kernel_rfl, fun _ => ⟨Tryd.t45, _, by kernel_rfl, rfl, fun w K A h => (.cons rfl (.cons rfl (.cons rfl .nil)))⟩, ⟨_, Tryd.underlying45, by kernel_rfl, fun xs ys b h => nomatch h⟩⟩
theorem ty46 : TyOK Tryd.prog 46 { d := .struct [(0, 1), (1, 1), (2, 1)] [.int .i64, .int .i64, .int .i64], size := 3, z := [.dat (.int .i64) (0 : Int), .dat (.int .i64) (0 : Int), .dat (.int .i64) (0 : Int)] } := ⟨by kernel_rfl, by kernel_rfl, fun _ => ⟨Tryd.t46, _, by kernel_rfl, rfl, fun w K A h => (.cons rfl (.cons rfl (.cons rfl .nil)))⟩, ⟨_, Tryd.underlying46, by kernel_rfl, by
    intro xs ys b h w x y
    rcases h with _ | ⟨h0, h⟩
    rcases h with _ | ⟨h1, h⟩
    rcases h with ⟨h2⟩ | _
    cases h0; cases h1; cases h2
    rename_i a0 b0 a1 b1 a2 b2
    refine ⟨by kernel_rfl, by kernel_rfl, ?_⟩
    show (Op.equalIn (9999 + 1) 46 _ _).run _ _ = .ok (decide (a0 = b0) && (decide (a1 = b1) && (decide (a2 = b2)))) w
    exact eqA_of Tryd.underlying46 (by kernel_rfl) (eqf_cons (a := .int .i64 a0) (b := .int .i64 b0) (by kernel_rfl) (by kernel_rfl) (by kernel_rfl) (by kernel_rfl) (eqf_cons (a := .int .i64 a1) (b := .int .i64 b1) (by kernel_rfl) (by kernel_rfl) (by kernel_rfl) (by kernel_rfl) (eqf_last (a := .int .i64 a2) (b := .int .i64 b2) (by kernel_rfl) (by kernel_rfl) (by kernel_rfl) (by kernel_rfl))))⟩⟩
theorem ty47 : TyOK Tryd.prog 47 { d := .struct [(0, 1), (1, 1), (2, 3)] [], size := 5, z := [.dat .str ByteArray.empty, .dat (.int .i64) (0 : Int), .dat (.int .i64) (0 : Int), .dat (.int .i64) (0 : Int), .dat (.int .i64) (0 : Int)] } := ⟨by kernel_rfl, by kernel_rfl, fun _ => ⟨Tryd.t47, _, by kernel_rfl, rfl, fun w K A h => (.cons rfl (.cons rfl (.cons rfl (.cons rfl (.cons rfl .nil)))))⟩, ⟨_, Tryd.underlying47, by kernel_rfl, fun xs ys b h => nomatch h⟩⟩
theorem ty48 : TyOK Tryd.prog 48 { d := .struct [(0, 1), (1, 1), (2, 3)] [.str, .int .i64, .int .i64, .int .i64, .int .i64], size := 5, z := [.dat .str ByteArray.empty, .dat (.int .i64) (0 : Int), .dat (.int .i64) (0 : Int), .dat (.int .i64) (0 : Int), .dat (.int .i64) (0 : Int)] } := ⟨by kernel_rfl, by kernel_rfl, fun _ => ⟨Tryd.t48, _, by kernel_rfl, rfl, fun w K A h => (.cons rfl (.cons rfl (.cons rfl (.cons rfl (.cons rfl .nil)))))⟩, ⟨_, Tryd.underlying48, by kernel_rfl, by
    intro xs ys b h w x y
    rcases h with _ | ⟨h0, h⟩
    rcases h with _ | ⟨h1, h⟩
    rcases h with _ | ⟨h2, h⟩
    rcases h with _ | ⟨h3, h⟩
    rcases h with ⟨h4⟩ | _
    cases h0; cases h1; cases h2; cases h3; cases h4
    rename_i a0 b0 a1 b1 a2 b2 a3 b3 a4 b4
    refine ⟨by kernel_rfl, by kernel_rfl, ?_⟩
    show (Op.equalIn (9999 + 1) 48 _ _).run _ _ = .ok (decide (a0 = b0) && (decide (a1 = b1) && (decide (a2 = b2) && (decide (a3 = b3) && (decide (a4 = b4)))))) w
    rw [show (decide (a0 = b0) && (decide (a1 = b1) && (decide (a2 = b2) && (decide (a3 = b3) && (decide (a4 = b4)))))) = (decide (a0 = b0) && (decide (a1 = b1) && ((decide (a2 = b2) && (decide (a3 = b3) && (decide (a4 = b4))))))) from by simp only [Bool.and_assoc]]
    exact eqA_of Tryd.underlying48 (by kernel_rfl) (eqf_cons (a := .string a0) (b := .string b0) (by kernel_rfl) (by kernel_rfl) (by kernel_rfl) (eq_str Tryd.underlying9 _ _) (eqf_cons (a := .int .i64 a1) (b := .int .i64 b1) (by kernel_rfl) (by kernel_rfl) (by kernel_rfl) (by kernel_rfl) (eqf_last (a := .agg #[.int .i64 a2, .int .i64 a3, .int .i64 a4]) (b := .agg #[.int .i64 b2, .int .i64 b3, .int .i64 b4]) (by kernel_rfl) (by kernel_rfl) (by kernel_rfl) (eqA_of Tryd.underlying46 (by kernel_rfl) (eqf_cons (a := .int .i64 a2) (b := .int .i64 b2) (by kernel_rfl) (by kernel_rfl) (by kernel_rfl) (by kernel_rfl) (eqf_cons (a := .int .i64 a3) (b := .int .i64 b3) (by kernel_rfl) (by kernel_rfl) (by kernel_rfl) (by kernel_rfl) (eqf_last (a := .int .i64 a4) (b := .int .i64 b4) (by kernel_rfl) (by kernel_rfl) (by kernel_rfl) (by kernel_rfl))))))))⟩⟩
theorem ty49 : TyOK Tryd.prog 49 { d := .other, size := 1, z := [.nilf] } := ⟨by kernel_rfl, by kernel_rfl, fun _ => ⟨Tryd.t49, _, by kernel_rfl, rfl, fun w K A h => (.cons rfl .nil)⟩, trivial⟩
theorem ty50 : TyOK Tryd.prog 50 { d := .other, size := 1, z := [.nilf] } := ⟨by kernel_rfl, by kernel_rfl, fun _ => ⟨Tryd.t50, _, by kernel_rfl, rfl, fun w K A h => (.cons rfl .nil)⟩, trivial⟩
theorem ty51 : TyOK Tryd.prog 51 { d := .other, size := 1, z := [.nilf] } := ⟨by kernel_rfl, by kernel_rfl, fun _ => ⟨Tryd.t51, _, by kernel_rfl, rfl, fun w K A h => (.cons rfl .nil)⟩, trivial⟩
theorem ty52 : TyOK Tryd.prog 52 { d := .struct [(0, 1), (1, 1)] [], size := 2, z := [.dat (.int .i64) (0 : Int), .nils] } := ⟨by kernel_rfl, by kernel_rfl, fun _ => ⟨Tryd.t52, _, by kernel_rfl, rfl, fun w K A h => (.cons rfl (.cons rfl .nil))⟩, ⟨_, Tryd.underlying52, by kernel_rfl, fun xs ys b h => nomatch h⟩⟩
theorem ty53 : TyOK Tryd.prog 53 { d := .struct [(0, 1), (1, 1)] [], size := 2, z := [.dat (.int .i64) (0 : Int), .nils] } := ⟨by kernel_rfl, by kernel_rfl, fun _ => ⟨Tryd.t53, _, by kernel_rfl, rfl, fun w K A h => (.cons rfl (.cons rfl .nil))⟩, ⟨_, Tryd.underlying53, by kernel_rfl, fun xs ys b h => nomatch h⟩⟩
theorem ty54 : TyOK Tryd.prog 54 { d := .other, size := 1, z := [.nilf] } := ⟨by kernel_rfl, by kernel_rfl, fun _ => ⟨Tryd.t54, _, by kernel_rfl, rfl, fun w K A h => (.cons rfl .nil)⟩, trivial⟩
theorem ty56 : TyOK Tryd.prog 56 { d := .other, size := 1, z := [.nilf] } := ⟨by kernel_rfl, by kernel_rfl, fun _ => ⟨Tryd.t56, _, by kernel_rfl, rfl, fun w K A h => (.cons rfl .nil)⟩, trivial⟩
theorem ty57 : TyOK Tryd.prog 57 { d := .other, size := 1, z := [.nilf] } := ⟨by kernel_rfl, by kernel_rfl, fun _ => ⟨Tryd.t57, _, by kernel_rfl, rfl, fun w K A h => (.cons rfl .nil)⟩, trivial⟩
theorem ty58 : TyOK Tryd.prog 58 { d := .other, size := 1, z := [.nilf] } := ⟨by kernel_rfl, by kernel_rfl, fun _ => ⟨Tryd.t58, _, by kernel_rfl, rfl, fun w K A h => (.cons rfl .nil)⟩, trivial⟩
theorem ty59 : TyOK Tryd.prog 59 { d := .other, size := 1, z := [.nilf] } := ⟨by kernel_rfl, by kernel_rfl, fun _ => ⟨Tryd.t59, _, by kernel_rfl, rfl, fun w K A h => (.cons rfl .nil)⟩, trivial⟩
theorem ty60 : TyOK Tryd.prog 60 { d := .other, size := 1, z := [.nilf] } := ⟨by kernel_rfl, by kernel_rfl, fun _ => ⟨Tryd.t60, _, by kernel_rfl, rfl, fun w K A h => (.cons rfl .nil)⟩, trivial⟩
theorem ty61 : TyOK Tryd.prog 61 { d := .other, size := 1, z := [.nilf] } := ⟨by kernel_rfl, by kernel_rfl, fun _ => ⟨Tryd.t61, _, by kernel_rfl, rfl, fun w K A h => (.cons rfl .nil)⟩, trivial⟩
theorem ty62 : TyOK Tryd.prog 62 { d := .other, size := 1, z := [.nilf] } := ⟨by kernel_rfl, by kernel_rfl, fun _ => ⟨Tryd.t62, _, by kernel_rfl, rfl, fun w K A h => (.cons rfl .nil)⟩, trivial⟩
theorem ty63 : TyOK Tryd.prog 63 { d := .other, size := 1, z := [.nilf] } := ⟨by kernel_rfl, by kernel_rfl, fun _ => ⟨Tryd.t63, _, by kernel_rfl, rfl, fun w K A h => (.cons rfl .nil)⟩, trivial⟩
theorem ty64 : TyOK Tryd.prog 64 { d := .other, size := 1, z := [.nilf] } := ⟨by kernel_rfl, by kernel_rfl, fun _ => ⟨Tryd.t64, _, by kernel_rfl, rfl, fun w K A h => (.cons rfl .nil)⟩, trivial⟩
theorem ty65 : TyOK Tryd.prog 65 { d := .other, size := 1, z := [.nilf] } := ⟨by kernel_rfl, by kernel_rfl, fun _ => ⟨Tryd.t65, _, by kernel_rfl, rfl, fun w K A h => (.cons rfl .nil)⟩, trivial⟩
theorem ty66 : TyOK Tryd.prog 66 { d := .other, size := 1, z := [.nilf] } := ⟨by kernel_rfl, by kernel_rfl, fun _ => ⟨Tryd.t66, _, by kernel_rfl, rfl, fun w K A h => (.cons rfl .nil)⟩, trivial⟩
theorem ty67 : TyOK Tryd.prog 67 { d := .other, size := 1, z := [.nilf] } := ⟨by kernel_rfl, by kernel_rfl, fun _ => ⟨Tryd.t67, _, by kernel_rfl, rfl, fun w K A h => (.cons rfl .nil)⟩, trivial⟩
theorem ty69 : TyOK Tryd.prog 69 { d := .other, size := 1, z := [.nilf] } := ⟨by kernel_rfl, by kernel_rfl, fun _ => ⟨Tryd.t69, _, by kernel_rfl, rfl, fun w K A h => (.cons rfl .nil)⟩, trivial⟩
theorem ty70 : TyOK Tryd.prog 70 { d := .other, size := 1, z := [.nilf] } := ⟨by kernel_rfl, by kernel_rfl, fun _ => ⟨Tryd.t70, _, by kernel_rfl, rfl, fun w K A h => (.cons rfl .nil)⟩, trivial⟩
theorem ty71 : TyOK Tryd.prog 71 { d := .struct [(0, 1), (1, 1)] [], size := 2, z := [.dat (.int .i64) (0 : Int), .dat (.int .i64) (0 : Int)] } := ⟨by kernel_rfl, by kernel_rfl, fun _ => ⟨Tryd.t71, _, by kernel_rfl, rfl, fun w K A h => (.cons rfl (.cons rfl .nil))⟩, ⟨_, Tryd.underlying71, by kernel_rfl, fun xs ys b h => nomatch h⟩⟩
theorem ty72 : TyOK Tryd.prog 72 { d := .struct [(0, 1), (1, 1)] [.int .i64, .int .i64], size := 2, z := [.dat (.int .i64) (0 : Int), .dat (.int .i64) (0 : Int)] } := ⟨by kernel_rfl, by kernel_rfl, fun _ => ⟨Tryd.t72, _, by kernel_rfl, rfl, fun w K A h => (.cons rfl (.cons rfl .nil))⟩, ⟨_, Tryd.underlying72, by kernel_rfl, by
    intro xs ys b h w x y
    rcases h with _ | ⟨h0, h⟩
    rcases h with ⟨h1⟩ | _
    cases h0; cases h1
    rename_i a0 b0 a1 b1
    refine ⟨by kernel_rfl, by kernel_rfl, ?_⟩
    show (Op.equalIn (9999 + 1) 72 _ _).run _ _ = .ok (decide (a0 = b0) && (decide (a1 = b1))) w
    exact eqA_of Tryd.underlying72 (by kernel_rfl) (eqf_cons (a := .int .i64 a0) (b := .int .i64 b0) (by kernel_rfl) (by kernel_rfl) (by kernel_rfl) (by kernel_rfl) (eqf_last (a := .int .i64 a1) (b := .int .i64 b1) (by kernel_rfl) (by kernel_rfl) (by kernel_rfl) (by kernel_rfl)))⟩⟩
theorem ty73 : TyOK Tryd.prog 73 { d := .other, size := 1, z := [.nilf] } := ⟨by kernel_rfl, by kernel_rfl, fun _ => ⟨Tryd.t73, _, by kernel_rfl, rfl, fun w K A h => (.cons rfl .nil)⟩, trivial⟩
theorem ty74 : TyOK Tryd.prog 74 { d := .other, size := 1, z := [.nilf] } := ⟨by kernel_rfl, by kernel_rfl, fun _ => ⟨Tryd.t74, _, by kernel_rfl, rfl, fun w K A h => (.cons rfl .nil)⟩, trivial⟩
theorem ty75 : TyOK Tryd.prog 75 { d := .other, size := 1, z := [.nilf] } := ⟨by kernel_rfl, by kernel_rfl, fun _ => ⟨Tryd.t75, _, by kernel_rfl, rfl, fun w K A h => (.cons rfl .nil)⟩, trivial⟩
theorem ty76 : TyOK Tryd.prog 76 { d := .other, size := 1, z := [.nilf] } := ⟨by kernel_rfl, by kernel_rfl, fun _ => ⟨Tryd.t76, _, by kernel_rfl, rfl, fun w K A h => (.cons rfl .nil)⟩, trivial⟩
theorem ty77 : TyOK Tryd.prog 77 { d := .slice 32 (.sl (.pr (.str) (.pr (.int .i64) (.pr (.pr (.int .i64) (.pr (.int .i64) (.pr (.int .i64) (.un)))) (.un))))) 24, size := 1, z := [.nils] } := ⟨by kernel_rfl, by kernel_rfl, fun _ => ⟨Tryd.t77, _, by kernel_rfl, rfl, fun w K A h => (.cons rfl .nil)⟩, ⟨Tryd.underlying77, Tryd.t32, _, by kernel_rfl, rfl, rfl, rfl, rfl, by decide, by decide, fun w K => zR_32 w K⟩⟩
theorem ty79 : TyOK Tryd.prog 79 { d := .other, size := 1, z := [.nilf] } := ⟨by kernel_rfl, by kernel_rfl, fun _ => ⟨Tryd.t79, _, by kernel_rfl, rfl, fun w K A h => (.cons rfl .nil)⟩, trivial⟩
theorem ty80 : TyOK Tryd.prog 80 { d := .slice 9 (.str) 16, size := 1, z := [.nils] } := ⟨by kernel_rfl, by kernel_rfl, fun _ => ⟨Tryd.t80, _, by kernel_rfl, rfl, fun w K A h => (.cons rfl .nil)⟩, ⟨Tryd.underlying80, Tryd.t9, _, by kernel_rfl, rfl, rfl, rfl, rfl, by decide, by decide, fun w K => zR_9 w K⟩⟩
theorem ty82 : TyOK Tryd.prog 82 { d := .other, size := 1, z := [.nilf] } := ⟨by kernel_rfl, by kernel_rfl, fun _ => ⟨Tryd.t82, _, by kernel_rfl, rfl, fun w K A h => (.cons rfl .nil)⟩, trivial⟩
theorem ty83 : TyOK Tryd.prog 83 { d := .other, size := 1, z := [.nilf] } := ⟨by kernel_rfl, by kernel_rfl, fun _ => ⟨Tryd.t83, _, by kernel_rfl, rfl, fun w K A h => (.cons rfl .nil)⟩, trivial⟩
theorem ty84 : TyOK Tryd.prog 84 { d := .other, size := 1, z := [.nilf] } := ⟨by kernel_rfl, by kernel_rfl, fun _ => ⟨Tryd.t84, _, by kernel_rfl, rfl, fun w K A h => (.cons rfl .nil)⟩, trivial⟩
theorem ty85 : TyOK Tryd.prog 85 { d := .other, size := 1, z := [.nilf] } := ⟨by kernel_rfl, by kernel_rfl, fun _ => ⟨Tryd.t85, _, by kernel_rfl, rfl, fun w K A h => (.cons rfl .nil)⟩, trivial⟩
theorem ty87 : TyOK Tryd.prog 87 { d := .other, size := 1, z := [.nilf] } := ⟨by kernel_rfl, by kernel_rfl, fun _ => ⟨Tryd.t87, _, by kernel_rfl, rfl, fun w K A h => (.cons rfl .nil)⟩, trivial⟩
theorem ty88 : TyOK Tryd.prog 88 { d := .other, size := 1, z := [.nilf] } := ⟨by kernel_rfl, by kernel_rfl, fun _ => ⟨Tryd.t88, _, by kernel_rfl, rfl, fun w K A h => (.cons rfl .nil)⟩, trivial⟩
theorem ty89 : TyOK Tryd.prog 89 { d := .struct [(0, 2), (2, 1)] [], size := 3, z := [.dat (.int .i64) (0 : Int), .nils, .nils] } := ⟨by kernel_rfl, by kernel_rfl, fun _ => ⟨Tryd.t89, _, by kernel_rfl, rfl, fun w K A h => (.cons rfl (.cons rfl (.cons rfl .nil)))⟩, ⟨_, Tryd.underlying89, by kernel_rfl, fun xs ys b h => nomatch h⟩⟩
theorem ty90 : TyOK Tryd.prog 90 { d := .struct [(0, 2), (2, 1)] [], size := 3, z := [.dat (.int .i64) (0 : Int), .nils, .nils] } := ⟨by kernel_rfl, by kernel_rfl, fun _ => ⟨Tryd.t90, _, by kernel_rfl, rfl, fun w K A h => (.cons rfl (.cons rfl (.cons rfl .nil)))⟩, ⟨_, Tryd.underlying90, by kernel_rfl, fun xs ys b h => nomatch h⟩⟩
theorem ty91 : TyOK Tryd.prog 91 { d := .other, size := 1, z := [.nilf] } := ⟨by kernel_rfl, by kernel_rfl, fun _ => ⟨Tryd.t91, _, by kernel_rfl, rfl, fun w K A h => (.cons rfl .nil)⟩, trivial⟩
theorem ty92 : TyOK Tryd.prog 92 { d := .other, size := 1, z := [.nilf] } := ⟨by kernel_rfl, by kernel_rfl, fun _ => ⟨Tryd.t92, _, by kernel_rfl, rfl, fun w K A h => (.cons rfl .nil)⟩, trivial⟩
theorem ty93 : TyOK Tryd.prog 93 { d := .slice 53 (.pr (.int .i64) (.pr (.sl (.pr (.sl (.pr (.str) (.pr (.int .i64) (.pr (.pr (.int .i64) (.pr (.int .i64) (.pr (.int .i64) (.un)))) (.un))))) (.pr (.bool) (.un)))) (.un))) 32, size := 1, z := [.nils] } := ⟨by kernel_rfl, by kernel_rfl, fun _ => ⟨Tryd.t93, _, by kernel_rfl, rfl, fun w K A h => (.cons rfl .nil)⟩, ⟨Tryd.underlying93, Tryd.t53, _, by kernel_rfl, rfl, rfl, rfl, rfl, by decide, by decide, fun w K => zR_53 w K⟩⟩
theorem ty94 : TyOK Tryd.prog 94 { d := .slice 27 (.int .i64) 8, size := 1, z := [.nils] } := ⟨by kernel_rfl, by kernel_rfl, fun _ => ⟨Tryd.t94, _, by kernel_rfl, rfl, fun w K A h => (.cons rfl .nil)⟩, ⟨Tryd.underlying94, Tryd.t27, _, by kernel_rfl, rfl, rfl, rfl, rfl, by decide, by decide, fun w K => zR_27 w K⟩⟩
theorem ty95 : TyOK Tryd.prog 95 { d := .other, size := 1, z := [.nilf] } := ⟨by kernel_rfl, by kernel_rfl, fun _ => ⟨Tryd.t95, _, by kernel_rfl, rfl, fun w K A h => (.cons rfl .nil)⟩, trivial⟩
theorem ty96 : TyOK Tryd.prog 96 { d := .other, size := 1, z := [.nilf] } := ⟨by kernel_rfl, by kernel_rfl, fun _ => ⟨Tryd.t96, _, by kernel_rfl, rfl, fun w K A h => (.cons rfl .nil)⟩, trivial⟩
theorem ty98 : TyOK Tryd.prog 98 { d := .other, size := 1, z := [.nilf] } := ⟨by kernel_rfl, by kernel_rfl, fun _ => ⟨Tryd.t98, _, by kernel_rfl, rfl, fun w K A h => (.cons rfl .nil)⟩, trivial⟩
theorem ty99 : TyOK Tryd.prog 99 { d := .other, size := 1, z := [.nilf] } := ⟨by kernel_rfl, by kernel_rfl, fun _ => ⟨Tryd.t99, _, by kernel_rfl, rfl, fun w K A h => (.cons rfl .nil)⟩, trivial⟩
theorem ty100 : TyOK Tryd.prog 100 { d := .other, size := 1, z := [.nilf] } := ⟨by kernel_rfl, by kernel_rfl, fun _ => ⟨Tryd.t100, _, by kernel_rfl, rfl, fun w K A h => (.cons rfl .nil)⟩, trivial⟩
theorem ty101 : TyOK Tryd.prog 101 { d := .other, size := 1, z := [.nilf] } := ⟨by kernel_rfl, by kernel_rfl, fun _ => ⟨Tryd.t101, _, by kernel_rfl, rfl, fun w K A h => (.cons rfl .nil)⟩, trivial⟩
theorem ty103 : TyOK Tryd.prog 103 { d := .other, size := 1, z := [.nilf] } := ⟨by kernel_rfl, by kernel_rfl, fun _ => ⟨Tryd.t103, _, by kernel_rfl, rfl, fun w K A h => (.cons rfl .nil)⟩, trivial⟩
theorem ty104 : TyOK Tryd.prog 104 { d := .other, size := 1, z := [.nilf] } := ⟨by kernel_rfl, by kernel_rfl, fun _ => ⟨Tryd.t104, _, by kernel_rfl, rfl, fun w K A h => (.cons rfl .nil)⟩, trivial⟩
theorem ty105 : TyOK Tryd.prog 105 { d := .other, size := 1, z := [.nilf] } := ⟨by kernel_rfl, by kernel_rfl, fun _ => ⟨Tryd.t105, _, by kernel_rfl, rfl, fun w K A h => (.cons rfl .nil)⟩, trivial⟩
theorem ty106 : TyOK Tryd.prog 106 { d := .other, size := 1, z := [.nilf] } := ⟨by kernel_rfl, by kernel_rfl, fun _ => ⟨Tryd.t106, _, by kernel_rfl, rfl, fun w K A h => (.cons rfl .nil)⟩, trivial⟩
theorem ty107 : TyOK Tryd.prog 107 { d := .other, size := 1, z := [.nilf] } := ⟨by kernel_rfl, by kernel_rfl, fun _ => ⟨Tryd.t107, _, by kernel_rfl, rfl, fun w K A h => (.cons rfl .nil)⟩, trivial⟩
theorem ty108 : TyOK Tryd.prog 108 { d := .other, size := 1, z := [.nilf] } := ⟨by kernel_rfl, by kernel_rfl, fun _ => ⟨Tryd.t108, _, by kernel_rfl, rfl, fun w K A h => (.cons rfl .nil)⟩, trivial⟩
theorem ty109 : TyOK Tryd.prog 109 { d := .other, size := 1, z := [.nilf] } := ⟨by kernel_rfl, by kernel_rfl, fun _ => ⟨Tryd.t109, _, by kernel_rfl, rfl, fun w K A h => (.cons rfl .nil)⟩, trivial⟩
theorem ty110 : TyOK Tryd.prog 110 { d := .struct [(0, 1), (1, 1), (2, 1)] [], size := 3, z := [.dat (.int .i32) (0 : Int), .dat (.int .i64) (0 : Int), .dat (.int .i64) (0 : Int)] } := ⟨by kernel_rfl, by kernel_rfl, fun _ => ⟨Tryd.t110, _, by kernel_rfl, rfl, fun w K A h => (.cons rfl (.cons rfl (.cons rfl .nil)))⟩, ⟨_, Tryd.underlying110, by kernel_rfl, fun xs ys b h => nomatch h⟩⟩
theorem ty111 : TyOK Tryd.prog 111 { d := .struct [(0, 1), (1, 1), (2, 1)] [.int .i32, .int .i64, .int .i64], size := 3, z := [.dat (.int .i32) (0 : Int), .dat (.int .i64) (0 : Int), .dat (.int .i64) (0 : Int)] } := ⟨by kernel_rfl, by kernel_rfl, fun _ => ⟨Tryd.t111, _, by kernel_rfl, rfl, fun w K A h => (.cons rfl (.cons rfl (.cons rfl .nil)))⟩, ⟨_, Tryd.underlying111, by kernel_rfl, by
    intro xs ys b h w x y
    rcases h with _ | ⟨h0, h⟩
    rcases h with _ | ⟨h1, h⟩
    rcases h with ⟨h2⟩ | _
    cases h0; cases h1; cases h2
    rename_i a0 b0 a1 b1 a2 b2
    refine ⟨by kernel_rfl, by kernel_rfl, ?_⟩
    show (Op.equalIn (9999 + 1) 111 _ _).run _ _ = .ok (decide (a0 = b0) && (decide (a1 = b1) && (decide (a2 = b2)))) w
    exact eqA_of Tryd.underlying111 (by kernel_rfl) (eqf_cons (a := .int .i32 a0) (b := .int .i32 b0) (by kernel_rfl) (by kernel_rfl) (by kernel_rfl) (by kernel_rfl) (eqf_cons (a := .int .i64 a1) (b := .int .i64 b1) (by kernel_rfl) (by kernel_rfl) (by kernel_rfl) (by kernel_rfl) (eqf_last (a := .int .i64 a2) (b := .int .i64 b2) (by kernel_rfl) (by kernel_rfl) (by kernel_rfl) (by kernel_rfl))))⟩⟩
theorem ty112 : TyOK Tryd.prog 112 { d := .other, size := 1, z := [.nilf] } := ⟨by kernel_rfl, by kernel_rfl, fun _ => ⟨Tryd.t112, _, by kernel_rfl, rfl, fun w K A h => (.cons rfl .nil)⟩, trivial⟩
theorem ty113 : TyOK Tryd.prog 113 { d := .other, size := 1, z := [.nilf] } := ⟨by kernel_rfl, by kernel_rfl, fun _ => ⟨Tryd.t113, _, by kernel_rfl, rfl, fun w K A h => (.cons rfl .nil)⟩, trivial⟩
theorem ty114 : TyOK Tryd.prog 114 { d := .other, size := 1, z := [.nilf] } := ⟨by kernel_rfl, by kernel_rfl, fun _ => ⟨Tryd.t114, _, by kernel_rfl, rfl, fun w K A h => (.cons rfl .nil)⟩, trivial⟩
theorem ty115 : TyOK Tryd.prog 115 { d := .other, size := 1, z := [.nilf] } := ⟨by kernel_rfl, by kernel_rfl, fun _ => ⟨Tryd.t115, _, by kernel_rfl, rfl, fun w K A h => (.cons rfl .nil)⟩, trivial⟩
theorem ty116 : TyOK Tryd.prog 116 { d := .other, size := 1, z := [.nilf] } := ⟨by kernel_rfl, by kernel_rfl, fun _ => ⟨Tryd.t116, _, by kernel_rfl, rfl, fun w K A h => (.cons rfl .nil)⟩, trivial⟩
theorem ty117 : TyOK Tryd.prog 117 { d := .other, size := 1, z := [.nilf] } := ⟨by kernel_rfl, by kernel_rfl, fun _ => ⟨Tryd.t117, _, by kernel_rfl, rfl, fun w K A h => (.cons rfl .nil)⟩, trivial⟩
theorem ty118 : TyOK Tryd.prog 118 { d := .other, size := 1, z := [.nilf] } := ⟨by kernel_rfl, by kernel_rfl, fun _ => ⟨Tryd.t118, _, by kernel_rfl, rfl, fun w K A h => (.cons rfl .nil)⟩, trivial⟩
theorem ty119 : TyOK Tryd.prog 119 { d := .other, size := 1, z := [.nilf] } := ⟨by kernel_rfl, by kernel_rfl, fun _ => ⟨Tryd.t119, _, by kernel_rfl, rfl, fun w K A h => (.cons rfl .nil)⟩, trivial⟩
theorem ty120 : TyOK Tryd.prog 120 { d := .other, size := 1, z := [.nilf] } := ⟨by kernel_rfl, by kernel_rfl, fun _ => ⟨Tryd.t120, _, by kernel_rfl, rfl, fun w K A h => (.cons rfl .nil)⟩, trivial⟩
theorem ty121 : TyOK Tryd.prog 121 { d := .other, size := 1, z := [.nilf] } := ⟨by kernel_rfl, by kernel_rfl, fun _ => ⟨Tryd.t121, _, by kernel_rfl, rfl, fun w K A h => (.cons rfl .nil)⟩, trivial⟩
theorem ty122 : TyOK Tryd.prog 122 { d := .other, size := 1, z := [.nilf] } := ⟨by kernel_rfl, by kernel_rfl, fun _ => ⟨Tryd.t122, _, by kernel_rfl, rfl, fun w K A h => (.cons rfl .nil)⟩, trivial⟩
theorem ty123 : TyOK Tryd.prog 123 { d := .other, size := 1, z := [.nilf] } := ⟨by kernel_rfl, by kernel_rfl, fun _ => ⟨Tryd.t123, _, by kernel_rfl, rfl, fun w K A h => (.cons rfl .nil)⟩, trivial⟩
theorem ty124 : TyOK Tryd.prog 124 { d := .other, size := 1, z := [.nilf] } := ⟨by kernel_rfl, by kernel_rfl, fun _ => ⟨Tryd.t124, _, by kernel_rfl, rfl, fun w K A h => (.cons rfl .nil)⟩, trivial⟩
theorem ty125 : TyOK Tryd.prog 125 { d := .other, size := 1, z := [.nilf] } := ⟨by kernel_rfl, by kernel_rfl, fun _ => ⟨Tryd.t125, _, by kernel_rfl, rfl, fun w K A h => (.cons rfl .nil)⟩, trivial⟩
theorem ty126 : TyOK Tryd.prog 126 { d := .other, size := 1, z := [.nilf] } := ⟨by kernel_rfl, by kernel_rfl, fun _ => ⟨Tryd.t126, _, by kernel_rfl, rfl, fun w K A h => (.cons rfl .nil)⟩, trivial⟩
theorem ty127 : TyOK Tryd.prog 127 { d := .other, size := 1, z := [.nilf] } := ⟨by kernel_rfl, by kernel_rfl, fun _ => ⟨Tryd.t127, _, by kernel_rfl, rfl, fun w K A h => (.cons rfl .nil)⟩, trivial⟩
theorem ty128 : TyOK Tryd.prog 128 { d := .other, size := 1, z := [.nilf] } := ⟨by kernel_rfl, by kernel_rfl, fun _ => ⟨Tryd.t128, _, by kernel_rfl, rfl, fun w K A h => (.cons rfl .nil)⟩, trivial⟩
theorem ty129 : TyOK Tryd.prog 129 { d := .other, size := 1, z := [.nilp] } := ⟨by kernel_rfl, by kernel_rfl, fun _ => ⟨Tryd.t129, _, by kernel_rfl, rfl, fun w K A h => (.cons rfl .nil)⟩, trivial⟩
theorem ty130 : TyOK Tryd.prog 130 { d := .slice 5 (.int .u8) 1, size := 1, z := [.nils] } := ⟨by kernel_rfl, by kernel_rfl, fun _ => ⟨Tryd.t130, _, by kernel_rfl, rfl, fun w K A h => (.cons rfl .nil)⟩, ⟨Tryd.underlying130, Tryd.t5, _, by kernel_rfl, rfl, rfl, rfl, rfl, by decide, by decide, fun w K => zR_5 w K⟩⟩
theorem ty131 : TyOK Tryd.prog 131 { d := .struct [(0, 1), (1, 1)] [], size := 2, z := [.nilp, .nils] } := ⟨by kernel_rfl, by kernel_rfl, fun _ => ⟨Tryd.t131, _, by kernel_rfl, rfl, fun w K A h => (.cons rfl (.cons rfl .nil))⟩, ⟨_, Tryd.underlying131, by kernel_rfl, fun xs ys b h => nomatch h⟩⟩
theorem ty132 : TyOK Tryd.prog 132 { d := .struct [(0, 1), (1, 1)] [], size := 2, z := [.nilp, .nils] } := ⟨by kernel_rfl, by kernel_rfl, fun _ => ⟨Tryd.t132, _, by kernel_rfl, rfl, fun w K A h => (.cons rfl (.cons rfl .nil))⟩, ⟨_, Tryd.underlying132, by kernel_rfl, fun xs ys b h => nomatch h⟩⟩
theorem ty133 : TyOK Tryd.prog 133 { d := .other, size := 1, z := [.nilf] } := ⟨by kernel_rfl, by kernel_rfl, fun _ => ⟨Tryd.t133, _, by kernel_rfl, rfl, fun w K A h => (.cons rfl .nil)⟩, trivial⟩
theorem ty134 : TyOK Tryd.prog 134 { d := .other, size := 1, z := [.nilf] } := ⟨by kernel_rfl, by kernel_rfl, fun _ => ⟨Tryd.t134, _, by kernel_rfl, rfl, fun w K A h => (.cons rfl .nil)⟩, trivial⟩
theorem ty135 : TyOK Tryd.prog 135 { d := .other, size := 1, z := [.nilf] } := ⟨by kernel_rfl, by kernel_rfl, fun _ => ⟨Tryd.t135, _, by kernel_rfl, rfl, fun w K A h => (.cons rfl .nil)⟩, trivial⟩
theorem ty139 : TyOK Tryd.prog 139 { d := .other, size := 1, z := [.nilf] } := ⟨by kernel_rfl, by kernel_rfl, fun _ => ⟨Tryd.t139, _, by kernel_rfl, rfl, fun w K A h => (.cons rfl .nil)⟩, trivial⟩
theorem ty140 : TyOK Tryd.prog 140 { d := .other, size := 1, z := [.nilf] } := ⟨by kernel_rfl, by kernel_rfl, fun _ => ⟨Tryd.t140, _, by kernel_rfl, rfl, fun w K A h => (.cons rfl .nil)⟩, trivial⟩
theorem ty141 : TyOK Tryd.prog 141 { d := .other, size := 1, z := [.nilf] } := ⟨by kernel_rfl, by kernel_rfl, fun _ => ⟨Tryd.t141, _, by kernel_rfl, rfl, fun w K A h => (.cons rfl .nil)⟩, trivial⟩
theorem ty142 : TyOK Tryd.prog 142 { d := .other, size := 1, z := [.nilf] } := ⟨by kernel_rfl, by kernel_rfl, fun _ => ⟨Tryd.t142, _, by kernel_rfl, rfl, fun w K A h => (.cons rfl .nil)⟩, trivial⟩
theorem ty143 : TyOK Tryd.prog 143 { d := .other, size := 1, z := [.nilf] } := ⟨by kernel_rfl, by kernel_rfl, fun _ => ⟨Tryd.t143, _, by kernel_rfl, rfl, fun w K A h => (.cons rfl .nil)⟩, trivial⟩
theorem ty144 : TyOK Tryd.prog 144 { d := .other, size := 1, z := [.nilf] } := ⟨by kernel_rfl, by kernel_rfl, fun _ => ⟨Tryd.t144, _, by kernel_rfl, rfl, fun w K A h => (.cons rfl .nil)⟩, trivial⟩
theorem ty145 : TyOK Tryd.prog 145 { d := .other, size := 1, z := [.nilf] } := ⟨by kernel_rfl, by kernel_rfl, fun _ => ⟨Tryd.t145, _, by kernel_rfl, rfl, fun w K A h => (.cons rfl .nil)⟩, trivial⟩
theorem ty146 : TyOK Tryd.prog 146 { d := .other, size := 1, z := [.nilf] } := ⟨by kernel_rfl, by kernel_rfl, fun _ => ⟨Tryd.t146, _, by kernel_rfl, rfl, fun w K A h => (.cons rfl .nil)⟩, trivial⟩
theorem ty147 : TyOK Tryd.prog 147 { d := .other, size := 1, z := [.nilf] } := ⟨by kernel_rfl, by kernel_rfl, fun _ => ⟨Tryd.t147, _, by kernel_rfl, rfl, fun w K A h => (.cons rfl .nil)⟩, trivial⟩
theorem ty148 : TyOK Tryd.prog 148 { d := .slice 22 (.sl (.pr (.sl (.pr (.str) (.pr (.int .i64) (.pr (.pr (.int .i64) (.pr (.int .i64) (.pr (.int .i64) (.un)))) (.un))))) (.pr (.bool) (.un)))) 24, size := 1, z := [.nils] } := ⟨by kernel_rfl, by kernel_rfl, fun _ => ⟨Tryd.t148, _, by kernel_rfl, rfl, fun w K A h => (.cons rfl .nil)⟩, ⟨Tryd.underlying148, Tryd.t22, _, by kernel_rfl, rfl, rfl, rfl, rfl, by decide, by decide, fun w K => zR_22 w K⟩⟩
theorem ty149 : TyOK Tryd.prog 149 { d := .other, size := 1, z := [.nilf] } := ⟨by kernel_rfl, by kernel_rfl, fun _ => ⟨Tryd.t149, _, by kernel_rfl, rfl, fun w K A h => (.cons rfl .nil)⟩, trivial⟩
theorem ty150 : TyOK Tryd.prog 150 { d := .other, size := 1, z := [.nilf] } := ⟨by kernel_rfl, by kernel_rfl, fun _ => ⟨Tryd.t150, _, by kernel_rfl, rfl, fun w K A h => (.cons rfl .nil)⟩, trivial⟩
theorem ty151 : TyOK Tryd.prog 151 { d := .other, size := 1, z := [.nilf] } := ⟨by kernel_rfl, by kernel_rfl, fun _ => ⟨Tryd.t151, _, by kernel_rfl, rfl, fun w K A h => (.cons rfl .nil)⟩, trivial⟩
theorem ty152 : TyOK Tryd.prog 152 { d := .other, size := 1, z := [.nilf] } := ⟨by kernel_rfl, by kernel_rfl, fun _ => ⟨Tryd.t152, _, by kernel_rfl, rfl, fun w K A h => (.cons rfl .nil)⟩, trivial⟩
theorem ty153 : TyOK Tryd.prog 153 { d := .other, size := 1, z := [.nilf] } := ⟨by kernel_rfl, by kernel_rfl, fun _ => ⟨Tryd.t153, _, by kernel_rfl, rfl, fun w K A h => (.cons rfl .nil)⟩, trivial⟩
theorem ty155 : TyOK Tryd.prog 155 { d := .other, size := 1, z := [.nilf] } := ⟨by kernel_rfl, by kernel_rfl, fun _ => ⟨Tryd.t155, _, by kernel_rfl, rfl, fun w K A h => (.cons rfl .nil)⟩, trivial⟩
theorem ty156 : TyOK Tryd.prog 156 { d := .other, size := 1, z := [.nilf] } := ⟨by kernel_rfl, by kernel_rfl, fun _ => ⟨Tryd.t156, _, by kernel_rfl, rfl, fun w K A h => (.cons rfl .nil)⟩, trivial⟩
theorem ty157 : TyOK Tryd.prog 157 { d := .other, size := 1, z := [.nilf] } := ⟨by kernel_rfl, by kernel_rfl, fun _ => ⟨Tryd.t157, _, by kernel_rfl, rfl, fun w K A h => (.cons rfl .nil)⟩, trivial⟩
theorem ty158 : TyOK Tryd.prog 158 { d := .slice 3 (.int .i64) 8, size := 1, z := [.nils] } := ⟨by kernel_rfl, by kernel_rfl, fun _ => ⟨Tryd.t158, _, by kernel_rfl, rfl, fun w K A h => (.cons rfl .nil)⟩, ⟨Tryd.underlying158, Tryd.t3, _, by kernel_rfl, rfl, rfl, rfl, rfl, by decide, by decide, fun w K => zR_3 w K⟩⟩
theorem ty159 : TyOK Tryd.prog 159 { d := .other, size := 1, z := [.nilf] } := ⟨by kernel_rfl, by kernel_rfl, fun _ => ⟨Tryd.t159, _, by kernel_rfl, rfl, fun w K A h => (.cons rfl .nil)⟩, trivial⟩
theorem ty160 : TyOK Tryd.prog 160 { d := .other, size := 1, z := [.nilf] } := ⟨by kernel_rfl, by kernel_rfl, fun _ => ⟨Tryd.t160, _, by kernel_rfl, rfl, fun w K A h => (.cons rfl .nil)⟩, trivial⟩
theorem ty161 : TyOK Tryd.prog 161 { d := .other, size := 1, z := [.nilf] } := ⟨by kernel_rfl, by kernel_rfl, fun _ => ⟨Tryd.t161, _, by kernel_rfl, rfl, fun w K A h => (.cons rfl .nil)⟩, trivial⟩
theorem ty162 : TyOK Tryd.prog 162 { d := .other, size := 1, z := [.nilf] } := ⟨by kernel_rfl, by kernel_rfl, fun _ => ⟨Tryd.t162, _, by kernel_rfl, rfl, fun w K A h => (.cons rfl .nil)⟩, trivial⟩
theorem ty163 : TyOK Tryd.prog 163 { d := .other, size := 1, z := [.nilf] } := ⟨by kernel_rfl, by kernel_rfl, fun _ => ⟨Tryd.t163, _, by kernel_rfl, rfl, fun w K A h => (.cons rfl .nil)⟩, trivial⟩
theorem ty164 : TyOK Tryd.prog 164 { d := .other, size := 1, z := [.nilf] } := ⟨by kernel_rfl, by kernel_rfl, fun _ => ⟨Tryd.t164, _, by kernel_rfl, rfl, fun w K A h => (.cons rfl .nil)⟩, trivial⟩
theorem ty165 : TyOK Tryd.prog 165 { d := .other, size := 1, z := [.nilp] } := ⟨by kernel_rfl, by kernel_rfl, fun _ => ⟨Tryd.t165, _, by kernel_rfl, rfl, fun w K A h => (.cons rfl .nil)⟩, trivial⟩
theorem ty166 : TyOK Tryd.prog 166 { d := .other, size := 1, z := [.nilf] } := ⟨by kernel_rfl, by kernel_rfl, fun _ => ⟨Tryd.t166, _, by kernel_rfl, rfl, fun w K A h => (.cons rfl .nil)⟩, trivial⟩
theorem ty167 : TyOK Tryd.prog 167 { d := .other, size := 1, z := [.nilf] } := ⟨by kernel_rfl, by kernel_rfl, fun _ => ⟨Tryd.t167, _, by kernel_rfl, rfl, fun w K A h => (.cons rfl .nil)⟩, trivial⟩
theorem ty168 : TyOK Tryd.prog 168 { d := .slice 21 (.int .i32) 4, size := 1, z := [.nils] } := ⟨by kernel_rfl, by kernel_rfl, fun _ => ⟨Tryd.t168, _, by kernel_rfl, rfl, fun w K A h => (.cons rfl .nil)⟩, ⟨Tryd.underlying168, Tryd.t21, _, by kernel_rfl, rfl, rfl, rfl, rfl, by decide, by decide, fun w K => zR_21 w K⟩⟩
theorem ty169 : TyOK Tryd.prog 169 { d := .other, size := 1, z := [.nilf] } := ⟨by kernel_rfl, by kernel_rfl, fun _ => ⟨Tryd.t169, _, by kernel_rfl, rfl, fun w K A h => (.cons rfl .nil)⟩, trivial⟩
theorem ty171 : TyOK Tryd.prog 171 { d := .other, size := 1, z := [.nilf] } := ⟨by kernel_rfl, by kernel_rfl, fun _ => ⟨Tryd.t171, _, by kernel_rfl, rfl, fun w K A h => (.cons rfl .nil)⟩, trivial⟩
theorem ty172 : TyOK Tryd.prog 172 { d := .other, size := 1, z := [.nilf] } := ⟨by kernel_rfl, by kernel_rfl, fun _ => ⟨Tryd.t172, _, by kernel_rfl, rfl, fun w K A h => (.cons rfl .nil)⟩, trivial⟩
theorem ty173 : TyOK Tryd.prog 173 { d := .slice 190 (.pr (.int .i32) (.pr (.int .i32) (.un))) 8, size := 1, z := [.nils] } := ⟨by kernel_rfl, by kernel_rfl, fun _ => ⟨Tryd.t173, _, by kernel_rfl, rfl, fun w K A h => (.cons rfl .nil)⟩, ⟨Tryd.underlying173, Tryd.t190, _, by kernel_rfl, rfl, rfl, rfl, rfl, by decide, by decide, fun w K => zR_190 w K⟩⟩
theorem ty174 : TyOK Tryd.prog 174 { d := .other, size := 1, z := [.nilf] } := ⟨by kernel_rfl, by kernel_rfl, fun _ => ⟨Tryd.t174, _, by kernel_rfl, rfl, fun w K A h => (.cons rfl .nil)⟩, trivial⟩
theorem ty176 : TyOK Tryd.prog 176 { d := .other, size := 1, z := [.nilf] } := ⟨by kernel_rfl, by kernel_rfl, fun _ => ⟨Tryd.t176, _, by kernel_rfl, rfl, fun w K A h => (.cons rfl .nil)⟩, trivial⟩
theorem ty177 : TyOK Tryd.prog 177 { d := .other, size := 1, z := [.nilf] } := ⟨by kernel_rfl, by kernel_rfl, fun _ => ⟨Tryd.t177, _, by kernel_rfl, rfl, fun w K A h => (.cons rfl .nil)⟩, trivial⟩
theorem ty178 : TyOK Tryd.prog 178 { d := .array 256 4 (.bool), size := 256, z := [.undef] } := ⟨by kernel_rfl, by kernel_rfl, fun h => absurd h (by decide), ⟨Tryd.underlying178, by kernel_rfl, by kernel_rfl⟩⟩
theorem ty179 : TyOK Tryd.prog 179 { d := .array 256 4 (.bool), size := 256, z := [.undef] } := ⟨by kernel_rfl, by kernel_rfl, fun h => absurd h (by decide), ⟨Tryd.underlying179, by kernel_rfl, by kernel_rfl⟩⟩
theorem ty181 : TyOK Tryd.prog 181 { d := .other, size := 1, z := [.nilf] } := ⟨by kernel_rfl, by kernel_rfl, fun _ => ⟨Tryd.t181, _, by kernel_rfl, rfl, fun w K A h => (.cons rfl .nil)⟩, trivial⟩
theorem ty182 : TyOK Tryd.prog 182 { d := .other, size := 1, z := [.nilf] } := ⟨by kernel_rfl, by kernel_rfl, fun _ => ⟨Tryd.t182, _, by kernel_rfl, rfl, fun w K A h => (.cons rfl .nil)⟩, trivial⟩
theorem ty183 : TyOK Tryd.prog 183 { d := .other, size := 1, z := [.nilp] } := ⟨by kernel_rfl, by kernel_rfl, fun _ => ⟨Tryd.t183, _, by kernel_rfl, rfl, fun w K A h => (.cons rfl .nil)⟩, trivial⟩
theorem ty184 : TyOK Tryd.prog 184 { d := .array 256 5 (.int .u8), size := 256, z := [.undef] } := ⟨by kernel_rfl, by kernel_rfl, fun h => absurd h (by decide), ⟨Tryd.underlying184, by kernel_rfl, by kernel_rfl⟩⟩
theorem ty185 : TyOK Tryd.prog 185 { d := .struct [(0, 1), (1, 1)] [], size := 2, z := [.dat (.int .u8) (0 : Int), .dat (.int .u8) (0 : Int)] } := ⟨by kernel_rfl, by kernel_rfl, fun _ => ⟨Tryd.t185, _, by kernel_rfl, rfl, fun w K A h => (.cons rfl (.cons rfl .nil))⟩, ⟨_, Tryd.underlying185, by kernel_rfl, fun xs ys b h => nomatch h⟩⟩
theorem ty186 : TyOK Tryd.prog 186 { d := .struct [(0, 1), (1, 1)] [], size := 2, z := [.dat (.int .u8) (0 : Int), .dat (.int .u8) (0 : Int)] } := ⟨by kernel_rfl, by kernel_rfl, fun _ => ⟨Tryd.t186, _, by kernel_rfl, rfl, fun w K A h => (.cons rfl (.cons rfl .nil))⟩, ⟨_, Tryd.underlying186, by kernel_rfl, fun xs ys b h => nomatch h⟩⟩
theorem ty187 : TyOK Tryd.prog 187 { d := .array 16 186 (.pr (.int .u8) (.pr (.int .u8) (.un))), size := 32, z := [.dat (.int .u8) (0 : Int), .dat (.int .u8) (0 : Int), .dat (.int .u8) (0 : Int), .dat (.int .u8) (0 : Int), .dat (.int .u8) (0 : Int), .dat (.int .u8) (0 : Int), .dat (.int .u8) (0 : Int), .dat (.int .u8) (0 : Int), .dat (.int .u8) (0 : Int), .dat (.int .u8) (0 : Int), .dat (.int .u8) (0 : Int), .dat (.int .u8) (0 : Int), .dat (.int .u8) (0 : Int), .dat (.int .u8) (0 : Int), .dat (.int .u8) (0 : Int), .dat (.int .u8) (0 : Int), .dat (.int .u8) (0 : Int), .dat (.int .u8) (0 : Int), .dat (.int .u8) (0 : Int), .dat (.int .u8) (0 : Int), .dat (.int .u8) (0 : Int), .dat (.int .u8) (0 : Int), .dat (.int .u8) (0 : Int), .dat (.int .u8) (0 : Int), .dat (.int .u8) (0 : Int), .dat (.int .u8) (0 : Int), .dat (.int .u8) (0 : Int), .dat (.int .u8) (0 : Int), .dat (.int .u8) (0 : Int), .dat (.int .u8) (0 : Int), .dat (.int .u8) (0 : Int), .dat (.int .u8) (0 : Int)] } := ⟨by kernel_rfl, by kernel_rfl, fun _ => ⟨Tryd.t187, _, by kernel_rfl, rfl, fun w K A h => (.cons rfl (.cons rfl (.cons rfl (.cons rfl (.cons rfl (.cons rfl (.cons rfl (.cons rfl (.cons rfl (.cons rfl (.cons rfl (.cons rfl (.cons rfl (.cons rfl (.cons rfl (.cons rfl (.cons rfl (.cons rfl (.cons rfl (.cons rfl (.cons rfl (.cons rfl (.cons rfl (.cons rfl (.cons rfl (.cons rfl (.cons rfl (.cons rfl (.cons rfl (.cons rfl (.cons rfl (.cons rfl .nil))))))))))))))))))))))))))))))))⟩, ⟨Tryd.underlying187, by kernel_rfl, by kernel_rfl⟩⟩
theorem ty188 : TyOK Tryd.prog 188 { d := .int .u64, size := 1, z := [.dat (.int .u64) (0 : Int)] } := ⟨by kernel_rfl, by kernel_rfl, fun _ => ⟨Tryd.t188, _, by kernel_rfl, rfl, fun w K A h => (.cons rfl .nil)⟩, Tryd.underlying188⟩
theorem ty189 : TyOK Tryd.prog 189 { d := .other, size := 1, z := [.nilf] } := ⟨by kernel_rfl, by kernel_rfl, fun _ => ⟨Tryd.t189, _, by kernel_rfl, rfl, fun w K A h => (.cons rfl .nil)⟩, trivial⟩
theorem ty190 : TyOK Tryd.prog 190 { d := .array 2 21 (.int .i32), size := 2, z := [.dat (.int .i32) (0 : Int), .dat (.int .i32) (0 : Int)] } := ⟨by kernel_rfl, by kernel_rfl, fun _ => ⟨Tryd.t190, _, by kernel_rfl, rfl, fun w K A h => (.cons rfl (.cons rfl .nil))⟩, ⟨Tryd.underlying190, by kernel_rfl, by kernel_rfl⟩⟩
theorem ty191 : TyOK Tryd.prog 191 { d := .other, size := 1, z := [.nilf] } := ⟨by kernel_rfl, by kernel_rfl, fun _ => ⟨Tryd.t191, _, by kernel_rfl, rfl, fun w K A h => (.cons rfl .nil)⟩, trivial⟩
theorem ty193 : TyOK Tryd.prog 193 { d := .other, size := 1, z := [.nilf] } := ⟨by kernel_rfl, by kernel_rfl, fun _ => ⟨Tryd.t193, _, by kernel_rfl, rfl, fun w K A h => (.cons rfl .nil)⟩, trivial⟩
theorem ty194 : TyOK Tryd.prog 194 { d := .other, size := 1, z := [.nilf] } := ⟨by kernel_rfl, by kernel_rfl, fun _ => ⟨Tryd.t194, _, by kernel_rfl, rfl, fun w K A h => (.cons rfl .nil)⟩, trivial⟩
theorem ty195 : TyOK Tryd.prog 195 { d := .other, size := 1, z := [.nilf] } := ⟨by kernel_rfl, by kernel_rfl, fun _ => ⟨Tryd.t195, _, by kernel_rfl, rfl, fun w K A h => (.cons rfl .nil)⟩, trivial⟩
theorem ty196 : TyOK Tryd.prog 196 { d := .other, size := 1, z := [.nilf] } := ⟨by kernel_rfl, by kernel_rfl, fun _ => ⟨Tryd.t196, _, by kernel_rfl, rfl, fun w K A h => (.cons rfl .nil)⟩, trivial⟩
theorem ty197 : TyOK Tryd.prog 197 { d := .other, size := 1, z := [.nilf] } := ⟨by kernel_rfl, by kernel_rfl, fun _ => ⟨Tryd.t197, _, by kernel_rfl, rfl, fun w K A h => (.cons rfl .nil)⟩, trivial⟩
theorem ty198 : TyOK Tryd.prog 198 { d := .int .u32, size := 1, z := [.dat (.int .u32) (0 : Int)] } := ⟨by kernel_rfl, by kernel_rfl, fun _ => ⟨Tryd.t198, _, by kernel_rfl, rfl, fun w K A h => (.cons rfl .nil)⟩, Tryd.underlying198⟩
theorem ty200 : TyOK Tryd.prog 200 { d := .other, size := 1, z := [.nilf] } := ⟨by kernel_rfl, by kernel_rfl, fun _ => ⟨Tryd.t200, _, by kernel_rfl, rfl, fun w K A h => (.cons rfl .nil)⟩, trivial⟩
theorem ty201 : TyOK Tryd.prog 201 { d := .int .u64, size := 1, z := [.dat (.int .u64) (0 : Int)] } := ⟨by kernel_rfl, by kernel_rfl, fun _ => ⟨Tryd.t201, _, by kernel_rfl, rfl, fun w K A h => (.cons rfl .nil)⟩, Tryd.underlying201⟩
theorem ty203 : TyOK Tryd.prog 203 { d := .other, size := 1, z := [.nilf] } := ⟨by kernel_rfl, by kernel_rfl, fun _ => ⟨Tryd.t203, _, by kernel_rfl, rfl, fun w K A h => (.cons rfl .nil)⟩, trivial⟩
theorem ty204 : TyOK Tryd.prog 204 { d := .other, size := 1, z := [.nilf] } := ⟨by kernel_rfl, by kernel_rfl, fun _ => ⟨Tryd.t204, _, by kernel_rfl, rfl, fun w K A h => (.cons rfl .nil)⟩, trivial⟩
theorem ty205 : TyOK Tryd.prog 205 { d := .other, size := 1, z := [.nilf] } := ⟨by kernel_rfl, by kernel_rfl, fun _ => ⟨Tryd.t205, _, by kernel_rfl, rfl, fun w K A h => (.cons rfl .nil)⟩, trivial⟩
theorem ty206 : TyOK Tryd.prog 206 { d := .other, size := 1, z := [.nilf] } := ⟨by kernel_rfl, by kernel_rfl, fun _ => ⟨Tryd.t206, _, by kernel_rfl, rfl, fun w K A h => (.cons rfl .nil)⟩, trivial⟩
theorem ty207 : TyOK Tryd.prog 207 { d := .other, size := 1, z := [.nilf] } := ⟨by kernel_rfl, by kernel_rfl, fun _ => ⟨Tryd.t207, _, by kernel_rfl, rfl, fun w K A h => (.cons rfl .nil)⟩, trivial⟩
theorem ty213 : TyOK Tryd.prog 213 { d := .other, size := 1, z := [.nilf] } := ⟨by kernel_rfl, by kernel_rfl, fun _ => ⟨Tryd.t213, _, by kernel_rfl, rfl, fun w K A h => (.cons rfl .nil)⟩, trivial⟩
theorem ty216 : TyOK Tryd.prog 216 { d := .other, size := 1, z := [.nilf] } := ⟨by kernel_rfl, by kernel_rfl, fun _ => ⟨Tryd.t216, _, by kernel_rfl, rfl, fun w K A h => (.cons rfl .nil)⟩, trivial⟩
theorem ty219 : TyOK Tryd.prog 219 { d := .struct [(0, 1), (1, 1), (2, 1), (3, 1), (4, 1), (5, 1), (6, 1), (7, 1), (8, 1), (9, 1), (10, 1)] [], size := 11, z := [.dat (.int .u64) (0 : Int), .dat (.int .u64) (0 : Int), .dat (.int .u32) (0 : Int), .dat (.int .u8) (0 : Int), .dat (.int .u8) (0 : Int), .dat (.int .u8) (0 : Int), .dat (.int .u8) (0 : Int), .nilf, .nilp, .dat (.int .i32) (0 : Int), .dat (.int .i32) (0 : Int)] } := ⟨by kernel_rfl, by kernel_rfl, fun _ => ⟨Tryd.t219, _, by kernel_rfl, rfl, fun w K A h => (.cons rfl (.cons rfl (.cons rfl (.cons rfl (.cons rfl (.cons rfl (.cons rfl (.cons rfl (.cons rfl (.cons rfl (.cons rfl .nil)))))))))))⟩, ⟨_, Tryd.underlying219, by kernel_rfl, fun xs ys b h => nomatch h⟩⟩
def types : List (Nat × Ty) := [
  (1, { d := .other, size := 1, z := [.nilf] }),
  (2, { d := .int .i64, size := 1, z := [.dat (.int .i64) (0 : Int)] }),
  (3, { d := .int .i64, size := 1, z := [.dat (.int .i64) (0 : Int)] }),
  (4, { d := .bool, size := 1, z := [.dat .bool false] }),
  (5, { d := .int .u8, size := 1, z := [.dat (.int .u8) (0 : Int)] }),
  (9, { d := .str, size := 1, z := [.dat .str ByteArray.empty] }),
  (12, { d := .int .u64, size := 1, z := [.dat (.int .u64) (0 : Int)] }),
  (17, { d := .other, size := 1, z := [.nilp] }),
  (21, { d := .int .i32, size := 1, z := [.dat (.int .i32) (0 : Int)] }),
  (22, { d := .slice 34 (.pr (.sl (.pr (.str) (.pr (.int .i64) (.pr (.pr (.int .i64) (.pr (.int .i64) (.pr (.int .i64) (.un)))) (.un))))) (.pr (.bool) (.un))) 32, size := 1, z := [.nils] }),
  (23, { d := .struct [(0, 1), (1, 1)] [], size := 2, z := [.dat (.int .i64) (0 : Int), .nils] }),
  (24, { d := .struct [(0, 1), (1, 1)] [], size := 2, z := [.dat (.int .i64) (0 : Int), .nils] }),
  (25, { d := .other, size := 1, z := [.nilf] }),
  (26, { d := .other, size := 1, z := [.nilf] }),
  (27, { d := .int .i64, size := 1, z := [.dat (.int .i64) (0 : Int)] }),
  (29, { d := .other, size := 1, z := [.nilf] }),
  (31, { d := .other, size := 1, z := [.nilf] }),
  (32, { d := .slice 48 (.pr (.str) (.pr (.int .i64) (.pr (.pr (.int .i64) (.pr (.int .i64) (.pr (.int .i64) (.un)))) (.un)))) 48, size := 1, z := [.nils] }),
  (33, { d := .struct [(0, 1), (1, 1)] [], size := 2, z := [.nils, .dat .bool false] }),
  (34, { d := .struct [(0, 1), (1, 1)] [], size := 2, z := [.nils, .dat .bool false] }),
  (36, { d := .other, size := 1, z := [.nilf] }),
  (37, { d := .other, size := 1, z := [.nilf] }),
  (38, { d := .other, size := 1, z := [.nilf] }),
  (39, { d := .other, size := 1, z := [.nilf] }),
  (40, { d := .other, size := 1, z := [.nilf] }),
  (41, { d := .other, size := 1, z := [.nilf] }),
  (42, { d := .other, size := 1, z := [.nilf] }),
  (43, { d := .other, size := 1, z := [.nilf] }),
  (44, { d := .other, size := 1, z := [.nilf] }),
  (45, { d := .struct [(0, 1), (1, 1), (2, 1)] [], size := 3, z := [.dat (.int .i64) (0 : Int), .dat (.int .i64) (0 : Int), .dat (.int .i64) (0 : Int)] }),
  (46, { d := .struct [(0, 1), (1, 1), (2, 1)] [.int .i64, .int .i64, .int .i64], size := 3, z := [.dat (.int .i64) (0 : Int), .dat (.int .i64) (0 : Int), .dat (.int .i64) (0 : Int)] }),
  (47, { d := .struct [(0, 1), (1, 1), (2, 3)] [], size := 5, z := [.dat .str ByteArray.empty, .dat (.int .i64) (0 : Int), .dat (.int .i64) (0 : Int), .dat (.int .i64) (0 : Int), .dat (.int .i64) (0 : Int)] }),
  (48, { d := .struct [(0, 1), (1, 1), (2, 3)] [.str, .int .i64, .int .i64, .int .i64, .int .i64], size := 5, z := [.dat .str ByteArray.empty, .dat (.int .i64) (0 : Int), .dat (.int .i64) (0 : Int), .dat (.int .i64) (0 : Int), .dat (.int .i64) (0 : Int)] }),
  (49, { d := .other, size := 1, z := [.nilf] }),
  (50, { d := .other, size := 1, z := [.nilf] }),
  (51, { d := .other, size := 1, z := [.nilf] }),
  (52, { d := .struct [(0, 1), (1, 1)] [], size := 2, z := [.dat (.int .i64) (0 : Int), .nils] }),
  (53, { d := .struct [(0, 1), (1, 1)] [], size := 2, z := [.dat (.int .i64) (0 : Int), .nils] }),
  (54, { d := .other, size := 1, z := [.nilf] }),
  (56, { d := .other, size := 1, z := [.nilf] }),
  (57, { d := .other, size := 1, z := [.nilf] }),
  (58, { d := .other, size := 1, z := [.nilf] }),
  (59, { d := .other, size := 1, z := [.nilf] }),
  (60, { d := .other, size := 1, z := [.nilf] }),
  (61, { d := .other, size := 1, z := [.nilf] }),
  (62, { d := .other, size := 1, z := [.nilf] }),
  (63, { d := .other, size := 1, z := [.nilf] }),
  (64, { d := .other, size := 1, z := [.nilf] }),
  (65, { d := .other, size := 1, z := [.nilf] }),
  (66, { d := .other, size := 1, z := [.nilf] }),
  (67, { d := .other, size := 1, z := [.nilf] }),
  (69, { d := .other, size := 1, z := [.nilf] }),
  (70, { d := .other, size := 1, z := [.nilf] }),
  (71, { d := .struct [(0, 1), (1, 1)] [], size := 2, z := [.dat (.int .i64) (0 : Int), .dat (.int .i64) (0 : Int)] }),
  (72, { d := .struct [(0, 1), (1, 1)] [.int .i64, .int .i64], size := 2, z := [.dat (.int .i64) (0 : Int), .dat (.int .i64) (0 : Int)] }),
  (73, { d := .other, size := 1, z := [.nilf] }),
  (74, { d := .other, size := 1, z := [.nilf] }),
  (75, { d := .other, size := 1, z := [.nilf] }),
  (76, { d := .other, size := 1, z := [.nilf] }),
  (77, { d := .slice 32 (.sl (.pr (.str) (.pr (.int .i64) (.pr (.pr (.int .i64) (.pr (.int .i64) (.pr (.int .i64) (.un)))) (.un))))) 24, size := 1, z := [.nils] }),
  (79, { d := .other, size := 1, z := [.nilf] }),
  (80, { d := .slice 9 (.str) 16, size := 1, z := [.nils] }),
  (82, { d := .other, size := 1, z := [.nilf] }),
  (83, { d := .other, size := 1, z := [.nilf] }),
  (84, { d := .other, size := 1, z := [.nilf] }),
  (85, { d := .other, size := 1, z := [.nilf] }),
  (87, { d := .other, size := 1, z := [.nilf] }),
  (88, { d := .other, size := 1, z := [.nilf] }),
  (89, { d := .struct [(0, 2), (2, 1)] [], size := 3, z := [.dat (.int .i64) (0 : Int), .nils, .nils] }),
  (90, { d := .struct [(0, 2), (2, 1)] [], size := 3, z := [.dat (.int .i64) (0 : Int), .nils, .nils] }),
  (91, { d := .other, size := 1, z := [.nilf] }),
  (92, { d := .other, size := 1, z := [.nilf] }),
  (93, { d := .slice 53 (.pr (.int .i64) (.pr (.sl (.pr (.sl (.pr (.str) (.pr (.int .i64) (.pr (.pr (.int .i64) (.pr (.int .i64) (.pr (.int .i64) (.un)))) (.un))))) (.pr (.bool) (.un)))) (.un))) 32, size := 1, z := [.nils] }),
  (94, { d := .slice 27 (.int .i64) 8, size := 1, z := [.nils] }),
  (95, { d := .other, size := 1, z := [.nilf] }),
  (96, { d := .other, size := 1, z := [.nilf] }),
  (98, { d := .other, size := 1, z := [.nilf] }),
  (99, { d := .other, size := 1, z := [.nilf] }),
  (100, { d := .other, size := 1, z := [.nilf] }),
  (101, { d := .other, size := 1, z := [.nilf] }),
  (103, { d := .other, size := 1, z := [.nilf] }),
  (104, { d := .other, size := 1, z := [.nilf] }),
  (105, { d := .other, size := 1, z := [.nilf] }),
  (106, { d := .other, size := 1, z := [.nilf] }),
  (107, { d := .other, size := 1, z := [.nilf] }),
  (108, { d := .other, size := 1, z := [.nilf] }),
  (109, { d := .other, size := 1, z := [.nilf] }),
  (110, { d := .struct [(0, 1), (1, 1), (2, 1)] [], size := 3, z := [.dat (.int .i32) (0 : Int), .dat (.int .i64) (0 : Int), .dat (.int .i64) (0 : Int)] }),
  (111, { d := .struct [(0, 1), (1, 1), (2, 1)] [.int .i32, .int .i64, .int .i64], size := 3, z := [.dat (.int .i32) (0 : Int), .dat (.int .i64) (0 : Int), .dat (.int .i64) (0 : Int)] }),
  (112, { d := .other, size := 1, z := [.nilf] }),
  (113, { d := .other, size := 1, z := [.nilf] }),
  (114, { d := .other, size := 1, z := [.nilf] }),
  (115, { d := .other, size := 1, z := [.nilf] }),
  (116, { d := .other, size := 1, z := [.nilf] }),
  (117, { d := .other, size := 1, z := [.nilf] }),
  (118, { d := .other, size := 1, z := [.nilf] }),
  (119, { d := .other, size := 1, z := [.nilf] }),
  (120, { d := .other, size := 1, z := [.nilf] }),
  (121, { d := .other, size := 1, z := [.nilf] }),
  (122, { d := .other, size := 1, z := [.nilf] }),
  (123, { d := .other, size := 1, z := [.nilf] }),
  (124, { d := .other, size := 1, z := [.nilf] }),
  (125, { d := .other, size := 1, z := [.nilf] }),
  (126, { d := .other, size := 1, z := [.nilf] }),
  (127, { d := .other, size := 1, z := [.nilf] }),
  (128, { d := .other, size := 1, z := [.nilf] }),
  (129, { d := .other, size := 1, z := [.nilp] }),
  (130, { d := .slice 5 (.int .u8) 1, size := 1, z := [.nils] }),
  (131, { d := .struct [(0, 1), (1, 1)] [], size := 2, z := [.nilp, .nils] }),
  (132, { d := .struct [(0, 1), (1, 1)] [], size := 2, z := [.nilp, .nils] }),
  (133, { d := .other, size := 1, z := [.nilf] }),
  (134, { d := .other, size := 1, z := [.nilf] }),
  (135, { d := .other, size := 1, z := [.nilf] }),
  (139, { d := .other, size := 1, z := [.nilf] }),
  (140, { d := .other, size := 1, z := [.nilf] }),
  (141, { d := .other, size := 1, z := [.nilf] }),
  (142, { d := .other, size := 1, z := [.nilf] }),
  (143, { d := .other, size := 1, z := [.nilf] }),
  (144, { d := .other, size := 1, z := [.nilf] }),
  (145, { d := .other, size := 1, z := [.nilf] }),
  (146, { d := .other, size := 1, z := [.nilf] }),
  (147, { d := .other, size := 1, z := [.nilf] }),
  (148, { d := .slice 22 (.sl (.pr (.sl (.pr (.str) (.pr (.int .i64) (.pr (.pr (.int .i64) (.pr (.int .i64) (.pr (.int .i64) (.un)))) (.un))))) (.pr (.bool) (.un)))) 24, size := 1, z := [.nils] }),
  (149, { d := .other, size := 1, z := [.nilf] }),
  (150, { d := .other, size := 1, z := [.nilf] }),
  (151, { d := .other, size := 1, z := [.nilf] }),
  (152, { d := .other, size := 1, z := [.nilf] }),
  (153, { d := .other, size := 1, z := [.nilf] }),
  (155, { d := .other, size := 1, z := [.nilf] }),
  (156, { d := .other, size := 1, z := [.nilf] }),
  (157, { d := .other, size := 1, z := [.nilf] }),
  (158, { d := .slice 3 (.int .i64) 8, size := 1, z := [.nils] }),
  (159, { d := .other, size := 1, z := [.nilf] }),
  (160, { d := .other, size := 1, z := [.nilf] }),
  (161, { d := .other, size := 1, z := [.nilf] }),
  (162, { d := .other, size := 1, z := [.nilf] }),
  (163, { d := .other, size := 1, z := [.nilf] }),
  (164, { d := .other, size := 1, z := [.nilf] }),
  (165, { d := .other, size := 1, z := [.nilp] }),
  (166, { d := .other, size := 1, z := [.nilf] }),
  (167, { d := .other, size := 1, z := [.nilf] }),
  (168, { d := .slice 21 (.int .i32) 4, size := 1, z := [.nils] }),
  (169, { d := .other, size := 1, z := [.nilf] }),
  (171, { d := .other, size := 1, z := [.nilf] }),
  (172, { d := .other, size := 1, z := [.nilf] }),
  (173, { d := .slice 190 (.pr (.int .i32) (.pr (.int .i32) (.un))) 8, size := 1, z := [.nils] }),
  (174, { d := .other, size := 1, z := [.nilf] }),
  (176, { d := .other, size := 1, z := [.nilf] }),
  (177, { d := .other, size := 1, z := [.nilf] }),
  (178, { d := .array 256 4 (.bool), size := 256, z := [.undef] }),
  (179, { d := .array 256 4 (.bool), size := 256, z := [.undef] }),
  (181, { d := .other, size := 1, z := [.nilf] }),
  (182, { d := .other, size := 1, z := [.nilf] }),
  (183, { d := .other, size := 1, z := [.nilp] }),
  (184, { d := .array 256 5 (.int .u8), size := 256, z := [.undef] }),
  (185, { d := .struct [(0, 1), (1, 1)] [], size := 2, z := [.dat (.int .u8) (0 : Int), .dat (.int .u8) (0 : Int)] }),
  (186, { d := .struct [(0, 1), (1, 1)] [], size := 2, z := [.dat (.int .u8) (0 : Int), .dat (.int .u8) (0 : Int)] }),
  (187, { d := .array 16 186 (.pr (.int .u8) (.pr (.int .u8) (.un))), size := 32, z := [.dat (.int .u8) (0 : Int), .dat (.int .u8) (0 : Int), .dat (.int .u8) (0 : Int), .dat (.int .u8) (0 : Int), .dat (.int .u8) (0 : Int), .dat (.int .u8) (0 : Int), .dat (.int .u8) (0 : Int), .dat (.int .u8) (0 : Int), .dat (.int .u8) (0 : Int), .dat (.int .u8) (0 : Int), .dat (.int .u8) (0 : Int), .dat (.int .u8) (0 : Int), .dat (.int .u8) (0 : Int), .dat (.int .u8) (0 : Int), .dat (.int .u8) (0 : Int), .dat (.int .u8) (0 : Int), .dat (.int .u8) (0 : Int), .dat (.int .u8) (0 : Int), .dat (.int .u8) (0 : Int), .dat (.int .u8) (0 : Int), .dat (.int .u8) (0 : Int), .dat (.int .u8) (0 : Int), .dat (.int .u8) (0 : Int), .dat (.int .u8) (0 : Int), .dat (.int .u8) (0 : Int), .dat (.int .u8) (0 : Int), .dat (.int .u8) (0 : Int), .dat (.int .u8) (0 : Int), .dat (.int .u8) (0 : Int), .dat (.int .u8) (0 : Int), .dat (.int .u8) (0 : Int), .dat (.int .u8) (0 : Int)] }),
  (188, { d := .int .u64, size := 1, z := [.dat (.int .u64) (0 : Int)] }),
  (189, { d := .other, size := 1, z := [.nilf] }),
  (190, { d := .array 2 21 (.int .i32), size := 2, z := [.dat (.int .i32) (0 : Int), .dat (.int .i32) (0 : Int)] }),
  (191, { d := .other, size := 1, z := [.nilf] }),
  (193, { d := .other, size := 1, z := [.nilf] }),
  (194, { d := .other, size := 1, z := [.nilf] }),
  (195, { d := .other, size := 1, z := [.nilf] }),
  (196, { d := .other, size := 1, z := [.nilf] }),
  (197, { d := .other, size := 1, z := [.nilf] }),
  (198, { d := .int .u32, size := 1, z := [.dat (.int .u32) (0 : Int)] }),
  (200, { d := .other, size := 1, z := [.nilf] }),
  (201, { d := .int .u64, size := 1, z := [.dat (.int .u64) (0 : Int)] }),
  (203, { d := .other, size := 1, z := [.nilf] }),
  (204, { d := .other, size := 1, z := [.nilf] }),
  (205, { d := .other, size := 1, z := [.nilf] }),
  (206, { d := .other, size := 1, z := [.nilf] }),
  (207, { d := .other, size := 1, z := [.nilf] }),
  (213, { d := .other, size := 1, z := [.nilf] }),
  (216, { d := .other, size := 1, z := [.nilf] }),
  (219, { d := .struct [(0, 1), (1, 1), (2, 1), (3, 1), (4, 1), (5, 1), (6, 1), (7, 1), (8, 1), (9, 1), (10, 1)] [], size := 11, z := [.dat (.int .u64) (0 : Int), .dat (.int .u64) (0 : Int), .dat (.int .u32) (0 : Int), .dat (.int .u8) (0 : Int), .dat (.int .u8) (0 : Int), .dat (.int .u8) (0 : Int), .dat (.int .u8) (0 : Int), .nilf, .nilp, .dat (.int .i32) (0 : Int), .dat (.int .i32) (0 : Int)] })]
abbrev tt : TypeId → Option Ty := tabOf types
theorem tab : TabOK Tryd.prog tt := tab_of (.cons ty1 (.cons ty2 (.cons ty3 (.cons ty4 (.cons ty5 (.cons ty9 (.cons ty12 (.cons ty17 (.cons ty21 (.cons ty22 (.cons ty23 (.cons ty24 (.cons ty25 (.cons ty26 (.cons ty27 (.cons ty29 (.cons ty31 (.cons ty32 (.cons ty33 (.cons ty34 (.cons ty36 (.cons ty37 (.cons ty38 (.cons ty39 (.cons ty40 (.cons ty41 (.cons ty42 (.cons ty43 (.cons ty44 (.cons ty45 (.cons ty46 (.cons ty47 (.cons ty48 (.cons ty49 (.cons ty50 (.cons ty51 (.cons ty52 (.cons ty53 (.cons ty54 (.cons ty56 (.cons ty57 (.cons ty58 (.cons ty59 (.cons ty60 (.cons ty61 (.cons ty62 (.cons ty63 (.cons ty64 (.cons ty65 (.cons ty66 (.cons ty67 (.cons ty69 (.cons ty70 (.cons ty71 (.cons ty72 (.cons ty73 (.cons ty74 (.cons ty75 (.cons ty76 (.cons ty77 (.cons ty79 (.cons ty80 (.cons ty82 (.cons ty83 (.cons ty84 (.cons ty85 (.cons ty87 (.cons ty88 (.cons ty89 (.cons ty90 (.cons ty91 (.cons ty92 (.cons ty93 (.cons ty94 (.cons ty95 (.cons ty96 (.cons ty98 (.cons ty99 (.cons ty100 (.cons ty101 (.cons ty103 (.cons ty104 (.cons ty105 (.cons ty106 (.cons ty107 (.cons ty108 (.cons ty109 (.cons ty110 (.cons ty111 (.cons ty112 (.cons ty113 (.cons ty114 (.cons ty115 (.cons ty116 (.cons ty117 (.cons ty118 (.cons ty119 (.cons ty120 (.cons ty121 (.cons ty122 (.cons ty123 (.cons ty124 (.cons ty125 (.cons ty126 (.cons ty127 (.cons ty128 (.cons ty129 (.cons ty130 (.cons ty131 (.cons ty132 (.cons ty133 (.cons ty134 (.cons ty135 (.cons ty139 (.cons ty140 (.cons ty141 (.cons ty142 (.cons ty143 (.cons ty144 (.cons ty145 (.cons ty146 (.cons ty147 (.cons ty148 (.cons ty149 (.cons ty150 (.cons ty151 (.cons ty152 (.cons ty153 (.cons ty155 (.cons ty156 (.cons ty157 (.cons ty158 (.cons ty159 (.cons ty160 (.cons ty161 (.cons ty162 (.cons ty163 (.cons ty164 (.cons ty165 (.cons ty166 (.cons ty167 (.cons ty168 (.cons ty169 (.cons ty171 (.cons ty172 (.cons ty173 (.cons ty174 (.cons ty176 (.cons ty177 (.cons ty178 (.cons ty179 (.cons ty181 (.cons ty182 (.cons ty183 (.cons ty184 (.cons ty185 (.cons ty186 (.cons ty187 (.cons ty188 (.cons ty189 (.cons ty190 (.cons ty191 (.cons ty193 (.cons ty194 (.cons ty195 (.cons ty196 (.cons ty197 (.cons ty198 (.cons ty200 (.cons ty201 (.cons ty203 (.cons ty204 (.cons ty205 (.cons ty206 (.cons ty207 (.cons ty213 (.cons ty216 (.cons ty219 (.nil)))))))))))))))))))))))))))))))))))))))))))))))))))))))))))))))))))))))))))))))))))))))))))))))))))))))))))))))))))))))))))))))))))))))))))))))))))))))))))))))))))))))))))))))))))
end Go.Proofs.YtmnbcnhpklejcaaDoor
