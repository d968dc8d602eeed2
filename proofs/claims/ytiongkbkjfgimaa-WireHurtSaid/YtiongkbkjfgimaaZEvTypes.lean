/- The types of the program, for the evaluator. Written by program (gentab.py). -/
import Derived.Test.YtiongkbkjfgimaaProg
import Derived.Test.YtiongkbkjfgimaaZEvTab
set_option linter.unusedVariables false
namespace Go.Proofs.Ytiongkbkjfgimaa
open Go.Ev Go.RowKit
theorem zR_3 (w : World) (K : KSet) : Kd.R w K (.int .i64) (Kd.dflt (.int .i64)) [.int .i64 0] := rfl
theorem zR_5 (w : World) (K : KSet) : Kd.R w K (.int .u8) (Kd.dflt (.int .u8)) [.int .u8 0] := rfl
theorem zR_36 (w : World) (K : KSet) : Kd.R w K (.pr (.int .i64) (.pr (.str) (.un))) (Kd.dflt (.pr (.int .i64) (.pr (.str) (.un)))) [.int .i64 0, .string ByteArray.empty] := ⟨[.int .i64 0], [.string ByteArray.empty], rfl, rfl, ⟨[.string ByteArray.empty], [], rfl, rfl, rfl⟩⟩
theorem ty1 : TyOK Try.prog 1 { d := .other, size := 1, z := [.nilf] } := ⟨by kernel_rfl, by kernel_rfl, fun _ => ⟨Try.t1, _, by kernel_rfl, rfl, fun w K A h => (.cons rfl .nil)⟩, trivial⟩
theorem ty2 : TyOK Try.prog 2 { d := .int .i64, size := 1, z := [.dat (.int .i64) (0 : Int)] } := ⟨by kernel_rfl, by kernel_rfl, fun _ => ⟨Try.t2, _, by kernel_rfl, rfl, fun w K A h => (.cons rfl .nil)⟩, Try.underlying2⟩
theorem ty3 : TyOK Try.prog 3 { d := .int .i64, size := 1, z := [.dat (.int .i64) (0 : Int)] } := ⟨by kernel_rfl, by kernel_rfl, fun _ => ⟨Try.t3, _, by kernel_rfl, rfl, fun w K A h => (.cons rfl .nil)⟩, Try.underlying3⟩
theorem ty4 : TyOK Try.prog 4 { d := .bool, size := 1, z := [.dat .bool false] } := ⟨by kernel_rfl, by kernel_rfl, fun _ => ⟨Try.t4, _, by kernel_rfl, rfl, fun w K A h => (.cons rfl .nil)⟩, Try.underlying4⟩
theorem ty5 : TyOK Try.prog 5 { d := .int .u8, size := 1, z := [.dat (.int .u8) (0 : Int)] } := ⟨by kernel_rfl, by kernel_rfl, fun _ => ⟨Try.t5, _, by kernel_rfl, rfl, fun w K A h => (.cons rfl .nil)⟩, Try.underlying5⟩
theorem ty9 : TyOK Try.prog 9 { d := .str, size := 1, z := [.dat .str ByteArray.empty] } := ⟨by kernel_rfl, by kernel_rfl, fun _ => ⟨Try.t9, _, by kernel_rfl, rfl, fun w K A h => (.cons rfl .nil)⟩, Try.underlying9⟩
theorem ty12 : TyOK Try.prog 12 { d := .int .u64, size := 1, z := [.dat (.int .u64) (0 : Int)] } := ⟨by kernel_rfl, by kernel_rfl, fun _ => ⟨Try.t12, _, by kernel_rfl, rfl, fun w K A h => (.cons rfl .nil)⟩, Try.underlying12⟩
theorem ty17 : TyOK Try.prog 17 { d := .other, size := 1, z := [.nilp] } := ⟨by kernel_rfl, by kernel_rfl, fun _ => ⟨Try.t17, _, by kernel_rfl, rfl, fun w K A h => (.cons rfl .nil)⟩, trivial⟩
theorem ty21 : TyOK Try.prog 21 { d := .int .i32, size := 1, z := [.dat (.int .i32) (0 : Int)] } := ⟨by kernel_rfl, by kernel_rfl, fun _ => ⟨Try.t21, _, by kernel_rfl, rfl, fun w K A h => (.cons rfl .nil)⟩, Try.underlying21⟩
theorem ty22 : TyOK Try.prog 22 { d := .struct [(0, 1), (1, 1)] [], size := 2, z := [.dat (.int .i64) (0 : Int), .dat (.int .i64) (0 : Int)] } := ⟨by kernel_rfl, by kernel_rfl, fun _ => ⟨Try.t22, _, by kernel_rfl, rfl, fun w K A h => (.cons rfl (.cons rfl .nil))⟩, ⟨_, Try.underlying22, by kernel_rfl, fun xs ys b h => nomatch h⟩⟩
theorem ty23 : TyOK Try.prog 23 { d := .struct [(0, 1), (1, 1)] [.int .i64, .int .i64], size := 2, z := [.dat (.int .i64) (0 : Int), .dat (.int .i64) (0 : Int)] } := ⟨by kernel_rfl, by kernel_rfl, fun _ => ⟨Try.t23, _, by kernel_rfl, rfl, fun w K A h => (.cons rfl (.cons rfl .nil))⟩, ⟨_, Try.underlying23, by kernel_rfl, by
    intro xs ys b h w x y
    rcases h with _ | ⟨h0, h⟩
    rcases h with ⟨h1⟩ | _
    cases h0; cases h1
    rename_i a0 b0 a1 b1
    refine ⟨by kernel_rfl, by kernel_rfl, ?_⟩
    show (Op.equalIn (9999 + 1) 23 _ _).run _ _ = .ok (decide (a0 = b0) && (decide (a1 = b1))) w
    exact eqA_of Try.underlying23 (by kernel_rfl) (eqf_cons (a := .int .i64 a0) (b := .int .i64 b0) (by kernel_rfl) (by kernel_rfl) (by kernel_rfl) (by kernel_rfl) (eqf_last (a := .int .i64 a1) (b := .int .i64 b1) (by kernel_rfl) (by kernel_rfl) (by kernel_rfl) (by kernel_rfl)))⟩⟩
theorem ty24 : TyOK Try.prog 24 { d := .int .i64, size := 1, z := [.dat (.int .i64) (0 : Int)] } := ⟨by kernel_rfl, by kernel_rfl, fun _ => ⟨Try.t24, _, by kernel_rfl, rfl, fun w K A h => (.cons rfl .nil)⟩, Try.underlying24⟩
theorem ty26 : TyOK Try.prog 26 { d := .other, size := 1, z := [.nilf] } := ⟨by kernel_rfl, by kernel_rfl, fun _ => ⟨Try.t26, _, by kernel_rfl, rfl, fun w K A h => (.cons rfl .nil)⟩, trivial⟩
theorem ty27 : TyOK Try.prog 27 { d := .other, size := 1, z := [.nilf] } := ⟨by kernel_rfl, by kernel_rfl, fun _ => ⟨Try.t27, _, by kernel_rfl, rfl, fun w K A h => (.cons rfl .nil)⟩, trivial⟩
theorem ty28 : TyOK Try.prog 28 { d := .other, size := 1, z := [.nilf] } := ⟨by kernel_rfl, by kernel_rfl, fun _ => ⟨Try.t28, _, by kernel_rfl, rfl, fun w K A h => (.cons rfl .nil)⟩, trivial⟩
theorem ty29 : TyOK Try.prog 29 { d := .other, size := 1, z := [.nilf] } := ⟨by kernel_rfl, by kernel_rfl, fun _ => ⟨Try.t29, _, by kernel_rfl, rfl, fun w K A h => (.cons rfl .nil)⟩, trivial⟩
theorem ty30 : TyOK Try.prog 30 { d := .other, size := 1, z := [.nilf] } := ⟨by kernel_rfl, by kernel_rfl, fun _ => ⟨Try.t30, _, by kernel_rfl, rfl, fun w K A h => (.cons rfl .nil)⟩, trivial⟩
theorem ty31 : TyOK Try.prog 31 { d := .other, size := 1, z := [.nilf] } := ⟨by kernel_rfl, by kernel_rfl, fun _ => ⟨Try.t31, _, by kernel_rfl, rfl, fun w K A h => (.cons rfl .nil)⟩, trivial⟩
theorem ty32 : TyOK Try.prog 32 { d := .other, size := 1, z := [.nilf] } := ⟨by kernel_rfl, by kernel_rfl, fun _ => ⟨Try.t32, _, by kernel_rfl, rfl, fun w K A h => (.cons rfl .nil)⟩, trivial⟩
theorem ty33 : TyOK Try.prog 33 { d := .other, size := 1, z := [.nilf] } := ⟨by kernel_rfl, by kernel_rfl, fun _ => ⟨Try.t33, _, by kernel_rfl, rfl, fun w K A h => (.cons rfl .nil)⟩, trivial⟩
theorem ty34 : TyOK Try.prog 34 { d := .other, size := 1, z := [.nilf] } := ⟨by kernel_rfl, by kernel_rfl, fun _ => ⟨Try.t34, _, by kernel_rfl, rfl, fun w K A h => (.cons rfl .nil)⟩, trivial⟩
theorem ty35 : TyOK Try.prog 35 { d := .struct [(0, 1), (1, 1)] [], size := 2, z := [.dat (.int .i64) (0 : Int), .dat .str ByteArray.empty] } := ⟨by kernel_rfl, by kernel_rfl, fun _ => ⟨Try.t35, _, by kernel_rfl, rfl, fun w K A h => (.cons rfl (.cons rfl .nil))⟩, ⟨_, Try.underlying35, by kernel_rfl, fun xs ys b h => nomatch h⟩⟩
theorem ty36 : TyOK Try.prog 36 { d := .struct [(0, 1), (1, 1)] [.int .i64, .str], size := 2, z := [.dat (.int .i64) (0 : Int), .dat .str ByteArray.empty] } := ⟨by kernel_rfl, by kernel_rfl, fun _ => ⟨Try.t36, _, by kernel_rfl, rfl, fun w K A h => (.cons rfl (.cons rfl .nil))⟩, ⟨_, Try.underlying36, by kernel_rfl, by
    intro xs ys b h w x y
    rcases h with _ | ⟨h0, h⟩
    rcases h with ⟨h1⟩ | _
    cases h0; cases h1
    rename_i a0 b0 a1 b1
    refine ⟨by kernel_rfl, by kernel_rfl, ?_⟩
    show (Op.equalIn (9999 + 1) 36 _ _).run _ _ = .ok (decide (a0 = b0) && (decide (a1 = b1))) w
    exact eqA_of Try.underlying36 (by kernel_rfl) (eqf_cons (a := .int .i64 a0) (b := .int .i64 b0) (by kernel_rfl) (by kernel_rfl) (by kernel_rfl) (by kernel_rfl) (eqf_last (a := .string a1) (b := .string b1) (by kernel_rfl) (by kernel_rfl) (by kernel_rfl) (eq_str Try.underlying9 _ _)))⟩⟩
theorem ty37 : TyOK Try.prog 37 { d := .struct [(0, 1), (1, 1)] [], size := 2, z := [.dat .str ByteArray.empty, .dat .bool false] } := ⟨by kernel_rfl, by kernel_rfl, fun _ => ⟨Try.t37, _, by kernel_rfl, rfl, fun w K A h => (.cons rfl (.cons rfl .nil))⟩, ⟨_, Try.underlying37, by kernel_rfl, fun xs ys b h => nomatch h⟩⟩
theorem ty38 : TyOK Try.prog 38 { d := .struct [(0, 1), (1, 1)] [.str, .bool], size := 2, z := [.dat .str ByteArray.empty, .dat .bool false] } := ⟨by kernel_rfl, by kernel_rfl, fun _ => ⟨Try.t38, _, by kernel_rfl, rfl, fun w K A h => (.cons rfl (.cons rfl .nil))⟩, ⟨_, Try.underlying38, by kernel_rfl, by
    intro xs ys b h w x y
    rcases h with _ | ⟨h0, h⟩
    rcases h with ⟨h1⟩ | _
    cases h0; cases h1
    rename_i a0 b0 a1 b1
    refine ⟨by kernel_rfl, by kernel_rfl, ?_⟩
    show (Op.equalIn (9999 + 1) 38 _ _).run _ _ = .ok (decide (a0 = b0) && ((a1 == b1))) w
    exact eqA_of Try.underlying38 (by kernel_rfl) (eqf_cons (a := .string a0) (b := .string b0) (by kernel_rfl) (by kernel_rfl) (by kernel_rfl) (eq_str Try.underlying9 _ _) (eqf_last (a := .bool a1) (b := .bool b1) (by kernel_rfl) (by kernel_rfl) (by kernel_rfl) (by kernel_rfl)))⟩⟩
theorem ty39 : TyOK Try.prog 39 { d := .other, size := 1, z := [.nilf] } := ⟨by kernel_rfl, by kernel_rfl, fun _ => ⟨Try.t39, _, by kernel_rfl, rfl, fun w K A h => (.cons rfl .nil)⟩, trivial⟩
theorem ty41 : TyOK Try.prog 41 { d := .other, size := 1, z := [.nilf] } := ⟨by kernel_rfl, by kernel_rfl, fun _ => ⟨Try.t41, _, by kernel_rfl, rfl, fun w K A h => (.cons rfl .nil)⟩, trivial⟩
theorem ty42 : TyOK Try.prog 42 { d := .slice 36 (.pr (.int .i64) (.pr (.str) (.un))) 24, size := 1, z := [.nils] } := ⟨by kernel_rfl, by kernel_rfl, fun _ => ⟨Try.t42, _, by kernel_rfl, rfl, fun w K A h => (.cons rfl .nil)⟩, ⟨Try.underlying42, Try.t36, _, by kernel_rfl, rfl, rfl, rfl, rfl, by decide, by decide, fun w K => zR_36 w K⟩⟩
theorem ty44 : TyOK Try.prog 44 { d := .other, size := 1, z := [.nilf] } := ⟨by kernel_rfl, by kernel_rfl, fun _ => ⟨Try.t44, _, by kernel_rfl, rfl, fun w K A h => (.cons rfl .nil)⟩, trivial⟩
theorem ty45 : TyOK Try.prog 45 { d := .struct [(0, 2), (2, 1), (3, 1)] [], size := 4, z := [.dat .str ByteArray.empty, .dat .bool false, .nils, .dat (.int .i64) (0 : Int)] } := ⟨by kernel_rfl, by kernel_rfl, fun _ => ⟨Try.t45, _, by kernel_rfl, rfl, fun w K A h => (.cons rfl (.cons rfl (.cons rfl (.cons rfl .nil))))⟩, ⟨_, Try.underlying45, by kernel_rfl, fun xs ys b h => nomatch h⟩⟩
theorem ty46 : TyOK Try.prog 46 { d := .struct [(0, 2), (2, 1), (3, 1)] [], size := 4, z := [.dat .str ByteArray.empty, .dat .bool false, .nils, .dat (.int .i64) (0 : Int)] } := ⟨by kernel_rfl, by kernel_rfl, fun _ => ⟨Try.t46, _, by kernel_rfl, rfl, fun w K A h => (.cons rfl (.cons rfl (.cons rfl (.cons rfl .nil))))⟩, ⟨_, Try.underlying46, by kernel_rfl, fun xs ys b h => nomatch h⟩⟩
theorem ty47 : TyOK Try.prog 47 { d := .other, size := 1, z := [.nilf] } := ⟨by kernel_rfl, by kernel_rfl, fun _ => ⟨Try.t47, _, by kernel_rfl, rfl, fun w K A h => (.cons rfl .nil)⟩, trivial⟩
theorem ty48 : TyOK Try.prog 48 { d := .other, size := 1, z := [.nilf] } := ⟨by kernel_rfl, by kernel_rfl, fun _ => ⟨Try.t48, _, by kernel_rfl, rfl, fun w K A h => (.cons rfl .nil)⟩, trivial⟩
theorem ty49 : TyOK Try.prog 49 { d := .other, size := 1, z := [.nilf] } := ⟨by kernel_rfl, by kernel_rfl, fun _ => ⟨Try.t49, _, by kernel_rfl, rfl, fun w K A h => (.cons rfl .nil)⟩, trivial⟩
theorem ty50 : TyOK Try.prog 50 { d := .other, size := 1, z := [.nilf] } := ⟨by kernel_rfl, by kernel_rfl, fun _ => ⟨Try.t50, _, by kernel_rfl, rfl, fun w K A h => (.cons rfl .nil)⟩, trivial⟩
theorem ty51 : TyOK Try.prog 51 { d := .other, size := 1, z := [.nilf] } := ⟨by kernel_rfl, by kernel_rfl, fun _ => ⟨Try.t51, _, by kernel_rfl, rfl, fun w K A h => (.cons rfl .nil)⟩, trivial⟩
theorem ty52 : TyOK Try.prog 52 { d := .other, size := 1, z := [.nilf] } := ⟨by kernel_rfl, by kernel_rfl, fun _ => ⟨Try.t52, _, by kernel_rfl, rfl, fun w K A h => (.cons rfl .nil)⟩, trivial⟩
theorem ty53 : TyOK Try.prog 53 { d := .other, size := 1, z := [.nilf] } := ⟨by kernel_rfl, by kernel_rfl, fun _ => ⟨Try.t53, _, by kernel_rfl, rfl, fun w K A h => (.cons rfl .nil)⟩, trivial⟩
theorem ty54 : TyOK Try.prog 54 { d := .slice 3 (.int .i64) 8, size := 1, z := [.nils] } := ⟨by kernel_rfl, by kernel_rfl, fun _ => ⟨Try.t54, _, by kernel_rfl, rfl, fun w K A h => (.cons rfl .nil)⟩, ⟨Try.underlying54, Try.t3, _, by kernel_rfl, rfl, rfl, rfl, rfl, by decide, by decide, fun w K => zR_3 w K⟩⟩
theorem ty55 : TyOK Try.prog 55 { d := .other, size := 1, z := [.nilf] } := ⟨by kernel_rfl, by kernel_rfl, fun _ => ⟨Try.t55, _, by kernel_rfl, rfl, fun w K A h => (.cons rfl .nil)⟩, trivial⟩
theorem ty56 : TyOK Try.prog 56 { d := .slice 5 (.int .u8) 1, size := 1, z := [.nils] } := ⟨by kernel_rfl, by kernel_rfl, fun _ => ⟨Try.t56, _, by kernel_rfl, rfl, fun w K A h => (.cons rfl .nil)⟩, ⟨Try.underlying56, Try.t5, _, by kernel_rfl, rfl, rfl, rfl, rfl, by decide, by decide, fun w K => zR_5 w K⟩⟩
theorem ty57 : TyOK Try.prog 57 { d := .other, size := 1, z := [.nilf] } := ⟨by kernel_rfl, by kernel_rfl, fun _ => ⟨Try.t57, _, by kernel_rfl, rfl, fun w K A h => (.cons rfl .nil)⟩, trivial⟩
theorem ty58 : TyOK Try.prog 58 { d := .other, size := 1, z := [.nilp] } := ⟨by kernel_rfl, by kernel_rfl, fun _ => ⟨Try.t58, _, by kernel_rfl, rfl, fun w K A h => (.cons rfl .nil)⟩, trivial⟩
theorem ty59 : TyOK Try.prog 59 { d := .other, size := 1, z := [.nilf] } := ⟨by kernel_rfl, by kernel_rfl, fun _ => ⟨Try.t59, _, by kernel_rfl, rfl, fun w K A h => (.cons rfl .nil)⟩, trivial⟩
theorem ty60 : TyOK Try.prog 60 { d := .other, size := 1, z := [.nilf] } := ⟨by kernel_rfl, by kernel_rfl, fun _ => ⟨Try.t60, _, by kernel_rfl, rfl, fun w K A h => (.cons rfl .nil)⟩, trivial⟩
theorem ty61 : TyOK Try.prog 61 { d := .other, size := 1, z := [.nilf] } := ⟨by kernel_rfl, by kernel_rfl, fun _ => ⟨Try.t61, _, by kernel_rfl, rfl, fun w K A h => (.cons rfl .nil)⟩, trivial⟩
theorem ty62 : TyOK Try.prog 62 { d := .int .u64, size := 1, z := [.dat (.int .u64) (0 : Int)] } := ⟨by kernel_rfl, by kernel_rfl, fun _ => ⟨Try.t62, _, by kernel_rfl, rfl, fun w K A h => (.cons rfl .nil)⟩, Try.underlying62⟩
theorem ty63 : TyOK Try.prog 63 { d := .other, size := 1, z := [.nilf] } := ⟨by kernel_rfl, by kernel_rfl, fun _ => ⟨Try.t63, _, by kernel_rfl, rfl, fun w K A h => (.cons rfl .nil)⟩, trivial⟩
theorem ty64 : TyOK Try.prog 64 { d := .other, size := 1, z := [.nilf] } := ⟨by kernel_rfl, by kernel_rfl, fun _ => ⟨Try.t64, _, by kernel_rfl, rfl, fun w K A h => (.cons rfl .nil)⟩, trivial⟩
theorem ty65 : TyOK Try.prog 65 { d := .other, size := 1, z := [.nilf] } := ⟨by kernel_rfl, by kernel_rfl, fun _ => ⟨Try.t65, _, by kernel_rfl, rfl, fun w K A h => (.cons rfl .nil)⟩, trivial⟩
theorem ty66 : TyOK Try.prog 66 { d := .other, size := 1, z := [.nilf] } := ⟨by kernel_rfl, by kernel_rfl, fun _ => ⟨Try.t66, _, by kernel_rfl, rfl, fun w K A h => (.cons rfl .nil)⟩, trivial⟩
theorem ty67 : TyOK Try.prog 67 { d := .other, size := 1, z := [.nilf] } := ⟨by kernel_rfl, by kernel_rfl, fun _ => ⟨Try.t67, _, by kernel_rfl, rfl, fun w K A h => (.cons rfl .nil)⟩, trivial⟩
theorem ty68 : TyOK Try.prog 68 { d := .other, size := 1, z := [.nilf] } := ⟨by kernel_rfl, by kernel_rfl, fun _ => ⟨Try.t68, _, by kernel_rfl, rfl, fun w K A h => (.cons rfl .nil)⟩, trivial⟩
theorem ty69 : TyOK Try.prog 69 { d := .struct [] [], size := 0, z := [] } := ⟨by kernel_rfl, by kernel_rfl, fun _ => ⟨Try.t69, _, by kernel_rfl, rfl, fun w K A h => .nil⟩, ⟨_, Try.underlying69, by kernel_rfl, fun xs ys b h => nomatch h⟩⟩
theorem ty70 : TyOK Try.prog 70 { d := .struct [] [], size := 0, z := [] } := ⟨by kernel_rfl, by kernel_rfl, fun _ => ⟨Try.t70, _, by kernel_rfl, rfl, fun w K A h => .nil⟩, ⟨_, Try.underlying70, by kernel_rfl, fun xs ys b h => nomatch h⟩⟩
theorem ty71 : TyOK Try.prog 71 { d := .struct [] [], size := 0, z := [] } := ⟨by kernel_rfl, by kernel_rfl, fun _ => ⟨Try.t71, _, by kernel_rfl, rfl, fun w K A h => .nil⟩, ⟨_, Try.underlying71, by kernel_rfl, fun xs ys b h => nomatch h⟩⟩
theorem ty72 : TyOK Try.prog 72 { d := .struct [(0, 0), (0, 0), (0, 1)] [], size := 1, z := [.dat (.int .i64) (0 : Int)] } := ⟨by kernel_rfl, by kernel_rfl, fun _ => ⟨Try.t72, _, by kernel_rfl, rfl, fun w K A h => (.cons rfl .nil)⟩, ⟨_, Try.underlying72, by kernel_rfl, fun xs ys b h => nomatch h⟩⟩
theorem ty73 : TyOK Try.prog 73 { d := .struct [(0, 0), (0, 0), (0, 1)] [], size := 1, z := [.dat (.int .i64) (0 : Int)] } := ⟨by kernel_rfl, by kernel_rfl, fun _ => ⟨Try.t73, _, by kernel_rfl, rfl, fun w K A h => (.cons rfl .nil)⟩, ⟨_, Try.underlying73, by kernel_rfl, fun xs ys b h => nomatch h⟩⟩
theorem ty74 : TyOK Try.prog 74 { d := .other, size := 1, z := [.nilf] } := ⟨by kernel_rfl, by kernel_rfl, fun _ => ⟨Try.t74, _, by kernel_rfl, rfl, fun w K A h => (.cons rfl .nil)⟩, trivial⟩
theorem ty75 : TyOK Try.prog 75 { d := .other, size := 1, z := [.nilf] } := ⟨by kernel_rfl, by kernel_rfl, fun _ => ⟨Try.t75, _, by kernel_rfl, rfl, fun w K A h => (.cons rfl .nil)⟩, trivial⟩
theorem ty76 : TyOK Try.prog 76 { d := .other, size := 1, z := [.nilp] } := ⟨by kernel_rfl, by kernel_rfl, fun _ => ⟨Try.t76, _, by kernel_rfl, rfl, fun w K A h => (.cons rfl .nil)⟩, trivial⟩
theorem ty77 : TyOK Try.prog 77 { d := .other, size := 1, z := [.nilf] } := ⟨by kernel_rfl, by kernel_rfl, fun _ => ⟨Try.t77, _, by kernel_rfl, rfl, fun w K A h => (.cons rfl .nil)⟩, trivial⟩
theorem ty78 : TyOK Try.prog 78 { d := .other, size := 1, z := [.nilf] } := ⟨by kernel_rfl, by kernel_rfl, fun _ => ⟨Try.t78, _, by kernel_rfl, rfl, fun w K A h => (.cons rfl .nil)⟩, trivial⟩
theorem ty79 : TyOK Try.prog 79 { d := .other, size := 1, z := [.nilf] } := ⟨by kernel_rfl, by kernel_rfl, fun _ => ⟨Try.t79, _, by kernel_rfl, rfl, fun w K A h => (.cons rfl .nil)⟩, trivial⟩
theorem ty80 : TyOK Try.prog 80 { d := .other, size := 1, z := [.nilf] } := ⟨by kernel_rfl, by kernel_rfl, fun _ => ⟨Try.t80, _, by kernel_rfl, rfl, fun w K A h => (.cons rfl .nil)⟩, trivial⟩
theorem ty86 : TyOK Try.prog 86 { d := .other, size := 1, z := [.nilf] } := ⟨by kernel_rfl, by kernel_rfl, fun _ => ⟨Try.t86, _, by kernel_rfl, rfl, fun w K A h => (.cons rfl .nil)⟩, trivial⟩
theorem ty87 : TyOK Try.prog 87 { d := .int .u32, size := 1, z := [.dat (.int .u32) (0 : Int)] } := ⟨by kernel_rfl, by kernel_rfl, fun _ => ⟨Try.t87, _, by kernel_rfl, rfl, fun w K A h => (.cons rfl .nil)⟩, Try.underlying87⟩
theorem ty90 : TyOK Try.prog 90 { d := .other, size := 1, z := [.nilf] } := ⟨by kernel_rfl, by kernel_rfl, fun _ => ⟨Try.t90, _, by kernel_rfl, rfl, fun w K A h => (.cons rfl .nil)⟩, trivial⟩
theorem ty91 : TyOK Try.prog 91 { d := .other, size := 1, z := [.nilp] } := ⟨by kernel_rfl, by kernel_rfl, fun _ => ⟨Try.t91, _, by kernel_rfl, rfl, fun w K A h => (.cons rfl .nil)⟩, trivial⟩
theorem ty94 : TyOK Try.prog 94 { d := .struct [(0, 1), (1, 1), (2, 1), (3, 1), (4, 1), (5, 1), (6, 1), (7, 1), (8, 1), (9, 1), (10, 1)] [], size := 11, z := [.dat (.int .u64) (0 : Int), .dat (.int .u64) (0 : Int), .dat (.int .u32) (0 : Int), .dat (.int .u8) (0 : Int), .dat (.int .u8) (0 : Int), .dat (.int .u8) (0 : Int), .dat (.int .u8) (0 : Int), .nilf, .nilp, .dat (.int .i32) (0 : Int), .dat (.int .i32) (0 : Int)] } := ⟨by kernel_rfl, by kernel_rfl, fun _ => ⟨Try.t94, _, by kernel_rfl, rfl, fun w K A h => (.cons rfl (.cons rfl (.cons rfl (.cons rfl (.cons rfl (.cons rfl (.cons rfl (.cons rfl (.cons rfl (.cons rfl (.cons rfl .nil)))))))))))⟩, ⟨_, Try.underlying94, by kernel_rfl, fun xs ys b h => nomatch h⟩⟩
def types : List (Nat × Ty) := [
  (1, { d := .other, size := 1, z := [.nilf] }),
  (2, { d := .int .i64, size := 1, z := [.dat (.int .i64) (0 : Int)] }),
  (3, { d := .int .i64, size := 1, z := [.dat (.int .i64) (0 : Int)] }),
  (4, { d := .bool, size := 1, z := [.dat .bool false] }),
  (5, { d := .int .u8, size := 1, z := [.dat (.int .u8) (0 : Int)] }),
  (9, { d := .str, size := 1, z := [.dat .str ByteArray.empty] }),
  (12, { d := .int .u64, size := 1, z := [.dat (.int .u64) (0 : Int)] }),
  (17, { d := .other, size := 1, z := [.nilp] }),
  (21, { d := .int .i32, size := 1, z := [.dat (.int .i32) (0 : Int)] }),
  (22, { d := .struct [(0, 1), (1, 1)] [], size := 2, z := [.dat (.int .i64) (0 : Int), .dat (.int .i64) (0 : Int)] }),
  (23, { d := .struct [(0, 1), (1, 1)] [.int .i64, .int .i64], size := 2, z := [.dat (.int .i64) (0 : Int), .dat (.int .i64) (0 : Int)] }),
  (24, { d := .int .i64, size := 1, z := [.dat (.int .i64) (0 : Int)] }),
  (26, { d := .other, size := 1, z := [.nilf] }),
  (27, { d := .other, size := 1, z := [.nilf] }),
  (28, { d := .other, size := 1, z := [.nilf] }),
  (29, { d := .other, size := 1, z := [.nilf] }),
  (30, { d := .other, size := 1, z := [.nilf] }),
  (31, { d := .other, size := 1, z := [.nilf] }),
  (32, { d := .other, size := 1, z := [.nilf] }),
  (33, { d := .other, size := 1, z := [.nilf] }),
  (34, { d := .other, size := 1, z := [.nilf] }),
  (35, { d := .struct [(0, 1), (1, 1)] [], size := 2, z := [.dat (.int .i64) (0 : Int), .dat .str ByteArray.empty] }),
  (36, { d := .struct [(0, 1), (1, 1)] [.int .i64, .str], size := 2, z := [.dat (.int .i64) (0 : Int), .dat .str ByteArray.empty] }),
  (37, { d := .struct [(0, 1), (1, 1)] [], size := 2, z := [.dat .str ByteArray.empty, .dat .bool false] }),
  (38, { d := .struct [(0, 1), (1, 1)] [.str, .bool], size := 2, z := [.dat .str ByteArray.empty, .dat .bool false] }),
  (39, { d := .other, size := 1, z := [.nilf] }),
  (41, { d := .other, size := 1, z := [.nilf] }),
  (42, { d := .slice 36 (.pr (.int .i64) (.pr (.str) (.un))) 24, size := 1, z := [.nils] }),
  (44, { d := .other, size := 1, z := [.nilf] }),
  (45, { d := .struct [(0, 2), (2, 1), (3, 1)] [], size := 4, z := [.dat .str ByteArray.empty, .dat .bool false, .nils, .dat (.int .i64) (0 : Int)] }),
  (46, { d := .struct [(0, 2), (2, 1), (3, 1)] [], size := 4, z := [.dat .str ByteArray.empty, .dat .bool false, .nils, .dat (.int .i64) (0 : Int)] }),
  (47, { d := .other, size := 1, z := [.nilf] }),
  (48, { d := .other, size := 1, z := [.nilf] }),
  (49, { d := .other, size := 1, z := [.nilf] }),
  (50, { d := .other, size := 1, z := [.nilf] }),
  (51, { d := .other, size := 1, z := [.nilf] }),
  (52, { d := .other, size := 1, z := [.nilf] }),
  (53, { d := .other, size := 1, z := [.nilf] }),
  (54, { d := .slice 3 (.int .i64) 8, size := 1, z := [.nils] }),
  (55, { d := .other, size := 1, z := [.nilf] }),
  (56, { d := .slice 5 (.int .u8) 1, size := 1, z := [.nils] }),
  (57, { d := .other, size := 1, z := [.nilf] }),
  (58, { d := .other, size := 1, z := [.nilp] }),
  (59, { d := .other, size := 1, z := [.nilf] }),
  (60, { d := .other, size := 1, z := [.nilf] }),
  (61, { d := .other, size := 1, z := [.nilf] }),
  (62, { d := .int .u64, size := 1, z := [.dat (.int .u64) (0 : Int)] }),
  (63, { d := .other, size := 1, z := [.nilf] }),
  (64, { d := .other, size := 1, z := [.nilf] }),
  (65, { d := .other, size := 1, z := [.nilf] }),
  (66, { d := .other, size := 1, z := [.nilf] }),
  (67, { d := .other, size := 1, z := [.nilf] }),
  (68, { d := .other, size := 1, z := [.nilf] }),
  (69, { d := .struct [] [], size := 0, z := [] }),
  (70, { d := .struct [] [], size := 0, z := [] }),
  (71, { d := .struct [] [], size := 0, z := [] }),
  (72, { d := .struct [(0, 0), (0, 0), (0, 1)] [], size := 1, z := [.dat (.int .i64) (0 : Int)] }),
  (73, { d := .struct [(0, 0), (0, 0), (0, 1)] [], size := 1, z := [.dat (.int .i64) (0 : Int)] }),
  (74, { d := .other, size := 1, z := [.nilf] }),
  (75, { d := .other, size := 1, z := [.nilf] }),
  (76, { d := .other, size := 1, z := [.nilp] }),
  (77, { d := .other, size := 1, z := [.nilf] }),
  (78, { d := .other, size := 1, z := [.nilf] }),
  (79, { d := .other, size := 1, z := [.nilf] }),
  (80, { d := .other, size := 1, z := [.nilf] }),
  (86, { d := .other, size := 1, z := [.nilf] }),
  (87, { d := .int .u32, size := 1, z := [.dat (.int .u32) (0 : Int)] }),
  (90, { d := .other, size := 1, z := [.nilf] }),
  (91, { d := .other, size := 1, z := [.nilp] }),
  (94, { d := .struct [(0, 1), (1, 1), (2, 1), (3, 1), (4, 1), (5, 1), (6, 1), (7, 1), (8, 1), (9, 1), (10, 1)] [], size := 11, z := [.dat (.int .u64) (0 : Int), .dat (.int .u64) (0 : Int), .dat (.int .u32) (0 : Int), .dat (.int .u8) (0 : Int), .dat (.int .u8) (0 : Int), .dat (.int .u8) (0 : Int), .dat (.int .u8) (0 : Int), .nilf, .nilp, .dat (.int .i32) (0 : Int), .dat (.int .i32) (0 : Int)] })]
abbrev tt : TypeId → Option Ty := tabOf types
theorem tab : TabOK Try.prog tt := tab_of (.cons ty1 (.cons ty2 (.cons ty3 (.cons ty4 (.cons ty5 (.cons ty9 (.cons ty12 (.cons ty17 (.cons ty21 (.cons ty22 (.cons ty23 (.cons ty24 (.cons ty26 (.cons ty27 (.cons ty28 (.cons ty29 (.cons ty30 (.cons ty31 (.cons ty32 (.cons ty33 (.cons ty34 (.cons ty35 (.cons ty36 (.cons ty37 (.cons ty38 (.cons ty39 (.cons ty41 (.cons ty42 (.cons ty44 (.cons ty45 (.cons ty46 (.cons ty47 (.cons ty48 (.cons ty49 (.cons ty50 (.cons ty51 (.cons ty52 (.cons ty53 (.cons ty54 (.cons ty55 (.cons ty56 (.cons ty57 (.cons ty58 (.cons ty59 (.cons ty60 (.cons ty61 (.cons ty62 (.cons ty63 (.cons ty64 (.cons ty65 (.cons ty66 (.cons ty67 (.cons ty68 (.cons ty69 (.cons ty70 (.cons ty71 (.cons ty72 (.cons ty73 (.cons ty74 (.cons ty75 (.cons ty76 (.cons ty77 (.cons ty78 (.cons ty79 (.cons ty80 (.cons ty86 (.cons ty87 (.cons ty90 (.cons ty91 (.cons ty94 (.nil)))))))))))))))))))))))))))))))))))))))))))))))))))))))))))))))))))))))
end Go.Proofs.Ytiongkbkjfgimaa
