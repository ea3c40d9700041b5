/- Part 32 of my own framework and of the walks of functions: Ty, Pa, Pb, Pc, Pd, Pe, Pf, Pg, Ph, Pi, Pj. -/
import Derived.Test.YtcbheeddfginoaaOwn31
import Derived.Test.YtcbheeddfginoaaProg
import Derived.KernelRfl
set_option linter.unusedVariables false
set_option linter.unusedSimpArgs false

namespace Go.Proofs
open Go Go.Abs
@[go_sem] theorem lay1 : layOf Try.prog 1 = some ⟨1, false, 8, [.nilfn], .func⟩ := by kernel_rfl
@[go_sem] theorem ty1 : tyA Try.prog 1 = some ⟨⟨1, false, 8, [.nilfn], .func⟩, [], none, none⟩ := by kernel_rfl
@[go_sem] theorem lay2 : layOf Try.prog 2 = some ⟨1, false, 8, [.int .i64 0], (.int .i64)⟩ := by kernel_rfl
@[go_sem] theorem ty2 : tyA Try.prog 2 = some ⟨⟨1, false, 8, [.int .i64 0], (.int .i64)⟩, [], none, none⟩ := by kernel_rfl
@[go_sem] theorem lay3 : layOf Try.prog 3 = some ⟨1, false, 8, [.int .i64 0], (.int .i64)⟩ := by kernel_rfl
@[go_sem] theorem ty3 : tyA Try.prog 3 = some ⟨⟨1, false, 8, [.int .i64 0], (.int .i64)⟩, [], none, none⟩ := by kernel_rfl
@[go_sem] theorem lay4 : layOf Try.prog 4 = some ⟨1, false, 1, [.bool false], .bool⟩ := by kernel_rfl
@[go_sem] theorem ty4 : tyA Try.prog 4 = some ⟨⟨1, false, 1, [.bool false], .bool⟩, [], none, none⟩ := by kernel_rfl
@[go_sem] theorem lay5 : layOf Try.prog 5 = some ⟨1, false, 1, [.int .u8 0], (.int .u8)⟩ := by kernel_rfl
@[go_sem] theorem ty5 : tyA Try.prog 5 = some ⟨⟨1, false, 1, [.int .u8 0], (.int .u8)⟩, [], none, none⟩ := by kernel_rfl
@[go_sem] theorem lay6 : layOf Try.prog 6 = some ⟨1, false, 1, [.int .u8 0], (.int .u8)⟩ := by kernel_rfl
@[go_sem] theorem ty6 : tyA Try.prog 6 = some ⟨⟨1, false, 1, [.int .u8 0], (.int .u8)⟩, [], none, none⟩ := by kernel_rfl
@[go_sem] theorem lay7 : layOf Try.prog 7 = some ⟨4, true, 24, [.int .i64 0, .int .i64 0, .bool false, .int .u8 0], .struct⟩ := by kernel_rfl
@[go_sem] theorem ty7 : tyA Try.prog 7 = some ⟨⟨4, true, 24, [.int .i64 0, .int .i64 0, .bool false, .int .u8 0], .struct⟩, [(0, some ⟨1, false, 8, [.int .i64 0], (.int .i64)⟩), (1, some ⟨1, false, 8, [.int .i64 0], (.int .i64)⟩), (2, some ⟨1, false, 1, [.bool false], .bool⟩), (3, some ⟨1, false, 1, [.int .u8 0], (.int .u8)⟩)], none, none⟩ := by kernel_rfl
@[go_sem] theorem eqt7 : eqTy Try.prog 7 [(.int .i64), (.int .i64), .bool, (.int .u8)] = true := by kernel_rfl
@[go_sem] theorem lay8 : layOf Try.prog 8 = some ⟨4, true, 24, [.int .i64 0, .int .i64 0, .bool false, .int .u8 0], .struct⟩ := by kernel_rfl
@[go_sem] theorem ty8 : tyA Try.prog 8 = some ⟨⟨4, true, 24, [.int .i64 0, .int .i64 0, .bool false, .int .u8 0], .struct⟩, [(0, some ⟨1, false, 8, [.int .i64 0], (.int .i64)⟩), (1, some ⟨1, false, 8, [.int .i64 0], (.int .i64)⟩), (2, some ⟨1, false, 1, [.bool false], .bool⟩), (3, some ⟨1, false, 1, [.int .u8 0], (.int .u8)⟩)], none, none⟩ := by kernel_rfl
@[go_sem] theorem eqt8 : eqTy Try.prog 8 [(.int .i64), (.int .i64), .bool, (.int .u8)] = true := by kernel_rfl
@[go_sem] theorem lay9 : layOf Try.prog 9 = some ⟨1, false, 16, [.str ⟨#[]⟩], .str⟩ := by kernel_rfl
@[go_sem] theorem ty9 : tyA Try.prog 9 = some ⟨⟨1, false, 16, [.str ⟨#[]⟩], .str⟩, [], none, none⟩ := by kernel_rfl
@[go_sem] theorem lay10 : layOf Try.prog 10 = some ⟨1, false, 16, [.str ⟨#[]⟩], .str⟩ := by kernel_rfl
@[go_sem] theorem ty10 : tyA Try.prog 10 = some ⟨⟨1, false, 16, [.str ⟨#[]⟩], .str⟩, [], none, none⟩ := by kernel_rfl
@[go_sem] theorem lay11 : layOf Try.prog 11 = some ⟨1, false, 16, [.str ⟨#[]⟩], .str⟩ := by kernel_rfl
@[go_sem] theorem ty11 : tyA Try.prog 11 = some ⟨⟨1, false, 16, [.str ⟨#[]⟩], .str⟩, [], none, none⟩ := by kernel_rfl
@[go_sem] theorem lay12 : layOf Try.prog 12 = some ⟨1, false, 8, [.int .u64 0], (.int .u64)⟩ := by kernel_rfl
@[go_sem] theorem ty12 : tyA Try.prog 12 = some ⟨⟨1, false, 8, [.int .u64 0], (.int .u64)⟩, [], none, none⟩ := by kernel_rfl
@[go_sem] theorem lay13 : layOf Try.prog 13 = some ⟨2, true, 24, [.str ⟨#[]⟩, .int .u64 0], .struct⟩ := by kernel_rfl
@[go_sem] theorem ty13 : tyA Try.prog 13 = some ⟨⟨2, true, 24, [.str ⟨#[]⟩, .int .u64 0], .struct⟩, [(0, some ⟨1, false, 16, [.str ⟨#[]⟩], .str⟩), (1, some ⟨1, false, 8, [.int .u64 0], (.int .u64)⟩)], none, none⟩ := by kernel_rfl
@[go_sem] theorem lay14 : layOf Try.prog 14 = some ⟨2, true, 24, [.str ⟨#[]⟩, .int .u64 0], .struct⟩ := by kernel_rfl
@[go_sem] theorem ty14 : tyA Try.prog 14 = some ⟨⟨2, true, 24, [.str ⟨#[]⟩, .int .u64 0], .struct⟩, [(0, some ⟨1, false, 16, [.str ⟨#[]⟩], .str⟩), (1, some ⟨1, false, 8, [.int .u64 0], (.int .u64)⟩)], none, none⟩ := by kernel_rfl
@[go_sem] theorem lay15 : layOf Try.prog 15 = some ⟨1, false, 8, [.nilptr], .ptr⟩ := by kernel_rfl
@[go_sem] theorem ty15 : tyA Try.prog 15 = some ⟨⟨1, false, 8, [.nilptr], .ptr⟩, [], none, none⟩ := by kernel_rfl
@[go_sem] theorem lay16 : layOf Try.prog 16 = some ⟨1, false, 8, [.nilptr], .ptr⟩ := by kernel_rfl
@[go_sem] theorem ty16 : tyA Try.prog 16 = some ⟨⟨1, false, 8, [.nilptr], .ptr⟩, [], none, none⟩ := by kernel_rfl
@[go_sem] theorem lay17 : layOf Try.prog 17 = some ⟨1, false, 8, [.nilptr], .ptr⟩ := by kernel_rfl
@[go_sem] theorem ty17 : tyA Try.prog 17 = some ⟨⟨1, false, 8, [.nilptr], .ptr⟩, [], none, none⟩ := by kernel_rfl
@[go_sem] theorem lay18 : layOf Try.prog 18 = some ⟨1, true, 8, [.nilptr], .struct⟩ := by kernel_rfl
@[go_sem] theorem ty18 : tyA Try.prog 18 = some ⟨⟨1, true, 8, [.nilptr], .struct⟩, [(0, some ⟨1, false, 8, [.nilptr], .ptr⟩)], none, none⟩ := by kernel_rfl
@[go_sem] theorem lay19 : layOf Try.prog 19 = some ⟨1, true, 8, [.nilptr], .struct⟩ := by kernel_rfl
@[go_sem] theorem ty19 : tyA Try.prog 19 = some ⟨⟨1, true, 8, [.nilptr], .struct⟩, [(0, some ⟨1, false, 8, [.nilptr], .ptr⟩)], none, none⟩ := by kernel_rfl
@[go_sem] theorem lay20 : layOf Try.prog 20 = some ⟨1, false, 16, [.nilif], .iface⟩ := by kernel_rfl
@[go_sem] theorem ty20 : tyA Try.prog 20 = some ⟨⟨1, false, 16, [.nilif], .iface⟩, [], none, none⟩ := by kernel_rfl
@[go_sem] theorem lay21 : layOf Try.prog 21 = some ⟨1, false, 4, [.int .i32 0], (.int .i32)⟩ := by kernel_rfl
@[go_sem] theorem ty21 : tyA Try.prog 21 = some ⟨⟨1, false, 4, [.int .i32 0], (.int .i32)⟩, [], none, none⟩ := by kernel_rfl
@[go_sem] theorem lay22 : layOf Try.prog 22 = some ⟨1, false, 24, [.nils], .slice⟩ := by kernel_rfl
@[go_sem] theorem ty22 : tyA Try.prog 22 = some ⟨⟨1, false, 24, [.nils], .slice⟩, [], some ⟨4, true, 40, [.str ⟨#[]⟩, .int .i64 0, .int .i64 0, .bool false], .struct⟩, none⟩ := by kernel_rfl
@[go_sem] theorem lay23 : layOf Try.prog 23 = some ⟨1, false, 24, [.nils], .slice⟩ := by kernel_rfl
@[go_sem] theorem ty23 : tyA Try.prog 23 = some ⟨⟨1, false, 24, [.nils], .slice⟩, [], some ⟨1, false, 24, [.nils], .slice⟩, none⟩ := by kernel_rfl
@[go_sem] theorem lay24 : layOf Try.prog 24 = some ⟨2, true, 32, [.int .i64 0, .nils], .struct⟩ := by kernel_rfl
@[go_sem] theorem ty24 : tyA Try.prog 24 = some ⟨⟨2, true, 32, [.int .i64 0, .nils], .struct⟩, [(0, some ⟨1, false, 8, [.int .i64 0], (.int .i64)⟩), (1, some ⟨1, false, 24, [.nils], .slice⟩)], none, none⟩ := by kernel_rfl
@[go_sem] theorem lay25 : layOf Try.prog 25 = some ⟨2, true, 32, [.int .i64 0, .nils], .struct⟩ := by kernel_rfl
@[go_sem] theorem ty25 : tyA Try.prog 25 = some ⟨⟨2, true, 32, [.int .i64 0, .nils], .struct⟩, [(0, some ⟨1, false, 8, [.int .i64 0], (.int .i64)⟩), (1, some ⟨1, false, 24, [.nils], .slice⟩)], none, none⟩ := by kernel_rfl
@[go_sem] theorem lay26 : layOf Try.prog 26 = some ⟨1, false, 24, [.nils], .slice⟩ := by kernel_rfl
@[go_sem] theorem ty26 : tyA Try.prog 26 = some ⟨⟨1, false, 24, [.nils], .slice⟩, [], some ⟨2, true, 32, [.int .i64 0, .nils], .struct⟩, none⟩ := by kernel_rfl
@[go_sem] theorem lay27 : layOf Try.prog 27 = some ⟨2, true, 32, [.int .i64 0, .nils], .struct⟩ := by kernel_rfl
@[go_sem] theorem ty27 : tyA Try.prog 27 = some ⟨⟨2, true, 32, [.int .i64 0, .nils], .struct⟩, [(0, some ⟨1, false, 8, [.int .i64 0], (.int .i64)⟩), (1, some ⟨1, false, 24, [.nils], .slice⟩)], none, none⟩ := by kernel_rfl
@[go_sem] theorem lay28 : layOf Try.prog 28 = some ⟨2, true, 32, [.int .i64 0, .nils], .struct⟩ := by kernel_rfl
@[go_sem] theorem ty28 : tyA Try.prog 28 = some ⟨⟨2, true, 32, [.int .i64 0, .nils], .struct⟩, [(0, some ⟨1, false, 8, [.int .i64 0], (.int .i64)⟩), (1, some ⟨1, false, 24, [.nils], .slice⟩)], none, none⟩ := by kernel_rfl
@[go_sem] theorem lay29 : layOf Try.prog 29 = some ⟨1, false, 24, [.nils], .slice⟩ := by kernel_rfl
@[go_sem] theorem ty29 : tyA Try.prog 29 = some ⟨⟨1, false, 24, [.nils], .slice⟩, [], some ⟨1, false, 8, [.int .i64 0], (.int .i64)⟩, none⟩ := by kernel_rfl
@[go_sem] theorem lay30 : layOf Try.prog 30 = some ⟨1, false, 24, [.nils], .slice⟩ := by kernel_rfl
@[go_sem] theorem ty30 : tyA Try.prog 30 = some ⟨⟨1, false, 24, [.nils], .slice⟩, [], some ⟨5, true, 72, [.bool false, .int .i64 0, .nils, .int .i64 0, .nils], .struct⟩, none⟩ := by kernel_rfl
@[go_sem] theorem lay31 : layOf Try.prog 31 = some ⟨1, false, 8, [.nilfn], .func⟩ := by kernel_rfl
@[go_sem] theorem ty31 : tyA Try.prog 31 = some ⟨⟨1, false, 8, [.nilfn], .func⟩, [], none, none⟩ := by kernel_rfl
@[go_sem] theorem lay32 : layOf Try.prog 32 = some ⟨1, false, 8, [.nilfn], .func⟩ := by kernel_rfl
@[go_sem] theorem ty32 : tyA Try.prog 32 = some ⟨⟨1, false, 8, [.nilfn], .func⟩, [], none, none⟩ := by kernel_rfl
@[go_sem] theorem lay33 : layOf Try.prog 33 = some ⟨1, false, 8, [.nilfn], .func⟩ := by kernel_rfl
@[go_sem] theorem ty33 : tyA Try.prog 33 = some ⟨⟨1, false, 8, [.nilfn], .func⟩, [], none, none⟩ := by kernel_rfl
@[go_sem] theorem lay34 : layOf Try.prog 34 = some ⟨1, false, 8, [.int .i64 0], (.int .i64)⟩ := by kernel_rfl
@[go_sem] theorem ty34 : tyA Try.prog 34 = some ⟨⟨1, false, 8, [.int .i64 0], (.int .i64)⟩, [], none, none⟩ := by kernel_rfl
@[go_sem] theorem lay36 : layOf Try.prog 36 = some ⟨1, false, 8, [.nilfn], .func⟩ := by kernel_rfl
@[go_sem] theorem ty36 : tyA Try.prog 36 = some ⟨⟨1, false, 8, [.nilfn], .func⟩, [], none, none⟩ := by kernel_rfl
@[go_sem] theorem lay38 : layOf Try.prog 38 = some ⟨1, false, 8, [.nilfn], .func⟩ := by kernel_rfl
@[go_sem] theorem ty38 : tyA Try.prog 38 = some ⟨⟨1, false, 8, [.nilfn], .func⟩, [], none, none⟩ := by kernel_rfl
@[go_sem] theorem lay39 : layOf Try.prog 39 = some ⟨1, false, 8, [.nilfn], .func⟩ := by kernel_rfl
@[go_sem] theorem ty39 : tyA Try.prog 39 = some ⟨⟨1, false, 8, [.nilfn], .func⟩, [], none, none⟩ := by kernel_rfl
@[go_sem] theorem lay40 : layOf Try.prog 40 = some ⟨1, false, 8, [.nilfn], .func⟩ := by kernel_rfl
@[go_sem] theorem ty40 : tyA Try.prog 40 = some ⟨⟨1, false, 8, [.nilfn], .func⟩, [], none, none⟩ := by kernel_rfl
@[go_sem] theorem lay41 : layOf Try.prog 41 = some ⟨1, false, 8, [.nilfn], .func⟩ := by kernel_rfl
@[go_sem] theorem ty41 : tyA Try.prog 41 = some ⟨⟨1, false, 8, [.nilfn], .func⟩, [], none, none⟩ := by kernel_rfl
@[go_sem] theorem lay42 : layOf Try.prog 42 = some ⟨1, false, 8, [.nilfn], .func⟩ := by kernel_rfl
@[go_sem] theorem ty42 : tyA Try.prog 42 = some ⟨⟨1, false, 8, [.nilfn], .func⟩, [], none, none⟩ := by kernel_rfl
@[go_sem] theorem lay43 : layOf Try.prog 43 = some ⟨1, false, 24, [.nils], .slice⟩ := by kernel_rfl
@[go_sem] theorem ty43 : tyA Try.prog 43 = some ⟨⟨1, false, 24, [.nils], .slice⟩, [], some ⟨3, true, 48, [.bool false, .str ⟨#[]⟩, .nils], .struct⟩, none⟩ := by kernel_rfl
@[go_sem] theorem lay44 : layOf Try.prog 44 = some ⟨3, true, 48, [.bool false, .str ⟨#[]⟩, .nils], .struct⟩ := by kernel_rfl
@[go_sem] theorem ty44 : tyA Try.prog 44 = some ⟨⟨3, true, 48, [.bool false, .str ⟨#[]⟩, .nils], .struct⟩, [(0, some ⟨1, false, 1, [.bool false], .bool⟩), (1, some ⟨1, false, 16, [.str ⟨#[]⟩], .str⟩), (2, some ⟨1, false, 24, [.nils], .slice⟩)], none, none⟩ := by kernel_rfl
@[go_sem] theorem lay45 : layOf Try.prog 45 = some ⟨3, true, 48, [.bool false, .str ⟨#[]⟩, .nils], .struct⟩ := by kernel_rfl
@[go_sem] theorem ty45 : tyA Try.prog 45 = some ⟨⟨3, true, 48, [.bool false, .str ⟨#[]⟩, .nils], .struct⟩, [(0, some ⟨1, false, 1, [.bool false], .bool⟩), (1, some ⟨1, false, 16, [.str ⟨#[]⟩], .str⟩), (2, some ⟨1, false, 24, [.nils], .slice⟩)], none, none⟩ := by kernel_rfl
@[go_sem] theorem lay46 : layOf Try.prog 46 = some ⟨1, false, 24, [.nils], .slice⟩ := by kernel_rfl
@[go_sem] theorem ty46 : tyA Try.prog 46 = some ⟨⟨1, false, 24, [.nils], .slice⟩, [], some ⟨1, false, 16, [.str ⟨#[]⟩], .str⟩, none⟩ := by kernel_rfl
@[go_sem] theorem lay47 : layOf Try.prog 47 = some ⟨1, false, 24, [.nils], .slice⟩ := by kernel_rfl
@[go_sem] theorem ty47 : tyA Try.prog 47 = some ⟨⟨1, false, 24, [.nils], .slice⟩, [], some ⟨9, true, 152, [.int .i64 0, .bool false, .str ⟨#[]⟩, .nils, .bool false, .str ⟨#[]⟩, .nils, .nils, .nils], .struct⟩, none⟩ := by kernel_rfl
@[go_sem] theorem lay48 : layOf Try.prog 48 = some ⟨9, true, 152, [.int .i64 0, .bool false, .str ⟨#[]⟩, .nils, .bool false, .str ⟨#[]⟩, .nils, .nils, .nils], .struct⟩ := by kernel_rfl
@[go_sem] theorem ty48 : tyA Try.prog 48 = some ⟨⟨9, true, 152, [.int .i64 0, .bool false, .str ⟨#[]⟩, .nils, .bool false, .str ⟨#[]⟩, .nils, .nils, .nils], .struct⟩, [(0, some ⟨1, false, 8, [.int .i64 0], (.int .i64)⟩), (1, some ⟨3, true, 48, [.bool false, .str ⟨#[]⟩, .nils], .struct⟩), (4, some ⟨3, true, 48, [.bool false, .str ⟨#[]⟩, .nils], .struct⟩), (7, some ⟨1, false, 24, [.nils], .slice⟩), (8, some ⟨1, false, 24, [.nils], .slice⟩)], none, none⟩ := by kernel_rfl
@[go_sem] theorem lay49 : layOf Try.prog 49 = some ⟨9, true, 152, [.int .i64 0, .bool false, .str ⟨#[]⟩, .nils, .bool false, .str ⟨#[]⟩, .nils, .nils, .nils], .struct⟩ := by kernel_rfl
@[go_sem] theorem ty49 : tyA Try.prog 49 = some ⟨⟨9, true, 152, [.int .i64 0, .bool false, .str ⟨#[]⟩, .nils, .bool false, .str ⟨#[]⟩, .nils, .nils, .nils], .struct⟩, [(0, some ⟨1, false, 8, [.int .i64 0], (.int .i64)⟩), (1, some ⟨3, true, 48, [.bool false, .str ⟨#[]⟩, .nils], .struct⟩), (4, some ⟨3, true, 48, [.bool false, .str ⟨#[]⟩, .nils], .struct⟩), (7, some ⟨1, false, 24, [.nils], .slice⟩), (8, some ⟨1, false, 24, [.nils], .slice⟩)], none, none⟩ := by kernel_rfl
@[go_sem] theorem lay50 : layOf Try.prog 50 = some ⟨1, false, 8, [.nilfn], .func⟩ := by kernel_rfl
@[go_sem] theorem ty50 : tyA Try.prog 50 = some ⟨⟨1, false, 8, [.nilfn], .func⟩, [], none, none⟩ := by kernel_rfl
@[go_sem] theorem lay51 : layOf Try.prog 51 = some ⟨1, false, 8, [.nilfn], .func⟩ := by kernel_rfl
@[go_sem] theorem ty51 : tyA Try.prog 51 = some ⟨⟨1, false, 8, [.nilfn], .func⟩, [], none, none⟩ := by kernel_rfl
@[go_sem] theorem lay53 : layOf Try.prog 53 = some ⟨1, false, 8, [.nilfn], .func⟩ := by kernel_rfl
@[go_sem] theorem ty53 : tyA Try.prog 53 = some ⟨⟨1, false, 8, [.nilfn], .func⟩, [], none, none⟩ := by kernel_rfl
@[go_sem] theorem lay54 : layOf Try.prog 54 = some ⟨1, false, 8, [.nilfn], .func⟩ := by kernel_rfl
@[go_sem] theorem ty54 : tyA Try.prog 54 = some ⟨⟨1, false, 8, [.nilfn], .func⟩, [], none, none⟩ := by kernel_rfl
@[go_sem] theorem lay55 : layOf Try.prog 55 = some ⟨1, false, 8, [.nilfn], .func⟩ := by kernel_rfl
@[go_sem] theorem ty55 : tyA Try.prog 55 = some ⟨⟨1, false, 8, [.nilfn], .func⟩, [], none, none⟩ := by kernel_rfl
@[go_sem] theorem lay56 : layOf Try.prog 56 = some ⟨5, true, 72, [.bool false, .int .i64 0, .nils, .int .i64 0, .nils], .struct⟩ := by kernel_rfl
@[go_sem] theorem ty56 : tyA Try.prog 56 = some ⟨⟨5, true, 72, [.bool false, .int .i64 0, .nils, .int .i64 0, .nils], .struct⟩, [(0, some ⟨1, false, 1, [.bool false], .bool⟩), (1, some ⟨2, true, 32, [.int .i64 0, .nils], .struct⟩), (3, some ⟨2, true, 32, [.int .i64 0, .nils], .struct⟩)], none, none⟩ := by kernel_rfl
@[go_sem] theorem lay57 : layOf Try.prog 57 = some ⟨5, true, 72, [.bool false, .int .i64 0, .nils, .int .i64 0, .nils], .struct⟩ := by kernel_rfl
@[go_sem] theorem ty57 : tyA Try.prog 57 = some ⟨⟨5, true, 72, [.bool false, .int .i64 0, .nils, .int .i64 0, .nils], .struct⟩, [(0, some ⟨1, false, 1, [.bool false], .bool⟩), (1, some ⟨2, true, 32, [.int .i64 0, .nils], .struct⟩), (3, some ⟨2, true, 32, [.int .i64 0, .nils], .struct⟩)], none, none⟩ := by kernel_rfl
@[go_sem] theorem lay58 : layOf Try.prog 58 = some ⟨1, false, 8, [.nilfn], .func⟩ := by kernel_rfl
@[go_sem] theorem ty58 : tyA Try.prog 58 = some ⟨⟨1, false, 8, [.nilfn], .func⟩, [], none, none⟩ := by kernel_rfl
@[go_sem] theorem lay59 : layOf Try.prog 59 = some ⟨1, false, 8, [.nilfn], .func⟩ := by kernel_rfl
@[go_sem] theorem ty59 : tyA Try.prog 59 = some ⟨⟨1, false, 8, [.nilfn], .func⟩, [], none, none⟩ := by kernel_rfl
@[go_sem] theorem lay60 : layOf Try.prog 60 = some ⟨1, false, 8, [.nilfn], .func⟩ := by kernel_rfl
@[go_sem] theorem ty60 : tyA Try.prog 60 = some ⟨⟨1, false, 8, [.nilfn], .func⟩, [], none, none⟩ := by kernel_rfl
@[go_sem] theorem lay61 : layOf Try.prog 61 = some ⟨1, false, 8, [.nilfn], .func⟩ := by kernel_rfl
@[go_sem] theorem ty61 : tyA Try.prog 61 = some ⟨⟨1, false, 8, [.nilfn], .func⟩, [], none, none⟩ := by kernel_rfl
@[go_sem] theorem lay62 : layOf Try.prog 62 = some ⟨1, false, 8, [.nilfn], .func⟩ := by kernel_rfl
@[go_sem] theorem ty62 : tyA Try.prog 62 = some ⟨⟨1, false, 8, [.nilfn], .func⟩, [], none, none⟩ := by kernel_rfl
@[go_sem] theorem lay63 : layOf Try.prog 63 = some ⟨1, false, 8, [.nilfn], .func⟩ := by kernel_rfl
@[go_sem] theorem ty63 : tyA Try.prog 63 = some ⟨⟨1, false, 8, [.nilfn], .func⟩, [], none, none⟩ := by kernel_rfl
@[go_sem] theorem lay64 : layOf Try.prog 64 = some ⟨1, false, 8, [.nilfn], .func⟩ := by kernel_rfl
@[go_sem] theorem ty64 : tyA Try.prog 64 = some ⟨⟨1, false, 8, [.nilfn], .func⟩, [], none, none⟩ := by kernel_rfl
@[go_sem] theorem lay65 : layOf Try.prog 65 = some ⟨1, false, 8, [.nilfn], .func⟩ := by kernel_rfl
@[go_sem] theorem ty65 : tyA Try.prog 65 = some ⟨⟨1, false, 8, [.nilfn], .func⟩, [], none, none⟩ := by kernel_rfl
@[go_sem] theorem lay66 : layOf Try.prog 66 = some ⟨1, false, 8, [.nilfn], .func⟩ := by kernel_rfl
@[go_sem] theorem ty66 : tyA Try.prog 66 = some ⟨⟨1, false, 8, [.nilfn], .func⟩, [], none, none⟩ := by kernel_rfl
@[go_sem] theorem lay67 : layOf Try.prog 67 = some ⟨1, false, 8, [.nilfn], .func⟩ := by kernel_rfl
@[go_sem] theorem ty67 : tyA Try.prog 67 = some ⟨⟨1, false, 8, [.nilfn], .func⟩, [], none, none⟩ := by kernel_rfl
@[go_sem] theorem lay68 : layOf Try.prog 68 = some ⟨1, false, 8, [.nilfn], .func⟩ := by kernel_rfl
@[go_sem] theorem ty68 : tyA Try.prog 68 = some ⟨⟨1, false, 8, [.nilfn], .func⟩, [], none, none⟩ := by kernel_rfl
@[go_sem] theorem lay69 : layOf Try.prog 69 = some ⟨1, false, 8, [.nilfn], .func⟩ := by kernel_rfl
@[go_sem] theorem ty69 : tyA Try.prog 69 = some ⟨⟨1, false, 8, [.nilfn], .func⟩, [], none, none⟩ := by kernel_rfl
@[go_sem] theorem lay70 : layOf Try.prog 70 = some ⟨1, false, 8, [.nilfn], .func⟩ := by kernel_rfl
@[go_sem] theorem ty70 : tyA Try.prog 70 = some ⟨⟨1, false, 8, [.nilfn], .func⟩, [], none, none⟩ := by kernel_rfl
@[go_sem] theorem lay71 : layOf Try.prog 71 = some ⟨1, false, 8, [.nilfn], .func⟩ := by kernel_rfl
@[go_sem] theorem ty71 : tyA Try.prog 71 = some ⟨⟨1, false, 8, [.nilfn], .func⟩, [], none, none⟩ := by kernel_rfl
@[go_sem] theorem lay72 : layOf Try.prog 72 = some ⟨1, false, 8, [.nilfn], .func⟩ := by kernel_rfl
@[go_sem] theorem ty72 : tyA Try.prog 72 = some ⟨⟨1, false, 8, [.nilfn], .func⟩, [], none, none⟩ := by kernel_rfl
@[go_sem] theorem lay73 : layOf Try.prog 73 = some ⟨1, false, 8, [.nilfn], .func⟩ := by kernel_rfl
@[go_sem] theorem ty73 : tyA Try.prog 73 = some ⟨⟨1, false, 8, [.nilfn], .func⟩, [], none, none⟩ := by kernel_rfl
@[go_sem] theorem lay74 : layOf Try.prog 74 = some ⟨1, false, 8, [.nilfn], .func⟩ := by kernel_rfl
@[go_sem] theorem ty74 : tyA Try.prog 74 = some ⟨⟨1, false, 8, [.nilfn], .func⟩, [], none, none⟩ := by kernel_rfl
@[go_sem] theorem lay75 : layOf Try.prog 75 = some ⟨1, false, 8, [.nilmap], .map⟩ := by kernel_rfl
@[go_sem] theorem ty75 : tyA Try.prog 75 = some ⟨⟨1, false, 8, [.nilmap], .map⟩, [], some ⟨1, false, 8, [.int .i64 0], (.int .i64)⟩, some ⟨1, false, 8, [.int .i64 0], (.int .i64)⟩⟩ := by kernel_rfl
@[go_sem] theorem lay76 : layOf Try.prog 76 = some ⟨1, false, 8, [.nilfn], .func⟩ := by kernel_rfl
@[go_sem] theorem ty76 : tyA Try.prog 76 = some ⟨⟨1, false, 8, [.nilfn], .func⟩, [], none, none⟩ := by kernel_rfl
@[go_sem] theorem lay78 : layOf Try.prog 78 = some ⟨1, false, 8, [.nilfn], .func⟩ := by kernel_rfl
@[go_sem] theorem ty78 : tyA Try.prog 78 = some ⟨⟨1, false, 8, [.nilfn], .func⟩, [], none, none⟩ := by kernel_rfl
@[go_sem] theorem lay79 : layOf Try.prog 79 = some ⟨1, false, 8, [.nilfn], .func⟩ := by kernel_rfl
@[go_sem] theorem ty79 : tyA Try.prog 79 = some ⟨⟨1, false, 8, [.nilfn], .func⟩, [], none, none⟩ := by kernel_rfl
@[go_sem] theorem lay80 : layOf Try.prog 80 = some ⟨1, false, 8, [.nilfn], .func⟩ := by kernel_rfl
@[go_sem] theorem ty80 : tyA Try.prog 80 = some ⟨⟨1, false, 8, [.nilfn], .func⟩, [], none, none⟩ := by kernel_rfl
@[go_sem] theorem lay81 : layOf Try.prog 81 = some ⟨1, false, 8, [.nilfn], .func⟩ := by kernel_rfl
@[go_sem] theorem ty81 : tyA Try.prog 81 = some ⟨⟨1, false, 8, [.nilfn], .func⟩, [], none, none⟩ := by kernel_rfl
@[go_sem] theorem lay82 : layOf Try.prog 82 = some ⟨4, true, 40, [.str ⟨#[]⟩, .int .i64 0, .int .i64 0, .bool false], .struct⟩ := by kernel_rfl
@[go_sem] theorem ty82 : tyA Try.prog 82 = some ⟨⟨4, true, 40, [.str ⟨#[]⟩, .int .i64 0, .int .i64 0, .bool false], .struct⟩, [(0, some ⟨1, false, 16, [.str ⟨#[]⟩], .str⟩), (1, some ⟨1, false, 8, [.int .i64 0], (.int .i64)⟩), (2, some ⟨1, false, 8, [.int .i64 0], (.int .i64)⟩), (3, some ⟨1, false, 1, [.bool false], .bool⟩)], none, none⟩ := by kernel_rfl
@[go_sem] theorem eqt82 : eqTy Try.prog 82 [.str, (.int .i64), (.int .i64), .bool] = true := by kernel_rfl
@[go_sem] theorem lay83 : layOf Try.prog 83 = some ⟨4, true, 40, [.str ⟨#[]⟩, .int .i64 0, .int .i64 0, .bool false], .struct⟩ := by kernel_rfl
@[go_sem] theorem ty83 : tyA Try.prog 83 = some ⟨⟨4, true, 40, [.str ⟨#[]⟩, .int .i64 0, .int .i64 0, .bool false], .struct⟩, [(0, some ⟨1, false, 16, [.str ⟨#[]⟩], .str⟩), (1, some ⟨1, false, 8, [.int .i64 0], (.int .i64)⟩), (2, some ⟨1, false, 8, [.int .i64 0], (.int .i64)⟩), (3, some ⟨1, false, 1, [.bool false], .bool⟩)], none, none⟩ := by kernel_rfl
@[go_sem] theorem eqt83 : eqTy Try.prog 83 [.str, (.int .i64), (.int .i64), .bool] = true := by kernel_rfl
@[go_sem] theorem lay84 : layOf Try.prog 84 = some ⟨1, false, 8, [.nilfn], .func⟩ := by kernel_rfl
@[go_sem] theorem ty84 : tyA Try.prog 84 = some ⟨⟨1, false, 8, [.nilfn], .func⟩, [], none, none⟩ := by kernel_rfl
@[go_sem] theorem lay85 : layOf Try.prog 85 = some ⟨1, false, 8, [.nilfn], .func⟩ := by kernel_rfl
@[go_sem] theorem ty85 : tyA Try.prog 85 = some ⟨⟨1, false, 8, [.nilfn], .func⟩, [], none, none⟩ := by kernel_rfl
@[go_sem] theorem lay86 : layOf Try.prog 86 = some ⟨1, false, 8, [.nilfn], .func⟩ := by kernel_rfl
@[go_sem] theorem ty86 : tyA Try.prog 86 = some ⟨⟨1, false, 8, [.nilfn], .func⟩, [], none, none⟩ := by kernel_rfl
@[go_sem] theorem lay87 : layOf Try.prog 87 = some ⟨1, false, 8, [.nilptr], .ptr⟩ := by kernel_rfl
@[go_sem] theorem ty87 : tyA Try.prog 87 = some ⟨⟨1, false, 8, [.nilptr], .ptr⟩, [], none, none⟩ := by kernel_rfl
@[go_sem] theorem lay88 : layOf Try.prog 88 = some ⟨1, false, 8, [.nilmap], .map⟩ := by kernel_rfl
@[go_sem] theorem ty88 : tyA Try.prog 88 = some ⟨⟨1, false, 8, [.nilmap], .map⟩, [], some ⟨1, false, 8, [.int .i64 0], (.int .i64)⟩, some ⟨1, false, 16, [.str ⟨#[]⟩], .str⟩⟩ := by kernel_rfl
@[go_sem] theorem lay89 : layOf Try.prog 89 = some ⟨5, true, 72, [.int .i64 0, .nils, .nils, .nilmap, .bool false], .struct⟩ := by kernel_rfl
@[go_sem] theorem ty89 : tyA Try.prog 89 = some ⟨⟨5, true, 72, [.int .i64 0, .nils, .nils, .nilmap, .bool false], .struct⟩, [(0, some ⟨2, true, 32, [.int .i64 0, .nils], .struct⟩), (2, some ⟨1, false, 24, [.nils], .slice⟩), (3, some ⟨1, false, 8, [.nilmap], .map⟩), (4, some ⟨1, false, 1, [.bool false], .bool⟩)], none, none⟩ := by kernel_rfl
@[go_sem] theorem lay90 : layOf Try.prog 90 = some ⟨5, true, 72, [.int .i64 0, .nils, .nils, .nilmap, .bool false], .struct⟩ := by kernel_rfl
@[go_sem] theorem ty90 : tyA Try.prog 90 = some ⟨⟨5, true, 72, [.int .i64 0, .nils, .nils, .nilmap, .bool false], .struct⟩, [(0, some ⟨2, true, 32, [.int .i64 0, .nils], .struct⟩), (2, some ⟨1, false, 24, [.nils], .slice⟩), (3, some ⟨1, false, 8, [.nilmap], .map⟩), (4, some ⟨1, false, 1, [.bool false], .bool⟩)], none, none⟩ := by kernel_rfl
@[go_sem] theorem lay91 : layOf Try.prog 91 = some ⟨1, false, 8, [.nilfn], .func⟩ := by kernel_rfl
@[go_sem] theorem ty91 : tyA Try.prog 91 = some ⟨⟨1, false, 8, [.nilfn], .func⟩, [], none, none⟩ := by kernel_rfl
@[go_sem] theorem lay93 : layOf Try.prog 93 = some ⟨1, false, 8, [.nilfn], .func⟩ := by kernel_rfl
@[go_sem] theorem ty93 : tyA Try.prog 93 = some ⟨⟨1, false, 8, [.nilfn], .func⟩, [], none, none⟩ := by kernel_rfl
@[go_sem] theorem lay94 : layOf Try.prog 94 = some ⟨2, true, 48, [.nils, .nils], .struct⟩ := by kernel_rfl
@[go_sem] theorem ty94 : tyA Try.prog 94 = some ⟨⟨2, true, 48, [.nils, .nils], .struct⟩, [(0, some ⟨1, false, 24, [.nils], .slice⟩), (1, some ⟨1, false, 24, [.nils], .slice⟩)], none, none⟩ := by kernel_rfl
@[go_sem] theorem lay95 : layOf Try.prog 95 = some ⟨2, true, 48, [.nils, .nils], .struct⟩ := by kernel_rfl
@[go_sem] theorem ty95 : tyA Try.prog 95 = some ⟨⟨2, true, 48, [.nils, .nils], .struct⟩, [(0, some ⟨1, false, 24, [.nils], .slice⟩), (1, some ⟨1, false, 24, [.nils], .slice⟩)], none, none⟩ := by kernel_rfl
@[go_sem] theorem lay96 : layOf Try.prog 96 = some ⟨1, false, 8, [.nilfn], .func⟩ := by kernel_rfl
@[go_sem] theorem ty96 : tyA Try.prog 96 = some ⟨⟨1, false, 8, [.nilfn], .func⟩, [], none, none⟩ := by kernel_rfl
@[go_sem] theorem lay97 : layOf Try.prog 97 = some ⟨1, false, 8, [.nilfn], .func⟩ := by kernel_rfl
@[go_sem] theorem ty97 : tyA Try.prog 97 = some ⟨⟨1, false, 8, [.nilfn], .func⟩, [], none, none⟩ := by kernel_rfl
@[go_sem] theorem lay98 : layOf Try.prog 98 = some ⟨1, false, 8, [.nilfn], .func⟩ := by kernel_rfl
@[go_sem] theorem ty98 : tyA Try.prog 98 = some ⟨⟨1, false, 8, [.nilfn], .func⟩, [], none, none⟩ := by kernel_rfl
@[go_sem] theorem lay99 : layOf Try.prog 99 = some ⟨1, false, 8, [.nilfn], .func⟩ := by kernel_rfl
@[go_sem] theorem ty99 : tyA Try.prog 99 = some ⟨⟨1, false, 8, [.nilfn], .func⟩, [], none, none⟩ := by kernel_rfl
@[go_sem] theorem lay100 : layOf Try.prog 100 = some ⟨1, false, 8, [.nilfn], .func⟩ := by kernel_rfl
@[go_sem] theorem ty100 : tyA Try.prog 100 = some ⟨⟨1, false, 8, [.nilfn], .func⟩, [], none, none⟩ := by kernel_rfl
@[go_sem] theorem lay101 : layOf Try.prog 101 = some ⟨1, false, 8, [.nilfn], .func⟩ := by kernel_rfl
@[go_sem] theorem ty101 : tyA Try.prog 101 = some ⟨⟨1, false, 8, [.nilfn], .func⟩, [], none, none⟩ := by kernel_rfl
@[go_sem] theorem lay102 : layOf Try.prog 102 = some ⟨1, false, 8, [.nilfn], .func⟩ := by kernel_rfl
@[go_sem] theorem ty102 : tyA Try.prog 102 = some ⟨⟨1, false, 8, [.nilfn], .func⟩, [], none, none⟩ := by kernel_rfl
@[go_sem] theorem lay103 : layOf Try.prog 103 = some ⟨1, false, 8, [.nilfn], .func⟩ := by kernel_rfl
@[go_sem] theorem ty103 : tyA Try.prog 103 = some ⟨⟨1, false, 8, [.nilfn], .func⟩, [], none, none⟩ := by kernel_rfl
@[go_sem] theorem lay104 : layOf Try.prog 104 = some ⟨1, false, 8, [.nilfn], .func⟩ := by kernel_rfl
@[go_sem] theorem ty104 : tyA Try.prog 104 = some ⟨⟨1, false, 8, [.nilfn], .func⟩, [], none, none⟩ := by kernel_rfl
@[go_sem] theorem lay105 : layOf Try.prog 105 = some ⟨1, false, 8, [.nilfn], .func⟩ := by kernel_rfl
@[go_sem] theorem ty105 : tyA Try.prog 105 = some ⟨⟨1, false, 8, [.nilfn], .func⟩, [], none, none⟩ := by kernel_rfl
@[go_sem] theorem lay106 : layOf Try.prog 106 = some ⟨1, false, 8, [.nilfn], .func⟩ := by kernel_rfl
@[go_sem] theorem ty106 : tyA Try.prog 106 = some ⟨⟨1, false, 8, [.nilfn], .func⟩, [], none, none⟩ := by kernel_rfl
@[go_sem] theorem lay107 : layOf Try.prog 107 = some ⟨1, false, 8, [.nilfn], .func⟩ := by kernel_rfl
@[go_sem] theorem ty107 : tyA Try.prog 107 = some ⟨⟨1, false, 8, [.nilfn], .func⟩, [], none, none⟩ := by kernel_rfl
@[go_sem] theorem lay108 : layOf Try.prog 108 = some ⟨1, false, 8, [.nilfn], .func⟩ := by kernel_rfl
@[go_sem] theorem ty108 : tyA Try.prog 108 = some ⟨⟨1, false, 8, [.nilfn], .func⟩, [], none, none⟩ := by kernel_rfl
@[go_sem] theorem lay109 : layOf Try.prog 109 = some ⟨1, false, 8, [.nilfn], .func⟩ := by kernel_rfl
@[go_sem] theorem ty109 : tyA Try.prog 109 = some ⟨⟨1, false, 8, [.nilfn], .func⟩, [], none, none⟩ := by kernel_rfl
@[go_sem] theorem lay110 : layOf Try.prog 110 = some ⟨1, false, 24, [.nils], .slice⟩ := by kernel_rfl
@[go_sem] theorem ty110 : tyA Try.prog 110 = some ⟨⟨1, false, 24, [.nils], .slice⟩, [], some ⟨1, false, 1, [.bool false], .bool⟩, none⟩ := by kernel_rfl
@[go_sem] theorem lay111 : layOf Try.prog 111 = some ⟨1, false, 8, [.nilfn], .func⟩ := by kernel_rfl
@[go_sem] theorem ty111 : tyA Try.prog 111 = some ⟨⟨1, false, 8, [.nilfn], .func⟩, [], none, none⟩ := by kernel_rfl
@[go_sem] theorem lay113 : layOf Try.prog 113 = some ⟨1, false, 8, [.nilfn], .func⟩ := by kernel_rfl
@[go_sem] theorem ty113 : tyA Try.prog 113 = some ⟨⟨1, false, 8, [.nilfn], .func⟩, [], none, none⟩ := by kernel_rfl
@[go_sem] theorem lay114 : layOf Try.prog 114 = some ⟨1, false, 8, [.nilfn], .func⟩ := by kernel_rfl
@[go_sem] theorem ty114 : tyA Try.prog 114 = some ⟨⟨1, false, 8, [.nilfn], .func⟩, [], none, none⟩ := by kernel_rfl
@[go_sem] theorem lay115 : layOf Try.prog 115 = some ⟨1, false, 8, [.nilfn], .func⟩ := by kernel_rfl
@[go_sem] theorem ty115 : tyA Try.prog 115 = some ⟨⟨1, false, 8, [.nilfn], .func⟩, [], none, none⟩ := by kernel_rfl
@[go_sem] theorem lay116 : layOf Try.prog 116 = some ⟨1, false, 8, [.nilfn], .func⟩ := by kernel_rfl
@[go_sem] theorem ty116 : tyA Try.prog 116 = some ⟨⟨1, false, 8, [.nilfn], .func⟩, [], none, none⟩ := by kernel_rfl
@[go_sem] theorem lay117 : layOf Try.prog 117 = some ⟨1, false, 8, [.nilfn], .func⟩ := by kernel_rfl
@[go_sem] theorem ty117 : tyA Try.prog 117 = some ⟨⟨1, false, 8, [.nilfn], .func⟩, [], none, none⟩ := by kernel_rfl
@[go_sem] theorem lay118 : layOf Try.prog 118 = some ⟨1, false, 8, [.nilfn], .func⟩ := by kernel_rfl
@[go_sem] theorem ty118 : tyA Try.prog 118 = some ⟨⟨1, false, 8, [.nilfn], .func⟩, [], none, none⟩ := by kernel_rfl
@[go_sem] theorem lay119 : layOf Try.prog 119 = some ⟨1, false, 8, [.nilfn], .func⟩ := by kernel_rfl
@[go_sem] theorem ty119 : tyA Try.prog 119 = some ⟨⟨1, false, 8, [.nilfn], .func⟩, [], none, none⟩ := by kernel_rfl
@[go_sem] theorem lay120 : layOf Try.prog 120 = some ⟨1, false, 8, [.nilfn], .func⟩ := by kernel_rfl
@[go_sem] theorem ty120 : tyA Try.prog 120 = some ⟨⟨1, false, 8, [.nilfn], .func⟩, [], none, none⟩ := by kernel_rfl
@[go_sem] theorem lay121 : layOf Try.prog 121 = some ⟨1, false, 8, [.nilfn], .func⟩ := by kernel_rfl
@[go_sem] theorem ty121 : tyA Try.prog 121 = some ⟨⟨1, false, 8, [.nilfn], .func⟩, [], none, none⟩ := by kernel_rfl
@[go_sem] theorem lay122 : layOf Try.prog 122 = some ⟨1, false, 8, [.nilfn], .func⟩ := by kernel_rfl
@[go_sem] theorem ty122 : tyA Try.prog 122 = some ⟨⟨1, false, 8, [.nilfn], .func⟩, [], none, none⟩ := by kernel_rfl
@[go_sem] theorem lay123 : layOf Try.prog 123 = some ⟨6, true, 96, [.nils, .bool false, .int .i64 0, .nils, .int .i64 0, .nils], .struct⟩ := by kernel_rfl
@[go_sem] theorem ty123 : tyA Try.prog 123 = some ⟨⟨6, true, 96, [.nils, .bool false, .int .i64 0, .nils, .int .i64 0, .nils], .struct⟩, [(0, some ⟨1, false, 24, [.nils], .slice⟩), (1, some ⟨5, true, 72, [.bool false, .int .i64 0, .nils, .int .i64 0, .nils], .struct⟩)], none, none⟩ := by kernel_rfl
@[go_sem] theorem lay124 : layOf Try.prog 124 = some ⟨6, true, 96, [.nils, .bool false, .int .i64 0, .nils, .int .i64 0, .nils], .struct⟩ := by kernel_rfl
@[go_sem] theorem ty124 : tyA Try.prog 124 = some ⟨⟨6, true, 96, [.nils, .bool false, .int .i64 0, .nils, .int .i64 0, .nils], .struct⟩, [(0, some ⟨1, false, 24, [.nils], .slice⟩), (1, some ⟨5, true, 72, [.bool false, .int .i64 0, .nils, .int .i64 0, .nils], .struct⟩)], none, none⟩ := by kernel_rfl
@[go_sem] theorem lay125 : layOf Try.prog 125 = some ⟨1, false, 8, [.nilfn], .func⟩ := by kernel_rfl
@[go_sem] theorem ty125 : tyA Try.prog 125 = some ⟨⟨1, false, 8, [.nilfn], .func⟩, [], none, none⟩ := by kernel_rfl
@[go_sem] theorem lay126 : layOf Try.prog 126 = some ⟨1, false, 8, [.nilfn], .func⟩ := by kernel_rfl
@[go_sem] theorem ty126 : tyA Try.prog 126 = some ⟨⟨1, false, 8, [.nilfn], .func⟩, [], none, none⟩ := by kernel_rfl
@[go_sem] theorem lay127 : layOf Try.prog 127 = some ⟨1, false, 8, [.nilfn], .func⟩ := by kernel_rfl
@[go_sem] theorem ty127 : tyA Try.prog 127 = some ⟨⟨1, false, 8, [.nilfn], .func⟩, [], none, none⟩ := by kernel_rfl
@[go_sem] theorem lay128 : layOf Try.prog 128 = some ⟨1, false, 8, [.nilfn], .func⟩ := by kernel_rfl
@[go_sem] theorem ty128 : tyA Try.prog 128 = some ⟨⟨1, false, 8, [.nilfn], .func⟩, [], none, none⟩ := by kernel_rfl
@[go_sem] theorem lay129 : layOf Try.prog 129 = some ⟨1, false, 8, [.nilfn], .func⟩ := by kernel_rfl
@[go_sem] theorem ty129 : tyA Try.prog 129 = some ⟨⟨1, false, 8, [.nilfn], .func⟩, [], none, none⟩ := by kernel_rfl
@[go_sem] theorem lay130 : layOf Try.prog 130 = some ⟨1, false, 8, [.nilfn], .func⟩ := by kernel_rfl
@[go_sem] theorem ty130 : tyA Try.prog 130 = some ⟨⟨1, false, 8, [.nilfn], .func⟩, [], none, none⟩ := by kernel_rfl
@[go_sem] theorem lay131 : layOf Try.prog 131 = some ⟨1, false, 8, [.nilfn], .func⟩ := by kernel_rfl
@[go_sem] theorem ty131 : tyA Try.prog 131 = some ⟨⟨1, false, 8, [.nilfn], .func⟩, [], none, none⟩ := by kernel_rfl
@[go_sem] theorem lay132 : layOf Try.prog 132 = some ⟨1, false, 8, [.nilfn], .func⟩ := by kernel_rfl
@[go_sem] theorem ty132 : tyA Try.prog 132 = some ⟨⟨1, false, 8, [.nilfn], .func⟩, [], none, none⟩ := by kernel_rfl
@[go_sem] theorem lay133 : layOf Try.prog 133 = some ⟨1, false, 8, [.nilfn], .func⟩ := by kernel_rfl
@[go_sem] theorem ty133 : tyA Try.prog 133 = some ⟨⟨1, false, 8, [.nilfn], .func⟩, [], none, none⟩ := by kernel_rfl
@[go_sem] theorem lay134 : layOf Try.prog 134 = some ⟨1, false, 8, [.nilfn], .func⟩ := by kernel_rfl
@[go_sem] theorem ty134 : tyA Try.prog 134 = some ⟨⟨1, false, 8, [.nilfn], .func⟩, [], none, none⟩ := by kernel_rfl
@[go_sem] theorem lay135 : layOf Try.prog 135 = some ⟨1, false, 8, [.nilfn], .func⟩ := by kernel_rfl
@[go_sem] theorem ty135 : tyA Try.prog 135 = some ⟨⟨1, false, 8, [.nilfn], .func⟩, [], none, none⟩ := by kernel_rfl
@[go_sem] theorem lay136 : layOf Try.prog 136 = some ⟨3, true, 40, [.int .i64 0, .nils, .int .i64 0], .struct⟩ := by kernel_rfl
@[go_sem] theorem ty136 : tyA Try.prog 136 = some ⟨⟨3, true, 40, [.int .i64 0, .nils, .int .i64 0], .struct⟩, [(0, some ⟨2, true, 32, [.int .i64 0, .nils], .struct⟩), (2, some ⟨1, false, 8, [.int .i64 0], (.int .i64)⟩)], none, none⟩ := by kernel_rfl
@[go_sem] theorem lay137 : layOf Try.prog 137 = some ⟨3, true, 40, [.int .i64 0, .nils, .int .i64 0], .struct⟩ := by kernel_rfl
@[go_sem] theorem ty137 : tyA Try.prog 137 = some ⟨⟨3, true, 40, [.int .i64 0, .nils, .int .i64 0], .struct⟩, [(0, some ⟨2, true, 32, [.int .i64 0, .nils], .struct⟩), (2, some ⟨1, false, 8, [.int .i64 0], (.int .i64)⟩)], none, none⟩ := by kernel_rfl
@[go_sem] theorem lay138 : layOf Try.prog 138 = some ⟨1, false, 24, [.nils], .slice⟩ := by kernel_rfl
@[go_sem] theorem ty138 : tyA Try.prog 138 = some ⟨⟨1, false, 24, [.nils], .slice⟩, [], some ⟨3, true, 40, [.int .i64 0, .nils, .int .i64 0], .struct⟩, none⟩ := by kernel_rfl
@[go_sem] theorem lay139 : layOf Try.prog 139 = some ⟨1, false, 8, [.nilfn], .func⟩ := by kernel_rfl
@[go_sem] theorem ty139 : tyA Try.prog 139 = some ⟨⟨1, false, 8, [.nilfn], .func⟩, [], none, none⟩ := by kernel_rfl
@[go_sem] theorem lay140 : layOf Try.prog 140 = some ⟨1, false, 24, [.nils], .slice⟩ := by kernel_rfl
@[go_sem] theorem ty140 : tyA Try.prog 140 = some ⟨⟨1, false, 24, [.nils], .slice⟩, [], some ⟨1, false, 8, [.nilfn], .func⟩, none⟩ := by kernel_rfl
@[go_sem] theorem lay141 : layOf Try.prog 141 = some ⟨1, false, 8, [.nilfn], .func⟩ := by kernel_rfl
@[go_sem] theorem ty141 : tyA Try.prog 141 = some ⟨⟨1, false, 8, [.nilfn], .func⟩, [], none, none⟩ := by kernel_rfl
@[go_sem] theorem lay142 : layOf Try.prog 142 = some ⟨1, false, 8, [.nilfn], .func⟩ := by kernel_rfl
@[go_sem] theorem ty142 : tyA Try.prog 142 = some ⟨⟨1, false, 8, [.nilfn], .func⟩, [], none, none⟩ := by kernel_rfl
@[go_sem] theorem lay143 : layOf Try.prog 143 = some ⟨1, false, 8, [.nilfn], .func⟩ := by kernel_rfl
@[go_sem] theorem ty143 : tyA Try.prog 143 = some ⟨⟨1, false, 8, [.nilfn], .func⟩, [], none, none⟩ := by kernel_rfl
@[go_sem] theorem lay144 : layOf Try.prog 144 = some ⟨1, false, 8, [.nilfn], .func⟩ := by kernel_rfl
@[go_sem] theorem ty144 : tyA Try.prog 144 = some ⟨⟨1, false, 8, [.nilfn], .func⟩, [], none, none⟩ := by kernel_rfl
@[go_sem] theorem lay145 : layOf Try.prog 145 = some ⟨1, false, 8, [.nilfn], .func⟩ := by kernel_rfl
@[go_sem] theorem ty145 : tyA Try.prog 145 = some ⟨⟨1, false, 8, [.nilfn], .func⟩, [], none, none⟩ := by kernel_rfl
@[go_sem] theorem lay146 : layOf Try.prog 146 = some ⟨4, true, 40, [.nilptr, .nilptr, .nilptr, .str ⟨#[]⟩], .struct⟩ := by kernel_rfl
@[go_sem] theorem ty146 : tyA Try.prog 146 = some ⟨⟨4, true, 40, [.nilptr, .nilptr, .nilptr, .str ⟨#[]⟩], .struct⟩, [(0, some ⟨1, false, 8, [.nilptr], .ptr⟩), (1, some ⟨1, false, 8, [.nilptr], .ptr⟩), (2, some ⟨1, false, 8, [.nilptr], .ptr⟩), (3, some ⟨1, false, 16, [.str ⟨#[]⟩], .str⟩)], none, none⟩ := by kernel_rfl
@[go_sem] theorem lay147 : layOf Try.prog 147 = some ⟨4, true, 40, [.nilptr, .nilptr, .nilptr, .str ⟨#[]⟩], .struct⟩ := by kernel_rfl
@[go_sem] theorem ty147 : tyA Try.prog 147 = some ⟨⟨4, true, 40, [.nilptr, .nilptr, .nilptr, .str ⟨#[]⟩], .struct⟩, [(0, some ⟨1, false, 8, [.nilptr], .ptr⟩), (1, some ⟨1, false, 8, [.nilptr], .ptr⟩), (2, some ⟨1, false, 8, [.nilptr], .ptr⟩), (3, some ⟨1, false, 16, [.str ⟨#[]⟩], .str⟩)], none, none⟩ := by kernel_rfl
@[go_sem] theorem lay148 : layOf Try.prog 148 = some ⟨0, true, 0, [], (.array 0)⟩ := by kernel_rfl
@[go_sem] theorem ty148 : tyA Try.prog 148 = some ⟨⟨0, true, 0, [], (.array 0)⟩, [], some ⟨1, false, 8, [.nilptr], .ptr⟩, none⟩ := by kernel_rfl
@[go_sem] theorem lay149 : layOf Try.prog 149 = some ⟨0, true, 0, [], .struct⟩ := by kernel_rfl
@[go_sem] theorem ty149 : tyA Try.prog 149 = some ⟨⟨0, true, 0, [], .struct⟩, [(0, some ⟨0, true, 0, [], (.array 0)⟩)], none, none⟩ := by kernel_rfl
@[go_sem] theorem lay150 : layOf Try.prog 150 = some ⟨0, true, 0, [], .struct⟩ := by kernel_rfl
@[go_sem] theorem ty150 : tyA Try.prog 150 = some ⟨⟨0, true, 0, [], .struct⟩, [(0, some ⟨0, true, 0, [], (.array 0)⟩)], none, none⟩ := by kernel_rfl
@[go_sem] theorem lay151 : layOf Try.prog 151 = some ⟨1, false, 8, [.nilfn], .func⟩ := by kernel_rfl
@[go_sem] theorem ty151 : tyA Try.prog 151 = some ⟨⟨1, false, 8, [.nilfn], .func⟩, [], none, none⟩ := by kernel_rfl
@[go_sem] theorem lay152 : layOf Try.prog 152 = some ⟨1, false, 4, [.int .u32 0], (.int .u32)⟩ := by kernel_rfl
@[go_sem] theorem ty152 : tyA Try.prog 152 = some ⟨⟨1, false, 4, [.int .u32 0], (.int .u32)⟩, [], none, none⟩ := by kernel_rfl
@[go_sem] theorem lay153 : layOf Try.prog 153 = some ⟨1, false, 1, [.int .u8 0], (.int .u8)⟩ := by kernel_rfl
@[go_sem] theorem ty153 : tyA Try.prog 153 = some ⟨⟨1, false, 1, [.int .u8 0], (.int .u8)⟩, [], none, none⟩ := by kernel_rfl
@[go_sem] theorem lay154 : layOf Try.prog 154 = some ⟨1, false, 1, [.int .u8 0], (.int .u8)⟩ := by kernel_rfl
@[go_sem] theorem ty154 : tyA Try.prog 154 = some ⟨⟨1, false, 1, [.int .u8 0], (.int .u8)⟩, [], none, none⟩ := by kernel_rfl
@[go_sem] theorem lay155 : layOf Try.prog 155 = some ⟨1, false, 8, [.nilfn], .func⟩ := by kernel_rfl
@[go_sem] theorem ty155 : tyA Try.prog 155 = some ⟨⟨1, false, 8, [.nilfn], .func⟩, [], none, none⟩ := by kernel_rfl
@[go_sem] theorem lay156 : layOf Try.prog 156 = some ⟨1, false, 8, [.nilptr], .ptr⟩ := by kernel_rfl
@[go_sem] theorem ty156 : tyA Try.prog 156 = some ⟨⟨1, false, 8, [.nilptr], .ptr⟩, [], none, none⟩ := by kernel_rfl
@[go_sem] theorem lay157 : layOf Try.prog 157 = some ⟨1, false, 4, [.int .i32 0], (.int .i32)⟩ := by kernel_rfl
@[go_sem] theorem ty157 : tyA Try.prog 157 = some ⟨⟨1, false, 4, [.int .i32 0], (.int .i32)⟩, [], none, none⟩ := by kernel_rfl
@[go_sem] theorem lay158 : layOf Try.prog 158 = some ⟨1, false, 4, [.int .i32 0], (.int .i32)⟩ := by kernel_rfl
@[go_sem] theorem ty158 : tyA Try.prog 158 = some ⟨⟨1, false, 4, [.int .i32 0], (.int .i32)⟩, [], none, none⟩ := by kernel_rfl
@[go_sem] theorem lay159 : layOf Try.prog 159 = some ⟨11, true, 48, [.int .u64 0, .int .u64 0, .int .u32 0, .int .u8 0, .int .u8 0, .int .u8 0, .int .u8 0, .nilfn, .nilptr, .int .i32 0, .int .i32 0], .struct⟩ := by kernel_rfl
@[go_sem] theorem ty159 : tyA Try.prog 159 = some ⟨⟨11, true, 48, [.int .u64 0, .int .u64 0, .int .u32 0, .int .u8 0, .int .u8 0, .int .u8 0, .int .u8 0, .nilfn, .nilptr, .int .i32 0, .int .i32 0], .struct⟩, [(0, some ⟨1, false, 8, [.int .u64 0], (.int .u64)⟩), (1, some ⟨1, false, 8, [.int .u64 0], (.int .u64)⟩), (2, some ⟨1, false, 4, [.int .u32 0], (.int .u32)⟩), (3, some ⟨1, false, 1, [.int .u8 0], (.int .u8)⟩), (4, some ⟨1, false, 1, [.int .u8 0], (.int .u8)⟩), (5, some ⟨1, false, 1, [.int .u8 0], (.int .u8)⟩), (6, some ⟨1, false, 1, [.int .u8 0], (.int .u8)⟩), (7, some ⟨1, false, 8, [.nilfn], .func⟩), (8, some ⟨1, false, 8, [.nilptr], .ptr⟩), (9, some ⟨1, false, 4, [.int .i32 0], (.int .i32)⟩), (10, some ⟨1, false, 4, [.int .i32 0], (.int .i32)⟩)], none, none⟩ := by kernel_rfl
@[go_sem] theorem lay160 : layOf Try.prog 160 = some ⟨11, true, 48, [.int .u64 0, .int .u64 0, .int .u32 0, .int .u8 0, .int .u8 0, .int .u8 0, .int .u8 0, .nilfn, .nilptr, .int .i32 0, .int .i32 0], .struct⟩ := by kernel_rfl
@[go_sem] theorem ty160 : tyA Try.prog 160 = some ⟨⟨11, true, 48, [.int .u64 0, .int .u64 0, .int .u32 0, .int .u8 0, .int .u8 0, .int .u8 0, .int .u8 0, .nilfn, .nilptr, .int .i32 0, .int .i32 0], .struct⟩, [(0, some ⟨1, false, 8, [.int .u64 0], (.int .u64)⟩), (1, some ⟨1, false, 8, [.int .u64 0], (.int .u64)⟩), (2, some ⟨1, false, 4, [.int .u32 0], (.int .u32)⟩), (3, some ⟨1, false, 1, [.int .u8 0], (.int .u8)⟩), (4, some ⟨1, false, 1, [.int .u8 0], (.int .u8)⟩), (5, some ⟨1, false, 1, [.int .u8 0], (.int .u8)⟩), (6, some ⟨1, false, 1, [.int .u8 0], (.int .u8)⟩), (7, some ⟨1, false, 8, [.nilfn], .func⟩), (8, some ⟨1, false, 8, [.nilptr], .ptr⟩), (9, some ⟨1, false, 4, [.int .i32 0], (.int .i32)⟩), (10, some ⟨1, false, 4, [.int .i32 0], (.int .i32)⟩)], none, none⟩ := by kernel_rfl
@[go_sem] theorem lay161 : layOf Try.prog 161 = some ⟨1, false, 8, [.nilptr], .other⟩ := by kernel_rfl
@[go_sem] theorem ty161 : tyA Try.prog 161 = some ⟨⟨1, false, 8, [.nilptr], .other⟩, [], none, none⟩ := by kernel_rfl
end Go.Proofs

/- Functions of the document's answer for layer 1, each by what it answers. -/
set_option linter.unusedSimpArgs false
namespace Go.Proofs
open Go Go.Abs

theorem mixed : Try.prog.follows .mixedOrders = true := by rfl

theorem Ints_eq (a b : List Int) (ha : a.length < 2 ^ 62) : CallEq Try.prog 16 [.ps 1 (ints a), .ps 1 (ints b)] (.bool (decide (a = b))) := by
  refine CallEq.begin (rs := [.tmp 4]) (m := 24) 1000 Try.func16 rfl rfl rfl (by decide) trivial ?_
  simp only [go_sem, Nat.reduceAdd, Nat.reduceSub, Nat.reduceMul, Nat.reduceLeDiff, Nat.reduceEqDiff, Nat.reduceBEq, ints_len]
  refine ⟨fun hne => ?_, fun heq => ?_⟩
  · have : a ≠ b := fun e => hne (by rw [e])
    simp [this]
  have hlen : a.length = b.length := by omega
  refine EvK.loopI (ι := {i : Nat // i ≤ a.length ∧ a.take i = b.take i}) 1000 (fun i => mkT 26 [(0, .ps 1 (ints a)), (1, .ps 1 (ints b)), (5, .int .i64 i.1)]) (fun _ => []) (fun i => a.length - i.1) ⟨0, by simp⟩ ?_ (fun _ => Nat.zero_le _) ?_
  · simp only [go_sem, Nat.reduceAdd, Nat.reduceSub, Nat.reduceMul, Nat.reduceLeDiff, Nat.reduceEqDiff, Nat.reduceBEq, ints_low, Int.natCast_zero]
  · rintro ⟨i, hi, hpre⟩
    simp only [go_sem, Nat.reduceAdd, Nat.reduceSub, Nat.reduceMul, Nat.reduceLeDiff, Nat.reduceEqDiff, Nat.reduceBEq, ints_len]
    refine ⟨fun hlt => ?_, fun hge => ?_⟩
    · have hla : i < a.length := by omega
      have hlb : i < b.length := by omega
      refine EvK.draw [] 0 0 mixed rfl rfl (Nat.le_refl _) ?_
      simp only [go_sem, Nat.reduceAdd, Nat.reduceSub, Nat.reduceMul, Nat.reduceLeDiff, Nat.reduceEqDiff, Nat.reduceBEq, padS, ints_len, Int.toNat_natCast, ints_get hla, ints_get hlb]
      refine ⟨by omega, by omega, ?_⟩
      refine EvK.go 1000 ?_
      simp only [go_sem, Nat.reduceAdd, Nat.reduceSub, Nat.reduceMul, Nat.reduceLeDiff, Nat.reduceEqDiff, Nat.reduceBEq]
      refine ⟨fun hne => ?_, fun heq => ?_⟩
      · have : a ≠ b := fun e => hne (by subst e; rfl)
        refine EvK.go 1000 ?_
        simp only [go_sem, Nat.reduceAdd, Nat.reduceSub, Nat.reduceMul, Nat.reduceLeDiff, Nat.reduceEqDiff, Nat.reduceBEq]
        simp [this]
      · refine ⟨⟨i + 1, by omega, ?_⟩, ?_, by simp only; omega⟩
        · rw [List.take_add_one, List.take_add_one, hpre, List.getElem?_eq_getElem hla, List.getElem?_eq_getElem hlb, heq]
        · simp only [go_sem, Nat.reduceAdd, Nat.reduceSub, Nat.reduceMul, Nat.reduceLeDiff, Nat.reduceEqDiff, Nat.reduceBEq, ints_low]
          rw [i64_id (by omega)]; rfl
    · refine EvK.go 1000 ?_
      simp only [go_sem, Nat.reduceAdd, Nat.reduceSub, Nat.reduceMul, Nat.reduceLeDiff, Nat.reduceEqDiff, Nat.reduceBEq]
      have : i = a.length := by omega
      subst this
      rw [List.take_length, hlen, List.take_length] at hpre
      simp [hpre]

theorem Size_eq (t : Tm) : t.size < 2 ^ 62 → CallEq Try.prog 85 [t.toA] (.int .i64 t.size) := by
  induction t using Tm.rec_args with
  | h h ts ih =>
  intro hs
  simp only [Tm.size] at hs
  have hlen := len_le_sizes ts
  refine CallEq.begin (rs := [.tmp 2]) (m := 20) 1000 Try.func85 rfl rfl rfl (by decide) trivial ?_
  simp only [go_sem, Nat.reduceAdd, Nat.reduceSub, Nat.reduceMul, Nat.reduceLeDiff, Nat.reduceEqDiff, Nat.reduceBEq, toA_eq, Tm.head, Tm.args]
  refine EvK.loopI (ι := {i : Nat // i ≤ ts.length}) 1000 (fun i => mkT 21 [(1, .ptr 0 0), (3, .int .i64 (1 + Tm.sizes (ts.take i.1) : Nat)), (4, .int .i64 i.1)]) (fun _ => [some (.var [.int .i64 h, .ps 2 (ts.map Tm.toA)])]) (fun i => ts.length - i.1) ⟨0, by omega⟩ ?_ (fun _ => by simp) ?_
  · simp only [go_sem, Nat.reduceAdd, Nat.reduceSub, Nat.reduceMul, Nat.reduceLeDiff, Nat.reduceEqDiff, Nat.reduceBEq, Tm.sizes, tms_low, Int.natCast_zero, Nat.zero_lt_one]
    simp
  · rintro ⟨i, hi⟩
    simp only [go_sem, Nat.reduceAdd, Nat.reduceSub, Nat.reduceMul, Nat.reduceLeDiff, Nat.reduceEqDiff, Nat.reduceBEq, List.length_map]
    refine ⟨fun hlt => ?_, fun hge => ?_⟩
    · have hlt' : i < ts.length := by omega
      refine ⟨by omega, ?_⟩
      simp only [go_sem, Nat.reduceAdd, Nat.reduceSub, Nat.reduceMul, Nat.reduceLeDiff, Nat.reduceEqDiff, Nat.reduceBEq, Int.toNat_natCast, map_getD hlt', toA_cells, Nat.le_refl]
      rw [← toA_eq]
      have hsz := size_le_sizes ts i hlt'
      refine VCall.isoT [] (ih i hlt' (by omega)) (pTL_refl _ _ _) (by simp [go_sem, toA_low]) ?_
      simp only [flatR, flatA, flatC, if_true]
      refine EvK.go 1000 ?_
      simp only [go_sem, Nat.reduceAdd, Nat.reduceSub, Nat.reduceMul, Nat.reduceLeDiff, Nat.reduceEqDiff, Nat.reduceBEq]
      refine ⟨⟨i + 1, hlt'⟩, ?_, by simp only; omega⟩
      simp only [go_sem, Nat.reduceAdd, Nat.reduceSub, Nat.reduceMul, Nat.reduceLeDiff, Nat.reduceEqDiff, Nat.reduceBEq, tms_low, Nat.zero_lt_one]
      have h1 := sizes_snoc ts i hlt'
      have h2 := sizes_take_le ts (i + 1)
      rw [i64_id (by omega), i64_id (by omega), h1]
      simp; omega
    · refine EvK.go 1000 ?_
      simp only [go_sem, Nat.reduceAdd, Nat.reduceSub, Nat.reduceMul, Nat.reduceLeDiff, Nat.reduceEqDiff, Nat.reduceBEq, Tm.size]
      have : i = ts.length := by omega
      subst this
      simp

theorem Depth_eq (t : Tm) : t.size < 2 ^ 62 → CallEq Try.prog 86 [t.toA] (.int .i64 t.depth) := by
  induction t using Tm.rec_args with
  | h h ts ih =>
  intro hs
  simp only [Tm.size] at hs
  have hlen := len_le_sizes ts
  refine CallEq.begin (rs := [.tmp 2]) (m := 21) 1000 Try.func86 rfl rfl rfl (by decide) trivial ?_
  simp only [go_sem, Nat.reduceAdd, Nat.reduceSub, Nat.reduceMul, Nat.reduceLeDiff, Nat.reduceEqDiff, Nat.reduceBEq, toA_eq, Tm.head, Tm.args]
  refine EvK.loopI (ι := {i : Nat // i ≤ ts.length}) 1000 (fun i => mkT 22 [(1, .ptr 0 0), (3, .int .i64 (Tm.depths (ts.take i.1) : Nat)), (4, .int .i64 i.1)]) (fun _ => [some (.var [.int .i64 h, .ps 2 (ts.map Tm.toA)])]) (fun i => ts.length - i.1) ⟨0, by omega⟩ ?_ (fun _ => by simp) ?_
  · simp only [go_sem, Nat.reduceAdd, Nat.reduceSub, Nat.reduceMul, Nat.reduceLeDiff, Nat.reduceEqDiff, Nat.reduceBEq, Tm.depths, tms_low, Int.natCast_zero, Nat.zero_lt_one]
  · rintro ⟨i, hi⟩
    simp only [go_sem, Nat.reduceAdd, Nat.reduceSub, Nat.reduceMul, Nat.reduceLeDiff, Nat.reduceEqDiff, Nat.reduceBEq, List.length_map]
    refine ⟨fun hlt => ?_, fun hge => ?_⟩
    · have hlt' : i < ts.length := by omega
      refine ⟨by omega, ?_⟩
      simp only [go_sem, Nat.reduceAdd, Nat.reduceSub, Nat.reduceMul, Nat.reduceLeDiff, Nat.reduceEqDiff, Nat.reduceBEq, Int.toNat_natCast, map_getD hlt', toA_cells, Nat.le_refl]
      rw [← toA_eq]
      have hsz := size_le_sizes ts i hlt'
      refine VCall.isoT [] (ih i hlt' (by omega)) (pTL_refl _ _ _) (by simp [go_sem, toA_low]) ?_
      simp only [flatR, flatA, flatC, if_true]
      refine EvK.go 1000 ?_
      simp only [go_sem, Nat.reduceAdd, Nat.reduceSub, Nat.reduceMul, Nat.reduceLeDiff, Nat.reduceEqDiff, Nat.reduceBEq]
      refine ⟨⟨i + 1, hlt'⟩, ?_, by simp only; omega⟩
      simp only [go_sem, Nat.reduceAdd, Nat.reduceSub, Nat.reduceMul, Nat.reduceLeDiff, Nat.reduceEqDiff, Nat.reduceBEq, tms_low, Nat.zero_lt_one]
      have h1 := depths_snoc ts i hlt'
      rw [i64_id (by omega), h1]
      refine ⟨?_, rfl⟩
      congr 1
      split <;> omega
    · refine EvK.go 1000 ?_
      simp only [go_sem, Nat.reduceAdd, Nat.reduceSub, Nat.reduceMul, Nat.reduceLeDiff, Nat.reduceEqDiff, Nat.reduceBEq, Tm.depth]
      have : i = ts.length := by omega
      subst this
      have := depths_le_sizes ts
      rw [List.take_length, i64_id (by omega)]
      simp

theorem In_eq (n : Int) (l : List Int) (hl : l.length < 2 ^ 62) : CallEq Try.prog 66 [.int .i64 n, .ps 1 (ints l)] (.bool (decide (n ∈ l))) := by
  refine CallEq.begin (rs := [.tmp 4]) (m := 16) 1000 Try.func66 rfl rfl rfl (by decide) trivial ?_
  simp only [go_sem, Nat.reduceAdd, Nat.reduceSub, Nat.reduceMul, Nat.reduceLeDiff, Nat.reduceEqDiff, Nat.reduceBEq]
  refine EvK.loopI (ι := {i : Nat // i ≤ l.length ∧ n ∉ l.take i}) 1000 (fun i => mkT 18 [(0, .int .i64 n), (1, .ps 1 (ints l)), (5, .int .i64 i.1)]) (fun _ => []) (fun i => l.length - i.1) ⟨0, by simp⟩ ?_ (fun _ => Nat.zero_le _) ?_
  · simp only [go_sem, Nat.reduceAdd, Nat.reduceSub, Nat.reduceMul, Nat.reduceLeDiff, Nat.reduceEqDiff, Nat.reduceBEq, ints_low, Int.natCast_zero]
  · rintro ⟨i, hi, hpre⟩
    simp only [go_sem, Nat.reduceAdd, Nat.reduceSub, Nat.reduceMul, Nat.reduceLeDiff, Nat.reduceEqDiff, Nat.reduceBEq, ints_len]
    refine ⟨fun hlt => ?_, fun hge => ?_⟩
    · have hla : i < l.length := by omega
      simp only [go_sem, Nat.reduceAdd, Nat.reduceSub, Nat.reduceMul, Nat.reduceLeDiff, Nat.reduceEqDiff, Nat.reduceBEq, Int.toNat_natCast, ints_get hla]
      refine ⟨by omega, fun he => ?_, fun hne => ?_⟩
      · refine EvK.go 1000 ?_
        simp only [go_sem, Nat.reduceAdd, Nat.reduceSub, Nat.reduceMul, Nat.reduceLeDiff, Nat.reduceEqDiff, Nat.reduceBEq]
        have : n ∈ l := he ▸ List.getElem_mem hla
        simp [this]
      · refine ⟨⟨i + 1, by omega, ?_⟩, ?_, by simp only; omega⟩
        · rw [List.take_add_one, List.getElem?_eq_getElem hla]
          simp only [Option.toList_some, List.mem_append, List.mem_singleton, not_or]
          exact ⟨hpre, fun e => hne e.symm⟩
        · simp only [go_sem, Nat.reduceAdd, Nat.reduceSub, Nat.reduceMul, Nat.reduceLeDiff, Nat.reduceEqDiff, Nat.reduceBEq, ints_low]
          rw [i64_id (by omega)]; rfl
    · refine EvK.go 1000 ?_
      simp only [go_sem, Nat.reduceAdd, Nat.reduceSub, Nat.reduceMul, Nat.reduceLeDiff, Nat.reduceEqDiff, Nat.reduceBEq]
      have : i = l.length := by omega
      subst this
      rw [List.take_length] at hpre
      simp [hpre]

theorem Count_eq (t : Tm) : ∀ m : Int, 0 ≤ m → m < 2 ^ 62 → CallEq Try.prog 25 [t.toA, .int .i64 m] (.int .i64 (t.cnt m)) := by
  induction t using Tm.rec_args with
  | h h ts ih =>
  intro m hm0 hm1
  refine CallEq.begin (rs := [.tmp 4]) (m := 29) 1000 Try.func25 rfl rfl rfl (by decide) trivial ?_
  simp only [go_sem, Nat.reduceAdd, Nat.reduceSub, Nat.reduceMul, Nat.reduceLeDiff, Nat.reduceEqDiff, Nat.reduceBEq, toA_eq, Tm.head, Tm.args]
  refine EvK.loopI (ι := {p : Nat × Int // p.1 ≤ ts.length ∧ 1 ≤ p.2 ∧ p.2 ≤ m + 1 ∧ p.1 ≤ p.2 ∧ Tm.cntL (ts.drop p.1) p.2 m = Tm.cntL ts 1 m}) 1000 (fun p => mkT 31 [(1, .int .i64 m), (2, .ptr 0 0), (5, .int .i64 p.1.2), (6, .int .i64 p.1.1)]) (fun _ => [some (.var [.int .i64 h, .ps 2 (ts.map Tm.toA)])]) (fun p => ts.length - p.1.1) ⟨(0, 1), by simp; omega⟩ ?_ (fun _ => by simp) ?_
  · simp only [go_sem, Nat.reduceAdd, Nat.reduceSub, Nat.reduceMul, Nat.reduceLeDiff, Nat.reduceEqDiff, Nat.reduceBEq, tms_low, Int.natCast_zero, Nat.zero_lt_one]
  · rintro ⟨⟨i, n⟩, hi, h1, h2, h4, h3⟩
    simp only at hi h1 h2 h3 h4
    by_cases hlt : (i : Int) < ts.length
    · have hlt' : i < ts.length := by omega
      by_cases hn : n ≤ m
      · simp only [go_sem, Nat.reduceAdd, Nat.reduceSub, Nat.reduceMul, Nat.reduceLeDiff, Nat.reduceEqDiff, Nat.reduceBEq, List.length_map, hlt, hn]
        refine ⟨by omega, ?_⟩
        simp only [go_sem, Nat.reduceAdd, Nat.reduceSub, Nat.reduceMul, Nat.reduceLeDiff, Nat.reduceEqDiff, Nat.reduceBEq, Int.toNat_natCast, map_getD hlt', toA_cells, Nat.le_refl]
        rw [← toA_eq, i64_id (by omega)]
        refine VCall.isoT [] (ih i hlt' (m - n) (by omega) (by omega)) (pTL_refl _ _ _) (by simp [go_sem, toA_low]) ?_
        simp only [flatR, flatA, flatC, if_true]
        refine EvK.go 1000 ?_
        simp only [go_sem, Nat.reduceAdd, Nat.reduceSub, Nat.reduceMul, Nat.reduceLeDiff, Nat.reduceEqDiff, Nat.reduceBEq]
        have hb := cnt_bounds ts[i] (m - n) (by omega)
        refine ⟨⟨(i + 1, n + ts[i].cnt (m - n)), hlt', by omega, by omega, by simp only; omega, ?_⟩, ?_, by simp only; omega⟩
        · simp only
          rw [← h3, List.drop_eq_getElem_cons hlt', Tm.cntL, if_pos hn]
        · simp only [go_sem, Nat.reduceAdd, Nat.reduceSub, Nat.reduceMul, Nat.reduceLeDiff, Nat.reduceEqDiff, Nat.reduceBEq, tms_low, Nat.zero_lt_one]
          rw [i64_id (by omega), i64_id (by omega)]
          simp
      · simp only [go_sem, Nat.reduceAdd, Nat.reduceSub, Nat.reduceMul, Nat.reduceLeDiff, Nat.reduceEqDiff, Nat.reduceBEq, List.length_map, hlt, hn]
        refine EvK.go 1000 ?_
        simp only [go_sem, Nat.reduceAdd, Nat.reduceSub, Nat.reduceMul, Nat.reduceLeDiff, Nat.reduceEqDiff, Nat.reduceBEq]
        rw [Tm.cnt, ← h3, cntL_stop _ _ _ hn]
    · simp only [go_sem, Nat.reduceAdd, Nat.reduceSub, Nat.reduceMul, Nat.reduceLeDiff, Nat.reduceEqDiff, Nat.reduceBEq, List.length_map, hlt]
      refine EvK.go 1000 ?_
      simp only [go_sem, Nat.reduceAdd, Nat.reduceSub, Nat.reduceMul, Nat.reduceLeDiff, Nat.reduceEqDiff, Nat.reduceBEq]
      have : i = ts.length := by omega
      subst this
      rw [Tm.cnt, ← h3, List.drop_length, Tm.cntL]
end Go.Proofs

/- More functions of the document's answer for layer 1. -/
set_option linter.unusedSimpArgs false
namespace Go.Proofs
open Go Go.Abs

theorem Good_eq (t : Tm) : t.size < 2 ^ 62 → CallEq Try.prog 87 [t.toA] (.bool t.good) := by
  induction t using Tm.rec_args with
  | h h ts ih =>
  intro hs
  simp only [Tm.size] at hs
  have hlen := len_le_sizes ts
  refine CallEq.begin (rs := [.tmp 2]) (m := 42) 1000 Try.func87 rfl rfl rfl (by decide) trivial ?_
  have rest : ¬ (h < 0 ∧ (0 : Int) < ts.length) → ¬ h < -256 → ¬ 1023 < h → ¬ (8 : Int) < ts.length → Tm.good (.mk h ts) = Tm.goods ts := fun h1 h2 h3 h4 => by
    simp only [Tm.good]
    have e1 : (decide (h < 0) && decide (0 < ts.length)) = false := by simp only [Bool.and_eq_false_iff, decide_eq_false_iff_not]; omega
    have e2 : decide (8 < ts.length) = false := by simp only [decide_eq_false_iff_not]; omega
    simp [e1, e2, h2, h3]
  have bad : (h < 0 ∧ (0 : Int) < ts.length) ∨ h < -256 ∨ 1023 < h ∨ (8 : Int) < ts.length → Tm.good (.mk h ts) = false := fun hb => by
    simp only [Tm.good, Bool.and_eq_false_iff, Bool.not_eq_false', Bool.or_eq_true, Bool.and_eq_true, decide_eq_true_eq]
    left; omega
  by_cases c1 : h < 0 ∧ (0 : Int) < ts.length
  · simp only [go_sem, Nat.reduceAdd, Nat.reduceSub, Nat.reduceMul, Nat.reduceLeDiff, Nat.reduceEqDiff, Nat.reduceBEq, toA_eq, Tm.head, Tm.args, List.length_map, c1.1, c1.2, bad (.inl c1)]
  by_cases c2 : h < -256
  · have c3 : h < 0 := by omega
    have c4 : ¬ (0 : Int) < ts.length := by omega
    simp only [go_sem, Nat.reduceAdd, Nat.reduceSub, Nat.reduceMul, Nat.reduceLeDiff, Nat.reduceEqDiff, Nat.reduceBEq, toA_eq, Tm.head, Tm.args, List.length_map, c2, c3, c4, bad (.inr (.inl c2))]
  by_cases c3 : 1023 < h
  · have c4 : ¬ h < 0 := by omega
    simp only [go_sem, Nat.reduceAdd, Nat.reduceSub, Nat.reduceMul, Nat.reduceLeDiff, Nat.reduceEqDiff, Nat.reduceBEq, toA_eq, Tm.head, Tm.args, List.length_map, c2, c3, c4, bad (.inr (.inr (.inl c3)))]
  by_cases c4 : (8 : Int) < ts.length
  · have c5 : ¬ h < 0 := by omega
    simp only [go_sem, Nat.reduceAdd, Nat.reduceSub, Nat.reduceMul, Nat.reduceLeDiff, Nat.reduceEqDiff, Nat.reduceBEq, toA_eq, Tm.head, Tm.args, List.length_map, c2, c3, c4, c5, bad (.inr (.inr (.inr c4)))]
  have hg := rest c1 c2 c3 c4
  rw [hg]
  have c56 : (h < 0 ∧ ¬ (0 : Int) < ts.length) ∨ ¬ h < 0 := by omega
  rcases c56 with ⟨c5, c6⟩ | c5
  case' inl => simp only [go_sem, Nat.reduceAdd, Nat.reduceSub, Nat.reduceMul, Nat.reduceLeDiff, Nat.reduceEqDiff, Nat.reduceBEq, toA_eq, Tm.head, Tm.args, List.length_map, c2, c3, c4, c5, c6]
  case' inr => simp only [go_sem, Nat.reduceAdd, Nat.reduceSub, Nat.reduceMul, Nat.reduceLeDiff, Nat.reduceEqDiff, Nat.reduceBEq, toA_eq, Tm.head, Tm.args, List.length_map, c2, c3, c4, c5]
  all_goals
    refine EvK.loopI (ι := {i : Nat // i ≤ ts.length ∧ Tm.goods (ts.take i) = true}) 1000 (fun i => mkT 43 [(1, .ptr 0 0), (3, .int .i64 i.1)]) (fun _ => [some (.var [.int .i64 h, .ps 2 (ts.map Tm.toA)])]) (fun i => ts.length - i.1) ⟨0, by simp [Tm.goods]⟩ ?_ (fun _ => by simp) ?_
    · simp only [go_sem, Nat.reduceAdd, Nat.reduceSub, Nat.reduceMul, Nat.reduceLeDiff, Nat.reduceEqDiff, Nat.reduceBEq, tms_low, Int.natCast_zero, Nat.zero_lt_one]
    · rintro ⟨i, hi, hgi⟩
      simp only [go_sem, Nat.reduceAdd, Nat.reduceSub, Nat.reduceMul, Nat.reduceLeDiff, Nat.reduceEqDiff, Nat.reduceBEq, List.length_map]
      refine ⟨fun hlt => ?_, fun hge => ?_⟩
      · have hlt' : i < ts.length := by omega
        refine ⟨by omega, ?_⟩
        simp only [go_sem, Nat.reduceAdd, Nat.reduceSub, Nat.reduceMul, Nat.reduceLeDiff, Nat.reduceEqDiff, Nat.reduceBEq, Int.toNat_natCast, map_getD hlt', toA_cells, Nat.le_refl]
        rw [← toA_eq]
        have hsz := size_le_sizes ts i hlt'
        refine VCall.isoT [] (ih i hlt' (by omega)) (pTL_refl _ _ _) (by simp [go_sem, toA_low]) ?_
        simp only [flatR, flatA, flatC, if_true]
        refine EvK.go 1000 ?_
        have h1 := goods_snoc ts i hlt'
        cases hgd : ts[i].good with
        | true =>
          simp only [go_sem, Nat.reduceAdd, Nat.reduceSub, Nat.reduceMul, Nat.reduceLeDiff, Nat.reduceEqDiff, Nat.reduceBEq]
          refine ⟨⟨i + 1, hlt', by rw [h1, hgi, hgd]; rfl⟩, ?_, by simp only; omega⟩
          simp only [go_sem, Nat.reduceAdd, Nat.reduceSub, Nat.reduceMul, Nat.reduceLeDiff, Nat.reduceEqDiff, Nat.reduceBEq, tms_low, Nat.zero_lt_one]
          rw [i64_id (by omega)]; simp
        | false =>
          simp only [go_sem, Nat.reduceAdd, Nat.reduceSub, Nat.reduceMul, Nat.reduceLeDiff, Nat.reduceEqDiff, Nat.reduceBEq]
          refine EvK.go 1000 ?_
          simp only [go_sem, Nat.reduceAdd, Nat.reduceSub, Nat.reduceMul, Nat.reduceLeDiff, Nat.reduceEqDiff, Nat.reduceBEq]
          have h2 := goods_take ts i hlt'
          rw [h2, hgd]; simp
      · refine EvK.go 1000 ?_
        simp only [go_sem, Nat.reduceAdd, Nat.reduceSub, Nat.reduceMul, Nat.reduceLeDiff, Nat.reduceEqDiff, Nat.reduceBEq]
        have : i = ts.length := by omega
        subst this
        rw [List.take_length] at hgi
        rw [hgi]

theorem Check_eq (t : Tm) (hs : t.size < 2 ^ 62) : CallEq Try.prog 63 [t.toA] (.int .i64 t.check) := by
  have hd := depth_le_size t
  refine CallEq.begin (rs := [.tmp 2]) (m := 11) 1000 Try.func63 rfl rfl rfl (by decide) trivial ?_
  simp only [go_sem, Nat.reduceAdd, Nat.reduceSub, Nat.reduceMul, Nat.reduceLeDiff, Nat.reduceEqDiff, Nat.reduceBEq, toA_eq, Nat.le_refl]
  rw [← toA_eq]
  refine VCall.isoT [] (Size_eq t hs) (pTL_refl _ _ _) (by simp [go_sem, toA_low]) ?_
  simp only [flatR, flatA, flatC, if_true]
  refine EvK.go 1000 ?_
  by_cases c1 : (400 : Int) < t.size
  · simp only [go_sem, Nat.reduceAdd, Nat.reduceSub, Nat.reduceMul, Nat.reduceLeDiff, Nat.reduceEqDiff, Nat.reduceBEq, c1, Tm.check]
    rw [if_pos (by omega)]
  simp only [go_sem, Nat.reduceAdd, Nat.reduceSub, Nat.reduceMul, Nat.reduceLeDiff, Nat.reduceEqDiff, Nat.reduceBEq, c1, Nat.le_refl]
  rw [← toA_eq]
  refine VCall.isoT [] (Depth_eq t hs) (pTL_refl _ _ _) (by simp [go_sem, toA_low]) ?_
  simp only [flatR, flatA, flatC, if_true]
  refine EvK.go 1000 ?_
  by_cases c2 : (40 : Int) < t.depth
  · simp only [go_sem, Nat.reduceAdd, Nat.reduceSub, Nat.reduceMul, Nat.reduceLeDiff, Nat.reduceEqDiff, Nat.reduceBEq, c2, Tm.check]
    rw [if_neg (by omega), if_pos (by omega)]
  simp only [go_sem, Nat.reduceAdd, Nat.reduceSub, Nat.reduceMul, Nat.reduceLeDiff, Nat.reduceEqDiff, Nat.reduceBEq, c2, Nat.le_refl]
  rw [← toA_eq]
  refine VCall.isoT [] (Good_eq t hs) (pTL_refl _ _ _) (by simp [go_sem, toA_low]) ?_
  simp only [flatR, flatA, flatC, if_true]
  refine EvK.go 1000 ?_
  cases c3 : t.good <;>
  · simp only [go_sem, Nat.reduceAdd, Nat.reduceSub, Nat.reduceMul, Nat.reduceLeDiff, Nat.reduceEqDiff, Nat.reduceBEq, Tm.check]
    rw [if_neg (by omega), if_neg (by omega), c3]; rfl

theorem FewT_eq (t : Tm) : CallEq Try.prog 7 [t.toA] (.bool (decide (t.cnt 500 ≤ 500))) := by
  refine CallEq.begin (rs := [.tmp 2]) (m := 5) 1000 Try.func7 rfl rfl rfl (by decide) trivial ?_
  simp only [go_sem, Nat.reduceAdd, Nat.reduceSub, Nat.reduceMul, Nat.reduceLeDiff, Nat.reduceEqDiff, Nat.reduceBEq, toA_eq, Nat.le_refl]
  rw [← toA_eq]
  refine VCall.isoT [] (Count_eq t 500 (by omega) (by omega)) (pTL_refl _ _ _) (by simp [go_sem, toA_low]) ?_
  simp only [flatR, flatA, flatC, if_true]
  refine EvK.go 1000 ?_
  simp only [go_sem, Nat.reduceAdd, Nat.reduceSub, Nat.reduceMul, Nat.reduceLeDiff, Nat.reduceEqDiff, Nat.reduceBEq]
end Go.Proofs

/- The variables of a term, as the document's answer has them. -/
set_option linter.unusedSimpArgs false
namespace Go.Proofs
open Go Go.Abs

theorem Vars_eq (t : Tm) : t.fit → t.size < 1000000000 → CallEq Try.prog 33 [t.toA] (.ps 1 (ints t.vars)) := by
  induction t using Tm.rec_args with
  | h h ts ih =>
  intro hf hs
  simp only [Tm.size] at hs
  obtain ⟨hfh, hfs⟩ := hf
  have hlen := len_le_sizes ts
  refine CallEq.begin (rs := [.tmp 2]) (m := 49) 1000 Try.func33 rfl rfl rfl (by decide) (by simp only [go_sem, Nat.reduceAdd, Nat.reduceSub, Nat.reduceMul, Nat.reduceLeDiff, Nat.reduceEqDiff, Nat.reduceBEq, ints_low]) ?_
  simp only [go_sem, Nat.reduceAdd, Nat.reduceSub, Nat.reduceMul, Nat.reduceLeDiff, Nat.reduceEqDiff, Nat.reduceBEq, toA_eq, Tm.head, Tm.args]
  obtain ⟨o0, ho0⟩ : ∃ o0, (if h < 0 then [-1 - h] else ([] : List Int)) = o0 := ⟨_, rfl⟩
  have hvars : Tm.vars (.mk h ts) = Tm.varsL ts o0 := by rw [Tm.vars, ho0]
  have ho0l : o0.length ≤ 1 := by rw [← ho0]; split <;> simp
  have hol : ∀ i, (Tm.varsL (ts.take i) o0).length ≤ 1 + Tm.sizes (ts.take i) := fun i => by
    have := varsL_len (ts.take i) o0
    omega
  have c1 : h < 0 ∨ ¬ h < 0 := by omega
  rcases c1 with c1 | c1
  case' inl =>
    rw [if_pos c1] at ho0
    have hw : IntKind.i64.wrap (-1 - h) = -1 - h := i64_id (by unfold In64 at hfh; omega)
    simp only [go_sem, Nat.reduceAdd, Nat.reduceSub, Nat.reduceMul, Nat.reduceLeDiff, Nat.reduceEqDiff, Nat.reduceBEq, c1, appOk, List.mem_singleton, forall_eq, Nat.zero_lt_one, Nat.le_refl, hw]
    refine EvK.loopR (ι := {i : Nat // i ≤ ts.length}) 1000 (fun i => mkT 50 [(1, .ptr 0 0), (3, slA 1 1 (ints (Tm.varsL (ts.take i.1) o0))), (4, .int .i64 i.1)]) (fun i => [some (.var [.int .i64 h, .ps 2 (ts.map Tm.toA)]), slB (ints (Tm.varsL (ts.take i.1) o0))]) (fun i => ts.length - i.1) ⟨0, by omega⟩ [(1, 2), (2, 1)] ?_ (fun _ => by simp) ?_
  case' inr =>
    rw [if_neg c1] at ho0
    simp only [go_sem, Nat.reduceAdd, Nat.reduceSub, Nat.reduceMul, Nat.reduceLeDiff, Nat.reduceEqDiff, Nat.reduceBEq, c1]
    refine EvK.loopR (ι := {i : Nat // i ≤ ts.length}) 1000 (fun i => mkT 50 [(1, .ptr 0 0), (3, slA 1 1 (ints (Tm.varsL (ts.take i.1) o0))), (4, .int .i64 i.1)]) (fun i => [some (.var [.int .i64 h, .ps 2 (ts.map Tm.toA)]), slB (ints (Tm.varsL (ts.take i.1) o0))]) (fun i => ts.length - i.1) ⟨0, by omega⟩ [] ?_ (fun _ => by simp) ?_
  case inl.refine_1 =>
    subst ho0
    refine leR_mk rfl ?_
    simp only [go_sem, Nat.reduceAdd, Nat.reduceSub, Nat.reduceMul, Nat.reduceLeDiff, Nat.reduceEqDiff, Nat.reduceBEq, Tm.varsL, ints_cons, ints_nil, slA_cons, slB_cons, tms_low, renL_low0, Int.natCast_zero, Nat.zero_lt_two, Nat.one_lt_two]
  case inr.refine_1 =>
    subst ho0
    refine leR_mk rfl ?_
    simp only [go_sem, Nat.reduceAdd, Nat.reduceSub, Nat.reduceMul, Nat.reduceLeDiff, Nat.reduceEqDiff, Nat.reduceBEq, Tm.varsL, ints_cons, ints_nil, slA_nil, slB_nil, tms_low, renL_low0, Int.natCast_zero, Nat.zero_lt_two]
  all_goals
    rintro ⟨i, hi⟩
    have hbound := hol i
    generalize hoi : Tm.varsL (ts.take i) o0 = o at hbound
    simp only [go_sem, Nat.reduceAdd, Nat.reduceSub, Nat.reduceMul, Nat.reduceLeDiff, Nat.reduceEqDiff, Nat.reduceBEq, List.length_map, hoi]
    refine ⟨fun hlt => ?_, fun hge => ?_⟩
    · have hlt' : i < ts.length := by omega
      refine ⟨by omega, ?_⟩
      simp only [go_sem, Nat.reduceAdd, Nat.reduceSub, Nat.reduceMul, Nat.reduceLeDiff, Nat.reduceEqDiff, Nat.reduceBEq, Int.toNat_natCast, map_getD hlt', toA_cells, Nat.le_refl]
      rw [← toA_eq]
      have hsz := size_le_sizes ts i hlt'
      have hsn := sizes_snoc ts i hlt'
      have hst := sizes_take_le ts (i + 1)
      have hvl := vars_len ts[i]
      refine VCall.isoT [] (ih i hlt' (fits_get hfs i hlt') (by omega)) (pTL_refl _ _ _) (by simp [go_sem, toA_low]) ?_
      rw [frzI_nil]
      simp only [ite_self]
      refine EvK.go 1000 ?_
      generalize hl : ts[i].vars = l at *
      simp only [go_sem, Nat.reduceAdd, Nat.reduceSub, Nat.reduceMul, Nat.reduceLeDiff, Nat.reduceEqDiff, Nat.reduceBEq]
      refine EvK.loopR (ι := {j : Nat // j ≤ l.length}) 1000 (fun j => mkT 50 [(1, .ptr 0 0), (3, slA 1 1 (ints (addNew o (l.take j.1)))), (4, .int .i64 i), (5, .ps 1 (ints l)), (6, .int .i64 j.1)]) (fun j => [some (.var [.int .i64 h, .ps 2 (ts.map Tm.toA)]), slB (ints (addNew o (l.take j.1)))]) (fun j => l.length - j.1) ⟨0, by omega⟩ [] ?_ (fun _ => by simp) ?_
      · refine leR_mk rfl ?_
        have e0 : addNew o [] = o := rfl
        cases o with
        | nil => simp only [go_sem, Nat.reduceAdd, Nat.reduceSub, Nat.reduceMul, Nat.reduceLeDiff, Nat.reduceEqDiff, Nat.reduceBEq, e0, ints_nil, slA_nil, slB_nil, tms_low, ints_low, renL_low0, Int.natCast_zero, Nat.zero_lt_two]
        | cons x o' => simp only [go_sem, Nat.reduceAdd, Nat.reduceSub, Nat.reduceMul, Nat.reduceLeDiff, Nat.reduceEqDiff, Nat.reduceBEq, e0, ints_cons, slA_cons, slB_cons, tms_low, ints_low, renL_low0, Int.natCast_zero, Nat.zero_lt_two, Nat.one_lt_two]
      · rintro ⟨j, hj⟩
        have hol2 := addNew_len (l.take j) o
        have hlj : (l.take j).length ≤ l.length := by rw [List.length_take]; omega
        generalize hq : addNew o (l.take j) = q at *
        simp only [go_sem, Nat.reduceAdd, Nat.reduceSub, Nat.reduceMul, Nat.reduceLeDiff, Nat.reduceEqDiff, Nat.reduceBEq, ints_len]
        refine ⟨fun hjl => ?_, fun hjg => ?_⟩
        · have hjl' : j < l.length := by omega
          have hstep := addNew_snoc o l j hjl'
          rw [hq] at hstep
          simp only [go_sem, Nat.reduceAdd, Nat.reduceSub, Nat.reduceMul, Nat.reduceLeDiff, Nat.reduceEqDiff, Nat.reduceBEq, Int.toNat_natCast, ints_get hjl', hq]
          refine ⟨by omega, ?_⟩
          have hin := In_eq l[j] q (by omega)
          refine VCall.isoT [1] hin ?_ (by simp only [go_sem, Nat.reduceAdd, Nat.reduceSub, Nat.reduceMul, Nat.reduceLeDiff, Nat.reduceEqDiff, Nat.reduceBEq, ints_low]) ?_
          · simp only [go_sem, Nat.reduceAdd, Nat.reduceSub, Nat.reduceMul, Nat.reduceLeDiff, Nat.reduceEqDiff, Nat.reduceBEq, among_cons, among_nil, pT_slA]
          simp only [flatR, flatA, flatC, if_true]
          refine EvK.go 1000 ?_
          unfold add1 at hstep
          by_cases hm : l[j] ∈ q
          · rw [if_pos hm] at hstep
            simp only [go_sem, Nat.reduceAdd, Nat.reduceSub, Nat.reduceMul, Nat.reduceLeDiff, Nat.reduceEqDiff, Nat.reduceBEq, hm]
            refine ⟨⟨j + 1, by omega⟩, [], leR_mk rfl ?_, by simp only; omega⟩
            simp only [hstep]
            rw [i64_id (by omega)]
            have l1 := slA_low (b := 1) (n := 2) (by omega) 1 (ints q)
            have l2 := slB_lowO (n := 2) (ints q) (ints_low q)
            cases q with
            | nil => simp only [go_sem, Nat.reduceAdd, Nat.reduceSub, Nat.reduceMul, Nat.reduceLeDiff, Nat.reduceEqDiff, Nat.reduceBEq, slA_nil, slB_nil, ints_nil, tms_low, ints_low, renL_low0, Nat.zero_lt_two, Int.natCast_add, Int.natCast_one]
            | cons x q' => simp only [go_sem, Nat.reduceAdd, Nat.reduceSub, Nat.reduceMul, Nat.reduceLeDiff, Nat.reduceEqDiff, Nat.reduceBEq, slA_cons, slB_cons, ints_cons, tms_low, ints_low, renL_low0, Nat.zero_lt_two, Nat.one_lt_two, Int.natCast_add, Int.natCast_one]
          · rw [if_neg hm] at hstep
            simp only [go_sem, Nat.reduceAdd, Nat.reduceSub, Nat.reduceMul, Nat.reduceLeDiff, Nat.reduceEqDiff, Nat.reduceBEq, hm, ints_len, Int.toNat_natCast, ints_get hjl', app_slA, appOk, List.mem_singleton, forall_eq, Nat.zero_lt_one, Nat.le_refl]
            refine ⟨by omega, by omega, ?_⟩
            refine ⟨⟨j + 1, by omega⟩, [(1, 3), (3, 1)], leR_mk rfl ?_, by simp only; omega⟩
            simp only [hstep]
            rw [i64_id (by omega)]
            simp only [go_sem, Nat.reduceAdd, Nat.reduceSub, Nat.reduceMul, Nat.reduceLeDiff, Nat.reduceEqDiff, Nat.reduceBEq, ints_add, slA_snoc, slB_snoc, ints_len, tms_low, ints_low, renL_low0, Nat.zero_lt_two, Nat.one_lt_two, Int.natCast_add, Int.natCast_one]
            rw [ints_snoc, renL_low0 (ints_low _)]
            exact ⟨rfl, ints_low _⟩
        · have : j = l.length := by omega
          subst this
          rw [List.take_length] at hq
          have hs1 := varsL_snoc ts i hlt' o0
          rw [hoi, hl, hq] at hs1
          refine EvK.go 1000 ?_
          simp only [go_sem, Nat.reduceAdd, Nat.reduceSub, Nat.reduceMul, Nat.reduceLeDiff, Nat.reduceEqDiff, Nat.reduceBEq]
          refine ⟨⟨i + 1, by omega⟩, [], leR_mk rfl ?_, by simp only; omega⟩
          simp only [hs1]
          rw [i64_id (by omega)]
          cases q with
          | nil => simp only [go_sem, Nat.reduceAdd, Nat.reduceSub, Nat.reduceMul, Nat.reduceLeDiff, Nat.reduceEqDiff, Nat.reduceBEq, slA_nil, slB_nil, ints_nil, tms_low, ints_low, renL_low0, Nat.zero_lt_two, Int.natCast_add, Int.natCast_one]
          | cons x q' => simp only [go_sem, Nat.reduceAdd, Nat.reduceSub, Nat.reduceMul, Nat.reduceLeDiff, Nat.reduceEqDiff, Nat.reduceBEq, slA_cons, slB_cons, ints_cons, tms_low, ints_low, renL_low0, Nat.zero_lt_two, Nat.one_lt_two, Int.natCast_add, Int.natCast_one]
    · refine EvK.go 1000 ?_
      have : i = ts.length := by omega
      subst this
      rw [List.take_length] at hoi
      simp only [go_sem, Nat.reduceAdd, Nat.reduceSub, Nat.reduceMul, Nat.reduceLeDiff, Nat.reduceEqDiff, Nat.reduceBEq, hvars, hoi, pT_slA]
end Go.Proofs

/- Guards of the laws about worlds: symbols, worlds and clauses that are few. -/
set_option linter.unusedSimpArgs false
namespace Go.Proofs
open Go Go.Abs

theorem SymsFew_eq (g : List Sy) : CallEq Try.prog 22 [.ps 4 (syms g)] (.bool (symsFew g)) := by
  refine CallEq.begin (rs := [.tmp 2]) (m := 24) 1000 Try.func22 rfl rfl rfl (by decide) trivial ?_
  simp only [go_sem, Nat.reduceAdd, Nat.reduceSub, Nat.reduceMul, Nat.reduceLeDiff, Nat.reduceEqDiff, Nat.reduceBEq]
  by_cases hg : (g.length : Int) ≤ 300
  · refine EvK.loopI (ι := {i : Nat // i ≤ g.length ∧ (g.take i).all (fun s => decide (s.name.size ≤ 100)) = true}) 1000 (fun i => mkT 25 [(0, .ps 4 (syms g)), (3, .int .i64 i.1)]) (fun _ => []) (fun i => g.length - i.1) ⟨0, by simp⟩ ?_ (fun _ => Nat.zero_le _) ?_
    · simp only [go_sem, Nat.reduceAdd, Nat.reduceSub, Nat.reduceMul, Nat.reduceLeDiff, Nat.reduceEqDiff, Nat.reduceBEq, syms_low, Int.natCast_zero]
    · rintro ⟨i, hi, hpre⟩
      by_cases hlt : (i : Int) < g.length
      · have hlt' : i < g.length := by omega
        simp only [go_sem, Nat.reduceAdd, Nat.reduceSub, Nat.reduceMul, Nat.reduceLeDiff, Nat.reduceEqDiff, Nat.reduceBEq, syms_len, hlt, hg, Int.toNat_natCast, syms_get hlt', sy_cells]
        refine ⟨by omega, fun hbad => ?_, fun hok => ?_⟩
        · refine EvK.go 1000 ?_
          simp only [go_sem, Nat.reduceAdd, Nat.reduceSub, Nat.reduceMul, Nat.reduceLeDiff, Nat.reduceEqDiff, Nat.reduceBEq]
          have h1 : g.all (fun s => decide (s.name.size ≤ 100)) = false := by
            rw [List.all_eq_false]
            exact ⟨g[i], List.getElem_mem hlt', by simp; omega⟩
          simp [symsFew, h1]
        · refine ⟨⟨i + 1, hlt', ?_⟩, ?_, by simp only; omega⟩
          · rw [List.take_add_one, List.all_append, hpre, List.getElem?_eq_getElem hlt']
            simp; omega
          · simp only [go_sem, Nat.reduceAdd, Nat.reduceSub, Nat.reduceMul, Nat.reduceLeDiff, Nat.reduceEqDiff, Nat.reduceBEq, syms_low]
            rw [i64_id (by omega)]; rfl
      · simp only [go_sem, Nat.reduceAdd, Nat.reduceSub, Nat.reduceMul, Nat.reduceLeDiff, Nat.reduceEqDiff, Nat.reduceBEq, syms_len, hlt]
        refine EvK.go 1000 ?_
        simp only [go_sem, Nat.reduceAdd, Nat.reduceSub, Nat.reduceMul, Nat.reduceLeDiff, Nat.reduceEqDiff, Nat.reduceBEq, syms_len]
        have : i = g.length := by omega
        subst this
        rw [List.take_length] at hpre
        simp only [symsFew, hpre, Bool.and_true]
        congr 1
        simp; omega
  · refine EvK.loopI (ι := Unit) 1000 (fun _ => mkT 25 [(0, .ps 4 (syms g)), (3, .int .i64 0)]) (fun _ => []) (fun _ => 0) () ?_ (fun _ => Nat.zero_le _) ?_
    · simp only [go_sem, Nat.reduceAdd, Nat.reduceSub, Nat.reduceMul, Nat.reduceLeDiff, Nat.reduceEqDiff, Nat.reduceBEq, syms_low]
    · rintro ⟨⟩
      have hlt : (0 : Int) < g.length := by omega
      simp only [go_sem, Nat.reduceAdd, Nat.reduceSub, Nat.reduceMul, Nat.reduceLeDiff, Nat.reduceEqDiff, Nat.reduceBEq, syms_len, hlt, hg]
      refine EvK.go 1000 ?_
      simp only [go_sem, Nat.reduceAdd, Nat.reduceSub, Nat.reduceMul, Nat.reduceLeDiff, Nat.reduceEqDiff, Nat.reduceBEq, syms_len, hg]
      have : ¬ g.length ≤ 300 := by omega
      simp [symsFew, this]

theorem SumFew_eq (ts : List Tm) (hl : ts.length < 2 ^ 62) : CallEq Try.prog 56 [.ps 2 (ts.map Tm.toA)] (.bool (decide (cntS ts 0 ≤ 500))) := by
  refine CallEq.begin (rs := [.tmp 2]) (m := 23) 1000 Try.func56 rfl rfl rfl (by decide) trivial ?_
  simp only [go_sem, Nat.reduceAdd, Nat.reduceSub, Nat.reduceMul, Nat.reduceLeDiff, Nat.reduceEqDiff, Nat.reduceBEq]
  refine EvK.loopI (ι := {p : Nat × Int // p.1 ≤ ts.length ∧ 0 ≤ p.2 ∧ p.2 ≤ 1001 ∧ cntS (ts.drop p.1) p.2 = cntS ts 0}) 1000 (fun p => mkT 24 [(0, .ps 2 (ts.map Tm.toA)), (3, .int .i64 p.1.2), (4, .int .i64 p.1.1)]) (fun _ => []) (fun p => ts.length - p.1.1) ⟨(0, 0), by simp⟩ ?_ (fun _ => Nat.zero_le _) ?_
  · simp only [go_sem, Nat.reduceAdd, Nat.reduceSub, Nat.reduceMul, Nat.reduceLeDiff, Nat.reduceEqDiff, Nat.reduceBEq, tms_low, Int.natCast_zero]
  · rintro ⟨⟨i, n⟩, hi, h1, h2, h3⟩
    simp only at hi h1 h2 h3
    by_cases hlt : (i : Int) < ts.length
    · have hlt' : i < ts.length := by omega
      by_cases hn : n ≤ 500
      · simp only [go_sem, Nat.reduceAdd, Nat.reduceSub, Nat.reduceMul, Nat.reduceLeDiff, Nat.reduceEqDiff, Nat.reduceBEq, List.length_map, hlt, hn, Int.toNat_natCast, map_getD hlt', toA_cells, Nat.le_refl]
        refine ⟨by omega, ?_⟩
        rw [← toA_eq]
        refine VCall.isoT [] (Count_eq ts[i] 500 (by omega) (by omega)) (pTL_refl _ _ _) (by simp [go_sem, toA_low]) ?_
        simp only [flatR, flatA, flatC, if_true]
        refine EvK.go 1000 ?_
        simp only [go_sem, Nat.reduceAdd, Nat.reduceSub, Nat.reduceMul, Nat.reduceLeDiff, Nat.reduceEqDiff, Nat.reduceBEq]
        have hb := cnt_bounds ts[i] 500 (by omega)
        refine ⟨⟨(i + 1, n + ts[i].cnt 500), hlt', by simp only; omega, by simp only; omega, ?_⟩, ?_, by simp only; omega⟩
        · simp only
          rw [← h3, List.drop_eq_getElem_cons hlt', cntS, if_pos hn]
        · simp only [go_sem, Nat.reduceAdd, Nat.reduceSub, Nat.reduceMul, Nat.reduceLeDiff, Nat.reduceEqDiff, Nat.reduceBEq, tms_low]
          rw [i64_id (by omega), i64_id (by omega)]
          simp
      · simp only [go_sem, Nat.reduceAdd, Nat.reduceSub, Nat.reduceMul, Nat.reduceLeDiff, Nat.reduceEqDiff, Nat.reduceBEq, List.length_map, hlt, hn]
        refine EvK.go 1000 ?_
        simp only [go_sem, Nat.reduceAdd, Nat.reduceSub, Nat.reduceMul, Nat.reduceLeDiff, Nat.reduceEqDiff, Nat.reduceBEq, hn]
        have : cntS (ts.drop i) n = n := by cases ts.drop i <;> simp [cntS, hn]
        simp [← h3, this, hn]
    · simp only [go_sem, Nat.reduceAdd, Nat.reduceSub, Nat.reduceMul, Nat.reduceLeDiff, Nat.reduceEqDiff, Nat.reduceBEq, List.length_map, hlt]
      refine EvK.go 1000 ?_
      simp only [go_sem, Nat.reduceAdd, Nat.reduceSub, Nat.reduceMul, Nat.reduceLeDiff, Nat.reduceEqDiff, Nat.reduceBEq]
      have : i = ts.length := by omega
      subst this
      rw [← h3, List.drop_length, cntS]
end Go.Proofs

/- Both sides of each literal, twice; what is few. -/
set_option linter.unusedSimpArgs false
namespace Go.Proofs
open Go Go.Abs

theorem Terms10_eq (c : List Li) (hc : c.length < 1000000) : CallEq Try.prog 57 [.ps 5 (lits c)] (.ps 2 ((sides c).map Tm.toA)) := by
  refine CallEq.begin (rs := [.tmp 2]) (m := 24) 1000 Try.func57 rfl rfl rfl (by decide) (tms_low _) ?_
  simp only [go_sem, Nat.reduceAdd, Nat.reduceSub, Nat.reduceMul, Nat.reduceLeDiff, Nat.reduceEqDiff, Nat.reduceBEq]
  refine EvK.loopR (ι := {i : Nat // i ≤ c.length}) 1000 (fun i => mkT 25 [(0, .ps 5 (lits c)), (3, slA 0 2 ((sides (c.take i.1)).map Tm.toA)), (4, .int .i64 i.1)]) (fun i => [slB ((sides (c.take i.1)).map Tm.toA)]) (fun i => c.length - i.1) ⟨0, by omega⟩ [] ?_ (fun _ => by simp) ?_
  · refine leR_mk rfl ?_
    simp only [go_sem, Nat.reduceAdd, Nat.reduceSub, Nat.reduceMul, Nat.reduceLeDiff, Nat.reduceEqDiff, Nat.reduceBEq, sides, List.flatMap_nil, slA_nil, slB_nil, lits_low, renL_low0, Int.natCast_zero]
  · rintro ⟨i, hi⟩
    have hln := sides_len (c.take i)
    have hlt2 : (c.take i).length ≤ c.length := by rw [List.length_take]; omega
    have hstep := fun h => sides_snoc c i h
    generalize hq : sides (c.take i) = q at *
    simp only [go_sem, Nat.reduceAdd, Nat.reduceSub, Nat.reduceMul, Nat.reduceLeDiff, Nat.reduceEqDiff, Nat.reduceBEq, lits_len, hq]
    refine ⟨fun hlt => ?_, fun hge => ?_⟩
    · have hlt' : i < c.length := by omega
      refine EvK.draw [⟨none, [], [1]⟩, .no, .no, .no, .no, .no, .no, .no, .no, .no, .no, ⟨some 1, [1], []⟩, ⟨some 2, [0, 2], []⟩] 1 3 mixed rfl rfl (by decide) ?_
      simp only [go_sem, Nat.reduceAdd, Nat.reduceSub, Nat.reduceMul, Nat.reduceLeDiff, Nat.reduceEqDiff, Nat.reduceBEq, padS, lits_len, Int.toNat_natCast, lits_get hlt', li_cells, Nat.le_refl, app_slA2, appOk, List.mem_cons, List.not_mem_nil, forall_eq_or_imp, forall_eq, Nat.zero_lt_two, List.length_map]
      refine ⟨by omega, by omega, by omega, ?_⟩
      refine EvK.go 1000 ?_
      simp only [go_sem, Nat.reduceAdd, Nat.reduceSub, Nat.reduceMul, Nat.reduceLeDiff, Nat.reduceEqDiff, Nat.reduceBEq]
      refine ⟨⟨i + 1, hlt'⟩, [(0, 2), (2, 0)], leR_mk rfl ?_, by simp only; omega⟩
      simp only [hstep hlt']
      rw [i64_id (by omega)]
      have e1 : (q ++ [c[i].l, c[i].r]).map Tm.toA = q.map Tm.toA ++ [.agg [.int .i64 c[i].l.head, .ps 2 (c[i].l.args.map Tm.toA)], .agg [.int .i64 c[i].r.head, .ps 2 (c[i].r.args.map Tm.toA)]] := by
        rw [List.map_append, List.map_cons, List.map_cons, List.map_nil, toA_eq c[i].l, toA_eq c[i].r]
      have lw : lowL 0 ((q ++ [c[i].l, c[i].r]).map Tm.toA) := tms_low _
      rw [e1] at lw ⊢
      rw [slA_app (by simp), slB_app (by simp)]
      simp only [go_sem, Nat.reduceAdd, Nat.reduceSub, Nat.reduceMul, Nat.reduceLeDiff, Nat.reduceEqDiff, Nat.reduceBEq, lits_low, renL_low0, renL_low0 lw, List.length_map, lowL_mono (Nat.zero_le 1) lw, Int.natCast_add, Int.natCast_one, Nat.zero_lt_one]
    · refine EvK.go 1000 ?_
      have : i = c.length := by omega
      subst this
      rw [List.take_length] at hq
      simp only [go_sem, Nat.reduceAdd, Nat.reduceSub, Nat.reduceMul, Nat.reduceLeDiff, Nat.reduceEqDiff, Nat.reduceBEq, hq, pT_slA]

theorem SidesOf_eq (c : List Li) (hc : c.length < 1000000) : CallEq Try.prog 27 [.ps 5 (lits c)] (.ps 2 ((sides c).map Tm.toA)) := by
  refine CallEq.begin (rs := [.tmp 2]) (m := 24) 1000 Try.func27 rfl rfl rfl (by decide) (tms_low _) ?_
  simp only [go_sem, Nat.reduceAdd, Nat.reduceSub, Nat.reduceMul, Nat.reduceLeDiff, Nat.reduceEqDiff, Nat.reduceBEq]
  refine EvK.loopR (ι := {i : Nat // i ≤ c.length}) 1000 (fun i => mkT 25 [(0, .ps 5 (lits c)), (3, slA 0 2 ((sides (c.take i.1)).map Tm.toA)), (4, .int .i64 i.1)]) (fun i => [slB ((sides (c.take i.1)).map Tm.toA)]) (fun i => c.length - i.1) ⟨0, by omega⟩ [] ?_ (fun _ => by simp) ?_
  · refine leR_mk rfl ?_
    simp only [go_sem, Nat.reduceAdd, Nat.reduceSub, Nat.reduceMul, Nat.reduceLeDiff, Nat.reduceEqDiff, Nat.reduceBEq, sides, List.flatMap_nil, slA_nil, slB_nil, lits_low, renL_low0, Int.natCast_zero]
  · rintro ⟨i, hi⟩
    have hln := sides_len (c.take i)
    have hlt2 : (c.take i).length ≤ c.length := by rw [List.length_take]; omega
    have hstep := fun h => sides_snoc c i h
    generalize hq : sides (c.take i) = q at *
    simp only [go_sem, Nat.reduceAdd, Nat.reduceSub, Nat.reduceMul, Nat.reduceLeDiff, Nat.reduceEqDiff, Nat.reduceBEq, lits_len, hq]
    refine ⟨fun hlt => ?_, fun hge => ?_⟩
    · have hlt' : i < c.length := by omega
      refine EvK.draw [⟨none, [], [1]⟩, .no, .no, .no, .no, .no, .no, .no, .no, .no, .no, ⟨some 1, [1], []⟩, ⟨some 2, [0, 2], []⟩] 1 3 mixed rfl rfl (by decide) ?_
      simp only [go_sem, Nat.reduceAdd, Nat.reduceSub, Nat.reduceMul, Nat.reduceLeDiff, Nat.reduceEqDiff, Nat.reduceBEq, padS, lits_len, Int.toNat_natCast, lits_get hlt', li_cells, Nat.le_refl, app_slA2, appOk, List.mem_cons, List.not_mem_nil, forall_eq_or_imp, forall_eq, Nat.zero_lt_two, List.length_map]
      refine ⟨by omega, by omega, by omega, ?_⟩
      refine EvK.go 1000 ?_
      simp only [go_sem, Nat.reduceAdd, Nat.reduceSub, Nat.reduceMul, Nat.reduceLeDiff, Nat.reduceEqDiff, Nat.reduceBEq]
      refine ⟨⟨i + 1, hlt'⟩, [(0, 2), (2, 0)], leR_mk rfl ?_, by simp only; omega⟩
      simp only [hstep hlt']
      rw [i64_id (by omega)]
      have e1 : (q ++ [c[i].l, c[i].r]).map Tm.toA = q.map Tm.toA ++ [.agg [.int .i64 c[i].l.head, .ps 2 (c[i].l.args.map Tm.toA)], .agg [.int .i64 c[i].r.head, .ps 2 (c[i].r.args.map Tm.toA)]] := by
        rw [List.map_append, List.map_cons, List.map_cons, List.map_nil, toA_eq c[i].l, toA_eq c[i].r]
      have lw : lowL 0 ((q ++ [c[i].l, c[i].r]).map Tm.toA) := tms_low _
      rw [e1] at lw ⊢
      rw [slA_app (by simp), slB_app (by simp)]
      simp only [go_sem, Nat.reduceAdd, Nat.reduceSub, Nat.reduceMul, Nat.reduceLeDiff, Nat.reduceEqDiff, Nat.reduceBEq, lits_low, renL_low0, renL_low0 lw, List.length_map, lowL_mono (Nat.zero_le 1) lw, Int.natCast_add, Int.natCast_one, Nat.zero_lt_one]
    · refine EvK.go 1000 ?_
      have : i = c.length := by omega
      subst this
      rw [List.take_length] at hq
      simp only [go_sem, Nat.reduceAdd, Nat.reduceSub, Nat.reduceMul, Nat.reduceLeDiff, Nat.reduceEqDiff, Nat.reduceBEq, hq, pT_slA]

theorem LitsFew_eq (c : List Li) : CallEq Try.prog 24 [.ps 5 (lits c)] (.bool (litsFew c)) := by
  refine CallEq.begin (rs := [.tmp 2]) (m := 10) 1000 Try.func24 rfl rfl rfl (by decide) trivial ?_
  by_cases h : (c.length : Int) ≤ 40
  · simp only [go_sem, Nat.reduceAdd, Nat.reduceSub, Nat.reduceMul, Nat.reduceLeDiff, Nat.reduceEqDiff, Nat.reduceBEq, lits_len, h]
    refine VCall.isoT [] (Terms10_eq c (by omega)) (pTL_refl _ _ _) (by simp [go_sem, lits_low]) ?_
    rw [frzI_nil]
    simp only [ite_self]
    refine EvK.go 1000 ?_
    simp only [go_sem, Nat.reduceAdd, Nat.reduceSub, Nat.reduceMul, Nat.reduceLeDiff, Nat.reduceEqDiff, Nat.reduceBEq]
    have hl := sides_len c
    refine VCall.isoT [] (SumFew_eq (sides c) (by omega)) (pTL_refl _ _ _) (by simp [go_sem, tms_low]) ?_
    simp only [flatR, flatA, flatC, if_true]
    refine EvK.go 1000 ?_
    have : c.length ≤ 40 := by omega
    simp only [go_sem, Nat.reduceAdd, Nat.reduceSub, Nat.reduceMul, Nat.reduceLeDiff, Nat.reduceEqDiff, Nat.reduceBEq, litsFew, this]
  · simp only [go_sem, Nat.reduceAdd, Nat.reduceSub, Nat.reduceMul, Nat.reduceLeDiff, Nat.reduceEqDiff, Nat.reduceBEq, lits_len, h]
    have : ¬ c.length ≤ 40 := by omega
    simp [litsFew, this]

theorem Vars05_eq (ts : List Tm) (hf : Tm.fits ts) (hs : Tm.sizes ts < 999999999) : CallEq Try.prog 26 [.ps 2 (ts.map Tm.toA)] (.ps 1 (ints (Tm.varsL ts []))) := by
  refine CallEq.begin (rs := [.tmp 2]) (m := 7) 1000 Try.func26 rfl rfl rfl (by decide) (ints_low _) ?_
  simp only [go_sem, Nat.reduceAdd, Nat.reduceSub, Nat.reduceMul, Nat.reduceLeDiff, Nat.reduceEqDiff, Nat.reduceBEq, Nat.le_refl]
  rw [toA_mk]
  refine VCall.isoT [] (Vars_eq (Tm.mk 0 ts) ⟨by unfold In64; omega, hf⟩ (by simp only [Tm.size]; omega)) (pTL_refl _ _ _) (by simp [go_sem, toA_low]) ?_
  rw [frzI_nil]
  simp only [ite_self]
  refine EvK.go 1000 ?_
  simp only [go_sem, Nat.reduceAdd, Nat.reduceSub, Nat.reduceMul, Nat.reduceLeDiff, Nat.reduceEqDiff, Nat.reduceBEq, Tm.vars, Int.lt_irrefl]

theorem Vars10_eq (c : List Li) (hc : c.length < 1000000) (hf : Tm.fits (sides c)) (hs : Tm.sizes (sides c) < 999999999) : CallEq Try.prog 40 [.ps 5 (lits c)] (.ps 1 (ints (clauseVars c))) := by
  refine CallEq.begin (rs := [.tmp 2]) (m := 5) 1000 Try.func40 rfl rfl rfl (by decide) (ints_low _) ?_
  simp only [go_sem, Nat.reduceAdd, Nat.reduceSub, Nat.reduceMul, Nat.reduceLeDiff, Nat.reduceEqDiff, Nat.reduceBEq]
  refine VCall.isoT [] (Terms10_eq c hc) (pTL_refl _ _ _) (by simp [go_sem, lits_low]) ?_
  rw [frzI_nil]
  simp only [ite_self]
  refine EvK.go 1000 ?_
  simp only [go_sem, Nat.reduceAdd, Nat.reduceSub, Nat.reduceMul, Nat.reduceLeDiff, Nat.reduceEqDiff, Nat.reduceBEq]
  refine VCall.isoT [] (Vars05_eq (sides c) hf hs) (pTL_refl _ _ _) (by simp [go_sem, tms_low]) ?_
  rw [frzI_nil]
  simp only [ite_self]
  refine EvK.go 1000 ?_
  simp only [go_sem, Nat.reduceAdd, Nat.reduceSub, Nat.reduceMul, Nat.reduceLeDiff, Nat.reduceEqDiff, Nat.reduceBEq, clauseVars]

theorem WorldFew_eq (w : Wo) : CallEq Try.prog 23 [w.toA] (.bool w.few) := by
  refine CallEq.begin (rs := [.tmp 2]) (m := 37) 1000 Try.func23 rfl rfl rfl (by decide) trivial ?_
  simp only [go_sem, Nat.reduceAdd, Nat.reduceSub, Nat.reduceMul, Nat.reduceLeDiff, Nat.reduceEqDiff, Nat.reduceBEq, wo_eq]
  by_cases hr : (w.rows.length : Int) ≤ 300
  · have hr' : w.rows.length ≤ 300 := by omega
    refine EvK.loopI (ι := {p : Nat × Int // p.1 ≤ w.rows.length ∧ rowSum (w.rows.drop p.1) p.2 = rowSum w.rows 0}) 1000 (fun p => mkT 38 [(1, .ptr 0 0), (3, .int .i64 p.1.2), (4, .int .i64 p.1.1)]) (fun _ => [some (.var [.int .i64 w.size, .ps 1 (rowsA w.rows)])]) (fun p => w.rows.length - p.1.1) ⟨(0, 0), by simp⟩ ?_ (fun _ => by simp) ?_
    · simp only [go_sem, Nat.reduceAdd, Nat.reduceSub, Nat.reduceMul, Nat.reduceLeDiff, Nat.reduceEqDiff, Nat.reduceBEq, rowsA_low, Int.natCast_zero, Nat.zero_lt_one]
    · rintro ⟨⟨i, n⟩, hi, h3⟩
      simp only at hi h3
      by_cases hlt : (i : Int) < w.rows.length
      · have hlt' : i < w.rows.length := by omega
        by_cases hn : n ≤ 3000
        · simp only [go_sem, Nat.reduceAdd, Nat.reduceSub, Nat.reduceMul, Nat.reduceLeDiff, Nat.reduceEqDiff, Nat.reduceBEq, rowsA_len, hlt, hr, hn, Int.toNat_natCast, rowsA_get hlt', ints_len]
          refine ⟨by omega, ⟨(i + 1, IntKind.i64.wrap (n + w.rows[i].length)), hlt', ?_⟩, ?_, by simp only; omega⟩
          · simp only
            rw [← h3, List.drop_eq_getElem_cons hlt', rowSum, if_pos hn]
          · simp only [go_sem, Nat.reduceAdd, Nat.reduceSub, Nat.reduceMul, Nat.reduceLeDiff, Nat.reduceEqDiff, Nat.reduceBEq, rowsA_low, Nat.zero_lt_one]
            rw [i64_id (by omega)]; rfl
        · simp only [go_sem, Nat.reduceAdd, Nat.reduceSub, Nat.reduceMul, Nat.reduceLeDiff, Nat.reduceEqDiff, Nat.reduceBEq, rowsA_len, hlt, hr, hn]
          refine EvK.go 1000 ?_
          simp only [go_sem, Nat.reduceAdd, Nat.reduceSub, Nat.reduceMul, Nat.reduceLeDiff, Nat.reduceEqDiff, Nat.reduceBEq, rowsA_len, hr, hn]
          rw [rowSum_stop _ _ hn] at h3
          simp [Wo.few, ← h3, hn]
      · simp only [go_sem, Nat.reduceAdd, Nat.reduceSub, Nat.reduceMul, Nat.reduceLeDiff, Nat.reduceEqDiff, Nat.reduceBEq, rowsA_len, hlt]
        refine EvK.go 1000 ?_
        have : i = w.rows.length := by omega
        subst this
        rw [List.drop_length, rowSum] at h3
        by_cases hn : n ≤ 3000 <;>
        · simp only [go_sem, Nat.reduceAdd, Nat.reduceSub, Nat.reduceMul, Nat.reduceLeDiff, Nat.reduceEqDiff, Nat.reduceBEq, rowsA_len, hr, hn]
          simp [Wo.few, ← h3, hn, hr']
  · refine EvK.loopI (ι := Unit) 1000 (fun _ => mkT 38 [(1, .ptr 0 0), (3, .int .i64 0), (4, .int .i64 0)]) (fun _ => [some (.var [.int .i64 w.size, .ps 1 (rowsA w.rows)])]) (fun _ => 0) () ?_ (fun _ => by simp) ?_
    · simp only [go_sem, Nat.reduceAdd, Nat.reduceSub, Nat.reduceMul, Nat.reduceLeDiff, Nat.reduceEqDiff, Nat.reduceBEq, rowsA_low, Nat.zero_lt_one]
    · rintro ⟨⟩
      have hlt : (0 : Int) < w.rows.length := by omega
      have hr' : ¬ w.rows.length ≤ 300 := by omega
      simp only [go_sem, Nat.reduceAdd, Nat.reduceSub, Nat.reduceMul, Nat.reduceLeDiff, Nat.reduceEqDiff, Nat.reduceBEq, rowsA_len, hlt, hr]
      refine EvK.go 1000 ?_
      simp only [go_sem, Nat.reduceAdd, Nat.reduceSub, Nat.reduceMul, Nat.reduceLeDiff, Nat.reduceEqDiff, Nat.reduceBEq, rowsA_len, hr]
      simp [Wo.few, hr']


theorem WorldMany_eq (w : Wo) (c : List Li) (most : Int) (hm : 0 ≤ most ∧ most < 2 ^ 62) (hc : c.length < 1000000) (hf : Tm.fits (sides c)) (hs : Tm.sizes (sides c) < 999999999) :
    CallEq Try.prog 8 [w.toA, .ps 5 (lits c), .int .i64 most] (.int .i64 (worldMany w c most)) := by
  refine CallEq.begin (rs := [.tmp 6]) (m := 29) 1000 Try.func8 rfl rfl rfl (by decide) trivial ?_
  simp only [go_sem, Nat.reduceAdd, Nat.reduceSub, Nat.reduceMul, Nat.reduceLeDiff, Nat.reduceEqDiff, Nat.reduceBEq, wo_eq]
  refine VCall.isoT [] (SidesOf_eq c hc) (pTL_refl _ _ _) (by simp [go_sem, lits_low]) ?_
  rw [frzI_nil]
  simp only [ite_self]
  refine EvK.go 1000 ?_
  simp only [go_sem, Nat.reduceAdd, Nat.reduceSub, Nat.reduceMul, Nat.reduceLeDiff, Nat.reduceEqDiff, Nat.reduceBEq]
  refine VCall.isoT [] (Vars05_eq (sides c) hf hs) (pTL_refl _ _ _) (by simp [go_sem, tms_low]) ?_
  rw [frzI_nil]
  simp only [ite_self]
  refine EvK.go 1000 ?_
  have hvl := varsL_len (sides c) []
  have hdef : worldMany w c most = min (manyL w.size most (Tm.varsL (sides c) []).length 1) (most + 1) := rfl
  rw [hdef]
  generalize Tm.varsL (sides c) [] = vs at *
  simp only [go_sem, Nat.reduceAdd, Nat.reduceSub, Nat.reduceMul, Nat.reduceLeDiff, Nat.reduceEqDiff, Nat.reduceBEq]
  refine EvK.loopI (ι := {p : Nat × Int // p.1 ≤ vs.length ∧ manyL w.size most (vs.length - p.1) p.2 = manyL w.size most vs.length 1}) 1000 (fun p => mkT 32 [(2, .int .i64 most), (3, .ptr 0 0), (7, .int .i64 p.1.2), (8, .ps 1 (ints vs)), (9, .int .i64 p.1.1)]) (fun _ => [some (.var [.int .i64 w.size, .ps 1 (rowsA w.rows)])]) (fun p => vs.length - p.1.1) ⟨(0, 1), by simp⟩ ?_ (fun _ => by simp) ?_
  · simp only [go_sem, Nat.reduceAdd, Nat.reduceSub, Nat.reduceMul, Nat.reduceLeDiff, Nat.reduceEqDiff, Nat.reduceBEq, rowsA_low, ints_low, Int.natCast_zero, Nat.zero_lt_one]
  · rintro ⟨⟨i, n⟩, hi, h3⟩
    simp only at hi h3
    have fin : ∀ n' : Int, n' = manyL w.size most vs.length 1 → isT (.int .i64 (min (manyL w.size most vs.length 1) (most + 1))) (.int .i64 (if IntKind.i64.wrap (most + 1) < n' then IntKind.i64.wrap (most + 1) else n')) [some (.var [.int .i64 w.size, .ps 1 (rowsA w.rows)])] := by
      rintro n' rfl
      rw [i64_id (by omega)]
      simp only [go_sem, Nat.reduceAdd, Nat.reduceSub, Nat.reduceMul, Nat.reduceLeDiff, Nat.reduceEqDiff, Nat.reduceBEq]
      congr 1
      split <;> omega
    by_cases hlt : (i : Int) < vs.length
    · by_cases hn : n ≤ most
      · simp only [go_sem, Nat.reduceAdd, Nat.reduceSub, Nat.reduceMul, Nat.reduceLeDiff, Nat.reduceEqDiff, Nat.reduceBEq, ints_len, hlt, hn]
        refine ⟨⟨(i + 1, IntKind.i64.wrap (n * w.size)), by simp only; omega, ?_⟩, ?_, by simp only; omega⟩
        · simp only
          rw [← h3, show vs.length - i = (vs.length - (i + 1)) + 1 by omega, manyL, if_pos hn]
        · simp only [go_sem, Nat.reduceAdd, Nat.reduceSub, Nat.reduceMul, Nat.reduceLeDiff, Nat.reduceEqDiff, Nat.reduceBEq, rowsA_low, ints_low, Nat.zero_lt_one]
          rw [i64_id (by simp only [List.length_nil] at hvl; omega)]; simp
      · simp only [go_sem, Nat.reduceAdd, Nat.reduceSub, Nat.reduceMul, Nat.reduceLeDiff, Nat.reduceEqDiff, Nat.reduceBEq, ints_len, hlt, hn]
        refine EvK.go 1000 ?_
        rw [manyL_stop _ _ hn] at h3
        have := fin n h3
        simp only [go_sem, Nat.reduceAdd, Nat.reduceSub, Nat.reduceMul, Nat.reduceLeDiff, Nat.reduceEqDiff, Nat.reduceBEq]
        simpa [go_sem] using this
    · simp only [go_sem, Nat.reduceAdd, Nat.reduceSub, Nat.reduceMul, Nat.reduceLeDiff, Nat.reduceEqDiff, Nat.reduceBEq, ints_len, hlt]
      refine EvK.go 1000 ?_
      have : vs.length - i = 0 := by omega
      rw [this, manyL] at h3
      have := fin n h3
      simp only [go_sem, Nat.reduceAdd, Nat.reduceSub, Nat.reduceMul, Nat.reduceLeDiff, Nat.reduceEqDiff, Nat.reduceBEq]
      simpa [go_sem] using this
end Go.Proofs

/- Right signatures, as the document's answer tells them. -/
set_option linter.unusedSimpArgs false
namespace Go.Proofs
open Go Go.Abs

theorem Right_eq (g : List Sy) : CallEq Try.prog 61 [.ps 4 (syms g)] (.bool (sigOk g)) := by
  refine CallEq.begin (rs := [.tmp 2]) (m := 71) 1000 Try.func61 rfl rfl rfl (by decide) trivial ?_
  by_cases c1 : (g.length : Int) < 1
  · simp only [go_sem, Nat.reduceAdd, Nat.reduceSub, Nat.reduceMul, Nat.reduceLeDiff, Nat.reduceEqDiff, Nat.reduceBEq, syms_len, c1, sigOk]
  by_cases c2 : 256 < (g.length : Int)
  · simp only [go_sem, Nat.reduceAdd, Nat.reduceSub, Nat.reduceMul, Nat.reduceLeDiff, Nat.reduceEqDiff, Nat.reduceBEq, syms_len, c1, c2, sigOk]
  simp only [go_sem, Nat.reduceAdd, Nat.reduceSub, Nat.reduceMul, Nat.reduceLeDiff, Nat.reduceEqDiff, Nat.reduceBEq, syms_len, c1, c2]
  have bad : ∀ i, i < g.length → okAt g i = false → sigOk g = false := fun i hi hb => by
    have := all_false_at (p := okAt g) hi hb
    simp [sigOk, this]
  refine EvK.loopR (ι := {i : Nat // i ≤ g.length ∧ (List.range i).all (okAt g) = true}) 1000 (fun i => mkT 72 [(0, .ps 4 (syms g)), (3, .int .i64 i.1)]) (fun _ => []) (fun i => g.length - i.1) ⟨0, by simp⟩ [] ?_ (fun _ => Nat.zero_le _) ?_
  · refine leR_mk rfl ?_
    simp only [go_sem, Nat.reduceAdd, Nat.reduceSub, Nat.reduceMul, Nat.reduceLeDiff, Nat.reduceEqDiff, Nat.reduceBEq, syms_low, renL_low0, Int.natCast_zero]
  · rintro ⟨i, hi, hpre⟩
    by_cases hlt : (i : Int) < g.length
    · have hlt' : i < g.length := by omega
      have hga := getD_at hlt'
      generalize hx : g[i] = x at hga
      by_cases d1 : (x.name.size : Int) < 1
      · have hb : okAt g i = false := by simp only [okAt, hga, sym_bad (.inl d1), Bool.false_and]
        simp only [go_sem, Nat.reduceAdd, Nat.reduceSub, Nat.reduceMul, Nat.reduceLeDiff, Nat.reduceEqDiff, Nat.reduceBEq, syms_len, hlt, Int.toNat_natCast, syms_get hlt', hx, sy_cells, Nat.le_refl, d1]
        refine ⟨by omega, ?_⟩
        refine EvK.go 1000 ?_
        simp only [go_sem, Nat.reduceAdd, Nat.reduceSub, Nat.reduceMul, Nat.reduceLeDiff, Nat.reduceEqDiff, Nat.reduceBEq, bad i hlt' hb]
      by_cases d2 : 64 < (x.name.size : Int)
      · have hb : okAt g i = false := by simp only [okAt, hga, sym_bad (.inr (.inl d2)), Bool.false_and]
        simp only [go_sem, Nat.reduceAdd, Nat.reduceSub, Nat.reduceMul, Nat.reduceLeDiff, Nat.reduceEqDiff, Nat.reduceBEq, syms_len, hlt, Int.toNat_natCast, syms_get hlt', hx, sy_cells, Nat.le_refl, d1, d2]
        refine ⟨by omega, ?_⟩
        refine EvK.go 1000 ?_
        simp only [go_sem, Nat.reduceAdd, Nat.reduceSub, Nat.reduceMul, Nat.reduceLeDiff, Nat.reduceEqDiff, Nat.reduceBEq, bad i hlt' hb]
      by_cases d3 : x.arity < 0
      · have hb : okAt g i = false := by simp only [okAt, hga, sym_bad (.inr (.inr (.inl d3))), Bool.false_and]
        simp only [go_sem, Nat.reduceAdd, Nat.reduceSub, Nat.reduceMul, Nat.reduceLeDiff, Nat.reduceEqDiff, Nat.reduceBEq, syms_len, hlt, Int.toNat_natCast, syms_get hlt', hx, sy_cells, Nat.le_refl, d1, d2, d3]
        refine ⟨by omega, ?_⟩
        refine EvK.go 1000 ?_
        simp only [go_sem, Nat.reduceAdd, Nat.reduceSub, Nat.reduceMul, Nat.reduceLeDiff, Nat.reduceEqDiff, Nat.reduceBEq, bad i hlt' hb]
      by_cases d4 : 8 < x.arity
      · have hb : okAt g i = false := by simp only [okAt, hga, sym_bad (.inr (.inr (.inr (.inl d4)))), Bool.false_and]
        simp only [go_sem, Nat.reduceAdd, Nat.reduceSub, Nat.reduceMul, Nat.reduceLeDiff, Nat.reduceEqDiff, Nat.reduceBEq, syms_len, hlt, Int.toNat_natCast, syms_get hlt', hx, sy_cells, Nat.le_refl, d1, d2, d3, d4]
        refine ⟨by omega, ?_⟩
        refine EvK.go 1000 ?_
        simp only [go_sem, Nat.reduceAdd, Nat.reduceSub, Nat.reduceMul, Nat.reduceLeDiff, Nat.reduceEqDiff, Nat.reduceBEq, bad i hlt' hb]
      by_cases d5 : x.weight < 1
      · have hb : okAt g i = false := by simp only [okAt, hga, sym_bad (.inr (.inr (.inr (.inr (.inl d5))))), Bool.false_and]
        simp only [go_sem, Nat.reduceAdd, Nat.reduceSub, Nat.reduceMul, Nat.reduceLeDiff, Nat.reduceEqDiff, Nat.reduceBEq, syms_len, hlt, Int.toNat_natCast, syms_get hlt', hx, sy_cells, Nat.le_refl, d1, d2, d3, d4, d5]
        refine ⟨by omega, ?_⟩
        refine EvK.go 1000 ?_
        simp only [go_sem, Nat.reduceAdd, Nat.reduceSub, Nat.reduceMul, Nat.reduceLeDiff, Nat.reduceEqDiff, Nat.reduceBEq, bad i hlt' hb]
      by_cases d6 : 1000 < x.weight
      · have hb : okAt g i = false := by simp only [okAt, hga, sym_bad (.inr (.inr (.inr (.inr (.inr (d6)))))), Bool.false_and]
        simp only [go_sem, Nat.reduceAdd, Nat.reduceSub, Nat.reduceMul, Nat.reduceLeDiff, Nat.reduceEqDiff, Nat.reduceBEq, syms_len, hlt, Int.toNat_natCast, syms_get hlt', hx, sy_cells, Nat.le_refl, d1, d2, d3, d4, d5, d6]
        refine ⟨by omega, ?_⟩
        refine EvK.go 1000 ?_
        simp only [go_sem, Nat.reduceAdd, Nat.reduceSub, Nat.reduceMul, Nat.reduceLeDiff, Nat.reduceEqDiff, Nat.reduceBEq, bad i hlt' hb]
      have hxr := sym_good ⟨d1, d2, d3, d4, d5, d6⟩
      simp only [go_sem, Nat.reduceAdd, Nat.reduceSub, Nat.reduceMul, Nat.reduceLeDiff, Nat.reduceEqDiff, Nat.reduceBEq, syms_len, hlt, Int.toNat_natCast, syms_get hlt', hx, sy_cells, Nat.le_refl, d1, d2, d3, d4, d5, d6]
      refine ⟨by omega, ?_⟩
      refine EvK.loopR (ι := {j : Nat // j ≤ i ∧ (g.take j).all (fun s => !(s.name.toList == x.name.toList)) = true}) 1000 (fun j => mkT 72 [(0, .ps 4 (syms g)), (3, .int .i64 i), (4, .ptr 0 0), (5, .int .i64 j.1)]) (fun _ => [some (.var [.str x.name, .int .i64 x.arity, .int .i64 x.weight, .bool x.truth])]) (fun j => i - j.1) ⟨0, by simp⟩ [] ?_ (fun _ => Nat.zero_le _) ?_
      · refine leR_mk rfl ?_
        simp only [go_sem, Nat.reduceAdd, Nat.reduceSub, Nat.reduceMul, Nat.reduceLeDiff, Nat.reduceEqDiff, Nat.reduceBEq, syms_low, renL_low0, Int.natCast_zero, Nat.zero_lt_one]
      · rintro ⟨j, hj, hjp⟩
        by_cases hji : (j : Int) < i
        · have hjl : j < g.length := by omega
          simp only [go_sem, Nat.reduceAdd, Nat.reduceSub, Nat.reduceMul, Nat.reduceLeDiff, Nat.reduceEqDiff, Nat.reduceBEq, hji]
          refine EvK.draw [] 1 1 mixed rfl rfl (Nat.le_refl _) ?_
          simp only [go_sem, Nat.reduceAdd, Nat.reduceSub, Nat.reduceMul, Nat.reduceLeDiff, Nat.reduceEqDiff, Nat.reduceBEq, padS, syms_len, Int.toNat_natCast, syms_get hjl, sy_cells, Nat.le_refl]
          refine ⟨by omega, ?_⟩
          refine EvK.go 1000 ?_
          cases he : (g[j].name.toList == x.name.toList) with
          | true =>
            simp only [go_sem, Nat.reduceAdd, Nat.reduceSub, Nat.reduceMul, Nat.reduceLeDiff, Nat.reduceEqDiff, Nat.reduceBEq]
            refine EvK.go 1000 ?_
            have hb : okAt g i = false := by
              simp only [okAt, fresh, hga]
              rw [Bool.and_eq_false_iff]; right
              rw [List.all_eq_false]
              exact ⟨g[j], by rw [List.mem_take_iff_getElem]; exact ⟨j, by omega, rfl⟩, by simp [he]⟩
            simp only [go_sem, Nat.reduceAdd, Nat.reduceSub, Nat.reduceMul, Nat.reduceLeDiff, Nat.reduceEqDiff, Nat.reduceBEq]
            refine EvK.go 1000 ?_
            simp only [go_sem, Nat.reduceAdd, Nat.reduceSub, Nat.reduceMul, Nat.reduceLeDiff, Nat.reduceEqDiff, Nat.reduceBEq, bad i hlt' hb]
          | false =>
            simp only [go_sem, Nat.reduceAdd, Nat.reduceSub, Nat.reduceMul, Nat.reduceLeDiff, Nat.reduceEqDiff, Nat.reduceBEq]
            refine ⟨⟨j + 1, by omega, ?_⟩, [], leR_mk rfl ?_, by simp only; omega⟩
            · rw [List.take_add_one, List.all_append, hjp, List.getElem?_eq_getElem hjl]
              simp [he]
            · simp only [go_sem, Nat.reduceAdd, Nat.reduceSub, Nat.reduceMul, Nat.reduceLeDiff, Nat.reduceEqDiff, Nat.reduceBEq, syms_low, renL_low0, Nat.zero_lt_one]
              rw [i64_id (by omega)]; rfl
        · simp only [go_sem, Nat.reduceAdd, Nat.reduceSub, Nat.reduceMul, Nat.reduceLeDiff, Nat.reduceEqDiff, Nat.reduceBEq, hji]
          refine EvK.go 1000 ?_
          simp only [go_sem, Nat.reduceAdd, Nat.reduceSub, Nat.reduceMul, Nat.reduceLeDiff, Nat.reduceEqDiff, Nat.reduceBEq]
          have hij : j = i := by omega
          subst hij
          have hok : okAt g j = true := by
            simp only [okAt, fresh, hga, hxr, Bool.true_and]; exact hjp
          refine ⟨⟨j + 1, hlt', by rw [range_all_snoc, hpre, hok]; rfl⟩, [], leR_mk rfl ?_, by simp only; omega⟩
          simp only [go_sem, Nat.reduceAdd, Nat.reduceSub, Nat.reduceMul, Nat.reduceLeDiff, Nat.reduceEqDiff, Nat.reduceBEq, syms_low, renL_low0]
          rw [i64_id (by omega)]; rfl
    · simp only [go_sem, Nat.reduceAdd, Nat.reduceSub, Nat.reduceMul, Nat.reduceLeDiff, Nat.reduceEqDiff, Nat.reduceBEq, syms_len, hlt]
      have h0 : 0 < g.length := by omega
      have hi' : i = g.length := by omega
      subst hi'
      refine EvK.go 1000 ?_
      have e0 : (syms g).getD 0 .undef = g[0].toA := syms_get h0
      simp only [go_sem, Nat.reduceAdd, Nat.reduceSub, Nat.reduceMul, Nat.reduceLeDiff, Nat.reduceEqDiff, Nat.reduceBEq, syms_len, Int.toNat_zero, e0, sy_cells, Nat.le_refl, kaV_str, eqCells, eqCell]
      refine ⟨by omega, ?_⟩
      have f1 : decide ((g.length : Int) < 1) = false := decide_eq_false c1
      have f2 : decide (256 < (g.length : Int)) = false := decide_eq_false c2
      rw [sigOk, f1, f2, hpre, getD_at h0]
      simp [isTrue, trueName]

theorem Truth_eq (g : List Sy) (t : Tm) : CallEq Try.prog 88 [.ps 4 (syms g), t.toA] (.bool (t.truth g)) := by
  refine CallEq.begin (rs := [.tmp 4]) (m := 21) 1000 Try.func88 rfl rfl rfl (by decide) trivial ?_
  by_cases c1 : 0 ≤ t.head
  · by_cases c2 : t.head < (g.length : Int)
    · have hi : t.head.toNat < g.length := by omega
      simp only [go_sem, Nat.reduceAdd, Nat.reduceSub, Nat.reduceMul, Nat.reduceLeDiff, Nat.reduceEqDiff, Nat.reduceBEq, toA_eq, syms_len, c1, c2, syms_get hi, sy_cells, Nat.le_refl]
      have : symAt g t.head = g[t.head.toNat] := getD_at hi
      simp [Tm.truth, c1, c2, this]
    · simp only [go_sem, Nat.reduceAdd, Nat.reduceSub, Nat.reduceMul, Nat.reduceLeDiff, Nat.reduceEqDiff, Nat.reduceBEq, toA_eq, syms_len, c1, c2, Nat.le_refl, Tm.truth]
  · simp only [go_sem, Nat.reduceAdd, Nat.reduceSub, Nat.reduceMul, Nat.reduceLeDiff, Nat.reduceEqDiff, Nat.reduceBEq, toA_eq, syms_len, c1, Nat.le_refl, Tm.truth]

theorem Known_eq (g : List Sy) (t : Tm) : t.size < 2 ^ 62 → CallEq Try.prog 64 [.ps 4 (syms g), t.toA] (.bool (t.known g)) := by
  induction t using Tm.rec_args with
  | h h ts ih =>
  intro hs
  simp only [Tm.size] at hs
  have hlen := len_le_sizes ts
  refine CallEq.begin (rs := [.tmp 4]) (m := 39) 1000 Try.func64 rfl rfl rfl (by decide) trivial ?_
  by_cases c1 : h < 0
  · simp only [go_sem, Nat.reduceAdd, Nat.reduceSub, Nat.reduceMul, Nat.reduceLeDiff, Nat.reduceEqDiff, Nat.reduceBEq, toA_eq, Tm.head, Tm.args, c1, Tm.known, Nat.le_refl]
  simp only [go_sem, Nat.reduceAdd, Nat.reduceSub, Nat.reduceMul, Nat.reduceLeDiff, Nat.reduceEqDiff, Nat.reduceBEq, toA_eq, Tm.head, Tm.args, c1, Nat.le_refl]
  refine EvK.draw [] 1 1 mixed rfl rfl (Nat.le_refl _) ?_
  by_cases c2 : (g.length : Int) ≤ h
  · simp only [go_sem, Nat.reduceAdd, Nat.reduceSub, Nat.reduceMul, Nat.reduceLeDiff, Nat.reduceEqDiff, Nat.reduceBEq, padS, syms_len, c2, Nat.le_refl]
    refine EvK.go 1000 ?_
    simp only [go_sem, Nat.reduceAdd, Nat.reduceSub, Nat.reduceMul, Nat.reduceLeDiff, Nat.reduceEqDiff, Nat.reduceBEq, Tm.known, c1, c2]
  have hi : h.toNat < g.length := by omega
  have hsy : symAt g h = g[h.toNat] := getD_at hi
  have hcond : 0 ≤ h ∧ h < (g.length : Int) := by omega
  by_cases c3 : (ts.length : Int) = g[h.toNat].arity
  · simp only [go_sem, Nat.reduceAdd, Nat.reduceSub, Nat.reduceMul, Nat.reduceLeDiff, Nat.reduceEqDiff, Nat.reduceBEq, padS, syms_len, c2, Nat.le_refl, List.length_map, syms_get hi, sy_cells, c3, hcond]
    refine EvK.go 1000 ?_
    simp only [go_sem, Nat.reduceAdd, Nat.reduceSub, Nat.reduceMul, Nat.reduceLeDiff, Nat.reduceEqDiff, Nat.reduceBEq]
    have hk : Tm.known g (.mk h ts) = Tm.knowns g ts := by simp [Tm.known, c1, c2, hsy, c3]
    rw [hk]
    refine EvK.loopI (ι := {i : Nat // i ≤ ts.length ∧ Tm.knowns g (ts.take i) = true}) 1000 (fun i => mkT 41 [(0, .ps 4 (syms g)), (3, .ptr 0 0), (5, .int .i64 i.1)]) (fun _ => [some (.var [.int .i64 h, .ps 2 (ts.map Tm.toA)])]) (fun i => ts.length - i.1) ⟨0, by simp [Tm.knowns]⟩ ?_ (fun _ => by simp) ?_
    · simp only [go_sem, Nat.reduceAdd, Nat.reduceSub, Nat.reduceMul, Nat.reduceLeDiff, Nat.reduceEqDiff, Nat.reduceBEq, syms_low, tms_low, Int.natCast_zero, Nat.zero_lt_one]
    · rintro ⟨i, hi', hgi⟩
      simp only [go_sem, Nat.reduceAdd, Nat.reduceSub, Nat.reduceMul, Nat.reduceLeDiff, Nat.reduceEqDiff, Nat.reduceBEq, List.length_map]
      refine ⟨fun hlt => ?_, fun hge => ?_⟩
      · have hlt' : i < ts.length := by omega
        refine ⟨by omega, ?_⟩
        simp only [go_sem, Nat.reduceAdd, Nat.reduceSub, Nat.reduceMul, Nat.reduceLeDiff, Nat.reduceEqDiff, Nat.reduceBEq, Int.toNat_natCast, map_getD hlt', toA_cells, Nat.le_refl]
        rw [← toA_eq]
        have hsz := size_le_sizes ts i hlt'
        refine VCall.isoT [] (ih i hlt' (by omega)) (pTL_refl _ _ _) (by simp [go_sem, toA_low, syms_low]) ?_
        simp only [flatR, flatA, flatC, if_true]
        refine EvK.go 1000 ?_
        have h1 := knowns_snoc g ts i hlt'
        cases hgd : ts[i].known g with
        | true =>
          simp only [go_sem, Nat.reduceAdd, Nat.reduceSub, Nat.reduceMul, Nat.reduceLeDiff, Nat.reduceEqDiff, Nat.reduceBEq]
          refine ⟨⟨i + 1, hlt', by rw [h1, hgi, hgd]; rfl⟩, ?_, by simp only; omega⟩
          simp only [go_sem, Nat.reduceAdd, Nat.reduceSub, Nat.reduceMul, Nat.reduceLeDiff, Nat.reduceEqDiff, Nat.reduceBEq, syms_low, tms_low, Nat.zero_lt_one]
          rw [i64_id (by omega)]; simp
        | false =>
          simp only [go_sem, Nat.reduceAdd, Nat.reduceSub, Nat.reduceMul, Nat.reduceLeDiff, Nat.reduceEqDiff, Nat.reduceBEq]
          refine EvK.go 1000 ?_
          simp only [go_sem, Nat.reduceAdd, Nat.reduceSub, Nat.reduceMul, Nat.reduceLeDiff, Nat.reduceEqDiff, Nat.reduceBEq]
          have h2 := knowns_take g ts i hlt'
          rw [h2, hgd]; simp
      · refine EvK.go 1000 ?_
        simp only [go_sem, Nat.reduceAdd, Nat.reduceSub, Nat.reduceMul, Nat.reduceLeDiff, Nat.reduceEqDiff, Nat.reduceBEq]
        have : i = ts.length := by omega
        subst this
        rw [List.take_length] at hgi
        rw [hgi]
  · simp only [go_sem, Nat.reduceAdd, Nat.reduceSub, Nat.reduceMul, Nat.reduceLeDiff, Nat.reduceEqDiff, Nat.reduceBEq, padS, syms_len, c2, Nat.le_refl, List.length_map, syms_get hi, sy_cells, c3, hcond]
    refine EvK.go 1000 ?_
    simp only [go_sem, Nat.reduceAdd, Nat.reduceSub, Nat.reduceMul, Nat.reduceLeDiff, Nat.reduceEqDiff, Nat.reduceBEq, Tm.known, c1, c2, hsy, c3]

theorem Things_eq (g : List Sy) (t : Tm) : t.size < 2 ^ 62 → CallEq Try.prog 65 [.ps 4 (syms g), t.toA] (.bool (t.things g)) := by
  induction t using Tm.rec_args with
  | h h ts ih =>
  intro hs
  simp only [Tm.size] at hs
  have hlen := len_le_sizes ts
  refine CallEq.begin (rs := [.tmp 4]) (m := 28) 1000 Try.func65 rfl rfl rfl (by decide) trivial ?_
  simp only [go_sem, Nat.reduceAdd, Nat.reduceSub, Nat.reduceMul, Nat.reduceLeDiff, Nat.reduceEqDiff, Nat.reduceBEq, toA_eq, Tm.head, Tm.args]
  have hk : Tm.things g (.mk h ts) = Tm.thingsL g ts := by simp [Tm.things]
  rw [hk]
  refine EvK.loopI (ι := {i : Nat // i ≤ ts.length ∧ Tm.thingsL g (ts.take i) = true}) 1000 (fun i => mkT 30 [(0, .ps 4 (syms g)), (3, .ptr 0 0), (5, .int .i64 i.1)]) (fun _ => [some (.var [.int .i64 h, .ps 2 (ts.map Tm.toA)])]) (fun i => ts.length - i.1) ⟨0, by simp [Tm.thingsL]⟩ ?_ (fun _ => by simp) ?_
  · simp only [go_sem, Nat.reduceAdd, Nat.reduceSub, Nat.reduceMul, Nat.reduceLeDiff, Nat.reduceEqDiff, Nat.reduceBEq, syms_low, tms_low, Int.natCast_zero, Nat.zero_lt_one]
  · rintro ⟨i, hi', hgi⟩
    simp only [go_sem, Nat.reduceAdd, Nat.reduceSub, Nat.reduceMul, Nat.reduceLeDiff, Nat.reduceEqDiff, Nat.reduceBEq, List.length_map]
    refine ⟨fun hlt => ?_, fun hge => ?_⟩
    · have hlt' : i < ts.length := by omega
      refine ⟨by omega, ?_⟩
      simp only [go_sem, Nat.reduceAdd, Nat.reduceSub, Nat.reduceMul, Nat.reduceLeDiff, Nat.reduceEqDiff, Nat.reduceBEq, Int.toNat_natCast, map_getD hlt', toA_cells, Nat.le_refl]
      rw [← toA_eq]
      have hsz := size_le_sizes ts i hlt'
      refine VCall.isoT [] (Truth_eq g ts[i]) (pTL_refl _ _ _) (by simp [go_sem, toA_low, syms_low]) ?_
      simp only [flatR, flatA, flatC, if_true]
      refine EvK.go 1000 ?_
      have h1 := thingsL_snoc g ts i hlt'
      have h2 := thingsL_take g ts i hlt'
      cases htr : ts[i].truth g with
      | true =>
        simp only [go_sem, Nat.reduceAdd, Nat.reduceSub, Nat.reduceMul, Nat.reduceLeDiff, Nat.reduceEqDiff, Nat.reduceBEq]
        refine EvK.go 1000 ?_
        simp only [go_sem, Nat.reduceAdd, Nat.reduceSub, Nat.reduceMul, Nat.reduceLeDiff, Nat.reduceEqDiff, Nat.reduceBEq]
        rw [h2, htr]; simp
      | false =>
        simp only [go_sem, Nat.reduceAdd, Nat.reduceSub, Nat.reduceMul, Nat.reduceLeDiff, Nat.reduceEqDiff, Nat.reduceBEq, Int.toNat_natCast, map_getD hlt', toA_cells, Nat.le_refl, List.length_map]
        refine ⟨by omega, ?_⟩
        rw [← toA_eq]
        refine VCall.isoT [] (ih i hlt' (by omega)) (pTL_refl _ _ _) (by simp [go_sem, toA_low, syms_low]) ?_
        simp only [flatR, flatA, flatC, if_true]
        refine EvK.go 1000 ?_
        cases hgd : ts[i].things g with
        | true =>
          simp only [go_sem, Nat.reduceAdd, Nat.reduceSub, Nat.reduceMul, Nat.reduceLeDiff, Nat.reduceEqDiff, Nat.reduceBEq]
          refine ⟨⟨i + 1, hlt', by rw [h1, hgi, htr, hgd]; rfl⟩, ?_, by simp only; omega⟩
          simp only [go_sem, Nat.reduceAdd, Nat.reduceSub, Nat.reduceMul, Nat.reduceLeDiff, Nat.reduceEqDiff, Nat.reduceBEq, syms_low, tms_low, Nat.zero_lt_one]
          rw [i64_id (by omega)]; simp
        | false =>
          simp only [go_sem, Nat.reduceAdd, Nat.reduceSub, Nat.reduceMul, Nat.reduceLeDiff, Nat.reduceEqDiff, Nat.reduceBEq]
          refine EvK.go 1000 ?_
          simp only [go_sem, Nat.reduceAdd, Nat.reduceSub, Nat.reduceMul, Nat.reduceLeDiff, Nat.reduceEqDiff, Nat.reduceBEq]
          rw [h2, hgd]; simp
    · refine EvK.go 1000 ?_
      simp only [go_sem, Nat.reduceAdd, Nat.reduceSub, Nat.reduceMul, Nat.reduceLeDiff, Nat.reduceEqDiff, Nat.reduceBEq]
      have : i = ts.length := by omega
      subst this
      rw [List.take_length] at hgi
      rw [hgi]
end Go.Proofs

/- Terms, literals and clauses of a signature, as the document's answer tells them. -/
set_option linter.unusedSimpArgs false
namespace Go.Proofs
open Go Go.Abs

theorem Term_eq (g : List Sy) (t : Tm) (hs : t.size < 2 ^ 62) : CallEq Try.prog 32 [.ps 4 (syms g), t.toA] (.int .i64 (t.term g)) := by
  refine CallEq.begin (rs := [.tmp 4]) (m := 20) 1000 Try.func32 rfl rfl rfl (by decide) trivial ?_
  simp only [go_sem, Nat.reduceAdd, Nat.reduceSub, Nat.reduceMul, Nat.reduceLeDiff, Nat.reduceEqDiff, Nat.reduceBEq, toA_eq, Nat.le_refl]
  refine VCall.isoT [] (Right_eq g) (pTL_refl _ _ _) (by simp [go_sem, syms_low]) ?_
  simp only [flatR, flatA, flatC, if_true]
  refine EvK.go 1000 ?_
  cases c1 : sigOk g with
  | false => simp only [go_sem, Nat.reduceAdd, Nat.reduceSub, Nat.reduceMul, Nat.reduceLeDiff, Nat.reduceEqDiff, Nat.reduceBEq, Tm.term, c1]
  | true =>
  simp only [go_sem, Nat.reduceAdd, Nat.reduceSub, Nat.reduceMul, Nat.reduceLeDiff, Nat.reduceEqDiff, Nat.reduceBEq, Nat.le_refl]
  rw [← toA_eq]
  refine VCall.isoT [] (Check_eq t hs) (pTL_refl _ _ _) (by simp [go_sem, toA_low]) ?_
  simp only [flatR, flatA, flatC, if_true]
  refine EvK.go 1000 ?_
  by_cases c2 : t.check = 0
  · simp only [go_sem, Nat.reduceAdd, Nat.reduceSub, Nat.reduceMul, Nat.reduceLeDiff, Nat.reduceEqDiff, Nat.reduceBEq, c2, Nat.le_refl]
    rw [← toA_eq]
    refine VCall.isoT [] (Known_eq g t hs) (pTL_refl _ _ _) (by simp [go_sem, syms_low, toA_low]) ?_
    simp only [flatR, flatA, flatC, if_true]
    refine EvK.go 1000 ?_
    cases c3 : t.known g with
    | false => simp only [go_sem, Nat.reduceAdd, Nat.reduceSub, Nat.reduceMul, Nat.reduceLeDiff, Nat.reduceEqDiff, Nat.reduceBEq, Tm.term, c1, c2, c3]
    | true =>
    simp only [go_sem, Nat.reduceAdd, Nat.reduceSub, Nat.reduceMul, Nat.reduceLeDiff, Nat.reduceEqDiff, Nat.reduceBEq, Nat.le_refl]
    rw [← toA_eq]
    refine VCall.isoT [] (Things_eq g t hs) (pTL_refl _ _ _) (by simp [go_sem, syms_low, toA_low]) ?_
    simp only [flatR, flatA, flatC, if_true]
    refine EvK.go 1000 ?_
    cases c4 : t.things g <;> simp only [go_sem, Nat.reduceAdd, Nat.reduceSub, Nat.reduceMul, Nat.reduceLeDiff, Nat.reduceEqDiff, Nat.reduceBEq, Tm.term, c1, c2, c3, c4]
  · simp only [go_sem, Nat.reduceAdd, Nat.reduceSub, Nat.reduceMul, Nat.reduceLeDiff, Nat.reduceEqDiff, Nat.reduceBEq, c2, Tm.term, c1]

theorem LitCheck_eq (g : List Sy) (l : Li) (hl : l.l.size < 2 ^ 62) (hr : l.r.size < 2 ^ 62) : CallEq Try.prog 69 [.ps 4 (syms g), l.toA] (.int .i64 (l.check g)) := by
  refine CallEq.begin (rs := [.tmp 4]) (m := 41) 1000 Try.func69 rfl rfl rfl (by decide) trivial ?_
  simp only [go_sem, Nat.reduceAdd, Nat.reduceSub, Nat.reduceMul, Nat.reduceLeDiff, Nat.reduceEqDiff, Nat.reduceBEq, Li.toA, Li.cs, Nat.le_refl]
  rw [← toA_eq l.l]
  refine VCall.isoT [] (Term_eq g l.l hl) (pTL_refl _ _ _) (by simp [go_sem, syms_low, toA_low]) ?_
  simp only [flatR, flatA, flatC, if_true]
  refine EvK.go 1000 ?_
  by_cases c1 : l.l.term g = 0
  · simp only [go_sem, Nat.reduceAdd, Nat.reduceSub, Nat.reduceMul, Nat.reduceLeDiff, Nat.reduceEqDiff, Nat.reduceBEq, c1, Nat.le_refl]
    rw [← toA_eq l.r]
    refine VCall.isoT [] (Term_eq g l.r hr) (pTL_refl _ _ _) (by simp [go_sem, syms_low, toA_low]) ?_
    simp only [flatR, flatA, flatC, if_true]
    refine EvK.go 1000 ?_
    by_cases c2 : l.r.term g = 0
    · simp only [go_sem, Nat.reduceAdd, Nat.reduceSub, Nat.reduceMul, Nat.reduceLeDiff, Nat.reduceEqDiff, Nat.reduceBEq, c2, Nat.le_refl]
      rw [← toA_eq l.l]
      refine VCall.isoT [] (Truth_eq g l.l) (pTL_refl _ _ _) (by simp [go_sem, syms_low, toA_low]) ?_
      simp only [flatR, flatA, flatC, if_true]
      refine EvK.go 1000 ?_
      cases c3 : l.l.truth g with
      | true =>
        by_cases c4 : l.r.head = 0 <;>
        · simp only [go_sem, Nat.reduceAdd, Nat.reduceSub, Nat.reduceMul, Nat.reduceLeDiff, Nat.reduceEqDiff, Nat.reduceBEq, c4, Nat.le_refl]
          simp [Li.check, c1, c2, c3, c4]
      | false =>
        simp only [go_sem, Nat.reduceAdd, Nat.reduceSub, Nat.reduceMul, Nat.reduceLeDiff, Nat.reduceEqDiff, Nat.reduceBEq, Nat.le_refl]
        rw [← toA_eq l.r]
        refine VCall.isoT [] (Truth_eq g l.r) (pTL_refl _ _ _) (by simp [go_sem, syms_low, toA_low]) ?_
        simp only [flatR, flatA, flatC, if_true]
        refine EvK.go 1000 ?_
        cases c4 : l.r.truth g <;>
        · simp only [go_sem, Nat.reduceAdd, Nat.reduceSub, Nat.reduceMul, Nat.reduceLeDiff, Nat.reduceEqDiff, Nat.reduceBEq]
          simp [Li.check, c1, c2, c3, c4]
    · simp only [go_sem, Nat.reduceAdd, Nat.reduceSub, Nat.reduceMul, Nat.reduceLeDiff, Nat.reduceEqDiff, Nat.reduceBEq, c2]
      simp [Li.check, c1, c2]
  · simp only [go_sem, Nat.reduceAdd, Nat.reduceSub, Nat.reduceMul, Nat.reduceLeDiff, Nat.reduceEqDiff, Nat.reduceBEq, c1]
    simp [Li.check, c1]

theorem ClauseCheck_eq (g : List Sy) (c : List Li) (hs : ∀ (i : Nat) (h : i < c.length), c[i].l.size < 2 ^ 62 ∧ c[i].r.size < 2 ^ 62) : CallEq Try.prog 39 [.ps 4 (syms g), .ps 5 (lits c)] (.int .i64 (clauseCheck g c)) := by
  refine CallEq.begin (rs := [.tmp 4]) (m := 26) 1000 Try.func39 rfl rfl rfl (by decide) trivial ?_
  simp only [go_sem, Nat.reduceAdd, Nat.reduceSub, Nat.reduceMul, Nat.reduceLeDiff, Nat.reduceEqDiff, Nat.reduceBEq]
  refine VCall.isoT [] (Right_eq g) (pTL_refl _ _ _) (by simp [go_sem, syms_low]) ?_
  simp only [flatR, flatA, flatC, if_true]
  refine EvK.go 1000 ?_
  cases c1 : sigOk g with
  | false =>
    simp only [go_sem, Nat.reduceAdd, Nat.reduceSub, Nat.reduceMul, Nat.reduceLeDiff, Nat.reduceEqDiff, Nat.reduceBEq]
    simp [clauseCheck, c1]
  | true =>
  by_cases c2 : 32 < (c.length : Int)
  · simp only [go_sem, Nat.reduceAdd, Nat.reduceSub, Nat.reduceMul, Nat.reduceLeDiff, Nat.reduceEqDiff, Nat.reduceBEq, lits_len, c2]
    simp [clauseCheck, c1, c2]
  simp only [go_sem, Nat.reduceAdd, Nat.reduceSub, Nat.reduceMul, Nat.reduceLeDiff, Nat.reduceEqDiff, Nat.reduceBEq, lits_len, c2]
  have hcc : clauseCheck g c = litsCheck g c := by simp [clauseCheck, c1, c2]
  rw [hcc]
  refine EvK.loopI (ι := {i : Nat // i ≤ c.length ∧ litsCheck g (c.drop i) = litsCheck g c}) 1000 (fun i => mkT 28 [(0, .ps 4 (syms g)), (1, .ps 5 (lits c)), (5, .int .i64 i.1)]) (fun _ => []) (fun i => c.length - i.1) ⟨0, by simp⟩ ?_ (fun _ => Nat.zero_le _) ?_
  · simp only [go_sem, Nat.reduceAdd, Nat.reduceSub, Nat.reduceMul, Nat.reduceLeDiff, Nat.reduceEqDiff, Nat.reduceBEq, syms_low, lits_low, Int.natCast_zero]
  · rintro ⟨i, hi, hpre⟩
    by_cases hlt : (i : Int) < c.length
    · have hlt' : i < c.length := by omega
      rw [litsCheck_drop g c i hlt'] at hpre
      simp only [go_sem, Nat.reduceAdd, Nat.reduceSub, Nat.reduceMul, Nat.reduceLeDiff, Nat.reduceEqDiff, Nat.reduceBEq, lits_len, hlt, Int.toNat_natCast, lits_get hlt', li_cells, Nat.le_refl]
      refine ⟨by omega, ?_⟩
      have hsz := hs i hlt'
      refine VCall.isoT [] (LitCheck_eq g c[i] hsz.1 hsz.2) (by simp only [Li.toA, Li.cs]; exact pTL_refl _ _ _) (by simp [go_sem, syms_low, li_low]) ?_
      simp only [flatR, flatA, flatC, if_true]
      refine EvK.go 1000 ?_
      by_cases c3 : c[i].check g = 0
      · simp only [go_sem, Nat.reduceAdd, Nat.reduceSub, Nat.reduceMul, Nat.reduceLeDiff, Nat.reduceEqDiff, Nat.reduceBEq, c3]
        rw [if_neg (by simp [c3])] at hpre
        refine ⟨⟨i + 1, hlt', hpre⟩, ?_, by simp only; omega⟩
        simp only [go_sem, Nat.reduceAdd, Nat.reduceSub, Nat.reduceMul, Nat.reduceLeDiff, Nat.reduceEqDiff, Nat.reduceBEq, syms_low, lits_low]
        rw [i64_id (by omega)]; rfl
      · simp only [go_sem, Nat.reduceAdd, Nat.reduceSub, Nat.reduceMul, Nat.reduceLeDiff, Nat.reduceEqDiff, Nat.reduceBEq, c3]
        rw [if_pos c3] at hpre
        refine EvK.go 1000 ?_
        simp only [go_sem, Nat.reduceAdd, Nat.reduceSub, Nat.reduceMul, Nat.reduceLeDiff, Nat.reduceEqDiff, Nat.reduceBEq, hpre]
    · simp only [go_sem, Nat.reduceAdd, Nat.reduceSub, Nat.reduceMul, Nat.reduceLeDiff, Nat.reduceEqDiff, Nat.reduceBEq, lits_len, hlt]
      refine EvK.go 1000 ?_
      simp only [go_sem, Nat.reduceAdd, Nat.reduceSub, Nat.reduceMul, Nat.reduceLeDiff, Nat.reduceEqDiff, Nat.reduceBEq]
      have : i = c.length := by omega
      subst this
      rw [← hpre, List.drop_length, litsCheck]
end Go.Proofs

/- Right worlds, as the document's answer tells them. -/
set_option linter.unusedSimpArgs false
namespace Go.Proofs
open Go Go.Abs

theorem Power09_eq (s m : Int) (hm : m < 2 ^ 62) : CallEq Try.prog 62 [.int .i64 s, .int .i64 m] (.int .i64 (powW s m.toNat 1)) := by
  refine CallEq.begin (rs := [.tmp 4]) (m := 14) 1000 Try.func62 rfl rfl rfl (by decide) trivial ?_
  simp only [go_sem, Nat.reduceAdd, Nat.reduceSub, Nat.reduceMul, Nat.reduceLeDiff, Nat.reduceEqDiff, Nat.reduceBEq]
  refine EvK.loopI (ι := {p : Nat × Int // p.1 ≤ m.toNat ∧ powW s (m.toNat - p.1) p.2 = powW s m.toNat 1}) 1000 (fun p => mkT 16 [(0, .int .i64 s), (1, .int .i64 m), (5, .int .i64 p.1.2), (6, .int .i64 p.1.1)]) (fun _ => []) (fun p => m.toNat - p.1.1) ⟨(0, 1), by simp⟩ ?_ (fun _ => Nat.zero_le _) ?_
  · simp only [go_sem, Nat.reduceAdd, Nat.reduceSub, Nat.reduceMul, Nat.reduceLeDiff, Nat.reduceEqDiff, Nat.reduceBEq, Int.natCast_zero]
  · rintro ⟨⟨i, n⟩, hi, h3⟩
    simp only at hi h3
    simp only [go_sem, Nat.reduceAdd, Nat.reduceSub, Nat.reduceMul, Nat.reduceLeDiff, Nat.reduceEqDiff, Nat.reduceBEq]
    refine ⟨fun hlt => ⟨⟨(i + 1, IntKind.i64.wrap (n * s)), by simp only; omega, ?_⟩, ?_, by simp only; omega⟩, fun hge => ?_⟩
    · simp only
      rw [← h3, show m.toNat - i = (m.toNat - (i + 1)) + 1 by omega, powW]
    · simp only [go_sem, Nat.reduceAdd, Nat.reduceSub, Nat.reduceMul, Nat.reduceLeDiff, Nat.reduceEqDiff, Nat.reduceBEq]
      rw [i64_id (by omega)]; simp
    · refine EvK.go 1000 ?_
      simp only [go_sem, Nat.reduceAdd, Nat.reduceSub, Nat.reduceMul, Nat.reduceLeDiff, Nat.reduceEqDiff, Nat.reduceBEq]
      rw [show m.toNat - i = 0 by omega, powW] at h3
      rw [h3]

set_option maxRecDepth 20000 in
set_option maxHeartbeats 1600000 in
theorem WorldRight_eq (g : List Sy) (w : Wo) : CallEq Try.prog 31 [.ps 4 (syms g), w.toA] (.bool (worldOk g w)) := by
  refine CallEq.begin (rs := [.tmp 4]) (m := 101) 1000 Try.func31 rfl rfl rfl (by decide) trivial ?_
  simp only [go_sem, Nat.reduceAdd, Nat.reduceSub, Nat.reduceMul, Nat.reduceLeDiff, Nat.reduceEqDiff, Nat.reduceBEq, wo_eq]
  refine VCall.isoT [] (Right_eq g) (pTL_refl _ _ _) (by simp [go_sem, syms_low]) ?_
  simp only [flatR, flatA, flatC, if_true]
  refine EvK.go 1000 ?_
  cases c1 : sigOk g with
  | false => simp only [go_sem, Nat.reduceAdd, Nat.reduceSub, Nat.reduceMul, Nat.reduceLeDiff, Nat.reduceEqDiff, Nat.reduceBEq, worldOk, c1]
  | true =>
  obtain ⟨hg1, hg2⟩ := sigOk_len c1
  by_cases c2 : w.size < 1
  · simp only [go_sem, Nat.reduceAdd, Nat.reduceSub, Nat.reduceMul, Nat.reduceLeDiff, Nat.reduceEqDiff, Nat.reduceBEq, worldOk, c1, c2]
  by_cases c3 : 4 < w.size
  · simp only [go_sem, Nat.reduceAdd, Nat.reduceSub, Nat.reduceMul, Nat.reduceLeDiff, Nat.reduceEqDiff, Nat.reduceBEq, worldOk, c1, c2, c3]
  by_cases c4 : (w.rows.length : Int) = g.length
  case neg => simp only [go_sem, Nat.reduceAdd, Nat.reduceSub, Nat.reduceMul, Nat.reduceLeDiff, Nat.reduceEqDiff, Nat.reduceBEq, worldOk, c1, c2, c3, c4, rowsA_len, syms_len]
  simp only [go_sem, Nat.reduceAdd, Nat.reduceSub, Nat.reduceMul, Nat.reduceLeDiff, Nat.reduceEqDiff, Nat.reduceBEq, c2, c3, c4, rowsA_len, syms_len]
  have hw : worldOk g w = ((List.range g.length).all (rowOkAt g w) && decide ((w.rows.getD 0 []).getD 0 0 = 1)) := by
    simp only [worldOk, c1, decide_eq_false c2, decide_eq_false c3, decide_eq_true c4]; rfl
  rw [hw]
  have bad : ∀ i, i < g.length → rowOkAt g w i = false → ((List.range g.length).all (rowOkAt g w) && decide ((w.rows.getD 0 []).getD 0 0 = 1)) = false := fun i hi hb => by
    rw [all_false_at (p := rowOkAt g w) hi hb, Bool.false_and]
  refine EvK.loopI (ι := {i : Nat // i ≤ g.length ∧ (List.range i).all (rowOkAt g w) = true}) 1000 (fun i => mkT 103 [(0, .ps 4 (syms g)), (3, .ptr 0 0), (5, .int .i64 i.1)]) (fun _ => [some (.var [.int .i64 w.size, .ps 1 (rowsA w.rows)])]) (fun i => g.length - i.1) ⟨0, by simp⟩ ?_ (fun _ => Nat.zero_le _) ?_
  · simp only [go_sem, Nat.reduceAdd, Nat.reduceSub, Nat.reduceMul, Nat.reduceLeDiff, Nat.reduceEqDiff, Nat.reduceBEq, syms_low, rowsA_low, Int.natCast_zero, Nat.zero_lt_one]
  · rintro ⟨i, hi, hpre⟩
    by_cases hlt : (i : Int) < g.length
    · have hlt' : i < g.length := by omega
      have hlr : i < w.rows.length := by omega
      have hga := getD_at hlt'
      have hra := getD_row hlr
      have hxr := right_iff (sigOk_at c1 hlt')
      have hro : rowOkAt g w i = rowOk w.size (mostOf w g[i]) g[i].arity w.rows[i] := by simp only [rowOkAt, hga, hra]
      have hg0 : (syms g).getD i .undef = g[i].toA := syms_get hlt'
      have hr0 : (rowsA w.rows).getD i .undef = .ps 1 (ints w.rows[i]) := rowsA_get hlr
      generalize g[i] = x at *
      generalize w.rows[i] = r at *
      cases htr : x.truth
      case' false => simp only [go_sem, Nat.reduceAdd, Nat.reduceSub, Nat.reduceMul, Nat.reduceLeDiff, Nat.reduceEqDiff, Nat.reduceBEq, syms_len, hlt, Int.toNat_natCast, hg0, sy_cells, htr]
      case' true => simp only [go_sem, Nat.reduceAdd, Nat.reduceSub, Nat.reduceMul, Nat.reduceLeDiff, Nat.reduceEqDiff, Nat.reduceBEq, syms_len, hlt, Int.toNat_natCast, hg0, sy_cells, htr]
      all_goals refine ⟨by omega, ?_⟩
      all_goals refine EvK.draw [] 1 1 mixed rfl rfl (Nat.le_refl _) ?_
      all_goals
        by_cases d1 : 4 < x.arity
        · have hb : rowOkAt g w i = false := by rw [hro, rowOk, decide_eq_true d1]; simp
          simp only [go_sem, Nat.reduceAdd, Nat.reduceSub, Nat.reduceMul, Nat.reduceLeDiff, Nat.reduceEqDiff, Nat.reduceBEq, padS, syms_len, Int.toNat_natCast, hg0, sy_cells, d1]
          refine ⟨by omega, ?_⟩
          refine EvK.go 1000 ?_
          simp only [go_sem, Nat.reduceAdd, Nat.reduceSub, Nat.reduceMul, Nat.reduceLeDiff, Nat.reduceEqDiff, Nat.reduceBEq]
          refine EvK.go 1000 ?_
          simp only [go_sem, Nat.reduceAdd, Nat.reduceSub, Nat.reduceMul, Nat.reduceLeDiff, Nat.reduceEqDiff, Nat.reduceBEq, bad i hlt' hb]
        obtain ⟨p1, p2, p3⟩ := pow_small w.size (by omega) (by omega) x.arity.toNat (by omega)
        simp only [go_sem, Nat.reduceAdd, Nat.reduceSub, Nat.reduceMul, Nat.reduceLeDiff, Nat.reduceEqDiff, Nat.reduceBEq, padS, syms_len, rowsA_len, Int.toNat_natCast, hg0, hr0, sy_cells, d1, ints_len]
        refine ⟨by omega, by omega, by omega, ?_⟩
        refine draw_iso (Power09_eq w.size x.arity (by omega)) ?_ ?_ ?_
        · exact pTL_refl _ _ _
        · simp [go_sem]
        rw [p1]
        by_cases d2 : (r.length : Int) = w.size ^ x.arity.toNat
        case neg =>
          have hb : rowOkAt g w i = false := by rw [hro, rowOk, decide_eq_false d2]; simp
          simp only [go_sem, Nat.reduceAdd, Nat.reduceSub, Nat.reduceMul, Nat.reduceLeDiff, Nat.reduceEqDiff, Nat.reduceBEq, d2]
          refine EvK.go 1000 ?_
          simp only [go_sem, Nat.reduceAdd, Nat.reduceSub, Nat.reduceMul, Nat.reduceLeDiff, Nat.reduceEqDiff, Nat.reduceBEq]
          refine EvK.go 1000 ?_
          simp only [go_sem, Nat.reduceAdd, Nat.reduceSub, Nat.reduceMul, Nat.reduceLeDiff, Nat.reduceEqDiff, Nat.reduceBEq, bad i hlt' hb]
        have p4 : (r.length : Int) ≤ 256 := by omega
        simp only [go_sem, Nat.reduceAdd, Nat.reduceSub, Nat.reduceMul, Nat.reduceLeDiff, Nat.reduceEqDiff, Nat.reduceBEq, d2]
        refine EvK.go 1000 ?_
        simp only [go_sem, Nat.reduceAdd, Nat.reduceSub, Nat.reduceMul, Nat.reduceLeDiff, Nat.reduceEqDiff, Nat.reduceBEq]
        refine EvK.loopI (ι := {k : Nat // k ≤ r.length ∧ (r.take k).all (fun v => !(decide (v < 0) || decide (mostOf w x ≤ v))) = true}) 1000 (fun k => mkT 103 [(0, .ps 4 (syms g)), (3, .ptr 0 0), (5, .int .i64 i), (6, .int .i64 (mostOf w x)), (7, .int .i64 k.1)]) (fun _ => [some (.var [.int .i64 w.size, .ps 1 (rowsA w.rows)])]) (fun k => r.length - k.1) ⟨0, by simp⟩ ?_ (fun _ => Nat.zero_le _) ?_
        · simp only [go_sem, Nat.reduceAdd, Nat.reduceSub, Nat.reduceMul, Nat.reduceLeDiff, Nat.reduceEqDiff, Nat.reduceBEq, syms_low, rowsA_low, Int.natCast_zero, Nat.zero_lt_one, mostOf, htr]
        · rintro ⟨k, hk, hkp⟩
          by_cases hkr : (k : Int) < r.length
          · have hkl : k < r.length := by omega
            have hkv : (ints r).getD k .undef = .int .i64 r[k] := ints_get hkl
            have hbk : ∀ (hv : (!(decide (r[k] < 0) || decide (mostOf w x ≤ r[k]))) = false), rowOkAt g w i = false := fun hv => by
              rw [hro, rowOk, Bool.and_eq_false_iff]; right
              rw [List.all_eq_false]
              exact ⟨r[k], List.getElem_mem hkl, by rw [hv]; decide⟩
            have hsn : (r.take (k + 1)).all (fun v => !(decide (v < 0) || decide (mostOf w x ≤ v))) = ((r.take k).all (fun v => !(decide (v < 0) || decide (mostOf w x ≤ v))) && !(decide (r[k] < 0) || decide (mostOf w x ≤ r[k]))) := by
              rw [List.take_add_one, List.all_append, List.getElem?_eq_getElem hkl]; simp
            generalize r[k] = v at *
            by_cases d3 : v < 0
            · simp only [go_sem, Nat.reduceAdd, Nat.reduceSub, Nat.reduceMul, Nat.reduceLeDiff, Nat.reduceEqDiff, Nat.reduceBEq, rowsA_len, Int.toNat_natCast, hr0, ints_len, hkr, hkv, d3]
              (repeat ((with_reducible refine And.intro ?_ ?_); · omega))
              refine EvK.go 1000 ?_
              simp only [go_sem, Nat.reduceAdd, Nat.reduceSub, Nat.reduceMul, Nat.reduceLeDiff, Nat.reduceEqDiff, Nat.reduceBEq]
              refine EvK.go 1000 ?_
              simp only [go_sem, Nat.reduceAdd, Nat.reduceSub, Nat.reduceMul, Nat.reduceLeDiff, Nat.reduceEqDiff, Nat.reduceBEq, bad i hlt' (hbk (by rw [decide_eq_true d3]; rfl))]
            by_cases d4 : mostOf w x ≤ v
            · simp only [go_sem, Nat.reduceAdd, Nat.reduceSub, Nat.reduceMul, Nat.reduceLeDiff, Nat.reduceEqDiff, Nat.reduceBEq, rowsA_len, Int.toNat_natCast, hr0, ints_len, hkr, hkv, d3, d4]
              (repeat ((with_reducible refine And.intro ?_ ?_); · omega))
              refine EvK.go 1000 ?_
              simp only [go_sem, Nat.reduceAdd, Nat.reduceSub, Nat.reduceMul, Nat.reduceLeDiff, Nat.reduceEqDiff, Nat.reduceBEq]
              refine EvK.go 1000 ?_
              simp only [go_sem, Nat.reduceAdd, Nat.reduceSub, Nat.reduceMul, Nat.reduceLeDiff, Nat.reduceEqDiff, Nat.reduceBEq, bad i hlt' (hbk (by rw [decide_eq_true d4]; simp))]
            simp only [go_sem, Nat.reduceAdd, Nat.reduceSub, Nat.reduceMul, Nat.reduceLeDiff, Nat.reduceEqDiff, Nat.reduceBEq, rowsA_len, Int.toNat_natCast, hr0, ints_len, hkr, hkv, d3, d4]
            (repeat ((with_reducible refine And.intro ?_ ?_); · omega))
            refine ⟨⟨k + 1, by omega, by rw [hsn, hkp, decide_eq_false d3, decide_eq_false d4]; rfl⟩, ?_, by simp only; omega⟩
            simp only [go_sem, Nat.reduceAdd, Nat.reduceSub, Nat.reduceMul, Nat.reduceLeDiff, Nat.reduceEqDiff, Nat.reduceBEq, syms_low, rowsA_low, Nat.zero_lt_one]
            rw [i64_id (by omega)]; rfl
          · simp only [go_sem, Nat.reduceAdd, Nat.reduceSub, Nat.reduceMul, Nat.reduceLeDiff, Nat.reduceEqDiff, Nat.reduceBEq, rowsA_len, Int.toNat_natCast, hr0, ints_len, hkr]
            (repeat ((with_reducible refine And.intro ?_ ?_); · omega))
            refine EvK.go 1000 ?_
            simp only [go_sem, Nat.reduceAdd, Nat.reduceSub, Nat.reduceMul, Nat.reduceLeDiff, Nat.reduceEqDiff, Nat.reduceBEq]
            have hkl : k = r.length := by omega
            subst hkl
            rw [List.take_length] at hkp
            have hok : rowOkAt g w i = true := by
              rw [hro, rowOk, decide_eq_false d1, decide_eq_true d2, hkp]; rfl
            refine ⟨⟨i + 1, hlt', by rw [range_all_snoc, hpre, hok]; rfl⟩, ?_, by simp only; omega⟩
            simp only [go_sem, Nat.reduceAdd, Nat.reduceSub, Nat.reduceMul, Nat.reduceLeDiff, Nat.reduceEqDiff, Nat.reduceBEq, syms_low, rowsA_low, Nat.zero_lt_one]
            rw [i64_id (by omega)]; rfl
    · have hi' : i = g.length := by omega
      subst hi'
      have h0 : 0 < g.length := by omega
      have hr0 : 0 < w.rows.length := by omega
      have e0 : (rowsA w.rows).getD 0 .undef = .ps 1 (ints w.rows[0]) := rowsA_get hr0
      have e1 := getD_row hr0
      have hok : rowOkAt g w 0 = true := List.all_eq_true.1 hpre 0 (by simpa using h0)
      have e2 : 0 < w.rows[0].length := row_pos c1 (by omega) h0 hr0 hok
      have e3 : (ints w.rows[0]).getD 0 .undef = .int .i64 w.rows[0][0] := ints_get e2
      simp only [go_sem, Nat.reduceAdd, Nat.reduceSub, Nat.reduceMul, Nat.reduceLeDiff, Nat.reduceEqDiff, Nat.reduceBEq, syms_len, hlt]
      refine EvK.go 1000 ?_
      simp only [go_sem, Nat.reduceAdd, Nat.reduceSub, Nat.reduceMul, Nat.reduceLeDiff, Nat.reduceEqDiff, Nat.reduceBEq, rowsA_len, Int.toNat_zero, e0, ints_len, e3]
      (repeat ((with_reducible refine And.intro ?_ ?_); · omega))
      rw [hpre, e1, getD_at' e2]; rfl
end Go.Proofs

/- The values of terms, and where no literal holds, as the document's answer tells them. -/
set_option linter.unusedSimpArgs false
namespace Go.Proofs
open Go Go.Abs

theorem Check28_eq (g : List Sy) (w : Wo) : CallEq Try.prog 15 [.ps 4 (syms g), w.toA] (.int .i64 (if worldOk g w then 0 else 1)) := by
  refine CallEq.begin (rs := [.tmp 4]) (m := 7) 1000 Try.func15 rfl rfl rfl (by decide) trivial ?_
  simp only [go_sem, Nat.reduceAdd, Nat.reduceSub, Nat.reduceMul, Nat.reduceLeDiff, Nat.reduceEqDiff, Nat.reduceBEq, wo_eq, Nat.le_refl]
  rw [← wo_eq]
  refine VCall.isoT [] (WorldRight_eq g w) (pTL_refl _ _ _) (by simp [go_sem, syms_low, wo_low]) ?_; simp only [flatR, flatA, flatC, if_true]; refine EvK.go 1000 ?_
  cases c : worldOk g w <;> simp only [go_sem, Nat.reduceAdd, Nat.reduceSub, Nat.reduceMul, Nat.reduceLeDiff, Nat.reduceEqDiff, Nat.reduceBEq]

set_option maxRecDepth 10000 in
set_option maxHeartbeats 800000 in
theorem WorldValue_eq (w : Wo) (of : List Int) (f : Int → Int) (hw : 1 ≤ w.size) (hw4 : w.size ≤ 4) (hf : ∀ v, 0 ≤ f v ∧ f v < w.size) (t : Tm) :
    t.fit → t.size < 2 ^ 62 → t.okW w → t.allV (fun v => f v = ofL of v) → CallEq Try.prog 34 [w.toA, .ps 1 (ints of), t.toA] (.int .i64 (t.val w f)) := by
  induction t using Tm.rec_args with
  | h h ts ih =>
  intro hfit hs ho ha
  simp only [Tm.size] at hs
  have hlen := len_le_sizes ts
  have h64 : -9223372036854775808 ≤ h ∧ h ≤ 9223372036854775807 := hfit.1
  refine CallEq.begin (rs := [.tmp 6]) (m := 50) 1000 Try.func34 rfl rfl rfl (by decide) trivial ?_
  by_cases c1 : h < 0
  · have e1 : Tm.val w f (.mk h ts) = ofL of (-1 - h) := by simp only [Tm.val, if_pos c1]; exact ha.1 c1
    have e2 : IntKind.i64.wrap (-1 - h) = -1 - h := i64_id (by omega)
    rw [e1]
    by_cases c2 : -1 - h < (of.length : Int)
    · have hk : (-1 - h).toNat < of.length := by omega
      have e3 : (ints of).getD (-1 - h).toNat .undef = .int .i64 of[(-1 - h).toNat] := ints_get hk
      have e4 : ofL of (-1 - h) = of[(-1 - h).toNat] := by rw [ofL, if_pos c2, getD_at' hk]
      rw [e4]
      simp only [go_sem, Nat.reduceAdd, Nat.reduceSub, Nat.reduceMul, Nat.reduceLeDiff, Nat.reduceEqDiff, Nat.reduceBEq, wo_eq, toA_eq, Tm.head, Tm.args, c1, e2, ints_len, c2, e3]
      omega
    · have e4 : ofL of (-1 - h) = 0 := by rw [ofL, if_neg c2]
      rw [e4]
      simp only [go_sem, Nat.reduceAdd, Nat.reduceSub, Nat.reduceMul, Nat.reduceLeDiff, Nat.reduceEqDiff, Nat.reduceBEq, wo_eq, toA_eq, Tm.head, Tm.args, c1, e2, ints_len, c2]
  · have e1 : Tm.val w f (.mk h ts) = (w.rows.getD h.toNat []).getD (Tm.ats w f ts 0).toNat 0 := by simp only [Tm.val, if_neg c1]
    obtain ⟨o1, o2, o3, o4⟩ := ho.resolve_left c1
    rw [e1]
    simp only [go_sem, Nat.reduceAdd, Nat.reduceSub, Nat.reduceMul, Nat.reduceLeDiff, Nat.reduceEqDiff, Nat.reduceBEq, wo_eq, toA_eq, Tm.head, Tm.args, c1]
    refine EvK.loopI (ι := {i : Nat // i ≤ ts.length}) 1000 (fun i => mkT 53 [(1, .ps 1 (ints of)), (3, .ptr 0 0), (5, .ptr 1 0), (8, .int .i64 (Tm.ats w f (ts.take i.1) 0)), (9, .int .i64 i.1)]) (fun _ => [some (.var [.int .i64 w.size, .ps 1 (rowsA w.rows)]), some (.var [.int .i64 h, .ps 2 (ts.map Tm.toA)])]) (fun i => ts.length - i.1) ⟨0, by simp⟩ ?_ (fun _ => Nat.zero_le _) ?_
    · simp only [go_sem, Nat.reduceAdd, Nat.reduceSub, Nat.reduceMul, Nat.reduceLeDiff, Nat.reduceEqDiff, Nat.reduceBEq, tms_low, ints_low, rowsA_low, Int.natCast_zero, List.take_zero, Tm.ats]; decide
    · rintro ⟨i, hi⟩
      simp only [go_sem, Nat.reduceAdd, Nat.reduceSub, Nat.reduceMul, Nat.reduceLeDiff, Nat.reduceEqDiff, Nat.reduceBEq, List.length_map]
      refine ⟨fun hlt => ?_, fun hge => ?_⟩
      · have hlt' : i < ts.length := by omega
        obtain ⟨ho1, ho2⟩ := oksW_get o4 i hlt'
        obtain ⟨a1, a2⟩ := ats_small hw hw4 hf o4 o2 i
        obtain ⟨b1, b2⟩ := val_range hw hf _ ho2
        have hsz := size_le_sizes ts i hlt'
        have hsn := ats_snoc (f := f) (w := w) ts i hlt' 0
        have m1 : 0 ≤ Tm.ats w f (ts.take i) 0 * w.size := Int.mul_nonneg a1 (by omega)
        have m2 : Tm.ats w f (ts.take i) 0 * w.size ≤ 256 * 4 := Int.mul_le_mul (by omega) hw4 (by omega) (by omega)
        refine EvK.draw [] 2 2 mixed rfl rfl (Nat.le_refl _) ?_
        simp only [go_sem, Nat.reduceAdd, Nat.reduceSub, Nat.reduceMul, Nat.reduceLeDiff, Nat.reduceEqDiff, Nat.reduceBEq, padS, List.length_map, Int.toNat_natCast, map_getD hlt', toA_cells, Nat.le_refl]
        rw [← toA_eq]
        (repeat ((with_reducible refine And.intro ?_ ?_); · omega))
        refine draw_iso (ih i hlt' (fits_get hfit.2 i hlt') (by omega) ho1 (allVs_get ha.2 i hlt')) ?_ ?_ ?_
        · exact pTL_refl _ _ _
        · simp [go_sem, rowsA_low, ints_low, toA_low, wo_low]
        simp only [go_sem, Nat.reduceAdd, Nat.reduceSub, Nat.reduceMul, Nat.reduceLeDiff, Nat.reduceEqDiff, Nat.reduceBEq]
        refine EvK.go 1000 ?_
        simp only [go_sem, Nat.reduceAdd, Nat.reduceSub, Nat.reduceMul, Nat.reduceLeDiff, Nat.reduceEqDiff, Nat.reduceBEq]
        refine ⟨⟨i + 1, hlt'⟩, ?_, by simp only; omega⟩
        simp only [go_sem, Nat.reduceAdd, Nat.reduceSub, Nat.reduceMul, Nat.reduceLeDiff, Nat.reduceEqDiff, Nat.reduceBEq, tms_low, ints_low, rowsA_low, Nat.zero_lt_one]
        rw [i64_id (n := Tm.ats w f (ts.take i) 0 * w.size) (by omega), i64_id (by omega), i64_id (by omega), hsn]; exact ⟨⟨rfl, rfl⟩, by decide⟩
      · refine EvK.go 1000 ?_
        have hi' : i = ts.length := by omega
        subst hi'
        rw [List.take_length]
        have hrl : h.toNat < w.rows.length := by omega
        have hr0 : (rowsA w.rows).getD h.toNat .undef = .ps 1 (ints w.rows[h.toNat]) := rowsA_get hrl
        have hr1 := getD_row hrl
        rw [hr1] at o3 ⊢
        obtain ⟨q1, q2⟩ := ats_range hw hf ts 0 o4 (by omega)
        have hk : (Tm.ats w f ts 0).toNat < w.rows[h.toNat].length := by omega
        have hr2 : (ints w.rows[h.toNat]).getD (Tm.ats w f ts 0).toNat .undef = .int .i64 w.rows[h.toNat][(Tm.ats w f ts 0).toNat] := ints_get hk
        rw [getD_at' hk]
        simp only [go_sem, Nat.reduceAdd, Nat.reduceSub, Nat.reduceMul, Nat.reduceLeDiff, Nat.reduceEqDiff, Nat.reduceBEq, rowsA_len, hr0, ints_len, hr2]
        (repeat ((with_reducible refine And.intro ?_ ?_); · omega))
        omega

theorem WorldLit_eq (w : Wo) (of : List Int) (f : Int → Int) (hw : 1 ≤ w.size) (hw4 : w.size ≤ 4) (hf : ∀ v, 0 ≤ f v ∧ f v < w.size) (l : Li) (h1 : l.l.fit) (h2 : l.r.fit) (h3 : l.l.size < 2 ^ 62) (h4 : l.r.size < 2 ^ 62) (h5 : l.l.okW w) (h6 : l.r.okW w)
    (h7 : l.l.allV (fun v => f v = ofL of v)) (h8 : l.r.allV (fun v => f v = ofL of v)) : CallEq Try.prog 70 [w.toA, .ps 1 (ints of), l.toA] (.bool (l.holds w f)) := by
  refine CallEq.begin (rs := [.tmp 6]) (m := 18) 1000 Try.func70 rfl rfl rfl (by decide) trivial ?_
  simp only [go_sem, Nat.reduceAdd, Nat.reduceSub, Nat.reduceMul, Nat.reduceLeDiff, Nat.reduceEqDiff, Nat.reduceBEq, wo_eq, Li.toA, Li.cs]
  refine EvK.draw [] 2 2 mixed rfl rfl (Nat.le_refl _) ?_
  simp only [go_sem, Nat.reduceAdd, Nat.reduceSub, Nat.reduceMul, Nat.reduceLeDiff, Nat.reduceEqDiff, Nat.reduceBEq, padS, Nat.le_refl]
  rw [← toA_eq]
  refine draw_iso (WorldValue_eq w of f hw hw4 hf l.l h1 h3 h5 h7) (pTL_refl _ _ _) (by simp [go_sem, wo_low, ints_low, toA_low]) ?_
  simp only [go_sem, Nat.reduceAdd, Nat.reduceSub, Nat.reduceMul, Nat.reduceLeDiff, Nat.reduceEqDiff, Nat.reduceBEq, Nat.le_refl]
  rw [← toA_eq]
  refine draw_iso (WorldValue_eq w of f hw hw4 hf l.r h2 h4 h6 h8) (pTL_refl _ _ _) (by simp [go_sem, wo_low, ints_low, toA_low]) ?_
  simp only [go_sem, Nat.reduceAdd, Nat.reduceSub, Nat.reduceMul, Nat.reduceLeDiff, Nat.reduceEqDiff, Nat.reduceBEq]
  refine EvK.go 1000 ?_
  simp only [go_sem, Nat.reduceAdd, Nat.reduceSub, Nat.reduceMul, Nat.reduceLeDiff, Nat.reduceEqDiff, Nat.reduceBEq]
  simp only [Li.holds]
  cases l.neg <;> by_cases c : Tm.val w f l.l = Tm.val w f l.r <;> simp [c]

/-- What a literal needs to be read in a world. -/
def Li.okW (w : Wo) (l : Li) : Prop := (l.l.fit ∧ l.r.fit ∧ l.l.size < 2 ^ 62 ∧ l.r.size < 2 ^ 62) ∧ l.l.okW w ∧ l.r.okW w
def Li.allV (p : Int → Prop) (l : Li) : Prop := l.l.allV p ∧ l.r.allV p

theorem Any28_eq (w : Wo) (of : List Int) (f : Int → Int) (hw : 1 ≤ w.size) (hw4 : w.size ≤ 4) (hf : ∀ v, 0 ≤ f v ∧ f v < w.size) (c : List Li) (hlen : c.length < 2 ^ 62) (ho : ∀ (i : Nat) (h : i < c.length), c[i].okW w) (ha : ∀ (i : Nat) (h : i < c.length), c[i].allV (fun v => f v = ofL of v)) :
    CallEq Try.prog 41 [w.toA, .ps 1 (ints of), .ps 5 (lits c)] (.bool (anyHolds w f c)) := by
  refine CallEq.begin (rs := [.tmp 6]) (m := 18) 1000 Try.func41 rfl rfl rfl (by decide) trivial ?_
  simp only [go_sem, Nat.reduceAdd, Nat.reduceSub, Nat.reduceMul, Nat.reduceLeDiff, Nat.reduceEqDiff, Nat.reduceBEq, wo_eq]
  refine EvK.loopI (ι := {i : Nat // i ≤ c.length ∧ anyHolds w f (c.drop i) = anyHolds w f c}) 1000 (fun i => mkT 21 [(1, .ps 1 (ints of)), (2, .ps 5 (lits c)), (3, .ptr 0 0), (7, .int .i64 i.1)]) (fun _ => [some (.var [.int .i64 w.size, .ps 1 (rowsA w.rows)])]) (fun i => c.length - i.1) ⟨0, by simp⟩ ?_ (fun _ => Nat.zero_le _) ?_
  · simp only [go_sem, Nat.reduceAdd, Nat.reduceSub, Nat.reduceMul, Nat.reduceLeDiff, Nat.reduceEqDiff, Nat.reduceBEq, ints_low, lits_low, rowsA_low, Int.natCast_zero, Nat.zero_lt_one]
  · rintro ⟨i, hi, hpre⟩
    by_cases hlt : (i : Int) < c.length
    · have hlt' : i < c.length := by omega
      have hd : anyHolds w f (c.drop i) = (c[i].holds w f || anyHolds w f (c.drop (i + 1))) := by
        rw [List.drop_eq_getElem_cons hlt']; rfl
      rw [hd] at hpre
      obtain ⟨⟨g1, g2, g3, g4⟩, g5, g6⟩ := ho i hlt'
      obtain ⟨g7, g8⟩ := ha i hlt'
      simp only [go_sem, Nat.reduceAdd, Nat.reduceSub, Nat.reduceMul, Nat.reduceLeDiff, Nat.reduceEqDiff, Nat.reduceBEq, lits_len, hlt]
      refine EvK.draw [] 1 1 mixed rfl rfl (Nat.le_refl _) ?_
      simp only [go_sem, Nat.reduceAdd, Nat.reduceSub, Nat.reduceMul, Nat.reduceLeDiff, Nat.reduceEqDiff, Nat.reduceBEq, padS, lits_len, Int.toNat_natCast, lits_get hlt', li_cells, Nat.le_refl]
      rw [← wo_eq]
      (repeat ((with_reducible refine And.intro ?_ ?_); · omega))
      refine draw_iso (WorldLit_eq w of f hw hw4 hf c[i] g1 g2 g3 g4 g5 g6 g7 g8) ?_ ?_ ?_
      · simp only [Li.toA, Li.cs]; exact pTL_refl _ _ _
      · simp [go_sem, wo_low, ints_low, li_low]
      simp only [go_sem, Nat.reduceAdd, Nat.reduceSub, Nat.reduceMul, Nat.reduceLeDiff, Nat.reduceEqDiff, Nat.reduceBEq]
      refine EvK.go 1000 ?_
      cases e : c[i].holds w f with
      | true =>
        rw [e, Bool.true_or] at hpre
        simp only [go_sem, Nat.reduceAdd, Nat.reduceSub, Nat.reduceMul, Nat.reduceLeDiff, Nat.reduceEqDiff, Nat.reduceBEq]
        refine EvK.go 1000 ?_
        simp only [go_sem, Nat.reduceAdd, Nat.reduceSub, Nat.reduceMul, Nat.reduceLeDiff, Nat.reduceEqDiff, Nat.reduceBEq, ← hpre]
      | false =>
        rw [e, Bool.false_or] at hpre
        simp only [go_sem, Nat.reduceAdd, Nat.reduceSub, Nat.reduceMul, Nat.reduceLeDiff, Nat.reduceEqDiff, Nat.reduceBEq]
        refine ⟨⟨i + 1, hlt', hpre⟩, ?_, by simp only; omega⟩
        simp only [go_sem, Nat.reduceAdd, Nat.reduceSub, Nat.reduceMul, Nat.reduceLeDiff, Nat.reduceEqDiff, Nat.reduceBEq, ints_low, lits_low, rowsA_low, Nat.zero_lt_one]
        rw [i64_id (by omega)]; trivial
    · have hi' : i = c.length := by omega
      subst hi'
      rw [List.drop_length] at hpre
      simp only [go_sem, Nat.reduceAdd, Nat.reduceSub, Nat.reduceMul, Nat.reduceLeDiff, Nat.reduceEqDiff, Nat.reduceBEq, lits_len, hlt]
      refine EvK.go 1000 ?_
      simp only [go_sem, Nat.reduceAdd, Nat.reduceSub, Nat.reduceMul, Nat.reduceLeDiff, Nat.reduceEqDiff, Nat.reduceBEq, ← hpre]
      rfl

theorem ValueOf_eq (g : List Sy) (w : Wo) (t : Tm) (of : List Int) (hfit : t.fit) (hs : t.size < 2 ^ 62) : CallEq Try.prog 10 [.ps 4 (syms g), w.toA, t.toA, .ps 1 (ints of)] (.tup [.int .i64 (valueOf g w t of).1, .int .i64 (valueOf g w t of).2]) := by
  refine CallEq.begin (rs := [.tmp 8, .tmp 9]) (m := 60) 1000 Try.func10 rfl rfl rfl (by decide) ⟨trivial, trivial, trivial⟩ ?_
  simp only [go_sem, Nat.reduceAdd, Nat.reduceSub, Nat.reduceMul, Nat.reduceLeDiff, Nat.reduceEqDiff, Nat.reduceBEq, wo_eq, toA_eq, Nat.le_refl]
  rw [← wo_eq]
  refine VCall.isoT [] (WorldRight_eq g w) (pTL_refl _ _ _) (by simp [go_sem, syms_low, wo_low]) ?_; simp only [flatR, flatA, flatC, if_true]; refine EvK.go 1000 ?_
  cases c1 : worldOk g w with
  | false => simp only [go_sem, Nat.reduceAdd, Nat.reduceSub, Nat.reduceMul, Nat.reduceLeDiff, Nat.reduceEqDiff, Nat.reduceBEq, valueOf, c1]
  | true =>
  simp only [go_sem, Nat.reduceAdd, Nat.reduceSub, Nat.reduceMul, Nat.reduceLeDiff, Nat.reduceEqDiff, Nat.reduceBEq, Nat.le_refl]
  rw [← toA_eq]
  refine VCall.isoT [] (Term_eq g t hs) (pTL_refl _ _ _) (by simp [go_sem, syms_low, toA_low]) ?_; simp only [flatR, flatA, flatC, if_true]; refine EvK.go 1000 ?_
  by_cases c2 : t.term g = 0
  case neg => simp only [go_sem, Nat.reduceAdd, Nat.reduceSub, Nat.reduceMul, Nat.reduceLeDiff, Nat.reduceEqDiff, Nat.reduceBEq, valueOf, c1, c2]
  simp only [go_sem, Nat.reduceAdd, Nat.reduceSub, Nat.reduceMul, Nat.reduceLeDiff, Nat.reduceEqDiff, Nat.reduceBEq, c2, Nat.le_refl]
  rw [← toA_eq]
  obtain ⟨q1, q2, q3, q4, q5, q6⟩ := worldOk_size c1
  obtain ⟨t1, t2, t3⟩ := term_zero c2
  have hsz : t.size < 1000000000 := by
    have := t1
    unfold Tm.check at this
    split at this
    · omega
    · omega
  have hvl : t.vars.length < 1000000000 := by have := vars_len t; omega
  have hok : valueOf g w t of = if t.vars.any (badV of w.size) then (0, 1) else (t.val w (okF of w.size), 0) := by simp [valueOf, c1, c2]
  refine VCall.isoT [] (Vars_eq t hfit hsz) (pTL_refl _ _ _) (by simp [go_sem, toA_low]) ?_; rw [frzI_nil]; simp only [ite_self]; refine EvK.go 1000 ?_
  simp only [go_sem, Nat.reduceAdd, Nat.reduceSub, Nat.reduceMul, Nat.reduceLeDiff, Nat.reduceEqDiff, Nat.reduceBEq]
  rw [hok]
  refine EvK.loopI (ι := {i : Nat // i ≤ t.vars.length ∧ (t.vars.take i).any (badV of w.size) = false}) 1000 (fun i => mkT 64 [(3, .ps 1 (ints of)), (5, .ptr 0 0), (6, .ptr 1 0), (11, .ps 1 (ints t.vars)), (12, .int .i64 i.1)]) (fun _ => [some (.var [.int .i64 w.size, .ps 1 (rowsA w.rows)]), some (.var [.int .i64 t.head, .ps 2 (t.args.map Tm.toA)])]) (fun i => t.vars.length - i.1) ⟨0, by simp⟩ ?_ (fun _ => Nat.zero_le _) ?_
  · simp only [go_sem, Nat.reduceAdd, Nat.reduceSub, Nat.reduceMul, Nat.reduceLeDiff, Nat.reduceEqDiff, Nat.reduceBEq, tms_low, ints_low, rowsA_low, Int.natCast_zero]; decide
  · rintro ⟨i, hi, hpre⟩
    by_cases hlt : (i : Int) < t.vars.length
    · have hlt' : i < t.vars.length := by omega
      have hg : (ints t.vars).getD i .undef = .int .i64 t.vars[i] := ints_get hlt'
      have hn := vars_nonneg t t.vars[i] (List.getElem_mem hlt')
      have hbad : badV of w.size t.vars[i] = true → t.vars.any (badV of w.size) = true := fun h => List.any_eq_true.2 ⟨_, List.getElem_mem hlt', h⟩
      have hsn : (t.vars.take (i + 1)).any (badV of w.size) = badV of w.size t.vars[i] := by
        rw [List.take_add_one, List.any_append, hpre, List.getElem?_eq_getElem hlt']; simp
      generalize t.vars[i] = v at *
      simp only [go_sem, Nat.reduceAdd, Nat.reduceSub, Nat.reduceMul, Nat.reduceLeDiff, Nat.reduceEqDiff, Nat.reduceBEq, ints_len, hlt]
      refine EvK.draw [] 2 2 mixed rfl rfl (Nat.le_refl _) ?_
      by_cases d1 : (of.length : Int) ≤ v
      · simp only [go_sem, Nat.reduceAdd, Nat.reduceSub, Nat.reduceMul, Nat.reduceLeDiff, Nat.reduceEqDiff, Nat.reduceBEq, padS, ints_len, Int.toNat_natCast, hg, d1]
        (repeat ((with_reducible refine And.intro ?_ ?_); · omega))
        refine EvK.go 1000 ?_
        rw [if_pos (hbad (by simp [badV, d1]))]
        simp only [go_sem, Nat.reduceAdd, Nat.reduceSub, Nat.reduceMul, Nat.reduceLeDiff, Nat.reduceEqDiff, Nat.reduceBEq]
        refine EvK.go 1000 ?_
        simp only [go_sem, Nat.reduceAdd, Nat.reduceSub, Nat.reduceMul, Nat.reduceLeDiff, Nat.reduceEqDiff, Nat.reduceBEq]
      have hvl : v.toNat < of.length := by omega
      have hv0 : (ints of).getD v.toNat .undef = .int .i64 of[v.toNat] := ints_get hvl
      have hv1 := getD_at' hvl
      by_cases d2 : of[v.toNat] < 0
      · simp only [go_sem, Nat.reduceAdd, Nat.reduceSub, Nat.reduceMul, Nat.reduceLeDiff, Nat.reduceEqDiff, Nat.reduceBEq, padS, ints_len, Int.toNat_natCast, hg, d1, hv0, d2]
        (repeat ((with_reducible refine And.intro ?_ ?_); · omega))
        refine EvK.go 1000 ?_
        rw [if_pos (hbad (by simp only [badV, hv1, decide_eq_true d2, Bool.or_true, Bool.true_or]))]
        simp only [go_sem, Nat.reduceAdd, Nat.reduceSub, Nat.reduceMul, Nat.reduceLeDiff, Nat.reduceEqDiff, Nat.reduceBEq]
        refine EvK.go 1000 ?_
        simp only [go_sem, Nat.reduceAdd, Nat.reduceSub, Nat.reduceMul, Nat.reduceLeDiff, Nat.reduceEqDiff, Nat.reduceBEq]
      by_cases d3 : w.size ≤ of[v.toNat]
      · simp only [go_sem, Nat.reduceAdd, Nat.reduceSub, Nat.reduceMul, Nat.reduceLeDiff, Nat.reduceEqDiff, Nat.reduceBEq, padS, ints_len, Int.toNat_natCast, hg, d1, hv0, d2, d3]
        (repeat ((with_reducible refine And.intro ?_ ?_); · omega))
        refine EvK.go 1000 ?_
        rw [if_pos (hbad (by simp only [badV, hv1, decide_eq_true d3, Bool.or_true]))]
        simp only [go_sem, Nat.reduceAdd, Nat.reduceSub, Nat.reduceMul, Nat.reduceLeDiff, Nat.reduceEqDiff, Nat.reduceBEq]
        refine EvK.go 1000 ?_
        simp only [go_sem, Nat.reduceAdd, Nat.reduceSub, Nat.reduceMul, Nat.reduceLeDiff, Nat.reduceEqDiff, Nat.reduceBEq]
      simp only [go_sem, Nat.reduceAdd, Nat.reduceSub, Nat.reduceMul, Nat.reduceLeDiff, Nat.reduceEqDiff, Nat.reduceBEq, padS, ints_len, Int.toNat_natCast, hg, d1, hv0, d2, d3]
      (repeat ((with_reducible refine And.intro ?_ ?_); · omega))
      refine EvK.go 1000 ?_
      simp only [go_sem, Nat.reduceAdd, Nat.reduceSub, Nat.reduceMul, Nat.reduceLeDiff, Nat.reduceEqDiff, Nat.reduceBEq]
      refine ⟨⟨i + 1, hlt', by rw [hsn]; simp only [badV, hv1, decide_eq_false d1, decide_eq_false d2, decide_eq_false d3, Bool.or_false]⟩, ?_, by simp only; omega⟩
      simp only [go_sem, Nat.reduceAdd, Nat.reduceSub, Nat.reduceMul, Nat.reduceLeDiff, Nat.reduceEqDiff, Nat.reduceBEq, tms_low, ints_low, rowsA_low]
      rw [i64_id (by omega)]; exact ⟨rfl, by decide⟩
    · have hi' : i = t.vars.length := by omega
      subst hi'
      rw [List.take_length] at hpre
      simp only [go_sem, Nat.reduceAdd, Nat.reduceSub, Nat.reduceMul, Nat.reduceLeDiff, Nat.reduceEqDiff, Nat.reduceBEq, ints_len, hlt]
      refine EvK.go 1000 ?_
      rw [if_neg (by rw [hpre]; decide)]
      simp only [go_sem, Nat.reduceAdd, Nat.reduceSub, Nat.reduceMul, Nat.reduceLeDiff, Nat.reduceEqDiff, Nat.reduceBEq, Nat.le_refl]
      rw [← wo_eq, ← toA_eq]
      refine VCall.isoT [] (WorldValue_eq w of (okF of w.size) q2 q3 (okF_range q2) t hfit hs (okW_of c1 t t2 t3) ((vars_all t).1 fun v hv => okF_ofL (by simpa using List.any_eq_false.1 hpre v hv))) (pTL_refl _ _ _) (by simp [go_sem, wo_low, ints_low, toA_low]) ?_; simp only [flatR, flatA, flatC, if_true]; refine EvK.go 1000 ?_
      simp only [go_sem, Nat.reduceAdd, Nat.reduceSub, Nat.reduceMul, Nat.reduceLeDiff, Nat.reduceEqDiff, Nat.reduceBEq]
end Go.Proofs

/- Where a clause fails, as the document's answer tells it. -/
set_option linter.unusedSimpArgs false
namespace Go.Proofs
open Go Go.Abs

def failsA (r : List Int × Bool × Int) : AVal := .tup [.ps 1 (ints r.1), .bool r.2.1, .int .i64 r.2.2]
theorem failsA_eq (r : List Int × Bool × Int) : failsA r = .tup [.ps 1 (ints r.1), .bool r.2.1, .int .i64 r.2.2] := rfl

set_option maxRecDepth 20000 in
set_option maxHeartbeats 1000000 in
theorem Fails28_eq (g : List Sy) (w : Wo) (c : List Li) (hc : c.length < 1000000) (hf : Tm.fits (sides c)) (hs : Tm.sizes (sides c) < 999999999) : CallEq Try.prog 12 [.ps 4 (syms g), w.toA, .ps 5 (lits c)] (failsA (fails g w c)) := by
  refine CallEq.begin (rs := [.tmp 6, .tmp 7, .tmp 8]) (m := 77) 1000 Try.func12 rfl rfl rfl (by decide) ⟨ints_low _, trivial, trivial, trivial⟩ ?_
  rw [failsA_eq]
  have hsz : ∀ (i : Nat) (h : i < c.length), c[i].l.size < 2 ^ 62 ∧ c[i].r.size < 2 ^ 62 := fun i h => by have := sizes_sides i h; omega
  simp only [go_sem, Nat.reduceAdd, Nat.reduceSub, Nat.reduceMul, Nat.reduceLeDiff, Nat.reduceEqDiff, Nat.reduceBEq, wo_eq, Nat.le_refl]
  rw [← wo_eq]
  refine VCall.isoT [] (WorldRight_eq g w) (pTL_refl _ _ _) (by simp [go_sem, syms_low, wo_low]) ?_; simp only [flatR, flatA, flatC, if_true]; refine EvK.go 1000 ?_
  cases c1 : worldOk g w with
  | false => simp only [go_sem, Nat.reduceAdd, Nat.reduceSub, Nat.reduceMul, Nat.reduceLeDiff, Nat.reduceEqDiff, Nat.reduceBEq, fails, c1, ints_nil]
  | true =>
  simp only [go_sem, Nat.reduceAdd, Nat.reduceSub, Nat.reduceMul, Nat.reduceLeDiff, Nat.reduceEqDiff, Nat.reduceBEq]
  refine VCall.isoT [] (ClauseCheck_eq g c hsz) (pTL_refl _ _ _) (by simp [go_sem, syms_low, lits_low]) ?_; simp only [flatR, flatA, flatC, if_true]; refine EvK.go 1000 ?_
  by_cases c2 : clauseCheck g c = 0
  case neg => simp only [go_sem, Nat.reduceAdd, Nat.reduceSub, Nat.reduceMul, Nat.reduceLeDiff, Nat.reduceEqDiff, Nat.reduceBEq, fails, c1, c2, ints_nil]
  simp only [go_sem, Nat.reduceAdd, Nat.reduceSub, Nat.reduceMul, Nat.reduceLeDiff, Nat.reduceEqDiff, Nat.reduceBEq, c2]
  obtain ⟨q1, q2, q3, q4, q5, q6⟩ := worldOk_size c1
  refine VCall.isoT [] (Vars10_eq c hc hf hs) (pTL_refl _ _ _) (by simp [go_sem, lits_low]) ?_; rw [frzI_nil]; simp only [ite_self]; refine EvK.go 1000 ?_
  simp only [go_sem, Nat.reduceAdd, Nat.reduceSub, Nat.reduceMul, Nat.reduceLeDiff, Nat.reduceEqDiff, Nat.reduceBEq, Nat.le_refl]
  rw [← wo_eq]
  refine VCall.isoT [] (WorldMany_eq w c 20000 (by decide) hc hf hs) (pTL_refl _ _ _) (by simp [go_sem, lits_low, wo_low]) ?_; simp only [flatR, flatA, flatC, if_true]; refine EvK.go 1000 ?_
  by_cases c3 : 20000 < worldMany w c 20000
  · simp only [go_sem, Nat.reduceAdd, Nat.reduceSub, Nat.reduceMul, Nat.reduceLeDiff, Nat.reduceEqDiff, Nat.reduceBEq, c3, fails, c1, c2, ints_nil]
  simp only [go_sem, Nat.reduceAdd, Nat.reduceSub, Nat.reduceMul, Nat.reduceLeDiff, Nat.reduceEqDiff, Nat.reduceBEq, c3, Nat.le_refl]
  rw [← wo_eq]
  refine VCall.isoT [] (WorldMany_eq w c 20000 (by decide) hc hf hs) (pTL_refl _ _ _) (by simp [go_sem, lits_low, wo_low]) ?_; simp only [flatR, flatA, flatC, if_true]; refine EvK.go 1000 ?_
  simp only [go_sem, Nat.reduceAdd, Nat.reduceSub, Nat.reduceMul, Nat.reduceLeDiff, Nat.reduceEqDiff, Nat.reduceBEq]
  have hall := many_pow q2 q3 c3
  have hrange := cvars_range c2
  have hvl := varsL_len (sides c) []
  have hfd : fails g w c = match failRow w c with | some r => (r, true, 0) | none => ([], false, 0) := by rw [fails, c1, if_neg (by decide), if_neg (by simp [c2]), if_neg c3]; rfl
  rw [hfd]
  have hlen : (clauseVars c).length < 1000000000 := by unfold clauseVars; simp only [List.length_nil] at hvl; omega
  have hpos : 1 ≤ w.size ^ (clauseVars c).length := Int.pow_pos (by omega)
  have hA : ((allRows w c : Nat) : Int) = worldMany w c 20000 := by unfold allRows; omega
  have hfr : failRow w c = ((List.range (allRows w c)).find? fun (n : Nat) => !anyHolds w (look (clauseVars c) (digL w.size (clauseVars c).length n)) c).map fun (n : Nat) => digL w.size (clauseVars c).length n := rfl
  rw [hfr, ← hA]
  have hAs : allRows w c ≤ 20000 := by omega
  have hvv : ∀ (f : Int → Int), (∀ v ∈ clauseVars c, f v = f v) := fun _ _ _ => rfl
  have hfits := fits_sides hf
  have hok := lits_okW c1 c2 hf
  have hallV : ∀ (p : Int → Prop), (∀ v ∈ clauseVars c, p v) → ∀ (i : Nat) (h : i < c.length), c[i].l.allV p ∧ c[i].r.allV p := fun p => (cvars_all c).1
  generalize clauseVars c = vs at *
  generalize allRows w c = A at *
  refine EvK.loopI (ι := {n : Nat // n ≤ A ∧ ∀ m, m < n → (!anyHolds w (look vs (digL w.size vs.length m)) c) = false}) 1000 (fun n => mkT 80 [(2, .ps 5 (lits c)), (4, .ptr 0 0), (10, .ps 1 (ints vs)), (11, .int .i64 A), (12, .int .i64 n.1)]) (fun _ => [some (.var [.int .i64 w.size, .ps 1 (rowsA w.rows)])]) (fun n => A - n.1) ⟨0, by omega, fun m hm => by omega⟩ ?_ (fun _ => Nat.zero_le _) ?_
  · simp only [go_sem, Nat.reduceAdd, Nat.reduceSub, Nat.reduceMul, Nat.reduceLeDiff, Nat.reduceEqDiff, Nat.reduceBEq, ints_low, lits_low, rowsA_low, Int.natCast_zero, Nat.zero_lt_one]
  · rintro ⟨n, hn, hpre⟩
    by_cases hlt : (n : Int) < A
    case neg =>
      have hn' : n = A := by omega
      subst hn'
      simp only [go_sem, Nat.reduceAdd, Nat.reduceSub, Nat.reduceMul, Nat.reduceLeDiff, Nat.reduceEqDiff, Nat.reduceBEq, hlt]
      refine EvK.go 1000 ?_
      rw [find_end hpre]
      simp only [go_sem, Nat.reduceAdd, Nat.reduceSub, Nat.reduceMul, Nat.reduceLeDiff, Nat.reduceEqDiff, Nat.reduceBEq, Option.map_none, ints_nil]
    have hlt' : n < A := by omega
    simp only [go_sem, Nat.reduceAdd, Nat.reduceSub, Nat.reduceMul, Nat.reduceLeDiff, Nat.reduceEqDiff, Nat.reduceBEq, hlt, ints_len, -List.reduceReplicate, ints_rep]
    (repeat ((with_reducible refine And.intro ?_ ?_); · omega))
    have hinit1 : ofArr (vs.drop (vs.length - 0)) (digL w.size 0 n) = List.replicate 256 0 := by rw [Nat.sub_zero, List.drop_length]; rfl
    have hinit2 : List.replicate (vs.length - 0) (0 : Int) ++ digL w.size 0 n = List.replicate vs.length 0 := by simp [digL]
    refine EvK.loopI (ι := {j : Nat // j ≤ vs.length}) 1000 (fun j => mkT 80 [(2, .ps 5 (lits c)), (4, .ptr 0 0), (10, .ps 1 (ints vs)), (11, .int .i64 A), (12, .int .i64 n), (13, .os 1 0 256 1), (14, .os 2 0 vs.length 1), (15, .int .i64 ((n : Int) / w.size ^ j.1)), (16, .int .i64 ((vs.length : Int) - 1 - j.1))]) (fun j => [some (.var [.int .i64 w.size, .ps 1 (rowsA w.rows)]), some (.row (ints (ofArr (vs.drop (vs.length - j.1)) (digL w.size j.1 n))) 0), some (.row (ints (List.replicate (vs.length - j.1) 0 ++ digL w.size j.1 n)) 0)]) (fun j => vs.length - j.1) ⟨0, by omega⟩ ?_ (fun _ => Nat.zero_le _) ?_
    · simp only [go_sem, Nat.reduceAdd, Nat.reduceSub, Nat.reduceMul, Nat.reduceLeDiff, Nat.reduceEqDiff, Nat.reduceBEq, hinit1, hinit2, ints_low, lits_low, rowsA_low, Int.natCast_zero, Int.pow_zero, Int.ediv_one, Int.sub_zero, -List.reduceReplicate]
      rw [i64_id (by omega)]; simp
    · rintro ⟨j, hj⟩
      by_cases hjl : 0 ≤ (vs.length : Int) - 1 - j
      · have hjl' : j < vs.length := by omega
        have hi : ((vs.length : Int) - 1 - j).toNat = vs.length - 1 - j := by omega
        have hb : vs.length - 1 - j < vs.length := by omega
        have hg : (ints vs).getD (vs.length - 1 - j) .undef = .int .i64 vs[vs.length - 1 - j] := ints_get hb
        have hr := hrange _ (List.getElem_mem hb)
        have hdr : vs.drop (vs.length - (j + 1)) = vs[vs.length - 1 - j] :: vs.drop (vs.length - j) := by
          rw [show vs.length - (j + 1) = vs.length - 1 - j by omega, List.drop_eq_getElem_cons hb, show vs.length - 1 - j + 1 = vs.length - j by omega]
        generalize vs[vs.length - 1 - j] = v at *
        have hq0 : 0 ≤ (n : Int) / w.size ^ j := Int.ediv_nonneg (by omega) (by have := Int.pow_pos (n := w.size) (m := j) (by omega); omega)
        have hrow : (List.replicate (vs.length - j) (0 : Int) ++ digL w.size j n).set (vs.length - 1 - j) (((n : Int) / w.size ^ j) % w.size) = List.replicate (vs.length - (j + 1)) 0 ++ digL w.size (j + 1) n := by
          rw [show vs.length - j = (vs.length - 1 - j) + 1 by omega, List.replicate_succ', List.append_assoc, List.set_append_right _ _ (by simp)]
          rw [List.length_replicate, Nat.sub_self, show vs.length - (j + 1) = vs.length - 1 - j by omega]
          simp [digL]
        have hcell : (ints (List.replicate (vs.length - j) 0 ++ digL w.size j n)).getD (vs.length - 1 - j) .undef = .int .i64 0 := by
          rw [ints_get (by simp [digL_len]; omega), List.getElem_append_left (by simp; omega), List.getElem_replicate]
        have hcell2 : (ints (List.replicate (vs.length - (j + 1)) 0 ++ digL w.size (j + 1) n)).getD (vs.length - 1 - j) .undef = .int .i64 (((n : Int) / w.size ^ j) % w.size) := by
          rw [ints_get (by simp [digL_len]; omega), List.getElem_append_right (by simp; omega)]
          simp only [digL, List.length_replicate, show vs.length - 1 - j - (vs.length - (j + 1)) = 0 by omega, List.getElem_cons_zero]
        have hmod : ((n : Int) / w.size ^ j).tmod w.size = ((n : Int) / w.size ^ j) % w.size := Int.tmod_eq_emod_of_nonneg hq0
        have hdiv : ((n : Int) / w.size ^ j).tdiv w.size = (n : Int) / w.size ^ (j + 1) := by
          rw [Int.tdiv_eq_ediv_of_nonneg hq0, Int.ediv_ediv_of_nonneg (Int.le_of_lt (Int.pow_pos (by omega))), Int.pow_succ]
        have hcell3 : ∃ u, (ints (ofArr (vs.drop (vs.length - j)) (digL w.size j n))).getD v.toNat .undef = .int .i64 u := ⟨_, ints_get (by rw [ofArr_len]; omega)⟩
        obtain ⟨u, hcell3⟩ := hcell3
        have hset : (ofArr (vs.drop (vs.length - j)) (digL w.size j n)).set v.toNat (((n : Int) / w.size ^ j) % w.size) = ofArr (vs.drop (vs.length - (j + 1))) (digL w.size (j + 1) n) := by
          rw [hdr]; rfl
        simp only [go_sem, Nat.reduceAdd, Nat.reduceSub, Nat.reduceMul, Nat.reduceLeDiff, Nat.reduceEqDiff, Nat.reduceBEq, hjl, hi, ints_len, List.length_append, List.length_replicate, digL_len, hcell, ints_set, hmod, hrow]
        (repeat ((with_reducible refine And.intro ?_ ?_); · omega))
        refine EvK.draw [.no, .no, .no, .no, .no, .no, .no, .no, .no, .no, ⟨none, [1], []⟩] 3 3 mixed rfl rfl (by decide) ?_
        simp only [go_sem, Nat.reduceAdd, Nat.reduceSub, Nat.reduceMul, Nat.reduceLeDiff, Nat.reduceEqDiff, Nat.reduceBEq, padS, ints_len, hi, hg, hcell2, List.length_append, List.length_replicate, digL_len, ofArr_len, hcell3, ints_set, hset]
        (repeat ((with_reducible refine And.intro ?_ ?_); · omega))
        refine EvK.go 1000 ?_
        simp only [go_sem, Nat.reduceAdd, Nat.reduceSub, Nat.reduceMul, Nat.reduceLeDiff, Nat.reduceEqDiff, Nat.reduceBEq, hdiv]
        have hq1 : 0 ≤ (n : Int) / w.size ^ (j + 1) := Int.ediv_nonneg (by omega) (by have := Int.pow_pos (n := w.size) (m := j + 1) (by omega); omega)
        have hq2 : (n : Int) / w.size ^ (j + 1) ≤ n := Int.ediv_le_self _ (by omega)
        refine ⟨by omega, ⟨j + 1, by omega⟩, ?_, by simp only; omega⟩
        simp only [go_sem, Nat.reduceAdd, Nat.reduceSub, Nat.reduceMul, Nat.reduceLeDiff, Nat.reduceEqDiff, Nat.reduceBEq, ints_low, lits_low, rowsA_low]
        rw [i64_id (by omega), i64_id (by omega)]
        refine ⟨⟨rfl, ?_⟩, by decide⟩
        rw [show (vs.length : Int) - 1 - j - 1 = vs.length - 1 - ((j + 1 : Nat) : Int) by omega]
      · have hje : j = vs.length := by omega
        subst hje
        have hend1 : ofArr (vs.drop (vs.length - vs.length)) (digL w.size vs.length n) = ofArr vs (digL w.size vs.length n) := by simp
        have hend2 : List.replicate (vs.length - vs.length) (0 : Int) ++ digL w.size vs.length n = digL w.size vs.length n := by simp
        simp only [go_sem, Nat.reduceAdd, Nat.reduceSub, Nat.reduceMul, Nat.reduceLeDiff, Nat.reduceEqDiff, Nat.reduceBEq, hjl]
        refine EvK.go 1000 ?_
        simp only [go_sem, Nat.reduceAdd, Nat.reduceSub, Nat.reduceMul, Nat.reduceLeDiff, Nat.reduceEqDiff, Nat.reduceBEq, hend1, hend2, Nat.le_refl]
        rw [← wo_eq]
        have hrow := digL_range q2 vs.length n
        refine VCall.isoT [1] (Any28_eq w (ofArr vs (digL w.size vs.length n)) (look vs (digL w.size vs.length n)) q2 q3 (fun v => look_range q2 _ _ v hrow) c (by omega) (fun i h => ⟨⟨(hfits i h).1, (hfits i h).2, (hsz i h).1, (hsz i h).2⟩, hok i h⟩) (fun i h => hallV _ (fun v hv => (ofArr_ofL hrange (hrange v hv).1 (hrange v hv).2).symm) i h)) ?_ (by simp [go_sem, wo_low, ints_low, lits_low]) ?_
        · simp only [go_sem, Nat.reduceAdd, Nat.reduceSub, Nat.reduceMul, Nat.reduceLeDiff, Nat.reduceEqDiff, Nat.reduceBEq, among_cons, among_nil, ints_len, ofArr_len]
          rw [List.take_of_length_le (by rw [ints_len, ofArr_len]; omega)]; exact pTL_refl _ _ _
        simp only [flatR, flatA, flatC, if_true]
        refine EvK.go 1000 ?_
        cases e : anyHolds w (look vs (digL w.size vs.length n)) c with
        | false =>
          simp only [go_sem, Nat.reduceAdd, Nat.reduceSub, Nat.reduceMul, Nat.reduceLeDiff, Nat.reduceEqDiff, Nat.reduceBEq]
          refine EvK.go 1000 ?_
          rw [find_step hlt' hpre (by rw [e]; rfl)]
          simp only [go_sem, Nat.reduceAdd, Nat.reduceSub, Nat.reduceMul, Nat.reduceLeDiff, Nat.reduceEqDiff, Nat.reduceBEq, Option.map_some]
          rw [List.take_of_length_le (by rw [ints_len, digL_len]; omega)]
          exact ⟨by rw [ints_len, digL_len]; omega, pTL_refl _ _ _⟩
        | true =>
          simp only [go_sem, Nat.reduceAdd, Nat.reduceSub, Nat.reduceMul, Nat.reduceLeDiff, Nat.reduceEqDiff, Nat.reduceBEq]
          refine ⟨⟨n + 1, hlt', fun m hm => ?_⟩, ?_, by simp only; omega⟩
          · by_cases hmn : m = n
            · subst hmn; rw [e]; rfl
            · exact hpre m (by omega)
          · simp only [go_sem, Nat.reduceAdd, Nat.reduceSub, Nat.reduceMul, Nat.reduceLeDiff, Nat.reduceEqDiff, Nat.reduceBEq, ints_low, lits_low, rowsA_low]
            rw [i64_id (by omega)]; exact ⟨rfl, by decide⟩
end Go.Proofs
