/- Part 45 of my own framework and of the walks of functions: Tl, Lc, Ld, Le, Lf, Ml, Mn, Mo, Na. -/
import Derived.Test.YtngbclnedkmiaaaDoorOwn44
import Derived.Test.YtngbclnedkmiaaaDoorProg
import Derived.KernelRfl
set_option linter.unusedVariables false
set_option linter.unusedSectionVars false
set_option linter.unusedSimpArgs false

namespace Go.Proofs
open Go Go.Abs
theorem mixed : Tryd.prog.follows .mixedOrders = true := by kernel_rfl
@[go_sem] theorem lay1 : layOf Tryd.prog 1 = some ⟨1, false, 8, [.nilfn], .func⟩ := by kernel_rfl
@[go_sem] theorem ty1 : tyA Tryd.prog 1 = some ⟨⟨1, false, 8, [.nilfn], .func⟩, [], none, none⟩ := by kernel_rfl
@[go_sem] theorem lay2 : layOf Tryd.prog 2 = some ⟨1, false, 8, [.int .i64 0], (.int .i64)⟩ := by kernel_rfl
@[go_sem] theorem ty2 : tyA Tryd.prog 2 = some ⟨⟨1, false, 8, [.int .i64 0], (.int .i64)⟩, [], none, none⟩ := by kernel_rfl
@[go_sem] theorem lay3 : layOf Tryd.prog 3 = some ⟨1, false, 8, [.int .i64 0], (.int .i64)⟩ := by kernel_rfl
@[go_sem] theorem ty3 : tyA Tryd.prog 3 = some ⟨⟨1, false, 8, [.int .i64 0], (.int .i64)⟩, [], none, none⟩ := by kernel_rfl
@[go_sem] theorem lay4 : layOf Tryd.prog 4 = some ⟨1, false, 1, [.bool false], .bool⟩ := by kernel_rfl
@[go_sem] theorem ty4 : tyA Tryd.prog 4 = some ⟨⟨1, false, 1, [.bool false], .bool⟩, [], none, none⟩ := by kernel_rfl
@[go_sem] theorem lay5 : layOf Tryd.prog 5 = some ⟨1, false, 1, [.int .u8 0], (.int .u8)⟩ := by kernel_rfl
@[go_sem] theorem ty5 : tyA Tryd.prog 5 = some ⟨⟨1, false, 1, [.int .u8 0], (.int .u8)⟩, [], none, none⟩ := by kernel_rfl
@[go_sem] theorem lay6 : layOf Tryd.prog 6 = some ⟨1, false, 1, [.int .u8 0], (.int .u8)⟩ := by kernel_rfl
@[go_sem] theorem ty6 : tyA Tryd.prog 6 = some ⟨⟨1, false, 1, [.int .u8 0], (.int .u8)⟩, [], none, none⟩ := by kernel_rfl
@[go_sem] theorem lay7 : layOf Tryd.prog 7 = some ⟨4, true, 24, [.int .i64 0, .int .i64 0, .bool false, .int .u8 0], .struct⟩ := by kernel_rfl
@[go_sem] theorem ty7 : tyA Tryd.prog 7 = some ⟨⟨4, true, 24, [.int .i64 0, .int .i64 0, .bool false, .int .u8 0], .struct⟩, [(0, some ⟨1, false, 8, [.int .i64 0], (.int .i64)⟩), (1, some ⟨1, false, 8, [.int .i64 0], (.int .i64)⟩), (2, some ⟨1, false, 1, [.bool false], .bool⟩), (3, some ⟨1, false, 1, [.int .u8 0], (.int .u8)⟩)], none, none⟩ := by kernel_rfl
@[go_sem] theorem eqt7 : eqTy Tryd.prog 7 [(.int .i64), (.int .i64), .bool, (.int .u8)] = true := by kernel_rfl
@[go_sem] theorem lay8 : layOf Tryd.prog 8 = some ⟨4, true, 24, [.int .i64 0, .int .i64 0, .bool false, .int .u8 0], .struct⟩ := by kernel_rfl
@[go_sem] theorem ty8 : tyA Tryd.prog 8 = some ⟨⟨4, true, 24, [.int .i64 0, .int .i64 0, .bool false, .int .u8 0], .struct⟩, [(0, some ⟨1, false, 8, [.int .i64 0], (.int .i64)⟩), (1, some ⟨1, false, 8, [.int .i64 0], (.int .i64)⟩), (2, some ⟨1, false, 1, [.bool false], .bool⟩), (3, some ⟨1, false, 1, [.int .u8 0], (.int .u8)⟩)], none, none⟩ := by kernel_rfl
@[go_sem] theorem eqt8 : eqTy Tryd.prog 8 [(.int .i64), (.int .i64), .bool, (.int .u8)] = true := by kernel_rfl
@[go_sem] theorem lay9 : layOf Tryd.prog 9 = some ⟨1, false, 16, [.str ⟨#[]⟩], .str⟩ := by kernel_rfl
@[go_sem] theorem ty9 : tyA Tryd.prog 9 = some ⟨⟨1, false, 16, [.str ⟨#[]⟩], .str⟩, [], none, none⟩ := by kernel_rfl
@[go_sem] theorem lay10 : layOf Tryd.prog 10 = some ⟨1, false, 16, [.str ⟨#[]⟩], .str⟩ := by kernel_rfl
@[go_sem] theorem ty10 : tyA Tryd.prog 10 = some ⟨⟨1, false, 16, [.str ⟨#[]⟩], .str⟩, [], none, none⟩ := by kernel_rfl
@[go_sem] theorem lay11 : layOf Tryd.prog 11 = some ⟨1, false, 16, [.str ⟨#[]⟩], .str⟩ := by kernel_rfl
@[go_sem] theorem ty11 : tyA Tryd.prog 11 = some ⟨⟨1, false, 16, [.str ⟨#[]⟩], .str⟩, [], none, none⟩ := by kernel_rfl
@[go_sem] theorem lay12 : layOf Tryd.prog 12 = some ⟨1, false, 8, [.int .u64 0], (.int .u64)⟩ := by kernel_rfl
@[go_sem] theorem ty12 : tyA Tryd.prog 12 = some ⟨⟨1, false, 8, [.int .u64 0], (.int .u64)⟩, [], none, none⟩ := by kernel_rfl
@[go_sem] theorem lay13 : layOf Tryd.prog 13 = some ⟨2, true, 24, [.str ⟨#[]⟩, .int .u64 0], .struct⟩ := by kernel_rfl
@[go_sem] theorem ty13 : tyA Tryd.prog 13 = some ⟨⟨2, true, 24, [.str ⟨#[]⟩, .int .u64 0], .struct⟩, [(0, some ⟨1, false, 16, [.str ⟨#[]⟩], .str⟩), (1, some ⟨1, false, 8, [.int .u64 0], (.int .u64)⟩)], none, none⟩ := by kernel_rfl
@[go_sem] theorem lay14 : layOf Tryd.prog 14 = some ⟨2, true, 24, [.str ⟨#[]⟩, .int .u64 0], .struct⟩ := by kernel_rfl
@[go_sem] theorem ty14 : tyA Tryd.prog 14 = some ⟨⟨2, true, 24, [.str ⟨#[]⟩, .int .u64 0], .struct⟩, [(0, some ⟨1, false, 16, [.str ⟨#[]⟩], .str⟩), (1, some ⟨1, false, 8, [.int .u64 0], (.int .u64)⟩)], none, none⟩ := by kernel_rfl
@[go_sem] theorem lay15 : layOf Tryd.prog 15 = some ⟨1, false, 8, [.nilptr], .ptr⟩ := by kernel_rfl
@[go_sem] theorem ty15 : tyA Tryd.prog 15 = some ⟨⟨1, false, 8, [.nilptr], .ptr⟩, [], none, none⟩ := by kernel_rfl
@[go_sem] theorem lay16 : layOf Tryd.prog 16 = some ⟨1, false, 8, [.nilptr], .ptr⟩ := by kernel_rfl
@[go_sem] theorem ty16 : tyA Tryd.prog 16 = some ⟨⟨1, false, 8, [.nilptr], .ptr⟩, [], none, none⟩ := by kernel_rfl
@[go_sem] theorem lay17 : layOf Tryd.prog 17 = some ⟨1, false, 8, [.nilptr], .ptr⟩ := by kernel_rfl
@[go_sem] theorem ty17 : tyA Tryd.prog 17 = some ⟨⟨1, false, 8, [.nilptr], .ptr⟩, [], none, none⟩ := by kernel_rfl
@[go_sem] theorem lay18 : layOf Tryd.prog 18 = some ⟨1, true, 8, [.nilptr], .struct⟩ := by kernel_rfl
@[go_sem] theorem ty18 : tyA Tryd.prog 18 = some ⟨⟨1, true, 8, [.nilptr], .struct⟩, [(0, some ⟨1, false, 8, [.nilptr], .ptr⟩)], none, none⟩ := by kernel_rfl
@[go_sem] theorem lay19 : layOf Tryd.prog 19 = some ⟨1, true, 8, [.nilptr], .struct⟩ := by kernel_rfl
@[go_sem] theorem ty19 : tyA Tryd.prog 19 = some ⟨⟨1, true, 8, [.nilptr], .struct⟩, [(0, some ⟨1, false, 8, [.nilptr], .ptr⟩)], none, none⟩ := by kernel_rfl
@[go_sem] theorem lay20 : layOf Tryd.prog 20 = some ⟨1, false, 16, [.nilif], .iface⟩ := by kernel_rfl
@[go_sem] theorem ty20 : tyA Tryd.prog 20 = some ⟨⟨1, false, 16, [.nilif], .iface⟩, [], none, none⟩ := by kernel_rfl
@[go_sem] theorem lay21 : layOf Tryd.prog 21 = some ⟨1, false, 4, [.int .i32 0], (.int .i32)⟩ := by kernel_rfl
@[go_sem] theorem ty21 : tyA Tryd.prog 21 = some ⟨⟨1, false, 4, [.int .i32 0], (.int .i32)⟩, [], none, none⟩ := by kernel_rfl
@[go_sem] theorem lay22 : layOf Tryd.prog 22 = some ⟨1, false, 24, [.nils], .slice⟩ := by kernel_rfl
@[go_sem] theorem ty22 : tyA Tryd.prog 22 = some ⟨⟨1, false, 24, [.nils], .slice⟩, [], some ⟨3, true, 48, [.bool false, .str ⟨#[]⟩, .nils], .struct⟩, none⟩ := by kernel_rfl
@[go_sem] theorem lay23 : layOf Tryd.prog 23 = some ⟨3, true, 48, [.bool false, .str ⟨#[]⟩, .nils], .struct⟩ := by kernel_rfl
@[go_sem] theorem ty23 : tyA Tryd.prog 23 = some ⟨⟨3, true, 48, [.bool false, .str ⟨#[]⟩, .nils], .struct⟩, [(0, some ⟨1, false, 1, [.bool false], .bool⟩), (1, some ⟨1, false, 16, [.str ⟨#[]⟩], .str⟩), (2, some ⟨1, false, 24, [.nils], .slice⟩)], none, none⟩ := by kernel_rfl
@[go_sem] theorem lay24 : layOf Tryd.prog 24 = some ⟨3, true, 48, [.bool false, .str ⟨#[]⟩, .nils], .struct⟩ := by kernel_rfl
@[go_sem] theorem ty24 : tyA Tryd.prog 24 = some ⟨⟨3, true, 48, [.bool false, .str ⟨#[]⟩, .nils], .struct⟩, [(0, some ⟨1, false, 1, [.bool false], .bool⟩), (1, some ⟨1, false, 16, [.str ⟨#[]⟩], .str⟩), (2, some ⟨1, false, 24, [.nils], .slice⟩)], none, none⟩ := by kernel_rfl
@[go_sem] theorem lay25 : layOf Tryd.prog 25 = some ⟨1, false, 24, [.nils], .slice⟩ := by kernel_rfl
@[go_sem] theorem ty25 : tyA Tryd.prog 25 = some ⟨⟨1, false, 24, [.nils], .slice⟩, [], some ⟨1, false, 16, [.str ⟨#[]⟩], .str⟩, none⟩ := by kernel_rfl
@[go_sem] theorem lay26 : layOf Tryd.prog 26 = some ⟨1, false, 24, [.nils], .slice⟩ := by kernel_rfl
@[go_sem] theorem ty26 : tyA Tryd.prog 26 = some ⟨⟨1, false, 24, [.nils], .slice⟩, [], some ⟨9, true, 152, [.int .i64 0, .bool false, .str ⟨#[]⟩, .nils, .bool false, .str ⟨#[]⟩, .nils, .nils, .nils], .struct⟩, none⟩ := by kernel_rfl
@[go_sem] theorem lay27 : layOf Tryd.prog 27 = some ⟨9, true, 152, [.int .i64 0, .bool false, .str ⟨#[]⟩, .nils, .bool false, .str ⟨#[]⟩, .nils, .nils, .nils], .struct⟩ := by kernel_rfl
@[go_sem] theorem ty27 : tyA Tryd.prog 27 = some ⟨⟨9, true, 152, [.int .i64 0, .bool false, .str ⟨#[]⟩, .nils, .bool false, .str ⟨#[]⟩, .nils, .nils, .nils], .struct⟩, [(0, some ⟨1, false, 8, [.int .i64 0], (.int .i64)⟩), (1, some ⟨3, true, 48, [.bool false, .str ⟨#[]⟩, .nils], .struct⟩), (4, some ⟨3, true, 48, [.bool false, .str ⟨#[]⟩, .nils], .struct⟩), (7, some ⟨1, false, 24, [.nils], .slice⟩), (8, some ⟨1, false, 24, [.nils], .slice⟩)], none, none⟩ := by kernel_rfl
@[go_sem] theorem lay28 : layOf Tryd.prog 28 = some ⟨9, true, 152, [.int .i64 0, .bool false, .str ⟨#[]⟩, .nils, .bool false, .str ⟨#[]⟩, .nils, .nils, .nils], .struct⟩ := by kernel_rfl
@[go_sem] theorem ty28 : tyA Tryd.prog 28 = some ⟨⟨9, true, 152, [.int .i64 0, .bool false, .str ⟨#[]⟩, .nils, .bool false, .str ⟨#[]⟩, .nils, .nils, .nils], .struct⟩, [(0, some ⟨1, false, 8, [.int .i64 0], (.int .i64)⟩), (1, some ⟨3, true, 48, [.bool false, .str ⟨#[]⟩, .nils], .struct⟩), (4, some ⟨3, true, 48, [.bool false, .str ⟨#[]⟩, .nils], .struct⟩), (7, some ⟨1, false, 24, [.nils], .slice⟩), (8, some ⟨1, false, 24, [.nils], .slice⟩)], none, none⟩ := by kernel_rfl
@[go_sem] theorem lay29 : layOf Tryd.prog 29 = some ⟨1, false, 8, [.int .i64 0], (.int .i64)⟩ := by kernel_rfl
@[go_sem] theorem ty29 : tyA Tryd.prog 29 = some ⟨⟨1, false, 8, [.int .i64 0], (.int .i64)⟩, [], none, none⟩ := by kernel_rfl
@[go_sem] theorem lay31 : layOf Tryd.prog 31 = some ⟨1, false, 8, [.nilfn], .func⟩ := by kernel_rfl
@[go_sem] theorem ty31 : tyA Tryd.prog 31 = some ⟨⟨1, false, 8, [.nilfn], .func⟩, [], none, none⟩ := by kernel_rfl
@[go_sem] theorem lay32 : layOf Tryd.prog 32 = some ⟨1, false, 8, [.nilfn], .func⟩ := by kernel_rfl
@[go_sem] theorem ty32 : tyA Tryd.prog 32 = some ⟨⟨1, false, 8, [.nilfn], .func⟩, [], none, none⟩ := by kernel_rfl
@[go_sem] theorem lay33 : layOf Tryd.prog 33 = some ⟨1, false, 8, [.nilfn], .func⟩ := by kernel_rfl
@[go_sem] theorem ty33 : tyA Tryd.prog 33 = some ⟨⟨1, false, 8, [.nilfn], .func⟩, [], none, none⟩ := by kernel_rfl
@[go_sem] theorem lay34 : layOf Tryd.prog 34 = some ⟨1, false, 8, [.nilfn], .func⟩ := by kernel_rfl
@[go_sem] theorem ty34 : tyA Tryd.prog 34 = some ⟨⟨1, false, 8, [.nilfn], .func⟩, [], none, none⟩ := by kernel_rfl
@[go_sem] theorem lay35 : layOf Tryd.prog 35 = some ⟨1, false, 24, [.nils], .slice⟩ := by kernel_rfl
@[go_sem] theorem ty35 : tyA Tryd.prog 35 = some ⟨⟨1, false, 24, [.nils], .slice⟩, [], some ⟨12, true, 192, [.str ⟨#[]⟩, .str ⟨#[]⟩, .bool false, .int .i64 0, .bool false, .str ⟨#[]⟩, .nils, .bool false, .str ⟨#[]⟩, .nils, .nils, .nils], .struct⟩, none⟩ := by kernel_rfl
@[go_sem] theorem lay37 : layOf Tryd.prog 37 = some ⟨1, false, 8, [.nilfn], .func⟩ := by kernel_rfl
@[go_sem] theorem ty37 : tyA Tryd.prog 37 = some ⟨⟨1, false, 8, [.nilfn], .func⟩, [], none, none⟩ := by kernel_rfl
@[go_sem] theorem lay38 : layOf Tryd.prog 38 = some ⟨12, true, 192, [.str ⟨#[]⟩, .str ⟨#[]⟩, .bool false, .int .i64 0, .bool false, .str ⟨#[]⟩, .nils, .bool false, .str ⟨#[]⟩, .nils, .nils, .nils], .struct⟩ := by kernel_rfl
@[go_sem] theorem ty38 : tyA Tryd.prog 38 = some ⟨⟨12, true, 192, [.str ⟨#[]⟩, .str ⟨#[]⟩, .bool false, .int .i64 0, .bool false, .str ⟨#[]⟩, .nils, .bool false, .str ⟨#[]⟩, .nils, .nils, .nils], .struct⟩, [(0, some ⟨1, false, 16, [.str ⟨#[]⟩], .str⟩), (1, some ⟨1, false, 16, [.str ⟨#[]⟩], .str⟩), (2, some ⟨1, false, 1, [.bool false], .bool⟩), (3, some ⟨9, true, 152, [.int .i64 0, .bool false, .str ⟨#[]⟩, .nils, .bool false, .str ⟨#[]⟩, .nils, .nils, .nils], .struct⟩)], none, none⟩ := by kernel_rfl
@[go_sem] theorem lay39 : layOf Tryd.prog 39 = some ⟨12, true, 192, [.str ⟨#[]⟩, .str ⟨#[]⟩, .bool false, .int .i64 0, .bool false, .str ⟨#[]⟩, .nils, .bool false, .str ⟨#[]⟩, .nils, .nils, .nils], .struct⟩ := by kernel_rfl
@[go_sem] theorem ty39 : tyA Tryd.prog 39 = some ⟨⟨12, true, 192, [.str ⟨#[]⟩, .str ⟨#[]⟩, .bool false, .int .i64 0, .bool false, .str ⟨#[]⟩, .nils, .bool false, .str ⟨#[]⟩, .nils, .nils, .nils], .struct⟩, [(0, some ⟨1, false, 16, [.str ⟨#[]⟩], .str⟩), (1, some ⟨1, false, 16, [.str ⟨#[]⟩], .str⟩), (2, some ⟨1, false, 1, [.bool false], .bool⟩), (3, some ⟨9, true, 152, [.int .i64 0, .bool false, .str ⟨#[]⟩, .nils, .bool false, .str ⟨#[]⟩, .nils, .nils, .nils], .struct⟩)], none, none⟩ := by kernel_rfl
@[go_sem] theorem lay40 : layOf Tryd.prog 40 = some ⟨1, false, 8, [.nilfn], .func⟩ := by kernel_rfl
@[go_sem] theorem ty40 : tyA Tryd.prog 40 = some ⟨⟨1, false, 8, [.nilfn], .func⟩, [], none, none⟩ := by kernel_rfl
@[go_sem] theorem lay41 : layOf Tryd.prog 41 = some ⟨1, false, 8, [.nilfn], .func⟩ := by kernel_rfl
@[go_sem] theorem ty41 : tyA Tryd.prog 41 = some ⟨⟨1, false, 8, [.nilfn], .func⟩, [], none, none⟩ := by kernel_rfl
@[go_sem] theorem lay42 : layOf Tryd.prog 42 = some ⟨1, false, 8, [.nilfn], .func⟩ := by kernel_rfl
@[go_sem] theorem ty42 : tyA Tryd.prog 42 = some ⟨⟨1, false, 8, [.nilfn], .func⟩, [], none, none⟩ := by kernel_rfl
@[go_sem] theorem lay43 : layOf Tryd.prog 43 = some ⟨1, false, 24, [.nils], .slice⟩ := by kernel_rfl
@[go_sem] theorem ty43 : tyA Tryd.prog 43 = some ⟨⟨1, false, 24, [.nils], .slice⟩, [], some ⟨1, false, 8, [.int .i64 0], (.int .i64)⟩, none⟩ := by kernel_rfl
@[go_sem] theorem lay44 : layOf Tryd.prog 44 = some ⟨1, false, 24, [.nils], .slice⟩ := by kernel_rfl
@[go_sem] theorem ty44 : tyA Tryd.prog 44 = some ⟨⟨1, false, 24, [.nils], .slice⟩, [], some ⟨3, true, 32, [.int .i64 0, .int .i64 0, .str ⟨#[]⟩], .struct⟩, none⟩ := by kernel_rfl
@[go_sem] theorem lay46 : layOf Tryd.prog 46 = some ⟨1, false, 8, [.nilfn], .func⟩ := by kernel_rfl
@[go_sem] theorem ty46 : tyA Tryd.prog 46 = some ⟨⟨1, false, 8, [.nilfn], .func⟩, [], none, none⟩ := by kernel_rfl
@[go_sem] theorem lay47 : layOf Tryd.prog 47 = some ⟨1, false, 8, [.nilptr], .ptr⟩ := by kernel_rfl
@[go_sem] theorem ty47 : tyA Tryd.prog 47 = some ⟨⟨1, false, 8, [.nilptr], .ptr⟩, [], none, none⟩ := by kernel_rfl
@[go_sem] theorem lay48 : layOf Tryd.prog 48 = some ⟨3, true, 40, [.nils, .int .i64 0, .int .i64 0], .struct⟩ := by kernel_rfl
@[go_sem] theorem ty48 : tyA Tryd.prog 48 = some ⟨⟨3, true, 40, [.nils, .int .i64 0, .int .i64 0], .struct⟩, [(0, some ⟨1, false, 24, [.nils], .slice⟩), (1, some ⟨1, false, 8, [.int .i64 0], (.int .i64)⟩), (2, some ⟨1, false, 8, [.int .i64 0], (.int .i64)⟩)], none, none⟩ := by kernel_rfl
@[go_sem] theorem lay49 : layOf Tryd.prog 49 = some ⟨3, true, 40, [.nils, .int .i64 0, .int .i64 0], .struct⟩ := by kernel_rfl
@[go_sem] theorem ty49 : tyA Tryd.prog 49 = some ⟨⟨3, true, 40, [.nils, .int .i64 0, .int .i64 0], .struct⟩, [(0, some ⟨1, false, 24, [.nils], .slice⟩), (1, some ⟨1, false, 8, [.int .i64 0], (.int .i64)⟩), (2, some ⟨1, false, 8, [.int .i64 0], (.int .i64)⟩)], none, none⟩ := by kernel_rfl
@[go_sem] theorem lay50 : layOf Tryd.prog 50 = some ⟨2, true, 16, [.int .i64 0, .int .i64 0], .struct⟩ := by kernel_rfl
@[go_sem] theorem ty50 : tyA Tryd.prog 50 = some ⟨⟨2, true, 16, [.int .i64 0, .int .i64 0], .struct⟩, [(0, some ⟨1, false, 8, [.int .i64 0], (.int .i64)⟩), (1, some ⟨1, false, 8, [.int .i64 0], (.int .i64)⟩)], none, none⟩ := by kernel_rfl
@[go_sem] theorem eqt50 : eqTy Tryd.prog 50 [(.int .i64), (.int .i64)] = true := by kernel_rfl
@[go_sem] theorem lay51 : layOf Tryd.prog 51 = some ⟨2, true, 16, [.int .i64 0, .int .i64 0], .struct⟩ := by kernel_rfl
@[go_sem] theorem ty51 : tyA Tryd.prog 51 = some ⟨⟨2, true, 16, [.int .i64 0, .int .i64 0], .struct⟩, [(0, some ⟨1, false, 8, [.int .i64 0], (.int .i64)⟩), (1, some ⟨1, false, 8, [.int .i64 0], (.int .i64)⟩)], none, none⟩ := by kernel_rfl
@[go_sem] theorem eqt51 : eqTy Tryd.prog 51 [(.int .i64), (.int .i64)] = true := by kernel_rfl
@[go_sem] theorem lay52 : layOf Tryd.prog 52 = some ⟨1, false, 8, [.nilfn], .func⟩ := by kernel_rfl
@[go_sem] theorem ty52 : tyA Tryd.prog 52 = some ⟨⟨1, false, 8, [.nilfn], .func⟩, [], none, none⟩ := by kernel_rfl
@[go_sem] theorem lay53 : layOf Tryd.prog 53 = some ⟨1, false, 8, [.nilfn], .func⟩ := by kernel_rfl
@[go_sem] theorem ty53 : tyA Tryd.prog 53 = some ⟨⟨1, false, 8, [.nilfn], .func⟩, [], none, none⟩ := by kernel_rfl
@[go_sem] theorem lay54 : layOf Tryd.prog 54 = some ⟨1, false, 8, [.nilfn], .func⟩ := by kernel_rfl
@[go_sem] theorem ty54 : tyA Tryd.prog 54 = some ⟨⟨1, false, 8, [.nilfn], .func⟩, [], none, none⟩ := by kernel_rfl
@[go_sem] theorem lay55 : layOf Tryd.prog 55 = some ⟨1, false, 8, [.nilfn], .func⟩ := by kernel_rfl
@[go_sem] theorem ty55 : tyA Tryd.prog 55 = some ⟨⟨1, false, 8, [.nilfn], .func⟩, [], none, none⟩ := by kernel_rfl
@[go_sem] theorem lay56 : layOf Tryd.prog 56 = some ⟨1, false, 8, [.nilfn], .func⟩ := by kernel_rfl
@[go_sem] theorem ty56 : tyA Tryd.prog 56 = some ⟨⟨1, false, 8, [.nilfn], .func⟩, [], none, none⟩ := by kernel_rfl
@[go_sem] theorem lay57 : layOf Tryd.prog 57 = some ⟨1, false, 8, [.nilfn], .func⟩ := by kernel_rfl
@[go_sem] theorem ty57 : tyA Tryd.prog 57 = some ⟨⟨1, false, 8, [.nilfn], .func⟩, [], none, none⟩ := by kernel_rfl
@[go_sem] theorem lay58 : layOf Tryd.prog 58 = some ⟨1, false, 8, [.nilfn], .func⟩ := by kernel_rfl
@[go_sem] theorem ty58 : tyA Tryd.prog 58 = some ⟨⟨1, false, 8, [.nilfn], .func⟩, [], none, none⟩ := by kernel_rfl
@[go_sem] theorem lay59 : layOf Tryd.prog 59 = some ⟨1, false, 8, [.nilfn], .func⟩ := by kernel_rfl
@[go_sem] theorem ty59 : tyA Tryd.prog 59 = some ⟨⟨1, false, 8, [.nilfn], .func⟩, [], none, none⟩ := by kernel_rfl
@[go_sem] theorem lay60 : layOf Tryd.prog 60 = some ⟨1, false, 8, [.nilfn], .func⟩ := by kernel_rfl
@[go_sem] theorem ty60 : tyA Tryd.prog 60 = some ⟨⟨1, false, 8, [.nilfn], .func⟩, [], none, none⟩ := by kernel_rfl
@[go_sem] theorem lay61 : layOf Tryd.prog 61 = some ⟨3, true, 32, [.int .i64 0, .int .i64 0, .str ⟨#[]⟩], .struct⟩ := by kernel_rfl
@[go_sem] theorem ty61 : tyA Tryd.prog 61 = some ⟨⟨3, true, 32, [.int .i64 0, .int .i64 0, .str ⟨#[]⟩], .struct⟩, [(0, some ⟨1, false, 8, [.int .i64 0], (.int .i64)⟩), (1, some ⟨1, false, 8, [.int .i64 0], (.int .i64)⟩), (2, some ⟨1, false, 16, [.str ⟨#[]⟩], .str⟩)], none, none⟩ := by kernel_rfl
@[go_sem] theorem eqt61 : eqTy Tryd.prog 61 [(.int .i64), (.int .i64), .str] = true := by kernel_rfl
@[go_sem] theorem lay62 : layOf Tryd.prog 62 = some ⟨3, true, 32, [.int .i64 0, .int .i64 0, .str ⟨#[]⟩], .struct⟩ := by kernel_rfl
@[go_sem] theorem ty62 : tyA Tryd.prog 62 = some ⟨⟨3, true, 32, [.int .i64 0, .int .i64 0, .str ⟨#[]⟩], .struct⟩, [(0, some ⟨1, false, 8, [.int .i64 0], (.int .i64)⟩), (1, some ⟨1, false, 8, [.int .i64 0], (.int .i64)⟩), (2, some ⟨1, false, 16, [.str ⟨#[]⟩], .str⟩)], none, none⟩ := by kernel_rfl
@[go_sem] theorem eqt62 : eqTy Tryd.prog 62 [(.int .i64), (.int .i64), .str] = true := by kernel_rfl
@[go_sem] theorem lay64 : layOf Tryd.prog 64 = some ⟨1, false, 8, [.nilfn], .func⟩ := by kernel_rfl
@[go_sem] theorem ty64 : tyA Tryd.prog 64 = some ⟨⟨1, false, 8, [.nilfn], .func⟩, [], none, none⟩ := by kernel_rfl
@[go_sem] theorem lay66 : layOf Tryd.prog 66 = some ⟨1, false, 8, [.nilfn], .func⟩ := by kernel_rfl
@[go_sem] theorem ty66 : tyA Tryd.prog 66 = some ⟨⟨1, false, 8, [.nilfn], .func⟩, [], none, none⟩ := by kernel_rfl
@[go_sem] theorem lay67 : layOf Tryd.prog 67 = some ⟨1, false, 8, [.nilfn], .func⟩ := by kernel_rfl
@[go_sem] theorem ty67 : tyA Tryd.prog 67 = some ⟨⟨1, false, 8, [.nilfn], .func⟩, [], none, none⟩ := by kernel_rfl
@[go_sem] theorem lay68 : layOf Tryd.prog 68 = some ⟨1, false, 8, [.nilfn], .func⟩ := by kernel_rfl
@[go_sem] theorem ty68 : tyA Tryd.prog 68 = some ⟨⟨1, false, 8, [.nilfn], .func⟩, [], none, none⟩ := by kernel_rfl
@[go_sem] theorem lay69 : layOf Tryd.prog 69 = some ⟨1, false, 8, [.nilfn], .func⟩ := by kernel_rfl
@[go_sem] theorem ty69 : tyA Tryd.prog 69 = some ⟨⟨1, false, 8, [.nilfn], .func⟩, [], none, none⟩ := by kernel_rfl
@[go_sem] theorem lay70 : layOf Tryd.prog 70 = some ⟨1, false, 8, [.nilfn], .func⟩ := by kernel_rfl
@[go_sem] theorem ty70 : tyA Tryd.prog 70 = some ⟨⟨1, false, 8, [.nilfn], .func⟩, [], none, none⟩ := by kernel_rfl
@[go_sem] theorem lay71 : layOf Tryd.prog 71 = some ⟨1, false, 8, [.nilfn], .func⟩ := by kernel_rfl
@[go_sem] theorem ty71 : tyA Tryd.prog 71 = some ⟨⟨1, false, 8, [.nilfn], .func⟩, [], none, none⟩ := by kernel_rfl
@[go_sem] theorem lay72 : layOf Tryd.prog 72 = some ⟨1, false, 8, [.nilfn], .func⟩ := by kernel_rfl
@[go_sem] theorem ty72 : tyA Tryd.prog 72 = some ⟨⟨1, false, 8, [.nilfn], .func⟩, [], none, none⟩ := by kernel_rfl
@[go_sem] theorem lay73 : layOf Tryd.prog 73 = some ⟨1, false, 8, [.nilfn], .func⟩ := by kernel_rfl
@[go_sem] theorem ty73 : tyA Tryd.prog 73 = some ⟨⟨1, false, 8, [.nilfn], .func⟩, [], none, none⟩ := by kernel_rfl
@[go_sem] theorem lay75 : layOf Tryd.prog 75 = some ⟨1, false, 8, [.nilfn], .func⟩ := by kernel_rfl
@[go_sem] theorem ty75 : tyA Tryd.prog 75 = some ⟨⟨1, false, 8, [.nilfn], .func⟩, [], none, none⟩ := by kernel_rfl
@[go_sem] theorem lay76 : layOf Tryd.prog 76 = some ⟨18, true, 288, [.str ⟨#[]⟩, .str ⟨#[]⟩, .str ⟨#[]⟩, .str ⟨#[]⟩, .str ⟨#[]⟩, .str ⟨#[]⟩, .str ⟨#[]⟩, .str ⟨#[]⟩, .str ⟨#[]⟩, .str ⟨#[]⟩, .str ⟨#[]⟩, .str ⟨#[]⟩, .str ⟨#[]⟩, .str ⟨#[]⟩, .str ⟨#[]⟩, .str ⟨#[]⟩, .str ⟨#[]⟩, .str ⟨#[]⟩], (.array 18)⟩ := by kernel_rfl
@[go_sem] theorem ty76 : tyA Tryd.prog 76 = some ⟨⟨18, true, 288, [.str ⟨#[]⟩, .str ⟨#[]⟩, .str ⟨#[]⟩, .str ⟨#[]⟩, .str ⟨#[]⟩, .str ⟨#[]⟩, .str ⟨#[]⟩, .str ⟨#[]⟩, .str ⟨#[]⟩, .str ⟨#[]⟩, .str ⟨#[]⟩, .str ⟨#[]⟩, .str ⟨#[]⟩, .str ⟨#[]⟩, .str ⟨#[]⟩, .str ⟨#[]⟩, .str ⟨#[]⟩, .str ⟨#[]⟩], (.array 18)⟩, [], some ⟨1, false, 16, [.str ⟨#[]⟩], .str⟩, none⟩ := by kernel_rfl
@[go_sem] theorem lay77 : layOf Tryd.prog 77 = some ⟨1, false, 8, [.nilfn], .func⟩ := by kernel_rfl
@[go_sem] theorem ty77 : tyA Tryd.prog 77 = some ⟨⟨1, false, 8, [.nilfn], .func⟩, [], none, none⟩ := by kernel_rfl
@[go_sem] theorem lay78 : layOf Tryd.prog 78 = some ⟨1, false, 8, [.nilfn], .func⟩ := by kernel_rfl
@[go_sem] theorem ty78 : tyA Tryd.prog 78 = some ⟨⟨1, false, 8, [.nilfn], .func⟩, [], none, none⟩ := by kernel_rfl
@[go_sem] theorem lay79 : layOf Tryd.prog 79 = some ⟨1, false, 8, [.nilfn], .func⟩ := by kernel_rfl
@[go_sem] theorem ty79 : tyA Tryd.prog 79 = some ⟨⟨1, false, 8, [.nilfn], .func⟩, [], none, none⟩ := by kernel_rfl
@[go_sem] theorem lay80 : layOf Tryd.prog 80 = some ⟨1, false, 8, [.nilmap], .map⟩ := by kernel_rfl
@[go_sem] theorem ty80 : tyA Tryd.prog 80 = some ⟨⟨1, false, 8, [.nilmap], .map⟩, [], some ⟨1, false, 8, [.nilfn], .func⟩, some ⟨1, false, 16, [.str ⟨#[]⟩], .str⟩⟩ := by kernel_rfl
@[go_sem] theorem lay81 : layOf Tryd.prog 81 = some ⟨1, false, 8, [.nilfn], .func⟩ := by kernel_rfl
@[go_sem] theorem ty81 : tyA Tryd.prog 81 = some ⟨⟨1, false, 8, [.nilfn], .func⟩, [], none, none⟩ := by kernel_rfl
@[go_sem] theorem lay82 : layOf Tryd.prog 82 = some ⟨1, false, 8, [.nilfn], .func⟩ := by kernel_rfl
@[go_sem] theorem ty82 : tyA Tryd.prog 82 = some ⟨⟨1, false, 8, [.nilfn], .func⟩, [], none, none⟩ := by kernel_rfl
@[go_sem] theorem lay83 : layOf Tryd.prog 83 = some ⟨1, false, 8, [.nilfn], .func⟩ := by kernel_rfl
@[go_sem] theorem ty83 : tyA Tryd.prog 83 = some ⟨⟨1, false, 8, [.nilfn], .func⟩, [], none, none⟩ := by kernel_rfl
@[go_sem] theorem lay85 : layOf Tryd.prog 85 = some ⟨1, false, 8, [.nilfn], .func⟩ := by kernel_rfl
@[go_sem] theorem ty85 : tyA Tryd.prog 85 = some ⟨⟨1, false, 8, [.nilfn], .func⟩, [], none, none⟩ := by kernel_rfl
@[go_sem] theorem lay87 : layOf Tryd.prog 87 = some ⟨1, false, 8, [.nilfn], .func⟩ := by kernel_rfl
@[go_sem] theorem ty87 : tyA Tryd.prog 87 = some ⟨⟨1, false, 8, [.nilfn], .func⟩, [], none, none⟩ := by kernel_rfl
@[go_sem] theorem lay88 : layOf Tryd.prog 88 = some ⟨1, false, 8, [.nilfn], .func⟩ := by kernel_rfl
@[go_sem] theorem ty88 : tyA Tryd.prog 88 = some ⟨⟨1, false, 8, [.nilfn], .func⟩, [], none, none⟩ := by kernel_rfl
@[go_sem] theorem lay89 : layOf Tryd.prog 89 = some ⟨1, false, 8, [.nilfn], .func⟩ := by kernel_rfl
@[go_sem] theorem ty89 : tyA Tryd.prog 89 = some ⟨⟨1, false, 8, [.nilfn], .func⟩, [], none, none⟩ := by kernel_rfl
@[go_sem] theorem lay90 : layOf Tryd.prog 90 = some ⟨1, false, 8, [.nilfn], .func⟩ := by kernel_rfl
@[go_sem] theorem ty90 : tyA Tryd.prog 90 = some ⟨⟨1, false, 8, [.nilfn], .func⟩, [], none, none⟩ := by kernel_rfl
@[go_sem] theorem lay91 : layOf Tryd.prog 91 = some ⟨1, false, 8, [.nilfn], .func⟩ := by kernel_rfl
@[go_sem] theorem ty91 : tyA Tryd.prog 91 = some ⟨⟨1, false, 8, [.nilfn], .func⟩, [], none, none⟩ := by kernel_rfl
@[go_sem] theorem lay92 : layOf Tryd.prog 92 = some ⟨1, false, 8, [.nilfn], .func⟩ := by kernel_rfl
@[go_sem] theorem ty92 : tyA Tryd.prog 92 = some ⟨⟨1, false, 8, [.nilfn], .func⟩, [], none, none⟩ := by kernel_rfl
@[go_sem] theorem lay93 : layOf Tryd.prog 93 = some ⟨1, false, 8, [.nilfn], .func⟩ := by kernel_rfl
@[go_sem] theorem ty93 : tyA Tryd.prog 93 = some ⟨⟨1, false, 8, [.nilfn], .func⟩, [], none, none⟩ := by kernel_rfl
@[go_sem] theorem lay94 : layOf Tryd.prog 94 = some ⟨1, false, 8, [.nilfn], .func⟩ := by kernel_rfl
@[go_sem] theorem ty94 : tyA Tryd.prog 94 = some ⟨⟨1, false, 8, [.nilfn], .func⟩, [], none, none⟩ := by kernel_rfl
@[go_sem] theorem lay98 : layOf Tryd.prog 98 = some ⟨1, false, 8, [.nilfn], .func⟩ := by kernel_rfl
@[go_sem] theorem ty98 : tyA Tryd.prog 98 = some ⟨⟨1, false, 8, [.nilfn], .func⟩, [], none, none⟩ := by kernel_rfl
@[go_sem] theorem lay99 : layOf Tryd.prog 99 = some ⟨1, false, 8, [.nilfn], .func⟩ := by kernel_rfl
@[go_sem] theorem ty99 : tyA Tryd.prog 99 = some ⟨⟨1, false, 8, [.nilfn], .func⟩, [], none, none⟩ := by kernel_rfl
@[go_sem] theorem lay100 : layOf Tryd.prog 100 = some ⟨1, false, 8, [.nilptr], .ptr⟩ := by kernel_rfl
@[go_sem] theorem ty100 : tyA Tryd.prog 100 = some ⟨⟨1, false, 8, [.nilptr], .ptr⟩, [], none, none⟩ := by kernel_rfl
@[go_sem] theorem lay101 : layOf Tryd.prog 101 = some ⟨1, false, 8, [.nilptr], .ptr⟩ := by kernel_rfl
@[go_sem] theorem ty101 : tyA Tryd.prog 101 = some ⟨⟨1, false, 8, [.nilptr], .ptr⟩, [], none, none⟩ := by kernel_rfl
@[go_sem] theorem lay102 : layOf Tryd.prog 102 = some ⟨1, false, 24, [.nils], .slice⟩ := by kernel_rfl
@[go_sem] theorem ty102 : tyA Tryd.prog 102 = some ⟨⟨1, false, 24, [.nils], .slice⟩, [], some ⟨1, false, 1, [.int .u8 0], (.int .u8)⟩, none⟩ := by kernel_rfl
@[go_sem] theorem lay103 : layOf Tryd.prog 103 = some ⟨2, true, 32, [.nilptr, .nils], .struct⟩ := by kernel_rfl
@[go_sem] theorem ty103 : tyA Tryd.prog 103 = some ⟨⟨2, true, 32, [.nilptr, .nils], .struct⟩, [(0, some ⟨1, false, 8, [.nilptr], .ptr⟩), (1, some ⟨1, false, 24, [.nils], .slice⟩)], none, none⟩ := by kernel_rfl
@[go_sem] theorem lay104 : layOf Tryd.prog 104 = some ⟨2, true, 32, [.nilptr, .nils], .struct⟩ := by kernel_rfl
@[go_sem] theorem ty104 : tyA Tryd.prog 104 = some ⟨⟨2, true, 32, [.nilptr, .nils], .struct⟩, [(0, some ⟨1, false, 8, [.nilptr], .ptr⟩), (1, some ⟨1, false, 24, [.nils], .slice⟩)], none, none⟩ := by kernel_rfl
@[go_sem] theorem lay105 : layOf Tryd.prog 105 = some ⟨1, false, 8, [.nilfn], .func⟩ := by kernel_rfl
@[go_sem] theorem ty105 : tyA Tryd.prog 105 = some ⟨⟨1, false, 8, [.nilfn], .func⟩, [], none, none⟩ := by kernel_rfl
@[go_sem] theorem lay106 : layOf Tryd.prog 106 = some ⟨1, false, 8, [.nilfn], .func⟩ := by kernel_rfl
@[go_sem] theorem ty106 : tyA Tryd.prog 106 = some ⟨⟨1, false, 8, [.nilfn], .func⟩, [], none, none⟩ := by kernel_rfl
@[go_sem] theorem lay107 : layOf Tryd.prog 107 = some ⟨1, false, 16, [.nilif], .iface⟩ := by kernel_rfl
@[go_sem] theorem ty107 : tyA Tryd.prog 107 = some ⟨⟨1, false, 16, [.nilif], .iface⟩, [], none, none⟩ := by kernel_rfl
@[go_sem] theorem lay108 : layOf Tryd.prog 108 = some ⟨1, false, 16, [.nilif], .iface⟩ := by kernel_rfl
@[go_sem] theorem ty108 : tyA Tryd.prog 108 = some ⟨⟨1, false, 16, [.nilif], .iface⟩, [], none, none⟩ := by kernel_rfl
@[go_sem] theorem lay109 : layOf Tryd.prog 109 = some ⟨1, false, 8, [.nilfn], .func⟩ := by kernel_rfl
@[go_sem] theorem ty109 : tyA Tryd.prog 109 = some ⟨⟨1, false, 8, [.nilfn], .func⟩, [], none, none⟩ := by kernel_rfl
@[go_sem] theorem lay110 : layOf Tryd.prog 110 = some ⟨1, false, 8, [.nilfn], .func⟩ := by kernel_rfl
@[go_sem] theorem ty110 : tyA Tryd.prog 110 = some ⟨⟨1, false, 8, [.nilfn], .func⟩, [], none, none⟩ := by kernel_rfl
@[go_sem] theorem lay111 : layOf Tryd.prog 111 = some ⟨1, false, 8, [.nilfn], .func⟩ := by kernel_rfl
@[go_sem] theorem ty111 : tyA Tryd.prog 111 = some ⟨⟨1, false, 8, [.nilfn], .func⟩, [], none, none⟩ := by kernel_rfl
@[go_sem] theorem lay113 : layOf Tryd.prog 113 = some ⟨1, false, 8, [.nilfn], .func⟩ := by kernel_rfl
@[go_sem] theorem ty113 : tyA Tryd.prog 113 = some ⟨⟨1, false, 8, [.nilfn], .func⟩, [], none, none⟩ := by kernel_rfl
@[go_sem] theorem lay114 : layOf Tryd.prog 114 = some ⟨1, false, 8, [.nilfn], .func⟩ := by kernel_rfl
@[go_sem] theorem ty114 : tyA Tryd.prog 114 = some ⟨⟨1, false, 8, [.nilfn], .func⟩, [], none, none⟩ := by kernel_rfl
@[go_sem] theorem lay115 : layOf Tryd.prog 115 = some ⟨1, false, 8, [.nilfn], .func⟩ := by kernel_rfl
@[go_sem] theorem ty115 : tyA Tryd.prog 115 = some ⟨⟨1, false, 8, [.nilfn], .func⟩, [], none, none⟩ := by kernel_rfl
@[go_sem] theorem lay116 : layOf Tryd.prog 116 = some ⟨1, false, 8, [.nilptr], .ptr⟩ := by kernel_rfl
@[go_sem] theorem ty116 : tyA Tryd.prog 116 = some ⟨⟨1, false, 8, [.nilptr], .ptr⟩, [], none, none⟩ := by kernel_rfl
@[go_sem] theorem lay117 : layOf Tryd.prog 117 = some ⟨1, false, 8, [.nilfn], .func⟩ := by kernel_rfl
@[go_sem] theorem ty117 : tyA Tryd.prog 117 = some ⟨⟨1, false, 8, [.nilfn], .func⟩, [], none, none⟩ := by kernel_rfl
@[go_sem] theorem lay118 : layOf Tryd.prog 118 = some ⟨1, false, 8, [.nilfn], .func⟩ := by kernel_rfl
@[go_sem] theorem ty118 : tyA Tryd.prog 118 = some ⟨⟨1, false, 8, [.nilfn], .func⟩, [], none, none⟩ := by kernel_rfl
@[go_sem] theorem lay119 : layOf Tryd.prog 119 = some ⟨1, false, 8, [.int .u64 0], (.int .u64)⟩ := by kernel_rfl
@[go_sem] theorem ty119 : tyA Tryd.prog 119 = some ⟨⟨1, false, 8, [.int .u64 0], (.int .u64)⟩, [], none, none⟩ := by kernel_rfl
@[go_sem] theorem lay120 : layOf Tryd.prog 120 = some ⟨1, false, 8, [.nilptr], .other⟩ := by kernel_rfl
@[go_sem] theorem ty120 : tyA Tryd.prog 120 = some ⟨⟨1, false, 8, [.nilptr], .other⟩, [], none, none⟩ := by kernel_rfl
@[go_sem] theorem lay121 : layOf Tryd.prog 121 = some ⟨1, false, 8, [.nilfn], .func⟩ := by kernel_rfl
@[go_sem] theorem ty121 : tyA Tryd.prog 121 = some ⟨⟨1, false, 8, [.nilfn], .func⟩, [], none, none⟩ := by kernel_rfl
@[go_sem] theorem lay123 : layOf Tryd.prog 123 = some ⟨2, true, 2, [.int .u8 0, .int .u8 0], .struct⟩ := by kernel_rfl
@[go_sem] theorem ty123 : tyA Tryd.prog 123 = some ⟨⟨2, true, 2, [.int .u8 0, .int .u8 0], .struct⟩, [(0, some ⟨1, false, 1, [.int .u8 0], (.int .u8)⟩), (1, some ⟨1, false, 1, [.int .u8 0], (.int .u8)⟩)], none, none⟩ := by kernel_rfl
@[go_sem] theorem eqt123 : eqTy Tryd.prog 123 [(.int .u8), (.int .u8)] = true := by kernel_rfl
@[go_sem] theorem lay124 : layOf Tryd.prog 124 = some ⟨2, true, 2, [.int .u8 0, .int .u8 0], .struct⟩ := by kernel_rfl
@[go_sem] theorem ty124 : tyA Tryd.prog 124 = some ⟨⟨2, true, 2, [.int .u8 0, .int .u8 0], .struct⟩, [(0, some ⟨1, false, 1, [.int .u8 0], (.int .u8)⟩), (1, some ⟨1, false, 1, [.int .u8 0], (.int .u8)⟩)], none, none⟩ := by kernel_rfl
@[go_sem] theorem eqt124 : eqTy Tryd.prog 124 [(.int .u8), (.int .u8)] = true := by kernel_rfl
@[go_sem] theorem lay125 : layOf Tryd.prog 125 = some ⟨32, true, 32, [.int .u8 0, .int .u8 0, .int .u8 0, .int .u8 0, .int .u8 0, .int .u8 0, .int .u8 0, .int .u8 0, .int .u8 0, .int .u8 0, .int .u8 0, .int .u8 0, .int .u8 0, .int .u8 0, .int .u8 0, .int .u8 0, .int .u8 0, .int .u8 0, .int .u8 0, .int .u8 0, .int .u8 0, .int .u8 0, .int .u8 0, .int .u8 0, .int .u8 0, .int .u8 0, .int .u8 0, .int .u8 0, .int .u8 0, .int .u8 0, .int .u8 0, .int .u8 0], (.array 16)⟩ := by kernel_rfl
@[go_sem] theorem ty125 : tyA Tryd.prog 125 = some ⟨⟨32, true, 32, [.int .u8 0, .int .u8 0, .int .u8 0, .int .u8 0, .int .u8 0, .int .u8 0, .int .u8 0, .int .u8 0, .int .u8 0, .int .u8 0, .int .u8 0, .int .u8 0, .int .u8 0, .int .u8 0, .int .u8 0, .int .u8 0, .int .u8 0, .int .u8 0, .int .u8 0, .int .u8 0, .int .u8 0, .int .u8 0, .int .u8 0, .int .u8 0, .int .u8 0, .int .u8 0, .int .u8 0, .int .u8 0, .int .u8 0, .int .u8 0, .int .u8 0, .int .u8 0], (.array 16)⟩, [], some ⟨2, true, 2, [.int .u8 0, .int .u8 0], .struct⟩, none⟩ := by kernel_rfl
@[go_sem] theorem lay126 : layOf Tryd.prog 126 = some ⟨1, false, 4, [.int .u32 0], (.int .u32)⟩ := by kernel_rfl
@[go_sem] theorem ty126 : tyA Tryd.prog 126 = some ⟨⟨1, false, 4, [.int .u32 0], (.int .u32)⟩, [], none, none⟩ := by kernel_rfl
@[go_sem] theorem lay128 : layOf Tryd.prog 128 = some ⟨1, false, 8, [.nilfn], .func⟩ := by kernel_rfl
@[go_sem] theorem ty128 : tyA Tryd.prog 128 = some ⟨⟨1, false, 8, [.nilfn], .func⟩, [], none, none⟩ := by kernel_rfl
@[go_sem] theorem lay129 : layOf Tryd.prog 129 = some ⟨4, true, 40, [.nilptr, .nilptr, .nilptr, .str ⟨#[]⟩], .struct⟩ := by kernel_rfl
@[go_sem] theorem ty129 : tyA Tryd.prog 129 = some ⟨⟨4, true, 40, [.nilptr, .nilptr, .nilptr, .str ⟨#[]⟩], .struct⟩, [(0, some ⟨1, false, 8, [.nilptr], .ptr⟩), (1, some ⟨1, false, 8, [.nilptr], .ptr⟩), (2, some ⟨1, false, 8, [.nilptr], .ptr⟩), (3, some ⟨1, false, 16, [.str ⟨#[]⟩], .str⟩)], none, none⟩ := by kernel_rfl
@[go_sem] theorem lay130 : layOf Tryd.prog 130 = some ⟨4, true, 40, [.nilptr, .nilptr, .nilptr, .str ⟨#[]⟩], .struct⟩ := by kernel_rfl
@[go_sem] theorem ty130 : tyA Tryd.prog 130 = some ⟨⟨4, true, 40, [.nilptr, .nilptr, .nilptr, .str ⟨#[]⟩], .struct⟩, [(0, some ⟨1, false, 8, [.nilptr], .ptr⟩), (1, some ⟨1, false, 8, [.nilptr], .ptr⟩), (2, some ⟨1, false, 8, [.nilptr], .ptr⟩), (3, some ⟨1, false, 16, [.str ⟨#[]⟩], .str⟩)], none, none⟩ := by kernel_rfl
@[go_sem] theorem lay131 : layOf Tryd.prog 131 = some ⟨0, true, 0, [], (.array 0)⟩ := by kernel_rfl
@[go_sem] theorem ty131 : tyA Tryd.prog 131 = some ⟨⟨0, true, 0, [], (.array 0)⟩, [], some ⟨1, false, 8, [.nilptr], .ptr⟩, none⟩ := by kernel_rfl
@[go_sem] theorem lay132 : layOf Tryd.prog 132 = some ⟨0, true, 0, [], .struct⟩ := by kernel_rfl
@[go_sem] theorem ty132 : tyA Tryd.prog 132 = some ⟨⟨0, true, 0, [], .struct⟩, [(0, some ⟨0, true, 0, [], (.array 0)⟩)], none, none⟩ := by kernel_rfl
@[go_sem] theorem lay133 : layOf Tryd.prog 133 = some ⟨0, true, 0, [], .struct⟩ := by kernel_rfl
@[go_sem] theorem ty133 : tyA Tryd.prog 133 = some ⟨⟨0, true, 0, [], .struct⟩, [(0, some ⟨0, true, 0, [], (.array 0)⟩)], none, none⟩ := by kernel_rfl
@[go_sem] theorem lay134 : layOf Tryd.prog 134 = some ⟨1, false, 1, [.int .u8 0], (.int .u8)⟩ := by kernel_rfl
@[go_sem] theorem ty134 : tyA Tryd.prog 134 = some ⟨⟨1, false, 1, [.int .u8 0], (.int .u8)⟩, [], none, none⟩ := by kernel_rfl
@[go_sem] theorem lay135 : layOf Tryd.prog 135 = some ⟨1, false, 1, [.int .u8 0], (.int .u8)⟩ := by kernel_rfl
@[go_sem] theorem ty135 : tyA Tryd.prog 135 = some ⟨⟨1, false, 1, [.int .u8 0], (.int .u8)⟩, [], none, none⟩ := by kernel_rfl
@[go_sem] theorem lay136 : layOf Tryd.prog 136 = some ⟨1, false, 8, [.nilfn], .func⟩ := by kernel_rfl
@[go_sem] theorem ty136 : tyA Tryd.prog 136 = some ⟨⟨1, false, 8, [.nilfn], .func⟩, [], none, none⟩ := by kernel_rfl
@[go_sem] theorem lay137 : layOf Tryd.prog 137 = some ⟨1, false, 4, [.int .i32 0], (.int .i32)⟩ := by kernel_rfl
@[go_sem] theorem ty137 : tyA Tryd.prog 137 = some ⟨⟨1, false, 4, [.int .i32 0], (.int .i32)⟩, [], none, none⟩ := by kernel_rfl
@[go_sem] theorem lay138 : layOf Tryd.prog 138 = some ⟨1, false, 4, [.int .i32 0], (.int .i32)⟩ := by kernel_rfl
@[go_sem] theorem ty138 : tyA Tryd.prog 138 = some ⟨⟨1, false, 4, [.int .i32 0], (.int .i32)⟩, [], none, none⟩ := by kernel_rfl
@[go_sem] theorem lay139 : layOf Tryd.prog 139 = some ⟨11, true, 48, [.int .u64 0, .int .u64 0, .int .u32 0, .int .u8 0, .int .u8 0, .int .u8 0, .int .u8 0, .nilfn, .nilptr, .int .i32 0, .int .i32 0], .struct⟩ := by kernel_rfl
@[go_sem] theorem ty139 : tyA Tryd.prog 139 = some ⟨⟨11, true, 48, [.int .u64 0, .int .u64 0, .int .u32 0, .int .u8 0, .int .u8 0, .int .u8 0, .int .u8 0, .nilfn, .nilptr, .int .i32 0, .int .i32 0], .struct⟩, [(0, some ⟨1, false, 8, [.int .u64 0], (.int .u64)⟩), (1, some ⟨1, false, 8, [.int .u64 0], (.int .u64)⟩), (2, some ⟨1, false, 4, [.int .u32 0], (.int .u32)⟩), (3, some ⟨1, false, 1, [.int .u8 0], (.int .u8)⟩), (4, some ⟨1, false, 1, [.int .u8 0], (.int .u8)⟩), (5, some ⟨1, false, 1, [.int .u8 0], (.int .u8)⟩), (6, some ⟨1, false, 1, [.int .u8 0], (.int .u8)⟩), (7, some ⟨1, false, 8, [.nilfn], .func⟩), (8, some ⟨1, false, 8, [.nilptr], .ptr⟩), (9, some ⟨1, false, 4, [.int .i32 0], (.int .i32)⟩), (10, some ⟨1, false, 4, [.int .i32 0], (.int .i32)⟩)], none, none⟩ := by kernel_rfl
@[go_sem] theorem lay140 : layOf Tryd.prog 140 = some ⟨11, true, 48, [.int .u64 0, .int .u64 0, .int .u32 0, .int .u8 0, .int .u8 0, .int .u8 0, .int .u8 0, .nilfn, .nilptr, .int .i32 0, .int .i32 0], .struct⟩ := by kernel_rfl
@[go_sem] theorem ty140 : tyA Tryd.prog 140 = some ⟨⟨11, true, 48, [.int .u64 0, .int .u64 0, .int .u32 0, .int .u8 0, .int .u8 0, .int .u8 0, .int .u8 0, .nilfn, .nilptr, .int .i32 0, .int .i32 0], .struct⟩, [(0, some ⟨1, false, 8, [.int .u64 0], (.int .u64)⟩), (1, some ⟨1, false, 8, [.int .u64 0], (.int .u64)⟩), (2, some ⟨1, false, 4, [.int .u32 0], (.int .u32)⟩), (3, some ⟨1, false, 1, [.int .u8 0], (.int .u8)⟩), (4, some ⟨1, false, 1, [.int .u8 0], (.int .u8)⟩), (5, some ⟨1, false, 1, [.int .u8 0], (.int .u8)⟩), (6, some ⟨1, false, 1, [.int .u8 0], (.int .u8)⟩), (7, some ⟨1, false, 8, [.nilfn], .func⟩), (8, some ⟨1, false, 8, [.nilptr], .ptr⟩), (9, some ⟨1, false, 4, [.int .i32 0], (.int .i32)⟩), (10, some ⟨1, false, 4, [.int .i32 0], (.int .i32)⟩)], none, none⟩ := by kernel_rfl
end Go.Proofs

/- The program's functions that cut a text: the walks. -/
set_option linter.unusedSimpArgs false
namespace Go.Proofs
open Go Go.Abs

def smallI (c : Int) : Bool := decide (97 ≤ c) && decide (c ≤ 122)
def greatI (c : Int) : Bool := decide (65 ≤ c) && decide (c ≤ 90)
def digitI (c : Int) : Bool := decide (48 ≤ c) && decide (c ≤ 57)
def letterI (c : Int) : Bool := smallI c || greatI c || digitI c || decide (c = 95)
def printI (c : Int) : Bool := decide (32 ≤ c) && decide (c ≤ 126)

theorem SmallI_eq (c : Int) : CallEq Tryd.prog 57 [.int .i32 c] (.bool (smallI c)) := by
  refine CallEq.begin (rs := [.tmp 2]) (m := 8) 1000 Tryd.func57 rfl rfl rfl (by decide) trivial ?_
  unfold smallI
  by_cases h : 97 ≤ c
  · simp only [go_sem, Nat.reduceAdd, Nat.reduceSub, Nat.reduceMul, Nat.reduceLeDiff, Nat.reduceEqDiff, Nat.reduceBEq, h, decide_true, Bool.true_and]
  · simp only [go_sem, Nat.reduceAdd, Nat.reduceSub, Nat.reduceMul, Nat.reduceLeDiff, Nat.reduceEqDiff, Nat.reduceBEq, h, decide_false, Bool.false_and]
theorem DigitI_eq (c : Int) : CallEq Tryd.prog 55 [.int .i32 c] (.bool (digitI c)) := by
  refine CallEq.begin (rs := [.tmp 2]) (m := 8) 1000 Tryd.func55 rfl rfl rfl (by decide) trivial ?_
  unfold digitI
  by_cases h : 48 ≤ c
  · simp only [go_sem, Nat.reduceAdd, Nat.reduceSub, Nat.reduceMul, Nat.reduceLeDiff, Nat.reduceEqDiff, Nat.reduceBEq, h, decide_true, Bool.true_and]
  · simp only [go_sem, Nat.reduceAdd, Nat.reduceSub, Nat.reduceMul, Nat.reduceLeDiff, Nat.reduceEqDiff, Nat.reduceBEq, h, decide_false, Bool.false_and]
theorem GreatI_eq (c : Int) : CallEq Tryd.prog 59 [.int .i32 c] (.bool (greatI c)) := by
  refine CallEq.begin (rs := [.tmp 2]) (m := 8) 1000 Tryd.func59 rfl rfl rfl (by decide) trivial ?_
  unfold greatI
  by_cases h : 65 ≤ c
  · simp only [go_sem, Nat.reduceAdd, Nat.reduceSub, Nat.reduceMul, Nat.reduceLeDiff, Nat.reduceEqDiff, Nat.reduceBEq, h, decide_true, Bool.true_and]
  · simp only [go_sem, Nat.reduceAdd, Nat.reduceSub, Nat.reduceMul, Nat.reduceLeDiff, Nat.reduceEqDiff, Nat.reduceBEq, h, decide_false, Bool.false_and]
theorem LetterI_eq (c : Int) : CallEq Tryd.prog 58 [.int .i32 c] (.bool (letterI c)) := by
  refine CallEq.begin (rs := [.tmp 2]) (m := 16) 1000 Tryd.func58 rfl rfl rfl (by decide) trivial ?_
  unfold letterI
  simp only [go_sem, Nat.reduceAdd, Nat.reduceSub, Nat.reduceMul, Nat.reduceLeDiff, Nat.reduceEqDiff, Nat.reduceBEq]
  refine VCall.isoT [] (SmallI_eq c) (pTL_refl _ _ _) (by simp [go_sem, ]) ?_; simp only [flatR, flatA, flatC, if_true]; refine EvK.go 1000 ?_
  cases smallI c with
  | true => simp only [go_sem, Nat.reduceAdd, Nat.reduceSub, Nat.reduceMul, Nat.reduceLeDiff, Nat.reduceEqDiff, Nat.reduceBEq, Bool.true_or]
  | false =>
    simp only [go_sem, Nat.reduceAdd, Nat.reduceSub, Nat.reduceMul, Nat.reduceLeDiff, Nat.reduceEqDiff, Nat.reduceBEq]
    refine VCall.isoT [] (GreatI_eq c) (pTL_refl _ _ _) (by simp [go_sem, ]) ?_; simp only [flatR, flatA, flatC, if_true]; refine EvK.go 1000 ?_
    cases greatI c with
    | true => simp only [go_sem, Nat.reduceAdd, Nat.reduceSub, Nat.reduceMul, Nat.reduceLeDiff, Nat.reduceEqDiff, Nat.reduceBEq, Bool.true_or, Bool.or_true]
    | false =>
      simp only [go_sem, Nat.reduceAdd, Nat.reduceSub, Nat.reduceMul, Nat.reduceLeDiff, Nat.reduceEqDiff, Nat.reduceBEq]
      refine VCall.isoT [] (DigitI_eq c) (pTL_refl _ _ _) (by simp [go_sem, ]) ?_; simp only [flatR, flatA, flatC, if_true]; refine EvK.go 1000 ?_
      cases digitI c with
      | true => simp only [go_sem, Nat.reduceAdd, Nat.reduceSub, Nat.reduceMul, Nat.reduceLeDiff, Nat.reduceEqDiff, Nat.reduceBEq, Bool.true_or, Bool.or_true]
      | false => simp only [go_sem, Nat.reduceAdd, Nat.reduceSub, Nat.reduceMul, Nat.reduceLeDiff, Nat.reduceEqDiff, Nat.reduceBEq, Bool.false_or]

theorem Run_eq (f : FuncId) (p : Int → Bool) (hp : ∀ c, CallEq Tryd.prog f [.int .i32 c] (.bool (p c))) (hq : ∀ c : Int, 128 ≤ c → p c = false) (s : ByteArray) (hs : s.size < 1000000) :
    CallEq Tryd.prog 56 [.str s, .fn f [] []] (.int .i64 (runB (fun c => p c.toNat) (bs s))) := by
  refine CallEq.begin (rs := [.tmp 4]) (m := 18) 1000 Tryd.func56 rfl rfl rfl (by decide) trivial ?_
  simp only [go_sem, Nat.reduceAdd, Nat.reduceSub, Nat.reduceMul, Nat.reduceLeDiff, Nat.reduceEqDiff, Nat.reduceBEq]
  refine EvK.loopI (ι := {pos : Nat // pos ≤ s.size ∧ runB (fun c => p c.toNat) (bs s) = pos + runB (fun c => p c.toNat) ((bs s).drop pos)}) 1000 (fun i => mkT 20 [(0, .str s), (1, .fn f [] []), (4, .int .i64 0), (8, .it 0)]) (fun i => [some (.iter s i.1)]) (fun i => s.size - i.1) ⟨0, Nat.zero_le _, by simp⟩ ?_ (fun _ => Nat.zero_le _) ?_
  · simp only [go_sem, Nat.reduceAdd, Nat.reduceSub, Nat.reduceMul, Nat.reduceLeDiff, Nat.reduceEqDiff, Nat.reduceBEq]
    decide
  · rintro ⟨i, hi, h3⟩
    by_cases hlt : i < s.size
    · rw [drop_at hlt] at h3
      by_cases ha : (s[i]).toNat < 128
      · have hd := decode_ascii s i hlt ha
        simp only [go_sem, Nat.reduceAdd, Nat.reduceSub, Nat.reduceMul, Nat.reduceLeDiff, Nat.reduceEqDiff, Nat.reduceBEq, hlt, hd]
        refine VCall.isoT [] (hp (s[i].toNat : Int)) (pTL_refl _ _ _) (by simp [go_sem, ]) ?_; simp only [flatR, flatA, flatC, if_true]; refine EvK.go 1000 ?_
        cases hc : p (s[i].toNat : Int) with
        | true =>
          simp only [go_sem, Nat.reduceAdd, Nat.reduceSub, Nat.reduceMul, Nat.reduceLeDiff, Nat.reduceEqDiff, Nat.reduceBEq]
          refine ⟨⟨i + 1, hlt, ?_⟩, ?_, by simp only; omega⟩
          · rw [h3, runB, List.takeWhile_cons, if_pos hc, List.length_cons, runB]; omega
          · simp only [go_sem, Nat.reduceAdd, Nat.reduceSub, Nat.reduceMul, Nat.reduceLeDiff, Nat.reduceEqDiff, Nat.reduceBEq]
            decide
        | false =>
          have hr : runB (fun c => p c.toNat) (s[i] :: (bs s).drop (i + 1)) = 0 := by rw [runB, List.takeWhile_cons, if_neg (by simp [hc])]; rfl
          rw [hr] at h3
          simp only [go_sem, Nat.reduceAdd, Nat.reduceSub, Nat.reduceMul, Nat.reduceLeDiff, Nat.reduceEqDiff, Nat.reduceBEq]
          refine EvK.go 1000 ?_
          rw [h3]
          simp only [go_sem, Nat.reduceAdd, Nat.reduceSub, Nat.reduceMul, Nat.reduceLeDiff, Nat.reduceEqDiff, Nat.reduceBEq]
      · obtain ⟨hd, hd2⟩ := decode_high s i hlt (by omega)
        have hc : p ((Utf8.decode s i).1 : Int) = false := hq _ (by omega)
        have hc2 : p (s[i].toNat : Int) = false := hq _ (by omega)
        have hr : runB (fun c => p c.toNat) (s[i] :: (bs s).drop (i + 1)) = 0 := by rw [runB, List.takeWhile_cons, if_neg (by simp [hc2])]; rfl
        rw [hr] at h3
        simp only [go_sem, Nat.reduceAdd, Nat.reduceSub, Nat.reduceMul, Nat.reduceLeDiff, Nat.reduceEqDiff, Nat.reduceBEq, hlt]
        refine VCall.isoT [] (hp ((Utf8.decode s i).1 : Int)) (pTL_refl _ _ _) (by simp [go_sem, ]) ?_; simp only [flatR, flatA, flatC, if_true]; refine EvK.go 1000 ?_
        rw [hc]
        simp only [go_sem, Nat.reduceAdd, Nat.reduceSub, Nat.reduceMul, Nat.reduceLeDiff, Nat.reduceEqDiff, Nat.reduceBEq]
        refine EvK.go 1000 ?_
        rw [h3]
        simp only [go_sem, Nat.reduceAdd, Nat.reduceSub, Nat.reduceMul, Nat.reduceLeDiff, Nat.reduceEqDiff, Nat.reduceBEq]
    · have hie : i = s.size := by omega
      have hd : (bs s).drop i = [] := List.drop_eq_nil_of_le (by rw [bs_len]; omega)
      rw [hd] at h3
      simp only [go_sem, Nat.reduceAdd, Nat.reduceSub, Nat.reduceMul, Nat.reduceLeDiff, Nat.reduceEqDiff, Nat.reduceBEq, hlt]
      refine EvK.go 1000 ?_
      rw [h3, hie]
      simp only [go_sem, Nat.reduceAdd, Nat.reduceSub, Nat.reduceMul, Nat.reduceLeDiff, Nat.reduceEqDiff, Nat.reduceBEq]
      simp [runB]

/-! ### white -/
theorem dropW_head {p : UInt8 → Bool} : ∀ (l : By) (c : UInt8) (r : By), l.dropWhile p = c :: r → p c = false
  | [], c, r, h => by cases h
  | d :: l, c, r, h => by
    cases hd : p d with
    | true => rw [List.dropWhile_cons_of_pos hd] at h; exact dropW_head l c r h
    | false =>
      rw [List.dropWhile_cons_of_neg (by simp [hd])] at h
      cases h; exact hd
theorem bs_extract (s : ByteArray) (i j : Nat) : bs (s.extract i j) = ((bs s).take j).drop i := by
  simp [bs, ByteArray.data_extract, Array.toList_extract, List.extract_eq_take_drop, List.drop_take]
theorem ext_ofB (l : By) (i : Nat) : (ofB l).extract i l.length = ofB (l.drop i) := by
  apply bs_inj
  rw [bs_extract, bs_ofB, bs_ofB, List.take_length]
theorem pre1 (l : By) (c : UInt8) : Lib.hasPrefix l [c] = (l.head? == some c) := by
  cases l with
  | nil => rfl
  | cons d l =>
    simp only [Lib.hasPrefix, List.isPrefixOf, Bool.and_true, List.head?_cons]
    by_cases h : c = d
    · subst h; simp
    · rw [beq_eq_false_iff_ne.2 h]; simp [Ne.symm h]
theorem index_drop : ∀ (l : By), (Lib.indexByte l 10 = -1 → l.dropWhile (· != 10) = []) ∧ ∀ i : Nat, Lib.indexByte l 10 = i → l.dropWhile (· != 10) = l.drop i ∧ i ≤ l.length
  | [] => ⟨fun _ => rfl, fun i h => by simp [Lib.indexByte] at h⟩
  | c :: l => by
    obtain ⟨h1, h2⟩ := index_drop l
    have hg := Lib.indexByte_ge l 10
    by_cases hc : c = 10
    · subst hc
      refine ⟨fun h => by simp [Lib.indexByte] at h, fun i h => ?_⟩
      simp [Lib.indexByte] at h
      have : i = 0 := by omega
      subst this
      simp
    · have hd : (c :: l).dropWhile (· != 10) = l.dropWhile (· != 10) := List.dropWhile_cons_of_pos (by simpa using hc)
      have hi : Lib.indexByte (c :: l) 10 = if Lib.indexByte l 10 = -1 then -1 else Lib.indexByte l 10 + 1 := by simp [Lib.indexByte, hc]
      rw [hd, hi]
      by_cases hm : Lib.indexByte l 10 = -1
      · rw [if_pos hm]
        exact ⟨fun _ => h1 hm, fun i h => by omega⟩
      · rw [if_neg hm]
        refine ⟨fun h => by omega, fun i h => ?_⟩
        obtain ⟨j, rfl⟩ : ∃ j, i = j + 1 := ⟨i - 1, by omega⟩
        obtain ⟨q1, q2⟩ := h2 j (by omega)
        exact ⟨by rw [q1]; rfl, by simp; omega⟩
theorem index_cut : ∀ (l : By), (cutC l = none → Lib.index l [42, 47] = -1) ∧ ∀ b, cutC l = some b → ∃ i : Nat, Lib.index l [42, 47] = i ∧ b = l.drop (i + 2)
  | [] => ⟨fun _ => rfl, fun b h => by simp [cutC] at h⟩
  | c :: r => by
    obtain ⟨h1, h2⟩ := index_cut r
    simp only [cutC]
    by_cases hc : c = 42 ∧ r.head? = some 47
    · rw [if_pos hc]
      obtain ⟨rfl, hr⟩ := hc
      cases r with
      | nil => simp at hr
      | cons d r =>
        simp at hr
        subst hr
        refine ⟨fun h => by simp at h, fun b h => ⟨0, rfl, ?_⟩⟩
        simp at h
        rw [← h]; rfl
    · rw [if_neg hc]
      have hi : Lib.index (c :: r) [42, 47] = if Lib.index r [42, 47] = -1 then -1 else Lib.index r [42, 47] + 1 := by
        have : ([42, 47] : By).isPrefixOf (c :: r) = false := by
          cases r with
          | nil => simp [List.isPrefixOf]
          | cons d r =>
            simp [List.isPrefixOf] at hc ⊢
            exact fun h1 h2 => hc h1.symm h2.symm
        simp only [Lib.index, this, Bool.false_eq_true, if_false, beq_iff_eq]
      rw [hi]
      refine ⟨fun h => by rw [if_pos (h1 h)], fun b h => ?_⟩
      obtain ⟨i, q1, q2⟩ := h2 b h
      exact ⟨i + 1, by rw [q1, if_neg (by omega)]; rfl, by rw [q2]; rfl⟩

set_option maxHeartbeats 1000000 in
theorem White_eq (s : ByteArray) (hs : s.size < 1000000) : CallEq Tryd.prog 38 [.str s] (.int .i64 ((s.size : Int) - (skip (bs s)).length)) := by
  refine CallEq.begin (rs := [.tmp 2]) (m := 40) 1000 Tryd.func38 rfl rfl rfl (by decide) trivial ?_
  simp only [go_sem, Nat.reduceAdd, Nat.reduceSub, Nat.reduceMul, Nat.reduceLeDiff, Nat.reduceEqDiff, Nat.reduceBEq]
  refine EvK.loopI (ι := {l : By // l.length ≤ s.size ∧ skip l = skip (bs s)}) 1000 (fun i => mkT 41 [(0, .str s), (3, .str (ofB i.1))]) (fun _ => []) (fun i => i.1.length) ⟨bs s, by rw [bs_len]; exact Nat.le_refl _, rfl⟩ ?_ (fun _ => Nat.zero_le _) ?_
  · simp only [go_sem, Nat.reduceAdd, Nat.reduceSub, Nat.reduceMul, Nat.reduceLeDiff, Nat.reduceEqDiff, Nat.reduceBEq, ofB_bs]
    done
  · rintro ⟨l, hl, hk⟩
    simp only [go_sem, Nat.reduceAdd, Nat.reduceSub, Nat.reduceMul, Nat.reduceLeDiff, Nat.reduceEqDiff, Nat.reduceBEq]
    refine VCall.isoT [] (TrimW_eq (ofB l)) (pTL_refl _ _ _) (by simp [go_sem, ]) ?_; simp only [flatR, flatA, flatC, if_true]; refine EvK.go 1000 ?_
    rw [bs_ofB]
    have hk1 : skip (l.dropWhile isW) = skip (bs s) := by rw [skip_dropW, hk]
    have hl1 := dropW_len (p := isW) l
    have hw := dropW_head (p := isW) l
    generalize l.dropWhile isW = l1 at *
    simp only [go_sem, Nat.reduceAdd, Nat.reduceSub, Nat.reduceMul, Nat.reduceLeDiff, Nat.reduceEqDiff, Nat.reduceBEq]
    refine VCall.isoT [] (HasPre_eq (ofB l1) ⟨#[37]⟩) (pTL_refl _ _ _) (by simp [go_sem, ]) ?_; simp only [flatR, flatA, flatC, if_true]; refine EvK.go 1000 ?_
    rw [bs_ofB, show bs ⟨#[37]⟩ = [37] from rfl, pre1]
    rcases l1 with _ | ⟨c, r⟩
    · have e1 : ((([] : By).head? == some 37)) = false := rfl
      rw [e1]
      simp only [go_sem, Nat.reduceAdd, Nat.reduceSub, Nat.reduceMul, Nat.reduceLeDiff, Nat.reduceEqDiff, Nat.reduceBEq]
      refine VCall.isoT [] (HasPre_eq (ofB []) ⟨#[47, 42]⟩) (pTL_refl _ _ _) (by simp [go_sem, ]) ?_; simp only [flatR, flatA, flatC, if_true]; refine EvK.go 1000 ?_
      have e2 : Lib.hasPrefix (bs (ofB [])) (bs ⟨#[47, 42]⟩) = false := rfl
      rw [e2]
      simp only [go_sem, Nat.reduceAdd, Nat.reduceSub, Nat.reduceMul, Nat.reduceLeDiff, Nat.reduceEqDiff, Nat.reduceBEq]
      refine EvK.go 1000 ?_
      have hk2 : skip (bs s) = [] := hk1.symm
      simp only [go_sem, Nat.reduceAdd, Nat.reduceSub, Nat.reduceMul, Nat.reduceLeDiff, Nat.reduceEqDiff, Nat.reduceBEq, ofB_size, hk2, List.length_nil, Int.natCast_zero]
      rw [i64_id (by omega)]
    · have hwc := hw c r rfl
      by_cases c37 : c = 37
      · subst c37
        have e1 : (((37 :: r : By).head? == some 37)) = true := rfl
        rw [e1]
        simp only [go_sem, Nat.reduceAdd, Nat.reduceSub, Nat.reduceMul, Nat.reduceLeDiff, Nat.reduceEqDiff, Nat.reduceBEq]
        refine VCall.isoT [] (IndexByte_eq (ofB (37 :: r)) 10) (pTL_refl _ _ _) (by simp [go_sem, ]) ?_; simp only [flatR, flatA, flatC, if_true]; refine EvK.go 1000 ?_
        rw [bs_ofB, show (Int.toNat 10).toUInt8 = 10 from rfl]
        obtain ⟨i1, i2⟩ := index_drop (37 :: r)
        rw [skip_pct] at hk1
        have hdr : (37 :: r : By).dropWhile (· != 10) = r.dropWhile (· != 10) := rfl
        rw [hdr] at i1 i2
        have hg := Lib.indexByte_ge (37 :: r) 10
        by_cases hm : Lib.indexByte (37 :: r) 10 = -1
        · rw [hm]
          have hd := i1 hm
          rw [hd] at hk1
          simp only [go_sem, Nat.reduceAdd, Nat.reduceSub, Nat.reduceMul, Nat.reduceLeDiff, Nat.reduceEqDiff, Nat.reduceBEq, Int.reduceLT, ofB_size, Int.toNat_natCast]
          refine ⟨by omega, ⟨[], by simp, hk1⟩, ?_, by simp at hl1 ⊢; omega⟩
          rw [show r.length + 1 = (37 :: r : By).length from rfl, ext_ofB, List.drop_length]
        · obtain ⟨i, hi⟩ : ∃ i : Nat, Lib.indexByte (37 :: r) 10 = i := ⟨(Lib.indexByte (37 :: r) 10).toNat, by omega⟩
          rw [hi]
          have hn : ¬ (i : Int) < 0 := by omega
          obtain ⟨hd, hle⟩ := i2 i hi
          have hdl := dropW_len (p := (· != 10)) r
          rw [List.length_cons] at hle hl1
          simp only [go_sem, Nat.reduceAdd, Nat.reduceSub, Nat.reduceMul, Nat.reduceLeDiff, Nat.reduceEqDiff, Nat.reduceBEq, hn, ofB_size, Int.toNat_natCast]
          refine ⟨by omega, ⟨r.dropWhile (· != 10), by omega, hk1⟩, ?_, by simp only; omega⟩
          rw [show r.length + 1 = (37 :: r : By).length from rfl, ext_ofB]
          show AVal.str (ofB (r.dropWhile (· != 10))) = _
          rw [hd]
      · have e1 : ((c :: r : By).head? == some 37) = false := by simp [c37]
        rw [e1]
        simp only [go_sem, Nat.reduceAdd, Nat.reduceSub, Nat.reduceMul, Nat.reduceLeDiff, Nat.reduceEqDiff, Nat.reduceBEq]
        refine VCall.isoT [] (HasPre_eq (ofB (c :: r)) ⟨#[47, 42]⟩) (pTL_refl _ _ _) (by simp [go_sem, ]) ?_; simp only [flatR, flatA, flatC, if_true]; refine EvK.go 1000 ?_
        rw [bs_ofB, show bs ⟨#[47, 42]⟩ = [47, 42] from rfl]
        by_cases c47 : c = 47 ∧ r.head? = some 42
        · obtain ⟨rfl, hr⟩ := c47
          rcases r with _ | ⟨d, r⟩
          · simp at hr
          simp at hr
          subst hr
          rw [show Lib.hasPrefix (47 :: 42 :: r) [47, 42] = true from rfl]
          have hx : (ofB (47 :: 42 :: r)).extract 2 (r.length + 1 + 1) = ofB r := ext_ofB (47 :: 42 :: r) 2
          simp only [go_sem, Nat.reduceAdd, Nat.reduceSub, Nat.reduceMul, Nat.reduceLeDiff, Nat.reduceEqDiff, Nat.reduceBEq, ofB_size, List.length_cons, show Int.toNat 2 = 2 from rfl, hx]
          refine ⟨by omega, ?_⟩
          refine VCall.isoT [] (Cut_eq (ofB r) ⟨#[42, 47]⟩ (by rw [ofB_size]; simp at hl1; omega)) (pTL_refl _ _ _) (by simp [go_sem, ]) ?_; rw [frzI_nil]; simp only [ite_self]; refine EvK.go 1000 ?_
          rw [bs_ofB, show bs ⟨#[42, 47]⟩ = [42, 47] from rfl]
          obtain ⟨i1, i2⟩ := index_cut r
          cases hc : cutC r with
          | none =>
            have hi := i1 hc
            rw [skip_open hc] at hk1
            have e3 : Lib.cut r [42, 47] = (r, [], false) := by rw [Lib.cut, hi]; rfl
            rw [e3]
            simp only [go_sem, Nat.reduceAdd, Nat.reduceSub, Nat.reduceMul, Nat.reduceLeDiff, Nat.reduceEqDiff, Nat.reduceBEq]
            refine EvK.go 1000 ?_
            simp only [go_sem, Nat.reduceAdd, Nat.reduceSub, Nat.reduceMul, Nat.reduceLeDiff, Nat.reduceEqDiff, Nat.reduceBEq, ofB_size, ← hk1, List.length_cons]
            rw [i64_id (by simp at hl1 ⊢; omega)]
          | some b =>
            obtain ⟨i, hi, hb⟩ := i2 b hc
            have hbl := cutC_len hc
            rw [skip_cmt hc] at hk1
            have e3 : Lib.cut r [42, 47] = (r.take i, b, true) := by
              rw [Lib.cut, hi, if_pos (by omega), hb]; rfl
            rw [e3]
            simp only [go_sem, Nat.reduceAdd, Nat.reduceSub, Nat.reduceMul, Nat.reduceLeDiff, Nat.reduceEqDiff, Nat.reduceBEq]
            refine ⟨⟨b, by simp at hl1; omega, hk1⟩, rfl, by simp at hl1 ⊢; omega⟩
        · have e2 : Lib.hasPrefix (c :: r) [47, 42] = false := by
            cases r with
            | nil => simp [Lib.hasPrefix, List.isPrefixOf]
            | cons d r =>
              simp [Lib.hasPrefix, List.isPrefixOf] at c47 ⊢
              exact fun h1 h2 => c47 h1.symm h2.symm
          rw [e2]
          rw [skip_stop hwc c37 c47] at hk1
          simp only [go_sem, Nat.reduceAdd, Nat.reduceSub, Nat.reduceMul, Nat.reduceLeDiff, Nat.reduceEqDiff, Nat.reduceBEq]
          refine EvK.go 1000 ?_
          simp only [go_sem, Nat.reduceAdd, Nat.reduceSub, Nat.reduceMul, Nat.reduceLeDiff, Nat.reduceEqDiff, Nat.reduceBEq, ofB_size, ← hk1]
          rw [i64_id (by simp at hl1 ⊢; omega)]
end Go.Proofs

/- The program's functions that cut a text: names and tokens. -/
set_option linter.unusedSimpArgs false
namespace Go.Proofs
open Go Go.Abs

theorem i32_id {n : Int} (h : -2147483648 ≤ n ∧ n ≤ 2147483647) : IntKind.i32.wrap n = n := by
  simp only [IntKind.wrap, IntKind.signed, IntKind.bits]
  simp
  omega
theorem u8_lt (c : UInt8) : c.toNat < 256 := c.toNat_lt
theorem smallI_B (c : UInt8) : smallI (c.toNat : Int) = smallB c := by
  simp only [smallI, smallB, show decide ((97 : Int) ≤ (c.toNat : Int)) = decide (97 ≤ c.toNat) from decide_eq_decide.2 (by omega), show decide ((c.toNat : Int) ≤ 122) = decide (c.toNat ≤ 122) from decide_eq_decide.2 (by omega)]
theorem greatI_B (c : UInt8) : greatI (c.toNat : Int) = greatB c := by
  simp only [greatI, greatB, show decide ((65 : Int) ≤ (c.toNat : Int)) = decide (65 ≤ c.toNat) from decide_eq_decide.2 (by omega), show decide ((c.toNat : Int) ≤ 90) = decide (c.toNat ≤ 90) from decide_eq_decide.2 (by omega)]
theorem digitI_B (c : UInt8) : digitI (c.toNat : Int) = digitB c := by
  simp only [digitI, digitB, show decide ((48 : Int) ≤ (c.toNat : Int)) = decide (48 ≤ c.toNat) from decide_eq_decide.2 (by omega), show decide ((c.toNat : Int) ≤ 57) = decide (c.toNat ≤ 57) from decide_eq_decide.2 (by omega)]
theorem letterI_B (c : UInt8) : letterI (c.toNat : Int) = onB c := by
  have h : decide ((c.toNat : Int) = 95) = (c == 95) := by
    rw [Bool.eq_iff_iff, decide_eq_true_eq, beq_iff_eq]
    have := @u8_eq c 95 (by decide)
    constructor
    · intro h; exact this.2 (by omega)
    · intro h; have := this.1 h; omega
  simp only [letterI, onB, smallI_B, greatI_B, digitI_B, h]
theorem letter_high (c : Int) (h : 128 ≤ c) : letterI c = false := by
  simp only [letterI, smallI, greatI, digitI, decide_eq_false (show ¬ c ≤ 122 by omega), decide_eq_false (show ¬ c ≤ 90 by omega), decide_eq_false (show ¬ c ≤ 57 by omega), decide_eq_false (show ¬ c = 95 by omega), Bool.and_false, Bool.or_false]
theorem digit_high (c : Int) (h : 128 ≤ c) : digitI c = false := by
  simp only [digitI, decide_eq_false (show ¬ c ≤ 57 by omega), Bool.and_false]
theorem print_high (c : Int) (h : 128 ≤ c) : printI c = false := by
  simp only [printI, decide_eq_false (show ¬ c ≤ 126 by omega), Bool.and_false]
theorem RunL_eq (s : ByteArray) (hs : s.size < 1000000) : CallEq Tryd.prog 56 [.str s, .fn 58 [] []] (.int .i64 (runB onB (bs s))) := by
  have := Run_eq 58 letterI LetterI_eq letter_high s hs
  rw [show (fun c : UInt8 => letterI c.toNat) = onB from funext letterI_B] at this
  exact this
theorem RunD_eq (s : ByteArray) (hs : s.size < 1000000) : CallEq Tryd.prog 56 [.str s, .fn 55 [] []] (.int .i64 (runB digitB (bs s))) := by
  have := Run_eq 55 digitI DigitI_eq digit_high s hs
  rw [show (fun c : UInt8 => digitI c.toNat) = digitB from funext digitI_B] at this
  exact this

theorem quoteB_len : ∀ (n : Nat) (l acc : By) (x : By × By), l.length ≤ n → quoteB acc l = some x → x.2.length + 1 ≤ l.length
  | n, [], acc, x, _, h => by rw [quoteB_nil] at h; cases h
  | n + 1, c :: r, acc, x, hn, h => by
    simp only [List.length_cons] at hn
    by_cases c39 : c = 39
    · subst c39
      rw [quoteB_39] at h
      split at h
      · cases h
      · cases h; simp
    · by_cases cb : c.toNat < 32 ∨ 126 < c.toNat
      · rw [quoteB_bad c39 cb] at h; cases h
      · by_cases c92 : c = 92
        · subst c92
          cases r with
          | nil => rw [quoteB_92] at h; cases h
          | cons d r =>
            rw [quoteB_two] at h
            split at h
            · have := quoteB_len n r _ x (by simp at hn; omega) h
              simp; omega
            · cases h
        · rw [quoteB_one c39 cb c92] at h
          have := quoteB_len n r _ x (by omega) h
          simp; omega
theorem run_le (p : UInt8 → Bool) (l : By) : runB p l ≤ l.length := (List.takeWhile_sublist p).length_le
theorem ext_take (s : ByteArray) (j : Nat) : s.extract 0 j = ofB ((bs s).take j) := by
  apply bs_inj
  rw [bs_extract, bs_ofB, List.drop_zero]
theorem ext_drop (s : ByteArray) (i : Nat) : s.extract i s.size = ofB ((bs s).drop i) := by
  apply bs_inj
  rw [bs_extract, bs_ofB, ← bs_len, List.take_length]
theorem head_at {s : ByteArray} {c : UInt8} {r : By} (h : bs s = c :: r) : ∃ h0 : 0 < s.size, s[0] = c := by
  have h0 : 0 < s.size := by rw [← bs_len, h]; simp
  refine ⟨h0, ?_⟩
  have := drop_at (s := s) (k := 0) h0
  rw [List.drop_zero, h] at this
  exact (List.cons.inj this).1.symm

theorem name_le (l : By) : (nameB l).2.2 ≤ l.length := by
  cases l with
  | nil => exact Nat.le_refl _
  | cons c r =>
    have h1 := run_le digitB (c :: r)
    have h2 := run_le onB (c :: r)
    have h3 := run_le onB r
    simp only [nameB]
    by_cases c1 : c = 39
    · rw [if_pos c1]
      cases quoteB [] r with
      | none => exact Nat.zero_le _
      | some x => exact Nat.sub_le _ _
    rw [if_neg c1]
    split
    · exact h1
    · split
      · exact h2
      · split
        · exact h2
        · split
          · simp only [List.length_cons]; omega
          · exact Nat.zero_le _
def nameA (x : Int × By × Nat) : AVal := .tup [.int .i64 x.1, .str (ofB x.2.1), .int .i64 x.2.2]
set_option maxHeartbeats 1000000 in
theorem Name_eq (s : ByteArray) (hs : s.size < 1000000) (c : UInt8) (r : By) (hb : bs s = c :: r) : CallEq Tryd.prog 39 [.str s] (nameA (nameB (bs s))) := by
  refine CallEq.begin (rs := [.tmp 2, .tmp 3, .tmp 4]) (m := 61) 1000 Tryd.func39 rfl rfl rfl (by decide) (by simp [go_sem, nameA]) ?_
  obtain ⟨h0, hc⟩ := head_at hb
  have hl : r.length + 1 = s.size := by rw [← bs_len, hb]; rfl
  have h8 := u8_lt c
  have e39 : c = 39 ↔ c.toNat = 39 := u8_eq (by decide)
  have e36 : c = 36 ↔ c.toNat = 36 := u8_eq (by decide)
  have hw : IntKind.i32.wrap (c.toNat : Int) = c.toNat := i32_id (by omega)
  have hrd := run_le digitB (bs s)
  have hro := run_le onB (bs s)
  rw [bs_len] at hrd hro
  by_cases c39 : c.toNat = 39
  · have d39 : (c.toNat : Int) = 39 := by omega
    simp only [go_sem, Nat.reduceAdd, Nat.reduceSub, Nat.reduceMul, Nat.reduceLeDiff, Nat.reduceEqDiff, Nat.reduceBEq, h0, hc, show Int.toNat 0 = 0 from rfl, Int.reduceLE, d39, i32_id (n := 39) (by decide)]
    refine ⟨trivial, ?_⟩
    refine VCall.isoT [] (Quoted_eq s (by omega)) (pTL_refl _ _ _) (by simp [go_sem]) ?_
    rw [frzI_nil]; simp only [ite_self]
    refine EvK.go 1000 ?_
    unfold quoteA
    rw [hb, List.drop_succ_cons, List.drop_zero, e39.2 c39]
    cases hq : quoteB [] r with
    | none =>
      rw [name_q0 hq]
      simp only [go_sem, Nat.reduceAdd, Nat.reduceSub, Nat.reduceMul, Nat.reduceLeDiff, Nat.reduceEqDiff, Nat.reduceBEq, nameA, Int.natCast_zero]
      rfl
    | some x =>
      have := quoteB_len _ r [] x (Nat.le_refl _) hq
      rw [name_q1 hq]
      simp only [go_sem, Nat.reduceAdd, Nat.reduceSub, Nat.reduceMul, Nat.reduceLeDiff, Nat.reduceEqDiff, Nat.reduceBEq, nameA]
      rw [show ((r.length + 1 - x.2.length : Nat) : Int) = (s.size : Int) - x.2.length by omega]
  have n39 : ¬ (c.toNat : Int) = 39 := by omega
  have m39 : ¬ c = 39 := fun h => c39 (e39.1 h)
  simp only [go_sem, Nat.reduceAdd, Nat.reduceSub, Nat.reduceMul, Nat.reduceLeDiff, Nat.reduceEqDiff, Nat.reduceBEq, h0, hc, hw, show Int.toNat 0 = 0 from rfl, Int.reduceLE, n39]
  refine ⟨trivial, ?_⟩
  refine VCall.isoT [] (DigitI_eq (c.toNat : Int)) (pTL_refl _ _ _) (by simp [go_sem, ]) ?_; simp only [flatR, flatA, flatC, if_true]; refine EvK.go 1000 ?_
  rw [digitI_B]
  cases hd : digitB c with
  | true =>
    rw [hb, name_d m39 hd, ← hb]
    simp only [go_sem, Nat.reduceAdd, Nat.reduceSub, Nat.reduceMul, Nat.reduceLeDiff, Nat.reduceEqDiff, Nat.reduceBEq]
    refine VCall.isoT [] (RunD_eq s hs) (pTL_refl _ _ _) (by simp [go_sem, ]) ?_; simp only [flatR, flatA, flatC, if_true]; refine EvK.go 1000 ?_
    simp only [go_sem, Nat.reduceAdd, Nat.reduceSub, Nat.reduceMul, Nat.reduceLeDiff, Nat.reduceEqDiff, Nat.reduceBEq]
    refine EvK.go 1000 ?_
    simp only [go_sem, Nat.reduceAdd, Nat.reduceSub, Nat.reduceMul, Nat.reduceLeDiff, Nat.reduceEqDiff, Nat.reduceBEq]
    refine EvK.draw [] 0 0 mixed rfl rfl (Nat.le_refl _) ?_
    simp only [go_sem, Nat.reduceAdd, Nat.reduceSub, Nat.reduceMul, Nat.reduceLeDiff, Nat.reduceEqDiff, Nat.reduceBEq, padS, ext_take, Int.toNat_natCast, Int.toNat_zero, List.take_zero]
    refine ⟨by omega, ?_⟩
    refine EvK.go 1000 ?_
    simp only [go_sem, Nat.reduceAdd, Nat.reduceSub, Nat.reduceMul, Nat.reduceLeDiff, Nat.reduceEqDiff, Nat.reduceBEq, nameA]
  | false =>
  simp only [go_sem, Nat.reduceAdd, Nat.reduceSub, Nat.reduceMul, Nat.reduceLeDiff, Nat.reduceEqDiff, Nat.reduceBEq]
  refine VCall.isoT [] (SmallI_eq (c.toNat : Int)) (pTL_refl _ _ _) (by simp [go_sem, ]) ?_; simp only [flatR, flatA, flatC, if_true]; refine EvK.go 1000 ?_
  rw [smallI_B]
  cases hsm : smallB c with
  | true =>
    rw [hb, name_s m39 hd hsm, ← hb]
    simp only [go_sem, Nat.reduceAdd, Nat.reduceSub, Nat.reduceMul, Nat.reduceLeDiff, Nat.reduceEqDiff, Nat.reduceBEq]
    refine VCall.isoT [] (RunL_eq s hs) (pTL_refl _ _ _) (by simp [go_sem, ]) ?_; simp only [flatR, flatA, flatC, if_true]; refine EvK.go 1000 ?_
    simp only [go_sem, Nat.reduceAdd, Nat.reduceSub, Nat.reduceMul, Nat.reduceLeDiff, Nat.reduceEqDiff, Nat.reduceBEq]
    refine EvK.go 1000 ?_
    simp only [go_sem, Nat.reduceAdd, Nat.reduceSub, Nat.reduceMul, Nat.reduceLeDiff, Nat.reduceEqDiff, Nat.reduceBEq]
    refine EvK.draw [] 0 0 mixed rfl rfl (Nat.le_refl _) ?_
    simp only [go_sem, Nat.reduceAdd, Nat.reduceSub, Nat.reduceMul, Nat.reduceLeDiff, Nat.reduceEqDiff, Nat.reduceBEq, padS, ext_take, Int.toNat_natCast, Int.toNat_zero, List.take_zero]
    refine ⟨by omega, ?_⟩
    refine EvK.go 1000 ?_
    simp only [go_sem, Nat.reduceAdd, Nat.reduceSub, Nat.reduceMul, Nat.reduceLeDiff, Nat.reduceEqDiff, Nat.reduceBEq, nameA]
  | false =>
  simp only [go_sem, Nat.reduceAdd, Nat.reduceSub, Nat.reduceMul, Nat.reduceLeDiff, Nat.reduceEqDiff, Nat.reduceBEq]
  refine VCall.isoT [] (GreatI_eq (c.toNat : Int)) (pTL_refl _ _ _) (by simp [go_sem, ]) ?_; simp only [flatR, flatA, flatC, if_true]; refine EvK.go 1000 ?_
  rw [greatI_B]
  cases hgr : greatB c with
  | true =>
    rw [hb, name_g m39 hd hsm hgr, ← hb]
    simp only [go_sem, Nat.reduceAdd, Nat.reduceSub, Nat.reduceMul, Nat.reduceLeDiff, Nat.reduceEqDiff, Nat.reduceBEq]
    refine VCall.isoT [] (RunL_eq s hs) (pTL_refl _ _ _) (by simp [go_sem, ]) ?_; simp only [flatR, flatA, flatC, if_true]; refine EvK.go 1000 ?_
    simp only [go_sem, Nat.reduceAdd, Nat.reduceSub, Nat.reduceMul, Nat.reduceLeDiff, Nat.reduceEqDiff, Nat.reduceBEq]
    refine EvK.go 1000 ?_
    simp only [go_sem, Nat.reduceAdd, Nat.reduceSub, Nat.reduceMul, Nat.reduceLeDiff, Nat.reduceEqDiff, Nat.reduceBEq]
    refine EvK.draw [] 0 0 mixed rfl rfl (Nat.le_refl _) ?_
    simp only [go_sem, Nat.reduceAdd, Nat.reduceSub, Nat.reduceMul, Nat.reduceLeDiff, Nat.reduceEqDiff, Nat.reduceBEq, padS, ext_take, Int.toNat_natCast, Int.toNat_zero, List.take_zero]
    refine ⟨by omega, ?_⟩
    refine EvK.go 1000 ?_
    simp only [go_sem, Nat.reduceAdd, Nat.reduceSub, Nat.reduceMul, Nat.reduceLeDiff, Nat.reduceEqDiff, Nat.reduceBEq, nameA]
  | false =>
  by_cases c36 : c.toNat = 36
  · have d36 : (c.toNat : Int) = 36 := by omega
    have k36 := e36.2 c36
    rcases r with _ | ⟨d, r⟩
    · have h1 : ¬ (1 : Int) < s.size := by rw [← hl]; decide
      rw [hb, k36, show nameB [36] = (0, [], 0) from rfl]
      rw [k36] at *
      simp only [go_sem, Nat.reduceAdd, Nat.reduceSub, Nat.reduceMul, Nat.reduceLeDiff, Nat.reduceEqDiff, Nat.reduceBEq, h1, show ((UInt8.toNat 36 : Nat) : Int) = 36 from rfl]
      refine EvK.draw [] 0 0 mixed rfl rfl (Nat.le_refl _) ?_
      simp only [go_sem, Nat.reduceAdd, Nat.reduceSub, Nat.reduceMul, Nat.reduceLeDiff, Nat.reduceEqDiff, Nat.reduceBEq, padS, ext_take, Int.toNat_natCast, Int.toNat_zero, List.take_zero, Int.natCast_zero, Int.reduceLE, Int.natCast_nonneg, true_and, h0]
      refine EvK.go 1000 ?_
      simp only [go_sem, Nat.reduceAdd, Nat.reduceSub, Nat.reduceMul, Nat.reduceLeDiff, Nat.reduceEqDiff, Nat.reduceBEq, nameA, Int.natCast_zero]
    · have h1 : (1 : Int) < s.size := by rw [← hl, List.length_cons]; omega
      have h1' : 1 < s.size := by omega
      have hd1 : s[1] = d := by
        have := drop_at (s := s) (k := 1) h1'
        rw [hb] at this
        exact (List.cons.inj this).1.symm
      have h8d := u8_lt d
      have hwd : IntKind.i32.wrap (d.toNat : Int) = d.toNat := i32_id (by omega)
      have hd8 : (bs s).drop 1 = d :: r := by rw [hb]; rfl
      have hx1 : s.extract 1 s.size = ofB (d :: r) := by rw [ext_drop, hd8]
      have hrz := run_le onB (d :: r)
      simp only [List.length_cons] at hrz hl
      simp only [go_sem, Nat.reduceAdd, Nat.reduceSub, Nat.reduceMul, Nat.reduceLeDiff, Nat.reduceEqDiff, Nat.reduceBEq, d36, h1, h1', hd1, hwd, show Int.toNat 1 = 1 from rfl, Int.reduceLE]
      refine ⟨trivial, ?_⟩
      refine VCall.isoT [] (SmallI_eq (d.toNat : Int)) (pTL_refl _ _ _) (by simp [go_sem, ]) ?_; simp only [flatR, flatA, flatC, if_true]; refine EvK.go 1000 ?_
      rw [smallI_B]
      cases hsd : smallB d with
      | true =>
        rw [hb, k36, name_y hsd, ← k36, ← hb]
        simp only [go_sem, Nat.reduceAdd, Nat.reduceSub, Nat.reduceMul, Nat.reduceLeDiff, Nat.reduceEqDiff, Nat.reduceBEq, hx1, show Int.toNat 1 = 1 from rfl]
        refine ⟨by omega, ?_⟩
        refine VCall.isoT [] (RunL_eq (ofB (d :: r)) (by rw [ofB_size]; simp; omega)) (pTL_refl _ _ _) (by simp [go_sem, ]) ?_; simp only [flatR, flatA, flatC, if_true]; refine EvK.go 1000 ?_
        rw [bs_ofB]
        simp only [go_sem, Nat.reduceAdd, Nat.reduceSub, Nat.reduceMul, Nat.reduceLeDiff, Nat.reduceEqDiff, Nat.reduceBEq]
        rw [i64_id (by omega)]
        refine EvK.draw [] 0 0 mixed rfl rfl (Nat.le_refl _) ?_
        simp only [go_sem, Nat.reduceAdd, Nat.reduceSub, Nat.reduceMul, Nat.reduceLeDiff, Nat.reduceEqDiff, Nat.reduceBEq, padS, ext_take, show ((1 : Int) + (runB onB (d :: r) : Nat)).toNat = 1 + runB onB (d :: r) by omega]
        refine ⟨by omega, ?_⟩
        refine EvK.go 1000 ?_
        simp only [go_sem, Nat.reduceAdd, Nat.reduceSub, Nat.reduceMul, Nat.reduceLeDiff, Nat.reduceEqDiff, Nat.reduceBEq, nameA]
        rw [Int.natCast_add]
        rfl
      | false =>
        rw [hb, k36, name_y0 hsd]
        simp only [go_sem, Nat.reduceAdd, Nat.reduceSub, Nat.reduceMul, Nat.reduceLeDiff, Nat.reduceEqDiff, Nat.reduceBEq]
        refine EvK.draw [] 0 0 mixed rfl rfl (Nat.le_refl _) ?_
        simp only [go_sem, Nat.reduceAdd, Nat.reduceSub, Nat.reduceMul, Nat.reduceLeDiff, Nat.reduceEqDiff, Nat.reduceBEq, padS, ext_take, Int.toNat_natCast, Int.toNat_zero, List.take_zero, Int.natCast_zero, Int.reduceLE, Int.natCast_nonneg, true_and, h0]
        refine EvK.go 1000 ?_
        simp only [go_sem, Nat.reduceAdd, Nat.reduceSub, Nat.reduceMul, Nat.reduceLeDiff, Nat.reduceEqDiff, Nat.reduceBEq, nameA, Int.natCast_zero]
  · have n36 : ¬ (c.toNat : Int) = 36 := by omega
    have m36 : ¬ c = 36 := fun h => c36 (e36.1 h)
    rw [hb, name_n m39 hd hsm hgr m36]
    simp only [go_sem, Nat.reduceAdd, Nat.reduceSub, Nat.reduceMul, Nat.reduceLeDiff, Nat.reduceEqDiff, Nat.reduceBEq, n36]
    refine EvK.draw [] 0 0 mixed rfl rfl (Nat.le_refl _) ?_
    simp only [go_sem, Nat.reduceAdd, Nat.reduceSub, Nat.reduceMul, Nat.reduceLeDiff, Nat.reduceEqDiff, Nat.reduceBEq, padS, ext_take, Int.toNat_natCast, Int.toNat_zero, List.take_zero, Int.natCast_zero, Int.reduceLE, Int.natCast_nonneg, true_and, h0]
    refine EvK.go 1000 ?_
    simp only [go_sem, Nat.reduceAdd, Nat.reduceSub, Nat.reduceMul, Nat.reduceLeDiff, Nat.reduceEqDiff, Nat.reduceBEq, nameA, Int.natCast_zero]
end Go.Proofs

/- The program's functions that cut a text: the next token. -/
set_option linter.unusedSimpArgs false
namespace Go.Proofs
open Go Go.Abs

theorem str_eq (a b : ByteArray) : (a.toList == b.toList) = decide (bs a = bs b) := by
  by_cases h : a = b
  · subst h; simp
  · rw [decide_eq_false (fun e => h (bs_inj e))]
    cases hb : (a.toList == b.toList) with
    | true => exact absurd (bytes_eq hb) h
    | false => rfl
def strsB (l : List By) : List AVal := l.map fun x => .str (ofB x)
theorem Signs_eq : CallEq Tryd.prog 40 [] (.agg (strsB signL)) := by
  refine CallEq.begin (rs := [.cell 0 76]) (m := 2) 1000 Tryd.func40 rfl rfl rfl (by decide) (by simp [strsB, signL, AVal.low, lowL]) ?_
  simp only [go_sem, Nat.reduceAdd, Nat.reduceSub, Nat.reduceMul, Nat.reduceLeDiff, Nat.reduceEqDiff, Nat.reduceBEq, strsB, signL, List.map_cons, List.map_nil, ofB, List.range_zero, List.nil_append, List.cons_append, List.getElem?_cons_zero, List.getElem?_cons_succ, Nat.mul_one, Nat.reduceMul]
  done

def Tok.cs (t : Tok) : List AVal := [.int .i64 t.kind, .int .i64 t.at', .str (ofB t.text)]
theorem tok_eq (t : Tok) : t.toA = .agg [.int .i64 t.kind, .int .i64 t.at', .str (ofB t.text)] := rfl
def nextA (x : Tok × Int × Int) : AVal := .tup [x.1.toA, .int .i64 x.2.1, .int .i64 x.2.2]
theorem suffix_drop {l q r : By} (h : l = q ++ r) : l.drop (l.length - r.length) = r := by
  subst h
  rw [List.length_append, Nat.add_sub_cancel, List.drop_left]

set_option maxHeartbeats 1600000 in
theorem NextP_eq (s : ByteArray) (hs : s.size < 1000000) (i : Int) : CallEq Tryd.prog 24 [.str s, .int .i64 i] (nextA (nextB (bs s) i)) := by
  refine CallEq.begin (rs := [.cell 4 62, .tmp 5, .tmp 6]) (m := 71) 1000 Tryd.func24 rfl rfl rfl (by decide) (by simp [go_sem, nextA, tok_eq]) ?_
  by_cases c1 : i < 0
  · have hn : nextB (bs s) i = (Tok.zero, 0, 1) := by rw [nextB, if_pos (.inl c1)]
    rw [hn]
    simp only [go_sem, Nat.reduceAdd, Nat.reduceSub, Nat.reduceMul, Nat.reduceLeDiff, Nat.reduceEqDiff, Nat.reduceBEq, c1, nextA, tok_eq, Tok.zero]
    rfl
  by_cases c2 : (s.size : Int) < i
  · have hn : nextB (bs s) i = (Tok.zero, 0, 1) := by rw [nextB, if_pos (.inr (by rw [bs_len]; exact c2))]
    rw [hn]
    simp only [go_sem, Nat.reduceAdd, Nat.reduceSub, Nat.reduceMul, Nat.reduceLeDiff, Nat.reduceEqDiff, Nat.reduceBEq, c1, c2, nextA, tok_eq, Tok.zero]
    rfl
  obtain ⟨n, rfl⟩ : ∃ n : Nat, i = n := ⟨i.toNat, by omega⟩
  have hn : nextB (bs s) n = if skip ((bs s).drop n) = [] then ((⟨4, (s.size : Int), []⟩, (s.size : Int), 0) : Tok × Int × Int) else
      if 0 < (nameB (skip ((bs s).drop n))).2.2 then
        (if 64 < (nameB (skip ((bs s).drop n))).2.1.length then (Tok.zero, (s.size : Int) - (skip ((bs s).drop n)).length, 8)
         else (⟨(nameB (skip ((bs s).drop n))).1, (s.size : Int) - (skip ((bs s).drop n)).length, (nameB (skip ((bs s).drop n))).2.1⟩, (s.size : Int) - (skip ((bs s).drop n)).length + (nameB (skip ((bs s).drop n))).2.2, 0))
      else match signL.find? (·.isPrefixOf (skip ((bs s).drop n))) with
        | some x => (⟨3, (s.size : Int) - (skip ((bs s).drop n)).length, x⟩, (s.size : Int) - (skip ((bs s).drop n)).length + x.length, 0)
        | none => (Tok.zero, (s.size : Int) - (skip ((bs s).drop n)).length, 4) := by
    rw [nextB, if_neg (by rw [bs_len]; omega), Int.toNat_natCast, bs_len]; rfl
  rw [hn]
  obtain ⟨q, hq⟩ := skip_suffix _ ((bs s).drop n) (Nat.le_refl _)
  have hdl : ((bs s).drop n).length = s.size - n := by rw [List.length_drop, bs_len]
  have hrl := skip_len ((bs s).drop n)
  have hrest : (bs s).drop (s.size - (skip ((bs s).drop n)).length) = skip ((bs s).drop n) := by
    have : bs s = ((bs s).take n ++ q) ++ skip ((bs s).drop n) := by rw [List.append_assoc, ← hq, List.take_append_drop]
    have h2 := suffix_drop this
    rw [bs_len] at h2
    exact h2
  have hW := White_eq (ofB ((bs s).drop n)) (by rw [ofB_size]; omega)
  rw [bs_ofB, ofB_size, hdl] at hW
  generalize skip ((bs s).drop n) = rest at *
  have hp : (n : Int) + (((s.size - n : Nat) : Int) - rest.length) = ((s.size - rest.length : Nat) : Int) := by omega
  have hx : s.extract (s.size - rest.length) s.size = ofB rest := by rw [ext_drop, hrest]
  simp only [go_sem, Nat.reduceAdd, Nat.reduceSub, Nat.reduceMul, Nat.reduceLeDiff, Nat.reduceEqDiff, Nat.reduceBEq, c1, c2, Int.toNat_natCast, ext_drop]
  (repeat ((with_reducible refine And.intro ?_ ?_); · omega))
  refine VCall.isoT [] (hW) (pTL_refl _ _ _) (by simp [go_sem, ]) ?_; simp only [flatR, flatA, flatC, if_true]; refine EvK.go 1000 ?_
  simp only [go_sem, Nat.reduceAdd, Nat.reduceSub, Nat.reduceMul, Nat.reduceLeDiff, Nat.reduceEqDiff, Nat.reduceBEq]
  rw [hp, i64_id (by omega)]
  have hpp : (s.size : Int) - rest.length = ((s.size - rest.length : Nat) : Int) := by omega
  rw [hpp]
  have hps : s.size - rest.length + rest.length = s.size := by omega
  generalize s.size - rest.length = p at *
  rcases rest with _ | ⟨c, r⟩
  · simp only [go_sem, Nat.reduceAdd, Nat.reduceSub, Nat.reduceMul, Nat.reduceLeDiff, Nat.reduceEqDiff, Nat.reduceBEq, Int.toNat_natCast, hx, str_eq, bs_ofB, show bs ⟨#[]⟩ = [] from rfl]
    refine ⟨by omega, ?_⟩
    simp only [List.length_nil, Nat.add_zero] at hps
    simp only [if_true, nextA, tok_eq, hps]
    simp only [go_sem, Nat.reduceAdd, Nat.reduceSub, Nat.reduceMul, Nat.reduceLeDiff, Nat.reduceEqDiff, Nat.reduceBEq, pT_agg]
    rfl
  have hne : ¬ (c :: r) = bs ⟨#[]⟩ := by simp [bs]
  rw [if_neg (by simp)]
  simp only [go_sem, Nat.reduceAdd, Nat.reduceSub, Nat.reduceMul, Nat.reduceLeDiff, Nat.reduceEqDiff, Nat.reduceBEq, Int.toNat_natCast, hx, str_eq, bs_ofB, hne]
  refine ⟨by omega, ?_⟩
  have hN := Name_eq (ofB (c :: r)) (by rw [ofB_size]; omega) c r (bs_ofB _)
  rw [bs_ofB] at hN
  refine VCall.isoT [] (hN) (pTL_refl _ _ _) (by simp [go_sem, ]) ?_; rw [frzI_nil]; simp only [ite_self]; refine EvK.go 1000 ?_
  have hml := name_le (c :: r)
  generalize nameB (c :: r) = N at *
  obtain ⟨k, t, m⟩ := N
  simp only at hml
  by_cases hm : 0 < m
  · rw [if_pos hm]
    have hm' : (0 : Int) < m := by omega
    by_cases ht : 64 < t.length
    · rw [if_pos ht]
      have ht' : (64 : Int) < t.length := by omega
      simp only [go_sem, Nat.reduceAdd, Nat.reduceSub, Nat.reduceMul, Nat.reduceLeDiff, Nat.reduceEqDiff, Nat.reduceBEq, nameA, hm', ofB_size, ht', nextA, tok_eq, Tok.zero]
      rfl
    · rw [if_neg ht]
      have ht' : ¬ (64 : Int) < t.length := by omega
      simp only [go_sem, Nat.reduceAdd, Nat.reduceSub, Nat.reduceMul, Nat.reduceLeDiff, Nat.reduceEqDiff, Nat.reduceBEq, nameA, hm', ofB_size, ht', nextA, tok_eq]
      rw [i64_id (by omega)]
  · rw [if_neg hm]
    have hm' : ¬ (0 : Int) < m := by omega
    simp only [go_sem, Nat.reduceAdd, Nat.reduceSub, Nat.reduceMul, Nat.reduceLeDiff, Nat.reduceEqDiff, Nat.reduceBEq, nameA, hm']
    refine VCall.isoT [] (Signs_eq) (pTL_refl _ _ _) (by simp [go_sem, ]) ?_; rw [frzI_nil]; simp only [ite_self]; refine EvK.go 1000 ?_
    simp only [go_sem, Nat.reduceAdd, Nat.reduceSub, Nat.reduceMul, Nat.reduceLeDiff, Nat.reduceEqDiff, Nat.reduceBEq]
    refine EvK.loopI (ι := {j : Nat // j ≤ 18 ∧ signL.find? (·.isPrefixOf (c :: r)) = (signL.drop j).find? (·.isPrefixOf (c :: r))}) 1000 (fun j => mkT 73 [(0, .str s), (1, .int .i64 p), (4, .ptr 0 0), (5, .int .i64 0), (6, .int .i64 0), (7, .str (ofB (c :: r))), (56, .agg (strsB signL)), (57, .int .i64 j.1)]) (fun _ => [some (.var [.int .i64 0, .int .i64 0, .str ⟨#[]⟩])]) (fun j => 18 - j.1) ⟨0, by omega, rfl⟩ ?_ (fun _ => Nat.zero_le _) ?_
    · simp only [go_sem, Nat.reduceAdd, Nat.reduceSub, Nat.reduceMul, Nat.reduceLeDiff, Nat.reduceEqDiff, Nat.reduceBEq, Int.natCast_zero]
      exact ⟨by decide, lowL_map fun _ _ => trivial⟩
    · rintro ⟨j, hj, hf⟩
      by_cases hlt : (j : Int) < 18
      · have hlt' : j < signL.length := by show j < 18; omega
        rw [List.drop_eq_getElem_cons hlt', List.find?_cons] at hf
        have hdr : (strsB signL).drop j = .str (ofB signL[j]) :: strsB (signL.drop (j + 1)) := by
          simp only [strsB, ← List.map_drop]
          rw [List.drop_eq_getElem_cons hlt']; rfl
        have hsl : signL[j].length ≤ 3 := by
          have : ∀ x ∈ signL, x.length ≤ 3 := by decide
          exact this _ (List.getElem_mem hlt')
        generalize signL[j] = x at *
        simp only [go_sem, Nat.reduceAdd, Nat.reduceSub, Nat.reduceMul, Nat.reduceLeDiff, Nat.reduceEqDiff, Nat.reduceBEq, hlt, Int.toNat_natCast, Nat.mul_one, hdr]
        refine ⟨by omega, ?_⟩
        refine VCall.isoT [] (HasPre_eq (ofB (c :: r)) (ofB x)) (pTL_refl _ _ _) (by simp [go_sem, ]) ?_; simp only [flatR, flatA, flatC, if_true]; refine EvK.go 1000 ?_
        rw [bs_ofB, bs_ofB]
        have hpf : Lib.hasPrefix (c :: r) x = x.isPrefixOf (c :: r) := rfl
        rw [hpf]
        cases hxp : x.isPrefixOf (c :: r) with
        | true =>
          rw [hxp] at hf
          simp only at hf
          simp only [go_sem, Nat.reduceAdd, Nat.reduceSub, Nat.reduceMul, Nat.reduceLeDiff, Nat.reduceEqDiff, Nat.reduceBEq, ofB_size]
          rw [i64_id (by omega)]
          refine EvK.go 1000 ?_
          rw [hf]
          simp only [go_sem, Nat.reduceAdd, Nat.reduceSub, Nat.reduceMul, Nat.reduceLeDiff, Nat.reduceEqDiff, Nat.reduceBEq, nextA, tok_eq]
        | false =>
          rw [hxp] at hf
          simp only at hf
          simp only [go_sem, Nat.reduceAdd, Nat.reduceSub, Nat.reduceMul, Nat.reduceLeDiff, Nat.reduceEqDiff, Nat.reduceBEq]
          refine ⟨⟨j + 1, by omega, hf⟩, ?_, by simp only; omega⟩
          simp only [go_sem, Nat.reduceAdd, Nat.reduceSub, Nat.reduceMul, Nat.reduceLeDiff, Nat.reduceEqDiff, Nat.reduceBEq]
          rw [i64_id (by omega)]
          exact ⟨by simp, by decide, lowL_map fun _ _ => trivial⟩
      · have hj18 : j = signL.length := by show j = 18; omega
        rw [hj18, List.drop_length, List.find?_nil] at hf
        simp only [go_sem, Nat.reduceAdd, Nat.reduceSub, Nat.reduceMul, Nat.reduceLeDiff, Nat.reduceEqDiff, Nat.reduceBEq, hlt]
        refine EvK.go 1000 ?_
        rw [hf]
        simp only [go_sem, Nat.reduceAdd, Nat.reduceSub, Nat.reduceMul, Nat.reduceLeDiff, Nat.reduceEqDiff, Nat.reduceBEq, nextA, tok_eq, Tok.zero]
        rfl
end Go.Proofs

/- The program's functions that cut a text: all tokens. -/
set_option linter.unusedSimpArgs false
namespace Go.Proofs
open Go Go.Abs

def toks (l : List Tok) : List AVal := l.map Tok.toA
theorem toks_len (l : List Tok) : (toks l).length = l.length := by simp [toks]
theorem toks_low {n : Nat} (l : List Tok) : lowL n (toks l) := lowL_map fun _ _ => ⟨trivial, trivial, trivial, trivial⟩
theorem toks_add (l : List Tok) (t : Tok) : toks (l ++ [t]) = toks l ++ [t.toA] := by simp [toks]
def allA (x : List Tok × Int × Int) : AVal := .tup [.ps 3 (toks x.1), .int .i64 x.2.1, .int .i64 x.2.2]
theorem ok_tok (t : Tok) : appOk ⟨3, true, 32, [.int .i64 0, .int .i64 0, .str ⟨#[]⟩], .struct⟩ [t.toA] = True := eq_true ⟨fun x hx => by rw [List.mem_singleton.1 hx]; exact ⟨rfl, rfl⟩, by decide, by decide, rfl⟩

theorem next_facts {s : By} {i : Int} (h0 : 0 ≤ i) (h1 : i ≤ s.length) (he : (nextB s i).2.2 = 0) (hk : (nextB s i).1.kind ≠ 4) : i < (nextB s i).2.1 ∧ (nextB s i).2.1 ≤ s.length := by
  have hdl : (s.drop i.toNat).length = s.length - i.toNat := List.length_drop
  have hrl := skip_len (s.drop i.toNat)
  have hml := name_le (skip (s.drop i.toNat))
  unfold nextB at he hk ⊢
  rw [if_neg (by omega)] at he hk ⊢
  generalize skip (s.drop i.toNat) = rest at *
  by_cases hr : rest = []
  · rw [if_pos hr] at hk; exact absurd rfl hk
  rw [if_neg hr] at he hk ⊢
  generalize nameB rest = N at *
  obtain ⟨k, t, m⟩ := N
  simp only at hml he hk ⊢
  by_cases hm : 0 < m
  · rw [if_pos hm] at he hk ⊢
    by_cases ht : 64 < t.length
    · rw [if_pos ht] at he; cases he
    · rw [if_neg ht]
      simp only; omega
  · rw [if_neg hm] at he hk ⊢
    cases hf : signL.find? (·.isPrefixOf rest) with
    | none => rw [hf] at he; cases he
    | some x =>
      simp only
      have hx := List.find?_some hf
      have hp := List.isPrefixOf_iff_prefix.1 hx
      have hl := hp.length_le
      have h3 : 1 ≤ x.length := by
        have : ∀ x ∈ signL, 1 ≤ x.length := by decide
        exact this _ (List.mem_of_find?_eq_some hf)
      omega

set_option maxHeartbeats 1600000 in
theorem AllP_eq (s : ByteArray) (hs : s.size < 1000000) : CallEq Tryd.prog 12 [.str s] (allA (allB (bs s))) := by
  refine CallEq.begin (rs := [.tmp 2, .tmp 3, .tmp 4]) (m := 36) 1000 Tryd.func12 rfl rfl rfl (by decide) (by simp [go_sem, allA, toks_low]) ?_
  by_cases c1 : 65536 < (s.size : Int)
  · have ha : allB (bs s) = ([], 0, 2) := by rw [allB, if_pos (by rw [bs_len]; exact c1)]
    rw [ha]
    simp only [go_sem, Nat.reduceAdd, Nat.reduceSub, Nat.reduceMul, Nat.reduceLeDiff, Nat.reduceEqDiff, Nat.reduceBEq, c1, allA, toks, List.map_nil]
    done
  have ha : allB (bs s) = allF (bs s) (s.size + 1) 0 [] := by rw [allB, if_neg (by rw [bs_len]; exact c1), bs_len]
  rw [ha]
  generalize hR : allF (bs s) (s.size + 1) 0 [] = R
  simp only [go_sem, Nat.reduceAdd, Nat.reduceSub, Nat.reduceMul, Nat.reduceLeDiff, Nat.reduceEqDiff, Nat.reduceBEq, c1]
  refine EvK.loopR (ι := {p : Int × List Tok × Nat // 0 ≤ p.1 ∧ p.1 ≤ s.size ∧ (p.2.1.length : Int) ≤ p.1 ∧ (s.size : Int) < p.1 + p.2.2 ∧ allF (bs s) p.2.2 p.1 p.2.1 = R}) 1000 (fun p => mkT 37 [(0, .str s), (2, .nils), (3, .int .i64 0), (4, .int .i64 0), (5, slA 0 3 (toks p.1.2.1)), (6, .int .i64 p.1.1)]) (fun p => [slB (toks p.1.2.1)]) (fun p => p.1.2.2) ⟨(0, [], s.size + 1), by omega, by omega, by simp, by simp only; omega, hR⟩ [] ?_ (fun _ => Nat.zero_le _) ?_
  · refine leR_mk rfl ?_
    simp only [go_sem, Nat.reduceAdd, Nat.reduceSub, Nat.reduceMul, Nat.reduceLeDiff, Nat.reduceEqDiff, Nat.reduceBEq, toks, List.map_nil, slA_nil, slB_nil]
    done
  · rintro ⟨⟨i, out, fuel⟩, h0, h1, h2, h3, hF⟩
    simp only at h0 h1 h2 h3 hF
    obtain ⟨k, rfl⟩ : ∃ k, fuel = k + 1 := ⟨fuel - 1, by omega⟩
    rw [allF] at hF
    have hnf := next_facts (s := bs s) (i := i) h0 (by rw [bs_len]; exact h1)
    rw [bs_len] at hnf
    simp only [go_sem, Nat.reduceAdd, Nat.reduceSub, Nat.reduceMul, Nat.reduceLeDiff, Nat.reduceEqDiff, Nat.reduceBEq]
    refine VCall.isoT [] (NextP_eq s hs i) (pTL_refl _ _ _) (by simp [go_sem, ]) ?_; rw [frzI_nil]; simp only [ite_self]; refine EvK.go 1000 ?_
    generalize nextB (bs s) i = N at *
    obtain ⟨t, nx, e⟩ := N
    simp only at hF hnf
    by_cases he : e = 0
    · subst he
      rw [if_neg (by simp)] at hF
      by_cases hk : t.kind = 4
      · rw [if_pos hk, bs_len] at hF
        simp only [go_sem, Nat.reduceAdd, Nat.reduceSub, Nat.reduceMul, Nat.reduceLeDiff, Nat.reduceEqDiff, Nat.reduceBEq, nextA, tok_eq, hk]
        refine EvK.go 1000 ?_
        rw [← hF]
        simp only [go_sem, Nat.reduceAdd, Nat.reduceSub, Nat.reduceMul, Nat.reduceLeDiff, Nat.reduceEqDiff, Nat.reduceBEq, allA, pT_slA]
        done
      · rw [if_neg hk] at hF
        obtain ⟨g1, g2⟩ := hnf rfl hk
        have kt := ok_tok t
        rw [tok_eq] at kt
        have hol : out.length ≤ 999999999 := by omega
        simp only [go_sem, Nat.reduceAdd, Nat.reduceSub, Nat.reduceMul, Nat.reduceLeDiff, Nat.reduceEqDiff, Nat.reduceBEq, nextA, tok_eq, hk, app_slA, kt, toks_len, Nat.le_refl, hol]
        refine ⟨by decide, ⟨(nx, out ++ [t], k), by simp only; omega, by simp only; omega, by simp; omega, by simp only; omega, hF⟩, [(0, 3), (3, 0)], leR_mk rfl ?_, by simp only; omega⟩
        have ht2 : toks (out ++ [t]) = toks out ++ [.agg [.int .i64 t.kind, .int .i64 t.at', .str (ofB t.text)]] := by rw [toks_add, tok_eq]
        simp only [ht2]
        simp only [go_sem, Nat.reduceAdd, Nat.reduceSub, Nat.reduceMul, Nat.reduceLeDiff, Nat.reduceEqDiff, Nat.reduceBEq, slA_snoc, slB_snoc, toks_len]
        rw [← ht2, renL_low0 (toks_low _)]
        simp [toks_low]
    · rw [if_pos he] at hF
      simp only [go_sem, Nat.reduceAdd, Nat.reduceSub, Nat.reduceMul, Nat.reduceLeDiff, Nat.reduceEqDiff, Nat.reduceBEq, nextA, tok_eq, he]
      refine EvK.go 1000 ?_
      rw [← hF]
      simp only [go_sem, Nat.reduceAdd, Nat.reduceSub, Nat.reduceMul, Nat.reduceLeDiff, Nat.reduceEqDiff, Nat.reduceBEq, allA, toks, List.map_nil]
      done
theorem run_all (p : UInt8 → Bool) : ∀ l : By, (runB p l = l.length ↔ l.all p = true)
  | [] => by simp [runB]
  | c :: l => by
    have ih := run_all p l
    simp only [runB, List.takeWhile_cons, List.all_cons] at ih ⊢
    cases hc : p c with
    | true => simp only [if_true, List.length_cons, Bool.true_and]; rw [← ih]; omega
    | false => simp
theorem run_cons (p : UInt8 → Bool) (c : UInt8) (l : By) : runB p (c :: l) = if p c = true then 1 + runB p l else 0 := by
  simp only [runB, List.takeWhile_cons]
  split
  · simp only [List.length_cons]; omega
  · rfl
end Go.Proofs

/- Texts cut into tokens: what a text says when it is cut at a token or white is put there. -/
set_option linter.unusedSimpArgs false
namespace Go.Proofs
open Go Go.Abs

def tokB (l : By) : Option (Int × By × Nat) :=
  if 0 < (nameB l).2.2 then (if 64 < (nameB l).2.1.length then none else some (nameB l))
  else match signL.find? (·.isPrefixOf l) with
    | some x => some (3, x, x.length)
    | none => none
theorem sign_find {l x : By} (h : signL.find? (·.isPrefixOf l) = some x) : x <+: l ∧ 1 ≤ x.length ∧ x ∈ signL := by
  have hx := List.find?_some h
  have hm := List.mem_of_find?_eq_some h
  have h3 : ∀ x ∈ signL, 1 ≤ x.length := by decide
  exact ⟨List.isPrefixOf_iff_prefix.1 hx, h3 _ hm, hm⟩
theorem tok_name {l : By} (h1 : 0 < (nameB l).2.2) (h2 : ¬ 64 < (nameB l).2.1.length) : tokB l = some (nameB l) := by
  rw [tokB, if_pos h1, if_neg h2]
theorem tok_long {l : By} (h1 : 0 < (nameB l).2.2) (h2 : 64 < (nameB l).2.1.length) : tokB l = none := by
  rw [tokB, if_pos h1, if_pos h2]
theorem tok_sign {l x : By} (h1 : ¬ 0 < (nameB l).2.2) (h2 : signL.find? (·.isPrefixOf l) = some x) : tokB l = some (3, x, x.length) := by
  rw [tokB, if_neg h1, h2]
theorem tok_none {l : By} (h1 : ¬ 0 < (nameB l).2.2) (h2 : signL.find? (·.isPrefixOf l) = none) : tokB l = none := by
  rw [tokB, if_neg h1, h2]
theorem tok_cases {l : By} {x : Int × By × Nat} (h : tokB l = some x) : (0 < (nameB l).2.2 ∧ ¬ 64 < (nameB l).2.1.length ∧ x = nameB l) ∨ (¬ 0 < (nameB l).2.2 ∧ ∃ u, signL.find? (·.isPrefixOf l) = some u ∧ x = (3, u, u.length)) := by
  by_cases h1 : 0 < (nameB l).2.2
  · by_cases h2 : 64 < (nameB l).2.1.length
    · rw [tok_long h1 h2] at h; cases h
    · rw [tok_name h1 h2] at h; cases h; exact .inl ⟨h1, h2, rfl⟩
  · cases h2 : signL.find? (·.isPrefixOf l) with
    | none => rw [tok_none h1 h2] at h; cases h
    | some u => rw [tok_sign h1 h2] at h; cases h; exact .inr ⟨h1, u, rfl, rfl⟩
theorem tok_len {l : By} {x : Int × By × Nat} (h : tokB l = some x) : 1 ≤ x.2.2 ∧ x.2.2 ≤ l.length := by
  rcases tok_cases h with ⟨h1, _, rfl⟩ | ⟨_, u, h2, rfl⟩
  · exact ⟨h1, name_le l⟩
  · obtain ⟨g1, g2, _⟩ := sign_find h2
    exact ⟨g2, g1.length_le⟩
theorem tok_nil : tokB [] = none := rfl
theorem name_kind (l : By) : (nameB l).1 ≠ 4 := by
  cases l with
  | nil => decide
  | cons c r =>
    have k0 : (0 : Int) ≠ 4 := by decide
    have k1 : (1 : Int) ≠ 4 := by decide
    have k2 : (2 : Int) ≠ 4 := by decide
    simp only [nameB]
    split
    · split <;> exact k0
    · split
      · exact k0
      · split
        · exact k0
        · split
          · exact k1
          · split
            · exact k2
            · exact k0
theorem tok_kind {l : By} {x : Int × By × Nat} (h : tokB l = some x) : x.1 ≠ 4 := by
  rcases tok_cases h with ⟨_, _, rfl⟩ | ⟨_, u, _, rfl⟩
  · exact name_kind l
  · exact (by decide : (3 : Int) ≠ 4)
theorem tok_start {c : UInt8} {r : By} {x : Int × By × Nat} (h : tokB (c :: r) = some x) : isW c = false ∧ c ≠ 37 ∧ c ≠ 47 := by
  have k1 : tokB (32 :: r) = none := rfl
  have k2 : tokB (9 :: r) = none := rfl
  have k3 : tokB (10 :: r) = none := rfl
  have k4 : tokB (13 :: r) = none := rfl
  have k5 : tokB (37 :: r) = none := rfl
  have k6 : tokB (47 :: r) = none := rfl
  have n1 : c ≠ 32 := fun e => by rw [e, k1] at h; cases h
  have n2 : c ≠ 9 := fun e => by rw [e, k2] at h; cases h
  have n3 : c ≠ 10 := fun e => by rw [e, k3] at h; cases h
  have n4 : c ≠ 13 := fun e => by rw [e, k4] at h; cases h
  refine ⟨?_, fun e => (by rw [e, k5] at h; cases h), fun e => (by rw [e, k6] at h; cases h)⟩
  simp [isW, n1, n2, n3, n4]
theorem skip_tok {l : By} {x : Int × By × Nat} (h : tokB l = some x) : skip l = l := by
  cases l with
  | nil => rfl
  | cons c r =>
    obtain ⟨h1, h2, h3⟩ := tok_start h
    exact skip_stop h1 h2 fun g => h3 g.1

/-! ### all tokens, each with what is left at it -/
def lexL : Nat → By → Option (List (Nat × Int × By))
  | 0, _ => none
  | k + 1, l => if skip l = [] then some [] else match tokB (skip l) with
    | none => none
    | some x => (lexL k ((skip l).drop x.2.2)).map (((skip l).length, x.1, x.2.1) :: ·)
theorem lexL_fuel : ∀ (n : Nat) (l : By) (k k' : Nat), l.length ≤ n → l.length < k → l.length < k' → lexL k l = lexL k' l
  | n, l, k + 1, k' + 1, h, h1, h2 => by
    simp only [lexL]
    by_cases hs : skip l = []
    · rw [if_pos hs, if_pos hs]
    · rw [if_neg hs, if_neg hs]
      cases ht : tokB (skip l) with
      | none => rfl
      | some x =>
        have hl := skip_len l
        obtain ⟨g1, g2⟩ := tok_len ht
        have hd : ((skip l).drop x.2.2).length < l.length := by rw [List.length_drop]; omega
        cases n with
        | zero => omega
        | succ n => simp only [lexL_fuel n ((skip l).drop x.2.2) k k' (by omega) (by omega) (by omega)]
def lex (l : By) : Option (List (Nat × Int × By)) := lexL (l.length + 1) l
theorem lex_end {l : By} (h : skip l = []) : lex l = some [] := by rw [lex, lexL, if_pos h]
theorem lex_bad {l : By} (h : skip l ≠ []) (ht : tokB (skip l) = none) : lex l = none := by rw [lex, lexL, if_neg h, ht]
theorem lex_tok {l : By} {x : Int × By × Nat} (ht : tokB (skip l) = some x) : lex l = (lex ((skip l).drop x.2.2)).map (((skip l).length, x.1, x.2.1) :: ·) := by
  have h : skip l ≠ [] := fun e => by rw [e, tok_nil] at ht; cases ht
  have hl := skip_len l
  obtain ⟨g1, g2⟩ := tok_len ht
  have hd : ((skip l).drop x.2.2).length < l.length := by rw [List.length_drop]; omega
  rw [lex, lexL, if_neg h, ht]
  simp only [lexL_fuel _ ((skip l).drop x.2.2) l.length (((skip l).drop x.2.2).length + 1) (Nat.le_refl _) hd (Nat.lt_succ_self _), lex]
theorem lex_skip {l l' : By} (h : skip l = skip l') : lex l = lex l' := by
  by_cases hs : skip l' = []
  · rw [lex_end hs, lex_end (h.trans hs)]
  · cases ht : tokB (skip l') with
    | none => rw [lex_bad hs ht, lex_bad (by rw [h]; exact hs) (by rw [h]; exact ht)]
    | some x => rw [lex_tok ht, lex_tok (l := l) (by rw [h]; exact ht), h]
theorem lex_le : ∀ (n : Nat) (l : By) (L : List (Nat × Int × By)), l.length ≤ n → lex l = some L → (∀ a ∈ L, a.1 ≤ l.length) ∧ L.Pairwise fun a b => b.1 < a.1
  | n, l, L, h, hL => by
    by_cases hs : skip l = []
    · rw [lex_end hs] at hL; cases hL; exact ⟨fun a ha => (by cases ha), .nil⟩
    · cases ht : tokB (skip l) with
      | none => rw [lex_bad hs ht] at hL; cases hL
      | some x =>
        rw [lex_tok ht] at hL
        cases hM : lex ((skip l).drop x.2.2) with
        | none => rw [hM] at hL; cases hL
        | some M =>
          rw [hM] at hL
          cases hL
          have hl := skip_len l
          obtain ⟨g1, g2⟩ := tok_len ht
          have hd : ((skip l).drop x.2.2).length = (skip l).length - x.2.2 := List.length_drop
          cases n with
          | zero => omega
          | succ n =>
            obtain ⟨i1, i2⟩ := lex_le n _ M (by omega) hM
            refine ⟨fun a ha => ?_, .cons (fun b hb => ?_) i2⟩
            · rcases List.mem_cons.1 ha with rfl | ha
              · exact hl
              · have := i1 a ha; omega
            · have := i1 b hb
              simp only; omega

theorem lex_pos : ∀ (n : Nat) (l : By) (L : List (Nat × Int × By)), l.length ≤ n → lex l = some L → ∀ a ∈ L, 1 ≤ a.1
  | n, l, L, h, hL => by
    by_cases hs : skip l = []
    · rw [lex_end hs] at hL; cases hL; exact fun a ha => (by cases ha)
    · cases ht : tokB (skip l) with
      | none => rw [lex_bad hs ht] at hL; cases hL
      | some x =>
        rw [lex_tok ht] at hL
        cases hM : lex ((skip l).drop x.2.2) with
        | none => rw [hM] at hL; cases hL
        | some M =>
          rw [hM] at hL
          cases hL
          have hl := skip_len l
          obtain ⟨g1, g2⟩ := tok_len ht
          have hd : ((skip l).drop x.2.2).length = (skip l).length - x.2.2 := List.length_drop
          cases n with
          | zero => omega
          | succ n =>
            intro a ha
            rcases List.mem_cons.1 ha with rfl | ha
            · simp only; omega
            · exact lex_pos n _ M (by omega) hM a ha

/-! ### what Next and All say -/
def tokAt (N : Nat) (a : Nat × Int × By) : Tok := ⟨a.2.1, (N : Int) - a.1, a.2.2⟩
theorem next_end {s : By} {i : Nat} (hi : i ≤ s.length) (h : skip (s.drop i) = []) : nextB s i = ((⟨4, (s.length : Int), []⟩, (s.length : Int), 0) : Tok × Int × Int) := by
  rw [nextB, if_neg (by omega), Int.toNat_natCast, if_pos h]
theorem next_tok {s : By} {i : Nat} (hi : i ≤ s.length) {x : Int × By × Nat} (h : tokB (skip (s.drop i)) = some x) :
    nextB s i = (⟨x.1, (s.length : Int) - (skip (s.drop i)).length, x.2.1⟩, (s.length : Int) - (skip (s.drop i)).length + x.2.2, 0) := by
  have hs : skip (s.drop i) ≠ [] := fun e => by rw [e, tok_nil] at h; cases h
  rw [nextB, if_neg (by omega), Int.toNat_natCast, if_neg hs]
  rcases tok_cases h with ⟨h1, h2, rfl⟩ | ⟨h1, u, h2, rfl⟩
  · rw [if_pos h1, if_neg h2]
  · rw [if_neg h1, h2]
theorem next_bad {s : By} {i : Nat} (hi : i ≤ s.length) (hs : skip (s.drop i) ≠ []) (h : tokB (skip (s.drop i)) = none) :
    (nextB s i).2.2 ≠ 0 ∧ 0 ≤ (nextB s i).2.1 ∧ (nextB s i).2.1 ≤ s.length := by
  have hl := skip_len (s.drop i)
  rw [List.length_drop] at hl
  rw [nextB, if_neg (by omega), Int.toNat_natCast, if_neg hs]
  by_cases h1 : 0 < (nameB (skip (s.drop i))).2.2
  · by_cases h2 : 64 < (nameB (skip (s.drop i))).2.1.length
    · rw [if_pos h1, if_pos h2]
      exact ⟨by simp, by simp only; omega, by simp only; omega⟩
    · rw [tok_name h1 h2] at h; cases h
  · cases h2 : signL.find? (·.isPrefixOf (skip (s.drop i))) with
    | some u => rw [tok_sign h1 h2] at h; cases h
    | none =>
      rw [if_neg h1]
      exact ⟨by simp, by simp only; omega, by simp only; omega⟩
theorem drop_skip {s : By} {i : Nat} (hi : i ≤ s.length) : s.drop (s.length - (skip (s.drop i)).length) = skip (s.drop i) := by
  obtain ⟨q, hq⟩ := skip_suffix _ (s.drop i) (Nat.le_refl _)
  have : s = (s.take i ++ q) ++ skip (s.drop i) := by rw [List.append_assoc, ← hq, List.take_append_drop]
  have h2 := suffix_drop this
  exact h2
theorem allF_lex (s : By) : ∀ (k i : Nat) (out : List Tok), i ≤ s.length → s.length - i < k →
    (lex (s.drop i) = none → ∃ p e : Int, e ≠ 0 ∧ 0 ≤ p ∧ p ≤ s.length ∧ allF s k i out = ([], p, e)) ∧
    ∀ L, lex (s.drop i) = some L → allF s k i out = (out ++ L.map (tokAt s.length), (s.length : Int), 0)
  | k + 1, i, out, hi, hk => by
    simp only [allF]
    by_cases hs : skip (s.drop i) = []
    · rw [lex_end hs, next_end hi hs]
      refine ⟨fun h => (by cases h), fun L hL => ?_⟩
      cases hL
      simp
    · cases ht : tokB (skip (s.drop i)) with
      | none =>
        obtain ⟨b1, b2, b3⟩ := next_bad hi hs ht
        rw [lex_bad hs ht, if_pos b1]
        exact ⟨fun _ => ⟨_, _, b1, b2, b3, rfl⟩, fun L hL => by cases hL⟩
      | some x =>
        have hl := skip_len (s.drop i)
        rw [List.length_drop] at hl
        obtain ⟨g1, g2⟩ := tok_len ht
        have hds := drop_skip hi
        have hn : (s.length : Int) - (skip (s.drop i)).length + x.2.2 = ((s.length - (skip (s.drop i)).length + x.2.2 : Nat) : Int) := by omega
        have ih := allF_lex s k (s.length - (skip (s.drop i)).length + x.2.2) (out ++ [⟨x.1, (s.length : Int) - (skip (s.drop i)).length, x.2.1⟩]) (by omega) (by omega)
        rw [← List.drop_drop, hds] at ih
        rw [lex_tok ht, next_tok hi ht]
        simp only
        rw [if_neg (by simp), if_neg (tok_kind ht), hn]
        refine ⟨fun h => ih.1 ?_, fun L hL => ?_⟩
        · cases hM : lex ((skip (s.drop i)).drop x.2.2) with
          | none => rfl
          | some M => rw [hM] at h; cases h
        · cases hM : lex ((skip (s.drop i)).drop x.2.2) with
          | none => rw [hM] at hL; cases hL
          | some M =>
            rw [hM] at hL
            cases hL
            rw [ih.2 M hM, List.map_cons, List.append_assoc]
            rfl
theorem allB_none {s : By} (hs : s.length ≤ 65536) (h : lex s = none) : ∃ p e : Int, e ≠ 0 ∧ 0 ≤ p ∧ p ≤ s.length ∧ allB s = ([], p, e) := by
  rw [allB, if_neg (by omega)]
  exact (allF_lex s (s.length + 1) 0 [] (Nat.zero_le _) (by omega)).1 h
theorem allB_some {s : By} (hs : s.length ≤ 65536) {L : List (Nat × Int × By)} (h : lex s = some L) : allB s = (L.map (tokAt s.length), (s.length : Int), 0) := by
  rw [allB, if_neg (by omega)]
  exact (allF_lex s (s.length + 1) 0 [] (Nat.zero_le _) (by omega)).2 L h
end Go.Proofs

/- Texts cut into tokens: the cut. -/
set_option linter.unusedSimpArgs false
namespace Go.Proofs
open Go Go.Abs

theorem cut_local : ∀ (G r b : By), cutC (G ++ r) = some b → r.length ≤ b.length → ∃ G2 : By, b = G2 ++ r ∧ G2.length ≤ G.length ∧ ∀ Z, cutC (G ++ Z) = some (G2 ++ Z)
  | [], r, b, h, hb => by
    have := cutC_len h
    simp only [List.nil_append] at this
    omega
  | c :: G, r, b, h, hb => by
    simp only [List.cons_append, cutC] at h
    by_cases hc : c = 42 ∧ (G ++ r).head? = some 47
    · rw [if_pos hc] at h
      cases h
      cases G with
      | nil =>
        simp only [List.nil_append] at hb hc
        cases r with
        | nil => simp at hc
        | cons e r => simp at hb; omega
      | cons d G =>
        refine ⟨G, rfl, by simp only [List.length_cons]; omega, fun Z => ?_⟩
        simp only [List.cons_append, cutC]
        rw [if_pos ⟨hc.1, hc.2⟩]
        rfl
    · rw [if_neg hc] at h
      obtain ⟨G2, h1, h2, h3⟩ := cut_local G r b h hb
      refine ⟨G2, h1, by simp only [List.length_cons]; omega, fun Z => ?_⟩
      cases G with
      | nil =>
        have := cutC_len h
        simp only [List.nil_append] at this
        omega
      | cons d G =>
        have e : cutC (c :: (d :: (G ++ Z))) = if c = 42 ∧ (d :: (G ++ Z)).head? = some 47 then some ((d :: (G ++ Z)).drop 1) else cutC (d :: (G ++ Z)) := rfl
        rw [List.cons_append, List.cons_append, e, if_neg (show ¬(c = 42 ∧ (d :: (G ++ Z)).head? = some 47) from hc)]
        exact h3 Z
theorem gap_keep : ∀ (n : Nat) (G r Z : By), G.length ≤ n → r ≠ [] → skip (G ++ r) = r → skip (G ++ Z) = skip Z
  | n, [], r, Z, _, _, _ => rfl
  | n + 1, c :: G, r, Z, hn, hr, h => by
    simp only [List.length_cons] at hn
    rw [List.cons_append] at h ⊢
    have hlen : (c :: (G ++ r)).length = G.length + r.length + 1 := by simp
    cases hw : isW c with
    | true =>
      rw [skip_white hw] at h ⊢
      exact gap_keep n G r Z (by omega) hr h
    | false =>
      by_cases c37 : c = 37
      · subst c37
        rw [skip_pct] at h ⊢
        rw [List.dropWhile_append] at h ⊢
        by_cases he : (G.dropWhile (· != 10)).isEmpty = true
        · rw [if_pos he] at h
          have h1 := skip_len (r.dropWhile (· != 10))
          have h2 := dropW_len (p := (· != 10)) r
          rw [h] at h1
          have h3 : r.dropWhile (· != 10) = r := (List.dropWhile_suffix _).eq_of_length (by omega)
          rw [h3] at h
          cases r with
          | nil => exact absurd rfl hr
          | cons e r =>
            have he10 : e = 10 := by
              by_cases h10 : e = 10
              · exact h10
              · rw [List.dropWhile_cons_of_pos (by simpa using h10)] at h3
                have := dropW_len (p := (· != 10)) r
                rw [h3] at this
                simp only [List.length_cons] at this
                omega
            subst he10
            rw [skip_white rfl] at h
            have := skip_len r
            rw [h] at this
            simp only [List.length_cons] at this
            omega
        · rw [if_neg he] at h ⊢
          have := dropW_len (p := (· != 10)) G
          exact gap_keep n _ r Z (by omega) hr h
      · by_cases c3 : c = 47 ∧ (G ++ r).head? = some 42
        · obtain ⟨rfl, c4⟩ := c3
          cases G with
          | nil =>
            simp only [List.nil_append] at c4 h
            cases r with
            | nil => exact absurd rfl hr
            | cons e r =>
              simp at c4
              subst c4
              cases hc : cutC r with
              | none =>
                rw [skip_open hc] at h
                have := congrArg List.length h
                simp at this
              | some b =>
                rw [skip_cmt hc] at h
                have := cutC_len hc
                have h2 := skip_len b
                rw [h] at h2
                simp only [List.length_cons] at h2
                omega
          | cons d G =>
            simp at c4
            subst c4
            rw [List.cons_append] at h ⊢
            cases hc : cutC (G ++ r) with
            | none =>
              rw [skip_open hc] at h
              have := congrArg List.length h
              simp at this
              omega
            | some b =>
              rw [skip_cmt hc] at h
              have h2 := skip_len b
              rw [h] at h2
              obtain ⟨G2, h3, h4, h5⟩ := cut_local G r b hc h2
              rw [skip_cmt (h5 Z)]
              rw [h3] at h
              simp only [List.length_cons] at hn
              exact gap_keep n G2 r Z (by omega) hr h
        · rw [skip_stop hw c37 c3] at h
          have := congrArg List.length h
          rw [hlen] at this
          omega

theorem quote_local : ∀ (n : Nat) (w v acc t : By), w.length ≤ n → quoteB acc (w ++ v) = some (t, v) → ∀ v', quoteB acc (w ++ v') = some (t, v')
  | n, [], v, acc, t, _, h, v' => by
    have := quoteB_len _ v acc (t, v) (Nat.le_refl _) h
    simp only at this
    omega
  | n + 1, c :: w, v, acc, t, hn, h, v' => by
    simp only [List.length_cons] at hn
    rw [List.cons_append] at h ⊢
    by_cases c39 : c = 39
    · subst c39
      rw [quoteB_39] at h ⊢
      by_cases ha : acc = []
      · rw [if_pos ha] at h; cases h
      · rw [if_neg ha] at h ⊢
        have h1 := Option.some.inj h
        have h2 : w = [] := by
          have := congrArg (fun x => x.2.length) h1
          simp at this
          exact this
        have h3 : acc = t := congrArg Prod.fst h1
        rw [h2, h3]; rfl
    · by_cases cb : c.toNat < 32 ∨ 126 < c.toNat
      · rw [quoteB_bad c39 cb] at h; cases h
      · by_cases c92 : c = 92
        · subst c92
          cases w with
          | nil =>
            rw [List.nil_append] at h
            cases v with
            | nil => cases h
            | cons e v =>
              rw [quoteB_two] at h
              by_cases he : e = 92 ∨ e = 39
              · rw [if_pos he] at h
                have := quoteB_len _ v _ (t, e :: v) (Nat.le_refl _) h
                simp at this
                omega
              · rw [if_neg he] at h; cases h
          | cons d w =>
            rw [List.cons_append, quoteB_two] at h ⊢
            by_cases hd : d = 92 ∨ d = 39
            · rw [if_pos hd] at h ⊢
              simp only [List.length_cons] at hn
              exact quote_local n w v _ t (by omega) h v'
            · rw [if_neg hd] at h; cases h
        · rw [quoteB_one c39 cb c92] at h ⊢
          exact quote_local n w v _ t (by omega) h v'

theorem quoteB_suffix : ∀ (n : Nat) (l acc : By) (x : By × By), l.length ≤ n → quoteB acc l = some x → ∃ e : By, l = e ++ x.2
  | n, [], acc, x, _, h => by rw [quoteB_nil] at h; cases h
  | n + 1, c :: r, acc, x, hn, h => by
    simp only [List.length_cons] at hn
    by_cases c39 : c = 39
    · subst c39
      rw [quoteB_39] at h
      split at h
      · cases h
      · cases h; exact ⟨[39], rfl⟩
    · by_cases cb : c.toNat < 32 ∨ 126 < c.toNat
      · rw [quoteB_bad c39 cb] at h; cases h
      · by_cases c92 : c = 92
        · subst c92
          cases r with
          | nil => rw [quoteB_92] at h; cases h
          | cons d r =>
            rw [quoteB_two] at h
            split at h
            · simp only [List.length_cons] at hn
              obtain ⟨e, he⟩ := quoteB_suffix n r _ x (by omega) h
              exact ⟨92 :: d :: e, by rw [List.cons_append, List.cons_append, ← he]⟩
            · cases h
        · rw [quoteB_one c39 cb c92] at h
          obtain ⟨e, he⟩ := quoteB_suffix n r _ x (by omega) h
          exact ⟨c :: e, by rw [List.cons_append, ← he]⟩
/-- What may stand behind a cut. -/
def okZ (z : By) : Prop := z = [] ∨ ∃ c u, z = c :: u ∧ (c = 32 ∨ c = 10)
theorem run_zero {p : UInt8 → Bool} (h32 : ∀ c, c = 32 ∨ c = 10 → p c = false) {y z z' : By} (hz : okZ z') (h : runB p (y ++ z) = 0) : runB p (y ++ z') = 0 := by
  cases y with
  | nil =>
    rcases hz with rfl | ⟨c, u, rfl, hc⟩
    · rfl
    · simp [runB, List.takeWhile_cons, h32 c hc]
  | cons d y =>
    simp only [List.cons_append, runB, List.takeWhile_cons] at h ⊢
    cases hd : p d with
    | true => rw [hd] at h; simp at h
    | false => simp
theorem run_app {p : UInt8 → Bool} (w v : By) : runB p (w ++ v) = if w.all p = true then w.length + runB p v else runB p w := by
  induction w with
  | nil => simp [runB]
  | cons c w ih =>
    simp only [runB, List.cons_append, List.takeWhile_cons, List.all_cons] at ih ⊢
    cases hc : p c with
    | false => simp
    | true =>
      simp only [if_true, List.length_cons, Bool.true_and, ih]
      split <;> omega
theorem run_keep {p : UInt8 → Bool} (h32 : ∀ c, c = 32 ∨ c = 10 → p c = false) {w y z z' : By} (hz : okZ z') (h : runB p (w ++ (y ++ z)) = w.length) : runB p (w ++ (y ++ z')) = w.length := by
  rw [run_app] at h ⊢
  by_cases ha : w.all p = true
  · rw [if_pos ha] at h ⊢
    rw [run_zero h32 hz (by omega : runB p (y ++ z) = 0)]; rfl
  · rw [if_neg ha] at h
    exact absurd ((run_all p w).1 h) ha
theorem take_app (w v : By) : (w ++ v).take w.length = w := List.take_left
theorem find_mono {p p' : By → Bool} {u : By} : ∀ {l : List By}, (∀ y ∈ l, p' y = true → p y = true) → l.find? p = some u → p' u = true → l.find? p' = some u
  | y :: l, hm, h, hu => by
    rw [List.find?_cons] at h ⊢
    cases hy : p y with
    | true =>
      rw [hy] at h
      cases h
      rw [hu]
    | false =>
      rw [hy] at h
      have hy' : p' y = false := by
        cases h' : p' y with
        | false => rfl
        | true => rw [hm y List.mem_cons_self h'] at hy; cases hy
      rw [hy']
      exact find_mono (fun x hx => hm x (List.mem_cons_of_mem _ hx)) h hu
theorem pre_cut {x A z z' : By} (h32 : ∀ c, c = 32 ∨ c = 10 → (c : UInt8) ∉ x) (hz : okZ z') (h : x <+: A ++ z') : x <+: A ++ z := by
  have hA : x <+: A := by
    rcases hz with rfl | ⟨c, u, rfl, hc⟩
    · rwa [List.append_nil] at h
    · obtain ⟨q, hq⟩ := h
      rcases List.append_eq_append_iff.1 hq with ⟨a, h1, h2⟩ | ⟨a, h1, h2⟩
      · exact ⟨a, h1.symm⟩
      · cases a with
        | nil => exact ⟨[], by rw [List.append_nil, h1, List.append_nil]⟩
        | cons e a =>
          rw [List.cons_append] at h2
          have he := (List.cons.inj h2).1
          exact absurd (by rw [h1, he]; simp) (h32 c hc)
  exact hA.trans (List.prefix_append _ _)

theorem tok_keep {w y z z' : By} {x : Int × By × Nat} (h : tokB (w ++ (y ++ z)) = some x) (hw : w.length = x.2.2) (hz : okZ z') : tokB (w ++ (y ++ z')) = some x := by
  obtain ⟨g1, g2⟩ := tok_len h
  cases w with
  | nil => simp only [List.length_nil] at hw; omega
  | cons c w =>
    rcases tok_cases h with ⟨h1, h2, rfl⟩ | ⟨h1, u, h2, rfl⟩
    · have key : nameB (c :: w ++ (y ++ z')) = nameB (c :: w ++ (y ++ z)) := by
        rw [List.cons_append] at h1 hw ⊢
        rw [List.cons_append]
        by_cases c39 : c = 39
        · subst c39
          cases hq : quoteB [] (w ++ (y ++ z)) with
          | none => rw [name_q0 hq] at h1; simp at h1
          | some q =>
            rw [name_q1 hq] at hw ⊢
            have hql := quoteB_len _ _ _ _ (Nat.le_refl _) hq
            have hsf : q.2 = y ++ z := by
              obtain ⟨e, he⟩ := quoteB_suffix _ _ _ _ (Nat.le_refl _) hq
              have hl : q.2.length = (y ++ z).length := by
                simp only [List.length_append, List.length_cons] at hw hql ⊢; omega
              exact (List.append_inj' he.symm hl).2
            have hq' : quoteB [] (w ++ (y ++ z)) = some (q.1, y ++ z) := by rw [hq, ← hsf]
            have := quote_local _ w (y ++ z) [] q.1 (Nat.le_refl _) hq' (y ++ z')
            rw [name_q1 this, hsf]
            simp only [List.length_append]
            congr 2
            omega
        · cases cd : digitB c with
          | true =>
            rw [name_d c39 cd] at hw ⊢
            rw [name_d c39 cd]
            have hk := run_keep (p := digitB) (by rintro c (rfl | rfl) <;> rfl) hz (w := c :: w) hw.symm
            rw [List.cons_append] at hk
            simp only at hw
            rw [hk, ← hw, ← List.cons_append, ← List.cons_append, take_app, take_app]
          | false =>
          cases cs : smallB c with
          | true =>
            rw [name_s c39 cd cs] at hw ⊢
            rw [name_s c39 cd cs]
            have hk := run_keep (p := onB) (by rintro c (rfl | rfl) <;> rfl) hz (w := c :: w) hw.symm
            rw [List.cons_append] at hk
            simp only at hw
            rw [hk, ← hw, ← List.cons_append, ← List.cons_append, take_app, take_app]
          | false =>
          cases cg : greatB c with
          | true =>
            rw [name_g c39 cd cs cg] at hw ⊢
            rw [name_g c39 cd cs cg]
            have hk := run_keep (p := onB) (by rintro c (rfl | rfl) <;> rfl) hz (w := c :: w) hw.symm
            rw [List.cons_append] at hk
            simp only at hw
            rw [hk, ← hw, ← List.cons_append, ← List.cons_append, take_app, take_app]
          | false =>
          by_cases c36 : c = 36
          · subst c36
            cases w with
            | nil =>
              rw [List.nil_append] at h1 hw
              cases hyz : y ++ z with
              | nil => rw [hyz] at h1; exact absurd h1 (by decide)
              | cons d v =>
                rw [hyz] at h1 hw
                cases sd : smallB d with
                | true =>
                  rw [name_y sd] at hw
                  simp only [List.length_cons, List.length_nil] at hw
                  have : 0 < runB onB (d :: v) := by rw [run_cons, show onB d = true by simp [onB, sd], if_pos rfl]; omega
                  omega
                | false => rw [name_y0 sd] at h1; simp at h1
            | cons d w =>
              rw [List.cons_append] at h1 hw ⊢
              rw [List.cons_append]
              cases sd : smallB d with
              | false => rw [name_y0 sd] at h1; simp at h1
              | true =>
                rw [name_y sd] at hw ⊢
                rw [name_y sd]
                simp only [List.length_cons] at hw
                have hr : runB onB (d :: w ++ (y ++ z)) = (d :: w).length := by rw [List.cons_append, List.length_cons]; omega
                have hk := run_keep (p := onB) (by rintro c (rfl | rfl) <;> rfl) hz (w := d :: w) hr
                rw [List.cons_append] at hk hr
                rw [hk, hr]
                have ht : ∀ v : By, (36 :: d :: (w ++ v)).take (1 + (d :: w).length) = 36 :: d :: w := fun v => by
                  have := take_app (36 :: d :: w) v
                  rw [List.length_cons] at this
                  rw [Nat.add_comm]; exact this
                rw [ht, ht]
          · rw [name_n c39 cd cs cg c36] at h1; simp at h1
      rw [tok_name (by rw [key]; exact h1) (by rw [key]; exact h2), key]
    · obtain ⟨p1, p2, p3⟩ := sign_find h2
      have hwu : c :: w = u := by
        obtain ⟨q, hq⟩ := p1
        exact (List.append_inj hq (by simpa using hw.symm)).1.symm
      have hsg : ∀ u ∈ signL, ((32 : UInt8) ∉ u ∧ (10 : UInt8) ∉ u) ∧ ∀ e ∈ u.head?, e ≠ 39 ∧ digitB e = false ∧ smallB e = false ∧ greatB e = false ∧ e ≠ 36 := by decide
      have hc := (hsg u p3).2 c (by rw [← hwu]; rfl)
      refine tok_sign ?_ ?_
      · rw [List.cons_append, name_n hc.1 hc.2.1 hc.2.2.1 hc.2.2.2.1 hc.2.2.2.2]
        decide
      · refine find_mono (fun x hx hp => ?_) h2 ?_
        · rw [List.isPrefixOf_iff_prefix] at hp ⊢
          rw [← List.append_assoc] at hp ⊢
          exact pre_cut (by rintro c (rfl | rfl); exact (hsg x hx).1.1; exact (hsg x hx).1.2) hz hp
        · rw [List.isPrefixOf_iff_prefix, hwu]
          exact List.prefix_append _ _
end Go.Proofs

/- Texts cut into tokens: a text cut at a token, white put there, a name quoted. -/
set_option linter.unusedSimpArgs false
namespace Go.Proofs
open Go Go.Abs

theorem lex_cut : ∀ (n : Nat) (P Q : By) (L1 L2 : List (Nat × Int × By)) (b : Nat × Int × By), P.length ≤ n → lex (P ++ Q) = some (L1 ++ b :: L2) → b.1 = Q.length → 1 ≤ b.1 → (∀ a ∈ L1, Q.length < a.1) →
    lex Q = some (b :: L2) ∧ ∀ Z, okZ Z → lex (P ++ Z) = (lex Z).map (fun M => L1.map (fun a => (a.1 - Q.length + Z.length, a.2)) ++ M)
  | n, P, Q, L1, L2, b, hn, h, hb, hb1, h1 => by
    obtain ⟨G, hG⟩ := skip_suffix _ (P ++ Q) (Nat.le_refl _)
    have hQ : Q ≠ [] := fun e => by rw [e] at hb; simp only [List.length_nil] at hb; omega
    by_cases hs : skip (P ++ Q) = []
    · rw [lex_end hs] at h
      have := congrArg (fun x => x.map List.length) h
      simp at this
    cases ht : tokB (skip (P ++ Q)) with
    | none => rw [lex_bad hs ht] at h; cases h
    | some x =>
      have h' := h
      rw [lex_tok ht] at h'
      cases hM : lex ((skip (P ++ Q)).drop x.2.2) with
      | none => rw [hM] at h'; cases h'
      | some M =>
      rw [hM] at h'
      have h2 := Option.some.inj h'
      cases L1 with
      | nil =>
        rw [List.nil_append] at h2
        obtain ⟨e1, e2⟩ := List.cons.inj h2
        have hl : (skip (P ++ Q)).length = Q.length := by rw [← hb, ← e1]
        obtain ⟨g1, g2⟩ := List.append_inj' hG hl.symm
        rw [← g2] at ht hs
        have hsq : skip (P ++ Q) = Q := g2.symm
        refine ⟨?_, fun Z hZ => ?_⟩
        · rw [lex_skip ((skip_tok ht).trans hsq.symm), h]; rfl
        · have := gap_keep _ P Q Z (Nat.le_refl _) hQ hsq
          rw [lex_skip this]
          cases lex Z <;> simp
      | cons a L1 =>
        rw [List.cons_append] at h2
        obtain ⟨e1, e2⟩ := List.cons.inj h2
        have ha := h1 a List.mem_cons_self
        have hla : (skip (P ++ Q)).length = a.1 := by rw [← e1]
        obtain ⟨g1, g2⟩ := tok_len ht
        have hle := (lex_le _ _ _ (Nat.le_refl _) hM).1 b (by rw [e2]; simp)
        rw [List.length_drop] at hle
        -- the text from the token on
        obtain ⟨P', hP⟩ : ∃ P', P = G ++ P' ∧ skip (P ++ Q) = P' ++ Q := by
          rcases List.append_eq_append_iff.1 hG with ⟨w, k1, k2⟩ | ⟨w, k1, k2⟩
          · have := congrArg List.length k2
            rw [List.length_append] at this
            have hw : w = [] := List.length_eq_zero_iff.1 (by omega)
            subst hw
            refine ⟨[], by rw [List.append_nil] at k1 ⊢; exact k1.symm, ?_⟩
            rw [List.nil_append] at k2 ⊢; exact k2.symm
          · exact ⟨w, k1, k2⟩
        obtain ⟨p1, p2⟩ := hP
        rw [p2] at ht hla hM g2 hle
        rw [List.length_append] at hla g2 hle
        have hm : x.2.2 ≤ P'.length := by omega
        have hPw : P'.take x.2.2 ++ P'.drop x.2.2 = P' := List.take_append_drop _ _
        have hwl : (P'.take x.2.2).length = x.2.2 := by rw [List.length_take]; omega
        have hdq : (P' ++ Q).drop x.2.2 = P'.drop x.2.2 ++ Q := List.drop_append_of_le_length hm
        have hpl : P.length = G.length + P'.length := by rw [p1, List.length_append]
        rw [hdq, e2] at hM
        cases n with
        | zero => omega
        | succ n =>
          have ih := lex_cut n (P'.drop x.2.2) Q L1 L2 b (by rw [List.length_drop]; omega) hM hb hb1 fun c hc => h1 c (List.mem_cons_of_mem _ hc)
          refine ⟨ih.1, fun Z hZ => ?_⟩
          have hgap := gap_keep _ G (P' ++ Q) (P' ++ Z) (Nat.le_refl _) (by intro e; exact hQ (List.append_eq_nil_iff.1 e).2) (by rw [← List.append_assoc, ← p1, p2])
          have htk : tokB (P' ++ Z) = some x := by
            have := tok_keep (w := P'.take x.2.2) (y := P'.drop x.2.2) (z := Q) (z' := Z) (by rw [← List.append_assoc, hPw]; exact ht) hwl hZ
            rwa [← List.append_assoc, hPw] at this
          have hsk : skip (P ++ Z) = P' ++ Z := by rw [p1, List.append_assoc, hgap, skip_tok htk]
          rw [lex_tok (by rw [hsk]; exact htk), hsk, List.drop_append_of_le_length hm, ih.2 Z hZ, Option.map_map]
          congr 1
          funext M
          simp only [Function.comp_apply, List.map_cons, List.cons_append, List.length_append]
          congr 1
          rw [← e1]
          simp only [Prod.mk.injEq, and_true, p2, List.length_append]
          omega

theorem lex_at {s : By} {L1 L2 : List (Nat × Int × By)} {b : Nat × Int × By} (h : lex s = some (L1 ++ b :: L2)) :
    ∃ P Q : By, s = P ++ Q ∧ b.1 = Q.length ∧ 1 ≤ b.1 ∧ ∀ a ∈ L1, Q.length < a.1 := by
  have hl := lex_le _ s _ (Nat.le_refl _) h
  have hb := hl.1 b (by simp)
  refine ⟨s.take (s.length - b.1), s.drop (s.length - b.1), (List.take_append_drop _ _).symm, by rw [List.length_drop]; omega, lex_pos _ s _ (Nat.le_refl _) h b (by simp), fun a ha => ?_⟩
  rw [List.length_drop]
  have := (List.pairwise_append.1 hl.2).2.2 a ha b List.mem_cons_self
  omega

def whiteB : By := [32, 47, 42, 32, 40, 32, 42, 47, 32, 37, 32, 41, 10]
theorem skip_whiteB (x : By) : skip (whiteB ++ x) = skip x := by
  show skip (32 :: 47 :: 42 :: 32 :: 40 :: 32 :: 42 :: 47 :: 32 :: 37 :: 32 :: 41 :: 10 :: x) = skip x
  rw [skip_white rfl, skip_cmt (b := 32 :: 37 :: 32 :: 41 :: 10 :: x) rfl, skip_white rfl, skip_pct]
  show skip (10 :: x) = skip x
  exact skip_white rfl
end Go.Proofs

/- A grammar's formulas read from tokens, as plain Lean. -/
namespace Go.Proofs
open Go Go.Abs

abbrev Er := Int × Int
abbrev PR (α : Type) := Except Er (α × List Tok)

def hereP (E : Int) : List Tok → Int
  | [] => E
  | t :: _ => t.at'
def oddP (E : Int) : List Tok → Er
  | [] => (5, E)
  | t :: _ => (4, t.at')
def isP (sg : By) : List Tok → Bool
  | [] => false
  | t :: _ => decide (t.kind = 3) && decide (t.text = sg)
def kindP : List Tok → Int
  | [] => 4
  | t :: _ => t.kind
def textP : List Tok → By
  | [] => []
  | t :: _ => t.text
def signP (E : Int) (sg : By) (l : List Tok) : PR Unit := if isP sg l = true then .ok ((), l.tail) else .error (oddP E l)
def nameP (E : Int) (k : Int) (l : List Tok) : PR By := if kindP l = k ∧ l ≠ [] then .ok (textP l, l.tail) else .error (oddP E l)

def PR.bind {α β : Type} (x : PR α) (f : α → List Tok → PR β) : PR β :=
  match x with
  | .ok (a, l) => f a l
  | .error e => .error e

/-- While a sign follows: one more. -/
def moreP {α : Type} (sg : By) (u : List Tok → PR α) : Nat → List α → List Tok → PR (List α)
  | 0, acc, l => .ok (acc, l)
  | k + 1, acc, l => if isP sg l = true then PR.bind (u l.tail) fun x l' => moreP sg u k (acc ++ [x]) l' else .ok (acc, l)

def wdZ : Wd := .mk false ⟨#[]⟩ []
def foZ : Fo := .mk 0 wdZ wdZ [] []
def notF (f : Fo) : Fo := .mk 2 wdZ wdZ [] [f]
def twoF (k : Int) (a b : Fo) : Fo := .mk k wdZ wdZ [] [a, b]

def termF (E : Int) (u : List Tok → PR Wd) (l : List Tok) : PR Wd :=
  if kindP l = 1 then PR.bind (nameP E 1 l) fun n l => .ok (.mk true (ofB n) [], l) else
  PR.bind (nameP E 0 l) fun n l =>
    if isP [40] l = true then
      PR.bind (u l.tail) fun a l => PR.bind (moreP [44] u l.length [a] l) fun ws l => PR.bind (signP E [41] l) fun _ l => .ok (.mk false (ofB n) ws, l)
    else .ok (.mk false (ofB n) [], l)
def termP (E : Int) : Nat → List Tok → PR Wd
  | 0, l => .error (7, hereP E l)
  | n + 1, l => termF E (termP E n) l

def systemP (E : Int) (l : List Tok) : PR Fo :=
  if textP l = [36, 116, 114, 117, 101] then .ok (.mk 9 wdZ wdZ [] [], l.tail) else
  if textP l = [36, 102, 97, 108, 115, 101] then .ok (.mk 10 wdZ wdZ [] [], l.tail) else .error (4, hereP E l)

def atomP (E : Int) (n : Nat) (l : List Tok) : PR Fo :=
  if kindP l = 2 then systemP E l else
  PR.bind (termP E n l) fun a l =>
    if isP [61] l = true then PR.bind (termP E n l.tail) fun b l => .ok (.mk 1 a b [] [], l) else
    if isP [33, 61] l = true then PR.bind (termP E n l.tail) fun b l => .ok (notF (.mk 1 a b [] []), l) else
    if a.var = true then .error (oddP E l) else .ok (.mk 0 a wdZ [] [], l)

def boundP (E : Int) (u : List Tok → PR Fo) (k : Int) (l : List Tok) : PR Fo :=
  PR.bind (signP E [91] l) fun _ l => PR.bind (nameP E 1 l) fun v l => PR.bind (moreP [44] (nameP E 1) l.length [v] l) fun vs l =>
    PR.bind (signP E [93] l) fun _ l => PR.bind (signP E [58] l) fun _ l => PR.bind (u l) fun f l => .ok (.mk k wdZ wdZ (vs.map ofB) [f], l)

def chainP (u : List Tok → PR Fo) (sg : By) (k : Int) (a : Fo) (l : List Tok) : PR Fo :=
  PR.bind (moreP sg u l.length [a] l) fun fs l => .ok (.mk k wdZ wdZ [] fs, l)

def formulaP (u : List Tok → PR Fo) (l : List Tok) : PR Fo :=
  PR.bind (u l) fun a l =>
    if isP [124] l = true then chainP u [124] 4 a l else
    if isP [38] l = true then chainP u [38] 3 a l else
    if isP [61, 62] l = true then PR.bind (u l.tail) fun b l => .ok (twoF 5 a b, l) else
    if isP [60, 61] l = true then PR.bind (u l.tail) fun b l => .ok (twoF 5 b a, l) else
    if isP [60, 61, 62] l = true then PR.bind (u l.tail) fun b l => .ok (twoF 6 a b, l) else
    if isP [60, 126, 62] l = true then PR.bind (u l.tail) fun b l => .ok (notF (twoF 6 a b), l) else .ok (a, l)

def bracketsP (E : Int) (u : List Tok → PR Fo) (l : List Tok) : PR Fo := PR.bind (formulaP u l) fun f l => PR.bind (signP E [41] l) fun _ l => .ok (f, l)

def unaryF (E : Int) (n : Nat) (u : List Tok → PR Fo) (l : List Tok) : PR Fo :=
  if isP [126] l = true then PR.bind (u l.tail) fun f l => .ok (notF f, l) else
  if isP [33] l = true then boundP E u 7 l.tail else
  if isP [63] l = true then boundP E u 8 l.tail else
  if isP [40] l = true then bracketsP E u l.tail else atomP E n l
def unaryP (E : Int) : Nat → List Tok → PR Fo
  | 0, l => .error (7, hereP E l)
  | n + 1, l => unaryF E n (unaryP E n) l

theorem bind_inv {α β : Type} {x : PR α} {f : α → List Tok → PR β} {y : β × List Tok} (h : PR.bind x f = .ok y) : ∃ a l, x = .ok (a, l) ∧ f a l = .ok y := by
  match x, h with
  | .ok (a, l), h => exact ⟨a, l, rfl, h⟩
theorem sign_ok {E : Int} {sg : By} {l l' : List Tok} {u : Unit} (h : signP E sg l = .ok (u, l')) : isP sg l = true ∧ l' = l.tail := by
  unfold signP at h
  split at h
  · rename_i c; cases h; exact ⟨c, rfl⟩
  · cases h
theorem name_ok {E k : Int} {l l' : List Tok} {x : By} (h : nameP E k l = .ok (x, l')) : kindP l = k ∧ l ≠ [] ∧ x = textP l ∧ l' = l.tail := by
  unfold nameP at h
  split at h
  · rename_i c; cases h; exact ⟨c.1, c.2, rfl, rfl⟩
  · cases h
theorem more_len {α : Type} {sg : By} {u : List Tok → PR α} (hu : ∀ l x l', u l = .ok (x, l') → l'.length ≤ l.length) : ∀ (k : Nat) (acc : List α) (l : List Tok) (r : List α) (l' : List Tok), moreP sg u k acc l = .ok (r, l') → l'.length ≤ l.length
  | 0, acc, l, r, l', h => by cases h; exact Nat.le_refl _
  | k + 1, acc, l, r, l', h => by
    simp only [moreP] at h
    split at h
    · obtain ⟨a, l1, h1, h2⟩ := bind_inv h
      have h3 := hu _ _ _ h1
      have h4 := more_len hu k _ _ _ _ h2
      have : l.tail.length ≤ l.length := by simp
      omega
    · cases h; exact Nat.le_refl _
theorem tail_len (l : List Tok) : l.tail.length ≤ l.length := by simp
theorem termF_len {E : Int} {u : List Tok → PR Wd} (hu : ∀ l x l', u l = .ok (x, l') → l'.length ≤ l.length) {l l' : List Tok} {a : Wd} (h : termF E u l = .ok (a, l')) : l'.length ≤ l.length := by
  unfold termF at h
  split at h
  · obtain ⟨n, l1, h1, h2⟩ := bind_inv h
    obtain ⟨_, _, _, rfl⟩ := name_ok h1
    cases h2; exact tail_len l
  · obtain ⟨n, l1, h1, h2⟩ := bind_inv h
    obtain ⟨_, _, _, rfl⟩ := name_ok h1
    have := tail_len l
    split at h2
    · obtain ⟨a1, l2, h3, h4⟩ := bind_inv h2
      obtain ⟨ws, l3, h5, h6⟩ := bind_inv h4
      obtain ⟨_, l4, h7, h8⟩ := bind_inv h6
      obtain ⟨_, rfl⟩ := sign_ok h7
      cases h8
      have e1 := hu _ _ _ h3
      have e2 := more_len hu _ _ _ _ _ h5
      have e3 := tail_len l3
      have e4 := tail_len l.tail
      omega
    · cases h2; exact this
theorem term_len {E : Int} : ∀ (n : Nat) (l : List Tok) (a : Wd) (l' : List Tok), termP E n l = .ok (a, l') → l'.length ≤ l.length
  | 0, l, a, l', h => by cases h
  | n + 1, l, a, l', h => termF_len (term_len n) h
theorem more_stop {α : Type} {sg : By} {u : List Tok → PR α} {k : Nat} {acc : List α} {l : List Tok} (h : isP sg l = false) : moreP sg u k acc l = .ok (acc, l) := by
  cases k with
  | zero => rfl
  | succ k => simp only [moreP, h, Bool.false_eq_true, if_false]
theorem more_go {α : Type} {sg : By} {u : List Tok → PR α} {k : Nat} {acc : List α} {l : List Tok} (h : isP sg l = true) : moreP sg u (k + 1) acc l = PR.bind (u l.tail) fun x l' => moreP sg u k (acc ++ [x]) l' := by
  simp only [moreP, h, if_true]
theorem is_len {sg : By} {l : List Tok} (h : isP sg l = true) : l.tail.length + 1 = l.length := by
  cases l with
  | nil => cases h
  | cons t r => rfl
theorem bind_len {α β : Type} {x : PR α} {f : α → List Tok → PR β} {n : Nat} {y : β} {l' : List Tok} (h : PR.bind x f = .ok (y, l')) (hx : ∀ a l, x = .ok (a, l) → l.length ≤ n) (hf : ∀ a l, l.length ≤ n → f a l = .ok (y, l') → l'.length ≤ n) : l'.length ≤ n := by
  obtain ⟨a, l, h1, h2⟩ := bind_inv h
  exact hf a l (hx a l h1) h2
theorem pure_len {α : Type} {x y : α} {l l' : List Tok} {n : Nat} (h : (.ok (x, l) : PR α) = .ok (y, l')) (hl : l.length ≤ n) : l'.length ≤ n := by cases h; exact hl
theorem sign_len {E : Int} {sg : By} {n : Nat} {l : List Tok} (hl : l.length ≤ n) (a : Unit) (l' : List Tok) (h : signP E sg l = .ok (a, l')) : l'.length ≤ n := by
  obtain ⟨_, rfl⟩ := sign_ok h
  exact Nat.le_trans (tail_len l) hl
theorem name_len {E k : Int} {n : Nat} {l : List Tok} (hl : l.length ≤ n) (a : By) (l' : List Tok) (h : nameP E k l = .ok (a, l')) : l'.length ≤ n := by
  obtain ⟨_, _, _, rfl⟩ := name_ok h
  exact Nat.le_trans (tail_len l) hl
theorem atom_len {E : Int} {n : Nat} {l l' : List Tok} {f : Fo} (h : atomP E n l = .ok (f, l')) : l'.length ≤ l.length := by
  unfold atomP at h
  split at h
  · unfold systemP at h
    split at h
    · exact pure_len h (tail_len l)
    · split at h
      · exact pure_len h (tail_len l)
      · cases h
  · refine bind_len h (fun a l1 h1 => term_len _ _ _ _ h1) fun a l1 hl1 h2 => ?_
    have ht := tail_len l1
    split at h2
    · exact bind_len h2 (fun b l2 h3 => Nat.le_trans (term_len _ _ _ _ h3) (by omega)) fun b l2 hl2 h4 => pure_len h4 hl2
    · split at h2
      · exact bind_len h2 (fun b l2 h3 => Nat.le_trans (term_len _ _ _ _ h3) (by omega)) fun b l2 hl2 h4 => pure_len h4 hl2
      · split at h2
        · cases h2
        · exact pure_len h2 hl1
section
variable {E : Int} {u : List Tok → PR Fo} (hul : ∀ l x l', u l = .ok (x, l') → l'.length ≤ l.length)
include hul
theorem bound_len {k : Int} {l l' : List Tok} {f : Fo} (h : boundP E u k l = .ok (f, l')) : l'.length ≤ l.length := by
  unfold boundP at h
  refine bind_len h (sign_len (Nat.le_refl _)) fun _ l1 h1 h => ?_
  refine bind_len h (name_len h1) fun _ l2 h2 h => ?_
  refine bind_len h (fun a l3 h3 => Nat.le_trans (more_len (fun l x l' h => name_len (Nat.le_refl _) x l' h) _ _ _ _ _ h3) h2) fun _ l3 h3 h => ?_
  refine bind_len h (sign_len h3) fun _ l4 h4 h => ?_
  refine bind_len h (sign_len h4) fun _ l5 h5 h => ?_
  refine bind_len h (fun a l6 h6 => Nat.le_trans (hul _ _ _ h6) h5) fun _ l6 h6 h => ?_
  exact pure_len h h6
theorem chain_len {sg : By} {k : Int} {a : Fo} {l l' : List Tok} {f : Fo} (h : chainP u sg k a l = .ok (f, l')) : l'.length ≤ l.length := by
  unfold chainP at h
  refine bind_len h (fun a l3 h3 => more_len hul _ _ _ _ _ h3) fun _ l3 h3 h => ?_
  exact pure_len h h3
theorem formula_len {l l' : List Tok} {f : Fo} (h : formulaP u l = .ok (f, l')) : l'.length ≤ l.length := by
  unfold formulaP at h
  refine bind_len h (fun a l1 h1 => hul _ _ _ h1) fun a l1 h1 h => ?_
  have ht := tail_len l1
  have two : ∀ {g : Fo → Fo}, (PR.bind (u l1.tail) fun b l => .ok (g b, l)) = .ok (f, l') → l'.length ≤ l.length := fun h =>
    bind_len h (fun b l2 h2 => Nat.le_trans (hul _ _ _ h2) (by omega)) fun b l2 h2 h => pure_len h h2
  split at h
  · exact Nat.le_trans (chain_len hul h) h1
  · split at h
    · exact Nat.le_trans (chain_len hul h) h1
    · split at h
      · exact two h
      · split at h
        · exact two h
        · split at h
          · exact two h
          · split at h
            · exact two h
            · exact pure_len h h1
theorem brackets_len {l l' : List Tok} {f : Fo} (h : bracketsP E u l = .ok (f, l')) : l'.length ≤ l.length := by
  unfold bracketsP at h
  refine bind_len h (fun a l1 h1 => formula_len hul h1) fun a l1 h1 h => ?_
  refine bind_len h (sign_len h1) fun _ l4 h4 h => ?_
  exact pure_len h h4
theorem unaryF_len {n : Nat} {l l' : List Tok} {f : Fo} (h : unaryF E n u l = .ok (f, l')) : l'.length ≤ l.length := by
  have ht := tail_len l
  unfold unaryF at h
  split at h
  · exact bind_len h (fun b l2 h2 => Nat.le_trans (hul _ _ _ h2) ht) fun b l2 h2 h => pure_len h h2
  · split at h
    · exact Nat.le_trans (bound_len hul h) ht
    · split at h
      · exact Nat.le_trans (bound_len hul h) ht
      · split at h
        · exact Nat.le_trans (brackets_len hul h) ht
        · exact atom_len h
end
theorem unary_len {E : Int} : ∀ (n : Nat) (l : List Tok) (f : Fo) (l' : List Tok), unaryP E n l = .ok (f, l') → l'.length ≤ l.length
  | 0, l, f, l', h => by cases h
  | n + 1, l, f, l', h => unaryF_len (unary_len n) h
end Go.Proofs
