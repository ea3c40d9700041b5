/- Part 44 of my own framework and of the walks of functions: Tl, Lc, Ld, Le, Lf, Lg, Lh, Li, Lj, Lk, Ll, Lm, Ln. -/
import Derived.Test.YtpiddadahanpgaaDoorOwn43
import Derived.Test.YtpiddadahanpgaaDoorProg
import Derived.KernelRfl
set_option linter.unusedVariables false
set_option linter.unusedSimpArgs false

namespace Go.Proofs
open Go Go.Abs
theorem mixed : Tryd.prog.follows .mixedOrders = true := by kernel_rfl
@[go_sem] theorem lay1 : layOf Tryd.prog 1 = some ⟨1, false, 8, [.nilfn], .func⟩ := by kernel_rfl
@[go_sem] theorem ty1 : tyA Tryd.prog 1 = some ⟨⟨1, false, 8, [.nilfn], .func⟩, [], none, none⟩ := by kernel_rfl
@[go_sem] theorem lay2 : layOf Tryd.prog 2 = some ⟨1, false, 8, [.int .i64 0], (.int .i64)⟩ := by kernel_rfl
@[go_sem] theorem ty2 : tyA Tryd.prog 2 = some ⟨⟨1, false, 8, [.int .i64 0], (.int .i64)⟩, [], none, none⟩ := by kernel_rfl
@[go_sem] theorem lay3 : layOf Tryd.prog 3 = some ⟨1, false, 8, [.int .i64 0], (.int .i64)⟩ := by kernel_rfl
@[go_sem] theorem ty3 : tyA Tryd.prog 3 = some ⟨⟨1, false, 8, [.int .i64 0], (.int .i64)⟩, [], none, none⟩ := by kernel_rfl
@[go_sem] theorem lay4 : layOf Tryd.prog 4 = some ⟨1, false, 1, [.bool false], .bool⟩ := by kernel_rfl
@[go_sem] theorem ty4 : tyA Tryd.prog 4 = some ⟨⟨1, false, 1, [.bool false], .bool⟩, [], none, none⟩ := by kernel_rfl
@[go_sem] theorem lay5 : layOf Tryd.prog 5 = some ⟨1, false, 1, [.int .u8 0], (.int .u8)⟩ := by kernel_rfl
@[go_sem] theorem ty5 : tyA Tryd.prog 5 = some ⟨⟨1, false, 1, [.int .u8 0], (.int .u8)⟩, [], none, none⟩ := by kernel_rfl
@[go_sem] theorem lay6 : layOf Tryd.prog 6 = some ⟨1, false, 1, [.int .u8 0], (.int .u8)⟩ := by kernel_rfl
@[go_sem] theorem ty6 : tyA Tryd.prog 6 = some ⟨⟨1, false, 1, [.int .u8 0], (.int .u8)⟩, [], none, none⟩ := by kernel_rfl
@[go_sem] theorem lay7 : layOf Tryd.prog 7 = some ⟨4, true, 24, [.int .i64 0, .int .i64 0, .bool false, .int .u8 0], .struct⟩ := by kernel_rfl
@[go_sem] theorem ty7 : tyA Tryd.prog 7 = some ⟨⟨4, true, 24, [.int .i64 0, .int .i64 0, .bool false, .int .u8 0], .struct⟩, [(0, some ⟨1, false, 8, [.int .i64 0], (.int .i64)⟩), (1, some ⟨1, false, 8, [.int .i64 0], (.int .i64)⟩), (2, some ⟨1, false, 1, [.bool false], .bool⟩), (3, some ⟨1, false, 1, [.int .u8 0], (.int .u8)⟩)], none, none⟩ := by kernel_rfl
@[go_sem] theorem eqt7 : eqTy Tryd.prog 7 [(.int .i64), (.int .i64), .bool, (.int .u8)] = true := by kernel_rfl
@[go_sem] theorem lay8 : layOf Tryd.prog 8 = some ⟨4, true, 24, [.int .i64 0, .int .i64 0, .bool false, .int .u8 0], .struct⟩ := by kernel_rfl
@[go_sem] theorem ty8 : tyA Tryd.prog 8 = some ⟨⟨4, true, 24, [.int .i64 0, .int .i64 0, .bool false, .int .u8 0], .struct⟩, [(0, some ⟨1, false, 8, [.int .i64 0], (.int .i64)⟩), (1, some ⟨1, false, 8, [.int .i64 0], (.int .i64)⟩), (2, some ⟨1, false, 1, [.bool false], .bool⟩), (3, some ⟨1, false, 1, [.int .u8 0], (.int .u8)⟩)], none, none⟩ := by kernel_rfl
@[go_sem] theorem eqt8 : eqTy Tryd.prog 8 [(.int .i64), (.int .i64), .bool, (.int .u8)] = true := by kernel_rfl
@[go_sem] theorem lay9 : layOf Tryd.prog 9 = some ⟨1, false, 16, [.str ⟨#[]⟩], .str⟩ := by kernel_rfl
@[go_sem] theorem ty9 : tyA Tryd.prog 9 = some ⟨⟨1, false, 16, [.str ⟨#[]⟩], .str⟩, [], none, none⟩ := by kernel_rfl
@[go_sem] theorem lay10 : layOf Tryd.prog 10 = some ⟨1, false, 16, [.str ⟨#[]⟩], .str⟩ := by kernel_rfl
@[go_sem] theorem ty10 : tyA Tryd.prog 10 = some ⟨⟨1, false, 16, [.str ⟨#[]⟩], .str⟩, [], none, none⟩ := by kernel_rfl
@[go_sem] theorem lay11 : layOf Tryd.prog 11 = some ⟨1, false, 16, [.str ⟨#[]⟩], .str⟩ := by kernel_rfl
@[go_sem] theorem ty11 : tyA Tryd.prog 11 = some ⟨⟨1, false, 16, [.str ⟨#[]⟩], .str⟩, [], none, none⟩ := by kernel_rfl
@[go_sem] theorem lay12 : layOf Tryd.prog 12 = some ⟨1, false, 8, [.int .u64 0], (.int .u64)⟩ := by kernel_rfl
@[go_sem] theorem ty12 : tyA Tryd.prog 12 = some ⟨⟨1, false, 8, [.int .u64 0], (.int .u64)⟩, [], none, none⟩ := by kernel_rfl
@[go_sem] theorem lay13 : layOf Tryd.prog 13 = some ⟨2, true, 24, [.str ⟨#[]⟩, .int .u64 0], .struct⟩ := by kernel_rfl
@[go_sem] theorem ty13 : tyA Tryd.prog 13 = some ⟨⟨2, true, 24, [.str ⟨#[]⟩, .int .u64 0], .struct⟩, [(0, some ⟨1, false, 16, [.str ⟨#[]⟩], .str⟩), (1, some ⟨1, false, 8, [.int .u64 0], (.int .u64)⟩)], none, none⟩ := by kernel_rfl
@[go_sem] theorem lay14 : layOf Tryd.prog 14 = some ⟨2, true, 24, [.str ⟨#[]⟩, .int .u64 0], .struct⟩ := by kernel_rfl
@[go_sem] theorem ty14 : tyA Tryd.prog 14 = some ⟨⟨2, true, 24, [.str ⟨#[]⟩, .int .u64 0], .struct⟩, [(0, some ⟨1, false, 16, [.str ⟨#[]⟩], .str⟩), (1, some ⟨1, false, 8, [.int .u64 0], (.int .u64)⟩)], none, none⟩ := by kernel_rfl
@[go_sem] theorem lay15 : layOf Tryd.prog 15 = some ⟨1, false, 8, [.nilptr], .ptr⟩ := by kernel_rfl
@[go_sem] theorem ty15 : tyA Tryd.prog 15 = some ⟨⟨1, false, 8, [.nilptr], .ptr⟩, [], none, none⟩ := by kernel_rfl
@[go_sem] theorem lay16 : layOf Tryd.prog 16 = some ⟨1, false, 8, [.nilptr], .ptr⟩ := by kernel_rfl
@[go_sem] theorem ty16 : tyA Tryd.prog 16 = some ⟨⟨1, false, 8, [.nilptr], .ptr⟩, [], none, none⟩ := by kernel_rfl
@[go_sem] theorem lay17 : layOf Tryd.prog 17 = some ⟨1, false, 8, [.nilptr], .ptr⟩ := by kernel_rfl
@[go_sem] theorem ty17 : tyA Tryd.prog 17 = some ⟨⟨1, false, 8, [.nilptr], .ptr⟩, [], none, none⟩ := by kernel_rfl
@[go_sem] theorem lay18 : layOf Tryd.prog 18 = some ⟨1, true, 8, [.nilptr], .struct⟩ := by kernel_rfl
@[go_sem] theorem ty18 : tyA Tryd.prog 18 = some ⟨⟨1, true, 8, [.nilptr], .struct⟩, [(0, some ⟨1, false, 8, [.nilptr], .ptr⟩)], none, none⟩ := by kernel_rfl
@[go_sem] theorem lay19 : layOf Tryd.prog 19 = some ⟨1, true, 8, [.nilptr], .struct⟩ := by kernel_rfl
@[go_sem] theorem ty19 : tyA Tryd.prog 19 = some ⟨⟨1, true, 8, [.nilptr], .struct⟩, [(0, some ⟨1, false, 8, [.nilptr], .ptr⟩)], none, none⟩ := by kernel_rfl
@[go_sem] theorem lay20 : layOf Tryd.prog 20 = some ⟨1, false, 16, [.nilif], .iface⟩ := by kernel_rfl
@[go_sem] theorem ty20 : tyA Tryd.prog 20 = some ⟨⟨1, false, 16, [.nilif], .iface⟩, [], none, none⟩ := by kernel_rfl
@[go_sem] theorem lay21 : layOf Tryd.prog 21 = some ⟨1, false, 4, [.int .i32 0], (.int .i32)⟩ := by kernel_rfl
@[go_sem] theorem ty21 : tyA Tryd.prog 21 = some ⟨⟨1, false, 4, [.int .i32 0], (.int .i32)⟩, [], none, none⟩ := by kernel_rfl
@[go_sem] theorem lay22 : layOf Tryd.prog 22 = some ⟨1, false, 24, [.nils], .slice⟩ := by kernel_rfl
@[go_sem] theorem ty22 : tyA Tryd.prog 22 = some ⟨⟨1, false, 24, [.nils], .slice⟩, [], some ⟨3, true, 32, [.int .i64 0, .int .i64 0, .str ⟨#[]⟩], .struct⟩, none⟩ := by kernel_rfl
@[go_sem] theorem lay23 : layOf Tryd.prog 23 = some ⟨1, false, 8, [.int .i64 0], (.int .i64)⟩ := by kernel_rfl
@[go_sem] theorem ty23 : tyA Tryd.prog 23 = some ⟨⟨1, false, 8, [.int .i64 0], (.int .i64)⟩, [], none, none⟩ := by kernel_rfl
@[go_sem] theorem lay25 : layOf Tryd.prog 25 = some ⟨1, false, 8, [.nilfn], .func⟩ := by kernel_rfl
@[go_sem] theorem ty25 : tyA Tryd.prog 25 = some ⟨⟨1, false, 8, [.nilfn], .func⟩, [], none, none⟩ := by kernel_rfl
@[go_sem] theorem lay26 : layOf Tryd.prog 26 = some ⟨3, true, 32, [.int .i64 0, .int .i64 0, .str ⟨#[]⟩], .struct⟩ := by kernel_rfl
@[go_sem] theorem ty26 : tyA Tryd.prog 26 = some ⟨⟨3, true, 32, [.int .i64 0, .int .i64 0, .str ⟨#[]⟩], .struct⟩, [(0, some ⟨1, false, 8, [.int .i64 0], (.int .i64)⟩), (1, some ⟨1, false, 8, [.int .i64 0], (.int .i64)⟩), (2, some ⟨1, false, 16, [.str ⟨#[]⟩], .str⟩)], none, none⟩ := by kernel_rfl
@[go_sem] theorem eqt26 : eqTy Tryd.prog 26 [(.int .i64), (.int .i64), .str] = true := by kernel_rfl
@[go_sem] theorem lay27 : layOf Tryd.prog 27 = some ⟨3, true, 32, [.int .i64 0, .int .i64 0, .str ⟨#[]⟩], .struct⟩ := by kernel_rfl
@[go_sem] theorem ty27 : tyA Tryd.prog 27 = some ⟨⟨3, true, 32, [.int .i64 0, .int .i64 0, .str ⟨#[]⟩], .struct⟩, [(0, some ⟨1, false, 8, [.int .i64 0], (.int .i64)⟩), (1, some ⟨1, false, 8, [.int .i64 0], (.int .i64)⟩), (2, some ⟨1, false, 16, [.str ⟨#[]⟩], .str⟩)], none, none⟩ := by kernel_rfl
@[go_sem] theorem eqt27 : eqTy Tryd.prog 27 [(.int .i64), (.int .i64), .str] = true := by kernel_rfl
@[go_sem] theorem lay29 : layOf Tryd.prog 29 = some ⟨1, false, 8, [.nilfn], .func⟩ := by kernel_rfl
@[go_sem] theorem ty29 : tyA Tryd.prog 29 = some ⟨⟨1, false, 8, [.nilfn], .func⟩, [], none, none⟩ := by kernel_rfl
@[go_sem] theorem lay30 : layOf Tryd.prog 30 = some ⟨1, false, 8, [.nilfn], .func⟩ := by kernel_rfl
@[go_sem] theorem ty30 : tyA Tryd.prog 30 = some ⟨⟨1, false, 8, [.nilfn], .func⟩, [], none, none⟩ := by kernel_rfl
@[go_sem] theorem lay31 : layOf Tryd.prog 31 = some ⟨1, false, 8, [.nilfn], .func⟩ := by kernel_rfl
@[go_sem] theorem ty31 : tyA Tryd.prog 31 = some ⟨⟨1, false, 8, [.nilfn], .func⟩, [], none, none⟩ := by kernel_rfl
@[go_sem] theorem lay32 : layOf Tryd.prog 32 = some ⟨1, false, 8, [.nilfn], .func⟩ := by kernel_rfl
@[go_sem] theorem ty32 : tyA Tryd.prog 32 = some ⟨⟨1, false, 8, [.nilfn], .func⟩, [], none, none⟩ := by kernel_rfl
@[go_sem] theorem lay34 : layOf Tryd.prog 34 = some ⟨1, false, 8, [.nilfn], .func⟩ := by kernel_rfl
@[go_sem] theorem ty34 : tyA Tryd.prog 34 = some ⟨⟨1, false, 8, [.nilfn], .func⟩, [], none, none⟩ := by kernel_rfl
@[go_sem] theorem lay35 : layOf Tryd.prog 35 = some ⟨1, false, 8, [.nilfn], .func⟩ := by kernel_rfl
@[go_sem] theorem ty35 : tyA Tryd.prog 35 = some ⟨⟨1, false, 8, [.nilfn], .func⟩, [], none, none⟩ := by kernel_rfl
@[go_sem] theorem lay36 : layOf Tryd.prog 36 = some ⟨1, false, 8, [.nilfn], .func⟩ := by kernel_rfl
@[go_sem] theorem ty36 : tyA Tryd.prog 36 = some ⟨⟨1, false, 8, [.nilfn], .func⟩, [], none, none⟩ := by kernel_rfl
@[go_sem] theorem lay38 : layOf Tryd.prog 38 = some ⟨1, false, 8, [.nilfn], .func⟩ := by kernel_rfl
@[go_sem] theorem ty38 : tyA Tryd.prog 38 = some ⟨⟨1, false, 8, [.nilfn], .func⟩, [], none, none⟩ := by kernel_rfl
@[go_sem] theorem lay39 : layOf Tryd.prog 39 = some ⟨18, true, 288, [.str ⟨#[]⟩, .str ⟨#[]⟩, .str ⟨#[]⟩, .str ⟨#[]⟩, .str ⟨#[]⟩, .str ⟨#[]⟩, .str ⟨#[]⟩, .str ⟨#[]⟩, .str ⟨#[]⟩, .str ⟨#[]⟩, .str ⟨#[]⟩, .str ⟨#[]⟩, .str ⟨#[]⟩, .str ⟨#[]⟩, .str ⟨#[]⟩, .str ⟨#[]⟩, .str ⟨#[]⟩, .str ⟨#[]⟩], (.array 18)⟩ := by kernel_rfl
@[go_sem] theorem ty39 : tyA Tryd.prog 39 = some ⟨⟨18, true, 288, [.str ⟨#[]⟩, .str ⟨#[]⟩, .str ⟨#[]⟩, .str ⟨#[]⟩, .str ⟨#[]⟩, .str ⟨#[]⟩, .str ⟨#[]⟩, .str ⟨#[]⟩, .str ⟨#[]⟩, .str ⟨#[]⟩, .str ⟨#[]⟩, .str ⟨#[]⟩, .str ⟨#[]⟩, .str ⟨#[]⟩, .str ⟨#[]⟩, .str ⟨#[]⟩, .str ⟨#[]⟩, .str ⟨#[]⟩], (.array 18)⟩, [], some ⟨1, false, 16, [.str ⟨#[]⟩], .str⟩, none⟩ := by kernel_rfl
@[go_sem] theorem lay40 : layOf Tryd.prog 40 = some ⟨1, false, 8, [.nilfn], .func⟩ := by kernel_rfl
@[go_sem] theorem ty40 : tyA Tryd.prog 40 = some ⟨⟨1, false, 8, [.nilfn], .func⟩, [], none, none⟩ := by kernel_rfl
@[go_sem] theorem lay41 : layOf Tryd.prog 41 = some ⟨1, false, 8, [.nilfn], .func⟩ := by kernel_rfl
@[go_sem] theorem ty41 : tyA Tryd.prog 41 = some ⟨⟨1, false, 8, [.nilfn], .func⟩, [], none, none⟩ := by kernel_rfl
@[go_sem] theorem lay42 : layOf Tryd.prog 42 = some ⟨1, false, 8, [.nilfn], .func⟩ := by kernel_rfl
@[go_sem] theorem ty42 : tyA Tryd.prog 42 = some ⟨⟨1, false, 8, [.nilfn], .func⟩, [], none, none⟩ := by kernel_rfl
@[go_sem] theorem lay43 : layOf Tryd.prog 43 = some ⟨1, false, 8, [.nilfn], .func⟩ := by kernel_rfl
@[go_sem] theorem ty43 : tyA Tryd.prog 43 = some ⟨⟨1, false, 8, [.nilfn], .func⟩, [], none, none⟩ := by kernel_rfl
@[go_sem] theorem lay45 : layOf Tryd.prog 45 = some ⟨1, false, 8, [.nilfn], .func⟩ := by kernel_rfl
@[go_sem] theorem ty45 : tyA Tryd.prog 45 = some ⟨⟨1, false, 8, [.nilfn], .func⟩, [], none, none⟩ := by kernel_rfl
@[go_sem] theorem lay46 : layOf Tryd.prog 46 = some ⟨1, false, 24, [.nils], .slice⟩ := by kernel_rfl
@[go_sem] theorem ty46 : tyA Tryd.prog 46 = some ⟨⟨1, false, 24, [.nils], .slice⟩, [], some ⟨1, false, 16, [.str ⟨#[]⟩], .str⟩, none⟩ := by kernel_rfl
@[go_sem] theorem lay47 : layOf Tryd.prog 47 = some ⟨1, false, 8, [.nilfn], .func⟩ := by kernel_rfl
@[go_sem] theorem ty47 : tyA Tryd.prog 47 = some ⟨⟨1, false, 8, [.nilfn], .func⟩, [], none, none⟩ := by kernel_rfl
@[go_sem] theorem lay48 : layOf Tryd.prog 48 = some ⟨1, false, 8, [.nilfn], .func⟩ := by kernel_rfl
@[go_sem] theorem ty48 : tyA Tryd.prog 48 = some ⟨⟨1, false, 8, [.nilfn], .func⟩, [], none, none⟩ := by kernel_rfl
@[go_sem] theorem lay49 : layOf Tryd.prog 49 = some ⟨1, false, 8, [.nilfn], .func⟩ := by kernel_rfl
@[go_sem] theorem ty49 : tyA Tryd.prog 49 = some ⟨⟨1, false, 8, [.nilfn], .func⟩, [], none, none⟩ := by kernel_rfl
@[go_sem] theorem lay50 : layOf Tryd.prog 50 = some ⟨1, false, 8, [.nilfn], .func⟩ := by kernel_rfl
@[go_sem] theorem ty50 : tyA Tryd.prog 50 = some ⟨⟨1, false, 8, [.nilfn], .func⟩, [], none, none⟩ := by kernel_rfl
@[go_sem] theorem lay51 : layOf Tryd.prog 51 = some ⟨1, false, 8, [.nilfn], .func⟩ := by kernel_rfl
@[go_sem] theorem ty51 : tyA Tryd.prog 51 = some ⟨⟨1, false, 8, [.nilfn], .func⟩, [], none, none⟩ := by kernel_rfl
@[go_sem] theorem lay52 : layOf Tryd.prog 52 = some ⟨1, false, 8, [.nilfn], .func⟩ := by kernel_rfl
@[go_sem] theorem ty52 : tyA Tryd.prog 52 = some ⟨⟨1, false, 8, [.nilfn], .func⟩, [], none, none⟩ := by kernel_rfl
@[go_sem] theorem lay53 : layOf Tryd.prog 53 = some ⟨1, false, 8, [.nilfn], .func⟩ := by kernel_rfl
@[go_sem] theorem ty53 : tyA Tryd.prog 53 = some ⟨⟨1, false, 8, [.nilfn], .func⟩, [], none, none⟩ := by kernel_rfl
@[go_sem] theorem lay55 : layOf Tryd.prog 55 = some ⟨1, false, 8, [.nilfn], .func⟩ := by kernel_rfl
@[go_sem] theorem ty55 : tyA Tryd.prog 55 = some ⟨⟨1, false, 8, [.nilfn], .func⟩, [], none, none⟩ := by kernel_rfl
@[go_sem] theorem lay57 : layOf Tryd.prog 57 = some ⟨1, false, 8, [.nilfn], .func⟩ := by kernel_rfl
@[go_sem] theorem ty57 : tyA Tryd.prog 57 = some ⟨⟨1, false, 8, [.nilfn], .func⟩, [], none, none⟩ := by kernel_rfl
@[go_sem] theorem lay58 : layOf Tryd.prog 58 = some ⟨1, false, 8, [.nilfn], .func⟩ := by kernel_rfl
@[go_sem] theorem ty58 : tyA Tryd.prog 58 = some ⟨⟨1, false, 8, [.nilfn], .func⟩, [], none, none⟩ := by kernel_rfl
@[go_sem] theorem lay59 : layOf Tryd.prog 59 = some ⟨1, false, 8, [.nilfn], .func⟩ := by kernel_rfl
@[go_sem] theorem ty59 : tyA Tryd.prog 59 = some ⟨⟨1, false, 8, [.nilfn], .func⟩, [], none, none⟩ := by kernel_rfl
-- type 60: not told
-- type 61: not told
@[go_sem] theorem lay63 : layOf Tryd.prog 63 = some ⟨1, false, 8, [.nilfn], .func⟩ := by kernel_rfl
@[go_sem] theorem ty63 : tyA Tryd.prog 63 = some ⟨⟨1, false, 8, [.nilfn], .func⟩, [], none, none⟩ := by kernel_rfl
@[go_sem] theorem lay64 : layOf Tryd.prog 64 = some ⟨1, false, 8, [.nilfn], .func⟩ := by kernel_rfl
@[go_sem] theorem ty64 : tyA Tryd.prog 64 = some ⟨⟨1, false, 8, [.nilfn], .func⟩, [], none, none⟩ := by kernel_rfl
@[go_sem] theorem lay65 : layOf Tryd.prog 65 = some ⟨1, false, 8, [.nilptr], .ptr⟩ := by kernel_rfl
@[go_sem] theorem ty65 : tyA Tryd.prog 65 = some ⟨⟨1, false, 8, [.nilptr], .ptr⟩, [], none, none⟩ := by kernel_rfl
@[go_sem] theorem lay66 : layOf Tryd.prog 66 = some ⟨1, false, 8, [.nilptr], .ptr⟩ := by kernel_rfl
@[go_sem] theorem ty66 : tyA Tryd.prog 66 = some ⟨⟨1, false, 8, [.nilptr], .ptr⟩, [], none, none⟩ := by kernel_rfl
@[go_sem] theorem lay67 : layOf Tryd.prog 67 = some ⟨1, false, 24, [.nils], .slice⟩ := by kernel_rfl
@[go_sem] theorem ty67 : tyA Tryd.prog 67 = some ⟨⟨1, false, 24, [.nils], .slice⟩, [], some ⟨1, false, 1, [.int .u8 0], (.int .u8)⟩, none⟩ := by kernel_rfl
@[go_sem] theorem lay68 : layOf Tryd.prog 68 = some ⟨2, true, 32, [.nilptr, .nils], .struct⟩ := by kernel_rfl
@[go_sem] theorem ty68 : tyA Tryd.prog 68 = some ⟨⟨2, true, 32, [.nilptr, .nils], .struct⟩, [(0, some ⟨1, false, 8, [.nilptr], .ptr⟩), (1, some ⟨1, false, 24, [.nils], .slice⟩)], none, none⟩ := by kernel_rfl
@[go_sem] theorem lay69 : layOf Tryd.prog 69 = some ⟨2, true, 32, [.nilptr, .nils], .struct⟩ := by kernel_rfl
@[go_sem] theorem ty69 : tyA Tryd.prog 69 = some ⟨⟨2, true, 32, [.nilptr, .nils], .struct⟩, [(0, some ⟨1, false, 8, [.nilptr], .ptr⟩), (1, some ⟨1, false, 24, [.nils], .slice⟩)], none, none⟩ := by kernel_rfl
@[go_sem] theorem lay70 : layOf Tryd.prog 70 = some ⟨1, false, 8, [.nilfn], .func⟩ := by kernel_rfl
@[go_sem] theorem ty70 : tyA Tryd.prog 70 = some ⟨⟨1, false, 8, [.nilfn], .func⟩, [], none, none⟩ := by kernel_rfl
@[go_sem] theorem lay71 : layOf Tryd.prog 71 = some ⟨1, false, 8, [.nilfn], .func⟩ := by kernel_rfl
@[go_sem] theorem ty71 : tyA Tryd.prog 71 = some ⟨⟨1, false, 8, [.nilfn], .func⟩, [], none, none⟩ := by kernel_rfl
@[go_sem] theorem lay72 : layOf Tryd.prog 72 = some ⟨1, false, 16, [.nilif], .iface⟩ := by kernel_rfl
@[go_sem] theorem ty72 : tyA Tryd.prog 72 = some ⟨⟨1, false, 16, [.nilif], .iface⟩, [], none, none⟩ := by kernel_rfl
@[go_sem] theorem lay73 : layOf Tryd.prog 73 = some ⟨1, false, 16, [.nilif], .iface⟩ := by kernel_rfl
@[go_sem] theorem ty73 : tyA Tryd.prog 73 = some ⟨⟨1, false, 16, [.nilif], .iface⟩, [], none, none⟩ := by kernel_rfl
@[go_sem] theorem lay74 : layOf Tryd.prog 74 = some ⟨1, false, 8, [.nilfn], .func⟩ := by kernel_rfl
@[go_sem] theorem ty74 : tyA Tryd.prog 74 = some ⟨⟨1, false, 8, [.nilfn], .func⟩, [], none, none⟩ := by kernel_rfl
@[go_sem] theorem lay75 : layOf Tryd.prog 75 = some ⟨1, false, 8, [.nilfn], .func⟩ := by kernel_rfl
@[go_sem] theorem ty75 : tyA Tryd.prog 75 = some ⟨⟨1, false, 8, [.nilfn], .func⟩, [], none, none⟩ := by kernel_rfl
@[go_sem] theorem lay76 : layOf Tryd.prog 76 = some ⟨1, false, 8, [.nilfn], .func⟩ := by kernel_rfl
@[go_sem] theorem ty76 : tyA Tryd.prog 76 = some ⟨⟨1, false, 8, [.nilfn], .func⟩, [], none, none⟩ := by kernel_rfl
@[go_sem] theorem lay78 : layOf Tryd.prog 78 = some ⟨1, false, 8, [.nilfn], .func⟩ := by kernel_rfl
@[go_sem] theorem ty78 : tyA Tryd.prog 78 = some ⟨⟨1, false, 8, [.nilfn], .func⟩, [], none, none⟩ := by kernel_rfl
@[go_sem] theorem lay80 : layOf Tryd.prog 80 = some ⟨1, false, 8, [.nilfn], .func⟩ := by kernel_rfl
@[go_sem] theorem ty80 : tyA Tryd.prog 80 = some ⟨⟨1, false, 8, [.nilfn], .func⟩, [], none, none⟩ := by kernel_rfl
@[go_sem] theorem lay81 : layOf Tryd.prog 81 = some ⟨1, false, 8, [.nilfn], .func⟩ := by kernel_rfl
@[go_sem] theorem ty81 : tyA Tryd.prog 81 = some ⟨⟨1, false, 8, [.nilfn], .func⟩, [], none, none⟩ := by kernel_rfl
@[go_sem] theorem lay82 : layOf Tryd.prog 82 = some ⟨1, false, 8, [.nilptr], .ptr⟩ := by kernel_rfl
@[go_sem] theorem ty82 : tyA Tryd.prog 82 = some ⟨⟨1, false, 8, [.nilptr], .ptr⟩, [], none, none⟩ := by kernel_rfl
@[go_sem] theorem lay83 : layOf Tryd.prog 83 = some ⟨1, false, 8, [.nilfn], .func⟩ := by kernel_rfl
@[go_sem] theorem ty83 : tyA Tryd.prog 83 = some ⟨⟨1, false, 8, [.nilfn], .func⟩, [], none, none⟩ := by kernel_rfl
@[go_sem] theorem lay84 : layOf Tryd.prog 84 = some ⟨1, false, 8, [.nilfn], .func⟩ := by kernel_rfl
@[go_sem] theorem ty84 : tyA Tryd.prog 84 = some ⟨⟨1, false, 8, [.nilfn], .func⟩, [], none, none⟩ := by kernel_rfl
@[go_sem] theorem lay85 : layOf Tryd.prog 85 = some ⟨1, false, 8, [.int .u64 0], (.int .u64)⟩ := by kernel_rfl
@[go_sem] theorem ty85 : tyA Tryd.prog 85 = some ⟨⟨1, false, 8, [.int .u64 0], (.int .u64)⟩, [], none, none⟩ := by kernel_rfl
@[go_sem] theorem lay86 : layOf Tryd.prog 86 = some ⟨1, false, 8, [.nilptr], .other⟩ := by kernel_rfl
@[go_sem] theorem ty86 : tyA Tryd.prog 86 = some ⟨⟨1, false, 8, [.nilptr], .other⟩, [], none, none⟩ := by kernel_rfl
@[go_sem] theorem lay87 : layOf Tryd.prog 87 = some ⟨1, false, 8, [.nilfn], .func⟩ := by kernel_rfl
@[go_sem] theorem ty87 : tyA Tryd.prog 87 = some ⟨⟨1, false, 8, [.nilfn], .func⟩, [], none, none⟩ := by kernel_rfl
@[go_sem] theorem lay88 : layOf Tryd.prog 88 = some ⟨1, false, 8, [.nilfn], .func⟩ := by kernel_rfl
@[go_sem] theorem ty88 : tyA Tryd.prog 88 = some ⟨⟨1, false, 8, [.nilfn], .func⟩, [], none, none⟩ := by kernel_rfl
-- type 89: not told
@[go_sem] theorem lay90 : layOf Tryd.prog 90 = some ⟨2, true, 2, [.int .u8 0, .int .u8 0], .struct⟩ := by kernel_rfl
@[go_sem] theorem ty90 : tyA Tryd.prog 90 = some ⟨⟨2, true, 2, [.int .u8 0, .int .u8 0], .struct⟩, [(0, some ⟨1, false, 1, [.int .u8 0], (.int .u8)⟩), (1, some ⟨1, false, 1, [.int .u8 0], (.int .u8)⟩)], none, none⟩ := by kernel_rfl
@[go_sem] theorem eqt90 : eqTy Tryd.prog 90 [(.int .u8), (.int .u8)] = true := by kernel_rfl
@[go_sem] theorem lay91 : layOf Tryd.prog 91 = some ⟨2, true, 2, [.int .u8 0, .int .u8 0], .struct⟩ := by kernel_rfl
@[go_sem] theorem ty91 : tyA Tryd.prog 91 = some ⟨⟨2, true, 2, [.int .u8 0, .int .u8 0], .struct⟩, [(0, some ⟨1, false, 1, [.int .u8 0], (.int .u8)⟩), (1, some ⟨1, false, 1, [.int .u8 0], (.int .u8)⟩)], none, none⟩ := by kernel_rfl
@[go_sem] theorem eqt91 : eqTy Tryd.prog 91 [(.int .u8), (.int .u8)] = true := by kernel_rfl
@[go_sem] theorem lay92 : layOf Tryd.prog 92 = some ⟨32, true, 32, [.int .u8 0, .int .u8 0, .int .u8 0, .int .u8 0, .int .u8 0, .int .u8 0, .int .u8 0, .int .u8 0, .int .u8 0, .int .u8 0, .int .u8 0, .int .u8 0, .int .u8 0, .int .u8 0, .int .u8 0, .int .u8 0, .int .u8 0, .int .u8 0, .int .u8 0, .int .u8 0, .int .u8 0, .int .u8 0, .int .u8 0, .int .u8 0, .int .u8 0, .int .u8 0, .int .u8 0, .int .u8 0, .int .u8 0, .int .u8 0, .int .u8 0, .int .u8 0], (.array 16)⟩ := by kernel_rfl
@[go_sem] theorem ty92 : tyA Tryd.prog 92 = some ⟨⟨32, true, 32, [.int .u8 0, .int .u8 0, .int .u8 0, .int .u8 0, .int .u8 0, .int .u8 0, .int .u8 0, .int .u8 0, .int .u8 0, .int .u8 0, .int .u8 0, .int .u8 0, .int .u8 0, .int .u8 0, .int .u8 0, .int .u8 0, .int .u8 0, .int .u8 0, .int .u8 0, .int .u8 0, .int .u8 0, .int .u8 0, .int .u8 0, .int .u8 0, .int .u8 0, .int .u8 0, .int .u8 0, .int .u8 0, .int .u8 0, .int .u8 0, .int .u8 0, .int .u8 0], (.array 16)⟩, [], some ⟨2, true, 2, [.int .u8 0, .int .u8 0], .struct⟩, none⟩ := by kernel_rfl
@[go_sem] theorem lay93 : layOf Tryd.prog 93 = some ⟨1, false, 4, [.int .u32 0], (.int .u32)⟩ := by kernel_rfl
@[go_sem] theorem ty93 : tyA Tryd.prog 93 = some ⟨⟨1, false, 4, [.int .u32 0], (.int .u32)⟩, [], none, none⟩ := by kernel_rfl
@[go_sem] theorem lay95 : layOf Tryd.prog 95 = some ⟨1, false, 8, [.nilfn], .func⟩ := by kernel_rfl
@[go_sem] theorem ty95 : tyA Tryd.prog 95 = some ⟨⟨1, false, 8, [.nilfn], .func⟩, [], none, none⟩ := by kernel_rfl
@[go_sem] theorem lay96 : layOf Tryd.prog 96 = some ⟨4, true, 40, [.nilptr, .nilptr, .nilptr, .str ⟨#[]⟩], .struct⟩ := by kernel_rfl
@[go_sem] theorem ty96 : tyA Tryd.prog 96 = some ⟨⟨4, true, 40, [.nilptr, .nilptr, .nilptr, .str ⟨#[]⟩], .struct⟩, [(0, some ⟨1, false, 8, [.nilptr], .ptr⟩), (1, some ⟨1, false, 8, [.nilptr], .ptr⟩), (2, some ⟨1, false, 8, [.nilptr], .ptr⟩), (3, some ⟨1, false, 16, [.str ⟨#[]⟩], .str⟩)], none, none⟩ := by kernel_rfl
@[go_sem] theorem lay97 : layOf Tryd.prog 97 = some ⟨4, true, 40, [.nilptr, .nilptr, .nilptr, .str ⟨#[]⟩], .struct⟩ := by kernel_rfl
@[go_sem] theorem ty97 : tyA Tryd.prog 97 = some ⟨⟨4, true, 40, [.nilptr, .nilptr, .nilptr, .str ⟨#[]⟩], .struct⟩, [(0, some ⟨1, false, 8, [.nilptr], .ptr⟩), (1, some ⟨1, false, 8, [.nilptr], .ptr⟩), (2, some ⟨1, false, 8, [.nilptr], .ptr⟩), (3, some ⟨1, false, 16, [.str ⟨#[]⟩], .str⟩)], none, none⟩ := by kernel_rfl
@[go_sem] theorem lay98 : layOf Tryd.prog 98 = some ⟨0, true, 0, [], (.array 0)⟩ := by kernel_rfl
@[go_sem] theorem ty98 : tyA Tryd.prog 98 = some ⟨⟨0, true, 0, [], (.array 0)⟩, [], some ⟨1, false, 8, [.nilptr], .ptr⟩, none⟩ := by kernel_rfl
@[go_sem] theorem lay99 : layOf Tryd.prog 99 = some ⟨0, true, 0, [], .struct⟩ := by kernel_rfl
@[go_sem] theorem ty99 : tyA Tryd.prog 99 = some ⟨⟨0, true, 0, [], .struct⟩, [(0, some ⟨0, true, 0, [], (.array 0)⟩)], none, none⟩ := by kernel_rfl
@[go_sem] theorem lay100 : layOf Tryd.prog 100 = some ⟨0, true, 0, [], .struct⟩ := by kernel_rfl
@[go_sem] theorem ty100 : tyA Tryd.prog 100 = some ⟨⟨0, true, 0, [], .struct⟩, [(0, some ⟨0, true, 0, [], (.array 0)⟩)], none, none⟩ := by kernel_rfl
@[go_sem] theorem lay101 : layOf Tryd.prog 101 = some ⟨1, false, 1, [.int .u8 0], (.int .u8)⟩ := by kernel_rfl
@[go_sem] theorem ty101 : tyA Tryd.prog 101 = some ⟨⟨1, false, 1, [.int .u8 0], (.int .u8)⟩, [], none, none⟩ := by kernel_rfl
@[go_sem] theorem lay102 : layOf Tryd.prog 102 = some ⟨1, false, 1, [.int .u8 0], (.int .u8)⟩ := by kernel_rfl
@[go_sem] theorem ty102 : tyA Tryd.prog 102 = some ⟨⟨1, false, 1, [.int .u8 0], (.int .u8)⟩, [], none, none⟩ := by kernel_rfl
@[go_sem] theorem lay103 : layOf Tryd.prog 103 = some ⟨1, false, 8, [.nilfn], .func⟩ := by kernel_rfl
@[go_sem] theorem ty103 : tyA Tryd.prog 103 = some ⟨⟨1, false, 8, [.nilfn], .func⟩, [], none, none⟩ := by kernel_rfl
@[go_sem] theorem lay104 : layOf Tryd.prog 104 = some ⟨1, false, 4, [.int .i32 0], (.int .i32)⟩ := by kernel_rfl
@[go_sem] theorem ty104 : tyA Tryd.prog 104 = some ⟨⟨1, false, 4, [.int .i32 0], (.int .i32)⟩, [], none, none⟩ := by kernel_rfl
@[go_sem] theorem lay105 : layOf Tryd.prog 105 = some ⟨1, false, 4, [.int .i32 0], (.int .i32)⟩ := by kernel_rfl
@[go_sem] theorem ty105 : tyA Tryd.prog 105 = some ⟨⟨1, false, 4, [.int .i32 0], (.int .i32)⟩, [], none, none⟩ := by kernel_rfl
@[go_sem] theorem lay106 : layOf Tryd.prog 106 = some ⟨11, true, 48, [.int .u64 0, .int .u64 0, .int .u32 0, .int .u8 0, .int .u8 0, .int .u8 0, .int .u8 0, .nilfn, .nilptr, .int .i32 0, .int .i32 0], .struct⟩ := by kernel_rfl
@[go_sem] theorem ty106 : tyA Tryd.prog 106 = some ⟨⟨11, true, 48, [.int .u64 0, .int .u64 0, .int .u32 0, .int .u8 0, .int .u8 0, .int .u8 0, .int .u8 0, .nilfn, .nilptr, .int .i32 0, .int .i32 0], .struct⟩, [(0, some ⟨1, false, 8, [.int .u64 0], (.int .u64)⟩), (1, some ⟨1, false, 8, [.int .u64 0], (.int .u64)⟩), (2, some ⟨1, false, 4, [.int .u32 0], (.int .u32)⟩), (3, some ⟨1, false, 1, [.int .u8 0], (.int .u8)⟩), (4, some ⟨1, false, 1, [.int .u8 0], (.int .u8)⟩), (5, some ⟨1, false, 1, [.int .u8 0], (.int .u8)⟩), (6, some ⟨1, false, 1, [.int .u8 0], (.int .u8)⟩), (7, some ⟨1, false, 8, [.nilfn], .func⟩), (8, some ⟨1, false, 8, [.nilptr], .ptr⟩), (9, some ⟨1, false, 4, [.int .i32 0], (.int .i32)⟩), (10, some ⟨1, false, 4, [.int .i32 0], (.int .i32)⟩)], none, none⟩ := by kernel_rfl
@[go_sem] theorem lay107 : layOf Tryd.prog 107 = some ⟨11, true, 48, [.int .u64 0, .int .u64 0, .int .u32 0, .int .u8 0, .int .u8 0, .int .u8 0, .int .u8 0, .nilfn, .nilptr, .int .i32 0, .int .i32 0], .struct⟩ := by kernel_rfl
@[go_sem] theorem ty107 : tyA Tryd.prog 107 = some ⟨⟨11, true, 48, [.int .u64 0, .int .u64 0, .int .u32 0, .int .u8 0, .int .u8 0, .int .u8 0, .int .u8 0, .nilfn, .nilptr, .int .i32 0, .int .i32 0], .struct⟩, [(0, some ⟨1, false, 8, [.int .u64 0], (.int .u64)⟩), (1, some ⟨1, false, 8, [.int .u64 0], (.int .u64)⟩), (2, some ⟨1, false, 4, [.int .u32 0], (.int .u32)⟩), (3, some ⟨1, false, 1, [.int .u8 0], (.int .u8)⟩), (4, some ⟨1, false, 1, [.int .u8 0], (.int .u8)⟩), (5, some ⟨1, false, 1, [.int .u8 0], (.int .u8)⟩), (6, some ⟨1, false, 1, [.int .u8 0], (.int .u8)⟩), (7, some ⟨1, false, 8, [.nilfn], .func⟩), (8, some ⟨1, false, 8, [.nilptr], .ptr⟩), (9, some ⟨1, false, 4, [.int .i32 0], (.int .i32)⟩), (10, some ⟨1, false, 4, [.int .i32 0], (.int .i32)⟩)], none, none⟩ := by kernel_rfl
end Go.Proofs

/- The program's functions that cut a text: the walks. -/
set_option linter.unusedSimpArgs false
namespace Go.Proofs
open Go Go.Abs

def smallI (c : Int) : Bool := decide (97 ≤ c) && decide (c ≤ 122)
def greatI (c : Int) : Bool := decide (65 ≤ c) && decide (c ≤ 90)
def digitI (c : Int) : Bool := decide (48 ≤ c) && decide (c ≤ 57)
def letterI (c : Int) : Bool := smallI c || greatI c || digitI c || decide (c = 95)
def printI (c : Int) : Bool := decide (32 ≤ c) && decide (c ≤ 126)

theorem SmallI_eq (c : Int) : CallEq Tryd.prog 31 [.int .i32 c] (.bool (smallI c)) := by
  refine CallEq.begin (rs := [.tmp 2]) (m := 8) 1000 Tryd.func31 rfl rfl rfl (by decide) trivial ?_
  unfold smallI
  by_cases h : 97 ≤ c
  · simp only [go_sem, Nat.reduceAdd, Nat.reduceSub, Nat.reduceMul, Nat.reduceLeDiff, Nat.reduceEqDiff, Nat.reduceBEq, h, decide_true, Bool.true_and]
  · simp only [go_sem, Nat.reduceAdd, Nat.reduceSub, Nat.reduceMul, Nat.reduceLeDiff, Nat.reduceEqDiff, Nat.reduceBEq, h, decide_false, Bool.false_and]
theorem DigitI_eq (c : Int) : CallEq Tryd.prog 33 [.int .i32 c] (.bool (digitI c)) := by
  refine CallEq.begin (rs := [.tmp 2]) (m := 8) 1000 Tryd.func33 rfl rfl rfl (by decide) trivial ?_
  unfold digitI
  by_cases h : 48 ≤ c
  · simp only [go_sem, Nat.reduceAdd, Nat.reduceSub, Nat.reduceMul, Nat.reduceLeDiff, Nat.reduceEqDiff, Nat.reduceBEq, h, decide_true, Bool.true_and]
  · simp only [go_sem, Nat.reduceAdd, Nat.reduceSub, Nat.reduceMul, Nat.reduceLeDiff, Nat.reduceEqDiff, Nat.reduceBEq, h, decide_false, Bool.false_and]
theorem GreatI_eq (c : Int) : CallEq Tryd.prog 39 [.int .i32 c] (.bool (greatI c)) := by
  refine CallEq.begin (rs := [.tmp 2]) (m := 8) 1000 Tryd.func39 rfl rfl rfl (by decide) trivial ?_
  unfold greatI
  by_cases h : 65 ≤ c
  · simp only [go_sem, Nat.reduceAdd, Nat.reduceSub, Nat.reduceMul, Nat.reduceLeDiff, Nat.reduceEqDiff, Nat.reduceBEq, h, decide_true, Bool.true_and]
  · simp only [go_sem, Nat.reduceAdd, Nat.reduceSub, Nat.reduceMul, Nat.reduceLeDiff, Nat.reduceEqDiff, Nat.reduceBEq, h, decide_false, Bool.false_and]
theorem PrintI_eq (c : Int) : CallEq Tryd.prog 30 [.int .i32 c] (.bool (printI c)) := by
  refine CallEq.begin (rs := [.tmp 2]) (m := 8) 1000 Tryd.func30 rfl rfl rfl (by decide) trivial ?_
  unfold printI
  by_cases h : 32 ≤ c
  · simp only [go_sem, Nat.reduceAdd, Nat.reduceSub, Nat.reduceMul, Nat.reduceLeDiff, Nat.reduceEqDiff, Nat.reduceBEq, h, decide_true, Bool.true_and]
  · simp only [go_sem, Nat.reduceAdd, Nat.reduceSub, Nat.reduceMul, Nat.reduceLeDiff, Nat.reduceEqDiff, Nat.reduceBEq, h, decide_false, Bool.false_and]
theorem LetterI_eq (c : Int) : CallEq Tryd.prog 32 [.int .i32 c] (.bool (letterI c)) := by
  refine CallEq.begin (rs := [.tmp 2]) (m := 16) 1000 Tryd.func32 rfl rfl rfl (by decide) trivial ?_
  unfold letterI
  simp only [go_sem, Nat.reduceAdd, Nat.reduceSub, Nat.reduceMul, Nat.reduceLeDiff, Nat.reduceEqDiff, Nat.reduceBEq]
  refine VCall.isoT [] (SmallI_eq c) (pTL_refl _ _ _) (by simp [go_sem, ]) ?_; simp only [flatR, flatA, flatC, if_true]; refine EvK.go 1000 ?_
  cases smallI c with
  | true => simp only [go_sem, Nat.reduceAdd, Nat.reduceSub, Nat.reduceMul, Nat.reduceLeDiff, Nat.reduceEqDiff, Nat.reduceBEq, Bool.true_or]
  | false =>
    simp only [go_sem, Nat.reduceAdd, Nat.reduceSub, Nat.reduceMul, Nat.reduceLeDiff, Nat.reduceEqDiff, Nat.reduceBEq]
    refine VCall.isoT [] (GreatI_eq c) (pTL_refl _ _ _) (by simp [go_sem, ]) ?_; simp only [flatR, flatA, flatC, if_true]; refine EvK.go 1000 ?_
    cases greatI c with
    | true => simp only [go_sem, Nat.reduceAdd, Nat.reduceSub, Nat.reduceMul, Nat.reduceLeDiff, Nat.reduceEqDiff, Nat.reduceBEq, Bool.true_or, Bool.or_true]
    | false =>
      simp only [go_sem, Nat.reduceAdd, Nat.reduceSub, Nat.reduceMul, Nat.reduceLeDiff, Nat.reduceEqDiff, Nat.reduceBEq]
      refine VCall.isoT [] (DigitI_eq c) (pTL_refl _ _ _) (by simp [go_sem, ]) ?_; simp only [flatR, flatA, flatC, if_true]; refine EvK.go 1000 ?_
      cases digitI c with
      | true => simp only [go_sem, Nat.reduceAdd, Nat.reduceSub, Nat.reduceMul, Nat.reduceLeDiff, Nat.reduceEqDiff, Nat.reduceBEq, Bool.true_or, Bool.or_true]
      | false => simp only [go_sem, Nat.reduceAdd, Nat.reduceSub, Nat.reduceMul, Nat.reduceLeDiff, Nat.reduceEqDiff, Nat.reduceBEq, Bool.false_or]

theorem Run_eq (f : FuncId) (p : Int → Bool) (hp : ∀ c, CallEq Tryd.prog f [.int .i32 c] (.bool (p c))) (hq : ∀ c : Int, 128 ≤ c → p c = false) (s : ByteArray) (hs : s.size < 1000000) :
    CallEq Tryd.prog 29 [.str s, .fn f [] []] (.int .i64 (runB (fun c => p c.toNat) (bs s))) := by
  refine CallEq.begin (rs := [.tmp 4]) (m := 18) 1000 Tryd.func29 rfl rfl rfl (by decide) trivial ?_
  simp only [go_sem, Nat.reduceAdd, Nat.reduceSub, Nat.reduceMul, Nat.reduceLeDiff, Nat.reduceEqDiff, Nat.reduceBEq]
  refine EvK.loopI (ι := {pos : Nat // pos ≤ s.size ∧ runB (fun c => p c.toNat) (bs s) = pos + runB (fun c => p c.toNat) ((bs s).drop pos)}) 1000 (fun i => mkT 20 [(0, .str s), (1, .fn f [] []), (4, .int .i64 0), (8, .it 0)]) (fun i => [some (.iter s i.1)]) (fun i => s.size - i.1) ⟨0, Nat.zero_le _, by simp⟩ ?_ (fun _ => Nat.zero_le _) ?_
  · simp only [go_sem, Nat.reduceAdd, Nat.reduceSub, Nat.reduceMul, Nat.reduceLeDiff, Nat.reduceEqDiff, Nat.reduceBEq]
    decide
  · rintro ⟨i, hi, h3⟩
    by_cases hlt : i < s.size
    · rw [drop_at hlt] at h3
      by_cases ha : (s[i]).toNat < 128
      · have hd := decode_ascii s i hlt ha
        simp only [go_sem, Nat.reduceAdd, Nat.reduceSub, Nat.reduceMul, Nat.reduceLeDiff, Nat.reduceEqDiff, Nat.reduceBEq, hlt, hd]
        refine VCall.isoT [] (hp (s[i].toNat : Int)) (pTL_refl _ _ _) (by simp [go_sem, ]) ?_; simp only [flatR, flatA, flatC, if_true]; refine EvK.go 1000 ?_
        cases hc : p (s[i].toNat : Int) with
        | true =>
          simp only [go_sem, Nat.reduceAdd, Nat.reduceSub, Nat.reduceMul, Nat.reduceLeDiff, Nat.reduceEqDiff, Nat.reduceBEq]
          refine ⟨⟨i + 1, hlt, ?_⟩, ?_, by simp only; omega⟩
          · rw [h3, runB, List.takeWhile_cons, if_pos hc, List.length_cons, runB]; omega
          · simp only [go_sem, Nat.reduceAdd, Nat.reduceSub, Nat.reduceMul, Nat.reduceLeDiff, Nat.reduceEqDiff, Nat.reduceBEq]
            decide
        | false =>
          have hr : runB (fun c => p c.toNat) (s[i] :: (bs s).drop (i + 1)) = 0 := by rw [runB, List.takeWhile_cons, if_neg (by simp [hc])]; rfl
          rw [hr] at h3
          simp only [go_sem, Nat.reduceAdd, Nat.reduceSub, Nat.reduceMul, Nat.reduceLeDiff, Nat.reduceEqDiff, Nat.reduceBEq]
          refine EvK.go 1000 ?_
          rw [h3]
          simp only [go_sem, Nat.reduceAdd, Nat.reduceSub, Nat.reduceMul, Nat.reduceLeDiff, Nat.reduceEqDiff, Nat.reduceBEq]
      · obtain ⟨hd, hd2⟩ := decode_high s i hlt (by omega)
        have hc : p ((Utf8.decode s i).1 : Int) = false := hq _ (by omega)
        have hc2 : p (s[i].toNat : Int) = false := hq _ (by omega)
        have hr : runB (fun c => p c.toNat) (s[i] :: (bs s).drop (i + 1)) = 0 := by rw [runB, List.takeWhile_cons, if_neg (by simp [hc2])]; rfl
        rw [hr] at h3
        simp only [go_sem, Nat.reduceAdd, Nat.reduceSub, Nat.reduceMul, Nat.reduceLeDiff, Nat.reduceEqDiff, Nat.reduceBEq, hlt]
        refine VCall.isoT [] (hp ((Utf8.decode s i).1 : Int)) (pTL_refl _ _ _) (by simp [go_sem, ]) ?_; simp only [flatR, flatA, flatC, if_true]; refine EvK.go 1000 ?_
        rw [hc]
        simp only [go_sem, Nat.reduceAdd, Nat.reduceSub, Nat.reduceMul, Nat.reduceLeDiff, Nat.reduceEqDiff, Nat.reduceBEq]
        refine EvK.go 1000 ?_
        rw [h3]
        simp only [go_sem, Nat.reduceAdd, Nat.reduceSub, Nat.reduceMul, Nat.reduceLeDiff, Nat.reduceEqDiff, Nat.reduceBEq]
    · have hie : i = s.size := by omega
      have hd : (bs s).drop i = [] := List.drop_eq_nil_of_le (by rw [bs_len]; omega)
      rw [hd] at h3
      simp only [go_sem, Nat.reduceAdd, Nat.reduceSub, Nat.reduceMul, Nat.reduceLeDiff, Nat.reduceEqDiff, Nat.reduceBEq, hlt]
      refine EvK.go 1000 ?_
      rw [h3, hie]
      simp only [go_sem, Nat.reduceAdd, Nat.reduceSub, Nat.reduceMul, Nat.reduceLeDiff, Nat.reduceEqDiff, Nat.reduceBEq]
      simp [runB]

/-! ### white -/
theorem dropW_head {p : UInt8 → Bool} : ∀ (l : By) (c : UInt8) (r : By), l.dropWhile p = c :: r → p c = false
  | [], c, r, h => by cases h
  | d :: l, c, r, h => by
    cases hd : p d with
    | true => rw [List.dropWhile_cons_of_pos hd] at h; exact dropW_head l c r h
    | false =>
      rw [List.dropWhile_cons_of_neg (by simp [hd])] at h
      cases h; exact hd
theorem bs_extract (s : ByteArray) (i j : Nat) : bs (s.extract i j) = ((bs s).take j).drop i := by
  simp [bs, ByteArray.data_extract, Array.toList_extract, List.extract_eq_take_drop, List.drop_take]
theorem ext_ofB (l : By) (i : Nat) : (ofB l).extract i l.length = ofB (l.drop i) := by
  apply bs_inj
  rw [bs_extract, bs_ofB, bs_ofB, List.take_length]
theorem pre1 (l : By) (c : UInt8) : Lib.hasPrefix l [c] = (l.head? == some c) := by
  cases l with
  | nil => rfl
  | cons d l =>
    simp only [Lib.hasPrefix, List.isPrefixOf, Bool.and_true, List.head?_cons]
    by_cases h : c = d
    · subst h; simp
    · rw [beq_eq_false_iff_ne.2 h]; simp [Ne.symm h]
theorem index_drop : ∀ (l : By), (Lib.indexByte l 10 = -1 → l.dropWhile (· != 10) = []) ∧ ∀ i : Nat, Lib.indexByte l 10 = i → l.dropWhile (· != 10) = l.drop i ∧ i ≤ l.length
  | [] => ⟨fun _ => rfl, fun i h => by simp [Lib.indexByte] at h⟩
  | c :: l => by
    obtain ⟨h1, h2⟩ := index_drop l
    have hg := Lib.indexByte_ge l 10
    by_cases hc : c = 10
    · subst hc
      refine ⟨fun h => by simp [Lib.indexByte] at h, fun i h => ?_⟩
      simp [Lib.indexByte] at h
      have : i = 0 := by omega
      subst this
      simp
    · have hd : (c :: l).dropWhile (· != 10) = l.dropWhile (· != 10) := List.dropWhile_cons_of_pos (by simpa using hc)
      have hi : Lib.indexByte (c :: l) 10 = if Lib.indexByte l 10 = -1 then -1 else Lib.indexByte l 10 + 1 := by simp [Lib.indexByte, hc]
      rw [hd, hi]
      by_cases hm : Lib.indexByte l 10 = -1
      · rw [if_pos hm]
        exact ⟨fun _ => h1 hm, fun i h => by omega⟩
      · rw [if_neg hm]
        refine ⟨fun h => by omega, fun i h => ?_⟩
        obtain ⟨j, rfl⟩ : ∃ j, i = j + 1 := ⟨i - 1, by omega⟩
        obtain ⟨q1, q2⟩ := h2 j (by omega)
        exact ⟨by rw [q1]; rfl, by simp; omega⟩
theorem index_cut : ∀ (l : By), (cutC l = none → Lib.index l [42, 47] = -1) ∧ ∀ b, cutC l = some b → ∃ i : Nat, Lib.index l [42, 47] = i ∧ b = l.drop (i + 2)
  | [] => ⟨fun _ => rfl, fun b h => by simp [cutC] at h⟩
  | c :: r => by
    obtain ⟨h1, h2⟩ := index_cut r
    simp only [cutC]
    by_cases hc : c = 42 ∧ r.head? = some 47
    · rw [if_pos hc]
      obtain ⟨rfl, hr⟩ := hc
      cases r with
      | nil => simp at hr
      | cons d r =>
        simp at hr
        subst hr
        refine ⟨fun h => by simp at h, fun b h => ⟨0, rfl, ?_⟩⟩
        simp at h
        rw [← h]; rfl
    · rw [if_neg hc]
      have hi : Lib.index (c :: r) [42, 47] = if Lib.index r [42, 47] = -1 then -1 else Lib.index r [42, 47] + 1 := by
        have : ([42, 47] : By).isPrefixOf (c :: r) = false := by
          cases r with
          | nil => simp [List.isPrefixOf]
          | cons d r =>
            simp [List.isPrefixOf] at hc ⊢
            exact fun h1 h2 => hc h1.symm h2.symm
        simp only [Lib.index, this, Bool.false_eq_true, if_false, beq_iff_eq]
      rw [hi]
      refine ⟨fun h => by rw [if_pos (h1 h)], fun b h => ?_⟩
      obtain ⟨i, q1, q2⟩ := h2 b h
      exact ⟨i + 1, by rw [q1, if_neg (by omega)]; rfl, by rw [q2]; rfl⟩

set_option maxHeartbeats 1000000 in
theorem White_eq (s : ByteArray) (hs : s.size < 1000000) : CallEq Tryd.prog 16 [.str s] (.int .i64 ((s.size : Int) - (skip (bs s)).length)) := by
  refine CallEq.begin (rs := [.tmp 2]) (m := 40) 1000 Tryd.func16 rfl rfl rfl (by decide) trivial ?_
  simp only [go_sem, Nat.reduceAdd, Nat.reduceSub, Nat.reduceMul, Nat.reduceLeDiff, Nat.reduceEqDiff, Nat.reduceBEq]
  refine EvK.loopI (ι := {l : By // l.length ≤ s.size ∧ skip l = skip (bs s)}) 1000 (fun i => mkT 41 [(0, .str s), (3, .str (ofB i.1))]) (fun _ => []) (fun i => i.1.length) ⟨bs s, by rw [bs_len]; exact Nat.le_refl _, rfl⟩ ?_ (fun _ => Nat.zero_le _) ?_
  · simp only [go_sem, Nat.reduceAdd, Nat.reduceSub, Nat.reduceMul, Nat.reduceLeDiff, Nat.reduceEqDiff, Nat.reduceBEq, ofB_bs]
    done
  · rintro ⟨l, hl, hk⟩
    simp only [go_sem, Nat.reduceAdd, Nat.reduceSub, Nat.reduceMul, Nat.reduceLeDiff, Nat.reduceEqDiff, Nat.reduceBEq]
    refine VCall.isoT [] (TrimW_eq (ofB l)) (pTL_refl _ _ _) (by simp [go_sem, ]) ?_; simp only [flatR, flatA, flatC, if_true]; refine EvK.go 1000 ?_
    rw [bs_ofB]
    have hk1 : skip (l.dropWhile isW) = skip (bs s) := by rw [skip_dropW, hk]
    have hl1 := dropW_len (p := isW) l
    have hw := dropW_head (p := isW) l
    generalize l.dropWhile isW = l1 at *
    simp only [go_sem, Nat.reduceAdd, Nat.reduceSub, Nat.reduceMul, Nat.reduceLeDiff, Nat.reduceEqDiff, Nat.reduceBEq]
    refine VCall.isoT [] (HasPre_eq (ofB l1) ⟨#[37]⟩) (pTL_refl _ _ _) (by simp [go_sem, ]) ?_; simp only [flatR, flatA, flatC, if_true]; refine EvK.go 1000 ?_
    rw [bs_ofB, show bs ⟨#[37]⟩ = [37] from rfl, pre1]
    rcases l1 with _ | ⟨c, r⟩
    · have e1 : ((([] : By).head? == some 37)) = false := rfl
      rw [e1]
      simp only [go_sem, Nat.reduceAdd, Nat.reduceSub, Nat.reduceMul, Nat.reduceLeDiff, Nat.reduceEqDiff, Nat.reduceBEq]
      refine VCall.isoT [] (HasPre_eq (ofB []) ⟨#[47, 42]⟩) (pTL_refl _ _ _) (by simp [go_sem, ]) ?_; simp only [flatR, flatA, flatC, if_true]; refine EvK.go 1000 ?_
      have e2 : Lib.hasPrefix (bs (ofB [])) (bs ⟨#[47, 42]⟩) = false := rfl
      rw [e2]
      simp only [go_sem, Nat.reduceAdd, Nat.reduceSub, Nat.reduceMul, Nat.reduceLeDiff, Nat.reduceEqDiff, Nat.reduceBEq]
      refine EvK.go 1000 ?_
      have hk2 : skip (bs s) = [] := hk1.symm
      simp only [go_sem, Nat.reduceAdd, Nat.reduceSub, Nat.reduceMul, Nat.reduceLeDiff, Nat.reduceEqDiff, Nat.reduceBEq, ofB_size, hk2, List.length_nil, Int.natCast_zero]
      rw [i64_id (by omega)]
    · have hwc := hw c r rfl
      by_cases c37 : c = 37
      · subst c37
        have e1 : (((37 :: r : By).head? == some 37)) = true := rfl
        rw [e1]
        simp only [go_sem, Nat.reduceAdd, Nat.reduceSub, Nat.reduceMul, Nat.reduceLeDiff, Nat.reduceEqDiff, Nat.reduceBEq]
        refine VCall.isoT [] (IndexByte_eq (ofB (37 :: r)) 10) (pTL_refl _ _ _) (by simp [go_sem, ]) ?_; simp only [flatR, flatA, flatC, if_true]; refine EvK.go 1000 ?_
        rw [bs_ofB, show (Int.toNat 10).toUInt8 = 10 from rfl]
        obtain ⟨i1, i2⟩ := index_drop (37 :: r)
        rw [skip_pct] at hk1
        have hdr : (37 :: r : By).dropWhile (· != 10) = r.dropWhile (· != 10) := rfl
        rw [hdr] at i1 i2
        have hg := Lib.indexByte_ge (37 :: r) 10
        by_cases hm : Lib.indexByte (37 :: r) 10 = -1
        · rw [hm]
          have hd := i1 hm
          rw [hd] at hk1
          simp only [go_sem, Nat.reduceAdd, Nat.reduceSub, Nat.reduceMul, Nat.reduceLeDiff, Nat.reduceEqDiff, Nat.reduceBEq, Int.reduceLT, ofB_size, Int.toNat_natCast]
          refine ⟨by omega, ⟨[], by simp, hk1⟩, ?_, by simp at hl1 ⊢; omega⟩
          rw [show r.length + 1 = (37 :: r : By).length from rfl, ext_ofB, List.drop_length]
        · obtain ⟨i, hi⟩ : ∃ i : Nat, Lib.indexByte (37 :: r) 10 = i := ⟨(Lib.indexByte (37 :: r) 10).toNat, by omega⟩
          rw [hi]
          have hn : ¬ (i : Int) < 0 := by omega
          obtain ⟨hd, hle⟩ := i2 i hi
          have hdl := dropW_len (p := (· != 10)) r
          rw [List.length_cons] at hle hl1
          simp only [go_sem, Nat.reduceAdd, Nat.reduceSub, Nat.reduceMul, Nat.reduceLeDiff, Nat.reduceEqDiff, Nat.reduceBEq, hn, ofB_size, Int.toNat_natCast]
          refine ⟨by omega, ⟨r.dropWhile (· != 10), by omega, hk1⟩, ?_, by simp only; omega⟩
          rw [show r.length + 1 = (37 :: r : By).length from rfl, ext_ofB]
          show AVal.str (ofB (r.dropWhile (· != 10))) = _
          rw [hd]
      · have e1 : ((c :: r : By).head? == some 37) = false := by simp [c37]
        rw [e1]
        simp only [go_sem, Nat.reduceAdd, Nat.reduceSub, Nat.reduceMul, Nat.reduceLeDiff, Nat.reduceEqDiff, Nat.reduceBEq]
        refine VCall.isoT [] (HasPre_eq (ofB (c :: r)) ⟨#[47, 42]⟩) (pTL_refl _ _ _) (by simp [go_sem, ]) ?_; simp only [flatR, flatA, flatC, if_true]; refine EvK.go 1000 ?_
        rw [bs_ofB, show bs ⟨#[47, 42]⟩ = [47, 42] from rfl]
        by_cases c47 : c = 47 ∧ r.head? = some 42
        · obtain ⟨rfl, hr⟩ := c47
          rcases r with _ | ⟨d, r⟩
          · simp at hr
          simp at hr
          subst hr
          rw [show Lib.hasPrefix (47 :: 42 :: r) [47, 42] = true from rfl]
          have hx : (ofB (47 :: 42 :: r)).extract 2 (r.length + 1 + 1) = ofB r := ext_ofB (47 :: 42 :: r) 2
          simp only [go_sem, Nat.reduceAdd, Nat.reduceSub, Nat.reduceMul, Nat.reduceLeDiff, Nat.reduceEqDiff, Nat.reduceBEq, ofB_size, List.length_cons, show Int.toNat 2 = 2 from rfl, hx]
          refine ⟨by omega, ?_⟩
          refine VCall.isoT [] (Cut_eq (ofB r) ⟨#[42, 47]⟩ (by rw [ofB_size]; simp at hl1; omega)) (pTL_refl _ _ _) (by simp [go_sem, ]) ?_; rw [frzI_nil]; simp only [ite_self]; refine EvK.go 1000 ?_
          rw [bs_ofB, show bs ⟨#[42, 47]⟩ = [42, 47] from rfl]
          obtain ⟨i1, i2⟩ := index_cut r
          cases hc : cutC r with
          | none =>
            have hi := i1 hc
            rw [skip_open hc] at hk1
            have e3 : Lib.cut r [42, 47] = (r, [], false) := by rw [Lib.cut, hi]; rfl
            rw [e3]
            simp only [go_sem, Nat.reduceAdd, Nat.reduceSub, Nat.reduceMul, Nat.reduceLeDiff, Nat.reduceEqDiff, Nat.reduceBEq]
            refine EvK.go 1000 ?_
            simp only [go_sem, Nat.reduceAdd, Nat.reduceSub, Nat.reduceMul, Nat.reduceLeDiff, Nat.reduceEqDiff, Nat.reduceBEq, ofB_size, ← hk1, List.length_cons]
            rw [i64_id (by simp at hl1 ⊢; omega)]
          | some b =>
            obtain ⟨i, hi, hb⟩ := i2 b hc
            have hbl := cutC_len hc
            rw [skip_cmt hc] at hk1
            have e3 : Lib.cut r [42, 47] = (r.take i, b, true) := by
              rw [Lib.cut, hi, if_pos (by omega), hb]; rfl
            rw [e3]
            simp only [go_sem, Nat.reduceAdd, Nat.reduceSub, Nat.reduceMul, Nat.reduceLeDiff, Nat.reduceEqDiff, Nat.reduceBEq]
            refine ⟨⟨b, by simp at hl1; omega, hk1⟩, rfl, by simp at hl1 ⊢; omega⟩
        · have e2 : Lib.hasPrefix (c :: r) [47, 42] = false := by
            cases r with
            | nil => simp [Lib.hasPrefix, List.isPrefixOf]
            | cons d r =>
              simp [Lib.hasPrefix, List.isPrefixOf] at c47 ⊢
              exact fun h1 h2 => c47 h1.symm h2.symm
          rw [e2]
          rw [skip_stop hwc c37 c47] at hk1
          simp only [go_sem, Nat.reduceAdd, Nat.reduceSub, Nat.reduceMul, Nat.reduceLeDiff, Nat.reduceEqDiff, Nat.reduceBEq]
          refine EvK.go 1000 ?_
          simp only [go_sem, Nat.reduceAdd, Nat.reduceSub, Nat.reduceMul, Nat.reduceLeDiff, Nat.reduceEqDiff, Nat.reduceBEq, ofB_size, ← hk1]
          rw [i64_id (by simp at hl1 ⊢; omega)]
end Go.Proofs

/- The program's functions that cut a text: names and tokens. -/
set_option linter.unusedSimpArgs false
namespace Go.Proofs
open Go Go.Abs

theorem i32_id {n : Int} (h : -2147483648 ≤ n ∧ n ≤ 2147483647) : IntKind.i32.wrap n = n := by
  simp only [IntKind.wrap, IntKind.signed, IntKind.bits]
  simp
  omega
theorem u8_lt (c : UInt8) : c.toNat < 256 := c.toNat_lt
theorem smallI_B (c : UInt8) : smallI (c.toNat : Int) = smallB c := by
  simp only [smallI, smallB, show decide ((97 : Int) ≤ (c.toNat : Int)) = decide (97 ≤ c.toNat) from decide_eq_decide.2 (by omega), show decide ((c.toNat : Int) ≤ 122) = decide (c.toNat ≤ 122) from decide_eq_decide.2 (by omega)]
theorem greatI_B (c : UInt8) : greatI (c.toNat : Int) = greatB c := by
  simp only [greatI, greatB, show decide ((65 : Int) ≤ (c.toNat : Int)) = decide (65 ≤ c.toNat) from decide_eq_decide.2 (by omega), show decide ((c.toNat : Int) ≤ 90) = decide (c.toNat ≤ 90) from decide_eq_decide.2 (by omega)]
theorem digitI_B (c : UInt8) : digitI (c.toNat : Int) = digitB c := by
  simp only [digitI, digitB, show decide ((48 : Int) ≤ (c.toNat : Int)) = decide (48 ≤ c.toNat) from decide_eq_decide.2 (by omega), show decide ((c.toNat : Int) ≤ 57) = decide (c.toNat ≤ 57) from decide_eq_decide.2 (by omega)]
theorem letterI_B (c : UInt8) : letterI (c.toNat : Int) = onB c := by
  have h : decide ((c.toNat : Int) = 95) = (c == 95) := by
    rw [Bool.eq_iff_iff, decide_eq_true_eq, beq_iff_eq]
    have := @u8_eq c 95 (by decide)
    constructor
    · intro h; exact this.2 (by omega)
    · intro h; have := this.1 h; omega
  simp only [letterI, onB, smallI_B, greatI_B, digitI_B, h]
theorem letter_high (c : Int) (h : 128 ≤ c) : letterI c = false := by
  simp only [letterI, smallI, greatI, digitI, decide_eq_false (show ¬ c ≤ 122 by omega), decide_eq_false (show ¬ c ≤ 90 by omega), decide_eq_false (show ¬ c ≤ 57 by omega), decide_eq_false (show ¬ c = 95 by omega), Bool.and_false, Bool.or_false]
theorem digit_high (c : Int) (h : 128 ≤ c) : digitI c = false := by
  simp only [digitI, decide_eq_false (show ¬ c ≤ 57 by omega), Bool.and_false]
theorem print_high (c : Int) (h : 128 ≤ c) : printI c = false := by
  simp only [printI, decide_eq_false (show ¬ c ≤ 126 by omega), Bool.and_false]
theorem RunL_eq (s : ByteArray) (hs : s.size < 1000000) : CallEq Tryd.prog 29 [.str s, .fn 32 [] []] (.int .i64 (runB onB (bs s))) := by
  have := Run_eq 32 letterI LetterI_eq letter_high s hs
  rw [show (fun c : UInt8 => letterI c.toNat) = onB from funext letterI_B] at this
  exact this
theorem RunD_eq (s : ByteArray) (hs : s.size < 1000000) : CallEq Tryd.prog 29 [.str s, .fn 33 [] []] (.int .i64 (runB digitB (bs s))) := by
  have := Run_eq 33 digitI DigitI_eq digit_high s hs
  rw [show (fun c : UInt8 => digitI c.toNat) = digitB from funext digitI_B] at this
  exact this

theorem quoteB_len : ∀ (n : Nat) (l acc : By) (x : By × By), l.length ≤ n → quoteB acc l = some x → x.2.length + 1 ≤ l.length
  | n, [], acc, x, _, h => by rw [quoteB_nil] at h; cases h
  | n + 1, c :: r, acc, x, hn, h => by
    simp only [List.length_cons] at hn
    by_cases c39 : c = 39
    · subst c39
      rw [quoteB_39] at h
      split at h
      · cases h
      · cases h; simp
    · by_cases cb : c.toNat < 32 ∨ 126 < c.toNat
      · rw [quoteB_bad c39 cb] at h; cases h
      · by_cases c92 : c = 92
        · subst c92
          cases r with
          | nil => rw [quoteB_92] at h; cases h
          | cons d r =>
            rw [quoteB_two] at h
            split at h
            · have := quoteB_len n r _ x (by simp at hn; omega) h
              simp; omega
            · cases h
        · rw [quoteB_one c39 cb c92] at h
          have := quoteB_len n r _ x (by omega) h
          simp; omega
theorem run_le (p : UInt8 → Bool) (l : By) : runB p l ≤ l.length := (List.takeWhile_sublist p).length_le
theorem ext_take (s : ByteArray) (j : Nat) : s.extract 0 j = ofB ((bs s).take j) := by
  apply bs_inj
  rw [bs_extract, bs_ofB, List.drop_zero]
theorem ext_drop (s : ByteArray) (i : Nat) : s.extract i s.size = ofB ((bs s).drop i) := by
  apply bs_inj
  rw [bs_extract, bs_ofB, ← bs_len, List.take_length]
theorem head_at {s : ByteArray} {c : UInt8} {r : By} (h : bs s = c :: r) : ∃ h0 : 0 < s.size, s[0] = c := by
  have h0 : 0 < s.size := by rw [← bs_len, h]; simp
  refine ⟨h0, ?_⟩
  have := drop_at (s := s) (k := 0) h0
  rw [List.drop_zero, h] at this
  exact (List.cons.inj this).1.symm

theorem name_le (l : By) : (nameB l).2.2 ≤ l.length := by
  cases l with
  | nil => exact Nat.le_refl _
  | cons c r =>
    have h1 := run_le digitB (c :: r)
    have h2 := run_le onB (c :: r)
    have h3 := run_le onB r
    simp only [nameB]
    by_cases c1 : c = 39
    · rw [if_pos c1]
      cases quoteB [] r with
      | none => exact Nat.zero_le _
      | some x => exact Nat.sub_le _ _
    rw [if_neg c1]
    split
    · exact h1
    · split
      · exact h2
      · split
        · exact h2
        · split
          · simp only [List.length_cons]; omega
          · exact Nat.zero_le _
def nameA (x : Int × By × Nat) : AVal := .tup [.int .i64 x.1, .str (ofB x.2.1), .int .i64 x.2.2]
set_option maxHeartbeats 1000000 in
theorem Name_eq (s : ByteArray) (hs : s.size < 1000000) (c : UInt8) (r : By) (hb : bs s = c :: r) : CallEq Tryd.prog 17 [.str s] (nameA (nameB (bs s))) := by
  refine CallEq.begin (rs := [.tmp 2, .tmp 3, .tmp 4]) (m := 61) 1000 Tryd.func17 rfl rfl rfl (by decide) (by simp [go_sem, nameA]) ?_
  obtain ⟨h0, hc⟩ := head_at hb
  have hl : r.length + 1 = s.size := by rw [← bs_len, hb]; rfl
  have h8 := u8_lt c
  have e39 : c = 39 ↔ c.toNat = 39 := u8_eq (by decide)
  have e36 : c = 36 ↔ c.toNat = 36 := u8_eq (by decide)
  have hw : IntKind.i32.wrap (c.toNat : Int) = c.toNat := i32_id (by omega)
  have hrd := run_le digitB (bs s)
  have hro := run_le onB (bs s)
  rw [bs_len] at hrd hro
  by_cases c39 : c.toNat = 39
  · have d39 : (c.toNat : Int) = 39 := by omega
    simp only [go_sem, Nat.reduceAdd, Nat.reduceSub, Nat.reduceMul, Nat.reduceLeDiff, Nat.reduceEqDiff, Nat.reduceBEq, h0, hc, show Int.toNat 0 = 0 from rfl, Int.reduceLE, d39, i32_id (n := 39) (by decide)]
    refine ⟨trivial, ?_⟩
    refine VCall.isoT [] (Quoted_eq s (by omega)) (pTL_refl _ _ _) (by simp [go_sem]) ?_
    rw [frzI_nil]; simp only [ite_self]
    refine EvK.go 1000 ?_
    unfold quoteA
    rw [hb, List.drop_succ_cons, List.drop_zero, e39.2 c39]
    cases hq : quoteB [] r with
    | none =>
      rw [name_q0 hq]
      simp only [go_sem, Nat.reduceAdd, Nat.reduceSub, Nat.reduceMul, Nat.reduceLeDiff, Nat.reduceEqDiff, Nat.reduceBEq, nameA, Int.natCast_zero]
      rfl
    | some x =>
      have := quoteB_len _ r [] x (Nat.le_refl _) hq
      rw [name_q1 hq]
      simp only [go_sem, Nat.reduceAdd, Nat.reduceSub, Nat.reduceMul, Nat.reduceLeDiff, Nat.reduceEqDiff, Nat.reduceBEq, nameA]
      rw [show ((r.length + 1 - x.2.length : Nat) : Int) = (s.size : Int) - x.2.length by omega]
  have n39 : ¬ (c.toNat : Int) = 39 := by omega
  have m39 : ¬ c = 39 := fun h => c39 (e39.1 h)
  simp only [go_sem, Nat.reduceAdd, Nat.reduceSub, Nat.reduceMul, Nat.reduceLeDiff, Nat.reduceEqDiff, Nat.reduceBEq, h0, hc, hw, show Int.toNat 0 = 0 from rfl, Int.reduceLE, n39]
  refine ⟨trivial, ?_⟩
  refine VCall.isoT [] (DigitI_eq (c.toNat : Int)) (pTL_refl _ _ _) (by simp [go_sem, ]) ?_; simp only [flatR, flatA, flatC, if_true]; refine EvK.go 1000 ?_
  rw [digitI_B]
  cases hd : digitB c with
  | true =>
    rw [hb, name_d m39 hd, ← hb]
    simp only [go_sem, Nat.reduceAdd, Nat.reduceSub, Nat.reduceMul, Nat.reduceLeDiff, Nat.reduceEqDiff, Nat.reduceBEq]
    refine VCall.isoT [] (RunD_eq s hs) (pTL_refl _ _ _) (by simp [go_sem, ]) ?_; simp only [flatR, flatA, flatC, if_true]; refine EvK.go 1000 ?_
    simp only [go_sem, Nat.reduceAdd, Nat.reduceSub, Nat.reduceMul, Nat.reduceLeDiff, Nat.reduceEqDiff, Nat.reduceBEq]
    refine EvK.go 1000 ?_
    simp only [go_sem, Nat.reduceAdd, Nat.reduceSub, Nat.reduceMul, Nat.reduceLeDiff, Nat.reduceEqDiff, Nat.reduceBEq]
    refine EvK.draw [] 0 0 mixed rfl rfl (Nat.le_refl _) ?_
    simp only [go_sem, Nat.reduceAdd, Nat.reduceSub, Nat.reduceMul, Nat.reduceLeDiff, Nat.reduceEqDiff, Nat.reduceBEq, padS, ext_take, Int.toNat_natCast, Int.toNat_zero, List.take_zero]
    refine ⟨by omega, ?_⟩
    refine EvK.go 1000 ?_
    simp only [go_sem, Nat.reduceAdd, Nat.reduceSub, Nat.reduceMul, Nat.reduceLeDiff, Nat.reduceEqDiff, Nat.reduceBEq, nameA]
  | false =>
  simp only [go_sem, Nat.reduceAdd, Nat.reduceSub, Nat.reduceMul, Nat.reduceLeDiff, Nat.reduceEqDiff, Nat.reduceBEq]
  refine VCall.isoT [] (SmallI_eq (c.toNat : Int)) (pTL_refl _ _ _) (by simp [go_sem, ]) ?_; simp only [flatR, flatA, flatC, if_true]; refine EvK.go 1000 ?_
  rw [smallI_B]
  cases hsm : smallB c with
  | true =>
    rw [hb, name_s m39 hd hsm, ← hb]
    simp only [go_sem, Nat.reduceAdd, Nat.reduceSub, Nat.reduceMul, Nat.reduceLeDiff, Nat.reduceEqDiff, Nat.reduceBEq]
    refine VCall.isoT [] (RunL_eq s hs) (pTL_refl _ _ _) (by simp [go_sem, ]) ?_; simp only [flatR, flatA, flatC, if_true]; refine EvK.go 1000 ?_
    simp only [go_sem, Nat.reduceAdd, Nat.reduceSub, Nat.reduceMul, Nat.reduceLeDiff, Nat.reduceEqDiff, Nat.reduceBEq]
    refine EvK.go 1000 ?_
    simp only [go_sem, Nat.reduceAdd, Nat.reduceSub, Nat.reduceMul, Nat.reduceLeDiff, Nat.reduceEqDiff, Nat.reduceBEq]
    refine EvK.draw [] 0 0 mixed rfl rfl (Nat.le_refl _) ?_
    simp only [go_sem, Nat.reduceAdd, Nat.reduceSub, Nat.reduceMul, Nat.reduceLeDiff, Nat.reduceEqDiff, Nat.reduceBEq, padS, ext_take, Int.toNat_natCast, Int.toNat_zero, List.take_zero]
    refine ⟨by omega, ?_⟩
    refine EvK.go 1000 ?_
    simp only [go_sem, Nat.reduceAdd, Nat.reduceSub, Nat.reduceMul, Nat.reduceLeDiff, Nat.reduceEqDiff, Nat.reduceBEq, nameA]
  | false =>
  simp only [go_sem, Nat.reduceAdd, Nat.reduceSub, Nat.reduceMul, Nat.reduceLeDiff, Nat.reduceEqDiff, Nat.reduceBEq]
  refine VCall.isoT [] (GreatI_eq (c.toNat : Int)) (pTL_refl _ _ _) (by simp [go_sem, ]) ?_; simp only [flatR, flatA, flatC, if_true]; refine EvK.go 1000 ?_
  rw [greatI_B]
  cases hgr : greatB c with
  | true =>
    rw [hb, name_g m39 hd hsm hgr, ← hb]
    simp only [go_sem, Nat.reduceAdd, Nat.reduceSub, Nat.reduceMul, Nat.reduceLeDiff, Nat.reduceEqDiff, Nat.reduceBEq]
    refine VCall.isoT [] (RunL_eq s hs) (pTL_refl _ _ _) (by simp [go_sem, ]) ?_; simp only [flatR, flatA, flatC, if_true]; refine EvK.go 1000 ?_
    simp only [go_sem, Nat.reduceAdd, Nat.reduceSub, Nat.reduceMul, Nat.reduceLeDiff, Nat.reduceEqDiff, Nat.reduceBEq]
    refine EvK.go 1000 ?_
    simp only [go_sem, Nat.reduceAdd, Nat.reduceSub, Nat.reduceMul, Nat.reduceLeDiff, Nat.reduceEqDiff, Nat.reduceBEq]
    refine EvK.draw [] 0 0 mixed rfl rfl (Nat.le_refl _) ?_
    simp only [go_sem, Nat.reduceAdd, Nat.reduceSub, Nat.reduceMul, Nat.reduceLeDiff, Nat.reduceEqDiff, Nat.reduceBEq, padS, ext_take, Int.toNat_natCast, Int.toNat_zero, List.take_zero]
    refine ⟨by omega, ?_⟩
    refine EvK.go 1000 ?_
    simp only [go_sem, Nat.reduceAdd, Nat.reduceSub, Nat.reduceMul, Nat.reduceLeDiff, Nat.reduceEqDiff, Nat.reduceBEq, nameA]
  | false =>
  by_cases c36 : c.toNat = 36
  · have d36 : (c.toNat : Int) = 36 := by omega
    have k36 := e36.2 c36
    rcases r with _ | ⟨d, r⟩
    · have h1 : ¬ (1 : Int) < s.size := by rw [← hl]; decide
      rw [hb, k36, show nameB [36] = (0, [], 0) from rfl]
      rw [k36] at *
      simp only [go_sem, Nat.reduceAdd, Nat.reduceSub, Nat.reduceMul, Nat.reduceLeDiff, Nat.reduceEqDiff, Nat.reduceBEq, h1, show ((UInt8.toNat 36 : Nat) : Int) = 36 from rfl]
      refine EvK.draw [] 0 0 mixed rfl rfl (Nat.le_refl _) ?_
      simp only [go_sem, Nat.reduceAdd, Nat.reduceSub, Nat.reduceMul, Nat.reduceLeDiff, Nat.reduceEqDiff, Nat.reduceBEq, padS, ext_take, Int.toNat_natCast, Int.toNat_zero, List.take_zero, Int.natCast_zero, Int.reduceLE, Int.natCast_nonneg, true_and, h0]
      refine EvK.go 1000 ?_
      simp only [go_sem, Nat.reduceAdd, Nat.reduceSub, Nat.reduceMul, Nat.reduceLeDiff, Nat.reduceEqDiff, Nat.reduceBEq, nameA, Int.natCast_zero]
    · have h1 : (1 : Int) < s.size := by rw [← hl, List.length_cons]; omega
      have h1' : 1 < s.size := by omega
      have hd1 : s[1] = d := by
        have := drop_at (s := s) (k := 1) h1'
        rw [hb] at this
        exact (List.cons.inj this).1.symm
      have h8d := u8_lt d
      have hwd : IntKind.i32.wrap (d.toNat : Int) = d.toNat := i32_id (by omega)
      have hd8 : (bs s).drop 1 = d :: r := by rw [hb]; rfl
      have hx1 : s.extract 1 s.size = ofB (d :: r) := by rw [ext_drop, hd8]
      have hrz := run_le onB (d :: r)
      simp only [List.length_cons] at hrz hl
      simp only [go_sem, Nat.reduceAdd, Nat.reduceSub, Nat.reduceMul, Nat.reduceLeDiff, Nat.reduceEqDiff, Nat.reduceBEq, d36, h1, h1', hd1, hwd, show Int.toNat 1 = 1 from rfl, Int.reduceLE]
      refine ⟨trivial, ?_⟩
      refine VCall.isoT [] (SmallI_eq (d.toNat : Int)) (pTL_refl _ _ _) (by simp [go_sem, ]) ?_; simp only [flatR, flatA, flatC, if_true]; refine EvK.go 1000 ?_
      rw [smallI_B]
      cases hsd : smallB d with
      | true =>
        rw [hb, k36, name_y hsd, ← k36, ← hb]
        simp only [go_sem, Nat.reduceAdd, Nat.reduceSub, Nat.reduceMul, Nat.reduceLeDiff, Nat.reduceEqDiff, Nat.reduceBEq, hx1, show Int.toNat 1 = 1 from rfl]
        refine ⟨by omega, ?_⟩
        refine VCall.isoT [] (RunL_eq (ofB (d :: r)) (by rw [ofB_size]; simp; omega)) (pTL_refl _ _ _) (by simp [go_sem, ]) ?_; simp only [flatR, flatA, flatC, if_true]; refine EvK.go 1000 ?_
        rw [bs_ofB]
        simp only [go_sem, Nat.reduceAdd, Nat.reduceSub, Nat.reduceMul, Nat.reduceLeDiff, Nat.reduceEqDiff, Nat.reduceBEq]
        rw [i64_id (by omega)]
        refine EvK.draw [] 0 0 mixed rfl rfl (Nat.le_refl _) ?_
        simp only [go_sem, Nat.reduceAdd, Nat.reduceSub, Nat.reduceMul, Nat.reduceLeDiff, Nat.reduceEqDiff, Nat.reduceBEq, padS, ext_take, show ((1 : Int) + (runB onB (d :: r) : Nat)).toNat = 1 + runB onB (d :: r) by omega]
        refine ⟨by omega, ?_⟩
        refine EvK.go 1000 ?_
        simp only [go_sem, Nat.reduceAdd, Nat.reduceSub, Nat.reduceMul, Nat.reduceLeDiff, Nat.reduceEqDiff, Nat.reduceBEq, nameA]
        rw [Int.natCast_add]
        rfl
      | false =>
        rw [hb, k36, name_y0 hsd]
        simp only [go_sem, Nat.reduceAdd, Nat.reduceSub, Nat.reduceMul, Nat.reduceLeDiff, Nat.reduceEqDiff, Nat.reduceBEq]
        refine EvK.draw [] 0 0 mixed rfl rfl (Nat.le_refl _) ?_
        simp only [go_sem, Nat.reduceAdd, Nat.reduceSub, Nat.reduceMul, Nat.reduceLeDiff, Nat.reduceEqDiff, Nat.reduceBEq, padS, ext_take, Int.toNat_natCast, Int.toNat_zero, List.take_zero, Int.natCast_zero, Int.reduceLE, Int.natCast_nonneg, true_and, h0]
        refine EvK.go 1000 ?_
        simp only [go_sem, Nat.reduceAdd, Nat.reduceSub, Nat.reduceMul, Nat.reduceLeDiff, Nat.reduceEqDiff, Nat.reduceBEq, nameA, Int.natCast_zero]
  · have n36 : ¬ (c.toNat : Int) = 36 := by omega
    have m36 : ¬ c = 36 := fun h => c36 (e36.1 h)
    rw [hb, name_n m39 hd hsm hgr m36]
    simp only [go_sem, Nat.reduceAdd, Nat.reduceSub, Nat.reduceMul, Nat.reduceLeDiff, Nat.reduceEqDiff, Nat.reduceBEq, n36]
    refine EvK.draw [] 0 0 mixed rfl rfl (Nat.le_refl _) ?_
    simp only [go_sem, Nat.reduceAdd, Nat.reduceSub, Nat.reduceMul, Nat.reduceLeDiff, Nat.reduceEqDiff, Nat.reduceBEq, padS, ext_take, Int.toNat_natCast, Int.toNat_zero, List.take_zero, Int.natCast_zero, Int.reduceLE, Int.natCast_nonneg, true_and, h0]
    refine EvK.go 1000 ?_
    simp only [go_sem, Nat.reduceAdd, Nat.reduceSub, Nat.reduceMul, Nat.reduceLeDiff, Nat.reduceEqDiff, Nat.reduceBEq, nameA, Int.natCast_zero]
end Go.Proofs

/- The program's functions that cut a text: the next token. -/
set_option linter.unusedSimpArgs false
namespace Go.Proofs
open Go Go.Abs

theorem str_eq (a b : ByteArray) : (a.toList == b.toList) = decide (bs a = bs b) := by
  by_cases h : a = b
  · subst h; simp
  · rw [(Lib.bytes_beq_false_iff a b).2 h, decide_eq_false (fun e => h (bs_inj e))]
def strsB (l : List By) : List AVal := l.map fun x => .str (ofB x)
theorem Signs_eq : CallEq Tryd.prog 18 [] (.agg (strsB signL)) := by
  refine CallEq.begin (rs := [.cell 0 39]) (m := 2) 1000 Tryd.func18 rfl rfl rfl (by decide) (by simp [strsB, signL, AVal.low, lowL]) ?_
  simp only [go_sem, Nat.reduceAdd, Nat.reduceSub, Nat.reduceMul, Nat.reduceLeDiff, Nat.reduceEqDiff, Nat.reduceBEq, strsB, signL, List.map_cons, List.map_nil, ofB, List.range_zero, List.nil_append, List.cons_append, List.getElem?_cons_zero, List.getElem?_cons_succ, Nat.mul_one, Nat.reduceMul]
  done

def Tok.cs (t : Tok) : List AVal := [.int .i64 t.kind, .int .i64 t.at', .str (ofB t.text)]
theorem tok_eq (t : Tok) : t.toA = .agg [.int .i64 t.kind, .int .i64 t.at', .str (ofB t.text)] := rfl
def nextA (x : Tok × Int × Int) : AVal := .tup [x.1.toA, .int .i64 x.2.1, .int .i64 x.2.2]
theorem suffix_drop {l q r : By} (h : l = q ++ r) : l.drop (l.length - r.length) = r := by
  subst h
  rw [List.length_append, Nat.add_sub_cancel, List.drop_left]

set_option maxHeartbeats 1600000 in
theorem NextP_eq (s : ByteArray) (hs : s.size < 1000000) (i : Int) : CallEq Tryd.prog 10 [.str s, .int .i64 i] (nextA (nextB (bs s) i)) := by
  refine CallEq.begin (rs := [.cell 4 27, .tmp 5, .tmp 6]) (m := 71) 1000 Tryd.func10 rfl rfl rfl (by decide) (by simp [go_sem, nextA, tok_eq]) ?_
  by_cases c1 : i < 0
  · have hn : nextB (bs s) i = (Tok.zero, 0, 1) := by rw [nextB, if_pos (.inl c1)]
    rw [hn]
    simp only [go_sem, Nat.reduceAdd, Nat.reduceSub, Nat.reduceMul, Nat.reduceLeDiff, Nat.reduceEqDiff, Nat.reduceBEq, c1, nextA, tok_eq, Tok.zero]
    rfl
  by_cases c2 : (s.size : Int) < i
  · have hn : nextB (bs s) i = (Tok.zero, 0, 1) := by rw [nextB, if_pos (.inr (by rw [bs_len]; exact c2))]
    rw [hn]
    simp only [go_sem, Nat.reduceAdd, Nat.reduceSub, Nat.reduceMul, Nat.reduceLeDiff, Nat.reduceEqDiff, Nat.reduceBEq, c1, c2, nextA, tok_eq, Tok.zero]
    rfl
  obtain ⟨n, rfl⟩ : ∃ n : Nat, i = n := ⟨i.toNat, by omega⟩
  have hn : nextB (bs s) n = if skip ((bs s).drop n) = [] then ((⟨4, (s.size : Int), []⟩, (s.size : Int), 0) : Tok × Int × Int) else
      if 0 < (nameB (skip ((bs s).drop n))).2.2 then
        (if 64 < (nameB (skip ((bs s).drop n))).2.1.length then (Tok.zero, (s.size : Int) - (skip ((bs s).drop n)).length, 8)
         else (⟨(nameB (skip ((bs s).drop n))).1, (s.size : Int) - (skip ((bs s).drop n)).length, (nameB (skip ((bs s).drop n))).2.1⟩, (s.size : Int) - (skip ((bs s).drop n)).length + (nameB (skip ((bs s).drop n))).2.2, 0))
      else match signL.find? (·.isPrefixOf (skip ((bs s).drop n))) with
        | some x => (⟨3, (s.size : Int) - (skip ((bs s).drop n)).length, x⟩, (s.size : Int) - (skip ((bs s).drop n)).length + x.length, 0)
        | none => (Tok.zero, (s.size : Int) - (skip ((bs s).drop n)).length, 4) := by
    rw [nextB, if_neg (by rw [bs_len]; omega), Int.toNat_natCast, bs_len]; rfl
  rw [hn]
  obtain ⟨q, hq⟩ := skip_suffix _ ((bs s).drop n) (Nat.le_refl _)
  have hdl : ((bs s).drop n).length = s.size - n := by rw [List.length_drop, bs_len]
  have hrl := skip_len ((bs s).drop n)
  have hrest : (bs s).drop (s.size - (skip ((bs s).drop n)).length) = skip ((bs s).drop n) := by
    have : bs s = ((bs s).take n ++ q) ++ skip ((bs s).drop n) := by rw [List.append_assoc, ← hq, List.take_append_drop]
    have h2 := suffix_drop this
    rw [bs_len] at h2
    exact h2
  have hW := White_eq (ofB ((bs s).drop n)) (by rw [ofB_size]; omega)
  rw [bs_ofB, ofB_size, hdl] at hW
  generalize skip ((bs s).drop n) = rest at *
  have hp : (n : Int) + (((s.size - n : Nat) : Int) - rest.length) = ((s.size - rest.length : Nat) : Int) := by omega
  have hx : s.extract (s.size - rest.length) s.size = ofB rest := by rw [ext_drop, hrest]
  simp only [go_sem, Nat.reduceAdd, Nat.reduceSub, Nat.reduceMul, Nat.reduceLeDiff, Nat.reduceEqDiff, Nat.reduceBEq, c1, c2, Int.toNat_natCast, ext_drop]
  (repeat ((with_reducible refine And.intro ?_ ?_); · omega))
  refine VCall.isoT [] (hW) (pTL_refl _ _ _) (by simp [go_sem, ]) ?_; simp only [flatR, flatA, flatC, if_true]; refine EvK.go 1000 ?_
  simp only [go_sem, Nat.reduceAdd, Nat.reduceSub, Nat.reduceMul, Nat.reduceLeDiff, Nat.reduceEqDiff, Nat.reduceBEq]
  rw [hp, i64_id (by omega)]
  have hpp : (s.size : Int) - rest.length = ((s.size - rest.length : Nat) : Int) := by omega
  rw [hpp]
  have hps : s.size - rest.length + rest.length = s.size := by omega
  generalize s.size - rest.length = p at *
  rcases rest with _ | ⟨c, r⟩
  · simp only [go_sem, Nat.reduceAdd, Nat.reduceSub, Nat.reduceMul, Nat.reduceLeDiff, Nat.reduceEqDiff, Nat.reduceBEq, Int.toNat_natCast, hx, str_eq, bs_ofB, show bs ⟨#[]⟩ = [] from rfl]
    refine ⟨by omega, ?_⟩
    simp only [List.length_nil, Nat.add_zero] at hps
    simp only [if_true, nextA, tok_eq, hps]
    simp only [go_sem, Nat.reduceAdd, Nat.reduceSub, Nat.reduceMul, Nat.reduceLeDiff, Nat.reduceEqDiff, Nat.reduceBEq, pT_agg]
    rfl
  have hne : ¬ (c :: r) = bs ⟨#[]⟩ := by simp [bs]
  rw [if_neg (by simp)]
  simp only [go_sem, Nat.reduceAdd, Nat.reduceSub, Nat.reduceMul, Nat.reduceLeDiff, Nat.reduceEqDiff, Nat.reduceBEq, Int.toNat_natCast, hx, str_eq, bs_ofB, hne]
  refine ⟨by omega, ?_⟩
  have hN := Name_eq (ofB (c :: r)) (by rw [ofB_size]; omega) c r (bs_ofB _)
  rw [bs_ofB] at hN
  refine VCall.isoT [] (hN) (pTL_refl _ _ _) (by simp [go_sem, ]) ?_; rw [frzI_nil]; simp only [ite_self]; refine EvK.go 1000 ?_
  have hml := name_le (c :: r)
  generalize nameB (c :: r) = N at *
  obtain ⟨k, t, m⟩ := N
  simp only at hml
  by_cases hm : 0 < m
  · rw [if_pos hm]
    have hm' : (0 : Int) < m := by omega
    by_cases ht : 64 < t.length
    · rw [if_pos ht]
      have ht' : (64 : Int) < t.length := by omega
      simp only [go_sem, Nat.reduceAdd, Nat.reduceSub, Nat.reduceMul, Nat.reduceLeDiff, Nat.reduceEqDiff, Nat.reduceBEq, nameA, hm', ofB_size, ht', nextA, tok_eq, Tok.zero]
      rfl
    · rw [if_neg ht]
      have ht' : ¬ (64 : Int) < t.length := by omega
      simp only [go_sem, Nat.reduceAdd, Nat.reduceSub, Nat.reduceMul, Nat.reduceLeDiff, Nat.reduceEqDiff, Nat.reduceBEq, nameA, hm', ofB_size, ht', nextA, tok_eq]
      rw [i64_id (by omega)]
  · rw [if_neg hm]
    have hm' : ¬ (0 : Int) < m := by omega
    simp only [go_sem, Nat.reduceAdd, Nat.reduceSub, Nat.reduceMul, Nat.reduceLeDiff, Nat.reduceEqDiff, Nat.reduceBEq, nameA, hm']
    refine VCall.isoT [] (Signs_eq) (pTL_refl _ _ _) (by simp [go_sem, ]) ?_; rw [frzI_nil]; simp only [ite_self]; refine EvK.go 1000 ?_
    simp only [go_sem, Nat.reduceAdd, Nat.reduceSub, Nat.reduceMul, Nat.reduceLeDiff, Nat.reduceEqDiff, Nat.reduceBEq]
    refine EvK.loopI (ι := {j : Nat // j ≤ 18 ∧ signL.find? (·.isPrefixOf (c :: r)) = (signL.drop j).find? (·.isPrefixOf (c :: r))}) 1000 (fun j => mkT 73 [(0, .str s), (1, .int .i64 p), (4, .ptr 0 0), (5, .int .i64 0), (6, .int .i64 0), (7, .str (ofB (c :: r))), (56, .agg (strsB signL)), (57, .int .i64 j.1)]) (fun _ => [some (.var [.int .i64 0, .int .i64 0, .str ⟨#[]⟩])]) (fun j => 18 - j.1) ⟨0, by omega, rfl⟩ ?_ (fun _ => Nat.zero_le _) ?_
    · simp only [go_sem, Nat.reduceAdd, Nat.reduceSub, Nat.reduceMul, Nat.reduceLeDiff, Nat.reduceEqDiff, Nat.reduceBEq, Int.natCast_zero]
      exact ⟨by decide, lowL_map fun _ _ => trivial⟩
    · rintro ⟨j, hj, hf⟩
      by_cases hlt : (j : Int) < 18
      · have hlt' : j < signL.length := by show j < 18; omega
        rw [List.drop_eq_getElem_cons hlt', List.find?_cons] at hf
        have hdr : (strsB signL).drop j = .str (ofB signL[j]) :: strsB (signL.drop (j + 1)) := by
          simp only [strsB, ← List.map_drop]
          rw [List.drop_eq_getElem_cons hlt']; rfl
        have hsl : signL[j].length ≤ 3 := by
          have : ∀ x ∈ signL, x.length ≤ 3 := by decide
          exact this _ (List.getElem_mem hlt')
        generalize signL[j] = x at *
        simp only [go_sem, Nat.reduceAdd, Nat.reduceSub, Nat.reduceMul, Nat.reduceLeDiff, Nat.reduceEqDiff, Nat.reduceBEq, hlt, Int.toNat_natCast, Nat.mul_one, hdr]
        refine ⟨by omega, ?_⟩
        refine VCall.isoT [] (HasPre_eq (ofB (c :: r)) (ofB x)) (pTL_refl _ _ _) (by simp [go_sem, ]) ?_; simp only [flatR, flatA, flatC, if_true]; refine EvK.go 1000 ?_
        rw [bs_ofB, bs_ofB]
        have hpf : Lib.hasPrefix (c :: r) x = x.isPrefixOf (c :: r) := rfl
        rw [hpf]
        cases hxp : x.isPrefixOf (c :: r) with
        | true =>
          rw [hxp] at hf
          simp only at hf
          simp only [go_sem, Nat.reduceAdd, Nat.reduceSub, Nat.reduceMul, Nat.reduceLeDiff, Nat.reduceEqDiff, Nat.reduceBEq, ofB_size]
          rw [i64_id (by omega)]
          refine EvK.go 1000 ?_
          rw [hf]
          simp only [go_sem, Nat.reduceAdd, Nat.reduceSub, Nat.reduceMul, Nat.reduceLeDiff, Nat.reduceEqDiff, Nat.reduceBEq, nextA, tok_eq]
        | false =>
          rw [hxp] at hf
          simp only at hf
          simp only [go_sem, Nat.reduceAdd, Nat.reduceSub, Nat.reduceMul, Nat.reduceLeDiff, Nat.reduceEqDiff, Nat.reduceBEq]
          refine ⟨⟨j + 1, by omega, hf⟩, ?_, by simp only; omega⟩
          simp only [go_sem, Nat.reduceAdd, Nat.reduceSub, Nat.reduceMul, Nat.reduceLeDiff, Nat.reduceEqDiff, Nat.reduceBEq]
          rw [i64_id (by omega)]
          exact ⟨by simp, by decide, lowL_map fun _ _ => trivial⟩
      · have hj18 : j = signL.length := by show j = 18; omega
        rw [hj18, List.drop_length, List.find?_nil] at hf
        simp only [go_sem, Nat.reduceAdd, Nat.reduceSub, Nat.reduceMul, Nat.reduceLeDiff, Nat.reduceEqDiff, Nat.reduceBEq, hlt]
        refine EvK.go 1000 ?_
        rw [hf]
        simp only [go_sem, Nat.reduceAdd, Nat.reduceSub, Nat.reduceMul, Nat.reduceLeDiff, Nat.reduceEqDiff, Nat.reduceBEq, nextA, tok_eq, Tok.zero]
        rfl
end Go.Proofs

/- The program's functions that cut a text: all tokens. -/
set_option linter.unusedSimpArgs false
namespace Go.Proofs
open Go Go.Abs

def toks (l : List Tok) : List AVal := l.map Tok.toA
theorem toks_len (l : List Tok) : (toks l).length = l.length := by simp [toks]
theorem toks_low {n : Nat} (l : List Tok) : lowL n (toks l) := lowL_map fun _ _ => ⟨trivial, trivial, trivial, trivial⟩
theorem toks_add (l : List Tok) (t : Tok) : toks (l ++ [t]) = toks l ++ [t.toA] := by simp [toks]
def allA (x : List Tok × Int × Int) : AVal := .tup [.ps 3 (toks x.1), .int .i64 x.2.1, .int .i64 x.2.2]
theorem ok_tok (t : Tok) : appOk ⟨3, true, 32, [.int .i64 0, .int .i64 0, .str ⟨#[]⟩], .struct⟩ [t.toA] = True := eq_true ⟨fun x hx => by rw [List.mem_singleton.1 hx]; exact ⟨rfl, rfl⟩, by decide, by decide, rfl⟩

theorem next_facts {s : By} {i : Int} (h0 : 0 ≤ i) (h1 : i ≤ s.length) (he : (nextB s i).2.2 = 0) (hk : (nextB s i).1.kind ≠ 4) : i < (nextB s i).2.1 ∧ (nextB s i).2.1 ≤ s.length := by
  have hdl : (s.drop i.toNat).length = s.length - i.toNat := List.length_drop
  have hrl := skip_len (s.drop i.toNat)
  have hml := name_le (skip (s.drop i.toNat))
  unfold nextB at he hk ⊢
  rw [if_neg (by omega)] at he hk ⊢
  generalize skip (s.drop i.toNat) = rest at *
  by_cases hr : rest = []
  · rw [if_pos hr] at hk; exact absurd rfl hk
  rw [if_neg hr] at he hk ⊢
  generalize nameB rest = N at *
  obtain ⟨k, t, m⟩ := N
  simp only at hml he hk ⊢
  by_cases hm : 0 < m
  · rw [if_pos hm] at he hk ⊢
    by_cases ht : 64 < t.length
    · rw [if_pos ht] at he; cases he
    · rw [if_neg ht]
      simp only; omega
  · rw [if_neg hm] at he hk ⊢
    cases hf : signL.find? (·.isPrefixOf rest) with
    | none => rw [hf] at he; cases he
    | some x =>
      simp only
      have hx := List.find?_some hf
      have hp := List.isPrefixOf_iff_prefix.1 hx
      have hl := hp.length_le
      have h3 : 1 ≤ x.length := by
        have : ∀ x ∈ signL, 1 ≤ x.length := by decide
        exact this _ (List.mem_of_find?_eq_some hf)
      omega

set_option maxHeartbeats 1600000 in
theorem AllP_eq (s : ByteArray) (hs : s.size < 1000000) : CallEq Tryd.prog 8 [.str s] (allA (allB (bs s))) := by
  refine CallEq.begin (rs := [.tmp 2, .tmp 3, .tmp 4]) (m := 36) 1000 Tryd.func8 rfl rfl rfl (by decide) (by simp [go_sem, allA, toks_low]) ?_
  by_cases c1 : 65536 < (s.size : Int)
  · have ha : allB (bs s) = ([], 0, 2) := by rw [allB, if_pos (by rw [bs_len]; exact c1)]
    rw [ha]
    simp only [go_sem, Nat.reduceAdd, Nat.reduceSub, Nat.reduceMul, Nat.reduceLeDiff, Nat.reduceEqDiff, Nat.reduceBEq, c1, allA, toks, List.map_nil]
    done
  have ha : allB (bs s) = allF (bs s) (s.size + 1) 0 [] := by rw [allB, if_neg (by rw [bs_len]; exact c1), bs_len]
  rw [ha]
  generalize hR : allF (bs s) (s.size + 1) 0 [] = R
  simp only [go_sem, Nat.reduceAdd, Nat.reduceSub, Nat.reduceMul, Nat.reduceLeDiff, Nat.reduceEqDiff, Nat.reduceBEq, c1]
  refine EvK.loopR (ι := {p : Int × List Tok × Nat // 0 ≤ p.1 ∧ p.1 ≤ s.size ∧ (p.2.1.length : Int) ≤ p.1 ∧ (s.size : Int) < p.1 + p.2.2 ∧ allF (bs s) p.2.2 p.1 p.2.1 = R}) 1000 (fun p => mkT 37 [(0, .str s), (2, .nils), (3, .int .i64 0), (4, .int .i64 0), (5, slA 0 3 (toks p.1.2.1)), (6, .int .i64 p.1.1)]) (fun p => [slB (toks p.1.2.1)]) (fun p => p.1.2.2) ⟨(0, [], s.size + 1), by omega, by omega, by simp, by simp only; omega, hR⟩ [] ?_ (fun _ => Nat.zero_le _) ?_
  · refine leR_mk rfl ?_
    simp only [go_sem, Nat.reduceAdd, Nat.reduceSub, Nat.reduceMul, Nat.reduceLeDiff, Nat.reduceEqDiff, Nat.reduceBEq, toks, List.map_nil, slA_nil, slB_nil]
    done
  · rintro ⟨⟨i, out, fuel⟩, h0, h1, h2, h3, hF⟩
    simp only at h0 h1 h2 h3 hF
    obtain ⟨k, rfl⟩ : ∃ k, fuel = k + 1 := ⟨fuel - 1, by omega⟩
    rw [allF] at hF
    have hnf := next_facts (s := bs s) (i := i) h0 (by rw [bs_len]; exact h1)
    rw [bs_len] at hnf
    simp only [go_sem, Nat.reduceAdd, Nat.reduceSub, Nat.reduceMul, Nat.reduceLeDiff, Nat.reduceEqDiff, Nat.reduceBEq]
    refine VCall.isoT [] (NextP_eq s hs i) (pTL_refl _ _ _) (by simp [go_sem, ]) ?_; rw [frzI_nil]; simp only [ite_self]; refine EvK.go 1000 ?_
    generalize nextB (bs s) i = N at *
    obtain ⟨t, nx, e⟩ := N
    simp only at hF hnf
    by_cases he : e = 0
    · subst he
      rw [if_neg (by simp)] at hF
      by_cases hk : t.kind = 4
      · rw [if_pos hk, bs_len] at hF
        simp only [go_sem, Nat.reduceAdd, Nat.reduceSub, Nat.reduceMul, Nat.reduceLeDiff, Nat.reduceEqDiff, Nat.reduceBEq, nextA, tok_eq, hk]
        refine EvK.go 1000 ?_
        rw [← hF]
        simp only [go_sem, Nat.reduceAdd, Nat.reduceSub, Nat.reduceMul, Nat.reduceLeDiff, Nat.reduceEqDiff, Nat.reduceBEq, allA, pT_slA]
        done
      · rw [if_neg hk] at hF
        obtain ⟨g1, g2⟩ := hnf rfl hk
        have kt := ok_tok t
        rw [tok_eq] at kt
        have hol : out.length ≤ 999999999 := by omega
        simp only [go_sem, Nat.reduceAdd, Nat.reduceSub, Nat.reduceMul, Nat.reduceLeDiff, Nat.reduceEqDiff, Nat.reduceBEq, nextA, tok_eq, hk, app_slA, kt, toks_len, Nat.le_refl, hol]
        refine ⟨by decide, ⟨(nx, out ++ [t], k), by simp only; omega, by simp only; omega, by simp; omega, by simp only; omega, hF⟩, [(0, 3), (3, 0)], leR_mk rfl ?_, by simp only; omega⟩
        have ht2 : toks (out ++ [t]) = toks out ++ [.agg [.int .i64 t.kind, .int .i64 t.at', .str (ofB t.text)]] := by rw [toks_add, tok_eq]
        simp only [ht2]
        simp only [go_sem, Nat.reduceAdd, Nat.reduceSub, Nat.reduceMul, Nat.reduceLeDiff, Nat.reduceEqDiff, Nat.reduceBEq, slA_snoc, slB_snoc, toks_len]
        rw [← ht2, renL_low0 (toks_low _)]
        simp [toks_low]
    · rw [if_pos he] at hF
      simp only [go_sem, Nat.reduceAdd, Nat.reduceSub, Nat.reduceMul, Nat.reduceLeDiff, Nat.reduceEqDiff, Nat.reduceBEq, nextA, tok_eq, he]
      refine EvK.go 1000 ?_
      rw [← hF]
      simp only [go_sem, Nat.reduceAdd, Nat.reduceSub, Nat.reduceMul, Nat.reduceLeDiff, Nat.reduceEqDiff, Nat.reduceBEq, allA, toks, List.map_nil]
      done
end Go.Proofs

/- The program's functions that cut a text: quotes. -/
set_option linter.unusedSimpArgs false
namespace Go.Proofs
open Go Go.Abs

theorem run_all (p : UInt8 → Bool) : ∀ l : By, (runB p l = l.length ↔ l.all p = true)
  | [] => by simp [runB]
  | c :: l => by
    have ih := run_all p l
    simp only [runB, List.takeWhile_cons, List.all_cons] at ih ⊢
    cases hc : p c with
    | true => simp only [if_true, List.length_cons, Bool.true_and]; rw [← ih]; omega
    | false => simp
theorem ofB_append (a b : By) : ofB a ++ ofB b = ofB (a ++ b) := by
  apply ByteArray.ext
  simp [ofB]
def prB (c : UInt8) : Bool := printI (c.toNat : Int)
theorem bad_pr (c : UInt8) : badQ c = !prB c := by
  simp only [badQ, prB, printI, show decide ((32 : Int) ≤ (c.toNat : Int)) = decide (32 ≤ c.toNat) from decide_eq_decide.2 (by omega), show decide ((c.toNat : Int) ≤ 126) = decide (c.toNat ≤ 126) from decide_eq_decide.2 (by omega)]
  by_cases h1 : c.toNat < 32 <;> by_cases h2 : 126 < c.toNat <;> simp [h1, h2] <;> omega
theorem RunP_eq (s : ByteArray) (hs : s.size < 1000000) : CallEq Tryd.prog 29 [.str s, .fn 30 [] []] (.int .i64 (runB prB (bs s))) :=
  Run_eq 30 printI PrintI_eq print_high s hs
theorem esc_len (o : UInt8) (l : By) : (l.flatMap fun c => if c = o then [92, o] else [c]).length ≤ 2 * l.length := by
  induction l with
  | nil => simp
  | cons c l ih =>
    rw [List.flatMap_cons, List.length_append, List.length_cons]
    by_cases h : c = o
    · rw [if_pos h]; simp only [List.length_cons, List.length_nil]; omega
    · rw [if_neg h]; simp only [List.length_cons, List.length_nil]; omega
theorem small_digit {c : UInt8} (h : smallB c = true) : digitB c = false := by
  simp only [smallB, Bool.and_eq_true, decide_eq_true_eq] at h
  simp only [digitB, decide_eq_false (show ¬ c.toNat ≤ 57 by omega), Bool.and_false]
def quoteR (x : By × Int) : AVal := .tup [.str (ofB x.1), .int .i64 x.2]

set_option maxHeartbeats 1600000 in
theorem QuoteP_eq (s : ByteArray) (hs : s.size < 1000000) : CallEq Tryd.prog 14 [.str s] (quoteR (quoteS (bs s))) := by
  refine CallEq.begin (rs := [.tmp 2, .tmp 3]) (m := 45) 1000 Tryd.func14 rfl rfl rfl (by decide) (by simp [go_sem, quoteR]) ?_
  by_cases c1 : bs s = []
  · have hq : quoteS (bs s) = ([], 8) := by rw [quoteS, if_pos (.inl c1)]
    rw [hq]
    simp only [go_sem, Nat.reduceAdd, Nat.reduceSub, Nat.reduceMul, Nat.reduceLeDiff, Nat.reduceEqDiff, Nat.reduceBEq, str_eq, c1, show bs ⟨#[]⟩ = [] from rfl, quoteR]
    rfl
  have c1' : ¬ bs s = bs ⟨#[]⟩ := c1
  by_cases c2 : 64 < (s.size : Int)
  · have hq : quoteS (bs s) = ([], 8) := by rw [quoteS, if_pos (.inr (by rw [bs_len]; exact c2))]
    rw [hq]
    simp only [go_sem, Nat.reduceAdd, Nat.reduceSub, Nat.reduceMul, Nat.reduceLeDiff, Nat.reduceEqDiff, Nat.reduceBEq, str_eq, c1', c2, quoteR]
    rfl
  simp only [go_sem, Nat.reduceAdd, Nat.reduceSub, Nat.reduceMul, Nat.reduceLeDiff, Nat.reduceEqDiff, Nat.reduceBEq, str_eq, c1', c2]
  refine VCall.isoT [] (RunP_eq s hs) (pTL_refl _ _ _) (by simp [go_sem, ]) ?_; simp only [flatR, flatA, flatC, if_true]; refine EvK.go 1000 ?_
  have hra := run_all prB (bs s)
  have hrl := run_le prB (bs s)
  rw [bs_len] at hra hrl
  by_cases c3 : (bs s).all prB = true
  case neg =>
    have hlt : (runB prB (bs s) : Int) < s.size := by
      have : runB prB (bs s) ≠ s.size := fun h => c3 (hra.1 h)
      omega
    have hbad : (bs s).any badQ = true := by
      rw [List.any_eq_true]
      have := List.all_eq_false.1 (Bool.not_eq_true _ ▸ c3)
      obtain ⟨x, h1, h2⟩ := this
      exact ⟨x, h1, by rw [bad_pr]; simpa using h2⟩
    have hq : quoteS (bs s) = ([], 4) := by rw [quoteS, if_neg (by rw [bs_len]; exact fun h => h.elim c1 c2), if_pos hbad]
    rw [hq]
    simp only [go_sem, Nat.reduceAdd, Nat.reduceSub, Nat.reduceMul, Nat.reduceLeDiff, Nat.reduceEqDiff, Nat.reduceBEq, hlt, quoteR]
    rfl
  have hlt : ¬ (runB prB (bs s) : Int) < s.size := by have := hra.2 c3; omega
  have hbad : (bs s).any badQ = false := by
    rw [List.any_eq_false]
    intro x hx
    rw [bad_pr, (List.all_eq_true.1 c3) x hx]; simp
  obtain ⟨c, r, hb⟩ : ∃ c r, bs s = c :: r := by
    cases h : bs s with
    | nil => exact absurd h c1
    | cons c r => exact ⟨c, r, rfl⟩
  obtain ⟨h0, hc⟩ := head_at hb
  have h8 := u8_lt c
  have hw : IntKind.i32.wrap (c.toNat : Int) = c.toNat := i32_id (by omega)
  have hq : quoteS (bs s) = if plainQ (bs s) = true then (bs s, 0) else (39 :: (escB (bs s) ++ [39]), 0) := by
    rw [quoteS, if_neg (by rw [bs_len]; exact fun h => h.elim c1 c2), if_neg (by rw [hbad]; decide)]
  rw [hq]
  simp only [go_sem, Nat.reduceAdd, Nat.reduceSub, Nat.reduceMul, Nat.reduceLeDiff, Nat.reduceEqDiff, Nat.reduceBEq, hlt, h0, hc, hw, show Int.toNat 0 = 0 from rfl, Int.reduceLE]
  refine ⟨trivial, ?_⟩
  refine VCall.isoT [] (SmallI_eq (c.toNat : Int)) (pTL_refl _ _ _) (by simp [go_sem, ]) ?_; simp only [flatR, flatA, flatC, if_true]; refine EvK.go 1000 ?_
  rw [smallI_B]
  have hrD := run_all digitB (bs s)
  have hrL := run_all onB (bs s)
  rw [bs_len] at hrD hrL
  have hpq : plainQ (bs s) = ((smallB c && (bs s).all onB) || (digitB c && (bs s).all digitB)) := by rw [hb]; rfl
  cases hsm : smallB c with
  | true =>
    have hd := small_digit hsm
    rw [hsm, hd, Bool.true_and, Bool.false_and, Bool.or_false] at hpq
    simp only [go_sem, Nat.reduceAdd, Nat.reduceSub, Nat.reduceMul, Nat.reduceLeDiff, Nat.reduceEqDiff, Nat.reduceBEq]
    refine VCall.isoT [] (RunL_eq s hs) (pTL_refl _ _ _) (by simp [go_sem, ]) ?_; simp only [flatR, flatA, flatC, if_true]; refine EvK.go 1000 ?_
    by_cases c4 : runB onB (bs s) = s.size
    · rw [if_pos (by rw [hpq]; exact hrL.1 c4)]
      have c4' : (runB onB (bs s) : Int) = s.size := by omega
      simp only [go_sem, Nat.reduceAdd, Nat.reduceSub, Nat.reduceMul, Nat.reduceLeDiff, Nat.reduceEqDiff, Nat.reduceBEq, c4', quoteR, ofB_bs]
      done
    · have hpl : ¬ plainQ (bs s) = true := by rw [hpq]; exact fun h => c4 (hrL.2 h)
      have c4' : ¬ (runB onB (bs s) : Int) = s.size := by omega
      simp only [go_sem, Nat.reduceAdd, Nat.reduceSub, Nat.reduceMul, Nat.reduceLeDiff, Nat.reduceEqDiff, Nat.reduceBEq, c4']
      refine VCall.isoT [] (DigitI_eq (c.toNat : Int)) (pTL_refl _ _ _) (by simp [go_sem, ]) ?_; simp only [flatR, flatA, flatC, if_true]; refine EvK.go 1000 ?_
      rw [digitI_B, hd]
      rw [if_neg hpl]
      simp only [go_sem, Nat.reduceAdd, Nat.reduceSub, Nat.reduceMul, Nat.reduceLeDiff, Nat.reduceEqDiff, Nat.reduceBEq]
      refine VCall.isoT [] (Replace_eq s ⟨#[92]⟩ ⟨#[92, 92]⟩ hs rfl (by decide)) (pTL_refl _ _ _) (by simp [go_sem, ]) ?_; simp only [flatR, flatA, flatC, if_true]; refine EvK.go 1000 ?_
      rw [show bs ⟨#[92]⟩ = [92] from rfl, show bs ⟨#[92, 92]⟩ = [92, 92] from rfl]
      have hl1 : (Lib.replaceAll (bs s) [92] [92, 92]).length ≤ 2 * s.size := by
        rw [replaceAll_one 92 _ _ (by decide), ← bs_len]; exact esc_len 92 _
      simp only [go_sem, Nat.reduceAdd, Nat.reduceSub, Nat.reduceMul, Nat.reduceLeDiff, Nat.reduceEqDiff, Nat.reduceBEq]
      refine VCall.isoT [] (Replace_eq (ofB (Lib.replaceAll (bs s) [92] [92, 92])) ⟨#[39]⟩ ⟨#[92, 39]⟩ (by rw [ofB_size]; omega) rfl (by decide)) (pTL_refl _ _ _) (by simp [go_sem, ]) ?_; simp only [flatR, flatA, flatC, if_true]; refine EvK.go 1000 ?_
      rw [bs_ofB, show bs ⟨#[39]⟩ = [39] from rfl, show bs ⟨#[92, 39]⟩ = [92, 39] from rfl]
      have hl2 : (Lib.replaceAll (Lib.replaceAll (bs s) [92] [92, 92]) [39] [92, 39]).length ≤ 2 * (Lib.replaceAll (bs s) [92] [92, 92]).length := by
        rw [replaceAll_one 39 _ _ (by decide)]; exact esc_len 39 _
      rw [esc_two] at hl2 ⊢
      simp only [go_sem, Nat.reduceAdd, Nat.reduceSub, Nat.reduceMul, Nat.reduceLeDiff, Nat.reduceEqDiff, Nat.reduceBEq, ByteArray.size_append, ofB_size, show (⟨#[39]⟩ : ByteArray) = ofB [39] from rfl, ofB_append, quoteR, List.length_cons, List.length_nil, List.length_append]
      omega
  | false =>
    rw [hsm, Bool.false_and, Bool.false_or] at hpq
    simp only [go_sem, Nat.reduceAdd, Nat.reduceSub, Nat.reduceMul, Nat.reduceLeDiff, Nat.reduceEqDiff, Nat.reduceBEq]
    refine VCall.isoT [] (DigitI_eq (c.toNat : Int)) (pTL_refl _ _ _) (by simp [go_sem, ]) ?_; simp only [flatR, flatA, flatC, if_true]; refine EvK.go 1000 ?_
    rw [digitI_B]
    cases hd : digitB c with
    | true =>
      rw [hd, Bool.true_and] at hpq
      simp only [go_sem, Nat.reduceAdd, Nat.reduceSub, Nat.reduceMul, Nat.reduceLeDiff, Nat.reduceEqDiff, Nat.reduceBEq]
      refine VCall.isoT [] (RunD_eq s hs) (pTL_refl _ _ _) (by simp [go_sem, ]) ?_; simp only [flatR, flatA, flatC, if_true]; refine EvK.go 1000 ?_
      by_cases c4 : runB digitB (bs s) = s.size
      · rw [if_pos (by rw [hpq]; exact hrD.1 c4)]
        have c4' : (runB digitB (bs s) : Int) = s.size := by omega
        simp only [go_sem, Nat.reduceAdd, Nat.reduceSub, Nat.reduceMul, Nat.reduceLeDiff, Nat.reduceEqDiff, Nat.reduceBEq, c4', quoteR, ofB_bs]
        done
      · have hpl : ¬ plainQ (bs s) = true := by rw [hpq]; exact fun h => c4 (hrD.2 h)
        have c4' : ¬ (runB digitB (bs s) : Int) = s.size := by omega
        rw [if_neg hpl]
        simp only [go_sem, Nat.reduceAdd, Nat.reduceSub, Nat.reduceMul, Nat.reduceLeDiff, Nat.reduceEqDiff, Nat.reduceBEq, c4']
        refine VCall.isoT [] (Replace_eq s ⟨#[92]⟩ ⟨#[92, 92]⟩ hs rfl (by decide)) (pTL_refl _ _ _) (by simp [go_sem, ]) ?_; simp only [flatR, flatA, flatC, if_true]; refine EvK.go 1000 ?_
        rw [show bs ⟨#[92]⟩ = [92] from rfl, show bs ⟨#[92, 92]⟩ = [92, 92] from rfl]
        have hl1 : (Lib.replaceAll (bs s) [92] [92, 92]).length ≤ 2 * s.size := by
          rw [replaceAll_one 92 _ _ (by decide), ← bs_len]; exact esc_len 92 _
        simp only [go_sem, Nat.reduceAdd, Nat.reduceSub, Nat.reduceMul, Nat.reduceLeDiff, Nat.reduceEqDiff, Nat.reduceBEq]
        refine VCall.isoT [] (Replace_eq (ofB (Lib.replaceAll (bs s) [92] [92, 92])) ⟨#[39]⟩ ⟨#[92, 39]⟩ (by rw [ofB_size]; omega) rfl (by decide)) (pTL_refl _ _ _) (by simp [go_sem, ]) ?_; simp only [flatR, flatA, flatC, if_true]; refine EvK.go 1000 ?_
        rw [bs_ofB, show bs ⟨#[39]⟩ = [39] from rfl, show bs ⟨#[92, 39]⟩ = [92, 39] from rfl]
        have hl2 : (Lib.replaceAll (Lib.replaceAll (bs s) [92] [92, 92]) [39] [92, 39]).length ≤ 2 * (Lib.replaceAll (bs s) [92] [92, 92]).length := by
          rw [replaceAll_one 39 _ _ (by decide)]; exact esc_len 39 _
        rw [esc_two] at hl2 ⊢
        simp only [go_sem, Nat.reduceAdd, Nat.reduceSub, Nat.reduceMul, Nat.reduceLeDiff, Nat.reduceEqDiff, Nat.reduceBEq, ByteArray.size_append, ofB_size, show (⟨#[39]⟩ : ByteArray) = ofB [39] from rfl, ofB_append, quoteR, List.length_cons, List.length_nil, List.length_append]
        omega
    | false =>
      have hpl : ¬ plainQ (bs s) = true := by rw [hpq, hd, Bool.false_and]; decide
      rw [if_neg hpl]
      simp only [go_sem, Nat.reduceAdd, Nat.reduceSub, Nat.reduceMul, Nat.reduceLeDiff, Nat.reduceEqDiff, Nat.reduceBEq]
      refine VCall.isoT [] (Replace_eq s ⟨#[92]⟩ ⟨#[92, 92]⟩ hs rfl (by decide)) (pTL_refl _ _ _) (by simp [go_sem, ]) ?_; simp only [flatR, flatA, flatC, if_true]; refine EvK.go 1000 ?_
      rw [show bs ⟨#[92]⟩ = [92] from rfl, show bs ⟨#[92, 92]⟩ = [92, 92] from rfl]
      have hl1 : (Lib.replaceAll (bs s) [92] [92, 92]).length ≤ 2 * s.size := by
        rw [replaceAll_one 92 _ _ (by decide), ← bs_len]; exact esc_len 92 _
      simp only [go_sem, Nat.reduceAdd, Nat.reduceSub, Nat.reduceMul, Nat.reduceLeDiff, Nat.reduceEqDiff, Nat.reduceBEq]
      refine VCall.isoT [] (Replace_eq (ofB (Lib.replaceAll (bs s) [92] [92, 92])) ⟨#[39]⟩ ⟨#[92, 39]⟩ (by rw [ofB_size]; omega) rfl (by decide)) (pTL_refl _ _ _) (by simp [go_sem, ]) ?_; simp only [flatR, flatA, flatC, if_true]; refine EvK.go 1000 ?_
      rw [bs_ofB, show bs ⟨#[39]⟩ = [39] from rfl, show bs ⟨#[92, 39]⟩ = [92, 39] from rfl]
      have hl2 : (Lib.replaceAll (Lib.replaceAll (bs s) [92] [92, 92]) [39] [92, 39]).length ≤ 2 * (Lib.replaceAll (bs s) [92] [92, 92]).length := by
        rw [replaceAll_one 39 _ _ (by decide)]; exact esc_len 39 _
      rw [esc_two] at hl2 ⊢
      simp only [go_sem, Nat.reduceAdd, Nat.reduceSub, Nat.reduceMul, Nat.reduceLeDiff, Nat.reduceEqDiff, Nat.reduceBEq, ByteArray.size_append, ofB_size, show (⟨#[39]⟩ : ByteArray) = ofB [39] from rfl, ofB_append, quoteR, List.length_cons, List.length_nil, List.length_append]
      omega
end Go.Proofs

/- The document's functions that cut a text: letters, white. -/
set_option linter.unusedSimpArgs false
namespace Go.Proofs
open Go Go.Abs

theorem SmallU_eq (c : Int) : CallEq Tryd.prog 21 [.int .u8 c] (.bool (smallI c)) := by
  refine CallEq.begin (rs := [.tmp 2]) (m := 8) 1000 Tryd.func21 rfl rfl rfl (by decide) trivial ?_
  unfold smallI
  by_cases h : 97 ≤ c
  · simp only [go_sem, Nat.reduceAdd, Nat.reduceSub, Nat.reduceMul, Nat.reduceLeDiff, Nat.reduceEqDiff, Nat.reduceBEq, h, decide_true, Bool.true_and]
  · simp only [go_sem, Nat.reduceAdd, Nat.reduceSub, Nat.reduceMul, Nat.reduceLeDiff, Nat.reduceEqDiff, Nat.reduceBEq, h, decide_false, Bool.false_and]
theorem DigitU_eq (c : Int) : CallEq Tryd.prog 23 [.int .u8 c] (.bool (digitI c)) := by
  refine CallEq.begin (rs := [.tmp 2]) (m := 8) 1000 Tryd.func23 rfl rfl rfl (by decide) trivial ?_
  unfold digitI
  by_cases h : 48 ≤ c
  · simp only [go_sem, Nat.reduceAdd, Nat.reduceSub, Nat.reduceMul, Nat.reduceLeDiff, Nat.reduceEqDiff, Nat.reduceBEq, h, decide_true, Bool.true_and]
  · simp only [go_sem, Nat.reduceAdd, Nat.reduceSub, Nat.reduceMul, Nat.reduceLeDiff, Nat.reduceEqDiff, Nat.reduceBEq, h, decide_false, Bool.false_and]
theorem GreatU_eq (c : Int) : CallEq Tryd.prog 25 [.int .u8 c] (.bool (greatI c)) := by
  refine CallEq.begin (rs := [.tmp 2]) (m := 8) 1000 Tryd.func25 rfl rfl rfl (by decide) trivial ?_
  unfold greatI
  by_cases h : 65 ≤ c
  · simp only [go_sem, Nat.reduceAdd, Nat.reduceSub, Nat.reduceMul, Nat.reduceLeDiff, Nat.reduceEqDiff, Nat.reduceBEq, h, decide_true, Bool.true_and]
  · simp only [go_sem, Nat.reduceAdd, Nat.reduceSub, Nat.reduceMul, Nat.reduceLeDiff, Nat.reduceEqDiff, Nat.reduceBEq, h, decide_false, Bool.false_and]
theorem OnU_eq (c : Int) : CallEq Tryd.prog 41 [.int .u8 c] (.bool (letterI c)) := by
  refine CallEq.begin (rs := [.tmp 2]) (m := 16) 1000 Tryd.func41 rfl rfl rfl (by decide) trivial ?_
  unfold letterI
  simp only [go_sem, Nat.reduceAdd, Nat.reduceSub, Nat.reduceMul, Nat.reduceLeDiff, Nat.reduceEqDiff, Nat.reduceBEq]
  refine VCall.isoT [] (SmallU_eq c) (pTL_refl _ _ _) (by simp [go_sem, ]) ?_; simp only [flatR, flatA, flatC, if_true]; refine EvK.go 1000 ?_
  cases smallI c with
  | true => simp only [go_sem, Nat.reduceAdd, Nat.reduceSub, Nat.reduceMul, Nat.reduceLeDiff, Nat.reduceEqDiff, Nat.reduceBEq, Bool.true_or]
  | false =>
    simp only [go_sem, Nat.reduceAdd, Nat.reduceSub, Nat.reduceMul, Nat.reduceLeDiff, Nat.reduceEqDiff, Nat.reduceBEq]
    refine VCall.isoT [] (GreatU_eq c) (pTL_refl _ _ _) (by simp [go_sem, ]) ?_; simp only [flatR, flatA, flatC, if_true]; refine EvK.go 1000 ?_
    cases greatI c with
    | true => simp only [go_sem, Nat.reduceAdd, Nat.reduceSub, Nat.reduceMul, Nat.reduceLeDiff, Nat.reduceEqDiff, Nat.reduceBEq, Bool.true_or, Bool.or_true]
    | false =>
      simp only [go_sem, Nat.reduceAdd, Nat.reduceSub, Nat.reduceMul, Nat.reduceLeDiff, Nat.reduceEqDiff, Nat.reduceBEq]
      refine VCall.isoT [] (DigitU_eq c) (pTL_refl _ _ _) (by simp [go_sem, ]) ?_; simp only [flatR, flatA, flatC, if_true]; refine EvK.go 1000 ?_
      cases digitI c with
      | true => simp only [go_sem, Nat.reduceAdd, Nat.reduceSub, Nat.reduceMul, Nat.reduceLeDiff, Nat.reduceEqDiff, Nat.reduceBEq, Bool.true_or, Bool.or_true]
      | false => simp only [go_sem, Nat.reduceAdd, Nat.reduceSub, Nat.reduceMul, Nat.reduceLeDiff, Nat.reduceEqDiff, Nat.reduceBEq, Bool.false_or]

theorem run_cons (p : UInt8 → Bool) (c : UInt8) (l : By) : runB p (c :: l) = if p c = true then 1 + runB p l else 0 := by
  simp only [runB, List.takeWhile_cons]
  split
  · simp only [List.length_cons]; omega
  · rfl
theorem WordR_eq (s : ByteArray) (hs : s.size < 1000000) (n : Nat) (hn : n ≤ s.size) : CallEq Tryd.prog 22 [.str s, .int .i64 n] (.int .i64 ((n + runB onB ((bs s).drop n) : Nat) : Int)) := by
  refine CallEq.begin (rs := [.tmp 4]) (m := 16) 1000 Tryd.func22 rfl rfl rfl (by decide) trivial ?_
  simp only [go_sem, Nat.reduceAdd, Nat.reduceSub, Nat.reduceMul, Nat.reduceLeDiff, Nat.reduceEqDiff, Nat.reduceBEq]
  refine EvK.loopI (ι := {k : Nat // k ≤ s.size ∧ k + runB onB ((bs s).drop k) = n + runB onB ((bs s).drop n)}) 1000 (fun k => mkT 18 [(0, .str s), (1, .int .i64 k.1)]) (fun _ => []) (fun k => s.size - k.1) ⟨n, hn, rfl⟩ ?_ (fun _ => Nat.zero_le _) ?_
  · simp only [go_sem, Nat.reduceAdd, Nat.reduceSub, Nat.reduceMul, Nat.reduceLeDiff, Nat.reduceEqDiff, Nat.reduceBEq]
  · rintro ⟨k, hk, h3⟩
    by_cases hlt : k < s.size
    · have hlt' : (k : Int) < s.size := by omega
      rw [drop_at hlt, run_cons] at h3
      simp only [go_sem, Nat.reduceAdd, Nat.reduceSub, Nat.reduceMul, Nat.reduceLeDiff, Nat.reduceEqDiff, Nat.reduceBEq, hlt', hlt, Int.toNat_natCast]
      refine ⟨by simp, ?_⟩
      refine VCall.isoT [] (OnU_eq (s[k].toNat : Int)) (pTL_refl _ _ _) (by simp [go_sem, ]) ?_; simp only [flatR, flatA, flatC, if_true]; refine EvK.go 1000 ?_
      rw [letterI_B]
      cases hc : onB s[k] with
      | true =>
        rw [hc, if_pos rfl] at h3
        simp only [go_sem, Nat.reduceAdd, Nat.reduceSub, Nat.reduceMul, Nat.reduceLeDiff, Nat.reduceEqDiff, Nat.reduceBEq]
        refine ⟨⟨k + 1, hlt, by omega⟩, ?_, by simp only; omega⟩
        simp only [go_sem, Nat.reduceAdd, Nat.reduceSub, Nat.reduceMul, Nat.reduceLeDiff, Nat.reduceEqDiff, Nat.reduceBEq]
        rw [i64_id (by omega)]
        simp
      | false =>
        rw [hc, if_neg (by decide)] at h3
        simp only [go_sem, Nat.reduceAdd, Nat.reduceSub, Nat.reduceMul, Nat.reduceLeDiff, Nat.reduceEqDiff, Nat.reduceBEq]
        refine EvK.go 1000 ?_
        simp only [go_sem, Nat.reduceAdd, Nat.reduceSub, Nat.reduceMul, Nat.reduceLeDiff, Nat.reduceEqDiff, Nat.reduceBEq]
        rw [← h3]; simp
    · have hlt' : ¬ (k : Int) < s.size := by omega
      have hd : (bs s).drop k = [] := List.drop_eq_nil_of_le (by rw [bs_len]; omega)
      rw [hd] at h3
      simp only [go_sem, Nat.reduceAdd, Nat.reduceSub, Nat.reduceMul, Nat.reduceLeDiff, Nat.reduceEqDiff, Nat.reduceBEq, hlt']
      refine EvK.go 1000 ?_
      simp only [go_sem, Nat.reduceAdd, Nat.reduceSub, Nat.reduceMul, Nat.reduceLeDiff, Nat.reduceEqDiff, Nat.reduceBEq]
      rw [← h3]; simp [runB]
theorem DigitsR_eq (s : ByteArray) (hs : s.size < 1000000) (n : Nat) (hn : n ≤ s.size) : CallEq Tryd.prog 24 [.str s, .int .i64 n] (.int .i64 ((n + runB digitB ((bs s).drop n) : Nat) : Int)) := by
  refine CallEq.begin (rs := [.tmp 4]) (m := 16) 1000 Tryd.func24 rfl rfl rfl (by decide) trivial ?_
  simp only [go_sem, Nat.reduceAdd, Nat.reduceSub, Nat.reduceMul, Nat.reduceLeDiff, Nat.reduceEqDiff, Nat.reduceBEq]
  refine EvK.loopI (ι := {k : Nat // k ≤ s.size ∧ k + runB digitB ((bs s).drop k) = n + runB digitB ((bs s).drop n)}) 1000 (fun k => mkT 18 [(0, .str s), (1, .int .i64 k.1)]) (fun _ => []) (fun k => s.size - k.1) ⟨n, hn, rfl⟩ ?_ (fun _ => Nat.zero_le _) ?_
  · simp only [go_sem, Nat.reduceAdd, Nat.reduceSub, Nat.reduceMul, Nat.reduceLeDiff, Nat.reduceEqDiff, Nat.reduceBEq]
  · rintro ⟨k, hk, h3⟩
    by_cases hlt : k < s.size
    · have hlt' : (k : Int) < s.size := by omega
      rw [drop_at hlt, run_cons] at h3
      simp only [go_sem, Nat.reduceAdd, Nat.reduceSub, Nat.reduceMul, Nat.reduceLeDiff, Nat.reduceEqDiff, Nat.reduceBEq, hlt', hlt, Int.toNat_natCast]
      refine ⟨by simp, ?_⟩
      refine VCall.isoT [] (DigitU_eq (s[k].toNat : Int)) (pTL_refl _ _ _) (by simp [go_sem, ]) ?_; simp only [flatR, flatA, flatC, if_true]; refine EvK.go 1000 ?_
      rw [digitI_B]
      cases hc : digitB s[k] with
      | true =>
        rw [hc, if_pos rfl] at h3
        simp only [go_sem, Nat.reduceAdd, Nat.reduceSub, Nat.reduceMul, Nat.reduceLeDiff, Nat.reduceEqDiff, Nat.reduceBEq]
        refine ⟨⟨k + 1, hlt, by omega⟩, ?_, by simp only; omega⟩
        simp only [go_sem, Nat.reduceAdd, Nat.reduceSub, Nat.reduceMul, Nat.reduceLeDiff, Nat.reduceEqDiff, Nat.reduceBEq]
        rw [i64_id (by omega)]
        simp
      | false =>
        rw [hc, if_neg (by decide)] at h3
        simp only [go_sem, Nat.reduceAdd, Nat.reduceSub, Nat.reduceMul, Nat.reduceLeDiff, Nat.reduceEqDiff, Nat.reduceBEq]
        refine EvK.go 1000 ?_
        simp only [go_sem, Nat.reduceAdd, Nat.reduceSub, Nat.reduceMul, Nat.reduceLeDiff, Nat.reduceEqDiff, Nat.reduceBEq]
        rw [← h3]; simp
    · have hlt' : ¬ (k : Int) < s.size := by omega
      have hd : (bs s).drop k = [] := List.drop_eq_nil_of_le (by rw [bs_len]; omega)
      rw [hd] at h3
      simp only [go_sem, Nat.reduceAdd, Nat.reduceSub, Nat.reduceMul, Nat.reduceLeDiff, Nat.reduceEqDiff, Nat.reduceBEq, hlt']
      refine EvK.go 1000 ?_
      simp only [go_sem, Nat.reduceAdd, Nat.reduceSub, Nat.reduceMul, Nat.reduceLeDiff, Nat.reduceEqDiff, Nat.reduceBEq]
      rw [← h3]; simp [runB]

theorem pre_take {l x : By} {n : Nat} (h : n + x.length ≤ l.length) : decide ((l.take (n + x.length)).drop n = x) = x.isPrefixOf (l.drop n) := by
  rw [Bool.eq_iff_iff, decide_eq_true_eq, List.isPrefixOf_iff_prefix, List.prefix_iff_eq_take, List.drop_take, Nat.add_sub_cancel_left]
  exact eq_comm
theorem pre_long {l x : By} {n : Nat} (hn : n ≤ l.length) (h : ¬ n + x.length ≤ l.length) : x.isPrefixOf (l.drop n) = false := by
  rw [Bool.eq_false_iff]
  intro hp
  have := (List.isPrefixOf_iff_prefix.1 hp).length_le
  rw [List.length_drop] at this
  omega
theorem Starts_eq (s x : ByteArray) (hs : s.size < 1000000) (hx : x.size < 1000000) (n : Nat) (hn : n ≤ s.size) : CallEq Tryd.prog 28 [.str s, .int .i64 n, .str x] (.bool ((bs x).isPrefixOf ((bs s).drop n))) := by
  refine CallEq.begin (rs := [.tmp 6]) (m := 22) 1000 Tryd.func28 rfl rfl rfl (by decide) trivial ?_
  have hw : IntKind.i64.wrap ((n : Int) + x.size) = ((n + x.size : Nat) : Int) := by rw [i64_id (by omega)]; simp
  by_cases h : n + x.size ≤ s.size
  · have h' : ((n + x.size : Nat) : Int) ≤ s.size := by omega
    simp only [go_sem, Nat.reduceAdd, Nat.reduceSub, Nat.reduceMul, Nat.reduceLeDiff, Nat.reduceEqDiff, Nat.reduceBEq, hw, h', Int.toNat_natCast, str_eq, bs_extract]
    rw [← bs_len x, pre_take (by rw [bs_len, bs_len]; exact h)]
    exact ⟨by omega, ⟨by omega, by omega⟩, rfl⟩
  · have h' : ¬ ((n + x.size : Nat) : Int) ≤ s.size := by omega
    rw [pre_long (by rw [bs_len]; exact hn) (by rw [bs_len, bs_len]; exact h)]
    simp only [go_sem, Nat.reduceAdd, Nat.reduceSub, Nat.reduceMul, Nat.reduceLeDiff, Nat.reduceEqDiff, Nat.reduceBEq, hw, h']
end Go.Proofs

/- The document's functions that cut a text: white, quotes. -/
set_option linter.unusedSimpArgs false
namespace Go.Proofs
open Go Go.Abs

theorem cut_cons (c : UInt8) (r : By) : cutC (c :: r) = if ([42, 47] : By).isPrefixOf (c :: r) = true then some (r.drop 1) else cutC r := by
  simp only [cutC]
  by_cases h : c = 42 ∧ r.head? = some 47
  · rw [if_pos h]
    obtain ⟨rfl, hr⟩ := h
    cases r with
    | nil => simp at hr
    | cons d r => simp at hr; subst hr; rfl
  · rw [if_neg h, if_neg]
    intro hp
    apply h
    cases r with
    | nil => simp [List.isPrefixOf] at hp
    | cons d r => simp [List.isPrefixOf] at hp; simp [hp.1.symm, hp.2.symm]
theorem drop_len {s : ByteArray} {k : Nat} (h : ¬ k < s.size) : (bs s).drop k = [] := List.drop_eq_nil_of_le (by rw [bs_len]; omega)

set_option maxHeartbeats 1600000 in
theorem Past_eq (s : ByteArray) (hs : s.size < 1000000) (n : Nat) (hn : n ≤ s.size) : CallEq Tryd.prog 20 [.str s, .int .i64 n] (.int .i64 ((s.size : Int) - (skip ((bs s).drop n)).length)) := by
  refine CallEq.begin (rs := [.tmp 4]) (m := 69) 1000 Tryd.func20 rfl rfl rfl (by decide) trivial ?_
  simp only [go_sem, Nat.reduceAdd, Nat.reduceSub, Nat.reduceMul, Nat.reduceLeDiff, Nat.reduceEqDiff, Nat.reduceBEq]
  refine EvK.loopI (ι := {k : Nat // k ≤ s.size ∧ skip ((bs s).drop k) = skip ((bs s).drop n)}) 1000 (fun k => mkT 71 [(0, .str s), (1, .int .i64 k.1), (4, .int .i64 0)]) (fun _ => []) (fun k => s.size - k.1) ⟨n, hn, rfl⟩ ?_ (fun _ => Nat.zero_le _) ?_
  · simp only [go_sem, Nat.reduceAdd, Nat.reduceSub, Nat.reduceMul, Nat.reduceLeDiff, Nat.reduceEqDiff, Nat.reduceBEq]
  · rintro ⟨k, hk, h3⟩
    by_cases hlt : k < s.size
    · have hlt' : (k : Int) < s.size := by omega
      have hdl : ((bs s).drop (k + 1)).length = s.size - (k + 1) := by rw [List.length_drop, bs_len]
      rw [drop_at hlt] at h3
      have e32 : s[k] = 32 ↔ s[k].toNat = 32 := u8_eq (by decide)
      have e9 : s[k] = 9 ↔ s[k].toNat = 9 := u8_eq (by decide)
      have e10 : s[k] = 10 ↔ s[k].toNat = 10 := u8_eq (by decide)
      have e13 : s[k] = 13 ↔ s[k].toNat = 13 := u8_eq (by decide)
      have e37 : s[k] = 37 ↔ s[k].toNat = 37 := u8_eq (by decide)
      by_cases hw : isW s[k] = true
      · rw [skip_white hw] at h3
        have hw' : s[k].toNat = 32 ∨ s[k].toNat = 9 ∨ s[k].toNat = 10 ∨ s[k].toNat = 13 := by
          simp only [isW, Bool.or_eq_true, beq_iff_eq, or_assoc] at hw
          exact hw.imp e32.1 (Or.imp e9.1 (Or.imp e10.1 e13.1))
        by_cases c1 : (s[k].toNat : Int) = 32
        · simp only [go_sem, Nat.reduceAdd, Nat.reduceSub, Nat.reduceMul, Nat.reduceLeDiff, Nat.reduceEqDiff, Nat.reduceBEq, hlt', hlt, Int.toNat_natCast, Int.reduceEq, c1]
          refine ⟨by simp, ⟨k + 1, hlt, h3⟩, ?_, by simp only; omega⟩
          rw [i64_id (by omega)]
          simp
        by_cases c2 : (s[k].toNat : Int) = 9
        · simp only [go_sem, Nat.reduceAdd, Nat.reduceSub, Nat.reduceMul, Nat.reduceLeDiff, Nat.reduceEqDiff, Nat.reduceBEq, hlt', hlt, Int.toNat_natCast, Int.reduceEq, c1, c2]
          refine ⟨by simp, ⟨k + 1, hlt, h3⟩, ?_, by simp only; omega⟩
          rw [i64_id (by omega)]
          simp
        by_cases c3 : (s[k].toNat : Int) = 10
        · simp only [go_sem, Nat.reduceAdd, Nat.reduceSub, Nat.reduceMul, Nat.reduceLeDiff, Nat.reduceEqDiff, Nat.reduceBEq, hlt', hlt, Int.toNat_natCast, Int.reduceEq, c1, c2, c3]
          refine ⟨by simp, ⟨k + 1, hlt, h3⟩, ?_, by simp only; omega⟩
          rw [i64_id (by omega)]
          simp
        have c4 : (s[k].toNat : Int) = 13 := by omega
        simp only [go_sem, Nat.reduceAdd, Nat.reduceSub, Nat.reduceMul, Nat.reduceLeDiff, Nat.reduceEqDiff, Nat.reduceBEq, hlt', hlt, Int.toNat_natCast, Int.reduceEq, c1, c2, c3, c4]
        refine ⟨by simp, ⟨k + 1, hlt, h3⟩, ?_, by simp only; omega⟩
        rw [i64_id (by omega)]
        simp
      · have hw0 : isW s[k] = false := by simpa using hw
        have n1 : ¬ (s[k].toNat : Int) = 32 := fun h => hw (by rw [e32.2 (by omega)]; rfl)
        have n2 : ¬ (s[k].toNat : Int) = 9 := fun h => hw (by rw [e9.2 (by omega)]; rfl)
        have n3 : ¬ (s[k].toNat : Int) = 10 := fun h => hw (by rw [e10.2 (by omega)]; rfl)
        have n4 : ¬ (s[k].toNat : Int) = 13 := fun h => hw (by rw [e13.2 (by omega)]; rfl)
        by_cases c37 : s[k].toNat = 37
        · have c37' : (s[k].toNat : Int) = 37 := by omega
          rw [e37.2 c37, skip_pct] at h3
          simp only [go_sem, Nat.reduceAdd, Nat.reduceSub, Nat.reduceMul, Nat.reduceLeDiff, Nat.reduceEqDiff, Nat.reduceBEq, hlt', hlt, Int.toNat_natCast, Int.reduceEq, c37']
          refine ⟨by simp, ?_⟩
          refine EvK.loopI (ι := {j : Nat // k ≤ j ∧ j ≤ s.size ∧ (j = k ∨ k + 1 ≤ j) ∧ ((bs s).drop j).dropWhile (· != 10) = ((bs s).drop (k + 1)).dropWhile (· != 10)}) 1000 (fun j => mkT 71 [(0, .str s), (1, .int .i64 j.1), (4, .int .i64 0)]) (fun _ => []) (fun j => s.size - j.1) ⟨k, Nat.le_refl _, hk, .inl rfl, by rw [drop_at hlt]; exact List.dropWhile_cons_of_pos (by rw [e37.2 c37]; decide)⟩ ?_ (fun _ => Nat.zero_le _) ?_
          · simp only [go_sem, Nat.reduceAdd, Nat.reduceSub, Nat.reduceMul, Nat.reduceLeDiff, Nat.reduceEqDiff, Nat.reduceBEq]
          · rintro ⟨j, hj1, hj2, hj3, hj4⟩
            by_cases jlt : j < s.size
            · have jlt' : (j : Int) < s.size := by omega
              by_cases j10 : s[j].toNat = 10
              · have j10' : (s[j].toNat : Int) = 10 := by omega
                have hjk : k + 1 ≤ j := by
                  rcases hj3 with rfl | h
                  · omega
                  · exact h
                simp only [go_sem, Nat.reduceAdd, Nat.reduceSub, Nat.reduceMul, Nat.reduceLeDiff, Nat.reduceEqDiff, Nat.reduceBEq, jlt', jlt, Int.toNat_natCast, Int.reduceEq, j10']
                refine ⟨by simp, ?_⟩
                refine EvK.go 1000 ?_
                simp only [go_sem, Nat.reduceAdd, Nat.reduceSub, Nat.reduceMul, Nat.reduceLeDiff, Nat.reduceEqDiff, Nat.reduceBEq]
                refine ⟨⟨j, hj2, ?_⟩, ?_, by simp only; omega⟩
                · rw [drop_at jlt, List.dropWhile_cons_of_neg (by rw [(u8_eq (by decide) : s[j] = 10 ↔ s[j].toNat = 10).2 j10]; decide)] at hj4
                  rw [drop_at jlt, hj4, h3]
                · rfl
              · have j10' : ¬ (s[j].toNat : Int) = 10 := by omega
                simp only [go_sem, Nat.reduceAdd, Nat.reduceSub, Nat.reduceMul, Nat.reduceLeDiff, Nat.reduceEqDiff, Nat.reduceBEq, jlt', jlt, Int.toNat_natCast, j10']
                refine ⟨by simp, ⟨j + 1, by omega, jlt, .inr (by omega), ?_⟩, ?_, by simp only; omega⟩
                · rw [← hj4, drop_at jlt, List.dropWhile_cons_of_pos (by simpa using fun h => j10 ((u8_eq (by decide) : s[j] = 10 ↔ s[j].toNat = 10).1 h))]
                · rw [i64_id (by omega)]
                  simp
            · have jlt' : ¬ (j : Int) < s.size := by omega
              have hjk : k + 1 ≤ j := by omega
              simp only [go_sem, Nat.reduceAdd, Nat.reduceSub, Nat.reduceMul, Nat.reduceLeDiff, Nat.reduceEqDiff, Nat.reduceBEq, jlt']
              refine EvK.go 1000 ?_
              simp only [go_sem, Nat.reduceAdd, Nat.reduceSub, Nat.reduceMul, Nat.reduceLeDiff, Nat.reduceEqDiff, Nat.reduceBEq]
              refine ⟨⟨j, hj2, ?_⟩, ?_, by simp only; omega⟩
              · rw [drop_len jlt] at hj4 ⊢
                rw [← h3, ← hj4]; rfl
              · rfl
        · have m37 : ¬ s[k] = 37 := fun h => c37 (e37.1 h)
          have c37' : ¬ (s[k].toNat : Int) = 37 := by omega
          simp only [go_sem, Nat.reduceAdd, Nat.reduceSub, Nat.reduceMul, Nat.reduceLeDiff, Nat.reduceEqDiff, Nat.reduceBEq, hlt', hlt, Int.toNat_natCast, n1, n2, n3, n4, c37']
          refine ⟨by simp, ?_⟩
          have hst := Starts_eq s ⟨#[47, 42]⟩ hs (by decide) k hk
          rw [show bs ⟨#[47, 42]⟩ = [47, 42] from rfl, drop_at hlt] at hst
          refine VCall.isoT [] (hst) (pTL_refl _ _ _) (by simp [go_sem, ]) ?_; simp only [flatR, flatA, flatC, if_true]; refine EvK.go 1000 ?_
          cases hp : ([47, 42] : By).isPrefixOf (s[k] :: (bs s).drop (k + 1)) with
          | false =>
            rw [skip_stop hw0 m37 (by
              rintro ⟨e1, e2⟩
              cases hr : (bs s).drop (k + 1) with
              | nil => rw [hr] at e2; simp at e2
              | cons d r => rw [hr] at e2 hp; simp at e2; rw [e1, e2] at hp; simp [List.isPrefixOf] at hp)] at h3
            simp only [go_sem, Nat.reduceAdd, Nat.reduceSub, Nat.reduceMul, Nat.reduceLeDiff, Nat.reduceEqDiff, Nat.reduceBEq]
            refine EvK.go 1000 ?_
            simp only [go_sem, Nat.reduceAdd, Nat.reduceSub, Nat.reduceMul, Nat.reduceLeDiff, Nat.reduceEqDiff, Nat.reduceBEq]
            rw [← h3, List.length_cons, hdl]
            rw [show (s.size : Int) - ((s.size - (k + 1) + 1 : Nat) : Int) = k by omega]
          | true =>
            obtain ⟨e1, r, e2⟩ : s[k] = 47 ∧ ∃ r, (bs s).drop (k + 1) = 42 :: r := by
              cases hr : (bs s).drop (k + 1) with
              | nil => rw [hr] at hp; simp [List.isPrefixOf] at hp
              | cons d r => rw [hr] at hp; simp [List.isPrefixOf] at hp; exact ⟨hp.1.symm, r, by rw [← hp.2]⟩
            have er : r = (bs s).drop (k + 2) := by
              have := congrArg (List.drop 1) e2
              rw [List.drop_drop] at this; exact this.symm
            have hk2 : k + 2 ≤ s.size := by
              rw [e2] at hdl; simp only [List.length_cons] at hdl; omega
            rw [e1, e2] at h3
            simp only [go_sem, Nat.reduceAdd, Nat.reduceSub, Nat.reduceMul, Nat.reduceLeDiff, Nat.reduceEqDiff, Nat.reduceBEq, i64_id (n := (k : Int) + 2) (by omega)]
            refine EvK.loopI (ι := {j : Nat // k + 2 ≤ j ∧ j ≤ s.size ∧ cutC ((bs s).drop j) = cutC r}) 1000 (fun j => mkT 71 [(0, .str s), (1, .int .i64 k), (4, .int .i64 0), (6, .int .i64 j.1)]) (fun _ => []) (fun j => s.size - j.1) ⟨k + 2, Nat.le_refl _, hk2, by rw [er]⟩ ?_ (fun _ => Nat.zero_le _) ?_
            · simp only [go_sem, Nat.reduceAdd, Nat.reduceSub, Nat.reduceMul, Nat.reduceLeDiff, Nat.reduceEqDiff, Nat.reduceBEq]
              rfl
            · rintro ⟨j, hj1, hj2, hj3⟩
              by_cases jlt : j < s.size
              · have jlt' : (j : Int) < s.size := by omega
                have hsj := Starts_eq s ⟨#[42, 47]⟩ hs (by decide) j hj2
                rw [show bs ⟨#[42, 47]⟩ = [42, 47] from rfl] at hsj
                rw [drop_at jlt] at hj3 hsj
                rw [cut_cons] at hj3
                simp only [go_sem, Nat.reduceAdd, Nat.reduceSub, Nat.reduceMul, Nat.reduceLeDiff, Nat.reduceEqDiff, Nat.reduceBEq, jlt']
                refine VCall.isoT [] (hsj) (pTL_refl _ _ _) (by simp [go_sem, ]) ?_; simp only [flatR, flatA, flatC, if_true]; refine EvK.go 1000 ?_
                cases hq : ([42, 47] : By).isPrefixOf (s[j] :: (bs s).drop (j + 1)) with
                | true =>
                  rw [hq, if_pos rfl, List.drop_drop] at hj3
                  have hj22 : j + 2 ≤ s.size := by
                    have h1 := (List.isPrefixOf_iff_prefix.1 hq).length_le
                    rw [← drop_at jlt, List.length_drop, bs_len] at h1
                    simp only [List.length_cons, List.length_nil] at h1
                    omega
                  rw [skip_cmt hj3.symm] at h3
                  simp only [go_sem, Nat.reduceAdd, Nat.reduceSub, Nat.reduceMul, Nat.reduceLeDiff, Nat.reduceEqDiff, Nat.reduceBEq]
                  refine EvK.go 1000 ?_
                  have jge : ¬ (s.size : Int) ≤ j := by omega
                  simp only [go_sem, Nat.reduceAdd, Nat.reduceSub, Nat.reduceMul, Nat.reduceLeDiff, Nat.reduceEqDiff, Nat.reduceBEq, jge, i64_id (n := (j : Int) + 2) (by omega)]
                  refine ⟨⟨j + 2, hj22, h3⟩, ?_, by simp only; omega⟩
                  rfl
                | false =>
                  rw [hq, if_neg (by decide)] at hj3
                  simp only [go_sem, Nat.reduceAdd, Nat.reduceSub, Nat.reduceMul, Nat.reduceLeDiff, Nat.reduceEqDiff, Nat.reduceBEq, i64_id (n := (j : Int) + 1) (by omega)]
                  refine ⟨⟨j + 1, by omega, jlt, hj3⟩, ?_, by simp only; omega⟩
                  rfl
              · have jlt' : ¬ (j : Int) < s.size := by omega
                have jge : (s.size : Int) ≤ j := by omega
                rw [drop_len jlt] at hj3
                rw [skip_open hj3.symm] at h3
                simp only [go_sem, Nat.reduceAdd, Nat.reduceSub, Nat.reduceMul, Nat.reduceLeDiff, Nat.reduceEqDiff, Nat.reduceBEq, jlt']
                refine EvK.go 1000 ?_
                simp only [go_sem, Nat.reduceAdd, Nat.reduceSub, Nat.reduceMul, Nat.reduceLeDiff, Nat.reduceEqDiff, Nat.reduceBEq, jge]
                refine EvK.go 1000 ?_
                simp only [go_sem, Nat.reduceAdd, Nat.reduceSub, Nat.reduceMul, Nat.reduceLeDiff, Nat.reduceEqDiff, Nat.reduceBEq]
                rw [← h3, ← e2, List.length_cons, hdl]
                rw [show (s.size : Int) - ((s.size - (k + 1) + 1 : Nat) : Int) = k by omega]
    · have hlt' : ¬ (k : Int) < s.size := by omega
      rw [drop_len hlt, skip_nil] at h3
      simp only [go_sem, Nat.reduceAdd, Nat.reduceSub, Nat.reduceMul, Nat.reduceLeDiff, Nat.reduceEqDiff, Nat.reduceBEq, hlt']
      refine EvK.go 1000 ?_
      simp only [go_sem, Nat.reduceAdd, Nat.reduceSub, Nat.reduceMul, Nat.reduceLeDiff, Nat.reduceEqDiff, Nat.reduceBEq]
      rw [← h3, show k = s.size by omega]; simp
end Go.Proofs

/- The document's functions that cut a text: quotes. -/
set_option linter.unusedSimpArgs false
namespace Go.Proofs
open Go Go.Abs

/-- What a quote says, be it empty, and what is behind it. -/
def quoteT : By → By → Option (By × By)
  | _, [] => none
  | acc, c :: r => if c = 39 then some (acc, r) else if c.toNat < 32 ∨ 126 < c.toNat then none else
    if c = 92 then (match r with | [] => none | d :: r' => if d = 92 ∨ d = 39 then quoteT (acc ++ [d]) r' else none) else quoteT (acc ++ [c]) r
theorem quoteT_nil (acc : By) : quoteT acc [] = none := rfl
theorem quoteT_39 (acc r : By) : quoteT acc (39 :: r) = some (acc, r) := by cases r <;> rfl
theorem quoteT_bad {acc r : By} {c : UInt8} (h1 : c ≠ 39) (h2 : c.toNat < 32 ∨ 126 < c.toNat) : quoteT acc (c :: r) = none := by
  cases r <;> (unfold quoteT; rw [if_neg h1, if_pos h2])
theorem quoteT_92 (acc : By) : quoteT acc [92] = none := rfl
theorem quoteT_two (acc : By) (d : UInt8) (r : By) : quoteT acc (92 :: d :: r) = if d = 92 ∨ d = 39 then quoteT (acc ++ [d]) r else none := by
  cases r <;> rfl
theorem quoteT_one {acc r : By} {c : UInt8} (h1 : c ≠ 39) (h2 : ¬ (c.toNat < 32 ∨ 126 < c.toNat)) (h3 : c ≠ 92) : quoteT acc (c :: r) = quoteT (acc ++ [c]) r := by
  cases r <;> (conv => lhs; unfold quoteT) <;> rw [if_neg h1, if_neg h2, if_neg h3]
theorem quoteT_B : ∀ (n : Nat) (l acc : By), l.length ≤ n → quoteB acc l = match quoteT acc l with | none => none | some x => if x.1 = [] then none else some x
  | n, [], acc, _ => rfl
  | n + 1, c :: r, acc, h => by
    simp only [List.length_cons] at h
    by_cases h1 : c = 39
    · subst h1
      rw [quoteB_39, quoteT_39]
    by_cases h2 : c.toNat < 32 ∨ 126 < c.toNat
    · rw [quoteB_bad h1 h2, quoteT_bad h1 h2]
    by_cases h3 : c = 92
    · subst h3
      cases r with
      | nil => rfl
      | cons d r =>
        rw [quoteB_two, quoteT_two]
        simp only [List.length_cons] at h
        by_cases hd : d = 92 ∨ d = 39
        · rw [if_pos hd, if_pos hd]
          exact quoteT_B n r _ (by omega)
        · rw [if_neg hd, if_neg hd]
    · rw [quoteB_one h1 h2 h3, quoteT_one h1 h2 h3]
      exact quoteT_B n r _ (by omega)
def quoteU (n : Nat) (x : Option (By × By)) : AVal :=
  match x with
  | none => .tup [.str ⟨#[]⟩, .int .i64 0, .bool false]
  | some x => .tup [.str (ofB x.1), .int .i64 ((n : Int) - x.2.length), .bool (!decide (x.1 = []))]

theorem u8_dec (c : UInt8) (n : Nat) (hn : n < 256) : decide ((c.toNat : Int) = n) = decide (c = UInt8.ofNat n) :=
  decide_eq_decide.2 ((Int.ofNat_inj).trans (u8_eq hn).symm)
theorem ext_one {s : ByteArray} {k : Nat} (h : k < s.size) : s.extract k (k + 1) = ofB [s[k]] := by
  apply bs_inj
  rw [bs_extract, bs_ofB, List.drop_take, drop_at h, Nat.add_sub_cancel_left]
  rfl
set_option maxHeartbeats 1600000 in
theorem QuotedR_eq (s : ByteArray) (hs : s.size < 1000000) (n : Nat) (hn : n < s.size) : CallEq Tryd.prog 26 [.str s, .int .i64 n] (quoteU s.size (quoteT [] ((bs s).drop (n + 1)))) := by
  refine CallEq.begin (rs := [.tmp 4, .tmp 5, .tmp 6]) (m := 59) 1000 Tryd.func26 rfl rfl rfl (by decide) (by unfold quoteU; split <;> simp [go_sem]) ?_
  generalize hR : quoteT [] ((bs s).drop (n + 1)) = R
  simp only [go_sem, Nat.reduceAdd, Nat.reduceSub, Nat.reduceMul, Nat.reduceLeDiff, Nat.reduceEqDiff, Nat.reduceBEq, i64_id (n := (n : Int) + 1) (by omega)]
  refine EvK.loopI (ι := {p : Nat × By // p.1 ≤ s.size ∧ p.2.length ≤ p.1 ∧ quoteT p.2 ((bs s).drop p.1) = R}) 1000 (fun p => mkT 61 [(0, .str s), (1, .int .i64 n), (4, .str ⟨#[]⟩), (5, .int .i64 0), (6, .bool false), (7, .str (ofB p.1.2)), (8, .int .i64 p.1.1)]) (fun _ => []) (fun p => s.size - p.1.1) ⟨(n + 1, []), hn, by simp, hR⟩ ?_ (fun _ => Nat.zero_le _) ?_
  · simp only [go_sem, Nat.reduceAdd, Nat.reduceSub, Nat.reduceMul, Nat.reduceLeDiff, Nat.reduceEqDiff, Nat.reduceBEq]
    exact ⟨rfl, rfl⟩
  · rintro ⟨⟨k, acc⟩, hk, ha, hq⟩
    simp only at hk ha hq
    by_cases hlt : k < s.size
    · have hlt' : (k : Int) < s.size := by omega
      have hdl : ((bs s).drop (k + 1)).length = s.size - (k + 1) := by rw [List.length_drop, bs_len]
      rw [drop_at hlt] at hq
      have e39 : s[k] = 39 ↔ s[k].toNat = 39 := u8_eq (by decide)
      have e92 : s[k] = 92 ↔ s[k].toNat = 92 := u8_eq (by decide)
      by_cases c39 : s[k].toNat = 39
      · have d39 : (s[k].toNat : Int) = 39 := by omega
        rw [e39.2 c39, quoteT_39] at hq
        simp only [go_sem, Nat.reduceAdd, Nat.reduceSub, Nat.reduceMul, Nat.reduceLeDiff, Nat.reduceEqDiff, Nat.reduceBEq, hlt', hlt, Int.toNat_natCast, d39, i64_id (n := (k : Int) + 1) (by omega), str_eq, bs_ofB]
        refine ⟨by simp, ?_⟩
        refine EvK.go 1000 ?_
        rw [← hq]
        simp only [go_sem, Nat.reduceAdd, Nat.reduceSub, Nat.reduceMul, Nat.reduceLeDiff, Nat.reduceEqDiff, Nat.reduceBEq, quoteU]
        rw [hdl, show (s.size : Int) - ((s.size - (k + 1) : Nat) : Int) = k + 1 by omega]
        exact ⟨rfl, rfl⟩
      · have d39 : ¬ (s[k].toNat : Int) = 39 := by omega
        have m39 : ¬ s[k] = 39 := fun h => c39 (e39.1 h)
        by_cases cl : s[k].toNat < 32
        · have cl' : (s[k].toNat : Int) < 32 := by omega
          rw [quoteT_bad m39 (.inl cl)] at hq
          simp only [go_sem, Nat.reduceAdd, Nat.reduceSub, Nat.reduceMul, Nat.reduceLeDiff, Nat.reduceEqDiff, Nat.reduceBEq, hlt', hlt, Int.toNat_natCast, d39, cl']
          refine ⟨by simp, ?_⟩
          refine EvK.go 1000 ?_
          rw [← hq]
          simp only [go_sem, Nat.reduceAdd, Nat.reduceSub, Nat.reduceMul, Nat.reduceLeDiff, Nat.reduceEqDiff, Nat.reduceBEq, quoteU]
          done
        by_cases ch : 126 < s[k].toNat
        · have cl' : ¬ (s[k].toNat : Int) < 32 := by omega
          have ch' : 126 < (s[k].toNat : Int) := by omega
          rw [quoteT_bad m39 (.inr ch)] at hq
          simp only [go_sem, Nat.reduceAdd, Nat.reduceSub, Nat.reduceMul, Nat.reduceLeDiff, Nat.reduceEqDiff, Nat.reduceBEq, hlt', hlt, Int.toNat_natCast, d39, cl', ch']
          refine ⟨by simp, ?_⟩
          refine EvK.go 1000 ?_
          rw [← hq]
          simp only [go_sem, Nat.reduceAdd, Nat.reduceSub, Nat.reduceMul, Nat.reduceLeDiff, Nat.reduceEqDiff, Nat.reduceBEq, quoteU]
          done
        have cl' : ¬ (s[k].toNat : Int) < 32 := by omega
        have ch' : ¬ 126 < (s[k].toNat : Int) := by omega
        by_cases c92 : s[k].toNat = 92
        · have d92 : (s[k].toNat : Int) = 92 := by omega
          rw [e92.2 c92] at hq
          by_cases hl2 : k + 1 < s.size
          · have hl2' : ¬ (s.size : Int) ≤ k + 1 := by omega
            rw [drop_at hl2, quoteT_two] at hq
            have f39 : s[k + 1] = 39 ↔ s[k + 1].toNat = 39 := u8_eq (by decide)
            have f92 : s[k + 1] = 92 ↔ s[k + 1].toNat = 92 := u8_eq (by decide)
            by_cases g92 : s[k + 1].toNat = 92
            · have g92' : (s[k + 1].toNat : Int) = 92 := by omega
              rw [if_pos (.inl (f92.2 g92))] at hq
              simp only [go_sem, Nat.reduceAdd, Nat.reduceSub, Nat.reduceMul, Nat.reduceLeDiff, Nat.reduceEqDiff, Nat.reduceBEq, hlt', hlt, Int.toNat_natCast, Int.reduceEq, Int.reduceLT, d92, hl2', hl2, g92', i64_id (n := (k : Int) + 1) (by omega), i64_id (n := (k : Int) + 1 + 1) (by omega), show ((k : Int) + 1).toNat = k + 1 by omega, show ((k : Int) + 1 + 1).toNat = k + 1 + 1 by omega, ext_one hl2, ofB_append, ofB_size, List.length_cons, List.length_nil]
              refine ⟨by simp,  by omega, by omega, by omega, by omega, ⟨(k + 1 + 1, acc ++ [s[k + 1]]), hl2, by simp; omega, hq⟩, ⟨rfl, rfl⟩, by simp only; omega⟩
            have g92' : ¬ (s[k + 1].toNat : Int) = 92 := by omega
            by_cases g39 : s[k + 1].toNat = 39
            · have g39' : (s[k + 1].toNat : Int) = 39 := by omega
              rw [if_pos (.inr (f39.2 g39))] at hq
              simp only [go_sem, Nat.reduceAdd, Nat.reduceSub, Nat.reduceMul, Nat.reduceLeDiff, Nat.reduceEqDiff, Nat.reduceBEq, hlt', hlt, Int.toNat_natCast, Int.reduceEq, Int.reduceLT, d92, hl2', hl2, g92', g39', i64_id (n := (k : Int) + 1) (by omega), i64_id (n := (k : Int) + 1 + 1) (by omega), show ((k : Int) + 1).toNat = k + 1 by omega, show ((k : Int) + 1 + 1).toNat = k + 1 + 1 by omega, ext_one hl2, ofB_append, ofB_size, List.length_cons, List.length_nil]
              refine ⟨by simp, by omega, by omega, by omega, by omega, by omega, ⟨(k + 1 + 1, acc ++ [s[k + 1]]), hl2, by simp; omega, hq⟩, ⟨rfl, rfl⟩, by simp only; omega⟩
            have g39' : ¬ (s[k + 1].toNat : Int) = 39 := by omega
            rw [if_neg (fun h => h.elim (fun h => g92 (f92.1 h)) (fun h => g39 (f39.1 h)))] at hq
            simp only [go_sem, Nat.reduceAdd, Nat.reduceSub, Nat.reduceMul, Nat.reduceLeDiff, Nat.reduceEqDiff, Nat.reduceBEq, hlt', hlt, Int.toNat_natCast, Int.reduceEq, Int.reduceLT, d92, hl2', hl2, g92', g39', i64_id (n := (k : Int) + 1) (by omega), show ((k : Int) + 1).toNat = k + 1 by omega]
            refine ⟨by simp, by omega, by omega, ?_⟩
            refine EvK.go 1000 ?_
            rw [← hq]
            simp only [go_sem, Nat.reduceAdd, Nat.reduceSub, Nat.reduceMul, Nat.reduceLeDiff, Nat.reduceEqDiff, Nat.reduceBEq, quoteU]
            done
          · have hl2' : (s.size : Int) ≤ k + 1 := by omega
            have hd1 : (bs s).drop (k + 1) = [] := drop_len hl2
            rw [hd1, quoteT_92] at hq
            simp only [go_sem, Nat.reduceAdd, Nat.reduceSub, Nat.reduceMul, Nat.reduceLeDiff, Nat.reduceEqDiff, Nat.reduceBEq, hlt', hlt, Int.toNat_natCast, Int.reduceEq, Int.reduceLT, d92, hl2', i64_id (n := (k : Int) + 1) (by omega)]
            refine ⟨by simp, ?_⟩
            refine EvK.go 1000 ?_
            rw [← hq]
            simp only [go_sem, Nat.reduceAdd, Nat.reduceSub, Nat.reduceMul, Nat.reduceLeDiff, Nat.reduceEqDiff, Nat.reduceBEq, quoteU]
            done
        · have d92 : ¬ (s[k].toNat : Int) = 92 := by omega
          have m92 : ¬ s[k] = 92 := fun h => c92 (e92.1 h)
          rw [quoteT_one m39 (by omega) m92] at hq
          simp only [go_sem, Nat.reduceAdd, Nat.reduceSub, Nat.reduceMul, Nat.reduceLeDiff, Nat.reduceEqDiff, Nat.reduceBEq, hlt', hlt, Int.toNat_natCast, d39, cl', ch', d92, i64_id (n := (k : Int) + 1) (by omega), show ((k : Int) + 1).toNat = k + 1 by omega, ext_one hlt, ofB_append, ofB_size, List.length_cons, List.length_nil]
          refine ⟨by simp, by omega, by omega, by omega, ⟨(k + 1, acc ++ [s[k]]), hlt, by simp; omega, hq⟩, ⟨rfl, rfl⟩, by simp only; omega⟩
    · have hlt' : ¬ (k : Int) < s.size := by omega
      rw [drop_len hlt, quoteT_nil] at hq
      simp only [go_sem, Nat.reduceAdd, Nat.reduceSub, Nat.reduceMul, Nat.reduceLeDiff, Nat.reduceEqDiff, Nat.reduceBEq, hlt']
      refine EvK.go 1000 ?_
      rw [← hq]
      simp only [go_sem, Nat.reduceAdd, Nat.reduceSub, Nat.reduceMul, Nat.reduceLeDiff, Nat.reduceEqDiff, Nat.reduceBEq, quoteU]
end Go.Proofs

/- The document's functions that cut a text: the next token. -/
set_option linter.unusedSimpArgs false
namespace Go.Proofs
open Go Go.Abs

theorem SignsR_eq : CallEq Tryd.prog 27 [] (.ps 1 (strsB signL)) := by
  refine CallEq.begin (rs := [.tmp 0]) (m := 2) 1000 Tryd.func27 rfl rfl rfl (by decide) (by simp [strsB, signL, AVal.low, lowL]) ?_
  simp only [go_sem, Nat.reduceAdd, Nat.reduceSub, Nat.reduceMul, Nat.reduceLeDiff, Nat.reduceEqDiff, Nat.reduceBEq, strsB, signL, List.map_cons, List.map_nil, ofB, List.range_zero, List.nil_append, List.cons_append, List.getElem?_cons_zero, List.getElem?_cons_succ, Nat.mul_one, Nat.reduceMul]
  decide

theorem strs18 : (strsB signL).length = 18 := rfl
theorem ext_at (s : ByteArray) (p m : Nat) : s.extract p (p + m) = ofB (((bs s).drop p).take m) := by
  apply bs_inj
  rw [bs_extract, bs_ofB, List.drop_take, Nat.add_sub_cancel_left]
theorem nextB_at (s : ByteArray) (n : Nat) (h : n ≤ s.size) : nextB (bs s) n = if skip ((bs s).drop n) = [] then ((⟨4, (s.size : Int), []⟩, (s.size : Int), 0) : Tok × Int × Int) else
      if 0 < (nameB (skip ((bs s).drop n))).2.2 then
        (if 64 < (nameB (skip ((bs s).drop n))).2.1.length then (Tok.zero, (s.size : Int) - (skip ((bs s).drop n)).length, 8)
         else (⟨(nameB (skip ((bs s).drop n))).1, (s.size : Int) - (skip ((bs s).drop n)).length, (nameB (skip ((bs s).drop n))).2.1⟩, (s.size : Int) - (skip ((bs s).drop n)).length + (nameB (skip ((bs s).drop n))).2.2, 0))
      else match signL.find? (·.isPrefixOf (skip ((bs s).drop n))) with
        | some x => (⟨3, (s.size : Int) - (skip ((bs s).drop n)).length, x⟩, (s.size : Int) - (skip ((bs s).drop n)).length + x.length, 0)
        | none => (Tok.zero, (s.size : Int) - (skip ((bs s).drop n)).length, 4) := by
  rw [nextB, if_neg (by rw [bs_len]; omega), Int.toNat_natCast, bs_len]; rfl
set_option maxHeartbeats 1600000 in
theorem NextR_eq (s : ByteArray) (hs : s.size < 1000000) (i : Int) : CallEq Tryd.prog 11 [.str s, .int .i64 i] (nextA (nextB (bs s) i)) := by
  refine CallEq.begin (rs := [.cell 4 27, .tmp 5, .tmp 6]) (m := 129) 1000 Tryd.func11 rfl rfl rfl (by decide) (by simp [go_sem, nextA, tok_eq]) ?_
  by_cases c1 : i < 0
  · have hn : nextB (bs s) i = (Tok.zero, 0, 1) := by rw [nextB, if_pos (.inl c1)]
    rw [hn]
    simp only [go_sem, Nat.reduceAdd, Nat.reduceSub, Nat.reduceMul, Nat.reduceLeDiff, Nat.reduceEqDiff, Nat.reduceBEq, c1, nextA, tok_eq, Tok.zero]
    rfl
  by_cases c2 : (s.size : Int) < i
  · have hn : nextB (bs s) i = (Tok.zero, 0, 1) := by rw [nextB, if_pos (.inr (by rw [bs_len]; exact c2))]
    rw [hn]
    simp only [go_sem, Nat.reduceAdd, Nat.reduceSub, Nat.reduceMul, Nat.reduceLeDiff, Nat.reduceEqDiff, Nat.reduceBEq, c1, c2, nextA, tok_eq, Tok.zero]
    rfl
  obtain ⟨n, rfl⟩ : ∃ n : Nat, i = n := ⟨i.toNat, by omega⟩
  have hn := nextB_at s n (by omega)
  rw [hn]
  obtain ⟨q, hq⟩ := skip_suffix _ ((bs s).drop n) (Nat.le_refl _)
  have hdl : ((bs s).drop n).length = s.size - n := by rw [List.length_drop, bs_len]
  have hrl := skip_len ((bs s).drop n)
  have hrest : (bs s).drop (s.size - (skip ((bs s).drop n)).length) = skip ((bs s).drop n) := by
    have : bs s = ((bs s).take n ++ q) ++ skip ((bs s).drop n) := by rw [List.append_assoc, ← hq, List.take_append_drop]
    have h2 := suffix_drop this
    rw [bs_len] at h2
    exact h2
  have hW := Past_eq s hs n (by omega)
  generalize skip ((bs s).drop n) = rest at *
  have hpp : (s.size : Int) - rest.length = ((s.size - rest.length : Nat) : Int) := by omega
  rw [hpp] at hW ⊢
  simp only [go_sem, Nat.reduceAdd, Nat.reduceSub, Nat.reduceMul, Nat.reduceLeDiff, Nat.reduceEqDiff, Nat.reduceBEq, c1, c2]
  refine VCall.isoT [] (hW) (pTL_refl _ _ _) (by simp [go_sem, ]) ?_; simp only [flatR, flatA, flatC, if_true]; refine EvK.go 1000 ?_
  have hps : s.size - rest.length + rest.length = s.size := by omega
  generalize s.size - rest.length = p at *
  rcases rest with _ | ⟨c, r⟩
  · simp only [List.length_nil, Nat.add_zero] at hps
    simp only [go_sem, Nat.reduceAdd, Nat.reduceSub, Nat.reduceMul, Nat.reduceLeDiff, Nat.reduceEqDiff, Nat.reduceBEq, hps]
    simp only [if_true, nextA, tok_eq]
    simp only [go_sem, Nat.reduceAdd, Nat.reduceSub, Nat.reduceMul, Nat.reduceLeDiff, Nat.reduceEqDiff, Nat.reduceBEq, pT_agg]
    rfl
  have hlt : p < s.size := by rw [List.length_cons] at hps; omega
  have hne : ¬ (p : Int) = s.size := by omega
  have hlt' : (p : Int) < s.size := by omega
  have hat : s[p] = c := by
    rw [drop_at hlt] at hrest
    exact (List.cons.inj hrest).1
  have hWo := WordR_eq s hs p (by omega)
  have hDi := DigitsR_eq s hs p (by omega)
  rw [hrest] at hWo hDi
  have hsm := SmallU_eq (c.toNat : Int)
  have hdi := DigitU_eq (c.toNat : Int)
  have hgr := GreatU_eq (c.toNat : Int)
  rw [smallI_B] at hsm
  rw [digitI_B] at hdi
  rw [greatI_B] at hgr
  have h8 := u8_lt c
  have e39 : c = 39 ↔ c.toNat = 39 := u8_eq (by decide)
  have e36 : c = 36 ↔ c.toNat = 36 := u8_eq (by decide)
  have hex : ∀ m : Nat, s.extract p (p + m) = ofB ((c :: r).take m) := fun m => by rw [← hrest]; exact ext_at s p m
  have hml := name_le (c :: r)
  have hex0 : s.extract p p = ofB [] := hex 0
  have hsz : p + (r.length + 1) = s.size := hps
  rw [if_neg (by simp)]
  simp only [go_sem, Nat.reduceAdd, Nat.reduceSub, Nat.reduceMul, Nat.reduceLeDiff, Nat.reduceEqDiff, Nat.reduceBEq, hne, hlt, hat, Int.toNat_natCast]
  refine ⟨by simp, ?_⟩
  refine VCall.isoT [] (hsm) (pTL_refl _ _ _) (by simp [go_sem, ]) ?_; simp only [flatR, flatA, flatC, if_true]; refine EvK.go 1000 ?_
  cases csm : smallB c with
  | true =>
    have f39 : ¬ (c.toNat : Int) = 39 := fun h => by rw [e39.2 (by omega)] at csm; exact absurd csm (by decide)
    rw [name_s (fun h => f39 (by rw [h]; rfl)) (small_digit csm) csm] at hml ⊢
    have hm0 : 0 < runB onB (c :: r) := by rw [run_cons, show onB c = true by simp [onB, csm]]; rw [if_pos rfl]; omega
    simp only [go_sem, Nat.reduceAdd, Nat.reduceSub, Nat.reduceMul, Nat.reduceLeDiff, Nat.reduceEqDiff, Nat.reduceBEq]
    refine VCall.isoT [] (hWo) (pTL_refl _ _ _) (by simp [go_sem, ]) ?_; simp only [flatR, flatA, flatC, if_true]; refine EvK.go 1000 ?_
    simp only [List.length_cons] at hml
    rw [if_pos hm0]
    generalize hm : runB onB (c :: r) = m at *
    have htl : ((c :: r).take m).length = m := by simp only [List.length_take, List.length_cons]; omega
    rw [htl]
    by_cases ht : 64 < m
    · rw [if_pos ht]
      have ht' : (64 : Int) < m := by omega
      simp only [go_sem, Nat.reduceAdd, Nat.reduceSub, Nat.reduceMul, Nat.reduceLeDiff, Nat.reduceEqDiff, Nat.reduceBEq, Int.toNat_natCast, hex, f39, ofB_size, htl, ht', Int.le_refl, Int.reduceEq, Int.reduceLE, nextA, tok_eq, Tok.zero]
      exact ⟨by omega, by omega, rfl⟩
    · rw [if_neg ht]
      have ht' : ¬ (64 : Int) < m := by omega
      simp only [go_sem, Nat.reduceAdd, Nat.reduceSub, Nat.reduceMul, Nat.reduceLeDiff, Nat.reduceEqDiff, Nat.reduceBEq, Int.toNat_natCast, hex, f39, ofB_size, htl, ht', Int.le_refl, Int.reduceEq, Int.reduceLE, nextA, tok_eq]
      exact ⟨by omega, by omega, rfl⟩
  | false =>
  simp only [go_sem, Nat.reduceAdd, Nat.reduceSub, Nat.reduceMul, Nat.reduceLeDiff, Nat.reduceEqDiff, Nat.reduceBEq]
  refine VCall.isoT [] (hdi) (pTL_refl _ _ _) (by simp [go_sem, ]) ?_; simp only [flatR, flatA, flatC, if_true]; refine EvK.go 1000 ?_
  cases cdi : digitB c with
  | true =>
    have f39 : ¬ (c.toNat : Int) = 39 := fun h => by rw [e39.2 (by omega)] at cdi; exact absurd cdi (by decide)
    rw [name_d (fun h => f39 (by rw [h]; rfl)) cdi] at hml ⊢
    have hm0 : 0 < runB digitB (c :: r) := by rw [run_cons, cdi, if_pos rfl]; omega
    simp only [go_sem, Nat.reduceAdd, Nat.reduceSub, Nat.reduceMul, Nat.reduceLeDiff, Nat.reduceEqDiff, Nat.reduceBEq]
    refine VCall.isoT [] (hDi) (pTL_refl _ _ _) (by simp [go_sem, ]) ?_; simp only [flatR, flatA, flatC, if_true]; refine EvK.go 1000 ?_
    simp only [List.length_cons] at hml
    rw [if_pos hm0]
    generalize hm : runB digitB (c :: r) = m at *
    have htl : ((c :: r).take m).length = m := by simp only [List.length_take, List.length_cons]; omega
    rw [htl]
    by_cases ht : 64 < m
    · rw [if_pos ht]
      have ht' : (64 : Int) < m := by omega
      simp only [go_sem, Nat.reduceAdd, Nat.reduceSub, Nat.reduceMul, Nat.reduceLeDiff, Nat.reduceEqDiff, Nat.reduceBEq, Int.toNat_natCast, hex, f39, ofB_size, htl, ht', Int.le_refl, Int.reduceEq, Int.reduceLE, nextA, tok_eq, Tok.zero]
      exact ⟨by omega, by omega, rfl⟩
    · rw [if_neg ht]
      have ht' : ¬ (64 : Int) < m := by omega
      simp only [go_sem, Nat.reduceAdd, Nat.reduceSub, Nat.reduceMul, Nat.reduceLeDiff, Nat.reduceEqDiff, Nat.reduceBEq, Int.toNat_natCast, hex, f39, ofB_size, htl, ht', Int.le_refl, Int.reduceEq, Int.reduceLE, nextA, tok_eq]
      exact ⟨by omega, by omega, rfl⟩
  | false =>
  simp only [go_sem, Nat.reduceAdd, Nat.reduceSub, Nat.reduceMul, Nat.reduceLeDiff, Nat.reduceEqDiff, Nat.reduceBEq]
  refine VCall.isoT [] (hgr) (pTL_refl _ _ _) (by simp [go_sem, ]) ?_; simp only [flatR, flatA, flatC, if_true]; refine EvK.go 1000 ?_
  cases cgr : greatB c with
  | true =>
    have f39 : ¬ (c.toNat : Int) = 39 := fun h => by rw [e39.2 (by omega)] at cgr; exact absurd cgr (by decide)
    rw [name_g (fun h => f39 (by rw [h]; rfl)) cdi csm cgr] at hml ⊢
    have hm0 : 0 < runB onB (c :: r) := by rw [run_cons, show onB c = true by simp [onB, cgr]]; rw [if_pos rfl]; omega
    simp only [go_sem, Nat.reduceAdd, Nat.reduceSub, Nat.reduceMul, Nat.reduceLeDiff, Nat.reduceEqDiff, Nat.reduceBEq]
    refine VCall.isoT [] (hWo) (pTL_refl _ _ _) (by simp [go_sem, ]) ?_; simp only [flatR, flatA, flatC, if_true]; refine EvK.go 1000 ?_
    simp only [List.length_cons] at hml
    rw [if_pos hm0]
    generalize hm : runB onB (c :: r) = m at *
    have htl : ((c :: r).take m).length = m := by simp only [List.length_take, List.length_cons]; omega
    rw [htl]
    by_cases ht : 64 < m
    · rw [if_pos ht]
      have ht' : (64 : Int) < m := by omega
      simp only [go_sem, Nat.reduceAdd, Nat.reduceSub, Nat.reduceMul, Nat.reduceLeDiff, Nat.reduceEqDiff, Nat.reduceBEq, Int.toNat_natCast, hex, f39, ofB_size, htl, ht', Int.le_refl, Int.reduceEq, Int.reduceLE, nextA, tok_eq, Tok.zero]
      exact ⟨by omega, by omega, rfl⟩
    · rw [if_neg ht]
      have ht' : ¬ (64 : Int) < m := by omega
      simp only [go_sem, Nat.reduceAdd, Nat.reduceSub, Nat.reduceMul, Nat.reduceLeDiff, Nat.reduceEqDiff, Nat.reduceBEq, Int.toNat_natCast, hex, f39, ofB_size, htl, ht', Int.le_refl, Int.reduceEq, Int.reduceLE, nextA, tok_eq]
      exact ⟨by omega, by omega, rfl⟩
  | false =>
  by_cases c36 : c.toNat = 36
  · have d36 : (c.toNat : Int) = 36 := by omega
    have k36 := e36.2 c36
    have f39 : ¬ (c.toNat : Int) = 39 := by omega
    rcases r with _ | ⟨d, r⟩
    · have h1 : ¬ ((p : Int) + 1) < s.size := by simp only [List.length_nil] at hsz; omega
      rw [show nameB [c] = (0, [], 0) by rw [k36]; rfl]
      simp only
      simp only [go_sem, Nat.reduceAdd, Nat.reduceSub, Nat.reduceMul, Nat.reduceLeDiff, Nat.reduceEqDiff, Nat.reduceBEq, d36, i64_id (n := (p : Int) + 1) (by omega), h1, Int.toNat_natCast, hex0, Int.reduceEq, Int.reduceLE]
      generalize hFD : signL.find? (·.isPrefixOf ([c])) = FD
      (repeat ((with_reducible refine And.intro ?_ ?_); · omega))
      refine VCall.isoT [] (SignsR_eq) (pTL_refl _ _ _) (by simp [go_sem, ]) ?_; rw [frzI_nil]; simp only [ite_self]; refine EvK.go 1000 ?_
      simp only [go_sem, Nat.reduceAdd, Nat.reduceSub, Nat.reduceMul, Nat.reduceLeDiff, Nat.reduceEqDiff, Nat.reduceBEq]
      refine EvK.loopI (ι := {j : Nat // j ≤ 18 ∧ FD = (signL.drop j).find? (·.isPrefixOf ([c]))}) 1000 (fun j => mkT 131 [(0, .str s), (1, .int .i64 p), (4, .ptr 0 0), (5, .int .i64 0), (6, .int .i64 0), (14, .ps 1 (strsB signL)), (15, .int .i64 j.1)]) (fun _ => [some (.var [.int .i64 0, .int .i64 0, .str ⟨#[]⟩])]) (fun j => 18 - j.1) ⟨0, by omega, hFD.symm⟩ ?_ (fun _ => Nat.zero_le _) ?_
      · simp only [go_sem, Nat.reduceAdd, Nat.reduceSub, Nat.reduceMul, Nat.reduceLeDiff, Nat.reduceEqDiff, Nat.reduceBEq, Int.natCast_zero]
        exact ⟨by decide, lowL_map fun _ _ => trivial⟩
      · rintro ⟨j, hj, hf⟩
        by_cases hlj : (j : Int) < 18
        · have hlj' : j < signL.length := by show j < 18; omega
          rw [List.drop_eq_getElem_cons hlj', List.find?_cons] at hf
          have hgt : (strsB signL).getD j .undef = .str (ofB signL[j]) := by
            simp only [strsB, List.getD_eq_getElem?_getD, List.getElem?_map, List.getElem?_eq_getElem hlj', Option.map_some, Option.getD_some]
          have hsl : signL[j].length ≤ 3 := by
            have : ∀ x ∈ signL, x.length ≤ 3 := by decide
            exact this _ (List.getElem_mem hlj')
          generalize signL[j] = x at *
          have hS := Starts_eq s (ofB x) hs (by rw [ofB_size]; omega) p (by omega)
          rw [bs_ofB, hrest] at hS
          simp only [go_sem, Nat.reduceAdd, Nat.reduceSub, Nat.reduceMul, Nat.reduceLeDiff, Nat.reduceEqDiff, Nat.reduceBEq, strs18, show ((18 : Nat) : Int) = 18 from rfl, hlj, Int.toNat_natCast, Nat.mul_one, hgt]
          refine ⟨by omega, ?_⟩
          refine VCall.isoT [] (hS) (pTL_refl _ _ _) (by simp [go_sem, ]) ?_; simp only [flatR, flatA, flatC, if_true]; refine EvK.go 1000 ?_
          cases hxp : x.isPrefixOf ([c]) with
          | true =>
            rw [hxp] at hf
            simp only at hf
            simp only [go_sem, Nat.reduceAdd, Nat.reduceSub, Nat.reduceMul, Nat.reduceLeDiff, Nat.reduceEqDiff, Nat.reduceBEq]
            refine EvK.draw [⟨none, [], [0]⟩, ⟨none, [], [0]⟩, ⟨none, [], [0]⟩, ⟨none, [], [0]⟩, ⟨none, [], [0]⟩, ⟨none, [], [0]⟩, ⟨none, [], [0]⟩, ⟨none, [], [0]⟩, ⟨none, [], [0]⟩, ⟨none, [], [0]⟩, ⟨none, [], [0]⟩, ⟨none, [], [0]⟩, ⟨none, [], [0]⟩, ⟨none, [0], []⟩, ⟨none, [], [0]⟩, ⟨none, [], [0]⟩] 1 1 mixed rfl rfl (by decide) ?_
            simp only [go_sem, Nat.reduceAdd, Nat.reduceSub, Nat.reduceMul, Nat.reduceLeDiff, Nat.reduceEqDiff, Nat.reduceBEq, padS, strs18, show ((18 : Nat) : Int) = 18 from rfl, hlj, Int.toNat_natCast, Nat.mul_one, hgt, ofB_size]
            rw [i64_id (by omega)]
            refine ⟨by omega, by omega, ?_⟩
            refine EvK.go 1000 ?_
            subst hf
            simp only [go_sem, Nat.reduceAdd, Nat.reduceSub, Nat.reduceMul, Nat.reduceLeDiff, Nat.reduceEqDiff, Nat.reduceBEq, nextA, tok_eq]
            refine EvK.go 1000 ?_
            simp only [go_sem, Nat.reduceAdd, Nat.reduceSub, Nat.reduceMul, Nat.reduceLeDiff, Nat.reduceEqDiff, Nat.reduceBEq]
            done
          | false =>
            rw [hxp] at hf
            simp only at hf
            simp only [go_sem, Nat.reduceAdd, Nat.reduceSub, Nat.reduceMul, Nat.reduceLeDiff, Nat.reduceEqDiff, Nat.reduceBEq]
            refine ⟨⟨j + 1, by omega, hf⟩, ?_, by simp only; omega⟩
            simp only [go_sem, Nat.reduceAdd, Nat.reduceSub, Nat.reduceMul, Nat.reduceLeDiff, Nat.reduceEqDiff, Nat.reduceBEq]
            rw [i64_id (by omega)]
            exact ⟨by simp, by decide, lowL_map fun _ _ => trivial⟩
        · have hj18 : j = signL.length := by show j = 18; omega
          rw [hj18, List.drop_length, List.find?_nil] at hf
          simp only [go_sem, Nat.reduceAdd, Nat.reduceSub, Nat.reduceMul, Nat.reduceLeDiff, Nat.reduceEqDiff, Nat.reduceBEq, strs18, show ((18 : Nat) : Int) = 18 from rfl, hlj]
          refine EvK.go 1000 ?_
          subst hf
          simp only [go_sem, Nat.reduceAdd, Nat.reduceSub, Nat.reduceMul, Nat.reduceLeDiff, Nat.reduceEqDiff, Nat.reduceBEq, nextA, tok_eq, Tok.zero]
          rfl
    · have h1 : ((p : Int) + 1) < s.size := by simp only [List.length_cons] at hsz; omega
      have h1' : p + 1 < s.size := by simp only [List.length_cons] at hsz; omega
      have hrest1 : (bs s).drop (p + 1) = d :: r := by
        have := congrArg (List.drop 1) hrest
        rw [List.drop_drop] at this; exact this
      have hd1 : s[p + 1] = d := by
        rw [drop_at h1'] at hrest1
        exact (List.cons.inj hrest1).1
      have hsd := SmallU_eq (d.toNat : Int)
      rw [smallI_B] at hsd
      simp only [go_sem, Nat.reduceAdd, Nat.reduceSub, Nat.reduceMul, Nat.reduceLeDiff, Nat.reduceEqDiff, Nat.reduceBEq, d36, i64_id (n := (p : Int) + 1) (by omega), show ((p : Int) + 1).toNat = p + 1 by omega, h1, h1', hd1, Int.toNat_natCast, hex0, Int.reduceEq, Int.reduceLE]
      refine ⟨by omega, ?_⟩
      refine VCall.isoT [] (hsd) (pTL_refl _ _ _) (by simp [go_sem, ]) ?_; simp only [flatR, flatA, flatC, if_true]; refine EvK.go 1000 ?_
      cases csd : smallB d with
      | true =>
        have hW1 := WordR_eq s hs (p + 1) (by omega)
        rw [hrest1, show ((p + 1 : Nat) : Int) = (p : Int) + 1 from rfl, show p + 1 + runB onB (d :: r) = p + (1 + runB onB (d :: r)) by omega] at hW1
        rw [k36, name_y csd, ← k36] at hml ⊢
        have hm0 : 0 < 1 + runB onB (d :: r) := by omega
        simp only [List.length_cons] at hsz
        simp only [go_sem, Nat.reduceAdd, Nat.reduceSub, Nat.reduceMul, Nat.reduceLeDiff, Nat.reduceEqDiff, Nat.reduceBEq, i64_id (n := (p : Int) + 1) (by omega)]
        refine VCall.isoT [] (hW1) (pTL_refl _ _ _) (by simp [go_sem, ]) ?_; simp only [flatR, flatA, flatC, if_true]; refine EvK.go 1000 ?_
        simp only [List.length_cons] at hml
        rw [if_pos hm0]
        generalize hm : 1 + runB onB (d :: r) = m at *
        have htl : ((c :: d :: r).take m).length = m := by simp only [List.length_take, List.length_cons]; omega
        rw [htl]
        by_cases ht : 64 < m
        · rw [if_pos ht]
          have ht' : (64 : Int) < m := by omega
          simp only [go_sem, Nat.reduceAdd, Nat.reduceSub, Nat.reduceMul, Nat.reduceLeDiff, Nat.reduceEqDiff, Nat.reduceBEq, Int.toNat_natCast, hex, f39, ofB_size, htl, ht', Int.le_refl, Int.reduceEq, Int.reduceLE, nextA, tok_eq, Tok.zero]
          exact ⟨by omega, by omega, rfl⟩
        · rw [if_neg ht]
          have ht' : ¬ (64 : Int) < m := by omega
          simp only [go_sem, Nat.reduceAdd, Nat.reduceSub, Nat.reduceMul, Nat.reduceLeDiff, Nat.reduceEqDiff, Nat.reduceBEq, Int.toNat_natCast, hex, f39, ofB_size, htl, ht', Int.le_refl, Int.reduceEq, Int.reduceLE, nextA, tok_eq]
          exact ⟨by omega, by omega, rfl⟩
      | false =>
        rw [k36, name_y0 csd, ← k36]
        simp only
        simp only [go_sem, Nat.reduceAdd, Nat.reduceSub, Nat.reduceMul, Nat.reduceLeDiff, Nat.reduceEqDiff, Nat.reduceBEq, d36, Int.reduceEq, Int.reduceLE]
        generalize hFD : signL.find? (·.isPrefixOf (c :: d :: r)) = FD
        (repeat ((with_reducible refine And.intro ?_ ?_); · omega))
        refine VCall.isoT [] (SignsR_eq) (pTL_refl _ _ _) (by simp [go_sem, ]) ?_; rw [frzI_nil]; simp only [ite_self]; refine EvK.go 1000 ?_
        simp only [go_sem, Nat.reduceAdd, Nat.reduceSub, Nat.reduceMul, Nat.reduceLeDiff, Nat.reduceEqDiff, Nat.reduceBEq]
        refine EvK.loopI (ι := {j : Nat // j ≤ 18 ∧ FD = (signL.drop j).find? (·.isPrefixOf (c :: d :: r))}) 1000 (fun j => mkT 131 [(0, .str s), (1, .int .i64 p), (4, .ptr 0 0), (5, .int .i64 0), (6, .int .i64 0), (14, .ps 1 (strsB signL)), (15, .int .i64 j.1)]) (fun _ => [some (.var [.int .i64 0, .int .i64 0, .str ⟨#[]⟩])]) (fun j => 18 - j.1) ⟨0, by omega, hFD.symm⟩ ?_ (fun _ => Nat.zero_le _) ?_
        · simp only [go_sem, Nat.reduceAdd, Nat.reduceSub, Nat.reduceMul, Nat.reduceLeDiff, Nat.reduceEqDiff, Nat.reduceBEq, Int.natCast_zero]
          exact ⟨by decide, lowL_map fun _ _ => trivial⟩
        · rintro ⟨j, hj, hf⟩
          by_cases hlj : (j : Int) < 18
          · have hlj' : j < signL.length := by show j < 18; omega
            rw [List.drop_eq_getElem_cons hlj', List.find?_cons] at hf
            have hgt : (strsB signL).getD j .undef = .str (ofB signL[j]) := by
              simp only [strsB, List.getD_eq_getElem?_getD, List.getElem?_map, List.getElem?_eq_getElem hlj', Option.map_some, Option.getD_some]
            have hsl : signL[j].length ≤ 3 := by
              have : ∀ x ∈ signL, x.length ≤ 3 := by decide
              exact this _ (List.getElem_mem hlj')
            generalize signL[j] = x at *
            have hS := Starts_eq s (ofB x) hs (by rw [ofB_size]; omega) p (by omega)
            rw [bs_ofB, hrest] at hS
            simp only [go_sem, Nat.reduceAdd, Nat.reduceSub, Nat.reduceMul, Nat.reduceLeDiff, Nat.reduceEqDiff, Nat.reduceBEq, strs18, show ((18 : Nat) : Int) = 18 from rfl, hlj, Int.toNat_natCast, Nat.mul_one, hgt]
            refine ⟨by omega, ?_⟩
            refine VCall.isoT [] (hS) (pTL_refl _ _ _) (by simp [go_sem, ]) ?_; simp only [flatR, flatA, flatC, if_true]; refine EvK.go 1000 ?_
            cases hxp : x.isPrefixOf (c :: d :: r) with
            | true =>
              rw [hxp] at hf
              simp only at hf
              simp only [go_sem, Nat.reduceAdd, Nat.reduceSub, Nat.reduceMul, Nat.reduceLeDiff, Nat.reduceEqDiff, Nat.reduceBEq]
              refine EvK.draw [⟨none, [], [0]⟩, ⟨none, [], [0]⟩, ⟨none, [], [0]⟩, ⟨none, [], [0]⟩, ⟨none, [], [0]⟩, ⟨none, [], [0]⟩, ⟨none, [], [0]⟩, ⟨none, [], [0]⟩, ⟨none, [], [0]⟩, ⟨none, [], [0]⟩, ⟨none, [], [0]⟩, ⟨none, [], [0]⟩, ⟨none, [], [0]⟩, ⟨none, [0], []⟩, ⟨none, [], [0]⟩, ⟨none, [], [0]⟩] 1 1 mixed rfl rfl (by decide) ?_
              simp only [go_sem, Nat.reduceAdd, Nat.reduceSub, Nat.reduceMul, Nat.reduceLeDiff, Nat.reduceEqDiff, Nat.reduceBEq, padS, strs18, show ((18 : Nat) : Int) = 18 from rfl, hlj, Int.toNat_natCast, Nat.mul_one, hgt, ofB_size]
              rw [i64_id (by omega)]
              refine ⟨by omega, by omega, ?_⟩
              refine EvK.go 1000 ?_
              subst hf
              simp only [go_sem, Nat.reduceAdd, Nat.reduceSub, Nat.reduceMul, Nat.reduceLeDiff, Nat.reduceEqDiff, Nat.reduceBEq, nextA, tok_eq]
              refine EvK.go 1000 ?_
              simp only [go_sem, Nat.reduceAdd, Nat.reduceSub, Nat.reduceMul, Nat.reduceLeDiff, Nat.reduceEqDiff, Nat.reduceBEq]
              done
            | false =>
              rw [hxp] at hf
              simp only at hf
              simp only [go_sem, Nat.reduceAdd, Nat.reduceSub, Nat.reduceMul, Nat.reduceLeDiff, Nat.reduceEqDiff, Nat.reduceBEq]
              refine ⟨⟨j + 1, by omega, hf⟩, ?_, by simp only; omega⟩
              simp only [go_sem, Nat.reduceAdd, Nat.reduceSub, Nat.reduceMul, Nat.reduceLeDiff, Nat.reduceEqDiff, Nat.reduceBEq]
              rw [i64_id (by omega)]
              exact ⟨by simp, by decide, lowL_map fun _ _ => trivial⟩
          · have hj18 : j = signL.length := by show j = 18; omega
            rw [hj18, List.drop_length, List.find?_nil] at hf
            simp only [go_sem, Nat.reduceAdd, Nat.reduceSub, Nat.reduceMul, Nat.reduceLeDiff, Nat.reduceEqDiff, Nat.reduceBEq, strs18, show ((18 : Nat) : Int) = 18 from rfl, hlj]
            refine EvK.go 1000 ?_
            subst hf
            simp only [go_sem, Nat.reduceAdd, Nat.reduceSub, Nat.reduceMul, Nat.reduceLeDiff, Nat.reduceEqDiff, Nat.reduceBEq, nextA, tok_eq, Tok.zero]
            rfl
  · have d36 : ¬ (c.toNat : Int) = 36 := by omega
    have m36 : ¬ c = 36 := fun h => c36 (e36.1 h)
    by_cases c39 : c.toNat = 39
    · have d39 : (c.toNat : Int) = 39 := by omega
      have k39 := e39.2 c39
      have hrest1 : (bs s).drop (p + 1) = r := by
        have := congrArg (List.drop 1) hrest
        rw [List.drop_drop] at this; exact this
      have hQ := QuotedR_eq s hs p hlt
      rw [hrest1] at hQ
      have hB := quoteT_B _ r [] (Nat.le_refl _)
      have hBl := quoteB_len r.length r []
      generalize quoteT [] r = T at *
      simp only [go_sem, Nat.reduceAdd, Nat.reduceSub, Nat.reduceMul, Nat.reduceLeDiff, Nat.reduceEqDiff, Nat.reduceBEq, d39, Int.toNat_natCast, hex0, Int.reduceEq, Int.reduceLE]
      (repeat ((with_reducible refine And.intro ?_ ?_); · omega))
      refine VCall.isoT [] (hQ) (pTL_refl _ _ _) (by simp [go_sem, ]) ?_; rw [frzI_nil]; simp only [ite_self]; refine EvK.go 1000 ?_
      rcases T with _ | ⟨o, b⟩
      · rw [k39, name_q0 hB, ← k39]
        simp only
        simp only [go_sem, Nat.reduceAdd, Nat.reduceSub, Nat.reduceMul, Nat.reduceLeDiff, Nat.reduceEqDiff, Nat.reduceBEq, quoteU, Int.reduceLE]
        generalize hFD : signL.find? (·.isPrefixOf (c :: r)) = FD
        (repeat ((with_reducible refine And.intro ?_ ?_); · omega))
        refine VCall.isoT [] (SignsR_eq) (pTL_refl _ _ _) (by simp [go_sem, ]) ?_; rw [frzI_nil]; simp only [ite_self]; refine EvK.go 1000 ?_
        simp only [go_sem, Nat.reduceAdd, Nat.reduceSub, Nat.reduceMul, Nat.reduceLeDiff, Nat.reduceEqDiff, Nat.reduceBEq]
        refine EvK.loopI (ι := {j : Nat // j ≤ 18 ∧ FD = (signL.drop j).find? (·.isPrefixOf (c :: r))}) 1000 (fun j => mkT 131 [(0, .str s), (1, .int .i64 p), (4, .ptr 0 0), (5, .int .i64 0), (6, .int .i64 0), (14, .ps 1 (strsB signL)), (15, .int .i64 j.1)]) (fun _ => [some (.var [.int .i64 0, .int .i64 0, .str ⟨#[]⟩])]) (fun j => 18 - j.1) ⟨0, by omega, hFD.symm⟩ ?_ (fun _ => Nat.zero_le _) ?_
        · simp only [go_sem, Nat.reduceAdd, Nat.reduceSub, Nat.reduceMul, Nat.reduceLeDiff, Nat.reduceEqDiff, Nat.reduceBEq, Int.natCast_zero]
          exact ⟨by decide, lowL_map fun _ _ => trivial⟩
        · rintro ⟨j, hj, hf⟩
          by_cases hlj : (j : Int) < 18
          · have hlj' : j < signL.length := by show j < 18; omega
            rw [List.drop_eq_getElem_cons hlj', List.find?_cons] at hf
            have hgt : (strsB signL).getD j .undef = .str (ofB signL[j]) := by
              simp only [strsB, List.getD_eq_getElem?_getD, List.getElem?_map, List.getElem?_eq_getElem hlj', Option.map_some, Option.getD_some]
            have hsl : signL[j].length ≤ 3 := by
              have : ∀ x ∈ signL, x.length ≤ 3 := by decide
              exact this _ (List.getElem_mem hlj')
            generalize signL[j] = x at *
            have hS := Starts_eq s (ofB x) hs (by rw [ofB_size]; omega) p (by omega)
            rw [bs_ofB, hrest] at hS
            simp only [go_sem, Nat.reduceAdd, Nat.reduceSub, Nat.reduceMul, Nat.reduceLeDiff, Nat.reduceEqDiff, Nat.reduceBEq, strs18, show ((18 : Nat) : Int) = 18 from rfl, hlj, Int.toNat_natCast, Nat.mul_one, hgt]
            refine ⟨by omega, ?_⟩
            refine VCall.isoT [] (hS) (pTL_refl _ _ _) (by simp [go_sem, ]) ?_; simp only [flatR, flatA, flatC, if_true]; refine EvK.go 1000 ?_
            cases hxp : x.isPrefixOf (c :: r) with
            | true =>
              rw [hxp] at hf
              simp only at hf
              simp only [go_sem, Nat.reduceAdd, Nat.reduceSub, Nat.reduceMul, Nat.reduceLeDiff, Nat.reduceEqDiff, Nat.reduceBEq]
              refine EvK.draw [⟨none, [], [0]⟩, ⟨none, [], [0]⟩, ⟨none, [], [0]⟩, ⟨none, [], [0]⟩, ⟨none, [], [0]⟩, ⟨none, [], [0]⟩, ⟨none, [], [0]⟩, ⟨none, [], [0]⟩, ⟨none, [], [0]⟩, ⟨none, [], [0]⟩, ⟨none, [], [0]⟩, ⟨none, [], [0]⟩, ⟨none, [], [0]⟩, ⟨none, [0], []⟩, ⟨none, [], [0]⟩, ⟨none, [], [0]⟩] 1 1 mixed rfl rfl (by decide) ?_
              simp only [go_sem, Nat.reduceAdd, Nat.reduceSub, Nat.reduceMul, Nat.reduceLeDiff, Nat.reduceEqDiff, Nat.reduceBEq, padS, strs18, show ((18 : Nat) : Int) = 18 from rfl, hlj, Int.toNat_natCast, Nat.mul_one, hgt, ofB_size]
              rw [i64_id (by omega)]
              refine ⟨by omega, by omega, ?_⟩
              refine EvK.go 1000 ?_
              subst hf
              simp only [go_sem, Nat.reduceAdd, Nat.reduceSub, Nat.reduceMul, Nat.reduceLeDiff, Nat.reduceEqDiff, Nat.reduceBEq, nextA, tok_eq]
              refine EvK.go 1000 ?_
              simp only [go_sem, Nat.reduceAdd, Nat.reduceSub, Nat.reduceMul, Nat.reduceLeDiff, Nat.reduceEqDiff, Nat.reduceBEq]
              done
            | false =>
              rw [hxp] at hf
              simp only at hf
              simp only [go_sem, Nat.reduceAdd, Nat.reduceSub, Nat.reduceMul, Nat.reduceLeDiff, Nat.reduceEqDiff, Nat.reduceBEq]
              refine ⟨⟨j + 1, by omega, hf⟩, ?_, by simp only; omega⟩
              simp only [go_sem, Nat.reduceAdd, Nat.reduceSub, Nat.reduceMul, Nat.reduceLeDiff, Nat.reduceEqDiff, Nat.reduceBEq]
              rw [i64_id (by omega)]
              exact ⟨by simp, by decide, lowL_map fun _ _ => trivial⟩
          · have hj18 : j = signL.length := by show j = 18; omega
            rw [hj18, List.drop_length, List.find?_nil] at hf
            simp only [go_sem, Nat.reduceAdd, Nat.reduceSub, Nat.reduceMul, Nat.reduceLeDiff, Nat.reduceEqDiff, Nat.reduceBEq, strs18, show ((18 : Nat) : Int) = 18 from rfl, hlj]
            refine EvK.go 1000 ?_
            subst hf
            simp only [go_sem, Nat.reduceAdd, Nat.reduceSub, Nat.reduceMul, Nat.reduceLeDiff, Nat.reduceEqDiff, Nat.reduceBEq, nextA, tok_eq, Tok.zero]
            rfl
      simp only at hB
      by_cases ho : o = []
      · rw [if_pos ho] at hB
        rw [k39, name_q0 hB, ← k39]
        simp only
        simp only [go_sem, Nat.reduceAdd, Nat.reduceSub, Nat.reduceMul, Nat.reduceLeDiff, Nat.reduceEqDiff, Nat.reduceBEq, quoteU, Int.reduceLE, ho]
        generalize hFD : signL.find? (·.isPrefixOf (c :: r)) = FD
        (repeat ((with_reducible refine And.intro ?_ ?_); · omega))
        refine VCall.isoT [] (SignsR_eq) (pTL_refl _ _ _) (by simp [go_sem, ]) ?_; rw [frzI_nil]; simp only [ite_self]; refine EvK.go 1000 ?_
        simp only [go_sem, Nat.reduceAdd, Nat.reduceSub, Nat.reduceMul, Nat.reduceLeDiff, Nat.reduceEqDiff, Nat.reduceBEq]
        refine EvK.loopI (ι := {j : Nat // j ≤ 18 ∧ FD = (signL.drop j).find? (·.isPrefixOf (c :: r))}) 1000 (fun j => mkT 131 [(0, .str s), (1, .int .i64 p), (4, .ptr 0 0), (5, .int .i64 0), (6, .int .i64 0), (14, .ps 1 (strsB signL)), (15, .int .i64 j.1)]) (fun _ => [some (.var [.int .i64 0, .int .i64 0, .str ⟨#[]⟩])]) (fun j => 18 - j.1) ⟨0, by omega, hFD.symm⟩ ?_ (fun _ => Nat.zero_le _) ?_
        · simp only [go_sem, Nat.reduceAdd, Nat.reduceSub, Nat.reduceMul, Nat.reduceLeDiff, Nat.reduceEqDiff, Nat.reduceBEq, Int.natCast_zero]
          exact ⟨by decide, lowL_map fun _ _ => trivial⟩
        · rintro ⟨j, hj, hf⟩
          by_cases hlj : (j : Int) < 18
          · have hlj' : j < signL.length := by show j < 18; omega
            rw [List.drop_eq_getElem_cons hlj', List.find?_cons] at hf
            have hgt : (strsB signL).getD j .undef = .str (ofB signL[j]) := by
              simp only [strsB, List.getD_eq_getElem?_getD, List.getElem?_map, List.getElem?_eq_getElem hlj', Option.map_some, Option.getD_some]
            have hsl : signL[j].length ≤ 3 := by
              have : ∀ x ∈ signL, x.length ≤ 3 := by decide
              exact this _ (List.getElem_mem hlj')
            generalize signL[j] = x at *
            have hS := Starts_eq s (ofB x) hs (by rw [ofB_size]; omega) p (by omega)
            rw [bs_ofB, hrest] at hS
            simp only [go_sem, Nat.reduceAdd, Nat.reduceSub, Nat.reduceMul, Nat.reduceLeDiff, Nat.reduceEqDiff, Nat.reduceBEq, strs18, show ((18 : Nat) : Int) = 18 from rfl, hlj, Int.toNat_natCast, Nat.mul_one, hgt]
            refine ⟨by omega, ?_⟩
            refine VCall.isoT [] (hS) (pTL_refl _ _ _) (by simp [go_sem, ]) ?_; simp only [flatR, flatA, flatC, if_true]; refine EvK.go 1000 ?_
            cases hxp : x.isPrefixOf (c :: r) with
            | true =>
              rw [hxp] at hf
              simp only at hf
              simp only [go_sem, Nat.reduceAdd, Nat.reduceSub, Nat.reduceMul, Nat.reduceLeDiff, Nat.reduceEqDiff, Nat.reduceBEq]
              refine EvK.draw [⟨none, [], [0]⟩, ⟨none, [], [0]⟩, ⟨none, [], [0]⟩, ⟨none, [], [0]⟩, ⟨none, [], [0]⟩, ⟨none, [], [0]⟩, ⟨none, [], [0]⟩, ⟨none, [], [0]⟩, ⟨none, [], [0]⟩, ⟨none, [], [0]⟩, ⟨none, [], [0]⟩, ⟨none, [], [0]⟩, ⟨none, [], [0]⟩, ⟨none, [0], []⟩, ⟨none, [], [0]⟩, ⟨none, [], [0]⟩] 1 1 mixed rfl rfl (by decide) ?_
              simp only [go_sem, Nat.reduceAdd, Nat.reduceSub, Nat.reduceMul, Nat.reduceLeDiff, Nat.reduceEqDiff, Nat.reduceBEq, padS, strs18, show ((18 : Nat) : Int) = 18 from rfl, hlj, Int.toNat_natCast, Nat.mul_one, hgt, ofB_size]
              rw [i64_id (by omega)]
              refine ⟨by omega, by omega, ?_⟩
              refine EvK.go 1000 ?_
              subst hf
              simp only [go_sem, Nat.reduceAdd, Nat.reduceSub, Nat.reduceMul, Nat.reduceLeDiff, Nat.reduceEqDiff, Nat.reduceBEq, nextA, tok_eq]
              refine EvK.go 1000 ?_
              simp only [go_sem, Nat.reduceAdd, Nat.reduceSub, Nat.reduceMul, Nat.reduceLeDiff, Nat.reduceEqDiff, Nat.reduceBEq]
              done
            | false =>
              rw [hxp] at hf
              simp only at hf
              simp only [go_sem, Nat.reduceAdd, Nat.reduceSub, Nat.reduceMul, Nat.reduceLeDiff, Nat.reduceEqDiff, Nat.reduceBEq]
              refine ⟨⟨j + 1, by omega, hf⟩, ?_, by simp only; omega⟩
              simp only [go_sem, Nat.reduceAdd, Nat.reduceSub, Nat.reduceMul, Nat.reduceLeDiff, Nat.reduceEqDiff, Nat.reduceBEq]
              rw [i64_id (by omega)]
              exact ⟨by simp, by decide, lowL_map fun _ _ => trivial⟩
          · have hj18 : j = signL.length := by show j = 18; omega
            rw [hj18, List.drop_length, List.find?_nil] at hf
            simp only [go_sem, Nat.reduceAdd, Nat.reduceSub, Nat.reduceMul, Nat.reduceLeDiff, Nat.reduceEqDiff, Nat.reduceBEq, strs18, show ((18 : Nat) : Int) = 18 from rfl, hlj]
            refine EvK.go 1000 ?_
            subst hf
            simp only [go_sem, Nat.reduceAdd, Nat.reduceSub, Nat.reduceMul, Nat.reduceLeDiff, Nat.reduceEqDiff, Nat.reduceBEq, nextA, tok_eq, Tok.zero]
            rfl
      · rw [if_neg ho] at hB
        have hbl := hBl _ (Nat.le_refl _) hB
        simp only at hbl
        rw [k39, name_q1 hB, ← k39]
        simp only
        rw [if_pos (by omega)]
        have he : (s.size : Int) - b.length = (p : Int) + ((r.length + 1 - b.length : Nat) : Int) := by omega
        by_cases ht : 64 < o.length
        · rw [if_pos ht]
          have ht' : (64 : Int) < o.length := by omega
          simp only [go_sem, Nat.reduceAdd, Nat.reduceSub, Nat.reduceMul, Nat.reduceLeDiff, Nat.reduceEqDiff, Nat.reduceBEq, quoteU, ho, ofB_size, ht', Int.le_refl, Int.reduceEq, Int.reduceLE, nextA, tok_eq, Tok.zero]
          rfl
        · rw [if_neg ht]
          have ht' : ¬ (64 : Int) < o.length := by omega
          simp only [go_sem, Nat.reduceAdd, Nat.reduceSub, Nat.reduceMul, Nat.reduceLeDiff, Nat.reduceEqDiff, Nat.reduceBEq, quoteU, ho, ofB_size, ht', Int.le_refl, Int.reduceEq, Int.reduceLE, nextA, tok_eq, he]
          done
    · have f39 : ¬ (c.toNat : Int) = 39 := by omega
      rw [name_n (fun h => c39 (e39.1 h)) cdi csm cgr m36]
      simp only
      simp only [go_sem, Nat.reduceAdd, Nat.reduceSub, Nat.reduceMul, Nat.reduceLeDiff, Nat.reduceEqDiff, Nat.reduceBEq, d36, f39, Int.toNat_natCast, hex0, Int.reduceLE]
      generalize hFD : signL.find? (·.isPrefixOf (c :: r)) = FD
      (repeat ((with_reducible refine And.intro ?_ ?_); · omega))
      refine VCall.isoT [] (SignsR_eq) (pTL_refl _ _ _) (by simp [go_sem, ]) ?_; rw [frzI_nil]; simp only [ite_self]; refine EvK.go 1000 ?_
      simp only [go_sem, Nat.reduceAdd, Nat.reduceSub, Nat.reduceMul, Nat.reduceLeDiff, Nat.reduceEqDiff, Nat.reduceBEq]
      refine EvK.loopI (ι := {j : Nat // j ≤ 18 ∧ FD = (signL.drop j).find? (·.isPrefixOf (c :: r))}) 1000 (fun j => mkT 131 [(0, .str s), (1, .int .i64 p), (4, .ptr 0 0), (5, .int .i64 0), (6, .int .i64 0), (14, .ps 1 (strsB signL)), (15, .int .i64 j.1)]) (fun _ => [some (.var [.int .i64 0, .int .i64 0, .str ⟨#[]⟩])]) (fun j => 18 - j.1) ⟨0, by omega, hFD.symm⟩ ?_ (fun _ => Nat.zero_le _) ?_
      · simp only [go_sem, Nat.reduceAdd, Nat.reduceSub, Nat.reduceMul, Nat.reduceLeDiff, Nat.reduceEqDiff, Nat.reduceBEq, Int.natCast_zero]
        exact ⟨by decide, lowL_map fun _ _ => trivial⟩
      · rintro ⟨j, hj, hf⟩
        by_cases hlj : (j : Int) < 18
        · have hlj' : j < signL.length := by show j < 18; omega
          rw [List.drop_eq_getElem_cons hlj', List.find?_cons] at hf
          have hgt : (strsB signL).getD j .undef = .str (ofB signL[j]) := by
            simp only [strsB, List.getD_eq_getElem?_getD, List.getElem?_map, List.getElem?_eq_getElem hlj', Option.map_some, Option.getD_some]
          have hsl : signL[j].length ≤ 3 := by
            have : ∀ x ∈ signL, x.length ≤ 3 := by decide
            exact this _ (List.getElem_mem hlj')
          generalize signL[j] = x at *
          have hS := Starts_eq s (ofB x) hs (by rw [ofB_size]; omega) p (by omega)
          rw [bs_ofB, hrest] at hS
          simp only [go_sem, Nat.reduceAdd, Nat.reduceSub, Nat.reduceMul, Nat.reduceLeDiff, Nat.reduceEqDiff, Nat.reduceBEq, strs18, show ((18 : Nat) : Int) = 18 from rfl, hlj, Int.toNat_natCast, Nat.mul_one, hgt]
          refine ⟨by omega, ?_⟩
          refine VCall.isoT [] (hS) (pTL_refl _ _ _) (by simp [go_sem, ]) ?_; simp only [flatR, flatA, flatC, if_true]; refine EvK.go 1000 ?_
          cases hxp : x.isPrefixOf (c :: r) with
          | true =>
            rw [hxp] at hf
            simp only at hf
            simp only [go_sem, Nat.reduceAdd, Nat.reduceSub, Nat.reduceMul, Nat.reduceLeDiff, Nat.reduceEqDiff, Nat.reduceBEq]
            refine EvK.draw [⟨none, [], [0]⟩, ⟨none, [], [0]⟩, ⟨none, [], [0]⟩, ⟨none, [], [0]⟩, ⟨none, [], [0]⟩, ⟨none, [], [0]⟩, ⟨none, [], [0]⟩, ⟨none, [], [0]⟩, ⟨none, [], [0]⟩, ⟨none, [], [0]⟩, ⟨none, [], [0]⟩, ⟨none, [], [0]⟩, ⟨none, [], [0]⟩, ⟨none, [0], []⟩, ⟨none, [], [0]⟩, ⟨none, [], [0]⟩] 1 1 mixed rfl rfl (by decide) ?_
            simp only [go_sem, Nat.reduceAdd, Nat.reduceSub, Nat.reduceMul, Nat.reduceLeDiff, Nat.reduceEqDiff, Nat.reduceBEq, padS, strs18, show ((18 : Nat) : Int) = 18 from rfl, hlj, Int.toNat_natCast, Nat.mul_one, hgt, ofB_size]
            rw [i64_id (by omega)]
            refine ⟨by omega, by omega, ?_⟩
            refine EvK.go 1000 ?_
            subst hf
            simp only [go_sem, Nat.reduceAdd, Nat.reduceSub, Nat.reduceMul, Nat.reduceLeDiff, Nat.reduceEqDiff, Nat.reduceBEq, nextA, tok_eq]
            refine EvK.go 1000 ?_
            simp only [go_sem, Nat.reduceAdd, Nat.reduceSub, Nat.reduceMul, Nat.reduceLeDiff, Nat.reduceEqDiff, Nat.reduceBEq]
            done
          | false =>
            rw [hxp] at hf
            simp only at hf
            simp only [go_sem, Nat.reduceAdd, Nat.reduceSub, Nat.reduceMul, Nat.reduceLeDiff, Nat.reduceEqDiff, Nat.reduceBEq]
            refine ⟨⟨j + 1, by omega, hf⟩, ?_, by simp only; omega⟩
            simp only [go_sem, Nat.reduceAdd, Nat.reduceSub, Nat.reduceMul, Nat.reduceLeDiff, Nat.reduceEqDiff, Nat.reduceBEq]
            rw [i64_id (by omega)]
            exact ⟨by simp, by decide, lowL_map fun _ _ => trivial⟩
        · have hj18 : j = signL.length := by show j = 18; omega
          rw [hj18, List.drop_length, List.find?_nil] at hf
          simp only [go_sem, Nat.reduceAdd, Nat.reduceSub, Nat.reduceMul, Nat.reduceLeDiff, Nat.reduceEqDiff, Nat.reduceBEq, strs18, show ((18 : Nat) : Int) = 18 from rfl, hlj]
          refine EvK.go 1000 ?_
          subst hf
          simp only [go_sem, Nat.reduceAdd, Nat.reduceSub, Nat.reduceMul, Nat.reduceLeDiff, Nat.reduceEqDiff, Nat.reduceBEq, nextA, tok_eq, Tok.zero]
          rfl
end Go.Proofs

/- The document's functions that cut a text: all tokens, quoting, comparing. -/
set_option linter.unusedSimpArgs false
namespace Go.Proofs
open Go Go.Abs

set_option maxHeartbeats 1600000 in
theorem AllR_eq (s : ByteArray) (hs : s.size < 1000000) : CallEq Tryd.prog 9 [.str s] (allA (allB (bs s))) := by
  refine CallEq.begin (rs := [.tmp 2, .tmp 3, .tmp 4]) (m := 34) 1000 Tryd.func9 rfl rfl rfl (by decide) (by simp [go_sem, allA, toks_low]) ?_
  by_cases c1 : 65536 < (s.size : Int)
  · have ha : allB (bs s) = ([], 0, 2) := by rw [allB, if_pos (by rw [bs_len]; exact c1)]
    rw [ha]
    simp only [go_sem, Nat.reduceAdd, Nat.reduceSub, Nat.reduceMul, Nat.reduceLeDiff, Nat.reduceEqDiff, Nat.reduceBEq, c1, allA, toks, List.map_nil]
    done
  have ha : allB (bs s) = allF (bs s) (s.size + 1) 0 [] := by rw [allB, if_neg (by rw [bs_len]; exact c1), bs_len]
  rw [ha]
  generalize hR : allF (bs s) (s.size + 1) 0 [] = R
  simp only [go_sem, Nat.reduceAdd, Nat.reduceSub, Nat.reduceMul, Nat.reduceLeDiff, Nat.reduceEqDiff, Nat.reduceBEq, c1]
  refine EvK.loopR (ι := {p : Int × List Tok × Nat // 0 ≤ p.1 ∧ p.1 ≤ s.size ∧ (p.2.1.length : Int) ≤ p.1 ∧ (s.size : Int) < p.1 + p.2.2 ∧ allF (bs s) p.2.2 p.1 p.2.1 = R}) 1000 (fun p => mkT 35 [(0, .str s), (2, .nils), (3, .int .i64 0), (4, .int .i64 0), (5, slA 0 3 (toks p.1.2.1)), (6, .int .i64 p.1.1)]) (fun p => [slB (toks p.1.2.1)]) (fun p => p.1.2.2) ⟨(0, [], s.size + 1), by omega, by omega, by simp, by simp only; omega, hR⟩ [] ?_ (fun _ => Nat.zero_le _) ?_
  · refine leR_mk rfl ?_
    simp only [go_sem, Nat.reduceAdd, Nat.reduceSub, Nat.reduceMul, Nat.reduceLeDiff, Nat.reduceEqDiff, Nat.reduceBEq, toks, List.map_nil, slA_nil, slB_nil]
    done
  · rintro ⟨⟨i, out, fuel⟩, h0, h1, h2, h3, hF⟩
    simp only at h0 h1 h2 h3 hF
    obtain ⟨k, rfl⟩ : ∃ k, fuel = k + 1 := ⟨fuel - 1, by omega⟩
    rw [allF] at hF
    have hnf := next_facts (s := bs s) (i := i) h0 (by rw [bs_len]; exact h1)
    rw [bs_len] at hnf
    simp only [go_sem, Nat.reduceAdd, Nat.reduceSub, Nat.reduceMul, Nat.reduceLeDiff, Nat.reduceEqDiff, Nat.reduceBEq]
    refine VCall.isoT [] (NextR_eq s hs i) (pTL_refl _ _ _) (by simp [go_sem, ]) ?_; rw [frzI_nil]; simp only [ite_self]; refine EvK.go 1000 ?_
    generalize nextB (bs s) i = N at *
    obtain ⟨t, nx, e⟩ := N
    simp only at hF hnf
    by_cases he : e = 0
    · subst he
      rw [if_neg (by simp)] at hF
      by_cases hk : t.kind = 4
      · rw [if_pos hk, bs_len] at hF
        simp only [go_sem, Nat.reduceAdd, Nat.reduceSub, Nat.reduceMul, Nat.reduceLeDiff, Nat.reduceEqDiff, Nat.reduceBEq, nextA, tok_eq, hk]
        refine EvK.go 1000 ?_
        rw [← hF]
        simp only [go_sem, Nat.reduceAdd, Nat.reduceSub, Nat.reduceMul, Nat.reduceLeDiff, Nat.reduceEqDiff, Nat.reduceBEq, allA, pT_slA]
        done
      · rw [if_neg hk] at hF
        obtain ⟨g1, g2⟩ := hnf rfl hk
        have kt := ok_tok t
        rw [tok_eq] at kt
        have hol : out.length ≤ 999999999 := by omega
        simp only [go_sem, Nat.reduceAdd, Nat.reduceSub, Nat.reduceMul, Nat.reduceLeDiff, Nat.reduceEqDiff, Nat.reduceBEq, nextA, tok_eq, hk, app_slA, kt, toks_len, Nat.le_refl, hol]
        refine ⟨by decide, ⟨(nx, out ++ [t], k), by simp only; omega, by simp only; omega, by simp; omega, by simp only; omega, hF⟩, [(0, 3), (3, 0)], leR_mk rfl ?_, by simp only; omega⟩
        have ht2 : toks (out ++ [t]) = toks out ++ [.agg [.int .i64 t.kind, .int .i64 t.at', .str (ofB t.text)]] := by rw [toks_add, tok_eq]
        simp only [ht2]
        simp only [go_sem, Nat.reduceAdd, Nat.reduceSub, Nat.reduceMul, Nat.reduceLeDiff, Nat.reduceEqDiff, Nat.reduceBEq, slA_snoc, slB_snoc, toks_len]
        rw [← ht2, renL_low0 (toks_low _)]
        simp [toks_low]
    · rw [if_pos he] at hF
      simp only [go_sem, Nat.reduceAdd, Nat.reduceSub, Nat.reduceMul, Nat.reduceLeDiff, Nat.reduceEqDiff, Nat.reduceBEq, nextA, tok_eq, he]
      refine EvK.go 1000 ?_
      rw [← hF]
      simp only [go_sem, Nat.reduceAdd, Nat.reduceSub, Nat.reduceMul, Nat.reduceLeDiff, Nat.reduceEqDiff, Nat.reduceBEq, allA, toks, List.map_nil]
      done

theorem esc_snoc (l : By) (c : UInt8) : escB (l ++ [c]) = escB l ++ (if c = 39 ∨ c = 92 then [92, c] else [c]) := by
  simp only [escB, List.flatMap_append, List.flatMap_cons, List.flatMap_nil, List.append_nil]
theorem escB_len (l : By) : (escB l).length ≤ 2 * l.length := by
  induction l with
  | nil => simp [escB]
  | cons c l ih =>
    simp only [escB, List.flatMap_cons, List.length_append, List.length_cons] at ih ⊢
    split
    · simp only [List.length_cons, List.length_nil]; omega
    · simp only [List.length_cons, List.length_nil]; omega
theorem take_snoc {s : ByteArray} {k : Nat} (h : k < s.size) : (bs s).take (k + 1) = (bs s).take k ++ [s[k]] := by
  rw [List.take_add_one, List.getElem?_eq_getElem (by rw [bs_len]; exact h)]
  rfl

set_option maxHeartbeats 1600000 in
theorem QuoteR_eq (s : ByteArray) (hs : s.size < 1000000) : CallEq Tryd.prog 15 [.str s] (quoteR (quoteS (bs s))) := by
  refine CallEq.begin (rs := [.tmp 2, .tmp 3]) (m := 74) 1000 Tryd.func15 rfl rfl rfl (by decide) (by simp [go_sem, quoteR]) ?_
  by_cases c1 : bs s = []
  · have hq : quoteS (bs s) = ([], 8) := by rw [quoteS, if_pos (.inl c1)]
    have h0 : (s.size : Int) < 1 := by rw [← bs_len, c1]; decide
    rw [hq]
    simp only [go_sem, Nat.reduceAdd, Nat.reduceSub, Nat.reduceMul, Nat.reduceLeDiff, Nat.reduceEqDiff, Nat.reduceBEq, h0, quoteR]
    rfl
  have hpos : 0 < s.size := by
    rw [← bs_len]
    exact List.length_pos_iff.2 c1
  have h0 : ¬ (s.size : Int) < 1 := by omega
  by_cases c2 : 64 < (s.size : Int)
  · have hq : quoteS (bs s) = ([], 8) := by rw [quoteS, if_pos (.inr (by rw [bs_len]; exact c2))]
    rw [hq]
    simp only [go_sem, Nat.reduceAdd, Nat.reduceSub, Nat.reduceMul, Nat.reduceLeDiff, Nat.reduceEqDiff, Nat.reduceBEq, h0, c2, quoteR]
    rfl
  have hq : quoteS (bs s) = if (bs s).any badQ = true then ([], 4) else if plainQ (bs s) = true then (bs s, 0) else (39 :: (escB (bs s) ++ [39]), 0) := by
    rw [quoteS, if_neg (by rw [bs_len]; exact fun h => h.elim c1 c2)]
  rw [hq]
  simp only [go_sem, Nat.reduceAdd, Nat.reduceSub, Nat.reduceMul, Nat.reduceLeDiff, Nat.reduceEqDiff, Nat.reduceBEq, h0, c2]
  refine EvK.loopI (ι := {k : Nat // k ≤ s.size ∧ ((bs s).take k).any badQ = false}) 1000 (fun k => mkT 75 [(0, .str s), (2, .str ⟨#[]⟩), (3, .int .i64 0), (4, .str (ofB (escB ((bs s).take k.1)))), (5, .int .i64 k.1)]) (fun _ => []) (fun k => s.size - k.1) ⟨0, by simp, by simp⟩ ?_ (fun _ => Nat.zero_le _) ?_
  · simp only [go_sem, Nat.reduceAdd, Nat.reduceSub, Nat.reduceMul, Nat.reduceLeDiff, Nat.reduceEqDiff, Nat.reduceBEq, Int.natCast_zero]
    rfl
  · rintro ⟨k, hk, hb⟩
    by_cases hlt : k < s.size
    · have hlt' : (k : Int) < s.size := by omega
      have hts := take_snoc hlt
      have hmem : s[k] ∈ bs s := by
        have := drop_at hlt
        exact List.mem_of_mem_drop (i := k) (by rw [this]; exact List.mem_cons_self)
      have hel := escB_len ((bs s).take k)
      rw [List.length_take, bs_len, Nat.min_eq_left hk] at hel
      have e39 : s[k] = 39 ↔ s[k].toNat = 39 := u8_eq (by decide)
      have e92 : s[k] = 92 ↔ s[k].toNat = 92 := u8_eq (by decide)
      by_cases cb : badQ s[k] = true
      · rw [if_pos (List.any_eq_true.2 ⟨_, hmem, cb⟩)]
        simp only [badQ, Bool.or_eq_true, decide_eq_true_eq] at cb
        by_cases cl : s[k].toNat < 32
        · have cl' : (s[k].toNat : Int) < 32 := by omega
          simp only [go_sem, Nat.reduceAdd, Nat.reduceSub, Nat.reduceMul, Nat.reduceLeDiff, Nat.reduceEqDiff, Nat.reduceBEq, hlt', hlt, Int.toNat_natCast, cl']
          refine ⟨by simp, ?_⟩
          refine EvK.go 1000 ?_
          simp only [go_sem, Nat.reduceAdd, Nat.reduceSub, Nat.reduceMul, Nat.reduceLeDiff, Nat.reduceEqDiff, Nat.reduceBEq, quoteR]
          rfl
        · have cl' : ¬ (s[k].toNat : Int) < 32 := by omega
          have ch' : 126 < (s[k].toNat : Int) := by omega
          simp only [go_sem, Nat.reduceAdd, Nat.reduceSub, Nat.reduceMul, Nat.reduceLeDiff, Nat.reduceEqDiff, Nat.reduceBEq, hlt', hlt, Int.toNat_natCast, cl', ch']
          refine ⟨by first | omega | simp, by first | omega | simp, ?_⟩
          refine EvK.go 1000 ?_
          simp only [go_sem, Nat.reduceAdd, Nat.reduceSub, Nat.reduceMul, Nat.reduceLeDiff, Nat.reduceEqDiff, Nat.reduceBEq, quoteR]
          rfl
      · have cb0 : badQ s[k] = false := by simpa using cb
        simp only [badQ, Bool.or_eq_true, decide_eq_true_eq] at cb
        have cl' : ¬ (s[k].toNat : Int) < 32 := by omega
        have ch' : ¬ 126 < (s[k].toNat : Int) := by omega
        have hb1 : ((bs s).take (k + 1)).any badQ = false := by rw [hts, List.any_append, hb]; simp [cb0]
        have hes := esc_snoc ((bs s).take k) s[k]
        rw [← hts] at hes
        by_cases c39 : s[k].toNat = 39
        · have d39 : (s[k].toNat : Int) = 39 := by omega
          rw [if_pos (.inl (e39.2 c39))] at hes
          simp only [go_sem, Nat.reduceAdd, Nat.reduceSub, Nat.reduceMul, Nat.reduceLeDiff, Nat.reduceEqDiff, Nat.reduceBEq, hlt', hlt, Int.toNat_natCast, cl', ch', Int.reduceEq, Int.reduceLT, d39, i64_id (n := (k : Int) + 1) (by omega), show ((k : Int) + 1).toNat = k + 1 by omega, ext_one hlt, ofB_append, show (⟨#[92]⟩ : ByteArray) = ofB [92] from rfl, ofB_size, List.length_append, List.length_cons, List.length_nil]
          refine ⟨by omega, by omega, by omega, ?_⟩
          (repeat ((with_reducible refine And.intro ?_ ?_); · omega))
          refine ⟨⟨k + 1, hlt, hb1⟩, ⟨?_, rfl⟩, by simp only; omega⟩
          rw [hes]
          simp
        have d39 : ¬ (s[k].toNat : Int) = 39 := by omega
        by_cases c92 : s[k].toNat = 92
        · have d92 : (s[k].toNat : Int) = 92 := by omega
          rw [if_pos (.inr (e92.2 c92))] at hes
          simp only [go_sem, Nat.reduceAdd, Nat.reduceSub, Nat.reduceMul, Nat.reduceLeDiff, Nat.reduceEqDiff, Nat.reduceBEq, hlt', hlt, Int.toNat_natCast, cl', ch', Int.reduceEq, Int.reduceLT, d39, d92, i64_id (n := (k : Int) + 1) (by omega), show ((k : Int) + 1).toNat = k + 1 by omega, ext_one hlt, ofB_append, show (⟨#[92]⟩ : ByteArray) = ofB [92] from rfl, ofB_size, List.length_append, List.length_cons, List.length_nil]
          refine ⟨by omega, by omega, by omega, by omega, ?_⟩
          (repeat ((with_reducible refine And.intro ?_ ?_); · omega))
          refine ⟨⟨k + 1, hlt, hb1⟩, ⟨?_, rfl⟩, by simp only; omega⟩
          rw [hes]
          simp
        have d92 : ¬ (s[k].toNat : Int) = 92 := by omega
        rw [if_neg (fun h => h.elim (fun h => c39 (e39.1 h)) (fun h => c92 (e92.1 h)))] at hes
        simp only [go_sem, Nat.reduceAdd, Nat.reduceSub, Nat.reduceMul, Nat.reduceLeDiff, Nat.reduceEqDiff, Nat.reduceBEq, hlt', hlt, Int.toNat_natCast, cl', ch', Int.reduceEq, Int.reduceLT, d39, d92, i64_id (n := (k : Int) + 1) (by omega), show ((k : Int) + 1).toNat = k + 1 by omega, ext_one hlt, ofB_append, show (⟨#[92]⟩ : ByteArray) = ofB [92] from rfl, ofB_size, List.length_append, List.length_cons, List.length_nil]
        refine ⟨by omega, by omega, by omega, by omega, ?_⟩
        (repeat ((with_reducible refine And.intro ?_ ?_); · omega))
        refine ⟨⟨k + 1, hlt, hb1⟩, ⟨?_, rfl⟩, by simp only; omega⟩
        rw [hes]
    · have hlt' : ¬ (k : Int) < s.size := by omega
      rw [List.take_of_length_le (by rw [bs_len]; omega)] at hb
      rw [if_neg (by rw [hb]; decide)]
      have hts : (bs s).take k = bs s := List.take_of_length_le (by rw [bs_len]; omega)
      obtain ⟨c, r, hb1⟩ : ∃ c r, bs s = c :: r := by
        cases h : bs s with
        | nil => exact absurd h c1
        | cons c r => exact ⟨c, r, rfl⟩
      obtain ⟨h0', hc⟩ := head_at hb1
      have hsm := SmallU_eq (c.toNat : Int)
      have hdi := DigitU_eq (c.toNat : Int)
      rw [smallI_B] at hsm
      rw [digitI_B] at hdi
      have hWo := WordR_eq s hs 0 (by omega)
      have hDi := DigitsR_eq s hs 0 (by omega)
      rw [List.drop_zero, Nat.zero_add, Int.natCast_zero] at hWo hDi
      have hrD := run_all digitB (bs s)
      have hrL := run_all onB (bs s)
      rw [bs_len] at hrD hrL
      have hel := escB_len (bs s)
      rw [bs_len] at hel
      have hpq : plainQ (bs s) = ((smallB c && (bs s).all onB) || (digitB c && (bs s).all digitB)) := by rw [hb1]; rfl
      simp only [go_sem, Nat.reduceAdd, Nat.reduceSub, Nat.reduceMul, Nat.reduceLeDiff, Nat.reduceEqDiff, Nat.reduceBEq, hlt']
      refine EvK.go 1000 ?_
      simp only [go_sem, Nat.reduceAdd, Nat.reduceSub, Nat.reduceMul, Nat.reduceLeDiff, Nat.reduceEqDiff, Nat.reduceBEq, h0', hc, show Int.toNat 0 = 0 from rfl, Int.reduceLE]
      refine ⟨trivial, ?_⟩
      refine VCall.isoT [] (hsm) (pTL_refl _ _ _) (by simp [go_sem, ]) ?_; simp only [flatR, flatA, flatC, if_true]; refine EvK.go 1000 ?_
      cases csm : smallB c with
      | true =>
        have cdi := small_digit csm
        rw [csm, cdi, Bool.true_and, Bool.false_and, Bool.or_false] at hpq
        simp only [go_sem, Nat.reduceAdd, Nat.reduceSub, Nat.reduceMul, Nat.reduceLeDiff, Nat.reduceEqDiff, Nat.reduceBEq]
        refine VCall.isoT [] (hWo) (pTL_refl _ _ _) (by simp [go_sem, ]) ?_; simp only [flatR, flatA, flatC, if_true]; refine EvK.go 1000 ?_
        by_cases c4 : runB onB (bs s) = s.size
        · rw [if_pos (by rw [hpq]; exact hrL.1 c4)]
          have c4' : (runB onB (bs s) : Int) = s.size := by omega
          simp only [go_sem, Nat.reduceAdd, Nat.reduceSub, Nat.reduceMul, Nat.reduceLeDiff, Nat.reduceEqDiff, Nat.reduceBEq, c4', quoteR, ofB_bs]
          done
        · rw [if_neg (by rw [hpq]; exact fun h => c4 (hrL.2 h))]
          have c4' : ¬ (runB onB (bs s) : Int) = s.size := by omega
          simp only [go_sem, Nat.reduceAdd, Nat.reduceSub, Nat.reduceMul, Nat.reduceLeDiff, Nat.reduceEqDiff, Nat.reduceBEq, c4', h0', hc, show Int.toNat 0 = 0 from rfl, Int.reduceLE]
          refine ⟨trivial, ?_⟩
          refine VCall.isoT [] (hdi) (pTL_refl _ _ _) (by simp [go_sem, ]) ?_; simp only [flatR, flatA, flatC, if_true]; refine EvK.go 1000 ?_
          rw [cdi]
          simp only [go_sem, Nat.reduceAdd, Nat.reduceSub, Nat.reduceMul, Nat.reduceLeDiff, Nat.reduceEqDiff, Nat.reduceBEq, hts, ByteArray.size_append, ofB_size, show (⟨#[39]⟩ : ByteArray) = ofB [39] from rfl, ofB_append, quoteR, List.length_cons, List.length_nil, List.length_append]
          omega
      | false =>
        rw [csm, Bool.false_and, Bool.false_or] at hpq
        simp only [go_sem, Nat.reduceAdd, Nat.reduceSub, Nat.reduceMul, Nat.reduceLeDiff, Nat.reduceEqDiff, Nat.reduceBEq, h0', hc, show Int.toNat 0 = 0 from rfl, Int.reduceLE]
        refine ⟨trivial, ?_⟩
        refine VCall.isoT [] (hdi) (pTL_refl _ _ _) (by simp [go_sem, ]) ?_; simp only [flatR, flatA, flatC, if_true]; refine EvK.go 1000 ?_
        cases cdi : digitB c with
        | true =>
          rw [cdi, Bool.true_and] at hpq
          simp only [go_sem, Nat.reduceAdd, Nat.reduceSub, Nat.reduceMul, Nat.reduceLeDiff, Nat.reduceEqDiff, Nat.reduceBEq]
          refine VCall.isoT [] (hDi) (pTL_refl _ _ _) (by simp [go_sem, ]) ?_; simp only [flatR, flatA, flatC, if_true]; refine EvK.go 1000 ?_
          by_cases c4 : runB digitB (bs s) = s.size
          · rw [if_pos (by rw [hpq]; exact hrD.1 c4)]
            have c4' : (runB digitB (bs s) : Int) = s.size := by omega
            simp only [go_sem, Nat.reduceAdd, Nat.reduceSub, Nat.reduceMul, Nat.reduceLeDiff, Nat.reduceEqDiff, Nat.reduceBEq, c4', quoteR, ofB_bs]
            done
          · rw [if_neg (by rw [hpq]; exact fun h => c4 (hrD.2 h))]
            have c4' : ¬ (runB digitB (bs s) : Int) = s.size := by omega
            simp only [go_sem, Nat.reduceAdd, Nat.reduceSub, Nat.reduceMul, Nat.reduceLeDiff, Nat.reduceEqDiff, Nat.reduceBEq, hts, c4', ByteArray.size_append, ofB_size, show (⟨#[39]⟩ : ByteArray) = ofB [39] from rfl, ofB_append, quoteR, List.length_cons, List.length_nil, List.length_append]
            omega
        | false =>
          rw [if_neg (by rw [hpq, cdi, Bool.false_and]; decide)]
          simp only [go_sem, Nat.reduceAdd, Nat.reduceSub, Nat.reduceMul, Nat.reduceLeDiff, Nat.reduceEqDiff, Nat.reduceBEq, hts, ByteArray.size_append, ofB_size, show (⟨#[39]⟩ : ByteArray) = ofB [39] from rfl, ofB_append, quoteR, List.length_cons, List.length_nil, List.length_append]
          omega
end Go.Proofs

/- Rows of tokens compared, the document's example. -/
set_option linter.unusedSimpArgs false
namespace Go.Proofs
open Go Go.Abs

deriving instance DecidableEq for Tok
theorem tok_ext {a b : Tok} (h1 : a.kind = b.kind) (h2 : a.at' = b.at') (h3 : a.text = b.text) : a = b := by
  cases a; cases b; simp only at h1 h2 h3; subst h1 h2 h3; rfl
theorem toks_get {l : List Tok} {i : Nat} (h : i < l.length) : (toks l).getD i .undef = l[i].toA := by
  simp only [toks, List.getD_eq_getElem?_getD, List.getElem?_map, List.getElem?_eq_getElem h, Option.map_some, Option.getD_some]

theorem eq_tok (a b : Tok) : eqCells [.int .i64 a.kind, .int .i64 a.at', .str (ofB a.text)] [.int .i64 b.kind, .int .i64 b.at', .str (ofB b.text)] = decide (a = b) := by
  have h3 := str_eq (ofB a.text) (ofB b.text)
  rw [bs_ofB, bs_ofB] at h3
  by_cases h : a = b
  · subst h
    simp [eqCells, eqCell, h3]
  · rw [decide_eq_false h]
    simp only [eqCells, eqCell, h3]
    by_cases k1 : a.kind = b.kind
    · by_cases k2 : a.at' = b.at'
      · have k3 : ¬ a.text = b.text := fun k3 => h (tok_ext k1 k2 k3)
        simp [k3]
      · simp [k2]
    · simp [k1]
set_option maxHeartbeats 1600000 in
theorem Same_eq (a b : List Tok) (ha : a.length < 2 ^ 62) (hb : b.length < 2 ^ 62) : CallEq Tryd.prog 13 [.ps 3 (toks a), .ps 3 (toks b)] (.bool (decide (a = b))) := by
  refine CallEq.begin (rs := [.tmp 4]) (m := 24) 1000 Tryd.func13 rfl rfl rfl (by decide) trivial ?_
  by_cases hl : a.length = b.length
  · have hl' : (a.length : Int) = b.length := by omega
    simp only [go_sem, Nat.reduceAdd, Nat.reduceSub, Nat.reduceMul, Nat.reduceLeDiff, Nat.reduceEqDiff, Nat.reduceBEq, toks_len, hl']
    refine EvK.loopI (ι := {k : Nat // k ≤ b.length ∧ a.take k = b.take k}) 1000 (fun k => mkT 26 [(0, .ps 3 (toks a)), (1, .ps 3 (toks b)), (4, .bool false), (5, .int .i64 k.1)]) (fun _ => []) (fun k => b.length - k.1) ⟨0, by simp, rfl⟩ ?_ (fun _ => Nat.zero_le _) ?_
    · simp only [go_sem, Nat.reduceAdd, Nat.reduceSub, Nat.reduceMul, Nat.reduceLeDiff, Nat.reduceEqDiff, Nat.reduceBEq, Int.natCast_zero]
      exact ⟨toks_low _, toks_low _⟩
    · rintro ⟨k, hk, hq⟩
      by_cases hlt : k < b.length
      · have hlt' : (k : Int) < b.length := by omega
        have hla : k < a.length := by omega
        have ga := toks_get hla
        have gb := toks_get hlt
        rw [tok_eq] at ga gb
        simp only [go_sem, Nat.reduceAdd, Nat.reduceSub, Nat.reduceMul, Nat.reduceLeDiff, Nat.reduceEqDiff, Nat.reduceBEq, hlt', toks_len, hl']
        refine EvK.draw [] 0 0 mixed rfl rfl (Nat.le_refl _) ?_
        simp only [go_sem, Nat.reduceAdd, Nat.reduceSub, Nat.reduceMul, Nat.reduceLeDiff, Nat.reduceEqDiff, Nat.reduceBEq, padS, toks_len, hl', ga, gb, Int.toNat_natCast]
        rw [eq_tok]
        refine ⟨by omega, by omega, ?_⟩
        refine EvK.go 1000 ?_
        by_cases he : a[k] = b[k]
        · simp only [go_sem, Nat.reduceAdd, Nat.reduceSub, Nat.reduceMul, Nat.reduceLeDiff, Nat.reduceEqDiff, Nat.reduceBEq, decide_eq_true he, Bool.not_true]
          refine ⟨⟨k + 1, hlt, ?_⟩, ?_, by simp only; omega⟩
          · rw [List.take_succ_eq_append_getElem hla, List.take_succ_eq_append_getElem hlt, hq, he]
          · rw [i64_id (by omega)]
            simp [toks_low]
        · rw [decide_eq_false (fun h : a = b => he (by subst h; rfl))]
          simp only [go_sem, Nat.reduceAdd, Nat.reduceSub, Nat.reduceMul, Nat.reduceLeDiff, Nat.reduceEqDiff, Nat.reduceBEq, decide_eq_false he, Bool.not_false]
          refine EvK.go 1000 ?_
          simp only [go_sem, Nat.reduceAdd, Nat.reduceSub, Nat.reduceMul, Nat.reduceLeDiff, Nat.reduceEqDiff, Nat.reduceBEq]
          done
      · have hlt' : ¬ (k : Int) < b.length := by omega
        rw [List.take_of_length_le (by omega), List.take_of_length_le (by omega)] at hq
        simp only [go_sem, Nat.reduceAdd, Nat.reduceSub, Nat.reduceMul, Nat.reduceLeDiff, Nat.reduceEqDiff, Nat.reduceBEq, hlt', toks_len, hl']
        refine EvK.go 1000 ?_
        simp only [go_sem, Nat.reduceAdd, Nat.reduceSub, Nat.reduceMul, Nat.reduceLeDiff, Nat.reduceEqDiff, Nat.reduceBEq, decide_eq_true hq]
  · have hl' : ¬ (a.length : Int) = b.length := by omega
    rw [decide_eq_false (fun h => hl (by rw [h]))]
    simp only [go_sem, Nat.reduceAdd, Nat.reduceSub, Nat.reduceMul, Nat.reduceLeDiff, Nat.reduceEqDiff, Nat.reduceBEq, toks_len, hl']
end Go.Proofs

/- The document's example. -/
set_option linter.unusedSimpArgs false
namespace Go.Proofs
open Go Go.Abs

def exB : By := [112, 40, 88, 44, 32, 39, 105, 116, 92, 39, 115, 39, 41, 32, 37, 32, 115, 111]
def exT : List Tok := [⟨0, 0, [112]⟩, ⟨3, 1, [40]⟩, ⟨1, 2, [88]⟩, ⟨3, 3, [44]⟩, ⟨0, 5, [105, 116, 39, 115]⟩, ⟨3, 12, [41]⟩]
theorem ex_all : allB exB = (exT, 18, 0) := by decide +kernel
theorem ex_quote : quoteS [105, 116, 39, 115] = ([39, 105, 116, 92, 39, 115, 39], 0) := by decide +kernel
set_option maxHeartbeats 1600000 in
theorem Awake_eq : CallEq Tryd.prog 12 [] (.bool true) := by
  refine CallEq.begin (rs := [.tmp 0]) (m := 55) 1000 Tryd.func12 rfl rfl rfl (by decide) trivial ?_
  have hA := AllP_eq (ofB exB) (by decide)
  have hQ := QuoteP_eq (ofB [105, 116, 39, 115]) (by decide)
  rw [bs_ofB, ex_all] at hA
  rw [bs_ofB, ex_quote] at hQ
  simp only [go_sem, Nat.reduceAdd, Nat.reduceSub, Nat.reduceMul, Nat.reduceLeDiff, Nat.reduceEqDiff, Nat.reduceBEq]
  refine VCall.isoT [] (hA) (pTL_refl _ _ _) (by simp [go_sem, ]) ?_; rw [frzI_nil]; simp only [ite_self]; refine EvK.go 1000 ?_
  simp only [go_sem, Nat.reduceAdd, Nat.reduceSub, Nat.reduceMul, Nat.reduceLeDiff, Nat.reduceEqDiff, Nat.reduceBEq, allA]
  refine VCall.isoT [] (hQ) (pTL_refl _ _ _) (by simp [go_sem, ]) ?_; rw [frzI_nil]; simp only [ite_self]; refine EvK.go 1000 ?_
  have g0 : (toks exT).getD 0 .undef = .agg [.int .i64 0, .int .i64 0, .str ⟨#[112]⟩] := rfl
  have g2 : (toks exT).getD 2 .undef = .agg [.int .i64 1, .int .i64 2, .str ⟨#[88]⟩] := rfl
  have g4 : (toks exT).getD 4 .undef = .agg [.int .i64 0, .int .i64 5, .str ⟨#[105, 116, 39, 115]⟩] := rfl
  have gl : (((toks exT).length : Nat) : Int) = 6 := rfl
  have q0 : eqCells [.int .i64 0, .int .i64 0, .str ⟨#[112]⟩] [.int .i64 0, .int .i64 0, .str ⟨#[112]⟩] = true := (eq_tok ⟨0, 0, [112]⟩ ⟨0, 0, [112]⟩).trans (decide_eq_true rfl)
  have q2 : eqCells [.int .i64 1, .int .i64 2, .str ⟨#[88]⟩] [.int .i64 1, .int .i64 2, .str ⟨#[88]⟩] = true := (eq_tok ⟨1, 2, [88]⟩ ⟨1, 2, [88]⟩).trans (decide_eq_true rfl)
  have q4 : eqCells [.int .i64 0, .int .i64 5, .str ⟨#[105, 116, 39, 115]⟩] [.int .i64 0, .int .i64 5, .str ⟨#[105, 116, 39, 115]⟩] = true := (eq_tok ⟨0, 5, [105, 116, 39, 115]⟩ ⟨0, 5, [105, 116, 39, 115]⟩).trans (decide_eq_true rfl)
  have qq : ((ofB [39, 105, 116, 92, 39, 115, 39]).toList == (⟨#[39, 105, 116, 92, 39, 115, 39]⟩ : ByteArray).toList) = true := (str_eq _ _).trans (decide_eq_true rfl)
  simp only [go_sem, Nat.reduceAdd, Nat.reduceSub, Nat.reduceMul, Nat.reduceLeDiff, Nat.reduceEqDiff, Nat.reduceBEq, qq, quoteR, gl, g0, g2, g4, q0, q2, q4, Int.reduceLT, Int.reduceLE, show Int.toNat 0 = 0 from rfl, show Int.toNat 2 = 2 from rfl, show Int.toNat 4 = 4 from rfl]
  done

theorem LexQuotes_calls (s : ByteArray) {W : World} {vs : Array Value} (hg : Glob W.heap.size W) (h2 : vs.size = ([.str s] : List AVal).length)
    (h3 : ∀ k, k < ([.str s] : List AVal).length → Rep W noM noB (vs.getD k undef) (([.str s] : List AVal).getD k .undef)) :
    Calls Tryd.prog 4 vs W fun e w' => e = .returned (.bool true) ∧ RowKit.Below W.heap.size W w' := by
  refine calls_true (args := [.str s]) (rs := [.tmp 2]) (m := 30) 1000 Tryd.func4 rfl rfl rfl rfl ?_ hg h2 h3
  clear hg h2 h3
  by_cases h : 500 < (s.size : Int)
  · simp only [go_sem, Nat.reduceAdd, Nat.reduceSub, Nat.reduceMul, Nat.reduceLeDiff, Nat.reduceEqDiff, Nat.reduceBEq, h]
  simp only [go_sem, Nat.reduceAdd, Nat.reduceSub, Nat.reduceMul, Nat.reduceLeDiff, Nat.reduceEqDiff, Nat.reduceBEq, h]
  refine VCall.isoT [] (QuoteP_eq s (by omega)) (pTL_refl _ _ _) (by simp [go_sem, ]) ?_; rw [frzI_nil]; simp only [ite_self]; refine EvK.go 1000 ?_
  generalize hq : quoteS (bs s) = q
  simp only [go_sem, Nat.reduceAdd, Nat.reduceSub, Nat.reduceMul, Nat.reduceLeDiff, Nat.reduceEqDiff, Nat.reduceBEq, quoteR]
  have hR := QuoteR_eq s (by omega)
  rw [hq] at hR
  refine VCall.isoT [] (hR) (pTL_refl _ _ _) (by simp [go_sem, ]) ?_; rw [frzI_nil]; simp only [ite_self]; refine EvK.go 1000 ?_
  have qq : ((ofB q.1).toList == (ofB q.1).toList) = true := (str_eq _ _).trans (decide_eq_true rfl)
  simp only [go_sem, Nat.reduceAdd, Nat.reduceSub, Nat.reduceMul, Nat.reduceLeDiff, Nat.reduceEqDiff, Nat.reduceBEq, quoteR]
  refine VCall.isoT [] (Awake_eq) (pTL_refl _ _ _) (by simp [go_sem, ]) ?_; simp only [flatR, flatA, flatC, if_true]; refine EvK.go 1000 ?_
  simp only [go_sem, Nat.reduceAdd, Nat.reduceSub, Nat.reduceMul, Nat.reduceLeDiff, Nat.reduceEqDiff, Nat.reduceBEq, qq]
  done
theorem allF_len (s : By) : ∀ (k : Nat) (i : Int) (out : List Tok), 0 ≤ i → i ≤ s.length → (out.length : Int) ≤ i → (allF s k i out).1.length ≤ s.length
  | 0, i, out, _, _, _ => Nat.zero_le _
  | k + 1, i, out, h0, h1, h2 => by
    simp only [allF]
    by_cases he : (nextB s i).2.2 = 0
    · rw [if_neg (by rw [he]; decide)]
      by_cases hk : (nextB s i).1.kind = 4
      · rw [if_pos hk]
        show out.length ≤ s.length
        omega
      · rw [if_neg hk]
        have hf := next_facts h0 h1 he hk
        exact allF_len s k _ _ (by omega) hf.2 (by simp only [List.length_append, List.length_cons, List.length_nil]; omega)
    · rw [if_pos he]
      exact Nat.zero_le _
theorem allB_len (s : By) : (allB s).1.length ≤ s.length := by
  unfold allB
  split
  · exact Nat.zero_le _
  · exact allF_len s _ 0 [] (Int.le_refl _) (by omega) (by simp)
set_option maxHeartbeats 1600000 in
theorem LexDoes_calls (s : ByteArray) (i : Int) {W : World} {vs : Array Value} (hg : Glob W.heap.size W) (h2 : vs.size = ([.str s, .int .i64 i] : List AVal).length)
    (h3 : ∀ k, k < ([.str s, .int .i64 i] : List AVal).length → Rep W noM noB (vs.getD k undef) (([.str s, .int .i64 i] : List AVal).getD k .undef)) :
    Calls Tryd.prog 3 vs W fun e w' => e = .returned (.bool true) ∧ RowKit.Below W.heap.size W w' := by
  refine calls_true (args := [.str s, .int .i64 i]) (rs := [.tmp 4]) (m := 85) 1000 Tryd.func3 rfl rfl rfl rfl ?_ hg h2 h3
  clear hg h2 h3
  by_cases h : 70000 < (s.size : Int)
  · have h1 : 2000 < (s.size : Int) := by omega
    have h2 : ¬ (s.size : Int) ≤ 65536 := by omega
    simp only [go_sem, Nat.reduceAdd, Nat.reduceSub, Nat.reduceMul, Nat.reduceLeDiff, Nat.reduceEqDiff, Nat.reduceBEq, h, h1, h2]
  have hP := AllP_eq s (by omega)
  have hR := AllR_eq s (by omega)
  have nP := NextP_eq s (by omega) i
  have nR := NextR_eq s (by omega) i
  have hl := allB_len (bs s)
  rw [bs_len] at hl
  have hS := Same_eq (allB (bs s)).1 (allB (bs s)).1 (by omega) (by omega)
  rw [decide_eq_true rfl] at hS
  generalize allB (bs s) = x at *
  generalize nextB (bs s) i = y at *
  obtain ⟨t, nx, e⟩ := y
  have qt := (eq_tok t t).trans (decide_eq_true rfl)
  by_cases h1 : 2000 < (s.size : Int)
  · by_cases h2 : (s.size : Int) ≤ 65536
    · simp only [go_sem, Nat.reduceAdd, Nat.reduceSub, Nat.reduceMul, Nat.reduceLeDiff, Nat.reduceEqDiff, Nat.reduceBEq, h, h1, h2]
    · simp only [go_sem, Nat.reduceAdd, Nat.reduceSub, Nat.reduceMul, Nat.reduceLeDiff, Nat.reduceEqDiff, Nat.reduceBEq, h, h1, h2]
      refine VCall.isoT [] (hP) (pTL_refl _ _ _) (by simp [go_sem, ]) ?_; rw [frzI_nil]; simp only [ite_self]; refine EvK.go 1000 ?_
      simp only [go_sem, Nat.reduceAdd, Nat.reduceSub, Nat.reduceMul, Nat.reduceLeDiff, Nat.reduceEqDiff, Nat.reduceBEq, allA]
      refine VCall.isoT [] (hR) (pTL_refl _ _ _) (by simp [go_sem, ]) ?_; rw [frzI_nil]; simp only [ite_self]; refine EvK.go 1000 ?_
      simp only [go_sem, Nat.reduceAdd, Nat.reduceSub, Nat.reduceMul, Nat.reduceLeDiff, Nat.reduceEqDiff, Nat.reduceBEq, allA]
      refine VCall.isoT [] (nP) (pTL_refl _ _ _) (by simp [go_sem, ]) ?_; rw [frzI_nil]; simp only [ite_self]; refine EvK.go 1000 ?_
      simp only [go_sem, Nat.reduceAdd, Nat.reduceSub, Nat.reduceMul, Nat.reduceLeDiff, Nat.reduceEqDiff, Nat.reduceBEq, nextA, tok_eq]
      refine VCall.isoT [] (nR) (pTL_refl _ _ _) (by simp [go_sem, ]) ?_; rw [frzI_nil]; simp only [ite_self]; refine EvK.go 1000 ?_
      simp only [go_sem, Nat.reduceAdd, Nat.reduceSub, Nat.reduceMul, Nat.reduceLeDiff, Nat.reduceEqDiff, Nat.reduceBEq, nextA, tok_eq]
      refine VCall.isoT [] (Awake_eq) (pTL_refl _ _ _) (by simp [go_sem, ]) ?_; simp only [flatR, flatA, flatC, if_true]; refine EvK.go 1000 ?_
      simp only [go_sem, Nat.reduceAdd, Nat.reduceSub, Nat.reduceMul, Nat.reduceLeDiff, Nat.reduceEqDiff, Nat.reduceBEq]
      refine VCall.isoT [] (hS) (pTL_refl _ _ _) (by simp [go_sem, toks_low]) ?_; simp only [flatR, flatA, flatC, if_true]; refine EvK.go 1000 ?_
      simp only [go_sem, Nat.reduceAdd, Nat.reduceSub, Nat.reduceMul, Nat.reduceLeDiff, Nat.reduceEqDiff, Nat.reduceBEq, qt]
      done
  · simp only [go_sem, Nat.reduceAdd, Nat.reduceSub, Nat.reduceMul, Nat.reduceLeDiff, Nat.reduceEqDiff, Nat.reduceBEq, h, h1]
    refine VCall.isoT [] (hP) (pTL_refl _ _ _) (by simp [go_sem, ]) ?_; rw [frzI_nil]; simp only [ite_self]; refine EvK.go 1000 ?_
    simp only [go_sem, Nat.reduceAdd, Nat.reduceSub, Nat.reduceMul, Nat.reduceLeDiff, Nat.reduceEqDiff, Nat.reduceBEq, allA]
    refine VCall.isoT [] (hR) (pTL_refl _ _ _) (by simp [go_sem, ]) ?_; rw [frzI_nil]; simp only [ite_self]; refine EvK.go 1000 ?_
    simp only [go_sem, Nat.reduceAdd, Nat.reduceSub, Nat.reduceMul, Nat.reduceLeDiff, Nat.reduceEqDiff, Nat.reduceBEq, allA]
    refine VCall.isoT [] (nP) (pTL_refl _ _ _) (by simp [go_sem, ]) ?_; rw [frzI_nil]; simp only [ite_self]; refine EvK.go 1000 ?_
    simp only [go_sem, Nat.reduceAdd, Nat.reduceSub, Nat.reduceMul, Nat.reduceLeDiff, Nat.reduceEqDiff, Nat.reduceBEq, nextA, tok_eq]
    refine VCall.isoT [] (nR) (pTL_refl _ _ _) (by simp [go_sem, ]) ?_; rw [frzI_nil]; simp only [ite_self]; refine EvK.go 1000 ?_
    simp only [go_sem, Nat.reduceAdd, Nat.reduceSub, Nat.reduceMul, Nat.reduceLeDiff, Nat.reduceEqDiff, Nat.reduceBEq, nextA, tok_eq]
    refine VCall.isoT [] (Awake_eq) (pTL_refl _ _ _) (by simp [go_sem, ]) ?_; simp only [flatR, flatA, flatC, if_true]; refine EvK.go 1000 ?_
    simp only [go_sem, Nat.reduceAdd, Nat.reduceSub, Nat.reduceMul, Nat.reduceLeDiff, Nat.reduceEqDiff, Nat.reduceBEq]
    refine VCall.isoT [] (hS) (pTL_refl _ _ _) (by simp [go_sem, toks_low]) ?_; simp only [flatR, flatA, flatC, if_true]; refine EvK.go 1000 ?_
    simp only [go_sem, Nat.reduceAdd, Nat.reduceSub, Nat.reduceMul, Nat.reduceLeDiff, Nat.reduceEqDiff, Nat.reduceBEq, qt]
    done
end Go.Proofs
