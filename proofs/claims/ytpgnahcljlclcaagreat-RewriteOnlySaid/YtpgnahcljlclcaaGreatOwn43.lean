/- Part 43 of my own framework and of the walks of functions: Tl, Ty, Ma, Pa, Pb, Pc, Mb, Pd, Pe, Mc, Pf, Pg, Md, Ph, Me, Pi, Mf, Pj, Pk, Pl, Mg, Pm, Pn, Po, Mh, Pp, Pq, Pr, Ps, Sa, AcsR, AcsS, AcsT, AcsU. -/
import Derived.Test.YtpgnahcljlclcaaGreatOwn42
import Derived.Test.YtpgnahcljlclcaaGreatProg
import Derived.KernelRfl
set_option linter.unusedVariables false
set_option linter.unusedSectionVars false
set_option linter.unusedSimpArgs false

namespace Go.Proofs
open Go Go.Abs
@[go_sem] theorem lay1 : layOf Tryz.prog 1 = some ⟨1, false, 8, [.nilfn], .func⟩ := by kernel_rfl
@[go_sem] theorem ty1 : tyA Tryz.prog 1 = some ⟨⟨1, false, 8, [.nilfn], .func⟩, [], none, none⟩ := by kernel_rfl
@[go_sem] theorem lay2 : layOf Tryz.prog 2 = some ⟨1, false, 8, [.int .i64 0], (.int .i64)⟩ := by kernel_rfl
@[go_sem] theorem ty2 : tyA Tryz.prog 2 = some ⟨⟨1, false, 8, [.int .i64 0], (.int .i64)⟩, [], none, none⟩ := by kernel_rfl
@[go_sem] theorem lay3 : layOf Tryz.prog 3 = some ⟨1, false, 8, [.int .i64 0], (.int .i64)⟩ := by kernel_rfl
@[go_sem] theorem ty3 : tyA Tryz.prog 3 = some ⟨⟨1, false, 8, [.int .i64 0], (.int .i64)⟩, [], none, none⟩ := by kernel_rfl
@[go_sem] theorem lay4 : layOf Tryz.prog 4 = some ⟨1, false, 1, [.bool false], .bool⟩ := by kernel_rfl
@[go_sem] theorem ty4 : tyA Tryz.prog 4 = some ⟨⟨1, false, 1, [.bool false], .bool⟩, [], none, none⟩ := by kernel_rfl
@[go_sem] theorem lay5 : layOf Tryz.prog 5 = some ⟨1, false, 1, [.int .u8 0], (.int .u8)⟩ := by kernel_rfl
@[go_sem] theorem ty5 : tyA Tryz.prog 5 = some ⟨⟨1, false, 1, [.int .u8 0], (.int .u8)⟩, [], none, none⟩ := by kernel_rfl
@[go_sem] theorem lay6 : layOf Tryz.prog 6 = some ⟨1, false, 1, [.int .u8 0], (.int .u8)⟩ := by kernel_rfl
@[go_sem] theorem ty6 : tyA Tryz.prog 6 = some ⟨⟨1, false, 1, [.int .u8 0], (.int .u8)⟩, [], none, none⟩ := by kernel_rfl
@[go_sem] theorem lay7 : layOf Tryz.prog 7 = some ⟨4, true, 24, [.int .i64 0, .int .i64 0, .bool false, .int .u8 0], .struct⟩ := by kernel_rfl
@[go_sem] theorem ty7 : tyA Tryz.prog 7 = some ⟨⟨4, true, 24, [.int .i64 0, .int .i64 0, .bool false, .int .u8 0], .struct⟩, [(0, some ⟨1, false, 8, [.int .i64 0], (.int .i64)⟩), (1, some ⟨1, false, 8, [.int .i64 0], (.int .i64)⟩), (2, some ⟨1, false, 1, [.bool false], .bool⟩), (3, some ⟨1, false, 1, [.int .u8 0], (.int .u8)⟩)], none, none⟩ := by kernel_rfl
@[go_sem] theorem eqt7 : eqTy Tryz.prog 7 [(.int .i64), (.int .i64), .bool, (.int .u8)] = true := by kernel_rfl
@[go_sem] theorem lay8 : layOf Tryz.prog 8 = some ⟨4, true, 24, [.int .i64 0, .int .i64 0, .bool false, .int .u8 0], .struct⟩ := by kernel_rfl
@[go_sem] theorem ty8 : tyA Tryz.prog 8 = some ⟨⟨4, true, 24, [.int .i64 0, .int .i64 0, .bool false, .int .u8 0], .struct⟩, [(0, some ⟨1, false, 8, [.int .i64 0], (.int .i64)⟩), (1, some ⟨1, false, 8, [.int .i64 0], (.int .i64)⟩), (2, some ⟨1, false, 1, [.bool false], .bool⟩), (3, some ⟨1, false, 1, [.int .u8 0], (.int .u8)⟩)], none, none⟩ := by kernel_rfl
@[go_sem] theorem eqt8 : eqTy Tryz.prog 8 [(.int .i64), (.int .i64), .bool, (.int .u8)] = true := by kernel_rfl
@[go_sem] theorem lay9 : layOf Tryz.prog 9 = some ⟨1, false, 16, [.str ⟨#[]⟩], .str⟩ := by kernel_rfl
@[go_sem] theorem ty9 : tyA Tryz.prog 9 = some ⟨⟨1, false, 16, [.str ⟨#[]⟩], .str⟩, [], none, none⟩ := by kernel_rfl
@[go_sem] theorem lay10 : layOf Tryz.prog 10 = some ⟨1, false, 16, [.str ⟨#[]⟩], .str⟩ := by kernel_rfl
@[go_sem] theorem ty10 : tyA Tryz.prog 10 = some ⟨⟨1, false, 16, [.str ⟨#[]⟩], .str⟩, [], none, none⟩ := by kernel_rfl
@[go_sem] theorem lay11 : layOf Tryz.prog 11 = some ⟨1, false, 16, [.str ⟨#[]⟩], .str⟩ := by kernel_rfl
@[go_sem] theorem ty11 : tyA Tryz.prog 11 = some ⟨⟨1, false, 16, [.str ⟨#[]⟩], .str⟩, [], none, none⟩ := by kernel_rfl
@[go_sem] theorem lay12 : layOf Tryz.prog 12 = some ⟨1, false, 8, [.int .u64 0], (.int .u64)⟩ := by kernel_rfl
@[go_sem] theorem ty12 : tyA Tryz.prog 12 = some ⟨⟨1, false, 8, [.int .u64 0], (.int .u64)⟩, [], none, none⟩ := by kernel_rfl
@[go_sem] theorem lay13 : layOf Tryz.prog 13 = some ⟨2, true, 24, [.str ⟨#[]⟩, .int .u64 0], .struct⟩ := by kernel_rfl
@[go_sem] theorem ty13 : tyA Tryz.prog 13 = some ⟨⟨2, true, 24, [.str ⟨#[]⟩, .int .u64 0], .struct⟩, [(0, some ⟨1, false, 16, [.str ⟨#[]⟩], .str⟩), (1, some ⟨1, false, 8, [.int .u64 0], (.int .u64)⟩)], none, none⟩ := by kernel_rfl
@[go_sem] theorem lay14 : layOf Tryz.prog 14 = some ⟨2, true, 24, [.str ⟨#[]⟩, .int .u64 0], .struct⟩ := by kernel_rfl
@[go_sem] theorem ty14 : tyA Tryz.prog 14 = some ⟨⟨2, true, 24, [.str ⟨#[]⟩, .int .u64 0], .struct⟩, [(0, some ⟨1, false, 16, [.str ⟨#[]⟩], .str⟩), (1, some ⟨1, false, 8, [.int .u64 0], (.int .u64)⟩)], none, none⟩ := by kernel_rfl
@[go_sem] theorem lay15 : layOf Tryz.prog 15 = some ⟨1, false, 8, [.nilptr], .ptr⟩ := by kernel_rfl
@[go_sem] theorem ty15 : tyA Tryz.prog 15 = some ⟨⟨1, false, 8, [.nilptr], .ptr⟩, [], none, none⟩ := by kernel_rfl
@[go_sem] theorem lay16 : layOf Tryz.prog 16 = some ⟨1, false, 8, [.nilptr], .ptr⟩ := by kernel_rfl
@[go_sem] theorem ty16 : tyA Tryz.prog 16 = some ⟨⟨1, false, 8, [.nilptr], .ptr⟩, [], none, none⟩ := by kernel_rfl
@[go_sem] theorem lay17 : layOf Tryz.prog 17 = some ⟨1, false, 8, [.nilptr], .ptr⟩ := by kernel_rfl
@[go_sem] theorem ty17 : tyA Tryz.prog 17 = some ⟨⟨1, false, 8, [.nilptr], .ptr⟩, [], none, none⟩ := by kernel_rfl
@[go_sem] theorem lay18 : layOf Tryz.prog 18 = some ⟨1, true, 8, [.nilptr], .struct⟩ := by kernel_rfl
@[go_sem] theorem ty18 : tyA Tryz.prog 18 = some ⟨⟨1, true, 8, [.nilptr], .struct⟩, [(0, some ⟨1, false, 8, [.nilptr], .ptr⟩)], none, none⟩ := by kernel_rfl
@[go_sem] theorem lay19 : layOf Tryz.prog 19 = some ⟨1, true, 8, [.nilptr], .struct⟩ := by kernel_rfl
@[go_sem] theorem ty19 : tyA Tryz.prog 19 = some ⟨⟨1, true, 8, [.nilptr], .struct⟩, [(0, some ⟨1, false, 8, [.nilptr], .ptr⟩)], none, none⟩ := by kernel_rfl
@[go_sem] theorem lay20 : layOf Tryz.prog 20 = some ⟨1, false, 16, [.nilif], .iface⟩ := by kernel_rfl
@[go_sem] theorem ty20 : tyA Tryz.prog 20 = some ⟨⟨1, false, 16, [.nilif], .iface⟩, [], none, none⟩ := by kernel_rfl
@[go_sem] theorem lay21 : layOf Tryz.prog 21 = some ⟨1, false, 4, [.int .i32 0], (.int .i32)⟩ := by kernel_rfl
@[go_sem] theorem ty21 : tyA Tryz.prog 21 = some ⟨⟨1, false, 4, [.int .i32 0], (.int .i32)⟩, [], none, none⟩ := by kernel_rfl
@[go_sem] theorem lay22 : layOf Tryz.prog 22 = some ⟨1, false, 24, [.nils], .slice⟩ := by kernel_rfl
@[go_sem] theorem ty22 : tyA Tryz.prog 22 = some ⟨⟨1, false, 24, [.nils], .slice⟩, [], some ⟨4, true, 40, [.str ⟨#[]⟩, .int .i64 0, .int .i64 0, .bool false], .struct⟩, none⟩ := by kernel_rfl
@[go_sem] theorem lay23 : layOf Tryz.prog 23 = some ⟨1, false, 24, [.nils], .slice⟩ := by kernel_rfl
@[go_sem] theorem ty23 : tyA Tryz.prog 23 = some ⟨⟨1, false, 24, [.nils], .slice⟩, [], some ⟨1, false, 24, [.nils], .slice⟩, none⟩ := by kernel_rfl
@[go_sem] theorem lay24 : layOf Tryz.prog 24 = some ⟨1, false, 24, [.nils], .slice⟩ := by kernel_rfl
@[go_sem] theorem ty24 : tyA Tryz.prog 24 = some ⟨⟨1, false, 24, [.nils], .slice⟩, [], some ⟨5, true, 72, [.bool false, .int .i64 0, .nils, .int .i64 0, .nils], .struct⟩, none⟩ := by kernel_rfl
@[go_sem] theorem lay25 : layOf Tryz.prog 25 = some ⟨1, false, 8, [.nilfn], .func⟩ := by kernel_rfl
@[go_sem] theorem ty25 : tyA Tryz.prog 25 = some ⟨⟨1, false, 8, [.nilfn], .func⟩, [], none, none⟩ := by kernel_rfl
@[go_sem] theorem lay26 : layOf Tryz.prog 26 = some ⟨1, false, 8, [.int .i64 0], (.int .i64)⟩ := by kernel_rfl
@[go_sem] theorem ty26 : tyA Tryz.prog 26 = some ⟨⟨1, false, 8, [.int .i64 0], (.int .i64)⟩, [], none, none⟩ := by kernel_rfl
@[go_sem] theorem lay28 : layOf Tryz.prog 28 = some ⟨1, false, 8, [.nilfn], .func⟩ := by kernel_rfl
@[go_sem] theorem ty28 : tyA Tryz.prog 28 = some ⟨⟨1, false, 8, [.nilfn], .func⟩, [], none, none⟩ := by kernel_rfl
@[go_sem] theorem lay29 : layOf Tryz.prog 29 = some ⟨1, false, 8, [.nilfn], .func⟩ := by kernel_rfl
@[go_sem] theorem ty29 : tyA Tryz.prog 29 = some ⟨⟨1, false, 8, [.nilfn], .func⟩, [], none, none⟩ := by kernel_rfl
@[go_sem] theorem lay30 : layOf Tryz.prog 30 = some ⟨1, false, 8, [.nilfn], .func⟩ := by kernel_rfl
@[go_sem] theorem ty30 : tyA Tryz.prog 30 = some ⟨⟨1, false, 8, [.nilfn], .func⟩, [], none, none⟩ := by kernel_rfl
@[go_sem] theorem lay31 : layOf Tryz.prog 31 = some ⟨1, false, 24, [.nils], .slice⟩ := by kernel_rfl
@[go_sem] theorem ty31 : tyA Tryz.prog 31 = some ⟨⟨1, false, 24, [.nils], .slice⟩, [], some ⟨1, false, 8, [.int .i64 0], (.int .i64)⟩, none⟩ := by kernel_rfl
@[go_sem] theorem lay33 : layOf Tryz.prog 33 = some ⟨1, false, 8, [.nilfn], .func⟩ := by kernel_rfl
@[go_sem] theorem ty33 : tyA Tryz.prog 33 = some ⟨⟨1, false, 8, [.nilfn], .func⟩, [], none, none⟩ := by kernel_rfl
@[go_sem] theorem lay34 : layOf Tryz.prog 34 = some ⟨1, false, 8, [.nilfn], .func⟩ := by kernel_rfl
@[go_sem] theorem ty34 : tyA Tryz.prog 34 = some ⟨⟨1, false, 8, [.nilfn], .func⟩, [], none, none⟩ := by kernel_rfl
@[go_sem] theorem lay36 : layOf Tryz.prog 36 = some ⟨1, false, 8, [.nilfn], .func⟩ := by kernel_rfl
@[go_sem] theorem ty36 : tyA Tryz.prog 36 = some ⟨⟨1, false, 8, [.nilfn], .func⟩, [], none, none⟩ := by kernel_rfl
@[go_sem] theorem lay37 : layOf Tryz.prog 37 = some ⟨1, false, 24, [.nils], .slice⟩ := by kernel_rfl
@[go_sem] theorem ty37 : tyA Tryz.prog 37 = some ⟨⟨1, false, 24, [.nils], .slice⟩, [], some ⟨1, false, 24, [.nils], .slice⟩, none⟩ := by kernel_rfl
@[go_sem] theorem lay38 : layOf Tryz.prog 38 = some ⟨2, true, 32, [.int .i64 0, .nils], .struct⟩ := by kernel_rfl
@[go_sem] theorem ty38 : tyA Tryz.prog 38 = some ⟨⟨2, true, 32, [.int .i64 0, .nils], .struct⟩, [(0, some ⟨1, false, 8, [.int .i64 0], (.int .i64)⟩), (1, some ⟨1, false, 24, [.nils], .slice⟩)], none, none⟩ := by kernel_rfl
@[go_sem] theorem lay39 : layOf Tryz.prog 39 = some ⟨2, true, 32, [.int .i64 0, .nils], .struct⟩ := by kernel_rfl
@[go_sem] theorem ty39 : tyA Tryz.prog 39 = some ⟨⟨2, true, 32, [.int .i64 0, .nils], .struct⟩, [(0, some ⟨1, false, 8, [.int .i64 0], (.int .i64)⟩), (1, some ⟨1, false, 24, [.nils], .slice⟩)], none, none⟩ := by kernel_rfl
@[go_sem] theorem lay40 : layOf Tryz.prog 40 = some ⟨1, false, 8, [.nilfn], .func⟩ := by kernel_rfl
@[go_sem] theorem ty40 : tyA Tryz.prog 40 = some ⟨⟨1, false, 8, [.nilfn], .func⟩, [], none, none⟩ := by kernel_rfl
@[go_sem] theorem lay41 : layOf Tryz.prog 41 = some ⟨1, false, 8, [.nilfn], .func⟩ := by kernel_rfl
@[go_sem] theorem ty41 : tyA Tryz.prog 41 = some ⟨⟨1, false, 8, [.nilfn], .func⟩, [], none, none⟩ := by kernel_rfl
@[go_sem] theorem lay42 : layOf Tryz.prog 42 = some ⟨1, false, 8, [.nilfn], .func⟩ := by kernel_rfl
@[go_sem] theorem ty42 : tyA Tryz.prog 42 = some ⟨⟨1, false, 8, [.nilfn], .func⟩, [], none, none⟩ := by kernel_rfl
@[go_sem] theorem lay43 : layOf Tryz.prog 43 = some ⟨1, false, 8, [.nilfn], .func⟩ := by kernel_rfl
@[go_sem] theorem ty43 : tyA Tryz.prog 43 = some ⟨⟨1, false, 8, [.nilfn], .func⟩, [], none, none⟩ := by kernel_rfl
@[go_sem] theorem lay44 : layOf Tryz.prog 44 = some ⟨1, false, 8, [.nilfn], .func⟩ := by kernel_rfl
@[go_sem] theorem ty44 : tyA Tryz.prog 44 = some ⟨⟨1, false, 8, [.nilfn], .func⟩, [], none, none⟩ := by kernel_rfl
@[go_sem] theorem lay45 : layOf Tryz.prog 45 = some ⟨1, false, 8, [.nilfn], .func⟩ := by kernel_rfl
@[go_sem] theorem ty45 : tyA Tryz.prog 45 = some ⟨⟨1, false, 8, [.nilfn], .func⟩, [], none, none⟩ := by kernel_rfl
@[go_sem] theorem lay46 : layOf Tryz.prog 46 = some ⟨1, false, 24, [.nils], .slice⟩ := by kernel_rfl
@[go_sem] theorem ty46 : tyA Tryz.prog 46 = some ⟨⟨1, false, 24, [.nils], .slice⟩, [], some ⟨2, true, 32, [.int .i64 0, .nils], .struct⟩, none⟩ := by kernel_rfl
@[go_sem] theorem lay47 : layOf Tryz.prog 47 = some ⟨2, true, 32, [.int .i64 0, .nils], .struct⟩ := by kernel_rfl
@[go_sem] theorem ty47 : tyA Tryz.prog 47 = some ⟨⟨2, true, 32, [.int .i64 0, .nils], .struct⟩, [(0, some ⟨1, false, 8, [.int .i64 0], (.int .i64)⟩), (1, some ⟨1, false, 24, [.nils], .slice⟩)], none, none⟩ := by kernel_rfl
@[go_sem] theorem lay48 : layOf Tryz.prog 48 = some ⟨2, true, 32, [.int .i64 0, .nils], .struct⟩ := by kernel_rfl
@[go_sem] theorem ty48 : tyA Tryz.prog 48 = some ⟨⟨2, true, 32, [.int .i64 0, .nils], .struct⟩, [(0, some ⟨1, false, 8, [.int .i64 0], (.int .i64)⟩), (1, some ⟨1, false, 24, [.nils], .slice⟩)], none, none⟩ := by kernel_rfl
@[go_sem] theorem lay49 : layOf Tryz.prog 49 = some ⟨5, true, 72, [.bool false, .int .i64 0, .nils, .int .i64 0, .nils], .struct⟩ := by kernel_rfl
@[go_sem] theorem ty49 : tyA Tryz.prog 49 = some ⟨⟨5, true, 72, [.bool false, .int .i64 0, .nils, .int .i64 0, .nils], .struct⟩, [(0, some ⟨1, false, 1, [.bool false], .bool⟩), (1, some ⟨2, true, 32, [.int .i64 0, .nils], .struct⟩), (3, some ⟨2, true, 32, [.int .i64 0, .nils], .struct⟩)], none, none⟩ := by kernel_rfl
@[go_sem] theorem lay50 : layOf Tryz.prog 50 = some ⟨5, true, 72, [.bool false, .int .i64 0, .nils, .int .i64 0, .nils], .struct⟩ := by kernel_rfl
@[go_sem] theorem ty50 : tyA Tryz.prog 50 = some ⟨⟨5, true, 72, [.bool false, .int .i64 0, .nils, .int .i64 0, .nils], .struct⟩, [(0, some ⟨1, false, 1, [.bool false], .bool⟩), (1, some ⟨2, true, 32, [.int .i64 0, .nils], .struct⟩), (3, some ⟨2, true, 32, [.int .i64 0, .nils], .struct⟩)], none, none⟩ := by kernel_rfl
@[go_sem] theorem lay51 : layOf Tryz.prog 51 = some ⟨1, false, 8, [.nilfn], .func⟩ := by kernel_rfl
@[go_sem] theorem ty51 : tyA Tryz.prog 51 = some ⟨⟨1, false, 8, [.nilfn], .func⟩, [], none, none⟩ := by kernel_rfl
@[go_sem] theorem lay52 : layOf Tryz.prog 52 = some ⟨1, false, 8, [.nilfn], .func⟩ := by kernel_rfl
@[go_sem] theorem ty52 : tyA Tryz.prog 52 = some ⟨⟨1, false, 8, [.nilfn], .func⟩, [], none, none⟩ := by kernel_rfl
@[go_sem] theorem lay53 : layOf Tryz.prog 53 = some ⟨1, false, 8, [.nilfn], .func⟩ := by kernel_rfl
@[go_sem] theorem ty53 : tyA Tryz.prog 53 = some ⟨⟨1, false, 8, [.nilfn], .func⟩, [], none, none⟩ := by kernel_rfl
@[go_sem] theorem lay54 : layOf Tryz.prog 54 = some ⟨1, false, 8, [.nilfn], .func⟩ := by kernel_rfl
@[go_sem] theorem ty54 : tyA Tryz.prog 54 = some ⟨⟨1, false, 8, [.nilfn], .func⟩, [], none, none⟩ := by kernel_rfl
@[go_sem] theorem lay55 : layOf Tryz.prog 55 = some ⟨1, false, 8, [.nilfn], .func⟩ := by kernel_rfl
@[go_sem] theorem ty55 : tyA Tryz.prog 55 = some ⟨⟨1, false, 8, [.nilfn], .func⟩, [], none, none⟩ := by kernel_rfl
@[go_sem] theorem lay56 : layOf Tryz.prog 56 = some ⟨1, false, 24, [.nils], .slice⟩ := by kernel_rfl
@[go_sem] theorem ty56 : tyA Tryz.prog 56 = some ⟨⟨1, false, 24, [.nils], .slice⟩, [], some ⟨5, true, 72, [.int .i64 0, .nils, .int .i64 0, .nils, .int .i64 0], .struct⟩, none⟩ := by kernel_rfl
@[go_sem] theorem lay57 : layOf Tryz.prog 57 = some ⟨1, false, 8, [.nilfn], .func⟩ := by kernel_rfl
@[go_sem] theorem ty57 : tyA Tryz.prog 57 = some ⟨⟨1, false, 8, [.nilfn], .func⟩, [], none, none⟩ := by kernel_rfl
@[go_sem] theorem lay59 : layOf Tryz.prog 59 = some ⟨1, false, 8, [.nilfn], .func⟩ := by kernel_rfl
@[go_sem] theorem ty59 : tyA Tryz.prog 59 = some ⟨⟨1, false, 8, [.nilfn], .func⟩, [], none, none⟩ := by kernel_rfl
@[go_sem] theorem lay60 : layOf Tryz.prog 60 = some ⟨1, false, 8, [.nilfn], .func⟩ := by kernel_rfl
@[go_sem] theorem ty60 : tyA Tryz.prog 60 = some ⟨⟨1, false, 8, [.nilfn], .func⟩, [], none, none⟩ := by kernel_rfl
@[go_sem] theorem lay61 : layOf Tryz.prog 61 = some ⟨1, false, 8, [.nilfn], .func⟩ := by kernel_rfl
@[go_sem] theorem ty61 : tyA Tryz.prog 61 = some ⟨⟨1, false, 8, [.nilfn], .func⟩, [], none, none⟩ := by kernel_rfl
@[go_sem] theorem lay62 : layOf Tryz.prog 62 = some ⟨1, false, 8, [.nilfn], .func⟩ := by kernel_rfl
@[go_sem] theorem ty62 : tyA Tryz.prog 62 = some ⟨⟨1, false, 8, [.nilfn], .func⟩, [], none, none⟩ := by kernel_rfl
@[go_sem] theorem lay63 : layOf Tryz.prog 63 = some ⟨1, false, 8, [.nilfn], .func⟩ := by kernel_rfl
@[go_sem] theorem ty63 : tyA Tryz.prog 63 = some ⟨⟨1, false, 8, [.nilfn], .func⟩, [], none, none⟩ := by kernel_rfl
@[go_sem] theorem lay64 : layOf Tryz.prog 64 = some ⟨1, false, 8, [.nilfn], .func⟩ := by kernel_rfl
@[go_sem] theorem ty64 : tyA Tryz.prog 64 = some ⟨⟨1, false, 8, [.nilfn], .func⟩, [], none, none⟩ := by kernel_rfl
@[go_sem] theorem lay65 : layOf Tryz.prog 65 = some ⟨1, false, 8, [.nilfn], .func⟩ := by kernel_rfl
@[go_sem] theorem ty65 : tyA Tryz.prog 65 = some ⟨⟨1, false, 8, [.nilfn], .func⟩, [], none, none⟩ := by kernel_rfl
@[go_sem] theorem lay67 : layOf Tryz.prog 67 = some ⟨1, false, 8, [.nilfn], .func⟩ := by kernel_rfl
@[go_sem] theorem ty67 : tyA Tryz.prog 67 = some ⟨⟨1, false, 8, [.nilfn], .func⟩, [], none, none⟩ := by kernel_rfl
@[go_sem] theorem lay68 : layOf Tryz.prog 68 = some ⟨1, false, 8, [.nilfn], .func⟩ := by kernel_rfl
@[go_sem] theorem ty68 : tyA Tryz.prog 68 = some ⟨⟨1, false, 8, [.nilfn], .func⟩, [], none, none⟩ := by kernel_rfl
@[go_sem] theorem lay69 : layOf Tryz.prog 69 = some ⟨1, false, 8, [.nilfn], .func⟩ := by kernel_rfl
@[go_sem] theorem ty69 : tyA Tryz.prog 69 = some ⟨⟨1, false, 8, [.nilfn], .func⟩, [], none, none⟩ := by kernel_rfl
@[go_sem] theorem lay70 : layOf Tryz.prog 70 = some ⟨4, true, 40, [.str ⟨#[]⟩, .int .i64 0, .int .i64 0, .bool false], .struct⟩ := by kernel_rfl
@[go_sem] theorem ty70 : tyA Tryz.prog 70 = some ⟨⟨4, true, 40, [.str ⟨#[]⟩, .int .i64 0, .int .i64 0, .bool false], .struct⟩, [(0, some ⟨1, false, 16, [.str ⟨#[]⟩], .str⟩), (1, some ⟨1, false, 8, [.int .i64 0], (.int .i64)⟩), (2, some ⟨1, false, 8, [.int .i64 0], (.int .i64)⟩), (3, some ⟨1, false, 1, [.bool false], .bool⟩)], none, none⟩ := by kernel_rfl
@[go_sem] theorem eqt70 : eqTy Tryz.prog 70 [.str, (.int .i64), (.int .i64), .bool] = true := by kernel_rfl
@[go_sem] theorem lay71 : layOf Tryz.prog 71 = some ⟨4, true, 40, [.str ⟨#[]⟩, .int .i64 0, .int .i64 0, .bool false], .struct⟩ := by kernel_rfl
@[go_sem] theorem ty71 : tyA Tryz.prog 71 = some ⟨⟨4, true, 40, [.str ⟨#[]⟩, .int .i64 0, .int .i64 0, .bool false], .struct⟩, [(0, some ⟨1, false, 16, [.str ⟨#[]⟩], .str⟩), (1, some ⟨1, false, 8, [.int .i64 0], (.int .i64)⟩), (2, some ⟨1, false, 8, [.int .i64 0], (.int .i64)⟩), (3, some ⟨1, false, 1, [.bool false], .bool⟩)], none, none⟩ := by kernel_rfl
@[go_sem] theorem eqt71 : eqTy Tryz.prog 71 [.str, (.int .i64), (.int .i64), .bool] = true := by kernel_rfl
@[go_sem] theorem lay72 : layOf Tryz.prog 72 = some ⟨1, false, 8, [.nilfn], .func⟩ := by kernel_rfl
@[go_sem] theorem ty72 : tyA Tryz.prog 72 = some ⟨⟨1, false, 8, [.nilfn], .func⟩, [], none, none⟩ := by kernel_rfl
@[go_sem] theorem lay73 : layOf Tryz.prog 73 = some ⟨1, false, 8, [.nilfn], .func⟩ := by kernel_rfl
@[go_sem] theorem ty73 : tyA Tryz.prog 73 = some ⟨⟨1, false, 8, [.nilfn], .func⟩, [], none, none⟩ := by kernel_rfl
@[go_sem] theorem lay74 : layOf Tryz.prog 74 = some ⟨1, false, 8, [.nilfn], .func⟩ := by kernel_rfl
@[go_sem] theorem ty74 : tyA Tryz.prog 74 = some ⟨⟨1, false, 8, [.nilfn], .func⟩, [], none, none⟩ := by kernel_rfl
@[go_sem] theorem lay75 : layOf Tryz.prog 75 = some ⟨1, false, 8, [.nilfn], .func⟩ := by kernel_rfl
@[go_sem] theorem ty75 : tyA Tryz.prog 75 = some ⟨⟨1, false, 8, [.nilfn], .func⟩, [], none, none⟩ := by kernel_rfl
@[go_sem] theorem lay76 : layOf Tryz.prog 76 = some ⟨1, false, 8, [.nilfn], .func⟩ := by kernel_rfl
@[go_sem] theorem ty76 : tyA Tryz.prog 76 = some ⟨⟨1, false, 8, [.nilfn], .func⟩, [], none, none⟩ := by kernel_rfl
@[go_sem] theorem lay77 : layOf Tryz.prog 77 = some ⟨1, false, 8, [.nilfn], .func⟩ := by kernel_rfl
@[go_sem] theorem ty77 : tyA Tryz.prog 77 = some ⟨⟨1, false, 8, [.nilfn], .func⟩, [], none, none⟩ := by kernel_rfl
@[go_sem] theorem lay78 : layOf Tryz.prog 78 = some ⟨1, false, 8, [.nilfn], .func⟩ := by kernel_rfl
@[go_sem] theorem ty78 : tyA Tryz.prog 78 = some ⟨⟨1, false, 8, [.nilfn], .func⟩, [], none, none⟩ := by kernel_rfl
@[go_sem] theorem lay79 : layOf Tryz.prog 79 = some ⟨1, false, 8, [.nilfn], .func⟩ := by kernel_rfl
@[go_sem] theorem ty79 : tyA Tryz.prog 79 = some ⟨⟨1, false, 8, [.nilfn], .func⟩, [], none, none⟩ := by kernel_rfl
@[go_sem] theorem lay80 : layOf Tryz.prog 80 = some ⟨1, false, 8, [.nilfn], .func⟩ := by kernel_rfl
@[go_sem] theorem ty80 : tyA Tryz.prog 80 = some ⟨⟨1, false, 8, [.nilfn], .func⟩, [], none, none⟩ := by kernel_rfl
@[go_sem] theorem lay81 : layOf Tryz.prog 81 = some ⟨1, false, 8, [.nilfn], .func⟩ := by kernel_rfl
@[go_sem] theorem ty81 : tyA Tryz.prog 81 = some ⟨⟨1, false, 8, [.nilfn], .func⟩, [], none, none⟩ := by kernel_rfl
@[go_sem] theorem lay82 : layOf Tryz.prog 82 = some ⟨1, false, 8, [.nilfn], .func⟩ := by kernel_rfl
@[go_sem] theorem ty82 : tyA Tryz.prog 82 = some ⟨⟨1, false, 8, [.nilfn], .func⟩, [], none, none⟩ := by kernel_rfl
@[go_sem] theorem lay83 : layOf Tryz.prog 83 = some ⟨5, true, 72, [.int .i64 0, .bool false, .nils, .int .i64 0, .nils], .struct⟩ := by kernel_rfl
@[go_sem] theorem ty83 : tyA Tryz.prog 83 = some ⟨⟨5, true, 72, [.int .i64 0, .bool false, .nils, .int .i64 0, .nils], .struct⟩, [(0, some ⟨1, false, 8, [.int .i64 0], (.int .i64)⟩), (1, some ⟨1, false, 1, [.bool false], .bool⟩), (2, some ⟨1, false, 24, [.nils], .slice⟩), (3, some ⟨2, true, 32, [.int .i64 0, .nils], .struct⟩)], none, none⟩ := by kernel_rfl
@[go_sem] theorem lay84 : layOf Tryz.prog 84 = some ⟨5, true, 72, [.int .i64 0, .bool false, .nils, .int .i64 0, .nils], .struct⟩ := by kernel_rfl
@[go_sem] theorem ty84 : tyA Tryz.prog 84 = some ⟨⟨5, true, 72, [.int .i64 0, .bool false, .nils, .int .i64 0, .nils], .struct⟩, [(0, some ⟨1, false, 8, [.int .i64 0], (.int .i64)⟩), (1, some ⟨1, false, 1, [.bool false], .bool⟩), (2, some ⟨1, false, 24, [.nils], .slice⟩), (3, some ⟨2, true, 32, [.int .i64 0, .nils], .struct⟩)], none, none⟩ := by kernel_rfl
@[go_sem] theorem lay85 : layOf Tryz.prog 85 = some ⟨5, true, 72, [.int .i64 0, .nils, .int .i64 0, .nils, .int .i64 0], .struct⟩ := by kernel_rfl
@[go_sem] theorem ty85 : tyA Tryz.prog 85 = some ⟨⟨5, true, 72, [.int .i64 0, .nils, .int .i64 0, .nils, .int .i64 0], .struct⟩, [(0, some ⟨2, true, 32, [.int .i64 0, .nils], .struct⟩), (2, some ⟨2, true, 32, [.int .i64 0, .nils], .struct⟩), (4, some ⟨1, false, 8, [.int .i64 0], (.int .i64)⟩)], none, none⟩ := by kernel_rfl
@[go_sem] theorem lay86 : layOf Tryz.prog 86 = some ⟨5, true, 72, [.int .i64 0, .nils, .int .i64 0, .nils, .int .i64 0], .struct⟩ := by kernel_rfl
@[go_sem] theorem ty86 : tyA Tryz.prog 86 = some ⟨⟨5, true, 72, [.int .i64 0, .nils, .int .i64 0, .nils, .int .i64 0], .struct⟩, [(0, some ⟨2, true, 32, [.int .i64 0, .nils], .struct⟩), (2, some ⟨2, true, 32, [.int .i64 0, .nils], .struct⟩), (4, some ⟨1, false, 8, [.int .i64 0], (.int .i64)⟩)], none, none⟩ := by kernel_rfl
@[go_sem] theorem lay88 : layOf Tryz.prog 88 = some ⟨1, false, 8, [.nilfn], .func⟩ := by kernel_rfl
@[go_sem] theorem ty88 : tyA Tryz.prog 88 = some ⟨⟨1, false, 8, [.nilfn], .func⟩, [], none, none⟩ := by kernel_rfl
@[go_sem] theorem lay89 : layOf Tryz.prog 89 = some ⟨1, false, 8, [.nilfn], .func⟩ := by kernel_rfl
@[go_sem] theorem ty89 : tyA Tryz.prog 89 = some ⟨⟨1, false, 8, [.nilfn], .func⟩, [], none, none⟩ := by kernel_rfl
@[go_sem] theorem lay90 : layOf Tryz.prog 90 = some ⟨1, false, 8, [.nilfn], .func⟩ := by kernel_rfl
@[go_sem] theorem ty90 : tyA Tryz.prog 90 = some ⟨⟨1, false, 8, [.nilfn], .func⟩, [], none, none⟩ := by kernel_rfl
@[go_sem] theorem lay91 : layOf Tryz.prog 91 = some ⟨1, false, 8, [.nilfn], .func⟩ := by kernel_rfl
@[go_sem] theorem ty91 : tyA Tryz.prog 91 = some ⟨⟨1, false, 8, [.nilfn], .func⟩, [], none, none⟩ := by kernel_rfl
@[go_sem] theorem lay92 : layOf Tryz.prog 92 = some ⟨1, false, 8, [.nilfn], .func⟩ := by kernel_rfl
@[go_sem] theorem ty92 : tyA Tryz.prog 92 = some ⟨⟨1, false, 8, [.nilfn], .func⟩, [], none, none⟩ := by kernel_rfl
@[go_sem] theorem lay94 : layOf Tryz.prog 94 = some ⟨1, false, 8, [.nilfn], .func⟩ := by kernel_rfl
@[go_sem] theorem ty94 : tyA Tryz.prog 94 = some ⟨⟨1, false, 8, [.nilfn], .func⟩, [], none, none⟩ := by kernel_rfl
@[go_sem] theorem lay95 : layOf Tryz.prog 95 = some ⟨1, false, 8, [.nilfn], .func⟩ := by kernel_rfl
@[go_sem] theorem ty95 : tyA Tryz.prog 95 = some ⟨⟨1, false, 8, [.nilfn], .func⟩, [], none, none⟩ := by kernel_rfl
@[go_sem] theorem lay96 : layOf Tryz.prog 96 = some ⟨1, false, 8, [.nilfn], .func⟩ := by kernel_rfl
@[go_sem] theorem ty96 : tyA Tryz.prog 96 = some ⟨⟨1, false, 8, [.nilfn], .func⟩, [], none, none⟩ := by kernel_rfl
@[go_sem] theorem lay97 : layOf Tryz.prog 97 = some ⟨1, false, 8, [.nilfn], .func⟩ := by kernel_rfl
@[go_sem] theorem ty97 : tyA Tryz.prog 97 = some ⟨⟨1, false, 8, [.nilfn], .func⟩, [], none, none⟩ := by kernel_rfl
@[go_sem] theorem lay98 : layOf Tryz.prog 98 = some ⟨1, false, 8, [.nilfn], .func⟩ := by kernel_rfl
@[go_sem] theorem ty98 : tyA Tryz.prog 98 = some ⟨⟨1, false, 8, [.nilfn], .func⟩, [], none, none⟩ := by kernel_rfl
@[go_sem] theorem lay99 : layOf Tryz.prog 99 = some ⟨1, false, 8, [.nilfn], .func⟩ := by kernel_rfl
@[go_sem] theorem ty99 : tyA Tryz.prog 99 = some ⟨⟨1, false, 8, [.nilfn], .func⟩, [], none, none⟩ := by kernel_rfl
@[go_sem] theorem lay100 : layOf Tryz.prog 100 = some ⟨1, false, 8, [.nilfn], .func⟩ := by kernel_rfl
@[go_sem] theorem ty100 : tyA Tryz.prog 100 = some ⟨⟨1, false, 8, [.nilfn], .func⟩, [], none, none⟩ := by kernel_rfl
@[go_sem] theorem lay101 : layOf Tryz.prog 101 = some ⟨1, false, 8, [.nilfn], .func⟩ := by kernel_rfl
@[go_sem] theorem ty101 : tyA Tryz.prog 101 = some ⟨⟨1, false, 8, [.nilfn], .func⟩, [], none, none⟩ := by kernel_rfl
@[go_sem] theorem lay102 : layOf Tryz.prog 102 = some ⟨1, false, 8, [.nilfn], .func⟩ := by kernel_rfl
@[go_sem] theorem ty102 : tyA Tryz.prog 102 = some ⟨⟨1, false, 8, [.nilfn], .func⟩, [], none, none⟩ := by kernel_rfl
@[go_sem] theorem lay103 : layOf Tryz.prog 103 = some ⟨1, false, 8, [.nilfn], .func⟩ := by kernel_rfl
@[go_sem] theorem ty103 : tyA Tryz.prog 103 = some ⟨⟨1, false, 8, [.nilfn], .func⟩, [], none, none⟩ := by kernel_rfl
@[go_sem] theorem lay104 : layOf Tryz.prog 104 = some ⟨1, false, 8, [.nilfn], .func⟩ := by kernel_rfl
@[go_sem] theorem ty104 : tyA Tryz.prog 104 = some ⟨⟨1, false, 8, [.nilfn], .func⟩, [], none, none⟩ := by kernel_rfl
@[go_sem] theorem lay105 : layOf Tryz.prog 105 = some ⟨1, false, 8, [.nilfn], .func⟩ := by kernel_rfl
@[go_sem] theorem ty105 : tyA Tryz.prog 105 = some ⟨⟨1, false, 8, [.nilfn], .func⟩, [], none, none⟩ := by kernel_rfl
@[go_sem] theorem lay106 : layOf Tryz.prog 106 = some ⟨1, false, 8, [.nilfn], .func⟩ := by kernel_rfl
@[go_sem] theorem ty106 : tyA Tryz.prog 106 = some ⟨⟨1, false, 8, [.nilfn], .func⟩, [], none, none⟩ := by kernel_rfl
@[go_sem] theorem lay107 : layOf Tryz.prog 107 = some ⟨1, false, 8, [.nilfn], .func⟩ := by kernel_rfl
@[go_sem] theorem ty107 : tyA Tryz.prog 107 = some ⟨⟨1, false, 8, [.nilfn], .func⟩, [], none, none⟩ := by kernel_rfl
@[go_sem] theorem lay108 : layOf Tryz.prog 108 = some ⟨1, false, 8, [.nilfn], .func⟩ := by kernel_rfl
@[go_sem] theorem ty108 : tyA Tryz.prog 108 = some ⟨⟨1, false, 8, [.nilfn], .func⟩, [], none, none⟩ := by kernel_rfl
@[go_sem] theorem lay109 : layOf Tryz.prog 109 = some ⟨1, false, 8, [.nilfn], .func⟩ := by kernel_rfl
@[go_sem] theorem ty109 : tyA Tryz.prog 109 = some ⟨⟨1, false, 8, [.nilfn], .func⟩, [], none, none⟩ := by kernel_rfl
@[go_sem] theorem lay110 : layOf Tryz.prog 110 = some ⟨1, false, 8, [.nilfn], .func⟩ := by kernel_rfl
@[go_sem] theorem ty110 : tyA Tryz.prog 110 = some ⟨⟨1, false, 8, [.nilfn], .func⟩, [], none, none⟩ := by kernel_rfl
@[go_sem] theorem lay111 : layOf Tryz.prog 111 = some ⟨1, false, 8, [.nilfn], .func⟩ := by kernel_rfl
@[go_sem] theorem ty111 : tyA Tryz.prog 111 = some ⟨⟨1, false, 8, [.nilfn], .func⟩, [], none, none⟩ := by kernel_rfl
@[go_sem] theorem lay112 : layOf Tryz.prog 112 = some ⟨1, false, 8, [.nilfn], .func⟩ := by kernel_rfl
@[go_sem] theorem ty112 : tyA Tryz.prog 112 = some ⟨⟨1, false, 8, [.nilfn], .func⟩, [], none, none⟩ := by kernel_rfl
@[go_sem] theorem lay113 : layOf Tryz.prog 113 = some ⟨1, false, 8, [.nilfn], .func⟩ := by kernel_rfl
@[go_sem] theorem ty113 : tyA Tryz.prog 113 = some ⟨⟨1, false, 8, [.nilfn], .func⟩, [], none, none⟩ := by kernel_rfl
@[go_sem] theorem lay114 : layOf Tryz.prog 114 = some ⟨1, false, 8, [.nilfn], .func⟩ := by kernel_rfl
@[go_sem] theorem ty114 : tyA Tryz.prog 114 = some ⟨⟨1, false, 8, [.nilfn], .func⟩, [], none, none⟩ := by kernel_rfl
@[go_sem] theorem lay115 : layOf Tryz.prog 115 = some ⟨1, false, 24, [.nils], .slice⟩ := by kernel_rfl
@[go_sem] theorem ty115 : tyA Tryz.prog 115 = some ⟨⟨1, false, 24, [.nils], .slice⟩, [], some ⟨3, true, 40, [.int .i64 0, .int .i64 0, .nils], .struct⟩, none⟩ := by kernel_rfl
@[go_sem] theorem lay117 : layOf Tryz.prog 117 = some ⟨1, false, 8, [.nilfn], .func⟩ := by kernel_rfl
@[go_sem] theorem ty117 : tyA Tryz.prog 117 = some ⟨⟨1, false, 8, [.nilfn], .func⟩, [], none, none⟩ := by kernel_rfl
@[go_sem] theorem lay119 : layOf Tryz.prog 119 = some ⟨1, false, 8, [.nilfn], .func⟩ := by kernel_rfl
@[go_sem] theorem ty119 : tyA Tryz.prog 119 = some ⟨⟨1, false, 8, [.nilfn], .func⟩, [], none, none⟩ := by kernel_rfl
@[go_sem] theorem lay120 : layOf Tryz.prog 120 = some ⟨1, false, 8, [.nilfn], .func⟩ := by kernel_rfl
@[go_sem] theorem ty120 : tyA Tryz.prog 120 = some ⟨⟨1, false, 8, [.nilfn], .func⟩, [], none, none⟩ := by kernel_rfl
@[go_sem] theorem lay121 : layOf Tryz.prog 121 = some ⟨1, false, 8, [.nilptr], .ptr⟩ := by kernel_rfl
@[go_sem] theorem ty121 : tyA Tryz.prog 121 = some ⟨⟨1, false, 8, [.nilptr], .ptr⟩, [], none, none⟩ := by kernel_rfl
@[go_sem] theorem lay122 : layOf Tryz.prog 122 = some ⟨1, false, 8, [.nilfn], .func⟩ := by kernel_rfl
@[go_sem] theorem ty122 : tyA Tryz.prog 122 = some ⟨⟨1, false, 8, [.nilfn], .func⟩, [], none, none⟩ := by kernel_rfl
@[go_sem] theorem lay123 : layOf Tryz.prog 123 = some ⟨1, false, 8, [.nilfn], .func⟩ := by kernel_rfl
@[go_sem] theorem ty123 : tyA Tryz.prog 123 = some ⟨⟨1, false, 8, [.nilfn], .func⟩, [], none, none⟩ := by kernel_rfl
@[go_sem] theorem lay124 : layOf Tryz.prog 124 = some ⟨1, false, 8, [.nilfn], .func⟩ := by kernel_rfl
@[go_sem] theorem ty124 : tyA Tryz.prog 124 = some ⟨⟨1, false, 8, [.nilfn], .func⟩, [], none, none⟩ := by kernel_rfl
@[go_sem] theorem lay125 : layOf Tryz.prog 125 = some ⟨1, false, 8, [.nilfn], .func⟩ := by kernel_rfl
@[go_sem] theorem ty125 : tyA Tryz.prog 125 = some ⟨⟨1, false, 8, [.nilfn], .func⟩, [], none, none⟩ := by kernel_rfl
@[go_sem] theorem lay126 : layOf Tryz.prog 126 = some ⟨1, false, 8, [.nilfn], .func⟩ := by kernel_rfl
@[go_sem] theorem ty126 : tyA Tryz.prog 126 = some ⟨⟨1, false, 8, [.nilfn], .func⟩, [], none, none⟩ := by kernel_rfl
@[go_sem] theorem lay127 : layOf Tryz.prog 127 = some ⟨1, false, 8, [.nilfn], .func⟩ := by kernel_rfl
@[go_sem] theorem ty127 : tyA Tryz.prog 127 = some ⟨⟨1, false, 8, [.nilfn], .func⟩, [], none, none⟩ := by kernel_rfl
@[go_sem] theorem lay128 : layOf Tryz.prog 128 = some ⟨1, false, 8, [.nilfn], .func⟩ := by kernel_rfl
@[go_sem] theorem ty128 : tyA Tryz.prog 128 = some ⟨⟨1, false, 8, [.nilfn], .func⟩, [], none, none⟩ := by kernel_rfl
@[go_sem] theorem lay129 : layOf Tryz.prog 129 = some ⟨1, false, 8, [.nilfn], .func⟩ := by kernel_rfl
@[go_sem] theorem ty129 : tyA Tryz.prog 129 = some ⟨⟨1, false, 8, [.nilfn], .func⟩, [], none, none⟩ := by kernel_rfl
@[go_sem] theorem lay130 : layOf Tryz.prog 130 = some ⟨1, false, 8, [.nilfn], .func⟩ := by kernel_rfl
@[go_sem] theorem ty130 : tyA Tryz.prog 130 = some ⟨⟨1, false, 8, [.nilfn], .func⟩, [], none, none⟩ := by kernel_rfl
@[go_sem] theorem lay131 : layOf Tryz.prog 131 = some ⟨1, false, 8, [.nilfn], .func⟩ := by kernel_rfl
@[go_sem] theorem ty131 : tyA Tryz.prog 131 = some ⟨⟨1, false, 8, [.nilfn], .func⟩, [], none, none⟩ := by kernel_rfl
@[go_sem] theorem lay132 : layOf Tryz.prog 132 = some ⟨1, false, 8, [.nilfn], .func⟩ := by kernel_rfl
@[go_sem] theorem ty132 : tyA Tryz.prog 132 = some ⟨⟨1, false, 8, [.nilfn], .func⟩, [], none, none⟩ := by kernel_rfl
@[go_sem] theorem lay133 : layOf Tryz.prog 133 = some ⟨1, false, 8, [.nilfn], .func⟩ := by kernel_rfl
@[go_sem] theorem ty133 : tyA Tryz.prog 133 = some ⟨⟨1, false, 8, [.nilfn], .func⟩, [], none, none⟩ := by kernel_rfl
@[go_sem] theorem lay134 : layOf Tryz.prog 134 = some ⟨6, true, 96, [.nils, .bool false, .int .i64 0, .nils, .int .i64 0, .nils], .struct⟩ := by kernel_rfl
@[go_sem] theorem ty134 : tyA Tryz.prog 134 = some ⟨⟨6, true, 96, [.nils, .bool false, .int .i64 0, .nils, .int .i64 0, .nils], .struct⟩, [(0, some ⟨1, false, 24, [.nils], .slice⟩), (1, some ⟨5, true, 72, [.bool false, .int .i64 0, .nils, .int .i64 0, .nils], .struct⟩)], none, none⟩ := by kernel_rfl
@[go_sem] theorem lay135 : layOf Tryz.prog 135 = some ⟨6, true, 96, [.nils, .bool false, .int .i64 0, .nils, .int .i64 0, .nils], .struct⟩ := by kernel_rfl
@[go_sem] theorem ty135 : tyA Tryz.prog 135 = some ⟨⟨6, true, 96, [.nils, .bool false, .int .i64 0, .nils, .int .i64 0, .nils], .struct⟩, [(0, some ⟨1, false, 24, [.nils], .slice⟩), (1, some ⟨5, true, 72, [.bool false, .int .i64 0, .nils, .int .i64 0, .nils], .struct⟩)], none, none⟩ := by kernel_rfl
@[go_sem] theorem lay136 : layOf Tryz.prog 136 = some ⟨1, false, 8, [.nilfn], .func⟩ := by kernel_rfl
@[go_sem] theorem ty136 : tyA Tryz.prog 136 = some ⟨⟨1, false, 8, [.nilfn], .func⟩, [], none, none⟩ := by kernel_rfl
@[go_sem] theorem lay137 : layOf Tryz.prog 137 = some ⟨1, false, 8, [.nilfn], .func⟩ := by kernel_rfl
@[go_sem] theorem ty137 : tyA Tryz.prog 137 = some ⟨⟨1, false, 8, [.nilfn], .func⟩, [], none, none⟩ := by kernel_rfl
@[go_sem] theorem lay138 : layOf Tryz.prog 138 = some ⟨1, false, 8, [.nilfn], .func⟩ := by kernel_rfl
@[go_sem] theorem ty138 : tyA Tryz.prog 138 = some ⟨⟨1, false, 8, [.nilfn], .func⟩, [], none, none⟩ := by kernel_rfl
@[go_sem] theorem lay139 : layOf Tryz.prog 139 = some ⟨1, false, 8, [.nilfn], .func⟩ := by kernel_rfl
@[go_sem] theorem ty139 : tyA Tryz.prog 139 = some ⟨⟨1, false, 8, [.nilfn], .func⟩, [], none, none⟩ := by kernel_rfl
@[go_sem] theorem lay140 : layOf Tryz.prog 140 = some ⟨1, false, 8, [.nilfn], .func⟩ := by kernel_rfl
@[go_sem] theorem ty140 : tyA Tryz.prog 140 = some ⟨⟨1, false, 8, [.nilfn], .func⟩, [], none, none⟩ := by kernel_rfl
@[go_sem] theorem lay141 : layOf Tryz.prog 141 = some ⟨1, false, 8, [.nilfn], .func⟩ := by kernel_rfl
@[go_sem] theorem ty141 : tyA Tryz.prog 141 = some ⟨⟨1, false, 8, [.nilfn], .func⟩, [], none, none⟩ := by kernel_rfl
@[go_sem] theorem lay142 : layOf Tryz.prog 142 = some ⟨1, false, 8, [.nilfn], .func⟩ := by kernel_rfl
@[go_sem] theorem ty142 : tyA Tryz.prog 142 = some ⟨⟨1, false, 8, [.nilfn], .func⟩, [], none, none⟩ := by kernel_rfl
@[go_sem] theorem lay143 : layOf Tryz.prog 143 = some ⟨1, false, 8, [.nilfn], .func⟩ := by kernel_rfl
@[go_sem] theorem ty143 : tyA Tryz.prog 143 = some ⟨⟨1, false, 8, [.nilfn], .func⟩, [], none, none⟩ := by kernel_rfl
@[go_sem] theorem lay144 : layOf Tryz.prog 144 = some ⟨1, false, 8, [.nilfn], .func⟩ := by kernel_rfl
@[go_sem] theorem ty144 : tyA Tryz.prog 144 = some ⟨⟨1, false, 8, [.nilfn], .func⟩, [], none, none⟩ := by kernel_rfl
@[go_sem] theorem lay145 : layOf Tryz.prog 145 = some ⟨1, false, 8, [.nilfn], .func⟩ := by kernel_rfl
@[go_sem] theorem ty145 : tyA Tryz.prog 145 = some ⟨⟨1, false, 8, [.nilfn], .func⟩, [], none, none⟩ := by kernel_rfl
@[go_sem] theorem lay146 : layOf Tryz.prog 146 = some ⟨1, false, 8, [.nilfn], .func⟩ := by kernel_rfl
@[go_sem] theorem ty146 : tyA Tryz.prog 146 = some ⟨⟨1, false, 8, [.nilfn], .func⟩, [], none, none⟩ := by kernel_rfl
@[go_sem] theorem lay147 : layOf Tryz.prog 147 = some ⟨1, false, 8, [.nilfn], .func⟩ := by kernel_rfl
@[go_sem] theorem ty147 : tyA Tryz.prog 147 = some ⟨⟨1, false, 8, [.nilfn], .func⟩, [], none, none⟩ := by kernel_rfl
@[go_sem] theorem lay148 : layOf Tryz.prog 148 = some ⟨1, false, 8, [.nilfn], .func⟩ := by kernel_rfl
@[go_sem] theorem ty148 : tyA Tryz.prog 148 = some ⟨⟨1, false, 8, [.nilfn], .func⟩, [], none, none⟩ := by kernel_rfl
@[go_sem] theorem lay149 : layOf Tryz.prog 149 = some ⟨1, false, 8, [.nilfn], .func⟩ := by kernel_rfl
@[go_sem] theorem ty149 : tyA Tryz.prog 149 = some ⟨⟨1, false, 8, [.nilfn], .func⟩, [], none, none⟩ := by kernel_rfl
@[go_sem] theorem lay150 : layOf Tryz.prog 150 = some ⟨1, false, 8, [.nilfn], .func⟩ := by kernel_rfl
@[go_sem] theorem ty150 : tyA Tryz.prog 150 = some ⟨⟨1, false, 8, [.nilfn], .func⟩, [], none, none⟩ := by kernel_rfl
@[go_sem] theorem lay151 : layOf Tryz.prog 151 = some ⟨1, false, 8, [.nilfn], .func⟩ := by kernel_rfl
@[go_sem] theorem ty151 : tyA Tryz.prog 151 = some ⟨⟨1, false, 8, [.nilfn], .func⟩, [], none, none⟩ := by kernel_rfl
@[go_sem] theorem lay152 : layOf Tryz.prog 152 = some ⟨1, false, 8, [.nilmap], .map⟩ := by kernel_rfl
@[go_sem] theorem ty152 : tyA Tryz.prog 152 = some ⟨⟨1, false, 8, [.nilmap], .map⟩, [], some ⟨2, true, 32, [.int .i64 0, .nils], .struct⟩, some ⟨1, false, 8, [.int .i64 0], (.int .i64)⟩⟩ := by kernel_rfl
@[go_sem] theorem lay153 : layOf Tryz.prog 153 = some ⟨1, false, 8, [.nilmap], .map⟩ := by kernel_rfl
@[go_sem] theorem ty153 : tyA Tryz.prog 153 = some ⟨⟨1, false, 8, [.nilmap], .map⟩, [], some ⟨2, true, 32, [.int .i64 0, .nils], .struct⟩, some ⟨1, false, 8, [.int .i64 0], (.int .i64)⟩⟩ := by kernel_rfl
@[go_sem] theorem lay154 : layOf Tryz.prog 154 = some ⟨1, false, 8, [.nilfn], .func⟩ := by kernel_rfl
@[go_sem] theorem ty154 : tyA Tryz.prog 154 = some ⟨⟨1, false, 8, [.nilfn], .func⟩, [], none, none⟩ := by kernel_rfl
@[go_sem] theorem lay155 : layOf Tryz.prog 155 = some ⟨1, false, 8, [.nilfn], .func⟩ := by kernel_rfl
@[go_sem] theorem ty155 : tyA Tryz.prog 155 = some ⟨⟨1, false, 8, [.nilfn], .func⟩, [], none, none⟩ := by kernel_rfl
@[go_sem] theorem lay156 : layOf Tryz.prog 156 = some ⟨1, false, 8, [.nilptr], .ptr⟩ := by kernel_rfl
@[go_sem] theorem ty156 : tyA Tryz.prog 156 = some ⟨⟨1, false, 8, [.nilptr], .ptr⟩, [], none, none⟩ := by kernel_rfl
@[go_sem] theorem lay157 : layOf Tryz.prog 157 = some ⟨1, false, 8, [.nilfn], .func⟩ := by kernel_rfl
@[go_sem] theorem ty157 : tyA Tryz.prog 157 = some ⟨⟨1, false, 8, [.nilfn], .func⟩, [], none, none⟩ := by kernel_rfl
@[go_sem] theorem lay158 : layOf Tryz.prog 158 = some ⟨1, false, 8, [.nilfn], .func⟩ := by kernel_rfl
@[go_sem] theorem ty158 : tyA Tryz.prog 158 = some ⟨⟨1, false, 8, [.nilfn], .func⟩, [], none, none⟩ := by kernel_rfl
@[go_sem] theorem lay159 : layOf Tryz.prog 159 = some ⟨1, false, 8, [.nilfn], .func⟩ := by kernel_rfl
@[go_sem] theorem ty159 : tyA Tryz.prog 159 = some ⟨⟨1, false, 8, [.nilfn], .func⟩, [], none, none⟩ := by kernel_rfl
@[go_sem] theorem lay160 : layOf Tryz.prog 160 = some ⟨1, false, 8, [.nilfn], .func⟩ := by kernel_rfl
@[go_sem] theorem ty160 : tyA Tryz.prog 160 = some ⟨⟨1, false, 8, [.nilfn], .func⟩, [], none, none⟩ := by kernel_rfl
@[go_sem] theorem lay161 : layOf Tryz.prog 161 = some ⟨1, false, 8, [.nilfn], .func⟩ := by kernel_rfl
@[go_sem] theorem ty161 : tyA Tryz.prog 161 = some ⟨⟨1, false, 8, [.nilfn], .func⟩, [], none, none⟩ := by kernel_rfl
@[go_sem] theorem lay162 : layOf Tryz.prog 162 = some ⟨1, false, 8, [.nilfn], .func⟩ := by kernel_rfl
@[go_sem] theorem ty162 : tyA Tryz.prog 162 = some ⟨⟨1, false, 8, [.nilfn], .func⟩, [], none, none⟩ := by kernel_rfl
@[go_sem] theorem lay163 : layOf Tryz.prog 163 = some ⟨1, false, 8, [.nilfn], .func⟩ := by kernel_rfl
@[go_sem] theorem ty163 : tyA Tryz.prog 163 = some ⟨⟨1, false, 8, [.nilfn], .func⟩, [], none, none⟩ := by kernel_rfl
@[go_sem] theorem lay164 : layOf Tryz.prog 164 = some ⟨1, false, 8, [.nilfn], .func⟩ := by kernel_rfl
@[go_sem] theorem ty164 : tyA Tryz.prog 164 = some ⟨⟨1, false, 8, [.nilfn], .func⟩, [], none, none⟩ := by kernel_rfl
@[go_sem] theorem lay165 : layOf Tryz.prog 165 = some ⟨1, false, 8, [.nilfn], .func⟩ := by kernel_rfl
@[go_sem] theorem ty165 : tyA Tryz.prog 165 = some ⟨⟨1, false, 8, [.nilfn], .func⟩, [], none, none⟩ := by kernel_rfl
@[go_sem] theorem lay166 : layOf Tryz.prog 166 = some ⟨1, false, 8, [.nilfn], .func⟩ := by kernel_rfl
@[go_sem] theorem ty166 : tyA Tryz.prog 166 = some ⟨⟨1, false, 8, [.nilfn], .func⟩, [], none, none⟩ := by kernel_rfl
@[go_sem] theorem lay167 : layOf Tryz.prog 167 = some ⟨1, false, 8, [.nilfn], .func⟩ := by kernel_rfl
@[go_sem] theorem ty167 : tyA Tryz.prog 167 = some ⟨⟨1, false, 8, [.nilfn], .func⟩, [], none, none⟩ := by kernel_rfl
@[go_sem] theorem lay168 : layOf Tryz.prog 168 = some ⟨1, false, 24, [.nils], .slice⟩ := by kernel_rfl
@[go_sem] theorem ty168 : tyA Tryz.prog 168 = some ⟨⟨1, false, 24, [.nils], .slice⟩, [], some ⟨1, false, 8, [.nilfn], .func⟩, none⟩ := by kernel_rfl
@[go_sem] theorem lay169 : layOf Tryz.prog 169 = some ⟨1, false, 24, [.nils], .slice⟩ := by kernel_rfl
@[go_sem] theorem ty169 : tyA Tryz.prog 169 = some ⟨⟨1, false, 24, [.nils], .slice⟩, [], some ⟨1, false, 24, [.nils], .slice⟩, none⟩ := by kernel_rfl
@[go_sem] theorem lay170 : layOf Tryz.prog 170 = some ⟨1, false, 8, [.nilfn], .func⟩ := by kernel_rfl
@[go_sem] theorem ty170 : tyA Tryz.prog 170 = some ⟨⟨1, false, 8, [.nilfn], .func⟩, [], none, none⟩ := by kernel_rfl
@[go_sem] theorem lay171 : layOf Tryz.prog 171 = some ⟨1, false, 8, [.nilfn], .func⟩ := by kernel_rfl
@[go_sem] theorem ty171 : tyA Tryz.prog 171 = some ⟨⟨1, false, 8, [.nilfn], .func⟩, [], none, none⟩ := by kernel_rfl
@[go_sem] theorem lay172 : layOf Tryz.prog 172 = some ⟨1, false, 8, [.nilfn], .func⟩ := by kernel_rfl
@[go_sem] theorem ty172 : tyA Tryz.prog 172 = some ⟨⟨1, false, 8, [.nilfn], .func⟩, [], none, none⟩ := by kernel_rfl
@[go_sem] theorem lay173 : layOf Tryz.prog 173 = some ⟨1, false, 8, [.nilfn], .func⟩ := by kernel_rfl
@[go_sem] theorem ty173 : tyA Tryz.prog 173 = some ⟨⟨1, false, 8, [.nilfn], .func⟩, [], none, none⟩ := by kernel_rfl
@[go_sem] theorem lay174 : layOf Tryz.prog 174 = some ⟨1, false, 8, [.nilfn], .func⟩ := by kernel_rfl
@[go_sem] theorem ty174 : tyA Tryz.prog 174 = some ⟨⟨1, false, 8, [.nilfn], .func⟩, [], none, none⟩ := by kernel_rfl
@[go_sem] theorem lay175 : layOf Tryz.prog 175 = some ⟨1, false, 8, [.nilfn], .func⟩ := by kernel_rfl
@[go_sem] theorem ty175 : tyA Tryz.prog 175 = some ⟨⟨1, false, 8, [.nilfn], .func⟩, [], none, none⟩ := by kernel_rfl
@[go_sem] theorem lay176 : layOf Tryz.prog 176 = some ⟨1, false, 8, [.nilfn], .func⟩ := by kernel_rfl
@[go_sem] theorem ty176 : tyA Tryz.prog 176 = some ⟨⟨1, false, 8, [.nilfn], .func⟩, [], none, none⟩ := by kernel_rfl
@[go_sem] theorem lay177 : layOf Tryz.prog 177 = some ⟨1, false, 8, [.nilfn], .func⟩ := by kernel_rfl
@[go_sem] theorem ty177 : tyA Tryz.prog 177 = some ⟨⟨1, false, 8, [.nilfn], .func⟩, [], none, none⟩ := by kernel_rfl
@[go_sem] theorem lay178 : layOf Tryz.prog 178 = some ⟨1, false, 8, [.nilfn], .func⟩ := by kernel_rfl
@[go_sem] theorem ty178 : tyA Tryz.prog 178 = some ⟨⟨1, false, 8, [.nilfn], .func⟩, [], none, none⟩ := by kernel_rfl
@[go_sem] theorem lay179 : layOf Tryz.prog 179 = some ⟨1, false, 8, [.nilfn], .func⟩ := by kernel_rfl
@[go_sem] theorem ty179 : tyA Tryz.prog 179 = some ⟨⟨1, false, 8, [.nilfn], .func⟩, [], none, none⟩ := by kernel_rfl
@[go_sem] theorem lay180 : layOf Tryz.prog 180 = some ⟨1, false, 8, [.nilfn], .func⟩ := by kernel_rfl
@[go_sem] theorem ty180 : tyA Tryz.prog 180 = some ⟨⟨1, false, 8, [.nilfn], .func⟩, [], none, none⟩ := by kernel_rfl
@[go_sem] theorem lay181 : layOf Tryz.prog 181 = some ⟨1, false, 8, [.nilfn], .func⟩ := by kernel_rfl
@[go_sem] theorem ty181 : tyA Tryz.prog 181 = some ⟨⟨1, false, 8, [.nilfn], .func⟩, [], none, none⟩ := by kernel_rfl
@[go_sem] theorem lay182 : layOf Tryz.prog 182 = some ⟨3, true, 40, [.int .i64 0, .int .i64 0, .nils], .struct⟩ := by kernel_rfl
@[go_sem] theorem ty182 : tyA Tryz.prog 182 = some ⟨⟨3, true, 40, [.int .i64 0, .int .i64 0, .nils], .struct⟩, [(0, some ⟨1, false, 8, [.int .i64 0], (.int .i64)⟩), (1, some ⟨2, true, 32, [.int .i64 0, .nils], .struct⟩)], none, none⟩ := by kernel_rfl
@[go_sem] theorem lay183 : layOf Tryz.prog 183 = some ⟨3, true, 40, [.int .i64 0, .int .i64 0, .nils], .struct⟩ := by kernel_rfl
@[go_sem] theorem ty183 : tyA Tryz.prog 183 = some ⟨⟨3, true, 40, [.int .i64 0, .int .i64 0, .nils], .struct⟩, [(0, some ⟨1, false, 8, [.int .i64 0], (.int .i64)⟩), (1, some ⟨2, true, 32, [.int .i64 0, .nils], .struct⟩)], none, none⟩ := by kernel_rfl
@[go_sem] theorem lay184 : layOf Tryz.prog 184 = some ⟨1, false, 8, [.nilfn], .func⟩ := by kernel_rfl
@[go_sem] theorem ty184 : tyA Tryz.prog 184 = some ⟨⟨1, false, 8, [.nilfn], .func⟩, [], none, none⟩ := by kernel_rfl
@[go_sem] theorem lay185 : layOf Tryz.prog 185 = some ⟨1, false, 8, [.nilfn], .func⟩ := by kernel_rfl
@[go_sem] theorem ty185 : tyA Tryz.prog 185 = some ⟨⟨1, false, 8, [.nilfn], .func⟩, [], none, none⟩ := by kernel_rfl
@[go_sem] theorem lay186 : layOf Tryz.prog 186 = some ⟨1, false, 8, [.nilfn], .func⟩ := by kernel_rfl
@[go_sem] theorem ty186 : tyA Tryz.prog 186 = some ⟨⟨1, false, 8, [.nilfn], .func⟩, [], none, none⟩ := by kernel_rfl
@[go_sem] theorem lay187 : layOf Tryz.prog 187 = some ⟨1, false, 8, [.nilptr], .ptr⟩ := by kernel_rfl
@[go_sem] theorem ty187 : tyA Tryz.prog 187 = some ⟨⟨1, false, 8, [.nilptr], .ptr⟩, [], none, none⟩ := by kernel_rfl
@[go_sem] theorem lay188 : layOf Tryz.prog 188 = some ⟨1, false, 8, [.nilmap], .map⟩ := by kernel_rfl
@[go_sem] theorem ty188 : tyA Tryz.prog 188 = some ⟨⟨1, false, 8, [.nilmap], .map⟩, [], some ⟨1, false, 8, [.int .i64 0], (.int .i64)⟩, some ⟨1, false, 8, [.int .i64 0], (.int .i64)⟩⟩ := by kernel_rfl
@[go_sem] theorem lay189 : layOf Tryz.prog 189 = some ⟨2, true, 16, [.int .i64 0, .nilmap], .struct⟩ := by kernel_rfl
@[go_sem] theorem ty189 : tyA Tryz.prog 189 = some ⟨⟨2, true, 16, [.int .i64 0, .nilmap], .struct⟩, [(0, some ⟨1, false, 8, [.int .i64 0], (.int .i64)⟩), (1, some ⟨1, false, 8, [.nilmap], .map⟩)], none, none⟩ := by kernel_rfl
@[go_sem] theorem lay190 : layOf Tryz.prog 190 = some ⟨2, true, 16, [.int .i64 0, .nilmap], .struct⟩ := by kernel_rfl
@[go_sem] theorem ty190 : tyA Tryz.prog 190 = some ⟨⟨2, true, 16, [.int .i64 0, .nilmap], .struct⟩, [(0, some ⟨1, false, 8, [.int .i64 0], (.int .i64)⟩), (1, some ⟨1, false, 8, [.nilmap], .map⟩)], none, none⟩ := by kernel_rfl
@[go_sem] theorem lay191 : layOf Tryz.prog 191 = some ⟨1, false, 8, [.nilfn], .func⟩ := by kernel_rfl
@[go_sem] theorem ty191 : tyA Tryz.prog 191 = some ⟨⟨1, false, 8, [.nilfn], .func⟩, [], none, none⟩ := by kernel_rfl
@[go_sem] theorem lay192 : layOf Tryz.prog 192 = some ⟨1, false, 8, [.nilfn], .func⟩ := by kernel_rfl
@[go_sem] theorem ty192 : tyA Tryz.prog 192 = some ⟨⟨1, false, 8, [.nilfn], .func⟩, [], none, none⟩ := by kernel_rfl
@[go_sem] theorem lay193 : layOf Tryz.prog 193 = some ⟨1, false, 8, [.nilfn], .func⟩ := by kernel_rfl
@[go_sem] theorem ty193 : tyA Tryz.prog 193 = some ⟨⟨1, false, 8, [.nilfn], .func⟩, [], none, none⟩ := by kernel_rfl
@[go_sem] theorem lay194 : layOf Tryz.prog 194 = some ⟨3, true, 40, [.int .i64 0, .nils, .int .i64 0], .struct⟩ := by kernel_rfl
@[go_sem] theorem ty194 : tyA Tryz.prog 194 = some ⟨⟨3, true, 40, [.int .i64 0, .nils, .int .i64 0], .struct⟩, [(0, some ⟨2, true, 32, [.int .i64 0, .nils], .struct⟩), (2, some ⟨1, false, 8, [.int .i64 0], (.int .i64)⟩)], none, none⟩ := by kernel_rfl
@[go_sem] theorem lay195 : layOf Tryz.prog 195 = some ⟨3, true, 40, [.int .i64 0, .nils, .int .i64 0], .struct⟩ := by kernel_rfl
@[go_sem] theorem ty195 : tyA Tryz.prog 195 = some ⟨⟨3, true, 40, [.int .i64 0, .nils, .int .i64 0], .struct⟩, [(0, some ⟨2, true, 32, [.int .i64 0, .nils], .struct⟩), (2, some ⟨1, false, 8, [.int .i64 0], (.int .i64)⟩)], none, none⟩ := by kernel_rfl
@[go_sem] theorem lay196 : layOf Tryz.prog 196 = some ⟨1, false, 24, [.nils], .slice⟩ := by kernel_rfl
@[go_sem] theorem ty196 : tyA Tryz.prog 196 = some ⟨⟨1, false, 24, [.nils], .slice⟩, [], some ⟨3, true, 40, [.int .i64 0, .nils, .int .i64 0], .struct⟩, none⟩ := by kernel_rfl
@[go_sem] theorem lay197 : layOf Tryz.prog 197 = some ⟨1, false, 8, [.nilfn], .func⟩ := by kernel_rfl
@[go_sem] theorem ty197 : tyA Tryz.prog 197 = some ⟨⟨1, false, 8, [.nilfn], .func⟩, [], none, none⟩ := by kernel_rfl
@[go_sem] theorem lay198 : layOf Tryz.prog 198 = some ⟨1, false, 8, [.nilfn], .func⟩ := by kernel_rfl
@[go_sem] theorem ty198 : tyA Tryz.prog 198 = some ⟨⟨1, false, 8, [.nilfn], .func⟩, [], none, none⟩ := by kernel_rfl
@[go_sem] theorem lay199 : layOf Tryz.prog 199 = some ⟨1, false, 8, [.nilfn], .func⟩ := by kernel_rfl
@[go_sem] theorem ty199 : tyA Tryz.prog 199 = some ⟨⟨1, false, 8, [.nilfn], .func⟩, [], none, none⟩ := by kernel_rfl
@[go_sem] theorem lay200 : layOf Tryz.prog 200 = some ⟨1, false, 8, [.nilfn], .func⟩ := by kernel_rfl
@[go_sem] theorem ty200 : tyA Tryz.prog 200 = some ⟨⟨1, false, 8, [.nilfn], .func⟩, [], none, none⟩ := by kernel_rfl
@[go_sem] theorem lay201 : layOf Tryz.prog 201 = some ⟨1, false, 8, [.nilfn], .func⟩ := by kernel_rfl
@[go_sem] theorem ty201 : tyA Tryz.prog 201 = some ⟨⟨1, false, 8, [.nilfn], .func⟩, [], none, none⟩ := by kernel_rfl
@[go_sem] theorem lay202 : layOf Tryz.prog 202 = some ⟨1, false, 8, [.nilfn], .func⟩ := by kernel_rfl
@[go_sem] theorem ty202 : tyA Tryz.prog 202 = some ⟨⟨1, false, 8, [.nilfn], .func⟩, [], none, none⟩ := by kernel_rfl
@[go_sem] theorem lay203 : layOf Tryz.prog 203 = some ⟨1, false, 8, [.nilfn], .func⟩ := by kernel_rfl
@[go_sem] theorem ty203 : tyA Tryz.prog 203 = some ⟨⟨1, false, 8, [.nilfn], .func⟩, [], none, none⟩ := by kernel_rfl
@[go_sem] theorem lay204 : layOf Tryz.prog 204 = some ⟨1, false, 8, [.nilfn], .func⟩ := by kernel_rfl
@[go_sem] theorem ty204 : tyA Tryz.prog 204 = some ⟨⟨1, false, 8, [.nilfn], .func⟩, [], none, none⟩ := by kernel_rfl
@[go_sem] theorem lay205 : layOf Tryz.prog 205 = some ⟨1, false, 8, [.nilfn], .func⟩ := by kernel_rfl
@[go_sem] theorem ty205 : tyA Tryz.prog 205 = some ⟨⟨1, false, 8, [.nilfn], .func⟩, [], none, none⟩ := by kernel_rfl
@[go_sem] theorem lay206 : layOf Tryz.prog 206 = some ⟨1, false, 8, [.nilfn], .func⟩ := by kernel_rfl
@[go_sem] theorem ty206 : tyA Tryz.prog 206 = some ⟨⟨1, false, 8, [.nilfn], .func⟩, [], none, none⟩ := by kernel_rfl
@[go_sem] theorem lay208 : layOf Tryz.prog 208 = some ⟨1, false, 8, [.nilfn], .func⟩ := by kernel_rfl
@[go_sem] theorem ty208 : tyA Tryz.prog 208 = some ⟨⟨1, false, 8, [.nilfn], .func⟩, [], none, none⟩ := by kernel_rfl
@[go_sem] theorem lay210 : layOf Tryz.prog 210 = some ⟨1, false, 8, [.nilfn], .func⟩ := by kernel_rfl
@[go_sem] theorem ty210 : tyA Tryz.prog 210 = some ⟨⟨1, false, 8, [.nilfn], .func⟩, [], none, none⟩ := by kernel_rfl
@[go_sem] theorem lay211 : layOf Tryz.prog 211 = some ⟨1, false, 8, [.nilfn], .func⟩ := by kernel_rfl
@[go_sem] theorem ty211 : tyA Tryz.prog 211 = some ⟨⟨1, false, 8, [.nilfn], .func⟩, [], none, none⟩ := by kernel_rfl
@[go_sem] theorem lay212 : layOf Tryz.prog 212 = some ⟨1, false, 8, [.nilfn], .func⟩ := by kernel_rfl
@[go_sem] theorem ty212 : tyA Tryz.prog 212 = some ⟨⟨1, false, 8, [.nilfn], .func⟩, [], none, none⟩ := by kernel_rfl
@[go_sem] theorem lay213 : layOf Tryz.prog 213 = some ⟨1, false, 24, [.nils], .slice⟩ := by kernel_rfl
@[go_sem] theorem ty213 : tyA Tryz.prog 213 = some ⟨⟨1, false, 24, [.nils], .slice⟩, [], some ⟨1, false, 1, [.bool false], .bool⟩, none⟩ := by kernel_rfl
@[go_sem] theorem lay214 : layOf Tryz.prog 214 = some ⟨1, false, 8, [.nilfn], .func⟩ := by kernel_rfl
@[go_sem] theorem ty214 : tyA Tryz.prog 214 = some ⟨⟨1, false, 8, [.nilfn], .func⟩, [], none, none⟩ := by kernel_rfl
@[go_sem] theorem lay215 : layOf Tryz.prog 215 = some ⟨1, false, 8, [.nilfn], .func⟩ := by kernel_rfl
@[go_sem] theorem ty215 : tyA Tryz.prog 215 = some ⟨⟨1, false, 8, [.nilfn], .func⟩, [], none, none⟩ := by kernel_rfl
@[go_sem] theorem lay216 : layOf Tryz.prog 216 = some ⟨1, false, 8, [.nilfn], .func⟩ := by kernel_rfl
@[go_sem] theorem ty216 : tyA Tryz.prog 216 = some ⟨⟨1, false, 8, [.nilfn], .func⟩, [], none, none⟩ := by kernel_rfl
@[go_sem] theorem lay217 : layOf Tryz.prog 217 = some ⟨1, false, 8, [.nilfn], .func⟩ := by kernel_rfl
@[go_sem] theorem ty217 : tyA Tryz.prog 217 = some ⟨⟨1, false, 8, [.nilfn], .func⟩, [], none, none⟩ := by kernel_rfl
@[go_sem] theorem lay218 : layOf Tryz.prog 218 = some ⟨1, false, 8, [.int .u64 0], (.int .u64)⟩ := by kernel_rfl
@[go_sem] theorem ty218 : tyA Tryz.prog 218 = some ⟨⟨1, false, 8, [.int .u64 0], (.int .u64)⟩, [], none, none⟩ := by kernel_rfl
@[go_sem] theorem lay219 : layOf Tryz.prog 219 = some ⟨1, false, 8, [.nilfn], .func⟩ := by kernel_rfl
@[go_sem] theorem ty219 : tyA Tryz.prog 219 = some ⟨⟨1, false, 8, [.nilfn], .func⟩, [], none, none⟩ := by kernel_rfl
@[go_sem] theorem lay220 : layOf Tryz.prog 220 = some ⟨1, false, 8, [.nilfn], .func⟩ := by kernel_rfl
@[go_sem] theorem ty220 : tyA Tryz.prog 220 = some ⟨⟨1, false, 8, [.nilfn], .func⟩, [], none, none⟩ := by kernel_rfl
@[go_sem] theorem lay221 : layOf Tryz.prog 221 = some ⟨1, false, 8, [.nilfn], .func⟩ := by kernel_rfl
@[go_sem] theorem ty221 : tyA Tryz.prog 221 = some ⟨⟨1, false, 8, [.nilfn], .func⟩, [], none, none⟩ := by kernel_rfl
@[go_sem] theorem lay222 : layOf Tryz.prog 222 = some ⟨1, false, 8, [.int .i64 0], (.int .i64)⟩ := by kernel_rfl
@[go_sem] theorem ty222 : tyA Tryz.prog 222 = some ⟨⟨1, false, 8, [.int .i64 0], (.int .i64)⟩, [], none, none⟩ := by kernel_rfl
@[go_sem] theorem lay224 : layOf Tryz.prog 224 = some ⟨1, false, 8, [.nilfn], .func⟩ := by kernel_rfl
@[go_sem] theorem ty224 : tyA Tryz.prog 224 = some ⟨⟨1, false, 8, [.nilfn], .func⟩, [], none, none⟩ := by kernel_rfl
@[go_sem] theorem lay225 : layOf Tryz.prog 225 = some ⟨1, false, 8, [.nilfn], .func⟩ := by kernel_rfl
@[go_sem] theorem ty225 : tyA Tryz.prog 225 = some ⟨⟨1, false, 8, [.nilfn], .func⟩, [], none, none⟩ := by kernel_rfl
@[go_sem] theorem lay226 : layOf Tryz.prog 226 = some ⟨1, false, 8, [.nilfn], .func⟩ := by kernel_rfl
@[go_sem] theorem ty226 : tyA Tryz.prog 226 = some ⟨⟨1, false, 8, [.nilfn], .func⟩, [], none, none⟩ := by kernel_rfl
@[go_sem] theorem lay227 : layOf Tryz.prog 227 = some ⟨1, false, 8, [.nilfn], .func⟩ := by kernel_rfl
@[go_sem] theorem ty227 : tyA Tryz.prog 227 = some ⟨⟨1, false, 8, [.nilfn], .func⟩, [], none, none⟩ := by kernel_rfl
@[go_sem] theorem lay229 : layOf Tryz.prog 229 = some ⟨1, false, 8, [.nilfn], .func⟩ := by kernel_rfl
@[go_sem] theorem ty229 : tyA Tryz.prog 229 = some ⟨⟨1, false, 8, [.nilfn], .func⟩, [], none, none⟩ := by kernel_rfl
@[go_sem] theorem lay230 : layOf Tryz.prog 230 = some ⟨1, false, 8, [.nilfn], .func⟩ := by kernel_rfl
@[go_sem] theorem ty230 : tyA Tryz.prog 230 = some ⟨⟨1, false, 8, [.nilfn], .func⟩, [], none, none⟩ := by kernel_rfl
@[go_sem] theorem lay231 : layOf Tryz.prog 231 = some ⟨1, false, 4, [.int .u32 0], (.int .u32)⟩ := by kernel_rfl
@[go_sem] theorem ty231 : tyA Tryz.prog 231 = some ⟨⟨1, false, 4, [.int .u32 0], (.int .u32)⟩, [], none, none⟩ := by kernel_rfl
@[go_sem] theorem lay232 : layOf Tryz.prog 232 = some ⟨1, false, 8, [.nilfn], .func⟩ := by kernel_rfl
@[go_sem] theorem ty232 : tyA Tryz.prog 232 = some ⟨⟨1, false, 8, [.nilfn], .func⟩, [], none, none⟩ := by kernel_rfl
@[go_sem] theorem lay233 : layOf Tryz.prog 233 = some ⟨1, false, 8, [.int .u64 0], (.int .u64)⟩ := by kernel_rfl
@[go_sem] theorem ty233 : tyA Tryz.prog 233 = some ⟨⟨1, false, 8, [.int .u64 0], (.int .u64)⟩, [], none, none⟩ := by kernel_rfl
@[go_sem] theorem lay234 : layOf Tryz.prog 234 = some ⟨1, false, 8, [.int .u64 0], (.int .u64)⟩ := by kernel_rfl
@[go_sem] theorem ty234 : tyA Tryz.prog 234 = some ⟨⟨1, false, 8, [.int .u64 0], (.int .u64)⟩, [], none, none⟩ := by kernel_rfl
@[go_sem] theorem lay235 : layOf Tryz.prog 235 = some ⟨1, false, 8, [.nilfn], .func⟩ := by kernel_rfl
@[go_sem] theorem ty235 : tyA Tryz.prog 235 = some ⟨⟨1, false, 8, [.nilfn], .func⟩, [], none, none⟩ := by kernel_rfl
@[go_sem] theorem lay236 : layOf Tryz.prog 236 = some ⟨1, false, 8, [.nilfn], .func⟩ := by kernel_rfl
@[go_sem] theorem ty236 : tyA Tryz.prog 236 = some ⟨⟨1, false, 8, [.nilfn], .func⟩, [], none, none⟩ := by kernel_rfl
@[go_sem] theorem lay237 : layOf Tryz.prog 237 = some ⟨1, false, 8, [.nilfn], .func⟩ := by kernel_rfl
@[go_sem] theorem ty237 : tyA Tryz.prog 237 = some ⟨⟨1, false, 8, [.nilfn], .func⟩, [], none, none⟩ := by kernel_rfl
@[go_sem] theorem lay238 : layOf Tryz.prog 238 = some ⟨1, false, 8, [.nilptr], .ptr⟩ := by kernel_rfl
@[go_sem] theorem ty238 : tyA Tryz.prog 238 = some ⟨⟨1, false, 8, [.nilptr], .ptr⟩, [], none, none⟩ := by kernel_rfl
@[go_sem] theorem lay239 : layOf Tryz.prog 239 = some ⟨1, false, 8, [.nilfn], .func⟩ := by kernel_rfl
@[go_sem] theorem ty239 : tyA Tryz.prog 239 = some ⟨⟨1, false, 8, [.nilfn], .func⟩, [], none, none⟩ := by kernel_rfl
@[go_sem] theorem lay240 : layOf Tryz.prog 240 = some ⟨1, false, 8, [.nilptr], .ptr⟩ := by kernel_rfl
@[go_sem] theorem ty240 : tyA Tryz.prog 240 = some ⟨⟨1, false, 8, [.nilptr], .ptr⟩, [], none, none⟩ := by kernel_rfl
@[go_sem] theorem lay242 : layOf Tryz.prog 242 = some ⟨1, false, 8, [.nilfn], .func⟩ := by kernel_rfl
@[go_sem] theorem ty242 : tyA Tryz.prog 242 = some ⟨⟨1, false, 8, [.nilfn], .func⟩, [], none, none⟩ := by kernel_rfl
@[go_sem] theorem lay243 : layOf Tryz.prog 243 = some ⟨1, false, 8, [.nilfn], .func⟩ := by kernel_rfl
@[go_sem] theorem ty243 : tyA Tryz.prog 243 = some ⟨⟨1, false, 8, [.nilfn], .func⟩, [], none, none⟩ := by kernel_rfl
@[go_sem] theorem lay244 : layOf Tryz.prog 244 = some ⟨4, true, 40, [.nilptr, .nilptr, .nilptr, .str ⟨#[]⟩], .struct⟩ := by kernel_rfl
@[go_sem] theorem ty244 : tyA Tryz.prog 244 = some ⟨⟨4, true, 40, [.nilptr, .nilptr, .nilptr, .str ⟨#[]⟩], .struct⟩, [(0, some ⟨1, false, 8, [.nilptr], .ptr⟩), (1, some ⟨1, false, 8, [.nilptr], .ptr⟩), (2, some ⟨1, false, 8, [.nilptr], .ptr⟩), (3, some ⟨1, false, 16, [.str ⟨#[]⟩], .str⟩)], none, none⟩ := by kernel_rfl
@[go_sem] theorem lay245 : layOf Tryz.prog 245 = some ⟨4, true, 40, [.nilptr, .nilptr, .nilptr, .str ⟨#[]⟩], .struct⟩ := by kernel_rfl
@[go_sem] theorem ty245 : tyA Tryz.prog 245 = some ⟨⟨4, true, 40, [.nilptr, .nilptr, .nilptr, .str ⟨#[]⟩], .struct⟩, [(0, some ⟨1, false, 8, [.nilptr], .ptr⟩), (1, some ⟨1, false, 8, [.nilptr], .ptr⟩), (2, some ⟨1, false, 8, [.nilptr], .ptr⟩), (3, some ⟨1, false, 16, [.str ⟨#[]⟩], .str⟩)], none, none⟩ := by kernel_rfl
@[go_sem] theorem lay246 : layOf Tryz.prog 246 = some ⟨0, true, 0, [], (.array 0)⟩ := by kernel_rfl
@[go_sem] theorem ty246 : tyA Tryz.prog 246 = some ⟨⟨0, true, 0, [], (.array 0)⟩, [], some ⟨1, false, 8, [.nilptr], .ptr⟩, none⟩ := by kernel_rfl
@[go_sem] theorem lay247 : layOf Tryz.prog 247 = some ⟨0, true, 0, [], .struct⟩ := by kernel_rfl
@[go_sem] theorem ty247 : tyA Tryz.prog 247 = some ⟨⟨0, true, 0, [], .struct⟩, [(0, some ⟨0, true, 0, [], (.array 0)⟩)], none, none⟩ := by kernel_rfl
@[go_sem] theorem lay248 : layOf Tryz.prog 248 = some ⟨0, true, 0, [], .struct⟩ := by kernel_rfl
@[go_sem] theorem ty248 : tyA Tryz.prog 248 = some ⟨⟨0, true, 0, [], .struct⟩, [(0, some ⟨0, true, 0, [], (.array 0)⟩)], none, none⟩ := by kernel_rfl
@[go_sem] theorem lay249 : layOf Tryz.prog 249 = some ⟨1, false, 8, [.nilfn], .func⟩ := by kernel_rfl
@[go_sem] theorem ty249 : tyA Tryz.prog 249 = some ⟨⟨1, false, 8, [.nilfn], .func⟩, [], none, none⟩ := by kernel_rfl
@[go_sem] theorem lay250 : layOf Tryz.prog 250 = some ⟨1, false, 1, [.int .u8 0], (.int .u8)⟩ := by kernel_rfl
@[go_sem] theorem ty250 : tyA Tryz.prog 250 = some ⟨⟨1, false, 1, [.int .u8 0], (.int .u8)⟩, [], none, none⟩ := by kernel_rfl
@[go_sem] theorem lay251 : layOf Tryz.prog 251 = some ⟨1, false, 1, [.int .u8 0], (.int .u8)⟩ := by kernel_rfl
@[go_sem] theorem ty251 : tyA Tryz.prog 251 = some ⟨⟨1, false, 1, [.int .u8 0], (.int .u8)⟩, [], none, none⟩ := by kernel_rfl
@[go_sem] theorem lay252 : layOf Tryz.prog 252 = some ⟨1, false, 8, [.nilfn], .func⟩ := by kernel_rfl
@[go_sem] theorem ty252 : tyA Tryz.prog 252 = some ⟨⟨1, false, 8, [.nilfn], .func⟩, [], none, none⟩ := by kernel_rfl
@[go_sem] theorem lay253 : layOf Tryz.prog 253 = some ⟨1, false, 8, [.nilptr], .ptr⟩ := by kernel_rfl
@[go_sem] theorem ty253 : tyA Tryz.prog 253 = some ⟨⟨1, false, 8, [.nilptr], .ptr⟩, [], none, none⟩ := by kernel_rfl
@[go_sem] theorem lay254 : layOf Tryz.prog 254 = some ⟨1, false, 4, [.int .i32 0], (.int .i32)⟩ := by kernel_rfl
@[go_sem] theorem ty254 : tyA Tryz.prog 254 = some ⟨⟨1, false, 4, [.int .i32 0], (.int .i32)⟩, [], none, none⟩ := by kernel_rfl
@[go_sem] theorem lay255 : layOf Tryz.prog 255 = some ⟨1, false, 4, [.int .i32 0], (.int .i32)⟩ := by kernel_rfl
@[go_sem] theorem ty255 : tyA Tryz.prog 255 = some ⟨⟨1, false, 4, [.int .i32 0], (.int .i32)⟩, [], none, none⟩ := by kernel_rfl
@[go_sem] theorem lay256 : layOf Tryz.prog 256 = some ⟨11, true, 48, [.int .u64 0, .int .u64 0, .int .u32 0, .int .u8 0, .int .u8 0, .int .u8 0, .int .u8 0, .nilfn, .nilptr, .int .i32 0, .int .i32 0], .struct⟩ := by kernel_rfl
@[go_sem] theorem ty256 : tyA Tryz.prog 256 = some ⟨⟨11, true, 48, [.int .u64 0, .int .u64 0, .int .u32 0, .int .u8 0, .int .u8 0, .int .u8 0, .int .u8 0, .nilfn, .nilptr, .int .i32 0, .int .i32 0], .struct⟩, [(0, some ⟨1, false, 8, [.int .u64 0], (.int .u64)⟩), (1, some ⟨1, false, 8, [.int .u64 0], (.int .u64)⟩), (2, some ⟨1, false, 4, [.int .u32 0], (.int .u32)⟩), (3, some ⟨1, false, 1, [.int .u8 0], (.int .u8)⟩), (4, some ⟨1, false, 1, [.int .u8 0], (.int .u8)⟩), (5, some ⟨1, false, 1, [.int .u8 0], (.int .u8)⟩), (6, some ⟨1, false, 1, [.int .u8 0], (.int .u8)⟩), (7, some ⟨1, false, 8, [.nilfn], .func⟩), (8, some ⟨1, false, 8, [.nilptr], .ptr⟩), (9, some ⟨1, false, 4, [.int .i32 0], (.int .i32)⟩), (10, some ⟨1, false, 4, [.int .i32 0], (.int .i32)⟩)], none, none⟩ := by kernel_rfl
@[go_sem] theorem lay257 : layOf Tryz.prog 257 = some ⟨11, true, 48, [.int .u64 0, .int .u64 0, .int .u32 0, .int .u8 0, .int .u8 0, .int .u8 0, .int .u8 0, .nilfn, .nilptr, .int .i32 0, .int .i32 0], .struct⟩ := by kernel_rfl
@[go_sem] theorem ty257 : tyA Tryz.prog 257 = some ⟨⟨11, true, 48, [.int .u64 0, .int .u64 0, .int .u32 0, .int .u8 0, .int .u8 0, .int .u8 0, .int .u8 0, .nilfn, .nilptr, .int .i32 0, .int .i32 0], .struct⟩, [(0, some ⟨1, false, 8, [.int .u64 0], (.int .u64)⟩), (1, some ⟨1, false, 8, [.int .u64 0], (.int .u64)⟩), (2, some ⟨1, false, 4, [.int .u32 0], (.int .u32)⟩), (3, some ⟨1, false, 1, [.int .u8 0], (.int .u8)⟩), (4, some ⟨1, false, 1, [.int .u8 0], (.int .u8)⟩), (5, some ⟨1, false, 1, [.int .u8 0], (.int .u8)⟩), (6, some ⟨1, false, 1, [.int .u8 0], (.int .u8)⟩), (7, some ⟨1, false, 8, [.nilfn], .func⟩), (8, some ⟨1, false, 8, [.nilptr], .ptr⟩), (9, some ⟨1, false, 4, [.int .i32 0], (.int .i32)⟩), (10, some ⟨1, false, 4, [.int .i32 0], (.int .i32)⟩)], none, none⟩ := by kernel_rfl
@[go_sem] theorem lay258 : layOf Tryz.prog 258 = some ⟨1, false, 8, [.nilptr], .other⟩ := by kernel_rfl
@[go_sem] theorem ty258 : tyA Tryz.prog 258 = some ⟨⟨1, false, 8, [.nilptr], .other⟩, [], none, none⟩ := by kernel_rfl
end Go.Proofs


/- Terms, symbols, literals and worlds as Lean data, and the trees that stand for them. No program in sight. -/
namespace Go.Proofs
open Go Go.Abs

inductive Tm where
  | mk (head : Int) (args : List Tm)

def Tm.head : Tm → Int | .mk h _ => h
def Tm.args : Tm → List Tm | .mk _ l => l

mutual
def Tm.toA : Tm → AVal
  | .mk h ts => .agg [.int .i64 h, .ps 2 (Tm.toAL ts)]
def Tm.toAL : List Tm → List AVal
  | [] => []
  | t :: ts => t.toA :: Tm.toAL ts
end

theorem toAL_eq : ∀ ts, Tm.toAL ts = ts.map Tm.toA
  | [] => rfl
  | t :: ts => by simp [Tm.toAL, toAL_eq ts]

theorem toA_eq (t : Tm) : t.toA = .agg [.int .i64 t.head, .ps 2 (t.args.map Tm.toA)] := by cases t; simp [Tm.toA, toAL_eq, Tm.head, Tm.args]
theorem toA_cells (t : Tm) : t.toA.cells = [.int .i64 t.head, .ps 2 (t.args.map Tm.toA)] := by rw [toA_eq]; rfl
theorem toA_mk (h : Int) (ts : List Tm) : AVal.agg [.int .i64 h, .ps 2 (ts.map Tm.toA)] = (Tm.mk h ts).toA := by rw [toA_eq]; rfl

theorem lowL_map {α : Type} {n : Nat} {f : α → AVal} : ∀ {l : List α}, (∀ x ∈ l, (f x).low n) → lowL n (l.map f)
  | [], _ => trivial
  | a :: l, h => ⟨h a (by simp), lowL_map fun x hx => h x (by simp [hx])⟩

mutual
theorem toA_low0 : ∀ t : Tm, t.toA.low 0
  | .mk h ts => by simp only [Tm.toA, AVal.low, lowL, and_true, true_and]; exact toAL_low0 ts
theorem toAL_low0 : ∀ ts : List Tm, lowL 0 (Tm.toAL ts)
  | [] => trivial
  | t :: ts => ⟨toA_low0 t, toAL_low0 ts⟩
end
theorem toA_low {n : Nat} (t : Tm) : t.toA.low n := low_mono (Nat.zero_le n) (toA_low0 t)
theorem tms_low {n : Nat} (ts : List Tm) : lowL n (ts.map Tm.toA) := lowL_map fun x _ => toA_low x

theorem map_getD {α : Type} {f : α → AVal} {l : List α} {i : Nat} (h : i < l.length) : (l.map f).getD i .undef = f l[i] := by simp [List.getD, h]

def ints (l : List Int) : List AVal := l.map (.int .i64)
theorem ints_len (l : List Int) : (ints l).length = l.length := by simp [ints]
theorem ints_low {n : Nat} : ∀ l : List Int, lowL n (ints l)
  | [] => trivial
  | _ :: l => ⟨trivial, ints_low l⟩
theorem ints_get {l : List Int} {i : Nat} (h : i < l.length) : (ints l).getD i .undef = .int .i64 l[i] := by simp [ints, List.getD, h]
theorem ints_nil : ints [] = [] := rfl
theorem ints_snoc (l : List Int) (n : Int) : ints l ++ [.int .i64 n] = ints (l ++ [n]) := by simp [ints]
theorem i64_id {n : Int} (h : -9223372036854775808 ≤ n ∧ n ≤ 9223372036854775807) : IntKind.i64.wrap n = n := by rw [IntKind.wrap_i64]; omega

def In64 (n : Int) : Prop := -9223372036854775808 ≤ n ∧ n ≤ 9223372036854775807

/-! ### what is counted of a term -/
mutual
def Tm.size : Tm → Nat
  | .mk _ ts => 1 + Tm.sizes ts
def Tm.sizes : List Tm → Nat
  | [] => 0
  | t :: ts => t.size + Tm.sizes ts
end

mutual
def Tm.depth : Tm → Nat
  | .mk _ ts => Tm.depths ts + 1
def Tm.depths : List Tm → Nat
  | [] => 0
  | t :: ts => max t.depth (Tm.depths ts)
end

theorem sizes_snoc : ∀ (ts : List Tm) (i : Nat) (hi : i < ts.length), Tm.sizes (ts.take (i + 1)) = Tm.sizes (ts.take i) + Tm.size ts[i]
  | t :: ts, 0, _ => by simp [Tm.sizes]
  | t :: ts, i + 1, hi => by
    simp only [List.take_succ_cons, Tm.sizes, List.getElem_cons_succ]
    rw [sizes_snoc ts i (by simpa using hi)]; omega

theorem size_le_sizes : ∀ (ts : List Tm) (i : Nat) (hi : i < ts.length), Tm.size ts[i] ≤ Tm.sizes ts
  | t :: ts, 0, _ => by simp only [List.getElem_cons_zero, Tm.sizes]; omega
  | t :: ts, i + 1, hi => by
    have := size_le_sizes ts i (by simpa using hi)
    simp only [List.getElem_cons_succ, Tm.sizes]; omega

theorem sizes_take_le : ∀ (ts : List Tm) (i : Nat), Tm.sizes (ts.take i) ≤ Tm.sizes ts
  | [], i => by simp
  | t :: ts, 0 => by simp [Tm.sizes]
  | t :: ts, i + 1 => by have := sizes_take_le ts i; simp only [List.take_succ_cons, Tm.sizes]; omega

theorem size_pos (t : Tm) : 1 ≤ t.size := by cases t; simp only [Tm.size]; omega
theorem len_le_sizes : ∀ ts : List Tm, ts.length ≤ Tm.sizes ts
  | [] => by simp [Tm.sizes]
  | t :: ts => by have := len_le_sizes ts; have := size_pos t; simp only [List.length_cons, Tm.sizes]; omega
mutual
theorem depth_le_size : ∀ t : Tm, t.depth ≤ t.size
  | .mk _ ts => by have := depths_le_sizes ts; simp only [Tm.depth, Tm.size]; omega
theorem depths_le_sizes : ∀ ts : List Tm, Tm.depths ts ≤ Tm.sizes ts
  | [] => by simp [Tm.depths, Tm.sizes]
  | t :: ts => by have := depth_le_size t; have := depths_le_sizes ts; simp only [Tm.depths, Tm.sizes]; omega
end

/-- By recursion into the arguments. -/
theorem Tm.rec_args {p : Tm → Prop} (h : ∀ hd ts, (∀ (i : Nat) (hi : i < ts.length), p ts[i]) → p (.mk hd ts)) : ∀ t, p t := by
  have key : ∀ n (t : Tm), t.size = n → p t := by
    intro n
    induction n using Nat.strongRecOn with
    | _ n ih =>
      intro t ht
      match t, ht with
      | .mk hd ts, ht =>
        refine h hd ts fun i hi => ih _ ?_ ts[i] rfl
        have := size_le_sizes ts i hi
        simp only [Tm.size] at ht
        omega
  exact fun t => key _ t rfl

/-! ### parts, as far as one above a bound -/
mutual
def Tm.cnt : Tm → Int → Int
  | .mk _ ts, m => Tm.cntL ts 1 m
def Tm.cntL : List Tm → Int → Int → Int
  | [], n, _ => n
  | t :: ts, n, m => if n ≤ m then Tm.cntL ts (n + t.cnt (m - n)) m else n
end

mutual
theorem cnt_bounds : ∀ (t : Tm) (m : Int), 0 ≤ m → 1 ≤ t.cnt m ∧ t.cnt m ≤ m + 1
  | .mk _ ts, m, h => by simp only [Tm.cnt]; exact cntL_bounds ts 1 m (by omega) (by omega)
theorem cntL_bounds : ∀ (ts : List Tm) (n m : Int), 1 ≤ n → n ≤ m + 1 → n ≤ Tm.cntL ts n m ∧ Tm.cntL ts n m ≤ m + 1
  | [], n, m, h1, h2 => by simp only [Tm.cntL]; omega
  | t :: ts, n, m, h1, h2 => by
    simp only [Tm.cntL]
    split
    · have := cnt_bounds t (m - n) (by omega)
      have := cntL_bounds ts (n + t.cnt (m - n)) m (by omega) (by omega)
      omega
    · omega
end

mutual
theorem cnt_small : ∀ (t : Tm) (m : Int), 0 ≤ m → t.cnt m ≤ m → t.cnt m = t.size
  | .mk _ ts, m, h0, h => by
    simp only [Tm.cnt] at h ⊢
    have := cntL_small ts 1 m (by omega) (by omega) h
    simp only [Tm.size]; omega
theorem cntL_small : ∀ (ts : List Tm) (n m : Int), 1 ≤ n → n ≤ m + 1 → Tm.cntL ts n m ≤ m → Tm.cntL ts n m = n + Tm.sizes ts
  | [], n, m, _, _, _ => by simp [Tm.cntL, Tm.sizes]
  | t :: ts, n, m, h1, h2, h => by
    simp only [Tm.cntL] at h ⊢
    split at h
    · rename_i hn
      rw [if_pos hn]
      have hb := cnt_bounds t (m - n) (by omega)
      have hb2 := cntL_bounds ts (n + t.cnt (m - n)) m (by omega) (by omega)
      have h3 := cntL_small ts (n + t.cnt (m - n)) m (by omega) (by omega) h
      have h4 := cnt_small t (m - n) (by omega) (by omega)
      simp only [Tm.sizes]; omega
    · omega
end

theorem cntL_stop (ts : List Tm) (n m : Int) (h : ¬ n ≤ m) : Tm.cntL ts n m = n := by cases ts <;> simp [Tm.cntL, h]


/-! ### right terms, variables -/
mutual
def Tm.good : Tm → Bool
  | .mk h ts => !(h < 0 && decide (0 < ts.length) || h < -256 || decide (1023 < h) || decide (8 < ts.length)) && Tm.goods ts
def Tm.goods : List Tm → Bool
  | [] => true
  | t :: ts => t.good && Tm.goods ts
end

def Tm.check (t : Tm) : Int := if 400 < t.size then 2 else if 40 < t.depth then 7 else if t.good then 0 else 1

def add1 (o : List Int) (v : Int) : List Int := if v ∈ o then o else o ++ [v]
def addNew (o l : List Int) : List Int := l.foldl add1 o

mutual
def Tm.vars : Tm → List Int
  | .mk h ts => Tm.varsL ts (if h < 0 then [-1 - h] else [])
def Tm.varsL : List Tm → List Int → List Int
  | [], o => o
  | t :: ts, o => Tm.varsL ts (addNew o t.vars)
end

theorem add1_len (o : List Int) (v : Int) : (add1 o v).length ≤ o.length + 1 := by unfold add1; split <;> simp

theorem addNew_len : ∀ (l o : List Int), (addNew o l).length ≤ o.length + l.length
  | [], o => by simp [addNew]
  | v :: l, o => by
    have h : addNew o (v :: l) = addNew (add1 o v) l := rfl
    rw [h]
    have := addNew_len l (add1 o v)
    have := add1_len o v
    simp only [List.length_cons]; omega

mutual
theorem vars_len : ∀ t : Tm, t.vars.length ≤ t.size
  | .mk h ts => by
    have := varsL_len ts (if h < 0 then [-1 - h] else [])
    have h2 : (if h < 0 then [-1 - h] else ([] : List Int)).length ≤ 1 := by split <;> simp
    simp only [Tm.vars, Tm.size]; omega
theorem varsL_len : ∀ (ts : List Tm) (o : List Int), (Tm.varsL ts o).length ≤ o.length + Tm.sizes ts
  | [], o => by simp [Tm.varsL, Tm.sizes]
  | t :: ts, o => by
    have h1 := varsL_len ts (addNew o t.vars)
    have h2 := addNew_len t.vars o
    have h3 := vars_len t
    simp only [Tm.varsL, Tm.sizes]; omega
end

/-- A slice of one's own that begins as nil. -/
def slA (b : Nat) (sz : Nat) : List AVal → AVal
  | [] => .nils
  | x :: l => .os b 0 (l.length + 1) sz
def slB : List AVal → Option Blk
  | [] => none
  | x :: l => some (.row (x :: l) 0)


/-! ### numbers that fit -/
mutual
def Tm.fit : Tm → Prop
  | .mk h ts => In64 h ∧ Tm.fits ts
def Tm.fits : List Tm → Prop
  | [] => True
  | t :: ts => t.fit ∧ Tm.fits ts
end
theorem fits_get : ∀ {ts : List Tm}, Tm.fits ts → ∀ (i : Nat) (hi : i < ts.length), ts[i].fit
  | t :: ts, h, 0, _ => h.1
  | t :: ts, h, i + 1, hi => fits_get h.2 i (by simpa using hi)

theorem slA_nil (b sz : Nat) : slA b sz [] = .nils := rfl
theorem slA_cons (b sz : Nat) (x : AVal) (l : List AVal) : slA b sz (x :: l) = .os b 0 (l.length + 1) sz := rfl
theorem slB_nil : slB [] = none := rfl
theorem slB_cons (x : AVal) (l : List AVal) : slB (x :: l) = some (.row (x :: l) 0) := rfl
theorem slA_low {b n : Nat} (h : b < n) (sz : Nat) : ∀ l : List AVal, (slA b sz l).low n
  | [] => trivial
  | _ :: _ => h
theorem slB_lowO {n : Nat} : ∀ l : List AVal, lowL n l → lowO n (slB l)
  | [], _ => trivial
  | _ :: _, h => h
theorem slA_ne {b sz : Nat} {l : List AVal} (h : l ≠ []) : slA b sz l = .os b 0 l.length sz := by cases l; exact absurd rfl h; rfl
theorem slB_ne {l : List AVal} (h : l ≠ []) : slB l = some (.row l 0) := by cases l; exact absurd rfl h; rfl
theorem slA_snoc (b sz : Nat) (l : List AVal) (x : AVal) : slA b sz (l ++ [x]) = .os b 0 (l.length + 1) sz := by
  rw [slA_ne (by simp)]; simp
theorem slB_snoc (l : List AVal) (x : AVal) : slB (l ++ [x]) = some (.row (l ++ [x]) 0) := slB_ne (by simp)
theorem ints_add (l : List Int) (n : Int) : ints (l ++ [n]) = ints l ++ [.int .i64 n] := (ints_snoc l n).symm

theorem pT_slA {F : Nat → Bool} {σ : Store} {b sz : Nat} {l : List AVal} (hF : F b = true) (h : getS σ b = slB l) : pT F σ (.ps sz l) (slA b sz l) = True := by
  cases l with
  | nil => simp [slA, pT]
  | cons x l =>
    simp only [slA, pT_os, h, slB, pTrow_some, hF, List.drop_zero, List.length_cons]
    simp [pTL_refl]

theorem set_none {σ : Store} {b : Nat} (h : getS σ b = none) : σ.set b none = σ := by
  apply List.ext_getElem?
  intro c
  by_cases e : b = c
  · subst e
    rw [List.getElem?_set_self']
    simp only [getS] at h
    cases hc : σ[b]? with
    | none => rfl
    | some x => rw [hc] at h; simp at h; subst h; rfl
  · rw [List.getElem?_set_ne e]

open Classical in
theorem app_slA {σ : Store} {nm b sz bs : Nat} {ag : Bool} {z : List AVal} {key : KA} {l : List AVal} {x : AVal} (h : getS σ b = slB l) : appendA σ nm ⟨sz, ag, bs, z, key⟩ (slA b sz l) [x] = if appOk ⟨sz, ag, bs, z, key⟩ [x] ∧ l.length + 1 ≤ roomN bs then some (.os nm 0 (l.length + 1) sz, setS (σ.set b none) nm (.row (l ++ [x]) 0)) else none := by
  cases l with
  | nil =>
    have h0 : getS σ b = none := h
    rw [set_none h0]
    by_cases c : appOk ⟨sz, ag, bs, z, key⟩ [x] <;> simp [slA, app_nils, c]
  | cons y l =>
    simp only [slA]
    rw [app_os, h]
    simp only [slB, appRow_some, List.length_cons, List.length_nil, List.drop_zero]
    by_cases c : appOk ⟨sz, ag, bs, z, key⟩ [x]
    · simp only [c, if_true, true_and, Nat.zero_add, Nat.le_refl, Nat.zero_le, Nat.sub_self]
      rw [List.take_of_length_le (by simp)]
    · simp [c]


theorem slA_app {b sz : Nat} {l xs : List AVal} (h : xs ≠ []) : slA b sz (l ++ xs) = .os b 0 (l.length + xs.length) sz := by
  rw [slA_ne (by simp [h])]; simp
theorem slB_app {l xs : List AVal} (h : xs ≠ []) : slB (l ++ xs) = some (.row (l ++ xs) 0) := slB_ne (by simp [h])

open Classical in
theorem app_slA2 {σ : Store} {nm b sz bs : Nat} {ag : Bool} {z : List AVal} {key : KA} {l : List AVal} {x y : AVal} (h : getS σ b = slB l) : appendA σ nm ⟨sz, ag, bs, z, key⟩ (slA b sz l) [x, y] = if appOk ⟨sz, ag, bs, z, key⟩ [x, y] ∧ l.length + 2 ≤ roomN bs then some (.os nm 0 (l.length + 2) sz, setS (σ.set b none) nm (.row (l ++ [x, y]) 0)) else none := by
  cases l with
  | nil =>
    have h0 : getS σ b = none := h
    rw [set_none h0]
    by_cases c : appOk ⟨sz, ag, bs, z, key⟩ [x, y] <;> simp [slA, app_nils, c]
  | cons u l =>
    simp only [slA]
    rw [app_os, h]
    simp only [slB, appRow_some, List.length_cons, List.length_nil, List.drop_zero]
    by_cases c : appOk ⟨sz, ag, bs, z, key⟩ [x, y]
    · simp only [c, if_true, true_and, Nat.zero_add, Nat.le_refl, Nat.zero_le, Nat.sub_self]
      rw [List.take_of_length_le (by simp)]
    · simp [c]

end Go.Proofs

/- Functions of the document's answer for layer 1, each by what it answers. -/
set_option linter.unusedSimpArgs false
namespace Go.Proofs
open Go Go.Abs
attribute [local go_sem] Nat.reduceAdd Nat.reduceSub Nat.reduceMul Nat.reduceLeDiff Nat.reduceEqDiff Nat.reduceBEq
theorem mixed : Tryz.prog.follows .mixedOrders = true := by rfl

theorem Ints_eq (a b : List Int) (ha : a.length < 2 ^ 62) : CallEq Tryz.prog 15 [.ps 1 (ints a), .ps 1 (ints b)] (.bool (decide (a = b))) := by
  refine CallEq.begin (rs := [.tmp 4]) (m := 24) 1000 Tryz.func15 rfl rfl rfl (by decide) trivial ?_
  simp only [go_sem, ints_len]
  refine ⟨fun hne => ?_, fun heq => ?_⟩
  · have : a ≠ b := fun e => hne (by rw [e])
    simp [this]
  have hlen : a.length = b.length := by omega
  refine EvK.loopI (ι := {i : Nat // i ≤ a.length ∧ a.take i = b.take i}) 1000 (fun i => mkT 26 [(0, .ps 1 (ints a)), (1, .ps 1 (ints b)), (5, .int .i64 i.1)]) (fun _ => []) (fun i => a.length - i.1) ⟨0, by simp⟩ ?_ (fun _ => Nat.zero_le _) ?_
  · simp only [go_sem, ints_low, Int.natCast_zero]
  · rintro ⟨i, hi, hpre⟩
    simp only [go_sem, ints_len]
    refine ⟨fun hlt => ?_, fun hge => ?_⟩
    · have hla : i < a.length := by omega
      have hlb : i < b.length := by omega
      refine EvK.draw [] 0 0 mixed rfl rfl (Nat.le_refl _) ?_
      simp only [go_sem, padS, ints_len, Int.toNat_natCast, ints_get hla, ints_get hlb]
      refine ⟨by omega, by omega, ?_⟩
      refine EvK.go 1000 ?_
      simp only [go_sem]
      refine ⟨fun hne => ?_, fun heq => ?_⟩
      · have : a ≠ b := fun e => hne (by subst e; rfl)
        refine EvK.go 1000 ?_
        simp only [go_sem]
        simp [this]
      · refine ⟨⟨i + 1, by omega, ?_⟩, ?_, by simp only; omega⟩
        · rw [List.take_add_one, List.take_add_one, hpre, List.getElem?_eq_getElem hla, List.getElem?_eq_getElem hlb, heq]
        · simp only [go_sem, ints_low]
          rw [i64_id (by omega)]; rfl
    · refine EvK.go 1000 ?_
      simp only [go_sem]
      have : i = a.length := by omega
      subst this
      rw [List.take_length, hlen, List.take_length] at hpre
      simp [hpre]

theorem Size_eq (t : Tm) : t.size < 2 ^ 62 → CallEq Tryz.prog 137 [t.toA] (.int .i64 t.size) := by
  induction t using Tm.rec_args with
  | h h ts ih =>
  intro hs
  simp only [Tm.size] at hs
  have hlen := len_le_sizes ts
  refine CallEq.begin (rs := [.tmp 2]) (m := 20) 1000 Tryz.func137 rfl rfl rfl (by decide) trivial ?_
  simp only [go_sem, toA_eq, Tm.head, Tm.args]
  refine EvK.loopI (ι := {i : Nat // i ≤ ts.length}) 1000 (fun i => mkT 21 [(1, .ptr 0 0), (3, .int .i64 (1 + Tm.sizes (ts.take i.1) : Nat)), (4, .int .i64 i.1)]) (fun _ => [some (.var [.int .i64 h, .ps 2 (ts.map Tm.toA)])]) (fun i => ts.length - i.1) ⟨0, by omega⟩ ?_ (fun _ => by simp) ?_
  · simp only [go_sem, Tm.sizes, tms_low, Int.natCast_zero, Nat.zero_lt_one]
    simp
  · rintro ⟨i, hi⟩
    simp only [go_sem, List.length_map]
    refine ⟨fun hlt => ?_, fun hge => ?_⟩
    · have hlt' : i < ts.length := by omega
      refine ⟨by omega, ?_⟩
      simp only [go_sem, Int.toNat_natCast, map_getD hlt', toA_cells, Nat.le_refl]
      rw [← toA_eq]
      have hsz := size_le_sizes ts i hlt'
      refine VCall.isoT [] (ih i hlt' (by omega)) (pTL_refl _ _ _) (by simp [go_sem, toA_low]) ?_
      simp only [flatR, flatA, flatC, if_true]
      refine EvK.go 1000 ?_
      simp only [go_sem]
      refine ⟨⟨i + 1, hlt'⟩, ?_, by simp only; omega⟩
      simp only [go_sem, tms_low, Nat.zero_lt_one]
      have h1 := sizes_snoc ts i hlt'
      have h2 := sizes_take_le ts (i + 1)
      rw [i64_id (by omega), i64_id (by omega), h1]
      simp; omega
    · refine EvK.go 1000 ?_
      simp only [go_sem, Tm.size]
      have : i = ts.length := by omega
      subst this
      simp

theorem Count_eq (t : Tm) : ∀ m : Int, 0 ≤ m → m < 2 ^ 62 → CallEq Tryz.prog 50 [t.toA, .int .i64 m] (.int .i64 (t.cnt m)) := by
  induction t using Tm.rec_args with
  | h h ts ih =>
  intro m hm0 hm1
  refine CallEq.begin (rs := [.tmp 4]) (m := 29) 1000 Tryz.func50 rfl rfl rfl (by decide) trivial ?_
  simp only [go_sem, toA_eq, Tm.head, Tm.args]
  refine EvK.loopI (ι := {p : Nat × Int // p.1 ≤ ts.length ∧ 1 ≤ p.2 ∧ p.2 ≤ m + 1 ∧ p.1 ≤ p.2 ∧ Tm.cntL (ts.drop p.1) p.2 m = Tm.cntL ts 1 m}) 1000 (fun p => mkT 31 [(1, .int .i64 m), (2, .ptr 0 0), (5, .int .i64 p.1.2), (6, .int .i64 p.1.1)]) (fun _ => [some (.var [.int .i64 h, .ps 2 (ts.map Tm.toA)])]) (fun p => ts.length - p.1.1) ⟨(0, 1), by simp; omega⟩ ?_ (fun _ => by simp) ?_
  · simp only [go_sem, tms_low, Int.natCast_zero, Nat.zero_lt_one]
  · rintro ⟨⟨i, n⟩, hi, h1, h2, h4, h3⟩
    simp only at hi h1 h2 h3 h4
    by_cases hlt : (i : Int) < ts.length
    · have hlt' : i < ts.length := by omega
      by_cases hn : n ≤ m
      · simp only [go_sem, List.length_map, hlt, hn]
        refine ⟨by omega, ?_⟩
        simp only [go_sem, Int.toNat_natCast, map_getD hlt', toA_cells, Nat.le_refl]
        rw [← toA_eq, i64_id (by omega)]
        refine VCall.isoT [] (ih i hlt' (m - n) (by omega) (by omega)) (pTL_refl _ _ _) (by simp [go_sem, toA_low]) ?_
        simp only [flatR, flatA, flatC, if_true]
        refine EvK.go 1000 ?_
        simp only [go_sem]
        have hb := cnt_bounds ts[i] (m - n) (by omega)
        refine ⟨⟨(i + 1, n + ts[i].cnt (m - n)), hlt', by omega, by omega, by simp only; omega, ?_⟩, ?_, by simp only; omega⟩
        · simp only
          rw [← h3, List.drop_eq_getElem_cons hlt', Tm.cntL, if_pos hn]
        · simp only [go_sem, tms_low, Nat.zero_lt_one]
          rw [i64_id (by omega), i64_id (by omega)]
          simp
      · simp only [go_sem, List.length_map, hlt, hn]
        refine EvK.go 1000 ?_
        simp only [go_sem]
        rw [Tm.cnt, ← h3, cntL_stop _ _ _ hn]
    · simp only [go_sem, List.length_map, hlt]
      refine EvK.go 1000 ?_
      simp only [go_sem]
      have : i = ts.length := by omega
      subst this
      rw [Tm.cnt, ← h3, List.drop_length, Tm.cntL]
end Go.Proofs

/- More functions of the document's answer for layer 1. -/
set_option linter.unusedSimpArgs false
namespace Go.Proofs
open Go Go.Abs
attribute [local go_sem] Nat.reduceAdd Nat.reduceSub Nat.reduceMul Nat.reduceLeDiff Nat.reduceEqDiff Nat.reduceBEq
end Go.Proofs

/- The variables of a term, as the document's answer has them. -/
set_option linter.unusedSimpArgs false
namespace Go.Proofs
open Go Go.Abs
attribute [local go_sem] Nat.reduceAdd Nat.reduceSub Nat.reduceMul Nat.reduceLeDiff Nat.reduceEqDiff Nat.reduceBEq
end Go.Proofs

/- Symbols, literals, worlds; counting in them. -/
namespace Go.Proofs
open Go Go.Abs

structure Sy where
  name : ByteArray
  arity : Int
  weight : Int
  truth : Bool

def Sy.toA (s : Sy) : AVal := .agg [.str s.name, .int .i64 s.arity, .int .i64 s.weight, .bool s.truth]
theorem sy_cells (s : Sy) : s.toA.cells = [.str s.name, .int .i64 s.arity, .int .i64 s.weight, .bool s.truth] := rfl
theorem sy_eq (s : Sy) : s.toA = .agg [.str s.name, .int .i64 s.arity, .int .i64 s.weight, .bool s.truth] := rfl
def syms (g : List Sy) : List AVal := g.map Sy.toA
theorem syms_len (g : List Sy) : (syms g).length = g.length := by simp [syms]
theorem syms_low {n : Nat} (g : List Sy) : lowL n (syms g) := lowL_map fun _ _ => ⟨trivial, trivial, trivial, trivial, trivial⟩
theorem syms_get {g : List Sy} {i : Nat} (h : i < g.length) : (syms g).getD i .undef = g[i].toA := map_getD h

structure Li where
  neg : Bool
  l : Tm
  r : Tm

def Li.cs (c : Li) : List AVal := [.bool c.neg, .int .i64 c.l.head, .ps 2 (c.l.args.map Tm.toA), .int .i64 c.r.head, .ps 2 (c.r.args.map Tm.toA)]
def Li.toA (c : Li) : AVal := .agg c.cs
theorem li_cells (c : Li) : c.toA.cells = [.bool c.neg, .int .i64 c.l.head, .ps 2 (c.l.args.map Tm.toA), .int .i64 c.r.head, .ps 2 (c.r.args.map Tm.toA)] := rfl
def lits (c : List Li) : List AVal := c.map Li.toA
theorem lits_len (c : List Li) : (lits c).length = c.length := by simp [lits]
theorem li_low {n : Nat} (c : Li) : c.toA.low n := ⟨trivial, trivial, tms_low _, trivial, tms_low _, trivial⟩
theorem lits_low {n : Nat} (c : List Li) : lowL n (lits c) := lowL_map fun x _ => li_low x
theorem lits_get {c : List Li} {i : Nat} (h : i < c.length) : (lits c).getD i .undef = c[i].toA := map_getD h

/-- Both sides of each literal, in order. -/
def sides (c : List Li) : List Tm := c.flatMap fun l => [l.l, l.r]
theorem sides_snoc (c : List Li) (i : Nat) (h : i < c.length) : sides (c.take (i + 1)) = sides (c.take i) ++ [c[i].l, c[i].r] := by
  simp only [sides, List.take_add_one, List.getElem?_eq_getElem h, Option.toList_some, List.flatMap_append, List.flatMap_cons, List.flatMap_nil, List.append_nil]
theorem sides_len (c : List Li) : (sides c).length = 2 * c.length := by
  induction c with
  | nil => rfl
  | cons a c ih => simp [sides] at ih ⊢; omega

/-- All names short, and not too many symbols. -/
def symsFew (g : List Sy) : Bool := decide (g.length ≤ 300) && g.all fun s => decide (s.name.size ≤ 100)

/-- How many parts some terms have, as far as somewhat above a bound. -/
def cntS : List Tm → Int → Int
  | [], n => n
  | t :: ts, n => if n ≤ 500 then cntS ts (n + t.cnt 500) else n

def litsFew (c : List Li) : Bool := decide (c.length ≤ 40) && decide (cntS (sides c) 0 ≤ 500)

theorem cntS_small : ∀ (ts : List Tm) (n : Int), 0 ≤ n → n ≤ 1001 → 0 ≤ cntS ts n ∧ (cntS ts n ≤ 500 → cntS ts n = n + Tm.sizes ts)
  | [], n, h, _ => ⟨by simp [cntS, h], fun _ => by simp [cntS, Tm.sizes]⟩
  | t :: ts, n, h, h2 => by
    simp only [cntS]
    split
    · rename_i hn
      have hb := cnt_bounds t 500 (by omega)
      obtain ⟨h3, h4⟩ := cntS_small ts (n + t.cnt 500) (by omega) (by omega)
      refine ⟨h3, fun h5 => ?_⟩
      have h6 := h4 h5
      have h7 := cnt_small t 500 (by omega) (by omega)
      simp only [Tm.sizes]; omega
    · rename_i hn
      exact ⟨h, fun h5 => absurd h5 hn⟩

theorem sizes_append : ∀ a b : List Tm, Tm.sizes (a ++ b) = Tm.sizes a + Tm.sizes b
  | [], b => by simp [Tm.sizes]
  | t :: a, b => by simp only [List.cons_append, Tm.sizes, sizes_append a b]; omega

end Go.Proofs

/- Guards of the laws about worlds: symbols, worlds and clauses that are few. -/
set_option linter.unusedSimpArgs false
namespace Go.Proofs
open Go Go.Abs
attribute [local go_sem] Nat.reduceAdd Nat.reduceSub Nat.reduceMul Nat.reduceLeDiff Nat.reduceEqDiff Nat.reduceBEq
theorem SymsFew_eq (g : List Sy) : CallEq Tryz.prog 22 [.ps 4 (syms g)] (.bool (symsFew g)) := by
  refine CallEq.begin (rs := [.tmp 2]) (m := 24) 1000 Tryz.func22 rfl rfl rfl (by decide) trivial ?_
  simp only [go_sem]
  by_cases hg : (g.length : Int) ≤ 300
  · refine EvK.loopI (ι := {i : Nat // i ≤ g.length ∧ (g.take i).all (fun s => decide (s.name.size ≤ 100)) = true}) 1000 (fun i => mkT 25 [(0, .ps 4 (syms g)), (3, .int .i64 i.1)]) (fun _ => []) (fun i => g.length - i.1) ⟨0, by simp⟩ ?_ (fun _ => Nat.zero_le _) ?_
    · simp only [go_sem, syms_low, Int.natCast_zero]
    · rintro ⟨i, hi, hpre⟩
      by_cases hlt : (i : Int) < g.length
      · have hlt' : i < g.length := by omega
        simp only [go_sem, syms_len, hlt, hg, Int.toNat_natCast, syms_get hlt', sy_cells]
        refine ⟨by omega, fun hbad => ?_, fun hok => ?_⟩
        · refine EvK.go 1000 ?_
          simp only [go_sem]
          have h1 : g.all (fun s => decide (s.name.size ≤ 100)) = false := by
            rw [List.all_eq_false]
            exact ⟨g[i], List.getElem_mem hlt', by simp; omega⟩
          simp [symsFew, h1]
        · refine ⟨⟨i + 1, hlt', ?_⟩, ?_, by simp only; omega⟩
          · rw [List.take_add_one, List.all_append, hpre, List.getElem?_eq_getElem hlt']
            simp; omega
          · simp only [go_sem, syms_low]
            rw [i64_id (by omega)]; rfl
      · simp only [go_sem, syms_len, hlt]
        refine EvK.go 1000 ?_
        simp only [go_sem, syms_len]
        have : i = g.length := by omega
        subst this
        rw [List.take_length] at hpre
        simp only [symsFew, hpre, Bool.and_true]
        congr 1
        simp; omega
  · refine EvK.loopI (ι := Unit) 1000 (fun _ => mkT 25 [(0, .ps 4 (syms g)), (3, .int .i64 0)]) (fun _ => []) (fun _ => 0) () ?_ (fun _ => Nat.zero_le _) ?_
    · simp only [go_sem, syms_low]
    · rintro ⟨⟩
      have hlt : (0 : Int) < g.length := by omega
      simp only [go_sem, syms_len, hlt, hg]
      refine EvK.go 1000 ?_
      simp only [go_sem, syms_len, hg]
      have : ¬ g.length ≤ 300 := by omega
      simp [symsFew, this]

theorem SumFew_eq (ts : List Tm) (hl : ts.length < 2 ^ 62) : CallEq Tryz.prog 78 [.ps 2 (ts.map Tm.toA)] (.bool (decide (cntS ts 0 ≤ 500))) := by
  refine CallEq.begin (rs := [.tmp 2]) (m := 23) 1000 Tryz.func78 rfl rfl rfl (by decide) trivial ?_
  simp only [go_sem]
  refine EvK.loopI (ι := {p : Nat × Int // p.1 ≤ ts.length ∧ 0 ≤ p.2 ∧ p.2 ≤ 1001 ∧ cntS (ts.drop p.1) p.2 = cntS ts 0}) 1000 (fun p => mkT 24 [(0, .ps 2 (ts.map Tm.toA)), (3, .int .i64 p.1.2), (4, .int .i64 p.1.1)]) (fun _ => []) (fun p => ts.length - p.1.1) ⟨(0, 0), by simp⟩ ?_ (fun _ => Nat.zero_le _) ?_
  · simp only [go_sem, tms_low, Int.natCast_zero]
  · rintro ⟨⟨i, n⟩, hi, h1, h2, h3⟩
    simp only at hi h1 h2 h3
    by_cases hlt : (i : Int) < ts.length
    · have hlt' : i < ts.length := by omega
      by_cases hn : n ≤ 500
      · simp only [go_sem, List.length_map, hlt, hn, Int.toNat_natCast, map_getD hlt', toA_cells, Nat.le_refl]
        refine ⟨by omega, ?_⟩
        rw [← toA_eq]
        refine VCall.isoT [] (Count_eq ts[i] 500 (by omega) (by omega)) (pTL_refl _ _ _) (by simp [go_sem, toA_low]) ?_
        simp only [flatR, flatA, flatC, if_true]
        refine EvK.go 1000 ?_
        simp only [go_sem]
        have hb := cnt_bounds ts[i] 500 (by omega)
        refine ⟨⟨(i + 1, n + ts[i].cnt 500), hlt', by simp only; omega, by simp only; omega, ?_⟩, ?_, by simp only; omega⟩
        · simp only
          rw [← h3, List.drop_eq_getElem_cons hlt', cntS, if_pos hn]
        · simp only [go_sem, tms_low]
          rw [i64_id (by omega), i64_id (by omega)]
          simp
      · simp only [go_sem, List.length_map, hlt, hn]
        refine EvK.go 1000 ?_
        simp only [go_sem, hn]
        have : cntS (ts.drop i) n = n := by cases ts.drop i <;> simp [cntS, hn]
        simp [← h3, this, hn]
    · simp only [go_sem, List.length_map, hlt]
      refine EvK.go 1000 ?_
      simp only [go_sem]
      have : i = ts.length := by omega
      subst this
      rw [← h3, List.drop_length, cntS]
end Go.Proofs

/- Both sides of each literal, twice; what is few. -/
set_option linter.unusedSimpArgs false
namespace Go.Proofs
open Go Go.Abs
attribute [local go_sem] Nat.reduceAdd Nat.reduceSub Nat.reduceMul Nat.reduceLeDiff Nat.reduceEqDiff Nat.reduceBEq
theorem Terms10_eq (c : List Li) (hc : c.length ≤ 2600000000000) : CallEq Tryz.prog 49 [.ps 5 (lits c)] (.ps 2 ((sides c).map Tm.toA)) := by
  refine CallEq.begin (rs := [.tmp 2]) (m := 24) 1000 Tryz.func49 rfl rfl rfl (by decide) (tms_low _) ?_
  simp only [go_sem]
  refine EvK.loopR (ι := {i : Nat // i ≤ c.length}) 1000 (fun i => mkT 25 [(0, .ps 5 (lits c)), (3, slA 0 2 ((sides (c.take i.1)).map Tm.toA)), (4, .int .i64 i.1)]) (fun i => [slB ((sides (c.take i.1)).map Tm.toA)]) (fun i => c.length - i.1) ⟨0, by omega⟩ [] ?_ (fun _ => by simp) ?_
  · refine leR_mk rfl ?_
    simp only [go_sem, sides, List.flatMap_nil, slA_nil, slB_nil, lits_low, renL_low0, Int.natCast_zero]
  · rintro ⟨i, hi⟩
    have hln := sides_len (c.take i)
    have hlt2 : (c.take i).length ≤ c.length := by rw [List.length_take]; omega
    have hstep := fun h => sides_snoc c i h
    generalize hq : sides (c.take i) = q at *
    simp only [go_sem, lits_len, hq]
    refine ⟨fun hlt => ?_, fun hge => ?_⟩
    · have hlt' : i < c.length := by omega
      refine EvK.draw [⟨none, [], [1]⟩, .no, .no, .no, .no, .no, .no, .no, .no, .no, .no, ⟨some 1, [1], []⟩, ⟨some 2, [0, 2], []⟩] 1 3 mixed rfl rfl (by decide) ?_
      simp only [go_sem, padS, lits_len, Int.toNat_natCast, lits_get hlt', li_cells, Nat.le_refl, app_slA2, appOk, List.mem_cons, List.not_mem_nil, forall_eq_or_imp, forall_eq, Nat.zero_lt_two, List.length_map]
      refine ⟨by omega, by omega, by omega, ?_⟩
      refine EvK.go 1000 ?_
      simp only [go_sem]
      refine ⟨⟨i + 1, hlt'⟩, [(0, 2), (2, 0)], leR_mk rfl ?_, by simp only; omega⟩
      simp only [hstep hlt']
      rw [i64_id (by omega)]
      have e1 : (q ++ [c[i].l, c[i].r]).map Tm.toA = q.map Tm.toA ++ [.agg [.int .i64 c[i].l.head, .ps 2 (c[i].l.args.map Tm.toA)], .agg [.int .i64 c[i].r.head, .ps 2 (c[i].r.args.map Tm.toA)]] := by
        rw [List.map_append, List.map_cons, List.map_cons, List.map_nil, toA_eq c[i].l, toA_eq c[i].r]
      have lw : lowL 0 ((q ++ [c[i].l, c[i].r]).map Tm.toA) := tms_low _
      rw [e1] at lw ⊢
      rw [slA_app (by simp), slB_app (by simp)]
      simp only [go_sem, lits_low, renL_low0, renL_low0 lw, List.length_map, lowL_mono (Nat.zero_le 1) lw, Int.natCast_add, Int.natCast_one, Nat.zero_lt_one]
    · refine EvK.go 1000 ?_
      have : i = c.length := by omega
      subst this
      rw [List.take_length] at hq
      simp only [go_sem, hq, pT_slA]

theorem LitsFew_eq (c : List Li) : CallEq Tryz.prog 48 [.ps 5 (lits c)] (.bool (litsFew c)) := by
  refine CallEq.begin (rs := [.tmp 2]) (m := 10) 1000 Tryz.func48 rfl rfl rfl (by decide) trivial ?_
  by_cases h : (c.length : Int) ≤ 40
  · simp only [go_sem, lits_len, h]
    refine VCall.isoT [] (Terms10_eq c (by omega)) (pTL_refl _ _ _) (by simp [go_sem, lits_low]) ?_
    rw [frzI_nil]
    simp only [ite_self]
    refine EvK.go 1000 ?_
    simp only [go_sem]
    have hl := sides_len c
    refine VCall.isoT [] (SumFew_eq (sides c) (by omega)) (pTL_refl _ _ _) (by simp [go_sem, tms_low]) ?_
    simp only [flatR, flatA, flatC, if_true]
    refine EvK.go 1000 ?_
    have : c.length ≤ 40 := by omega
    simp only [go_sem, litsFew, this]
  · simp only [go_sem, lits_len, h]
    have : ¬ c.length ≤ 40 := by omega
    simp [litsFew, this]

end Go.Proofs

/- Right signatures, right terms of a signature, worlds' values. -/
namespace Go.Proofs
open Go Go.Abs

theorem emptyName (s : ByteArray) : (s.toList == ByteArray.toList { data := #[] }) = decide ((s.size : Int) < 1) := by
  by_cases h : (s.size : Int) < 1
  · have e : s = { data := #[] } := by
      obtain ⟨d⟩ := s
      have : d.size = 0 := by have : d.size = (ByteArray.mk d).size := rfl; omega
      rw [Array.size_eq_zero_iff.1 this]
    rw [decide_eq_true h, e]; exact beq_self_eq_true _
  · rw [decide_eq_false h]
    cases c : (s.toList == ByteArray.toList { data := #[] }) with
    | false => rfl
    | true =>
      rw [bytes_eq c] at h
      exact absurd (by decide) h

def Sy.right (x : Sy) : Bool := !(decide ((x.name.size : Int) < 1) || decide (64 < (x.name.size : Int)) || decide (x.arity < 0) || decide (8 < x.arity) || decide (x.weight < 1) || decide (1000 < x.weight))

def Sy.dflt : Sy := ⟨⟨#[]⟩, 0, 0, false⟩
def trueName : ByteArray := ⟨#[36, 116, 114, 117, 101]⟩

/-- No one ahead of it has its name. -/
def fresh (g : List Sy) (i : Nat) : Bool := (g.take i).all fun s => !(s.name.toList == (g.getD i Sy.dflt).name.toList)
def okAt (g : List Sy) (i : Nat) : Bool := (g.getD i Sy.dflt).right && fresh g i
def isTrue (x : Sy) : Bool := x.name.toList == trueName.toList && (x.arity == 0 && (x.weight == 1 && x.truth))
def sigOk (g : List Sy) : Bool := !(decide ((g.length : Int) < 1) || decide (256 < (g.length : Int))) && (List.range g.length).all (okAt g) && isTrue (g.getD 0 Sy.dflt)

theorem getD_at {g : List Sy} {i : Nat} (h : i < g.length) : g.getD i Sy.dflt = g[i] := by simp [List.getD, h]

theorem range_all_snoc (p : Nat → Bool) (n : Nat) : (List.range (n + 1)).all p = ((List.range n).all p && p n) := by
  rw [List.range_succ, List.all_append]; simp

theorem all_false_at {p : Nat → Bool} {n i : Nat} (hi : i < n) (h : p i = false) : (List.range n).all p = false := by
  rw [List.all_eq_false]; exact ⟨i, by simpa using hi, by simp [h]⟩

theorem sym_bad {x : Sy} (h : (x.name.size : Int) < 1 ∨ 64 < (x.name.size : Int) ∨ x.arity < 0 ∨ 8 < x.arity ∨ x.weight < 1 ∨ 1000 < x.weight) : x.right = false := by
  simp only [Sy.right, Bool.not_eq_false', Bool.or_eq_true, decide_eq_true_eq]; omega
theorem sym_good {x : Sy} (h : ¬ (x.name.size : Int) < 1 ∧ ¬ 64 < (x.name.size : Int) ∧ ¬ x.arity < 0 ∧ ¬ 8 < x.arity ∧ ¬ x.weight < 1 ∧ ¬ 1000 < x.weight) : x.right = true := by
  simp only [Sy.right, Bool.not_eq_true', Bool.or_eq_false_iff, decide_eq_false_iff_not]; omega
def symAt (g : List Sy) (h : Int) : Sy := g.getD h.toNat Sy.dflt

mutual
def Tm.known (g : List Sy) : Tm → Bool
  | .mk h ts => decide (h < 0) || (!(decide ((g.length : Int) ≤ h)) && decide ((ts.length : Int) = (symAt g h).arity) && Tm.knowns g ts)
def Tm.knowns (g : List Sy) : List Tm → Bool
  | [] => true
  | t :: ts => t.known g && Tm.knowns g ts
end

def Tm.truth (g : List Sy) (t : Tm) : Bool := decide (0 ≤ t.head) && decide (t.head < (g.length : Int)) && (symAt g t.head).truth

mutual
def Tm.things (g : List Sy) : Tm → Bool
  | .mk _ ts => Tm.thingsL g ts
def Tm.thingsL (g : List Sy) : List Tm → Bool
  | [] => true
  | t :: ts => (!t.truth g && t.things g) && Tm.thingsL g ts
end

def Tm.term (g : List Sy) (t : Tm) : Int := if sigOk g = false then 1 else if t.check ≠ 0 then t.check else if t.known g = false then 1 else if t.things g = false then 10 else 0

def Li.check (g : List Sy) (l : Li) : Int := if l.l.term g ≠ 0 then l.l.term g else if l.r.term g ≠ 0 then l.r.term g else
  if (l.l.truth g && decide (l.r.head ≠ 0)) || (!l.l.truth g && l.r.truth g) then 10 else 0

/-- The first that is not right, if there is one. -/
def litsCheck (g : List Sy) : List Li → Int
  | [] => 0
  | l :: c => if l.check g ≠ 0 then l.check g else litsCheck g c
def clauseCheck (g : List Sy) (c : List Li) : Int := if sigOk g = false then 1 else if 32 < (c.length : Int) then 2 else litsCheck g c

theorem litsCheck_drop (g : List Sy) (c : List Li) (i : Nat) (h : i < c.length) : litsCheck g (c.drop i) = if c[i].check g ≠ 0 then c[i].check g else litsCheck g (c.drop (i + 1)) := by
  rw [List.drop_eq_getElem_cons h, litsCheck]

/-! ### worlds -/
end Go.Proofs

/- Right signatures, as the document's answer tells them. -/
set_option linter.unusedSimpArgs false
namespace Go.Proofs
open Go Go.Abs
attribute [local go_sem] Nat.reduceAdd Nat.reduceSub Nat.reduceMul Nat.reduceLeDiff Nat.reduceEqDiff Nat.reduceBEq
end Go.Proofs

/- Terms, literals and clauses of a signature, as the document's answer tells them. -/
set_option linter.unusedSimpArgs false
namespace Go.Proofs
open Go Go.Abs
attribute [local go_sem] Nat.reduceAdd Nat.reduceSub Nat.reduceMul Nat.reduceLeDiff Nat.reduceEqDiff Nat.reduceBEq
end Go.Proofs

/- Right worlds, and the values of terms in them. -/
namespace Go.Proofs
open Go Go.Abs

theorem sigOk_len {g : List Sy} (h : sigOk g = true) : 1 ≤ g.length ∧ g.length ≤ 256 := by
  simp only [sigOk, Bool.and_eq_true, Bool.not_eq_true', Bool.or_eq_false_iff, decide_eq_false_iff_not] at h
  omega
end Go.Proofs

/- Right worlds, as the document's answer tells them. -/
set_option linter.unusedSimpArgs false
namespace Go.Proofs
open Go Go.Abs
attribute [local go_sem] Nat.reduceAdd Nat.reduceSub Nat.reduceMul Nat.reduceLeDiff Nat.reduceEqDiff Nat.reduceBEq
end Go.Proofs

/- The values of terms in a world. -/
namespace Go.Proofs
open Go Go.Abs

theorem mem_add1 {o : List Int} {v x : Int} : x ∈ add1 o v ↔ x ∈ o ∨ x = v := by
  unfold add1; split
  · constructor
    · exact .inl
    · rintro (h | rfl) <;> assumption
  · simp
theorem mem_addNew : ∀ (l o : List Int) (x : Int), x ∈ addNew o l ↔ x ∈ o ∨ x ∈ l
  | [], o, x => by simp [addNew]
  | v :: l, o, x => by
    have h : addNew o (v :: l) = addNew (add1 o v) l := rfl
    rw [h, mem_addNew l, mem_add1, List.mem_cons, or_assoc]

theorem term_zero {g : List Sy} {t : Tm} (h : t.term g = 0) : t.check = 0 ∧ t.known g = true ∧ t.things g = true := by
  unfold Tm.term at h
  split at h
  · omega
  · split at h
    · rename_i h2; exact absurd h h2
    · rename_i h2
      split at h
      · omega
      · split at h
        · omega
        · rename_i h3 h4
          exact ⟨by simpa using h2, by simpa using h3, by simpa using h4⟩

end Go.Proofs

/- The values of terms, and where no literal holds, as the document's answer tells them. -/
set_option linter.unusedSimpArgs false
namespace Go.Proofs
open Go Go.Abs
attribute [local go_sem] Nat.reduceAdd Nat.reduceSub Nat.reduceMul Nat.reduceLeDiff Nat.reduceEqDiff Nat.reduceBEq
end Go.Proofs

/- Rows of things, and where a clause fails. -/
namespace Go.Proofs
open Go Go.Abs

theorem check_good {t : Tm} (h : t.check = 0) : t.good = true ∧ t.size ≤ 400 ∧ t.depth ≤ 40 := by
  unfold Tm.check at h
  split at h
  · omega
  · split at h
    · omega
    · split at h
      · exact ⟨by assumption, by omega, by omega⟩
      · omega

end Go.Proofs

/- Where a clause fails, as the document's answer tells it. -/
set_option linter.unusedSimpArgs false
namespace Go.Proofs
open Go Go.Abs
attribute [local go_sem] Nat.reduceAdd Nat.reduceSub Nat.reduceMul Nat.reduceLeDiff Nat.reduceEqDiff Nat.reduceBEq
end Go.Proofs

/- Functions over functions: where the first one stands of which something is so. -/
set_option linter.unusedSimpArgs false
namespace Go.Proofs
open Go Go.Abs
attribute [local go_sem] Nat.reduceAdd Nat.reduceSub Nat.reduceMul Nat.reduceLeDiff Nat.reduceEqDiff Nat.reduceBEq
/-- The place of the first so that it is so, or -1. -/
def idxF {α : Type} (p : α → Bool) : List α → Int → Int
  | [], _ => -1
  | a :: l, i => if p a then i else idxF p l (i + 1)
theorem idxF_any {α : Type} (p : α → Bool) : ∀ (l : List α) (i : Int), 0 ≤ i → decide (0 ≤ idxF p l i) = l.any p
  | [], i, _ => by simp [idxF]
  | a :: l, i, h => by
    simp only [idxF, List.any_cons]
    by_cases c : p a = true
    · simp [c, h]
    · rw [Bool.not_eq_true] at c
      simp only [c, Bool.false_eq_true, if_false, Bool.false_or]; exact idxF_any p l (i + 1) (by omega)

theorem IndexSym_eq (σ : Store) (c : AVal) (p : Sy → Bool) (l : List Sy) (hl : l.length < 2 ^ 62) (hs : lowSo σ.length σ) (hc : c.low σ.length)
    (hp : ∀ (i : Nat) (h : i < l.length), VCall Tryz.prog c [l[i].toA] σ (fun r σ' => r = .bool (p l[i]) ∧ σ' = σ)) :
    VCall Tryz.prog (.fn 139 [] []) [.ps 4 (syms l), c] σ (fun r σ' => r = .int .i64 (idxF p l 0) ∧ σ' = σ) := by
  refine VCall.begin (rs := [.tmp 4]) (m := 17) 1000 Tryz.func139 rfl rfl rfl rfl rfl ?_
  simp only [go_sem]
  refine EvK.loopI (ι := {i : Nat // i ≤ l.length ∧ idxF p (l.drop i) i = idxF p l 0}) 1000 (fun i => mkT 19 [(0, .ps 4 (syms l)), (1, c), (7, .int .i64 l.length), (8, .int .i64 i.1)]) (fun _ => σ) (fun i => l.length - i.1) ⟨0, by simp⟩ ?_ (fun _ => Nat.le_refl _) ?_
  · simp only [go_sem, syms_low, syms_len, hc, hs, Int.natCast_zero]
    exact leSo_refl σ
  · rintro ⟨i, hi, hpre⟩
    by_cases hlt : (i : Int) < l.length
    · have hlt' : i < l.length := by omega
      have hd : idxF p (l.drop i) i = if p l[i] then (i : Int) else idxF p (l.drop (i + 1)) ((i : Int) + 1) := by
        rw [List.drop_eq_getElem_cons hlt']; rfl
      simp only [go_sem, hlt, syms_len, Int.toNat_natCast, syms_get hlt', sy_cells, Nat.le_refl]
      (repeat ((with_reducible refine And.intro ?_ ?_); · omega))
      refine (hp i hlt').mono ?_
      rintro r σ' ⟨rfl, rfl⟩
      refine EvK.go 1000 ?_
      cases e : p l[i] with
      | true =>
        rw [hd, e, if_pos rfl] at hpre
        simp only [go_sem]
        refine EvK.go 1000 ?_
        simp only [go_sem, ← hpre]
        rw [dK_eq]; exact ⟨σ', leSo_refl σ', Nat.le_refl _, hs, trivial, rfl, rfl⟩
      | false =>
        rw [hd, e, if_neg (by decide)] at hpre
        simp only [go_sem]
        refine ⟨⟨i + 1, hlt', hpre⟩, ?_, by simp only; omega⟩
        simp only [go_sem, syms_low, hc, hs]
        rw [i64_id (by omega)]; exact ⟨rfl, leSo_refl σ'⟩
    · have hi' : i = l.length := by omega
      subst hi'
      rw [List.drop_length] at hpre
      simp only [go_sem, hlt]
      refine EvK.go 1000 ?_
      simp only [go_sem, ← hpre]
      rw [dK_eq]; exact ⟨σ, leSo_refl σ, Nat.le_refl _, hs, trivial, rfl, rfl⟩

theorem ContainsSym_eq (σ : Store) (c : AVal) (p : Sy → Bool) (l : List Sy) (hl : l.length < 2 ^ 62) (hs : lowSo σ.length σ) (hc : c.low σ.length)
    (hp : ∀ (i : Nat) (h : i < l.length), VCall Tryz.prog c [l[i].toA] σ (fun r σ' => r = .bool (p l[i]) ∧ σ' = σ)) :
    VCall Tryz.prog (.fn 100 [] []) [.ps 4 (syms l), c] σ (fun r σ' => r = .bool (l.any p) ∧ σ' = σ) := by
  refine VCall.begin (rs := [.tmp 4]) (m := 7) 1000 Tryz.func100 rfl rfl rfl rfl rfl ?_
  simp only [go_sem]
  refine (IndexSym_eq σ c p l hl hs hc hp).mono ?_
  rintro r σ' ⟨rfl, rfl⟩
  refine EvK.go 1000 ?_
  simp only [go_sem]
  rw [dK_eq, idxF_any p l 0 (by omega)]; exact ⟨σ', leSo_refl σ', Nat.le_refl _, hs, trivial, rfl, rfl⟩
end Go.Proofs

/- Right signatures, as the program tells them. -/
set_option linter.unusedSimpArgs false
namespace Go.Proofs
open Go Go.Abs
attribute [local go_sem] Nat.reduceAdd Nat.reduceSub Nat.reduceMul Nat.reduceLeDiff Nat.reduceEqDiff Nat.reduceBEq
theorem SameName_eq (x y : Sy) : VCall Tryz.prog (.fn 101 [] [.ptr 0 0]) [y.toA] [some (.var [.str x.name, .int .i64 x.arity, .int .i64 x.weight, .bool x.truth])]
    (fun r σ' => r = .bool (y.name.toList == x.name.toList) ∧ σ' = [some (.var [.str x.name, .int .i64 x.arity, .int .i64 x.weight, .bool x.truth])]) := by
  refine VCall.begin (rs := [.tmp 3]) (m := 7) 1000 Tryz.func101 rfl rfl rfl rfl rfl ?_
  simp only [go_sem, sy_eq]
  rw [dK_eq]
  exact ⟨[some (.var [.str x.name, .int .i64 x.arity, .int .i64 x.weight, .bool x.truth])], by simp [go_sem], Nat.le_refl _, by simp [go_sem], trivial, rfl, rfl⟩

theorem CheckSig_eq (g : List Sy) : CallEq Tryz.prog 63 [.ps 4 (syms g)] (.int .i64 (if sigOk g then 0 else 1)) := by
  refine CallEq.begin (rs := [.tmp 2]) (m := 65) 1000 Tryz.func63 rfl rfl rfl (by decide) trivial ?_
  by_cases c1 : (g.length : Int) < 1
  · simp only [go_sem, syms_len, c1, sigOk]
  by_cases c2 : 256 < (g.length : Int)
  · simp only [go_sem, syms_len, c1, c2, sigOk]
  have h0 : 0 < g.length := by omega
  have e0 : (syms g).getD 0 .undef = g[0].toA := syms_get h0
  have f1 : decide ((g.length : Int) < 1) = false := decide_eq_false c1
  have f2 : decide (256 < (g.length : Int)) = false := decide_eq_false c2
  have hsg : sigOk g = ((List.range g.length).all (okAt g) && isTrue g[0]) := by rw [sigOk, f1, f2, getD_at h0]; simp
  have bad : ∀ i, i < g.length → okAt g i = false → sigOk g = false := fun i hi hb => by
    rw [hsg, all_false_at (p := okAt g) hi hb]; rfl
  have hT : (g[0].name.toList == ByteArray.toList { data := #[36, 116, 114, 117, 101] } && (g[0].arity == 0 && (g[0].weight == 1 && g[0].truth == true))) = isTrue g[0] := by simp [isTrue, trueName]
  simp only [go_sem, syms_len, c1, c2, Int.toNat_zero, e0, sy_cells, Nat.le_refl, kaV_str, eqCells, eqCell, hT]
  refine ⟨by omega, fun h => ?_, fun h => ?_⟩
  · have hf : isTrue g[0] = false := by simpa using h
    have : sigOk g = false := by rw [hsg, hf, Bool.and_false]
    rw [this]; rfl
  have hTt : isTrue g[0] = true := by simpa using h
  simp only [go_sem, hTt]
  refine EvK.loopI (ι := {i : Nat // i ≤ g.length ∧ (List.range i).all (okAt g) = true}) 1000 (fun i => mkT 66 [(0, .ps 4 (syms g)), (21, .ps 4 (syms g)), (22, .int .i64 g.length), (23, .int .i64 i.1)]) (fun _ => []) (fun i => g.length - i.1) ⟨0, by simp⟩ ?_ (fun _ => Nat.zero_le _) ?_
  · simp only [go_sem, syms_low, Int.natCast_zero, syms_len]
  · rintro ⟨i, hi, hpre⟩
    by_cases hlt : (i : Int) < g.length
    · have hlt' : i < g.length := by omega
      have hga := getD_at hlt'
      have hg0 : (syms g).getD i .undef = g[i].toA := syms_get hlt'
      have htk : List.take i (syms g) = syms (g.take i) := by simp [syms, List.map_take]
      generalize hx : g[i] = x at hga hg0
      simp only [go_sem, syms_len, hlt, Int.toNat_natCast, hg0, sy_cells, Nat.le_refl]
      (repeat ((with_reducible refine And.intro ?_ ?_); · omega))
      rw [show List.take (i - 0) (syms g) = syms (g.take i) from htk]
      refine (ContainsSym_eq _ _ (fun y => y.name.toList == x.name.toList) (g.take i) (by rw [List.length_take]; omega) ?_ ?_ ?_).mono ?_
      · simp [go_sem]
      · simp [go_sem]
      · exact fun j hj => SameName_eq x _
      rintro r σ' ⟨rfl, rfl⟩
      refine EvK.go 1000 ?_
      have hfr : fresh g i = !(g.take i).any (fun y => y.name.toList == x.name.toList) := by
        rw [fresh, hga, List.all_eq_not_any_not]; simp
      have hok : okAt g i = (x.right && !(g.take i).any (fun y => y.name.toList == x.name.toList)) := by rw [okAt, hga, hfr]
      have hbad : ∀ (hb : x.right = false ∨ (g.take i).any (fun y => y.name.toList == x.name.toList) = true), (if sigOk g = true then (0 : Int) else 1) = 1 := fun hb => by
        rw [bad i hlt' (by rw [hok]; rcases hb with h | h <;> simp [h])]; rfl
      generalize (g.take i).any (fun y => y.name.toList == x.name.toList) = tw at *
      by_cases d1 : (x.name.size : Int) < 1
      · simp only [go_sem, emptyName, d1]
        refine EvK.go 1000 ?_
        simp only [go_sem, hbad (.inl (sym_bad (.inl d1)))]
      by_cases d2 : 64 < (x.name.size : Int)
      · simp only [go_sem, emptyName, d1, d2]
        refine EvK.go 1000 ?_
        simp only [go_sem, hbad (.inl (sym_bad (.inr (.inl d2))))]
      cases tw with
      | true =>
        simp only [go_sem, emptyName, d1, d2]
        refine EvK.go 1000 ?_
        simp only [go_sem, hbad (.inr rfl)]
      | false =>
      by_cases d3 : x.arity < 0
      · simp only [go_sem, emptyName, d1, d2, d3]
        refine EvK.go 1000 ?_
        simp only [go_sem, hbad (.inl (sym_bad (.inr (.inr (.inl d3)))))]
      by_cases d4 : 8 < x.arity
      · simp only [go_sem, emptyName, d1, d2, d3, d4]
        refine EvK.go 1000 ?_
        simp only [go_sem, hbad (.inl (sym_bad (.inr (.inr (.inr (.inl d4))))))]
      by_cases d5 : x.weight < 1
      · simp only [go_sem, emptyName, d1, d2, d3, d4, d5]
        refine EvK.go 1000 ?_
        simp only [go_sem, hbad (.inl (sym_bad (.inr (.inr (.inr (.inr (.inl d5)))))))]
      by_cases d6 : 1000 < x.weight
      · simp only [go_sem, emptyName, d1, d2, d3, d4, d5, d6]
        refine EvK.go 1000 ?_
        simp only [go_sem, hbad (.inl (sym_bad (.inr (.inr (.inr (.inr (.inr d6)))))))]
      have hxr := sym_good ⟨d1, d2, d3, d4, d5, d6⟩
      simp only [go_sem, emptyName, d1, d2, d3, d4, d5, d6]
      refine ⟨⟨i + 1, hlt', by rw [range_all_snoc, hpre, hok, hxr]; rfl⟩, ?_, by simp only; omega⟩
      simp only [go_sem, syms_low, syms_len]
      rw [i64_id (by omega)]; rfl
    · have hi' : i = g.length := by omega
      simp only [go_sem, hlt]
      subst hi'
      refine EvK.go 1000 ?_
      rw [hsg, hpre, hTt]
      simp only [go_sem]
end Go.Proofs

/- A term's parts in their order, and how a stack goes through them. -/
namespace Go.Proofs
open Go Go.Abs

mutual
/-- The parts, each with how deep it stands; a term ahead of its arguments. -/
def Tm.pre : Tm → Int → List (Int × Tm)
  | .mk h ts, d => (d, .mk h ts) :: Tm.pres ts (d + 1)
def Tm.pres : List Tm → Int → List (Int × Tm)
  | [], _ => []
  | t :: ts, d => t.pre d ++ Tm.pres ts d
end
mutual
theorem pre_len : ∀ (t : Tm) (d : Int), (t.pre d).length = t.size
  | .mk h ts, d => by simp only [Tm.pre, List.length_cons, Tm.size]; rw [pres_len ts]; omega
theorem pres_len : ∀ (ts : List Tm) (d : Int), (Tm.pres ts d).length = Tm.sizes ts
  | [], _ => rfl
  | t :: ts, d => by simp only [Tm.pres, List.length_append, Tm.sizes]; rw [pre_len t, pres_len ts]
end

/-- What a stack still brings; its top stands first. -/
def rem (stk : List (Int × Tm)) : List (Int × Tm) := stk.flatMap fun x => x.2.pre x.1
theorem rem_nil : rem [] = [] := rfl
theorem rem_cons (x : Int × Tm) (r : List (Int × Tm)) : rem (x :: r) = x.2.pre x.1 ++ rem r := rfl
theorem rem_one (t : Tm) (d : Int) : rem [(d, t)] = t.pre d := by rw [rem_cons, rem_nil, List.append_nil]
theorem rem_push (d : Int) (ts : List Tm) (r : List (Int × Tm)) : rem (ts.map (fun t => (d, t)) ++ r) = Tm.pres ts d ++ rem r := by
  induction ts with
  | nil => rfl
  | cons t ts ih =>
    rw [List.map_cons, List.cons_append, rem_cons, ih, ← List.append_assoc]; rfl
theorem rem_len (stk : List (Int × Tm)) : stk.length ≤ (rem stk).length := by
  induction stk with
  | nil => exact Nat.le_refl _
  | cons x r ih => rw [rem_cons, List.length_append, pre_len, List.length_cons]; have := size_pos x.2; omega

/-- A part on the stack. -/
def plA (x : Int × Tm) : AVal := .agg [.int .i64 x.2.head, .ps 2 (x.2.args.map Tm.toA), .int .i64 x.1]
theorem plA_cells (x : Int × Tm) : (plA x).cells = [.int .i64 x.2.head, .ps 2 (x.2.args.map Tm.toA), .int .i64 x.1] := rfl
theorem plA_eq (x : Int × Tm) : plA x = .agg [.int .i64 x.2.head, .ps 2 (x.2.args.map Tm.toA), .int .i64 x.1] := rfl
theorem plA_low {n : Nat} (x : Int × Tm) : (plA x).low n := ⟨trivial, tms_low _, trivial, trivial⟩
theorem pls_low {n : Nat} (l : List (Int × Tm)) : lowL n (l.map plA) := lowL_map fun x _ => plA_low x

theorem lowL_app {n : Nat} {b : List AVal} : ∀ {a : List AVal}, lowL n a → lowL n b → lowL n (a ++ b)
  | [], _, h => h
  | _ :: _, ha, h => ⟨ha.1, lowL_app ha.2 h⟩

/-- As deep as they can stand. -/
def deepOk (T : Int) (x : Int × Tm) : Prop := 1 ≤ x.1 ∧ x.1 + x.2.size ≤ T

/-- Right at its top. -/
def topGood (t : Tm) : Bool := !(t.head < 0 && decide (0 < t.args.length) || t.head < -256 || decide (1023 < t.head) || decide (8 < t.args.length))
def maxDeep (l : List (Int × Tm)) (a : Int) : Int := l.foldl (fun m x => max m x.1) a
theorem maxDeep_app (l m : List (Int × Tm)) (a : Int) : maxDeep (l ++ m) a = maxDeep m (maxDeep l a) := List.foldl_append
mutual
theorem pre_deep : ∀ (t : Tm) (d a : Int), maxDeep (t.pre d) a = max a (d + t.depth - 1)
  | .mk h ts, d, a => by
    have e : maxDeep ((Tm.mk h ts).pre d) a = maxDeep (Tm.pres ts (d + 1)) (max a d) := rfl
    rw [e, pres_deep ts (d + 1) (max a d) (by omega)]
    simp only [Tm.depth]; omega
theorem pres_deep : ∀ (ts : List Tm) (d a : Int), d - 1 ≤ a → maxDeep (Tm.pres ts d) a = max a (d + Tm.depths ts - 1)
  | [], d, a, h => by simp only [Tm.pres, maxDeep, List.foldl_nil, Tm.depths]; omega
  | t :: ts, d, a, h => by
    simp only [Tm.pres, maxDeep_app, Tm.depths]
    rw [pre_deep t d a, pres_deep ts d _ (by omega)]; omega
end
mutual
theorem pre_good : ∀ (t : Tm) (d : Int), (t.pre d).any (fun x => !topGood x.2) = !t.good
  | .mk h ts, d => by
    simp only [Tm.pre, List.any_cons, Tm.good]
    rw [pres_good ts]
    simp only [topGood, Tm.head, Tm.args, Bool.not_and, Bool.not_not]
    rfl
theorem pres_good : ∀ (ts : List Tm) (d : Int), (Tm.pres ts d).any (fun x => !topGood x.2) = !Tm.goods ts
  | [], d => rfl
  | t :: ts, d => by
    simp only [Tm.pres, List.any_append, Tm.goods]
    rw [pre_good t, pres_good ts, Bool.not_and]
end
theorem maxDeep_bound : ∀ (l : List (Int × Tm)) (a : Int), 0 ≤ a → a < 2 ^ 62 → (∀ x ∈ l, x.1 < 2 ^ 62) → 0 ≤ maxDeep l a ∧ maxDeep l a < 2 ^ 62
  | [], a, h0, h1, _ => ⟨h0, h1⟩
  | x :: l, a, h0, h1, h => by
    have hx := h x (by simp)
    exact maxDeep_bound l (max a x.1) (by omega) (by omega) fun z hz => h z (by simp [hz])
theorem take_snoc {α : Type} {l : List α} {k : Nat} (h : k < l.length) : l.take (k + 1) = l.take k ++ [l[k]] := by
  rw [List.take_add_one, List.getElem?_eq_getElem h]; rfl
theorem pre_bound (t : Tm) (d : Int) : ∀ x ∈ t.pre d, d ≤ x.1 ∧ x.1 ≤ d + t.size := by
  have key : ∀ (t : Tm) (d : Int), ∀ x ∈ t.pre d, d ≤ x.1 ∧ x.1 ≤ d + t.depth - 1 := by
    intro t
    induction t using Tm.rec_args with
    | h h ts ih =>
      intro d x hx
      simp only [Tm.pre, List.mem_cons] at hx
      rcases hx with rfl | hx
      · simp only [Tm.depth]; omega
      · have hs : ∀ (us : List Tm) (e : Int), (∀ (i : Nat) (hi : i < us.length) (d : Int) (x : Int × Tm), x ∈ us[i].pre d → d ≤ x.1 ∧ x.1 ≤ d + us[i].depth - 1) → ∀ x ∈ Tm.pres us e, e ≤ x.1 ∧ x.1 ≤ e + Tm.depths us - 1 := by
          intro us
          induction us with
          | nil => intro e _ x hx; simp [Tm.pres] at hx
          | cons u us ih2 =>
            intro e hh x hx
            simp only [Tm.pres, List.mem_append] at hx
            simp only [Tm.depths]
            rcases hx with hx | hx
            · have := hh 0 (by simp) e x hx; simp only [List.getElem_cons_zero] at this; omega
            · have := ih2 e (fun i hi => hh (i + 1) (by simpa using hi)) x hx; omega
        have := hs ts (d + 1) (fun i hi d x hx => ih i hi d x hx) x hx
        simp only [Tm.depth]; omega
  intro x hx
  have := key t d x hx
  have := depth_le_size t
  omega

/-! ### variables in the order of the parts -/
def addV (o : List Int) (x : Int × Tm) : List Int := if x.2.head < 0 then add1 o (-1 - x.2.head) else o
def foldV (l : List (Int × Tm)) (o : List Int) : List Int := l.foldl addV o
theorem foldV_app (l m : List (Int × Tm)) (o : List Int) : foldV (l ++ m) o = foldV m (foldV l o) := List.foldl_append
theorem add1_add1 (o l : List Int) (v : Int) : addNew o (add1 l v) = add1 (addNew o l) v := by
  unfold add1
  by_cases h : v ∈ l
  · rw [if_pos h, if_pos ((mem_addNew l o v).2 (.inr h))]
  · rw [if_neg h]
    simp only [addNew, List.foldl_append, List.foldl_cons, List.foldl_nil]; rfl
theorem addNew_addNew : ∀ (l2 o l1 : List Int), addNew o (addNew l1 l2) = addNew (addNew o l1) l2
  | [], _, _ => rfl
  | v :: l2, o, l1 => by
    have h : ∀ o, addNew o (v :: l2) = addNew (add1 o v) l2 := fun _ => rfl
    rw [h, addNew_addNew l2, add1_add1, h]
mutual
theorem pre_vars : ∀ (t : Tm) (d : Int) (o : List Int), foldV (t.pre d) o = addNew o t.vars
  | .mk h ts, d, o => by
    have e : foldV ((Tm.mk h ts).pre d) o = foldV (Tm.pres ts (d + 1)) (if h < 0 then add1 o (-1 - h) else o) := rfl
    rw [e, pres_vars ts (d + 1) _ (if h < 0 then [-1 - h] else []) o ?_]
    · rfl
    · split <;> rfl
theorem pres_vars : ∀ (ts : List Tm) (d : Int) (o l o0 : List Int), addNew o0 l = o → foldV (Tm.pres ts d) o = addNew o0 (Tm.varsL ts l)
  | [], d, o, l, o0, h => h.symm
  | t :: ts, d, o, l, o0, h => by
    simp only [Tm.pres, foldV_app, Tm.varsL]
    rw [pre_vars t d o]
    exact pres_vars ts d _ _ o0 (by rw [addNew_addNew, h])
end
theorem nodup_add1 {o : List Int} {v : Int} (h : o.Nodup) : (add1 o v).Nodup := by
  unfold add1; split
  · exact h
  · rename_i hn; rw [List.nodup_append]; exact ⟨h, by simp, by simp; intro a ha hav; exact hn (hav ▸ ha)⟩
theorem nodup_addNew : ∀ (l o : List Int), o.Nodup → (addNew o l).Nodup
  | [], _, h => h
  | v :: l, o, h => nodup_addNew l (add1 o v) (nodup_add1 h)
theorem addNew_nodup : ∀ (l o : List Int), l.Nodup → (∀ v ∈ l, v ∉ o) → addNew o l = o ++ l
  | [], o, _, _ => by simp [addNew]
  | v :: l, o, h, hd => by
    have h' : addNew o (v :: l) = addNew (add1 o v) l := rfl
    have hv : add1 o v = o ++ [v] := if_neg (hd v (by simp))
    rw [h', hv, addNew_nodup l _ (List.nodup_cons.1 h).2]
    · simp
    · intro x hx hm
      rcases List.mem_append.1 hm with hm | hm
      · exact hd x (by simp [hx]) hm
      · rw [List.mem_singleton.1 hm] at hx; exact (List.nodup_cons.1 h).1 hx
mutual
theorem vars_nodup : ∀ t : Tm, t.vars.Nodup
  | .mk h ts => varsL_nodup ts _ (by split <;> simp)
theorem varsL_nodup : ∀ (ts : List Tm) (o : List Int), o.Nodup → (Tm.varsL ts o).Nodup
  | [], _, h => h
  | t :: ts, o, h => varsL_nodup ts _ (nodup_addNew _ _ h)
end
theorem pre_vars0 (t : Tm) (d : Int) : foldV (t.pre d) [] = t.vars := by
  rw [pre_vars, addNew_nodup _ _ (vars_nodup t) (by simp), List.nil_append]
theorem foldV_len (l : List (Int × Tm)) : ∀ o : List Int, (foldV l o).length ≤ o.length + l.length := by
  induction l with
  | nil => intro o; simp [foldV]
  | cons x l ih =>
    intro o
    have := ih (addV o x)
    have h2 : (addV o x).length ≤ o.length + 1 := by
      unfold addV; split
      · exact add1_len _ _
      · omega
    have e : foldV (x :: l) o = foldV l (addV o x) := rfl
    rw [e]; simp only [List.length_cons]; omega

mutual
theorem pre_fit : ∀ (t : Tm), t.fit → ∀ (d : Int), ∀ x ∈ t.pre d, x.2.fit
  | .mk h ts, hf, d, x, hx => by
    simp only [Tm.pre, List.mem_cons] at hx
    rcases hx with rfl | hx
    · exact hf
    · exact pres_fit ts hf.2 _ x hx
theorem pres_fit : ∀ (ts : List Tm), Tm.fits ts → ∀ (d : Int), ∀ x ∈ Tm.pres ts d, x.2.fit
  | [], _, d, x, hx => by simp [Tm.pres] at hx
  | t :: ts, hf, d, x, hx => by
    simp only [Tm.pres, List.mem_append] at hx
    rcases hx with hx | hx
    · exact pre_fit t hf.1 d x hx
    · exact pres_fit ts hf.2 d x hx
end
end Go.Proofs

/- The parts of a term, one after the other. -/
set_option linter.unusedSimpArgs false
namespace Go.Proofs
open Go Go.Abs
attribute [local go_sem] Nat.reduceAdd Nat.reduceSub Nat.reduceMul Nat.reduceLeDiff Nat.reduceEqDiff Nat.reduceBEq
theorem Backward_eq (ts : List Tm) (n0 : Nat) (σ0 : Store) (S : Nat → Store) (p : Nat) (y : AVal) (h0 : σ0.length = n0) (hS0 : σ0 ++ [none] = S 0) (hlen : ∀ i, (S i).length = n0 + 1) (hget : ∀ i, getS (S i) p = some (.var [.ps 2 (ts.map Tm.toA)])) (hp : p < n0)
    (hs : ∀ i, lowSo (n0 + 1) (S i)) (hs0 : lowSo n0 σ0) (hy0 : y.low n0) (hl : ts.length < 2 ^ 62)
    (hy : ∀ i (h : i < ts.length), VCall Tryz.prog y [.int .i64 ((ts.length : Int) - 1 - i), ts[ts.length - 1 - i].toA] (S i) (fun r σ' => r = .bool true ∧ n0 + 1 ≤ σ'.length ∧ lowSo σ'.length σ' ∧ ∃ π : Nat → Nat, (∀ b, b < n0 → π b = b) ∧ (∀ b b', b < n0 + 1 → b' < n0 + 1 → π b = π b' → b = b') ∧ leSoR π σ' 0 (S (i + 1)))) :
    VCall Tryz.prog (.fn 178 [] [.ptr p 0]) [y] σ0 (fun _ σ' => σ' = S ts.length) := by
  subst h0
  refine VCall.beginK (rs := []) (m := 17) Tryz.func178 rfl rfl rfl rfl rfl ?_
  refine EvK.pad 1 (Nat.le_refl _) (by simp [go_sem, hy0, hp]) hs0 ?_
  rw [show List.replicate 1 (none : Option Blk) = [none] from rfl, hS0]
  refine EvK.go 1000 ?_
  simp only [go_sem, hget, Nat.le_refl, List.length_map]
  rw [i64_id (by omega)]
  have hlo0 : lowSo (σ0.length + 1) (S 0) := hs 0
  refine EvK.loopI (ι := {i : Nat // i ≤ ts.length}) 1000 (fun i => mkT 19 [(0, y), (1, .ptr p 0), (3, .int .i64 ((ts.length : Int) - 1 - i.1))]) (fun i => S i.1) (fun i => ts.length - i.1) ⟨0, by omega⟩ ?_ (fun i => by rw [hlen]; exact Nat.le_succ _) ?_
  · simp only [go_sem, hlen, hlo0, low_mono (Nat.le_succ _) hy0, Int.natCast_zero, Int.sub_zero]
    exact ⟨leSo_refl _, by omega⟩
  · rintro ⟨i, hi⟩
    by_cases hlt : 0 ≤ (ts.length : Int) - 1 - i
    · have hlt' : i < ts.length := by omega
      have hb : ts.length - 1 - i < ts.length := by omega
      have hn : ((ts.length : Int) - 1 - i).toNat = ts.length - 1 - i := by omega
      simp only [go_sem, hlt, hget, Nat.le_refl, List.length_map, hn, map_getD hb, toA_cells]
      rw [← toA_eq]
      (repeat ((with_reducible refine And.intro ?_ ?_); · omega))
      refine EvK.callS0 (.bool true) trivial (by rw [hlen]; exact Nat.le_succ _) ?_ ?_ ?_ ?_ ?_ ?_
      · rw [hlen]; exact low_mono (Nat.le_succ _) hy0
      · simp [go_sem, toA_low]
      · rw [hlen]; exact hs i
      · rw [hlen]
        simp [go_sem, awayL_cons, awayL_nil, aw_low, hy0, hp, tms_low, toA_low]
      · rw [hlen]
        have hy1 := low_mono (Nat.le_succ _) hy0
        simp [go_sem, hy1, tms_low, toA_low]; omega
      rw [hlen]
      refine (hy i hlt').mono ?_
      rintro r σ' ⟨k1, k2, k3, π, k4, k5, k6⟩
      refine ⟨k1, k2, k3, π, S (i + 1), hlen _, k4, k5, k6, hs _, ?_⟩
      refine EvK.go 1000 ?_
      simp only [go_sem]
      refine ⟨⟨i + 1, hlt'⟩, ?_, by simp only; omega⟩
      have hlo1 : lowSo (σ0.length + 1) (S (i + 1)) := hs (i + 1)
      simp only [go_sem, hlen, hlo1, low_mono (Nat.le_succ _) hy0]
      rw [i64_id (by omega)]
      exact ⟨by rw [show (ts.length : Int) - 1 - i - 1 = ts.length - 1 - ((i + 1 : Nat) : Int) by omega], leSo_refl _, by omega⟩
    · have hi' : i = ts.length := by omega
      subst hi'
      simp only [go_sem, hlt]
      refine EvK.go 1000 ?_
      simp only [go_sem]
      rw [dK_eq]
      exact ⟨S ts.length, leSo_refl _, by rw [hlen]; exact Nat.le_succ _, by rw [hlen]; exact hs _, trivial, rfl⟩

theorem BackwardF_eq (ts : List Tm) (σ : Store) (hs : lowSo σ.length σ) : VCall Tryz.prog (.fn 162 [] []) [.ps 2 (ts.map Tm.toA)] σ
    (fun r σ' => r = .fn 178 [] [.ptr σ.length 0] ∧ σ' = σ ++ [some (.var [.ps 2 (ts.map Tm.toA)])]) := by
  refine VCall.begin (rs := [.tmp 2]) (m := 3) 1000 Tryz.func162 rfl rfl rfl rfl rfl ?_
  simp only [go_sem]
  rw [setS_end, dK_eq]
  exact ⟨_, leSo_refl _, by simp, lowSo_app (lowSo_mono (by simp) hs) (by simp [go_sem, tms_low]), by simp [go_sem], rfl, rfl⟩

theorem Parts_eq (t : Tm) (σ : Store) (hs : lowSo σ.length σ) : VCall Tryz.prog (.fn 128 [] []) [t.toA] σ
    (fun r σ' => r = .fn 161 [] [.ptr σ.length 0] ∧ σ' = σ ++ [some (.var [.int .i64 t.head, .ps 2 (t.args.map Tm.toA)])]) := by
  refine VCall.begin (rs := [.tmp 2]) (m := 3) 1000 Tryz.func128 rfl rfl rfl rfl rfl ?_
  simp only [go_sem, toA_eq]
  rw [setS_end, dK_eq]
  exact ⟨_, leSo_refl _, by simp, lowSo_app (lowSo_mono (by simp) hs) (by simp [go_sem, tms_low]), by simp [go_sem], rfl, rfl⟩

theorem Parts1_eq (t : Tm) (hsz : t.size < 999999999) (n0 : Nat) (hn0 : n0 ≤ 8) (σ0 : Store) (b0 b1 b2 b3 b4 b5 b6 b7 : Nat → Option Blk) (p : Nat) (y : AVal) (h0 : σ0.length = n0)
    (hS0 : σ0 ++ List.replicate (8 - n0) none = [b0 0, b1 0, b2 0, b3 0, b4 0, b5 0, b6 0, b7 0]) (hget : getS [b0 0, b1 0, b2 0, b3 0, b4 0, b5 0, b6 0, b7 0] p = some (.var [.int .i64 t.head, .ps 2 (t.args.map Tm.toA)])) (hp : p < n0)
    (hs : ∀ k, lowSo 8 [b0 k, b1 k, b2 k, b3 k, b4 k, b5 k, b6 k, b7 k]) (hs0 : lowSo n0 σ0) (hy0 : y.low n0)
    (hy : ∀ k (h : k < (t.pre 1).length), VCall Tryz.prog y [.int .i64 (t.pre 1)[k].1, (t.pre 1)[k].2.toA] [b0 k, b1 k, b2 k, b3 k, b4 k, b5 k, b6 k, b7 k]
      (fun r σ' => r = .bool true ∧ 8 ≤ σ'.length ∧ lowSo σ'.length σ' ∧ ∃ π : Nat → Nat, (∀ b, b < n0 → π b = b) ∧ (∀ b b', b < 8 → b' < 8 → π b = π b' → b = b') ∧ leSoR π σ' 0 [b0 (k + 1), b1 (k + 1), b2 (k + 1), b3 (k + 1), b4 (k + 1), b5 (k + 1), b6 (k + 1), b7 (k + 1)])) :
    VCall Tryz.prog (.fn 161 [] [.ptr p 0]) [y] σ0 (fun _ σ' => σ' = [b0 t.size, b1 t.size, b2 t.size, b3 t.size, b4 t.size, b5 t.size, b6 t.size, b7 t.size]) := by
  subst h0
  refine VCall.beginK (rs := []) (m := 43) Tryz.func161 rfl rfl rfl rfl rfl ?_
  refine EvK.pad (8 - σ0.length) (Nat.le_refl _) (by simp [go_sem, hy0, hp]) hs0 ?_
  rw [hS0]
  have hpl := pre_len t 1
  refine EvK.go 1000 ?_
  simp only [go_sem, hget, Nat.le_refl]
  refine ⟨by decide, ?_⟩
  refine EvK.loopR (ι := {x : List (Int × Tm) × List AVal × Nat // x.2.2 ≤ t.size ∧ (t.pre 1).drop x.2.2 = rem x.1 ∧ (∀ z ∈ x.1, deepOk (t.size + 1) z) ∧ lowL 0 x.2.1}) 1000 (fun x => mkT 45 [(0, y), (1, .ptr p 0), (3, .ptr 9 0)])
    (fun x => [b0 x.1.2.2, b1 x.1.2.2, b2 x.1.2.2, b3 x.1.2.2, b4 x.1.2.2, b5 x.1.2.2, b6 x.1.2.2, b7 x.1.2.2, some (.row (x.1.1.reverse.map plA ++ x.1.2.1) 0), some (.var [.os 8 0 x.1.1.length 3])]) (fun x => t.size - x.1.2.2)
    ⟨([(1, t)], [], 0), Nat.zero_le _, by rw [List.drop_zero]; exact (rem_one t 1).symm, by simp [deepOk, Int.add_comm], trivial⟩ [] ?_ (fun _ => by simp; omega) ?_
  · refine leR_mk (piOk_nil _ _) ⟨?_, ?_, ?_, ?_⟩
    · have hy1 := renL_id (pi []) _ (fun _ _ => rfl) [y] ⟨hy0, trivial⟩
      simp only [renL, List.cons.injEq, and_true] at hy1
      simp only [go_sem, hy1]
    · refine leSoR_pre (B := [b0 0, b1 0, b2 0, b3 0, b4 0, b5 0, b6 0, b7 0]) (hs 0) (fun _ _ => rfl) ?_
      simp only [go_sem, List.reverse_cons, List.reverse_nil, List.nil_append, List.map_cons, List.map_nil, List.append_nil, plA_eq, renL_low0 (tms_low _)]
    · have hy1 := low_mono (m := 10) (by omega) hy0
      simp only [go_sem, hy1]
      omega
    · refine lowSo_app (σ := [b0 0, b1 0, b2 0, b3 0, b4 0, b5 0, b6 0, b7 0]) (lowSo_mono (Nat.le_add_right 8 2) (hs 0)) ?_
      simp [go_sem, tms_low, plA_eq]
  · rintro ⟨⟨stk, junk, k⟩, h1, h2, h3, h4⟩
    simp only at h1 h2 h3 h4
    cases stk with
    | nil =>
      have hk : k = t.size := by
        have := congrArg List.length h2
        simp only [rem, List.flatMap_nil, List.length_nil, List.length_drop, hpl] at this; omega
      subst hk
      simp only [go_sem, List.length_nil, Int.natCast_zero, Int.lt_irrefl]
      refine EvK.go 1000 ?_
      simp only [go_sem]
      rw [dK_eq]
      refine ⟨[b0 t.size, b1 t.size, b2 t.size, b3 t.size, b4 t.size, b5 t.size, b6 t.size, b7 t.size], by simp [go_sem], by simpa using hn0, hs _, trivial, rfl⟩
    | cons x r =>
      have hlen : ((x :: r).reverse.map plA ++ junk).length = r.length + 1 + junk.length := by simp; omega
      have hes : (x :: r).reverse.map plA ++ junk = r.reverse.map plA ++ plA x :: junk := by simp
      have hgx : (r.reverse.map plA ++ plA x :: junk).getD r.length .undef = plA x := by simp
      have hlen2 : (r.reverse.map plA ++ plA x :: junk).length = r.length + 1 + junk.length := by rw [← hes, hlen]
      have hrl : r.length < 1000000000 := by
        have := congrArg List.length h2
        have h5 := rem_len (x :: r)
        rw [List.length_drop, hpl] at this
        simp only [List.length_cons] at h5; omega
      have hw1 : IntKind.i64.wrap ((r.length : Int) + 1 - 1) = r.length := by rw [i64_id (by omega)]; omega
      have hpos : (0 : Int) < r.length + 1 := by omega
      simp only [go_sem, List.length_cons, hes, Int.natCast_add, Int.natCast_one, hpos, hw1, hlen2, Int.toNat_natCast, hgx, plA_cells, Nat.le_refl]
      obtain ⟨d, ⟨hd, ts⟩⟩ := x
      have hk : k < (t.pre 1).length := by
        have := congrArg List.length h2
        have h5 := rem_len ((d, Tm.mk hd ts) :: r)
        rw [List.length_drop] at this
        simp only [List.length_cons] at h5; omega
      rw [List.drop_eq_getElem_cons hk, rem_cons, Tm.pre, List.cons_append, ← rem_push] at h2
      obtain ⟨hLk, hdr⟩ := List.cons.inj h2
      have hcap : r.length + Tm.sizes ts < 999999999 := by
        have := congrArg List.length hdr
        rw [List.length_drop, rem_push, List.length_append, pres_len] at this
        have := rem_len r
        omega
      have hdeep : deepOk (t.size + 1) (d, Tm.mk hd ts) := h3 _ (by simp)
      simp only [deepOk, Tm.size] at hdeep
      have hyk := hy k hk
      rw [hLk] at hyk
      simp only [Tm.head, Tm.args, Nat.sub_zero]
      rw [toA_mk]
      have hjl : ∀ n, lowL n (r.reverse.map plA ++ plA (d, Tm.mk hd ts) :: junk) := fun n => lowL_app (pls_low _) ⟨plA_low _, lowL_mono (Nat.zero_le _) h4⟩
      (repeat ((with_reducible refine And.intro ?_ ?_); · omega))
      refine EvK.callS (σ := [b0 k, b1 k, b2 k, b3 k, b4 k, b5 k, b6 k, b7 k]) (τ := [some (.row (r.reverse.map plA ++ plA (d, Tm.mk hd ts) :: junk) 0), some (.var [.os 8 0 r.length 3]), some (.var [.int .i64 hd, .ps 2 (ts.map Tm.toA), .int .i64 d])]) (.bool true) trivial (by simpa using hn0) ?_ ?_ (hs k) ?_ ?_ ?_ ?_ ?_
      · exact low_mono hn0 hy0
      · simp [go_sem, toA_low]
      · simp [go_sem, awayL_cons, awayL_nil, aw_low, aw_ptr, aw_os, aw_rp, hy0, hp, tms_low, toA_low]
      · simp only [awayS_cons, awayS_nil, awB_row, awB_var]
        refine ⟨awayL_low (hjl _), ?_, ?_, trivial⟩
        · simp [awayL_cons, awayL_nil, aw_os]
        · simp [awayL_cons, awayL_nil, aw_low, go_sem, tms_low]
      · have hy1 := low_mono (m := 11) (by omega) hy0
        simp [go_sem, hy1, tms_low, toA_low]; omega
      · exact ⟨hjl _, ⟨by simp [go_sem], trivial⟩, by simp [go_sem, lowO, Blk.low, tms_low], trivial⟩
      refine hyk.mono ?_
      rintro r' σ' ⟨k1, k2, k3, π, k4, k5, k6⟩
      refine ⟨k1, k2, k3, π, [b0 (k + 1), b1 (k + 1), b2 (k + 1), b3 (k + 1), b4 (k + 1), b5 (k + 1), b6 (k + 1), b7 (k + 1)], rfl, k4, k5, k6, hs _, ?_⟩
      refine EvK.go 1000 ?_
      simp only [go_sem]
      have hsk := lowSo_mono (m := 11) (by decide) (hs (k + 1))
      simp only [lowSo_cons, lowSo_nil, and_true] at hsk
      refine (BackwardF_eq ts _ ?_).mono ?_
      · simp only [go_sem, lowSo_cons, hsk, hjl, tms_low, lowO_some, and_true, true_and, List.length_cons, List.length_nil]; decide
      rintro _ _ ⟨rfl, rfl⟩
      refine EvK.go 1000 ?_
      simp only [go_sem]
      refine EvK.rangeFunc (mkT 45 [(3, .ptr 9 0), (4, .ptr 10 0)]) ?_ ?_ (fun ρ ht hpa hat hbo => ?_)
      · simp only [go_sem]
      · exact fun b hb => by cases hb
      simp only [go_sem]
      let S : Nat → Store := fun i => match i with
        | 0 => [b0 (k + 1), b1 (k + 1), b2 (k + 1), b3 (k + 1), b4 (k + 1), b5 (k + 1), b6 (k + 1), b7 (k + 1), some (.row (r.reverse.map plA ++ plA (d, Tm.mk hd ts) :: junk) 0), some (.var [.os 8 0 r.length 3]), some (.var [.int .i64 hd, .ps 2 (ts.map Tm.toA), .int .i64 d]), some (.var [.ps 2 (ts.map Tm.toA)]), some (.loop (ρ.at .ready)), none]
        | i + 1 => [b0 (k + 1), b1 (k + 1), b2 (k + 1), b3 (k + 1), b4 (k + 1), b5 (k + 1), b6 (k + 1), b7 (k + 1), none, some (.var [.os 13 0 (r.length + (i + 1)) 3]), some (.var [.int .i64 hd, .ps 2 (ts.map Tm.toA), .int .i64 d]), some (.var [.ps 2 (ts.map Tm.toA)]), some (.loop (ρ.at .ready)), some (.row (((ts.drop (ts.length - (i + 1))).map (fun u => (d + 1, u)) ++ r).reverse.map plA) 0)]
      have hS0 : S 0 = [b0 (k + 1), b1 (k + 1), b2 (k + 1), b3 (k + 1), b4 (k + 1), b5 (k + 1), b6 (k + 1), b7 (k + 1), some (.row (r.reverse.map plA ++ plA (d, Tm.mk hd ts) :: junk) 0), some (.var [.os 8 0 r.length 3]), some (.var [.int .i64 hd, .ps 2 (ts.map Tm.toA), .int .i64 d]), some (.var [.ps 2 (ts.map Tm.toA)]), some (.loop (ρ.at .ready)), none] := rfl
      have hS1 : ∀ i, S (i + 1) = [b0 (k + 1), b1 (k + 1), b2 (k + 1), b3 (k + 1), b4 (k + 1), b5 (k + 1), b6 (k + 1), b7 (k + 1), none, some (.var [.os 13 0 (r.length + (i + 1)) 3]), some (.var [.int .i64 hd, .ps 2 (ts.map Tm.toA), .int .i64 d]), some (.var [.ps 2 (ts.map Tm.toA)]), some (.loop (ρ.at .ready)), some (.row (((ts.drop (ts.length - (i + 1))).map (fun u => (d + 1, u)) ++ r).reverse.map plA) 0)] := fun i => rfl
      refine (Backward_eq ts 13 _ S 11 (.yld 12) rfl rfl (fun i => by cases i <;> rfl) (fun i => by cases i <;> rfl) (by decide) (fun i => ?_) ?_ (Nat.lt_succ_self 12) ?_ (fun i hi => ?_)).mono ?_
      · have hρl : lowL 14 ρ.tm := by rw [ht]; simp [go_sem, mkT_cons, mkT_nil]
        have hpre := lowSo_mono (m := 14) (by decide) (hs (k + 1))
        cases i with
        | zero => exact lowSo_app (σ := [b0 (k + 1), b1 (k + 1), b2 (k + 1), b3 (k + 1), b4 (k + 1), b5 (k + 1), b6 (k + 1), b7 (k + 1)]) hpre ⟨hjl _, ⟨by simp [go_sem], trivial⟩, by simp [go_sem, lowO, Blk.low, tms_low], by simp [go_sem, lowO, Blk.low, tms_low], hρl, trivial, trivial⟩
        | succ i => exact lowSo_app (σ := [b0 (k + 1), b1 (k + 1), b2 (k + 1), b3 (k + 1), b4 (k + 1), b5 (k + 1), b6 (k + 1), b7 (k + 1)]) hpre ⟨trivial, ⟨by simp [go_sem], trivial⟩, by simp [go_sem, lowO, Blk.low, tms_low], by simp [go_sem, lowO, Blk.low, tms_low], hρl, pls_low _, trivial⟩
      · have hρl : lowL 13 ρ.tm := by rw [ht]; simp [go_sem, mkT_cons, mkT_nil]
        have hpre := lowSo_mono (m := 13) (by decide) (hs (k + 1))
        exact lowSo_app (σ := [b0 (k + 1), b1 (k + 1), b2 (k + 1), b3 (k + 1), b4 (k + 1), b5 (k + 1), b6 (k + 1), b7 (k + 1)]) hpre ⟨hjl _, ⟨by simp [go_sem], trivial⟩, by simp [go_sem, lowO, Blk.low, tms_low], by simp [go_sem, lowO, Blk.low, tms_low], hρl, trivial⟩
      · have := len_le_sizes ts
        omega
      · have hwd : IntKind.i64.wrap (d + 1) = d + 1 := i64_id (by omega)
        have hlt := len_le_sizes ts
        have htn : t.size < 999999999 := hsz
        have hb : ts.length - 1 - i < ts.length := by omega
        have hcut : ts.drop (ts.length - (i + 1)) = ts[ts.length - 1 - i] :: ts.drop (ts.length - i) := by
          rw [show ts.length - (i + 1) = ts.length - 1 - i by omega, List.drop_eq_getElem_cons hb, show ts.length - 1 - i + 1 = ts.length - i by omega]
        generalize ts[ts.length - 1 - i] = u at *
        have hpu : AVal.agg [.int .i64 u.head, .ps 2 (u.args.map Tm.toA), .int .i64 (d + 1)] = plA (d + 1, u) := rfl
        have hρ13 : lowL 13 ρ.tm := by rw [ht]; simp [go_sem, mkT_cons, mkT_nil]
        have hloop : ∀ π : Nat → Nat, (∀ b, b < 13 → π b = b) → renB π (.loop (ρ.at .ready)) = .loop (ρ.at .ready) := fun π hπ => renB_id π 13 hπ _ hρ13
        cases i with
        | zero =>
          have htk : List.take r.length (r.reverse.map plA ++ plA (d, Tm.mk hd ts) :: junk) = r.reverse.map plA := by rw [List.take_left' (by simp)]
          refine VCall.yieldK 1000 ht hpa hat hbo (by rw [hS0]; rfl) rfl ?_
          clear_value S
          rw [hS0]
          simp only [go_sem, toA_cells, Nat.le_refl, hwd, appOk, List.mem_singleton, forall_eq, hlen2, htk]
          (repeat ((with_reducible refine And.intro ?_ ?_); · omega))
          rw [rE_eq]
          have hsw : ∀ b, b < 13 → pi [(13, 16), (16, 13)] b = b := by decide
          have hst : [b0 (k + 1), b1 (k + 1), b2 (k + 1), b3 (k + 1), b4 (k + 1), b5 (k + 1), b6 (k + 1), b7 (k + 1), none, some (.var [.os 16 0 (r.length + 1) 3]), some (.var [.int .i64 hd, .ps 2 (ts.map Tm.toA), .int .i64 d]), some (.var [.ps 2 (ts.map Tm.toA)]), some (.loop (ρ.at .ready)), none, none, none, some (.row (r.reverse.map plA ++ [plA (d + 1, u)]) 0)] = ([b0 (k + 1), b1 (k + 1), b2 (k + 1), b3 (k + 1), b4 (k + 1), b5 (k + 1), b6 (k + 1), b7 (k + 1)] ++ [none, some (.var [.os 16 0 (r.length + 1) 3]), some (.var [.int .i64 hd, .ps 2 (ts.map Tm.toA), .int .i64 d]), some (.var [.ps 2 (ts.map Tm.toA)]), some (.loop (ρ.at .ready)), none, none, none, some (.row (r.reverse.map plA ++ [plA (d + 1, u)]) 0)] : Store) := rfl
          have hlow3 : lowSo 17 [b0 (k + 1), b1 (k + 1), b2 (k + 1), b3 (k + 1), b4 (k + 1), b5 (k + 1), b6 (k + 1), b7 (k + 1), none, some (.var [.os 16 0 (r.length + 1) 3]), some (.var [.int .i64 hd, .ps 2 (ts.map Tm.toA), .int .i64 d]), some (.var [.ps 2 (ts.map Tm.toA)]), some (.loop (ρ.at .ready)), none, none, none, some (.row (r.reverse.map plA ++ [plA (d + 1, u)]) 0)] := by
            rw [hst]
            exact lowSo_app (lowSo_mono (Nat.le_add_right 8 9) (hs (k + 1))) ⟨trivial, ⟨Nat.lt_succ_self 16, trivial⟩, by simp [go_sem, lowO, Blk.low, tms_low], by simp [go_sem, lowO, Blk.low, tms_low], lowL_mono (Nat.le_add_right 13 4) hρ13, trivial, trivial, trivial, lowL_app (pls_low _) ⟨plA_low _, trivial⟩, trivial⟩
          refine ⟨rfl, [b0 (k + 1), b1 (k + 1), b2 (k + 1), b3 (k + 1), b4 (k + 1), b5 (k + 1), b6 (k + 1), b7 (k + 1), none, some (.var [.os 16 0 (r.length + 1) 3]), some (.var [.int .i64 hd, .ps 2 (ts.map Tm.toA), .int .i64 d]), some (.var [.ps 2 (ts.map Tm.toA)]), some (.loop (ρ.at .ready)), none, none, none, some (.row (r.reverse.map plA ++ [plA (d + 1, u)]) 0)], ?_, ?_, hlow3, rfl, ?_, hlow3, pi [(13, 16), (16, 13)], hsw, ?_, ?_⟩
          · simp [go_sem, hpu]
          · exact Nat.le_add_right 14 3
          · exact Nat.le_add_right 14 3
          · exact piOk_inj (lo := 0) rfl
          · rw [hS1]
            refine leSoR_pre (B := [b0 (k + 1), b1 (k + 1), b2 (k + 1), b3 (k + 1), b4 (k + 1), b5 (k + 1), b6 (k + 1), b7 (k + 1)]) (hs (k + 1)) (fun b hb => hsw b (by simp at hb; omega)) ?_
            simp only [go_sem, hloop _ hsw, Nat.reduceEqDiff, if_true, if_false, Nat.reduceAdd, List.length_cons, List.length_nil, and_true, true_and, renL_low0 (tms_low _), renL_low0 (pls_low _)]
            refine ⟨(hloop _ hsw).symm, ?_⟩
            rw [show ts.length - 1 = ts.length - (0 + 1) from rfl, hcut]
            simp
        | succ i =>
          have hln3 : (((ts.drop (ts.length - (i + 1))).map (fun u => (d + 1, u)) ++ r).reverse.map plA).length = r.length + (i + 1) := by simp; omega
          have htk3 : List.take (r.length + (i + 1)) (((ts.drop (ts.length - (i + 1))).map (fun u => (d + 1, u)) ++ r).reverse.map plA) = ((ts.drop (ts.length - (i + 1))).map (fun u => (d + 1, u)) ++ r).reverse.map plA := List.take_of_length_le (by rw [hln3]; exact Nat.le_refl _)
          refine VCall.yieldK 1000 ht hpa hat hbo (by rw [hS1]; rfl) rfl ?_
          clear_value S
          rw [hS1]
          simp only [go_sem, toA_cells, Nat.le_refl, hwd, appOk, List.mem_singleton, forall_eq, hln3, htk3]
          (repeat ((with_reducible refine And.intro ?_ ?_); · omega))
          rw [rE_eq]
          have hsw : ∀ b, b < 13 → pi [(13, 16), (16, 13)] b = b := by decide
          have hst : [b0 (k + 1), b1 (k + 1), b2 (k + 1), b3 (k + 1), b4 (k + 1), b5 (k + 1), b6 (k + 1), b7 (k + 1), none, some (.var [.os 16 0 (r.length + (i + 1) + 1) 3]), some (.var [.int .i64 hd, .ps 2 (ts.map Tm.toA), .int .i64 d]), some (.var [.ps 2 (ts.map Tm.toA)]), some (.loop (ρ.at .ready)), none, none, none, some (.row (((ts.drop (ts.length - (i + 1))).map (fun u => (d + 1, u)) ++ r).reverse.map plA ++ [plA (d + 1, u)]) 0)] = ([b0 (k + 1), b1 (k + 1), b2 (k + 1), b3 (k + 1), b4 (k + 1), b5 (k + 1), b6 (k + 1), b7 (k + 1)] ++ [none, some (.var [.os 16 0 (r.length + (i + 1) + 1) 3]), some (.var [.int .i64 hd, .ps 2 (ts.map Tm.toA), .int .i64 d]), some (.var [.ps 2 (ts.map Tm.toA)]), some (.loop (ρ.at .ready)), none, none, none, some (.row (((ts.drop (ts.length - (i + 1))).map (fun u => (d + 1, u)) ++ r).reverse.map plA ++ [plA (d + 1, u)]) 0)] : Store) := rfl
          have hlow3 : lowSo 17 [b0 (k + 1), b1 (k + 1), b2 (k + 1), b3 (k + 1), b4 (k + 1), b5 (k + 1), b6 (k + 1), b7 (k + 1), none, some (.var [.os 16 0 (r.length + (i + 1) + 1) 3]), some (.var [.int .i64 hd, .ps 2 (ts.map Tm.toA), .int .i64 d]), some (.var [.ps 2 (ts.map Tm.toA)]), some (.loop (ρ.at .ready)), none, none, none, some (.row (((ts.drop (ts.length - (i + 1))).map (fun u => (d + 1, u)) ++ r).reverse.map plA ++ [plA (d + 1, u)]) 0)] := by
            rw [hst]
            exact lowSo_app (lowSo_mono (Nat.le_add_right 8 9) (hs (k + 1))) ⟨trivial, ⟨Nat.lt_succ_self 16, trivial⟩, by simp [go_sem, lowO, Blk.low, tms_low], by simp [go_sem, lowO, Blk.low, tms_low], lowL_mono (Nat.le_add_right 13 4) hρ13, trivial, trivial, trivial, lowL_app (pls_low _) ⟨plA_low _, trivial⟩, trivial⟩
          refine ⟨rfl, [b0 (k + 1), b1 (k + 1), b2 (k + 1), b3 (k + 1), b4 (k + 1), b5 (k + 1), b6 (k + 1), b7 (k + 1), none, some (.var [.os 16 0 (r.length + (i + 1) + 1) 3]), some (.var [.int .i64 hd, .ps 2 (ts.map Tm.toA), .int .i64 d]), some (.var [.ps 2 (ts.map Tm.toA)]), some (.loop (ρ.at .ready)), none, none, none, some (.row (((ts.drop (ts.length - (i + 1))).map (fun u => (d + 1, u)) ++ r).reverse.map plA ++ [plA (d + 1, u)]) 0)], ?_, ?_, hlow3, rfl, ?_, hlow3, pi [(13, 16), (16, 13)], hsw, ?_, ?_⟩
          · simp [go_sem, hpu]
          · exact Nat.le_add_right 14 3
          · exact Nat.le_add_right 14 3
          · exact piOk_inj (lo := 0) rfl
          · rw [hS1]
            refine leSoR_pre (B := [b0 (k + 1), b1 (k + 1), b2 (k + 1), b3 (k + 1), b4 (k + 1), b5 (k + 1), b6 (k + 1), b7 (k + 1)]) (hs (k + 1)) (fun b hb => hsw b (by simp at hb; omega)) ?_
            simp only [go_sem, hloop _ hsw, Nat.reduceEqDiff, if_true, if_false, Nat.reduceAdd, List.length_cons, List.length_nil, and_true, true_and, renL_low0 (tms_low _), renL_low0 (pls_low _)]
            refine ⟨by rw [Nat.add_assoc], (hloop _ hsw).symm, ?_⟩
            rw [hcut]
            simp
      rintro r' σ2 rfl
      rw [rK_eq]
      refine ⟨.ready, ?_, ?_⟩
      · cases ts.length <;> rfl
      rw [rD_ready]
      refine EvK.go 1000 ?_
      have hdp : ∀ z ∈ ts.map (fun u => (d + 1, u)) ++ r, deepOk (t.size + 1) z := by
        intro z hz
        rcases List.mem_append.1 hz with hz | hz
        · obtain ⟨u, hu, rfl⟩ := List.mem_map.1 hz
          obtain ⟨j, hj, rfl⟩ := List.mem_iff_getElem.1 hu
          have := size_le_sizes ts j hj
          simp only [deepOk]; omega
        · exact h3 z (by simp [hz])
      cases hN : ts.length with
      | zero =>
        obtain rfl := List.length_eq_zero_iff.1 hN
        rw [hS0]
        simp only [go_sem]
        refine ⟨⟨(r, plA (d, Tm.mk hd []) :: junk, k + 1), by simp only; omega, by simp only; rw [hdr]; rfl, fun z hz => h3 z (by simp at hz; simp [hz]), ⟨plA_low _, h4⟩⟩, [], leR_mk (piOk_nil _ _) ⟨?_, ?_, ?_, ?_⟩, by simp only; omega⟩
        · have hy1 := renL_id (pi []) _ (fun _ _ => rfl) [y] ⟨hy0, trivial⟩
          simp only [renL, List.cons.injEq, and_true] at hy1
          simp only [go_sem, hy1]
        · refine leSoR_pre (B := [b0 (k + 1), b1 (k + 1), b2 (k + 1), b3 (k + 1), b4 (k + 1), b5 (k + 1), b6 (k + 1), b7 (k + 1)]) (hs (k + 1)) (fun _ _ => rfl) ?_
          simp only [go_sem, renL_low0 (hjl 0)]
        · have hy1 := low_mono (m := 10) (by omega) hy0
          simp only [go_sem, hy1]
          omega
        · refine lowSo_app (σ := [b0 (k + 1), b1 (k + 1), b2 (k + 1), b3 (k + 1), b4 (k + 1), b5 (k + 1), b6 (k + 1), b7 (k + 1)]) (lowSo_mono (Nat.le_add_right 8 2) (hs (k + 1))) ?_
          exact ⟨hjl _, ⟨by simp [go_sem], trivial⟩, trivial⟩
      | succ N =>
        rw [hS1]
        have hd0 : ts.drop (ts.length - (N + 1)) = ts := by rw [hN, Nat.sub_self, List.drop_zero]
        simp only [go_sem, hd0]
        refine ⟨⟨(ts.map (fun u => (d + 1, u)) ++ r, [], k + 1), by simp only; omega, hdr, hdp, trivial⟩, [(8, 13), (13, 8)], leR_mk (piOk_le hn0 rfl) ⟨?_, ?_, ?_, ?_⟩, by simp only; omega⟩
        · have hy1 := renL_id (pi [(8, 13), (13, 8)]) 8 (by decide) [y] ⟨low_mono hn0 hy0, trivial⟩
          simp only [renL, List.cons.injEq, and_true] at hy1
          simp only [go_sem, hy1]
          rw [if_neg (by omega), if_neg (by omega)]
        · refine leSoR_pre (B := [b0 (k + 1), b1 (k + 1), b2 (k + 1), b3 (k + 1), b4 (k + 1), b5 (k + 1), b6 (k + 1), b7 (k + 1)]) (hs (k + 1)) (fun b hb => by simp only [List.length_cons, List.length_nil] at hb; revert b; decide) ?_
          simp only [go_sem, renL_low0 (pls_low _), List.append_nil]
          simp only [List.length_append, List.length_map, hN]
          rw [Nat.add_comm]
        · have hy1 := low_mono (m := 10) (by omega) hy0
          simp only [go_sem, hy1]
          omega
        · refine lowSo_app (σ := [b0 (k + 1), b1 (k + 1), b2 (k + 1), b3 (k + 1), b4 (k + 1), b5 (k + 1), b6 (k + 1), b7 (k + 1)]) (lowSo_mono (Nat.le_add_right 8 2) (hs (k + 1))) ?_
          exact ⟨lowL_app (pls_low _) trivial, ⟨by simp [go_sem], trivial⟩, trivial⟩
end Go.Proofs

/- Right terms, and the variables of terms, as the program tells them. -/
set_option linter.unusedSimpArgs false
namespace Go.Proofs
open Go Go.Abs
attribute [local go_sem] Nat.reduceAdd Nat.reduceSub Nat.reduceMul Nat.reduceLeDiff Nat.reduceEqDiff Nat.reduceBEq
theorem CheckT_eq (t : Tm) (hsz : t.size < 999999999) : CallEq Tryz.prog 121 [t.toA] (.int .i64 t.check) := by
  refine CallEq.begin (rs := [.tmp 2]) (m := 52) 1000 Tryz.func121 rfl rfl rfl (by decide) trivial ?_
  simp only [go_sem, toA_eq, Nat.le_refl]
  rw [← toA_eq]
  refine (Parts_eq t _ ?_).mono ?_
  · simp [go_sem, tms_low]
  rintro _ _ ⟨rfl, rfl⟩
  refine EvK.go 1000 ?_
  simp only [go_sem]
  refine EvK.rangeFunc (mkT 53 [(3, .ptr 1 0), (4, .ptr 2 0), (5, .ptr 3 0)]) ?_ ?_ (fun ρ ht hpa hat hbo => ?_)
  · simp only [go_sem]
  · exact fun b hb => by cases hb
  simp only [go_sem]
  have hpl := pre_len t 1
  have hdp := pre_deep t 1 0
  have hgd := pre_good t 1
  have hbd := pre_bound t 1
  have hρl : lowL 6 ρ.tm := by rw [ht]; simp [go_sem, mkT_cons, mkT_nil]
  have hst : ∀ k, lowSo 8 [some (.var [.int .i64 t.head, .ps 2 (t.args.map Tm.toA)]), some (.var [.int .i64 (k : Nat)]), some (.var [.int .i64 (maxDeep ((t.pre 1).take k) 0)]), some (.var [.bool (((t.pre 1).take k).any fun x => !topGood x.2)]), some (.var [.int .i64 t.head, .ps 2 (t.args.map Tm.toA)]), some (.loop (ρ.at .ready)), none, none] :=
    fun k => ⟨⟨trivial, tms_low _, trivial⟩, ⟨trivial, trivial⟩, ⟨trivial, trivial⟩, ⟨trivial, trivial⟩, ⟨trivial, tms_low _, trivial⟩, lowL_mono (by decide) hρl, trivial, trivial, trivial⟩
  refine (Parts1_eq t hsz 6 (by decide) _ (fun _ => some (.var [.int .i64 t.head, .ps 2 (t.args.map Tm.toA)])) (fun k => some (.var [.int .i64 (k : Nat)])) (fun k => some (.var [.int .i64 (maxDeep ((t.pre 1).take k) 0)]))
    (fun k => some (.var [.bool (((t.pre 1).take k).any fun x => !topGood x.2)])) (fun _ => some (.var [.int .i64 t.head, .ps 2 (t.args.map Tm.toA)])) (fun _ => some (.loop (ρ.at .ready))) (fun _ => none) (fun _ => none) 4 (.yld 5) rfl rfl rfl (by decide) hst ?_ (Nat.lt_succ_self 5) (fun k hk => ?_)).mono ?_
  · exact ⟨⟨trivial, tms_low _, trivial⟩, ⟨trivial, trivial⟩, ⟨trivial, trivial⟩, ⟨trivial, trivial⟩, ⟨trivial, tms_low _, trivial⟩, hρl, trivial⟩
  · have htk := take_snoc hk
    have hbk := hbd _ (List.getElem_mem hk)
    have hmx : 0 ≤ maxDeep ((t.pre 1).take k) 0 ∧ maxDeep ((t.pre 1).take k) 0 < 2 ^ 62 := maxDeep_bound _ 0 (by omega) (by omega) fun x hx => by have := hbd x (List.mem_of_mem_take hx); omega
    have hm1 : maxDeep ((t.pre 1).take (k + 1)) 0 = max (maxDeep ((t.pre 1).take k) 0) (t.pre 1)[k].1 := by rw [htk, maxDeep_app]; rfl
    have hg1 : ((t.pre 1).take (k + 1)).any (fun x => !topGood x.2) = (((t.pre 1).take k).any (fun x => !topGood x.2) || !topGood (t.pre 1)[k].2) := by rw [htk, List.any_append]; simp
    refine VCall.stay rfl (hst (k + 1)) ?_
    rw [hm1, hg1]
    generalize (t.pre 1)[k] = x at *
    generalize maxDeep ((t.pre 1).take k) 0 = mx at *
    generalize ((t.pre 1).take k).any (fun x => !topGood x.2) = wr at *
    obtain ⟨d, u⟩ := x
    simp only at hbk
    have hmax : (if mx < d then d else mx) = max mx d := by omega
    refine VCall.yieldK 1000 ht hpa hat hbo rfl rfl ?_
    simp only [go_sem, toA_cells, Nat.le_refl, List.length_map]
    have hk64 : -9223372036854775808 ≤ (k : Int) + 1 ∧ (k : Int) + 1 ≤ 9223372036854775807 := by omega
    have hk1 : ((k + 1 : Nat) : Int) = (k : Int) + 1 := rfl
    have hst' : ∀ X, lowSo 8 [some (.var [.int .i64 t.head, .ps 2 (t.args.map Tm.toA)]), some (.var [.int .i64 (k + 1 : Nat)]), some (.var [.int .i64 (max mx d)]), some (.var [.bool X]), some (.var [.int .i64 t.head, .ps 2 (t.args.map Tm.toA)]), some (.loop (ρ.at .ready)), none, none] := fun X => ⟨⟨trivial, tms_low _, trivial⟩, ⟨trivial, trivial⟩, ⟨trivial, trivial⟩, ⟨trivial, trivial⟩, ⟨trivial, tms_low _, trivial⟩, lowL_mono (by decide) hρl, trivial, trivial, trivial⟩
    refine EvK.go 1000 ?_
    refine EvK.draw [.no, .no, ⟨none, [], [1]⟩, ⟨none, [], [1]⟩, ⟨none, [], [1]⟩, ⟨none, [1], []⟩, ⟨none, [2], []⟩] 9 9 mixed rfl rfl (by decide) ?_
    simp only [go_sem, padS, hmax]
    refine EvK.go 1000 ?_
    have hgu : topGood u = !(u.head < 0 && decide ((0 : Int) < u.args.length) || u.head < -256 || decide (1023 < u.head) || decide ((8 : Int) < u.args.length)) := by
      simp only [topGood, Int.natCast_pos, show (8 : Int) < u.args.length ↔ 8 < u.args.length by omega]
    cases wr with
    | true =>
      simp only [go_sem, hmax, List.length_map, i64_id hk64]
      rw [rE_eq]
      refine ⟨rfl, [some (.var [.int .i64 t.head, .ps 2 (t.args.map Tm.toA)]), some (.var [.int .i64 (k + 1 : Nat)]), some (.var [.int .i64 (max mx d)]), some (.var [.bool true]), some (.var [.int .i64 t.head, .ps 2 (t.args.map Tm.toA)]), some (.loop (ρ.at .ready)), none, none], by simp [go_sem, hk1], Nat.le_refl _, hst' _, rfl, ?_⟩
      rfl
    | false =>
      by_cases d1 : u.head < 0
      · by_cases d2 : (0 : Int) < u.args.length
        · simp only [go_sem, hmax, d1, d2, List.length_map, i64_id hk64]
          rw [rE_eq]
          refine ⟨rfl, [some (.var [.int .i64 t.head, .ps 2 (t.args.map Tm.toA)]), some (.var [.int .i64 (k + 1 : Nat)]), some (.var [.int .i64 (max mx d)]), some (.var [.bool true]), some (.var [.int .i64 t.head, .ps 2 (t.args.map Tm.toA)]), some (.loop (ρ.at .ready)), none, none], by simp [go_sem, hk1], Nat.le_refl _, hst' _, rfl, ?_⟩
          rw [hgu, decide_eq_true d1, decide_eq_true d2]; rfl
        by_cases d3 : u.head < -256
        · simp only [go_sem, hmax, d1, d2, d3, List.length_map, i64_id hk64]
          rw [rE_eq]
          refine ⟨rfl, [some (.var [.int .i64 t.head, .ps 2 (t.args.map Tm.toA)]), some (.var [.int .i64 (k + 1 : Nat)]), some (.var [.int .i64 (max mx d)]), some (.var [.bool true]), some (.var [.int .i64 t.head, .ps 2 (t.args.map Tm.toA)]), some (.loop (ρ.at .ready)), none, none], by simp [go_sem, hk1], Nat.le_refl _, hst' _, rfl, ?_⟩
          rw [hgu, decide_eq_true d1, decide_eq_false d2, decide_eq_true d3]; rfl
        have d4 : ¬ 1023 < u.head := by omega
        have d5 : ¬ (8 : Int) < u.args.length := by omega
        simp only [go_sem, hmax, d1, d2, d3, d4, d5, List.length_map, i64_id hk64]
        rw [rE_eq]
        refine ⟨rfl, [some (.var [.int .i64 t.head, .ps 2 (t.args.map Tm.toA)]), some (.var [.int .i64 (k + 1 : Nat)]), some (.var [.int .i64 (max mx d)]), some (.var [.bool false]), some (.var [.int .i64 t.head, .ps 2 (t.args.map Tm.toA)]), some (.loop (ρ.at .ready)), none, none], by simp [go_sem, hk1], Nat.le_refl _, hst' _, rfl, ?_⟩
        rw [hgu, decide_eq_true d1, decide_eq_false d2, decide_eq_false d3, decide_eq_false d4, decide_eq_false d5]; rfl
      have d3 : ¬ u.head < -256 := by omega
      by_cases d4 : 1023 < u.head
      · simp only [go_sem, hmax, d1, d3, d4, List.length_map, i64_id hk64]
        rw [rE_eq]
        refine ⟨rfl, [some (.var [.int .i64 t.head, .ps 2 (t.args.map Tm.toA)]), some (.var [.int .i64 (k + 1 : Nat)]), some (.var [.int .i64 (max mx d)]), some (.var [.bool true]), some (.var [.int .i64 t.head, .ps 2 (t.args.map Tm.toA)]), some (.loop (ρ.at .ready)), none, none], by simp [go_sem, hk1], Nat.le_refl _, hst' _, rfl, ?_⟩
        rw [hgu, decide_eq_false d1, decide_eq_false d3, decide_eq_true d4]; rfl
      by_cases d5 : (8 : Int) < u.args.length
      · simp only [go_sem, hmax, d1, d3, d4, d5, List.length_map, i64_id hk64]
        rw [rE_eq]
        refine ⟨rfl, [some (.var [.int .i64 t.head, .ps 2 (t.args.map Tm.toA)]), some (.var [.int .i64 (k + 1 : Nat)]), some (.var [.int .i64 (max mx d)]), some (.var [.bool true]), some (.var [.int .i64 t.head, .ps 2 (t.args.map Tm.toA)]), some (.loop (ρ.at .ready)), none, none], by simp [go_sem, hk1], Nat.le_refl _, hst' _, rfl, ?_⟩
        rw [hgu, decide_eq_false d1, decide_eq_false d3, decide_eq_false d4, decide_eq_true d5]; rfl
      simp only [go_sem, hmax, d1, d3, d4, d5, List.length_map, i64_id hk64]
      rw [rE_eq]
      refine ⟨rfl, [some (.var [.int .i64 t.head, .ps 2 (t.args.map Tm.toA)]), some (.var [.int .i64 (k + 1 : Nat)]), some (.var [.int .i64 (max mx d)]), some (.var [.bool false]), some (.var [.int .i64 t.head, .ps 2 (t.args.map Tm.toA)]), some (.loop (ρ.at .ready)), none, none], by simp [go_sem, hk1], Nat.le_refl _, hst' _, rfl, ?_⟩
      rw [hgu, decide_eq_false d1, decide_eq_false d3, decide_eq_false d4, decide_eq_false d5]; rfl
  rintro r' σ2 rfl
  rw [rK_eq]
  refine ⟨.ready, rfl, ?_⟩
  rw [rD_ready]
  rw [← hpl, List.take_length, hdp, hgd, hpl]
  refine EvK.go 1000 ?_
  simp only [go_sem]
  have hdd : 1 ≤ t.depth := by cases t; simp only [Tm.depth]; omega
  unfold Tm.check
  refine ⟨fun h => by rw [if_pos (by omega)], fun h => ⟨fun h' => by rw [if_neg (by omega), if_pos (by omega)], fun h' => ⟨fun hg => ?_, fun hg => ?_⟩⟩⟩ <;> rw [if_neg (by omega), if_neg (by omega)]
  · rw [if_neg (by simpa using hg)]
  · rw [if_pos (by simpa using hg)]
end Go.Proofs

/- The variables of terms, as the program tells them. -/
set_option linter.unusedSimpArgs false
namespace Go.Proofs
open Go Go.Abs
attribute [local go_sem] Nat.reduceAdd Nat.reduceSub Nat.reduceMul Nat.reduceLeDiff Nat.reduceEqDiff Nat.reduceBEq
theorem IndexInt_eq (l : List Int) (v : Int) (hl : l.length < 2 ^ 62) : CallEq Tryz.prog 130 [.ps 1 (ints l), .int .i64 v] (.int .i64 (idxF (fun x => decide (v = x)) l 0)) := by
  refine CallEq.begin (rs := [.tmp 4]) (m := 17) 1000 Tryz.func130 rfl rfl rfl (by decide) trivial ?_
  simp only [go_sem]
  refine EvK.loopI (ι := {i : Nat // i ≤ l.length ∧ idxF (fun x => decide (v = x)) (l.drop i) i = idxF (fun x => decide (v = x)) l 0}) 1000 (fun i => mkT 19 [(0, .ps 1 (ints l)), (1, .int .i64 v), (7, .int .i64 l.length), (8, .int .i64 i.1)]) (fun _ => []) (fun i => l.length - i.1) ⟨0, by simp⟩ ?_ (fun _ => Nat.zero_le _) ?_
  · simp only [go_sem, ints_low, ints_len, Int.natCast_zero]
  · rintro ⟨i, hi, hpre⟩
    by_cases hlt : (i : Int) < l.length
    · have hlt' : i < l.length := by omega
      have hd : idxF (fun x => decide (v = x)) (l.drop i) i = if decide (v = l[i]) = true then (i : Int) else idxF (fun x => decide (v = x)) (l.drop (i + 1)) ((i : Int) + 1) := by
        rw [List.drop_eq_getElem_cons hlt']; rfl
      by_cases e : v = l[i]
      · rw [hd, if_pos (by simp [← e])] at hpre
        simp only [go_sem, hlt, ints_len, Int.toNat_natCast, ints_get hlt', ← e]
        (repeat ((with_reducible refine And.intro ?_ ?_); · omega))
        refine EvK.go 1000 ?_
        simp only [go_sem]
        rw [hpre]
      · rw [hd, if_neg (by simp [e])] at hpre
        simp only [go_sem, hlt, ints_len, Int.toNat_natCast, ints_get hlt', e]
        (repeat ((with_reducible refine And.intro ?_ ?_); · omega))
        refine ⟨⟨i + 1, hlt', hpre⟩, ?_, by simp only; omega⟩
        simp only [go_sem, ints_low]
        rw [i64_id (by omega)]; trivial
    · have hi' : i = l.length := by omega
      subst hi'
      rw [List.drop_length] at hpre
      simp only [go_sem, hlt]
      refine EvK.go 1000 ?_
      simp only [go_sem, ← hpre]
      trivial

theorem ContainsInt_eq (l : List Int) (v : Int) (hl : l.length < 2 ^ 62) : CallEq Tryz.prog 93 [.ps 1 (ints l), .int .i64 v] (.bool (decide (v ∈ l))) := by
  refine CallEq.begin (rs := [.tmp 4]) (m := 7) 1000 Tryz.func93 rfl rfl rfl (by decide) trivial ?_
  simp only [go_sem]
  refine VCall.isoT [] (IndexInt_eq l v hl) (pTL_refl _ _ _) (by simp [go_sem, ints_low]) ?_; simp only [flatR, flatA, flatC, if_true]; refine EvK.go 1000 ?_
  simp only [go_sem, idxF_any _ l 0 (Int.le_refl 0)]
  congr 1
  rw [Bool.eq_iff_iff]; simp

theorem VarsT_eq (t : Tm) (hfit : t.fit) (hsz : t.size < 999999999) : CallEq Tryz.prog 90 [t.toA] (.ps 1 (ints t.vars)) := by
  refine CallEq.begin (rs := [.tmp 2]) (m := 26) 1000 Tryz.func90 rfl rfl rfl (by decide) (ints_low _) ?_
  simp only [go_sem, toA_eq, Nat.le_refl]
  rw [← toA_eq]
  refine (Parts_eq t _ ?_).mono ?_
  · simp [go_sem, tms_low]
  rintro _ _ ⟨rfl, rfl⟩
  refine EvK.go 1000 ?_
  simp only [go_sem]
  refine EvK.rangeFunc (mkT 27 [(3, .ptr 1 0)]) ?_ ?_ (fun ρ ht hpa hat hbo => ?_)
  · simp only [go_sem]
  · exact fun b hb => by cases hb
  simp only [go_sem]
  have hpl := pre_len t 1
  have hv0 := pre_vars0 t 1
  have hρl : lowL 4 ρ.tm := by rw [ht]; simp [go_sem, mkT_cons, mkT_nil]
  have hst : ∀ l : List Int, lowSo 8 [some (.var [.int .i64 t.head, .ps 2 (t.args.map Tm.toA)]), some (.var [slA 4 1 (ints l)]), some (.var [.int .i64 t.head, .ps 2 (t.args.map Tm.toA)]), some (.loop (ρ.at .ready)), slB (ints l), none, none, none] :=
    fun l => ⟨⟨trivial, tms_low _, trivial⟩, ⟨slA_low (by decide) 1 _, trivial⟩, ⟨trivial, tms_low _, trivial⟩, lowL_mono (by decide) hρl, slB_lowO _ (ints_low _), trivial, trivial, trivial, trivial⟩
  refine (Parts1_eq t hsz 4 (by decide) _ (fun _ => some (.var [.int .i64 t.head, .ps 2 (t.args.map Tm.toA)])) (fun k => some (.var [slA 4 1 (ints (foldV ((t.pre 1).take k) []))])) (fun _ => some (.var [.int .i64 t.head, .ps 2 (t.args.map Tm.toA)])) (fun _ => some (.loop (ρ.at .ready)))
    (fun k => slB (ints (foldV ((t.pre 1).take k) []))) (fun _ => none) (fun _ => none) (fun _ => none) 2 (.yld 3) rfl rfl rfl (by decide) (fun k => hst _) ?_ (Nat.lt_succ_self 3) (fun k hk => ?_)).mono ?_
  · exact ⟨⟨trivial, tms_low _, trivial⟩, ⟨trivial, trivial⟩, ⟨trivial, tms_low _, trivial⟩, hρl, trivial⟩
  · have hf1 : foldV ((t.pre 1).take (k + 1)) [] = addV (foldV ((t.pre 1).take k) []) (t.pre 1)[k] := by rw [take_snoc hk, foldV_app]; rfl
    have hlen := foldV_len ((t.pre 1).take k) []
    rw [List.length_take] at hlen
    have hfu : (t.pre 1)[k].2.fit := pre_fit t hfit 1 _ (List.getElem_mem hk)
    rw [hf1]
    generalize (t.pre 1)[k] = x at *
    generalize foldV ((t.pre 1).take k) [] = o at *
    obtain ⟨d, u⟩ := x
    simp only at hfu
    have hfh : -9223372036854775808 ≤ u.head ∧ u.head ≤ 9223372036854775807 := by obtain ⟨h, ts⟩ := u; exact hfu.1
    have hwv : IntKind.i64.wrap (-1 - u.head) = -1 - u.head := i64_id (by omega)
    have hol : o.length < 999999999 := by simp only [List.length_nil] at hlen; omega
    by_cases c1 : u.head < 0
    · have hnn : 0 ≤ -1 - u.head := by omega
      have hav : addV o (d, u) = add1 o (-1 - u.head) := if_pos c1
      rw [hav]
      generalize hv : -1 - u.head = v at *
      by_cases c2 : v ∈ o
      · have hn : add1 o v = o := if_pos c2
        rw [hn]
        refine VCall.stay rfl (hst _) ?_
        refine VCall.yieldK 1000 ht hpa hat hbo rfl rfl ?_
        simp only [go_sem, toA_cells, Nat.le_refl, List.length_map, hv, hwv, hnn]
        refine VCall.isoT [4] (ContainsInt_eq o v (by omega)) ?_ (by simp [go_sem, ints_low]) ?_
        · simp only [go_sem, among_cons, among_nil, pT_slA]
        simp only [flatR, flatA, flatC, if_true]
        refine EvK.go 1000 ?_
        simp only [go_sem, c2]
        rw [rE_eq]
        exact ⟨rfl, [some (.var [.int .i64 t.head, .ps 2 (t.args.map Tm.toA)]), some (.var [slA 4 1 (ints o)]), some (.var [.int .i64 t.head, .ps 2 (t.args.map Tm.toA)]), some (.loop (ρ.at .ready)), slB (ints o), none, none, none], by simp [go_sem], Nat.le_refl _, hst _, rfl, rfl⟩
      · have hn : add1 o v = o ++ [v] := if_neg c2
        have hsw : ∀ b, b < 4 → pi [(4, 10), (10, 4)] b = b := by decide
        rw [hn]
        refine VCall.move [(4, 10), (10, 4)] (S' := [some (.var [.int .i64 t.head, .ps 2 (t.args.map Tm.toA)]), some (.var [.os 10 0 (o.length + 1) 1]), some (.var [.int .i64 t.head, .ps 2 (t.args.map Tm.toA)]), some (.loop (ρ.at .ready)), none, none, none, none, none, none, some (.row (ints o ++ [.int .i64 v]) 0)]) ?_ ?_ rfl ?_ ?_
        · exact Nat.le_add_right 8 3
        · exact ⟨⟨trivial, tms_low _, trivial⟩, ⟨Nat.lt_succ_self 10, trivial⟩, ⟨trivial, tms_low _, trivial⟩, lowL_mono (Nat.le_add_right 4 7) hρl, trivial, trivial, trivial, trivial, trivial, trivial, lowL_app (ints_low _) ⟨trivial, trivial⟩, trivial⟩
        · have hl1 := renB_id (pi [(4, 10), (10, 4)]) 4 hsw (.loop (ρ.at .ready)) hρl
          simp only [ints_add, slA_snoc, slB_snoc, leSoR_some, leSoR_none, leSoR_nil, hl1]
          simp [go_sem, renL_low0 (tms_low _), renL_low0 (ints_low _), renL_low0 (lowL_app (ints_low o) (show lowL 0 [AVal.int .i64 v] from ⟨trivial, trivial⟩)), ints_len]
        refine VCall.yieldK 1000 ht hpa hat hbo rfl rfl ?_
        simp only [go_sem, toA_cells, Nat.le_refl, List.length_map, hv, hwv, hnn]
        refine VCall.isoT [4] (ContainsInt_eq o v (by omega)) ?_ (by simp [go_sem, ints_low]) ?_
        · simp only [go_sem, among_cons, among_nil, pT_slA]
        simp only [flatR, flatA, flatC, if_true]
        refine EvK.go 1000 ?_
        simp only [go_sem, c2, appOk, List.mem_singleton, forall_eq, Nat.zero_lt_one, app_slA, ints_len]
        refine ⟨by omega, ?_⟩
        rw [rE_eq]
        exact ⟨rfl, [some (.var [.int .i64 t.head, .ps 2 (t.args.map Tm.toA)]), some (.var [.os 10 0 (o.length + 1) 1]), some (.var [.int .i64 t.head, .ps 2 (t.args.map Tm.toA)]), some (.loop (ρ.at .ready)), none, none, none, none, none, none, some (.row (ints o ++ [.int .i64 v]) 0)], by simp [go_sem], Nat.le_add_right 8 3, ⟨⟨trivial, tms_low _, trivial⟩, ⟨Nat.lt_succ_self 10, trivial⟩, ⟨trivial, tms_low _, trivial⟩, lowL_mono (Nat.le_add_right 4 7) hρl, trivial, trivial, trivial, trivial, trivial, trivial, lowL_app (ints_low _) (show lowL 11 [AVal.int .i64 v] from ⟨trivial, trivial⟩), trivial⟩, rfl, rfl⟩
    · have hn : addV o (d, u) = o := if_neg c1
      rw [hn]
      refine VCall.stay rfl (hst _) ?_
      refine VCall.yieldK 1000 ht hpa hat hbo rfl rfl ?_
      have hnn : ¬ 0 ≤ -1 - u.head := by omega
      simp only [go_sem, toA_cells, Nat.le_refl, List.length_map, hwv, hnn]
      rw [rE_eq]
      exact ⟨rfl, [some (.var [.int .i64 t.head, .ps 2 (t.args.map Tm.toA)]), some (.var [slA 4 1 (ints o)]), some (.var [.int .i64 t.head, .ps 2 (t.args.map Tm.toA)]), some (.loop (ρ.at .ready)), slB (ints o), none, none, none], by simp [go_sem], Nat.le_refl _, hst _, rfl, rfl⟩
  rintro r' σ2 rfl
  rw [rK_eq]
  refine ⟨.ready, rfl, ?_⟩
  rw [rD_ready]
  rw [← hpl, List.take_length, hv0]
  refine EvK.go 1000 ?_
  simp only [go_sem]
  rw [pT_slA rfl rfl]; trivial
end Go.Proofs

/- Going through a term's parts with a state; terms of a signature by it. -/
namespace Go.Proofs
open Go Go.Abs

mutual
def Tm.walk {ι : Type} (step : ι → Tm → Bool → ι) : Tm → Bool → ι → ι
  | .mk h ts, top, x => Tm.walks step ts (step x (.mk h ts) top)
def Tm.walks {ι : Type} (step : ι → Tm → Bool → ι) : List Tm → ι → ι
  | [], x => x
  | t :: ts, x => Tm.walks step ts (t.walk step false x)
end
theorem walks_snoc {ι : Type} (step : ι → Tm → Bool → ι) : ∀ (ts : List Tm) (i : Nat) (hi : i < ts.length) (x : ι), Tm.walks step (ts.take (i + 1)) x = ts[i].walk step false (Tm.walks step (ts.take i) x)
  | t :: ts, 0, _, x => by simp [Tm.walks]
  | t :: ts, i + 1, hi, x => by
    simp only [List.take_succ_cons, Tm.walks, List.getElem_cons_succ]
    exact walks_snoc step ts i (by simpa using hi) _

/-- What is unknown, and what is mixed. -/
def seeT (g : List Sy) (x : Bool × Bool) (t : Tm) (top : Bool) : Bool × Bool :=
  if t.head < 0 then x else if (g.length : Int) ≤ t.head ∨ ¬ (t.args.length : Int) = (symAt g t.head).arity then (true, x.2) else if (symAt g t.head).truth = true ∧ top = false then (x.1, true) else x

def hereKnown (g : List Sy) (t : Tm) : Bool := decide (t.head < 0) || (!(decide ((g.length : Int) ≤ t.head)) && decide ((t.args.length : Int) = (symAt g t.head).arity))

theorem hereKnown_mk (g : List Sy) (h : Int) (ts : List Tm) : hereKnown g (.mk h ts) = (decide (h < 0) || (!(decide ((g.length : Int) ≤ h)) && decide ((ts.length : Int) = (symAt g h).arity))) := rfl

theorem seeT_1 (g : List Sy) (x : Bool × Bool) (t : Tm) (top : Bool) : (seeT g x t top).1 = (x.1 || !hereKnown g t) := by
  unfold seeT hereKnown
  by_cases c1 : t.head < 0
  · simp [c1]
  · by_cases c2 : (g.length : Int) ≤ t.head
    · simp [c1, c2]
    · by_cases c3 : (t.args.length : Int) = (symAt g t.head).arity
      · rw [if_neg c1, if_neg (by simp [c2, c3])]
        split <;> simp [c1, c2, c3]
      · simp [c1, c2, c3]
theorem good_var {h : Int} {ts : List Tm} (hg : (Tm.mk h ts).good = true) (c : h < 0) : ts = [] := by
  simp only [Tm.good, Bool.and_eq_true, Bool.not_eq_true', Bool.or_eq_false_iff, Bool.and_eq_false_iff, decide_eq_false_iff_not] at hg
  rcases hg.1.1.1.1 with h' | h'
  · exact absurd c h'
  · exact List.length_eq_zero_iff.1 (by omega)
theorem good_args {h : Int} {ts : List Tm} (hg : (Tm.mk h ts).good = true) : Tm.goods ts = true := by
  simp only [Tm.good, Bool.and_eq_true] at hg; exact hg.2

mutual
theorem walk_1 (g : List Sy) : ∀ (t : Tm) (top : Bool) (x : Bool × Bool), t.good = true → (t.walk (seeT g) top x).1 = (x.1 || !t.known g)
  | .mk h ts, top, x, hg => by
    simp only [Tm.walk, Tm.known]
    rw [walks_1 g ts _ (good_args hg), seeT_1, hereKnown_mk]
    by_cases c1 : h < 0
    · have := good_var hg c1
      subst this
      simp [c1, Tm.knowns]
    · have e1 : decide (h < 0) = false := decide_eq_false c1
      rw [e1]
      simp only [Bool.false_or, Bool.not_and, Bool.or_assoc]
theorem walks_1 (g : List Sy) : ∀ (ts : List Tm) (x : Bool × Bool), Tm.goods ts = true → (Tm.walks (seeT g) ts x).1 = (x.1 || !Tm.knowns g ts)
  | [], x, _ => by simp [Tm.walks, Tm.knowns]
  | t :: ts, x, hg => by
    simp only [Tm.goods, Bool.and_eq_true] at hg
    simp only [Tm.walks, Tm.knowns]
    rw [walks_1 g ts _ hg.2, walk_1 g t _ _ hg.1, Bool.not_and, Bool.or_assoc]
end

theorem seeT_2 (g : List Sy) (x : Bool × Bool) (t : Tm) (top : Bool) (hk : hereKnown g t = true) : (seeT g x t top).2 = (x.2 || (!top && t.truth g)) := by
  unfold seeT
  unfold hereKnown at hk
  by_cases c1 : t.head < 0
  · simp [c1, Tm.truth, show ¬ 0 ≤ t.head by omega]
  · simp only [decide_eq_false c1, Bool.false_or, Bool.and_eq_true, Bool.not_eq_true', decide_eq_false_iff_not, decide_eq_true_eq] at hk
    rw [if_neg c1, if_neg (by simp only [hk.2, not_true_eq_false, or_false]; exact hk.1)]
    have h0 : 0 ≤ t.head := by omega
    have h1 : t.head < (g.length : Int) := by omega
    cases ht : (symAt g t.head).truth <;> cases top <;> simp [Tm.truth, h0, h1, ht]
mutual
theorem walk_2 (g : List Sy) : ∀ (t : Tm) (top : Bool) (x : Bool × Bool), t.good = true → t.known g = true → (t.walk (seeT g) top x).2 = (x.2 || ((!top && t.truth g) || !t.things g))
  | .mk h ts, top, x, hg, hk => by
    have hh : hereKnown g (.mk h ts) = true := by
      simp only [Tm.known, Bool.or_eq_true, Bool.and_eq_true] at hk
      simp only [hereKnown, Tm.head, Tm.args, Bool.or_eq_true, Bool.and_eq_true]
      exact hk.imp id And.left
    have hks : Tm.knowns g ts = true := by
      by_cases c1 : h < 0
      · rw [good_var hg c1]; rfl
      · simp only [Tm.known, decide_eq_false c1, Bool.false_or, Bool.and_eq_true] at hk; exact hk.2
    simp only [Tm.walk, Tm.things]
    rw [walks_2 g ts _ (good_args hg) hks, seeT_2 g x _ top hh, Bool.or_assoc]
theorem walks_2 (g : List Sy) : ∀ (ts : List Tm) (x : Bool × Bool), Tm.goods ts = true → Tm.knowns g ts = true → (Tm.walks (seeT g) ts x).2 = (x.2 || !Tm.thingsL g ts)
  | [], x, _, _ => by simp [Tm.walks, Tm.thingsL]
  | t :: ts, x, hg, hk => by
    simp only [Tm.goods, Tm.knowns, Bool.and_eq_true] at hg hk
    simp only [Tm.walks, Tm.thingsL]
    rw [walks_2 g ts _ hg.2 hk.2, walk_2 g t _ _ hg.1 hk.1]
    cases t.truth g <;> cases t.things g <;> cases x.2 <;> simp
end

/-! ### the variables that are read in a world -/
end Go.Proofs

/- Terms of a signature, as the program tells them. -/
set_option linter.unusedSimpArgs false
namespace Go.Proofs
open Go Go.Abs
attribute [local go_sem] Nat.reduceAdd Nat.reduceSub Nat.reduceMul Nat.reduceLeDiff Nat.reduceEqDiff Nat.reduceBEq
theorem Walk_eq {ι : Type} (b0 b1 b2 b3 b4 b5 b6 b7 : ι → Option Blk) (step : ι → Tm → Bool → ι) (c : AVal) (hs : ∀ x, lowSo 8 [b0 x, b1 x, b2 x, b3 x, b4 x, b5 x, b6 x, b7 x]) (hc : c.low 8)
    (hy : ∀ x t top, VCall Tryz.prog c [t.toA, .bool top] [b0 x, b1 x, b2 x, b3 x, b4 x, b5 x, b6 x, b7 x] (fun _ σ' => σ' = [b0 (step x t top), b1 (step x t top), b2 (step x t top), b3 (step x t top), b4 (step x t top), b5 (step x t top), b6 (step x t top), b7 (step x t top)])) (t : Tm) :
    t.size < 2 ^ 62 → ∀ top x, VCall Tryz.prog (.fn 170 [] []) [t.toA, .bool top, c] [b0 x, b1 x, b2 x, b3 x, b4 x, b5 x, b6 x, b7 x]
      (fun r σ' => r = .tup [] ∧ σ' = [b0 (t.walk step top x), b1 (t.walk step top x), b2 (t.walk step top x), b3 (t.walk step top x), b4 (t.walk step top x), b5 (t.walk step top x), b6 (t.walk step top x), b7 (t.walk step top x)]) := by
  induction t using Tm.rec_args with
  | h h ts ih =>
  intro hsz top x
  simp only [Tm.size] at hsz
  have hlen := len_le_sizes ts
  have hc9 := low_mono (m := 9) (by decide) hc
  refine VCall.begin (rs := []) (m := 20) 1000 Tryz.func170 rfl rfl rfl rfl rfl ?_
  simp only [go_sem, toA_eq, Tm.head, Tm.args, Nat.le_refl]
  rw [toA_mk]
  refine VCall.tail (σ := [b0 x, b1 x, b2 x, b3 x, b4 x, b5 x, b6 x, b7 x]) (τ := [some (.var [.int .i64 h, .ps 2 (ts.map Tm.toA)])]) hc (by simp [go_sem, toA_low]) (hs x) ?_
  refine (hy x (.mk h ts) top).mono ?_
  rintro r σ' rfl
  refine ⟨rfl, ?_⟩
  refine EvK.go 1000 ?_
  simp only [go_sem, List.length_map]
  generalize hx1 : step x (.mk h ts) top = x1
  have hend : Tm.walk step (.mk h ts) top x = Tm.walks step ts x1 := by rw [← hx1]; rfl
  rw [hend]
  refine EvK.loopI (ι := {i : Nat // i ≤ ts.length}) 1000 (fun i => mkT 23 [(2, c), (13, .ps 2 (ts.map Tm.toA)), (14, .int .i64 ts.length), (15, .int .i64 i.1)]) (fun i => [b0 (Tm.walks step (ts.take i.1) x1), b1 (Tm.walks step (ts.take i.1) x1), b2 (Tm.walks step (ts.take i.1) x1), b3 (Tm.walks step (ts.take i.1) x1), b4 (Tm.walks step (ts.take i.1) x1), b5 (Tm.walks step (ts.take i.1) x1), b6 (Tm.walks step (ts.take i.1) x1), b7 (Tm.walks step (ts.take i.1) x1), some (.var [.int .i64 h, .ps 2 (ts.map Tm.toA)])]) (fun i => ts.length - i.1) ⟨0, by omega⟩ ?_ (fun _ => Nat.le_add_right 8 1) ?_
  · have h9 := lowSo_mono (m := 9) (by decide) (hs x1)
    simp only [lowSo_cons, lowSo_nil, and_true] at h9
    simp only [go_sem, hc9, tms_low, lowSo_cons, h9, List.take_zero, Tm.walks, lowO_some, Int.natCast_zero]
  · rintro ⟨i, hi⟩
    by_cases hlt : (i : Int) < ts.length
    · have hlt' : i < ts.length := by omega
      have hsz2 := size_le_sizes ts i hlt'
      have hsn := walks_snoc step ts i hlt' x1
      simp only [go_sem, hlt, List.length_map, Int.toNat_natCast, map_getD hlt', toA_cells, Nat.le_refl]
      rw [← toA_eq]
      (repeat ((with_reducible refine And.intro ?_ ?_); · omega))
      refine VCall.tail (σ := [b0 (Tm.walks step (ts.take i) x1), b1 (Tm.walks step (ts.take i) x1), b2 (Tm.walks step (ts.take i) x1), b3 (Tm.walks step (ts.take i) x1), b4 (Tm.walks step (ts.take i) x1), b5 (Tm.walks step (ts.take i) x1), b6 (Tm.walks step (ts.take i) x1), b7 (Tm.walks step (ts.take i) x1)]) (τ := [some (.var [.int .i64 h, .ps 2 (ts.map Tm.toA)]), some (.var [.int .i64 ts[i].head, .ps 2 (ts[i].args.map Tm.toA)])]) ⟨trivial, trivial⟩ (by simp [go_sem, toA_low, hc]) (hs _) ?_
      refine (ih i hlt' (by omega) false _).mono ?_
      rintro r' σ2 ⟨rfl, rfl⟩
      refine ⟨rfl, ?_⟩
      rw [← hsn]
      refine EvK.go 1000 ?_
      simp only [go_sem]
      refine ⟨⟨i + 1, hlt'⟩, ?_, by simp only; omega⟩
      have h9 := lowSo_mono (m := 9) (by decide) (hs (Tm.walks step (ts.take (i + 1)) x1))
      simp only [lowSo_cons, lowSo_nil, and_true] at h9
      simp only [go_sem, hc9, tms_low, lowSo_cons, h9, lowO_some]
      rw [i64_id (by omega)]; rfl
    · have hi' : i = ts.length := by omega
      subst hi'
      simp only [go_sem, hlt, List.take_length]
      refine EvK.go 1000 ?_
      simp only [go_sem]
      rw [dK_eq]
      exact ⟨[b0 (Tm.walks step ts x1), b1 (Tm.walks step ts x1), b2 (Tm.walks step ts x1), b3 (Tm.walks step ts x1), b4 (Tm.walks step ts x1), b5 (Tm.walks step ts x1), b6 (Tm.walks step ts x1), b7 (Tm.walks step ts x1)], by simp [go_sem], Nat.le_refl _, hs _, trivial, rfl, rfl⟩

theorem Term1_eq (g : List Sy) (b1 : Option Blk) (hb1 : lowO 8 b1) (x : Bool × Bool) (t : Tm) (top : Bool) : VCall Tryz.prog (.fn 171 [] [.ptr 0 0, .ptr 2 0, .ptr 3 0]) [t.toA, .bool top] [some (.var [.ps 4 (syms g)]), b1, some (.var [.bool x.1]), some (.var [.bool x.2]), none, none, none, none]
    (fun _ σ' => σ' = [some (.var [.ps 4 (syms g)]), b1, some (.var [.bool (seeT g x t top).1]), some (.var [.bool (seeT g x t top).2]), none, none, none, none]) := by
  obtain ⟨un, mx⟩ := x
  have hlow : ∀ u m, lowSo 8 [some (.var [.ps 4 (syms g)]), b1, some (.var [.bool u]), some (.var [.bool m]), none, none, none, none] := fun u m => ⟨⟨syms_low g, trivial⟩, hb1, ⟨trivial, trivial⟩, ⟨trivial, trivial⟩, trivial, trivial, trivial, trivial, trivial⟩
  refine VCall.begin (rs := []) (m := 35) 1000 Tryz.func171 rfl rfl rfl rfl rfl ?_
  by_cases c1 : t.head < 0
  · have hsee : seeT g (un, mx) t top = (un, mx) := if_pos c1
    simp only [go_sem, toA_eq, c1]
    rw [dK_eq]
    exact ⟨[some (.var [.ps 4 (syms g)]), b1, some (.var [.bool un]), some (.var [.bool mx]), none, none, none, none], by simp [go_sem], Nat.le_refl _, hlow _ _, trivial, by rw [hsee]⟩
  simp only [go_sem, toA_eq, c1]
  refine EvK.draw [] 9 9 mixed rfl rfl (Nat.le_refl _) ?_
  by_cases c2 : (g.length : Int) ≤ t.head
  · have hsee : seeT g (un, mx) t top = (true, mx) := by rw [seeT, if_neg c1, if_pos (.inl c2)]
    simp only [go_sem, padS, syms_len, c2]
    refine EvK.go 1000 ?_
    simp only [go_sem]
    rw [dK_eq]
    exact ⟨[some (.var [.ps 4 (syms g)]), b1, some (.var [.bool true]), some (.var [.bool mx]), none, none, none, none], by simp [go_sem], Nat.le_refl _, hlow _ _, trivial, by rw [hsee]⟩
  have hi : t.head.toNat < g.length := by omega
  have hsy : symAt g t.head = g[t.head.toNat] := getD_at hi
  by_cases c3 : (t.args.length : Int) = g[t.head.toNat].arity
  · simp only [go_sem, padS, syms_len, c2, List.length_map, syms_get hi, sy_cells, c3, Nat.le_refl]
    (repeat ((with_reducible refine And.intro ?_ ?_); · omega))
    refine EvK.go 1000 ?_
    cases ht : g[t.head.toNat].truth with
    | false =>
      have hsee : seeT g (un, mx) t top = (un, mx) := by rw [seeT, if_neg c1, if_neg (by rw [hsy]; simp only [c3, not_true_eq_false, or_false]; exact c2), if_neg (by rw [hsy, ht]; simp)]
      simp only [go_sem, syms_len, syms_get hi, sy_cells, ht]
      (repeat ((with_reducible refine And.intro ?_ ?_); · omega))
      rw [dK_eq]
      exact ⟨[some (.var [.ps 4 (syms g)]), b1, some (.var [.bool un]), some (.var [.bool mx]), none, none, none, none], by simp [go_sem], Nat.le_refl _, hlow _ _, trivial, by rw [hsee]⟩
    | true =>
      cases top with
      | false =>
        have hsee : seeT g (un, mx) t false = (un, true) := by rw [seeT, if_neg c1, if_neg (by rw [hsy]; simp only [c3, not_true_eq_false, or_false]; exact c2), if_pos (by rw [hsy, ht]; simp)]
        simp only [go_sem, syms_len, syms_get hi, sy_cells, ht]
        (repeat ((with_reducible refine And.intro ?_ ?_); · omega))
        rw [dK_eq]
        exact ⟨[some (.var [.ps 4 (syms g)]), b1, some (.var [.bool un]), some (.var [.bool true]), none, none, none, none], by simp [go_sem], Nat.le_refl _, hlow _ _, trivial, by rw [hsee]⟩
      | true =>
        have hsee : seeT g (un, mx) t true = (un, mx) := by rw [seeT, if_neg c1, if_neg (by rw [hsy]; simp only [c3, not_true_eq_false, or_false]; exact c2), if_neg (by simp)]
        simp only [go_sem, syms_len, syms_get hi, sy_cells, ht]
        (repeat ((with_reducible refine And.intro ?_ ?_); · omega))
        rw [dK_eq]
        exact ⟨[some (.var [.ps 4 (syms g)]), b1, some (.var [.bool un]), some (.var [.bool mx]), none, none, none, none], by simp [go_sem], Nat.le_refl _, hlow _ _, trivial, by rw [hsee]⟩
  · have hsee : seeT g (un, mx) t top = (true, mx) := by rw [seeT, if_neg c1, if_pos (.inr (by rw [hsy]; exact c3))]
    simp only [go_sem, padS, syms_len, c2, List.length_map, syms_get hi, sy_cells, c3, Nat.le_refl]
    (repeat ((with_reducible refine And.intro ?_ ?_); · omega))
    refine EvK.go 1000 ?_
    simp only [go_sem]
    rw [dK_eq]
    exact ⟨[some (.var [.ps 4 (syms g)]), b1, some (.var [.bool true]), some (.var [.bool mx]), none, none, none, none], by simp [go_sem], Nat.le_refl _, hlow _ _, trivial, by rw [hsee]⟩

theorem TermW_eq (g : List Sy) (t : Tm) (hsz : t.size < 999999999) : CallEq Tryz.prog 140 [.ps 4 (syms g), t.toA] (.int .i64 (t.term g)) := by
  refine CallEq.begin (rs := [.tmp 4]) (m := 24) 1000 Tryz.func140 rfl rfl rfl (by decide) trivial ?_
  simp only [go_sem, toA_eq, Nat.le_refl]
  refine VCall.isoT [] (CheckSig_eq g) (pTL_refl _ _ _) (by simp [go_sem, syms_low]) ?_; simp only [flatR, flatA, flatC, if_true]; refine EvK.go 1000 ?_
  cases c1 : sigOk g with
  | false => simp only [go_sem, Tm.term, c1, Int.reduceEq]
  | true =>
  simp only [go_sem, Nat.le_refl]
  rw [← toA_eq]
  refine VCall.isoT [] (CheckT_eq t hsz) (pTL_refl _ _ _) (by simp [go_sem, toA_low]) ?_; simp only [flatR, flatA, flatC, if_true]; refine EvK.go 1000 ?_
  by_cases c2 : t.check = 0
  case neg => simp only [go_sem, c2, Tm.term, c1]
  simp only [go_sem, c2, Nat.le_refl]
  rw [← toA_eq]
  have hgd := (check_good c2).1
  have hb1 : lowO 8 (some (.var [.int .i64 t.head, .ps 2 (t.args.map Tm.toA)])) := ⟨trivial, tms_low _, trivial⟩
  refine VCall.pad 4 ?_
  refine (Walk_eq (ι := Bool × Bool) (fun _ => some (.var [.ps 4 (syms g)])) (fun _ => some (.var [.int .i64 t.head, .ps 2 (t.args.map Tm.toA)])) (fun x => some (.var [.bool x.1])) (fun x => some (.var [.bool x.2])) (fun _ => none) (fun _ => none) (fun _ => none) (fun _ => none)
    (seeT g) (.fn 171 [] [.ptr 0 0, .ptr 2 0, .ptr 3 0]) (fun x => ⟨⟨syms_low g, trivial⟩, hb1, ⟨trivial, trivial⟩, ⟨trivial, trivial⟩, trivial, trivial, trivial, trivial, trivial⟩) (by simp [go_sem]) (fun x t top => Term1_eq g _ hb1 x t top) t (by omega) true (false, false)).mono ?_
  rintro r σ' ⟨rfl, rfl⟩
  rw [dK_eq]
  refine ⟨[some (.var [.ps 4 (syms g)]), some (.var [.int .i64 t.head, .ps 2 (t.args.map Tm.toA)]), some (.var [.bool (t.walk (seeT g) true (false, false)).1]), some (.var [.bool (t.walk (seeT g) true (false, false)).2])], by simp [go_sem], Nat.le_refl _, ⟨⟨syms_low g, trivial⟩, ⟨trivial, tms_low _, trivial⟩, ⟨trivial, trivial⟩, ⟨trivial, trivial⟩, trivial⟩, trivial, ?_⟩
  rw [walk_1 g t true _ hgd]
  refine EvK.go 1000 ?_
  cases c3 : t.known g with
  | false =>
    simp only [go_sem]
    simp [Tm.term, c1, c2, c3]
  | true =>
    rw [walk_2 g t true _ hgd c3]
    cases c4 : t.things g with
    | false =>
      simp only [go_sem]
      simp [Tm.term, c1, c2, c3, c4]
    | true =>
      simp only [go_sem]
      simp [Tm.term, c1, c2, c3, c4]
end Go.Proofs

/- Right worlds, as the program tells them. -/
set_option linter.unusedSimpArgs false
namespace Go.Proofs
open Go Go.Abs
attribute [local go_sem] Nat.reduceAdd Nat.reduceSub Nat.reduceMul Nat.reduceLeDiff Nat.reduceEqDiff Nat.reduceBEq
end Go.Proofs

/- The values of terms in a world, as the program tells them. -/
set_option linter.unusedSimpArgs false
namespace Go.Proofs
open Go Go.Abs
attribute [local go_sem] Nat.reduceAdd Nat.reduceSub Nat.reduceMul Nat.reduceLeDiff Nat.reduceEqDiff Nat.reduceBEq
end Go.Proofs

/- Right literals and clauses, as the program tells them. -/
set_option linter.unusedSimpArgs false
namespace Go.Proofs
open Go Go.Abs
attribute [local go_sem] Nat.reduceAdd Nat.reduceSub Nat.reduceMul Nat.reduceLeDiff Nat.reduceEqDiff Nat.reduceBEq
/-- A literal in a signature. -/
def sideA (g : List Sy) (l : Li) : AVal := .agg [.ps 4 (syms g), .bool l.neg, .int .i64 l.l.head, .ps 2 (l.l.args.map Tm.toA), .int .i64 l.r.head, .ps 2 (l.r.args.map Tm.toA)]
theorem sideA_eq (g : List Sy) (l : Li) : sideA g l = .agg [.ps 4 (syms g), .bool l.neg, .int .i64 l.l.head, .ps 2 (l.l.args.map Tm.toA), .int .i64 l.r.head, .ps 2 (l.r.args.map Tm.toA)] := rfl
theorem sideA_low {n : Nat} (g : List Sy) (l : Li) : (sideA g l).low n := ⟨syms_low _, trivial, trivial, tms_low _, trivial, tms_low _, trivial⟩

theorem Left_eq (g : List Sy) (l : Li) (hsz : l.l.size < 999999999) : CallEq Tryz.prog 103 [sideA g l] (.int .i64 (l.l.term g)) := by
  refine CallEq.begin (rs := [.tmp 2]) (m := 8) 1000 Tryz.func103 rfl rfl rfl (by decide) trivial ?_
  simp only [go_sem, sideA_eq, Nat.le_refl]
  rw [← toA_eq]
  refine VCall.isoT [] (TermW_eq g l.l hsz) (pTL_refl _ _ _) (by simp [go_sem, syms_low, toA_low]) ?_; simp only [flatR, flatA, flatC, if_true]; refine EvK.go 1000 ?_
  simp only [go_sem]

theorem RightL_eq (g : List Sy) (l : Li) (hsz : l.r.size < 999999999) : CallEq Tryz.prog 104 [sideA g l] (.int .i64 (l.r.term g)) := by
  refine CallEq.begin (rs := [.tmp 2]) (m := 8) 1000 Tryz.func104 rfl rfl rfl (by decide) trivial ?_
  simp only [go_sem, sideA_eq, Nat.le_refl]
  rw [← toA_eq]
  refine VCall.isoT [] (TermW_eq g l.r hsz) (pTL_refl _ _ _) (by simp [go_sem, syms_low, toA_low]) ?_; simp only [flatR, flatA, flatC, if_true]; refine EvK.go 1000 ?_
  simp only [go_sem]

theorem TruthL_eq (g : List Sy) (l : Li) (t : Tm) (h : t.head < g.length) : CallEq Tryz.prog 141 [sideA g l, t.toA] (.bool (t.truth g)) := by
  refine CallEq.begin (rs := [.tmp 4]) (m := 15) 1000 Tryz.func141 rfl rfl rfl (by decide) trivial ?_
  by_cases c1 : 0 ≤ t.head
  · have hi : t.head.toNat < g.length := by omega
    have hsy : symAt g t.head = g[t.head.toNat] := getD_at hi
    simp only [go_sem, sideA_eq, toA_eq, c1, syms_len, syms_get hi, sy_cells]
    refine ⟨by omega, ?_⟩
    simp [Tm.truth, c1, h, hsy]
  · simp only [go_sem, sideA_eq, toA_eq, c1, Tm.truth]

def Li.sorts (g : List Sy) (l : Li) : Int := if (l.l.truth g && decide (l.r.head ≠ 0)) || (!l.l.truth g && l.r.truth g) then 10 else 0

theorem Sorts_eq (g : List Sy) (l : Li) (h1 : l.l.head < g.length) (h2 : l.r.head < g.length) : CallEq Tryz.prog 105 [sideA g l] (.int .i64 (l.sorts g)) := by
  refine CallEq.begin (rs := [.tmp 2]) (m := 27) 1000 Tryz.func105 rfl rfl rfl (by decide) trivial ?_
  simp only [go_sem, sideA_eq, Nat.le_refl]
  rw [← toA_eq, ← sideA_eq]
  refine VCall.isoT [] (TruthL_eq g l l.l h1) (pTL_refl _ _ _) (by simp [go_sem, sideA_low, toA_low]) ?_; simp only [flatR, flatA, flatC, if_true]; refine EvK.go 1000 ?_
  cases c1 : l.l.truth g with
  | true =>
    by_cases c2 : l.r.head = 0
    · simp only [go_sem, c2]
      simp [Li.sorts, c1, c2]
    · simp only [go_sem, c2]
      simp [Li.sorts, c1, c2]
  | false =>
    simp only [go_sem, Nat.le_refl]
    rw [← toA_eq, ← sideA_eq]
    refine VCall.isoT [] (TruthL_eq g l l.r h2) (pTL_refl _ _ _) (by simp [go_sem, sideA_low, toA_low]) ?_; simp only [flatR, flatA, flatC, if_true]; refine EvK.go 1000 ?_
    cases c2 : l.r.truth g <;>
    · simp only [go_sem]
      simp [Li.sorts, c1, c2]

theorem li_check_sorts (g : List Sy) (l : Li) : l.check g = if l.l.term g ≠ 0 then l.l.term g else if l.r.term g ≠ 0 then l.r.term g else l.sorts g := rfl

theorem head_lt {g : List Sy} {t : Tm} (h : t.known g = true) (hg : 1 ≤ g.length) : t.head < g.length := by
  obtain ⟨hd, ts⟩ := t
  simp only [Tm.head]
  by_cases c : hd < 0
  · omega
  · simp only [Tm.known, decide_eq_false c, Bool.false_or, Bool.and_eq_true, Bool.not_eq_true', decide_eq_false_iff_not] at h
    omega

theorem term_sig {g : List Sy} {t : Tm} (h : t.term g = 0) : sigOk g = true := by
  unfold Tm.term at h
  split at h
  · omega
  · rename_i h2; simpa using h2

theorem First_eq (g : List Sy) (l : Li) (hl : l.l.size < 999999999) (hr : l.r.size < 999999999) : CallEq Tryz.prog 102 [sideA g l, .ps 1 [.fn 103 [] [], .fn 104 [] [], .fn 105 [] []]] (.int .i64 (l.check g)) := by
  refine CallEq.begin (rs := [.tmp 4]) (m := 19) 1000 Tryz.func102 rfl rfl rfl (by decide) trivial ?_
  simp only [go_sem, sideA_eq]
  refine EvK.loopI (ι := {i : Nat // i ≤ 3 ∧ (1 ≤ i → l.l.term g = 0) ∧ (2 ≤ i → l.r.term g = 0) ∧ (3 ≤ i → l.sorts g = 0)}) 1000 (fun i => mkT 21 [(2, .ptr 0 0), (8, .ps 1 [.fn 103 [] [], .fn 104 [] [], .fn 105 [] []]), (9, .int .i64 ((3 : Nat) : Int)), (10, .int .i64 i.1)])
    (fun _ => [some (.var [.ps 4 (syms g), .bool l.neg, .int .i64 l.l.head, .ps 2 (l.l.args.map Tm.toA), .int .i64 l.r.head, .ps 2 (l.r.args.map Tm.toA)])]) (fun i => 3 - i.1) ⟨0, by omega, by omega, by omega, by omega⟩ ?_ (fun _ => Nat.zero_le _) ?_
  · simp only [go_sem, syms_low, tms_low, Int.natCast_zero, Nat.zero_lt_one]
  · rintro ⟨i, hi, h1, h2, h3⟩
    have n0 : ((0 : Nat) : Int) = 0 := rfl
    have n1 : ((1 : Nat) : Int) = 1 := rfl
    have n2 : ((2 : Nat) : Int) = 2 := rfl
    have n3 : ((3 : Nat) : Int) = 3 := rfl
    rcases (by omega : i = 0 ∨ i = 1 ∨ i = 2 ∨ i = 3) with rfl | rfl | rfl | rfl
    · simp only [go_sem, n0, n1, n2, n3, Int.reduceLT, Int.reduceLE, List.length_cons, List.length_nil, Int.reduceToNat, List.getD_cons_zero, List.getD_cons_succ, Nat.le_refl]
      rw [← sideA_eq]
      refine VCall.isoT [] (Left_eq g l hl) (pTL_refl _ _ _) (by simp [go_sem, sideA_low]) ?_; simp only [flatR, flatA, flatC, if_true]; refine EvK.go 1000 ?_
      by_cases c : l.l.term g = 0
      · simp only [go_sem, c]
        refine ⟨⟨1, by omega, fun _ => c, by omega, by omega⟩, ?_, by simp only; omega⟩
        simp only [go_sem, syms_low, tms_low, Nat.zero_lt_one]
        rfl
      · simp only [go_sem, c]
        refine EvK.go 1000 ?_
        simp only [go_sem]
        rw [li_check_sorts, if_pos c]
    · simp only [go_sem, n0, n1, n2, n3, Int.reduceLT, Int.reduceLE, List.length_cons, List.length_nil, Int.reduceToNat, List.getD_cons_zero, List.getD_cons_succ, Nat.le_refl]
      rw [← sideA_eq]
      refine VCall.isoT [] (RightL_eq g l hr) (pTL_refl _ _ _) (by simp [go_sem, sideA_low]) ?_; simp only [flatR, flatA, flatC, if_true]; refine EvK.go 1000 ?_
      by_cases c : l.r.term g = 0
      · simp only [go_sem, c]
        refine ⟨⟨2, by omega, fun _ => h1 (by omega), fun _ => c, by omega⟩, ?_, by simp only; omega⟩
        simp only [go_sem, syms_low, tms_low, Nat.zero_lt_one]
        rfl
      · simp only [go_sem, c]
        refine EvK.go 1000 ?_
        simp only [go_sem]
        rw [li_check_sorts, if_neg (by simp [h1 (by omega)]), if_pos c]
    · have t1 := h1 (by omega)
      have t2 := h2 (by omega)
      have hg := (sigOk_len (term_sig t1)).1
      simp only [go_sem, n0, n1, n2, n3, Int.reduceLT, Int.reduceLE, List.length_cons, List.length_nil, Int.reduceToNat, List.getD_cons_zero, List.getD_cons_succ, Nat.le_refl]
      rw [← sideA_eq]
      refine VCall.isoT [] (Sorts_eq g l (head_lt (term_zero t1).2.1 hg) (head_lt (term_zero t2).2.1 hg)) (pTL_refl _ _ _) (by simp [go_sem, sideA_low]) ?_; simp only [flatR, flatA, flatC, if_true]; refine EvK.go 1000 ?_
      by_cases c : l.sorts g = 0
      · simp only [go_sem, c]
        refine ⟨⟨3, by omega, fun _ => t1, fun _ => t2, fun _ => c⟩, ?_, by simp only; omega⟩
        simp only [go_sem, syms_low, tms_low, Nat.zero_lt_one]
        rfl
      · simp only [go_sem, c]
        refine EvK.go 1000 ?_
        simp only [go_sem]
        rw [li_check_sorts, if_neg (by simp [t1]), if_neg (by simp [t2])]
    · simp only [go_sem, n0, n1, n2, n3, Int.reduceLT]
      refine EvK.go 1000 ?_
      simp only [go_sem]
      rw [li_check_sorts, if_neg (by simp [h1 (by omega)]), if_neg (by simp [h2 (by omega)]), h3 (by omega)]

theorem CheckL_eq (g : List Sy) (l : Li) (hl : l.l.size < 999999999) (hr : l.r.size < 999999999) : CallEq Tryz.prog 64 [.ps 4 (syms g), l.toA] (.int .i64 (l.check g)) := by
  refine CallEq.begin (rs := [.tmp 4]) (m := 8) 1000 Tryz.func64 rfl rfl rfl (by decide) trivial ?_
  simp only [go_sem, Li.toA, Li.cs]
  refine ⟨rfl, rfl, rfl, by decide, ?_⟩
  rw [← sideA_eq]
  refine VCall.isoT [1] (First_eq g l hl hr) ?_ (by simp [go_sem, sideA_low]) ?_
  · simp only [go_sem, among_cons, among_nil]
  simp only [flatR, flatA, flatC, if_true]
  refine EvK.go 1000 ?_
  simp only [go_sem]

theorem CheckC_eq (g : List Sy) (c : List Li) (hs : ∀ (i : Nat) (h : i < c.length), c[i].l.size < 999999999 ∧ c[i].r.size < 999999999) : CallEq Tryz.prog 36 [.ps 4 (syms g), .ps 5 (lits c)] (.int .i64 (clauseCheck g c)) := by
  refine CallEq.begin (rs := [.tmp 4]) (m := 28) 1000 Tryz.func36 rfl rfl rfl (by decide) trivial ?_
  simp only [go_sem]
  refine VCall.isoT [] (CheckSig_eq g) (pTL_refl _ _ _) (by simp [go_sem, syms_low]) ?_; simp only [flatR, flatA, flatC, if_true]; refine EvK.go 1000 ?_
  cases c1 : sigOk g with
  | false =>
    simp only [go_sem, Int.reduceEq]
    simp [clauseCheck, c1]
  | true =>
  by_cases c2 : 32 < (c.length : Int)
  · simp only [go_sem, lits_len, c2]
    simp [clauseCheck, c1, c2]
  simp only [go_sem, lits_len, c2]
  have hcc : clauseCheck g c = litsCheck g c := by simp [clauseCheck, c1, c2]
  rw [hcc]
  refine EvK.loopI (ι := {i : Nat // i ≤ c.length ∧ litsCheck g (c.drop i) = litsCheck g c}) 1000 (fun i => mkT 30 [(0, .ps 4 (syms g)), (17, .ps 5 (lits c)), (18, .int .i64 c.length), (19, .int .i64 i.1)]) (fun _ => []) (fun i => c.length - i.1) ⟨0, by simp⟩ ?_ (fun _ => Nat.zero_le _) ?_
  · simp only [go_sem, syms_low, lits_low, lits_len, Int.natCast_zero]
  · rintro ⟨i, hi, hpre⟩
    by_cases hlt : (i : Int) < c.length
    · have hlt' : i < c.length := by omega
      rw [litsCheck_drop g c i hlt'] at hpre
      simp only [go_sem, lits_len, hlt, Int.toNat_natCast, lits_get hlt', li_cells, Nat.le_refl]
      refine ⟨by omega, ?_⟩
      have hsz := hs i hlt'
      refine VCall.isoT [] (CheckL_eq g c[i] hsz.1 hsz.2) (by simp only [Li.toA, Li.cs]; exact pTL_refl _ _ _) (by simp [go_sem, syms_low, li_low]) ?_
      simp only [flatR, flatA, flatC, if_true]
      refine EvK.go 1000 ?_
      by_cases c3 : c[i].check g = 0
      · simp only [go_sem, c3]
        rw [if_neg (by simp [c3])] at hpre
        refine ⟨⟨i + 1, hlt', hpre⟩, ?_, by simp only; omega⟩
        simp only [go_sem, syms_low, lits_low]
        rw [i64_id (by omega)]; rfl
      · simp only [go_sem, c3]
        rw [if_pos c3] at hpre
        refine EvK.go 1000 ?_
        simp only [go_sem, hpre]
    · simp only [go_sem, lits_len, hlt]
      refine EvK.go 1000 ?_
      simp only [go_sem]
      have : i = c.length := by omega
      subst this
      rw [← hpre, List.drop_length, litsCheck]

end Go.Proofs

/- The signs of a load's counts: a range over a map. -/
set_option linter.unusedSimpArgs false
namespace Go.Proofs
open Go Go.Abs
attribute [local go_sem] Nat.reduceAdd Nat.reduceSub Nat.reduceMul Nat.reduceLeDiff Nat.reduceEqDiff Nat.reduceBEq Nat.reduceLT Nat.le_refl Int.natCast_zero Nat.sub_zero List.length_map Int.toNat_natCast Int.natCast_one Int.reduceEq Int.reduceLT Int.reduceLE Int.reduceNe Int.sub_zero Int.zero_add Int.toNat_one
def seenAny (p : Int → Bool) (vs : List Int) (seen : List Nat) : Bool := seen.any fun i => p (vs.getD i 0)
theorem filt_le (p q : Nat → Bool) (h : ∀ x, p x = true → q x = true) : ∀ l : List Nat, (l.filter p).length ≤ (l.filter q).length
  | [] => Nat.le_refl _
  | x :: l => by
    have := filt_le p q h l
    simp only [List.filter_cons]
    cases hp : p x with
    | true => simp [h x hp]; omega
    | false => cases hq : q x <;> simp <;> omega
theorem filt_lt (p q : Nat → Bool) (h : ∀ x, p x = true → q x = true) : ∀ (l : List Nat) (i : Nat), i ∈ l → q i = true → p i = false → (l.filter p).length < (l.filter q).length
  | x :: l, i, hi, h1, h2 => by
    have hle := filt_le p q h l
    simp only [List.filter_cons]
    rcases List.mem_cons.1 hi with rfl | hi
    · simp [h1, h2]; omega
    · have := filt_lt p q h l i hi h1 h2
      cases hp : p x with
      | true => simp [h x hp]; omega
      | false => cases hq : q x <;> simp <;> omega
def unseen (n : Nat) (seen : List Nat) : Nat := ((List.range n).filter fun j => !seen.contains j).length
theorem unseen_lt {n j : Nat} {seen : List Nat} (hj : j < n) (hn : j ∉ seen) : unseen n (seen ++ [j]) < unseen n seen :=
  filt_lt _ _ (fun x hx => by
    simp only [Bool.not_eq_true', ← Bool.not_eq_true, List.contains_iff_mem] at hx ⊢
    exact fun h => hx (List.mem_append.2 (.inl h))) _ j (List.mem_range.2 hj) (by simpa using hn) (by simp)
theorem Signs_eq (w : Int) (ks : List AVal) (vs : List Int) (h : ks.length = vs.length) (hk : lowL 0 ks) : CallEq Tryz.prog 177 [.pp [.int .i64 w, .pm ks (ints vs)]] (.tup [.bool (vs.any fun n => decide (0 < n)), .bool (vs.any fun n => decide (n < 0))]) := by
  refine CallEq.begin (rs := [.tmp 2, .tmp 3]) (m := 28) 1000 Tryz.func177 rfl rfl rfl (by decide) ⟨trivial, trivial, trivial⟩ ?_
  simp only [go_sem]
  refine EvK.loopI (ι := {seen : List Nat // ∀ i ∈ seen, i < ks.length}) 1000 (fun x => mkT 29 [(2, .bool false), (3, .bool false), (4, .bool (seenAny (fun n => decide (0 < n)) vs x.1)), (5, .bool (seenAny (fun n => decide (n < 0)) vs x.1)), (12, .it 0)])
    (fun x => [some (.mit ks (ints vs) x.1)]) (fun x => unseen ks.length x.1) ⟨[], fun i hi => by cases hi⟩ ?_ (fun _ => Nat.zero_le _) ?_
  · simp only [go_sem, seenAny, List.any_nil]
    exact ⟨lowL_mono (Nat.zero_le 1) hk, ints_low _⟩
  · rintro ⟨seen, hs⟩
    simp only [go_sem]
    refine ⟨0, ks, ints vs, seen, rfl, rfl, fun j hj hn => ?_, fun hall => ?_⟩
    · have hjv : j < vs.length := by omega
      have hs' : ∀ i ∈ seen ++ [j], i < ks.length := fun i hi => by
        rcases List.mem_append.1 hi with hi | hi
        · exact hs i hi
        · rw [List.mem_singleton.1 hi]; exact hj
      have hadd : ∀ p : Int → Bool, seenAny p vs (seen ++ [j]) = (seenAny p vs seen || p (vs.getD j 0)) := fun p => by simp [seenAny]
      have hg : (ints vs).getD j .undef = .int .i64 (vs.getD j 0) := by
        rw [ints_get hjv]; simp [List.getD, List.getElem?_eq_getElem hjv]
      generalize vs.getD j 0 = v at hadd hg
      have h1 := hadd fun n => decide (0 < n)
      have h2 := hadd fun n => decide (n < 0)
      generalize ha : seenAny (fun n => decide (0 < n)) vs seen = a at h1
      generalize hb : seenAny (fun n => decide (n < 0)) vs seen = b at h2
      cases a <;> cases b <;> (
        refine EvK.go 1000 ?_
        simp only [go_sem, hg, ha, hb]
        refine ⟨⟨seen ++ [j], hs'⟩, ?_, unseen_lt hj hn⟩
        simp only [go_sem, h1, h2, ints_low, hk, lowL_mono (Nat.zero_le 1) hk]
        first | done | exact ⟨leSo_refl _, by decide⟩ | exact leSo_refl _ | decide | trace_state)
    · have hfin : ∀ p : Int → Bool, seenAny p vs seen = vs.any p := fun p => by
        rw [Bool.eq_iff_iff, seenAny, List.any_eq_true, List.any_eq_true]
        constructor
        · rintro ⟨i, hi, hp⟩
          have hiv : i < vs.length := by have := hs i hi; omega
          exact ⟨vs[i], List.getElem_mem hiv, by simpa [List.getD, List.getElem?_eq_getElem hiv] using hp⟩
        · rintro ⟨x, hx, hp⟩
          obtain ⟨i, hi, rfl⟩ := List.mem_iff_getElem.1 hx
          exact ⟨i, hall i (by omega), by simpa [List.getD, List.getElem?_eq_getElem hi] using hp⟩
      refine EvK.go 1000 ?_
      simp only [go_sem]
      refine EvK.go 1000 ?_
      simp only [go_sem, hfin]

def sideF (n : Int) (more less : Bool) : Int := if 0 < n ∧ less = false then 1 else if n < 0 ∧ more = false then -1 else 2
theorem Side_eq (w n : Int) (ks : List AVal) (vs : List Int) (h : ks.length = vs.length) (hk : lowL 0 ks) : CallEq Tryz.prog 160 [.pp [.int .i64 w, .pm ks (ints vs)], .int .i64 n] (.int .i64 (sideF n (vs.any fun n => decide (0 < n)) (vs.any fun n => decide (n < 0)))) := by
  refine CallEq.begin (rs := [.tmp 4]) (m := 24) 1000 Tryz.func160 rfl rfl rfl (by decide) trivial ?_
  have hS := Signs_eq w ks vs h hk
  generalize (vs.any fun n => decide (0 < n)) = a at *
  generalize (vs.any fun n => decide (n < 0)) = b at *
  simp only [go_sem]
  refine VCall.isoT [] hS (pTL_refl _ _ _) ⟨⟨trivial, ⟨hk, ints_low _⟩, trivial⟩, trivial⟩ ?_
  rw [frzI_nil]
  simp only [ite_self]
  refine EvK.go 1000 ?_
  by_cases c1 : 0 < n
  · have c2 : ¬ n < 0 := by omega
    cases b
    · simp only [go_sem, c1, c2]
      simp [sideF, c1]
    · simp only [go_sem, c1, c2]
      simp [sideF, c1, c2]
  · by_cases c2 : n < 0
    · cases a
      · simp only [go_sem, c1, c2]
        simp [sideF, c1, c2]
      · simp only [go_sem, c1, c2]
        simp [sideF, c1, c2]
    · simp only [go_sem, c1, c2]
      simp [sideF, c1, c2]
end Go.Proofs

/- Calls whose answers are read as trees; panics in regions that draw. -/
namespace Go.Abs
open Go

section
variable {P : Program} {F : Frame → List Frame → Sem Next → World → Value → World → Prop} {σ : Store}

end

/-! ### a panic in a region that draws -/
section
variable {P : Program} {lo : Ctx} {Q : AExit → St → Prop} {ops : Array Oper}

end
end Go.Abs

/- Deferred calls, and recovering. -/
namespace Go.Abs
open Go

section
variable {P : Program} {σ : Store}

end
end Go.Abs

/- A call that sees one block alone, at another place of the store. -/
namespace Go.Abs
open Go

section
variable {P : Program}

theorem one_get {B x : Blk} {b : Nat} : ([some B] : Store)[b]? = some (some x) ↔ b = 0 ∧ B = x := by
  cases b with
  | zero => simp
  | succ b => simp

end
end Go.Abs

/- A slice of one's own is handed over with its capacity told; what comes back is told shorter. -/
namespace Go.Abs
open Go

/-- An element of which nothing is known. -/
def blankE (sz : Nat) : AVal := if sz = 1 then .undef else .agg (List.replicate sz .undef)
theorem blank_len (sz : Nat) : (blankE sz).cells.length = sz := by
  unfold blankE; split
  · rename_i h; rw [h]; rfl
  · simp [AVal.cells]
theorem blank_get (sz j : Nat) : (blankE sz).cells.getD j .undef = .undef := by
  unfold blankE; split
  · cases j <;> simp [AVal.cells]
  · simp only [AVal.cells, List.getD_eq_getElem?_getD, List.getElem?_replicate]; split <;> rfl

def osOf : AVal → AVal
  | .oc b off n _ sz => .os b off n sz
  | a => a

section
variable {P : Program} {X : Nat → Nat → Prop} {base : Nat} {σ : Store} {β β' : Env} {w w' : World}

theorem rep_osOf {M : Nat → Nat → Prop} {v : Value} {a : AVal} (h : Rep w M β v a) : Rep w M β v (osOf a) := by
  cases a with
  | oc b off n c sz => cases h with
    | oc0 a h => exact .os0 a h
    | oc h1 h2 h3 => exact .os h1 h2 h3
  | _ => exact h

theorem mof_reblk {b : Nat} {x y : Blk} (hb : getS σ b = some x) (hm : ∀ L o, y.mut L o ↔ x.mut L o) {g o : Nat} : Mof (setS σ b y) β g o ↔ Mof σ β g o := by
  have hb' := getS_some hb
  have hlt : b < σ.length := (List.getElem?_eq_some_iff.1 hb').1
  have hset : setS σ b y = σ.set b (some y) := by unfold setS; rw [if_pos hlt]
  constructor
  · rintro ⟨c, z, L, m1, m2, m3, m4⟩
    rw [hset, List.getElem?_set] at m1
    split at m1
    · rename_i e; subst e
      cases m1
      exact ⟨b, x, L, hb', m2, m3, (hm _ _).1 m4⟩
    · exact ⟨c, z, L, m1, m2, m3, m4⟩
  · rintro ⟨c, z, L, m1, m2, m3, m4⟩
    by_cases e : b = c
    · subst e
      rw [hb'] at m1
      cases m1
      exact ⟨b, y, L, by rw [hset, List.getElem?_set, if_pos rfl, if_pos hlt], m2, m3, (hm _ _).2 m4⟩
    · exact ⟨c, z, L, by rw [hset, List.getElem?_set, if_neg e]; exact m1, m2, m3, m4⟩

theorem setS_lenEq {b : Nat} {x y : Blk} (hb : getS σ b = some x) : (setS σ b y).length = σ.length := by
  have hb' := getS_some hb
  have hlt : b < σ.length := (List.getElem?_eq_some_iff.1 hb').1
  unfold setS; rw [if_pos hlt, List.length_set]

/-- A block is told in another way. -/
theorem RelS.reblk (hr : RelS X base σ β w) {b : Nat} {x y : Blk} (hb : getS σ b = some x) (hm : ∀ L o, y.mut L o ↔ x.mut L o) (hok : ∀ M L, β b = some L → BlkOk w M β L x → BlkOk w M β L y) : RelS X base (setS σ b y) β w := by
  have hb' := getS_some hb
  have hlt : b < σ.length := (List.getElem?_eq_some_iff.1 hb').1
  have hset : setS σ b y = σ.set b (some y) := by unfold setS; rw [if_pos hlt]
  have hM : MT X (setS σ b y) β = MT X σ β := funext fun g => funext fun o => propext (by unfold MT; rw [mof_reblk hb hm])
  have hget : ∀ c z, (setS σ b y)[c]? = some (some z) → (c = b ∧ z = y) ∨ σ[c]? = some (some z) := fun c z h => by
    rw [hset, List.getElem?_set] at h
    split at h
    · rename_i e; subst e; cases h; exact .inl ⟨rfl, rfl⟩
    · exact .inr h
  have hsome : ∀ c z, (setS σ b y)[c]? = some (some z) → ∃ z', σ[c]? = some (some z') := fun c z h => by
    rcases hget c z h with ⟨rfl, rfl⟩ | h
    · exact ⟨x, hb'⟩
    · exact ⟨z, h⟩
  refine ⟨fun c hc => hr.dom c (by rw [setS_lenEq hb] at hc; exact hc), fun c z hc => ?_, fun c c' z z' L L' h1 h2 h3 h4 h5 => ?_, hr.size, hr.xlt, hr.gl⟩
  · rw [hM]
    rcases hget c z hc with ⟨rfl, rfl⟩ | h
    · obtain ⟨L, q1, q2, q3, q4⟩ := hr.blk c x hb'
      exact ⟨L, q1, q2, q3, hok _ L q1 q4⟩
    · exact hr.blk c z h
  · obtain ⟨u, hu⟩ := hsome c z h1
    obtain ⟨u', hu'⟩ := hsome c' z' h2
    exact hr.inj c c' u u' L L' hu hu' h3 h4 h5

theorem Ext.reblk {b lo : Nat} {x y : Blk} (hb : getS σ b = some x) (hm : ∀ L o, y.mut L o ↔ x.mut L o) {σ' : Store} (h : Ext lo (setS σ b y) β w σ' β' w') : Ext lo σ β w σ' β' w' :=
  ⟨h.os, h.tape, h.output, h.size, fun g o v hc hn => h.cell g o v hc fun hx => hn ((mof_reblk hb hm).1 hx), fun g hg hn => h.block g hg fun o hx => hn o ((mof_reblk hb hm).1 hx), fun g o hx => (h.newM g o hx).imp (mof_reblk hb hm).1 fun h => h, h.env⟩

/-- A slice of one's own is handed over, its capacity told, and what room there is behind it. -/
theorem CallSh.capped {F : Frame → List Frame → Sem Next → World → Value → World → Prop} {g : FuncId} {args pre post : List AVal} {K : AVal → Store → Prop} {b off n sz fz : Nat} {es : List AVal} (ha : args = pre ++ .os b off n sz :: post) (hb : getS σ b = some (.row es fz)) (hl : es.length = off + n) (hn : 0 < n)
    (h : ∀ c, n ≤ c → CallShG P F g (pre ++ .oc b off n c sz :: post) (setS σ b (.row (es ++ List.replicate (c - n) (blankE sz)) fz)) K) : CallShG P F g args σ K := by
  subst ha
  intro X base β w vs h1 h2 h3 fr cs h4
  have hk := h3 pre.length (by simp)
  rw [list_getD_append, if_neg (Nat.lt_irrefl _), Nat.sub_self, List.getD_cons_zero] at hk
  rcases hk.os_inv with ⟨rfl, _⟩ | ⟨L, cap, hL, hLs, hcap, hfit, hv⟩
  · exact absurd hn (Nat.lt_irrefl _)
  have hm : ∀ L o, (Blk.row (es ++ List.replicate (cap - n) (blankE sz)) fz).mut L o ↔ (Blk.row es fz).mut L o := fun _ _ => Iff.rfl
  have hM : MT X (setS σ b (.row (es ++ List.replicate (cap - n) (blankE sz)) fz)) β = MT X σ β := funext fun g => funext fun o => propext (by unfold MT; rw [mof_reblk hb hm])
  have hr := h1.reblk hb hm (fun M L' hL' hok => by
    obtain rfl := Option.some.inj (hL.symm.trans hL')
    obtain ⟨c, e, g1, g2, g3, g4, g5⟩ := hok
    refine ⟨c, e, g1, g2, by simp only [List.length_append, List.length_replicate]; omega, fun i hi => ?_, fun i j hi hj => ?_⟩
    · rw [list_getD_append]
      split
      · exact g4 i (by assumption)
      · simp only [List.length_append, List.length_replicate] at hi
        rw [show (List.replicate (cap - n) (blankE sz)).getD (i - es.length) AVal.undef = blankE sz by simp [List.getD, show i - es.length < cap - n by omega], blank_len, hLs]
    · rw [list_getD_append]
      split
      · exact g5 i j (by assumption) hj
      · simp only [List.length_append, List.length_replicate] at hi
        rw [show (List.replicate (cap - n) (blankE sz)).getD (i - es.length) AVal.undef = blankE sz by simp [List.getD, show i - es.length < cap - n by omega], blank_get]
        exact .undef _)
  obtain ⟨r, σ', β', v, w', q, g1, g2, g3, g4, g5⟩ := h cap hcap X base β w vs hr (by simpa using h2) (fun k hk => by
    have hk' : k < (pre ++ .os b off n sz :: post).length := by simpa using hk
    have := h3 k hk'
    rw [hM]
    by_cases e : k = pre.length
    · subst e
      rw [list_getD_append, if_neg (Nat.lt_irrefl _), Nat.sub_self, List.getD_cons_zero] at this ⊢
      rw [hv, ← hLs]; exact .oc hL hcap hfit
    · rw [list_getD_append] at this ⊢
      split
      · rename_i hlt; rw [if_pos hlt] at this; exact this
      · rename_i hlt; rw [if_neg hlt] at this
        obtain ⟨m, hm⟩ : ∃ m, k - pre.length = m + 1 := ⟨k - pre.length - 1, by omega⟩
        rw [hm, List.getD_cons_succ] at this ⊢; exact this) fr cs h4
  exact ⟨r, σ', β', v, w', q, g1, g2, by rw [setS_lenEq hb] at g3; exact g3.reblk hb hm, by rw [setS_lenEq hb] at g4; exact g4, g5⟩

/-- What comes back is told shorter. -/
def shortK (K : AVal → Store → Prop) (b : Nat) (r : AVal) (σ' : Store) : Prop := ∃ es fz m, getS σ' b = some (.row es fz) ∧ K (osOf r) (setS σ' b (.row (es.take m) fz))
theorem CallSh.short {F : Frame → List Frame → Sem Next → World → Value → World → Prop} {g : FuncId} {args : List AVal} {K : AVal → Store → Prop} (b : Nat)
    (h : CallShG P F g args σ (shortK K b)) : CallShG P F g args σ K := by
  intro X base β w vs h1 h2 h3 fr cs h4
  obtain ⟨r, σ', β', v, w', ⟨es, fz, m, hb, q⟩, g1, g2, g3, g4, g5⟩ := h X base β w vs h1 h2 h3 fr cs h4
  have hm : ∀ L o, (Blk.row (es.take m) fz).mut L o ↔ (Blk.row es fz).mut L o := fun _ _ => Iff.rfl
  have hM : MT X (setS σ' b (.row (es.take m) fz)) β' = MT X σ' β' := funext fun g => funext fun o => propext (by unfold MT; rw [mof_reblk hb hm])
  refine ⟨osOf r, _, β', v, w', q, g1.reblk hb hm (fun M L hL hok => ?_), by rw [hM]; exact rep_osOf g2, ⟨g3.os, g3.tape, g3.output, g3.size, g3.cell, g3.block, fun g o hx => g3.newM g o ((mof_reblk hb hm).1 hx), g3.env⟩, by rw [setS_lenEq hb]; exact g4, g5⟩
  obtain ⟨c, e, k1, k2, k3, k4, k5⟩ := hok
  have hg : ∀ i, i < (es.take m).length → (es.take m).getD i AVal.undef = es.getD i .undef := fun i hi => by
    rw [List.length_take] at hi
    simp [List.getD, show i < m by omega]
  have hl : (es.take m).length ≤ es.length := by rw [List.length_take]; omega
  exact ⟨c, e, k1, k2, by omega, fun i hi => by rw [hg i hi]; exact k4 i (by omega), fun i j hi hj => by rw [hg i hi]; exact k5 i j (by omega) hj⟩

theorem CallSh.beginD {g : FuncId} {fn : Func} {c : Code} {args : List AVal} {K : AVal → Store → Prop} {m : Nat} {rs : List ResultVar} (n : Nat) (hf : P.funcs[g]? = some fn) (hb : fn.body = some c) (hr : fn.results.toList = rs) (hm : fn.ntmps - args.length = m)
    (hname : (fn.name == "runtime.NumGoroutine") = false)
    (h : vcK P ⟨σ.length, none⟩ (retQ P rs (dropK K σ.length)) n [.code c] .normal (args ++ List.replicate m .undef) σ) : CallSh P g args σ K := CallSh.drop (CallSh.start n hf hb hr hm hname h)

theorem shK_eq {K : AVal → Store → Prop} {b : Nat} {r : AVal} {σ' : Store} : shortK K b r σ' = ∃ es fz m, getS σ' b = some (.row es fz) ∧ K (osOf r) (setS σ' b (.row (es.take m) fz)) := rfl
end
end Go.Abs
