/- What each type of the seat's program is. No law of the program is proved here. -/
import Derived.Test.YtbbjmfkmjjinnaaV3
import Derived.Test.YtbbjmfkmjjinnaaProg
import Derived.KernelRfl
set_option linter.all false
namespace Go.Proofs.Ytbbjmfkmjjinnaa.V
open Go Go.Proofs
theorem td_0 : td Try.prog 0 = ⟨Bool.true, 1, 0, Bool.true, [(Value.tuple (Array.mk []))], TK.other⟩ := by kernel_rfl
theorem td_1 : td Try.prog 1 = ⟨Bool.true, 1, 8, Bool.true, [Value.nilFunc], TK.func⟩ := by kernel_rfl
theorem td_2 : td Try.prog 2 = ⟨Bool.true, 1, 8, Bool.true, [(Value.int IntKind.i64 0)], (TK.int IntKind.i64)⟩ := by kernel_rfl
theorem td_3 : td Try.prog 3 = ⟨Bool.true, 1, 8, Bool.true, [(Value.int IntKind.i64 0)], (TK.int IntKind.i64)⟩ := by kernel_rfl
theorem td_4 : td Try.prog 4 = ⟨Bool.true, 1, 1, Bool.true, [(Value.bool Bool.false)], TK.bool⟩ := by kernel_rfl
theorem td_5 : td Try.prog 5 = ⟨Bool.true, 1, 1, Bool.true, [(Value.int IntKind.u8 0)], (TK.int IntKind.u8)⟩ := by kernel_rfl
theorem td_6 : td Try.prog 6 = ⟨Bool.true, 1, 1, Bool.true, [(Value.int IntKind.u8 0)], (TK.int IntKind.u8)⟩ := by kernel_rfl
theorem td_7 : td Try.prog 7 = ⟨Bool.true, 4, 24, Bool.true, [(Value.int IntKind.i64 0), (Value.int IntKind.i64 0), (Value.bool Bool.false), (Value.int IntKind.u8 0)], (TK.struct [(0, 2), (1, 3), (2, 4), (3, 6)])⟩ := by kernel_rfl
theorem td_8 : td Try.prog 8 = ⟨Bool.true, 4, 24, Bool.true, [(Value.int IntKind.i64 0), (Value.int IntKind.i64 0), (Value.bool Bool.false), (Value.int IntKind.u8 0)], (TK.struct [(0, 2), (1, 3), (2, 4), (3, 6)])⟩ := by kernel_rfl
theorem td_9 : td Try.prog 9 = ⟨Bool.true, 1, 16, Bool.true, [(Value.string ByteArray.empty)], TK.str⟩ := by kernel_rfl
theorem td_10 : td Try.prog 10 = ⟨Bool.true, 1, 16, Bool.true, [(Value.string ByteArray.empty)], TK.str⟩ := by kernel_rfl
theorem td_11 : td Try.prog 11 = ⟨Bool.true, 1, 16, Bool.true, [(Value.string ByteArray.empty)], TK.str⟩ := by kernel_rfl
theorem td_12 : td Try.prog 12 = ⟨Bool.true, 1, 8, Bool.true, [(Value.int IntKind.u64 0)], (TK.int IntKind.u64)⟩ := by kernel_rfl
theorem td_13 : td Try.prog 13 = ⟨Bool.true, 2, 24, Bool.true, [(Value.string ByteArray.empty), (Value.int IntKind.u64 0)], (TK.struct [(0, 9), (1, 12)])⟩ := by kernel_rfl
theorem td_14 : td Try.prog 14 = ⟨Bool.true, 2, 24, Bool.true, [(Value.string ByteArray.empty), (Value.int IntKind.u64 0)], (TK.struct [(0, 9), (1, 12)])⟩ := by kernel_rfl
theorem td_15 : td Try.prog 15 = ⟨Bool.true, 1, 8, Bool.true, [(Value.pointer Option.none)], (TK.ptr 125)⟩ := by kernel_rfl
theorem td_16 : td Try.prog 16 = ⟨Bool.true, 1, 8, Bool.true, [(Value.pointer Option.none)], (TK.ptr 128)⟩ := by kernel_rfl
theorem td_17 : td Try.prog 17 = ⟨Bool.true, 1, 8, Bool.true, [(Value.pointer Option.none)], (TK.ptr 136)⟩ := by kernel_rfl
theorem td_18 : td Try.prog 18 = ⟨Bool.true, 1, 8, Bool.true, [(Value.pointer Option.none)], (TK.struct [(0, 17)])⟩ := by kernel_rfl
theorem td_19 : td Try.prog 19 = ⟨Bool.true, 1, 8, Bool.true, [(Value.pointer Option.none)], (TK.struct [(0, 17)])⟩ := by kernel_rfl
theorem td_20 : td Try.prog 20 = ⟨Bool.true, 1, 16, Bool.true, [Value.nilIface], TK.iface⟩ := by kernel_rfl
theorem td_21 : td Try.prog 21 = ⟨Bool.true, 1, 4, Bool.true, [(Value.int IntKind.i32 0)], (TK.int IntKind.i32)⟩ := by kernel_rfl
theorem td_22 : td Try.prog 22 = ⟨Bool.true, 1, 24, Bool.true, [(Value.slice Option.none 0 0)], (TK.slice 27)⟩ := by kernel_rfl
theorem td_23 : td Try.prog 23 = ⟨Bool.true, 1, 8, Bool.true, [Value.nilFunc], TK.func⟩ := by kernel_rfl
theorem td_24 : td Try.prog 24 = ⟨Bool.true, 1, 24, Bool.true, [(Value.slice Option.none 0 0)], (TK.slice 9)⟩ := by kernel_rfl
theorem td_25 : td Try.prog 25 = ⟨Bool.true, 1, 24, Bool.true, [(Value.slice Option.none 0 0)], (TK.slice 31)⟩ := by kernel_rfl
theorem td_26 : td Try.prog 26 = ⟨Bool.true, 2, 48, Bool.true, [(Value.slice Option.none 0 0), (Value.slice Option.none 0 0)], (TK.struct [(0, 24), (1, 25)])⟩ := by kernel_rfl
theorem td_27 : td Try.prog 27 = ⟨Bool.true, 2, 48, Bool.true, [(Value.slice Option.none 0 0), (Value.slice Option.none 0 0)], (TK.struct [(0, 24), (1, 25)])⟩ := by kernel_rfl
theorem td_28 : td Try.prog 28 = ⟨Bool.true, 1, 8, Bool.true, [(Value.int IntKind.u64 0)], (TK.int IntKind.u64)⟩ := by kernel_rfl
theorem td_29 : td Try.prog 29 = ⟨Bool.true, 1, 24, Bool.true, [(Value.slice Option.none 0 0)], (TK.slice 3)⟩ := by kernel_rfl
theorem td_30 : td Try.prog 30 = ⟨Bool.true, 2, 32, Bool.true, [(Value.int IntKind.u64 0), (Value.slice Option.none 0 0)], (TK.struct [(0, 28), (1, 29)])⟩ := by kernel_rfl
theorem td_31 : td Try.prog 31 = ⟨Bool.true, 2, 32, Bool.true, [(Value.int IntKind.u64 0), (Value.slice Option.none 0 0)], (TK.struct [(0, 28), (1, 29)])⟩ := by kernel_rfl
theorem td_32 : td Try.prog 32 = ⟨Bool.true, 1, 8, Bool.true, [(Value.int IntKind.i64 0)], (TK.int IntKind.i64)⟩ := by kernel_rfl
theorem td_33 : td Try.prog 33 = ⟨Bool.true, 1, 0, Bool.true, [(Value.tuple (Array.mk [(Value.agg (Array.mk [(Value.slice Option.none 0 0), (Value.slice Option.none 0 0)])), (Value.int IntKind.i64 0)]))], TK.other⟩ := by kernel_rfl
theorem td_34 : td Try.prog 34 = ⟨Bool.true, 1, 8, Bool.true, [Value.nilFunc], TK.func⟩ := by kernel_rfl
theorem td_35 : td Try.prog 35 = ⟨Bool.true, 1, 8, Bool.true, [Value.nilFunc], TK.func⟩ := by kernel_rfl
theorem td_36 : td Try.prog 36 = ⟨Bool.true, 1, 8, Bool.true, [Value.nilFunc], TK.func⟩ := by kernel_rfl
theorem td_37 : td Try.prog 37 = ⟨Bool.true, 1, 8, Bool.true, [Value.nilFunc], TK.func⟩ := by kernel_rfl
theorem td_38 : td Try.prog 38 = ⟨Bool.true, 1, 24, Bool.true, [(Value.slice Option.none 0 0)], (TK.slice 46)⟩ := by kernel_rfl
theorem td_39 : td Try.prog 39 = ⟨Bool.true, 1, 8, Bool.true, [Value.nilFunc], TK.func⟩ := by kernel_rfl
theorem td_40 : td Try.prog 40 = ⟨Bool.true, 1, 8, Bool.true, [Value.nilFunc], TK.func⟩ := by kernel_rfl
theorem td_41 : td Try.prog 41 = ⟨Bool.true, 1, 8, Bool.true, [Value.nilFunc], TK.func⟩ := by kernel_rfl
theorem td_42 : td Try.prog 42 = ⟨Bool.true, 1, 8, Bool.true, [Value.nilFunc], TK.func⟩ := by kernel_rfl
theorem td_43 : td Try.prog 43 = ⟨Bool.true, 1, 8, Bool.true, [Value.nilFunc], TK.func⟩ := by kernel_rfl
theorem td_44 : td Try.prog 44 = ⟨Bool.true, 1, 24, Bool.true, [(Value.slice Option.none 0 0)], (TK.slice 85)⟩ := by kernel_rfl
theorem td_45 : td Try.prog 45 = ⟨Bool.true, 3, 40, Bool.true, [(Value.int IntKind.u64 0), (Value.slice Option.none 0 0), (Value.int IntKind.u8 0)], (TK.struct [(0, 28), (1, 44), (2, 5)])⟩ := by kernel_rfl
theorem td_46 : td Try.prog 46 = ⟨Bool.true, 3, 40, Bool.true, [(Value.int IntKind.u64 0), (Value.slice Option.none 0 0), (Value.int IntKind.u8 0)], (TK.struct [(0, 28), (1, 44), (2, 5)])⟩ := by kernel_rfl
theorem td_47 : td Try.prog 47 = ⟨Bool.true, 1, 8, Bool.true, [Value.nilFunc], TK.func⟩ := by kernel_rfl
theorem td_48 : td Try.prog 48 = ⟨Bool.true, 1, 8, Bool.true, [Value.nilFunc], TK.func⟩ := by kernel_rfl
theorem td_49 : td Try.prog 49 = ⟨Bool.true, 1, 8, Bool.true, [Value.nilFunc], TK.func⟩ := by kernel_rfl
theorem td_50 : td Try.prog 50 = ⟨Bool.true, 1, 8, Bool.true, [Value.nilFunc], TK.func⟩ := by kernel_rfl
theorem td_51 : td Try.prog 51 = ⟨Bool.true, 1, 8, Bool.true, [(Value.pointer Option.none)], (TK.ptr 53)⟩ := by kernel_rfl
theorem td_52 : td Try.prog 52 = ⟨Bool.true, 1, 24, Bool.true, [(Value.slice Option.none 0 0)], (TK.slice 55)⟩ := by kernel_rfl
theorem td_53 : td Try.prog 53 = ⟨Bool.true, 1, 24, Bool.true, [(Value.slice Option.none 0 0)], (TK.slice 55)⟩ := by kernel_rfl
theorem td_54 : td Try.prog 54 = ⟨Bool.true, 2, 32, Bool.true, [(Value.slice Option.none 0 0), (Value.int IntKind.i64 0)], (TK.struct [(0, 25), (1, 3)])⟩ := by kernel_rfl
theorem td_55 : td Try.prog 55 = ⟨Bool.true, 2, 32, Bool.true, [(Value.slice Option.none 0 0), (Value.int IntKind.i64 0)], (TK.struct [(0, 25), (1, 3)])⟩ := by kernel_rfl
theorem td_56 : td Try.prog 56 = ⟨Bool.true, 1, 24, Bool.true, [(Value.slice Option.none 0 0)], (TK.slice 29)⟩ := by kernel_rfl
theorem td_57 : td Try.prog 57 = ⟨Bool.true, 1, 0, Bool.true, [(Value.tuple (Array.mk [(Value.slice Option.none 0 0), (Value.slice Option.none 0 0)]))], TK.other⟩ := by kernel_rfl
theorem td_58 : td Try.prog 58 = ⟨Bool.true, 1, 8, Bool.true, [Value.nilFunc], TK.func⟩ := by kernel_rfl
theorem td_59 : td Try.prog 59 = ⟨Bool.true, 1, 8, Bool.true, [Value.nilFunc], TK.func⟩ := by kernel_rfl
theorem td_60 : td Try.prog 60 = ⟨Bool.true, 1, 8, Bool.true, [Value.nilFunc], TK.func⟩ := by kernel_rfl
theorem td_61 : td Try.prog 61 = ⟨Bool.true, 1, 8, Bool.true, [Value.nilFunc], TK.func⟩ := by kernel_rfl
theorem td_62 : td Try.prog 62 = ⟨Bool.true, 1, 8, Bool.true, [Value.nilFunc], TK.func⟩ := by kernel_rfl
theorem td_63 : td Try.prog 63 = ⟨Bool.true, 1, 8, Bool.true, [Value.nilFunc], TK.func⟩ := by kernel_rfl
theorem td_64 : td Try.prog 64 = ⟨Bool.true, 1, 8, Bool.true, [Value.nilFunc], TK.func⟩ := by kernel_rfl
theorem td_65 : td Try.prog 65 = ⟨Bool.true, 1, 8, Bool.true, [Value.nilFunc], TK.func⟩ := by kernel_rfl
theorem td_66 : td Try.prog 66 = ⟨Bool.true, 1, 8, Bool.true, [Value.nilFunc], TK.func⟩ := by kernel_rfl
theorem td_67 : td Try.prog 67 = ⟨Bool.true, 1, 8, Bool.true, [Value.nilFunc], TK.func⟩ := by kernel_rfl
theorem td_68 : td Try.prog 68 = ⟨Bool.true, 1, 8, Bool.true, [Value.nilFunc], TK.func⟩ := by kernel_rfl
theorem td_69 : td Try.prog 69 = ⟨Bool.true, 1, 8, Bool.true, [Value.nilFunc], TK.func⟩ := by kernel_rfl
theorem td_70 : td Try.prog 70 = ⟨Bool.true, 1, 8, Bool.true, [Value.nilFunc], TK.func⟩ := by kernel_rfl
theorem td_71 : td Try.prog 71 = ⟨Bool.true, 1, 8, Bool.true, [Value.nilFunc], TK.func⟩ := by kernel_rfl
theorem td_72 : td Try.prog 72 = ⟨Bool.true, 6, 96, Bool.true, [(Value.string ByteArray.empty), (Value.string ByteArray.empty), (Value.string ByteArray.empty), (Value.string ByteArray.empty), (Value.string ByteArray.empty), (Value.string ByteArray.empty)], (TK.arr 6 9)⟩ := by kernel_rfl
theorem td_73 : td Try.prog 73 = ⟨Bool.true, 1, 16, Bool.true, [Value.nilIface], TK.iface⟩ := by kernel_rfl
theorem td_74 : td Try.prog 74 = ⟨Bool.true, 1, 16, Bool.true, [Value.nilIface], TK.iface⟩ := by kernel_rfl
theorem td_75 : td Try.prog 75 = ⟨Bool.true, 1, 8, Bool.true, [Value.nilFunc], TK.func⟩ := by kernel_rfl
theorem td_76 : td Try.prog 76 = ⟨Bool.true, 1, 8, Bool.true, [Value.nilFunc], TK.func⟩ := by kernel_rfl
theorem td_77 : td Try.prog 77 = ⟨Bool.true, 1, 8, Bool.true, [Value.nilFunc], TK.func⟩ := by kernel_rfl
theorem td_78 : td Try.prog 78 = ⟨Bool.true, 1, 8, Bool.true, [Value.nilFunc], TK.func⟩ := by kernel_rfl
theorem td_79 : td Try.prog 79 = ⟨Bool.true, 1, 8, Bool.true, [Value.nilFunc], TK.func⟩ := by kernel_rfl
theorem td_80 : td Try.prog 80 = ⟨Bool.true, 1, 8, Bool.true, [Value.nilFunc], TK.func⟩ := by kernel_rfl
theorem td_81 : td Try.prog 81 = ⟨Bool.true, 1, 8, Bool.true, [Value.nilFunc], TK.func⟩ := by kernel_rfl
theorem td_82 : td Try.prog 82 = ⟨Bool.true, 1, 8, Bool.true, [Value.nilFunc], TK.func⟩ := by kernel_rfl
theorem td_83 : td Try.prog 83 = ⟨Bool.true, 1, 8, Bool.true, [Value.nilFunc], TK.func⟩ := by kernel_rfl
theorem td_84 : td Try.prog 84 = ⟨Bool.true, 1, 8, Bool.true, [(Value.int IntKind.u64 0)], (TK.int IntKind.u64)⟩ := by kernel_rfl
theorem td_85 : td Try.prog 85 = ⟨Bool.true, 1, 2, Bool.true, [(Value.int IntKind.u16 0)], (TK.int IntKind.u16)⟩ := by kernel_rfl
theorem td_86 : td Try.prog 86 = ⟨Bool.true, 1, 8, Bool.true, [Value.nilFunc], TK.func⟩ := by kernel_rfl
theorem td_87 : td Try.prog 87 = ⟨Bool.true, 1, 8, Bool.true, [Value.nilFunc], TK.func⟩ := by kernel_rfl
theorem td_88 : td Try.prog 88 = ⟨Bool.true, 1, 8, Bool.true, [Value.nilFunc], TK.func⟩ := by kernel_rfl
theorem td_89 : td Try.prog 89 = ⟨Bool.true, 1, 8, Bool.true, [Value.nilFunc], TK.func⟩ := by kernel_rfl
theorem td_90 : td Try.prog 90 = ⟨Bool.true, 1, 8, Bool.true, [Value.nilFunc], TK.func⟩ := by kernel_rfl
theorem td_91 : td Try.prog 91 = ⟨Bool.true, 1, 8, Bool.true, [Value.nilFunc], TK.func⟩ := by kernel_rfl
theorem td_92 : td Try.prog 92 = ⟨Bool.true, 1, 8, Bool.true, [(Value.int IntKind.i64 0)], (TK.int IntKind.i64)⟩ := by kernel_rfl
theorem td_93 : td Try.prog 93 = ⟨Bool.true, 1, 0, Bool.true, [(Value.tuple (Array.mk [(Value.int IntKind.i64 0), (Value.int IntKind.i64 0)]))], TK.other⟩ := by kernel_rfl
theorem td_94 : td Try.prog 94 = ⟨Bool.true, 1, 8, Bool.true, [Value.nilFunc], TK.func⟩ := by kernel_rfl
theorem td_95 : td Try.prog 95 = ⟨Bool.true, 1, 8, Bool.true, [Value.nilFunc], TK.func⟩ := by kernel_rfl
theorem td_96 : td Try.prog 96 = ⟨Bool.true, 1, 8, Bool.true, [Value.nilFunc], TK.func⟩ := by kernel_rfl
theorem td_97 : td Try.prog 97 = ⟨Bool.true, 1, 8, Bool.true, [Value.nilFunc], TK.func⟩ := by kernel_rfl
theorem td_98 : td Try.prog 98 = ⟨Bool.true, 1, 0, Bool.true, [(Value.tuple (Array.mk [(Value.int IntKind.i64 0), (Value.bool Bool.false)]))], TK.other⟩ := by kernel_rfl
theorem td_99 : td Try.prog 99 = ⟨Bool.true, 1, 8, Bool.true, [Value.nilFunc], TK.func⟩ := by kernel_rfl
theorem td_100 : td Try.prog 100 = ⟨Bool.true, 1, 8, Bool.true, [Value.nilFunc], TK.func⟩ := by kernel_rfl
theorem td_101 : td Try.prog 101 = ⟨Bool.true, 1, 4, Bool.true, [(Value.int IntKind.u32 0)], (TK.int IntKind.u32)⟩ := by kernel_rfl
theorem td_102 : td Try.prog 102 = ⟨Bool.true, 1, 8, Bool.true, [Value.nilFunc], TK.func⟩ := by kernel_rfl
theorem td_103 : td Try.prog 103 = ⟨Bool.true, 1, 8, Bool.true, [Value.nilFunc], TK.func⟩ := by kernel_rfl
theorem td_104 : td Try.prog 104 = ⟨Bool.true, 1, 8, Bool.true, [Value.nilFunc], TK.func⟩ := by kernel_rfl
theorem td_105 : td Try.prog 105 = ⟨Bool.true, 1, 8, Bool.true, [Value.nilFunc], TK.func⟩ := by kernel_rfl
theorem td_106 : td Try.prog 106 = ⟨Bool.true, 1, 8, Bool.true, [Value.nilFunc], TK.func⟩ := by kernel_rfl
theorem td_107 : td Try.prog 107 = ⟨Bool.true, 1, 8, Bool.true, [Value.nilFunc], TK.func⟩ := by kernel_rfl
theorem td_108 : td Try.prog 108 = ⟨Bool.true, 1, 8, Bool.true, [Value.nilFunc], TK.func⟩ := by kernel_rfl
theorem td_109 : td Try.prog 109 = ⟨Bool.true, 1, 8, Bool.true, [(Value.int IntKind.u64 0)], (TK.int IntKind.u64)⟩ := by kernel_rfl
theorem td_110 : td Try.prog 110 = ⟨Bool.true, 1, 8, Bool.true, [Value.nilFunc], TK.func⟩ := by kernel_rfl
theorem td_111 : td Try.prog 111 = ⟨Bool.true, 1, 8, Bool.true, [Value.nilFunc], TK.func⟩ := by kernel_rfl
theorem td_112 : td Try.prog 112 = ⟨Bool.true, 1, 8, Bool.true, [Value.nilFunc], TK.func⟩ := by kernel_rfl
theorem td_113 : td Try.prog 113 = ⟨Bool.true, 1, 8, Bool.true, [(Value.pointer Option.none)], (TK.ptr 3)⟩ := by kernel_rfl
theorem td_114 : td Try.prog 114 = ⟨Bool.true, 1, 8, Bool.true, [Value.nilFunc], TK.func⟩ := by kernel_rfl
theorem td_115 : td Try.prog 115 = ⟨Bool.true, 1, 8, Bool.true, [Value.nilFunc], TK.func⟩ := by kernel_rfl
theorem td_116 : td Try.prog 116 = ⟨Bool.true, 1, 8, Bool.true, [Value.nilFunc], TK.func⟩ := by kernel_rfl
theorem td_117 : td Try.prog 117 = ⟨Bool.true, 1, 8, Bool.true, [Value.nilFunc], TK.func⟩ := by kernel_rfl
theorem td_118 : td Try.prog 118 = ⟨Bool.true, 13, 208, Bool.true, [(Value.string ByteArray.empty), (Value.string ByteArray.empty), (Value.string ByteArray.empty), (Value.string ByteArray.empty), (Value.string ByteArray.empty), (Value.string ByteArray.empty), (Value.string ByteArray.empty), (Value.string ByteArray.empty), (Value.string ByteArray.empty), (Value.string ByteArray.empty), (Value.string ByteArray.empty), (Value.string ByteArray.empty), (Value.string ByteArray.empty)], (TK.arr 13 9)⟩ := by kernel_rfl
theorem td_119 : td Try.prog 119 = ⟨Bool.true, 1, 8, Bool.true, [(Value.pointer Option.none)], (TK.ptr 109)⟩ := by kernel_rfl
theorem td_120 : td Try.prog 120 = ⟨Bool.true, 1, 0, Bool.true, [(Value.tuple (Array.mk [(Value.int IntKind.i64 0), (Value.int IntKind.i64 0)]))], TK.other⟩ := by kernel_rfl
theorem td_121 : td Try.prog 121 = ⟨Bool.true, 1, 8, Bool.true, [Value.nilFunc], TK.func⟩ := by kernel_rfl
theorem td_122 : td Try.prog 122 = ⟨Bool.true, 1, 8, Bool.true, [Value.nilFunc], TK.func⟩ := by kernel_rfl
theorem td_123 : td Try.prog 123 = ⟨Bool.true, 1, 8, Bool.true, [Value.nilFunc], TK.func⟩ := by kernel_rfl
theorem td_124 : td Try.prog 124 = ⟨Bool.true, 4, 40, Bool.true, [(Value.pointer Option.none), (Value.pointer Option.none), (Value.pointer Option.none), (Value.string ByteArray.empty)], (TK.struct [(0, 17), (1, 17), (2, 17), (3, 9)])⟩ := by kernel_rfl
theorem td_125 : td Try.prog 125 = ⟨Bool.true, 4, 40, Bool.true, [(Value.pointer Option.none), (Value.pointer Option.none), (Value.pointer Option.none), (Value.string ByteArray.empty)], (TK.struct [(0, 17), (1, 17), (2, 17), (3, 9)])⟩ := by kernel_rfl
theorem td_126 : td Try.prog 126 = ⟨Bool.true, 0, 0, Bool.true, [], (TK.arr 0 16)⟩ := by kernel_rfl
theorem td_127 : td Try.prog 127 = ⟨Bool.true, 0, 0, Bool.true, [], (TK.struct [(0, 126)])⟩ := by kernel_rfl
theorem td_128 : td Try.prog 128 = ⟨Bool.true, 0, 0, Bool.true, [], (TK.struct [(0, 126)])⟩ := by kernel_rfl
theorem td_129 : td Try.prog 129 = ⟨Bool.true, 1, 1, Bool.true, [(Value.int IntKind.u8 0)], (TK.int IntKind.u8)⟩ := by kernel_rfl
theorem td_130 : td Try.prog 130 = ⟨Bool.true, 1, 1, Bool.true, [(Value.int IntKind.u8 0)], (TK.int IntKind.u8)⟩ := by kernel_rfl
theorem td_131 : td Try.prog 131 = ⟨Bool.true, 1, 8, Bool.true, [Value.nilFunc], TK.func⟩ := by kernel_rfl
theorem td_132 : td Try.prog 132 = ⟨Bool.true, 1, 8, Bool.true, [(Value.pointer Option.none)], (TK.ptr 5)⟩ := by kernel_rfl
theorem td_133 : td Try.prog 133 = ⟨Bool.true, 1, 4, Bool.true, [(Value.int IntKind.i32 0)], (TK.int IntKind.i32)⟩ := by kernel_rfl
theorem td_134 : td Try.prog 134 = ⟨Bool.true, 1, 4, Bool.true, [(Value.int IntKind.i32 0)], (TK.int IntKind.i32)⟩ := by kernel_rfl
theorem td_135 : td Try.prog 135 = ⟨Bool.true, 11, 48, Bool.true, [(Value.int IntKind.u64 0), (Value.int IntKind.u64 0), (Value.int IntKind.u32 0), (Value.int IntKind.u8 0), (Value.int IntKind.u8 0), (Value.int IntKind.u8 0), (Value.int IntKind.u8 0), Value.nilFunc, (Value.pointer Option.none), (Value.int IntKind.i32 0), (Value.int IntKind.i32 0)], (TK.struct [(0, 12), (1, 12), (2, 101), (3, 129), (4, 5), (5, 5), (6, 130), (7, 131), (8, 132), (9, 133), (10, 134)])⟩ := by kernel_rfl
theorem td_136 : td Try.prog 136 = ⟨Bool.true, 11, 48, Bool.true, [(Value.int IntKind.u64 0), (Value.int IntKind.u64 0), (Value.int IntKind.u32 0), (Value.int IntKind.u8 0), (Value.int IntKind.u8 0), (Value.int IntKind.u8 0), (Value.int IntKind.u8 0), Value.nilFunc, (Value.pointer Option.none), (Value.int IntKind.i32 0), (Value.int IntKind.i32 0)], (TK.struct [(0, 12), (1, 12), (2, 101), (3, 129), (4, 5), (5, 5), (6, 130), (7, 131), (8, 132), (9, 133), (10, 134)])⟩ := by kernel_rfl
theorem td_137 : td Try.prog 137 = ⟨Bool.true, 1, 8, Bool.true, [Value.nilFunc], TK.func⟩ := by kernel_rfl
theorem td_138 : td Try.prog 138 = ⟨Bool.true, 1, 8, Bool.true, [(Value.pointer Option.none)], TK.other⟩ := by kernel_rfl
end Go.Proofs.Ytbbjmfkmjjinnaa.V
