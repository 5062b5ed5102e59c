/- The table of the seat's types, as the engine reads it, and that the program has it so. -/
import Derived.Test.YtoabhjflfbblfaaEngF
import Derived.Test.YtoabhjflfbblfaaChecked
import Derived.KernelRfl
namespace Go.Proofs.Ytoabhjflfbblfaa
open Eng

def T : List (Nat × TI) := [
  (2, ⟨1, 8, [.dv (.int .i64 0)], .int .i64⟩),
  (3, ⟨1, 8, [.dv (.int .i64 0)], .int .i64⟩),
  (4, ⟨1, 1, [.dv (.bool false)], .bool⟩),
  (5, ⟨1, 1, [.dv (.int .u8 0)], .int .u8⟩),
  (6, ⟨1, 1, [.dv (.int .u8 0)], .int .u8⟩),
  (7, ⟨4, 24, [.dv (.int .i64 0), .dv (.int .i64 0), .dv (.bool false), .dv (.int .u8 0)], .struct [(0, 2), (1, 3), (2, 4), (3, 6)]⟩),
  (8, ⟨4, 24, [.dv (.int .i64 0), .dv (.int .i64 0), .dv (.bool false), .dv (.int .u8 0)], .struct [(0, 2), (1, 3), (2, 4), (3, 6)]⟩),
  (9, ⟨1, 16, [.dv (.str ByteArray.empty)], .str⟩),
  (10, ⟨1, 16, [.dv (.str ByteArray.empty)], .str⟩),
  (11, ⟨1, 16, [.dv (.str ByteArray.empty)], .str⟩),
  (12, ⟨1, 8, [.dv (.int .u64 0)], .int .u64⟩),
  (13, ⟨2, 24, [.dv (.str ByteArray.empty), .dv (.int .u64 0)], .struct [(0, 9), (1, 12)]⟩),
  (14, ⟨2, 24, [.dv (.str ByteArray.empty), .dv (.int .u64 0)], .struct [(0, 9), (1, 12)]⟩),
  (15, ⟨1, 8, [.bot], .one⟩),
  (16, ⟨1, 8, [.bot], .one⟩),
  (17, ⟨1, 8, [.bot], .one⟩),
  (18, ⟨1, 8, [.bot], .struct [(0, 17)]⟩),
  (19, ⟨1, 8, [.bot], .struct [(0, 17)]⟩),
  (21, ⟨1, 4, [.dv (.int .i32 0)], .int .i32⟩),
  (22, ⟨1, 24, [.nil 1], .slice 5⟩),
  (27, ⟨4, 64, [.dv (.str ByteArray.empty), .dv (.str ByteArray.empty), .dv (.str ByteArray.empty), .dv (.str ByteArray.empty)], .arr 4 9⟩),
  (28, ⟨5, 80, [.dv (.str ByteArray.empty), .dv (.str ByteArray.empty), .dv (.str ByteArray.empty), .dv (.str ByteArray.empty), .dv (.str ByteArray.empty)], .arr 5 9⟩),
  (29, ⟨1, 24, [.nil 3], .slice 36⟩),
  (30, ⟨1, 8, [.dv (.int .i64 0)], .int .i64⟩),
  (31, ⟨2, 16, [.dv (.int .i64 0), .dv (.int .i64 0)], .struct [(0, 30), (1, 3)]⟩),
  (32, ⟨2, 16, [.dv (.int .i64 0), .dv (.int .i64 0)], .struct [(0, 30), (1, 3)]⟩),
  (35, ⟨3, 32, [.dv (.str ByteArray.empty), .dv (.int .i64 0), .dv (.int .i64 0)], .struct [(0, 9), (1, 3), (2, 3)]⟩),
  (36, ⟨3, 32, [.dv (.str ByteArray.empty), .dv (.int .i64 0), .dv (.int .i64 0)], .struct [(0, 9), (1, 3), (2, 3)]⟩),
  (38, ⟨1, 2, [.dv (.int .u16 0)], .int .u16⟩),
  (43, ⟨9, 144, [.dv (.str ByteArray.empty), .dv (.str ByteArray.empty), .dv (.str ByteArray.empty), .dv (.str ByteArray.empty), .dv (.str ByteArray.empty), .dv (.str ByteArray.empty), .dv (.str ByteArray.empty), .dv (.str ByteArray.empty), .dv (.str ByteArray.empty)], .arr 9 9⟩),
  (44, ⟨8, 128, [.dv (.str ByteArray.empty), .dv (.str ByteArray.empty), .dv (.str ByteArray.empty), .dv (.str ByteArray.empty), .dv (.str ByteArray.empty), .dv (.str ByteArray.empty), .dv (.str ByteArray.empty), .dv (.str ByteArray.empty)], .arr 8 9⟩),
  (46, ⟨16, 256, [.dv (.str ByteArray.empty), .dv (.str ByteArray.empty), .dv (.str ByteArray.empty), .dv (.str ByteArray.empty), .dv (.str ByteArray.empty), .dv (.str ByteArray.empty), .dv (.str ByteArray.empty), .dv (.str ByteArray.empty), .dv (.str ByteArray.empty), .dv (.str ByteArray.empty), .dv (.str ByteArray.empty), .dv (.str ByteArray.empty), .dv (.str ByteArray.empty), .dv (.str ByteArray.empty), .dv (.str ByteArray.empty), .dv (.str ByteArray.empty)], .arr 16 9⟩),
  (63, ⟨1, 8, [.dv (.int .u64 0)], .int .u64⟩),
  (64, ⟨1, 4, [.dv (.int .u32 0)], .int .u32⟩),
  (68, ⟨4, 40, [.bot, .bot, .bot, .dv (.str ByteArray.empty)], .struct [(0, 17), (1, 17), (2, 17), (3, 9)]⟩),
  (69, ⟨4, 40, [.bot, .bot, .bot, .dv (.str ByteArray.empty)], .struct [(0, 17), (1, 17), (2, 17), (3, 9)]⟩),
  (70, ⟨0, 0, [], .arr 0 16⟩),
  (71, ⟨0, 0, [], .struct [(0, 70)]⟩),
  (72, ⟨0, 0, [], .struct [(0, 70)]⟩),
  (74, ⟨1, 1, [.dv (.int .u8 0)], .int .u8⟩),
  (75, ⟨1, 1, [.dv (.int .u8 0)], .int .u8⟩),
  (77, ⟨1, 8, [.bot], .one⟩),
  (78, ⟨1, 4, [.dv (.int .i32 0)], .int .i32⟩),
  (79, ⟨1, 4, [.dv (.int .i32 0)], .int .i32⟩),
  (80, ⟨11, 48, [.dv (.int .u64 0), .dv (.int .u64 0), .dv (.int .u32 0), .dv (.int .u8 0), .dv (.int .u8 0), .dv (.int .u8 0), .dv (.int .u8 0), .bot, .bot, .dv (.int .i32 0), .dv (.int .i32 0)], .struct [(0, 12), (1, 12), (2, 64), (3, 74), (4, 5), (5, 5), (6, 75), (7, 76), (8, 77), (9, 78), (10, 79)]⟩),
  (81, ⟨11, 48, [.dv (.int .u64 0), .dv (.int .u64 0), .dv (.int .u32 0), .dv (.int .u8 0), .dv (.int .u8 0), .dv (.int .u8 0), .dv (.int .u8 0), .bot, .bot, .dv (.int .i32 0), .dv (.int .i32 0)], .struct [(0, 12), (1, 12), (2, 64), (3, 74), (4, 5), (5, 5), (6, 75), (7, 76), (8, 77), (9, 78), (10, 79)]⟩)]
theorem tab : TabOk Try.prog T := tabB_ok (by kernel_rfl)
theorem mix : Try.prog.follows .mixedOrders = true := by kernel_rfl
end Go.Proofs.Ytoabhjflfbblfaa
