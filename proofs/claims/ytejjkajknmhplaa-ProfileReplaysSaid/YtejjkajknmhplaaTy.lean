/- The table of the seat's types, as the engine reads it, and that the program has it so. -/
import Derived.Test.YtejjkajknmhplaaEngF
import Derived.Test.YtejjkajknmhplaaChecked
import Derived.KernelRfl
namespace Go.Proofs.Ytejjkajknmhplaa
open Eng

def T : List (Nat × TI) := [
  (2, ⟨1, 8, [.dv (.int .i64 0)], .int .i64⟩),
  (3, ⟨1, 8, [.dv (.int .i64 0)], .int .i64⟩),
  (4, ⟨1, 1, [.dv (.bool false)], .bool⟩),
  (5, ⟨1, 1, [.dv (.int .u8 0)], .int .u8⟩),
  (6, ⟨1, 1, [.dv (.int .u8 0)], .int .u8⟩),
  (7, ⟨4, 24, [.dv (.int .i64 0), .dv (.int .i64 0), .dv (.bool false), .dv (.int .u8 0)], .struct [(0, 2), (1, 3), (2, 4), (3, 6)]⟩),
  (8, ⟨4, 24, [.dv (.int .i64 0), .dv (.int .i64 0), .dv (.bool false), .dv (.int .u8 0)], .struct [(0, 2), (1, 3), (2, 4), (3, 6)]⟩),
  (9, ⟨1, 16, [.dv (.str ByteArray.empty)], .str⟩),
  (10, ⟨1, 16, [.dv (.str ByteArray.empty)], .str⟩),
  (11, ⟨1, 16, [.dv (.str ByteArray.empty)], .str⟩),
  (12, ⟨1, 8, [.dv (.int .u64 0)], .int .u64⟩),
  (13, ⟨2, 24, [.dv (.str ByteArray.empty), .dv (.int .u64 0)], .struct [(0, 9), (1, 12)]⟩),
  (14, ⟨2, 24, [.dv (.str ByteArray.empty), .dv (.int .u64 0)], .struct [(0, 9), (1, 12)]⟩),
  (15, ⟨1, 8, [.bot], .one⟩),
  (16, ⟨1, 8, [.bot], .one⟩),
  (17, ⟨1, 8, [.bot], .one⟩),
  (18, ⟨1, 8, [.bot], .struct [(0, 17)]⟩),
  (19, ⟨1, 8, [.bot], .struct [(0, 17)]⟩),
  (21, ⟨1, 4, [.dv (.int .i32 0)], .int .i32⟩),
  (22, ⟨1, 24, [.nil 1], .slice 2⟩),
  (23, ⟨1, 24, [.nil 4], .slice 25⟩),
  (24, ⟨4, 32, [.dv (.int .i64 0), .dv (.int .i64 0), .dv (.int .i64 0), .dv (.int .i64 0)], .struct [(0, 3), (1, 2), (2, 2), (3, 2)]⟩),
  (25, ⟨4, 32, [.dv (.int .i64 0), .dv (.int .i64 0), .dv (.int .i64 0), .dv (.int .i64 0)], .struct [(0, 3), (1, 2), (2, 2), (3, 2)]⟩),
  (26, ⟨1, 24, [.nil 1], .slice 3⟩),
  (39, ⟨1, 24, [.nil 1], .slice 22⟩),
  (43, ⟨1, 24, [.nil 3], .slice 46⟩),
  (45, ⟨3, 24, [.dv (.int .i64 0), .dv (.int .i64 0), .dv (.int .i64 0)], .struct [(0, 3), (1, 3), (2, 3)]⟩),
  (46, ⟨3, 24, [.dv (.int .i64 0), .dv (.int .i64 0), .dv (.int .i64 0)], .struct [(0, 3), (1, 3), (2, 3)]⟩),
  (61, ⟨1, 8, [.bot], .one⟩),
  (73, ⟨2, 32, [.nil 1, .dv (.int .i64 0)], .struct [(0, 26), (1, 3)]⟩),
  (74, ⟨2, 32, [.nil 1, .dv (.int .i64 0)], .struct [(0, 26), (1, 3)]⟩),
  (77, ⟨4, 40, [.bot, .bot, .bot, .dv (.str ByteArray.empty)], .struct [(0, 17), (1, 17), (2, 17), (3, 9)]⟩),
  (78, ⟨4, 40, [.bot, .bot, .bot, .dv (.str ByteArray.empty)], .struct [(0, 17), (1, 17), (2, 17), (3, 9)]⟩),
  (79, ⟨0, 0, [], .arr 0 16⟩),
  (80, ⟨0, 0, [], .struct [(0, 79)]⟩),
  (81, ⟨0, 0, [], .struct [(0, 79)]⟩),
  (83, ⟨1, 4, [.dv (.int .u32 0)], .int .u32⟩),
  (84, ⟨1, 1, [.dv (.int .u8 0)], .int .u8⟩),
  (85, ⟨1, 1, [.dv (.int .u8 0)], .int .u8⟩),
  (87, ⟨1, 8, [.bot], .one⟩),
  (88, ⟨1, 4, [.dv (.int .i32 0)], .int .i32⟩),
  (89, ⟨1, 4, [.dv (.int .i32 0)], .int .i32⟩),
  (90, ⟨11, 48, [.dv (.int .u64 0), .dv (.int .u64 0), .dv (.int .u32 0), .dv (.int .u8 0), .dv (.int .u8 0), .dv (.int .u8 0), .dv (.int .u8 0), .bot, .bot, .dv (.int .i32 0), .dv (.int .i32 0)], .struct [(0, 12), (1, 12), (2, 83), (3, 84), (4, 5), (5, 5), (6, 85), (7, 86), (8, 87), (9, 88), (10, 89)]⟩),
  (91, ⟨11, 48, [.dv (.int .u64 0), .dv (.int .u64 0), .dv (.int .u32 0), .dv (.int .u8 0), .dv (.int .u8 0), .dv (.int .u8 0), .dv (.int .u8 0), .bot, .bot, .dv (.int .i32 0), .dv (.int .i32 0)], .struct [(0, 12), (1, 12), (2, 83), (3, 84), (4, 5), (5, 5), (6, 85), (7, 86), (8, 87), (9, 88), (10, 89)]⟩)]
theorem tab : TabOk Try.prog T := tabB_ok (by kernel_rfl)
theorem mix : Try.prog.follows .mixedOrders = true := by kernel_rfl
end Go.Proofs.Ytejjkajknmhplaa
