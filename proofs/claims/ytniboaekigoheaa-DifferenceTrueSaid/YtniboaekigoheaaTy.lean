/-
  The types of the translated program, as the walks ask them: printed by a program (wip/tools_gen.py); the kernel checks each row.
-/
import Derived.Test.YtniboaekigoheaaSjK
import Derived.Test.YtniboaekigoheaaProg
namespace Go.Proofs.Ytniboaekigoheaa
open Go.Sj
def tt : List (TypeId × TD) := [
  (1, ⟨.func, 1, 8, [.nilFunc]⟩),
  (2, ⟨.int .i64, 1, 8, [.int .i64 0]⟩),
  (3, ⟨.int .i64, 1, 8, [.int .i64 0]⟩),
  (4, ⟨.bool, 1, 1, [.bool false]⟩),
  (5, ⟨.int .u8, 1, 1, [.int .u8 0]⟩),
  (9, ⟨.str, 1, 16, [.string ⟨#[]⟩]⟩),
  (12, ⟨.int .u64, 1, 8, [.int .u64 0]⟩),
  (13, ⟨.struct [(0, 9), (1, 12)], 2, 24, [.string ⟨#[]⟩, .int .u64 0]⟩),
  (21, ⟨.int .i32, 1, 4, [.int .i32 0]⟩),
  (22, ⟨.slice 26, 1, 24, [.slice none 0 0]⟩),
  (23, ⟨.struct [(0, 3), (1, 3)], 2, 16, [.int .i64 0, .int .i64 0]⟩),
  (24, ⟨.struct [(0, 3), (1, 3)], 2, 16, [.int .i64 0, .int .i64 0]⟩),
  (25, ⟨.struct [(0, 3), (1, 24), (3, 24)], 5, 40, [.int .i64 0, .int .i64 0, .int .i64 0, .int .i64 0, .int .i64 0]⟩),
  (26, ⟨.struct [(0, 3), (1, 24), (3, 24)], 5, 40, [.int .i64 0, .int .i64 0, .int .i64 0, .int .i64 0, .int .i64 0]⟩),
  (27, ⟨.func, 1, 8, [.nilFunc]⟩),
  (28, ⟨.int .i64, 1, 8, [.int .i64 0]⟩),
  (30, ⟨.func, 1, 8, [.nilFunc]⟩),
  (31, ⟨.func, 1, 8, [.nilFunc]⟩),
  (32, ⟨.func, 1, 8, [.nilFunc]⟩),
  (33, ⟨.slice 44, 1, 24, [.slice none 0 0]⟩),
  (35, ⟨.func, 1, 8, [.nilFunc]⟩),
  (36, ⟨.slice 3, 1, 24, [.slice none 0 0]⟩),
  (38, ⟨.func, 1, 8, [.nilFunc]⟩),
  (39, ⟨.slice 55, 1, 24, [.slice none 0 0]⟩),
  (41, ⟨.func, 1, 8, [.nilFunc]⟩),
  (42, ⟨.func, 1, 8, [.nilFunc]⟩),
  (43, ⟨.int .i8, 1, 1, [.int .i8 0]⟩),
  (44, ⟨.array 4 43, 4, 4, [.int .i8 0, .int .i8 0, .int .i8 0, .int .i8 0]⟩),
  (45, ⟨.func, 1, 8, [.nilFunc]⟩),
  (46, ⟨.func, 1, 8, [.nilFunc]⟩),
  (48, ⟨.func, 1, 8, [.nilFunc]⟩),
  (49, ⟨.func, 1, 8, [.nilFunc]⟩),
  (50, ⟨.func, 1, 8, [.nilFunc]⟩),
  (51, ⟨.func, 1, 8, [.nilFunc]⟩),
  (52, ⟨.func, 1, 8, [.nilFunc]⟩),
  (53, ⟨.func, 1, 8, [.nilFunc]⟩),
  (54, ⟨.struct [(0, 3), (1, 3)], 2, 16, [.int .i64 0, .int .i64 0]⟩),
  (55, ⟨.struct [(0, 3), (1, 3)], 2, 16, [.int .i64 0, .int .i64 0]⟩),
  (56, ⟨.slice 43, 1, 24, [.slice none 0 0]⟩),
  (57, ⟨.func, 1, 8, [.nilFunc]⟩),
  (58, ⟨.func, 1, 8, [.nilFunc]⟩),
  (59, ⟨.func, 1, 8, [.nilFunc]⟩),
  (60, ⟨.func, 1, 8, [.nilFunc]⟩),
  (61, ⟨.func, 1, 8, [.nilFunc]⟩),
  (62, ⟨.func, 1, 8, [.nilFunc]⟩),
  (63, ⟨.func, 1, 8, [.nilFunc]⟩),
  (64, ⟨.func, 1, 8, [.nilFunc]⟩),
  (65, ⟨.func, 1, 8, [.nilFunc]⟩),
  (66, ⟨.func, 1, 8, [.nilFunc]⟩),
  (67, ⟨.func, 1, 8, [.nilFunc]⟩),
  (68, ⟨.slice 71, 1, 24, [.slice none 0 0]⟩),
  (69, ⟨.func, 1, 8, [.nilFunc]⟩),
  (70, ⟨.struct [(0, 55), (2, 3), (3, 3), (4, 3)], 5, 40, [.int .i64 0, .int .i64 0, .int .i64 0, .int .i64 0, .int .i64 0]⟩),
  (71, ⟨.struct [(0, 55), (2, 3), (3, 3), (4, 3)], 5, 40, [.int .i64 0, .int .i64 0, .int .i64 0, .int .i64 0, .int .i64 0]⟩),
  (72, ⟨.func, 1, 8, [.nilFunc]⟩),
  (73, ⟨.slice 36, 1, 24, [.slice none 0 0]⟩),
  (75, ⟨.func, 1, 8, [.nilFunc]⟩),
  (76, ⟨.slice 79, 1, 24, [.slice none 0 0]⟩),
  (77, ⟨.func, 1, 8, [.nilFunc]⟩),
  (78, ⟨.struct [(0, 55), (2, 3), (3, 3), (4, 3)], 5, 40, [.int .i64 0, .int .i64 0, .int .i64 0, .int .i64 0, .int .i64 0]⟩),
  (79, ⟨.struct [(0, 55), (2, 3), (3, 3), (4, 3)], 5, 40, [.int .i64 0, .int .i64 0, .int .i64 0, .int .i64 0, .int .i64 0]⟩),
  (81, ⟨.func, 1, 8, [.nilFunc]⟩),
  (82, ⟨.slice 36, 1, 24, [.slice none 0 0]⟩),
  (83, ⟨.func, 1, 8, [.nilFunc]⟩),
  (84, ⟨.slice 82, 1, 24, [.slice none 0 0]⟩),
  (85, ⟨.func, 1, 8, [.nilFunc]⟩),
  (86, ⟨.func, 1, 8, [.nilFunc]⟩),
  (87, ⟨.func, 1, 8, [.nilFunc]⟩),
  (88, ⟨.func, 1, 8, [.nilFunc]⟩),
  (89, ⟨.slice 73, 1, 24, [.slice none 0 0]⟩),
  (90, ⟨.func, 1, 8, [.nilFunc]⟩),
  (91, ⟨.func, 1, 8, [.nilFunc]⟩),
  (92, ⟨.func, 1, 8, [.nilFunc]⟩),
  (93, ⟨.int .u64, 1, 8, [.int .u64 0]⟩),
  (95, ⟨.func, 1, 8, [.nilFunc]⟩),
  (96, ⟨.func, 1, 8, [.nilFunc]⟩),
  (98, ⟨.func, 1, 8, [.nilFunc]⟩),
  (99, ⟨.func, 1, 8, [.nilFunc]⟩),
  (100, ⟨.func, 1, 8, [.nilFunc]⟩),
  (101, ⟨.func, 1, 8, [.nilFunc]⟩),
  (103, ⟨.func, 1, 8, [.nilFunc]⟩),
  (104, ⟨.func, 1, 8, [.nilFunc]⟩),
  (105, ⟨.func, 1, 8, [.nilFunc]⟩),
  (106, ⟨.func, 1, 8, [.nilFunc]⟩),
  (107, ⟨.func, 1, 8, [.nilFunc]⟩),
  (109, ⟨.func, 1, 8, [.nilFunc]⟩),
  (110, ⟨.int .u64, 1, 8, [.int .u64 0]⟩),
  (111, ⟨.func, 1, 8, [.nilFunc]⟩),
  (113, ⟨.func, 1, 8, [.nilFunc]⟩),
  (114, ⟨.int .u32, 1, 4, [.int .u32 0]⟩),
  (116, ⟨.func, 1, 8, [.nilFunc]⟩),
  (117, ⟨.func, 1, 8, [.nilFunc]⟩),
  (118, ⟨.func, 1, 8, [.nilFunc]⟩),
  (124, ⟨.func, 1, 8, [.nilFunc]⟩),
  (128, ⟨.ptr 5, 1, 8, [.pointer none]⟩)]
theorem tok : TOK Try.prog tt := tok_of (
  And.intro ⟨by kernel_rfl, by kernel_rfl, by kernel_rfl, rfl⟩ <|
  And.intro ⟨by kernel_rfl, by kernel_rfl, by kernel_rfl, rfl⟩ <|
  And.intro ⟨by kernel_rfl, by kernel_rfl, by kernel_rfl, rfl⟩ <|
  And.intro ⟨by kernel_rfl, by kernel_rfl, by kernel_rfl, rfl⟩ <|
  And.intro ⟨by kernel_rfl, by kernel_rfl, by kernel_rfl, rfl⟩ <|
  And.intro ⟨by kernel_rfl, by kernel_rfl, by kernel_rfl, rfl⟩ <|
  And.intro ⟨by kernel_rfl, by kernel_rfl, by kernel_rfl, rfl⟩ <|
  And.intro ⟨by kernel_rfl, by kernel_rfl, by kernel_rfl, rfl⟩ <|
  And.intro ⟨by kernel_rfl, by kernel_rfl, by kernel_rfl, rfl⟩ <|
  And.intro ⟨by kernel_rfl, by kernel_rfl, by kernel_rfl, rfl⟩ <|
  And.intro ⟨by kernel_rfl, by kernel_rfl, by kernel_rfl, rfl⟩ <|
  And.intro ⟨by kernel_rfl, by kernel_rfl, by kernel_rfl, rfl⟩ <|
  And.intro ⟨by kernel_rfl, by kernel_rfl, by kernel_rfl, rfl⟩ <|
  And.intro ⟨by kernel_rfl, by kernel_rfl, by kernel_rfl, rfl⟩ <|
  And.intro ⟨by kernel_rfl, by kernel_rfl, by kernel_rfl, rfl⟩ <|
  And.intro ⟨by kernel_rfl, by kernel_rfl, by kernel_rfl, rfl⟩ <|
  And.intro ⟨by kernel_rfl, by kernel_rfl, by kernel_rfl, rfl⟩ <|
  And.intro ⟨by kernel_rfl, by kernel_rfl, by kernel_rfl, rfl⟩ <|
  And.intro ⟨by kernel_rfl, by kernel_rfl, by kernel_rfl, rfl⟩ <|
  And.intro ⟨by kernel_rfl, by kernel_rfl, by kernel_rfl, rfl⟩ <|
  And.intro ⟨by kernel_rfl, by kernel_rfl, by kernel_rfl, rfl⟩ <|
  And.intro ⟨by kernel_rfl, by kernel_rfl, by kernel_rfl, rfl⟩ <|
  And.intro ⟨by kernel_rfl, by kernel_rfl, by kernel_rfl, rfl⟩ <|
  And.intro ⟨by kernel_rfl, by kernel_rfl, by kernel_rfl, rfl⟩ <|
  And.intro ⟨by kernel_rfl, by kernel_rfl, by kernel_rfl, rfl⟩ <|
  And.intro ⟨by kernel_rfl, by kernel_rfl, by kernel_rfl, rfl⟩ <|
  And.intro ⟨by kernel_rfl, by kernel_rfl, by kernel_rfl, rfl⟩ <|
  And.intro ⟨by kernel_rfl, by kernel_rfl, by kernel_rfl, rfl⟩ <|
  And.intro ⟨by kernel_rfl, by kernel_rfl, by kernel_rfl, rfl⟩ <|
  And.intro ⟨by kernel_rfl, by kernel_rfl, by kernel_rfl, rfl⟩ <|
  And.intro ⟨by kernel_rfl, by kernel_rfl, by kernel_rfl, rfl⟩ <|
  And.intro ⟨by kernel_rfl, by kernel_rfl, by kernel_rfl, rfl⟩ <|
  And.intro ⟨by kernel_rfl, by kernel_rfl, by kernel_rfl, rfl⟩ <|
  And.intro ⟨by kernel_rfl, by kernel_rfl, by kernel_rfl, rfl⟩ <|
  And.intro ⟨by kernel_rfl, by kernel_rfl, by kernel_rfl, rfl⟩ <|
  And.intro ⟨by kernel_rfl, by kernel_rfl, by kernel_rfl, rfl⟩ <|
  And.intro ⟨by kernel_rfl, by kernel_rfl, by kernel_rfl, rfl⟩ <|
  And.intro ⟨by kernel_rfl, by kernel_rfl, by kernel_rfl, rfl⟩ <|
  And.intro ⟨by kernel_rfl, by kernel_rfl, by kernel_rfl, rfl⟩ <|
  And.intro ⟨by kernel_rfl, by kernel_rfl, by kernel_rfl, rfl⟩ <|
  And.intro ⟨by kernel_rfl, by kernel_rfl, by kernel_rfl, rfl⟩ <|
  And.intro ⟨by kernel_rfl, by kernel_rfl, by kernel_rfl, rfl⟩ <|
  And.intro ⟨by kernel_rfl, by kernel_rfl, by kernel_rfl, rfl⟩ <|
  And.intro ⟨by kernel_rfl, by kernel_rfl, by kernel_rfl, rfl⟩ <|
  And.intro ⟨by kernel_rfl, by kernel_rfl, by kernel_rfl, rfl⟩ <|
  And.intro ⟨by kernel_rfl, by kernel_rfl, by kernel_rfl, rfl⟩ <|
  And.intro ⟨by kernel_rfl, by kernel_rfl, by kernel_rfl, rfl⟩ <|
  And.intro ⟨by kernel_rfl, by kernel_rfl, by kernel_rfl, rfl⟩ <|
  And.intro ⟨by kernel_rfl, by kernel_rfl, by kernel_rfl, rfl⟩ <|
  And.intro ⟨by kernel_rfl, by kernel_rfl, by kernel_rfl, rfl⟩ <|
  And.intro ⟨by kernel_rfl, by kernel_rfl, by kernel_rfl, rfl⟩ <|
  And.intro ⟨by kernel_rfl, by kernel_rfl, by kernel_rfl, rfl⟩ <|
  And.intro ⟨by kernel_rfl, by kernel_rfl, by kernel_rfl, rfl⟩ <|
  And.intro ⟨by kernel_rfl, by kernel_rfl, by kernel_rfl, rfl⟩ <|
  And.intro ⟨by kernel_rfl, by kernel_rfl, by kernel_rfl, rfl⟩ <|
  And.intro ⟨by kernel_rfl, by kernel_rfl, by kernel_rfl, rfl⟩ <|
  And.intro ⟨by kernel_rfl, by kernel_rfl, by kernel_rfl, rfl⟩ <|
  And.intro ⟨by kernel_rfl, by kernel_rfl, by kernel_rfl, rfl⟩ <|
  And.intro ⟨by kernel_rfl, by kernel_rfl, by kernel_rfl, rfl⟩ <|
  And.intro ⟨by kernel_rfl, by kernel_rfl, by kernel_rfl, rfl⟩ <|
  And.intro ⟨by kernel_rfl, by kernel_rfl, by kernel_rfl, rfl⟩ <|
  And.intro ⟨by kernel_rfl, by kernel_rfl, by kernel_rfl, rfl⟩ <|
  And.intro ⟨by kernel_rfl, by kernel_rfl, by kernel_rfl, rfl⟩ <|
  And.intro ⟨by kernel_rfl, by kernel_rfl, by kernel_rfl, rfl⟩ <|
  And.intro ⟨by kernel_rfl, by kernel_rfl, by kernel_rfl, rfl⟩ <|
  And.intro ⟨by kernel_rfl, by kernel_rfl, by kernel_rfl, rfl⟩ <|
  And.intro ⟨by kernel_rfl, by kernel_rfl, by kernel_rfl, rfl⟩ <|
  And.intro ⟨by kernel_rfl, by kernel_rfl, by kernel_rfl, rfl⟩ <|
  And.intro ⟨by kernel_rfl, by kernel_rfl, by kernel_rfl, rfl⟩ <|
  And.intro ⟨by kernel_rfl, by kernel_rfl, by kernel_rfl, rfl⟩ <|
  And.intro ⟨by kernel_rfl, by kernel_rfl, by kernel_rfl, rfl⟩ <|
  And.intro ⟨by kernel_rfl, by kernel_rfl, by kernel_rfl, rfl⟩ <|
  And.intro ⟨by kernel_rfl, by kernel_rfl, by kernel_rfl, rfl⟩ <|
  And.intro ⟨by kernel_rfl, by kernel_rfl, by kernel_rfl, rfl⟩ <|
  And.intro ⟨by kernel_rfl, by kernel_rfl, by kernel_rfl, rfl⟩ <|
  And.intro ⟨by kernel_rfl, by kernel_rfl, by kernel_rfl, rfl⟩ <|
  And.intro ⟨by kernel_rfl, by kernel_rfl, by kernel_rfl, rfl⟩ <|
  And.intro ⟨by kernel_rfl, by kernel_rfl, by kernel_rfl, rfl⟩ <|
  And.intro ⟨by kernel_rfl, by kernel_rfl, by kernel_rfl, rfl⟩ <|
  And.intro ⟨by kernel_rfl, by kernel_rfl, by kernel_rfl, rfl⟩ <|
  And.intro ⟨by kernel_rfl, by kernel_rfl, by kernel_rfl, rfl⟩ <|
  And.intro ⟨by kernel_rfl, by kernel_rfl, by kernel_rfl, rfl⟩ <|
  And.intro ⟨by kernel_rfl, by kernel_rfl, by kernel_rfl, rfl⟩ <|
  And.intro ⟨by kernel_rfl, by kernel_rfl, by kernel_rfl, rfl⟩ <|
  And.intro ⟨by kernel_rfl, by kernel_rfl, by kernel_rfl, rfl⟩ <|
  And.intro ⟨by kernel_rfl, by kernel_rfl, by kernel_rfl, rfl⟩ <|
  And.intro ⟨by kernel_rfl, by kernel_rfl, by kernel_rfl, rfl⟩ <|
  And.intro ⟨by kernel_rfl, by kernel_rfl, by kernel_rfl, rfl⟩ <|
  And.intro ⟨by kernel_rfl, by kernel_rfl, by kernel_rfl, rfl⟩ <|
  And.intro ⟨by kernel_rfl, by kernel_rfl, by kernel_rfl, rfl⟩ <|
  And.intro ⟨by kernel_rfl, by kernel_rfl, by kernel_rfl, rfl⟩ <|
  And.intro ⟨by kernel_rfl, by kernel_rfl, by kernel_rfl, rfl⟩ <|
  And.intro ⟨by kernel_rfl, by kernel_rfl, by kernel_rfl, rfl⟩ <|
  And.intro ⟨by kernel_rfl, by kernel_rfl, by kernel_rfl, rfl⟩ <|
  And.intro ⟨by kernel_rfl, by kernel_rfl, by kernel_rfl, rfl⟩ <|
  trivial)
theorem mixed : Try.prog.follows .mixedOrders = true := by kernel_rfl
end Go.Proofs.Ytniboaekigoheaa
