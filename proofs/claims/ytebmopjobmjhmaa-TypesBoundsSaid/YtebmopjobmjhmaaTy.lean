/-
  The types of the translated program, as the walks ask them: printed by a program (wip/tools_gen.py); the kernel checks each row.
-/
import Derived.Test.YtebmopjobmjhmaaSjQ3
import Derived.Test.YtebmopjobmjhmaaProg
namespace Go.Proofs.Ytebmopjobmjhmaa
open Go.Sj
def tt : List (TypeId × TD) := [
  (1, ⟨.func, 1, 8, [.nilFunc]⟩),
  (2, ⟨.int .i64, 1, 8, [.int .i64 0]⟩),
  (3, ⟨.int .i64, 1, 8, [.int .i64 0]⟩),
  (4, ⟨.bool, 1, 1, [.bool false]⟩),
  (5, ⟨.int .u8, 1, 1, [.int .u8 0]⟩),
  (9, ⟨.str, 1, 16, [.string ⟨#[]⟩]⟩),
  (12, ⟨.int .u64, 1, 8, [.int .u64 0]⟩),
  (13, ⟨.struct [(0, 9), (1, 12)], 2, 24, [.string ⟨#[]⟩, .int .u64 0]⟩),
  (21, ⟨.int .i32, 1, 4, [.int .i32 0]⟩),
  (22, ⟨.slice 55, 1, 24, [.slice none 0 0]⟩),
  (23, ⟨.slice 60, 1, 24, [.slice none 0 0]⟩),
  (24, ⟨.struct [(0, 22), (1, 23)], 2, 48, [.slice none 0 0, .slice none 0 0]⟩),
  (25, ⟨.struct [(0, 22), (1, 23)], 2, 48, [.slice none 0 0, .slice none 0 0]⟩),
  (26, ⟨.func, 1, 8, [.nilFunc]⟩),
  (27, ⟨.func, 1, 8, [.nilFunc]⟩),
  (28, ⟨.int .i64, 1, 8, [.int .i64 0]⟩),
  (30, ⟨.func, 1, 8, [.nilFunc]⟩),
  (32, ⟨.func, 1, 8, [.nilFunc]⟩),
  (33, ⟨.func, 1, 8, [.nilFunc]⟩),
  (34, ⟨.slice 64, 1, 24, [.slice none 0 0]⟩),
  (35, ⟨.array 3 5, 3, 3, [.int .u8 0, .int .u8 0, .int .u8 0]⟩),
  (36, ⟨.func, 1, 8, [.nilFunc]⟩),
  (37, ⟨.func, 1, 8, [.nilFunc]⟩),
  (38, ⟨.struct [(0, 3), (1, 3), (2, 3)], 3, 24, [.int .i64 0, .int .i64 0, .int .i64 0]⟩),
  (39, ⟨.struct [(0, 3), (1, 3), (2, 3)], 3, 24, [.int .i64 0, .int .i64 0, .int .i64 0]⟩),
  (40, ⟨.func, 1, 8, [.nilFunc]⟩),
  (41, ⟨.func, 1, 8, [.nilFunc]⟩),
  (42, ⟨.slice 3, 1, 24, [.slice none 0 0]⟩),
  (44, ⟨.func, 1, 8, [.nilFunc]⟩),
  (45, ⟨.slice 58, 1, 24, [.slice none 0 0]⟩),
  (47, ⟨.func, 1, 8, [.nilFunc]⟩),
  (48, ⟨.func, 1, 8, [.nilFunc]⟩),
  (49, ⟨.func, 1, 8, [.nilFunc]⟩),
  (50, ⟨.func, 1, 8, [.nilFunc]⟩),
  (51, ⟨.array 5 5, 5, 5, [.int .u8 0, .int .u8 0, .int .u8 0, .int .u8 0, .int .u8 0]⟩),
  (52, ⟨.func, 1, 8, [.nilFunc]⟩),
  (53, ⟨.func, 1, 8, [.nilFunc]⟩),
  (54, ⟨.struct [(0, 9), (1, 3), (2, 4), (3, 45)], 4, 56, [.string ⟨#[]⟩, .int .i64 0, .bool false, .slice none 0 0]⟩),
  (55, ⟨.struct [(0, 9), (1, 3), (2, 4), (3, 45)], 4, 56, [.string ⟨#[]⟩, .int .i64 0, .bool false, .slice none 0 0]⟩),
  (56, ⟨.slice 9, 1, 24, [.slice none 0 0]⟩),
  (57, ⟨.struct [(0, 9), (1, 3), (2, 3), (3, 56)], 4, 56, [.string ⟨#[]⟩, .int .i64 0, .int .i64 0, .slice none 0 0]⟩),
  (58, ⟨.struct [(0, 9), (1, 3), (2, 3), (3, 56)], 4, 56, [.string ⟨#[]⟩, .int .i64 0, .int .i64 0, .slice none 0 0]⟩),
  (59, ⟨.struct [(0, 9), (1, 3), (2, 3), (3, 3), (4, 3), (5, 3), (6, 3)], 7, 64, [.string ⟨#[]⟩, .int .i64 0, .int .i64 0, .int .i64 0, .int .i64 0, .int .i64 0, .int .i64 0]⟩),
  (60, ⟨.struct [(0, 9), (1, 3), (2, 3), (3, 3), (4, 3), (5, 3), (6, 3)], 7, 64, [.string ⟨#[]⟩, .int .i64 0, .int .i64 0, .int .i64 0, .int .i64 0, .int .i64 0, .int .i64 0]⟩),
  (61, ⟨.func, 1, 8, [.nilFunc]⟩),
  (62, ⟨.func, 1, 8, [.nilFunc]⟩),
  (63, ⟨.func, 1, 8, [.nilFunc]⟩),
  (64, ⟨.array 2 5, 2, 2, [.int .u8 0, .int .u8 0]⟩),
  (65, ⟨.func, 1, 8, [.nilFunc]⟩),
  (66, ⟨.func, 1, 8, [.nilFunc]⟩),
  (67, ⟨.func, 1, 8, [.nilFunc]⟩),
  (68, ⟨.func, 1, 8, [.nilFunc]⟩),
  (69, ⟨.func, 1, 8, [.nilFunc]⟩),
  (70, ⟨.func, 1, 8, [.nilFunc]⟩),
  (71, ⟨.func, 1, 8, [.nilFunc]⟩),
  (72, ⟨.func, 1, 8, [.nilFunc]⟩),
  (73, ⟨.func, 1, 8, [.nilFunc]⟩),
  (74, ⟨.func, 1, 8, [.nilFunc]⟩),
  (75, ⟨.func, 1, 8, [.nilFunc]⟩),
  (76, ⟨.func, 1, 8, [.nilFunc]⟩),
  (77, ⟨.func, 1, 8, [.nilFunc]⟩),
  (78, ⟨.func, 1, 8, [.nilFunc]⟩),
  (79, ⟨.func, 1, 8, [.nilFunc]⟩),
  (80, ⟨.func, 1, 8, [.nilFunc]⟩),
  (81, ⟨.func, 1, 8, [.nilFunc]⟩),
  (83, ⟨.func, 1, 8, [.nilFunc]⟩),
  (84, ⟨.struct [(0, 3), (1, 9), (2, 3)], 3, 32, [.int .i64 0, .string ⟨#[]⟩, .int .i64 0]⟩),
  (85, ⟨.struct [(0, 3), (1, 9), (2, 3)], 3, 32, [.int .i64 0, .string ⟨#[]⟩, .int .i64 0]⟩),
  (86, ⟨.func, 1, 8, [.nilFunc]⟩),
  (87, ⟨.func, 1, 8, [.nilFunc]⟩),
  (88, ⟨.func, 1, 8, [.nilFunc]⟩),
  (89, ⟨.func, 1, 8, [.nilFunc]⟩),
  (90, ⟨.func, 1, 8, [.nilFunc]⟩),
  (91, ⟨.func, 1, 8, [.nilFunc]⟩),
  (92, ⟨.func, 1, 8, [.nilFunc]⟩),
  (93, ⟨.func, 1, 8, [.nilFunc]⟩),
  (95, ⟨.func, 1, 8, [.nilFunc]⟩),
  (96, ⟨.func, 1, 8, [.nilFunc]⟩),
  (97, ⟨.func, 1, 8, [.nilFunc]⟩),
  (98, ⟨.func, 1, 8, [.nilFunc]⟩),
  (100, ⟨.func, 1, 8, [.nilFunc]⟩),
  (101, ⟨.func, 1, 8, [.nilFunc]⟩),
  (102, ⟨.func, 1, 8, [.nilFunc]⟩),
  (103, ⟨.func, 1, 8, [.nilFunc]⟩),
  (104, ⟨.func, 1, 8, [.nilFunc]⟩),
  (105, ⟨.func, 1, 8, [.nilFunc]⟩),
  (106, ⟨.func, 1, 8, [.nilFunc]⟩),
  (107, ⟨.func, 1, 8, [.nilFunc]⟩),
  (108, ⟨.func, 1, 8, [.nilFunc]⟩),
  (109, ⟨.func, 1, 8, [.nilFunc]⟩),
  (115, ⟨.func, 1, 8, [.nilFunc]⟩),
  (116, ⟨.int .u32, 1, 4, [.int .u32 0]⟩),
  (120, ⟨.ptr 5, 1, 8, [.pointer none]⟩)]
theorem tok : TOK Try.prog tt := tok_of (
  And.intro ⟨by kernel_rfl, by kernel_rfl, by kernel_rfl, rfl⟩ <|
  And.intro ⟨by kernel_rfl, by kernel_rfl, by kernel_rfl, rfl⟩ <|
  And.intro ⟨by kernel_rfl, by kernel_rfl, by kernel_rfl, rfl⟩ <|
  And.intro ⟨by kernel_rfl, by kernel_rfl, by kernel_rfl, rfl⟩ <|
  And.intro ⟨by kernel_rfl, by kernel_rfl, by kernel_rfl, rfl⟩ <|
  And.intro ⟨by kernel_rfl, by kernel_rfl, by kernel_rfl, rfl⟩ <|
  And.intro ⟨by kernel_rfl, by kernel_rfl, by kernel_rfl, rfl⟩ <|
  And.intro ⟨by kernel_rfl, by kernel_rfl, by kernel_rfl, rfl⟩ <|
  And.intro ⟨by kernel_rfl, by kernel_rfl, by kernel_rfl, rfl⟩ <|
  And.intro ⟨by kernel_rfl, by kernel_rfl, by kernel_rfl, rfl⟩ <|
  And.intro ⟨by kernel_rfl, by kernel_rfl, by kernel_rfl, rfl⟩ <|
  And.intro ⟨by kernel_rfl, by kernel_rfl, by kernel_rfl, rfl⟩ <|
  And.intro ⟨by kernel_rfl, by kernel_rfl, by kernel_rfl, rfl⟩ <|
  And.intro ⟨by kernel_rfl, by kernel_rfl, by kernel_rfl, rfl⟩ <|
  And.intro ⟨by kernel_rfl, by kernel_rfl, by kernel_rfl, rfl⟩ <|
  And.intro ⟨by kernel_rfl, by kernel_rfl, by kernel_rfl, rfl⟩ <|
  And.intro ⟨by kernel_rfl, by kernel_rfl, by kernel_rfl, rfl⟩ <|
  And.intro ⟨by kernel_rfl, by kernel_rfl, by kernel_rfl, rfl⟩ <|
  And.intro ⟨by kernel_rfl, by kernel_rfl, by kernel_rfl, rfl⟩ <|
  And.intro ⟨by kernel_rfl, by kernel_rfl, by kernel_rfl, rfl⟩ <|
  And.intro ⟨by kernel_rfl, by kernel_rfl, by kernel_rfl, rfl⟩ <|
  And.intro ⟨by kernel_rfl, by kernel_rfl, by kernel_rfl, rfl⟩ <|
  And.intro ⟨by kernel_rfl, by kernel_rfl, by kernel_rfl, rfl⟩ <|
  And.intro ⟨by kernel_rfl, by kernel_rfl, by kernel_rfl, rfl⟩ <|
  And.intro ⟨by kernel_rfl, by kernel_rfl, by kernel_rfl, rfl⟩ <|
  And.intro ⟨by kernel_rfl, by kernel_rfl, by kernel_rfl, rfl⟩ <|
  And.intro ⟨by kernel_rfl, by kernel_rfl, by kernel_rfl, rfl⟩ <|
  And.intro ⟨by kernel_rfl, by kernel_rfl, by kernel_rfl, rfl⟩ <|
  And.intro ⟨by kernel_rfl, by kernel_rfl, by kernel_rfl, rfl⟩ <|
  And.intro ⟨by kernel_rfl, by kernel_rfl, by kernel_rfl, rfl⟩ <|
  And.intro ⟨by kernel_rfl, by kernel_rfl, by kernel_rfl, rfl⟩ <|
  And.intro ⟨by kernel_rfl, by kernel_rfl, by kernel_rfl, rfl⟩ <|
  And.intro ⟨by kernel_rfl, by kernel_rfl, by kernel_rfl, rfl⟩ <|
  And.intro ⟨by kernel_rfl, by kernel_rfl, by kernel_rfl, rfl⟩ <|
  And.intro ⟨by kernel_rfl, by kernel_rfl, by kernel_rfl, rfl⟩ <|
  And.intro ⟨by kernel_rfl, by kernel_rfl, by kernel_rfl, rfl⟩ <|
  And.intro ⟨by kernel_rfl, by kernel_rfl, by kernel_rfl, rfl⟩ <|
  And.intro ⟨by kernel_rfl, by kernel_rfl, by kernel_rfl, rfl⟩ <|
  And.intro ⟨by kernel_rfl, by kernel_rfl, by kernel_rfl, rfl⟩ <|
  And.intro ⟨by kernel_rfl, by kernel_rfl, by kernel_rfl, rfl⟩ <|
  And.intro ⟨by kernel_rfl, by kernel_rfl, by kernel_rfl, rfl⟩ <|
  And.intro ⟨by kernel_rfl, by kernel_rfl, by kernel_rfl, rfl⟩ <|
  And.intro ⟨by kernel_rfl, by kernel_rfl, by kernel_rfl, rfl⟩ <|
  And.intro ⟨by kernel_rfl, by kernel_rfl, by kernel_rfl, rfl⟩ <|
  And.intro ⟨by kernel_rfl, by kernel_rfl, by kernel_rfl, rfl⟩ <|
  And.intro ⟨by kernel_rfl, by kernel_rfl, by kernel_rfl, rfl⟩ <|
  And.intro ⟨by kernel_rfl, by kernel_rfl, by kernel_rfl, rfl⟩ <|
  And.intro ⟨by kernel_rfl, by kernel_rfl, by kernel_rfl, rfl⟩ <|
  And.intro ⟨by kernel_rfl, by kernel_rfl, by kernel_rfl, rfl⟩ <|
  And.intro ⟨by kernel_rfl, by kernel_rfl, by kernel_rfl, rfl⟩ <|
  And.intro ⟨by kernel_rfl, by kernel_rfl, by kernel_rfl, rfl⟩ <|
  And.intro ⟨by kernel_rfl, by kernel_rfl, by kernel_rfl, rfl⟩ <|
  And.intro ⟨by kernel_rfl, by kernel_rfl, by kernel_rfl, rfl⟩ <|
  And.intro ⟨by kernel_rfl, by kernel_rfl, by kernel_rfl, rfl⟩ <|
  And.intro ⟨by kernel_rfl, by kernel_rfl, by kernel_rfl, rfl⟩ <|
  And.intro ⟨by kernel_rfl, by kernel_rfl, by kernel_rfl, rfl⟩ <|
  And.intro ⟨by kernel_rfl, by kernel_rfl, by kernel_rfl, rfl⟩ <|
  And.intro ⟨by kernel_rfl, by kernel_rfl, by kernel_rfl, rfl⟩ <|
  And.intro ⟨by kernel_rfl, by kernel_rfl, by kernel_rfl, rfl⟩ <|
  And.intro ⟨by kernel_rfl, by kernel_rfl, by kernel_rfl, rfl⟩ <|
  And.intro ⟨by kernel_rfl, by kernel_rfl, by kernel_rfl, rfl⟩ <|
  And.intro ⟨by kernel_rfl, by kernel_rfl, by kernel_rfl, rfl⟩ <|
  And.intro ⟨by kernel_rfl, by kernel_rfl, by kernel_rfl, rfl⟩ <|
  And.intro ⟨by kernel_rfl, by kernel_rfl, by kernel_rfl, rfl⟩ <|
  And.intro ⟨by kernel_rfl, by kernel_rfl, by kernel_rfl, rfl⟩ <|
  And.intro ⟨by kernel_rfl, by kernel_rfl, by kernel_rfl, rfl⟩ <|
  And.intro ⟨by kernel_rfl, by kernel_rfl, by kernel_rfl, rfl⟩ <|
  And.intro ⟨by kernel_rfl, by kernel_rfl, by kernel_rfl, rfl⟩ <|
  And.intro ⟨by kernel_rfl, by kernel_rfl, by kernel_rfl, rfl⟩ <|
  And.intro ⟨by kernel_rfl, by kernel_rfl, by kernel_rfl, rfl⟩ <|
  And.intro ⟨by kernel_rfl, by kernel_rfl, by kernel_rfl, rfl⟩ <|
  And.intro ⟨by kernel_rfl, by kernel_rfl, by kernel_rfl, rfl⟩ <|
  And.intro ⟨by kernel_rfl, by kernel_rfl, by kernel_rfl, rfl⟩ <|
  And.intro ⟨by kernel_rfl, by kernel_rfl, by kernel_rfl, rfl⟩ <|
  And.intro ⟨by kernel_rfl, by kernel_rfl, by kernel_rfl, rfl⟩ <|
  And.intro ⟨by kernel_rfl, by kernel_rfl, by kernel_rfl, rfl⟩ <|
  And.intro ⟨by kernel_rfl, by kernel_rfl, by kernel_rfl, rfl⟩ <|
  And.intro ⟨by kernel_rfl, by kernel_rfl, by kernel_rfl, rfl⟩ <|
  And.intro ⟨by kernel_rfl, by kernel_rfl, by kernel_rfl, rfl⟩ <|
  And.intro ⟨by kernel_rfl, by kernel_rfl, by kernel_rfl, rfl⟩ <|
  And.intro ⟨by kernel_rfl, by kernel_rfl, by kernel_rfl, rfl⟩ <|
  And.intro ⟨by kernel_rfl, by kernel_rfl, by kernel_rfl, rfl⟩ <|
  And.intro ⟨by kernel_rfl, by kernel_rfl, by kernel_rfl, rfl⟩ <|
  And.intro ⟨by kernel_rfl, by kernel_rfl, by kernel_rfl, rfl⟩ <|
  And.intro ⟨by kernel_rfl, by kernel_rfl, by kernel_rfl, rfl⟩ <|
  And.intro ⟨by kernel_rfl, by kernel_rfl, by kernel_rfl, rfl⟩ <|
  And.intro ⟨by kernel_rfl, by kernel_rfl, by kernel_rfl, rfl⟩ <|
  And.intro ⟨by kernel_rfl, by kernel_rfl, by kernel_rfl, rfl⟩ <|
  And.intro ⟨by kernel_rfl, by kernel_rfl, by kernel_rfl, rfl⟩ <|
  And.intro ⟨by kernel_rfl, by kernel_rfl, by kernel_rfl, rfl⟩ <|
  And.intro ⟨by kernel_rfl, by kernel_rfl, by kernel_rfl, rfl⟩ <|
  And.intro ⟨by kernel_rfl, by kernel_rfl, by kernel_rfl, rfl⟩ <|
  And.intro ⟨by kernel_rfl, by kernel_rfl, by kernel_rfl, rfl⟩ <|
  trivial)
theorem mixed : Try.prog.follows .mixedOrders = true := by kernel_rfl
end Go.Proofs.Ytebmopjobmjhmaa
