/-
  The types of the translated program, as the walks ask them: printed by a program (wip/tools_gen.py); the kernel checks each row.
-/
import Derived.Test.YtoaenbfidlgjhaaSjQ3
import Derived.Test.YtoaenbfidlgjhaaProg
namespace Go.Proofs.Ytoaenbfidlgjhaa
open Go.Sj
def tt : List (TypeId × TD) := [
  (1, ⟨.func, 1, 8, [.nilFunc]⟩),
  (2, ⟨.int .i64, 1, 8, [.int .i64 0]⟩),
  (3, ⟨.int .i64, 1, 8, [.int .i64 0]⟩),
  (4, ⟨.bool, 1, 1, [.bool false]⟩),
  (5, ⟨.int .u8, 1, 1, [.int .u8 0]⟩),
  (9, ⟨.str, 1, 16, [.string ⟨#[]⟩]⟩),
  (12, ⟨.int .u64, 1, 8, [.int .u64 0]⟩),
  (13, ⟨.struct [(0, 9), (1, 12)], 2, 24, [.string ⟨#[]⟩, .int .u64 0]⟩),
  (21, ⟨.int .i32, 1, 4, [.int .i32 0]⟩),
  (22, ⟨.slice 3, 1, 24, [.slice none 0 0]⟩),
  (23, ⟨.slice 60, 1, 24, [.slice none 0 0]⟩),
  (24, ⟨.struct [(0, 22), (1, 23)], 2, 48, [.slice none 0 0, .slice none 0 0]⟩),
  (25, ⟨.struct [(0, 22), (1, 23)], 2, 48, [.slice none 0 0, .slice none 0 0]⟩),
  (26, ⟨.func, 1, 8, [.nilFunc]⟩),
  (27, ⟨.func, 1, 8, [.nilFunc]⟩),
  (28, ⟨.int .i64, 1, 8, [.int .i64 0]⟩),
  (30, ⟨.func, 1, 8, [.nilFunc]⟩),
  (31, ⟨.func, 1, 8, [.nilFunc]⟩),
  (32, ⟨.func, 1, 8, [.nilFunc]⟩),
  (33, ⟨.func, 1, 8, [.nilFunc]⟩),
  (34, ⟨.func, 1, 8, [.nilFunc]⟩),
  (35, ⟨.func, 1, 8, [.nilFunc]⟩),
  (36, ⟨.func, 1, 8, [.nilFunc]⟩),
  (37, ⟨.struct [(0, 22), (1, 22)], 2, 48, [.slice none 0 0, .slice none 0 0]⟩),
  (38, ⟨.struct [(0, 22), (1, 22)], 2, 48, [.slice none 0 0, .slice none 0 0]⟩),
  (40, ⟨.func, 1, 8, [.nilFunc]⟩),
  (41, ⟨.func, 1, 8, [.nilFunc]⟩),
  (43, ⟨.func, 1, 8, [.nilFunc]⟩),
  (45, ⟨.func, 1, 8, [.nilFunc]⟩),
  (46, ⟨.slice 5, 1, 24, [.slice none 0 0]⟩),
  (47, ⟨.slice 82, 1, 24, [.slice none 0 0]⟩),
  (48, ⟨.struct [(0, 46), (1, 47)], 2, 48, [.slice none 0 0, .slice none 0 0]⟩),
  (49, ⟨.struct [(0, 46), (1, 47)], 2, 48, [.slice none 0 0, .slice none 0 0]⟩),
  (50, ⟨.func, 1, 8, [.nilFunc]⟩),
  (51, ⟨.func, 1, 8, [.nilFunc]⟩),
  (52, ⟨.func, 1, 8, [.nilFunc]⟩),
  (53, ⟨.func, 1, 8, [.nilFunc]⟩),
  (54, ⟨.slice 25, 1, 24, [.slice none 0 0]⟩),
  (55, ⟨.func, 1, 8, [.nilFunc]⟩),
  (56, ⟨.func, 1, 8, [.nilFunc]⟩),
  (57, ⟨.func, 1, 8, [.nilFunc]⟩),
  (58, ⟨.func, 1, 8, [.nilFunc]⟩),
  (59, ⟨.struct [(0, 3), (1, 3), (2, 3)], 3, 24, [.int .i64 0, .int .i64 0, .int .i64 0]⟩),
  (60, ⟨.struct [(0, 3), (1, 3), (2, 3)], 3, 24, [.int .i64 0, .int .i64 0, .int .i64 0]⟩),
  (61, ⟨.func, 1, 8, [.nilFunc]⟩),
  (62, ⟨.func, 1, 8, [.nilFunc]⟩),
  (63, ⟨.func, 1, 8, [.nilFunc]⟩),
  (64, ⟨.func, 1, 8, [.nilFunc]⟩),
  (65, ⟨.func, 1, 8, [.nilFunc]⟩),
  (66, ⟨.func, 1, 8, [.nilFunc]⟩),
  (67, ⟨.func, 1, 8, [.nilFunc]⟩),
  (68, ⟨.ptr 78, 1, 8, [.pointer none]⟩),
  (69, ⟨.func, 1, 8, [.nilFunc]⟩),
  (70, ⟨.func, 1, 8, [.nilFunc]⟩),
  (72, ⟨.func, 1, 8, [.nilFunc]⟩),
  (73, ⟨.func, 1, 8, [.nilFunc]⟩),
  (74, ⟨.func, 1, 8, [.nilFunc]⟩),
  (75, ⟨.slice 22, 1, 24, [.slice none 0 0]⟩),
  (76, ⟨.slice 75, 1, 24, [.slice none 0 0]⟩),
  (77, ⟨.struct [(0, 25), (2, 76)], 3, 72, [.slice none 0 0, .slice none 0 0, .slice none 0 0]⟩),
  (78, ⟨.struct [(0, 25), (2, 76)], 3, 72, [.slice none 0 0, .slice none 0 0, .slice none 0 0]⟩),
  (79, ⟨.func, 1, 8, [.nilFunc]⟩),
  (80, ⟨.func, 1, 8, [.nilFunc]⟩),
  (81, ⟨.func, 1, 8, [.nilFunc]⟩),
  (82, ⟨.array 3 5, 3, 3, [.int .u8 0, .int .u8 0, .int .u8 0]⟩),
  (83, ⟨.func, 1, 8, [.nilFunc]⟩),
  (84, ⟨.func, 1, 8, [.nilFunc]⟩),
  (85, ⟨.ptr 87, 1, 8, [.pointer none]⟩),
  (86, ⟨.struct [(0, 22), (1, 25), (3, 4)], 4, 80, [.slice none 0 0, .slice none 0 0, .slice none 0 0, .bool false]⟩),
  (87, ⟨.struct [(0, 22), (1, 25), (3, 4)], 4, 80, [.slice none 0 0, .slice none 0 0, .slice none 0 0, .bool false]⟩),
  (88, ⟨.func, 1, 8, [.nilFunc]⟩),
  (89, ⟨.ptr 91, 1, 8, [.pointer none]⟩),
  (90, ⟨.struct [(0, 22), (1, 3), (2, 4)], 3, 40, [.slice none 0 0, .int .i64 0, .bool false]⟩),
  (91, ⟨.struct [(0, 22), (1, 3), (2, 4)], 3, 40, [.slice none 0 0, .int .i64 0, .bool false]⟩),
  (92, ⟨.func, 1, 8, [.nilFunc]⟩),
  (93, ⟨.func, 1, 8, [.nilFunc]⟩),
  (94, ⟨.func, 1, 8, [.nilFunc]⟩),
  (95, ⟨.func, 1, 8, [.nilFunc]⟩),
  (96, ⟨.ptr 99, 1, 8, [.pointer none]⟩),
  (97, ⟨.slice 100, 1, 24, [.slice none 0 0]⟩),
  (98, ⟨.struct [(0, 68), (1, 97), (2, 22), (3, 22)], 4, 80, [.pointer none, .slice none 0 0, .slice none 0 0, .slice none 0 0]⟩),
  (99, ⟨.struct [(0, 68), (1, 97), (2, 22), (3, 22)], 4, 80, [.pointer none, .slice none 0 0, .slice none 0 0, .slice none 0 0]⟩),
  (100, ⟨.slice 4, 1, 24, [.slice none 0 0]⟩),
  (101, ⟨.func, 1, 8, [.nilFunc]⟩),
  (102, ⟨.func, 1, 8, [.nilFunc]⟩),
  (103, ⟨.ptr 105, 1, 8, [.pointer none]⟩),
  (104, ⟨.struct [(0, 25), (2, 22), (3, 22), (4, 4)], 5, 104, [.slice none 0 0, .slice none 0 0, .slice none 0 0, .slice none 0 0, .bool false]⟩),
  (105, ⟨.struct [(0, 25), (2, 22), (3, 22), (4, 4)], 5, 104, [.slice none 0 0, .slice none 0 0, .slice none 0 0, .slice none 0 0, .bool false]⟩),
  (106, ⟨.func, 1, 8, [.nilFunc]⟩),
  (107, ⟨.func, 1, 8, [.nilFunc]⟩),
  (108, ⟨.func, 1, 8, [.nilFunc]⟩),
  (109, ⟨.func, 1, 8, [.nilFunc]⟩),
  (110, ⟨.func, 1, 8, [.nilFunc]⟩),
  (111, ⟨.func, 1, 8, [.nilFunc]⟩),
  (112, ⟨.func, 1, 8, [.nilFunc]⟩),
  (113, ⟨.func, 1, 8, [.nilFunc]⟩),
  (114, ⟨.func, 1, 8, [.nilFunc]⟩),
  (115, ⟨.int .u64, 1, 8, [.int .u64 0]⟩),
  (116, ⟨.func, 1, 8, [.nilFunc]⟩),
  (122, ⟨.func, 1, 8, [.nilFunc]⟩),
  (123, ⟨.int .u32, 1, 4, [.int .u32 0]⟩),
  (127, ⟨.ptr 5, 1, 8, [.pointer none]⟩)]
theorem tok : TOK Try.prog tt := tok_of (
  And.intro ⟨by kernel_rfl, by kernel_rfl, by kernel_rfl, rfl⟩ <|
  And.intro ⟨by kernel_rfl, by kernel_rfl, by kernel_rfl, rfl⟩ <|
  And.intro ⟨by kernel_rfl, by kernel_rfl, by kernel_rfl, rfl⟩ <|
  And.intro ⟨by kernel_rfl, by kernel_rfl, by kernel_rfl, rfl⟩ <|
  And.intro ⟨by kernel_rfl, by kernel_rfl, by kernel_rfl, rfl⟩ <|
  And.intro ⟨by kernel_rfl, by kernel_rfl, by kernel_rfl, rfl⟩ <|
  And.intro ⟨by kernel_rfl, by kernel_rfl, by kernel_rfl, rfl⟩ <|
  And.intro ⟨by kernel_rfl, by kernel_rfl, by kernel_rfl, rfl⟩ <|
  And.intro ⟨by kernel_rfl, by kernel_rfl, by kernel_rfl, rfl⟩ <|
  And.intro ⟨by kernel_rfl, by kernel_rfl, by kernel_rfl, rfl⟩ <|
  And.intro ⟨by kernel_rfl, by kernel_rfl, by kernel_rfl, rfl⟩ <|
  And.intro ⟨by kernel_rfl, by kernel_rfl, by kernel_rfl, rfl⟩ <|
  And.intro ⟨by kernel_rfl, by kernel_rfl, by kernel_rfl, rfl⟩ <|
  And.intro ⟨by kernel_rfl, by kernel_rfl, by kernel_rfl, rfl⟩ <|
  And.intro ⟨by kernel_rfl, by kernel_rfl, by kernel_rfl, rfl⟩ <|
  And.intro ⟨by kernel_rfl, by kernel_rfl, by kernel_rfl, rfl⟩ <|
  And.intro ⟨by kernel_rfl, by kernel_rfl, by kernel_rfl, rfl⟩ <|
  And.intro ⟨by kernel_rfl, by kernel_rfl, by kernel_rfl, rfl⟩ <|
  And.intro ⟨by kernel_rfl, by kernel_rfl, by kernel_rfl, rfl⟩ <|
  And.intro ⟨by kernel_rfl, by kernel_rfl, by kernel_rfl, rfl⟩ <|
  And.intro ⟨by kernel_rfl, by kernel_rfl, by kernel_rfl, rfl⟩ <|
  And.intro ⟨by kernel_rfl, by kernel_rfl, by kernel_rfl, rfl⟩ <|
  And.intro ⟨by kernel_rfl, by kernel_rfl, by kernel_rfl, rfl⟩ <|
  And.intro ⟨by kernel_rfl, by kernel_rfl, by kernel_rfl, rfl⟩ <|
  And.intro ⟨by kernel_rfl, by kernel_rfl, by kernel_rfl, rfl⟩ <|
  And.intro ⟨by kernel_rfl, by kernel_rfl, by kernel_rfl, rfl⟩ <|
  And.intro ⟨by kernel_rfl, by kernel_rfl, by kernel_rfl, rfl⟩ <|
  And.intro ⟨by kernel_rfl, by kernel_rfl, by kernel_rfl, rfl⟩ <|
  And.intro ⟨by kernel_rfl, by kernel_rfl, by kernel_rfl, rfl⟩ <|
  And.intro ⟨by kernel_rfl, by kernel_rfl, by kernel_rfl, rfl⟩ <|
  And.intro ⟨by kernel_rfl, by kernel_rfl, by kernel_rfl, rfl⟩ <|
  And.intro ⟨by kernel_rfl, by kernel_rfl, by kernel_rfl, rfl⟩ <|
  And.intro ⟨by kernel_rfl, by kernel_rfl, by kernel_rfl, rfl⟩ <|
  And.intro ⟨by kernel_rfl, by kernel_rfl, by kernel_rfl, rfl⟩ <|
  And.intro ⟨by kernel_rfl, by kernel_rfl, by kernel_rfl, rfl⟩ <|
  And.intro ⟨by kernel_rfl, by kernel_rfl, by kernel_rfl, rfl⟩ <|
  And.intro ⟨by kernel_rfl, by kernel_rfl, by kernel_rfl, rfl⟩ <|
  And.intro ⟨by kernel_rfl, by kernel_rfl, by kernel_rfl, rfl⟩ <|
  And.intro ⟨by kernel_rfl, by kernel_rfl, by kernel_rfl, rfl⟩ <|
  And.intro ⟨by kernel_rfl, by kernel_rfl, by kernel_rfl, rfl⟩ <|
  And.intro ⟨by kernel_rfl, by kernel_rfl, by kernel_rfl, rfl⟩ <|
  And.intro ⟨by kernel_rfl, by kernel_rfl, by kernel_rfl, rfl⟩ <|
  And.intro ⟨by kernel_rfl, by kernel_rfl, by kernel_rfl, rfl⟩ <|
  And.intro ⟨by kernel_rfl, by kernel_rfl, by kernel_rfl, rfl⟩ <|
  And.intro ⟨by kernel_rfl, by kernel_rfl, by kernel_rfl, rfl⟩ <|
  And.intro ⟨by kernel_rfl, by kernel_rfl, by kernel_rfl, rfl⟩ <|
  And.intro ⟨by kernel_rfl, by kernel_rfl, by kernel_rfl, rfl⟩ <|
  And.intro ⟨by kernel_rfl, by kernel_rfl, by kernel_rfl, rfl⟩ <|
  And.intro ⟨by kernel_rfl, by kernel_rfl, by kernel_rfl, rfl⟩ <|
  And.intro ⟨by kernel_rfl, by kernel_rfl, by kernel_rfl, rfl⟩ <|
  And.intro ⟨by kernel_rfl, by kernel_rfl, by kernel_rfl, rfl⟩ <|
  And.intro ⟨by kernel_rfl, by kernel_rfl, by kernel_rfl, rfl⟩ <|
  And.intro ⟨by kernel_rfl, by kernel_rfl, by kernel_rfl, rfl⟩ <|
  And.intro ⟨by kernel_rfl, by kernel_rfl, by kernel_rfl, rfl⟩ <|
  And.intro ⟨by kernel_rfl, by kernel_rfl, by kernel_rfl, rfl⟩ <|
  And.intro ⟨by kernel_rfl, by kernel_rfl, by kernel_rfl, rfl⟩ <|
  And.intro ⟨by kernel_rfl, by kernel_rfl, by kernel_rfl, rfl⟩ <|
  And.intro ⟨by kernel_rfl, by kernel_rfl, by kernel_rfl, rfl⟩ <|
  And.intro ⟨by kernel_rfl, by kernel_rfl, by kernel_rfl, rfl⟩ <|
  And.intro ⟨by kernel_rfl, by kernel_rfl, by kernel_rfl, rfl⟩ <|
  And.intro ⟨by kernel_rfl, by kernel_rfl, by kernel_rfl, rfl⟩ <|
  And.intro ⟨by kernel_rfl, by kernel_rfl, by kernel_rfl, rfl⟩ <|
  And.intro ⟨by kernel_rfl, by kernel_rfl, by kernel_rfl, rfl⟩ <|
  And.intro ⟨by kernel_rfl, by kernel_rfl, by kernel_rfl, rfl⟩ <|
  And.intro ⟨by kernel_rfl, by kernel_rfl, by kernel_rfl, rfl⟩ <|
  And.intro ⟨by kernel_rfl, by kernel_rfl, by kernel_rfl, rfl⟩ <|
  And.intro ⟨by kernel_rfl, by kernel_rfl, by kernel_rfl, rfl⟩ <|
  And.intro ⟨by kernel_rfl, by kernel_rfl, by kernel_rfl, rfl⟩ <|
  And.intro ⟨by kernel_rfl, by kernel_rfl, by kernel_rfl, rfl⟩ <|
  And.intro ⟨by kernel_rfl, by kernel_rfl, by kernel_rfl, rfl⟩ <|
  And.intro ⟨by kernel_rfl, by kernel_rfl, by kernel_rfl, rfl⟩ <|
  And.intro ⟨by kernel_rfl, by kernel_rfl, by kernel_rfl, rfl⟩ <|
  And.intro ⟨by kernel_rfl, by kernel_rfl, by kernel_rfl, rfl⟩ <|
  And.intro ⟨by kernel_rfl, by kernel_rfl, by kernel_rfl, rfl⟩ <|
  And.intro ⟨by kernel_rfl, by kernel_rfl, by kernel_rfl, rfl⟩ <|
  And.intro ⟨by kernel_rfl, by kernel_rfl, by kernel_rfl, rfl⟩ <|
  And.intro ⟨by kernel_rfl, by kernel_rfl, by kernel_rfl, rfl⟩ <|
  And.intro ⟨by kernel_rfl, by kernel_rfl, by kernel_rfl, rfl⟩ <|
  And.intro ⟨by kernel_rfl, by kernel_rfl, by kernel_rfl, rfl⟩ <|
  And.intro ⟨by kernel_rfl, by kernel_rfl, by kernel_rfl, rfl⟩ <|
  And.intro ⟨by kernel_rfl, by kernel_rfl, by kernel_rfl, rfl⟩ <|
  And.intro ⟨by kernel_rfl, by kernel_rfl, by kernel_rfl, rfl⟩ <|
  And.intro ⟨by kernel_rfl, by kernel_rfl, by kernel_rfl, rfl⟩ <|
  And.intro ⟨by kernel_rfl, by kernel_rfl, by kernel_rfl, rfl⟩ <|
  And.intro ⟨by kernel_rfl, by kernel_rfl, by kernel_rfl, rfl⟩ <|
  And.intro ⟨by kernel_rfl, by kernel_rfl, by kernel_rfl, rfl⟩ <|
  And.intro ⟨by kernel_rfl, by kernel_rfl, by kernel_rfl, rfl⟩ <|
  And.intro ⟨by kernel_rfl, by kernel_rfl, by kernel_rfl, rfl⟩ <|
  And.intro ⟨by kernel_rfl, by kernel_rfl, by kernel_rfl, rfl⟩ <|
  And.intro ⟨by kernel_rfl, by kernel_rfl, by kernel_rfl, rfl⟩ <|
  And.intro ⟨by kernel_rfl, by kernel_rfl, by kernel_rfl, rfl⟩ <|
  And.intro ⟨by kernel_rfl, by kernel_rfl, by kernel_rfl, rfl⟩ <|
  And.intro ⟨by kernel_rfl, by kernel_rfl, by kernel_rfl, rfl⟩ <|
  And.intro ⟨by kernel_rfl, by kernel_rfl, by kernel_rfl, rfl⟩ <|
  And.intro ⟨by kernel_rfl, by kernel_rfl, by kernel_rfl, rfl⟩ <|
  And.intro ⟨by kernel_rfl, by kernel_rfl, by kernel_rfl, rfl⟩ <|
  And.intro ⟨by kernel_rfl, by kernel_rfl, by kernel_rfl, rfl⟩ <|
  And.intro ⟨by kernel_rfl, by kernel_rfl, by kernel_rfl, rfl⟩ <|
  And.intro ⟨by kernel_rfl, by kernel_rfl, by kernel_rfl, rfl⟩ <|
  And.intro ⟨by kernel_rfl, by kernel_rfl, by kernel_rfl, rfl⟩ <|
  And.intro ⟨by kernel_rfl, by kernel_rfl, by kernel_rfl, rfl⟩ <|
  And.intro ⟨by kernel_rfl, by kernel_rfl, by kernel_rfl, rfl⟩ <|
  trivial)
theorem mixed : Try.prog.follows .mixedOrders = true := by kernel_rfl
theorem pk : PK Try.prog tt := ⟨tok, mixed⟩
end Go.Proofs.Ytoaenbfidlgjhaa
