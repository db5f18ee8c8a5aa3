/-
  The types of the translated program, as the walks ask them: printed by a program (wip/tools_gen.py); the kernel checks each row.
-/
import Derived.Test.YtcacbdohlfljfaaGreatSjQ3
import Derived.Test.YtcacbdohlfljfaaGreatProg
namespace Go.Proofs.YtcacbdohlfljfaaGreat
open Go.Sj
def tt : List (TypeId × TD) := [
  (1, ⟨.func, 1, 8, [.nilFunc]⟩),
  (2, ⟨.int .i64, 1, 8, [.int .i64 0]⟩),
  (3, ⟨.int .i64, 1, 8, [.int .i64 0]⟩),
  (4, ⟨.bool, 1, 1, [.bool false]⟩),
  (5, ⟨.int .u8, 1, 1, [.int .u8 0]⟩),
  (9, ⟨.str, 1, 16, [.string ⟨#[]⟩]⟩),
  (12, ⟨.int .u64, 1, 8, [.int .u64 0]⟩),
  (13, ⟨.struct [(0, 9), (1, 12)], 2, 24, [.string ⟨#[]⟩, .int .u64 0]⟩),
  (21, ⟨.int .i32, 1, 4, [.int .i32 0]⟩),
  (22, ⟨.slice 78, 1, 24, [.slice none 0 0]⟩),
  (23, ⟨.slice 83, 1, 24, [.slice none 0 0]⟩),
  (24, ⟨.struct [(0, 22), (1, 23)], 2, 48, [.slice none 0 0, .slice none 0 0]⟩),
  (25, ⟨.struct [(0, 22), (1, 23)], 2, 48, [.slice none 0 0, .slice none 0 0]⟩),
  (26, ⟨.slice 3, 1, 24, [.slice none 0 0]⟩),
  (27, ⟨.slice 70, 1, 24, [.slice none 0 0]⟩),
  (28, ⟨.struct [(0, 26), (1, 27)], 2, 48, [.slice none 0 0, .slice none 0 0]⟩),
  (29, ⟨.struct [(0, 26), (1, 27)], 2, 48, [.slice none 0 0, .slice none 0 0]⟩),
  (30, ⟨.func, 1, 8, [.nilFunc]⟩),
  (31, ⟨.func, 1, 8, [.nilFunc]⟩),
  (32, ⟨.func, 1, 8, [.nilFunc]⟩),
  (33, ⟨.slice 75, 1, 24, [.slice none 0 0]⟩),
  (34, ⟨.struct [(0, 33), (1, 33)], 2, 48, [.slice none 0 0, .slice none 0 0]⟩),
  (35, ⟨.struct [(0, 33), (1, 33)], 2, 48, [.slice none 0 0, .slice none 0 0]⟩),
  (36, ⟨.int .i64, 1, 8, [.int .i64 0]⟩),
  (38, ⟨.func, 1, 8, [.nilFunc]⟩),
  (39, ⟨.func, 1, 8, [.nilFunc]⟩),
  (40, ⟨.func, 1, 8, [.nilFunc]⟩),
  (41, ⟨.func, 1, 8, [.nilFunc]⟩),
  (42, ⟨.struct [(0, 3), (1, 3), (2, 3), (3, 3)], 4, 32, [.int .i64 0, .int .i64 0, .int .i64 0, .int .i64 0]⟩),
  (43, ⟨.struct [(0, 3), (1, 3), (2, 3), (3, 3)], 4, 32, [.int .i64 0, .int .i64 0, .int .i64 0, .int .i64 0]⟩),
  (44, ⟨.func, 1, 8, [.nilFunc]⟩),
  (46, ⟨.func, 1, 8, [.nilFunc]⟩),
  (47, ⟨.func, 1, 8, [.nilFunc]⟩),
  (48, ⟨.func, 1, 8, [.nilFunc]⟩),
  (49, ⟨.func, 1, 8, [.nilFunc]⟩),
  (50, ⟨.func, 1, 8, [.nilFunc]⟩),
  (51, ⟨.func, 1, 8, [.nilFunc]⟩),
  (52, ⟨.func, 1, 8, [.nilFunc]⟩),
  (53, ⟨.slice 118, 1, 24, [.slice none 0 0]⟩),
  (54, ⟨.slice 5, 1, 24, [.slice none 0 0]⟩),
  (55, ⟨.slice 66, 1, 24, [.slice none 0 0]⟩),
  (56, ⟨.struct [(0, 53), (1, 53), (2, 54), (3, 55)], 4, 96, [.slice none 0 0, .slice none 0 0, .slice none 0 0, .slice none 0 0]⟩),
  (57, ⟨.struct [(0, 53), (1, 53), (2, 54), (3, 55)], 4, 96, [.slice none 0 0, .slice none 0 0, .slice none 0 0, .slice none 0 0]⟩),
  (59, ⟨.func, 1, 8, [.nilFunc]⟩),
  (61, ⟨.func, 1, 8, [.nilFunc]⟩),
  (62, ⟨.func, 1, 8, [.nilFunc]⟩),
  (63, ⟨.struct [(0, 26), (1, 26)], 2, 48, [.slice none 0 0, .slice none 0 0]⟩),
  (64, ⟨.struct [(0, 26), (1, 26)], 2, 48, [.slice none 0 0, .slice none 0 0]⟩),
  (65, ⟨.func, 1, 8, [.nilFunc]⟩),
  (66, ⟨.array 3 5, 3, 3, [.int .u8 0, .int .u8 0, .int .u8 0]⟩),
  (68, ⟨.func, 1, 8, [.nilFunc]⟩),
  (69, ⟨.struct [(0, 3), (1, 3), (2, 3)], 3, 24, [.int .i64 0, .int .i64 0, .int .i64 0]⟩),
  (70, ⟨.struct [(0, 3), (1, 3), (2, 3)], 3, 24, [.int .i64 0, .int .i64 0, .int .i64 0]⟩),
  (71, ⟨.func, 1, 8, [.nilFunc]⟩),
  (72, ⟨.func, 1, 8, [.nilFunc]⟩),
  (73, ⟨.func, 1, 8, [.nilFunc]⟩),
  (74, ⟨.struct [(0, 3), (1, 3), (2, 3), (3, 3)], 4, 32, [.int .i64 0, .int .i64 0, .int .i64 0, .int .i64 0]⟩),
  (75, ⟨.struct [(0, 3), (1, 3), (2, 3), (3, 3)], 4, 32, [.int .i64 0, .int .i64 0, .int .i64 0, .int .i64 0]⟩),
  (76, ⟨.slice 81, 1, 24, [.slice none 0 0]⟩),
  (77, ⟨.struct [(0, 9), (1, 3), (2, 4), (3, 76)], 4, 56, [.string ⟨#[]⟩, .int .i64 0, .bool false, .slice none 0 0]⟩),
  (78, ⟨.struct [(0, 9), (1, 3), (2, 4), (3, 76)], 4, 56, [.string ⟨#[]⟩, .int .i64 0, .bool false, .slice none 0 0]⟩),
  (79, ⟨.slice 9, 1, 24, [.slice none 0 0]⟩),
  (80, ⟨.struct [(0, 9), (1, 3), (2, 3), (3, 79)], 4, 56, [.string ⟨#[]⟩, .int .i64 0, .int .i64 0, .slice none 0 0]⟩),
  (81, ⟨.struct [(0, 9), (1, 3), (2, 3), (3, 79)], 4, 56, [.string ⟨#[]⟩, .int .i64 0, .int .i64 0, .slice none 0 0]⟩),
  (82, ⟨.struct [(0, 9), (1, 3), (2, 3), (3, 3), (4, 3), (5, 3), (6, 3)], 7, 64, [.string ⟨#[]⟩, .int .i64 0, .int .i64 0, .int .i64 0, .int .i64 0, .int .i64 0, .int .i64 0]⟩),
  (83, ⟨.struct [(0, 9), (1, 3), (2, 3), (3, 3), (4, 3), (5, 3), (6, 3)], 7, 64, [.string ⟨#[]⟩, .int .i64 0, .int .i64 0, .int .i64 0, .int .i64 0, .int .i64 0, .int .i64 0]⟩),
  (84, ⟨.func, 1, 8, [.nilFunc]⟩),
  (85, ⟨.func, 1, 8, [.nilFunc]⟩),
  (86, ⟨.func, 1, 8, [.nilFunc]⟩),
  (87, ⟨.func, 1, 8, [.nilFunc]⟩),
  (89, ⟨.func, 1, 8, [.nilFunc]⟩),
  (90, ⟨.func, 1, 8, [.nilFunc]⟩),
  (91, ⟨.func, 1, 8, [.nilFunc]⟩),
  (92, ⟨.func, 1, 8, [.nilFunc]⟩),
  (93, ⟨.func, 1, 8, [.nilFunc]⟩),
  (94, ⟨.func, 1, 8, [.nilFunc]⟩),
  (95, ⟨.func, 1, 8, [.nilFunc]⟩),
  (96, ⟨.func, 1, 8, [.nilFunc]⟩),
  (97, ⟨.func, 1, 8, [.nilFunc]⟩),
  (98, ⟨.func, 1, 8, [.nilFunc]⟩),
  (99, ⟨.func, 1, 8, [.nilFunc]⟩),
  (100, ⟨.func, 1, 8, [.nilFunc]⟩),
  (101, ⟨.func, 1, 8, [.nilFunc]⟩),
  (102, ⟨.func, 1, 8, [.nilFunc]⟩),
  (103, ⟨.func, 1, 8, [.nilFunc]⟩),
  (104, ⟨.func, 1, 8, [.nilFunc]⟩),
  (105, ⟨.func, 1, 8, [.nilFunc]⟩),
  (106, ⟨.func, 1, 8, [.nilFunc]⟩),
  (107, ⟨.func, 1, 8, [.nilFunc]⟩),
  (109, ⟨.func, 1, 8, [.nilFunc]⟩),
  (110, ⟨.func, 1, 8, [.nilFunc]⟩),
  (111, ⟨.func, 1, 8, [.nilFunc]⟩),
  (112, ⟨.func, 1, 8, [.nilFunc]⟩),
  (113, ⟨.func, 1, 8, [.nilFunc]⟩),
  (114, ⟨.func, 1, 8, [.nilFunc]⟩),
  (115, ⟨.func, 1, 8, [.nilFunc]⟩),
  (116, ⟨.func, 1, 8, [.nilFunc]⟩),
  (117, ⟨.func, 1, 8, [.nilFunc]⟩),
  (118, ⟨.array 2 5, 2, 2, [.int .u8 0, .int .u8 0]⟩),
  (119, ⟨.func, 1, 8, [.nilFunc]⟩),
  (120, ⟨.func, 1, 8, [.nilFunc]⟩),
  (121, ⟨.func, 1, 8, [.nilFunc]⟩),
  (122, ⟨.func, 1, 8, [.nilFunc]⟩),
  (123, ⟨.func, 1, 8, [.nilFunc]⟩),
  (124, ⟨.int .u64, 1, 8, [.int .u64 0]⟩),
  (125, ⟨.func, 1, 8, [.nilFunc]⟩),
  (126, ⟨.func, 1, 8, [.nilFunc]⟩),
  (127, ⟨.func, 1, 8, [.nilFunc]⟩),
  (128, ⟨.func, 1, 8, [.nilFunc]⟩),
  (129, ⟨.func, 1, 8, [.nilFunc]⟩),
  (130, ⟨.func, 1, 8, [.nilFunc]⟩),
  (131, ⟨.func, 1, 8, [.nilFunc]⟩),
  (132, ⟨.func, 1, 8, [.nilFunc]⟩),
  (133, ⟨.func, 1, 8, [.nilFunc]⟩),
  (134, ⟨.func, 1, 8, [.nilFunc]⟩),
  (135, ⟨.func, 1, 8, [.nilFunc]⟩),
  (136, ⟨.func, 1, 8, [.nilFunc]⟩),
  (137, ⟨.func, 1, 8, [.nilFunc]⟩),
  (139, ⟨.func, 1, 8, [.nilFunc]⟩),
  (140, ⟨.struct [(0, 3), (1, 9), (2, 3)], 3, 32, [.int .i64 0, .string ⟨#[]⟩, .int .i64 0]⟩),
  (141, ⟨.struct [(0, 3), (1, 9), (2, 3)], 3, 32, [.int .i64 0, .string ⟨#[]⟩, .int .i64 0]⟩),
  (142, ⟨.func, 1, 8, [.nilFunc]⟩),
  (143, ⟨.func, 1, 8, [.nilFunc]⟩),
  (144, ⟨.func, 1, 8, [.nilFunc]⟩),
  (145, ⟨.func, 1, 8, [.nilFunc]⟩),
  (146, ⟨.func, 1, 8, [.nilFunc]⟩),
  (147, ⟨.func, 1, 8, [.nilFunc]⟩),
  (148, ⟨.func, 1, 8, [.nilFunc]⟩),
  (149, ⟨.func, 1, 8, [.nilFunc]⟩),
  (151, ⟨.func, 1, 8, [.nilFunc]⟩),
  (152, ⟨.func, 1, 8, [.nilFunc]⟩),
  (153, ⟨.func, 1, 8, [.nilFunc]⟩),
  (154, ⟨.func, 1, 8, [.nilFunc]⟩),
  (156, ⟨.func, 1, 8, [.nilFunc]⟩),
  (157, ⟨.func, 1, 8, [.nilFunc]⟩),
  (158, ⟨.func, 1, 8, [.nilFunc]⟩),
  (159, ⟨.func, 1, 8, [.nilFunc]⟩),
  (160, ⟨.func, 1, 8, [.nilFunc]⟩),
  (161, ⟨.func, 1, 8, [.nilFunc]⟩),
  (162, ⟨.func, 1, 8, [.nilFunc]⟩),
  (163, ⟨.func, 1, 8, [.nilFunc]⟩),
  (164, ⟨.func, 1, 8, [.nilFunc]⟩),
  (165, ⟨.func, 1, 8, [.nilFunc]⟩),
  (171, ⟨.func, 1, 8, [.nilFunc]⟩),
  (172, ⟨.int .u32, 1, 4, [.int .u32 0]⟩),
  (176, ⟨.ptr 5, 1, 8, [.pointer none]⟩)]
theorem tok : TOK Tryz.prog tt := tok_of (
  And.intro ⟨by kernel_rfl, by kernel_rfl, by kernel_rfl, rfl⟩ <|
  And.intro ⟨by kernel_rfl, by kernel_rfl, by kernel_rfl, rfl⟩ <|
  And.intro ⟨by kernel_rfl, by kernel_rfl, by kernel_rfl, rfl⟩ <|
  And.intro ⟨by kernel_rfl, by kernel_rfl, by kernel_rfl, rfl⟩ <|
  And.intro ⟨by kernel_rfl, by kernel_rfl, by kernel_rfl, rfl⟩ <|
  And.intro ⟨by kernel_rfl, by kernel_rfl, by kernel_rfl, rfl⟩ <|
  And.intro ⟨by kernel_rfl, by kernel_rfl, by kernel_rfl, rfl⟩ <|
  And.intro ⟨by kernel_rfl, by kernel_rfl, by kernel_rfl, rfl⟩ <|
  And.intro ⟨by kernel_rfl, by kernel_rfl, by kernel_rfl, rfl⟩ <|
  And.intro ⟨by kernel_rfl, by kernel_rfl, by kernel_rfl, rfl⟩ <|
  And.intro ⟨by kernel_rfl, by kernel_rfl, by kernel_rfl, rfl⟩ <|
  And.intro ⟨by kernel_rfl, by kernel_rfl, by kernel_rfl, rfl⟩ <|
  And.intro ⟨by kernel_rfl, by kernel_rfl, by kernel_rfl, rfl⟩ <|
  And.intro ⟨by kernel_rfl, by kernel_rfl, by kernel_rfl, rfl⟩ <|
  And.intro ⟨by kernel_rfl, by kernel_rfl, by kernel_rfl, rfl⟩ <|
  And.intro ⟨by kernel_rfl, by kernel_rfl, by kernel_rfl, rfl⟩ <|
  And.intro ⟨by kernel_rfl, by kernel_rfl, by kernel_rfl, rfl⟩ <|
  And.intro ⟨by kernel_rfl, by kernel_rfl, by kernel_rfl, rfl⟩ <|
  And.intro ⟨by kernel_rfl, by kernel_rfl, by kernel_rfl, rfl⟩ <|
  And.intro ⟨by kernel_rfl, by kernel_rfl, by kernel_rfl, rfl⟩ <|
  And.intro ⟨by kernel_rfl, by kernel_rfl, by kernel_rfl, rfl⟩ <|
  And.intro ⟨by kernel_rfl, by kernel_rfl, by kernel_rfl, rfl⟩ <|
  And.intro ⟨by kernel_rfl, by kernel_rfl, by kernel_rfl, rfl⟩ <|
  And.intro ⟨by kernel_rfl, by kernel_rfl, by kernel_rfl, rfl⟩ <|
  And.intro ⟨by kernel_rfl, by kernel_rfl, by kernel_rfl, rfl⟩ <|
  And.intro ⟨by kernel_rfl, by kernel_rfl, by kernel_rfl, rfl⟩ <|
  And.intro ⟨by kernel_rfl, by kernel_rfl, by kernel_rfl, rfl⟩ <|
  And.intro ⟨by kernel_rfl, by kernel_rfl, by kernel_rfl, rfl⟩ <|
  And.intro ⟨by kernel_rfl, by kernel_rfl, by kernel_rfl, rfl⟩ <|
  And.intro ⟨by kernel_rfl, by kernel_rfl, by kernel_rfl, rfl⟩ <|
  And.intro ⟨by kernel_rfl, by kernel_rfl, by kernel_rfl, rfl⟩ <|
  And.intro ⟨by kernel_rfl, by kernel_rfl, by kernel_rfl, rfl⟩ <|
  And.intro ⟨by kernel_rfl, by kernel_rfl, by kernel_rfl, rfl⟩ <|
  And.intro ⟨by kernel_rfl, by kernel_rfl, by kernel_rfl, rfl⟩ <|
  And.intro ⟨by kernel_rfl, by kernel_rfl, by kernel_rfl, rfl⟩ <|
  And.intro ⟨by kernel_rfl, by kernel_rfl, by kernel_rfl, rfl⟩ <|
  And.intro ⟨by kernel_rfl, by kernel_rfl, by kernel_rfl, rfl⟩ <|
  And.intro ⟨by kernel_rfl, by kernel_rfl, by kernel_rfl, rfl⟩ <|
  And.intro ⟨by kernel_rfl, by kernel_rfl, by kernel_rfl, rfl⟩ <|
  And.intro ⟨by kernel_rfl, by kernel_rfl, by kernel_rfl, rfl⟩ <|
  And.intro ⟨by kernel_rfl, by kernel_rfl, by kernel_rfl, rfl⟩ <|
  And.intro ⟨by kernel_rfl, by kernel_rfl, by kernel_rfl, rfl⟩ <|
  And.intro ⟨by kernel_rfl, by kernel_rfl, by kernel_rfl, rfl⟩ <|
  And.intro ⟨by kernel_rfl, by kernel_rfl, by kernel_rfl, rfl⟩ <|
  And.intro ⟨by kernel_rfl, by kernel_rfl, by kernel_rfl, rfl⟩ <|
  And.intro ⟨by kernel_rfl, by kernel_rfl, by kernel_rfl, rfl⟩ <|
  And.intro ⟨by kernel_rfl, by kernel_rfl, by kernel_rfl, rfl⟩ <|
  And.intro ⟨by kernel_rfl, by kernel_rfl, by kernel_rfl, rfl⟩ <|
  And.intro ⟨by kernel_rfl, by kernel_rfl, by kernel_rfl, rfl⟩ <|
  And.intro ⟨by kernel_rfl, by kernel_rfl, by kernel_rfl, rfl⟩ <|
  And.intro ⟨by kernel_rfl, by kernel_rfl, by kernel_rfl, rfl⟩ <|
  And.intro ⟨by kernel_rfl, by kernel_rfl, by kernel_rfl, rfl⟩ <|
  And.intro ⟨by kernel_rfl, by kernel_rfl, by kernel_rfl, rfl⟩ <|
  And.intro ⟨by kernel_rfl, by kernel_rfl, by kernel_rfl, rfl⟩ <|
  And.intro ⟨by kernel_rfl, by kernel_rfl, by kernel_rfl, rfl⟩ <|
  And.intro ⟨by kernel_rfl, by kernel_rfl, by kernel_rfl, rfl⟩ <|
  And.intro ⟨by kernel_rfl, by kernel_rfl, by kernel_rfl, rfl⟩ <|
  And.intro ⟨by kernel_rfl, by kernel_rfl, by kernel_rfl, rfl⟩ <|
  And.intro ⟨by kernel_rfl, by kernel_rfl, by kernel_rfl, rfl⟩ <|
  And.intro ⟨by kernel_rfl, by kernel_rfl, by kernel_rfl, rfl⟩ <|
  And.intro ⟨by kernel_rfl, by kernel_rfl, by kernel_rfl, rfl⟩ <|
  And.intro ⟨by kernel_rfl, by kernel_rfl, by kernel_rfl, rfl⟩ <|
  And.intro ⟨by kernel_rfl, by kernel_rfl, by kernel_rfl, rfl⟩ <|
  And.intro ⟨by kernel_rfl, by kernel_rfl, by kernel_rfl, rfl⟩ <|
  And.intro ⟨by kernel_rfl, by kernel_rfl, by kernel_rfl, rfl⟩ <|
  And.intro ⟨by kernel_rfl, by kernel_rfl, by kernel_rfl, rfl⟩ <|
  And.intro ⟨by kernel_rfl, by kernel_rfl, by kernel_rfl, rfl⟩ <|
  And.intro ⟨by kernel_rfl, by kernel_rfl, by kernel_rfl, rfl⟩ <|
  And.intro ⟨by kernel_rfl, by kernel_rfl, by kernel_rfl, rfl⟩ <|
  And.intro ⟨by kernel_rfl, by kernel_rfl, by kernel_rfl, rfl⟩ <|
  And.intro ⟨by kernel_rfl, by kernel_rfl, by kernel_rfl, rfl⟩ <|
  And.intro ⟨by kernel_rfl, by kernel_rfl, by kernel_rfl, rfl⟩ <|
  And.intro ⟨by kernel_rfl, by kernel_rfl, by kernel_rfl, rfl⟩ <|
  And.intro ⟨by kernel_rfl, by kernel_rfl, by kernel_rfl, rfl⟩ <|
  And.intro ⟨by kernel_rfl, by kernel_rfl, by kernel_rfl, rfl⟩ <|
  And.intro ⟨by kernel_rfl, by kernel_rfl, by kernel_rfl, rfl⟩ <|
  And.intro ⟨by kernel_rfl, by kernel_rfl, by kernel_rfl, rfl⟩ <|
  And.intro ⟨by kernel_rfl, by kernel_rfl, by kernel_rfl, rfl⟩ <|
  And.intro ⟨by kernel_rfl, by kernel_rfl, by kernel_rfl, rfl⟩ <|
  And.intro ⟨by kernel_rfl, by kernel_rfl, by kernel_rfl, rfl⟩ <|
  And.intro ⟨by kernel_rfl, by kernel_rfl, by kernel_rfl, rfl⟩ <|
  And.intro ⟨by kernel_rfl, by kernel_rfl, by kernel_rfl, rfl⟩ <|
  And.intro ⟨by kernel_rfl, by kernel_rfl, by kernel_rfl, rfl⟩ <|
  And.intro ⟨by kernel_rfl, by kernel_rfl, by kernel_rfl, rfl⟩ <|
  And.intro ⟨by kernel_rfl, by kernel_rfl, by kernel_rfl, rfl⟩ <|
  And.intro ⟨by kernel_rfl, by kernel_rfl, by kernel_rfl, rfl⟩ <|
  And.intro ⟨by kernel_rfl, by kernel_rfl, by kernel_rfl, rfl⟩ <|
  And.intro ⟨by kernel_rfl, by kernel_rfl, by kernel_rfl, rfl⟩ <|
  And.intro ⟨by kernel_rfl, by kernel_rfl, by kernel_rfl, rfl⟩ <|
  And.intro ⟨by kernel_rfl, by kernel_rfl, by kernel_rfl, rfl⟩ <|
  And.intro ⟨by kernel_rfl, by kernel_rfl, by kernel_rfl, rfl⟩ <|
  And.intro ⟨by kernel_rfl, by kernel_rfl, by kernel_rfl, rfl⟩ <|
  And.intro ⟨by kernel_rfl, by kernel_rfl, by kernel_rfl, rfl⟩ <|
  And.intro ⟨by kernel_rfl, by kernel_rfl, by kernel_rfl, rfl⟩ <|
  And.intro ⟨by kernel_rfl, by kernel_rfl, by kernel_rfl, rfl⟩ <|
  And.intro ⟨by kernel_rfl, by kernel_rfl, by kernel_rfl, rfl⟩ <|
  And.intro ⟨by kernel_rfl, by kernel_rfl, by kernel_rfl, rfl⟩ <|
  And.intro ⟨by kernel_rfl, by kernel_rfl, by kernel_rfl, rfl⟩ <|
  And.intro ⟨by kernel_rfl, by kernel_rfl, by kernel_rfl, rfl⟩ <|
  And.intro ⟨by kernel_rfl, by kernel_rfl, by kernel_rfl, rfl⟩ <|
  And.intro ⟨by kernel_rfl, by kernel_rfl, by kernel_rfl, rfl⟩ <|
  And.intro ⟨by kernel_rfl, by kernel_rfl, by kernel_rfl, rfl⟩ <|
  And.intro ⟨by kernel_rfl, by kernel_rfl, by kernel_rfl, rfl⟩ <|
  And.intro ⟨by kernel_rfl, by kernel_rfl, by kernel_rfl, rfl⟩ <|
  And.intro ⟨by kernel_rfl, by kernel_rfl, by kernel_rfl, rfl⟩ <|
  And.intro ⟨by kernel_rfl, by kernel_rfl, by kernel_rfl, rfl⟩ <|
  And.intro ⟨by kernel_rfl, by kernel_rfl, by kernel_rfl, rfl⟩ <|
  And.intro ⟨by kernel_rfl, by kernel_rfl, by kernel_rfl, rfl⟩ <|
  And.intro ⟨by kernel_rfl, by kernel_rfl, by kernel_rfl, rfl⟩ <|
  And.intro ⟨by kernel_rfl, by kernel_rfl, by kernel_rfl, rfl⟩ <|
  And.intro ⟨by kernel_rfl, by kernel_rfl, by kernel_rfl, rfl⟩ <|
  And.intro ⟨by kernel_rfl, by kernel_rfl, by kernel_rfl, rfl⟩ <|
  And.intro ⟨by kernel_rfl, by kernel_rfl, by kernel_rfl, rfl⟩ <|
  And.intro ⟨by kernel_rfl, by kernel_rfl, by kernel_rfl, rfl⟩ <|
  And.intro ⟨by kernel_rfl, by kernel_rfl, by kernel_rfl, rfl⟩ <|
  And.intro ⟨by kernel_rfl, by kernel_rfl, by kernel_rfl, rfl⟩ <|
  And.intro ⟨by kernel_rfl, by kernel_rfl, by kernel_rfl, rfl⟩ <|
  And.intro ⟨by kernel_rfl, by kernel_rfl, by kernel_rfl, rfl⟩ <|
  And.intro ⟨by kernel_rfl, by kernel_rfl, by kernel_rfl, rfl⟩ <|
  And.intro ⟨by kernel_rfl, by kernel_rfl, by kernel_rfl, rfl⟩ <|
  And.intro ⟨by kernel_rfl, by kernel_rfl, by kernel_rfl, rfl⟩ <|
  And.intro ⟨by kernel_rfl, by kernel_rfl, by kernel_rfl, rfl⟩ <|
  And.intro ⟨by kernel_rfl, by kernel_rfl, by kernel_rfl, rfl⟩ <|
  And.intro ⟨by kernel_rfl, by kernel_rfl, by kernel_rfl, rfl⟩ <|
  And.intro ⟨by kernel_rfl, by kernel_rfl, by kernel_rfl, rfl⟩ <|
  And.intro ⟨by kernel_rfl, by kernel_rfl, by kernel_rfl, rfl⟩ <|
  And.intro ⟨by kernel_rfl, by kernel_rfl, by kernel_rfl, rfl⟩ <|
  And.intro ⟨by kernel_rfl, by kernel_rfl, by kernel_rfl, rfl⟩ <|
  And.intro ⟨by kernel_rfl, by kernel_rfl, by kernel_rfl, rfl⟩ <|
  And.intro ⟨by kernel_rfl, by kernel_rfl, by kernel_rfl, rfl⟩ <|
  And.intro ⟨by kernel_rfl, by kernel_rfl, by kernel_rfl, rfl⟩ <|
  And.intro ⟨by kernel_rfl, by kernel_rfl, by kernel_rfl, rfl⟩ <|
  And.intro ⟨by kernel_rfl, by kernel_rfl, by kernel_rfl, rfl⟩ <|
  And.intro ⟨by kernel_rfl, by kernel_rfl, by kernel_rfl, rfl⟩ <|
  And.intro ⟨by kernel_rfl, by kernel_rfl, by kernel_rfl, rfl⟩ <|
  And.intro ⟨by kernel_rfl, by kernel_rfl, by kernel_rfl, rfl⟩ <|
  And.intro ⟨by kernel_rfl, by kernel_rfl, by kernel_rfl, rfl⟩ <|
  And.intro ⟨by kernel_rfl, by kernel_rfl, by kernel_rfl, rfl⟩ <|
  And.intro ⟨by kernel_rfl, by kernel_rfl, by kernel_rfl, rfl⟩ <|
  And.intro ⟨by kernel_rfl, by kernel_rfl, by kernel_rfl, rfl⟩ <|
  And.intro ⟨by kernel_rfl, by kernel_rfl, by kernel_rfl, rfl⟩ <|
  And.intro ⟨by kernel_rfl, by kernel_rfl, by kernel_rfl, rfl⟩ <|
  And.intro ⟨by kernel_rfl, by kernel_rfl, by kernel_rfl, rfl⟩ <|
  And.intro ⟨by kernel_rfl, by kernel_rfl, by kernel_rfl, rfl⟩ <|
  And.intro ⟨by kernel_rfl, by kernel_rfl, by kernel_rfl, rfl⟩ <|
  And.intro ⟨by kernel_rfl, by kernel_rfl, by kernel_rfl, rfl⟩ <|
  trivial)
theorem mixed : Tryz.prog.follows .mixedOrders = true := by kernel_rfl
theorem pk : PK Tryz.prog tt := ⟨tok, mixed⟩
end Go.Proofs.YtcacbdohlfljfaaGreat
