/-
  Parts of the proof of the law IncrementalOpposite (texts Ty): steps, plain mathematics, contracts of functions. Each theorem states its own conditions.
-/
import Derived.Test.YtddohheabpiljaaGreatProg
import Derived.Test.YtddohheabpiljaaGreatB03
section
/-
  The types of the translated program, as the walks ask them: printed by a program (wip/tools_gen.py); the kernel checks each row.
-/
namespace Go.Proofs.YtddohheabpiljaaGreat
open Go.Sj
def tt : List (TypeId × TD) := [
  (1, ⟨.func, 1, 8, [.nilFunc]⟩),
  (2, ⟨.int .i64, 1, 8, [.int .i64 0]⟩),
  (3, ⟨.int .i64, 1, 8, [.int .i64 0]⟩),
  (4, ⟨.bool, 1, 1, [.bool false]⟩),
  (5, ⟨.int .u8, 1, 1, [.int .u8 0]⟩),
  (9, ⟨.str, 1, 16, [.string ⟨#[]⟩]⟩),
  (12, ⟨.int .u64, 1, 8, [.int .u64 0]⟩),
  (13, ⟨.struct [(0, 9), (1, 12)], 2, 24, [.string ⟨#[]⟩, .int .u64 0]⟩),
  (21, ⟨.int .i32, 1, 4, [.int .i32 0]⟩),
  (22, ⟨.slice 112, 1, 24, [.slice none 0 0]⟩),
  (23, ⟨.slice 114, 1, 24, [.slice none 0 0]⟩),
  (24, ⟨.struct [(0, 22), (1, 23)], 2, 48, [.slice none 0 0, .slice none 0 0]⟩),
  (25, ⟨.struct [(0, 22), (1, 23)], 2, 48, [.slice none 0 0, .slice none 0 0]⟩),
  (26, ⟨.slice 30, 1, 24, [.slice none 0 0]⟩),
  (27, ⟨.slice 3, 1, 24, [.slice none 0 0]⟩),
  (28, ⟨.slice 85, 1, 24, [.slice none 0 0]⟩),
  (29, ⟨.struct [(0, 27), (1, 28)], 2, 48, [.slice none 0 0, .slice none 0 0]⟩),
  (30, ⟨.struct [(0, 27), (1, 28)], 2, 48, [.slice none 0 0, .slice none 0 0]⟩),
  (31, ⟨.struct [(0, 25), (2, 26), (3, 30), (5, 4)], 6, 128, [.slice none 0 0, .slice none 0 0, .slice none 0 0, .slice none 0 0, .slice none 0 0, .bool false]⟩),
  (32, ⟨.struct [(0, 25), (2, 26), (3, 30), (5, 4)], 6, 128, [.slice none 0 0, .slice none 0 0, .slice none 0 0, .slice none 0 0, .slice none 0 0, .bool false]⟩),
  (33, ⟨.func, 1, 8, [.nilFunc]⟩),
  (34, ⟨.func, 1, 8, [.nilFunc]⟩),
  (35, ⟨.slice 70, 1, 24, [.slice none 0 0]⟩),
  (36, ⟨.struct [(0, 26), (1, 30), (3, 4), (4, 35)], 5, 104, [.slice none 0 0, .slice none 0 0, .slice none 0 0, .bool false, .slice none 0 0]⟩),
  (37, ⟨.struct [(0, 26), (1, 30), (3, 4), (4, 35)], 5, 104, [.slice none 0 0, .slice none 0 0, .slice none 0 0, .bool false, .slice none 0 0]⟩),
  (38, ⟨.int .i64, 1, 8, [.int .i64 0]⟩),
  (40, ⟨.func, 1, 8, [.nilFunc]⟩),
  (41, ⟨.func, 1, 8, [.nilFunc]⟩),
  (42, ⟨.func, 1, 8, [.nilFunc]⟩),
  (43, ⟨.func, 1, 8, [.nilFunc]⟩),
  (44, ⟨.struct [(0, 25), (2, 37)], 7, 152, [.slice none 0 0, .slice none 0 0, .slice none 0 0, .slice none 0 0, .slice none 0 0, .bool false, .slice none 0 0]⟩),
  (45, ⟨.struct [(0, 25), (2, 37)], 7, 152, [.slice none 0 0, .slice none 0 0, .slice none 0 0, .slice none 0 0, .slice none 0 0, .bool false, .slice none 0 0]⟩),
  (46, ⟨.struct [(0, 3), (1, 3), (2, 3), (3, 3), (4, 3)], 5, 40, [.int .i64 0, .int .i64 0, .int .i64 0, .int .i64 0, .int .i64 0]⟩),
  (47, ⟨.struct [(0, 3), (1, 3), (2, 3), (3, 3), (4, 3)], 5, 40, [.int .i64 0, .int .i64 0, .int .i64 0, .int .i64 0, .int .i64 0]⟩),
  (48, ⟨.func, 1, 8, [.nilFunc]⟩),
  (49, ⟨.slice 72, 1, 24, [.slice none 0 0]⟩),
  (51, ⟨.func, 1, 8, [.nilFunc]⟩),
  (52, ⟨.func, 1, 8, [.nilFunc]⟩),
  (53, ⟨.func, 1, 8, [.nilFunc]⟩),
  (54, ⟨.func, 1, 8, [.nilFunc]⟩),
  (55, ⟨.slice 128, 1, 24, [.slice none 0 0]⟩),
  (56, ⟨.slice 60, 1, 24, [.slice none 0 0]⟩),
  (57, ⟨.slice 5, 1, 24, [.slice none 0 0]⟩),
  (58, ⟨.slice 129, 1, 24, [.slice none 0 0]⟩),
  (59, ⟨.struct [(0, 57), (1, 58)], 2, 48, [.slice none 0 0, .slice none 0 0]⟩),
  (60, ⟨.struct [(0, 57), (1, 58)], 2, 48, [.slice none 0 0, .slice none 0 0]⟩),
  (61, ⟨.struct [(0, 55), (1, 55), (2, 56), (3, 60), (5, 4)], 6, 128, [.slice none 0 0, .slice none 0 0, .slice none 0 0, .slice none 0 0, .slice none 0 0, .bool false]⟩),
  (62, ⟨.struct [(0, 55), (1, 55), (2, 56), (3, 60), (5, 4)], 6, 128, [.slice none 0 0, .slice none 0 0, .slice none 0 0, .slice none 0 0, .slice none 0 0, .bool false]⟩),
  (63, ⟨.slice 66, 1, 24, [.slice none 0 0]⟩),
  (65, ⟨.func, 1, 8, [.nilFunc]⟩),
  (66, ⟨.array 4 5, 4, 4, [.int .u8 0, .int .u8 0, .int .u8 0, .int .u8 0]⟩),
  (67, ⟨.func, 1, 8, [.nilFunc]⟩),
  (68, ⟨.func, 1, 8, [.nilFunc]⟩),
  (69, ⟨.func, 1, 8, [.nilFunc]⟩),
  (70, ⟨.slice 95, 1, 24, [.slice none 0 0]⟩),
  (71, ⟨.struct [(0, 70), (1, 70)], 2, 48, [.slice none 0 0, .slice none 0 0]⟩),
  (72, ⟨.struct [(0, 70), (1, 70)], 2, 48, [.slice none 0 0, .slice none 0 0]⟩),
  (73, ⟨.func, 1, 8, [.nilFunc]⟩),
  (74, ⟨.slice 47, 1, 24, [.slice none 0 0]⟩),
  (76, ⟨.func, 1, 8, [.nilFunc]⟩),
  (77, ⟨.func, 1, 8, [.nilFunc]⟩),
  (78, ⟨.func, 1, 8, [.nilFunc]⟩),
  (80, ⟨.func, 1, 8, [.nilFunc]⟩),
  (81, ⟨.func, 1, 8, [.nilFunc]⟩),
  (82, ⟨.func, 1, 8, [.nilFunc]⟩),
  (83, ⟨.func, 1, 8, [.nilFunc]⟩),
  (84, ⟨.struct [(0, 3), (1, 3), (2, 3)], 3, 24, [.int .i64 0, .int .i64 0, .int .i64 0]⟩),
  (85, ⟨.struct [(0, 3), (1, 3), (2, 3)], 3, 24, [.int .i64 0, .int .i64 0, .int .i64 0]⟩),
  (86, ⟨.func, 1, 8, [.nilFunc]⟩),
  (88, ⟨.func, 1, 8, [.nilFunc]⟩),
  (89, ⟨.func, 1, 8, [.nilFunc]⟩),
  (90, ⟨.func, 1, 8, [.nilFunc]⟩),
  (91, ⟨.func, 1, 8, [.nilFunc]⟩),
  (92, ⟨.func, 1, 8, [.nilFunc]⟩),
  (93, ⟨.func, 1, 8, [.nilFunc]⟩),
  (94, ⟨.struct [(0, 27), (1, 27)], 2, 48, [.slice none 0 0, .slice none 0 0]⟩),
  (95, ⟨.struct [(0, 27), (1, 27)], 2, 48, [.slice none 0 0, .slice none 0 0]⟩),
  (96, ⟨.func, 1, 8, [.nilFunc]⟩),
  (97, ⟨.func, 1, 8, [.nilFunc]⟩),
  (98, ⟨.func, 1, 8, [.nilFunc]⟩),
  (99, ⟨.func, 1, 8, [.nilFunc]⟩),
  (100, ⟨.func, 1, 8, [.nilFunc]⟩),
  (101, ⟨.func, 1, 8, [.nilFunc]⟩),
  (102, ⟨.func, 1, 8, [.nilFunc]⟩),
  (103, ⟨.func, 1, 8, [.nilFunc]⟩),
  (104, ⟨.func, 1, 8, [.nilFunc]⟩),
  (105, ⟨.func, 1, 8, [.nilFunc]⟩),
  (106, ⟨.func, 1, 8, [.nilFunc]⟩),
  (107, ⟨.slice 9, 1, 24, [.slice none 0 0]⟩),
  (108, ⟨.struct [(0, 9), (1, 3), (2, 3), (3, 107)], 4, 56, [.string ⟨#[]⟩, .int .i64 0, .int .i64 0, .slice none 0 0]⟩),
  (109, ⟨.struct [(0, 9), (1, 3), (2, 3), (3, 107)], 4, 56, [.string ⟨#[]⟩, .int .i64 0, .int .i64 0, .slice none 0 0]⟩),
  (110, ⟨.slice 109, 1, 24, [.slice none 0 0]⟩),
  (111, ⟨.struct [(0, 9), (1, 3), (2, 4), (3, 110)], 4, 56, [.string ⟨#[]⟩, .int .i64 0, .bool false, .slice none 0 0]⟩),
  (112, ⟨.struct [(0, 9), (1, 3), (2, 4), (3, 110)], 4, 56, [.string ⟨#[]⟩, .int .i64 0, .bool false, .slice none 0 0]⟩),
  (113, ⟨.struct [(0, 9), (1, 3), (2, 3), (3, 3), (4, 3), (5, 3), (6, 3)], 7, 64, [.string ⟨#[]⟩, .int .i64 0, .int .i64 0, .int .i64 0, .int .i64 0, .int .i64 0, .int .i64 0]⟩),
  (114, ⟨.struct [(0, 9), (1, 3), (2, 3), (3, 3), (4, 3), (5, 3), (6, 3)], 7, 64, [.string ⟨#[]⟩, .int .i64 0, .int .i64 0, .int .i64 0, .int .i64 0, .int .i64 0, .int .i64 0]⟩),
  (115, ⟨.func, 1, 8, [.nilFunc]⟩),
  (116, ⟨.func, 1, 8, [.nilFunc]⟩),
  (118, ⟨.func, 1, 8, [.nilFunc]⟩),
  (119, ⟨.func, 1, 8, [.nilFunc]⟩),
  (120, ⟨.func, 1, 8, [.nilFunc]⟩),
  (121, ⟨.func, 1, 8, [.nilFunc]⟩),
  (122, ⟨.func, 1, 8, [.nilFunc]⟩),
  (124, ⟨.func, 1, 8, [.nilFunc]⟩),
  (125, ⟨.func, 1, 8, [.nilFunc]⟩),
  (126, ⟨.func, 1, 8, [.nilFunc]⟩),
  (127, ⟨.func, 1, 8, [.nilFunc]⟩),
  (128, ⟨.array 2 5, 2, 2, [.int .u8 0, .int .u8 0]⟩),
  (129, ⟨.array 3 5, 3, 3, [.int .u8 0, .int .u8 0, .int .u8 0]⟩),
  (130, ⟨.func, 1, 8, [.nilFunc]⟩),
  (131, ⟨.func, 1, 8, [.nilFunc]⟩),
  (132, ⟨.func, 1, 8, [.nilFunc]⟩),
  (133, ⟨.func, 1, 8, [.nilFunc]⟩),
  (134, ⟨.func, 1, 8, [.nilFunc]⟩),
  (135, ⟨.func, 1, 8, [.nilFunc]⟩),
  (136, ⟨.func, 1, 8, [.nilFunc]⟩),
  (137, ⟨.func, 1, 8, [.nilFunc]⟩),
  (138, ⟨.func, 1, 8, [.nilFunc]⟩),
  (140, ⟨.func, 1, 8, [.nilFunc]⟩),
  (141, ⟨.func, 1, 8, [.nilFunc]⟩),
  (142, ⟨.func, 1, 8, [.nilFunc]⟩),
  (143, ⟨.func, 1, 8, [.nilFunc]⟩),
  (144, ⟨.func, 1, 8, [.nilFunc]⟩),
  (145, ⟨.func, 1, 8, [.nilFunc]⟩),
  (146, ⟨.func, 1, 8, [.nilFunc]⟩),
  (147, ⟨.func, 1, 8, [.nilFunc]⟩),
  (148, ⟨.func, 1, 8, [.nilFunc]⟩),
  (149, ⟨.func, 1, 8, [.nilFunc]⟩),
  (150, ⟨.ptr 27, 1, 8, [.pointer none]⟩),
  (151, ⟨.func, 1, 8, [.nilFunc]⟩),
  (152, ⟨.func, 1, 8, [.nilFunc]⟩),
  (153, ⟨.func, 1, 8, [.nilFunc]⟩),
  (154, ⟨.func, 1, 8, [.nilFunc]⟩),
  (155, ⟨.func, 1, 8, [.nilFunc]⟩),
  (156, ⟨.func, 1, 8, [.nilFunc]⟩),
  (157, ⟨.func, 1, 8, [.nilFunc]⟩),
  (158, ⟨.func, 1, 8, [.nilFunc]⟩),
  (159, ⟨.ptr 161, 1, 8, [.pointer none]⟩),
  (160, ⟨.struct [(0, 25), (2, 30), (4, 30), (6, 95), (8, 4), (9, 3), (10, 70)], 11, 232, [.slice none 0 0, .slice none 0 0, .slice none 0 0, .slice none 0 0, .slice none 0 0, .slice none 0 0, .slice none 0 0, .slice none 0 0, .bool false, .int .i64 0, .slice none 0 0]⟩),
  (161, ⟨.struct [(0, 25), (2, 30), (4, 30), (6, 95), (8, 4), (9, 3), (10, 70)], 11, 232, [.slice none 0 0, .slice none 0 0, .slice none 0 0, .slice none 0 0, .slice none 0 0, .slice none 0 0, .slice none 0 0, .slice none 0 0, .bool false, .int .i64 0, .slice none 0 0]⟩),
  (162, ⟨.func, 1, 8, [.nilFunc]⟩),
  (163, ⟨.func, 1, 8, [.nilFunc]⟩),
  (164, ⟨.func, 1, 8, [.nilFunc]⟩),
  (165, ⟨.func, 1, 8, [.nilFunc]⟩),
  (166, ⟨.func, 1, 8, [.nilFunc]⟩),
  (167, ⟨.int .u64, 1, 8, [.int .u64 0]⟩),
  (168, ⟨.func, 1, 8, [.nilFunc]⟩),
  (169, ⟨.func, 1, 8, [.nilFunc]⟩),
  (170, ⟨.func, 1, 8, [.nilFunc]⟩),
  (171, ⟨.func, 1, 8, [.nilFunc]⟩),
  (172, ⟨.ptr 176, 1, 8, [.pointer none]⟩),
  (173, ⟨.slice 202, 1, 24, [.slice none 0 0]⟩),
  (174, ⟨.func, 1, 8, [.nilFunc]⟩),
  (175, ⟨.struct [(0, 30), (2, 30), (4, 173), (5, 95), (7, 4), (8, 3), (9, 27), (10, 27), (11, 70)], 12, 256, [.slice none 0 0, .slice none 0 0, .slice none 0 0, .slice none 0 0, .slice none 0 0, .slice none 0 0, .slice none 0 0, .bool false, .int .i64 0, .slice none 0 0, .slice none 0 0, .slice none 0 0]⟩),
  (176, ⟨.struct [(0, 30), (2, 30), (4, 173), (5, 95), (7, 4), (8, 3), (9, 27), (10, 27), (11, 70)], 12, 256, [.slice none 0 0, .slice none 0 0, .slice none 0 0, .slice none 0 0, .slice none 0 0, .slice none 0 0, .slice none 0 0, .bool false, .int .i64 0, .slice none 0 0, .slice none 0 0, .slice none 0 0]⟩),
  (177, ⟨.func, 1, 8, [.nilFunc]⟩),
  (178, ⟨.func, 1, 8, [.nilFunc]⟩),
  (180, ⟨.func, 1, 8, [.nilFunc]⟩),
  (181, ⟨.func, 1, 8, [.nilFunc]⟩),
  (182, ⟨.int .i64, 1, 8, [.int .i64 0]⟩),
  (184, ⟨.func, 1, 8, [.nilFunc]⟩),
  (185, ⟨.func, 1, 8, [.nilFunc]⟩),
  (186, ⟨.func, 1, 8, [.nilFunc]⟩),
  (188, ⟨.func, 1, 8, [.nilFunc]⟩),
  (189, ⟨.func, 1, 8, [.nilFunc]⟩),
  (190, ⟨.int .u32, 1, 4, [.int .u32 0]⟩),
  (191, ⟨.func, 1, 8, [.nilFunc]⟩),
  (192, ⟨.int .u64, 1, 8, [.int .u64 0]⟩),
  (193, ⟨.func, 1, 8, [.nilFunc]⟩),
  (194, ⟨.struct [(0, 3), (1, 9), (2, 3)], 3, 32, [.int .i64 0, .string ⟨#[]⟩, .int .i64 0]⟩),
  (195, ⟨.struct [(0, 3), (1, 9), (2, 3)], 3, 32, [.int .i64 0, .string ⟨#[]⟩, .int .i64 0]⟩),
  (196, ⟨.func, 1, 8, [.nilFunc]⟩),
  (197, ⟨.func, 1, 8, [.nilFunc]⟩),
  (198, ⟨.func, 1, 8, [.nilFunc]⟩),
  (199, ⟨.func, 1, 8, [.nilFunc]⟩),
  (200, ⟨.func, 1, 8, [.nilFunc]⟩),
  (201, ⟨.func, 1, 8, [.nilFunc]⟩),
  (202, ⟨.slice 4, 1, 24, [.slice none 0 0]⟩),
  (204, ⟨.func, 1, 8, [.nilFunc]⟩),
  (206, ⟨.func, 1, 8, [.nilFunc]⟩),
  (208, ⟨.func, 1, 8, [.nilFunc]⟩),
  (209, ⟨.int .u64, 1, 8, [.int .u64 0]⟩),
  (210, ⟨.func, 1, 8, [.nilFunc]⟩),
  (211, ⟨.func, 1, 8, [.nilFunc]⟩),
  (212, ⟨.func, 1, 8, [.nilFunc]⟩),
  (213, ⟨.ptr 3, 1, 8, [.pointer none]⟩),
  (214, ⟨.func, 1, 8, [.nilFunc]⟩),
  (215, ⟨.func, 1, 8, [.nilFunc]⟩),
  (217, ⟨.func, 1, 8, [.nilFunc]⟩),
  (219, ⟨.func, 1, 8, [.nilFunc]⟩),
  (220, ⟨.func, 1, 8, [.nilFunc]⟩),
  (221, ⟨.func, 1, 8, [.nilFunc]⟩),
  (222, ⟨.func, 1, 8, [.nilFunc]⟩),
  (223, ⟨.func, 1, 8, [.nilFunc]⟩),
  (224, ⟨.func, 1, 8, [.nilFunc]⟩),
  (225, ⟨.ptr 209, 1, 8, [.pointer none]⟩),
  (227, ⟨.func, 1, 8, [.nilFunc]⟩),
  (228, ⟨.func, 1, 8, [.nilFunc]⟩),
  (229, ⟨.func, 1, 8, [.nilFunc]⟩),
  (230, ⟨.func, 1, 8, [.nilFunc]⟩),
  (231, ⟨.func, 1, 8, [.nilFunc]⟩),
  (233, ⟨.func, 1, 8, [.nilFunc]⟩),
  (234, ⟨.func, 1, 8, [.nilFunc]⟩),
  (235, ⟨.func, 1, 8, [.nilFunc]⟩),
  (236, ⟨.func, 1, 8, [.nilFunc]⟩),
  (237, ⟨.func, 1, 8, [.nilFunc]⟩),
  (239, ⟨.func, 1, 8, [.nilFunc]⟩),
  (240, ⟨.func, 1, 8, [.nilFunc]⟩),
  (241, ⟨.func, 1, 8, [.nilFunc]⟩),
  (242, ⟨.func, 1, 8, [.nilFunc]⟩),
  (248, ⟨.func, 1, 8, [.nilFunc]⟩),
  (252, ⟨.ptr 5, 1, 8, [.pointer none]⟩)]
theorem tok : TOK Tryz.prog tt := tok_of (
  And.intro ⟨by kernel_rfl, by kernel_rfl, by kernel_rfl, rfl⟩ <|
  And.intro ⟨by kernel_rfl, by kernel_rfl, by kernel_rfl, rfl⟩ <|
  And.intro ⟨by kernel_rfl, by kernel_rfl, by kernel_rfl, rfl⟩ <|
  And.intro ⟨by kernel_rfl, by kernel_rfl, by kernel_rfl, rfl⟩ <|
  And.intro ⟨by kernel_rfl, by kernel_rfl, by kernel_rfl, rfl⟩ <|
  And.intro ⟨by kernel_rfl, by kernel_rfl, by kernel_rfl, rfl⟩ <|
  And.intro ⟨by kernel_rfl, by kernel_rfl, by kernel_rfl, rfl⟩ <|
  And.intro ⟨by kernel_rfl, by kernel_rfl, by kernel_rfl, rfl⟩ <|
  And.intro ⟨by kernel_rfl, by kernel_rfl, by kernel_rfl, rfl⟩ <|
  And.intro ⟨by kernel_rfl, by kernel_rfl, by kernel_rfl, rfl⟩ <|
  And.intro ⟨by kernel_rfl, by kernel_rfl, by kernel_rfl, rfl⟩ <|
  And.intro ⟨by kernel_rfl, by kernel_rfl, by kernel_rfl, rfl⟩ <|
  And.intro ⟨by kernel_rfl, by kernel_rfl, by kernel_rfl, rfl⟩ <|
  And.intro ⟨by kernel_rfl, by kernel_rfl, by kernel_rfl, rfl⟩ <|
  And.intro ⟨by kernel_rfl, by kernel_rfl, by kernel_rfl, rfl⟩ <|
  And.intro ⟨by kernel_rfl, by kernel_rfl, by kernel_rfl, rfl⟩ <|
  And.intro ⟨by kernel_rfl, by kernel_rfl, by kernel_rfl, rfl⟩ <|
  And.intro ⟨by kernel_rfl, by kernel_rfl, by kernel_rfl, rfl⟩ <|
  And.intro ⟨by kernel_rfl, by kernel_rfl, by kernel_rfl, rfl⟩ <|
  And.intro ⟨by kernel_rfl, by kernel_rfl, by kernel_rfl, rfl⟩ <|
  And.intro ⟨by kernel_rfl, by kernel_rfl, by kernel_rfl, rfl⟩ <|
  And.intro ⟨by kernel_rfl, by kernel_rfl, by kernel_rfl, rfl⟩ <|
  And.intro ⟨by kernel_rfl, by kernel_rfl, by kernel_rfl, rfl⟩ <|
  And.intro ⟨by kernel_rfl, by kernel_rfl, by kernel_rfl, rfl⟩ <|
  And.intro ⟨by kernel_rfl, by kernel_rfl, by kernel_rfl, rfl⟩ <|
  And.intro ⟨by kernel_rfl, by kernel_rfl, by kernel_rfl, rfl⟩ <|
  And.intro ⟨by kernel_rfl, by kernel_rfl, by kernel_rfl, rfl⟩ <|
  And.intro ⟨by kernel_rfl, by kernel_rfl, by kernel_rfl, rfl⟩ <|
  And.intro ⟨by kernel_rfl, by kernel_rfl, by kernel_rfl, rfl⟩ <|
  And.intro ⟨by kernel_rfl, by kernel_rfl, by kernel_rfl, rfl⟩ <|
  And.intro ⟨by kernel_rfl, by kernel_rfl, by kernel_rfl, rfl⟩ <|
  And.intro ⟨by kernel_rfl, by kernel_rfl, by kernel_rfl, rfl⟩ <|
  And.intro ⟨by kernel_rfl, by kernel_rfl, by kernel_rfl, rfl⟩ <|
  And.intro ⟨by kernel_rfl, by kernel_rfl, by kernel_rfl, rfl⟩ <|
  And.intro ⟨by kernel_rfl, by kernel_rfl, by kernel_rfl, rfl⟩ <|
  And.intro ⟨by kernel_rfl, by kernel_rfl, by kernel_rfl, rfl⟩ <|
  And.intro ⟨by kernel_rfl, by kernel_rfl, by kernel_rfl, rfl⟩ <|
  And.intro ⟨by kernel_rfl, by kernel_rfl, by kernel_rfl, rfl⟩ <|
  And.intro ⟨by kernel_rfl, by kernel_rfl, by kernel_rfl, rfl⟩ <|
  And.intro ⟨by kernel_rfl, by kernel_rfl, by kernel_rfl, rfl⟩ <|
  And.intro ⟨by kernel_rfl, by kernel_rfl, by kernel_rfl, rfl⟩ <|
  And.intro ⟨by kernel_rfl, by kernel_rfl, by kernel_rfl, rfl⟩ <|
  And.intro ⟨by kernel_rfl, by kernel_rfl, by kernel_rfl, rfl⟩ <|
  And.intro ⟨by kernel_rfl, by kernel_rfl, by kernel_rfl, rfl⟩ <|
  And.intro ⟨by kernel_rfl, by kernel_rfl, by kernel_rfl, rfl⟩ <|
  And.intro ⟨by kernel_rfl, by kernel_rfl, by kernel_rfl, rfl⟩ <|
  And.intro ⟨by kernel_rfl, by kernel_rfl, by kernel_rfl, rfl⟩ <|
  And.intro ⟨by kernel_rfl, by kernel_rfl, by kernel_rfl, rfl⟩ <|
  And.intro ⟨by kernel_rfl, by kernel_rfl, by kernel_rfl, rfl⟩ <|
  And.intro ⟨by kernel_rfl, by kernel_rfl, by kernel_rfl, rfl⟩ <|
  And.intro ⟨by kernel_rfl, by kernel_rfl, by kernel_rfl, rfl⟩ <|
  And.intro ⟨by kernel_rfl, by kernel_rfl, by kernel_rfl, rfl⟩ <|
  And.intro ⟨by kernel_rfl, by kernel_rfl, by kernel_rfl, rfl⟩ <|
  And.intro ⟨by kernel_rfl, by kernel_rfl, by kernel_rfl, rfl⟩ <|
  And.intro ⟨by kernel_rfl, by kernel_rfl, by kernel_rfl, rfl⟩ <|
  And.intro ⟨by kernel_rfl, by kernel_rfl, by kernel_rfl, rfl⟩ <|
  And.intro ⟨by kernel_rfl, by kernel_rfl, by kernel_rfl, rfl⟩ <|
  And.intro ⟨by kernel_rfl, by kernel_rfl, by kernel_rfl, rfl⟩ <|
  And.intro ⟨by kernel_rfl, by kernel_rfl, by kernel_rfl, rfl⟩ <|
  And.intro ⟨by kernel_rfl, by kernel_rfl, by kernel_rfl, rfl⟩ <|
  And.intro ⟨by kernel_rfl, by kernel_rfl, by kernel_rfl, rfl⟩ <|
  And.intro ⟨by kernel_rfl, by kernel_rfl, by kernel_rfl, rfl⟩ <|
  And.intro ⟨by kernel_rfl, by kernel_rfl, by kernel_rfl, rfl⟩ <|
  And.intro ⟨by kernel_rfl, by kernel_rfl, by kernel_rfl, rfl⟩ <|
  And.intro ⟨by kernel_rfl, by kernel_rfl, by kernel_rfl, rfl⟩ <|
  And.intro ⟨by kernel_rfl, by kernel_rfl, by kernel_rfl, rfl⟩ <|
  And.intro ⟨by kernel_rfl, by kernel_rfl, by kernel_rfl, rfl⟩ <|
  And.intro ⟨by kernel_rfl, by kernel_rfl, by kernel_rfl, rfl⟩ <|
  And.intro ⟨by kernel_rfl, by kernel_rfl, by kernel_rfl, rfl⟩ <|
  And.intro ⟨by kernel_rfl, by kernel_rfl, by kernel_rfl, rfl⟩ <|
  And.intro ⟨by kernel_rfl, by kernel_rfl, by kernel_rfl, rfl⟩ <|
  And.intro ⟨by kernel_rfl, by kernel_rfl, by kernel_rfl, rfl⟩ <|
  And.intro ⟨by kernel_rfl, by kernel_rfl, by kernel_rfl, rfl⟩ <|
  And.intro ⟨by kernel_rfl, by kernel_rfl, by kernel_rfl, rfl⟩ <|
  And.intro ⟨by kernel_rfl, by kernel_rfl, by kernel_rfl, rfl⟩ <|
  And.intro ⟨by kernel_rfl, by kernel_rfl, by kernel_rfl, rfl⟩ <|
  And.intro ⟨by kernel_rfl, by kernel_rfl, by kernel_rfl, rfl⟩ <|
  And.intro ⟨by kernel_rfl, by kernel_rfl, by kernel_rfl, rfl⟩ <|
  And.intro ⟨by kernel_rfl, by kernel_rfl, by kernel_rfl, rfl⟩ <|
  And.intro ⟨by kernel_rfl, by kernel_rfl, by kernel_rfl, rfl⟩ <|
  And.intro ⟨by kernel_rfl, by kernel_rfl, by kernel_rfl, rfl⟩ <|
  And.intro ⟨by kernel_rfl, by kernel_rfl, by kernel_rfl, rfl⟩ <|
  And.intro ⟨by kernel_rfl, by kernel_rfl, by kernel_rfl, rfl⟩ <|
  And.intro ⟨by kernel_rfl, by kernel_rfl, by kernel_rfl, rfl⟩ <|
  And.intro ⟨by kernel_rfl, by kernel_rfl, by kernel_rfl, rfl⟩ <|
  And.intro ⟨by kernel_rfl, by kernel_rfl, by kernel_rfl, rfl⟩ <|
  And.intro ⟨by kernel_rfl, by kernel_rfl, by kernel_rfl, rfl⟩ <|
  And.intro ⟨by kernel_rfl, by kernel_rfl, by kernel_rfl, rfl⟩ <|
  And.intro ⟨by kernel_rfl, by kernel_rfl, by kernel_rfl, rfl⟩ <|
  And.intro ⟨by kernel_rfl, by kernel_rfl, by kernel_rfl, rfl⟩ <|
  And.intro ⟨by kernel_rfl, by kernel_rfl, by kernel_rfl, rfl⟩ <|
  And.intro ⟨by kernel_rfl, by kernel_rfl, by kernel_rfl, rfl⟩ <|
  And.intro ⟨by kernel_rfl, by kernel_rfl, by kernel_rfl, rfl⟩ <|
  And.intro ⟨by kernel_rfl, by kernel_rfl, by kernel_rfl, rfl⟩ <|
  And.intro ⟨by kernel_rfl, by kernel_rfl, by kernel_rfl, rfl⟩ <|
  And.intro ⟨by kernel_rfl, by kernel_rfl, by kernel_rfl, rfl⟩ <|
  And.intro ⟨by kernel_rfl, by kernel_rfl, by kernel_rfl, rfl⟩ <|
  And.intro ⟨by kernel_rfl, by kernel_rfl, by kernel_rfl, rfl⟩ <|
  And.intro ⟨by kernel_rfl, by kernel_rfl, by kernel_rfl, rfl⟩ <|
  And.intro ⟨by kernel_rfl, by kernel_rfl, by kernel_rfl, rfl⟩ <|
  And.intro ⟨by kernel_rfl, by kernel_rfl, by kernel_rfl, rfl⟩ <|
  And.intro ⟨by kernel_rfl, by kernel_rfl, by kernel_rfl, rfl⟩ <|
  And.intro ⟨by kernel_rfl, by kernel_rfl, by kernel_rfl, rfl⟩ <|
  And.intro ⟨by kernel_rfl, by kernel_rfl, by kernel_rfl, rfl⟩ <|
  And.intro ⟨by kernel_rfl, by kernel_rfl, by kernel_rfl, rfl⟩ <|
  And.intro ⟨by kernel_rfl, by kernel_rfl, by kernel_rfl, rfl⟩ <|
  And.intro ⟨by kernel_rfl, by kernel_rfl, by kernel_rfl, rfl⟩ <|
  And.intro ⟨by kernel_rfl, by kernel_rfl, by kernel_rfl, rfl⟩ <|
  And.intro ⟨by kernel_rfl, by kernel_rfl, by kernel_rfl, rfl⟩ <|
  And.intro ⟨by kernel_rfl, by kernel_rfl, by kernel_rfl, rfl⟩ <|
  And.intro ⟨by kernel_rfl, by kernel_rfl, by kernel_rfl, rfl⟩ <|
  And.intro ⟨by kernel_rfl, by kernel_rfl, by kernel_rfl, rfl⟩ <|
  And.intro ⟨by kernel_rfl, by kernel_rfl, by kernel_rfl, rfl⟩ <|
  And.intro ⟨by kernel_rfl, by kernel_rfl, by kernel_rfl, rfl⟩ <|
  And.intro ⟨by kernel_rfl, by kernel_rfl, by kernel_rfl, rfl⟩ <|
  And.intro ⟨by kernel_rfl, by kernel_rfl, by kernel_rfl, rfl⟩ <|
  And.intro ⟨by kernel_rfl, by kernel_rfl, by kernel_rfl, rfl⟩ <|
  And.intro ⟨by kernel_rfl, by kernel_rfl, by kernel_rfl, rfl⟩ <|
  And.intro ⟨by kernel_rfl, by kernel_rfl, by kernel_rfl, rfl⟩ <|
  And.intro ⟨by kernel_rfl, by kernel_rfl, by kernel_rfl, rfl⟩ <|
  And.intro ⟨by kernel_rfl, by kernel_rfl, by kernel_rfl, rfl⟩ <|
  And.intro ⟨by kernel_rfl, by kernel_rfl, by kernel_rfl, rfl⟩ <|
  And.intro ⟨by kernel_rfl, by kernel_rfl, by kernel_rfl, rfl⟩ <|
  And.intro ⟨by kernel_rfl, by kernel_rfl, by kernel_rfl, rfl⟩ <|
  And.intro ⟨by kernel_rfl, by kernel_rfl, by kernel_rfl, rfl⟩ <|
  And.intro ⟨by kernel_rfl, by kernel_rfl, by kernel_rfl, rfl⟩ <|
  And.intro ⟨by kernel_rfl, by kernel_rfl, by kernel_rfl, rfl⟩ <|
  And.intro ⟨by kernel_rfl, by kernel_rfl, by kernel_rfl, rfl⟩ <|
  And.intro ⟨by kernel_rfl, by kernel_rfl, by kernel_rfl, rfl⟩ <|
  And.intro ⟨by kernel_rfl, by kernel_rfl, by kernel_rfl, rfl⟩ <|
  And.intro ⟨by kernel_rfl, by kernel_rfl, by kernel_rfl, rfl⟩ <|
  And.intro ⟨by kernel_rfl, by kernel_rfl, by kernel_rfl, rfl⟩ <|
  And.intro ⟨by kernel_rfl, by kernel_rfl, by kernel_rfl, rfl⟩ <|
  And.intro ⟨by kernel_rfl, by kernel_rfl, by kernel_rfl, rfl⟩ <|
  And.intro ⟨by kernel_rfl, by kernel_rfl, by kernel_rfl, rfl⟩ <|
  And.intro ⟨by kernel_rfl, by kernel_rfl, by kernel_rfl, rfl⟩ <|
  And.intro ⟨by kernel_rfl, by kernel_rfl, by kernel_rfl, rfl⟩ <|
  And.intro ⟨by kernel_rfl, by kernel_rfl, by kernel_rfl, rfl⟩ <|
  And.intro ⟨by kernel_rfl, by kernel_rfl, by kernel_rfl, rfl⟩ <|
  And.intro ⟨by kernel_rfl, by kernel_rfl, by kernel_rfl, rfl⟩ <|
  And.intro ⟨by kernel_rfl, by kernel_rfl, by kernel_rfl, rfl⟩ <|
  And.intro ⟨by kernel_rfl, by kernel_rfl, by kernel_rfl, rfl⟩ <|
  And.intro ⟨by kernel_rfl, by kernel_rfl, by kernel_rfl, rfl⟩ <|
  And.intro ⟨by kernel_rfl, by kernel_rfl, by kernel_rfl, rfl⟩ <|
  And.intro ⟨by kernel_rfl, by kernel_rfl, by kernel_rfl, rfl⟩ <|
  And.intro ⟨by kernel_rfl, by kernel_rfl, by kernel_rfl, rfl⟩ <|
  And.intro ⟨by kernel_rfl, by kernel_rfl, by kernel_rfl, rfl⟩ <|
  And.intro ⟨by kernel_rfl, by kernel_rfl, by kernel_rfl, rfl⟩ <|
  And.intro ⟨by kernel_rfl, by kernel_rfl, by kernel_rfl, rfl⟩ <|
  And.intro ⟨by kernel_rfl, by kernel_rfl, by kernel_rfl, rfl⟩ <|
  And.intro ⟨by kernel_rfl, by kernel_rfl, by kernel_rfl, rfl⟩ <|
  And.intro ⟨by kernel_rfl, by kernel_rfl, by kernel_rfl, rfl⟩ <|
  And.intro ⟨by kernel_rfl, by kernel_rfl, by kernel_rfl, rfl⟩ <|
  And.intro ⟨by kernel_rfl, by kernel_rfl, by kernel_rfl, rfl⟩ <|
  And.intro ⟨by kernel_rfl, by kernel_rfl, by kernel_rfl, rfl⟩ <|
  And.intro ⟨by kernel_rfl, by kernel_rfl, by kernel_rfl, rfl⟩ <|
  And.intro ⟨by kernel_rfl, by kernel_rfl, by kernel_rfl, rfl⟩ <|
  And.intro ⟨by kernel_rfl, by kernel_rfl, by kernel_rfl, rfl⟩ <|
  And.intro ⟨by kernel_rfl, by kernel_rfl, by kernel_rfl, rfl⟩ <|
  And.intro ⟨by kernel_rfl, by kernel_rfl, by kernel_rfl, rfl⟩ <|
  And.intro ⟨by kernel_rfl, by kernel_rfl, by kernel_rfl, rfl⟩ <|
  And.intro ⟨by kernel_rfl, by kernel_rfl, by kernel_rfl, rfl⟩ <|
  And.intro ⟨by kernel_rfl, by kernel_rfl, by kernel_rfl, rfl⟩ <|
  And.intro ⟨by kernel_rfl, by kernel_rfl, by kernel_rfl, rfl⟩ <|
  And.intro ⟨by kernel_rfl, by kernel_rfl, by kernel_rfl, rfl⟩ <|
  And.intro ⟨by kernel_rfl, by kernel_rfl, by kernel_rfl, rfl⟩ <|
  And.intro ⟨by kernel_rfl, by kernel_rfl, by kernel_rfl, rfl⟩ <|
  And.intro ⟨by kernel_rfl, by kernel_rfl, by kernel_rfl, rfl⟩ <|
  And.intro ⟨by kernel_rfl, by kernel_rfl, by kernel_rfl, rfl⟩ <|
  And.intro ⟨by kernel_rfl, by kernel_rfl, by kernel_rfl, rfl⟩ <|
  And.intro ⟨by kernel_rfl, by kernel_rfl, by kernel_rfl, rfl⟩ <|
  And.intro ⟨by kernel_rfl, by kernel_rfl, by kernel_rfl, rfl⟩ <|
  And.intro ⟨by kernel_rfl, by kernel_rfl, by kernel_rfl, rfl⟩ <|
  And.intro ⟨by kernel_rfl, by kernel_rfl, by kernel_rfl, rfl⟩ <|
  And.intro ⟨by kernel_rfl, by kernel_rfl, by kernel_rfl, rfl⟩ <|
  And.intro ⟨by kernel_rfl, by kernel_rfl, by kernel_rfl, rfl⟩ <|
  And.intro ⟨by kernel_rfl, by kernel_rfl, by kernel_rfl, rfl⟩ <|
  And.intro ⟨by kernel_rfl, by kernel_rfl, by kernel_rfl, rfl⟩ <|
  And.intro ⟨by kernel_rfl, by kernel_rfl, by kernel_rfl, rfl⟩ <|
  And.intro ⟨by kernel_rfl, by kernel_rfl, by kernel_rfl, rfl⟩ <|
  And.intro ⟨by kernel_rfl, by kernel_rfl, by kernel_rfl, rfl⟩ <|
  And.intro ⟨by kernel_rfl, by kernel_rfl, by kernel_rfl, rfl⟩ <|
  And.intro ⟨by kernel_rfl, by kernel_rfl, by kernel_rfl, rfl⟩ <|
  And.intro ⟨by kernel_rfl, by kernel_rfl, by kernel_rfl, rfl⟩ <|
  And.intro ⟨by kernel_rfl, by kernel_rfl, by kernel_rfl, rfl⟩ <|
  And.intro ⟨by kernel_rfl, by kernel_rfl, by kernel_rfl, rfl⟩ <|
  And.intro ⟨by kernel_rfl, by kernel_rfl, by kernel_rfl, rfl⟩ <|
  And.intro ⟨by kernel_rfl, by kernel_rfl, by kernel_rfl, rfl⟩ <|
  And.intro ⟨by kernel_rfl, by kernel_rfl, by kernel_rfl, rfl⟩ <|
  And.intro ⟨by kernel_rfl, by kernel_rfl, by kernel_rfl, rfl⟩ <|
  And.intro ⟨by kernel_rfl, by kernel_rfl, by kernel_rfl, rfl⟩ <|
  And.intro ⟨by kernel_rfl, by kernel_rfl, by kernel_rfl, rfl⟩ <|
  And.intro ⟨by kernel_rfl, by kernel_rfl, by kernel_rfl, rfl⟩ <|
  And.intro ⟨by kernel_rfl, by kernel_rfl, by kernel_rfl, rfl⟩ <|
  And.intro ⟨by kernel_rfl, by kernel_rfl, by kernel_rfl, rfl⟩ <|
  And.intro ⟨by kernel_rfl, by kernel_rfl, by kernel_rfl, rfl⟩ <|
  And.intro ⟨by kernel_rfl, by kernel_rfl, by kernel_rfl, rfl⟩ <|
  And.intro ⟨by kernel_rfl, by kernel_rfl, by kernel_rfl, rfl⟩ <|
  And.intro ⟨by kernel_rfl, by kernel_rfl, by kernel_rfl, rfl⟩ <|
  And.intro ⟨by kernel_rfl, by kernel_rfl, by kernel_rfl, rfl⟩ <|
  And.intro ⟨by kernel_rfl, by kernel_rfl, by kernel_rfl, rfl⟩ <|
  And.intro ⟨by kernel_rfl, by kernel_rfl, by kernel_rfl, rfl⟩ <|
  And.intro ⟨by kernel_rfl, by kernel_rfl, by kernel_rfl, rfl⟩ <|
  And.intro ⟨by kernel_rfl, by kernel_rfl, by kernel_rfl, rfl⟩ <|
  And.intro ⟨by kernel_rfl, by kernel_rfl, by kernel_rfl, rfl⟩ <|
  And.intro ⟨by kernel_rfl, by kernel_rfl, by kernel_rfl, rfl⟩ <|
  And.intro ⟨by kernel_rfl, by kernel_rfl, by kernel_rfl, rfl⟩ <|
  And.intro ⟨by kernel_rfl, by kernel_rfl, by kernel_rfl, rfl⟩ <|
  And.intro ⟨by kernel_rfl, by kernel_rfl, by kernel_rfl, rfl⟩ <|
  And.intro ⟨by kernel_rfl, by kernel_rfl, by kernel_rfl, rfl⟩ <|
  And.intro ⟨by kernel_rfl, by kernel_rfl, by kernel_rfl, rfl⟩ <|
  And.intro ⟨by kernel_rfl, by kernel_rfl, by kernel_rfl, rfl⟩ <|
  trivial)
theorem mixed : Tryz.prog.follows .mixedOrders = true := by kernel_rfl
theorem pk : PK Tryz.prog tt := ⟨tok, mixed⟩
end Go.Proofs.YtddohheabpiljaaGreat

end
