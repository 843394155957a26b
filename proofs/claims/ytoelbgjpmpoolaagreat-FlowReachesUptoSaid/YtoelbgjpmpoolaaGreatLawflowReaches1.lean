/- Whatever a module, the words told to it, and the steps: each frame of the machine stands at a block that is reached, as flow.Reached tells; a module that may not be is refused. -/
import Derived.Test.YtoelbgjpmpoolaaGreatDvc3
import Derived.Test.YtoelbgjpmpoolaaGreatProg
import Derived.Sort.AssemblyPlain
import Derived.Shelf.Small.Bits
import Derived.Sort.Walk7
set_option linter.unusedVariables false
set_option linter.unusedSimpArgs false
set_option linter.unnecessarySimpa false
namespace Go.Proofs.YtoelbgjpmpoolaaGreat
open Go Dv
def table : List (Nat × Dv.TI) := [
  (1, ⟨1, 8, .other, [.nfn]⟩),
  (2, ⟨1, 8, .int .i64, [.int .i64 0]⟩),
  (3, ⟨1, 8, .int .i64, [.int .i64 0]⟩),
  (4, ⟨1, 1, .bool, [.bool false]⟩),
  (5, ⟨1, 1, .int .u8, [.int .u8 0]⟩),
  (6, ⟨1, 1, .int .u8, [.int .u8 0]⟩),
  (7, ⟨4, 24, .struct [(0, 2), (1, 3), (2, 4), (3, 6)], [.int .i64 0, .int .i64 0, .bool false, .int .u8 0]⟩),
  (8, ⟨4, 24, .struct [(0, 2), (1, 3), (2, 4), (3, 6)], [.int .i64 0, .int .i64 0, .bool false, .int .u8 0]⟩),
  (9, ⟨1, 16, .string, [.str ⟨#[]⟩]⟩),
  (10, ⟨1, 16, .string, [.str ⟨#[]⟩]⟩),
  (11, ⟨1, 16, .string, [.str ⟨#[]⟩]⟩),
  (12, ⟨1, 8, .int .u64, [.int .u64 0]⟩),
  (13, ⟨2, 24, .struct [(0, 9), (1, 12)], [.str ⟨#[]⟩, .int .u64 0]⟩),
  (14, ⟨2, 24, .struct [(0, 9), (1, 12)], [.str ⟨#[]⟩, .int .u64 0]⟩),
  (15, ⟨1, 8, .other, [.np]⟩),
  (16, ⟨1, 8, .other, [.np]⟩),
  (17, ⟨1, 8, .other, [.np]⟩),
  (18, ⟨1, 8, .struct [(0, 17)], [.np]⟩),
  (19, ⟨1, 8, .struct [(0, 17)], [.np]⟩),
  (20, ⟨1, 16, .other, [.nif]⟩),
  (21, ⟨1, 4, .int .i32, [.int .i32 0]⟩),
  (22, ⟨1, 24, .slice 38, [.nsl]⟩),
  (23, ⟨1, 24, .struct [(0, 22)], [.nsl]⟩),
  (24, ⟨1, 24, .struct [(0, 22)], [.nsl]⟩),
  (25, ⟨1, 24, .slice 50, [.nsl]⟩),
  (26, ⟨1, 8, .other, [.nfn]⟩),
  (27, ⟨1, 8, .other, [.nfn]⟩),
  (28, ⟨1, 8, .int .i64, [.int .i64 0]⟩),
  (30, ⟨1, 8, .other, [.nfn]⟩),
  (31, ⟨1, 8, .other, [.nfn]⟩),
  (32, ⟨1, 8, .other, [.nfn]⟩),
  (33, ⟨1, 8, .other, [.nfn]⟩),
  (34, ⟨1, 24, .slice 4, [.nsl]⟩),
  (35, ⟨1, 8, .other, [.nfn]⟩),
  (36, ⟨1, 24, .slice 46, [.nsl]⟩),
  (37, ⟨3, 40, .struct [(0, 3), (1, 3), (2, 36)], [.int .i64 0, .int .i64 0, .nsl]⟩),
  (38, ⟨3, 40, .struct [(0, 3), (1, 3), (2, 36)], [.int .i64 0, .int .i64 0, .nsl]⟩),
  (39, ⟨4, 40, .struct [(0, 3), (1, 25), (2, 4), (3, 4)], [.int .i64 0, .nsl, .bool false, .bool false]⟩),
  (40, ⟨4, 40, .struct [(0, 3), (1, 25), (2, 4), (3, 4)], [.int .i64 0, .nsl, .bool false, .bool false]⟩),
  (41, ⟨1, 24, .slice 70, [.nsl]⟩),
  (42, ⟨1, 24, .slice 3, [.nsl]⟩),
  (43, ⟨8, 80, .struct [(0, 3), (1, 3), (2, 3), (3, 3), (4, 42), (5, 3), (6, 3), (7, 3)], [.int .i64 0, .int .i64 0, .int .i64 0, .int .i64 0, .nsl, .int .i64 0, .int .i64 0, .int .i64 0]⟩),
  (44, ⟨8, 80, .struct [(0, 3), (1, 3), (2, 3), (3, 3), (4, 42), (5, 3), (6, 3), (7, 3)], [.int .i64 0, .int .i64 0, .int .i64 0, .int .i64 0, .nsl, .int .i64 0, .int .i64 0, .int .i64 0]⟩),
  (45, ⟨14, 152, .struct [(0, 4), (1, 40), (5, 41), (6, 44)], [.bool false, .int .i64 0, .nsl, .bool false, .bool false, .nsl, .int .i64 0, .int .i64 0, .int .i64 0, .int .i64 0, .nsl, .int .i64 0, .int .i64 0, .int .i64 0]⟩),
  (46, ⟨14, 152, .struct [(0, 4), (1, 40), (5, 41), (6, 44)], [.bool false, .int .i64 0, .nsl, .bool false, .bool false, .nsl, .int .i64 0, .int .i64 0, .int .i64 0, .int .i64 0, .nsl, .int .i64 0, .int .i64 0, .int .i64 0]⟩),
  (47, ⟨1, 8, .other, [.nfn]⟩),
  (48, ⟨1, 8, .other, [.nfn]⟩),
  (49, ⟨1, 24, .slice 62, [.nsl]⟩),
  (50, ⟨1, 2, .int .u16, [.int .u16 0]⟩),
  (51, ⟨16, 32, .array 16 50, [.int .u16 0, .int .u16 0, .int .u16 0, .int .u16 0, .int .u16 0, .int .u16 0, .int .u16 0, .int .u16 0, .int .u16 0, .int .u16 0, .int .u16 0, .int .u16 0, .int .u16 0, .int .u16 0, .int .u16 0, .int .u16 0]⟩),
  (52, ⟨21, 120, .struct [(0, 49), (1, 51), (17, 25), (18, 42), (19, 3), (20, 50)], [.nsl, .int .u16 0, .int .u16 0, .int .u16 0, .int .u16 0, .int .u16 0, .int .u16 0, .int .u16 0, .int .u16 0, .int .u16 0, .int .u16 0, .int .u16 0, .int .u16 0, .int .u16 0, .int .u16 0, .int .u16 0, .int .u16 0, .nsl, .nsl, .int .i64 0, .int .u16 0]⟩),
  (53, ⟨21, 120, .struct [(0, 49), (1, 51), (17, 25), (18, 42), (19, 3), (20, 50)], [.nsl, .int .u16 0, .int .u16 0, .int .u16 0, .int .u16 0, .int .u16 0, .int .u16 0, .int .u16 0, .int .u16 0, .int .u16 0, .int .u16 0, .int .u16 0, .int .u16 0, .int .u16 0, .int .u16 0, .int .u16 0, .int .u16 0, .nsl, .nsl, .int .i64 0, .int .u16 0]⟩),
  (54, ⟨1, 8, .other, [.nfn]⟩),
  (55, ⟨1, 8, .other, [.nfn]⟩),
  (56, ⟨1, 8, .other, [.nfn]⟩),
  (58, ⟨1, 8, .other, [.nfn]⟩),
  (59, ⟨1, 8, .other, [.nfn]⟩),
  (60, ⟨1, 8, .other, [.nfn]⟩),
  (61, ⟨5, 56, .struct [(0, 3), (1, 3), (2, 3), (3, 25), (4, 50)], [.int .i64 0, .int .i64 0, .int .i64 0, .nsl, .int .u16 0]⟩),
  (62, ⟨5, 56, .struct [(0, 3), (1, 3), (2, 3), (3, 25), (4, 50)], [.int .i64 0, .int .i64 0, .int .i64 0, .nsl, .int .u16 0]⟩),
  (63, ⟨1, 8, .other, [.nfn]⟩),
  (64, ⟨1, 8, .other, [.nfn]⟩),
  (65, ⟨1, 24, .slice 34, [.nsl]⟩),
  (66, ⟨1, 8, .other, [.nfn]⟩),
  (67, ⟨1, 8, .other, [.nfn]⟩),
  (68, ⟨1, 8, .other, [.nfn]⟩),
  (69, ⟨7, 72, .struct [(0, 3), (1, 3), (2, 3), (3, 3), (4, 50), (5, 3), (6, 42)], [.int .i64 0, .int .i64 0, .int .i64 0, .int .i64 0, .int .u16 0, .int .i64 0, .nsl]⟩),
  (70, ⟨7, 72, .struct [(0, 3), (1, 3), (2, 3), (3, 3), (4, 50), (5, 3), (6, 42)], [.int .i64 0, .int .i64 0, .int .i64 0, .int .i64 0, .int .u16 0, .int .i64 0, .nsl]⟩),
  (71, ⟨1, 8, .other, [.nfn]⟩),
  (72, ⟨1, 8, .other, [.nfn]⟩),
  (74, ⟨1, 8, .other, [.nfn]⟩),
  (75, ⟨1, 8, .other, [.nfn]⟩),
  (76, ⟨1, 8, .other, [.nfn]⟩),
  (77, ⟨1, 8, .other, [.nfn]⟩),
  (78, ⟨1, 8, .other, [.nfn]⟩),
  (79, ⟨1, 8, .other, [.nfn]⟩),
  (80, ⟨1, 8, .other, [.nfn]⟩),
  (81, ⟨1, 8, .other, [.nfn]⟩),
  (82, ⟨1, 8, .other, [.nfn]⟩),
  (83, ⟨1, 8, .other, [.nfn]⟩),
  (84, ⟨1, 8, .other, [.nfn]⟩),
  (85, ⟨1, 8, .other, [.np]⟩),
  (86, ⟨22, 144, .struct [(0, 53), (21, 24)], [.nsl, .int .u16 0, .int .u16 0, .int .u16 0, .int .u16 0, .int .u16 0, .int .u16 0, .int .u16 0, .int .u16 0, .int .u16 0, .int .u16 0, .int .u16 0, .int .u16 0, .int .u16 0, .int .u16 0, .int .u16 0, .int .u16 0, .nsl, .nsl, .int .i64 0, .int .u16 0, .nsl]⟩),
  (87, ⟨22, 144, .struct [(0, 53), (21, 24)], [.nsl, .int .u16 0, .int .u16 0, .int .u16 0, .int .u16 0, .int .u16 0, .int .u16 0, .int .u16 0, .int .u16 0, .int .u16 0, .int .u16 0, .int .u16 0, .int .u16 0, .int .u16 0, .int .u16 0, .int .u16 0, .int .u16 0, .nsl, .nsl, .int .i64 0, .int .u16 0, .nsl]⟩),
  (88, ⟨1, 8, .other, [.nfn]⟩),
  (89, ⟨1, 8, .other, [.nfn]⟩),
  (91, ⟨1, 8, .other, [.nfn]⟩),
  (92, ⟨1, 8, .other, [.nfn]⟩),
  (93, ⟨1, 8, .other, [.nfn]⟩),
  (94, ⟨1, 8, .other, [.nfn]⟩),
  (95, ⟨1, 8, .other, [.nfn]⟩),
  (96, ⟨1, 8, .other, [.nfn]⟩),
  (97, ⟨1, 8, .other, [.nfn]⟩),
  (98, ⟨5, 88, .struct [(0, 38), (3, 34), (4, 42)], [.int .i64 0, .int .i64 0, .nsl, .nsl, .nsl]⟩),
  (99, ⟨5, 88, .struct [(0, 38), (3, 34), (4, 42)], [.int .i64 0, .int .i64 0, .nsl, .nsl, .nsl]⟩),
  (100, ⟨1, 8, .other, [.np]⟩),
  (101, ⟨1, 8, .other, [.nfn]⟩),
  (102, ⟨5, 88, .struct [(0, 38), (3, 65), (4, 65)], [.int .i64 0, .int .i64 0, .nsl, .nsl, .nsl]⟩),
  (103, ⟨5, 88, .struct [(0, 38), (3, 65), (4, 65)], [.int .i64 0, .int .i64 0, .nsl, .nsl, .nsl]⟩),
  (104, ⟨1, 8, .other, [.np]⟩),
  (105, ⟨1, 8, .other, [.nfn]⟩),
  (106, ⟨1, 8, .other, [.nfn]⟩),
  (107, ⟨1, 8, .other, [.nfn]⟩),
  (108, ⟨1, 8, .other, [.nfn]⟩),
  (109, ⟨1, 8, .other, [.nfn]⟩),
  (110, ⟨1, 8, .other, [.nfn]⟩),
  (111, ⟨1, 8, .other, [.np]⟩),
  (112, ⟨1, 8, .other, [.nfn]⟩),
  (113, ⟨1, 8, .other, [.nfn]⟩),
  (114, ⟨1, 8, .other, [.nfn]⟩),
  (115, ⟨1, 8, .other, [.np]⟩),
  (116, ⟨1, 8, .other, [.nfn]⟩),
  (117, ⟨1, 8, .other, [.nfn]⟩),
  (118, ⟨1, 8, .other, [.nfn]⟩),
  (119, ⟨4, 64, .struct [(0, 24), (1, 38)], [.nsl, .int .i64 0, .int .i64 0, .nsl]⟩),
  (120, ⟨4, 64, .struct [(0, 24), (1, 38)], [.nsl, .int .i64 0, .int .i64 0, .nsl]⟩),
  (121, ⟨1, 8, .other, [.nfn]⟩),
  (122, ⟨1, 8, .other, [.nfn]⟩),
  (123, ⟨1, 8, .other, [.nfn]⟩),
  (124, ⟨1, 8, .other, [.nfn]⟩),
  (125, ⟨1, 8, .other, [.nfn]⟩),
  (126, ⟨1, 8, .other, [.nfn]⟩),
  (127, ⟨1, 8, .other, [.nfn]⟩),
  (128, ⟨1, 8, .other, [.nfn]⟩),
  (129, ⟨1, 8, .other, [.nfn]⟩),
  (130, ⟨1, 8, .other, [.nfn]⟩),
  (131, ⟨1, 8, .other, [.nfn]⟩),
  (133, ⟨1, 8, .other, [.nfn]⟩),
  (135, ⟨1, 8, .other, [.nfn]⟩),
  (136, ⟨1, 8, .other, [.nfn]⟩),
  (137, ⟨1, 8, .other, [.nfn]⟩),
  (138, ⟨1, 8, .other, [.nfn]⟩),
  (139, ⟨1, 8, .other, [.nfn]⟩),
  (140, ⟨1, 8, .other, [.nfn]⟩),
  (141, ⟨1, 8, .other, [.np]⟩),
  (142, ⟨1, 8, .other, [.nfn]⟩),
  (143, ⟨1, 8, .other, [.nfn]⟩),
  (144, ⟨1, 8, .other, [.nfn]⟩),
  (145, ⟨1, 8, .other, [.nfn]⟩),
  (146, ⟨1, 8, .other, [.nfn]⟩),
  (147, ⟨1, 8, .other, [.nfn]⟩),
  (149, ⟨1, 8, .other, [.nfn]⟩),
  (150, ⟨1, 8, .other, [.nfn]⟩),
  (151, ⟨1, 8, .other, [.nfn]⟩),
  (152, ⟨1, 8, .other, [.nfn]⟩),
  (153, ⟨1, 8, .map ⟨true, 3, .i64, .i64⟩ 157 3, [.any]⟩),
  (154, ⟨1, 8, .map ⟨true, 3, .i64, .i64⟩ 157 3, [.any]⟩),
  (155, ⟨1, 8, .other, [.np]⟩),
  (156, ⟨3, 24, .struct [(0, 3), (1, 3), (2, 3)], [.int .i64 0, .int .i64 0, .int .i64 0]⟩),
  (157, ⟨3, 24, .struct [(0, 3), (1, 3), (2, 3)], [.int .i64 0, .int .i64 0, .int .i64 0]⟩),
  (159, ⟨1, 8, .other, [.nfn]⟩),
  (161, ⟨1, 8, .other, [.nfn]⟩),
  (162, ⟨1, 8, .map ⟨false, 1, .i64, .u16⟩ 3 50, [.any]⟩),
  (163, ⟨1, 8, .map ⟨false, 1, .i64, .u16⟩ 3 50, [.any]⟩),
  (165, ⟨1, 8, .other, [.nfn]⟩),
  (166, ⟨1, 8, .other, [.nfn]⟩),
  (167, ⟨1, 8, .other, [.nfn]⟩),
  (168, ⟨1, 8, .other, [.nfn]⟩),
  (169, ⟨1, 8, .other, [.nfn]⟩),
  (170, ⟨1, 8, .other, [.nfn]⟩),
  (171, ⟨1, 8, .other, [.nfn]⟩),
  (172, ⟨1, 8, .other, [.np]⟩),
  (173, ⟨1, 8, .other, [.nfn]⟩),
  (174, ⟨1, 8, .other, [.nfn]⟩),
  (175, ⟨1, 8, .other, [.nfn]⟩),
  (176, ⟨1, 8, .other, [.nfn]⟩),
  (177, ⟨1, 8, .other, [.nfn]⟩),
  (178, ⟨1, 8, .other, [.nfn]⟩),
  (179, ⟨1, 8, .other, [.nfn]⟩),
  (180, ⟨1, 8, .other, [.nfn]⟩),
  (182, ⟨1, 8, .other, [.nfn]⟩),
  (183, ⟨1, 8, .other, [.nfn]⟩),
  (184, ⟨1, 8, .other, [.nfn]⟩),
  (185, ⟨1, 8, .other, [.nfn]⟩),
  (186, ⟨1, 8, .other, [.nfn]⟩),
  (187, ⟨1, 8, .other, [.np]⟩),
  (188, ⟨1, 8, .other, [.nfn]⟩),
  (189, ⟨1, 8, .other, [.nfn]⟩),
  (190, ⟨1, 8, .other, [.nfn]⟩),
  (191, ⟨1, 8, .other, [.nfn]⟩),
  (193, ⟨1, 8, .other, [.nfn]⟩),
  (194, ⟨1, 8, .other, [.nfn]⟩),
  (195, ⟨1, 8, .other, [.nfn]⟩),
  (196, ⟨1, 8, .other, [.nfn]⟩),
  (197, ⟨1, 8, .other, [.nfn]⟩),
  (198, ⟨1, 8, .other, [.nfn]⟩),
  (199, ⟨1, 8, .other, [.nfn]⟩),
  (200, ⟨1, 8, .other, [.nfn]⟩),
  (201, ⟨1, 8, .other, [.nfn]⟩),
  (202, ⟨1, 8, .other, [.nfn]⟩),
  (203, ⟨1, 8, .other, [.nfn]⟩),
  (204, ⟨1, 8, .other, [.nfn]⟩),
  (205, ⟨1, 8, .other, [.nfn]⟩),
  (206, ⟨1, 8, .other, [.nfn]⟩),
  (207, ⟨1, 8, .other, [.nfn]⟩),
  (208, ⟨1, 8, .other, [.nfn]⟩),
  (209, ⟨1, 8, .other, [.nfn]⟩),
  (210, ⟨1, 8, .other, [.nfn]⟩),
  (211, ⟨1, 8, .other, [.nfn]⟩),
  (212, ⟨1, 8, .other, [.nfn]⟩),
  (213, ⟨1, 8, .other, [.nfn]⟩),
  (214, ⟨1, 8, .other, [.nfn]⟩),
  (215, ⟨1, 8, .other, [.nfn]⟩),
  (216, ⟨1, 8, .other, [.nfn]⟩),
  (217, ⟨1, 8, .other, [.nfn]⟩),
  (218, ⟨1, 8, .other, [.nfn]⟩),
  (219, ⟨1, 8, .other, [.nfn]⟩),
  (220, ⟨1, 8, .other, [.nfn]⟩),
  (221, ⟨1, 8, .other, [.nfn]⟩),
  (222, ⟨1, 8, .int .u64, [.int .u64 0]⟩),
  (223, ⟨1, 8, .other, [.nfn]⟩),
  (224, ⟨1, 8, .other, [.nfn]⟩),
  (225, ⟨1, 8, .other, [.nfn]⟩),
  (226, ⟨1, 8, .int .u64, [.int .u64 0]⟩),
  (227, ⟨1, 8, .other, [.nfn]⟩),
  (228, ⟨1, 8, .other, [.nfn]⟩),
  (229, ⟨1, 8, .int .i64, [.int .i64 0]⟩),
  (231, ⟨1, 8, .other, [.nfn]⟩),
  (232, ⟨1, 8, .other, [.nfn]⟩),
  (233, ⟨1, 8, .other, [.nfn]⟩),
  (234, ⟨1, 8, .other, [.nfn]⟩),
  (235, ⟨1, 8, .other, [.nfn]⟩),
  (236, ⟨1, 4, .int .u32, [.int .u32 0]⟩),
  (237, ⟨1, 8, .other, [.nfn]⟩),
  (238, ⟨1, 8, .other, [.nfn]⟩),
  (239, ⟨1, 8, .other, [.nfn]⟩),
  (240, ⟨1, 8, .int .u64, [.int .u64 0]⟩),
  (241, ⟨1, 8, .other, [.nfn]⟩),
  (242, ⟨1, 8, .other, [.nfn]⟩),
  (243, ⟨1, 8, .other, [.nfn]⟩),
  (244, ⟨1, 8, .other, [.np]⟩),
  (245, ⟨1, 8, .other, [.nfn]⟩),
  (246, ⟨1, 8, .other, [.nfn]⟩),
  (247, ⟨1, 8, .other, [.nfn]⟩),
  (248, ⟨1, 8, .other, [.nfn]⟩),
  (249, ⟨1, 8, .other, [.nfn]⟩),
  (250, ⟨1, 8, .other, [.nfn]⟩),
  (251, ⟨1, 8, .other, [.nfn]⟩),
  (252, ⟨1, 8, .other, [.np]⟩),
  (254, ⟨1, 8, .other, [.nfn]⟩),
  (255, ⟨1, 8, .other, [.nfn]⟩),
  (256, ⟨1, 8, .other, [.nfn]⟩),
  (257, ⟨1, 8, .other, [.nfn]⟩),
  (258, ⟨1, 8, .other, [.nfn]⟩),
  (259, ⟨4, 40, .struct [(0, 17), (1, 17), (2, 17), (3, 9)], [.np, .np, .np, .str ⟨#[]⟩]⟩),
  (260, ⟨4, 40, .struct [(0, 17), (1, 17), (2, 17), (3, 9)], [.np, .np, .np, .str ⟨#[]⟩]⟩),
  (261, ⟨0, 0, .array 0 16, []⟩),
  (262, ⟨0, 0, .struct [(0, 261)], []⟩),
  (263, ⟨0, 0, .struct [(0, 261)], []⟩),
  (264, ⟨1, 8, .other, [.nfn]⟩),
  (265, ⟨1, 1, .int .u8, [.int .u8 0]⟩),
  (266, ⟨1, 1, .int .u8, [.int .u8 0]⟩),
  (267, ⟨1, 8, .other, [.nfn]⟩),
  (268, ⟨1, 8, .other, [.np]⟩),
  (269, ⟨1, 4, .int .i32, [.int .i32 0]⟩),
  (270, ⟨1, 4, .int .i32, [.int .i32 0]⟩),
  (271, ⟨11, 48, .struct [(0, 12), (1, 12), (2, 236), (3, 265), (4, 5), (5, 5), (6, 266), (7, 267), (8, 268), (9, 269), (10, 270)], [.int .u64 0, .int .u64 0, .int .u32 0, .int .u8 0, .int .u8 0, .int .u8 0, .int .u8 0, .nfn, .np, .int .i32 0, .int .i32 0]⟩),
  (272, ⟨11, 48, .struct [(0, 12), (1, 12), (2, 236), (3, 265), (4, 5), (5, 5), (6, 266), (7, 267), (8, 268), (9, 269), (10, 270)], [.int .u64 0, .int .u64 0, .int .u32 0, .int .u8 0, .int .u8 0, .int .u8 0, .int .u8 0, .nfn, .np, .int .i32 0, .int .i32 0]⟩)]
theorem tok : TOk Tryz.prog (findT table) := table_ok (by kernel_rfl)
abbrev T := findT table
end Go.Proofs.YtoelbgjpmpoolaaGreat
namespace Go.Proofs.YtoelbgjpmpoolaaGreat
open Go Dv
set_option maxRecDepth 10000
set_option linter.unusedSimpArgs false
theorem mix : Tryz.prog.follows .mixedOrders = true := by decide +kernel
structure Ins where
  (op dst a b k f : Int)
  args : List Int
deriving Inhabited
structure End where
  (kind a dst f : Int)
  args : List Int
  (to els pad : Int)
deriving Inhabited
structure Pad where
  dst : Int
  catch_ : List Int
  (all cleanup : Bool)
deriving Inhabited
structure Zdp where
  landing : Bool
  pad : Pad
  ins : List Ins
  fin : End
deriving Inhabited
structure Func where
  (params regs : Int)
  blocks : List Zdp
deriving Inhabited
abbrev iv (n : Int) : AV := .int .i64 n
def ints (l : List Int) : AV := .sl 1 l.length fun i => [iv (l.getD i 0)]
def u16s (l : List Int) : AV := .sl 1 l.length fun i => [.int .u16 (l.getD i 0)]
def Zbf (x : Ins) : List AV := [iv x.op, iv x.dst, iv x.a, iv x.b, .int .u16 x.k, iv x.f, ints x.args]
def inss (l : List Ins) : AV := .sl 7 l.length fun i => Zbf (l.getD i default)
def Zea (e : End) : List AV := [iv e.kind, iv e.a, iv e.dst, iv e.f, ints e.args, iv e.to, iv e.els, iv e.pad]
def Zbl (b : Zdp) : List AV := [.bool b.landing, iv b.pad.dst, u16s b.pad.catch_, .bool b.pad.all, .bool b.pad.cleanup, inss b.ins, iv b.fin.kind, iv b.fin.a, iv b.fin.dst, iv b.fin.f, ints b.fin.args, iv b.fin.to, iv b.fin.els, iv b.fin.pad]
def blockss (l : List Zdp) : AV := .sl 14 l.length fun i => Zbl (l.getD i default)
def Zcg (f : Func) : List AV := [iv f.params, iv f.regs, blockss f.blocks]
structure Zak where
  funcs : List Func
deriving Inhabited
def funcss (l : List Func) : AV := .sl 3 l.length fun i => Zcg (l.getD i default)
def Zbj (m : Zak) : List AV := [funcss m.funcs]
def encPad (p : Pad) : List AV := [iv p.dst, u16s p.catch_, .bool p.all, .bool p.cleanup]
deriving instance DecidableEq for Ins
deriving instance DecidableEq for End
deriving instance DecidableEq for Pad
deriving instance DecidableEq for Zdp
deriving instance DecidableEq for Func
deriving instance DecidableEq for Zak
def idxG {α : Type} (p : α → Bool) (l : List α) : Int := match l.findIdx? p with | some i => (i : Int) | none => -1
theorem idxG_at {α : Type} (d : α) {p : α → Bool} {l : List α} {i : Nat} (hi : i < l.length) (hc : ∀ j, j < i → p (l.getD j d) = false) (h : p (l.getD i d) = true) : idxG p l = (i : Int) := by
  have : l.findIdx? p = some i := by
    rw [List.findIdx?_eq_some_iff_getElem]
    refine ⟨hi, by rw [← Zca d hi]; exact h, fun j hj => ?_⟩
    have h2 := hc j hj; rw [Zca d (by omega)] at h2; rw [h2]; simp
  simp [idxG, this]
theorem idxG_none {α : Type} (d : α) {p : α → Bool} {l : List α} (hc : ∀ j, j < l.length → p (l.getD j d) = false) : idxG p l = -1 := by
  have : l.findIdx? p = none := by
    rw [List.findIdx?_eq_none_iff]
    intro x hx
    obtain ⟨j, hj, rfl⟩ := List.getElem_of_mem hx
    have := hc j hj
    rw [Zca d hj] at this; exact this
  simp [idxG, this]
theorem idxG_any {α : Type} (p : α → Bool) (l : List α) : decide (0 ≤ idxG p l) = l.any p := by
  unfold idxG
  cases h : l.findIdx? p with
  | none =>
    rw [List.findIdx?_eq_none_iff] at h
    have : l.any p = false := by
      rw [List.any_eq_false]; intro x hx; rw [h x hx]; simp
    rw [this]; rfl
  | some i =>
    rw [List.findIdx?_eq_some_iff_getElem] at h
    obtain ⟨hi, h1, _⟩ := h
    have : l.any p = true := List.any_eq_true.2 ⟨l[i], List.getElem_mem hi, h1⟩
    rw [this]; simp
theorem all_no {α : Type} (d : α) {p : α → Bool} {l : List α} {i : Nat} (hi : i < l.length) (h : p (l.getD i d) = false) : l.all p = false := by
  rw [List.all_eq_false]
  exact ⟨l[i], List.getElem_mem hi, by rw [← Zca d hi, h]; simp⟩
theorem all_yes {α : Type} (d : α) {p : α → Bool} {l : List α} (h : ∀ j, j < l.length → p (l.getD j d) = true) : l.all p = true := by
  rw [List.all_eq_true]
  intro x hx
  obtain ⟨j, hj, rfl⟩ := List.getElem_of_mem hx
  have := h j hj
  rw [Zca d hj] at this; exact this
def inn (n most : Int) : Bool := bif decide (0 ≤ n) then decide (n < most) else false
theorem Zad (n most : Int) : inn n most = true ↔ 0 ≤ n ∧ n < most := by unfold inn; cases h : decide (0 ≤ n) <;> simp at h ⊢ <;> omega
def goalB (f : Func) (n : Int) : Bool := bif inn n f.blocks.length then !(f.blocks.getD n.toNat default).landing else false
def argsB (m : Zak) (f : Func) (n : Int) (l : List Int) : Bool := bif bif inn n m.funcs.length then decide ((l.length : Int) = (m.funcs.getD n.toNat default).params) else false then l.all (fun k => inn k f.regs) else false
end Go.Proofs.YtoelbgjpmpoolaaGreat
namespace Go.Proofs.YtoelbgjpmpoolaaGreat
open Go Dv
set_option maxRecDepth 10000
set_option linter.unusedSimpArgs false
theorem appR_zero {f g : Nat → List AV} {i : Nat} : appR 0 f g i = g i := rfl
theorem c_CloneInts (l : List Int) : FO Tryz.prog 79 [ints l] 1 l.length (fun i => [iv (l.getD i 0)]) := by
  refine Zei tok Tryz.func79 rfl (by decide +kernel) (Nat.le_of_ble_eq_true rfl) ?_
  refine Zas 0 (fun hl => ?_)
  have hl0 : l.length ≤ maxL := hl.1
  ((repeat' first | refine Zac ?_ | (refine Zab tok (by rfl) ?_; conv => whnf) | (refine Zag ?_; conv => whnf) | (refine Zaj ?_; conv => whnf) | refine Zaf rfl (fun hb => ?_) (fun hb => ?_) | (refine @And.intro (Zaa _ _ _ _) _ ?_ ?_; rotate_left; (conv => whnf); rotate_right) | (refine fun (bn : Bool) (hbn : (0 < _ → bn = _)) => ?_; conv => whnf)); all_goals (try ((guard_target = Zaa _ _ _ _); refine Zae ?_; (first | refine And.intro srcObl_sl ?_ | skip); (all_goals (try simp only [Zaa, kzz, kz11, kz12, maxL, Zad] at *)); all_goals omega)))
  · refine ⟨_, rfl, RelO.nsl' ?_⟩
    rcases Nat.eq_zero_or_pos l.length with h | h
    · exact h
    · rw [hbn h] at hb; cases hb
  · refine ⟨_, rfl, RelO.rs rfl (Nat.le_refl _) (by simp) (fun i hi => ?_)⟩
    show appR 0 (Zfm 1 []) (fun i => [iv (l.getD i 0)]) i = _
    exact appR_zero
theorem Zfz (l : List Int) : FO Tryz.prog 68 [u16s l] 1 l.length (fun i => [.int .u16 (l.getD i 0)]) := by
  refine Zei tok Tryz.func68 rfl (by decide +kernel) (Nat.le_of_ble_eq_true rfl) ?_
  refine Zas 0 (fun hl => ?_)
  have hl0 : l.length ≤ maxL := hl.1
  ((repeat' first | refine Zac ?_ | (refine Zab tok (by rfl) ?_; conv => whnf) | (refine Zag ?_; conv => whnf) | (refine Zaj ?_; conv => whnf) | refine Zaf rfl (fun hb => ?_) (fun hb => ?_) | (refine @And.intro (Zaa _ _ _ _) _ ?_ ?_; rotate_left; (conv => whnf); rotate_right) | (refine fun (bn : Bool) (hbn : (0 < _ → bn = _)) => ?_; conv => whnf)); all_goals (try ((guard_target = Zaa _ _ _ _); refine Zae ?_; (first | refine And.intro srcObl_sl ?_ | skip); (all_goals (try simp only [Zaa, kzz, kz11, kz12, maxL, Zad] at *)); all_goals omega)))
  · refine ⟨_, rfl, RelO.nsl' ?_⟩
    rcases Nat.eq_zero_or_pos l.length with h | h
    · exact h
    · rw [hbn h] at hb; cases hb
  · refine ⟨_, rfl, RelO.rs rfl (Nat.le_refl _) (by simp) (fun i hi => ?_)⟩
    show appR 0 (Zfm 1 []) (fun i => [.int .u16 (l.getD i 0)]) i = _
    exact appR_zero
end Go.Proofs.YtoelbgjpmpoolaaGreat
namespace Go.Proofs.YtoelbgjpmpoolaaGreat
open Go Dv
set_option maxRecDepth 10000
set_option linter.unusedSimpArgs false
def InsP (m : Zak) (f : Func) (x : Ins) : Prop :=
  (x.op = 1 ∧ inn x.dst f.regs = true ∧ x.a = 0 ∧ x.b = 0 ∧ x.f = 0 ∧ x.args = []) ∨
  ((x.op = 2 ∨ x.op = 9) ∧ inn x.dst f.regs = true ∧ inn x.a f.regs = true ∧ x.b = 0 ∧ x.k = 0 ∧ x.f = 0 ∧ x.args = []) ∨
  ((3 ≤ x.op ∧ x.op ≤ 8) ∧ inn x.dst f.regs = true ∧ inn x.a f.regs = true ∧ inn x.b f.regs = true ∧ x.k = 0 ∧ x.f = 0 ∧ x.args = []) ∨
  (x.op = 10 ∧ x.dst = 0 ∧ inn x.a f.regs = true ∧ inn x.b f.regs = true ∧ x.k = 0 ∧ x.f = 0 ∧ x.args = []) ∨
  (x.op = 11 ∧ inn x.dst f.regs = true ∧ x.a = 0 ∧ x.b = 0 ∧ x.k = 0 ∧ argsB m f x.f x.args = true) ∨
  (x.op = 12 ∧ x.dst = 0 ∧ inn x.a f.regs = true ∧ x.b = 0 ∧ x.k = 0 ∧ x.f = 0 ∧ x.args = []) ∨
  (x.op = 13 ∧ inn x.dst f.regs = true ∧ x.a = 0 ∧ x.b = 0 ∧ x.k = 0 ∧ x.f = 0 ∧ x.args = [])
instance (m : Zak) (f : Func) (x : Ins) : Decidable (InsP m f x) := by unfold InsP; infer_instance
def EndP (m : Zak) (f : Func) (x : End) : Prop :=
  ((x.kind = 1 ∨ x.kind = 5) ∧ inn x.a f.regs = true ∧ x.dst = 0 ∧ x.f = 0 ∧ x.args = [] ∧ x.pad = 0 ∧ x.to = 0 ∧ x.els = 0) ∨
  (x.kind = 2 ∧ x.a = 0 ∧ x.dst = 0 ∧ x.f = 0 ∧ x.args = [] ∧ x.pad = 0 ∧ goalB f x.to = true ∧ x.els = 0) ∨
  (x.kind = 3 ∧ inn x.a f.regs = true ∧ x.dst = 0 ∧ x.f = 0 ∧ x.args = [] ∧ x.pad = 0 ∧ goalB f x.to = true ∧ goalB f x.els = true) ∨
  (x.kind = 4 ∧ x.a = 0 ∧ inn x.dst f.regs = true ∧ argsB m f x.f x.args = true ∧ goalB f x.to = true ∧ x.els = 0 ∧ inn x.pad f.blocks.length = true ∧ (f.blocks.getD x.pad.toNat default).landing = true) ∨
  (x.kind = 6 ∧ x.a = 0 ∧ x.dst = 0 ∧ x.f = 0 ∧ x.args = [] ∧ x.pad = 0 ∧ x.to = 0 ∧ x.els = 0)
instance (m : Zak) (f : Func) (x : End) : Decidable (EndP m f x) := by unfold EndP; infer_instance
end Go.Proofs.YtoelbgjpmpoolaaGreat
namespace Go.Proofs.YtoelbgjpmpoolaaGreat
open Go Dv
set_option maxRecDepth 10000
set_option linter.unusedSimpArgs false
def PadP (f : Func) (b : Zdp) : Prop :=
  (b.landing = false ∧ b.pad.dst = 0 ∧ b.pad.catch_ = [] ∧ b.pad.all = false ∧ b.pad.cleanup = false) ∨
  (b.landing = true ∧ b.pad.catch_.length ≤ 8 ∧ b.pad.catch_.Nodup ∧ inn b.pad.dst f.regs = true ∧ (b.pad.catch_ ≠ [] ∨ b.pad.all = true ∨ b.pad.cleanup = true))
instance (f : Func) (b : Zdp) : Decidable (PadP f b) := by unfold PadP; infer_instance
theorem nodup_getD {l : List Int} (h : ∀ i, i < l.length → ∀ k, k < i → l.getD k 0 ≠ l.getD i 0) : l.Nodup := by
  unfold List.Nodup
  rw [List.pairwise_iff_getElem]
  intro i j hi hj hij
  have := h j hj i hij
  rw [Zca _ hi, Zca _ hj] at this; exact this
theorem not_nodup {l : List Int} {i k : Nat} (hi : i < l.length) (hk : k < i) (h : l.getD k 0 = l.getD i 0) : ¬ l.Nodup := by
  unfold List.Nodup
  rw [List.pairwise_iff_getElem]
  intro h2
  have := h2 k i (by omega) hi hk
  rw [Zca _ (by omega), Zca _ hi] at h; exact this h
def blkB (m : Zak) (f : Func) (b : Zdp) : Bool := decide (b.ins.length ≤ 64 ∧ PadP f b ∧ EndP m f b.fin) && b.ins.all fun x => decide (InsP m f x)
def FunP (f : Func) : Prop := 0 ≤ f.params ∧ f.params ≤ 8 ∧ f.params ≤ f.regs ∧ f.regs ≤ 256 ∧ 1 ≤ f.blocks.length ∧ f.blocks.length ≤ 64 ∧ (f.blocks.getD 0 default).landing = false
instance (f : Func) : Decidable (FunP f) := by unfold FunP; infer_instance
def funcB (m : Zak) (f : Func) : Bool := decide (FunP f) && f.blocks.all (blkB m f)
def Zbg (m : Zak) : Bool := decide (1 ≤ m.funcs.length ∧ m.funcs.length ≤ 16 ∧ (m.funcs.getD 0 default).params = 0) && m.funcs.all (funcB m)
end Go.Proofs.YtoelbgjpmpoolaaGreat
namespace Go.Proofs.YtoelbgjpmpoolaaGreat
open Go Dv
set_option maxRecDepth 10000
set_option linter.unusedSimpArgs false
def blkS (b : Zdp) : Bool := decide (b.ins.length ≤ 70 ∧ b.pad.catch_.length ≤ 20 ∧ b.fin.args.length ≤ 20) && b.ins.all fun x => decide (x.args.length ≤ 20)
def funS (f : Func) : Bool := decide (f.blocks.length ≤ 70) && f.blocks.all blkS
def many (f : Func) : Nat := (f.blocks.map fun b => b.ins.length).sum
def manyTo (f : Func) (k : Nat) : Nat := ((f.blocks.take k).map fun b => b.ins.length).sum
def totTo (m : Zak) (i : Nat) : Nat := ((m.funcs.take i).map many).sum
def shortB (m : Zak) : Bool := decide (m.funcs.length ≤ 20) && m.funcs.all funS && decide ((m.funcs.map many).sum ≤ 2000)
theorem manyTo_succ {f : Func} {k : Nat} (h : k < f.blocks.length) : manyTo f (k + 1) = manyTo f k + (f.blocks.getD k default).ins.length := by
  unfold manyTo; rw [take_succ_getD default h]; simp
theorem totTo_succ {m : Zak} {i : Nat} (h : i < m.funcs.length) : totTo m (i + 1) = totTo m i + many (m.funcs.getD i default) := by
  unfold totTo; rw [take_succ_getD default h]; simp
theorem manyTo_all (f : Func) : manyTo f f.blocks.length = many f := by unfold manyTo many; rw [List.take_length]
theorem c_Short (m : Zak) : FC Tryz.prog 48 [.agg (Zbj m)] (.bool (shortB m)) := by
  refine Zav tok Tryz.func48 rfl (by decide +kernel) (Nat.le_of_ble_eq_true rfl) ?_
  refine Zas 0 (fun hl => ?_)
  have hl0 : m.funcs.length ≤ maxL := hl.1.1
  (repeat' first | refine Zac ?_ | (refine Zab tok (by rfl) ?_; conv => whnf) | refine Zai ?_ | (refine Zag ?_; conv => whnf) | (refine Zaj ?_; conv => whnf) | refine Zaf rfl (fun hb => ?_) (fun hb => ?_))
  · refine ⟨_, rfl, Rel.bool ?_⟩
    unfold shortB
    rw [decide_eq_false (by simp only [Zaa, kzz, kz11, kz12, maxL, Zad] at *; omega)]; simp
  have h20 : m.funcs.length ≤ 20 := by simp only [Zaa, kzz, kz11, kz12, maxL, Zad] at *; omega
  clear hb
  refine Zay (fun i : Nat => mkS [(1, .bp (1, 0, 0) 0), (2, .bool false), (3, iv (totTo m i)), (4, iv i)] [((1, 0, 0), Zba (Zbj m))])
    (fun i => i ≤ m.funcs.length ∧ totTo m i ≤ i * 4900 ∧ ∀ j, j < i → funS (m.funcs.getD j default) = true) (fun i => m.funcs.length - i) 0 ⟨Nat.zero_le _, by simp [totTo], by simp⟩ ?_ ?_
  · refine Weak.list [((1, 0, 0), .old (1, 0, 0), Zba (Zbj m))] rfl (by rfl) ?_ (.old rfl (BLe.refl _) .nil)
    ((repeat' first | exact TLes.nil | refine TLes.cons (TLe.eq rfl) ?_); skip)
  rintro i ⟨hi, hn, hc⟩
  ((repeat' first | refine Zac ?_ | (refine Zab tok (by rfl) ?_; conv => whnf) | refine Zai ?_ | (refine Zag ?_; conv => whnf) | (refine Za1 ?_; conv => whnf) | (refine Zaj ?_; conv => whnf) | refine Zaf rfl (fun hb => ?_) (fun hb => ?_) | (refine @And.intro (Zaa _ _ _ _) _ ?_ ?_; rotate_left; (conv => whnf); rotate_right)); all_goals (try ((guard_target = Zaa _ _ _ _); refine Zae ?_; (all_goals (try simp only [Zaa, kzz, kz11, kz12, maxL, Zad] at *)); all_goals omega)))
  · have hlt : i < m.funcs.length := by simp only [Zaa, kzz, kz11, kz12, maxL, Zad] at *; omega
    refine ⟨_, rfl, Rel.bool ?_⟩
    unfold shortB
    rw [all_no default hlt (p := funS)]
    · simp
    · unfold funS; rw [decide_eq_false]; rfl
      simp at hb; simp; omega
  · have hlt : i < m.funcs.length := by simp only [Zaa, kzz, kz11, kz12, maxL, Zad] at *; omega
    have hget : m.funcs.getD (i : Int).toNat default = m.funcs.getD i default := by simp
    rw [hget] at hb
    generalize hf : m.funcs.getD i default = f at hget hb
    have hf70 : f.blocks.length ≤ 70 := by simp only [Zaa, kzz, kz11, kz12, maxL, Zad] at *; omega
    clear hb
    refine Zay (fun k : Nat => mkS [(1, .bp (1, 0, 0) 0), (2, .bool false), (3, iv ((totTo m i + manyTo f k : Nat) : Int)), (4, iv i), (5, iv k)] [((1, 0, 0), Zba (Zbj m))])
      (fun k => k ≤ f.blocks.length ∧ manyTo f k ≤ k * 70 ∧ ∀ j, j < k → blkS (f.blocks.getD j default) = true) (fun k => f.blocks.length - k) 0 ⟨Nat.zero_le _, by simp [manyTo], by simp⟩ ?_ ?_
    · refine Weak.list [((1, 0, 0), .old (1, 0, 0), Zba (Zbj m))] rfl (by rfl) ?_ (.old rfl (BLe.refl _) .nil)
      ((repeat' first | exact TLes.nil | refine TLes.cons (TLe.eq rfl) ?_); skip)
      all_goals simp [manyTo]
    rintro k ⟨hk, hs, hd⟩
    ((repeat' ((fail_if_success (show AWp _ _ _ (Code.region 13 _ _) _ _)); first | refine Zac ?_ | (refine Zab tok (by rfl) ?_; conv => whnf) | refine Zai ?_ | (refine Zag ?_; conv => whnf) | (refine Za1 ?_; conv => whnf) | refine Zaf rfl (fun hb => ?_) (fun hb => ?_) | (refine @And.intro (Zaa _ _ _ _) _ ?_ ?_; rotate_left; (conv => whnf); rotate_right))); all_goals (try ((guard_target = Zaa _ _ _ _); refine Zae ?_; (all_goals (try simp only [Zaa, kzz, kz11, kz12, maxL, Zad] at *)); all_goals omega)))
    · rw [hget] at hb
      have hkl : k < f.blocks.length := by simp only [Zaa, kzz, kz11, kz12, maxL, Zad] at *; omega
      have hgb : f.blocks.getD (k : Int).toNat default = f.blocks.getD k default := by simp
      generalize hbk : f.blocks.getD k default = b at hgb
      refine Za0 (Weak.list (tl := [(1, .bp (1, 0, 0) 0), (2, .bool false), (3, iv ((totTo m i + manyTo f k : Nat) : Int)), (4, iv i), (5, iv k), (6, .bp (6, 0, 0) 0)]) [((1, 0, 0), .old (1, 0, 0), Zba (Zbj m)), ((6, 0, 0), .old (6, 0, 0), .row true 14 1 (fun _ => Zbl b))] rfl (by rfl) ?_ (.old rfl (BLe.refl _) (.old rfl (BLe.rowW (Nat.le_refl _) (fun z hz => ?_)) .nil))) ?_
      · ((repeat' first | exact TLes.nil | refine TLes.cons (TLe.eq rfl) ?_); skip)
      · match z, hz with
        | 0, _ => rw [← hgb, ← hget]; exact Wks.of rfl
      have bad : blkS b = false → shortB m = false := fun h => by
        unfold shortB
        rw [all_no default hlt (p := funS)]
        · simp
        · rw [hf]; unfold funS; rw [all_no default hkl (p := blkS) (by rw [hbk]; exact h)]; simp
      clear hb
      (repeat' first | refine Zac ?_ | (refine Zab tok (by rfl) ?_; conv => whnf) | refine Zai ?_ | (refine Zag ?_; conv => whnf) | (refine Zaj ?_; conv => whnf) | refine Zaf rfl (fun hb => ?_) (fun hb => ?_))
      · refine ⟨_, rfl, Rel.bool (bad ?_).symm⟩
        unfold blkS; rw [decide_eq_false]; rfl
        simp at hb; omega
      have hB : b.ins.length ≤ 70 ∧ b.pad.catch_.length ≤ 20 ∧ b.fin.args.length ≤ 20 := by simp at hb; omega
      clear hb
      have hsucc := manyTo_succ hkl
      rw [hbk] at hsucc
      have hi20 : i ≤ 20 := by omega
      have hk70 : k ≤ 70 := by omega
      have hbig : totTo m i + manyTo f k + b.ins.length ≤ 200000 := by omega
      refine Zay (fun j : Nat => mkS [(1, .bp (1, 0, 0) 0), (2, .bool false), (3, iv ((totTo m i + manyTo f (k + 1) : Nat) : Int)), (4, iv i), (5, iv k), (6, .bp (6, 0, 0) 0), (7, iv j)] [((1, 0, 0), Zba (Zbj m)), ((6, 0, 0), .row true 14 1 (fun _ => Zbl b))])
        (fun j => j ≤ b.ins.length ∧ ∀ q, q < j → decide ((b.ins.getD q default).args.length ≤ 20) = true) (fun j => b.ins.length - j) 0 ⟨Nat.zero_le _, by simp⟩ ?_ ?_
      · refine Weak.list [((1, 0, 0), .old (1, 0, 0), Zba (Zbj m)), ((6, 0, 0), .old (6, 0, 0), .row true 14 1 (fun _ => Zbl b))] rfl (by rfl) ?_ (.old rfl (BLe.refl _) (.old rfl (BLe.refl _) .nil))
        ((repeat' first | exact TLes.nil | refine TLes.cons (TLe.eq rfl) ?_ | refine TLes.cons (TLe.int ?_) ?_); (all_goals first | ((try (simp only [Zaa, kzz, kz11, kz12, maxL, Zad] at *)); (simp (disch := omega) only [Zal]; omega)) | skip))
      rintro j ⟨hj, he⟩
      ((repeat' first | refine Zac ?_ | (refine Zab tok (by rfl) ?_; conv => whnf) | refine Zai ?_ | (refine Zag ?_; conv => whnf) | (refine Za1 ?_; conv => whnf) | (refine Zaj ?_; conv => whnf) | refine Zaf rfl (fun hb => ?_) (fun hb => ?_) | (refine @And.intro (Zaa _ _ _ _) _ ?_ ?_; rotate_left; (conv => whnf); rotate_right)); all_goals (try ((guard_target = Zaa _ _ _ _); refine Zae ?_; (all_goals (try simp only [Zaa, kzz, kz11, kz12, maxL, Zad] at *)); all_goals omega)))
      · have hjl : j < b.ins.length := by simp only [Zaa, kzz, kz11, kz12, maxL, Zad] at *; omega
        refine ⟨_, rfl, Rel.bool (bad ?_).symm⟩
        unfold blkS; rw [all_no default hjl (p := fun (x : Ins) => decide (x.args.length ≤ 20)) (by simp at hb ⊢; omega)]; simp
      · have hjl : j < b.ins.length := by simp only [Zaa, kzz, kz11, kz12, maxL, Zad] at *; omega
        refine ⟨j + 1, ⟨hjl, fun q hq => ?_⟩, by omega, ?_⟩
        · by_cases e : q = j
          · subst e; simp at hb ⊢; omega
          · exact he q (by omega)
        refine Weak.list [((1, 0, 0), .old (1, 0, 0), Zba (Zbj m)), ((6, 0, 0), .old (6, 0, 0), .row true 14 1 (fun _ => Zbl b))] rfl (by rfl) ?_ (.old rfl (BLe.refl _) (.old rfl (BLe.refl _) .nil))
        ((repeat' first | exact TLes.nil | refine TLes.cons (TLe.eq rfl) ?_ | refine TLes.cons (TLe.int ?_) ?_); (all_goals first | ((try (simp only [Zaa, kzz, kz11, kz12, maxL, Zad] at *)); exact Zal (by omega) (by omega)) | skip))
      · have hjl : j = b.ins.length := by simp only [Zaa, kzz, kz11, kz12, maxL, Zad] at *; omega
        refine ⟨k + 1, ⟨hkl, by omega, fun q hq => ?_⟩, by omega, ?_⟩
        · by_cases e : q = k
          · subst e; rw [hbk]; unfold blkS
            rw [decide_eq_true hB, all_yes default (p := fun (x : Ins) => decide (x.args.length ≤ 20)) (fun q hq => he q (by omega))]; rfl
          · exact hd q (by omega)
        refine Weak.list [((1, 0, 0), .old (1, 0, 0), Zba (Zbj m))] rfl (by rfl) ?_ (.old rfl (BLe.refl _) .nil)
        ((repeat' first | exact TLes.nil | refine TLes.cons (TLe.eq rfl) ?_ | refine TLes.cons (TLe.int ?_) ?_); (all_goals first | ((try (simp only [Zaa, kzz, kz11, kz12, maxL, Zad] at *)); exact Zal (by omega) (by omega)) | skip))
    · rw [hget] at hb
      have hkl : k = f.blocks.length := by simp only [Zaa, kzz, kz11, kz12, maxL, Zad] at *; omega
      subst hkl
      have hsucc := totTo_succ hlt
      rw [hf] at hsucc
      rw [manyTo_all] at hs
      refine ⟨i + 1, ⟨hlt, by omega, fun q hq => ?_⟩, by omega, ?_⟩
      · by_cases e : q = i
        · subst e; rw [hf]; unfold funS
          rw [decide_eq_true hf70, all_yes default (fun q hq => hd q hq)]; rfl
        · exact hc q (by omega)
      refine Weak.list [((1, 0, 0), .old (1, 0, 0), Zba (Zbj m))] rfl (by rfl) ?_ (.old rfl (BLe.refl _) .nil)
      ((repeat' first | exact TLes.nil | refine TLes.cons (TLe.eq rfl) ?_ | refine TLes.cons (TLe.int ?_) ?_); (all_goals first | ((try (simp only [Zaa, kzz, kz11, kz12, maxL, Zad] at *)); exact Zal (by omega) (by omega)) | skip))
      rw [manyTo_all, hsucc]
  · refine ⟨_, rfl, Rel.bool ?_⟩
    have hil : i = m.funcs.length := by simp only [Zaa, kzz, kz11, kz12, maxL, Zad] at *; omega
    unfold shortB
    rw [decide_eq_true h20, all_yes default (fun j hj => hc j (by omega))]
    rw [hil]; unfold totTo; rw [List.take_length]
    rw [Bool.eq_iff_iff]; simp
    omega
end Go.Proofs.YtoelbgjpmpoolaaGreat
namespace Go.Proofs.YtoelbgjpmpoolaaGreat
open Go Dv Go.Sort
set_option maxRecDepth 10000
set_option linter.unusedSimpArgs false
abbrev i0 : Dv.Id := (0, 7, 0)
abbrev i1 : Dv.Id := (1, 7, 0)
abbrev arow (n : Nat) (d : Array Int) : Zam := .row true 1 n (fun x => [.int .u16 d[x]!])
theorem c_isNaN (x : Int) : FC Tryz.prog 242 [.int .u16 x] (.bool false) := by
  refine Zav tok Tryz.func242 rfl (by decide +kernel) (Nat.le_of_ble_eq_true rfl) ?_
  (repeat' first | refine Zac ?_ | (refine Zab tok (by rfl) ?_; conv => whnf) | (refine Zaj ?_; conv => whnf))
  exact ⟨_, rfl, Rel.bool (by simp)⟩
theorem c_Less (x y : Int) : FC Tryz.prog 235 [.int .u16 x, .int .u16 y] (.bool (ltInt x y)) := by
  refine Zav tok Tryz.func235 rfl (by decide +kernel) (Nat.le_of_ble_eq_true rfl) ?_
  (repeat' first | refine Zac ?_ | (refine Zab tok (by rfl) ?_; conv => whnf))
  refine .inl ⟨_, _, _, uG (QC.fc (c_isNaN x) rfl), ?_⟩
  conv => whnf
  skip
  refine .inl ⟨_, _, _, uG (QC.fc (c_isNaN y) rfl), ?_⟩
  conv => whnf
  (repeat' (refine Zaj ?_; conv => whnf))
  exact ⟨_, rfl, Rel.bool (by simp [ltInt])⟩
theorem bang_set (d : Array Int) (i : Nat) (v : Int) (x : Nat) (hi : i < d.size) : (d.setIfInBounds i v)[x]! = if i = x then v else d[x]! := by
  by_cases h : i = x
  · subst h; rw [if_pos rfl, getElem!_pos (d.setIfInBounds i v) i (by simpa using hi)]; simp
  · rw [if_neg h]
    by_cases hx : x < d.size
    · rw [getElem!_pos (d.setIfInBounds i v) x (by simpa using hx), getElem!_pos d x hx]
      rw [Array.getElem_setIfInBounds (by simpa using hx)]; simp [h]
    · rw [getElem!_neg (d.setIfInBounds i v) x (by simpa using hx), getElem!_neg d x hx]
theorem Zby (d : Array Int) (i j : Nat) : (swp d i j).size = d.size := by simp [swp]
theorem Zdb {d : Array Int} {i j i' j' : Nat} {u v : Int} (hi : i < d.size) (hj : j < d.size) (ei : i' = i) (ej : j' = j) (eu : u = d[j]!) (ev : v = d[i]!) (x : Nat) :
    updR (updR (fun x => [AV.int .u16 d[x]!]) i' [.int .u16 u]) j' [.int .u16 v] x = [.int .u16 (swp d i j)[x]!] := by
  subst ei; subst ej; subst eu; subst ev
  unfold swp
  rw [bang_set _ _ _ _ (by simpa using hj), bang_set _ _ _ _ hi]
  unfold updR
  cases h1 : Nat.beq j' x with
  | true => have := Nat.eq_of_beq_eq_true h1; rw [if_pos this]; rfl
  | false =>
    have n1 : j' ≠ x := fun e => by subst e; simp at h1
    rw [if_neg n1]
    cases h2 : Nat.beq i' x with
    | true => have := Nat.eq_of_beq_eq_true h2; rw [if_pos this]; rfl
    | false =>
      have n2 : i' ≠ x := fun e => by subst e; simp at h2
      rw [if_neg n2]; rfl
theorem c_insertion (n : Nat) (d0 : Array Int) (a b : Nat) (hn : d0.size = n) (ha : a ≤ b) (hb0 : b ≤ n) :
    HC Tryz.prog [i0] 229 [(i0, arow n d0)] [.rs i0 1 0 n, iv a, iv b] (.tup []) [(i0, arow n (insertionSort ltInt d0 a b))] := by
  refine Zbr tok Tryz.func229 rfl (by decide +kernel) (Nat.le_of_ble_eq_true rfl) ?_
  refine Zas 0 (fun hl => ?_)
  have hl0 : n ≤ 4294967296 := hl
  (repeat' first | refine Zac ?_ | (refine Zab tok (by rfl) ?_; conv => whnf) | refine Zai ?_)
  refine Zay (fun q : Nat × Array Int => mkS [(0, .rs i0 1 0 n), (1, iv a), (2, iv b), (6, iv q.1)] [(i0, arow n q.2)])
    (fun q => a + 1 ≤ q.1 ∧ q.1 ≤ b + 1 ∧ q.2.size = n ∧ insOuter ltInt a b q.1 q.2 = insertionSort ltInt d0 a b) (fun q => b + 1 - q.1) (a + 1, d0) ⟨Nat.le_refl _, by omega, hn, rfl⟩ ?_ ?_
  · refine Weak.list [(i0, .old i0, arow n d0)] rfl (by rfl) ?_ (.old rfl (BLe.refl _) .nil)
    ((repeat' first | exact TLes.nil | refine TLes.cons (TLe.eq rfl) ?_ | refine TLes.cons (TLe.int ?_) ?_); (all_goals first | ((try (simp only [Zaa, kzz, kz11, kz12, maxL, Zad] at *)); exact Zal (by omega) (by omega)) | skip))
  rintro ⟨i, d⟩ ⟨hi1, hi2, hd, hR⟩
  simp only at hi1 hi2 hd hR ⊢
  (repeat' first | refine Zac ?_ | (refine Zab tok (by rfl) ?_; conv => whnf) | refine Zai ?_ | (refine Zag ?_; conv => whnf) | (refine Za1 ?_; conv => whnf) | refine Zaf rfl (fun hb => ?_) (fun hb => ?_))
  · have hib : i < b := by simp only [Zaa, kzz, kz11, kz12, maxL, Zad] at *; omega
    refine Zay (fun q : Nat × Array Int => mkS [(0, .rs i0 1 0 n), (1, iv a), (2, iv b), (6, iv i), (7, iv q.1)] [(i0, arow n q.2)])
      (fun q => q.1 ≤ i ∧ a ≤ q.1 ∧ q.2.size = n ∧ insInner ltInt a q.1 q.2 = insInner ltInt a i d) (fun q => q.1) (i, d) ⟨Nat.le_refl _, by omega, hd, rfl⟩ ?_ ?_
    · refine Weak.list [(i0, .old i0, arow n d)] rfl (by rfl) ?_ (.old rfl (BLe.refl _) .nil)
      ((repeat' first | exact TLes.nil | refine TLes.cons (TLe.eq rfl) ?_); skip)
    rintro ⟨j, e⟩ ⟨hj1, hj2, he, hS⟩
    simp only at hj1 hj2 he hS ⊢
    ((repeat' first | refine Zac ?_ | (refine Zap tok mix (by rfl) ?_; conv => whnf) | (refine @And.intro (Zaa _ _ _ _) _ ?_ ?_; rotate_left; (conv => whnf); rotate_right)); all_goals (try ((guard_target = Zaa _ _ _ _); ((refine Zbe ?_; intro hgd; (conv at hgd => whnf))); (all_goals (try simp only [Zaa, kzz, kz11, kz12, maxL, Zad] at *)); (all_goals (try (simp (disch := omega) only [Zal]))); all_goals omega)))
    have hless : ∀ x y, x = e[j]! → y = e[j - 1]! → FC Tryz.prog 235 [.int .u16 x, .int .u16 y] (.bool (ltInt e[j]! e[j - 1]!)) := fun x y h1 h2 => by rw [h1, h2]; exact c_Less _ _
    have hix : ∀ k : Nat, e[0 + (k : Int).toNat]! = e[k]! := fun k => by rw [show 0 + (k : Int).toNat = k by simp]
    have hix1 : e[0 + (IntKind.i64.wrap ((j : Int) - 1)).toNat]! = e[j - 1]! := by rw [Zal (by omega) (by omega), show 0 + ((j : Int) - 1).toNat = j - 1 by omega]
    refine .inl ⟨_, _, _, uG (QC.fc (hless _ _ (hix j) hix1) rfl), ?_⟩
    conv => whnf
    ((repeat' first | refine Zac ?_ | (refine Zab tok (by rfl) ?_; conv => whnf) | (refine Zap tok mix (by rfl) ?_; conv => whnf) | refine Zai ?_ | (refine Zag ?_; conv => whnf) | (refine Za1 ?_; conv => whnf) | refine Zaf rfl (fun hb => ?_) (fun hb => ?_) | (refine @And.intro (Zaa _ _ _ _) _ ?_ ?_; rotate_left; (conv => whnf); rotate_right)); all_goals (try ((guard_target = Zaa _ _ _ _); refine Zae ?_; (all_goals (try simp only [Zaa, kzz, kz11, kz12, maxL, Zad] at *)); (all_goals (try (simp (disch := omega) only [Zal]))); all_goals omega)))
    · have hc : a < j ∧ ltInt e[j]! e[j - 1]! = true := by
        by_cases h1 : a < j
        · refine ⟨h1, ?_⟩
          rw [decide_eq_true (by omega)] at hb; exact hb
        · rw [decide_eq_false (by omega)] at hb; cases hb
      refine ⟨(j - 1, swp e j (j - 1)), ⟨by omega, by omega, by rw [Zby]; exact he, ?_⟩, by omega, ?_⟩
      · rw [← hS]
        obtain ⟨j, rfl⟩ : ∃ k, j = k + 1 := ⟨j - 1, by omega⟩
        simp only [insInner]
        have h2 := hc.2
        simp only [Nat.add_sub_cancel] at h2 ⊢
        rw [if_pos]
        simp [h2]; omega
      refine Weak.list [(i0, .old i0, arow n (swp e j (j - 1)))] rfl (by rfl) ?_ (.old rfl (BLe.row rfl (fun x hx => ?_)) .nil)
      · ((repeat' first | exact TLes.nil | refine TLes.cons (TLe.eq rfl) ?_ | refine TLes.cons (TLe.int ?_) ?_); (all_goals first | ((try (simp only [Zaa, kzz, kz11, kz12, maxL, Zad] at *)); (simp (disch := omega) only [Zal]; omega)) | skip))
      · exact Zdb (d := e) (i := j) (j := j - 1) (by omega) (by omega) (by simp) (by rw [Zal (by omega) (by omega)]; omega) hix1 (hix j) x
    · have hin : insInner ltInt a j e = e := by
        cases j with
        | zero => rfl
        | succ j =>
          simp only [insInner]
          rw [if_neg]
          intro h
          simp only [Bool.and_eq_true, decide_eq_true_eq] at h
          simp only [Nat.add_sub_cancel] at hb
          rw [h.2, decide_eq_true (by omega)] at hb
          cases hb
      refine ⟨(i + 1, e), ⟨by omega, by omega, he, ?_⟩, by omega, ?_⟩
      · rw [← hR]
        conv => rhs; unfold insOuter
        rw [if_pos hib, ← hS, hin]
      refine Weak.list [(i0, .old i0, arow n e)] rfl (by rfl) ?_ (.old rfl (BLe.refl _) .nil)
      ((repeat' first | exact TLes.nil | refine TLes.cons (TLe.eq rfl) ?_ | refine TLes.cons (TLe.int ?_) ?_); (all_goals first | ((try (simp only [Zaa, kzz, kz11, kz12, maxL, Zad] at *)); exact Zal (by omega) (by omega)) | skip))
  · have hib : b ≤ i := by simp only [Zaa, kzz, kz11, kz12, maxL, Zad] at *; omega
    have : insertionSort ltInt d0 a b = d := by rw [← hR]; unfold insOuter; rw [if_neg (by omega)]
    rw [this]
    exact ⟨_, [(i0, .old i0, arow n d)], rfl, rfl, rfl, rfl, .old rfl (BLe.refl _) .nil, .eq rfl⟩
end Go.Proofs.YtoelbgjpmpoolaaGreat
namespace Go.Proofs.YtoelbgjpmpoolaaGreat
open Go Dv Go.Sort
set_option maxRecDepth 10000
set_option linter.unusedSimpArgs false
theorem Zdv {d : Array Int} {i j : Nat} : ∀ x y, x = d[i]! → y = d[j]! → FC Tryz.prog 235 [.int .u16 x, .int .u16 y] (.bool (ltInt d[i]! d[j]!)) := fun x y h1 h2 => by rw [h1, h2]; exact c_Less _ _
theorem Za5 {d : Array Int} {e : Nat} {i : Nat} (h : e = i) : d[e]! = d[i]! := by rw [h]
theorem c_reverse (n : Nat) (d0 : Array Int) (a b : Nat) (hn : d0.size = n) (ha : a < b) (hb0 : b ≤ n) :
    HC Tryz.prog [i0] 233 [(i0, arow n d0)] [.rs i0 1 0 n, iv a, iv b] (.tup []) [(i0, arow n (reverseRange d0 a b))] := by
  refine Zbr tok Tryz.func233 rfl (by decide +kernel) (Nat.le_of_ble_eq_true rfl) ?_
  refine Zas 0 (fun hl => ?_)
  have hl0 : n ≤ 4294967296 := hl
  (repeat' first | refine Zac ?_ | (refine Zab tok (by rfl) ?_; conv => whnf) | refine Zai ?_)
  refine Zay (fun q : (Nat × Nat) × Array Int => mkS [(0, .rs i0 1 0 n), (6, iv q.1.1), (7, iv q.1.2)] [(i0, arow n q.2)])
    (fun q => q.1.1 ≤ n ∧ q.1.2 < n ∧ q.2.size = n ∧ reverseLoop q.1.1 q.1.2 q.2 = reverseRange d0 a b) (fun q => q.1.2 - q.1.1) ((a, b - 1), d0) ⟨by simp; omega, by simp; omega, hn, rfl⟩ ?_ ?_
  · refine Weak.list [(i0, .old i0, arow n d0)] rfl (by rfl) ?_ (.old rfl (BLe.refl _) .nil)
    ((repeat' first | exact TLes.nil | refine TLes.cons (TLe.eq rfl) ?_ | refine TLes.cons (TLe.int ?_) ?_); (all_goals first | ((try (simp only [Zaa, kzz, kz11, kz12, maxL, Zad] at *)); (simp (disch := omega) only [Zal]; omega)) | skip))
  rintro ⟨⟨i, j⟩, d⟩ ⟨hi1, hj1, hd, hR⟩
  simp only at hi1 hj1 hd hR ⊢
  ((repeat' first | refine Zac ?_ | (refine Zab tok (by rfl) ?_; conv => whnf) | (refine Zap tok mix (by rfl) ?_; conv => whnf) | refine Zai ?_ | (refine Zag ?_; conv => whnf) | (refine Za1 ?_; conv => whnf) | refine Zaf rfl (fun hb => ?_) (fun hb => ?_) | (refine @And.intro (Zaa _ _ _ _) _ ?_ ?_; rotate_left; (conv => whnf); rotate_right)); all_goals (try ((guard_target = Zaa _ _ _ _); refine Zae ?_; (all_goals (try simp only [Zaa, kzz, kz11, kz12, maxL, Zad] at *)); all_goals omega)))
  · have hij : i < j := by simp only [Zaa, kzz, kz11, kz12, maxL, Zad] at *; omega
    refine ⟨((i + 1, j - 1), swp d i j), ⟨by simp; omega, by simp; omega, by rw [Zby]; exact hd, ?_⟩, by simp; omega, ?_⟩
    · rw [← hR]; conv => rhs; unfold reverseLoop
      rw [if_pos hij]
    refine Weak.list [(i0, .old i0, arow n (swp d i j))] rfl (by rfl) ?_ (.old rfl (BLe.row rfl (fun x hx => ?_)) .nil)
    · ((repeat' first | exact TLes.nil | refine TLes.cons (TLe.eq rfl) ?_ | refine TLes.cons (TLe.int ?_) ?_); (all_goals first | ((try (simp only [Zaa, kzz, kz11, kz12, maxL, Zad] at *)); first | exact Zal (by omega) (by omega) | (simp (disch := omega) only [Zal]; omega)) | skip))
    · exact Zdb (d := d) (i := i) (j := j) (by omega) (by omega) (by simp) (by simp) (Za5 (by simp)) (Za5 (by simp)) x
  · have hij : ¬ i < j := by simp only [Zaa, kzz, kz11, kz12, maxL, Zad] at *; omega
    have : reverseRange d0 a b = d := by rw [← hR]; unfold reverseLoop; rw [if_neg hij]
    rw [this]
    exact ⟨_, [(i0, .old i0, arow n d)], rfl, rfl, rfl, rfl, .old rfl (BLe.refl _) .nil, .eq rfl⟩
theorem siftDown_size : ∀ (k hi first root : Nat) (d : Array Int), hi - root ≤ k → (siftDown ltInt hi first root d).size = d.size := by
  intro k
  induction k with
  | zero =>
    intro hi first root d h
    unfold siftDown; rw [dif_pos (by omega)]
  | succ k ih =>
    intro hi first root d h
    unfold siftDown
    split
    · rfl
    · rename_i h1
      split
      · split
        · rfl
        · split
          · rw [ih _ _ _ _ (by omega), Zby]
          · rfl
      · split
        · rfl
        · rw [ih _ _ _ _ (by omega), Zby]
theorem c_sift (n : Nat) (d0 : Array Int) (root hi first : Nat) (hn : d0.size = n) (hf : first + hi ≤ n) (hr : root ≤ n) :
    HC Tryz.prog [i0] 239 [(i0, arow n d0)] [.rs i0 1 0 n, iv root, iv hi, iv first] (.tup []) [(i0, arow n (siftDown ltInt hi first root d0))] := by
  refine Zbr tok Tryz.func239 rfl (by decide +kernel) (Nat.le_of_ble_eq_true rfl) ?_
  refine Zas 0 (fun hl => ?_)
  have hl0 : n ≤ 4294967296 := hl
  (repeat' first | refine Zac ?_ | (refine Zab tok (by rfl) ?_; conv => whnf) | refine Zai ?_)
  refine Zay (fun q : Nat × Array Int => mkS [(0, .rs i0 1 0 n), (2, iv hi), (3, iv first), (8, iv q.1)] [(i0, arow n q.2)])
    (fun q => q.1 ≤ n ∧ q.2.size = n ∧ siftDown ltInt hi first q.1 q.2 = siftDown ltInt hi first root d0) (fun q => n - q.1) (root, d0) ⟨hr, hn, rfl⟩ ?_ ?_
  · refine Weak.list [(i0, .old i0, arow n d0)] rfl (by rfl) ?_ (.old rfl (BLe.refl _) .nil)
    ((repeat' first | exact TLes.nil | refine TLes.cons (TLe.eq rfl) ?_); skip)
  rintro ⟨r, d⟩ ⟨hr1, hd, hR⟩
  simp only at hr1 hd hR ⊢
  (repeat' ((fail_if_success (show AWp _ _ _ (Code.region 3 _ _) _ _)); first | refine Zac ?_ | (refine Zab tok (by rfl) ?_; conv => whnf) | refine Zai ?_ | (refine Zag ?_; conv => whnf) | (refine Za1 ?_; conv => whnf) | refine Zaf rfl (fun hb => ?_) (fun hb => ?_)))
  · have hex : hi ≤ 2 * r + 1 := by simp (disch := omega) only [Zal] at hb; simp only [Zaa, kzz, kz11, kz12, maxL, Zad] at *; omega
    have : siftDown ltInt hi first root d0 = d := by rw [← hR]; unfold siftDown; rw [dif_pos hex]
    rw [this]
    exact ⟨_, [(i0, .old i0, arow n d)], rfl, rfl, rfl, rfl, .old rfl (BLe.refl _) .nil, .eq rfl⟩
  · have hex : 2 * r + 1 < hi := by simp (disch := omega) only [Zal] at hb; simp only [Zaa, kzz, kz11, kz12, maxL, Zad] at *; omega
    clear hb
    refine Za0 (Weak.list (tl := [(0, .rs i0 1 0 n), (2, iv hi), (3, iv first), (8, iv r), (9, iv ((2 * r + 1 : Nat) : Int))]) [(i0, .old i0, arow n d)] rfl (by rfl) ?_ (.old rfl (BLe.refl _) .nil)) ?_
    · ((repeat' first | exact TLes.nil | refine TLes.cons (TLe.eq rfl) ?_ | refine TLes.cons (TLe.int ?_) ?_); (all_goals first | ((simp (disch := omega) only [Zal]; omega)) | skip))
    ((repeat' first | (refine Zap tok mix (by rfl) ?_; conv => whnf) | (refine @And.intro (Zaa _ _ _ _) _ ?_ ?_; rotate_left; (conv => whnf); rotate_right)); all_goals (try ((guard_target = Zaa _ _ _ _); ((refine Zbe ?_; intro hgd; (conv at hgd => whnf); (try simp (disch := omega) only [Zal] at hgd))); (all_goals (try simp only [Zaa, kzz, kz11, kz12, maxL, Zad] at *)); (all_goals (try (simp (disch := omega) only [Zal]))); all_goals omega)))
    have h2 : ∀ k : Nat, first + k < n → d[0 + (IntKind.i64.wrap ((first : Int) + (k : Int))).toNat]! = d[first + k]! := fun k hk => by simp (disch := omega) only [Zal]; exact Za5 (by omega)
    have h3 : d[0 + (IntKind.i64.wrap (IntKind.i64.wrap ((first : Int) + ((2 * r + 1 : Nat) : Int)) + 1)).toNat]! = d[first + (2 * r + 1) + 1]! := by simp (disch := omega) only [Zal]; exact Za5 (by omega)
    refine .inl ⟨_, _, _, uG (QC.fc (Zdv (d := d) (i := first + (2 * r + 1)) (j := first + (2 * r + 1) + 1) _ _ (h2 _ (by omega)) h3) rfl), ?_⟩
    conv => whnf
    skip
    refine Zdq (fun c : Nat => mkS [(0, .rs i0 1 0 n), (2, iv hi), (3, iv first), (8, iv r), (9, iv c)] [(i0, arow n d)])
      (fun c => r < c ∧ c < hi ∧ siftDown ltInt hi first r d = if (!ltInt d[first + r]! d[first + c]!) = true then d else siftDown ltInt hi first c (swp d (first + r) (first + c))) ?_ ?_
    · (repeat' first | (refine Zab tok (by rfl) ?_; conv => whnf) | (refine Zag ?_; conv => whnf) | refine Zaf rfl (fun hb => ?_) (fun hb => ?_))
      · have hc : 2 * r + 1 + 1 < hi ∧ ltInt d[first + (2 * r + 1)]! d[first + (2 * r + 1) + 1]! = true := by
          rw [Zal (by omega) (by omega)] at hb
          by_cases h1 : 2 * r + 1 + 1 < hi
          · rw [decide_eq_true (by omega)] at hb; exact ⟨h1, hb⟩
          · rw [decide_eq_false (by omega)] at hb; cases hb
        refine ⟨2 * r + 2, ⟨by omega, by omega, ?_⟩, Weak.list [(i0, .old i0, arow n d)] rfl (by rfl) ?_ (.old rfl (BLe.refl _) .nil)⟩
        · conv => lhs; unfold siftDown
          rw [dif_neg (by omega), if_pos (by simp [hc]), dif_pos (by omega)]
        · ((repeat' first | exact TLes.nil | refine TLes.cons (TLe.eq rfl) ?_ | refine TLes.cons (TLe.int ?_) ?_); (all_goals first | ((try (simp only [Zaa, kzz, kz11, kz12, maxL, Zad] at *)); exact Zal (by omega) (by omega)) | skip))
      · have hc : ¬ (2 * r + 1 + 1 < hi ∧ ltInt d[first + (2 * r + 1)]! d[first + (2 * r + 1) + 1]! = true) := by
          rw [Zal (by omega) (by omega)] at hb
          rintro ⟨h1, h4⟩
          rw [decide_eq_true (by omega), h4] at hb; cases hb
        refine ⟨2 * r + 1, ⟨by omega, by omega, ?_⟩, Weak.list [(i0, .old i0, arow n d)] rfl (by rfl) ?_ (.old rfl (BLe.refl _) .nil)⟩
        · conv => lhs; unfold siftDown
          rw [dif_neg (by omega), if_neg (by simpa using hc)]
        · ((repeat' first | exact TLes.nil | refine TLes.cons (TLe.eq rfl) ?_); skip)
    rintro c ⟨hc1, hc2, hc3⟩ τ hτ
    refine Za0 hτ ?_
    conv => whnf
    ((repeat' first | refine Zac ?_ | (refine Zap tok mix (by rfl) ?_; conv => whnf) | (refine @And.intro (Zaa _ _ _ _) _ ?_ ?_; rotate_left; (conv => whnf); rotate_right)); all_goals (try ((guard_target = Zaa _ _ _ _); refine Zae ?_; (all_goals (try simp only [Zaa, kzz, kz11, kz12, maxL, Zad] at *)); (all_goals (try (simp (disch := omega) only [Zal]))); all_goals omega)))
    refine .inl ⟨_, _, _, uG (QC.fc (Zdv (d := d) (i := first + r) (j := first + c) _ _ (h2 _ (by omega)) (h2 _ (by omega))) rfl), ?_⟩
    conv => whnf
    ((repeat' first | refine Zac ?_ | (refine Zab tok (by rfl) ?_; conv => whnf) | (refine Zap tok mix (by rfl) ?_; conv => whnf) | (refine Zag ?_; conv => whnf) | (refine Zaj ?_; conv => whnf) | refine Zaf rfl (fun hb => ?_) (fun hb => ?_) | (refine @And.intro (Zaa _ _ _ _) _ ?_ ?_; rotate_left; (conv => whnf); rotate_right)); all_goals (try ((guard_target = Zaa _ _ _ _); refine Zae ?_; (all_goals (try simp only [Zaa, kzz, kz11, kz12, maxL, Zad] at *)); (all_goals (try (simp (disch := omega) only [Zal]))); all_goals omega)))
    · have : siftDown ltInt hi first root d0 = d := by rw [← hR, hc3, if_pos hb]
      rw [this]
      exact ⟨_, [(i0, .old i0, arow n d)], rfl, rfl, rfl, rfl, .old rfl (BLe.refl _) .nil, .eq rfl⟩
    · refine ⟨(c, swp d (first + r) (first + c)), ⟨by simp; omega, by rw [Zby]; exact hd, ?_⟩, by simp; omega, ?_⟩
      · rw [← hR, hc3, if_neg (by rw [hb]; simp)]
      refine Weak.list [(i0, .old i0, arow n (swp d (first + r) (first + c)))] rfl (by rfl) ?_ (.old rfl (BLe.row rfl (fun x hx => ?_)) .nil)
      · ((repeat' first | exact TLes.nil | refine TLes.cons (TLe.eq rfl) ?_); skip)
      · exact Zdb (d := d) (i := first + r) (j := first + c) (by omega) (by omega) (by simp (disch := omega) only [Zal]; omega) (by simp (disch := omega) only [Zal]; omega) (h2 _ (by omega)) (h2 _ (by omega)) x
theorem c_heap (n : Nat) (d0 : Array Int) (a b : Nat) (hn : d0.size = n) (ha : a ≤ b) (hb0 : b ≤ n) :
    HC Tryz.prog [i0] 230 [(i0, arow n d0)] [.rs i0 1 0 n, iv a, iv b] (.tup []) [(i0, arow n (heapSort ltInt d0 a b))] := by
  refine Zbr tok Tryz.func230 rfl (by decide +kernel) (Nat.le_of_ble_eq_true rfl) ?_
  refine Zas 0 (fun hl => ?_)
  have hl0 : n ≤ 4294967296 := hl
  obtain ⟨K, hK⟩ : ∃ K, K = (b - a - 1) / 2 + 1 := ⟨_, rfl⟩
  have hhs : heapSort ltInt d0 a b = heapPop ltInt a (b - a) (heapBuild ltInt (b - a) a K d0) := by rw [hK]; rfl
  ((repeat' first | refine Zac ?_ | (refine Zab tok (by rfl) ?_; conv => whnf) | refine Zai ?_ | (refine @And.intro (Zaa _ _ _ _) _ ?_ ?_; rotate_left; (conv => whnf); rotate_right)); all_goals (try ((guard_target = Zaa _ _ _ _); refine Zae ?_; all_goals omega)))
  refine Zay (fun q : Nat × Array Int => mkS [(0, .rs i0 1 0 n), (6, iv a), (7, iv 0), (8, iv ((b - a : Nat) : Int)), (9, iv ((q.1 : Int) - 1))] [(i0, arow n q.2)])
    (fun q => q.1 ≤ K ∧ q.2.size = n ∧ heapBuild ltInt (b - a) a q.1 q.2 = heapBuild ltInt (b - a) a K d0) (fun q => q.1) (K, d0) ⟨Nat.le_refl _, hn, rfl⟩ ?_ ?_
  · refine Weak.list [(i0, .old i0, arow n d0)] rfl (by rfl) ?_ (.old rfl (BLe.refl _) .nil)
    ((repeat' first | exact TLes.nil | refine TLes.cons (TLe.eq rfl) ?_ | refine TLes.cons (TLe.int ?_) ?_); (all_goals first | ((try (simp only [Zaa, kzz, kz11, kz12, maxL, Zad] at *)); (simp (disch := omega) only [Zal]; omega)) | skip))
    show _ = (K : Int) - 1
    rw [Zal (x := (b : Int) - a) (by omega) (by omega), Zal (x := (b : Int) - a - 1) (by omega) (by omega)]
    by_cases e : a = b
    · subst e
      have : K = 1 := by omega
      subst this
      rw [Int.sub_self]; rfl
    · rw [Int.tdiv_eq_ediv_of_nonneg (by omega), Zal (by omega) (by omega)]
      omega
  rintro ⟨k, d⟩ ⟨hk, hd, hR⟩
  simp only at hk hd hR ⊢
  (repeat' first | refine Zac ?_ | (refine Zab tok (by rfl) ?_; conv => whnf) | refine Zai ?_ | (refine Zag ?_; conv => whnf) | (refine Za1 ?_; conv => whnf) | refine Zaf rfl (fun hb => ?_) (fun hb => ?_))
  · have hk1 : 1 ≤ k := by simp only [Zaa, kzz, kz11, kz12, maxL, Zad] at *; omega
    obtain ⟨k, rfl⟩ : ∃ j, k = j + 1 := ⟨k - 1, by omega⟩
    have hcall : ∀ z : Int, z = (k : Int) → HC Tryz.prog [i0] 239 [(i0, arow n d)] [.rs i0 1 0 n, iv z, iv ((b - a : Nat) : Int), iv a] (.tup []) [(i0, arow n (siftDown ltInt (b - a) a k d))] := fun z e => e ▸ c_sift n d k (b - a) a hd (by omega) (by omega)
    refine .inr ⟨_, _, _, uG (QH.of (dead := []) [(i0, .old i0, arow n d)] (hcall _ (by simp)) rfl (.old rfl (BLe.refl _) .nil) (.cons (.eq rfl) (.cons (.eq rfl) (.cons (.eq rfl) (.cons (.eq rfl) .nil)))) [(i0, i0)] rfl (.cons rfl (BLe.refl _) .nil) rfl), ?_⟩
    conv => whnf
    (repeat' (refine Zab tok (by rfl) ?_; conv => whnf))
    refine ⟨(k, siftDown ltInt (b - a) a k d), ⟨by simp; omega, by rw [siftDown_size _ _ _ _ _ (Nat.le_refl _)]; exact hd, hR⟩, by simp, ?_⟩
    refine Weak.list [(i0, .old i0, arow n (siftDown ltInt (b - a) a k d))] rfl (by rfl) ?_ (.old rfl (BLe.refl _) .nil)
    ((repeat' first | exact TLes.nil | refine TLes.cons (TLe.eq rfl) ?_ | refine TLes.cons (TLe.int ?_) ?_); (all_goals first | ((try (simp only [Zaa, kzz, kz11, kz12, maxL, Zad] at *)); (simp (disch := omega) only [Zal]; omega)) | skip))
  · have hk0 : k = 0 := by simp only [Zaa, kzz, kz11, kz12, maxL, Zad] at *; omega
    subst hk0
    have hd1 : d = heapBuild ltInt (b - a) a K d0 := hR
    rw [← hd1] at hhs
    clear hR hd1
    refine Zay (fun q : Nat × Array Int => mkS [(0, .rs i0 1 0 n), (6, iv a), (7, iv 0), (10, iv ((q.1 : Int) - 1))] [(i0, arow n q.2)])
      (fun q => q.1 ≤ b - a ∧ q.2.size = n ∧ heapPop ltInt a q.1 q.2 = heapSort ltInt d0 a b) (fun q => q.1) (b - a, d) ⟨Nat.le_refl _, hd, hhs.symm⟩ ?_ ?_
    · refine Weak.list [(i0, .old i0, arow n d)] rfl (by rfl) ?_ (.old rfl (BLe.refl _) .nil)
      ((repeat' first | exact TLes.nil | refine TLes.cons (TLe.eq rfl) ?_ | refine TLes.cons (TLe.int ?_) ?_); (all_goals first | ((try (simp only [Zaa, kzz, kz11, kz12, maxL, Zad] at *)); exact Zal (by omega) (by omega)) | skip))
    rintro ⟨k, e⟩ ⟨hk, he, hS⟩
    simp only at hk he hS ⊢
    ((repeat' ((fail_if_success (show AWp _ _ _ (Code.region 11 _ _) _ _)); first | refine Zac ?_ | (refine Zab tok (by rfl) ?_; conv => whnf) | (refine Zap tok mix (by rfl) ?_; conv => whnf) | refine Zai ?_ | (refine Zag ?_; conv => whnf) | (refine Za1 ?_; conv => whnf) | refine Zaf rfl (fun hb => ?_) (fun hb => ?_) | (refine @And.intro (Zaa _ _ _ _) _ ?_ ?_; rotate_left; (conv => whnf); rotate_right))); all_goals (try ((guard_target = Zaa _ _ _ _); refine Zae ?_; (all_goals (try simp only [Zaa, kzz, kz11, kz12, maxL, Zad] at *)); (all_goals (try (simp (disch := omega) only [Zal]))); all_goals omega)))
    · have hk1 : 1 ≤ k := by simp only [Zaa, kzz, kz11, kz12, maxL, Zad] at *; omega
      obtain ⟨k, rfl⟩ : ∃ j, k = j + 1 := ⟨k - 1, by omega⟩
      refine Za0 (Weak.list (tl := [(0, .rs i0 1 0 n), (6, iv a), (7, iv 0), (10, iv k)]) [(i0, .old i0, arow n (swp e a (a + k)))] rfl (by rfl) ?_ (.old rfl (BLe.row rfl (fun x hx => ?_)) .nil)) ?_
      · ((repeat' first | exact TLes.nil | refine TLes.cons (TLe.eq rfl) ?_ | refine TLes.cons (TLe.int ?_) ?_); (all_goals first | ((try (simp only [Zaa, kzz, kz11, kz12, maxL, Zad] at *)); omega) | skip))
      · have h2 : e[0 + (IntKind.i64.wrap ((a : Int) + (((k + 1 : Nat) : Int) - 1))).toNat]! = e[a + k]! := by simp (disch := omega) only [Zal]; exact Za5 (by omega)
        exact Zdb (d := e) (i := a) (j := a + k) (by omega) (by omega) (by simp) (by simp (disch := omega) only [Zal]; omega) h2 (Za5 (by simp)) x
      (repeat' (refine Zab tok (by rfl) ?_; conv => whnf))
      refine .inr ⟨_, _, _, uG (QH.of (dead := []) [(i0, .old i0, arow n (swp e a (a + k)))] (c_sift n (swp e a (a + k)) 0 k a (by rw [Zby]; exact he) (by omega) (by omega)) rfl (.old rfl (BLe.refl _) .nil) (.cons (.eq rfl) (.cons (.eq rfl) (.cons (.eq rfl) (.cons (.eq rfl) .nil)))) [(i0, i0)] rfl (.cons rfl (BLe.refl _) .nil) rfl), ?_⟩
      conv => whnf
      (repeat' (refine Zab tok (by rfl) ?_; conv => whnf))
      refine ⟨(k, siftDown ltInt k a 0 (swp e a (a + k))), ⟨by simp; omega, by rw [siftDown_size _ _ _ _ _ (Nat.le_refl _), Zby]; exact he, hS⟩, by simp, ?_⟩
      refine Weak.list [(i0, .old i0, arow n (siftDown ltInt k a 0 (swp e a (a + k))))] rfl (by rfl) ?_ (.old rfl (BLe.refl _) .nil)
      ((repeat' first | exact TLes.nil | refine TLes.cons (TLe.eq rfl) ?_ | refine TLes.cons (TLe.int ?_) ?_); (all_goals first | ((try (simp only [Zaa, kzz, kz11, kz12, maxL, Zad] at *)); exact Zal (by omega) (by omega)) | skip))
    · have hk0 : k = 0 := by simp only [Zaa, kzz, kz11, kz12, maxL, Zad] at *; omega
      subst hk0
      have : heapSort ltInt d0 a b = e := hS.symm
      rw [this]
      exact ⟨_, [(i0, .old i0, arow n e)], rfl, rfl, rfl, rfl, .old rfl (BLe.refl _) .nil, .eq rfl⟩
end Go.Proofs.YtoelbgjpmpoolaaGreat
namespace Go.Proofs.YtoelbgjpmpoolaaGreat
open Go Dv Go.Sort
set_option maxRecDepth 10000
set_option linter.unusedSimpArgs false
abbrev crow (s : Nat) : Zam := .row true 1 1 (fun _ => [iv s])
theorem c_order2 (n : Nat) (d : Array Int) (a b s : Nat) (hn : d.size = n) (ha : a < n) (hb0 : b < n) (hs : s ≤ 1000) :
    HC Tryz.prog [i0, i1] 243 [(i0, arow n d), (i1, crow s)] [.rs i0 1 0 n, iv a, iv b, .bp i1 0] (.tup [iv (order2 ltInt d a b s).1, iv (order2 ltInt d a b s).2.1]) [(i0, arow n d), (i1, crow (order2 ltInt d a b s).2.2)] := by
  refine Zbr tok Tryz.func243 rfl (by decide +kernel) (Nat.le_of_ble_eq_true rfl) ?_
  refine Zas 0 (fun hl => ?_)
  have hl0 : n ≤ 4294967296 := hl
  ((repeat' first | refine Zac ?_ | (refine Zab tok (by rfl) ?_; conv => whnf) | (refine Zap tok mix (by rfl) ?_; conv => whnf) | (refine @And.intro (Zaa _ _ _ _) _ ?_ ?_; rotate_left; (conv => whnf); rotate_right)); all_goals (try ((guard_target = Zaa _ _ _ _); refine Zae ?_; (all_goals (try simp only [Zaa, kzz, kz11, kz12, maxL, Zad] at *)); all_goals omega)))
  refine .inl ⟨_, _, _, uG (QC.fc (Zdv (d := d) (i := b) (j := a) _ _ (Za5 (by simp)) (Za5 (by simp))) rfl), ?_⟩
  conv => whnf
  (repeat' first | refine Zac ?_ | (refine Zab tok (by rfl) ?_; conv => whnf) | (refine Zag ?_; conv => whnf) | (refine Zaj ?_; conv => whnf) | refine Zaf rfl (fun hb => ?_) (fun hb => ?_))
  · have e : order2 ltInt d a b s = (b, a, s + 1) := if_pos hb
    rw [e]
    refine ⟨_, [(i0, .old i0, arow n d), (i1, .old i1, crow (s + 1))], rfl, rfl, rfl, rfl, .old rfl (BLe.refl _) (.old rfl (BLe.row rfl (fun x hx => ?_)) .nil), .eq rfl⟩
    match x, hx with
    | 0, _ =>
      show [iv (IntKind.i64.wrap ((s : Int) + 1))] = [iv ((s + 1 : Nat) : Int)]
      rw [Zal (by omega) (by omega)]; rfl
  · have e : order2 ltInt d a b s = (a, b, s) := if_neg (by rw [hb]; simp)
    rw [e]
    exact ⟨_, [(i0, .old i0, arow n d), (i1, .old i1, crow s)], rfl, rfl, rfl, rfl, .old rfl (BLe.refl _) (.old rfl (BLe.refl _) .nil), .eq rfl⟩
theorem order2_in {n : Nat} (d : Array Int) {a b s : Nat} (ha : a < n) (hb : b < n) : (order2 ltInt d a b s).1 < n ∧ (order2 ltInt d a b s).2.1 < n ∧ (order2 ltInt d a b s).2.2 ≤ s + 1 := by
  unfold order2; split
  · exact ⟨hb, ha, Nat.le_refl _⟩
  · exact ⟨ha, hb, Nat.le_succ _⟩
theorem c_median (n : Nat) (d : Array Int) (a b c s : Nat) (hn : d.size = n) (ha : a < n) (hb0 : b < n) (hc0 : c < n) (hs : s ≤ 100) :
    HC Tryz.prog [i0, i1] 241 [(i0, arow n d), (i1, crow s)] [.rs i0 1 0 n, iv a, iv b, iv c, .bp i1 0] (iv (median ltInt d a b c s).1) [(i0, arow n d), (i1, crow (median ltInt d a b c s).2)] := by
  refine Zbr tok Tryz.func241 rfl (by decide +kernel) (Nat.le_of_ble_eq_true rfl) ?_
  (repeat' first | refine Zac ?_ | (refine Zab tok (by rfl) ?_; conv => whnf))
  have e : median ltInt d a b c s = ((order2 ltInt d (order2 ltInt d a b s).1 (order2 ltInt d (order2 ltInt d a b s).2.1 c (order2 ltInt d a b s).2.2).1 (order2 ltInt d (order2 ltInt d a b s).2.1 c (order2 ltInt d a b s).2.2).2.2).2.1,
    (order2 ltInt d (order2 ltInt d a b s).1 (order2 ltInt d (order2 ltInt d a b s).2.1 c (order2 ltInt d a b s).2.2).1 (order2 ltInt d (order2 ltInt d a b s).2.1 c (order2 ltInt d a b s).2.2).2.2).2.2) := rfl
  rw [e]
  have b1 := order2_in (n := n) d (s := s) ha hb0
  have c1 := c_order2 n d a b s hn ha hb0 (by omega)
  generalize order2 ltInt d a b s = r1 at b1 c1 ⊢
  have b2 := order2_in (n := n) d (s := r1.2.2) b1.2.1 hc0
  have c2 := c_order2 n d r1.2.1 c r1.2.2 hn b1.2.1 hc0 (by omega)
  generalize order2 ltInt d r1.2.1 c r1.2.2 = r2 at b2 c2 ⊢
  have c3 := c_order2 n d r1.1 r2.1 r2.2.2 hn b1.1 b2.1 (by omega)
  generalize order2 ltInt d r1.1 r2.1 r2.2.2 = r3 at c3 ⊢
  refine .inr ⟨_, _, _, uG (QH.of (dead := []) [(i0, .old i0, arow n d), (i1, .old i1, crow s)] c1 rfl (.old rfl (BLe.refl _) (.old rfl (BLe.refl _) .nil)) (.cons (.eq rfl) (.cons (.eq rfl) (.cons (.eq rfl) (.cons (.eq rfl) .nil)))) [(i0, i0), (i1, i1)] rfl (.cons rfl (BLe.refl _) (.cons rfl (BLe.refl _) .nil)) rfl), ?_⟩
  conv => whnf
  (repeat' first | refine Zac ?_ | (refine Zab tok (by rfl) ?_; conv => whnf))
  refine .inr ⟨_, _, _, uG (QH.of (dead := []) [(i0, .old i0, arow n d), (i1, .old i1, crow r1.2.2)] c2 rfl (.old rfl (BLe.refl _) (.old rfl (BLe.refl _) .nil)) (.cons (.eq rfl) (.cons (.eq rfl) (.cons (.eq rfl) (.cons (.eq rfl) .nil)))) [(i0, i0), (i1, i1)] rfl (.cons rfl (BLe.refl _) (.cons rfl (BLe.refl _) .nil)) rfl), ?_⟩
  conv => whnf
  (repeat' first | refine Zac ?_ | (refine Zab tok (by rfl) ?_; conv => whnf))
  refine .inr ⟨_, _, _, uG (QH.of (dead := []) [(i0, .old i0, arow n d), (i1, .old i1, crow r2.2.2)] c3 rfl (.old rfl (BLe.refl _) (.old rfl (BLe.refl _) .nil)) (.cons (.eq rfl) (.cons (.eq rfl) (.cons (.eq rfl) (.cons (.eq rfl) .nil)))) [(i0, i0), (i1, i1)] rfl (.cons rfl (BLe.refl _) (.cons rfl (BLe.refl _) .nil)) rfl), ?_⟩
  conv => whnf
  (repeat' first | refine Zac ?_ | (refine Zab tok (by rfl) ?_; conv => whnf) | (refine Zaj ?_; conv => whnf))
  exact ⟨_, [(i0, .old i0, arow n d), (i1, .old i1, crow r3.2.2)], rfl, rfl, rfl, rfl, .old rfl (BLe.refl _) (.old rfl (BLe.refl _) .nil), .eq rfl⟩
theorem median_in {n : Nat} (d : Array Int) {a b c s : Nat} (ha : a < n) (hb : b < n) (hc : c < n) : (median ltInt d a b c s).1 < n ∧ (median ltInt d a b c s).2 ≤ s + 3 := by
  have b1 := order2_in (n := n) d (s := s) ha hb
  have b2 := order2_in (n := n) d (s := (order2 ltInt d a b s).2.2) b1.2.1 hc
  have b3 := order2_in (n := n) d (s := (order2 ltInt d (order2 ltInt d a b s).2.1 c (order2 ltInt d a b s).2.2).2.2) b1.1 b2.1
  exact ⟨b3.2.1, by have := b3.2.2; have := b2.2.2; have := b1.2.2; show (order2 ltInt d _ _ _).2.2 ≤ _; omega⟩
theorem c_medAdj (n : Nat) (d : Array Int) (a s : Nat) (hn : d.size = n) (h1 : 1 ≤ a) (ha : a + 1 < n) (hs : s ≤ 100) :
    HC Tryz.prog [i0, i1] 240 [(i0, arow n d), (i1, crow s)] [.rs i0 1 0 n, iv a, .bp i1 0] (iv (medianAdjacent ltInt d a s).1) [(i0, arow n d), (i1, crow (medianAdjacent ltInt d a s).2)] := by
  refine Zbr tok Tryz.func240 rfl (by decide +kernel) (Nat.le_of_ble_eq_true rfl) ?_
  refine Zas 0 (fun hl => ?_)
  have hl0 : n ≤ 4294967296 := hl
  (repeat' first | refine Zac ?_ | (refine Zab tok (by rfl) ?_; conv => whnf))
  have hcall : ∀ x y : Int, x = ((a - 1 : Nat) : Int) → y = ((a + 1 : Nat) : Int) → HC Tryz.prog [i0, i1] 241 [(i0, arow n d), (i1, crow s)] [.rs i0 1 0 n, iv x, iv a, iv y, .bp i1 0] (iv (median ltInt d (a - 1) a (a + 1) s).1) [(i0, arow n d), (i1, crow (median ltInt d (a - 1) a (a + 1) s).2)] :=
    fun x y e1 e2 => by rw [e1, e2]; exact c_median n d (a - 1) a (a + 1) s hn (by omega) (by omega) (by omega) hs
  refine .inr ⟨_, _, _, uG (QH.of (dead := []) [(i0, .old i0, arow n d), (i1, .old i1, crow s)] (hcall _ _ (by simp (disch := omega) only [Zal]; omega) (by simp (disch := omega) only [Zal]; omega)) rfl (.old rfl (BLe.refl _) (.old rfl (BLe.refl _) .nil)) (.cons (.eq rfl) (.cons (.eq rfl) (.cons (.eq rfl) (.cons (.eq rfl) (.cons (.eq rfl) .nil))))) [(i0, i0), (i1, i1)] rfl (.cons rfl (BLe.refl _) (.cons rfl (BLe.refl _) .nil)) rfl), ?_⟩
  conv => whnf
  (repeat' (refine Zaj ?_; conv => whnf))
  exact ⟨_, [(i0, .old i0, arow n d), (i1, .old i1, crow (medianAdjacent ltInt d a s).2)], rfl, rfl, rfl, rfl, .old rfl (BLe.refl _) (.old rfl (BLe.refl _) .nil), .eq rfl⟩
end Go.Proofs.YtoelbgjpmpoolaaGreat
namespace Go.Proofs.YtoelbgjpmpoolaaGreat
open Go Dv Go.Sort
set_option maxRecDepth 10000
set_option linter.unusedSimpArgs false
def hintI : Hint → Int
  | .unknown => 0
  | .increasing => 1
  | .decreasing => 2
theorem c_choose (n : Nat) (d : Array Int) (a b : Nat) (hn : d.size = n) (ha : a < b) (hb0 : b ≤ n) :
    HC Tryz.prog [i0] 232 [(i0, arow n d)] [.rs i0 1 0 n, iv a, iv b] (.tup [iv (choosePivot ltInt d a b).1, iv (hintI (choosePivot ltInt d a b).2)]) [(i0, arow n d)] := by
  refine Zbr tok Tryz.func232 rfl (by decide +kernel) (Nat.le_of_ble_eq_true rfl) ?_
  refine Zas 0 (fun hl => ?_)
  have hl0 : n ≤ 4294967296 := hl
  ((repeat' ((fail_if_success (show AWp _ _ _ (Code.region 6 _ _) _ _)); first | refine Zac ?_ | (refine Zab tok (by rfl) ?_; conv => whnf) | (refine @And.intro (Zaa _ _ _ _) _ ?_ ?_; rotate_left; (conv => whnf); rotate_right))); all_goals (try ((guard_target = Zaa _ _ _ _); refine Zae ?_; all_goals omega)))
  obtain ⟨l, hl1⟩ : ∃ l, l = b - a := ⟨_, rfl⟩
  have e1 : IntKind.i64.wrap ((b : Int) - (a : Int)) = (l : Int) := by rw [Zal (by omega) (by omega)]; omega
  have e2 : ((l : Int)).tdiv 4 = ((l / 4 : Nat) : Int) := by rw [Int.tdiv_eq_ediv_of_nonneg (by omega)]; omega
  refine Za0 (Weak.list (tl := [(0, .rs i0 1 0 n), (6, iv 0), (7, iv 0), (8, iv l), (9, .bp (9, 0, 0) 0), (10, iv ((a + l / 4 * 1 : Nat) : Int)), (11, iv ((a + l / 4 * 2 : Nat) : Int)), (12, iv ((a + l / 4 * 3 : Nat) : Int))]) [(i0, .old i0, arow n d), ((9, 0, 0), .old (9, 0, 0), crow 0)] rfl (by rfl) ?_ (.old rfl (BLe.refl _) (.old rfl (BLe.refl _) .nil))) ?_
  · ((repeat' first | exact TLes.nil | refine TLes.cons (TLe.eq rfl) ?_ | refine TLes.cons (TLe.int ?_) ?_); (all_goals first | (omega) | skip))
    · rw [e1, e2, Zal (x := ((l / 4 : Nat) : Int)) (by omega) (by omega), Zal (x := ((l / 4 : Nat) : Int) * 1) (by omega) (by omega), Zal (by omega) (by omega)]; omega
    · rw [e1, e2, Zal (x := ((l / 4 : Nat) : Int)) (by omega) (by omega), Zal (x := ((l / 4 : Nat) : Int) * 2) (by omega) (by omega), Zal (by omega) (by omega)]; omega
    · rw [e1, e2, Zal (x := ((l / 4 : Nat) : Int)) (by omega) (by omega), Zal (x := ((l / 4 : Nat) : Int) * 3) (by omega) (by omega), Zal (by omega) (by omega)]; omega
  obtain ⟨i, hi⟩ : ∃ i, i = a + l / 4 * 1 := ⟨_, rfl⟩
  obtain ⟨j, hj⟩ : ∃ j, j = a + l / 4 * 2 := ⟨_, rfl⟩
  obtain ⟨k, hk⟩ : ∃ k, k = a + l / 4 * 3 := ⟨_, rfl⟩
  obtain ⟨R, hR⟩ : ∃ R : Nat × Nat, R = if l ≥ 8 then (if l ≥ 50 then
      median ltInt d (medianAdjacent ltInt d i 0).1 (medianAdjacent ltInt d j (medianAdjacent ltInt d i 0).2).1 (medianAdjacent ltInt d k (medianAdjacent ltInt d j (medianAdjacent ltInt d i 0).2).2).1 (medianAdjacent ltInt d k (medianAdjacent ltInt d j (medianAdjacent ltInt d i 0).2).2).2
      else median ltInt d i j k 0) else (j, 0) := ⟨_, rfl⟩
  have hch : choosePivot ltInt d a b = (R.1, if R.2 = 0 then .increasing else if R.2 = 12 then .decreasing else .unknown) := by
    rw [hR, hi, hj, hk, hl1]; rfl
  rw [hch]
  rw [← hi, ← hj, ← hk]
  (repeat' (refine Zab tok (by rfl) ?_; conv => whnf))
  refine Zdq (fun q : Nat × Nat => mkS [(0, .rs i0 1 0 n), (6, iv 0), (7, iv 0), (9, .bp (9, 0, 0) 0), (11, iv q.1)] [(i0, arow n d), ((9, 0, 0), crow q.2)]) (fun q => q = R) ?_ ?_
  · (repeat' first | refine Zac ?_ | (refine Zab tok (by rfl) ?_; conv => whnf) | (refine Zag ?_; conv => whnf) | refine Zaf rfl (fun hb => ?_) (fun hb => ?_))
    · have h50 : 50 ≤ l := by simp only [Zaa, kzz, kz11, kz12, maxL, Zad] at *; omega
      have m1 := median_in (n := n) d (a := i - 1) (b := i) (c := i + 1) (s := 0) (by omega) (by omega) (by omega)
      have c1 := c_medAdj n d i 0 hn (by omega) (by omega) (by omega)
      rw [if_pos (by omega), if_pos h50] at hR
      change _ ∧ (medianAdjacent ltInt d i 0).2 ≤ _ at m1
      change (medianAdjacent ltInt d i 0).1 < _ ∧ _ at m1
      generalize medianAdjacent ltInt d i 0 = r1 at m1 c1 hR
      have m2 := median_in (n := n) d (a := j - 1) (b := j) (c := j + 1) (s := r1.2) (by omega) (by omega) (by omega)
      have c2 := c_medAdj n d j r1.2 hn (by omega) (by omega) (by omega)
      change (medianAdjacent ltInt d j r1.2).1 < _ ∧ (medianAdjacent ltInt d j r1.2).2 ≤ _ at m2
      generalize medianAdjacent ltInt d j r1.2 = r2 at m2 c2 hR
      have m3 := median_in (n := n) d (a := k - 1) (b := k) (c := k + 1) (s := r2.2) (by omega) (by omega) (by omega)
      have c3 := c_medAdj n d k r2.2 hn (by omega) (by omega) (by omega)
      change (medianAdjacent ltInt d k r2.2).1 < _ ∧ (medianAdjacent ltInt d k r2.2).2 ≤ _ at m3
      generalize medianAdjacent ltInt d k r2.2 = r3 at m3 c3 hR
      have c4 := c_median n d r1.1 r2.1 r3.1 r3.2 hn m1.1 m2.1 m3.1 (by omega)
      rw [← hR] at c4
      refine .inr ⟨_, _, _, uG (QH.of (dead := []) [(i0, .old i0, arow n d), (i1, .old (9, 0, 0), crow 0)] (c1) rfl (.old rfl (BLe.refl _) (.old rfl (BLe.refl _) .nil)) (.cons (.eq rfl) (.cons (.eq rfl) (.cons (.eq rfl) .nil))) [(i0, i0), (i1, (9, 0, 0))] rfl (.cons rfl (BLe.refl _) (.cons rfl (BLe.refl _) .nil)) rfl), ?_⟩
      conv => whnf
      (repeat' first | refine Zac ?_ | (refine Zab tok (by rfl) ?_; conv => whnf))
      refine .inr ⟨_, _, _, uG (QH.of (dead := []) [(i0, .old i0, arow n d), (i1, .old (9, 0, 0), crow r1.2)] (c2) rfl (.old rfl (BLe.refl _) (.old rfl (BLe.refl _) .nil)) (.cons (.eq rfl) (.cons (.eq rfl) (.cons (.eq rfl) .nil))) [(i0, i0), (i1, (9, 0, 0))] rfl (.cons rfl (BLe.refl _) (.cons rfl (BLe.refl _) .nil)) rfl), ?_⟩
      conv => whnf
      (repeat' (refine Zab tok (by rfl) ?_; conv => whnf))
      refine .inr ⟨_, _, _, uG (QH.of (dead := []) [(i0, .old i0, arow n d), (i1, .old (9, 0, 0), crow r2.2)] (c3) rfl (.old rfl (BLe.refl _) (.old rfl (BLe.refl _) .nil)) (.cons (.eq rfl) (.cons (.eq rfl) (.cons (.eq rfl) .nil))) [(i0, i0), (i1, (9, 0, 0))] rfl (.cons rfl (BLe.refl _) (.cons rfl (BLe.refl _) .nil)) rfl), ?_⟩
      conv => whnf
      (repeat' (refine Zab tok (by rfl) ?_; conv => whnf))
      refine .inr ⟨_, _, _, uG (QH.of (dead := []) [(i0, .old i0, arow n d), (i1, .old (9, 0, 0), crow r3.2)] (c4) rfl (.old rfl (BLe.refl _) (.old rfl (BLe.refl _) .nil)) (.cons (.eq rfl) (.cons (.eq rfl) (.cons (.eq rfl) (.cons (.eq rfl) (.cons (.eq rfl) .nil))))) [(i0, i0), (i1, (9, 0, 0))] rfl (.cons rfl (BLe.refl _) (.cons rfl (BLe.refl _) .nil)) rfl), ?_⟩
      conv => whnf
      skip
      refine ⟨R, rfl, Weak.list [(i0, .old i0, arow n d), ((9, 0, 0), .old (9, 0, 0), crow R.2)] rfl (by rfl) ?_ (.old rfl (BLe.refl _) (.old rfl (BLe.refl _) .nil))⟩
      ((repeat' first | exact TLes.nil | refine TLes.cons (TLe.eq rfl) ?_); skip)
    · have h8 : 8 ≤ l ∧ l < 50 := by simp only [Zaa, kzz, kz11, kz12, maxL, Zad] at *; omega
      have c4 := c_median n d i j k 0 hn (by omega) (by omega) (by omega) (by omega)
      rw [if_pos (by omega), if_neg (by omega)] at hR
      rw [← hR] at c4
      refine .inr ⟨_, _, _, uG (QH.of (dead := []) [(i0, .old i0, arow n d), (i1, .old (9, 0, 0), crow 0)] (c4) rfl (.old rfl (BLe.refl _) (.old rfl (BLe.refl _) .nil)) (.cons (.eq rfl) (.cons (.eq rfl) (.cons (.eq rfl) (.cons (.eq rfl) (.cons (.eq rfl) .nil))))) [(i0, i0), (i1, (9, 0, 0))] rfl (.cons rfl (BLe.refl _) (.cons rfl (BLe.refl _) .nil)) rfl), ?_⟩
      conv => whnf
      skip
      refine ⟨R, rfl, Weak.list [(i0, .old i0, arow n d), ((9, 0, 0), .old (9, 0, 0), crow R.2)] rfl (by rfl) ?_ (.old rfl (BLe.refl _) (.old rfl (BLe.refl _) .nil))⟩
      ((repeat' first | exact TLes.nil | refine TLes.cons (TLe.eq rfl) ?_); skip)
    · rw [if_neg (by simp only [Zaa, kzz, kz11, kz12, maxL, Zad] at *; omega)] at hR
      refine ⟨R, rfl, Weak.list [(i0, .old i0, arow n d), ((9, 0, 0), .old (9, 0, 0), crow R.2)] rfl (by rfl) ?_ ?_⟩
      · rw [hR]; ((repeat' first | exact TLes.nil | refine TLes.cons (TLe.eq rfl) ?_); skip)
      · rw [hR]; exact (.old rfl (BLe.refl _) (.old rfl (BLe.refl _) .nil))
  rintro q hq τ hτ
  subst hq
  refine Za0 hτ ?_
  conv => whnf
  (repeat' first | refine Zac ?_ | (refine Zab tok (by rfl) ?_; conv => whnf) | refine Zai ?_ | (refine Zaj ?_; conv => whnf) | refine Zaf rfl (fun hb => ?_) (fun hb => ?_))
  · have h0 : q.2 = 0 := by simp only [Zaa, kzz, kz11, kz12, maxL, Zad] at *; omega
    rw [if_pos h0]
    exact ⟨_, [(i0, .old i0, arow n d)], rfl, rfl, rfl, rfl, .old rfl (BLe.refl _) .nil, .eq rfl⟩
  · rename_i hb0
    have h0 : ¬ q.2 = 0 := by simp only [Zaa, kzz, kz11, kz12, maxL, Zad] at *; omega
    have h1 : q.2 = 12 := by simp only [Zaa, kzz, kz11, kz12, maxL, Zad] at *; omega
    rw [if_neg h0, if_pos h1]
    exact ⟨_, [(i0, .old i0, arow n d)], rfl, rfl, rfl, rfl, .old rfl (BLe.refl _) .nil, .eq rfl⟩
  · rename_i hb0
    have h0 : ¬ q.2 = 0 := by simp only [Zaa, kzz, kz11, kz12, maxL, Zad] at *; omega
    have h1 : ¬ q.2 = 12 := by simp only [Zaa, kzz, kz11, kz12, maxL, Zad] at *; omega
    rw [if_neg h0, if_neg h1]
    exact ⟨_, [(i0, .old i0, arow n d)], rfl, rfl, rfl, rfl, .old rfl (BLe.refl _) .nil, .eq rfl⟩
end Go.Proofs.YtoelbgjpmpoolaaGreat
namespace Go.Proofs.YtoelbgjpmpoolaaGreat
open Go Dv Go.Sort
set_option maxRecDepth 10000
set_option linter.unusedSimpArgs false
theorem c_part (n : Nat) (d0 : Array Int) (a b pivot : Nat) (hn : d0.size = n) (hp1 : a ≤ pivot) (hp2 : pivot < b) (hb0 : b ≤ n) :
    HC Tryz.prog [i0] 237 [(i0, arow n d0)] [.rs i0 1 0 n, iv a, iv b, iv pivot] (.tup [iv (partition ltInt d0 a b pivot).1, .bool (partition ltInt d0 a b pivot).2.1]) [(i0, arow n (partition ltInt d0 a b pivot).2.2)] := by
  refine Zbr tok Tryz.func237 rfl (by decide +kernel) (Nat.le_of_ble_eq_true rfl) ?_
  refine Zas 0 (fun hl => ?_)
  have hl0 : n ≤ 4294967296 := hl
  obtain ⟨d, hd1⟩ : ∃ d, d = swp d0 a pivot := ⟨_, rfl⟩
  have hd : d.size = n := by rw [hd1, Zby]; exact hn
  have hpart : partition ltInt d0 a b pivot = (let i := scanUp (fun x => ltInt x d[a]!) d (b - 1) (a + 1); let j := scanDown (fun x => !ltInt x d[a]!) d i (b - 1);
      if i > j then (j, true, swp d j a) else (let r := partLoop ltInt a (i + 1) (j - 1) (swp d i j); (r.1, false, swp r.2 r.1 a))) := by rw [hd1]; rfl
  obtain ⟨R, hR⟩ : ∃ R, R = partition ltInt d0 a b pivot := ⟨_, rfl⟩
  rw [← hR]; rw [hpart] at hR; clear hpart
  ((repeat' ((fail_if_success (show AWp _ _ _ (Code.region 2 _ _) _ _)); first | refine Zac ?_ | (refine Zab tok (by rfl) ?_; conv => whnf) | (refine Zap tok mix (by rfl) ?_; conv => whnf) | (refine @And.intro (Zaa _ _ _ _) _ ?_ ?_; rotate_left; (conv => whnf); rotate_right))); all_goals (try ((guard_target = Zaa _ _ _ _); refine Zae ?_; (all_goals (try simp only [Zaa, kzz, kz11, kz12, maxL, Zad] at *)); all_goals omega)))
  refine Za0 (Weak.list (tl := [(0, .rs i0 1 0 n), (1, iv a), (2, iv b), (8, iv 0), (9, .bool false)]) [(i0, .old i0, arow n d)] rfl (by rfl) ?_ (.old rfl (BLe.row rfl (fun x hx => ?_)) .nil)) ?_
  · ((repeat' first | exact TLes.nil | refine TLes.cons (TLe.eq rfl) ?_); skip)
  · rw [hd1]; exact Zdb (d := d0) (i := a) (j := pivot) (by omega) (by omega) (by simp) (by simp) (Za5 (by simp)) (Za5 (by simp)) x
  (repeat' first | refine Zac ?_ | (refine Zab tok (by rfl) ?_; conv => whnf) | refine Zai ?_)
  refine Zay (fun i : Nat => mkS [(0, .rs i0 1 0 n), (1, iv a), (8, iv 0), (9, .bool false), (10, iv i), (11, iv (b - 1))] [(i0, arow n d)])
    (fun i => (a + 1) ≤ i ∧ i ≤ (b - 1) + 2 ∧ scanUp (fun x => ltInt x d[a]!) d (b - 1) i = scanUp (fun x => ltInt x d[a]!) d (b - 1) (a + 1)) (fun i => (b - 1) + 2 - i) ((a + 1)) ⟨Nat.le_refl _, by omega, rfl⟩ ?_ ?_
  · refine Weak.list [(i0, .old i0, arow n d)] rfl (by rfl) ?_ (.old rfl (BLe.refl _) .nil)
    ((repeat' first | exact TLes.nil | refine TLes.cons (TLe.eq rfl) ?_ | refine TLes.cons (TLe.int ?_) ?_); (all_goals first | ((try (simp only [Zaa, kzz, kz11, kz12, maxL, Zad] at *)); exact Zal (by omega) (by omega)) | skip))
  rintro i ⟨hiu, hiu2, hU⟩
  ((repeat' first | refine Zac ?_ | (refine Zap tok mix (by rfl) ?_; conv => whnf) | (refine @And.intro (Zaa _ _ _ _) _ ?_ ?_; rotate_left; (conv => whnf); rotate_right)); all_goals (try ((guard_target = Zaa _ _ _ _); ((refine Zbe ?_; intro hgd; (conv at hgd => whnf))); (all_goals (try simp only [Zaa, kzz, kz11, kz12, maxL, Zad] at *)); all_goals omega)))
  · refine .inl ⟨_, _, _, uG (QC.fc (Zdv (d := d) (i := i) (j := a) _ _ (Za5 (by simp)) (Za5 (by simp))) rfl), ?_⟩
    conv => whnf
    (repeat' first | refine Zac ?_ | (refine Zab tok (by rfl) ?_; conv => whnf) | refine Zai ?_ | (refine Zag ?_; conv => whnf) | (refine Za1 ?_; conv => whnf) | refine Zaf rfl (fun hb => ?_) (fun hb => ?_))
    · have hc : i ≤ (b - 1) ∧ ltInt d[i]! d[a]! = true := by
        by_cases h1 : i ≤ (b - 1)
        · refine ⟨h1, ?_⟩
          rw [decide_eq_true (by omega)] at hb; exact hb
        · rw [decide_eq_false (by omega)] at hb; cases hb
      refine ⟨i + 1, ⟨by omega, by omega, ?_⟩, by omega, ?_⟩
      · rw [← hU]; conv => rhs; unfold scanUp
        rw [if_pos (by rw [Bool.and_eq_true]; exact ⟨by simpa using hc.1, hc.2⟩)]
      refine Weak.list [(i0, .old i0, arow n d)] rfl (by rfl) ?_ (.old rfl (BLe.refl _) .nil)
      ((repeat' first | exact TLes.nil | refine TLes.cons (TLe.eq rfl) ?_ | refine TLes.cons (TLe.int ?_) ?_); (all_goals first | ((try (simp only [Zaa, kzz, kz11, kz12, maxL, Zad] at *)); exact Zal (by omega) (by omega)) | skip))
    have hcU : ¬ (i ≤ (b - 1) ∧ ltInt d[i]! d[a]! = true) := by
      rintro ⟨h1, h2⟩
      rw [decide_eq_true (by omega), h2] at hb; cases hb
    have hU2 : scanUp (fun x => ltInt x d[a]!) d (b - 1) (a + 1) = i := by
      rw [← hU]; unfold scanUp; rw [if_neg (by rw [Bool.and_eq_true]; intro h; exact hcU ⟨by simpa using h.1, h.2⟩)]
    clear hb hU
    refine Zay (fun j : Nat => mkS [(0, .rs i0 1 0 n), (1, iv a), (8, iv 0), (9, .bool false), (10, iv i), (11, iv j)] [(i0, arow n d)])
      (fun j => j ≤ (b - 1) ∧ i ≤ j + 2 ∧ scanDown (fun x => !ltInt x d[a]!) d i j = scanDown (fun x => !ltInt x d[a]!) d i (b - 1)) (fun j => j) ((b - 1)) ⟨Nat.le_refl _, by omega, rfl⟩ ?_ ?_
    · refine Weak.list [(i0, .old i0, arow n d)] rfl (by rfl) ?_ (.old rfl (BLe.refl _) .nil)
      ((repeat' first | exact TLes.nil | refine TLes.cons (TLe.eq rfl) ?_ | refine TLes.cons (TLe.int ?_) ?_); (all_goals first | ((try (simp only [Zaa, kzz, kz11, kz12, maxL, Zad] at *)); omega) | skip))
    rintro j ⟨hjd, hjd2, hD⟩
    ((repeat' first | refine Zac ?_ | (refine Zap tok mix (by rfl) ?_; conv => whnf) | (refine @And.intro (Zaa _ _ _ _) _ ?_ ?_; rotate_left; (conv => whnf); rotate_right)); all_goals (try ((guard_target = Zaa _ _ _ _); ((refine Zbe ?_; intro hgd; (conv at hgd => whnf))); (all_goals (try simp only [Zaa, kzz, kz11, kz12, maxL, Zad] at *)); all_goals omega)))
    · refine .inl ⟨_, _, _, uG (QC.fc (Zdv (d := d) (i := j) (j := a) _ _ (Za5 (by simp)) (Za5 (by simp))) rfl), ?_⟩
      conv => whnf
      ((repeat' first | refine Zac ?_ | (refine Zab tok (by rfl) ?_; conv => whnf) | (refine Zap tok mix (by rfl) ?_; conv => whnf) | refine Zai ?_ | (refine Zag ?_; conv => whnf) | (refine Za1 ?_; conv => whnf) | (refine Zaj ?_; conv => whnf) | refine Zaf rfl (fun hb => ?_) (fun hb => ?_) | (refine @And.intro (Zaa _ _ _ _) _ ?_ ?_; rotate_left; (conv => whnf); rotate_right)); all_goals (try ((guard_target = Zaa _ _ _ _); refine Zae ?_; (all_goals (try simp only [Zaa, kzz, kz11, kz12, maxL, Zad] at *)); all_goals omega)))
      · have hc : i ≤ j ∧ (!ltInt d[j]! d[a]!) = true := by
          by_cases h1 : i ≤ j
          · refine ⟨h1, ?_⟩
            rw [decide_eq_true (by omega)] at hb; exact hb
          · rw [decide_eq_false (by omega)] at hb; cases hb
        refine ⟨j - 1, ⟨by omega, by omega, ?_⟩, by omega, ?_⟩
        · rw [← hD]
          obtain ⟨j, rfl⟩ : ∃ k, j = k + 1 := ⟨j - 1, by omega⟩
          conv => rhs; unfold scanDown
          rw [if_pos (by rw [Bool.and_eq_true]; exact ⟨by simpa using hc.1, hc.2⟩)]; rfl
        refine Weak.list [(i0, .old i0, arow n d)] rfl (by rfl) ?_ (.old rfl (BLe.refl _) .nil)
        ((repeat' first | exact TLes.nil | refine TLes.cons (TLe.eq rfl) ?_ | refine TLes.cons (TLe.int ?_) ?_); (all_goals first | ((try (simp only [Zaa, kzz, kz11, kz12, maxL, Zad] at *)); (simp (disch := omega) only [Zal]; omega)) | skip))
      all_goals
        have hcD : ¬ (i ≤ j ∧ (!ltInt d[j]! d[a]!) = true) := by
          rintro ⟨h1, h2⟩
          have hb2 := hb
          first | (rw [decide_eq_true (by omega), h2] at hb2; cases hb2; done) | (rename_i hb3 _; rw [decide_eq_true (by omega), h2] at hb3; cases hb3; done) | (rename_i hb3; rw [decide_eq_true (by omega), h2] at hb3; cases hb3; done)
        have hD2 : scanDown (fun x => !ltInt x d[a]!) d i (b - 1) = j := by
          rw [← hD]
          cases j with
          | zero => rfl
          | succ j => unfold scanDown; rw [if_neg (by rw [Bool.and_eq_true]; intro h; exact hcD ⟨by simpa using h.1, h.2⟩)]
      · have hij : j < i := by simp only [Zaa, kzz, kz11, kz12, maxL, Zad] at *; omega
        have hRes : R = (j, true, swp d j a) := by rw [hR]; simp only [hU2, hD2]; rw [if_pos hij]
        rw [hRes]
        exact ⟨_, [(i0, .old i0, arow n (swp d j a))], rfl, rfl, rfl, rfl, .old rfl (BLe.row rfl (fun x hx => Zdb (d := d) (i := j) (j := a) (by omega) (by omega) (by simp) (by simp) (Za5 (by simp)) (Za5 (by simp)) x)) .nil, .eq rfl⟩
      · have hij : i ≤ j := by simp only [Zaa, kzz, kz11, kz12, maxL, Zad] at *; omega
        obtain ⟨RL, hRL⟩ : ∃ RL, RL = partLoop ltInt a (i + 1) (j - 1) (swp d i j) := ⟨_, rfl⟩
        have hR2 : R = (RL.1, false, swp RL.2 RL.1 a) := by rw [hR]; simp only [hU2, hD2]; rw [if_neg (by omega), ← hRL]
        refine Zay (fun q : (Nat × Nat) × Array Int => mkS [(0, .rs i0 1 0 n), (1, iv a), (8, iv 0), (9, .bool false), (10, iv q.1.1), (11, iv q.1.2)] [(i0, arow n q.2)])
          (fun q => a + 1 ≤ q.1.1 ∧ q.1.1 ≤ q.1.2 + 2 ∧ q.1.2 ≤ b - 1 ∧ q.2.size = n ∧ partLoop ltInt a q.1.1 q.1.2 q.2 = RL) (fun q => q.1.2 + 2 - q.1.1) ((i + 1, j - 1), swp d i j) ⟨by simp; omega, by simp; omega, by simp; omega, by rw [Zby]; exact hd, hRL.symm⟩ ?_ ?_
        · refine Weak.list [(i0, .old i0, arow n (swp d i j))] rfl (by rfl) ?_ (.old rfl (BLe.row rfl (fun x hx => Zdb (d := d) (i := i) (j := j) (by omega) (by omega) (by simp) (by simp) (Za5 (by simp)) (Za5 (by simp)) x)) .nil)
          ((repeat' first | exact TLes.nil | refine TLes.cons (TLe.eq rfl) ?_ | refine TLes.cons (TLe.int ?_) ?_); (all_goals first | ((try (simp only [Zaa, kzz, kz11, kz12, maxL, Zad] at *)); first | exact Zal (by omega) (by omega) | (simp (disch := omega) only [Zal]; omega)) | skip))
        rintro ⟨⟨u, v⟩, d⟩ ⟨hu1, hu2, hv1, hd, hRL⟩
        simp only at hu1 hu2 hv1 hd hRL ⊢
        (repeat' first | refine Zac ?_ | refine Zai ?_)
        refine Zay (fun i : Nat => mkS [(0, .rs i0 1 0 n), (1, iv a), (8, iv 0), (9, .bool false), (10, iv i), (11, iv v)] [(i0, arow n d)])
          (fun i => u ≤ i ∧ i ≤ v + 2 ∧ scanUp (fun x => ltInt x d[a]!) d v i = scanUp (fun x => ltInt x d[a]!) d v u) (fun i => v + 2 - i) (u) ⟨Nat.le_refl _, by omega, rfl⟩ ?_ ?_
        · refine Weak.list [(i0, .old i0, arow n d)] rfl (by rfl) ?_ (.old rfl (BLe.refl _) .nil)
          ((repeat' first | exact TLes.nil | refine TLes.cons (TLe.eq rfl) ?_); skip)
        rintro i ⟨hiu, hiu2, hU⟩
        ((repeat' first | refine Zac ?_ | (refine Zap tok mix (by rfl) ?_; conv => whnf) | (refine @And.intro (Zaa _ _ _ _) _ ?_ ?_; rotate_left; (conv => whnf); rotate_right)); all_goals (try ((guard_target = Zaa _ _ _ _); ((refine Zbe ?_; intro hgd; (conv at hgd => whnf))); (all_goals (try simp only [Zaa, kzz, kz11, kz12, maxL, Zad] at *)); all_goals omega)))
        · refine .inl ⟨_, _, _, uG (QC.fc (Zdv (d := d) (i := i) (j := a) _ _ (Za5 (by simp)) (Za5 (by simp))) rfl), ?_⟩
          conv => whnf
          (repeat' first | refine Zac ?_ | (refine Zab tok (by rfl) ?_; conv => whnf) | refine Zai ?_ | (refine Zag ?_; conv => whnf) | (refine Za1 ?_; conv => whnf) | refine Zaf rfl (fun hb => ?_) (fun hb => ?_))
          · have hc : i ≤ v ∧ ltInt d[i]! d[a]! = true := by
              by_cases h1 : i ≤ v
              · refine ⟨h1, ?_⟩
                rw [decide_eq_true (by omega)] at hb; exact hb
              · rw [decide_eq_false (by omega)] at hb; cases hb
            refine ⟨i + 1, ⟨by omega, by omega, ?_⟩, by omega, ?_⟩
            · rw [← hU]; conv => rhs; unfold scanUp
              rw [if_pos (by rw [Bool.and_eq_true]; exact ⟨by simpa using hc.1, hc.2⟩)]
            refine Weak.list [(i0, .old i0, arow n d)] rfl (by rfl) ?_ (.old rfl (BLe.refl _) .nil)
            ((repeat' first | exact TLes.nil | refine TLes.cons (TLe.eq rfl) ?_ | refine TLes.cons (TLe.int ?_) ?_); (all_goals first | ((try (simp only [Zaa, kzz, kz11, kz12, maxL, Zad] at *)); exact Zal (by omega) (by omega)) | skip))
          have hcU : ¬ (i ≤ v ∧ ltInt d[i]! d[a]! = true) := by
            rintro ⟨h1, h2⟩
            rw [decide_eq_true (by omega), h2] at hb; cases hb
          have hU2 : scanUp (fun x => ltInt x d[a]!) d v u = i := by
            rw [← hU]; unfold scanUp; rw [if_neg (by rw [Bool.and_eq_true]; intro h; exact hcU ⟨by simpa using h.1, h.2⟩)]
          clear hb hU
          refine Zay (fun j : Nat => mkS [(0, .rs i0 1 0 n), (1, iv a), (8, iv 0), (9, .bool false), (10, iv i), (11, iv j)] [(i0, arow n d)])
            (fun j => j ≤ v ∧ i ≤ j + 2 ∧ scanDown (fun x => !ltInt x d[a]!) d i j = scanDown (fun x => !ltInt x d[a]!) d i v) (fun j => j) (v) ⟨Nat.le_refl _, by omega, rfl⟩ ?_ ?_
          · refine Weak.list [(i0, .old i0, arow n d)] rfl (by rfl) ?_ (.old rfl (BLe.refl _) .nil)
            ((repeat' first | exact TLes.nil | refine TLes.cons (TLe.eq rfl) ?_); skip)
          rintro j ⟨hjd, hjd2, hD⟩
          ((repeat' first | refine Zac ?_ | (refine Zap tok mix (by rfl) ?_; conv => whnf) | (refine @And.intro (Zaa _ _ _ _) _ ?_ ?_; rotate_left; (conv => whnf); rotate_right)); all_goals (try ((guard_target = Zaa _ _ _ _); ((refine Zbe ?_; intro hgd; (conv at hgd => whnf))); (all_goals (try simp only [Zaa, kzz, kz11, kz12, maxL, Zad] at *)); all_goals omega)))
          · refine .inl ⟨_, _, _, uG (QC.fc (Zdv (d := d) (i := j) (j := a) _ _ (Za5 (by simp)) (Za5 (by simp))) rfl), ?_⟩
            conv => whnf
            ((repeat' first | refine Zac ?_ | (refine Zab tok (by rfl) ?_; conv => whnf) | (refine Zap tok mix (by rfl) ?_; conv => whnf) | refine Zai ?_ | (refine Zag ?_; conv => whnf) | (refine Za1 ?_; conv => whnf) | (refine Zaj ?_; conv => whnf) | refine Zaf rfl (fun hb => ?_) (fun hb => ?_) | (refine @And.intro (Zaa _ _ _ _) _ ?_ ?_; rotate_left; (conv => whnf); rotate_right)); all_goals (try ((guard_target = Zaa _ _ _ _); refine Zae ?_; (all_goals (try simp only [Zaa, kzz, kz11, kz12, maxL, Zad] at *)); all_goals omega)))
            · have hc : i ≤ j ∧ (!ltInt d[j]! d[a]!) = true := by
                by_cases h1 : i ≤ j
                · refine ⟨h1, ?_⟩
                  rw [decide_eq_true (by omega)] at hb; exact hb
                · rw [decide_eq_false (by omega)] at hb; cases hb
              refine ⟨j - 1, ⟨by omega, by omega, ?_⟩, by omega, ?_⟩
              · rw [← hD]
                obtain ⟨j, rfl⟩ : ∃ k, j = k + 1 := ⟨j - 1, by omega⟩
                conv => rhs; unfold scanDown
                rw [if_pos (by rw [Bool.and_eq_true]; exact ⟨by simpa using hc.1, hc.2⟩)]; rfl
              refine Weak.list [(i0, .old i0, arow n d)] rfl (by rfl) ?_ (.old rfl (BLe.refl _) .nil)
              ((repeat' first | exact TLes.nil | refine TLes.cons (TLe.eq rfl) ?_ | refine TLes.cons (TLe.int ?_) ?_); (all_goals first | ((try (simp only [Zaa, kzz, kz11, kz12, maxL, Zad] at *)); (simp (disch := omega) only [Zal]; omega)) | skip))
            all_goals
              have hcD : ¬ (i ≤ j ∧ (!ltInt d[j]! d[a]!) = true) := by
                rintro ⟨h1, h2⟩
                have hb2 := hb
                first | (rw [decide_eq_true (by omega), h2] at hb2; cases hb2; done) | (rename_i hb3 _; rw [decide_eq_true (by omega), h2] at hb3; cases hb3; done) | (rename_i hb3; rw [decide_eq_true (by omega), h2] at hb3; cases hb3; done)
              have hD2 : scanDown (fun x => !ltInt x d[a]!) d i v = j := by
                rw [← hD]
                cases j with
                | zero => rfl
                | succ j => unfold scanDown; rw [if_neg (by rw [Bool.and_eq_true]; intro h; exact hcD ⟨by simpa using h.1, h.2⟩)]
            · have hij : j < i := by simp only [Zaa, kzz, kz11, kz12, maxL, Zad] at *; omega
              have hlp : partLoop ltInt a u v d = (j, d) := by
                unfold partLoop; rw [hU2]; (try simp only []); rw [hD2]; (try simp only []); rw [if_pos hij]
              have hRes : R = (j, false, swp d j a) := by rw [hR2, ← hRL, hlp]
              rw [hRes]
              exact ⟨_, [(i0, .old i0, arow n (swp d j a))], rfl, rfl, rfl, rfl, .old rfl (BLe.row rfl (fun x hx => Zdb (d := d) (i := j) (j := a) (by omega) (by omega) (by simp) (by simp) (Za5 (by simp)) (Za5 (by simp)) x)) .nil, .eq rfl⟩
            · have hij : i ≤ j := by simp only [Zaa, kzz, kz11, kz12, maxL, Zad] at *; omega
              refine ⟨((i + 1, j - 1), swp d i j), ⟨by simp; omega, by simp; omega, by simp; omega, by rw [Zby]; exact hd, ?_⟩, by simp; omega, ?_⟩
              · rw [← hRL]; conv => rhs; unfold partLoop
                rw [hU2]; (try simp only []); rw [hD2]; (try simp only [])
                rw [if_neg (by omega), dif_pos (by omega)]
              refine Weak.list [(i0, .old i0, arow n (swp d i j))] rfl (by rfl) ?_ (.old rfl (BLe.row rfl (fun x hx => Zdb (d := d) (i := i) (j := j) (by omega) (by omega) (by simp) (by simp) (Za5 (by simp)) (Za5 (by simp)) x)) .nil)
              ((repeat' first | exact TLes.nil | refine TLes.cons (TLe.eq rfl) ?_ | refine TLes.cons (TLe.int ?_) ?_); (all_goals first | ((try (simp only [Zaa, kzz, kz11, kz12, maxL, Zad] at *)); first | exact Zal (by omega) (by omega) | (simp (disch := omega) only [Zal]; omega)) | skip))
end Go.Proofs.YtoelbgjpmpoolaaGreat
namespace Go.Proofs.YtoelbgjpmpoolaaGreat
open Go Dv Go.Sort
set_option maxRecDepth 10000
set_option linter.unusedSimpArgs false
theorem c_partEq (n : Nat) (d0 : Array Int) (a b pivot : Nat) (hn : d0.size = n) (hp1 : a ≤ pivot) (hp2 : pivot < b) (hb0 : b ≤ n) :
    HC Tryz.prog [i0] 236 [(i0, arow n d0)] [.rs i0 1 0 n, iv a, iv b, iv pivot] (iv (partitionEqual ltInt d0 a b pivot).1) [(i0, arow n (partitionEqual ltInt d0 a b pivot).2)] := by
  refine Zbr tok Tryz.func236 rfl (by decide +kernel) (Nat.le_of_ble_eq_true rfl) ?_
  refine Zas 0 (fun hl => ?_)
  have hl0 : n ≤ 4294967296 := hl
  obtain ⟨d, hd1⟩ : ∃ d, d = swp d0 a pivot := ⟨_, rfl⟩
  have hd : d.size = n := by rw [hd1, Zby]; exact hn
  obtain ⟨RL, hRL⟩ : ∃ RL, RL = partEqLoop ltInt a (a + 1) (b - 1) d := ⟨_, rfl⟩
  have hpart : partitionEqual ltInt d0 a b pivot = RL := by rw [hRL, hd1]; rfl
  rw [hpart]; clear hpart
  ((repeat' ((fail_if_success (show AWp _ _ _ (Code.region 2 _ _) _ _)); first | refine Zac ?_ | (refine Zab tok (by rfl) ?_; conv => whnf) | (refine Zap tok mix (by rfl) ?_; conv => whnf) | (refine @And.intro (Zaa _ _ _ _) _ ?_ ?_; rotate_left; (conv => whnf); rotate_right))); all_goals (try ((guard_target = Zaa _ _ _ _); refine Zae ?_; (all_goals (try simp only [Zaa, kzz, kz11, kz12, maxL, Zad] at *)); all_goals omega)))
  refine Za0 (Weak.list (tl := [(0, .rs i0 1 0 n), (1, iv a), (2, iv b), (8, iv 0)]) [(i0, .old i0, arow n d)] rfl (by rfl) ?_ (.old rfl (BLe.row rfl (fun x hx => ?_)) .nil)) ?_
  · ((repeat' first | exact TLes.nil | refine TLes.cons (TLe.eq rfl) ?_); skip)
  · rw [hd1]; exact Zdb (d := d0) (i := a) (j := pivot) (by omega) (by omega) (by simp) (by simp) (Za5 (by simp)) (Za5 (by simp)) x
  (repeat' first | refine Zac ?_ | (refine Zab tok (by rfl) ?_; conv => whnf) | refine Zai ?_)
  refine Zay (fun q : (Nat × Nat) × Array Int => mkS [(0, .rs i0 1 0 n), (1, iv a), (8, iv 0), (9, iv q.1.1), (10, iv q.1.2)] [(i0, arow n q.2)])
    (fun q => a + 1 ≤ q.1.1 ∧ q.1.1 ≤ q.1.2 + 2 ∧ q.1.2 ≤ b - 1 ∧ q.2.size = n ∧ partEqLoop ltInt a q.1.1 q.1.2 q.2 = RL) (fun q => q.1.2 + 2 - q.1.1) ((a + 1, b - 1), d) ⟨by simp, by simp; omega, by simp, hd, hRL.symm⟩ ?_ ?_
  · refine Weak.list [(i0, .old i0, arow n d)] rfl (by rfl) ?_ (.old rfl (BLe.refl _) .nil)
    ((repeat' first | exact TLes.nil | refine TLes.cons (TLe.eq rfl) ?_ | refine TLes.cons (TLe.int ?_) ?_); (all_goals first | ((try (simp only [Zaa, kzz, kz11, kz12, maxL, Zad] at *)); first | exact Zal (by omega) (by omega) | (simp (disch := omega) only [Zal]; omega)) | skip))
  clear hRL hd hd1
  rintro ⟨⟨u, v⟩, d⟩ ⟨hu1, hu2, hv1, hd, hRL⟩
  simp only at hu1 hu2 hv1 hd hRL ⊢
  (repeat' first | refine Zac ?_ | refine Zai ?_)
  refine Zay (fun i : Nat => mkS [(0, .rs i0 1 0 n), (1, iv a), (8, iv 0), (9, iv i), (10, iv v)] [(i0, arow n d)])
    (fun i => u ≤ i ∧ i ≤ v + 2 ∧ scanUp (fun x => !ltInt d[a]! x) d v i = scanUp (fun x => !ltInt d[a]! x) d v u) (fun i => v + 2 - i) (u) ⟨Nat.le_refl _, by omega, rfl⟩ ?_ ?_
  · refine Weak.list [(i0, .old i0, arow n d)] rfl (by rfl) ?_ (.old rfl (BLe.refl _) .nil)
    ((repeat' first | exact TLes.nil | refine TLes.cons (TLe.eq rfl) ?_); skip)
  rintro i ⟨hiu, hiu2, hU⟩
  ((repeat' first | refine Zac ?_ | (refine Zap tok mix (by rfl) ?_; conv => whnf) | (refine @And.intro (Zaa _ _ _ _) _ ?_ ?_; rotate_left; (conv => whnf); rotate_right)); all_goals (try ((guard_target = Zaa _ _ _ _); ((refine Zbe ?_; intro hgd; (conv at hgd => whnf))); (all_goals (try simp only [Zaa, kzz, kz11, kz12, maxL, Zad] at *)); all_goals omega)))
  · refine .inl ⟨_, _, _, uG (QC.fc (Zdv (d := d) (i := a) (j := i) _ _ (Za5 (by simp)) (Za5 (by simp))) rfl), ?_⟩
    conv => whnf
    (repeat' first | refine Zac ?_ | (refine Zab tok (by rfl) ?_; conv => whnf) | refine Zai ?_ | (refine Zag ?_; conv => whnf) | (refine Za1 ?_; conv => whnf) | refine Zaf rfl (fun hb => ?_) (fun hb => ?_))
    · have hc : i ≤ v ∧ (!ltInt d[a]! d[i]!) = true := by
        by_cases h1 : i ≤ v
        · refine ⟨h1, ?_⟩
          rw [decide_eq_true (by omega)] at hb; exact hb
        · rw [decide_eq_false (by omega)] at hb; cases hb
      refine ⟨i + 1, ⟨by omega, by omega, ?_⟩, by omega, ?_⟩
      · rw [← hU]; conv => rhs; unfold scanUp
        rw [if_pos (by rw [Bool.and_eq_true]; exact ⟨by simpa using hc.1, hc.2⟩)]
      refine Weak.list [(i0, .old i0, arow n d)] rfl (by rfl) ?_ (.old rfl (BLe.refl _) .nil)
      ((repeat' first | exact TLes.nil | refine TLes.cons (TLe.eq rfl) ?_ | refine TLes.cons (TLe.int ?_) ?_); (all_goals first | ((try (simp only [Zaa, kzz, kz11, kz12, maxL, Zad] at *)); exact Zal (by omega) (by omega)) | skip))
    have hcU : ¬ (i ≤ v ∧ (!ltInt d[a]! d[i]!) = true) := by
      rintro ⟨h1, h2⟩
      rw [decide_eq_true (by omega), h2] at hb; cases hb
    have hU2 : scanUp (fun x => !ltInt d[a]! x) d v u = i := by
      rw [← hU]; unfold scanUp; rw [if_neg (by rw [Bool.and_eq_true]; intro h; exact hcU ⟨by simpa using h.1, h.2⟩)]
    clear hb hU
    refine Zay (fun j : Nat => mkS [(0, .rs i0 1 0 n), (1, iv a), (8, iv 0), (9, iv i), (10, iv j)] [(i0, arow n d)])
      (fun j => j ≤ v ∧ i ≤ j + 2 ∧ scanDown (fun x => ltInt d[a]! x) d i j = scanDown (fun x => ltInt d[a]! x) d i v) (fun j => j) (v) ⟨Nat.le_refl _, by omega, rfl⟩ ?_ ?_
    · refine Weak.list [(i0, .old i0, arow n d)] rfl (by rfl) ?_ (.old rfl (BLe.refl _) .nil)
      ((repeat' first | exact TLes.nil | refine TLes.cons (TLe.eq rfl) ?_); skip)
    rintro j ⟨hjd, hjd2, hD⟩
    ((repeat' first | refine Zac ?_ | (refine Zap tok mix (by rfl) ?_; conv => whnf) | (refine @And.intro (Zaa _ _ _ _) _ ?_ ?_; rotate_left; (conv => whnf); rotate_right)); all_goals (try ((guard_target = Zaa _ _ _ _); ((refine Zbe ?_; intro hgd; (conv at hgd => whnf))); (all_goals (try simp only [Zaa, kzz, kz11, kz12, maxL, Zad] at *)); all_goals omega)))
    · refine .inl ⟨_, _, _, uG (QC.fc (Zdv (d := d) (i := a) (j := j) _ _ (Za5 (by simp)) (Za5 (by simp))) rfl), ?_⟩
      conv => whnf
      ((repeat' first | refine Zac ?_ | (refine Zab tok (by rfl) ?_; conv => whnf) | (refine Zap tok mix (by rfl) ?_; conv => whnf) | refine Zai ?_ | (refine Zag ?_; conv => whnf) | (refine Za1 ?_; conv => whnf) | (refine Zaj ?_; conv => whnf) | refine Zaf rfl (fun hb => ?_) (fun hb => ?_) | (refine @And.intro (Zaa _ _ _ _) _ ?_ ?_; rotate_left; (conv => whnf); rotate_right)); all_goals (try ((guard_target = Zaa _ _ _ _); refine Zae ?_; (all_goals (try simp only [Zaa, kzz, kz11, kz12, maxL, Zad] at *)); all_goals omega)))
      · have hc : i ≤ j ∧ ltInt d[a]! d[j]! = true := by
          by_cases h1 : i ≤ j
          · refine ⟨h1, ?_⟩
            rw [decide_eq_true (by omega)] at hb; exact hb
          · rw [decide_eq_false (by omega)] at hb; cases hb
        refine ⟨j - 1, ⟨by omega, by omega, ?_⟩, by omega, ?_⟩
        · rw [← hD]
          obtain ⟨j, rfl⟩ : ∃ k, j = k + 1 := ⟨j - 1, by omega⟩
          conv => rhs; unfold scanDown
          rw [if_pos (by rw [Bool.and_eq_true]; exact ⟨by simpa using hc.1, hc.2⟩)]; rfl
        refine Weak.list [(i0, .old i0, arow n d)] rfl (by rfl) ?_ (.old rfl (BLe.refl _) .nil)
        ((repeat' first | exact TLes.nil | refine TLes.cons (TLe.eq rfl) ?_ | refine TLes.cons (TLe.int ?_) ?_); (all_goals first | ((try (simp only [Zaa, kzz, kz11, kz12, maxL, Zad] at *)); (simp (disch := omega) only [Zal]; omega)) | skip))
      all_goals
        have hcD : ¬ (i ≤ j ∧ ltInt d[a]! d[j]! = true) := by
          rintro ⟨h1, h2⟩
          have hb2 := hb
          first | (rw [decide_eq_true (by omega), h2] at hb2; cases hb2; done) | (rename_i hb3 _; rw [decide_eq_true (by omega), h2] at hb3; cases hb3; done) | (rename_i hb3; rw [decide_eq_true (by omega), h2] at hb3; cases hb3; done)
        have hD2 : scanDown (fun x => ltInt d[a]! x) d i v = j := by
          rw [← hD]
          cases j with
          | zero => rfl
          | succ j => unfold scanDown; rw [if_neg (by rw [Bool.and_eq_true]; intro h; exact hcD ⟨by simpa using h.1, h.2⟩)]
      · have hij : j < i := by simp only [Zaa, kzz, kz11, kz12, maxL, Zad] at *; omega
        have hlp : partEqLoop ltInt a u v d = (i, d) := by
          unfold partEqLoop; rw [hU2]; (try simp only []); rw [hD2]; (try simp only []); rw [if_pos hij]
        have hRes : RL = (i, d) := by rw [← hRL, hlp]
        rw [hRes]
        exact ⟨_, [(i0, .old i0, arow n d)], rfl, rfl, rfl, rfl, .old rfl (BLe.refl _) .nil, .eq rfl⟩
      · have hij : i ≤ j := by simp only [Zaa, kzz, kz11, kz12, maxL, Zad] at *; omega
        refine ⟨((i + 1, j - 1), swp d i j), ⟨by simp; omega, by simp; omega, by simp; omega, by rw [Zby]; exact hd, ?_⟩, by simp; omega, ?_⟩
        · rw [← hRL]; conv => rhs; unfold partEqLoop
          rw [hU2]; (try simp only []); rw [hD2]; (try simp only [])
          rw [if_neg (by omega), dif_pos (by omega)]
        refine Weak.list [(i0, .old i0, arow n (swp d i j))] rfl (by rfl) ?_ (.old rfl (BLe.row rfl (fun x hx => Zdb (d := d) (i := i) (j := j) (by omega) (by omega) (by simp) (by simp) (Za5 (by simp)) (Za5 (by simp)) x)) .nil)
        ((repeat' first | exact TLes.nil | refine TLes.cons (TLe.eq rfl) ?_ | refine TLes.cons (TLe.int ?_) ?_); (all_goals first | ((try (simp only [Zaa, kzz, kz11, kz12, maxL, Zad] at *)); first | exact Zal (by omega) (by omega) | (simp (disch := omega) only [Zal]; omega)) | skip))
end Go.Proofs.YtoelbgjpmpoolaaGreat
namespace Go.Proofs.YtoelbgjpmpoolaaGreat
open Go Dv Go.Sort
set_option maxRecDepth 10000
set_option linter.unusedSimpArgs false
theorem shiftDown_size : ∀ (k : Nat) (d : Array Int), (shiftDown ltInt k d).size = d.size
  | 0, _ => rfl
  | k + 1, d => by
      simp only [shiftDown]; split
      · rfl
      · rw [shiftDown_size, Zby]
theorem shiftUp_size : ∀ (m b j : Nat) (d : Array Int), b - j ≤ m → (shiftUp ltInt b j d).size = d.size
  | 0, b, j, d, h => by unfold shiftUp; rw [if_neg (by omega)]
  | m + 1, b, j, d, h => by
      unfold shiftUp; split
      · split
        · rfl
        · rw [shiftUp_size m b _ _ (by omega), Zby]
      · rfl
theorem scan_end {d : Array Int} {b k : Nat} (h : (bif decide ((k : Int) < (b : Int)) then !ltInt d[k]! d[k - 1]! else false) = false) : scanSorted ltInt d b k = k := by
  unfold scanSorted
  rw [if_neg]
  rw [Bool.and_eq_true]
  rintro ⟨h1, h2⟩
  simp only [decide_eq_true_eq] at h1
  rw [decide_eq_true (by omega), h2] at h; cases h
theorem c_partial (n : Nat) (d0 : Array Int) (a b : Nat) (hn : d0.size = n) (ha : a < b) (hb0 : b ≤ n) :
    HC Tryz.prog [i0] 234 [(i0, arow n d0)] [.rs i0 1 0 n, iv a, iv b] (.bool (partialInsertionSort ltInt d0 a b).2) [(i0, arow n (partialInsertionSort ltInt d0 a b).1)] := by
  refine Zbr tok Tryz.func234 rfl (by decide +kernel) (Nat.le_of_ble_eq_true rfl) ?_
  refine Zas 0 (fun hl => ?_)
  have hl0 : n ≤ 4294967296 := hl
  obtain ⟨R, hR0⟩ : ∃ R, R = partialInsertionSort ltInt d0 a b := ⟨_, rfl⟩
  rw [← hR0]
  (repeat' first | refine Zac ?_ | (refine Zab tok (by rfl) ?_; conv => whnf) | refine Zai ?_)
  refine Zay (fun q : (Nat × Nat) × Array Int => mkS [(0, .rs i0 1 0 n), (1, iv a), (2, iv b), (6, .bool false), (7, iv q.1.2), (8, iv (5 - (q.1.1 : Int)))] [(i0, arow n q.2)])
    (fun q => q.1.1 ≤ 5 ∧ a + 1 ≤ q.1.2 ∧ q.1.2 ≤ b ∧ q.2.size = n ∧ partialIns ltInt a b q.1.1 q.1.2 q.2 = R) (fun q => q.1.1) ((5, a + 1), d0) ⟨by simp, by simp, by simp; omega, hn, hR0.symm⟩ ?_ ?_
  · refine Weak.list [(i0, .old i0, arow n d0)] rfl (by rfl) ?_ (.old rfl (BLe.refl _) .nil)
    ((repeat' first | exact TLes.nil | refine TLes.cons (TLe.eq rfl) ?_ | refine TLes.cons (TLe.int ?_) ?_); (all_goals first | ((try (simp only [Zaa, kzz, kz11, kz12, maxL, Zad] at *)); exact Zal (by omega) (by omega)) | skip))
  clear hR0
  rintro ⟨⟨s, i⟩, d⟩ ⟨hs, hi1, hi2, hd, hR⟩
  simp only at hs hi1 hi2 hd hR ⊢
  (repeat' first | refine Zac ?_ | (refine Zab tok (by rfl) ?_; conv => whnf) | refine Zai ?_ | (refine Zag ?_; conv => whnf) | (refine Za1 ?_; conv => whnf) | (refine Zaj ?_; conv => whnf) | refine Zaf rfl (fun hb => ?_) (fun hb => ?_))
  · have hs1 : 1 ≤ s := by simp only [Zaa, kzz, kz11, kz12, maxL, Zad] at *; omega
    obtain ⟨s, rfl⟩ : ∃ k, s = k + 1 := ⟨s - 1, by omega⟩
    clear hb
    refine Zay (fun k : Nat => mkS [(0, .rs i0 1 0 n), (1, iv a), (2, iv b), (6, .bool false), (7, iv k), (8, iv (5 - ((s + 1 : Nat) : Int)))] [(i0, arow n d)])
      (fun k => i ≤ k ∧ k ≤ b ∧ scanSorted ltInt d b k = scanSorted ltInt d b i) (fun k => b - k) i ⟨Nat.le_refl _, hi2, rfl⟩ ?_ ?_
    · refine Weak.list [(i0, .old i0, arow n d)] rfl (by rfl) ?_ (.old rfl (BLe.refl _) .nil)
      ((repeat' first | exact TLes.nil | refine TLes.cons (TLe.eq rfl) ?_); skip)
    rintro k ⟨hk1, hk2, hS⟩
    have hm1 : d[0 + (IntKind.i64.wrap ((k : Int) - 1)).toNat]! = d[k - 1]! := by simp (disch := omega) only [Zal]; exact Za5 (by omega)
    (repeat' ((fail_if_success (show AWp _ _ _ (Code.region 5 _ _) _ _)); refine Zac ?_))
    ((repeat' first | (refine Zap tok mix (by rfl) ?_; conv => whnf) | (refine @And.intro (Zaa _ _ _ _) _ ?_ ?_; rotate_left; (conv => whnf); rotate_right)); all_goals (try ((guard_target = Zaa _ _ _ _); ((refine Zbe ?_; intro hgd; (conv at hgd => whnf))); (all_goals (try simp only [Zaa, kzz, kz11, kz12, maxL, Zad] at *)); (all_goals (try (simp (disch := omega) only [Zal]))); all_goals omega)))
    refine .inl ⟨_, _, _, uG (QC.fc (Zdv (d := d) (i := k) (j := k - 1) _ _ (Za5 (by simp)) hm1) rfl), ?_⟩
    conv => whnf
    ((repeat' ((fail_if_success (show AWp _ _ _ (Code.region 12 _ _) _ _)); first | refine Zac ?_ | (refine Zab tok (by rfl) ?_; conv => whnf) | (refine Zap tok mix (by rfl) ?_; conv => whnf) | refine Zai ?_ | (refine Zag ?_; conv => whnf) | (refine Za1 ?_; conv => whnf) | (refine Zaj ?_; conv => whnf) | refine Zaf rfl (fun hb => ?_) (fun hb => ?_) | (refine @And.intro (Zaa _ _ _ _) _ ?_ ?_; rotate_left; (conv => whnf); rotate_right))); all_goals (try ((guard_target = Zaa _ _ _ _); refine Zae ?_; (all_goals (try simp only [Zaa, kzz, kz11, kz12, maxL, Zad] at *)); (all_goals (try (simp (disch := omega) only [Zal]))); all_goals omega)))
    · have hc : k < b ∧ (!ltInt d[k]! d[k - 1]!) = true := by
        by_cases h1 : k < b
        · refine ⟨h1, ?_⟩
          rw [decide_eq_true (by omega)] at hb; exact hb
        · rw [decide_eq_false (by omega)] at hb; cases hb
      refine ⟨k + 1, ⟨by omega, by omega, ?_⟩, by omega, ?_⟩
      · rw [← hS]; conv => rhs; unfold scanSorted
        rw [if_pos (by rw [Bool.and_eq_true]; exact ⟨by simpa using hc.1, hc.2⟩)]
      refine Weak.list [(i0, .old i0, arow n d)] rfl (by rfl) ?_ (.old rfl (BLe.refl _) .nil)
      ((repeat' first | exact TLes.nil | refine TLes.cons (TLe.eq rfl) ?_ | refine TLes.cons (TLe.int ?_) ?_); (all_goals first | ((try (simp only [Zaa, kzz, kz11, kz12, maxL, Zad] at *)); exact Zal (by omega) (by omega)) | skip))
    · rename_i hx
      have hSk : scanSorted ltInt d b i = k := by rw [← hS]; exact scan_end hx
      have hkb : k = b := by simp only [Zaa, kzz, kz11, kz12, maxL, Zad] at *; omega
      have hRes : R = (d, true) := by rw [← hR]; simp only [partialIns, hSk]; rw [if_pos hkb]
      rw [hRes]
      exact ⟨_, [(i0, .old i0, arow n d)], rfl, rfl, rfl, rfl, .old rfl (BLe.refl _) .nil, .eq rfl⟩
    · rename_i hx hy
      have hSk : scanSorted ltInt d b i = k := by rw [← hS]; exact scan_end hx
      have hkb : k ≠ b := by simp only [Zaa, kzz, kz11, kz12, maxL, Zad] at *; omega
      have h50 : b - a < 50 := by simp (disch := omega) only [Zal] at hb; simp only [Zaa, kzz, kz11, kz12, maxL, Zad] at *; omega
      have hRes : R = (d, false) := by rw [← hR]; simp only [partialIns, hSk]; rw [if_neg hkb, if_pos h50]
      rw [hRes]
      exact ⟨_, [(i0, .old i0, arow n d)], rfl, rfl, rfl, rfl, .old rfl (BLe.refl _) .nil, .eq rfl⟩
    rename_i hx hy
    have hSk : scanSorted ltInt d b i = k := by rw [← hS]; exact scan_end hx
    have hkb : k ≠ b := by simp only [Zaa, kzz, kz11, kz12, maxL, Zad] at *; omega
    have h50 : ¬ b - a < 50 := by simp (disch := omega) only [Zal] at hb; simp only [Zaa, kzz, kz11, kz12, maxL, Zad] at *; omega
    obtain ⟨d2, hd2⟩ : ∃ x, x = swp d k (k - 1) := ⟨_, rfl⟩
    obtain ⟨d3, hd3⟩ : ∃ x, x = if k - a ≥ 2 then shiftDown ltInt (k - 1) d2 else d2 := ⟨_, rfl⟩
    obtain ⟨d4, hd4⟩ : ∃ x, x = if b - k ≥ 2 then shiftUp ltInt b (k + 1) d3 else d3 := ⟨_, rfl⟩
    have hR2 : partialIns ltInt a b s k d4 = R := by rw [← hR]; simp only [partialIns, hSk]; rw [if_neg hkb, if_neg h50, hd4, hd3, hd2]
    have z2 : d2.size = n := by rw [hd2, Zby]; exact hd
    have z3 : d3.size = n := by rw [hd3]; split <;> simp [shiftDown_size, z2]
    have z4 : d4.size = n := by rw [hd4]; split <;> simp [shiftUp_size _ _ _ _ (Nat.le_refl _), z3]
    refine Za0 (Weak.list (tl := [(0, .rs i0 1 0 n), (1, iv a), (2, iv b), (6, .bool false), (7, iv k), (8, iv (5 - ((s + 1 : Nat) : Int)))]) [(i0, .old i0, arow n d2)] rfl (by rfl) ?_ (.old rfl (BLe.row rfl (fun x hx => ?_)) .nil)) ?_
    · ((repeat' first | exact TLes.nil | refine TLes.cons (TLe.eq rfl) ?_); skip)
    · rw [hd2]; exact Zdb (d := d) (i := k) (j := k - 1) (by omega) (by omega) (by simp) (by simp (disch := omega) only [Zal]; omega) hm1 (Za5 (by simp)) x
    clear hx hy hb hR hS hSk hm1 hd2
    (repeat' (refine Zab tok (by rfl) ?_; conv => whnf))
    refine Zdq (fun _ : Unit => mkS [(0, .rs i0 1 0 n), (1, iv a), (2, iv b), (6, .bool false), (7, iv k), (8, iv (5 - ((s + 1 : Nat) : Int)))] [(i0, arow n d3)]) (fun _ => True) ?_ ?_
    · (repeat' first | refine Zac ?_ | (refine Zab tok (by rfl) ?_; conv => whnf) | refine Zai ?_ | (refine Zag ?_; conv => whnf) | refine Zaf rfl (fun hb => ?_) (fun hb => ?_))
      · have hk2 : k - a ≥ 2 := by simp (disch := omega) only [Zal] at hb; simp only [Zaa, kzz, kz11, kz12, maxL, Zad] at *; omega
        rw [if_pos hk2] at hd3
        refine Zay (fun q : Nat × Array Int => mkS [(0, .rs i0 1 0 n), (1, iv a), (2, iv b), (6, .bool false), (7, iv k), (8, iv (5 - ((s + 1 : Nat) : Int))), (9, iv q.1)] [(i0, arow n q.2)])
          (fun q => q.1 ≤ k - 1 ∧ q.2.size = n ∧ shiftDown ltInt q.1 q.2 = d3) (fun q => q.1) (k - 1, d2) ⟨Nat.le_refl _, z2, hd3.symm⟩ ?_ ?_
        · refine Weak.list [(i0, .old i0, arow n d2)] rfl (by rfl) ?_ (.old rfl (BLe.refl _) .nil)
          ((repeat' first | exact TLes.nil | refine TLes.cons (TLe.eq rfl) ?_ | refine TLes.cons (TLe.int ?_) ?_); (all_goals first | ((try (simp only [Zaa, kzz, kz11, kz12, maxL, Zad] at *)); (simp (disch := omega) only [Zal]; omega)) | skip))
        rintro ⟨j, e⟩ ⟨hj, he, hq⟩
        simp only at hj he hq ⊢
        have hm2 : e[0 + (IntKind.i64.wrap ((j : Int) - 1)).toNat]! = e[j - 1]! := by simp (disch := omega) only [Zal]; exact Za5 (by omega)
        ((repeat' first | refine Zac ?_ | (refine Zab tok (by rfl) ?_; conv => whnf) | (refine Zap tok mix (by rfl) ?_; conv => whnf) | refine Zai ?_ | (refine Zag ?_; conv => whnf) | (refine Za1 ?_; conv => whnf) | refine Zaf rfl (fun hb => ?_) (fun hb => ?_) | (refine @And.intro (Zaa _ _ _ _) _ ?_ ?_; rotate_left; (conv => whnf); rotate_right)); all_goals (try ((guard_target = Zaa _ _ _ _); refine Zae ?_; (all_goals (try simp only [Zaa, kzz, kz11, kz12, maxL, Zad] at *)); (all_goals (try (simp (disch := omega) only [Zal]))); all_goals omega)))
        · refine .inl ⟨_, _, _, uG (QC.fc (Zdv (d := e) (i := j) (j := j - 1) _ _ (Za5 (by simp)) hm2) rfl), ?_⟩
          conv => whnf
          have hj1 : 1 ≤ j := by simp only [Zaa, kzz, kz11, kz12, maxL, Zad] at *; omega
          obtain ⟨j, rfl⟩ : ∃ m, j = m + 1 := ⟨j - 1, by omega⟩
          ((repeat' first | (refine Zab tok (by rfl) ?_; conv => whnf) | (refine Zap tok mix (by rfl) ?_; conv => whnf) | (refine Zag ?_; conv => whnf) | (refine Za1 ?_; conv => whnf) | refine Zaf rfl (fun hb => ?_) (fun hb => ?_) | (refine @And.intro (Zaa _ _ _ _) _ ?_ ?_; rotate_left; (conv => whnf); rotate_right)); all_goals (try ((guard_target = Zaa _ _ _ _); refine Zae ?_; (all_goals (try simp only [Zaa, kzz, kz11, kz12, maxL, Zad] at *)); (all_goals (try (simp (disch := omega) only [Zal]))); all_goals omega)))
          · refine ⟨(), trivial, ?_⟩
            have : d3 = e := by rw [← hq]; simp only [shiftDown]; rw [if_pos (by simpa using hb)]
            rw [this]
            refine Weak.list [(i0, .old i0, arow n e)] rfl (by rfl) ?_ (.old rfl (BLe.refl _) .nil)
            ((repeat' first | exact TLes.nil | refine TLes.cons (TLe.eq rfl) ?_); skip)
          · refine ⟨(j, swp e (j + 1) j), ⟨by simp; omega, by rw [Zby]; exact he, ?_⟩, by simp, ?_⟩
            · rw [← hq]; conv => rhs; simp only [shiftDown]
              rw [if_neg (by simpa using hb)]
            refine Weak.list [(i0, .old i0, arow n (swp e (j + 1) j))] rfl (by rfl) ?_ (.old rfl (BLe.row rfl (fun x hx => ?_)) .nil)
            · ((repeat' first | exact TLes.nil | refine TLes.cons (TLe.eq rfl) ?_ | refine TLes.cons (TLe.int ?_) ?_); (all_goals first | ((try (simp only [Zaa, kzz, kz11, kz12, maxL, Zad] at *)); (simp (disch := omega) only [Zal]; omega)) | skip))
            · exact Zdb (d := e) (i := j + 1) (j := j) (by omega) (by omega) (by simp) (by simp (disch := omega) only [Zal]; omega) hm2 (Za5 (by simp)) x
        · refine ⟨(), trivial, ?_⟩
          have hj0 : j = 0 := by simp only [Zaa, kzz, kz11, kz12, maxL, Zad] at *; omega
          subst hj0
          have : d3 = e := by rw [← hq]; rfl
          rw [this]
          refine Weak.list [(i0, .old i0, arow n e)] rfl (by rfl) ?_ (.old rfl (BLe.refl _) .nil)
          ((repeat' first | exact TLes.nil | refine TLes.cons (TLe.eq rfl) ?_); skip)
      · have hk2 : ¬ k - a ≥ 2 := by simp (disch := omega) only [Zal] at hb; simp only [Zaa, kzz, kz11, kz12, maxL, Zad] at *; omega
        rw [if_neg hk2] at hd3
        refine ⟨(), trivial, ?_⟩
        rw [hd3]
        refine Weak.list [(i0, .old i0, arow n d2)] rfl (by rfl) ?_ (.old rfl (BLe.refl _) .nil)
        ((repeat' first | exact TLes.nil | refine TLes.cons (TLe.eq rfl) ?_); skip)
    rintro _ _ τ hτ
    refine Za0 hτ ?_
    clear hd3
    conv => whnf
    (repeat' first | refine Zac ?_ | (refine Zab tok (by rfl) ?_; conv => whnf))
    refine Zdq (fun _ : Unit => mkS [(0, .rs i0 1 0 n), (1, iv a), (2, iv b), (6, .bool false), (7, iv k), (8, iv (5 - ((s + 1 : Nat) : Int)))] [(i0, arow n d4)]) (fun _ => True) ?_ ?_
    · (repeat' first | refine Zac ?_ | (refine Zab tok (by rfl) ?_; conv => whnf) | refine Zai ?_ | (refine Zag ?_; conv => whnf) | refine Zaf rfl (fun hb => ?_) (fun hb => ?_))
      · have hk2 : b - k ≥ 2 := by simp (disch := omega) only [Zal] at hb; simp only [Zaa, kzz, kz11, kz12, maxL, Zad] at *; omega
        rw [if_pos hk2] at hd4
        refine Zay (fun q : Nat × Array Int => mkS [(0, .rs i0 1 0 n), (1, iv a), (2, iv b), (6, .bool false), (7, iv k), (8, iv (5 - ((s + 1 : Nat) : Int))), (10, iv q.1)] [(i0, arow n q.2)])
          (fun q => 1 ≤ q.1 ∧ q.1 ≤ b ∧ q.2.size = n ∧ shiftUp ltInt b q.1 q.2 = d4) (fun q => b - q.1) (k + 1, d3) ⟨by simp, by simp; omega, z3, hd4.symm⟩ ?_ ?_
        · refine Weak.list [(i0, .old i0, arow n d3)] rfl (by rfl) ?_ (.old rfl (BLe.refl _) .nil)
          ((repeat' first | exact TLes.nil | refine TLes.cons (TLe.eq rfl) ?_ | refine TLes.cons (TLe.int ?_) ?_); (all_goals first | ((try (simp only [Zaa, kzz, kz11, kz12, maxL, Zad] at *)); exact Zal (by omega) (by omega)) | skip))
        rintro ⟨j, e⟩ ⟨hj1, hj, he, hq⟩
        simp only at hj1 hj he hq ⊢
        have hm2 : e[0 + (IntKind.i64.wrap ((j : Int) - 1)).toNat]! = e[j - 1]! := by simp (disch := omega) only [Zal]; exact Za5 (by omega)
        ((repeat' first | refine Zac ?_ | (refine Zab tok (by rfl) ?_; conv => whnf) | (refine Zap tok mix (by rfl) ?_; conv => whnf) | refine Zai ?_ | (refine Zag ?_; conv => whnf) | (refine Za1 ?_; conv => whnf) | refine Zaf rfl (fun hb => ?_) (fun hb => ?_) | (refine @And.intro (Zaa _ _ _ _) _ ?_ ?_; rotate_left; (conv => whnf); rotate_right)); all_goals (try ((guard_target = Zaa _ _ _ _); refine Zae ?_; (all_goals (try simp only [Zaa, kzz, kz11, kz12, maxL, Zad] at *)); (all_goals (try (simp (disch := omega) only [Zal]))); all_goals omega)))
        · have hjb : j < b := by simp only [Zaa, kzz, kz11, kz12, maxL, Zad] at *; omega
          refine .inl ⟨_, _, _, uG (QC.fc (Zdv (d := e) (i := j) (j := j - 1) _ _ (Za5 (by simp)) hm2) rfl), ?_⟩
          conv => whnf
          ((repeat' first | (refine Zab tok (by rfl) ?_; conv => whnf) | (refine Zap tok mix (by rfl) ?_; conv => whnf) | (refine Zag ?_; conv => whnf) | (refine Za1 ?_; conv => whnf) | refine Zaf rfl (fun hb => ?_) (fun hb => ?_) | (refine @And.intro (Zaa _ _ _ _) _ ?_ ?_; rotate_left; (conv => whnf); rotate_right)); all_goals (try ((guard_target = Zaa _ _ _ _); refine Zae ?_; (all_goals (try simp only [Zaa, kzz, kz11, kz12, maxL, Zad] at *)); (all_goals (try (simp (disch := omega) only [Zal]))); all_goals omega)))
          · refine ⟨(), trivial, ?_⟩
            have : d4 = e := by rw [← hq]; unfold shiftUp; rw [if_pos hjb, if_pos (by simpa using hb)]
            rw [this]
            refine Weak.list [(i0, .old i0, arow n e)] rfl (by rfl) ?_ (.old rfl (BLe.refl _) .nil)
            ((repeat' first | exact TLes.nil | refine TLes.cons (TLe.eq rfl) ?_); skip)
          · refine ⟨(j + 1, swp e j (j - 1)), ⟨by simp, by simp; omega, by rw [Zby]; exact he, ?_⟩, by simp; omega, ?_⟩
            · rw [← hq]; conv => rhs; unfold shiftUp
              rw [if_pos hjb, if_neg (by simpa using hb)]
            refine Weak.list [(i0, .old i0, arow n (swp e j (j - 1)))] rfl (by rfl) ?_ (.old rfl (BLe.row rfl (fun x hx => ?_)) .nil)
            · ((repeat' first | exact TLes.nil | refine TLes.cons (TLe.eq rfl) ?_ | refine TLes.cons (TLe.int ?_) ?_); (all_goals first | ((try (simp only [Zaa, kzz, kz11, kz12, maxL, Zad] at *)); exact Zal (by omega) (by omega)) | skip))
            · exact Zdb (d := e) (i := j) (j := j - 1) (by omega) (by omega) (by simp) (by simp (disch := omega) only [Zal]; omega) hm2 (Za5 (by simp)) x
        · refine ⟨(), trivial, ?_⟩
          have hj0 : ¬ j < b := by simp only [Zaa, kzz, kz11, kz12, maxL, Zad] at *; omega
          have : d4 = e := by rw [← hq]; unfold shiftUp; rw [if_neg hj0]
          rw [this]
          refine Weak.list [(i0, .old i0, arow n e)] rfl (by rfl) ?_ (.old rfl (BLe.refl _) .nil)
          ((repeat' first | exact TLes.nil | refine TLes.cons (TLe.eq rfl) ?_); skip)
      · have hk2 : ¬ b - k ≥ 2 := by simp (disch := omega) only [Zal] at hb; simp only [Zaa, kzz, kz11, kz12, maxL, Zad] at *; omega
        rw [if_neg hk2] at hd4
        refine ⟨(), trivial, ?_⟩
        rw [hd4]
        refine Weak.list [(i0, .old i0, arow n d3)] rfl (by rfl) ?_ (.old rfl (BLe.refl _) .nil)
        ((repeat' first | exact TLes.nil | refine TLes.cons (TLe.eq rfl) ?_); skip)
    rintro _ _ τ hτ
    refine Za0 hτ ?_
    conv => whnf
    (repeat' (refine Zab tok (by rfl) ?_; conv => whnf))
    refine ⟨((s, k), d4), ⟨by simp; omega, by simp; omega, by simp; omega, z4, hR2⟩, by simp, ?_⟩
    refine Weak.list [(i0, .old i0, arow n d4)] rfl (by rfl) ?_ (.old rfl (BLe.refl _) .nil)
    ((repeat' first | exact TLes.nil | refine TLes.cons (TLe.eq rfl) ?_ | refine TLes.cons (TLe.int ?_) ?_); (all_goals first | ((try (simp only [Zaa, kzz, kz11, kz12, maxL, Zad] at *)); (simp (disch := omega) only [Zal]; omega)) | skip))
  · have hs0 : s = 0 := by simp only [Zaa, kzz, kz11, kz12, maxL, Zad] at *; omega
    subst hs0
    have hRes : R = (d, false) := hR.symm
    rw [hRes]
    exact ⟨_, [(i0, .old i0, arow n d)], rfl, rfl, rfl, rfl, .old rfl (BLe.refl _) .nil, .eq rfl⟩
end Go.Proofs.YtoelbgjpmpoolaaGreat
namespace Go.Proofs.YtoelbgjpmpoolaaGreat
open Go Dv Go.Sort
set_option maxRecDepth 10000
set_option linter.unusedSimpArgs false
structure PQ where
  (a b lim : Nat)
  (wb wp : Bool)
  d : Array Int
theorem pdq_eq {R d : Array Int} {a b lim : Nat} {wb wp : Bool} (h12 : ¬ b - a ≤ 12) (hlim : lim ≠ 0) (hR : pdq ltInt d a b lim wb wp = R) :
    ∃ d1 lim' c d2 pivot hint pi, d1 = (if (!wb) = true then breakPatterns d a b else d) ∧ lim' = (if (!wb) = true then lim - 1 else lim) ∧ c = choosePivot ltInt d1 a b ∧ d2 = (if c.2 = .decreasing then reverseRange d1 a b else d1) ∧
      pivot = (if c.2 = .decreasing then (b - 1) - (c.1 - a) else c.1) ∧ hint = (if c.2 = .decreasing then Hint.increasing else c.2) ∧ pi = (if (wb && wp && decide (hint = .increasing)) = true then partialInsertionSort ltInt d2 a b else (d2, false)) ∧
      R = if pi.2 = true then pi.1 else if (decide (a > 0) && !ltInt pi.1[a - 1]! pi.1[pivot]!) = true then
        (match partitionEqual ltInt pi.1 a b pivot with
        | (mid, d4) => if _h : a < mid ∧ mid ≤ b then pdq ltInt d4 mid b lim' wb wp else d4)
      else (match partition ltInt pi.1 a b pivot with
        | (mid, ap, d4) => if _h : a ≤ mid ∧ mid < b then
            if mid - a < b - mid then pdq ltInt (pdq ltInt d4 a mid lim' true true) (mid + 1) b lim' (decide (mid - a ≥ (b - a) / 8)) ap
            else pdq ltInt (pdq ltInt d4 (mid + 1) b lim' true true) a mid lim' (decide (b - mid ≥ (b - a) / 8)) ap
          else d4) := by
  refine ⟨_, _, _, _, _, _, _, rfl, rfl, rfl, rfl, rfl, rfl, rfl, ?_⟩
  rw [← hR]
  conv => lhs; unfold pdq
  rw [if_neg h12, if_neg hlim]
def Brk : Prop := ∀ (n : Nat) (d : Array Int) (a b : Nat), d.size = n → a ≤ b → b ≤ n → HC Tryz.prog [i0] 231 [(i0, arow n d)] [.rs i0 1 0 n, iv a, iv b] (.tup []) [(i0, arow n (breakPatterns d a b))]
theorem hintI_two (h : Hint) : decide (hintI h = 2) = decide (h = .decreasing) := by cases h <;> rfl
theorem hintI_one (h : Hint) : decide (hintI h = 1) = decide (h = .increasing) := by cases h <;> rfl
theorem c_pdq (hbrk : Brk) : ∀ (N n : Nat) (d : Array Int) (a b lim : Nat), d.size = n → a ≤ b → b ≤ n → b - a ≤ N → lim ≤ 1000 → Sort.Below ltInt a b d → HC Tryz.prog [i0] 222 [(i0, arow n d)] [.rs i0 1 0 n, iv a, iv b, iv lim] (.tup []) [(i0, arow n (pdq ltInt d a b lim true true))] := by
  intro N
  induction N using Nat.strongRecOn with
  | ind N ih =>
  intro n d0 a0 b0 lim0 hn0 hab0 hbn0 hN0 hl0' hB0
  refine Zbr tok Tryz.func222 rfl (by decide +kernel) (Nat.le_of_ble_eq_true rfl) ?_
  refine Zas 0 (fun hl => ?_)
  have hl0 : n ≤ 4294967296 := hl
  obtain ⟨R, hR0⟩ : ∃ R, R = pdq ltInt d0 a0 b0 lim0 true true := ⟨_, rfl⟩
  rw [← hR0]
  have h := swo_ltInt
  (repeat' first | refine Zac ?_ | (refine Zab tok (by rfl) ?_; conv => whnf) | refine Zai ?_)
  refine Zay (fun q : PQ => mkS [(0, .rs i0 1 0 n), (1, iv q.a), (2, iv q.b), (3, iv q.lim), (8, .bool q.wb), (9, .bool q.wp)] [(i0, arow n q.d)])
    (fun q => q.d.size = n ∧ q.a ≤ q.b ∧ q.b ≤ n ∧ q.lim ≤ 1000 ∧ Sort.Below ltInt q.a q.b q.d ∧ q.b - q.a ≤ N ∧ pdq ltInt q.d q.a q.b q.lim q.wb q.wp = R) (fun q => q.b - q.a) ⟨a0, b0, lim0, true, true, d0⟩ ⟨hn0, hab0, hbn0, hl0', hB0, hN0, hR0.symm⟩ ?_ ?_
  · refine Weak.list [(i0, .old i0, arow n d0)] rfl (by rfl) ?_ (.old rfl (BLe.refl _) .nil)
    ((repeat' first | exact TLes.nil | refine TLes.cons (TLe.eq rfl) ?_); skip)
  rintro q ⟨hd, hab, hbn, hlm, hB, hN, hR⟩
  clear hR0
  (repeat' ((fail_if_success (show AWp _ _ _ (Code.region 7 _ _) _ _)); first | refine Zac ?_ | (refine Zab tok (by rfl) ?_; conv => whnf) | refine Zai ?_ | (refine Zag ?_; conv => whnf) | refine Zaf rfl (fun hb => ?_) (fun hb => ?_)))
  · have h12 : q.b - q.a ≤ 12 := by simp (disch := omega) only [Zal] at hb; simp only [Zaa, kzz, kz11, kz12, maxL, Zad] at *; omega
    refine .inr ⟨_, _, _, uG (QH.of (dead := []) [(i0, .old i0, arow n q.d)] (c_insertion n q.d q.a q.b hd hab hbn) rfl (.old rfl (BLe.refl _) .nil) ((.cons (.eq rfl) (.cons (.eq rfl) (.cons (.eq rfl) .nil)))) [(i0, i0)] rfl (.cons rfl (BLe.refl _) .nil) rfl), ?_⟩
    conv => whnf
    (repeat' (refine Zaj ?_; conv => whnf))
    have hRes : R = insertionSort ltInt q.d q.a q.b := by rw [← hR]; unfold pdq; rw [if_pos h12]
    rw [hRes]
    exact ⟨_, [(i0, .old i0, arow n (insertionSort ltInt q.d q.a q.b))], rfl, rfl, rfl, rfl, .old rfl (BLe.refl _) .nil, .eq rfl⟩
  · rename_i hx
    have h12 : ¬ q.b - q.a ≤ 12 := by simp (disch := omega) only [Zal] at hx; simp only [Zaa, kzz, kz11, kz12, maxL, Zad] at *; omega
    have hz : q.lim = 0 := by simp only [Zaa, kzz, kz11, kz12, maxL, Zad] at *; omega
    refine .inr ⟨_, _, _, uG (QH.of (dead := []) [(i0, .old i0, arow n q.d)] (c_heap n q.d q.a q.b hd hab hbn) rfl (.old rfl (BLe.refl _) .nil) ((.cons (.eq rfl) (.cons (.eq rfl) (.cons (.eq rfl) .nil)))) [(i0, i0)] rfl (.cons rfl (BLe.refl _) .nil) rfl), ?_⟩
    conv => whnf
    (repeat' (refine Zaj ?_; conv => whnf))
    have hRes : R = heapSort ltInt q.d q.a q.b := by rw [← hR]; unfold pdq; rw [if_neg h12, if_pos hz]
    rw [hRes]
    exact ⟨_, [(i0, .old i0, arow n (heapSort ltInt q.d q.a q.b))], rfl, rfl, rfl, rfl, .old rfl (BLe.refl _) .nil, .eq rfl⟩
  rename_i hx
  have h12 : ¬ q.b - q.a ≤ 12 := by simp (disch := omega) only [Zal] at hx; simp only [Zaa, kzz, kz11, kz12, maxL, Zad] at *; omega
  have hz : q.lim ≠ 0 := by simp only [Zaa, kzz, kz11, kz12, maxL, Zad] at *; omega
  clear hb hx
  obtain ⟨d1, lim', c, d2, pivot, hint, pi, e1, e2, e3, e4, e5, e6, e7, hstep⟩ := pdq_eq h12 hz hR
  have s1 : PermIn q.a q.b q.d d1 := by rw [e1]; exact step_break q.d hab (by omega) _
  have b1 : d1.size = n := by rw [s1.1]; exact hd
  have s2 : PermIn q.a q.b d1 d2 := by rw [e4]; exact step_reverse reverseRange_holds d1 hab (by omega) _
  have b2 : d2.size = n := by rw [s2.1]; exact b1
  have B2 : Sort.Below ltInt q.a q.b d2 := (hB.perm (by omega) s1).perm (by omega) s2
  have s3 : PermIn q.a q.b d2 pi.1 := by rw [e7]; exact (step_partial (partialInsertionSort_holds (lt := ltInt)) h d2 (a := q.a) (b := q.b) (by omega) (by omega) B2 _).1
  have b3 : pi.1.size = n := by rw [s3.1]; exact b2
  have B3 : Sort.Below ltInt q.a q.b pi.1 := B2.perm (by omega) s3
  have hc0 := choosePivot_holds ltInt d1 q.a q.b (by omega)
  rw [← e3] at hc0
  have hpv : q.a ≤ pivot ∧ pivot < q.b := by rw [e5]; exact pivot_range hc0.1 hc0.2 _
  have hlm' : lim' ≤ 1000 := by rw [e2]; split <;> omega
  (repeat' (refine Zab tok (by rfl) ?_; conv => whnf))
  refine Zdq (fun _ : Unit => mkS [(0, .rs i0 1 0 n), (1, iv q.a), (2, iv q.b), (3, iv lim'), (8, .bool q.wb), (9, .bool q.wp), (10, iv ((q.b - q.a : Nat) : Int))] [(i0, arow n d1)]) (fun _ => True) ?_ ?_
  · (repeat' first | refine Zac ?_ | (refine Zab tok (by rfl) ?_; conv => whnf) | (refine Zag ?_; conv => whnf) | refine Zaf rfl (fun hb => ?_) (fun hb => ?_))
    · have hw : (!q.wb) = true := hb
      rw [if_pos hw] at e1 e2
      refine .inr ⟨_, _, _, uG (QH.of (dead := []) [(i0, .old i0, arow n q.d)] (hbrk n q.d q.a q.b hd hab hbn) rfl (.old rfl (BLe.refl _) .nil) ((.cons (.eq rfl) (.cons (.eq rfl) (.cons (.eq rfl) .nil)))) [(i0, i0)] rfl (.cons rfl (BLe.refl _) .nil) rfl), ?_⟩
      conv => whnf
      (repeat' (refine Zab tok (by rfl) ?_; conv => whnf))
      refine ⟨(), trivial, ?_⟩
      rw [e1]
      refine Weak.list [(i0, .old i0, arow n (breakPatterns q.d q.a q.b))] rfl (by rfl) ?_ (.old rfl (BLe.refl _) .nil)
      ((repeat' first | exact TLes.nil | refine TLes.cons (TLe.eq rfl) ?_ | refine TLes.cons (TLe.int ?_) ?_); (all_goals first | ((try (simp only [Zaa, kzz, kz11, kz12, maxL, Zad] at *)); (simp (disch := omega) only [Zal]; omega)) | skip))
      all_goals (rw [e2]; omega)
    · have hw : ¬ (!q.wb) = true := by rw [hb]; simp
      rw [if_neg hw] at e1 e2
      refine ⟨(), trivial, ?_⟩
      rw [e1]
      refine Weak.list [(i0, .old i0, arow n q.d)] rfl (by rfl) ?_ (.old rfl (BLe.refl _) .nil)
      ((repeat' first | exact TLes.nil | refine TLes.cons (TLe.eq rfl) ?_ | refine TLes.cons (TLe.int ?_) ?_); (all_goals first | ((try (simp only [Zaa, kzz, kz11, kz12, maxL, Zad] at *)); first | omega | (simp (disch := omega) only [Zal]; omega)) | skip))
      all_goals (rw [e2])
  rintro _ _ τ hτ
  refine Za0 hτ ?_
  have hch := c_choose n d1 q.a q.b b1 (by omega) hbn
  rw [← e3] at hch
  conv => whnf
  (repeat' first | refine Zac ?_ | (refine Zab tok (by rfl) ?_; conv => whnf))
  refine .inr ⟨_, _, _, uG (QH.of (dead := []) [(i0, .old i0, arow n d1)] (hch) rfl (.old rfl (BLe.refl _) .nil) ((.cons (.eq rfl) (.cons (.eq rfl) (.cons (.eq rfl) .nil)))) [(i0, i0)] rfl (.cons rfl (BLe.refl _) .nil) rfl), ?_⟩
  conv => whnf
  (repeat' first | refine Zac ?_ | (refine Zab tok (by rfl) ?_; conv => whnf))
  refine Zdq (fun _ : Unit => mkS [(0, .rs i0 1 0 n), (1, iv q.a), (2, iv q.b), (3, iv lim'), (8, .bool q.wb), (9, .bool q.wp), (10, iv ((q.b - q.a : Nat) : Int)), (11, iv pivot), (12, iv (hintI hint))] [(i0, arow n d2)]) (fun _ => True) ?_ ?_
  · (repeat' first | refine Zac ?_ | (refine Zab tok (by rfl) ?_; conv => whnf) | (refine Zag ?_; conv => whnf) | refine Zaf rfl (fun hb => ?_) (fun hb => ?_))
    · have hw : c.2 = .decreasing := by rw [hintI_two] at hb; simpa using hb
      rw [if_pos hw] at e4 e5 e6
      refine .inr ⟨_, _, _, uG (QH.of (dead := []) [(i0, .old i0, arow n d1)] (c_reverse n d1 q.a q.b b1 (by omega) hbn) rfl (.old rfl (BLe.refl _) .nil) ((.cons (.eq rfl) (.cons (.eq rfl) (.cons (.eq rfl) .nil)))) [(i0, i0)] rfl (.cons rfl (BLe.refl _) .nil) rfl), ?_⟩
      conv => whnf
      (repeat' first | refine Zac ?_ | (refine Zab tok (by rfl) ?_; conv => whnf))
      refine ⟨(), trivial, ?_⟩
      rw [e4]
      refine Weak.list [(i0, .old i0, arow n (reverseRange d1 q.a q.b))] rfl (by rfl) ?_ (.old rfl (BLe.refl _) .nil)
      ((repeat' first | exact TLes.nil | refine TLes.cons (TLe.eq rfl) ?_ | refine TLes.cons (TLe.int ?_) ?_); (all_goals first | ((try (simp only [Zaa, kzz, kz11, kz12, maxL, Zad] at *)); (simp (disch := omega) only [Zal]; omega)) | skip))
      all_goals first | (rw [e5]; simp (disch := omega) only [Zal]; omega) | (rw [e6]; rfl)
    · have hw : ¬ c.2 = .decreasing := by rw [hintI_two] at hb; simpa using hb
      rw [if_neg hw] at e4 e5 e6
      refine ⟨(), trivial, ?_⟩
      rw [e4]
      refine Weak.list [(i0, .old i0, arow n d1)] rfl (by rfl) ?_ (.old rfl (BLe.refl _) .nil)
      ((repeat' first | exact TLes.nil | refine TLes.cons (TLe.eq rfl) ?_ | refine TLes.cons (TLe.int ?_) ?_); (all_goals first | ((try (simp only [Zaa, kzz, kz11, kz12, maxL, Zad] at *)); omega) | skip))
      all_goals first | (rw [e5]) | (rw [e6])
  rintro _ _ τ hτ
  refine Za0 hτ ?_
  conv => whnf
  (repeat' first | refine Zac ?_ | (refine Zab tok (by rfl) ?_; conv => whnf))
  rw [hintI_one]
  refine Zdq (fun _ : Unit => mkS [(0, .rs i0 1 0 n), (1, iv q.a), (2, iv q.b), (3, iv lim'), (8, .bool q.wb), (9, .bool q.wp), (10, iv ((q.b - q.a : Nat) : Int)), (11, iv pivot)] [(i0, arow n pi.1)]) (fun _ => pi.2 = false) ?_ ?_
  · (repeat' first | refine Zac ?_ | (refine Zab tok (by rfl) ?_; conv => whnf) | (refine Zag ?_; conv => whnf) | refine Zaf rfl (fun hb => ?_) (fun hb => ?_))
    · have hcond : (q.wb && q.wp && decide (hint = .increasing)) = true := by
        cases h1 : q.wb <;> cases h2 : q.wp <;> simp [h1, h2] at hb ⊢
        exact hb
      rw [if_pos hcond] at e7
      have hcp := c_partial n d2 q.a q.b b2 (by omega) hbn
      rw [← e7] at hcp
      refine .inr ⟨_, _, _, uG (QH.of (dead := []) [(i0, .old i0, arow n d2)] (hcp) rfl (.old rfl (BLe.refl _) .nil) ((.cons (.eq rfl) (.cons (.eq rfl) (.cons (.eq rfl) .nil)))) [(i0, i0)] rfl (.cons rfl (BLe.refl _) .nil) rfl), ?_⟩
      conv => whnf
      (repeat' first | (refine Zag ?_; conv => whnf) | (refine Zaj ?_; conv => whnf) | refine Zaf rfl (fun hb => ?_) (fun hb => ?_))
      · have hRes : R = pi.1 := by rw [hstep, if_pos hb]
        rw [hRes]
        exact ⟨_, [(i0, .old i0, arow n pi.1)], rfl, rfl, rfl, rfl, .old rfl (BLe.refl _) .nil, .eq rfl⟩
      · refine ⟨(), hb, ?_⟩
        refine Weak.list [(i0, .old i0, arow n pi.1)] rfl (by rfl) ?_ (.old rfl (BLe.refl _) .nil)
        ((repeat' first | exact TLes.nil | refine TLes.cons (TLe.eq rfl) ?_); skip)
    · have hcond : ¬ (q.wb && q.wp && decide (hint = .increasing)) = true := by
        cases h1 : q.wb <;> cases h2 : q.wp <;> simp [h1, h2] at hb ⊢
        exact hb
      rw [if_neg hcond] at e7
      refine ⟨(), by rw [e7], ?_⟩
      rw [e7]
      refine Weak.list [(i0, .old i0, arow n d2)] rfl (by rfl) ?_ (.old rfl (BLe.refl _) .nil)
      ((repeat' first | exact TLes.nil | refine TLes.cons (TLe.eq rfl) ?_); skip)
  rintro _ hpi τ hτ
  refine Za0 hτ ?_
  rw [hpi, if_neg (by simp)] at hstep
  generalize pi.1 = d3 at s3 b3 B3 hstep
  clear hτ
  have hm1 : d3[0 + (IntKind.i64.wrap ((q.a : Int) - 1)).toNat]! = d3[q.a - 1]! := by simp (disch := omega) only [Zal]; exact Za5 (by omega)
  conv => whnf
  ((repeat' first | refine Zac ?_ | (refine Zap tok mix (by rfl) ?_; conv => whnf) | (refine @And.intro (Zaa _ _ _ _) _ ?_ ?_; rotate_left; (conv => whnf); rotate_right)); all_goals (try ((guard_target = Zaa _ _ _ _); ((refine Zbe ?_; intro hgd; (conv at hgd => whnf))); (all_goals (try simp only [Zaa, kzz, kz11, kz12, maxL, Zad] at *)); (all_goals (try (simp (disch := omega) only [Zal]))); all_goals omega)))
  refine .inl ⟨_, _, _, uG (QC.fc (Zdv (d := d3) (i := q.a - 1) (j := pivot) _ _ hm1 (Za5 (by simp))) rfl), ?_⟩
  conv => whnf
  (repeat' first | refine Zac ?_ | (refine Zab tok (by rfl) ?_; conv => whnf) | (refine Zag ?_; conv => whnf) | refine Zaf rfl (fun hb => ?_) (fun hb => ?_))
  · have hc : (decide (q.a > 0) && !ltInt d3[q.a - 1]! d3[pivot]!) = true := by
      by_cases h1 : 0 < q.a
      · rw [decide_eq_true (by omega)] at hb
        rw [Bool.and_eq_true]; exact ⟨by simpa using h1, hb⟩
      · rw [decide_eq_false (by omega)] at hb; cases hb
    rw [if_pos hc] at hstep
    rw [Bool.and_eq_true, decide_eq_true_eq, Bool.not_eq_true'] at hc
    obtain ⟨mid, d4, hx⟩ : ∃ m d, partitionEqual ltInt d3 q.a q.b pivot = (m, d) := ⟨_, _, rfl⟩
    have hcp := c_partEq n d3 q.a q.b pivot b3 hpv.1 hpv.2 hbn
    rw [hx] at hcp hstep
    obtain ⟨g1, g2, g3, g4, _⟩ := round_eq h (partitionEqual_holds (lt := ltInt)) hc.1 hpv.1 hpv.2 (by omega) B3 hc.2 hx
    simp only [] at hcp hstep
    rw [dif_pos ⟨g1, g2⟩] at hstep
    refine .inr ⟨_, _, _, uG (QH.of (dead := []) [(i0, .old i0, arow n d3)] (hcp) rfl (.old rfl (BLe.refl _) .nil) ((.cons (.eq rfl) (.cons (.eq rfl) (.cons (.eq rfl) (.cons (.eq rfl) .nil))))) [(i0, i0)] rfl (.cons rfl (BLe.refl _) .nil) rfl), ?_⟩
    conv => whnf
    (repeat' first | refine Zac ?_ | (refine Zab tok (by rfl) ?_; conv => whnf) | (refine Za1 ?_; conv => whnf))
    refine ⟨⟨mid, q.b, lim', q.wb, q.wp, d4⟩, ⟨by simp; omega, g2, hbn, hlm', g4, by simp; omega, hstep.symm⟩, by simp; omega, ?_⟩
    refine Weak.list [(i0, .old i0, arow n d4)] rfl (by rfl) ?_ (.old rfl (BLe.refl _) .nil)
    ((repeat' first | exact TLes.nil | refine TLes.cons (TLe.eq rfl) ?_); skip)
  have hc : ¬ (decide (q.a > 0) && !ltInt d3[q.a - 1]! d3[pivot]!) = true := by
    rw [Bool.and_eq_true]
    rintro ⟨h1, h2⟩
    simp only [decide_eq_true_eq] at h1
    rw [decide_eq_true (by omega), h2] at hb; cases hb
  rw [if_neg hc] at hstep
  obtain ⟨mid, ap, d4, hx⟩ : ∃ m p d, partition ltInt d3 q.a q.b pivot = (m, p, d) := ⟨_, _, _, rfl⟩
  have hcp := c_part n d3 q.a q.b pivot b3 hpv.1 hpv.2 hbn
  rw [hx] at hcp hstep
  obtain ⟨g1, g2, g3, g4, g5, g6, g7⟩ := round_part h (partition_holds ltInt) hpv.1 hpv.2 (by omega) B3 hx
  simp only [] at hcp hstep
  rw [dif_pos ⟨g1, g2⟩] at hstep
  refine .inr ⟨_, _, _, uG (QH.of (dead := []) [(i0, .old i0, arow n d3)] (hcp) rfl (.old rfl (BLe.refl _) .nil) ((.cons (.eq rfl) (.cons (.eq rfl) (.cons (.eq rfl) (.cons (.eq rfl) .nil))))) [(i0, i0)] rfl (.cons rfl (BLe.refl _) .nil) rfl), ?_⟩
  conv => whnf
  ((repeat' first | refine Zac ?_ | (refine Zab tok (by rfl) ?_; conv => whnf) | refine Zaf rfl (fun hb => ?_) (fun hb => ?_) | (refine @And.intro (Zaa _ _ _ _) _ ?_ ?_; rotate_left; (conv => whnf); rotate_right)); all_goals (try ((guard_target = Zaa _ _ _ _); refine Zae ?_; (all_goals (try simp only [Zaa, kzz, kz11, kz12, maxL, Zad] at *)); all_goals omega)))
  · have hlt : mid - q.a < q.b - mid := by simp (disch := omega) only [Zal] at hb; simp only [Zaa, kzz, kz11, kz12, maxL, Zad] at *; omega
    rw [if_pos hlt] at hstep
    refine .inr ⟨_, _, _, uG (QH.of (dead := []) [(i0, .old i0, arow n d4)] (ih (mid - q.a) (by omega) n d4 q.a mid lim' (by omega) g1 (by omega) (Nat.le_refl _) hlm' g4) rfl (.old rfl (BLe.refl _) .nil) ((.cons (.eq rfl) (.cons (.eq rfl) (.cons (.eq rfl) (.cons (.eq rfl) .nil))))) [(i0, i0)] rfl (.cons rfl (BLe.refl _) .nil) rfl), ?_⟩
    conv => whnf
    (repeat' (refine Zab tok (by rfl) ?_; conv => whnf))
    have hp := pdq_sorts ltInt h d4 q.a mid lim' true true g1 (by omega) g4
    generalize pdq ltInt d4 q.a mid lim' true true = L at hp hstep
    have hL := (g6 L hp.1 hp.2).1
    have hLs := hp.1.1
    refine ⟨⟨mid + 1, q.b, lim', decide (mid - q.a ≥ (q.b - q.a) / 8), ap, L⟩, ⟨by simp; omega, by simp; omega, hbn, hlm', hL, by simp; omega, hstep.symm⟩, by simp; omega, ?_⟩
    refine Weak.list [(i0, .old i0, arow n L)] rfl (by rfl) ?_ (.old rfl (BLe.refl _) .nil)
    ((repeat' first | exact TLes.nil | refine TLes.cons (TLe.eq rfl) ?_ | refine TLes.cons (TLe.int ?_) ?_ | refine TLes.cons (TLe.bool ?_) ?_); (all_goals first | ((try (simp only [Zaa, kzz, kz11, kz12, maxL, Zad] at *)); exact Zal (by omega) (by omega)) | skip))
    all_goals
      rw [Int.tdiv_eq_ediv_of_nonneg (by omega), Zal (x := ((q.b - q.a : Nat) : Int) / 8) (by omega) (by omega), Zal (by omega) (by omega), decide_eq_decide]
      omega
  · have hlt : ¬ mid - q.a < q.b - mid := by simp (disch := omega) only [Zal] at hb; simp only [Zaa, kzz, kz11, kz12, maxL, Zad] at *; omega
    rw [if_neg hlt] at hstep
    have hcall : ∀ z : Int, z = ((mid + 1 : Nat) : Int) → HC Tryz.prog [i0] 222 [(i0, arow n d4)] [.rs i0 1 0 n, iv z, iv q.b, iv lim'] (.tup []) [(i0, arow n (pdq ltInt d4 (mid + 1) q.b lim' true true))] :=
      fun z e => e ▸ ih (q.b - (mid + 1)) (by omega) n d4 (mid + 1) q.b lim' (by omega) (by omega) (by omega) (Nat.le_refl _) hlm' g5
    refine .inr ⟨_, _, _, uG (QH.of (dead := []) [(i0, .old i0, arow n d4)] (hcall _ (by simp (disch := omega) only [Zal]; omega)) rfl (.old rfl (BLe.refl _) .nil) ((.cons (.eq rfl) (.cons (.eq rfl) (.cons (.eq rfl) (.cons (.eq rfl) .nil))))) [(i0, i0)] rfl (.cons rfl (BLe.refl _) .nil) rfl), ?_⟩
    conv => whnf
    (repeat' (refine Zab tok (by rfl) ?_; conv => whnf))
    have hp := pdq_sorts ltInt h d4 (mid + 1) q.b lim' true true (by omega) (by omega) g5
    generalize pdq ltInt d4 (mid + 1) q.b lim' true true = L at hp hstep
    have hL := (g7 L hp.1 hp.2).1
    have hLs := hp.1.1
    refine ⟨⟨q.a, mid, lim', decide (q.b - mid ≥ (q.b - q.a) / 8), ap, L⟩, ⟨by simp; omega, g1, by simp; omega, hlm', hL, by simp; omega, hstep.symm⟩, by simp; omega, ?_⟩
    refine Weak.list [(i0, .old i0, arow n L)] rfl (by rfl) ?_ (.old rfl (BLe.refl _) .nil)
    ((repeat' first | exact TLes.nil | refine TLes.cons (TLe.eq rfl) ?_ | refine TLes.cons (TLe.bool ?_) ?_); skip)
    all_goals
      rw [Int.tdiv_eq_ediv_of_nonneg (by omega), Zal (x := ((q.b - q.a : Nat) : Int) / 8) (by omega) (by omega), Zal (by omega) (by omega), decide_eq_decide]
      omega
end Go.Proofs.YtoelbgjpmpoolaaGreat
namespace Go.Proofs
open Go.Shelf
def Tryz.lays125_ren : Go.Shelf.Ren := ⟨fun | 125 => 201 | 128 => 219 | 129 => 220 | n => n, fun | 46 => 222 | 3 => 3 | 51 => 236 | 53 => 226 | 4 => 4 | 5 => 5 | 9 => 9 | n => n, fun | n => n⟩
theorem Tryz.lays125 : Go.Proofs.Lays.n125 Tryz.prog Tryz.lays125_ren := {
  mixed := by kernel_rfl
  f125 := Tryz.func201.trans (congrArg some (by kernel_rfl))
  f128 := Tryz.func219.trans (congrArg some (by kernel_rfl))
  f129 := Tryz.func220.trans (congrArg some (by kernel_rfl))
  t3 := Tryz.underlying3
  a3 := Tryz.isAgg3
  z3 := Tryz.sizeOf3
  v3 := Tryz.zeroValue3
  t4 := Tryz.underlying4
  a4 := Tryz.isAgg4
  z4 := Tryz.sizeOf4
  v4 := Tryz.zeroValue4
  t5 := Tryz.underlying5
  a5 := Tryz.isAgg5
  z5 := Tryz.sizeOf5
  v5 := Tryz.zeroValue5
  t9 := Tryz.underlying9
  a9 := Tryz.isAgg9
  z9 := Tryz.sizeOf9
  v9 := Tryz.zeroValue9
  t46 := Tryz.underlying222
  a46 := Tryz.isAgg222
  z46 := Tryz.sizeOf222
  v46 := Tryz.zeroValue222
  t51 := Tryz.underlying236
  a51 := Tryz.isAgg236
  z51 := Tryz.sizeOf236
  v51 := Tryz.zeroValue236
  t53 := Tryz.underlying226
  a53 := Tryz.isAgg226
  z53 := Tryz.sizeOf226
  v53 := Tryz.zeroValue226 }
end Go.Proofs
namespace Go.Proofs.YtoelbgjpmpoolaaGreat
open Go Dv Go.Sort Go.Shelf
set_option maxRecDepth 10000
set_option linter.unusedSimpArgs false
theorem c_Len (x : Nat) (hx : x < 4611686018427387904) : FC Tryz.prog 201 [.int .u64 x] (iv (bitsLen x)) := by
  refine ⟨⟨_, Tryz.func201, rfl, by decide +kernel⟩, fun X w vals _ hV => ?_⟩
  simp only [Vs, V] at hV
  obtain ⟨v, r, rfl, ⟨rfl, _⟩, rfl⟩ := hV
  refine (Any.bits_Len Tryz.lays125 (x : Int) w (by omega) (by omega)).mono ?_
  rintro e w' ⟨he, rfl⟩
  rw [Int.toNat_natCast, Go.Proofs.bitLen_eq _ (by omega)] at he
  refine ⟨_, he, Fr.refl _ _, ?_⟩
  simp only [V]
  have := (bitsLen_le_iff x 62).2 (by omega)
  refine ⟨trivial, ?_, ?_⟩ <;> simp [IntKind.min, IntKind.max, IntKind.signed, IntKind.bits] <;> omega
theorem c_nextPow (L : Nat) (hL : L < 4611686018427387904) : FC Tryz.prog 224 [iv L] (.int .u64 ((1 <<< bitsLen L : Nat) : Int)) := by
  refine Zav tok Tryz.func224 rfl (by decide +kernel) (Nat.le_of_ble_eq_true rfl) ?_
  (repeat' first | refine Zac ?_ | (refine Zab tok (by rfl) ?_; conv => whnf))
  have hcall : ∀ z : Int, z = (L : Int) → FC Tryz.prog 201 [.int .u64 z] (iv (bitsLen L)) := fun z e => e ▸ c_Len L hL
  refine .inl ⟨_, _, _, uG (QC.fc (hcall _ (by rw [IntKind.wrap_u64]; omega)) rfl), ?_⟩
  conv => whnf
  ((repeat' first | (refine Zaj ?_; conv => whnf) | (refine @And.intro (Zaa _ _ _ _) _ ?_ ?_; rotate_left; (conv => whnf); rotate_right)); all_goals (try ((guard_target = Zaa _ _ _ _); refine Zae ?_; all_goals omega)))
  have hk : bitsLen L ≤ 62 := (bitsLen_le_iff L 62).2 (by omega)
  refine ⟨_, rfl, Rel.int ?_⟩
  show IntKind.u64.wrap (1 * 2 ^ (min (bitsLen L : Int).toNat 64)) = _
  rw [Int.toNat_natCast, Nat.min_eq_left (by omega), Int.one_mul]
  exact Go.Proofs.wrap_two_pow (bitsLen L) hk
def g1 (y : Int) : Int := bitsI .xor .u64 y (y.fdiv (2 ^ (min (7 : Int).toNat IntKind.u64.bits)))
def g2 (y : Int) : Int := bitsI .xor .u64 y (IntKind.u64.wrap (y * 2 ^ (min (17 : Int).toNat IntKind.u64.bits)))
abbrev urow (r : Nat) : Zam := .row true 1 1 (fun _ => [.int .u64 r])
theorem c_Next (X : Nat) (hX : X < 18446744073709551616) : HC Tryz.prog [i0] 225 [(i0, urow X)] [.bp i0 0] (.int .u64 (xorNextN X)) [(i0, urow (xorNextN X))] := by
  refine Zbr tok Tryz.func225 rfl (by decide +kernel) (Nat.le_of_ble_eq_true rfl) ?_
  obtain ⟨A, hA⟩ : ∃ A : Nat, A = X ^^^ (X * 8192 % 18446744073709551616) := ⟨_, rfl⟩
  obtain ⟨B, hB⟩ : ∃ B : Nat, B = A ^^^ (A / 128) := ⟨_, rfl⟩
  obtain ⟨C, hC⟩ : ∃ C : Nat, C = B ^^^ (B * 131072 % 18446744073709551616) := ⟨_, rfl⟩
  have lA : A < 18446744073709551616 := by rw [hA]; exact Nat.xor_lt_two_pow (n := 64) (by omega) (by omega)
  have lB : B < 18446744073709551616 := by rw [hB]; exact Nat.xor_lt_two_pow (n := 64) (by omega) (by omega)
  have e1 : Go.bits .xor .u64 (X : Int) (IntKind.u64.wrap ((X : Int) * 8192)) = (A : Int) := by
    rw [IntKind.wrap_u64, show ((X : Int) * 8192 % 18446744073709551616) = ((X * 8192 % 18446744073709551616 : Nat) : Int) by omega, bits_xor_u64_nat _ _ hX (by omega), hA]
  have e2 : Go.bits .xor .u64 (A : Int) ((A : Int).fdiv 128) = (B : Int) := by
    rw [Int.fdiv_eq_ediv_of_nonneg _ (by omega), show ((A : Int) / 128) = ((A / 128 : Nat) : Int) by omega, bits_xor_u64_nat _ _ lA (by omega), hB]
  have e3 : Go.bits .xor .u64 (B : Int) (IntKind.u64.wrap ((B : Int) * 131072)) = (C : Int) := by
    rw [IntKind.wrap_u64, show ((B : Int) * 131072 % 18446744073709551616) = ((B * 131072 % 18446744073709551616 : Nat) : Int) by omega, bits_xor_u64_nat _ _ lB (by omega), hC]
  have hv : xorNextN X = C := by unfold xorNextN; simp only []; rw [← hA, ← hB, ← hC]
  rw [hv]
  have hE : g2 (g1 (bitsI .xor .u64 (X : Int) (IntKind.u64.wrap ((X : Int) * 2 ^ (min (13 : Int).toNat IntKind.u64.bits))))) = (C : Int) := by
    rw [show bitsI .xor .u64 (X : Int) (IntKind.u64.wrap ((X : Int) * 2 ^ (min (13 : Int).toNat IntKind.u64.bits))) = (A : Int) from e1, show g1 (A : Int) = (B : Int) from e2]
    exact e3
  ((repeat' first | refine Zac ?_ | (refine Zab tok (by rfl) ?_; conv => whnf) | (refine Zap tok mix (by rfl) ?_; conv => whnf) | (refine Zaj ?_; conv => whnf) | (refine @And.intro (Zaa _ _ _ _) _ ?_ ?_; rotate_left; (conv => whnf); rotate_right)); all_goals (try ((guard_target = Zaa _ _ _ _); refine Zae ?_; all_goals omega)))
  refine ⟨_, [(i0, .old i0, urow C)], rfl, rfl, rfl, rfl, .old rfl (BLe.row rfl (fun x hx => ?_)) .nil, TLe.int hE⟩
  match x, hx with
  | 0, _ => exact congrArg (fun z => [AV.int .u64 z]) hE
theorem c_break : Brk := by
  intro n d0 a b hn hab hbn
  refine Zbr tok Tryz.func231 rfl (by decide +kernel) (Nat.le_of_ble_eq_true rfl) ?_
  refine Zas 0 (fun hl => ?_)
  have hl0 : n ≤ 4294967296 := hl
  obtain ⟨L, rfl⟩ : ∃ L, b = a + L := ⟨b - a, by omega⟩
  (repeat' first | refine Zac ?_ | (refine Zab tok (by rfl) ?_; conv => whnf) | (refine Zag ?_; conv => whnf) | refine Zaf rfl (fun hb => ?_) (fun hb => ?_))
  · have h8 : 8 ≤ L := by simp (disch := omega) only [Zal] at hb; simp only [Zaa, kzz, kz11, kz12, maxL, Zad] at *; omega
    rw [Go.Proofs.breakPatterns_eq d0 a L h8]
    obtain ⟨M, hM⟩ : ∃ M, M = 1 <<< bitsLen L := ⟨_, rfl⟩
    have hM1 : 1 ≤ M := by rw [hM, Nat.one_shiftLeft]; exact Nat.two_pow_pos _
    have hM2 : M ≤ 2 * L := by rw [hM, Nat.one_shiftLeft]; exact two_pow_bitsLen_le (by omega)
    rw [← hM]
    obtain ⟨I, hI⟩ : ∃ I, I = a + L / 4 * 2 - 1 := ⟨_, rfl⟩
    rw [← hI]
    have hnp : ∀ z : Int, z = (L : Int) → FC Tryz.prog 224 [iv z] (.int .u64 (M : Int)) := fun z e => by rw [e, hM]; exact c_nextPow L (by omega)
    refine .inl ⟨_, _, _, uG (QC.fc (hnp _ (by simp (disch := omega) only [Zal]; omega)) rfl), ?_⟩
    conv => whnf
    ((repeat' first | refine Zac ?_ | (refine Zab tok (by rfl) ?_; conv => whnf) | refine Zai ?_ | (refine @And.intro (Zaa _ _ _ _) _ ?_ ?_; rotate_left; (conv => whnf); rotate_right)); all_goals (try ((guard_target = Zaa _ _ _ _); refine Zae ?_; (all_goals (try simp only [Zaa, kzz, kz11, kz12, maxL, Zad] at *)); all_goals omega)))
    obtain ⟨R0, hR0⟩ : ∃ R0, R0 = Go.Proofs.bpRest a L M I 3 0 (UInt64.ofNat L, d0) := ⟨_, rfl⟩
    rw [← hR0]
    have eL : IntKind.i64.wrap (((a + L : Nat) : Int) - (a : Int)) = (L : Int) := by rw [Zal (by omega) (by omega)]; omega
    have eQ : ((L : Int)).tdiv 4 = ((L / 4 : Nat) : Int) := by rw [Int.tdiv_eq_ediv_of_nonneg (by omega)]; omega
    have eA : IntKind.i64.wrap ((a : Int) + IntKind.i64.wrap (IntKind.i64.wrap ((L : Int).tdiv 4) * 2)) = ((I + 1 : Nat) : Int) := by
      rw [eQ, Zal (x := ((L / 4 : Nat) : Int)) (by omega) (by omega), Zal (x := ((L / 4 : Nat) : Int) * 2) (by omega) (by omega), Zal (by omega) (by omega)]; omega
    refine Zay (fun q : Nat × UInt64 × Array Int => mkS [(0, .rs i0 1 0 n), (1, iv a), (6, iv L), (7, .bp (7, 0, 0) 0), (8, .int .u64 M), (9, iv ((I + q.1 : Nat) : Int))] [(i0, arow n q.2.2), ((7, 0, 0), urow q.2.1.toNat)])
      (fun q => q.1 ≤ 3 ∧ q.2.2.size = n ∧ Go.Proofs.bpRest a L M I (3 - q.1) q.1 (q.2.1, q.2.2) = R0) (fun q => 3 - q.1) (0, UInt64.ofNat L, d0) ⟨Nat.zero_le _, hn, hR0.symm⟩ ?_ ?_
    · refine Weak.list [(i0, .old i0, arow n d0), ((7, 0, 0), .old (7, 0, 0), urow (UInt64.ofNat L).toNat)] rfl (by rfl) ?_ (.old rfl (BLe.refl _) (.old rfl (BLe.row rfl (fun x hx => ?_)) .nil))
      · ((repeat' first | exact TLes.nil | refine TLes.cons (TLe.eq rfl) ?_ | refine TLes.cons (TLe.int ?_) ?_); (all_goals first | ((try (simp only [Zaa, kzz, kz11, kz12, maxL, Zad] at *)); omega) | skip))
        all_goals (rw [eL, eA, Zal (by omega) (by omega)]; simp)
      · match x, hx with
        | 0, _ =>
          show [AV.int .u64 (IntKind.u64.wrap (IntKind.i64.wrap (((a + L : Nat) : Int) - (a : Int))))] = [AV.int .u64 ((UInt64.ofNat L).toNat : Int)]
          rw [eL, IntKind.wrap_u64, UInt64.toNat_ofNat']
          simp
    clear hR0
    rintro ⟨t, r, d⟩ ⟨ht, hd, hR⟩
    simp only at ht hd hR ⊢
    ((repeat' first | refine Zac ?_ | (refine Zab tok (by rfl) ?_; conv => whnf) | refine Zai ?_ | (refine Zag ?_; conv => whnf) | (refine Za1 ?_; conv => whnf) | refine Zaf rfl (fun hb => ?_) (fun hb => ?_) | (refine @And.intro (Zaa _ _ _ _) _ ?_ ?_; rotate_left; (conv => whnf); rotate_right)); all_goals (try ((guard_target = Zaa _ _ _ _); refine Zae ?_; (all_goals (try simp only [Zaa, kzz, kz11, kz12, maxL, Zad] at *)); all_goals omega)))
    · have ht2 : t < 3 := by rw [eA, Zal (by omega) (by omega)] at hb; simp only [Zaa, kzz, kz11, kz12, maxL, Zad] at *; omega
      clear hb
      have lr := r.toNat_lt
      refine .inr ⟨_, _, _, uG (QH.of (dead := []) [(i0, .old (7, 0, 0), urow r.toNat)] (c_Next r.toNat (by omega)) rfl (.old rfl (BLe.refl _) .nil) (.cons (.eq rfl) .nil) [(i0, (7, 0, 0))] rfl (.cons rfl (BLe.refl _) .nil) rfl), ?_⟩
      conv => whnf
      (repeat' ((fail_if_success (show AWp _ _ _ (Code.region 8 _ _) _ _)); refine Zac ?_))
      rw [← xorNext_toNat]
      obtain ⟨O, hO⟩ : ∃ O, O = (xorNext r).toNat &&& (M - 1) := ⟨_, rfl⟩
      have lO : O ≤ M - 1 := by rw [hO]; exact Nat.and_le_right
      have lx := (xorNext r).toNat_lt
      have eO : IntKind.i64.wrap (bitsI .and .u64 ((xorNext r).toNat : Int) (IntKind.u64.wrap ((M : Int) - 1))) = (O : Int) := by
        rw [IntKind.wrap_u64, show ((M : Int) - 1) % 18446744073709551616 = ((M - 1 : Nat) : Int) by omega, show bitsI .and .u64 ((xorNext r).toNat : Int) ((M - 1 : Nat) : Int) = (((xorNext r).toNat &&& (M - 1) : Nat) : Int) from bits_and_u64_nat _ _ (by omega) (by omega), ← hO, Zal (by omega) (by omega)]
      refine Za0 (Weak.list (tl := [(0, .rs i0 1 0 n), (1, iv a), (6, iv L), (7, .bp (7, 0, 0) 0), (8, .int .u64 M), (9, iv ((I + t : Nat) : Int)), (10, iv O)]) [(i0, .old i0, arow n d), ((7, 0, 0), .old (7, 0, 0), urow (xorNext r).toNat)] rfl (by rfl) ?_ (.old rfl (BLe.refl _) (.old rfl (BLe.refl _) .nil))) ?_
      · ((repeat' first | exact TLes.nil | refine TLes.cons (TLe.eq rfl) ?_ | refine TLes.cons (TLe.int ?_) ?_); (all_goals first | ((try (simp only [Zaa, kzz, kz11, kz12, maxL, Zad] at *)); omega) | skip))
      (repeat' (refine Zab tok (by rfl) ?_; conv => whnf))
      obtain ⟨o, ho⟩ : ∃ o, o = if O ≥ L then O - L else O := ⟨_, rfl⟩
      have lo : o < L := by rw [ho]; split <;> omega
      refine Zdq (fun _ : Unit => mkS [(0, .rs i0 1 0 n), (1, iv a), (6, iv L), (7, .bp (7, 0, 0) 0), (8, .int .u64 M), (9, iv ((I + t : Nat) : Int)), (10, iv o)] [(i0, arow n d), ((7, 0, 0), urow (xorNext r).toNat)]) (fun _ => True) ?_ ?_
      · (repeat' first | (refine Zab tok (by rfl) ?_; conv => whnf) | (refine Zag ?_; conv => whnf) | refine Zaf rfl (fun hb => ?_) (fun hb => ?_))
        · have h1 : O ≥ L := by simp only [Zaa, kzz, kz11, kz12, maxL, Zad] at *; omega
          rw [if_pos h1] at ho
          refine ⟨(), trivial, Weak.list [(i0, .old i0, arow n d), ((7, 0, 0), .old (7, 0, 0), urow (xorNext r).toNat)] rfl (by rfl) ?_ (.old rfl (BLe.refl _) (.old rfl (BLe.refl _) .nil))⟩
          ((repeat' first | exact TLes.nil | refine TLes.cons (TLe.eq rfl) ?_ | refine TLes.cons (TLe.int ?_) ?_); (all_goals first | ((try (simp only [Zaa, kzz, kz11, kz12, maxL, Zad] at *)); (simp (disch := omega) only [Zal]; omega)) | skip))
          all_goals (rw [ho]; simp (disch := omega) only [Zal]; omega)
        · have h1 : ¬ O ≥ L := by simp only [Zaa, kzz, kz11, kz12, maxL, Zad] at *; omega
          rw [if_neg h1] at ho
          refine ⟨(), trivial, Weak.list [(i0, .old i0, arow n d), ((7, 0, 0), .old (7, 0, 0), urow (xorNext r).toNat)] rfl (by rfl) ?_ (.old rfl (BLe.refl _) (.old rfl (BLe.refl _) .nil))⟩
          ((repeat' first | exact TLes.nil | refine TLes.cons (TLe.eq rfl) ?_ | refine TLes.cons (TLe.int ?_) ?_); (all_goals first | ((try (simp only [Zaa, kzz, kz11, kz12, maxL, Zad] at *)); omega) | skip))
          all_goals (rw [ho])
      rintro _ _ τ hτ
      refine Za0 hτ ?_
      conv => whnf
      ((repeat' first | (refine Zab tok (by rfl) ?_; conv => whnf) | (refine Zap tok mix (by rfl) ?_; conv => whnf) | (refine @And.intro (Zaa _ _ _ _) _ ?_ ?_; rotate_left; (conv => whnf); rotate_right)); all_goals (try ((guard_target = Zaa _ _ _ _); refine Zae ?_; (all_goals (try simp only [Zaa, kzz, kz11, kz12, maxL, Zad] at *)); (all_goals (try (simp (disch := omega) only [Zal]))); all_goals omega)))
      have h2 : d[0 + (IntKind.i64.wrap ((a : Int) + (o : Int))).toNat]! = d[a + o]! := by simp (disch := omega) only [Zal]; exact Za5 (by omega)
      refine ⟨(t + 1, xorNext r, swp d (I + t) (a + o)), ⟨ht2, by rw [Zby]; exact hd, ?_⟩, by simp; omega, ?_⟩
      · rw [← hR]; exact (Go.Proofs.bp_step a L M I t r d o ht2 (by rw [← hO]; exact ho.symm)).symm
      refine Weak.list [(i0, .old i0, arow n (swp d (I + t) (a + o))), ((7, 0, 0), .old (7, 0, 0), urow (xorNext r).toNat)] rfl (by rfl) ?_ (.old rfl (BLe.row rfl (fun x hx => ?_)) (.old rfl (BLe.refl _) .nil))
      · ((repeat' first | exact TLes.nil | refine TLes.cons (TLe.eq rfl) ?_ | refine TLes.cons (TLe.int ?_) ?_); (all_goals first | ((try (simp only [Zaa, kzz, kz11, kz12, maxL, Zad] at *)); exact Zal (by omega) (by omega)) | skip))
      · exact Zdb (d := d) (i := I + t) (j := a + o) (by omega) (by omega) (by omega) (by simp (disch := omega) only [Zal]; omega) h2 (Za5 (by omega)) x
    · have ht3 : t = 3 := by rw [eA, Zal (by omega) (by omega)] at hb; simp only [Zaa, kzz, kz11, kz12, maxL, Zad] at *; omega
      subst ht3
      have hRes : R0 = d := hR.symm
      rw [hRes]
      exact ⟨_, [(i0, .old i0, arow n d)], rfl, rfl, rfl, rfl, .old rfl (BLe.refl _) .nil, .eq rfl⟩
  · have h8 : ¬ 8 ≤ L := by simp (disch := omega) only [Zal] at hb; simp only [Zaa, kzz, kz11, kz12, maxL, Zad] at *; omega
    have : breakPatterns d0 a (a + L) = d0 := by unfold breakPatterns; simp only []; rw [if_neg (by omega)]
    rw [this]
    exact ⟨_, [(i0, .old i0, arow n d0)], rfl, rfl, rfl, rfl, .old rfl (BLe.refl _) .nil, .eq rfl⟩
end Go.Proofs.YtoelbgjpmpoolaaGreat
namespace Go.Proofs.YtoelbgjpmpoolaaGreat
open Go Dv Go.Sort
set_option maxRecDepth 10000
set_option linter.unusedSimpArgs false
theorem c_Sort (n : Nat) (d : Array Int) (hn : d.size = n) : HC Tryz.prog [i0] 204 [(i0, arow n d)] [.rs i0 1 0 n] (.tup []) [(i0, arow n (Go.Sort.sort ltInt d))] := by
  refine Zbr tok Tryz.func204 rfl (by decide +kernel) (Nat.le_of_ble_eq_true rfl) ?_
  refine Zas 0 (fun hl => ?_)
  have hl0 : n ≤ 4294967296 := hl
  (repeat' first | refine Zac ?_ | (refine Zab tok (by rfl) ?_; conv => whnf))
  have hk := (bitsLen_le_iff n 62).2 (by omega)
  have hlen : ∀ z : Int, z = (n : Int) → FC Tryz.prog 201 [.int .u64 z] (iv (bitsLen n)) := fun z e => e ▸ c_Len n (by omega)
  refine .inl ⟨_, _, _, uG (QC.fc (hlen _ (by rw [IntKind.wrap_u64]; omega)) rfl), ?_⟩
  conv => whnf
  skip
  have hp := c_pdq c_break n n d 0 n (bitsLen n) hn (Nat.zero_le _) (Nat.le_refl _) (by omega) (by omega) (Or.inl rfl)
  have he : Go.Sort.sort ltInt d = pdq ltInt d 0 n (bitsLen n) true true := by unfold Go.Sort.sort; rw [hn]
  rw [he]
  refine .inr ⟨_, _, _, uG (QH.of (dead := []) [(i0, .old i0, arow n d)] hp rfl (.old rfl (BLe.refl _) .nil) (.cons (.eq rfl) (.cons (.eq rfl) (.cons (.eq rfl) (.cons (.eq rfl) .nil)))) [(i0, i0)] rfl (.cons rfl (BLe.refl _) .nil) rfl), ?_⟩
  conv => whnf
  skip
  exact ⟨_, [(i0, .old i0, arow n (pdq ltInt d 0 n (bitsLen n) true true))], rfl, rfl, rfl, rfl, .old rfl (BLe.refl _) .nil, .eq rfl⟩
def Zdr (l : List Int) : List Int := (Go.Sort.sort ltInt l.toArray).toList
theorem sorted_len (l : List Int) : (Zdr l).length = l.length := by
  have := (sort_sorts ltInt swo_ltInt l.toArray).1.1
  simp only [Zdr, Array.length_toList, this, List.size_toArray]
theorem sorted_eq (l : List Int) : Zdr l = l.mergeSort (fun x y => decide (x ≤ y)) := sortInt l
theorem bang_list (l : List Int) (x : Nat) : l.toArray[x]! = l.getD x 0 := by
  by_cases h : x < l.length
  · rw [getElem!_pos l.toArray x (by simpa using h), Zca 0 h]; simp
  · rw [getElem!_neg l.toArray x (by simpa using h), List.getD_eq_getElem?_getD, List.getElem?_eq_none (by omega)]; rfl
end Go.Proofs.YtoelbgjpmpoolaaGreat
namespace Go.Proofs.YtoelbgjpmpoolaaGreat
open Go Dv Go.Sort
set_option maxRecDepth 10000
set_option linter.unusedSimpArgs false
def runs (d : Array Int) : Nat → Nat
  | 0 => 0
  | 1 => 1
  | j + 2 => runs d (j + 1) + if d[j + 1]! = d[j]! then 0 else 1
theorem runs_succ (d : Array Int) {j : Nat} (h : 1 ≤ j) : runs d (j + 1) = runs d j + if d[j]! = d[j - 1]! then 0 else 1 := by
  obtain ⟨j, rfl⟩ : ∃ k, j = k + 1 := ⟨j - 1, by omega⟩
  rfl
theorem runs_le (d : Array Int) : ∀ j, runs d j ≤ j
  | 0 => Nat.le_refl _
  | 1 => Nat.le_refl _
  | j + 2 => by have := runs_le d (j + 1); simp only [runs]; split <;> omega
abbrev xrow (n : Nat) : Zam := .row true 1 n (fun _ => [.any])
theorem any_row {n n' : Nat} {f : Nat → List AV} (hn : n' ≤ n) (h : ∀ i, i < n' → ∃ v, f i = [v]) : BLe (.row true 1 n f) (xrow n') := by
  refine BLe.rowW hn (fun i hi => ?_)
  obtain ⟨v, e⟩ := h i hi
  rw [e]; exact .cons .any .nil
theorem set_row {d : Array Int} {i i' : Nat} {u v : Int} (hi : i < d.size) (ei : i' = i) (eu : u = v) (x : Nat) :
    updR (fun x => [AV.int .u16 d[x]!]) i' [.int .u16 u] x = [.int .u16 (d.setIfInBounds i v)[x]!] := by
  subst ei; subst eu
  rw [bang_set _ _ _ _ hi]
  unfold updR
  cases h2 : Nat.beq i' x with
  | true => have := Nat.eq_of_beq_eq_true h2; rw [if_pos this]; rfl
  | false =>
    have n2 : i' ≠ x := fun e => by subst e; simp at h2
    rw [if_neg n2]; rfl
theorem c_Compact (n : Nat) (d : Array Int) (hn : d.size = n) : HC Tryz.prog [i0] 184 [(i0, arow n d)] [.rs i0 1 0 n] (.rs i0 1 0 (runs d n)) [(i0, xrow n)] := by
  refine Zbr tok Tryz.func184 rfl (by decide +kernel) (Nat.le_of_ble_eq_true rfl) ?_
  refine Zas 0 (fun hl => ?_)
  have hl0 : n ≤ 4294967296 := hl
  (repeat' first | refine Zac ?_ | (refine Zab tok (by rfl) ?_; conv => whnf) | refine Zai ?_ | (refine Zag ?_; conv => whnf) | (refine Zaj ?_; conv => whnf) | refine Zaf rfl (fun hb => ?_) (fun hb => ?_))
  · have h2 : n = 0 ∨ n = 1 := by simp only [Zaa, kzz, kz11, kz12, maxL, Zad] at *; omega
    have hr : runs d n = n := by rcases h2 with rfl | rfl <;> rfl
    rw [hr]
    exact ⟨_, [(i0, .old i0, xrow n)], rfl, rfl, rfl, rfl, .old rfl (any_row (Nat.le_refl _) (fun i _ => ⟨_, rfl⟩)) .nil, .eq rfl⟩
  have hn2 : 2 ≤ n := by simp only [Zaa, kzz, kz11, kz12, maxL, Zad] at *; omega
  clear hb
  refine Zay (fun k : Nat => mkS [(0, .rs i0 1 0 n), (2, .nsl), (3, iv k)] [(i0, arow n d)])
    (fun k => 1 ≤ k ∧ k ≤ n ∧ runs d k = k) (fun k => n - k) 1 ⟨Nat.le_refl _, by omega, rfl⟩ ?_ ?_
  · refine Weak.list [(i0, .old i0, arow n d)] rfl (by rfl) ?_ (.old rfl (BLe.refl _) .nil)
    ((repeat' first | exact TLes.nil | refine TLes.cons (TLe.eq rfl) ?_); skip)
  rintro k ⟨hk1, hk2, hr⟩
  have hm1 : d[0 + (IntKind.i64.wrap ((k : Int) - 1)).toNat]! = d[k - 1]! := by simp (disch := omega) only [Zal]; exact Za5 (by omega)
  ((repeat' ((fail_if_success (show AWp _ _ _ (Code.region 8 _ _) _ _)); first | refine Zac ?_ | (refine Zab tok (by rfl) ?_; conv => whnf) | (refine Zap tok mix (by rfl) ?_; conv => whnf) | refine Zai ?_ | (refine Zag ?_; conv => whnf) | (refine Za1 ?_; conv => whnf) | (refine Zaj ?_; conv => whnf) | refine Zaf rfl (fun hb => ?_) (fun hb => ?_) | (refine @And.intro (Zaa _ _ _ _) _ ?_ ?_; rotate_left; (conv => whnf); rotate_right))); all_goals (try ((guard_target = Zaa _ _ _ _); refine Zae ?_; (all_goals (try simp only [Zaa, kzz, kz11, kz12, maxL, Zad] at *)); (all_goals (try (simp (disch := omega) only [Zal]))); all_goals omega)))
  · have hlt : k < n := by rename_i hx; simp only [Zaa, kzz, kz11, kz12, maxL, Zad] at *; omega
    have heq : d[k]! = d[k - 1]! := by rw [hm1] at hb; simpa using hb
    clear hb
    (repeat' first | (refine Zab tok (by rfl) ?_; conv => whnf) | refine Zai ?_)
    refine Zay (fun q : (Nat × Nat) × Array Int => mkS [(0, .rs i0 1 0 n), (2, .nsl), (3, iv q.1.2), (4, .rs i0 1 (0 + (k : Int).toNat) (n - k)), (5, iv q.1.1)] [(i0, arow n q.2)])
      (fun q => 1 ≤ q.1.1 ∧ q.1.1 ≤ n - k ∧ q.1.2 = runs d (k + q.1.1) ∧ q.2.size = n ∧ q.1.2 ≤ k + q.1.1 - 1 ∧ ∀ x, k + q.1.1 - 1 ≤ x → q.2[x]! = d[x]!) (fun q => n - k - q.1.1) ((1, k), d)
      ⟨by simp, by simp; omega, by simp only []; rw [runs_succ d hk1, if_pos heq, hr]; rfl, hn, by simp, fun _ _ => rfl⟩ ?_ ?_
    · refine Weak.list [(i0, .old i0, arow n d)] rfl (by rfl) ?_ (.old rfl (BLe.refl _) .nil)
      ((repeat' first | exact TLes.nil | refine TLes.cons (TLe.eq rfl) ?_); skip)
    rintro ⟨⟨j, i⟩, e⟩ ⟨hj1, hj2, hi, he, hij, hx⟩
    simp only at hj1 hj2 hi he hij hx ⊢
    ((repeat' first | refine Zac ?_ | (refine Zab tok (by rfl) ?_; conv => whnf) | (refine Zap tok mix (by rfl) ?_; conv => whnf) | refine Zai ?_ | (refine Zag ?_; conv => whnf) | (refine Za1 ?_; conv => whnf) | (refine Zaj ?_; conv => whnf) | refine Zaf rfl (fun hb => ?_) (fun hb => ?_) | (refine @And.intro (Zaa _ _ _ _) _ ?_ ?_; rotate_left; (conv => whnf); rotate_right)); all_goals (try ((guard_target = Zaa _ _ _ _); refine Zae ?_; (all_goals (try simp only [Zaa, kzz, kz11, kz12, maxL, Zad] at *)); (all_goals (try (simp (disch := omega) only [Zal]))); all_goals omega)))
    · have hlt2 : j < n - k := by rename_i h1; simp only [Zaa, kzz, kz11, kz12, maxL, Zad] at *; omega
      have hv1 : e[0 + (k : Int).toNat + (j : Int).toNat]! = d[k + j]! := by rw [Za5 (i := k + j) (by omega)]; exact hx _ (by omega)
      have hv2 : e[0 + (k : Int).toNat + (IntKind.i64.wrap ((j : Int) - 1)).toNat]! = d[k + j - 1]! := by rw [Zal (by omega) (by omega), Za5 (i := k + j - 1) (by omega)]; exact hx _ (by omega)
      have hne : ¬ d[k + j]! = d[k + j - 1]! := by rw [hv1, hv2] at hb; simpa using hb
      refine ⟨((j + 1, i + 1), e.setIfInBounds i d[k + j]!), ⟨by simp, by simp; omega, ?_, by simp [he], by simp; omega, fun x h2 => ?_⟩, by simp; omega, ?_⟩
      · simp only []
        rw [show k + (j + 1) = k + j + 1 by omega, runs_succ d (by omega), if_neg hne, hi]
      · simp only [] at h2 ⊢
        rw [bang_set _ _ _ _ (by omega), if_neg (by omega)]
        exact hx x (by omega)
      refine Weak.list [(i0, .old i0, arow n (e.setIfInBounds i d[k + j]!))] rfl (by rfl) ?_ (.old rfl (BLe.row rfl (fun x h2 => ?_)) .nil)
      · ((repeat' first | exact TLes.nil | refine TLes.cons (TLe.eq rfl) ?_ | refine TLes.cons (TLe.int ?_) ?_); (all_goals first | ((try (simp only [Zaa, kzz, kz11, kz12, maxL, Zad] at *)); exact Zal (by omega) (by omega)) | skip))
      · exact set_row (d := e) (i := i) (by omega) (by omega) hv1 x
    · have hlt2 : j < n - k := by rename_i h1; simp only [Zaa, kzz, kz11, kz12, maxL, Zad] at *; omega
      have hv1 : e[0 + (k : Int).toNat + (j : Int).toNat]! = d[k + j]! := by rw [Za5 (i := k + j) (by omega)]; exact hx _ (by omega)
      have hv2 : e[0 + (k : Int).toNat + (IntKind.i64.wrap ((j : Int) - 1)).toNat]! = d[k + j - 1]! := by rw [Zal (by omega) (by omega), Za5 (i := k + j - 1) (by omega)]; exact hx _ (by omega)
      have hne : d[k + j]! = d[k + j - 1]! := by rw [hv1, hv2] at hb; simpa using hb
      refine ⟨((j + 1, i), e), ⟨by simp, by simp; omega, ?_, he, by simp; omega, fun x h2 => hx x (by simp at h2; omega)⟩, by simp; omega, ?_⟩
      · simp only []
        rw [show k + (j + 1) = k + j + 1 by omega, runs_succ d (by omega), if_pos hne, hi]; rfl
      refine Weak.list [(i0, .old i0, arow n e)] rfl (by rfl) ?_ (.old rfl (BLe.refl _) .nil)
      ((repeat' first | exact TLes.nil | refine TLes.cons (TLe.eq rfl) ?_ | refine TLes.cons (TLe.int ?_) ?_); (all_goals first | ((try (simp only [Zaa, kzz, kz11, kz12, maxL, Zad] at *)); exact Zal (by omega) (by omega)) | skip))
    · have hj : j = n - k := by simp only [Zaa, kzz, kz11, kz12, maxL, Zad] at *; omega
      have hin : i = runs d n := by rw [hi, hj]; congr 1; omega
      refine ⟨_, [(i0, .old i0, xrow n)], rfl, rfl, rfl, rfl, .old rfl (any_row (Nat.le_refl _) (fun x h2 => ?_)) .nil, TLe.rsL rfl (by rw [← hin]; simp)⟩
      show ∃ v, (bif inRow (0 + (i : Int).toNat) ((n : Int).toNat - (i : Int).toNat) x then [AV.int .u16 0] else [AV.int .u16 e[x]!]) = [v]
      cases inRow (0 + (i : Int).toNat) ((n : Int).toNat - (i : Int).toNat) x <;> exact ⟨_, rfl⟩
  · have hlt : k < n := by rename_i hx; simp only [Zaa, kzz, kz11, kz12, maxL, Zad] at *; omega
    have heq : ¬ d[k]! = d[k - 1]! := by rw [hm1] at hb; simpa using hb
    refine ⟨k + 1, ⟨by omega, by omega, by rw [runs_succ d hk1, if_neg heq, hr]⟩, by omega, ?_⟩
    refine Weak.list [(i0, .old i0, arow n d)] rfl (by rfl) ?_ (.old rfl (BLe.refl _) .nil)
    ((repeat' first | exact TLes.nil | refine TLes.cons (TLe.eq rfl) ?_ | refine TLes.cons (TLe.int ?_) ?_); (all_goals first | ((try (simp only [Zaa, kzz, kz11, kz12, maxL, Zad] at *)); exact Zal (by omega) (by omega)) | skip))
  · have hkn : k = n := by simp only [Zaa, kzz, kz11, kz12, maxL, Zad] at *; omega
    rw [← hkn, hr, hkn]
    exact ⟨_, [(i0, .old i0, xrow n)], rfl, rfl, rfl, rfl, .old rfl (any_row (Nat.le_refl _) (fun i _ => ⟨_, rfl⟩)) .nil, .eq rfl⟩
theorem runs_all {l : List Int} (hs : ∀ i j, i < j → j < l.length → l.getD i 0 ≤ l.getD j 0) : ∀ j, j ≤ l.length → (runs l.toArray j = j ↔ ∀ x, x < j → ∀ y, y < x → l.getD y 0 ≠ l.getD x 0)
  | 0, _ => ⟨fun _ x h => by omega, fun _ => rfl⟩
  | 1, _ => ⟨fun _ x h y h2 => by omega, fun _ => rfl⟩
  | j + 2, hj => by
      have ih := runs_all hs (j + 1) (by omega)
      have hle := runs_le l.toArray (j + 1)
      simp only [runs, bang_list]
      constructor
      · intro h
        split at h
        · omega
        · rename_i hne
          have hall := ih.1 (by omega)
          intro x hx y hy
          by_cases e : x = j + 1
          · subst e
            by_cases e2 : y = j
            · subst e2; exact fun h3 => hne h3.symm
            · have h1 := hs y j (by omega) (by omega)
              have h2 := hs j (j + 1) (by omega) (by omega)
              omega
          · exact hall x (by omega) y hy
      · intro h
        rw [if_neg (fun h3 => h (j + 1) (by omega) j (by omega) h3.symm)]
        have := ih.2 (fun x hx y hy => h x (by omega) y hy)
        omega
end Go.Proofs.YtoelbgjpmpoolaaGreat
namespace Go.Proofs.YtoelbgjpmpoolaaGreat
open Go Dv
set_option maxRecDepth 10000
set_option linter.unusedSimpArgs false
def encL (m : Zak) (f : Func) : List AV := Zbj m ++ Zcg f
theorem c_IdxInt {g : FuncId} {cap : List AV} {p : Int → Bool} (hi : Zb5 cap = true) (hg : ∀ k, FC Tryz.prog g (iv k :: cap) (.bool (p k))) (l : List Int) : FC Tryz.prog 169 [ints l, .fn g cap] (iv (idxG p l)) := by
  refine Zav tok Tryz.func169 rfl (by decide +kernel) (Nat.le_of_ble_eq_true rfl) ?_
  refine Zas 0 (fun hl => ?_)
  have hl0 : l.length ≤ maxL := hl.1
  (repeat' first | refine Zac ?_ | (refine Zab tok (by rfl) ?_; conv => whnf) | refine Zai ?_)
  refine Zay (fun i : Nat => mkS [(0, ints l), (1, .fn g cap), (7, iv l.length), (8, iv i)] [])
    (fun i => i ≤ l.length ∧ ∀ j, j < i → p (l.getD j 0) = false) (fun i => l.length - i) 0 ⟨Nat.zero_le _, by simp⟩ ?_ ?_
  · refine Weak.list [] rfl (by rfl) ?_ .nil
    ((repeat' first | exact TLes.nil | refine TLes.cons (TLe.eq rfl) ?_ | refine TLes.cons (TLe.fn (by assumption)) ?_); skip)
  rintro i ⟨hi2, hc⟩
  ((repeat' first | refine Zac ?_ | (refine Zab tok (by rfl) ?_; conv => whnf) | refine Zai ?_ | (refine Zag ?_; conv => whnf) | (refine Za1 ?_; conv => whnf) | (refine Zaj ?_; conv => whnf) | (refine (Zcb _ _).mpr ?_; conv => whnf) | refine Zaf rfl (fun hb => ?_) (fun hb => ?_) | (refine @And.intro (Zaa _ _ _ _) _ ?_ ?_; rotate_left; (conv => whnf); rotate_right)); all_goals (try ((guard_target = Zaa _ _ _ _); refine Zae ?_; (all_goals (try simp only [Zaa, kzz, kz11, kz12, maxL, Zad] at *)); all_goals omega)))
  · have hlt : i < l.length := by simp only [Zaa, kzz, kz11, kz12, maxL, Zad] at *; omega
    refine .inl ⟨_, _, _, uG (QC.fc (hg _) (immDs_app (xs := [_]) rfl hi)), ?_⟩
    conv => whnf
    (repeat' first | refine Zac ?_ | (refine Zab tok (by rfl) ?_; conv => whnf) | (refine Zag ?_; conv => whnf) | (refine Zaj ?_; conv => whnf) | refine Zaf rfl (fun hb => ?_) (fun hb => ?_))
    · refine ⟨_, rfl, Rel.int ?_⟩
      exact (idxG_at 0 hlt hc (by simpa using hb)).symm
    · refine ⟨i + 1, ⟨hlt, fun j hj => ?_⟩, by omega, ?_⟩
      · by_cases e : j = i
        · subst e; simpa using hb
        · exact hc j (by omega)
      refine Weak.list [] rfl (by rfl) ?_ .nil
      ((repeat' first | exact TLes.nil | refine TLes.cons (TLe.eq rfl) ?_ | refine TLes.cons (TLe.int ?_) ?_ | refine TLes.cons (TLe.fn (by assumption)) ?_); (all_goals first | ((try (simp only [Zaa, kzz, kz11, kz12, maxL, Zad] at *)); exact Zal (by omega) (by omega)) | skip))
  · refine ⟨_, rfl, Rel.int ?_⟩
    exact (idxG_none 0 (fun j hj => hc j (by simp only [Zaa, kzz, kz11, kz12, maxL, Zad] at *; omega))).symm
theorem c_HasInt {g : FuncId} {cap : List AV} {p : Int → Bool} (hi : Zb5 cap = true) (hg : ∀ k, FC Tryz.prog g (iv k :: cap) (.bool (p k))) (l : List Int) : FC Tryz.prog 206 [ints l, .fn g cap] (.bool (l.any p)) := by
  refine Zav tok Tryz.func206 rfl (by decide +kernel) (Nat.le_of_ble_eq_true rfl) ?_
  (repeat' first | refine Zac ?_ | (refine Zab tok (by rfl) ?_; conv => whnf) | (refine (Zcb _ _).mpr ?_; conv => whnf))
  refine .inl ⟨_, _, _, uG (QC.fc (c_IdxInt hi hg l) (show Zb5 [ints l, AV.fn g cap] = true from by simp [Zb5, immD, ints, hi])), ?_⟩
  conv => whnf
  (repeat' (refine Zaj ?_; conv => whnf))
  refine ⟨_, rfl, Rel.bool ?_⟩
  rw [← idxG_any]
theorem c_place (m : Zak) (f : Func) (n : Int) : FC Tryz.prog 183 [.agg (encL m f), iv n] (.bool (inn n f.regs)) := by
  refine Zav tok Tryz.func183 rfl (by decide +kernel) (Nat.le_of_ble_eq_true rfl) ?_
  (repeat' first | refine Zac ?_ | (refine Zab tok (by rfl) ?_; conv => whnf) | (refine Zaj ?_; conv => whnf))
  exact ⟨_, rfl, Rel.imm rfl⟩
theorem c_lgoal (m : Zak) (f : Func) (n : Int) : FC Tryz.prog 185 [.agg (encL m f), iv n] (.bool (goalB f n)) := by
  refine Zav tok Tryz.func185 rfl (by decide +kernel) (Nat.le_of_ble_eq_true rfl) ?_
  ((repeat' first | refine Zac ?_ | (refine Zab tok (by rfl) ?_; conv => whnf) | (refine Zaj ?_; conv => whnf) | (refine @And.intro (Zaa _ _ _ _) _ ?_ ?_; rotate_left; (conv => whnf); rotate_right)); all_goals (try ((guard_target = Zaa _ _ _ _); ((refine Zbe ?_; intro hgd; (conv at hgd => whnf))); (all_goals (try simp only [Zaa, kzz, kz11, kz12, maxL, Zad] at *)); all_goals omega)))
  exact ⟨_, rfl, Rel.imm rfl⟩
def landB (f : Func) (n : Int) : Bool := bif inn n f.blocks.length then (f.blocks.getD n.toNat default).landing else false
theorem c_landing (m : Zak) (f : Func) (n : Int) : FC Tryz.prog 187 [.agg (encL m f), iv n] (.bool (landB f n)) := by
  refine Zav tok Tryz.func187 rfl (by decide +kernel) (Nat.le_of_ble_eq_true rfl) ?_
  ((repeat' first | refine Zac ?_ | (refine Zab tok (by rfl) ?_; conv => whnf) | (refine Zaj ?_; conv => whnf) | (refine @And.intro (Zaa _ _ _ _) _ ?_ ?_; rotate_left; (conv => whnf); rotate_right)); all_goals (try ((guard_target = Zaa _ _ _ _); ((refine Zbe ?_; intro hgd; (conv at hgd => whnf))); (all_goals (try simp only [Zaa, kzz, kz11, kz12, maxL, Zad] at *)); all_goals omega)))
  exact ⟨_, rfl, Rel.imm rfl⟩
theorem c_call1 (m : Zak) (f : Func) (k : Int) : FC Tryz.prog 207 [iv k, .ip (encL m f)] (.bool (!inn k f.regs)) := by
  refine Zav tok Tryz.func207 rfl (by decide +kernel) (Nat.le_of_ble_eq_true rfl) ?_
  (repeat' first | refine Zac ?_ | (refine Zab tok (by rfl) ?_; conv => whnf))
  refine .inl ⟨_, _, _, uG (QC.fc (c_place m f k) rfl), ?_⟩
  conv => whnf
  (repeat' (refine Zaj ?_; conv => whnf))
  exact ⟨_, rfl, Rel.imm rfl⟩
theorem c_lcall (m : Zak) (f : Func) (n : Int) (l : List Int) : FC Tryz.prog 186 [.agg (encL m f), iv n, ints l] (.bool (argsB m f n l)) := by
  refine Zav tok Tryz.func186 rfl (by decide +kernel) (Nat.le_of_ble_eq_true rfl) ?_
  ((repeat' first | refine Zac ?_ | (refine Zab tok (by rfl) ?_; conv => whnf) | (refine Zag ?_; conv => whnf) | (refine Zaj ?_; conv => whnf) | refine Zaf rfl (fun hb => ?_) (fun hb => ?_) | (refine @And.intro (Zaa _ _ _ _) _ ?_ ?_; rotate_left; (conv => whnf); rotate_right)); all_goals (try ((guard_target = Zaa _ _ _ _); ((refine Zbe ?_; intro hgd; (conv at hgd => whnf))); (all_goals (try simp only [Zaa, kzz, kz11, kz12, maxL, Zad] at *)); all_goals omega)))
  · refine ⟨_, rfl, Rel.bool ?_⟩
    unfold argsB inn
    by_cases h0 : n < 0
    · rw [decide_eq_false (show ¬ 0 ≤ n by omega)]; rfl
    · by_cases h1 : (m.funcs.length : Int) ≤ n
      · rw [decide_eq_false (show ¬ n < (m.funcs.length : Int) by omega)]; cases decide (0 ≤ n) <;> rfl
      · rw [decide_eq_false h0, decide_eq_false h1] at hb
        simp only [cond_false, Bool.not_eq_eq_eq_not, Bool.not_true] at hb
        rw [hb]; cases decide (0 ≤ n) <;> cases decide (n < (m.funcs.length : Int)) <;> rfl
  have hh := c_HasInt (g := 207) (cap := [.ip (encL m f)]) (p := fun k => !inn k f.regs) rfl (fun k => c_call1 m f k) l
  refine .inl ⟨_, _, _, uG (QC.sc (rd := [Zc6 (some 3)]) hh (.cons (.imm rfl) (.cons (.fn (.cons (.ip rfl (List.mem_singleton.2 rfl) (by decide) (Ress.imms rfl)) .nil)) .nil)) rfl), ?_⟩
  conv => whnf
  (repeat' (refine Zaj ?_; conv => whnf))
  refine ⟨_, rfl, Rel.bool ?_⟩
  have h0 : ¬ n < 0 := by intro h0; rw [decide_eq_true h0] at hb; cases hb
  rw [decide_eq_false h0] at hb
  have h1 : ¬ (m.funcs.length : Int) ≤ n := by intro h1; rw [decide_eq_true h1] at hb; cases hb
  rw [decide_eq_false h1] at hb
  simp only [cond_false, Bool.not_eq_eq_eq_not, Bool.not_false] at hb
  unfold argsB
  rw [show inn n m.funcs.length = true from (Zad _ _).2 ⟨by omega, by omega⟩, hb]
  simp only [cond_true]
  rw [List.not_any_eq_all_not]
  simp
end Go.Proofs.YtoelbgjpmpoolaaGreat
namespace Go.Proofs.YtoelbgjpmpoolaaGreat
open Go Dv
set_option maxRecDepth 10000
set_option linter.unusedSimpArgs false
theorem c_EqualI (l k : List Int) : FC Tryz.prog 208 [ints l, ints k] (.bool (decide (l = k))) := by
  refine Zav tok Tryz.func208 rfl (by decide +kernel) (Nat.le_of_ble_eq_true rfl) ?_
  refine Zas 0 (fun hl => ?_)
  have hl0 : l.length ≤ maxL := hl.1
  (repeat' first | refine Zac ?_ | (refine Zab tok (by rfl) ?_; conv => whnf) | refine Zai ?_ | (refine Zag ?_; conv => whnf) | (refine Zaj ?_; conv => whnf) | refine Zaf rfl (fun hb => ?_) (fun hb => ?_))
  · refine ⟨_, rfl, Rel.bool ?_⟩
    simp only [Zaa, kzz, kz11, kz12, maxL, Zad] at *
    symm; rw [decide_eq_false_iff_not]
    intro e; rw [e] at hb; exact hb rfl
  have hlen : l.length = k.length := by simp only [Zaa, kzz, kz11, kz12, maxL, Zad] at *; omega
  refine Zay (fun i : Nat => mkS [(0, ints l), (1, ints k), (4, .bool false), (12, iv l.length), (13, iv i)] []) (fun i => i ≤ l.length ∧ ∀ j, j < i → l.getD j 0 = k.getD j 0) (fun i => l.length - i) 0 ⟨Nat.zero_le _, by simp⟩ ?_ ?_
  · refine Weak.list [] rfl (by rfl) ?_ .nil
    ((repeat' first | exact TLes.nil | refine TLes.cons (TLe.eq rfl) ?_); skip)
  rintro i ⟨hi, hc⟩
  ((repeat' first | refine Zac ?_ | (refine Zab tok (by rfl) ?_; conv => whnf) | (refine Zap tok mix (by rfl) ?_; conv => whnf) | refine Zai ?_ | (refine Zag ?_; conv => whnf) | (refine Za1 ?_; conv => whnf) | (refine Zaj ?_; conv => whnf) | refine Zaf rfl (fun hb => ?_) (fun hb => ?_) | (refine @And.intro (Zaa _ _ _ _) _ ?_ ?_; rotate_left; (conv => whnf); rotate_right)); all_goals (try ((guard_target = Zaa _ _ _ _); refine Zae ?_; (all_goals (try simp only [Zaa, kzz, kz11, kz12, maxL, Zad] at *)); all_goals omega)))
  all_goals simp only [Zaa, kzz, kz11, kz12, maxL, Zad] at *
  · refine ⟨_, rfl, Rel.bool ?_⟩
    symm; rw [decide_eq_false_iff_not]
    intro e; subst e; exact hb rfl
  · refine ⟨i + 1, ⟨by omega, fun j hj => ?_⟩, by omega, ?_⟩
    · by_cases e : j = i
      · subst e; exact hb
      · exact hc j (by omega)
    refine Weak.list [] rfl (by rfl) ?_ .nil
    ((repeat' first | exact TLes.nil | refine TLes.cons (TLe.eq rfl) ?_ | refine TLes.cons (TLe.int ?_) ?_); (all_goals first | (exact Zal (by omega) (by omega)) | skip))
  · refine ⟨_, rfl, Rel.bool ?_⟩
    symm; rw [decide_eq_true_eq]
    exact Zed 0 hlen (fun j hj => hc j (by omega))
theorem c_EqualU (l k : List Int) : FC Tryz.prog 202 [u16s l, u16s k] (.bool (decide (l = k))) := by
  refine Zav tok Tryz.func202 rfl (by decide +kernel) (Nat.le_of_ble_eq_true rfl) ?_
  refine Zas 0 (fun hl => ?_)
  have hl0 : l.length ≤ maxL := hl.1
  (repeat' first | refine Zac ?_ | (refine Zab tok (by rfl) ?_; conv => whnf) | refine Zai ?_ | (refine Zag ?_; conv => whnf) | (refine Zaj ?_; conv => whnf) | refine Zaf rfl (fun hb => ?_) (fun hb => ?_))
  · refine ⟨_, rfl, Rel.bool ?_⟩
    simp only [Zaa, kzz, kz11, kz12, maxL, Zad] at *
    symm; rw [decide_eq_false_iff_not]
    intro e; rw [e] at hb; exact hb rfl
  have hlen : l.length = k.length := by simp only [Zaa, kzz, kz11, kz12, maxL, Zad] at *; omega
  refine Zay (fun i : Nat => mkS [(0, u16s l), (1, u16s k), (4, .bool false), (12, iv l.length), (13, iv i)] []) (fun i => i ≤ l.length ∧ ∀ j, j < i → l.getD j 0 = k.getD j 0) (fun i => l.length - i) 0 ⟨Nat.zero_le _, by simp⟩ ?_ ?_
  · refine Weak.list [] rfl (by rfl) ?_ .nil
    ((repeat' first | exact TLes.nil | refine TLes.cons (TLe.eq rfl) ?_); skip)
  rintro i ⟨hi, hc⟩
  ((repeat' first | refine Zac ?_ | (refine Zab tok (by rfl) ?_; conv => whnf) | (refine Zap tok mix (by rfl) ?_; conv => whnf) | refine Zai ?_ | (refine Zag ?_; conv => whnf) | (refine Za1 ?_; conv => whnf) | (refine Zaj ?_; conv => whnf) | refine Zaf rfl (fun hb => ?_) (fun hb => ?_) | (refine @And.intro (Zaa _ _ _ _) _ ?_ ?_; rotate_left; (conv => whnf); rotate_right)); all_goals (try ((guard_target = Zaa _ _ _ _); refine Zae ?_; (all_goals (try simp only [Zaa, kzz, kz11, kz12, maxL, Zad] at *)); all_goals omega)))
  all_goals simp only [Zaa, kzz, kz11, kz12, maxL, Zad] at *
  · refine ⟨_, rfl, Rel.bool ?_⟩
    symm; rw [decide_eq_false_iff_not]
    intro e; subst e; exact hb rfl
  · refine ⟨i + 1, ⟨by omega, fun j hj => ?_⟩, by omega, ?_⟩
    · by_cases e : j = i
      · subst e; exact hb
      · exact hc j (by omega)
    refine Weak.list [] rfl (by rfl) ?_ .nil
    ((repeat' first | exact TLes.nil | refine TLes.cons (TLe.eq rfl) ?_ | refine TLes.cons (TLe.int ?_) ?_); (all_goals first | (exact Zal (by omega) (by omega)) | skip))
  · refine ⟨_, rfl, Rel.bool ?_⟩
    symm; rw [decide_eq_true_eq]
    exact Zed 0 hlen (fun j hj => hc j (by omega))
theorem c_sameIns (x y : Ins) : FC Tryz.prog 189 [.agg (Zbf x), .agg (Zbf y)] (.bool (decide (x = y))) := by
  refine Zav tok Tryz.func189 rfl (by decide +kernel) (Nat.le_of_ble_eq_true rfl) ?_
  (repeat' first | refine Zac ?_ | (refine Zab tok (by rfl) ?_; conv => whnf))
  refine .inl ⟨_, _, _, uG (QC.fc (c_EqualI x.args y.args) rfl), ?_⟩
  conv => whnf
  (repeat' (refine Zaj ?_; conv => whnf))
  refine ⟨_, rfl, Rel.bool ?_⟩
  obtain ⟨a1, a2, a3, a4, a5, a6, a7⟩ := x
  obtain ⟨b1, b2, b3, b4, b5, b6, b7⟩ := y
  rw [Bool.eq_iff_iff]
  simp [and_assoc]
theorem c_sameEnd (x y : End) : FC Tryz.prog 188 [.agg (Zea x), .agg (Zea y)] (.bool (decide (x = y))) := by
  refine Zav tok Tryz.func188 rfl (by decide +kernel) (Nat.le_of_ble_eq_true rfl) ?_
  (repeat' first | refine Zac ?_ | (refine Zab tok (by rfl) ?_; conv => whnf))
  refine .inl ⟨_, _, _, uG (QC.fc (c_EqualI x.args y.args) rfl), ?_⟩
  conv => whnf
  (repeat' (refine Zaj ?_; conv => whnf))
  refine ⟨_, rfl, Rel.bool ?_⟩
  obtain ⟨a1, a2, a3, a4, a5, a6, a7, a8⟩ := x
  obtain ⟨b1, b2, b3, b4, b5, b6, b7, b8⟩ := y
  rw [Bool.eq_iff_iff]
  simp [and_assoc]
theorem c_samePad (x y : Pad) : FC Tryz.prog 180 [.agg (encPad x), .agg (encPad y)] (.bool (decide (x = y))) := by
  refine Zav tok Tryz.func180 rfl (by decide +kernel) (Nat.le_of_ble_eq_true rfl) ?_
  (repeat' first | refine Zac ?_ | (refine Zab tok (by rfl) ?_; conv => whnf))
  refine .inl ⟨_, _, _, uG (QC.fc (c_EqualU x.catch_ y.catch_) rfl), ?_⟩
  conv => whnf
  (repeat' (refine Zaj ?_; conv => whnf))
  refine ⟨_, rfl, Rel.bool ?_⟩
  obtain ⟨a1, a2, a3, a4⟩ := x
  obtain ⟨b1, b2, b3, b4⟩ := y
  rw [Bool.eq_iff_iff]
  simp [and_assoc]
end Go.Proofs.YtoelbgjpmpoolaaGreat
namespace Go.Proofs.YtoelbgjpmpoolaaGreat
open Go Dv
set_option maxRecDepth 10000
set_option linter.unusedSimpArgs false
end Go.Proofs.YtoelbgjpmpoolaaGreat
namespace Go.Proofs.YtoelbgjpmpoolaaGreat
namespace Fl
open Go Dv
set_option maxRecDepth 10000
set_option linter.unusedSimpArgs false
set_option linter.unusedVariables false
def Zee (b : Zdp) : List Int := if b.fin.kind = 2 ∨ b.fin.kind = 4 then [b.fin.to] else if b.fin.kind = 3 then [b.fin.to, b.fin.els] else []
theorem fc34 (b : Zdp) : FC Tryz.prog 130 [.agg (Zbl b)] (ints (Zee b)) := by
  refine Zav tok Tryz.func130 rfl (by decide +kernel) (Nat.le_of_ble_eq_true rfl) ?_
  (repeat' first | refine Zac ?_ | (refine Zab tok (by rfl) ?_; conv => whnf) | refine Zai ?_ | (refine Zag ?_; conv => whnf) | (refine Zaj ?_; conv => whnf) | refine Zaf rfl (fun hb => ?_) (fun hb => ?_))
  all_goals simp only [Zaa, kzz, kz11, kz12, maxL, Zad] at *
  all_goals first | (exfalso; omega; done) | skip
  · have e : Zee b = [b.fin.to] := by simp [Zee, hb]
    rw [e]
    exact ⟨_, rfl, Rel.rsImm rfl (by decide) (fun i hi => by match i, hi with | 0, _ => rfl)⟩
  · have e : Zee b = [b.fin.to] := by simp [Zee, hb]
    rw [e]
    exact ⟨_, rfl, Rel.rsImm rfl (by decide) (fun i hi => by match i, hi with | 0, _ => rfl)⟩
  · have e : Zee b = [b.fin.to, b.fin.els] := by simp [Zee, hb]
    rw [e]
    exact ⟨_, rfl, Rel.rsImm rfl (by decide) (fun i hi => by match i, hi with | 0, _ => rfl | 1, _ => rfl)⟩
  · have e : Zee b = [] := by simp [Zee, *]
    rw [e]
    exact ⟨_, rfl, Rel.nsl' rfl⟩
theorem fo33 (l : List Int) : FO Tryz.prog 79 [ints l] 1 l.length (fun i => [iv (l.getD i 0)]) := c_CloneInts l
theorem fc32 (F : Func) (n : Int) : FC Tryz.prog 129 [.agg (Zcg F), iv n] (.bool (bif decide (0 ≤ n) then decide (n < (F.blocks.length : Int)) else false)) := by
  refine Zav tok Tryz.func129 rfl (by decide +kernel) (Nat.le_of_ble_eq_true rfl) ?_
  (repeat' first | refine Zac ?_ | (refine Zab tok (by rfl) ?_; conv => whnf) | (refine Zaj ?_; conv => whnf))
  exact ⟨_, rfl, Rel.imm rfl⟩
end Fl
end Go.Proofs.YtoelbgjpmpoolaaGreat
namespace Go.Proofs.YtoelbgjpmpoolaaGreat
namespace Fl
open Go Dv
set_option maxRecDepth 10000
set_option linter.unusedSimpArgs false
set_option linter.unusedVariables false
abbrev isIn (F : Func) (n : Int) : Bool := bif decide (0 ≤ n) then decide (n < (F.blocks.length : Int)) else false
abbrev i0 : Dv.Id := (0, 7, 0)
abbrev i1 : Dv.Id := (1, 7, 0)
def fbox (F : Func) : Zam := .row true 3 1 (fun _ => Zcg F)
theorem hc36 (F : Func) (k : Int) : HC Tryz.prog [i1] 132 [(i1, fbox F)] [iv k, .bp i1 0] (.bool (!isIn F k)) [(i1, fbox F)] := by
  refine Zbr tok Tryz.func132 rfl (by decide +kernel) (Nat.le_of_ble_eq_true rfl) ?_
  (repeat' first | refine Zac ?_ | (refine Zab tok (by rfl) ?_; conv => whnf))
  refine .inl ⟨_, _, _, QC.fc (fc32 F k) rfl, ?_⟩
  conv => whnf
  (repeat' (refine Zaj ?_; conv => whnf))
  exact ⟨_, [(i1, .old i1, fbox F)], rfl, rfl, rfl, rfl, .old rfl (BLe.refl _) .nil, .eq rfl⟩
def idxOf (p : Int → Bool) (l : List Int) : Int := match l.findIdx? p with
  | some i => i
  | none => -1
theorem idx_at {p : Int → Bool} {l : List Int} {i : Nat} (hi : i < l.length) (hc : ∀ j, j < i → p (l.getD j 0) = false) (hp : p (l.getD i 0) = true) : idxOf p l = i := by
  have h : l.findIdx? p = some i := by
    rw [List.findIdx?_eq_some_iff_getElem]
    refine ⟨hi, ?_, fun j hj => ?_⟩
    · simpa [List.getD_eq_getElem?_getD, hi] using hp
    · have := hc j hj
      have hjl : j < l.length := by omega
      simpa [List.getD_eq_getElem?_getD, hjl] using this
  simp [idxOf, h]
theorem idx_none {p : Int → Bool} {l : List Int} (hc : ∀ j, j < l.length → p (l.getD j 0) = false) : idxOf p l = -1 := by
  have h : l.findIdx? p = none := by
    rw [List.findIdx?_eq_none_iff]
    intro x hx
    obtain ⟨j, hj, rfl⟩ := List.getElem_of_mem hx
    have := hc j hj
    simpa [List.getD_eq_getElem?_getD, hj] using this
  simp [idxOf, h]
theorem hc45 (g : FuncId) (p : Int → Bool) (sz : Nat) (bf : Nat → List AV) (hq : ∀ k, HC Tryz.prog [i1] g [(i1, .row true sz 1 bf)] [iv k, .bp i1 0] (.bool (p k)) [(i1, .row true sz 1 bf)]) (l : List Int) :
    HC Tryz.prog [i0, i1] 169 [(i0, .row true 1 l.length (fun i => [iv (l.getD i 0)])), (i1, .row true sz 1 bf)] [.rs i0 1 0 l.length, .fn g [.bp i1 0]] (iv (idxOf p l)) [(i0, .row true 1 l.length (fun i => [iv (l.getD i 0)])), (i1, .row true sz 1 bf)] := by
  refine Zbr tok Tryz.func169 rfl (by decide +kernel) (Nat.le_of_ble_eq_true rfl) ?_
  refine Zas 0 (fun hl => ?_)
  have hl0 : l.length ≤ maxL := hl
  (repeat' first | refine Zac ?_ | (refine Zab tok (by rfl) ?_; conv => whnf) | refine Zai ?_)
  refine Zay (fun i : Nat => mkS [(0, .rs i0 1 0 l.length), (1, .fn g [.bp i1 0]), (7, iv l.length), (8, iv i)] [(i0, .row true 1 l.length (fun i => [iv (l.getD i 0)])), (i1, .row true sz 1 bf)])
    (fun i => i ≤ l.length ∧ ∀ j, j < i → p (l.getD j 0) = false) (fun i => l.length - i) 0 ⟨Nat.zero_le _, by simp⟩ ?_ ?_
  · refine Weak.list [(i0, .old i0, .row true 1 l.length (fun i => [iv (l.getD i 0)])), (i1, .old i1, .row true sz 1 bf)] rfl (by rfl) ?_ (.old rfl (BLe.refl _) (.old rfl (BLe.refl _) .nil))
    (repeat' first | exact TLes.nil | refine TLes.cons (TLe.eq rfl) ?_)
  rintro i ⟨hi, hc⟩
  ((repeat' first | refine Zac ?_ | (refine Zab tok (by rfl) ?_; conv => whnf) | refine Zai ?_ | (refine Zag ?_; conv => whnf) | (refine Za1 ?_; conv => whnf) | (refine Zaj ?_; conv => whnf) | refine Zaf rfl (fun hb => ?_) (fun hb => ?_) | (refine @And.intro (Zaa _ _ _ _) _ ?_ ?_; rotate_left; (conv => whnf); rotate_right)); all_goals (try ((guard_target = Zaa _ _ _ _); refine Zae ?_; (all_goals (try simp only [Zaa, kzz, kz11, kz12, maxL, Zad] at *)); all_goals omega)))
  · have hlt : i < l.length := by simp only [decide_eq_true_eq] at hb; omega
    clear hb
    refine .inr ⟨_, _, _, uG (QH.of (dead := []) [(i1, .old i1, .row true sz 1 bf)] (hq _) rfl (.old rfl (BLe.refl _) .nil) (.cons (.eq rfl) (.cons (.eq rfl) .nil)) [(i1, i1)] rfl (.cons rfl (BLe.refl _) .nil) rfl), ?_⟩
    conv => whnf
    (repeat' first | refine Zac ?_ | (refine Zab tok (by rfl) ?_; conv => whnf) | (refine Zag ?_; conv => whnf) | (refine Zaj ?_; conv => whnf) | refine Zaf rfl (fun hb => ?_) (fun hb => ?_))
    · simp only [Zaa, kzz, kz11, kz12, maxL, Zad] at *
      refine ⟨_, [(i0, .old i0, .row true 1 l.length (fun i => [iv (l.getD i 0)])), (i1, .old i1, .row true sz 1 bf)], rfl, rfl, rfl, rfl, .old rfl (BLe.refl _) (.old rfl (BLe.refl _) .nil), TLe.int ?_⟩
      exact (idx_at (by omega) hc (by simpa using hb)).symm
    · simp only [Zaa, kzz, kz11, kz12, maxL, Zad] at *
      refine ⟨i + 1, ⟨by omega, fun j hj => ?_⟩, by omega, ?_⟩
      · by_cases e : j = i
        · subst e; simpa using hb
        · exact hc j (by omega)
      refine Weak.list [(i0, .old i0, .row true 1 l.length (fun i => [iv (l.getD i 0)])), (i1, .old i1, .row true sz 1 bf)] rfl (by rfl) ?_ (.old rfl (BLe.refl _) (.old rfl (BLe.refl _) .nil))
      (repeat' first | exact TLes.nil | refine TLes.cons (TLe.eq rfl) ?_ | refine TLes.cons (TLe.int ?_) ?_)
      rw [Zal (by omega) (by omega)]; rfl
  · simp only [Zaa, kzz, kz11, kz12, maxL, Zad] at *
    refine ⟨_, [(i0, .old i0, .row true 1 l.length (fun i => [iv (l.getD i 0)])), (i1, .old i1, .row true sz 1 bf)], rfl, rfl, rfl, rfl, .old rfl (BLe.refl _) (.old rfl (BLe.refl _) .nil), TLe.int ?_⟩
    exact (idx_none (fun j hj => hc j (by omega))).symm
end Fl
end Go.Proofs.YtoelbgjpmpoolaaGreat
namespace Go.Proofs.YtoelbgjpmpoolaaGreat
namespace Fl
open Go Dv
set_option maxRecDepth 10000
set_option linter.unusedSimpArgs false
set_option linter.unusedVariables false
abbrev irow (n : Nat) (l : List Int) : Zam := .row true 1 n (fun x => [iv (l.getD x 0)])
abbrev kept (p : Int → Bool) (l : List Int) : List Int := l.filter fun x => !p x
structure DelI (p : Int → Bool) (l : List Int) (j : Nat) (r : List Int) : Prop where
  hj : j ≤ l.length
  lt : (kept p (l.take j)).length < j
  len : r.length = l.length
  lo : ∀ x, x < (kept p (l.take j)).length → r.getD x 0 = (kept p (l.take j)).getD x 0
  hi : ∀ x, j ≤ x → r.getD x 0 = l.getD x 0
theorem idx_cases (p : Int → Bool) (l : List Int) : (idxOf p l = -1 ∧ kept p l = l) ∨ ∃ i : Nat, idxOf p l = (i : Int) ∧ i < l.length ∧ kept p (l.take (i + 1)) = l.take i := by
  unfold idxOf
  cases h : l.findIdx? p with
  | none =>
    left
    refine ⟨rfl, ?_⟩
    rw [List.findIdx?_eq_none_iff] at h
    rw [List.filter_eq_self]
    intro x hx; simp [h x hx]
  | some i =>
    right
    rw [List.findIdx?_eq_some_iff_getElem] at h
    obtain ⟨hi, h1, h2⟩ := h
    refine ⟨i, rfl, hi, ?_⟩
    rw [List.take_succ_eq_append_getElem hi]
    simp only [kept, List.filter_append]
    have e1 : (l.take i).filter (fun x => !p x) = l.take i := by
      rw [List.filter_eq_self]
      intro x hx
      obtain ⟨j, hj, rfl⟩ := List.getElem_of_mem hx
      simp at hj
      have := h2 j (by omega)
      simpa using this
    rw [e1]; simp [h1]
theorem DelI.init (p : Int → Bool) (l : List Int) {i : Nat} (hi : i < l.length) (hk : kept p (l.take (i + 1)) = l.take i) : DelI p l (i + 1) l := by
  refine ⟨hi, by rw [hk]; simp; omega, rfl, fun x hx => ?_, fun _ _ => rfl⟩
  rw [hk] at hx ⊢
  simp at hx
  have hx' : x < i := by omega
  simp [List.getD_eq_getElem?_getD, List.getElem?_take, hx']
theorem Zbw {l : List Int} {j : Nat} (h : j < l.length) : l.take (j + 1) = l.take j ++ [l.getD j 0] := by
  rw [List.take_succ_eq_append_getElem h]; simp [List.getD_eq_getElem?_getD, h]
theorem kept_keep {p : Int → Bool} {l : List Int} {j : Nat} (h : j < l.length) (hp : p (l.getD j 0) = false) : kept p (l.take (j + 1)) = kept p (l.take j) ++ [l.getD j 0] := by
  rw [Zbw h]; simp only [kept, List.filter_append, List.filter_cons, hp]; rfl
theorem kept_drop {p : Int → Bool} {l : List Int} {j : Nat} (h : j < l.length) (hp : p (l.getD j 0) = true) : kept p (l.take (j + 1)) = kept p (l.take j) := by
  rw [Zbw h]; simp only [kept, List.filter_append, List.filter_cons, hp]; simp
theorem DelI.keep {p : Int → Bool} {l r : List Int} {j : Nat} (I : DelI p l j r) (h : j < l.length) (hp : p (l.getD j 0) = false) : DelI p l (j + 1) (r.set (kept p (l.take j)).length (l.getD j 0)) := by
  have hlt := I.lt
  have hlen := I.len
  refine ⟨h, by rw [kept_keep h hp]; simp; omega, by simp [I.len], fun x hx => ?_, fun x hx => ?_⟩
  · rw [kept_keep h hp] at hx ⊢
    simp at hx
    rcases Nat.lt_or_ge x (kept p (l.take j)).length with h1 | h1
    · have := I.lo x h1
      rw [List.getD_eq_getElem?_getD, List.getElem?_set_ne (by omega), ← List.getD_eq_getElem?_getD, this]
      simp [List.getD_eq_getElem?_getD, List.getElem?_append_left h1]
    · have e : x = (kept p (l.take j)).length := by omega
      rw [e, List.getD_eq_getElem?_getD, List.getElem?_set_self (by omega), List.getD_eq_getElem?_getD (l := kept p (l.take j) ++ _), List.getElem?_append_right (Nat.le_refl _)]
      simp
  · rw [List.getD_eq_getElem?_getD, List.getElem?_set_ne (by omega), ← List.getD_eq_getElem?_getD]
    exact I.hi x (by omega)
theorem DelI.drop {p : Int → Bool} {l r : List Int} {j : Nat} (I : DelI p l j r) (h : j < l.length) (hp : p (l.getD j 0) = true) : DelI p l (j + 1) r := by
  have hlt := I.lt
  refine ⟨h, by rw [kept_drop h hp]; omega, I.len, fun x hx => ?_, fun x hx => I.hi x (by omega)⟩
  rw [kept_drop h hp] at hx ⊢; exact I.lo x hx
theorem set_row {r : List Int} {k n : Nat} {v : Int} (hk : k < r.length) (x : Nat) : updR (fun x => [iv (r.getD x 0)]) (0 + k) [iv v] x = [iv ((r.set k v).getD x 0)] := by
  rw [Nat.zero_add]
  unfold updR
  cases e : Nat.beq k x with
  | true => have := Nat.eq_of_beq_eq_true e; subst this; simp [List.getD_eq_getElem?_getD, hk]
  | false =>
    have : k ≠ x := fun e' => by subst e'; simp at e
    simp [List.getD_eq_getElem?_getD, List.getElem?_set_ne this]
theorem hc35 (g : FuncId) (p : Int → Bool) (sz : Nat) (bf : Nat → List AV) (hq : ∀ k, HC Tryz.prog [i1] g [(i1, .row true sz 1 bf)] [iv k, .bp i1 0] (.bool (p k)) [(i1, .row true sz 1 bf)]) (l : List Int) :
    HC Tryz.prog [i0, i1] 131 [(i0, irow l.length l), (i1, .row true sz 1 bf)] [.rs i0 1 0 l.length, .fn g [.bp i1 0]] (.rs i0 1 0 (kept p l).length) [(i0, irow l.length (kept p l)), (i1, .row true sz 1 bf)] := by
  refine Zbr tok Tryz.func131 rfl (by decide +kernel) (Nat.le_of_ble_eq_true rfl) ?_
  refine Zas 0 (fun hl => ?_)
  have hl0 : l.length ≤ maxL := hl
  (repeat' first | refine Zac ?_ | (refine Zab tok (by rfl) ?_; conv => whnf))
  refine .inr ⟨_, _, _, uG (QH.of (dead := []) [(i0, .old i0, irow l.length l), (i1, .old i1, .row true sz 1 bf)] (hc45 g p sz bf hq l) rfl (.old rfl (BLe.refl _) (.old rfl (BLe.refl _) .nil)) (.cons (.eq rfl) (.cons (.eq rfl) .nil)) [(i0, i0), (i1, i1)] rfl (.cons rfl (BLe.refl _) (.cons rfl (BLe.refl _) .nil)) rfl), ?_⟩
  conv => whnf
  (repeat' first | refine Zac ?_ | (refine Zab tok (by rfl) ?_; conv => whnf) | refine Zai ?_ | (refine Zag ?_; conv => whnf) | (refine Zaj ?_; conv => whnf) | refine Zaf rfl (fun hb => ?_) (fun hb => ?_))
  · simp only [Zaa, kzz, kz11, kz12, maxL, Zad] at *
    have hk : kept p l = l := by
      rcases idx_cases p l with ⟨_, h⟩ | ⟨i, h, _⟩
      · exact h
      · omega
    rw [hk]
    exact ⟨_, [(i0, .old i0, irow l.length l), (i1, .old i1, .row true sz 1 bf)], rfl, rfl, rfl, rfl, .old rfl (BLe.refl _) (.old rfl (BLe.refl _) .nil), .eq rfl⟩
  obtain ⟨i, hi1, hi2, hi3⟩ : ∃ i : Nat, idxOf p l = (i : Int) ∧ i < l.length ∧ kept p (l.take (i + 1)) = l.take i := by
    simp only [Zaa, kzz, kz11, kz12, maxL, Zad] at *
    rcases idx_cases p l with ⟨h, _⟩ | h
    · exact (hb h).elim
    · exact h
  refine Zay (fun s : Nat × List Int => mkS [(0, .rs i0 1 0 l.length), (1, .fn g [.bp i1 0]), (5, iv (kept p (l.take s.1)).length), (6, iv s.1)] [(i0, irow l.length s.2), (i1, .row true sz 1 bf)])
    (fun s => DelI p l s.1 s.2) (fun s => l.length - s.1) (i + 1, l) (DelI.init p l hi2 hi3) ?_ ?_
  · refine Weak.list [(i0, .old i0, irow l.length l), (i1, .old i1, .row true sz 1 bf)] rfl (by rfl) ?_ (.old rfl (BLe.refl _) (.old rfl (BLe.refl _) .nil))
    (repeat' first | exact TLes.nil | refine TLes.cons (TLe.eq rfl) ?_ | refine TLes.cons (TLe.int ?_) ?_)
    · simp only [hi3, hi1]; simp; omega
    · simp only [Zaa, kzz, kz11, kz12, maxL, Zad] at *
      rw [hi1, Zal (by omega) (by omega)]; rfl
  rintro ⟨j, r⟩ hI
  replace hI : DelI p l j r := hI
  have hlt := hI.lt
  have hlen := hI.len
  have hjj := hI.hj
  ((repeat' first | refine Zac ?_ | (refine Zab tok (by rfl) ?_; conv => whnf) | refine Zai ?_ | (refine Zag ?_; conv => whnf) | (refine Za1 ?_; conv => whnf) | (refine Zaj ?_; conv => whnf) | refine Zaf rfl (fun hb => ?_) (fun hb => ?_) | (refine @And.intro (Zaa _ _ _ _) _ ?_ ?_; rotate_left; (conv => whnf); rotate_right)); all_goals (try ((guard_target = Zaa _ _ _ _); refine Zae ?_; (all_goals (try simp only [Zaa, kzz, kz11, kz12, maxL, Zad] at *)); all_goals omega)))
  · have hjl : j < l.length := by simp only [decide_eq_true_eq] at hb; omega
    clear hb
    refine .inr ⟨_, _, _, uG (QH.of (dead := []) [(i1, .old i1, .row true sz 1 bf)] (hq _) rfl (.old rfl (BLe.refl _) .nil) (.cons (.eq rfl) (.cons (.eq rfl) .nil)) [(i1, i1)] rfl (.cons rfl (BLe.refl _) .nil) rfl), ?_⟩
    conv => whnf
    ((repeat' first | refine Zac ?_ | (refine Zab tok (by rfl) ?_; conv => whnf) | (refine Zag ?_; conv => whnf) | refine Zaf rfl (fun hb => ?_) (fun hb => ?_) | (refine @And.intro (Zaa _ _ _ _) _ ?_ ?_; rotate_left; (conv => whnf); rotate_right)); all_goals (try ((guard_target = Zaa _ _ _ _); refine Zae ?_; (all_goals (try simp only [Zaa, kzz, kz11, kz12, maxL, Zad] at *)); all_goals omega)))
    all_goals simp only [Zaa, kzz, kz11, kz12, maxL, Zad] at *
    · have hj : j < l.length := by omega
      have e1 : r.getD j 0 = l.getD j 0 := hI.hi j (Nat.le_refl _)
      rw [e1] at hb
      refine ⟨(j + 1, r.set (kept p (l.take j)).length (l.getD j 0)), hI.keep hj hb, by simp only; omega, ?_⟩
      refine Weak.list [(i0, .old i0, irow l.length (r.set (kept p (l.take j)).length (l.getD j 0))), (i1, .old i1, .row true sz 1 bf)] rfl (by rfl) ?_ (.old rfl (BLe.row rfl (fun x hx => ?_)) (.old rfl (BLe.refl _) .nil))
      · (repeat' first | exact TLes.nil | refine TLes.cons (TLe.eq rfl) ?_ | refine TLes.cons (TLe.int ?_) ?_)
        · simp only [kept_keep hj hb]
          rw [Zal (by omega) (by omega)]; simp
        · rw [Zal (by omega) (by omega)]; rfl
      · rw [← set_row (n := 0) (by omega), ← e1]; simp only [Nat.zero_add]; rfl
    · have hj : j < l.length := by omega
      have e1 : r.getD j 0 = l.getD j 0 := hI.hi j (Nat.le_refl _)
      rw [e1] at hb
      refine ⟨(j + 1, r), hI.drop hj hb, by simp only; omega, ?_⟩
      refine Weak.list [(i0, .old i0, irow l.length r), (i1, .old i1, .row true sz 1 bf)] rfl (by rfl) ?_ (.old rfl (BLe.refl _) (.old rfl (BLe.refl _) .nil))
      (repeat' first | exact TLes.nil | refine TLes.cons (TLe.eq rfl) ?_ | refine TLes.cons (TLe.int ?_) ?_)
      · simp only [kept_drop hj hb]
      · rw [Zal (by omega) (by omega)]; rfl
  all_goals simp only [Zaa, kzz, kz11, kz12, maxL, Zad] at *
  · have ej : l.take j = l := List.take_of_length_le (by omega)
    have hlo := hI.lo
    simp only [ej] at hlo hlt ⊢
    refine ⟨_, [(i0, .old i0, irow l.length (kept p l)), (i1, .old i1, .row true sz 1 bf)], rfl, rfl, rfl, rfl, .old rfl (BLe.row rfl (fun x hx => ?_)) (.old rfl (BLe.refl _) .nil), .eq rfl⟩
    show (bif inRow ((kept p l).length) (l.length - (kept p l).length) x then [iv 0] else [iv (r.getD x 0)]) = [iv ((kept p l).getD x 0)]
    cases e : inRow ((kept p l).length) (l.length - (kept p l).length) x with
    | true =>
      have := inRow_iff.1 e
      simp only [cond_true, List.getD_eq_getElem?_getD]
      rw [List.getElem?_eq_none (by omega)]; rfl
    | false =>
      have : x < (kept p l).length := by
        rcases Nat.lt_or_ge x (kept p l).length with h | h
        · exact h
        · rw [inRow_iff.2 ⟨by omega, by omega⟩] at e; cases e
      simp only [cond_false, hlo x this]
end Fl
end Go.Proofs.YtoelbgjpmpoolaaGreat
namespace Go.Proofs.YtoelbgjpmpoolaaGreat
namespace Fl
open Go Dv
set_option maxRecDepth 10000
set_option linter.unusedSimpArgs false
set_option linter.unusedVariables false
theorem _root_.Dv.TLe.rs {R : Dv.Rows} {i j : Dv.Id} {sz st n m : Nat} (hr : R.ren i = some j) (hn : n = m) : TLe R (.rs i sz st n) (.rs j sz st m) := by
  subst hn; refine .eq ?_; simp only [Zbd, hr]
def nxt (b : Zdp) : List Int := if b.fin.kind = 4 then Zee b ++ [b.fin.pad] else Zee b
def next (F : Func) (n : Int) : List Int := if isIn F n = true then kept (fun k => !isIn F k) (nxt (F.blocks.getD n.toNat default)) else []
theorem goals_len (b : Zdp) : (Zee b).length ≤ 2 := by unfold Zee; split <;> (try split) <;> simp
theorem fo17 (F : Func) (n : Int) : FO Tryz.prog 75 [.agg (Zcg F), iv n] 1 (next F n).length (fun i => [iv ((next F n).getD i 0)]) := by
  refine Zei tok Tryz.func75 rfl (by decide +kernel) (Nat.le_of_ble_eq_true rfl) ?_
  (repeat' first | refine Zac ?_ | (refine Zab tok (by rfl) ?_; conv => whnf))
  refine .inl ⟨_, _, _, QC.fc (fc32 F n) rfl, ?_⟩
  conv => whnf
  ((repeat' first | refine Zac ?_ | (refine Zab tok (by rfl) ?_; conv => whnf) | (refine Zag ?_; conv => whnf) | (refine Zaj ?_; conv => whnf) | refine Zaf rfl (fun hb => ?_) (fun hb => ?_) | (refine @And.intro (Zaa _ _ _ _) _ ?_ ?_; rotate_left; (conv => whnf); rotate_right)); all_goals (try ((guard_target = Zaa _ _ _ _); refine Zae ?_; (all_goals (try simp only [Zaa, kzz, kz11, kz12, maxL, Zad] at *)); all_goals omega)))
  · refine ⟨_, rfl, RelO.nsl' ?_⟩
    simp only [next]
    rw [if_neg]; rfl
    intro h
    rw [show (bif decide (0 ≤ n) then decide (n < (F.blocks.length : Int)) else false) = isIn F n from rfl, h] at hb
    cases hb
  refine .inl ⟨_, _, _, QC.fc (fc34 _) rfl, ?_⟩
  conv => whnf
  skip
  refine .inl ⟨_, _, _, QC.fo (rd := []) (fo33 _) (.cons (.imm rfl) .nil) (.inl rfl) rfl, ?_⟩
  conv => whnf
  have hin : isIn F n = true := by
    cases h : isIn F n with
    | true => rfl
    | false =>
      rw [show (bif decide (0 ≤ n) then decide (n < (F.blocks.length : Int)) else false) = isIn F n from rfl, h] at hb
      cases hb
  generalize hB : F.blocks.getD n.toNat default = B
  have hg := goals_len B
  ((repeat' first | refine Zac ?_ | (refine Zab tok (by rfl) ?_; conv => whnf) | (refine Zag ?_; conv => whnf) | refine Zaf rfl (fun hb => ?_) (fun hb => ?_) | (refine @And.intro (Zaa _ _ _ _) _ ?_ ?_; rotate_left; (conv => whnf); rotate_right)); all_goals (try ((guard_target = Zaa _ _ _ _); refine Zae ?_; (first | refine And.intro (Zep rfl ?_) ?_ | skip); (all_goals (try simp only [Zaa, kzz, kz11, kz12, maxL, Zad] at *)); all_goals omega)))
  · have e : nxt B = Zee B ++ [B.fin.pad] := by
      simp only [Zaa, kzz, kz11, kz12, maxL, Zad] at *
      simp [nxt, hb]
    refine .inr ⟨_, _, _, QH.of (dead := []) [(i0, .old (28, 0, 0), irow (nxt B).length (nxt B)), (i1, .old (2, 0, 0), fbox F)] (hc35 132 (fun k => !isIn F k) 3 _ (hc36 F) (nxt B)) rfl
      (.old rfl (BLe.row (by rw [e]; simp) (fun x hx => ?_)) (.old rfl (BLe.refl _) .nil)) (.cons (TLe.rs rfl (by rw [e]; simp)) (.cons (.eq rfl) .nil)) [(i0, (28, 0, 0)), (i1, (2, 0, 0))] rfl (.cons rfl (BLe.refl _) (.cons rfl (BLe.refl _) .nil)) rfl, ?_⟩
    · rw [e]
      show appR (Zee B).length (fun i => [iv ((Zee B).getD i 0)]) (fun i => Zfm 1 [iv B.fin.pad] (0 + i)) x = _
      have hx1 : x < (Zee B).length + 1 := by simpa using hx
      unfold appR
      cases hc : Nat.blt x (Zee B).length with
      | true =>
        rw [Nat.blt_eq] at hc
        simp only [cond_true, List.getD_eq_getElem?_getD, List.getElem?_append_left hc]
      | false =>
        have h1 : x = (Zee B).length := by
          rcases Nat.lt_or_ge x (Zee B).length with h | h
          · rw [← Nat.blt_eq] at h; rw [h] at hc; cases hc
          · omega
        subst h1
        simp only [cond_false, Nat.sub_self, List.getD_eq_getElem?_getD, List.getElem?_append_right (Nat.le_refl _)]
        rfl
    conv => whnf
    (repeat' (refine Zaj ?_; conv => whnf))
    have e2 : next F n = kept (fun k => !isIn F k) (nxt B) := by simp only [next, hin, if_true, hB]
    rw [e2]
    exact ⟨_, rfl, RelO.rs rfl (List.length_filter_le _ _) rfl (fun _ _ => rfl)⟩
  · have e : nxt B = Zee B := by
      simp only [Zaa, kzz, kz11, kz12, maxL, Zad] at *
      simp [nxt, hb]
    refine .inr ⟨_, _, _, QH.of (dead := []) [(i0, .old (18, 0, 0), irow (nxt B).length (nxt B)), (i1, .old (2, 0, 0), fbox F)] (hc35 132 (fun k => !isIn F k) 3 _ (hc36 F) (nxt B)) rfl
      (.old rfl (BLe.row (by rw [e]) (fun x hx => by rw [e]; rfl)) (.old rfl (BLe.refl _) .nil)) (.cons (TLe.rs rfl (by rw [e])) (.cons (.eq rfl) .nil)) [(i0, (18, 0, 0)), (i1, (2, 0, 0))] rfl (.cons rfl (BLe.refl _) (.cons rfl (BLe.refl _) .nil)) rfl, ?_⟩
    conv => whnf
    (repeat' (refine Zaj ?_; conv => whnf))
    have e2 : next F n = kept (fun k => !isIn F k) (nxt B) := by simp only [next, hin, if_true, hB]
    rw [e2]
    exact ⟨_, rfl, RelO.rs rfl (List.length_filter_le _ _) rfl (fun _ _ => rfl)⟩
end Fl
end Go.Proofs.YtoelbgjpmpoolaaGreat
namespace Go.Proofs.YtoelbgjpmpoolaaGreat
namespace Fl
open Go Dv
set_option maxRecDepth 10000
set_option linter.unusedSimpArgs false
set_option linter.unusedVariables false
abbrev i2 : Dv.Id := (2, 0, 0)
abbrev brow (n : Nat) (l : List Bool) : Zam := .row true 1 n (fun x => [.bool (l.getD x false)])
def wbox (F : Func) (m : Nat) : Zam := .row false 5 1 (fun _ => [iv F.params, iv F.regs, blockss F.blocks, .rs i1 1 0 F.blocks.length, .rs i2 1 0 m])
abbrev walkH (F : Func) (s : List Bool × List Int) : List (Dv.Id × Zam) := [(i0, wbox F s.2.length), (i1, brow F.blocks.length s.1), (i2, irow s.2.length s.2)]
def into (F : Func) : Nat → Int → List Bool × List Int → List Bool × List Int
  | 0, _, s => s
  | fuel + 1, n, (seen, left) => if seen.getD n.toNat false = true then (seen, left) else
      let s1 := (next F n).foldl (fun s k => into F fuel k s) (seen.set n.toNat true, left)
      (s1.1, s1.2 ++ [n])
theorem next_in {F : Func} {n k : Int} (h : k ∈ next F n) : 0 ≤ k ∧ k < F.blocks.length := by
  unfold next at h
  split at h
  · simp [kept] at h
    have h2 : isIn F k = true := by simpa [isIn] using h.2
    unfold isIn at h2
    cases h0 : decide (0 ≤ k) with
    | true => rw [h0] at h2; exact ⟨of_decide_eq_true h0, of_decide_eq_true h2⟩
    | false => rw [h0] at h2; cases h2
  · simp at h
abbrev Keeps (F : Func) (s s' : List Bool × List Int) : Prop := s'.1.length = F.blocks.length ∧ s'.2.length + s'.1.count false ≤ s.2.length + s.1.count false ∧ s'.1.count false ≤ s.1.count false
theorem fold_keeps {F : Func} {fuel : Nat} (ih : ∀ (n : Int) (s : List Bool × List Int), s.1.length = F.blocks.length → 0 ≤ n → n < F.blocks.length → Keeps F s (into F fuel n s)) :
    ∀ (l : List Int) (s : List Bool × List Int), s.1.length = F.blocks.length → (∀ k ∈ l, 0 ≤ k ∧ k < F.blocks.length) → Keeps F s (l.foldl (fun s k => into F fuel k s) s)
  | [], s, h, _ => ⟨h, Nat.le_refl _, Nat.le_refl _⟩
  | k :: l, s, h, hk => by
      have h1 := ih k s h (hk k (by simp)).1 (hk k (by simp)).2
      have h2 := fold_keeps ih l (into F fuel k s) h1.1 (fun x hx => hk x (by simp [hx]))
      simp only [List.foldl_cons]
      exact ⟨h2.1, by omega, by omega⟩
theorem set_count {l : List Bool} {i : Nat} (hi : i < l.length) (h : l.getD i false = false) : (l.set i true).count false + 1 = l.count false := by
  have e : l[i] = false := by simpa [List.getD_eq_getElem?_getD, hi] using h
  have := List.count_set (a := true) (b := false) (l := l) hi
  rw [this, e]
  simp
  have : 0 < l.count false := List.count_pos_iff.2 (by rw [← e]; exact List.getElem_mem hi)
  omega
theorem into_keeps (F : Func) : ∀ (fuel : Nat) (n : Int) (s : List Bool × List Int), s.1.length = F.blocks.length → 0 ≤ n → n < F.blocks.length → Keeps F s (into F fuel n s) := by
  intro fuel
  induction fuel with
  | zero => intro n s h _ _; exact ⟨h, Nat.le_refl _, Nat.le_refl _⟩
  | succ fuel ih =>
    rintro n ⟨seen, left⟩ hlen h0 h1
    simp only at hlen
    simp only [into]
    split
    · exact ⟨hlen, Nat.le_refl _, Nat.le_refl _⟩
    · rename_i hs
      have h := fold_keeps ih (next F n) (seen.set n.toNat true, left) (by simpa using hlen) (fun x hx => next_in hx)
      have hc := set_count (l := seen) (i := n.toNat) (by omega) (by simpa using hs)
      dsimp only [Keeps] at h
      refine ⟨h.1, ?_, ?_⟩
      · simp only [List.length_append, List.length_cons, List.length_nil]; omega
      · dsimp only; omega
theorem set_brow {r : List Bool} {k : Nat} {v : Bool} (hk : k < r.length) (x : Nat) : updR (fun x => [AV.bool (r.getD x false)]) (0 + k) [.bool v] x = [.bool ((r.set k v).getD x false)] := by
  rw [Nat.zero_add]
  unfold updR
  cases e : Nat.beq k x with
  | true => have := Nat.eq_of_beq_eq_true e; subst this; simp [List.getD_eq_getElem?_getD, hk]
  | false =>
    have : k ≠ x := fun e' => by subst e'; simp at e
    simp [List.getD_eq_getElem?_getD, List.getElem?_set_ne this]
theorem app_row {l : List Int} {v : Int} {x : Nat} (hx : x < l.length + 1) : appR l.length (fun i => [iv (l.getD i 0)]) (fun i => Zfm 1 [iv v] (0 + i)) x = [iv ((l ++ [v]).getD x 0)] := by
  unfold appR
  cases hc : Nat.blt x l.length with
  | true =>
    rw [Nat.blt_eq] at hc
    simp only [cond_true, List.getD_eq_getElem?_getD, List.getElem?_append_left hc]
  | false =>
    have h1 : x = l.length := by
      rcases Nat.lt_or_ge x l.length with h | h
      · rw [← Nat.blt_eq] at h; rw [h] at hc; cases hc
      · omega
    subst h1
    simp only [cond_false, Nat.sub_self, List.getD_eq_getElem?_getD, List.getElem?_append_right (Nat.le_refl _)]
    rfl
theorem hc47 (F : Func) (fuel : Nat) : ∀ (n : Int) (s : List Bool × List Int), s.1.length = F.blocks.length → 0 ≤ n → n < F.blocks.length → s.1.count false ≤ fuel → s.2.length + s.1.count false ≤ maxL →
    HC Tryz.prog [i0, i1] 133 (walkH F s) [.bp i0 0, iv n] (.tup []) (walkH F (into F (fuel + 1) n s)) := by
  induction fuel using Nat.strongRecOn with
  | ind fuel ih =>
  rintro n ⟨seen, left⟩ hlen hn0 hn1 hfu hle
  simp only at hlen hfu hle
  obtain ⟨k, rfl⟩ : ∃ k : Nat, n = k := ⟨n.toNat, by omega⟩
  have hk : k < seen.length := by omega
  refine Zbr tok Tryz.func133 rfl (by decide +kernel) (Nat.le_of_ble_eq_true rfl) ?_
  ((repeat' first | refine Zac ?_ | (refine Zab tok (by rfl) ?_; conv => whnf) | (refine Zag ?_; conv => whnf) | (refine Zaj ?_; conv => whnf) | refine Zaf rfl (fun hb => ?_) (fun hb => ?_) | (refine @And.intro (Zaa _ _ _ _) _ ?_ ?_; rotate_left; (conv => whnf); rotate_right)); all_goals (try ((guard_target = Zaa _ _ _ _); refine Zae ?_; (all_goals (try simp only [Zaa, kzz, kz11, kz12, maxL, Zad] at *)); all_goals omega)))
  · simp only [Zaa, kzz, kz11, kz12, maxL, Zad] at *
    have hb' : seen.getD k false = true := by simpa using hb
    have e : into F (fuel + 1) (k : Int) (seen, left) = (seen, left) := by simp only [into, Int.toNat_natCast, hb', if_true]
    rw [e]
    exact ⟨_, [(i0, .old i0, wbox F left.length), (i1, .old i1, brow F.blocks.length seen), (i2, .old i2, irow left.length left)], rfl, rfl, rfl, rfl, .old rfl (BLe.refl _) (.old rfl (BLe.refl _) (.old rfl (BLe.refl _) .nil)), .eq rfl⟩
  have hb' : seen.getD k false = false := by
    simp only [Zaa, kzz, kz11, kz12, maxL, Zad] at *
    simpa using hb
  have hcnt := set_count hk hb'
  obtain ⟨f, rfl⟩ : ∃ f, fuel = f + 1 := ⟨fuel - 1, by omega⟩
  refine .inl ⟨_, _, _, QC.fo (rd := []) (fo17 F k) (.cons (.imm rfl) (.cons (.imm rfl) .nil)) (.inl rfl) rfl, ?_⟩
  conv => whnf
  (repeat' refine Zai ?_)
  refine Zas 24 (fun hm => ?_)
  have hNl : (next F (k : Int)).length ≤ maxL := hm
  clear hm
  revert hNl
  generalize hN : next F (k : Int) = N
  intro hNl
  let st : Nat → List Bool × List Int := fun i => (N.take i).foldl (fun s k => into F (f + 1) k s) (seen.set k true, left)
  refine Zay (fun i : Nat => mkS [(0, .bp i0 0), (1, iv k), (24, .rs (24, 0, 0) 1 0 N.length), (25, iv N.length), (26, iv i)] (walkH F (st i) ++ [((24, 0, 0), irow N.length N)]))
    (fun i => i ≤ N.length) (fun i => N.length - i) 0 (Nat.zero_le _) ?_ ?_
  · refine Weak.list [(i0, .old i0, wbox F left.length), (i1, .old i1, brow F.blocks.length (seen.set k true)), (i2, .old i2, irow left.length left), ((24, 0, 0), .old (24, 0, 0), irow N.length N)] rfl (by rfl) ?_ ?_
    · (repeat' first | exact TLes.nil | refine TLes.cons (TLe.eq rfl) ?_)
    · refine .old rfl (BLe.refl _) (.old rfl (BLe.row rfl (fun x hx => ?_)) (.old rfl (BLe.refl _) (.old rfl (BLe.refl _) .nil)))
      exact set_brow hk x
  have hst : ∀ i, (st i).1.length = F.blocks.length ∧ (st i).2.length + (st i).1.count false + 1 ≤ left.length + seen.count false ∧ (st i).1.count false ≤ f := by
    intro i
    have := fold_keeps (into_keeps F (f + 1)) (N.take i) (seen.set k true, left) (by simpa using hlen) (fun x hx => by rw [← hN] at hx; exact next_in (List.mem_of_mem_take hx))
    dsimp only [Keeps] at this
    refine ⟨this.1, ?_, ?_⟩
    · have h := this.2.1
      show ((N.take i).foldl (fun s k => into F (f + 1) k s) (seen.set k true, left)).2.length + ((N.take i).foldl (fun s k => into F (f + 1) k s) (seen.set k true, left)).1.count false + 1 ≤ _
      omega
    · have h := this.2.2
      show ((N.take i).foldl (fun s k => into F (f + 1) k s) (seen.set k true, left)).1.count false ≤ _
      omega
  have hstep : ∀ i, i < N.length → st (i + 1) = into F (f + 1) (N.getD i 0) (st i) := by
    intro i hi
    show (N.take (i + 1)).foldl _ _ = _
    rw [List.take_succ_eq_append_getElem hi, List.foldl_append]
    simp [List.getD_eq_getElem?_getD, hi, st]
  have hin : ∀ i, i < N.length → 0 ≤ N.getD i 0 ∧ N.getD i 0 < F.blocks.length := by
    intro i hi
    refine next_in (F := F) (n := k) ?_
    rw [hN, List.getD_eq_getElem?_getD, List.getElem?_eq_getElem hi]
    exact List.getElem_mem hi
  have hfull : (N.foldl (fun s k => into F (f + 1) k s) (seen.set k true, left)) = st N.length := by
    show _ = (N.take N.length).foldl _ _
    rw [List.take_length]
  clear_value st
  intro i hi
  have hsi := (hst i).2.1
  ((repeat' first | refine Zac ?_ | (refine Zab tok (by rfl) ?_; conv => whnf) | refine Zai ?_ | (refine Zag ?_; conv => whnf) | (refine Za1 ?_; conv => whnf) | refine Zaf rfl (fun hb => ?_) (fun hb => ?_) | (refine @And.intro (Zaa _ _ _ _) _ ?_ ?_; rotate_left; (conv => whnf); rotate_right)); all_goals (try ((guard_target = Zaa _ _ _ _); refine Zae ?_; (first | refine And.intro (Zep rfl ?_) ?_ | skip); (all_goals (try simp only [Zaa, kzz, kz11, kz12, maxL, Zad] at *)); all_goals omega)))
  · have hi' : i < N.length := by
      simp only [Zaa, kzz, kz11, kz12, maxL, Zad] at *
      omega
    refine .inr ⟨_, _, _, QH.of (dead := [i2]) [(i0, .old i0, wbox F (st i).2.length), (i1, .old i1, brow F.blocks.length (st i).1), (i2, .old i2, irow (st i).2.length (st i).2)]
      (ih f (by omega) (N.getD i 0) (st i) (hst i).1 (hin i hi').1 (hin i hi').2 (hst i).2.2 (by have := (hst i).2.1; omega)) rfl
      (.old rfl (BLe.refl _) (.old rfl (BLe.refl _) (.old rfl (BLe.refl _) .nil))) (.cons (.eq rfl) (.cons (TLe.int (by simp)) .nil)) [(i0, i0), (i1, i1), (i2, (32, 0, 0))] rfl (.cons rfl (BLe.refl _) (.cons rfl (BLe.refl _) (.cons rfl (BLe.refl _) .nil))) rfl, ?_⟩
    conv => whnf
    (repeat' (refine Zab tok (by rfl) ?_; conv => whnf))
    refine ⟨i + 1, hi', by omega, ?_⟩
    rw [hstep i hi']
    generalize into F (f + 1) (N.getD i 0) (st i) = s1
    refine Weak.list [(i0, .old i0, wbox F s1.2.length), (i1, .old i1, brow F.blocks.length s1.1), (i2, .old (32, 0, 0), irow s1.2.length s1.2), ((24, 0, 0), .old (24, 0, 0), irow N.length N)] rfl (by rfl) ?_
      (.old rfl (BLe.refl _) (.old rfl (BLe.refl _) (.old rfl (BLe.refl _) (.old rfl (BLe.refl _) .nil))))
    (repeat' first | exact TLes.nil | refine TLes.cons (TLe.eq rfl) ?_ | refine TLes.cons (TLe.int ?_) ?_)
    simp only [Zaa, kzz, kz11, kz12, maxL, Zad] at *
    rw [Zal (by omega) (by omega)]; rfl
  · have ei : i = N.length := by
      simp only [Zaa, kzz, kz11, kz12, maxL, Zad] at *
      omega
    have e : into F (f + 1 + 1) (k : Int) (seen, left) = ((st i).1, (st i).2 ++ [(k : Int)]) := by
      rw [show into F (f + 1 + 1) (k : Int) (seen, left) = (let s1 := (next F k).foldl (fun s k => into F (f + 1) k s) (seen.set (k : Int).toNat true, left); (s1.1, s1.2 ++ [(k : Int)])) by
        rw [into]; simp only [Int.toNat_natCast, hb', if_false, Bool.false_eq_true]]
      simp only [hN, Int.toNat_natCast, ei, hfull]
    rw [e]
    generalize st i = s1
    obtain ⟨sn, lf⟩ := s1
    refine ⟨_, [(i0, .old i0, wbox F (lf ++ [(k : Int)]).length), (i1, .old i1, brow F.blocks.length sn), (i2, .old (41, 0, 0), irow (lf ++ [(k : Int)]).length (lf ++ [(k : Int)]))], rfl, rfl, rfl, rfl, .old rfl (BLe.row rfl (fun x hx => ?_)) (.old rfl (BLe.refl _) (.old rfl (BLe.row (by simp) (fun x hx => ?_)) .nil)), .eq rfl⟩
    · have : x = 0 := by omega
      subst this
      rw [List.length_append]; rfl
    · exact app_row (by simpa using hx)
end Fl
end Go.Proofs.YtoelbgjpmpoolaaGreat
namespace Go.Proofs.YtoelbgjpmpoolaaGreat
namespace Fl
open Go Dv
set_option maxRecDepth 10000
set_option linter.unusedSimpArgs false
set_option linter.unusedVariables false
abbrev none0 (F : Func) : List Bool × List Int := (List.replicate F.blocks.length false, [])
def Zce (F : Func) : List Bool × List Int := if 0 < F.blocks.length then into F (F.blocks.length + 1) 0 (none0 F) else none0 F
theorem hc38 (F : Func) : HC Tryz.prog [] 76 [] [.agg (Zcg F)] (.bp i0 0) (walkH F (Zce F)) := by
  refine Zbr tok Tryz.func76 rfl (by decide +kernel) (Nat.le_of_ble_eq_true rfl) ?_
  refine Zas 0 (fun hl => ?_)
  have hl0 : F.blocks.length ≤ maxL := hl.2.2.1.1
  ((repeat' first | refine Zac ?_ | (refine Zab tok (by rfl) ?_; conv => whnf) | (refine Zap tok mix (by rfl) ?_; conv => whnf) | (refine Zag ?_; conv => whnf) | (refine Zaj ?_; conv => whnf) | refine Zaf rfl (fun hb => ?_) (fun hb => ?_) | (refine @And.intro (Zaa _ _ _ _) _ ?_ ?_; rotate_left; (conv => whnf); rotate_right)); all_goals (try ((guard_target = Zaa _ _ _ _); refine Zae ?_; (all_goals (try simp only [Zaa, kzz, kz11, kz12, maxL, Zad] at *)); all_goals omega)))
  · refine .inr ⟨_, _, _, QH.of (dead := []) [(i0, .old (10, 0, 0), wbox F 0), (i1, .old (8, 0, 0), brow F.blocks.length (List.replicate F.blocks.length false)), (i2, .nil, irow 0 [])]
      (hc47 F F.blocks.length 0 (none0 F) (by simp) (by omega) (of_decide_eq_true hb) (by simp) (by simpa using hl0)) rfl
      (.oldR rfl (BLeR.cells rfl (fun x hx => .cons .eq (.cons .eq (.cons .eq (.cons .eq (.cons (.nil rfl) .nil)))))) (.old rfl (BLe.row rfl (fun x hx => ?_)) (.new .nil)))
      (.cons (.eq rfl) (.cons (.eq rfl) .nil)) [(i0, (10, 0, 0)), (i1, (8, 0, 0)), (i2, (16, 0, 0))] rfl (.cons rfl (BLe.refl _) (.cons rfl (BLe.refl _) (.cons rfl (BLe.refl _) .nil))) rfl, ?_⟩
    · show [AV.bool false] = [AV.bool ((List.replicate F.blocks.length false).getD x false)]
      simp [List.getD_eq_getElem?_getD, List.getElem?_replicate]
      split <;> rfl
    conv => whnf
    (repeat' first | refine Zac ?_ | (refine Zab tok (by rfl) ?_; conv => whnf) | (refine Zaj ?_; conv => whnf))
    have e : Zce F = into F (F.blocks.length + 1) 0 (none0 F) := by
      simp only [Zaa, kzz, kz11, kz12, maxL, Zad] at *
      simp only [Zce]; rw [if_pos (by omega)]
    rw [e]
    generalize into F (F.blocks.length + 1) 0 (none0 F) = s1
    exact ⟨_, [(i0, .old (10, 0, 0), wbox F s1.2.length), (i1, .old (8, 0, 0), brow F.blocks.length s1.1), (i2, .old (16, 0, 0), irow s1.2.length s1.2)], rfl, rfl, rfl, rfl, .old rfl (BLe.refl _) (.old rfl (BLe.refl _) (.old rfl (BLe.refl _) .nil)), .eq rfl⟩
  · have e : Zce F = none0 F := by
      simp only [Zaa, kzz, kz11, kz12, maxL, Zad] at *
      simp only [Zce]; rw [if_neg (by omega)]
    rw [e]
    refine ⟨_, [(i0, .old (10, 0, 0), wbox F 0), (i1, .old (8, 0, 0), brow F.blocks.length (List.replicate F.blocks.length false)), (i2, .nil, irow 0 [])], rfl, rfl, rfl, rfl,
      .oldR rfl (BLeR.cells rfl (fun x hx => .cons .eq (.cons .eq (.cons .eq (.cons .eq (.cons (.nil rfl) .nil)))))) (.old rfl (BLe.row rfl (fun x hx => ?_)) (.new .nil)), .eq rfl⟩
    show [AV.bool false] = [AV.bool ((List.replicate F.blocks.length false).getD x false)]
    simp [List.getD_eq_getElem?_getD, List.getElem?_replicate]
    split <;> rfl
end Fl
end Go.Proofs.YtoelbgjpmpoolaaGreat
namespace Go.Proofs.YtoelbgjpmpoolaaGreat
namespace Fl
open Go Dv
set_option maxRecDepth 10000
set_option linter.unusedSimpArgs false
set_option linter.unusedVariables false
theorem fo22 (F : Func) : FO Tryz.prog 40 [.agg (Zcg F)] 1 F.blocks.length (fun x => [.bool ((Zce F).1.getD x false)]) := by
  refine Zei tok Tryz.func40 rfl (by decide +kernel) (Nat.le_of_ble_eq_true rfl) ?_
  (repeat' first | refine Zac ?_ | (refine Zab tok (by rfl) ?_; conv => whnf))
  refine .inr ⟨_, _, _, QH.of (dead := []) [] (hc38 F) rfl .nil (.cons (.eq rfl) .nil) [(i0, (5, 1, 0)), (i1, (5, 2, 0)), (i2, (5, 3, 0))] rfl (.cons rfl (BLe.refl _) (.cons rfl (BLe.refl _) (.cons rfl (BLe.refl _) .nil))) rfl, ?_⟩
  conv => whnf
  (repeat' (refine Zaj ?_; conv => whnf))
  exact ⟨_, rfl, RelO.rs rfl (Nat.le_refl _) rfl (fun _ _ => rfl)⟩
end Fl
end Go.Proofs.YtoelbgjpmpoolaaGreat
namespace Go.Proofs.YtoelbgjpmpoolaaGreat
namespace Fl
open Go Dv
set_option maxRecDepth 10000
set_option linter.unusedSimpArgs false
set_option linter.unusedVariables false
end Fl
end Go.Proofs.YtoelbgjpmpoolaaGreat
namespace Go.Proofs.YtoelbgjpmpoolaaGreat
namespace Fl
open Go Dv
set_option maxRecDepth 10000
set_option linter.unusedSimpArgs false
set_option linter.unusedVariables false
inductive Reach (F : Func) : Nat → Prop where
  | zero : 0 < F.blocks.length → Reach F 0
  | step {n : Nat} {k : Int} : Reach F n → k ∈ next F n → Reach F k.toNat
open Classical in
noncomputable def reachB (F : Func) : List Bool := (List.range F.blocks.length).map fun i => decide (Reach F i)
theorem Reach.lt {F : Func} {n : Nat} (h : Reach F n) : n < F.blocks.length := by
  cases h with
  | zero h => exact h
  | step _ h => have := next_in h; omega
theorem reachB_len (F : Func) : (reachB F).length = F.blocks.length := by simp [reachB]
theorem reachB_get (F : Func) (i : Nat) : (reachB F).getD i false = true ↔ Reach F i := by
  unfold reachB
  rw [List.getD_eq_getElem?_getD, List.getElem?_map]
  by_cases h : i < F.blocks.length
  · simp [h]
  · simp [h]
    intro hr; exact absurd hr.lt (by omega)
theorem reachB_eq {F : Func} {o : List Bool} (len : o.length = F.blocks.length) (sound : ∀ i, o.getD i false = true → Reach F i) (zero : 0 < F.blocks.length → o.getD 0 false = true)
    (closed : ∀ (n : Nat) (k : Int), n < F.blocks.length → k ∈ next F n → o.getD n false = true → o.getD k.toNat false = true) : o = reachB F := by
  apply Zed false (by rw [len, reachB_len])
  intro i hi
  rw [Bool.eq_iff_iff, reachB_get]
  refine ⟨sound i, fun h => ?_⟩
  induction h with
  | zero h => exact zero h
  | step h hk ih => exact closed _ _ h.lt hk (ih (by rw [len]; exact h.lt))
structure WI (F : Func) (o0 o : List Bool) (m : Bool) (C : Prop) : Prop where
  len : o.length = F.blocks.length
  sound : ∀ i, o.getD i false = true → Reach F i
  zero : o.getD 0 false = true
  le : o.count false ≤ o0.count false
  dec : m = true → o.count false < o0.count false
  same : m = false → o = o0 ∧ C
theorem WI.set {F : Func} {o0 o : List Bool} {m : Bool} {C C' : Prop} (h : WI F o0 o m C) {n : Nat} {k : Int} (hk : k ∈ next F n) (h1 : o.getD n false = true) (h2 : o.getD k.toNat false = false) : WI F o0 (o.set k.toNat true) true C' := by
  have hin := next_in hk
  have hl := h.len
  have hc := set_count (l := o) (i := k.toNat) (by omega) h2
  refine ⟨by simp [hl], fun i hi => ?_, ?_, by have := h.le; omega, fun _ => by have := h.le; omega, fun e => by cases e⟩
  · rw [Zdm] at hi
    by_cases e : k.toNat = i
    · rw [← e]; exact .step (h.sound n h1) hk
    · rw [if_neg (fun x => e x.1)] at hi; exact h.sound i hi
  · rw [Zdm]
    split
    · rfl
    · exact h.zero
theorem WI.weak {F : Func} {o0 o : List Bool} {m : Bool} {C C' : Prop} (h : WI F o0 o m C) (hc : m = false → C → C') : WI F o0 o m C' :=
  ⟨h.len, h.sound, h.zero, h.le, h.dec, fun e => ⟨(h.same e).1, hc e (h.same e).2⟩⟩
end Fl
end Go.Proofs.YtoelbgjpmpoolaaGreat
namespace Go.Proofs.YtoelbgjpmpoolaaGreat
namespace Fl
open Go Dv
set_option maxRecDepth 10000
set_option linter.unusedSimpArgs false
set_option linter.unusedVariables false
theorem count_zero {l : List Bool} {i : Nat} (h : l.count false = 0) (hi : i < l.length) : l.getD i false = true := by
  rw [Zca false hi]
  have := List.count_eq_zero.1 h
  cases e : l[i] with
  | true => rfl
  | false => exact absurd (by rw [← e]; exact List.getElem_mem hi) this
def Ahead (L : List Int) (m p : Int) : Prop := ∃ A B, L = A ++ p :: B ∧ m ∈ A
theorem Ahead.left {L K : List Int} {m p : Int} (h : Ahead L m p) : Ahead (L ++ K) m p := by
  obtain ⟨A, B, rfl, hm⟩ := h; exact ⟨A, B ++ K, by simp, hm⟩
theorem Ahead.right {L K : List Int} {m p : Int} (h : Ahead L m p) : Ahead (K ++ L) m p := by
  obtain ⟨A, B, rfl, hm⟩ := h; exact ⟨K ++ A, B, by simp, by simp [hm]⟩
structure WalkP (F : Func) (s s' : List Bool × List Int) (L l : List Int) : Prop where
  len : s'.1.length = s.1.length
  left : s'.2 = s.2 ++ L
  nodup : L.Nodup
  seen : ∀ m : Nat, s'.1.getD m false = true ↔ s.1.getD m false = true ∨ (m : Int) ∈ L
  new : ∀ m ∈ L, 0 ≤ m ∧ m < F.blocks.length ∧ s.1.getD m.toNat false = false
  closed : ∀ m ∈ L, ∀ k ∈ next F m, s'.1.getD k.toNat false = true
  par : ∀ m ∈ L, m ∈ l ∨ ∃ p, m ∈ next F p ∧ p ∈ L ∧ Ahead L m p
  all : ∀ k ∈ l, s'.1.getD k.toNat false = true
theorem WalkP.nil (F : Func) (s : List Bool × List Int) : WalkP F s s [] [] :=
  ⟨rfl, by simp, List.nodup_nil, by simp, by simp, by simp, by simp, by simp⟩
theorem WalkP.append {F : Func} {s s1 s2 : List Bool × List Int} {L K l k : List Int} (h : WalkP F s s1 L l) (g : WalkP F s1 s2 K k) : WalkP F s s2 (L ++ K) (l ++ k) := by
  refine ⟨g.len.trans h.len, by rw [g.left, h.left, List.append_assoc], ?_, fun m => ?_, fun m hm => ?_, fun m hm x hx => ?_, fun m hm => ?_, fun x hx => ?_⟩
  · rw [List.nodup_append]
    refine ⟨h.nodup, g.nodup, fun a ha b hb e => ?_⟩
    subst e
    have h1 := (g.new a hb).2.2
    have h0 := (h.new a ha).1
    have := (h.seen a.toNat).2 (.inr (by rw [Int.toNat_of_nonneg h0]; exact ha))
    rw [this] at h1; cases h1
  · rw [g.seen, h.seen, List.mem_append, or_assoc]
  · rw [List.mem_append] at hm
    rcases hm with hm | hm
    · exact h.new m hm
    · obtain ⟨a, b, c⟩ := g.new m hm
      refine ⟨a, b, ?_⟩
      cases e : s.1.getD m.toNat false with
      | false => rfl
      | true => rw [(h.seen m.toNat).2 (.inl e)] at c; cases c
  · rw [List.mem_append] at hm
    rcases hm with hm | hm
    · exact (g.seen _).2 (.inl (h.closed m hm x hx))
    · exact g.closed m hm x hx
  · rw [List.mem_append] at hm
    rcases hm with hm | hm
    · rcases h.par m hm with h1 | ⟨p, h1, h2, h3⟩
      · left; simp [h1]
      · right; exact ⟨p, h1, by simp [h2], h3.left⟩
    · rcases g.par m hm with h1 | ⟨p, h1, h2, h3⟩
      · left; simp [h1]
      · right; exact ⟨p, h1, by simp [h2], h3.right⟩
  · rw [List.mem_append] at hx
    rcases hx with hx | hx
    · exact (g.seen _).2 (.inl (h.all x hx))
    · exact g.all x hx
theorem fold_walkP {F : Func} {fuel : Nat} (ih : ∀ (n : Int) (s : List Bool × List Int), s.1.length = F.blocks.length → 0 ≤ n → n < F.blocks.length → s.1.count false ≤ fuel → ∃ L, WalkP F s (into F (fuel + 1) n s) L [n]) :
    ∀ (l : List Int) (s : List Bool × List Int), s.1.length = F.blocks.length → (∀ k ∈ l, 0 ≤ k ∧ k < F.blocks.length) → s.1.count false ≤ fuel →
      ∃ L, WalkP F s (l.foldl (fun s k => into F (fuel + 1) k s) s) L l
  | [], s, _, _, _ => ⟨[], .nil F s⟩
  | k :: l, s, h, hk, hc => by
      obtain ⟨L, hL⟩ := ih k s h (hk k (by simp)).1 (hk k (by simp)).2 hc
      have hkeep := into_keeps F (fuel + 1) k s h (hk k (by simp)).1 (hk k (by simp)).2
      obtain ⟨K, hK⟩ := fold_walkP ih l (into F (fuel + 1) k s) hkeep.1 (fun x hx => hk x (by simp [hx])) (Nat.le_trans hkeep.2.2 hc)
      exact ⟨L ++ K, hL.append hK⟩
theorem into_walkP {F : Func} : ∀ (fuel : Nat) (n : Int) (s : List Bool × List Int), s.1.length = F.blocks.length → 0 ≤ n → n < F.blocks.length → s.1.count false ≤ fuel →
    (s.1.getD n.toNat false = true ∧ into F (fuel + 1) n s = s) ∨ (s.1.getD n.toNat false = false ∧ ∃ L, WalkP F s (into F (fuel + 1) n s) (L ++ [n]) [n]) := by
  intro fuel
  induction fuel with
  | zero =>
    rintro n ⟨seen, left⟩ hl h0 h1 hc
    dsimp only at hl hc
    have : seen.getD n.toNat false = true := count_zero (by omega) (by omega)
    left; refine ⟨this, ?_⟩
    simp only [into, this, if_true]
  | succ fuel ih =>
    rintro n ⟨seen, left⟩ hl h0 h1 hc
    dsimp only at hl hc
    cases hs : seen.getD n.toNat false with
    | true => left; refine ⟨rfl, ?_⟩; simp only [into, hs, if_true]
    | false =>
      right
      have hcc := set_count (l := seen) (i := n.toNat) (by omega) hs
      have ih' : ∀ (n : Int) (s : List Bool × List Int), s.1.length = F.blocks.length → 0 ≤ n → n < F.blocks.length → s.1.count false ≤ fuel → ∃ L, WalkP F s (into F (fuel + 1) n s) L [n] := by
        intro n s a b c d
        rcases ih n s a b c d with ⟨h1, h2⟩ | ⟨_, L, h⟩
        · rw [h2]
          exact ⟨[], rfl, by simp, List.nodup_nil, by simp, by simp, by simp, by simp, by simpa using h1⟩
        · exact ⟨_, h⟩
      obtain ⟨L, hL⟩ := fold_walkP ih' (next F n) (seen.set n.toNat true, left) (by simpa using hl) (fun k hk => next_in hk) (by dsimp only; omega)
      refine ⟨rfl, L, ?_⟩
      have e : into F (fuel + 1 + 1) n (seen, left) = (((next F n).foldl (fun s k => into F (fuel + 1) k s) (seen.set n.toNat true, left)).1, ((next F n).foldl (fun s k => into F (fuel + 1) k s) (seen.set n.toNat true, left)).2 ++ [n]) := by
        rw [into]; simp only [hs, Bool.false_eq_true, if_false]
      rw [e]
      generalize (next F n).foldl (fun s k => into F (fuel + 1) k s) (seen.set n.toNat true, left) = s1 at hL
      have hset : ∀ m : Nat, (seen.set n.toNat true).getD m false = true ↔ seen.getD m false = true ∨ (m : Int) = n := by
        intro m
        rw [Zdm]
        by_cases e : n.toNat = m
        · rw [if_pos ⟨e, by omega⟩]
          simp only [true_iff]; right; omega
        · rw [if_neg (fun x => e x.1)]
          constructor
          · exact .inl
          · rintro (h | h)
            · exact h
            · exact absurd (by omega) e
      refine ⟨by simpa using hL.len, by dsimp only; rw [hL.left, List.append_assoc], ?_, fun m => ?_, fun m hm => ?_, fun m hm x hx => ?_, fun m hm => ?_, fun x hx => ?_⟩
      · rw [List.nodup_append]
        refine ⟨hL.nodup, by simp, fun a ha b hb e1 => ?_⟩
        simp only [List.mem_singleton] at hb
        subst hb; subst e1
        have := (hL.new a ha).2.2
        dsimp only at this
        rw [(hset a.toNat).2 (.inr (by omega))] at this; cases this
      · dsimp only; rw [hL.seen, List.mem_append, List.mem_singleton]; dsimp only; rw [hset]
        exact ⟨fun h => h.elim (fun h => h.elim .inl (fun h => .inr (.inr h))) (fun h => .inr (.inl h)), fun h => h.elim (fun h => .inl (.inl h)) (fun h => h.elim .inr (fun h => .inl (.inr h)))⟩
      · rw [List.mem_append, List.mem_singleton] at hm
        rcases hm with hm | rfl
        · obtain ⟨a, b, c⟩ := hL.new m hm
          refine ⟨a, b, ?_⟩
          cases e : seen.getD m.toNat false with
          | false => rfl
          | true => dsimp only at c; rw [(hset _).2 (.inl e)] at c; cases c
        · exact ⟨h0, h1, hs⟩
      · rw [List.mem_append, List.mem_singleton] at hm
        rcases hm with hm | rfl
        · exact hL.closed m hm x hx
        · exact hL.all x hx
      · rw [List.mem_append, List.mem_singleton] at hm
        rcases hm with hm | rfl
        · right
          rcases hL.par m hm with h1 | ⟨p, h1, h2, h3⟩
          · exact ⟨n, h1, by simp, L, [], by simp, hm⟩
          · exact ⟨p, h1, by simp [h2], h3.left⟩
        · left; simp
      · simp only [List.mem_singleton] at hx
        subst hx
        exact (hL.seen _).2 (.inl ((hset _).2 (.inr (by omega))))
theorem walked_spec {F : Func} (h : 0 < F.blocks.length) : ∃ L, WalkP F (none0 F) (Zce F) (L ++ [0]) [0] := by
  have hw : Zce F = into F (F.blocks.length + 1) 0 (none0 F) := by unfold Zce; rw [if_pos h]
  rw [hw]
  have hn : (none0 F).1.getD (0 : Int).toNat false = false := by simp [none0, List.getD_eq_getElem?_getD, List.getElem?_replicate, h]
  rcases into_walkP (F := F) F.blocks.length 0 (none0 F) (by simp [none0]) (by omega) (by omega) (by simp [none0]) with ⟨h1, _⟩ | ⟨_, h1⟩
  · rw [hn] at h1; cases h1
  · exact h1
theorem walked_nil {F : Func} (h : F.blocks.length = 0) : Zce F = ([], []) := by
  unfold Zce; rw [if_neg (by omega)]; simp [none0, h]
theorem none0_get (F : Func) (m : Nat) : (none0 F).1.getD m false = false := by
  simp [none0, List.getD_eq_getElem?_getD, List.getElem?_replicate]; split <;> rfl
theorem walked_seen {F : Func} (h : 0 < F.blocks.length) {L : List Int} (hL : WalkP F (none0 F) (Zce F) (L ++ [0]) [0]) (m : Nat) : (Zce F).1.getD m false = true ↔ (m : Int) ∈ L ++ [0] := by
  rw [hL.seen, none0_get]; simp
theorem walked_reach (F : Func) : (Zce F).1 = reachB F := by
  by_cases h : 0 < F.blocks.length
  · obtain ⟨L, hL⟩ := walked_spec h
    refine reachB_eq (by rw [hL.len]; simp [none0]) (fun i hi => ?_) (fun _ => ?_) (fun n k hn hk h1 => ?_)
    · -- all of L are reached: by the place from behind
      rw [walked_seen h hL] at hi
      have : ∀ (d : Nat) (A B : List Int) (m : Int), L ++ [0] = A ++ m :: B → B.length = d → Reach F m.toNat := by
        intro d
        induction d using Nat.strongRecOn with
        | ind d ih =>
          intro A B m e hd
          have hm : m ∈ L ++ [0] := by rw [e]; simp
          rcases hL.par m hm with h1 | ⟨p, h1, _, A', B', e', hA⟩
          · simp only [List.mem_singleton] at h1; subst h1; exact .zero h
          · -- p stands behind m
            have hnd := hL.nodup
            obtain ⟨A1, A2, rfl⟩ := List.append_of_mem hA
            have e2 : A ++ m :: B = A1 ++ m :: (A2 ++ p :: B') := by rw [← e, e']; simp
            have hA : A = A1 := by
              have hn1 : m ∉ A := fun hc => by
                rw [e, List.nodup_append] at hnd; exact hnd.2.2 m hc m (by simp) rfl
              have hn2 : m ∉ A1 := fun hc => by
                rw [e, e2, List.nodup_append] at hnd; exact hnd.2.2 m hc m (by simp) rfl
              rcases List.append_eq_append_iff.1 e2 with ⟨t, rfl, h2⟩ | ⟨t, rfl, h2⟩
              · cases t with
                | nil => simp
                | cons x t => simp only [List.cons_append, List.cons.injEq] at h2; rw [h2.1] at hn2; exact absurd (by simp) hn2
              · cases t with
                | nil => simp
                | cons x t => simp only [List.cons_append, List.cons.injEq] at h2; rw [h2.1] at hn1; exact absurd (by simp) hn1
            subst hA
            have hB : B = A2 ++ p :: B' := by simpa using e2
            have := ih B'.length (by rw [← hd, hB]; simp; omega) (A ++ m :: A2) B' p (by rw [e, hB]; simp) rfl
            have hp : p ∈ L ++ [0] := by rw [e']; simp
            exact .step this (by rw [Int.toNat_of_nonneg (hL.new p hp).1]; exact h1)
      obtain ⟨A, B, e⟩ := List.append_of_mem hi
      have := this B.length A B i e rfl
      simpa using this
    · rw [walked_seen h hL]; simp
    · rw [walked_seen h hL] at h1
      exact hL.closed n h1 k hk
  · rw [walked_nil (by omega)]
    have : F.blocks.length = 0 := by omega
    simp [reachB, this]
end Fl
end Go.Proofs.YtoelbgjpmpoolaaGreat
namespace Go.Proofs.YtoelbgjpmpoolaaGreat
open Go Dv
set_option maxRecDepth 10000
set_option linter.unusedSimpArgs false
theorem c_rInts (a b : List Int) : FC Tryz.prog 63 [ints a, ints b] (.bool (decide (a = b))) := by
  refine Zav tok Tryz.func63 rfl (by decide +kernel) (Nat.le_of_ble_eq_true rfl) ?_
  refine Zas 0 (fun hl => ?_)
  have hl0 : a.length ≤ maxL := hl.1
  (repeat' first | refine Zac ?_ | (refine Zab tok (by rfl) ?_; conv => whnf) | refine Zai ?_ | (refine Zag ?_; conv => whnf) | (refine Zaj ?_; conv => whnf) | refine Zaf rfl (fun hb => ?_) (fun hb => ?_))
  · refine ⟨_, rfl, Rel.bool ?_⟩
    symm; rw [decide_eq_false_iff_not]
    intro e; subst e; simp at hb
  have hlen : a.length = b.length := by simp at hb; omega
  clear hb
  refine Zay (fun i : Nat => mkS [(0, ints a), (1, ints b), (5, iv i)] [])
    (fun i => i ≤ a.length ∧ ∀ j, j < i → a.getD j 0 = b.getD j 0) (fun i => a.length - i) 0 ⟨Nat.zero_le _, by simp⟩ ?_ ?_
  · refine Weak.list [] rfl (by rfl) ?_ .nil
    ((repeat' first | exact TLes.nil | refine TLes.cons (TLe.eq rfl) ?_); skip)
  rintro i ⟨hi2, hc⟩
  ((repeat' first | refine Zac ?_ | (refine Zab tok (by rfl) ?_; conv => whnf) | (refine Zap tok mix (by rfl) ?_; conv => whnf) | refine Zai ?_ | (refine Zag ?_; conv => whnf) | (refine Za1 ?_; conv => whnf) | (refine Zaj ?_; conv => whnf) | refine Zaf rfl (fun hb => ?_) (fun hb => ?_) | (refine @And.intro (Zaa _ _ _ _) _ ?_ ?_; rotate_left; (conv => whnf); rotate_right)); all_goals (try ((guard_target = Zaa _ _ _ _); refine Zae ?_; (all_goals (try simp only [Zaa, kzz, kz11, kz12, maxL, Zad] at *)); all_goals omega)))
  · have hlt : i < a.length := by rename_i h; simp only [Zaa, kzz, kz11, kz12, maxL, Zad] at *; omega
    refine ⟨_, rfl, Rel.bool ?_⟩
    symm; rw [decide_eq_false_iff_not]
    intro e; subst e; simp at hb
  · have hlt : i < a.length := by rename_i h; simp only [Zaa, kzz, kz11, kz12, maxL, Zad] at *; omega
    refine ⟨i + 1, ⟨hlt, fun j hj => ?_⟩, by omega, ?_⟩
    · by_cases e : j = i
      · subst e; simpa using hb
      · exact hc j (by omega)
    refine Weak.list [] rfl (by rfl) ?_ .nil
    ((repeat' first | exact TLes.nil | refine TLes.cons (TLe.eq rfl) ?_ | refine TLes.cons (TLe.int ?_) ?_); (all_goals first | ((try (simp only [Zaa, kzz, kz11, kz12, maxL, Zad] at *)); exact Zal (by omega) (by omega)) | skip))
  · refine ⟨_, rfl, Rel.bool ?_⟩
    symm; rw [decide_eq_true_eq]
    exact Zed 0 hlen (fun j hj => hc j (by simp only [Zaa, kzz, kz11, kz12, maxL, Zad] at *; omega))
end Go.Proofs.YtoelbgjpmpoolaaGreat
namespace Go.Proofs.YtoelbgjpmpoolaaGreat
namespace Fl
open Go Dv
set_option maxRecDepth 10000
set_option linter.unusedSimpArgs false
set_option linter.unusedVariables false
structure RevI (l : List Int) (i : Nat) (r : List Int) : Prop where
  len : r.length = l.length
  hi : 2 * i ≤ l.length + 1
  out : ∀ x, (x < i ∨ l.length - i ≤ x) → x < l.length → r.getD x 0 = l.getD (l.length - 1 - x) 0
  mid : ∀ x, i ≤ x → x < l.length - i → r.getD x 0 = l.getD x 0
theorem RevI.step {l : List Int} {i : Nat} {r : List Int} (h : RevI l i r) (hi : 2 * i + 1 < l.length) :
    RevI l (i + 1) ((r.set i (r.getD (l.length - 1 - i) 0)).set (l.length - 1 - i) (r.getD i 0)) := by
  have hl := h.len
  refine ⟨by simp [hl], by omega, fun x hx hxl => ?_, fun x h1 h2 => ?_⟩
  · rw [Zdm, Zdm]
    simp only [List.length_set]
    by_cases e1 : l.length - 1 - i = x
    · rw [if_pos ⟨e1, by omega⟩, h.mid i (by omega) (by omega)]; congr 1; omega
    · rw [if_neg (fun h => e1 h.1)]
      by_cases e2 : i = x
      · rw [if_pos ⟨e2, by omega⟩, h.mid _ (by omega) (by omega), e2]
      · rw [if_neg (fun h => e2 h.1)]
        exact h.out x (by omega) hxl
  · rw [Zdm, Zdm]
    rw [if_neg (by omega), if_neg (by omega)]
    exact h.mid x (by omega) (by omega)
theorem RevI.done {l : List Int} {i : Nat} {r : List Int} (h : RevI l i r) (hi : l.length ≤ 2 * i + 1) : r = l.reverse := by
  apply List.ext_getElem
  · simp [h.len]
  · intro x h1 h2
    have hx : x < l.length := by rw [← h.len]; exact h1
    have e : r.getD x 0 = l.getD (l.length - 1 - x) 0 := by
      by_cases c : x < i ∨ l.length - i ≤ x
      · exact h.out x c hx
      · rw [h.mid x (by omega) (by omega)]; congr 1; omega
    rw [List.getElem_reverse]
    simpa [List.getD_eq_getElem?_getD, h1, show l.length - 1 - x < l.length by omega] using e
theorem hc40 (l : List Int) : HC Tryz.prog [i0] 128 [(i0, irow l.length l)] [.rs i0 1 0 l.length] (.tup []) [(i0, irow l.length l.reverse)] := by
  refine Zbr tok Tryz.func128 rfl (by decide +kernel) (Nat.le_of_ble_eq_true rfl) ?_
  refine Zas 0 (fun hl => ?_)
  have hl0 : l.length ≤ maxL := hl
  (repeat' first | refine Zac ?_ | (refine Zab tok (by rfl) ?_; conv => whnf) | refine Zai ?_)
  refine Zay (fun s : Nat × List Int => mkS [(0, .rs i0 1 0 l.length), (2, iv s.1), (3, iv ((l.length : Int) - 1 - s.1))] [(i0, irow l.length s.2)])
    (fun s => RevI l s.1 s.2) (fun s => l.length - s.1) (0, l) ⟨rfl, by simp, fun x hx h => by omega, fun x _ _ => rfl⟩ ?_ ?_
  · refine Weak.list [(i0, .old i0, irow l.length l)] rfl (by rfl) ?_ (.old rfl (BLe.refl _) .nil)
    (repeat' first | exact TLes.nil | refine TLes.cons (TLe.eq rfl) ?_ | refine TLes.cons (TLe.int ?_) ?_)
    simp only [Zaa, kzz, kz11, kz12, maxL, Zad] at *
    rw [Zal (by omega) (by omega)]; simp
  rintro ⟨i, r⟩ hI
  replace hI : RevI l i r := hI
  have hIl := hI.len
  ((repeat' first | refine Zac ?_ | (refine Zab tok (by rfl) ?_; conv => whnf) | (refine Zap tok mix (by rfl) ?_; conv => whnf) | refine Zai ?_ | (refine Zag ?_; conv => whnf) | (refine Za1 ?_; conv => whnf) | refine Zaf rfl (fun hb => ?_) (fun hb => ?_) | (refine @And.intro (Zaa _ _ _ _) _ ?_ ?_; rotate_left; (conv => whnf); rotate_right)); all_goals (try ((guard_target = Zaa _ _ _ _); refine Zae ?_; (all_goals (try simp only [Zaa, kzz, kz11, kz12, maxL, Zad] at *)); all_goals omega)))
  all_goals simp only [Zaa, kzz, kz11, kz12, maxL, Zad] at *
  all_goals (try omega)
  · have hj : ((l.length : Int) - 1 - i).toNat = l.length - 1 - i := by omega
    refine ⟨(i + 1, (r.set i (r.getD (l.length - 1 - i) 0)).set (l.length - 1 - i) (r.getD i 0)), hI.step (by omega), (show l.length - (i + 1) < l.length - i by omega), ?_⟩
    refine Weak.list [(i0, .old i0, irow l.length ((r.set i (r.getD (l.length - 1 - i) 0)).set (l.length - 1 - i) (r.getD i 0)))] rfl (by rfl) ?_ (.old rfl (BLe.row rfl (fun x hx => ?_)) .nil)
    · (repeat' first | exact TLes.nil | refine TLes.cons (TLe.eq rfl) ?_ | refine TLes.cons (TLe.int ?_) ?_)
      · rw [Zal (by omega) (by omega)]; rfl
      · rw [Zal (by omega) (by omega)]; simp; omega
    · show updR (updR (fun x => [iv (r.getD x 0)]) i [iv (r.getD ((l.length : Int) - 1 - i).toNat 0)]) ((l.length : Int) - 1 - i).toNat [iv (r.getD i 0)] x = _
      simp only [hj]
      rw [updR_congr (g := fun x => [iv ((r.set i (r.getD (l.length - 1 - i) 0)).getD x 0)]) (upd_row' (fun n => [iv n]) 0 r (by omega) rfl rfl x)]
      exact upd_row' (fun n => [iv n]) 0 _ (by simp; omega) rfl rfl x
  · have e := hI.done (by omega)
    subst e
    exact ⟨_, [(i0, .old i0, irow l.length l.reverse)], rfl, rfl, rfl, rfl, .old rfl (BLe.refl _) .nil, .eq rfl⟩
def indexOf (l : List Int) (k : Int) : Int := idxOf (fun x => decide (k = x)) l
theorem fc46 (l : List Int) (k : Int) : FC Tryz.prog 164 [ints l, iv k] (iv (indexOf l k)) := by
  refine Zav tok Tryz.func164 rfl (by decide +kernel) (Nat.le_of_ble_eq_true rfl) ?_
  refine Zas 0 (fun hl => ?_)
  have hl0 : l.length ≤ maxL := hl.1
  (repeat' first | refine Zac ?_ | (refine Zab tok (by rfl) ?_; conv => whnf) | refine Zai ?_)
  refine Zay (fun i : Nat => mkS [(0, ints l), (1, iv k), (7, iv l.length), (8, iv i)] []) (fun i => i ≤ l.length ∧ ∀ j, j < i → decide (k = l.getD j 0) = false) (fun i => l.length - i) 0 ⟨Nat.zero_le _, by simp⟩ ?_ ?_
  · refine Weak.list [] rfl (by rfl) ?_ .nil
    (repeat' first | exact TLes.nil | refine TLes.cons (TLe.eq rfl) ?_)
  rintro i ⟨hi, hc⟩
  ((repeat' first | refine Zac ?_ | (refine Zab tok (by rfl) ?_; conv => whnf) | refine Zai ?_ | (refine Zag ?_; conv => whnf) | (refine Za1 ?_; conv => whnf) | (refine Zaj ?_; conv => whnf) | refine Zaf rfl (fun hb => ?_) (fun hb => ?_) | (refine @And.intro (Zaa _ _ _ _) _ ?_ ?_; rotate_left; (conv => whnf); rotate_right)); all_goals (try ((guard_target = Zaa _ _ _ _); refine Zae ?_; (all_goals (try simp only [Zaa, kzz, kz11, kz12, maxL, Zad] at *)); all_goals omega)))
  all_goals simp only [Zaa, kzz, kz11, kz12, maxL, Zad] at *
  · refine ⟨_, rfl, Rel.int ?_⟩
    rename_i h1
    exact (idx_at (by omega) (fun j hj => by simpa using hc j hj) (by simpa using hb)).symm
  · rename_i h1
    refine ⟨i + 1, ⟨by omega, fun j hj => ?_⟩, by omega, ?_⟩
    · by_cases e : j = i
      · subst e; simpa using hb
      · exact hc j (by omega)
    refine Weak.list [] rfl (by rfl) ?_ .nil
    (repeat' first | exact TLes.nil | refine TLes.cons (TLe.eq rfl) ?_ | refine TLes.cons (TLe.int ?_) ?_)
    rw [Zal (by omega) (by omega)]; rfl
  · refine ⟨_, rfl, Rel.int ?_⟩
    exact (idx_none (fun j hj => by simpa using hc j (by omega))).symm
theorem indexOf_contains (l : List Int) (k : Int) : decide (0 ≤ indexOf l k) = l.contains k := by
  unfold indexOf idxOf
  cases h : l.findIdx? (fun x => decide (k = x)) with
  | none =>
    rw [List.findIdx?_eq_none_iff] at h
    symm
    simp only [Int.reduceNeg, Int.reduceLE, decide_false]
    rw [Bool.eq_false_iff]
    intro hc
    rw [List.contains_iff_mem] at hc
    have := h k hc
    simp at this
  | some i =>
    rw [List.findIdx?_eq_some_iff_getElem] at h
    obtain ⟨hi, h1, h2⟩ := h
    have : decide (0 ≤ (i : Int)) = true := by simp
    rw [this]
    symm
    rw [List.contains_iff_mem]
    have e : k = l[i] := by simpa using h1
    rw [e]; exact List.getElem_mem hi
theorem fc37 (l : List Int) (k : Int) : FC Tryz.prog 121 [ints l, iv k] (.bool (l.contains k)) := by
  refine Zav tok Tryz.func121 rfl (by decide +kernel) (Nat.le_of_ble_eq_true rfl) ?_
  (repeat' first | refine Zac ?_ | (refine Zab tok (by rfl) ?_; conv => whnf))
  refine .inl ⟨_, _, _, uG (QC.fc (fc46 l k) rfl), ?_⟩
  conv => whnf
  (repeat' (refine Zaj ?_; conv => whnf))
  refine ⟨_, rfl, Rel.bool ?_⟩
  exact indexOf_contains l k
def Zdo (F : Func) (n : Int) : List Int := ((List.range F.blocks.length).filter fun k : Nat => (next F (k : Int)).contains n).map fun k : Nat => (k : Int)
def Zc0 (F : Func) (n : Int) (i : Nat) : List Int := ((List.range i).filter fun k : Nat => (next F (k : Int)).contains n).map fun k : Nat => (k : Int)
theorem beforeTo_succ (F : Func) (n : Int) (i : Nat) : Zc0 F n (i + 1) = if (next F i).contains n then Zc0 F n i ++ [(i : Int)] else Zc0 F n i := by
  unfold Zc0
  rw [List.range_succ, List.filter_append, List.map_append]
  cases h : (next F (i : Int)).contains n <;> simp only [List.filter_cons, h] <;> simp
theorem beforeTo_len (F : Func) (n : Int) (i : Nat) : (Zc0 F n i).length ≤ i := by
  unfold Zc0; rw [List.length_map]; exact Nat.le_trans (List.length_filter_le _ _) (by simp)
theorem fo19 (F : Func) (n : Int) : FO Tryz.prog 74 [.agg (Zcg F), iv n] 1 (Zdo F n).length (fun i => [iv ((Zdo F n).getD i 0)]) := by
  refine Zei tok Tryz.func74 rfl (by decide +kernel) (Nat.le_of_ble_eq_true rfl) ?_
  refine Zas 0 (fun hl => ?_)
  have hl0 : F.blocks.length ≤ maxL := hl.2.2.1.1
  (repeat' first | refine Zac ?_ | (refine Zab tok (by rfl) ?_; conv => whnf) | refine Zai ?_)
  refine Zay (fun i : Nat => mkS [(1, iv n), (2, .bp (2, 0, 0) 0), (5, .rs (5, 9, 0) 1 0 (Zc0 F n i).length), (9, iv F.blocks.length), (10, iv i)] [((2, 0, 0), fbox F), ((5, 9, 0), irow (Zc0 F n i).length (Zc0 F n i))])
    (fun i => i ≤ F.blocks.length) (fun i => F.blocks.length - i) 0 (Nat.zero_le _) ?_ ?_
  · refine Weak.list [((2, 0, 0), .old (2, 0, 0), fbox F), ((5, 9, 0), .nil, irow 0 [])] rfl (by rfl) ?_ (.old rfl (BLe.refl _) (.new .nil))
    (repeat' first | exact TLes.nil | refine TLes.cons (TLe.eq rfl) ?_ | refine TLes.cons (TLe.nilL rfl ?_) ?_)
    rfl
  intro i hi
  have hbl := beforeTo_len F n i
  have hbs := beforeTo_succ F n i
  (repeat' first | refine Zac ?_ | (refine Zab tok (by rfl) ?_; conv => whnf) | refine Zai ?_ | (refine Zag ?_; conv => whnf) | (refine Za1 ?_; conv => whnf) | (refine Zaj ?_; conv => whnf) | refine Zaf rfl (fun hb => ?_) (fun hb => ?_))
  · refine .inl ⟨_, _, _, uG (QC.fo (rd := []) (fo17 F i) (.cons (.imm rfl) (.cons (.imm rfl) .nil)) (.inl rfl) rfl), ?_⟩
    conv => whnf
    skip
    refine .inl ⟨_, _, _, uG (QC.sc (rd := [(15, 0, 0)]) (fc37 (next F i) n) (.cons (.row rfl (.head _) rfl rfl (fun _ _ => rfl)) (.cons (.imm rfl) .nil)) rfl), ?_⟩
    conv => whnf
    ((repeat' first | (refine Zab tok (by rfl) ?_; conv => whnf) | (refine Zag ?_; conv => whnf) | refine Zaf rfl (fun hb => ?_) (fun hb => ?_) | (refine @And.intro (Zaa _ _ _ _) _ ?_ ?_; rotate_left; (conv => whnf); rotate_right)); all_goals (try ((guard_target = Zaa _ _ _ _); refine Zae ?_; (first | refine And.intro (Zep rfl ?_) ?_ | skip); (all_goals (try simp only [Zaa, kzz, kz11, kz12, maxL, Zad] at *)); all_goals omega)))
    · rw [if_pos hb] at hbs
      rename_i hlt
      refine ⟨i + 1, by simp only [Zaa, kzz, kz11, kz12, maxL, Zad] at *; omega, by simp only [Zaa, kzz, kz11, kz12, maxL, Zad] at *; omega, ?_⟩
      refine Weak.list [((2, 0, 0), .old (2, 0, 0), fbox F), ((5, 9, 0), .old (21, 0, 0), irow (Zc0 F n (i + 1)).length (Zc0 F n (i + 1)))] rfl (by rfl) ?_ ?_
      · ((repeat' first | exact TLes.nil | refine TLes.cons (TLe.eq rfl) ?_ | refine TLes.cons (TLe.rsL rfl ?_) ?_ | refine TLes.cons (TLe.int ?_) ?_); (all_goals first | ((try (simp only [Zaa, kzz, kz11, kz12, maxL, Zad] at *)); exact Zal (by omega) (by omega)) | skip))
        rw [hbs]; simp
      · refine .old rfl (BLe.refl _) (.old rfl (BLe.row (by rw [hbs]; simp) (fun x hx => ?_)) .nil)
        rw [hbs]
        exact app_gen (fun n => [iv n]) 0 1 rfl hx
    · rw [if_neg (by rw [hb]; simp)] at hbs
      rename_i hlt
      refine ⟨i + 1, by simp only [Zaa, kzz, kz11, kz12, maxL, Zad] at *; omega, by simp only [Zaa, kzz, kz11, kz12, maxL, Zad] at *; omega, ?_⟩
      rw [hbs]
      refine Weak.list [((2, 0, 0), .old (2, 0, 0), fbox F), ((5, 9, 0), .old (5, 9, 0), irow (Zc0 F n i).length (Zc0 F n i))] rfl (by rfl) ?_ (.old rfl (BLe.refl _) (.old rfl (BLe.refl _) .nil))
      ((repeat' first | exact TLes.nil | refine TLes.cons (TLe.eq rfl) ?_ | refine TLes.cons (TLe.int ?_) ?_); (all_goals first | ((try (simp only [Zaa, kzz, kz11, kz12, maxL, Zad] at *)); exact Zal (by omega) (by omega)) | skip))
  · have e : i = F.blocks.length := by simp only [Zaa, kzz, kz11, kz12, maxL, Zad] at *; omega
    subst e
    exact ⟨_, rfl, RelO.rs rfl (Nat.le_refl _) rfl (fun _ _ => rfl)⟩
theorem fc16 (l k : List Int) : FC Tryz.prog 63 [ints l, ints k] (.bool (decide (l = k))) := c_rInts l k
theorem fo24 (F : Func) : FO Tryz.prog 73 [.agg (Zcg F)] 1 (Zce F).2.reverse.length (fun x => [iv ((Zce F).2.reverse.getD x 0)]) := by
  refine Zei tok Tryz.func73 rfl (by decide +kernel) (Nat.le_of_ble_eq_true rfl) ?_
  (repeat' first | refine Zac ?_ | (refine Zab tok (by rfl) ?_; conv => whnf))
  refine .inr ⟨_, _, _, uG (QH.of (dead := []) [] (hc38 F) rfl .nil (.cons (.eq rfl) .nil) [(i0, (5, 1, 0)), (i1, (5, 2, 0)), (i2, (5, 3, 0))] rfl (.cons rfl (BLe.refl _) (.cons rfl (BLe.refl _) (.cons rfl (BLe.refl _) .nil))) rfl), ?_⟩
  conv => whnf
  (repeat' first | refine Zac ?_ | (refine Zab tok (by rfl) ?_; conv => whnf))
  generalize (Zce F).2 = l
  refine .inr ⟨_, _, _, uG (QH.of (dead := []) [(i0, .old (5, 3, 0), irow l.length l)] (hc40 l) rfl (.old rfl (BLe.refl _) .nil) (.cons (.eq rfl) .nil) [(i0, (5, 3, 0))] rfl (.cons rfl (BLe.refl _) .nil) rfl), ?_⟩
  conv => whnf
  (repeat' first | refine Zac ?_ | (refine Zab tok (by rfl) ?_; conv => whnf) | (refine Zaj ?_; conv => whnf))
  exact ⟨_, rfl, RelO.rs rfl (by simp) (by simp) (fun _ _ => rfl)⟩
def jump3 : Zdp := { (default : Zdp) with fin := { (default : End) with kind := 2, to := 3 } }
def awakeF : Func := ⟨0, 1, [{ (default : Zdp) with fin := { (default : End) with kind := 3, to := 1, els := 2 } }, jump3, jump3, { (default : Zdp) with fin := { (default : End) with kind := 1 } }]⟩
theorem aw1 : (Zce awakeF).2.reverse = [0, 2, 1, 3] := by decide +kernel
theorem aw2 : Zdo awakeF 3 = [1, 2] := by decide +kernel
theorem aw3 : next awakeF 0 = [1, 2] := by decide +kernel
def blkC (k t e : Int) : List AV := [.bool false, iv 0, .nsl, .bool false, .bool false, .nsl, iv k, iv 0, iv 0, iv 0, .nsl, iv t, iv e, iv 0]
def awC : List AV := blkC 3 1 2 ++ (blkC 2 3 0 ++ (blkC 2 3 0 ++ blkC 1 0 0))
theorem awR {h : Zan} (e : h (11, 0, 0) = some (.row true 14 4 (Zfm 14 awC))) : Ress h [(11, 0, 0)] [.agg [iv 0, iv 1, .rs (11, 0, 0) 14 0 4]] [.agg (Zcg awakeF)] := by
  refine .cons (.agg (.cons (.imm rfl) (.cons (.imm rfl) (.cons (.rsW e (.head _) (by decide) rfl (fun i hi => ?_)) .nil)))) .nil
  match i, hi with
  | 0, _ => (repeat' first | exact Wks.nil | refine Wks.cons .refl ?_ | refine Wks.cons (.nsl rfl) ?_)
  | 1, _ => (repeat' first | exact Wks.nil | refine Wks.cons .refl ?_ | refine Wks.cons (.nsl rfl) ?_)
  | 2, _ => (repeat' first | exact Wks.nil | refine Wks.cons .refl ?_ | refine Wks.cons (.nsl rfl) ?_)
  | 3, _ => (repeat' first | exact Wks.nil | refine Wks.cons .refl ?_ | refine Wks.cons (.nsl rfl) ?_)
theorem awR2 {h : Zan} {k : Int} (e : h (11, 0, 0) = some (.row true 14 4 (Zfm 14 awC))) : Ress h [(11, 0, 0)] [.agg [iv 0, iv 1, .rs (11, 0, 0) 14 0 4], iv k] [.agg (Zcg awakeF), iv k] := by
  cases awR e with
  | cons h1 h2 => exact .cons h1 (.cons (.imm rfl) .nil)
theorem fc15 : FC Tryz.prog 39 [] (.bool true) := by
  refine Zav tok Tryz.func39 rfl (by decide +kernel) (Nat.le_of_ble_eq_true rfl) ?_
  (repeat' first | refine Zac ?_ | (refine Zab tok (by rfl) ?_; conv => whnf))
  refine .inl ⟨_, _, _, uG (QC.fo (rd := [(11, 0, 0)]) (fo24 awakeF) (awR rfl) (.inr (fun _ _ => rfl)) rfl), ?_⟩
  conv => whnf
  skip
  refine .inl ⟨_, _, _, uG (QC.sc (rd := [(14, 0, 0), (15, 0, 0)]) (fc16 ((Zce awakeF).2.reverse) [0, 2, 1, 3]) (.cons (.row rfl (.head _) rfl rfl (fun _ _ => rfl)) (.cons (.row rfl (.tail _ (.head _)) rfl rfl (fun i hi => by match i, hi with | 0, _ => rfl | 1, _ => rfl | 2, _ => rfl | 3, _ => rfl)) .nil)) rfl), ?_⟩
  conv => whnf
  skip
  refine .inl ⟨_, _, _, uG (QC.fo (rd := [(11, 0, 0)]) (fo19 awakeF 3) (awR2 rfl) (.inr (fun _ _ => rfl)) rfl), ?_⟩
  conv => whnf
  skip
  refine .inl ⟨_, _, _, uG (QC.sc (rd := [(19, 0, 0), (20, 0, 0)]) (fc16 (Zdo awakeF 3) [1, 2]) (.cons (.row rfl (.head _) rfl rfl (fun _ _ => rfl)) (.cons (.row rfl (.tail _ (.head _)) rfl rfl (fun i hi => by match i, hi with | 0, _ => rfl | 1, _ => rfl)) .nil)) rfl), ?_⟩
  conv => whnf
  skip
  refine .inl ⟨_, _, _, uG (QC.fo (rd := [(11, 0, 0)]) (fo17 awakeF 0) (awR2 rfl) (.inr (fun _ _ => rfl)) rfl), ?_⟩
  conv => whnf
  skip
  refine .inl ⟨_, _, _, uG (QC.sc (rd := [(25, 0, 0), (26, 0, 0)]) (fc16 (next awakeF 0) [1, 2]) (.cons (.row rfl (.head _) rfl rfl (fun _ _ => rfl)) (.cons (.row rfl (.tail _ (.head _)) rfl rfl (fun i hi => by match i, hi with | 0, _ => rfl | 1, _ => rfl)) .nil)) rfl), ?_⟩
  conv => whnf
  skip
  refine .inl ⟨_, _, _, uG (QC.fo (rd := [(11, 0, 0)]) (fo22 awakeF) (awR rfl) (.inr (fun _ _ => rfl)) rfl), ?_⟩
  conv => whnf
  (repeat' (refine Zaj ?_; conv => whnf))
  refine ⟨_, rfl, Rel.bool ?_⟩
  trace_state
  rw [aw1, aw2, aw3]
  decide
end Fl
end Go.Proofs.YtoelbgjpmpoolaaGreat
namespace Go.Proofs.YtoelbgjpmpoolaaGreat
open Go Dv
set_option maxRecDepth 10000
set_option linter.unusedSimpArgs false
def w16 (x : Int) : Int := IntKind.u16.wrap x
def doW (op a b : Int) : Int × Bool :=
  if op = 2 then (a, true) else if op = 3 then (w16 (a + b), true) else if op = 4 then (w16 (a - b), true) else if op = 5 then (w16 (a * b), true)
  else if op = 6 then (if b = 0 then (0, false) else (w16 (a.tdiv b), true)) else if op = 7 then (if a = b then 1 else 0, true) else if op = 8 then (if a < b then 1 else 0, true) else (0, false)
def twoO (op : Int) : Bool := bif decide (2 < op) then decide (op ≤ 8) else false
def turnsO (op : Int) : Bool := decide (op = 3 ∨ op = 5 ∨ op = 7)
theorem c_truth (b : Bool) : FC Tryz.prog 198 [.bool b] (.int .u16 (if b = true then 1 else 0)) := by
  refine Zav tok Tryz.func198 rfl (by decide +kernel) (Nat.le_of_ble_eq_true rfl) ?_
  (repeat' first | refine Zac ?_ | (refine Zab tok (by rfl) ?_; conv => whnf) | (refine Zag ?_; conv => whnf) | (refine Zaj ?_; conv => whnf) | refine Zaf rfl (fun hb => ?_) (fun hb => ?_))
  · exact ⟨_, rfl, Rel.int (by rw [if_pos hb])⟩
  · exact ⟨_, rfl, Rel.int (by rw [if_neg (by rw [hb]; simp)])⟩
theorem c_Two (op : Int) : FC Tryz.prog 166 [iv op] (.bool (twoO op)) := by
  refine Zav tok Tryz.func166 rfl (by decide +kernel) (Nat.le_of_ble_eq_true rfl) ?_
  (repeat' first | refine Zac ?_ | (refine Zab tok (by rfl) ?_; conv => whnf) | (refine Zaj ?_; conv => whnf))
  exact ⟨_, rfl, Rel.imm rfl⟩
theorem c_Do (op a b : Int) : FC Tryz.prog 168 [iv op, .int .u16 a, .int .u16 b] (.tup [.int .u16 (doW op a b).1, .bool (doW op a b).2]) := by
  refine Zav tok Tryz.func168 rfl (by decide +kernel) (Nat.le_of_ble_eq_true rfl) ?_
  ((repeat' first | refine Zac ?_ | (refine Zab tok (by rfl) ?_; conv => whnf) | refine Zai ?_ | (refine Zag ?_; conv => whnf) | (refine Zaj ?_; conv => whnf) | refine Zaf rfl (fun hb => ?_) (fun hb => ?_) | (refine @And.intro (Zaa _ _ _ _) _ ?_ ?_; rotate_left; (conv => whnf); rotate_right)); all_goals (try ((guard_target = Zaa _ _ _ _); refine Zae ?_; (all_goals (try simp only [Zaa, kzz, kz11, kz12, maxL, Zad] at *)); all_goals omega)))
  all_goals (try (refine .inl ⟨_, _, _, uG (QC.fc (c_truth _) rfl), ?_⟩; conv => whnf))
  (repeat' (refine Zaj ?_; conv => whnf))
  all_goals refine ⟨_, rfl, Rel.tup (.cons (Rel.int ?_) (.cons (Rel.bool ?_) .nil))⟩
  all_goals simp only [Zaa, kzz, kz11, kz12, maxL, Zad] at *
  all_goals simp [doW, w16, *]
def noteW (m : List (List Int × Int)) (x : Ins) : List (List Int × Int) :=
  if x.op = 10 ∨ x.op = 12 then m else if x.op = 1 then mput m [x.dst] x.k else mdel m [x.dst]
end Go.Proofs.YtoelbgjpmpoolaaGreat
namespace Go.Proofs.YtoelbgjpmpoolaaGreat
open Go Dv
set_option maxRecDepth 10000
set_option linter.unusedSimpArgs false
structure Deed where
  op : Int
  a : Int
  b : Int
deriving DecidableEq, Inhabited
def Deed.l (d : Deed) : List Int := [d.op, d.a, d.b]
def ofD (x : Ins) : Deed := if turnsO x.op = true ∧ x.b < x.a then ⟨x.op, x.b, x.a⟩ else ⟨x.op, x.a, x.b⟩
abbrev κS : MK := ⟨true, 3, .i64, .i64⟩
def hit (p : Int) (q : List Int × Int) : Bool := decide (q.1.getD 1 0 = p) || decide (q.1.getD 2 0 = p) || decide (q.2 = p)
def Zdd (m : List (List Int × Int)) (p : Int) : List (List Int × Int) := m.filter fun q => !hit p q
theorem Zfr (k : List Int) : ∀ {m : List (List Int × Int)}, (m.map (·.1)).Nodup → mdel m k = m.filter fun q => !decide (q.1 = k)
  | [], _ => rfl
  | (k', v') :: r, h => by
      simp only [List.map_cons, List.nodup_cons] at h
      simp only [mdel]
      split
      · rename_i e; subst e
        rw [List.filter_cons_of_neg (by simp)]
        symm
        refine List.filter_eq_self.2 (fun q hq => ?_)
        simp only [Bool.not_eq_true', decide_eq_false_iff_not]
        intro e; exact h.1 (e ▸ List.mem_map.2 ⟨q, hq, rfl⟩)
      · rename_i e
        rw [List.filter_cons_of_pos (by simpa using e), Zfr k h.2]
structure FInv (m : List (List Int × Int)) (p : Int) (clock : Nat) (es : Array MapEntry) (seen : Array Nat) (m' : List (List Int × Int)) : Prop where
  ok : MOk κS m' es clock
  same : Zdd m' p = Zdd m p
  past : ∀ e ∈ es.toList, seen.contains e.born = true → ∀ k v, (k, v) ∈ m' → e.key = keyV κS k → hit p (k, v) = false
theorem FInv.done {m : List (List Int × Int)} {p : Int} {clock : Nat} {es : Array MapEntry} {seen : Array Nat} {m' : List (List Int × Int)} (h : FInv m p clock es seen m') (h0 : (leftOf es seen).size = 0) : MOk κS (Zdd m p) es clock := by
  rw [← h.same]
  have : Zdd m' p = m' := List.filter_eq_self.2 (fun q hq => by
    have h1 : (keyV κS q.1, Value.int .i64 q.2) ∈ m'.map (fun p => (keyV κS p.1, Value.int κS.vk p.2)) := List.mem_map.2 ⟨q, hq, rfl⟩
    rw [← h.ok.kv] at h1
    obtain ⟨e, he, h2⟩ := List.mem_map.1 h1
    have h3 := Prod.mk.inj h2
    rw [h.past e he (all_seen es seen h0 e he) q.1 q.2 hq h3.1]; rfl)
  rw [this]; exact h.ok
abbrev Mp := List (List Int × Int)
def sameHit (m : Mp) (x : Ins) : Bool := bif twoO x.op then (Zb9 m (ofD x).l).isSome else false
def sameY (m : Mp) (x : Ins) : Ins := if sameHit m x = true then ⟨2, x.dst, (Zb9 m (ofD x).l).getD 0, 0, 0, 0, []⟩ else x
def sameOk (m : Mp) (x : Ins) : Bool := twoO x.op && !(Zb9 m (ofD x).l).isSome
def sameM (m : Mp) (x : Ins) : Mp := if (sameY m x).op = 10 ∨ (sameY m x).op = 12 then m else
  if sameOk m x = true ∧ (sameY m x).dst ≠ (ofD x).a ∧ (sameY m x).dst ≠ (ofD x).b then mput (Zdd m (sameY m x).dst) (ofD x).l (sameY m x).dst else Zdd m (sameY m x).dst
def sameIns : Mp → List Ins → List Ins × Mp
  | m, [] => ([], m)
  | m, x :: r => (sameY m x :: (sameIns (sameM m x) r).1, (sameIns (sameM m x) r).2)
def sameAt (l : List Ins) (i : Nat) : List Ins := (sameIns [] (l.take i)).1 ++ l.drop i
end Go.Proofs.YtoelbgjpmpoolaaGreat
