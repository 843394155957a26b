/- Whatever a module, the words told to it, and the fuel: mach.Run runs it as davitref06.Run does, with the same in all places, or refuses it where the module may not be or the fuel is too much. -/
import Derived.Test.YtoelbgjpmpoolaaGreatDvc3
import Derived.Test.YtoelbgjpmpoolaaGreatProg
import Derived.Sort.AssemblyPlain
import Derived.Shelf.Small.Bits
import Derived.Sort.Walk7
set_option linter.unusedVariables false
set_option linter.unusedSimpArgs false
set_option linter.unnecessarySimpa false
namespace Go.Proofs.YtoelbgjpmpoolaaGreat
open Go Dv
def table : List (Nat × Dv.TI) := [
  (1, ⟨1, 8, .other, [.nfn]⟩),
  (2, ⟨1, 8, .int .i64, [.int .i64 0]⟩),
  (3, ⟨1, 8, .int .i64, [.int .i64 0]⟩),
  (4, ⟨1, 1, .bool, [.bool false]⟩),
  (5, ⟨1, 1, .int .u8, [.int .u8 0]⟩),
  (6, ⟨1, 1, .int .u8, [.int .u8 0]⟩),
  (7, ⟨4, 24, .struct [(0, 2), (1, 3), (2, 4), (3, 6)], [.int .i64 0, .int .i64 0, .bool false, .int .u8 0]⟩),
  (8, ⟨4, 24, .struct [(0, 2), (1, 3), (2, 4), (3, 6)], [.int .i64 0, .int .i64 0, .bool false, .int .u8 0]⟩),
  (9, ⟨1, 16, .string, [.str ⟨#[]⟩]⟩),
  (10, ⟨1, 16, .string, [.str ⟨#[]⟩]⟩),
  (11, ⟨1, 16, .string, [.str ⟨#[]⟩]⟩),
  (12, ⟨1, 8, .int .u64, [.int .u64 0]⟩),
  (13, ⟨2, 24, .struct [(0, 9), (1, 12)], [.str ⟨#[]⟩, .int .u64 0]⟩),
  (14, ⟨2, 24, .struct [(0, 9), (1, 12)], [.str ⟨#[]⟩, .int .u64 0]⟩),
  (15, ⟨1, 8, .other, [.np]⟩),
  (16, ⟨1, 8, .other, [.np]⟩),
  (17, ⟨1, 8, .other, [.np]⟩),
  (18, ⟨1, 8, .struct [(0, 17)], [.np]⟩),
  (19, ⟨1, 8, .struct [(0, 17)], [.np]⟩),
  (20, ⟨1, 16, .other, [.nif]⟩),
  (21, ⟨1, 4, .int .i32, [.int .i32 0]⟩),
  (22, ⟨1, 24, .slice 38, [.nsl]⟩),
  (23, ⟨1, 24, .struct [(0, 22)], [.nsl]⟩),
  (24, ⟨1, 24, .struct [(0, 22)], [.nsl]⟩),
  (25, ⟨1, 24, .slice 50, [.nsl]⟩),
  (26, ⟨1, 8, .other, [.nfn]⟩),
  (27, ⟨1, 8, .other, [.nfn]⟩),
  (28, ⟨1, 8, .int .i64, [.int .i64 0]⟩),
  (30, ⟨1, 8, .other, [.nfn]⟩),
  (31, ⟨1, 8, .other, [.nfn]⟩),
  (32, ⟨1, 8, .other, [.nfn]⟩),
  (33, ⟨1, 8, .other, [.nfn]⟩),
  (34, ⟨1, 24, .slice 4, [.nsl]⟩),
  (35, ⟨1, 8, .other, [.nfn]⟩),
  (36, ⟨1, 24, .slice 46, [.nsl]⟩),
  (37, ⟨3, 40, .struct [(0, 3), (1, 3), (2, 36)], [.int .i64 0, .int .i64 0, .nsl]⟩),
  (38, ⟨3, 40, .struct [(0, 3), (1, 3), (2, 36)], [.int .i64 0, .int .i64 0, .nsl]⟩),
  (39, ⟨4, 40, .struct [(0, 3), (1, 25), (2, 4), (3, 4)], [.int .i64 0, .nsl, .bool false, .bool false]⟩),
  (40, ⟨4, 40, .struct [(0, 3), (1, 25), (2, 4), (3, 4)], [.int .i64 0, .nsl, .bool false, .bool false]⟩),
  (41, ⟨1, 24, .slice 70, [.nsl]⟩),
  (42, ⟨1, 24, .slice 3, [.nsl]⟩),
  (43, ⟨8, 80, .struct [(0, 3), (1, 3), (2, 3), (3, 3), (4, 42), (5, 3), (6, 3), (7, 3)], [.int .i64 0, .int .i64 0, .int .i64 0, .int .i64 0, .nsl, .int .i64 0, .int .i64 0, .int .i64 0]⟩),
  (44, ⟨8, 80, .struct [(0, 3), (1, 3), (2, 3), (3, 3), (4, 42), (5, 3), (6, 3), (7, 3)], [.int .i64 0, .int .i64 0, .int .i64 0, .int .i64 0, .nsl, .int .i64 0, .int .i64 0, .int .i64 0]⟩),
  (45, ⟨14, 152, .struct [(0, 4), (1, 40), (5, 41), (6, 44)], [.bool false, .int .i64 0, .nsl, .bool false, .bool false, .nsl, .int .i64 0, .int .i64 0, .int .i64 0, .int .i64 0, .nsl, .int .i64 0, .int .i64 0, .int .i64 0]⟩),
  (46, ⟨14, 152, .struct [(0, 4), (1, 40), (5, 41), (6, 44)], [.bool false, .int .i64 0, .nsl, .bool false, .bool false, .nsl, .int .i64 0, .int .i64 0, .int .i64 0, .int .i64 0, .nsl, .int .i64 0, .int .i64 0, .int .i64 0]⟩),
  (47, ⟨1, 8, .other, [.nfn]⟩),
  (48, ⟨1, 8, .other, [.nfn]⟩),
  (49, ⟨1, 24, .slice 62, [.nsl]⟩),
  (50, ⟨1, 2, .int .u16, [.int .u16 0]⟩),
  (51, ⟨16, 32, .array 16 50, [.int .u16 0, .int .u16 0, .int .u16 0, .int .u16 0, .int .u16 0, .int .u16 0, .int .u16 0, .int .u16 0, .int .u16 0, .int .u16 0, .int .u16 0, .int .u16 0, .int .u16 0, .int .u16 0, .int .u16 0, .int .u16 0]⟩),
  (52, ⟨21, 120, .struct [(0, 49), (1, 51), (17, 25), (18, 42), (19, 3), (20, 50)], [.nsl, .int .u16 0, .int .u16 0, .int .u16 0, .int .u16 0, .int .u16 0, .int .u16 0, .int .u16 0, .int .u16 0, .int .u16 0, .int .u16 0, .int .u16 0, .int .u16 0, .int .u16 0, .int .u16 0, .int .u16 0, .int .u16 0, .nsl, .nsl, .int .i64 0, .int .u16 0]⟩),
  (53, ⟨21, 120, .struct [(0, 49), (1, 51), (17, 25), (18, 42), (19, 3), (20, 50)], [.nsl, .int .u16 0, .int .u16 0, .int .u16 0, .int .u16 0, .int .u16 0, .int .u16 0, .int .u16 0, .int .u16 0, .int .u16 0, .int .u16 0, .int .u16 0, .int .u16 0, .int .u16 0, .int .u16 0, .int .u16 0, .int .u16 0, .nsl, .nsl, .int .i64 0, .int .u16 0]⟩),
  (54, ⟨1, 8, .other, [.nfn]⟩),
  (55, ⟨1, 8, .other, [.nfn]⟩),
  (56, ⟨1, 8, .other, [.nfn]⟩),
  (58, ⟨1, 8, .other, [.nfn]⟩),
  (59, ⟨1, 8, .other, [.nfn]⟩),
  (60, ⟨1, 8, .other, [.nfn]⟩),
  (61, ⟨5, 56, .struct [(0, 3), (1, 3), (2, 3), (3, 25), (4, 50)], [.int .i64 0, .int .i64 0, .int .i64 0, .nsl, .int .u16 0]⟩),
  (62, ⟨5, 56, .struct [(0, 3), (1, 3), (2, 3), (3, 25), (4, 50)], [.int .i64 0, .int .i64 0, .int .i64 0, .nsl, .int .u16 0]⟩),
  (63, ⟨1, 8, .other, [.nfn]⟩),
  (64, ⟨1, 8, .other, [.nfn]⟩),
  (65, ⟨1, 24, .slice 34, [.nsl]⟩),
  (66, ⟨1, 8, .other, [.nfn]⟩),
  (67, ⟨1, 8, .other, [.nfn]⟩),
  (68, ⟨1, 8, .other, [.nfn]⟩),
  (69, ⟨7, 72, .struct [(0, 3), (1, 3), (2, 3), (3, 3), (4, 50), (5, 3), (6, 42)], [.int .i64 0, .int .i64 0, .int .i64 0, .int .i64 0, .int .u16 0, .int .i64 0, .nsl]⟩),
  (70, ⟨7, 72, .struct [(0, 3), (1, 3), (2, 3), (3, 3), (4, 50), (5, 3), (6, 42)], [.int .i64 0, .int .i64 0, .int .i64 0, .int .i64 0, .int .u16 0, .int .i64 0, .nsl]⟩),
  (71, ⟨1, 8, .other, [.nfn]⟩),
  (72, ⟨1, 8, .other, [.nfn]⟩),
  (74, ⟨1, 8, .other, [.nfn]⟩),
  (75, ⟨1, 8, .other, [.nfn]⟩),
  (76, ⟨1, 8, .other, [.nfn]⟩),
  (77, ⟨1, 8, .other, [.nfn]⟩),
  (78, ⟨1, 8, .other, [.nfn]⟩),
  (79, ⟨1, 8, .other, [.nfn]⟩),
  (80, ⟨1, 8, .other, [.nfn]⟩),
  (81, ⟨1, 8, .other, [.nfn]⟩),
  (82, ⟨1, 8, .other, [.nfn]⟩),
  (83, ⟨1, 8, .other, [.nfn]⟩),
  (84, ⟨1, 8, .other, [.nfn]⟩),
  (85, ⟨1, 8, .other, [.np]⟩),
  (86, ⟨22, 144, .struct [(0, 53), (21, 24)], [.nsl, .int .u16 0, .int .u16 0, .int .u16 0, .int .u16 0, .int .u16 0, .int .u16 0, .int .u16 0, .int .u16 0, .int .u16 0, .int .u16 0, .int .u16 0, .int .u16 0, .int .u16 0, .int .u16 0, .int .u16 0, .int .u16 0, .nsl, .nsl, .int .i64 0, .int .u16 0, .nsl]⟩),
  (87, ⟨22, 144, .struct [(0, 53), (21, 24)], [.nsl, .int .u16 0, .int .u16 0, .int .u16 0, .int .u16 0, .int .u16 0, .int .u16 0, .int .u16 0, .int .u16 0, .int .u16 0, .int .u16 0, .int .u16 0, .int .u16 0, .int .u16 0, .int .u16 0, .int .u16 0, .int .u16 0, .nsl, .nsl, .int .i64 0, .int .u16 0, .nsl]⟩),
  (88, ⟨1, 8, .other, [.nfn]⟩),
  (89, ⟨1, 8, .other, [.nfn]⟩),
  (91, ⟨1, 8, .other, [.nfn]⟩),
  (92, ⟨1, 8, .other, [.nfn]⟩),
  (93, ⟨1, 8, .other, [.nfn]⟩),
  (94, ⟨1, 8, .other, [.nfn]⟩),
  (95, ⟨1, 8, .other, [.nfn]⟩),
  (96, ⟨1, 8, .other, [.nfn]⟩),
  (97, ⟨1, 8, .other, [.nfn]⟩),
  (98, ⟨5, 88, .struct [(0, 38), (3, 34), (4, 42)], [.int .i64 0, .int .i64 0, .nsl, .nsl, .nsl]⟩),
  (99, ⟨5, 88, .struct [(0, 38), (3, 34), (4, 42)], [.int .i64 0, .int .i64 0, .nsl, .nsl, .nsl]⟩),
  (100, ⟨1, 8, .other, [.np]⟩),
  (101, ⟨1, 8, .other, [.nfn]⟩),
  (102, ⟨5, 88, .struct [(0, 38), (3, 65), (4, 65)], [.int .i64 0, .int .i64 0, .nsl, .nsl, .nsl]⟩),
  (103, ⟨5, 88, .struct [(0, 38), (3, 65), (4, 65)], [.int .i64 0, .int .i64 0, .nsl, .nsl, .nsl]⟩),
  (104, ⟨1, 8, .other, [.np]⟩),
  (105, ⟨1, 8, .other, [.nfn]⟩),
  (106, ⟨1, 8, .other, [.nfn]⟩),
  (107, ⟨1, 8, .other, [.nfn]⟩),
  (108, ⟨1, 8, .other, [.nfn]⟩),
  (109, ⟨1, 8, .other, [.nfn]⟩),
  (110, ⟨1, 8, .other, [.nfn]⟩),
  (111, ⟨1, 8, .other, [.np]⟩),
  (112, ⟨1, 8, .other, [.nfn]⟩),
  (113, ⟨1, 8, .other, [.nfn]⟩),
  (114, ⟨1, 8, .other, [.nfn]⟩),
  (115, ⟨1, 8, .other, [.np]⟩),
  (116, ⟨1, 8, .other, [.nfn]⟩),
  (117, ⟨1, 8, .other, [.nfn]⟩),
  (118, ⟨1, 8, .other, [.nfn]⟩),
  (119, ⟨4, 64, .struct [(0, 24), (1, 38)], [.nsl, .int .i64 0, .int .i64 0, .nsl]⟩),
  (120, ⟨4, 64, .struct [(0, 24), (1, 38)], [.nsl, .int .i64 0, .int .i64 0, .nsl]⟩),
  (121, ⟨1, 8, .other, [.nfn]⟩),
  (122, ⟨1, 8, .other, [.nfn]⟩),
  (123, ⟨1, 8, .other, [.nfn]⟩),
  (124, ⟨1, 8, .other, [.nfn]⟩),
  (125, ⟨1, 8, .other, [.nfn]⟩),
  (126, ⟨1, 8, .other, [.nfn]⟩),
  (127, ⟨1, 8, .other, [.nfn]⟩),
  (128, ⟨1, 8, .other, [.nfn]⟩),
  (129, ⟨1, 8, .other, [.nfn]⟩),
  (130, ⟨1, 8, .other, [.nfn]⟩),
  (131, ⟨1, 8, .other, [.nfn]⟩),
  (133, ⟨1, 8, .other, [.nfn]⟩),
  (135, ⟨1, 8, .other, [.nfn]⟩),
  (136, ⟨1, 8, .other, [.nfn]⟩),
  (137, ⟨1, 8, .other, [.nfn]⟩),
  (138, ⟨1, 8, .other, [.nfn]⟩),
  (139, ⟨1, 8, .other, [.nfn]⟩),
  (140, ⟨1, 8, .other, [.nfn]⟩),
  (141, ⟨1, 8, .other, [.np]⟩),
  (142, ⟨1, 8, .other, [.nfn]⟩),
  (143, ⟨1, 8, .other, [.nfn]⟩),
  (144, ⟨1, 8, .other, [.nfn]⟩),
  (145, ⟨1, 8, .other, [.nfn]⟩),
  (146, ⟨1, 8, .other, [.nfn]⟩),
  (147, ⟨1, 8, .other, [.nfn]⟩),
  (149, ⟨1, 8, .other, [.nfn]⟩),
  (150, ⟨1, 8, .other, [.nfn]⟩),
  (151, ⟨1, 8, .other, [.nfn]⟩),
  (152, ⟨1, 8, .other, [.nfn]⟩),
  (153, ⟨1, 8, .map ⟨true, 3, .i64, .i64⟩ 157 3, [.any]⟩),
  (154, ⟨1, 8, .map ⟨true, 3, .i64, .i64⟩ 157 3, [.any]⟩),
  (155, ⟨1, 8, .other, [.np]⟩),
  (156, ⟨3, 24, .struct [(0, 3), (1, 3), (2, 3)], [.int .i64 0, .int .i64 0, .int .i64 0]⟩),
  (157, ⟨3, 24, .struct [(0, 3), (1, 3), (2, 3)], [.int .i64 0, .int .i64 0, .int .i64 0]⟩),
  (159, ⟨1, 8, .other, [.nfn]⟩),
  (161, ⟨1, 8, .other, [.nfn]⟩),
  (162, ⟨1, 8, .map ⟨false, 1, .i64, .u16⟩ 3 50, [.any]⟩),
  (163, ⟨1, 8, .map ⟨false, 1, .i64, .u16⟩ 3 50, [.any]⟩),
  (165, ⟨1, 8, .other, [.nfn]⟩),
  (166, ⟨1, 8, .other, [.nfn]⟩),
  (167, ⟨1, 8, .other, [.nfn]⟩),
  (168, ⟨1, 8, .other, [.nfn]⟩),
  (169, ⟨1, 8, .other, [.nfn]⟩),
  (170, ⟨1, 8, .other, [.nfn]⟩),
  (171, ⟨1, 8, .other, [.nfn]⟩),
  (172, ⟨1, 8, .other, [.np]⟩),
  (173, ⟨1, 8, .other, [.nfn]⟩),
  (174, ⟨1, 8, .other, [.nfn]⟩),
  (175, ⟨1, 8, .other, [.nfn]⟩),
  (176, ⟨1, 8, .other, [.nfn]⟩),
  (177, ⟨1, 8, .other, [.nfn]⟩),
  (178, ⟨1, 8, .other, [.nfn]⟩),
  (179, ⟨1, 8, .other, [.nfn]⟩),
  (180, ⟨1, 8, .other, [.nfn]⟩),
  (182, ⟨1, 8, .other, [.nfn]⟩),
  (183, ⟨1, 8, .other, [.nfn]⟩),
  (184, ⟨1, 8, .other, [.nfn]⟩),
  (185, ⟨1, 8, .other, [.nfn]⟩),
  (186, ⟨1, 8, .other, [.nfn]⟩),
  (187, ⟨1, 8, .other, [.np]⟩),
  (188, ⟨1, 8, .other, [.nfn]⟩),
  (189, ⟨1, 8, .other, [.nfn]⟩),
  (190, ⟨1, 8, .other, [.nfn]⟩),
  (191, ⟨1, 8, .other, [.nfn]⟩),
  (193, ⟨1, 8, .other, [.nfn]⟩),
  (194, ⟨1, 8, .other, [.nfn]⟩),
  (195, ⟨1, 8, .other, [.nfn]⟩),
  (196, ⟨1, 8, .other, [.nfn]⟩),
  (197, ⟨1, 8, .other, [.nfn]⟩),
  (198, ⟨1, 8, .other, [.nfn]⟩),
  (199, ⟨1, 8, .other, [.nfn]⟩),
  (200, ⟨1, 8, .other, [.nfn]⟩),
  (201, ⟨1, 8, .other, [.nfn]⟩),
  (202, ⟨1, 8, .other, [.nfn]⟩),
  (203, ⟨1, 8, .other, [.nfn]⟩),
  (204, ⟨1, 8, .other, [.nfn]⟩),
  (205, ⟨1, 8, .other, [.nfn]⟩),
  (206, ⟨1, 8, .other, [.nfn]⟩),
  (207, ⟨1, 8, .other, [.nfn]⟩),
  (208, ⟨1, 8, .other, [.nfn]⟩),
  (209, ⟨1, 8, .other, [.nfn]⟩),
  (210, ⟨1, 8, .other, [.nfn]⟩),
  (211, ⟨1, 8, .other, [.nfn]⟩),
  (212, ⟨1, 8, .other, [.nfn]⟩),
  (213, ⟨1, 8, .other, [.nfn]⟩),
  (214, ⟨1, 8, .other, [.nfn]⟩),
  (215, ⟨1, 8, .other, [.nfn]⟩),
  (216, ⟨1, 8, .other, [.nfn]⟩),
  (217, ⟨1, 8, .other, [.nfn]⟩),
  (218, ⟨1, 8, .other, [.nfn]⟩),
  (219, ⟨1, 8, .other, [.nfn]⟩),
  (220, ⟨1, 8, .other, [.nfn]⟩),
  (221, ⟨1, 8, .other, [.nfn]⟩),
  (222, ⟨1, 8, .int .u64, [.int .u64 0]⟩),
  (223, ⟨1, 8, .other, [.nfn]⟩),
  (224, ⟨1, 8, .other, [.nfn]⟩),
  (225, ⟨1, 8, .other, [.nfn]⟩),
  (226, ⟨1, 8, .int .u64, [.int .u64 0]⟩),
  (227, ⟨1, 8, .other, [.nfn]⟩),
  (228, ⟨1, 8, .other, [.nfn]⟩),
  (229, ⟨1, 8, .int .i64, [.int .i64 0]⟩),
  (231, ⟨1, 8, .other, [.nfn]⟩),
  (232, ⟨1, 8, .other, [.nfn]⟩),
  (233, ⟨1, 8, .other, [.nfn]⟩),
  (234, ⟨1, 8, .other, [.nfn]⟩),
  (235, ⟨1, 8, .other, [.nfn]⟩),
  (236, ⟨1, 4, .int .u32, [.int .u32 0]⟩),
  (237, ⟨1, 8, .other, [.nfn]⟩),
  (238, ⟨1, 8, .other, [.nfn]⟩),
  (239, ⟨1, 8, .other, [.nfn]⟩),
  (240, ⟨1, 8, .int .u64, [.int .u64 0]⟩),
  (241, ⟨1, 8, .other, [.nfn]⟩),
  (242, ⟨1, 8, .other, [.nfn]⟩),
  (243, ⟨1, 8, .other, [.nfn]⟩),
  (244, ⟨1, 8, .other, [.np]⟩),
  (245, ⟨1, 8, .other, [.nfn]⟩),
  (246, ⟨1, 8, .other, [.nfn]⟩),
  (247, ⟨1, 8, .other, [.nfn]⟩),
  (248, ⟨1, 8, .other, [.nfn]⟩),
  (249, ⟨1, 8, .other, [.nfn]⟩),
  (250, ⟨1, 8, .other, [.nfn]⟩),
  (251, ⟨1, 8, .other, [.nfn]⟩),
  (252, ⟨1, 8, .other, [.np]⟩),
  (254, ⟨1, 8, .other, [.nfn]⟩),
  (255, ⟨1, 8, .other, [.nfn]⟩),
  (256, ⟨1, 8, .other, [.nfn]⟩),
  (257, ⟨1, 8, .other, [.nfn]⟩),
  (258, ⟨1, 8, .other, [.nfn]⟩),
  (259, ⟨4, 40, .struct [(0, 17), (1, 17), (2, 17), (3, 9)], [.np, .np, .np, .str ⟨#[]⟩]⟩),
  (260, ⟨4, 40, .struct [(0, 17), (1, 17), (2, 17), (3, 9)], [.np, .np, .np, .str ⟨#[]⟩]⟩),
  (261, ⟨0, 0, .array 0 16, []⟩),
  (262, ⟨0, 0, .struct [(0, 261)], []⟩),
  (263, ⟨0, 0, .struct [(0, 261)], []⟩),
  (264, ⟨1, 8, .other, [.nfn]⟩),
  (265, ⟨1, 1, .int .u8, [.int .u8 0]⟩),
  (266, ⟨1, 1, .int .u8, [.int .u8 0]⟩),
  (267, ⟨1, 8, .other, [.nfn]⟩),
  (268, ⟨1, 8, .other, [.np]⟩),
  (269, ⟨1, 4, .int .i32, [.int .i32 0]⟩),
  (270, ⟨1, 4, .int .i32, [.int .i32 0]⟩),
  (271, ⟨11, 48, .struct [(0, 12), (1, 12), (2, 236), (3, 265), (4, 5), (5, 5), (6, 266), (7, 267), (8, 268), (9, 269), (10, 270)], [.int .u64 0, .int .u64 0, .int .u32 0, .int .u8 0, .int .u8 0, .int .u8 0, .int .u8 0, .nfn, .np, .int .i32 0, .int .i32 0]⟩),
  (272, ⟨11, 48, .struct [(0, 12), (1, 12), (2, 236), (3, 265), (4, 5), (5, 5), (6, 266), (7, 267), (8, 268), (9, 269), (10, 270)], [.int .u64 0, .int .u64 0, .int .u32 0, .int .u8 0, .int .u8 0, .int .u8 0, .int .u8 0, .nfn, .np, .int .i32 0, .int .i32 0]⟩)]
theorem tok : TOk Tryz.prog (findT table) := table_ok (by kernel_rfl)
abbrev T := findT table
end Go.Proofs.YtoelbgjpmpoolaaGreat
namespace Go.Proofs.YtoelbgjpmpoolaaGreat
open Go Dv
set_option maxRecDepth 10000
set_option linter.unusedSimpArgs false
theorem mix : Tryz.prog.follows .mixedOrders = true := by decide +kernel
structure Ins where
  (op dst a b k f : Int)
  args : List Int
deriving Inhabited
structure End where
  (kind a dst f : Int)
  args : List Int
  (to els pad : Int)
deriving Inhabited
structure Pad where
  dst : Int
  catch_ : List Int
  (all cleanup : Bool)
deriving Inhabited
structure Zex where
  landing : Bool
  pad : Pad
  ins : List Ins
  fin : End
deriving Inhabited
structure Func where
  (params regs : Int)
  blocks : List Zex
deriving Inhabited
abbrev iv (n : Int) : AV := .int .i64 n
def ints (l : List Int) : AV := .sl 1 l.length fun i => [iv (l.getD i 0)]
def u16s (l : List Int) : AV := .sl 1 l.length fun i => [.int .u16 (l.getD i 0)]
def Zba (x : Ins) : List AV := [iv x.op, iv x.dst, iv x.a, iv x.b, .int .u16 x.k, iv x.f, ints x.args]
def inss (l : List Ins) : AV := .sl 7 l.length fun i => Zba (l.getD i default)
def Zd9 (e : End) : List AV := [iv e.kind, iv e.a, iv e.dst, iv e.f, ints e.args, iv e.to, iv e.els, iv e.pad]
def Zbi (b : Zex) : List AV := [.bool b.landing, iv b.pad.dst, u16s b.pad.catch_, .bool b.pad.all, .bool b.pad.cleanup, inss b.ins, iv b.fin.kind, iv b.fin.a, iv b.fin.dst, iv b.fin.f, ints b.fin.args, iv b.fin.to, iv b.fin.els, iv b.fin.pad]
def blockss (l : List Zex) : AV := .sl 14 l.length fun i => Zbi (l.getD i default)
def Zbm (f : Func) : List AV := [iv f.params, iv f.regs, blockss f.blocks]
structure Zaj where
  funcs : List Func
deriving Inhabited
def funcss (l : List Func) : AV := .sl 3 l.length fun i => Zbm (l.getD i default)
def Zav (m : Zaj) : List AV := [funcss m.funcs]
def Zd8 (p : Pad) : List AV := [iv p.dst, u16s p.catch_, .bool p.all, .bool p.cleanup]
deriving instance DecidableEq for Ins
deriving instance DecidableEq for End
deriving instance DecidableEq for Pad
deriving instance DecidableEq for Zex
deriving instance DecidableEq for Func
deriving instance DecidableEq for Zaj
def idxG {α : Type} (p : α → Bool) (l : List α) : Int := match l.findIdx? p with | some i => (i : Int) | none => -1
theorem idxG_at {α : Type} (d : α) {p : α → Bool} {l : List α} {i : Nat} (hi : i < l.length) (hc : ∀ j, j < i → p (l.getD j d) = false) (h : p (l.getD i d) = true) : idxG p l = (i : Int) := by
  have : l.findIdx? p = some i := by
    rw [List.findIdx?_eq_some_iff_getElem]
    refine ⟨hi, by rw [← Zb5 d hi]; exact h, fun j hj => ?_⟩
    have h2 := hc j hj; rw [Zb5 d (by omega)] at h2; rw [h2]; simp
  simp [idxG, this]
theorem idxG_none {α : Type} (d : α) {p : α → Bool} {l : List α} (hc : ∀ j, j < l.length → p (l.getD j d) = false) : idxG p l = -1 := by
  have : l.findIdx? p = none := by
    rw [List.findIdx?_eq_none_iff]
    intro x hx
    obtain ⟨j, hj, rfl⟩ := List.getElem_of_mem hx
    have := hc j hj
    rw [Zb5 d hj] at this; exact this
  simp [idxG, this]
theorem idxG_any {α : Type} (p : α → Bool) (l : List α) : decide (0 ≤ idxG p l) = l.any p := by
  unfold idxG
  cases h : l.findIdx? p with
  | none =>
    rw [List.findIdx?_eq_none_iff] at h
    have : l.any p = false := by
      rw [List.any_eq_false]; intro x hx; rw [h x hx]; simp
    rw [this]; rfl
  | some i =>
    rw [List.findIdx?_eq_some_iff_getElem] at h
    obtain ⟨hi, h1, _⟩ := h
    have : l.any p = true := List.any_eq_true.2 ⟨l[i], List.getElem_mem hi, h1⟩
    rw [this]; simp
theorem all_no {α : Type} (d : α) {p : α → Bool} {l : List α} {i : Nat} (hi : i < l.length) (h : p (l.getD i d) = false) : l.all p = false := by
  rw [List.all_eq_false]
  exact ⟨l[i], List.getElem_mem hi, by rw [← Zb5 d hi, h]; simp⟩
theorem all_yes {α : Type} (d : α) {p : α → Bool} {l : List α} (h : ∀ j, j < l.length → p (l.getD j d) = true) : l.all p = true := by
  rw [List.all_eq_true]
  intro x hx
  obtain ⟨j, hj, rfl⟩ := List.getElem_of_mem hx
  have := h j hj
  rw [Zb5 d hj] at this; exact this
def inn (n most : Int) : Bool := bif decide (0 ≤ n) then decide (n < most) else false
theorem Zad (n most : Int) : inn n most = true ↔ 0 ≤ n ∧ n < most := by unfold inn; cases h : decide (0 ≤ n) <;> simp at h ⊢ <;> omega
theorem Zd0 (n k : Int) : FC Tryz.prog 142 [iv n, iv k] (.bool (inn n k)) := by
  refine Zao tok Tryz.func142 rfl (by decide +kernel) (Nat.le_of_ble_eq_true rfl) ?_
  (repeat' first | refine Zac ?_ | (refine Zab tok (by rfl) ?_; conv => whnf) | (refine Zah ?_; conv => whnf))
  exact ⟨_, rfl, Rel.imm rfl⟩
def goalB (f : Func) (n : Int) : Bool := bif inn n f.blocks.length then !(f.blocks.getD n.toNat default).landing else false
theorem c_goal (f : Func) (n : Int) : FC Tryz.prog 143 [.agg (Zbm f), iv n] (.bool (goalB f n)) := by
  refine Zao tok Tryz.func143 rfl (by decide +kernel) (Nat.le_of_ble_eq_true rfl) ?_
  refine Zaw 0 (fun hl => ?_)
  (repeat' first | refine Zac ?_ | (refine Zab tok (by rfl) ?_; conv => whnf))
  refine .inl ⟨_, _, _, uG (QC.fc (Zd0 n f.blocks.length) rfl), ?_⟩
  conv => whnf
  ((repeat' first | (refine Zah ?_; conv => whnf) | (refine @And.intro (Zaa _ _ _ _) _ ?_ ?_; rotate_left; (conv => whnf); rotate_right)); all_goals (try ((guard_target = Zaa _ _ _ _); ((refine Za8 ?_; intro hgd; (conv at hgd => whnf); (try simp only [Zad] at hgd))); all_goals omega)))
  exact ⟨_, rfl, Rel.imm rfl⟩
def argsB (m : Zaj) (f : Func) (n : Int) (l : List Int) : Bool := bif bif inn n m.funcs.length then decide ((l.length : Int) = (m.funcs.getD n.toNat default).params) else false then l.all (fun k => inn k f.regs) else false
theorem c_args (m : Zaj) (f : Func) (n : Int) (l : List Int) : FC Tryz.prog 144 [.agg (Zav m), .agg (Zbm f), iv n, ints l] (.bool (argsB m f n l)) := by
  refine Zao tok Tryz.func144 rfl (by decide +kernel) (Nat.le_of_ble_eq_true rfl) ?_
  refine Zaw 3 (fun hl => ?_)
  have hl0 : l.length ≤ maxL := hl.1
  (repeat' first | refine Zac ?_ | (refine Zab tok (by rfl) ?_; conv => whnf))
  refine .inl ⟨_, _, _, uG (QC.fc (Zd0 n m.funcs.length) rfl), ?_⟩
  conv => whnf
  ((repeat' first | refine Zac ?_ | (refine Zab tok (by rfl) ?_; conv => whnf) | refine Zai ?_ | (refine Zag ?_; conv => whnf) | (refine Zah ?_; conv => whnf) | refine Zae rfl (fun hb => ?_) (fun hb => ?_) | (refine @And.intro (Zaa _ _ _ _) _ ?_ ?_; rotate_left; (conv => whnf); rotate_right)); all_goals (try ((guard_target = Zaa _ _ _ _); ((refine Za8 ?_; intro hgd; (conv at hgd => whnf))); (all_goals (try simp only [Zaa, kzz, kz11, kz12, maxL, Zad] at *)); all_goals omega)))
  · refine ⟨_, rfl, Rel.bool ?_⟩
    unfold argsB
    cases h1 : inn n m.funcs.length <;> simp [h1] at hb ⊢
    intro h2; exact absurd h2 hb
  have hg : (bif inn n m.funcs.length then decide ((l.length : Int) = (m.funcs.getD n.toNat default).params) else false) = true := by
    cases h1 : inn n m.funcs.length <;> simp [h1] at hb ⊢
    exact hb
  refine Za1 (fun i : Nat => mkS [(3, ints l), (5, .bp (5, 0, 0) 0), (8, .bool false), (9, iv i)] [((5, 0, 0), Zam (Zbm f))])
    (fun i => i ≤ l.length ∧ ∀ j, j < i → inn (l.getD j 0) f.regs = true) (fun i => l.length - i) 0 ⟨Nat.zero_le _, by simp⟩ ?_ ?_
  · refine Weak.list [((5, 0, 0), .old (5, 0, 0), Zam (Zbm f))] rfl (by rfl) ?_ (.old rfl (BLe.refl _) .nil)
    ((repeat' first | exact TLes.nil | refine TLes.cons (TLe.eq rfl) ?_); skip)
  rintro i ⟨hi, hc⟩
  ((repeat' first | refine Zac ?_ | (refine Zab tok (by rfl) ?_; conv => whnf) | (refine Zat tok mix (by rfl) ?_; conv => whnf) | refine Zai ?_ | (refine Zag ?_; conv => whnf) | (refine Za3 ?_; conv => whnf) | (refine Zah ?_; conv => whnf) | refine Zae rfl (fun hb => ?_) (fun hb => ?_) | (refine @And.intro (Zaa _ _ _ _) _ ?_ ?_; rotate_left; (conv => whnf); rotate_right)); all_goals (try ((guard_target = Zaa _ _ _ _); refine Zaf ?_; (all_goals (try simp only [Zaa, kzz, kz11, kz12, maxL, Zad] at *)); all_goals omega)))
  · have hlt : i < l.length := by simp only [Zaa, kzz, kz11, kz12, maxL, Zad] at *; omega
    refine .inl ⟨_, _, _, uG (QC.fc (Zd0 (l.getD (i : Int).toNat 0) f.regs) rfl), ?_⟩
    conv => whnf
    (repeat' first | refine Zac ?_ | (refine Zab tok (by rfl) ?_; conv => whnf) | (refine Zag ?_; conv => whnf) | (refine Zah ?_; conv => whnf) | refine Zae rfl (fun hb => ?_) (fun hb => ?_))
    · refine ⟨_, rfl, Rel.bool ?_⟩
      unfold argsB; rw [hg, cond_true]
      exact (all_no 0 hlt (p := fun k => inn k f.regs) (by simpa using hb)).symm
    · refine ⟨i + 1, ⟨hlt, fun j hj => ?_⟩, by omega, ?_⟩
      · by_cases e : j = i
        · subst e; simpa using hb
        · exact hc j (by omega)
      refine Weak.list [((5, 0, 0), .old (5, 0, 0), Zam (Zbm f))] rfl (by rfl) ?_ (.old rfl (BLe.refl _) .nil)
      ((repeat' first | exact TLes.nil | refine TLes.cons (TLe.eq rfl) ?_ | refine TLes.cons (TLe.int ?_) ?_); (all_goals first | ((try (simp only [Zaa, kzz, kz11, kz12, maxL, Zad] at *)); exact Zal (by omega) (by omega)) | skip))
  · refine ⟨_, rfl, Rel.bool ?_⟩
    unfold argsB; rw [hg, cond_true]
    exact (all_yes 0 (p := fun k => inn k f.regs) (fun j hj => hc j (by simp only [Zaa, kzz, kz11, kz12, maxL, Zad] at *; omega))).symm
theorem c_plain (k f : Int) (l : List Int) : FC Tryz.prog 145 [.int .u16 k, iv f, ints l] (.bool (decide (k = 0 ∧ f = 0 ∧ l = []))) := by
  refine Zao tok Tryz.func145 rfl (by decide +kernel) (Nat.le_of_ble_eq_true rfl) ?_
  (repeat' first | refine Zac ?_ | (refine Zab tok (by rfl) ?_; conv => whnf) | (refine Zah ?_; conv => whnf))
  refine ⟨_, rfl, Rel.bool ?_⟩
  rw [Bool.eq_iff_iff]; simp [and_assoc]
end Go.Proofs.YtoelbgjpmpoolaaGreat
namespace Go.Proofs.YtoelbgjpmpoolaaGreat
open Go Dv
set_option maxRecDepth 10000
set_option linter.unusedSimpArgs false
theorem appR_zero {f g : Nat → List AV} {i : Nat} : appR 0 f g i = g i := rfl
theorem c_CloneInts (l : List Int) : FO Tryz.prog 79 [ints l] 1 l.length (fun i => [iv (l.getD i 0)]) := by
  refine FO_intro tok Tryz.func79 rfl (by decide +kernel) (Nat.le_of_ble_eq_true rfl) ?_
  refine Zaw 0 (fun hl => ?_)
  have hl0 : l.length ≤ maxL := hl.1
  ((repeat' first | refine Zac ?_ | (refine Zab tok (by rfl) ?_; conv => whnf) | (refine Zag ?_; conv => whnf) | (refine Zah ?_; conv => whnf) | refine Zae rfl (fun hb => ?_) (fun hb => ?_) | (refine @And.intro (Zaa _ _ _ _) _ ?_ ?_; rotate_left; (conv => whnf); rotate_right) | (refine fun (bn : Bool) (hbn : (0 < _ → bn = _)) => ?_; conv => whnf)); all_goals (try ((guard_target = Zaa _ _ _ _); refine Zaf ?_; (first | refine And.intro Zd3 ?_ | skip); (all_goals (try simp only [Zaa, kzz, kz11, kz12, maxL, Zad] at *)); all_goals omega)))
  · refine ⟨_, rfl, RelO.nsl' ?_⟩
    rcases Nat.eq_zero_or_pos l.length with h | h
    · exact h
    · rw [hbn h] at hb; cases hb
  · refine ⟨_, rfl, RelO.rs rfl (Nat.le_refl _) (by simp) (fun i hi => ?_)⟩
    show appR 0 (rowOf 1 []) (fun i => [iv (l.getD i 0)]) i = _
    exact appR_zero
theorem Zf1 (l : List Int) : FO Tryz.prog 68 [u16s l] 1 l.length (fun i => [.int .u16 (l.getD i 0)]) := by
  refine FO_intro tok Tryz.func68 rfl (by decide +kernel) (Nat.le_of_ble_eq_true rfl) ?_
  refine Zaw 0 (fun hl => ?_)
  have hl0 : l.length ≤ maxL := hl.1
  ((repeat' first | refine Zac ?_ | (refine Zab tok (by rfl) ?_; conv => whnf) | (refine Zag ?_; conv => whnf) | (refine Zah ?_; conv => whnf) | refine Zae rfl (fun hb => ?_) (fun hb => ?_) | (refine @And.intro (Zaa _ _ _ _) _ ?_ ?_; rotate_left; (conv => whnf); rotate_right) | (refine fun (bn : Bool) (hbn : (0 < _ → bn = _)) => ?_; conv => whnf)); all_goals (try ((guard_target = Zaa _ _ _ _); refine Zaf ?_; (first | refine And.intro Zd3 ?_ | skip); (all_goals (try simp only [Zaa, kzz, kz11, kz12, maxL, Zad] at *)); all_goals omega)))
  · refine ⟨_, rfl, RelO.nsl' ?_⟩
    rcases Nat.eq_zero_or_pos l.length with h | h
    · exact h
    · rw [hbn h] at hb; cases hb
  · refine ⟨_, rfl, RelO.rs rfl (Nat.le_refl _) (by simp) (fun i hi => ?_)⟩
    show appR 0 (rowOf 1 []) (fun i => [.int .u16 (l.getD i 0)]) i = _
    exact appR_zero
end Go.Proofs.YtoelbgjpmpoolaaGreat
namespace Go.Proofs.YtoelbgjpmpoolaaGreat
open Go Dv
set_option maxRecDepth 10000
set_option linter.unusedSimpArgs false
def InsP (m : Zaj) (f : Func) (x : Ins) : Prop :=
  (x.op = 1 ∧ inn x.dst f.regs = true ∧ x.a = 0 ∧ x.b = 0 ∧ x.f = 0 ∧ x.args = []) ∨
  ((x.op = 2 ∨ x.op = 9) ∧ inn x.dst f.regs = true ∧ inn x.a f.regs = true ∧ x.b = 0 ∧ x.k = 0 ∧ x.f = 0 ∧ x.args = []) ∨
  ((3 ≤ x.op ∧ x.op ≤ 8) ∧ inn x.dst f.regs = true ∧ inn x.a f.regs = true ∧ inn x.b f.regs = true ∧ x.k = 0 ∧ x.f = 0 ∧ x.args = []) ∨
  (x.op = 10 ∧ x.dst = 0 ∧ inn x.a f.regs = true ∧ inn x.b f.regs = true ∧ x.k = 0 ∧ x.f = 0 ∧ x.args = []) ∨
  (x.op = 11 ∧ inn x.dst f.regs = true ∧ x.a = 0 ∧ x.b = 0 ∧ x.k = 0 ∧ argsB m f x.f x.args = true) ∨
  (x.op = 12 ∧ x.dst = 0 ∧ inn x.a f.regs = true ∧ x.b = 0 ∧ x.k = 0 ∧ x.f = 0 ∧ x.args = []) ∨
  (x.op = 13 ∧ inn x.dst f.regs = true ∧ x.a = 0 ∧ x.b = 0 ∧ x.k = 0 ∧ x.f = 0 ∧ x.args = [])
instance (m : Zaj) (f : Func) (x : Ins) : Decidable (InsP m f x) := by unfold InsP; infer_instance
theorem c_ins (m : Zaj) (f : Func) (x : Ins) : FC Tryz.prog 97 [.agg (Zav m), .agg (Zbm f), .agg (Zba x)] (.bool (decide (InsP m f x))) := by
  refine Zao tok Tryz.func97 rfl (by decide +kernel) (Nat.le_of_ble_eq_true rfl) ?_
  (repeat' first | refine Zac ?_ | (refine Zab tok (by rfl) ?_; conv => whnf) | (refine Zat tok mix (by rfl) ?_; conv => whnf))
  refine .inl ⟨_, _, _, uG (QC.fc (Zd0 x.dst f.regs) rfl), ?_⟩
  conv => whnf
  skip
  refine .inl ⟨_, _, _, uG (QC.fc (Zd0 x.a f.regs) rfl), ?_⟩
  conv => whnf
  skip
  refine .inl ⟨_, _, _, uG (QC.fc (Zd0 x.b f.regs) rfl), ?_⟩
  conv => whnf
  (repeat' first | refine Zac ?_ | (refine Zab tok (by rfl) ?_; conv => whnf) | refine Zai ?_ | (refine Zag ?_; conv => whnf) | (refine Zah ?_; conv => whnf) | refine Zae rfl (fun hb => ?_) (fun hb => ?_))
  all_goals (try (refine .inl ⟨_, _, _, uG (QC.fc (c_plain x.k x.f x.args) rfl), ?_⟩; conv => whnf))
  (repeat' (refine Zah ?_; conv => whnf))
  all_goals (try (refine .inl ⟨_, _, _, uG (QC.fc (c_args m f x.f x.args) rfl), ?_⟩; conv => whnf))
  (repeat' (refine Zah ?_; conv => whnf))
  all_goals (first | (exfalso; simp only [decide_eq_true_eq, decide_eq_false_iff_not] at *; omega) | refine ⟨_, rfl, Rel.bool ?_⟩)
  all_goals simp only [decide_eq_true_eq, decide_eq_false_iff_not] at *
  all_goals first | (rw [Bool.eq_iff_iff]; simp [InsP, hb, and_assoc]; done) | skip
  all_goals
    symm; rw [decide_eq_false_iff_not]
    rintro (h | h | h | h | h | h | h) <;> omega
def EndP (m : Zaj) (f : Func) (x : End) : Prop :=
  ((x.kind = 1 ∨ x.kind = 5) ∧ inn x.a f.regs = true ∧ x.dst = 0 ∧ x.f = 0 ∧ x.args = [] ∧ x.pad = 0 ∧ x.to = 0 ∧ x.els = 0) ∨
  (x.kind = 2 ∧ x.a = 0 ∧ x.dst = 0 ∧ x.f = 0 ∧ x.args = [] ∧ x.pad = 0 ∧ goalB f x.to = true ∧ x.els = 0) ∨
  (x.kind = 3 ∧ inn x.a f.regs = true ∧ x.dst = 0 ∧ x.f = 0 ∧ x.args = [] ∧ x.pad = 0 ∧ goalB f x.to = true ∧ goalB f x.els = true) ∨
  (x.kind = 4 ∧ x.a = 0 ∧ inn x.dst f.regs = true ∧ argsB m f x.f x.args = true ∧ goalB f x.to = true ∧ x.els = 0 ∧ inn x.pad f.blocks.length = true ∧ (f.blocks.getD x.pad.toNat default).landing = true) ∨
  (x.kind = 6 ∧ x.a = 0 ∧ x.dst = 0 ∧ x.f = 0 ∧ x.args = [] ∧ x.pad = 0 ∧ x.to = 0 ∧ x.els = 0)
instance (m : Zaj) (f : Func) (x : End) : Decidable (EndP m f x) := by unfold EndP; infer_instance
theorem c_end (m : Zaj) (f : Func) (x : End) : FC Tryz.prog 96 [.agg (Zav m), .agg (Zbm f), .agg (Zd9 x)] (.bool (decide (EndP m f x))) := by
  refine Zao tok Tryz.func96 rfl (by decide +kernel) (Nat.le_of_ble_eq_true rfl) ?_
  (repeat' first | refine Zac ?_ | (refine Zab tok (by rfl) ?_; conv => whnf) | (refine Zat tok mix (by rfl) ?_; conv => whnf))
  refine .inl ⟨_, _, _, uG (QC.fc (Zd0 x.a f.regs) rfl), ?_⟩
  conv => whnf
  skip
  refine .inl ⟨_, _, _, uG (QC.fc (Zd0 x.dst f.regs) rfl), ?_⟩
  conv => whnf
  (repeat' first | refine Zac ?_ | (refine Zab tok (by rfl) ?_; conv => whnf) | refine Zai ?_ | (refine Zag ?_; conv => whnf) | (refine Zah ?_; conv => whnf) | refine Zae rfl (fun hb => ?_) (fun hb => ?_))
  all_goals (try (refine .inl ⟨_, _, _, uG (QC.fc (c_args m f x.f x.args) rfl), ?_⟩; conv => whnf))
  skip
  all_goals (try (refine .inl ⟨_, _, _, uG (QC.fc (c_goal f x.to) rfl), ?_⟩; conv => whnf))
  (repeat' (refine Zah ?_; conv => whnf))
  all_goals (try (refine .inl ⟨_, _, _, uG (QC.fc (c_goal f x.els) rfl), ?_⟩; conv => whnf))
  (repeat' (refine Zah ?_; conv => whnf))
  all_goals (try (refine .inl ⟨_, _, _, uG (QC.fc (Zd0 x.pad f.blocks.length) rfl), ?_⟩; conv => whnf))
  ((repeat' first | (refine Zah ?_; conv => whnf) | (refine @And.intro (Zaa _ _ _ _) _ ?_ ?_; rotate_left; (conv => whnf); rotate_right)); all_goals (try ((guard_target = Zaa _ _ _ _); ((refine Za8 ?_; intro hgd; (conv at hgd => whnf))); (all_goals (try simp only [Zaa, kzz, kz11, kz12, maxL, Zad] at *)); all_goals omega)))
  all_goals (first | (exfalso; simp only [decide_eq_true_eq, decide_eq_false_iff_not] at *; omega) | refine ⟨_, rfl, Rel.bool ?_⟩ | skip)
  all_goals (try simp only [decide_eq_true_eq, decide_eq_false_iff_not] at *)
  all_goals first | (rw [Bool.eq_iff_iff]; simp [EndP, hb, and_assoc]; done) | skip
  all_goals
    symm; rw [decide_eq_false_iff_not]
    rintro (h | h | h | h | h) <;> omega
end Go.Proofs.YtoelbgjpmpoolaaGreat
namespace Go.Proofs.YtoelbgjpmpoolaaGreat
open Go Dv
set_option maxRecDepth 10000
set_option linter.unusedSimpArgs false
def PadP (f : Func) (b : Zex) : Prop :=
  (b.landing = false ∧ b.pad.dst = 0 ∧ b.pad.catch_ = [] ∧ b.pad.all = false ∧ b.pad.cleanup = false) ∨
  (b.landing = true ∧ b.pad.catch_.length ≤ 8 ∧ b.pad.catch_.Nodup ∧ inn b.pad.dst f.regs = true ∧ (b.pad.catch_ ≠ [] ∨ b.pad.all = true ∨ b.pad.cleanup = true))
instance (f : Func) (b : Zex) : Decidable (PadP f b) := by unfold PadP; infer_instance
theorem nodup_getD {l : List Int} (h : ∀ i, i < l.length → ∀ k, k < i → l.getD k 0 ≠ l.getD i 0) : l.Nodup := by
  unfold List.Nodup
  rw [List.pairwise_iff_getElem]
  intro i j hi hj hij
  have := h j hj i hij
  rw [Zb5 _ hi, Zb5 _ hj] at this; exact this
theorem not_nodup {l : List Int} {i k : Nat} (hi : i < l.length) (hk : k < i) (h : l.getD k 0 = l.getD i 0) : ¬ l.Nodup := by
  unfold List.Nodup
  rw [List.pairwise_iff_getElem]
  intro h2
  have := h2 k i (by omega) hi hk
  rw [Zb5 _ (by omega), Zb5 _ hi] at h; exact this h
theorem c_pad (f : Func) (b : Zex) : FC Tryz.prog 95 [.agg (Zbm f), .agg (Zbi b)] (.bool (decide (PadP f b))) := by
  refine Zao tok Tryz.func95 rfl (by decide +kernel) (Nat.le_of_ble_eq_true rfl) ?_
  refine Zaw 1 (fun hl => ?_)
  have hl0 : b.pad.catch_.length ≤ maxL := hl.2.2.1.1
  (repeat' first | refine Zac ?_ | (refine Zab tok (by rfl) ?_; conv => whnf) | refine Zai ?_ | (refine Zag ?_; conv => whnf) | (refine Zah ?_; conv => whnf) | refine Zae rfl (fun hb => ?_) (fun hb => ?_))
  · refine ⟨_, rfl, Rel.bool ?_⟩
    rw [Bool.eq_iff_iff]
    simp at hb
    simp [PadP, hb, and_assoc]
  simp only [Bool.not_eq_eq_eq_not, Bool.not_false] at hb
  refine Za1 (fun i : Nat => mkS [(2, .bp (2, 0, 0) 0), (4, .bool false), (5, .bp (5, 0, 0) 0), (6, iv i)] [((2, 0, 0), Zam (Zbm f)), ((5, 0, 0), .row true 4 1 (fun _ => Zd8 b.pad))])
    (fun i => i ≤ b.pad.catch_.length ∧ i ≤ 8 ∧ ∀ j, j < i → ∀ k, k < j → b.pad.catch_.getD k 0 ≠ b.pad.catch_.getD j 0) (fun i => b.pad.catch_.length - i) 0 ⟨Nat.zero_le _, Nat.zero_le _, by simp⟩ ?_ ?_
  · refine Weak.list [((2, 0, 0), .old (2, 0, 0), Zam (Zbm f)), ((5, 0, 0), .old (5, 0, 0), .row true 4 1 (fun _ => Zd8 b.pad))] rfl (by rfl) ?_ (.old rfl (BLe.refl _) (.old rfl (BLe.rowW (Nat.le_refl _) (fun z hz => ?_)) .nil))
    · ((repeat' first | exact TLes.nil | refine TLes.cons (TLe.eq rfl) ?_); skip)
    · match z, hz with
      | 0, _ => exact Wks.of rfl
  rintro i ⟨hi, hi8, hc⟩
  (repeat' first | refine Zac ?_ | (refine Zab tok (by rfl) ?_; conv => whnf) | refine Zai ?_ | (refine Zag ?_; conv => whnf) | (refine Za3 ?_; conv => whnf) | (refine Zah ?_; conv => whnf) | refine Zae rfl (fun hb => ?_) (fun hb => ?_))
  · refine ⟨_, rfl, Rel.bool ?_⟩
    symm; rw [decide_eq_false_iff_not]
    rintro (h | h)
    · simp_all
    · have := h.2.1; simp only [Zaa, kzz, kz11, kz12, maxL, Zad] at *; omega
  · have hlt : i < b.pad.catch_.length := by simp only [Zaa, kzz, kz11, kz12, maxL, Zad] at *; omega
    have hi7 : i < 8 := by simp only [Zaa, kzz, kz11, kz12, maxL, Zad] at *; omega
    refine Za1 (fun k : Nat => mkS [(2, .bp (2, 0, 0) 0), (4, .bool false), (5, .bp (5, 0, 0) 0), (6, iv i), (7, iv k)] [((2, 0, 0), Zam (Zbm f)), ((5, 0, 0), .row true 4 1 (fun _ => Zd8 b.pad))])
      (fun k => k ≤ i ∧ ∀ j, j < k → b.pad.catch_.getD j 0 ≠ b.pad.catch_.getD i 0) (fun k => i - k) 0 ⟨Nat.zero_le _, by simp⟩ ?_ ?_
    · refine Weak.list [((2, 0, 0), .old (2, 0, 0), Zam (Zbm f)), ((5, 0, 0), .old (5, 0, 0), .row true 4 1 (fun _ => Zd8 b.pad))] rfl (by rfl) ?_ (.old rfl (BLe.refl _) (.old rfl (BLe.refl _) .nil))
      ((repeat' first | exact TLes.nil | refine TLes.cons (TLe.eq rfl) ?_); skip)
    rintro k ⟨hk, hd⟩
    ((repeat' first | refine Zac ?_ | (refine Zab tok (by rfl) ?_; conv => whnf) | (refine Zat tok mix (by rfl) ?_; conv => whnf) | refine Zai ?_ | (refine Zag ?_; conv => whnf) | (refine Za3 ?_; conv => whnf) | (refine Zah ?_; conv => whnf) | refine Zae rfl (fun hb => ?_) (fun hb => ?_) | (refine @And.intro (Zaa _ _ _ _) _ ?_ ?_; rotate_left; (conv => whnf); rotate_right)); all_goals (try ((guard_target = Zaa _ _ _ _); refine Zaf ?_; (all_goals (try simp only [Zaa, kzz, kz11, kz12, maxL, Zad] at *)); all_goals omega)))
    · have hki : k < i := by simp only [Zaa, kzz, kz11, kz12, maxL, Zad] at *; omega
      refine ⟨_, rfl, Rel.bool ?_⟩
      symm; rw [decide_eq_false_iff_not]
      have he : b.pad.catch_.getD k 0 = b.pad.catch_.getD i 0 := by simpa using hb
      rintro (h | h)
      · simp_all
      · exact not_nodup hlt hki he h.2.2.1
    · have hki : k < i := by simp only [Zaa, kzz, kz11, kz12, maxL, Zad] at *; omega
      refine ⟨k + 1, ⟨hki, fun j hj => ?_⟩, by omega, ?_⟩
      · by_cases e : j = k
        · subst e; simpa using hb
        · exact hd j (by omega)
      refine Weak.list [((2, 0, 0), .old (2, 0, 0), Zam (Zbm f)), ((5, 0, 0), .old (5, 0, 0), .row true 4 1 (fun _ => Zd8 b.pad))] rfl (by rfl) ?_ (.old rfl (BLe.refl _) (.old rfl (BLe.refl _) .nil))
      ((repeat' first | exact TLes.nil | refine TLes.cons (TLe.eq rfl) ?_ | refine TLes.cons (TLe.int ?_) ?_); (all_goals first | ((try (simp only [Zaa, kzz, kz11, kz12, maxL, Zad] at *)); exact Zal (by omega) (by omega)) | skip))
    · have hki : k = i := by simp only [Zaa, kzz, kz11, kz12, maxL, Zad] at *; omega
      refine ⟨i + 1, ⟨hlt, hi7, fun j hj => ?_⟩, by omega, ?_⟩
      · by_cases e : j = i
        · subst e; intro k' hk'; exact hd k' (by omega)
        · exact hc j (by omega)
      refine Weak.list [((2, 0, 0), .old (2, 0, 0), Zam (Zbm f)), ((5, 0, 0), .old (5, 0, 0), .row true 4 1 (fun _ => Zd8 b.pad))] rfl (by rfl) ?_ (.old rfl (BLe.refl _) (.old rfl (BLe.refl _) .nil))
      ((repeat' first | exact TLes.nil | refine TLes.cons (TLe.eq rfl) ?_ | refine TLes.cons (TLe.int ?_) ?_); (all_goals first | ((try (simp only [Zaa, kzz, kz11, kz12, maxL, Zad] at *)); exact Zal (by omega) (by omega)) | skip))
  · have hil : i = b.pad.catch_.length := by simp only [Zaa, kzz, kz11, kz12, maxL, Zad] at *; omega
    refine .inl ⟨_, _, _, uG (QC.fc (Zd0 b.pad.dst f.regs) rfl), ?_⟩
    conv => whnf
    (repeat' (refine Zah ?_; conv => whnf))
    refine ⟨_, rfl, Rel.bool ?_⟩
    have hn : b.pad.catch_.Nodup := nodup_getD (fun i' h' k hk => hc i' (by omega) k hk)
    have h8 : b.pad.catch_.length ≤ 8 := by omega
    rw [Bool.eq_iff_iff]
    rename_i hland
    simp [PadP, hland, hn, h8]
    intro _
    cases b.pad.catch_ <;> simp [or_assoc]
def blkB (m : Zaj) (f : Func) (b : Zex) : Bool := decide (b.ins.length ≤ 64 ∧ PadP f b ∧ EndP m f b.fin) && b.ins.all fun x => decide (InsP m f x)
def FunP (f : Func) : Prop := 0 ≤ f.params ∧ f.params ≤ 8 ∧ f.params ≤ f.regs ∧ f.regs ≤ 256 ∧ 1 ≤ f.blocks.length ∧ f.blocks.length ≤ 64 ∧ (f.blocks.getD 0 default).landing = false
instance (f : Func) : Decidable (FunP f) := by unfold FunP; infer_instance
def Ze8 (m : Zaj) (f : Func) : Bool := decide (FunP f) && f.blocks.all (blkB m f)
theorem c_Func (m : Zaj) (f : Func) : FC Tryz.prog 55 [.agg (Zav m), .agg (Zbm f)] (.bool (Ze8 m f)) := by
  refine Zao tok Tryz.func55 rfl (by decide +kernel) (Nat.le_of_ble_eq_true rfl) ?_
  refine Zaw 1 (fun hl => ?_)
  have hl0 : f.blocks.length ≤ maxL := hl.2.2.1.1
  ((repeat' first | refine Zac ?_ | (refine Zab tok (by rfl) ?_; conv => whnf) | refine Zai ?_ | (refine Zag ?_; conv => whnf) | (refine Zah ?_; conv => whnf) | refine Zae rfl (fun hb => ?_) (fun hb => ?_) | (refine @And.intro (Zaa _ _ _ _) _ ?_ ?_; rotate_left; (conv => whnf); rotate_right)); all_goals (try ((guard_target = Zaa _ _ _ _); ((refine Za8 ?_; intro hgd; (conv at hgd => whnf))); (all_goals (try simp only [Zaa, kzz, kz11, kz12, maxL, Zad] at *)); all_goals omega)))
  · refine ⟨_, rfl, Rel.bool ?_⟩
    rw [show Int.toNat 0 = 0 from rfl] at hb
    unfold Ze8
    have hF : decide (FunP f) = false := by
      rw [decide_eq_false_iff_not]; intro h; unfold FunP at h
      rw [h.2.2.2.2.2.2] at hb; simp [-List.length_eq_zero_iff] at hb; omega
    rw [hF]; rfl
  have hF : FunP f := by
    rw [show Int.toNat 0 = 0 from rfl] at hb
    unfold FunP
    cases hland : (f.blocks.getD 0 default).landing with
    | true => rw [hland] at hb; simp at hb
    | false => rw [hland] at hb; simp [-List.length_eq_zero_iff] at hb; refine ⟨?_, ?_, ?_, ?_, ?_, ?_, rfl⟩ <;> omega
  clear hb
  refine Za1 (fun i : Nat => mkS [(2, .bp (2, 0, 0) 0), (3, .bp (3, 0, 0) 0), (4, .bool false), (5, iv i)] [((2, 0, 0), Zam (Zav m)), ((3, 0, 0), Zam (Zbm f))])
    (fun i => i ≤ f.blocks.length ∧ ∀ j, j < i → blkB m f (f.blocks.getD j default) = true) (fun i => f.blocks.length - i) 0 ⟨Nat.zero_le _, by simp⟩ ?_ ?_
  · refine Weak.list [((2, 0, 0), .old (2, 0, 0), Zam (Zav m)), ((3, 0, 0), .old (3, 0, 0), Zam (Zbm f))] rfl (by rfl) ?_ (.old rfl (BLe.refl _) (.old rfl (BLe.refl _) .nil))
    ((repeat' first | exact TLes.nil | refine TLes.cons (TLe.eq rfl) ?_); skip)
  rintro i ⟨hi, hc⟩
  ((repeat' ((fail_if_success (show AWp _ _ _ (Code.region 7 _ _) _ _)); first | refine Zac ?_ | (refine Zab tok (by rfl) ?_; conv => whnf) | refine Zai ?_ | (refine Zag ?_; conv => whnf) | (refine Za3 ?_; conv => whnf) | (refine Zah ?_; conv => whnf) | refine Zae rfl (fun hb => ?_) (fun hb => ?_) | (refine @And.intro (Zaa _ _ _ _) _ ?_ ?_; rotate_left; (conv => whnf); rotate_right))); all_goals (try ((guard_target = Zaa _ _ _ _); refine Zaf ?_; (all_goals (try simp only [Zaa, kzz, kz11, kz12, maxL, Zad] at *)); all_goals omega)))
  · have hlt : i < f.blocks.length := by simp only [Zaa, kzz, kz11, kz12, maxL, Zad] at *; omega
    have hget : f.blocks.getD (i : Int).toNat default = f.blocks.getD i default := by simp
    generalize hbk : f.blocks.getD i default = b at hget
    refine Zau (Weak.list (tl := [(2, .bp (2, 0, 0) 0), (3, .bp (3, 0, 0) 0), (4, .bool false), (5, iv i), (6, .bp (6, 0, 0) 0)]) [((2, 0, 0), .old (2, 0, 0), Zam (Zav m)), ((3, 0, 0), .old (3, 0, 0), Zam (Zbm f)), ((6, 0, 0), .old (6, 0, 0), .row true 14 1 (fun _ => Zbi b))] rfl (by rfl) ?_ (.old rfl (BLe.refl _) (.old rfl (BLe.refl _) (.old rfl (BLe.rowW (Nat.le_refl _) (fun z hz => ?_)) .nil)))) ?_
    · ((repeat' first | exact TLes.nil | refine TLes.cons (TLe.eq rfl) ?_); skip)
    · match z, hz with
      | 0, _ => rw [← hget]; exact Wks.of rfl
    (repeat' (refine Zab tok (by rfl) ?_; conv => whnf))
    refine .inl ⟨_, _, _, uG (QC.fc (c_pad f b) rfl), ?_⟩
    conv => whnf
    skip
    refine .inl ⟨_, _, _, uG (QC.fc (c_end m f b.fin) rfl), ?_⟩
    conv => whnf
    (repeat' first | refine Zac ?_ | (refine Zab tok (by rfl) ?_; conv => whnf) | refine Zai ?_ | (refine Zag ?_; conv => whnf) | (refine Zah ?_; conv => whnf) | refine Zae rfl (fun hb => ?_) (fun hb => ?_))
    · refine ⟨_, rfl, Rel.bool ?_⟩
      unfold Ze8
      rw [all_no default hlt (p := blkB m f)]
      · simp
      · rw [hbk]; unfold blkB
        have : ¬ (b.ins.length ≤ 64 ∧ PadP f b ∧ EndP m f b.fin) := by
          rintro ⟨h1, h2, h3⟩
          simp [h2, h3] at hb; omega
        rw [decide_eq_false this]; rfl
    have hB : b.ins.length ≤ 64 ∧ PadP f b ∧ EndP m f b.fin := by
      simp at hb; exact ⟨by omega, hb.1.2, hb.2⟩
    clear hb
    refine Za1 (fun k : Nat => mkS [(2, .bp (2, 0, 0) 0), (3, .bp (3, 0, 0) 0), (4, .bool false), (5, iv i), (6, .bp (6, 0, 0) 0), (7, iv k)] [((2, 0, 0), Zam (Zav m)), ((3, 0, 0), Zam (Zbm f)), ((6, 0, 0), .row true 14 1 (fun _ => Zbi b))])
      (fun k => k ≤ b.ins.length ∧ ∀ j, j < k → decide (InsP m f (b.ins.getD j default)) = true) (fun k => b.ins.length - k) 0 ⟨Nat.zero_le _, by simp⟩ ?_ ?_
    · refine Weak.list [((2, 0, 0), .old (2, 0, 0), Zam (Zav m)), ((3, 0, 0), .old (3, 0, 0), Zam (Zbm f)), ((6, 0, 0), .old (6, 0, 0), .row true 14 1 (fun _ => Zbi b))] rfl (by rfl) ?_ (.old rfl (BLe.refl _) (.old rfl (BLe.refl _) (.old rfl (BLe.refl _) .nil)))
      ((repeat' first | exact TLes.nil | refine TLes.cons (TLe.eq rfl) ?_); skip)
    rintro k ⟨hk, hd⟩
    ((repeat' first | refine Zac ?_ | (refine Zab tok (by rfl) ?_; conv => whnf) | (refine Zat tok mix (by rfl) ?_; conv => whnf) | refine Zai ?_ | (refine Zag ?_; conv => whnf) | (refine Za3 ?_; conv => whnf) | refine Zae rfl (fun hb => ?_) (fun hb => ?_) | (refine @And.intro (Zaa _ _ _ _) _ ?_ ?_; rotate_left; (conv => whnf); rotate_right)); all_goals (try ((guard_target = Zaa _ _ _ _); refine Zaf ?_; (all_goals (try simp only [Zaa, kzz, kz11, kz12, maxL, Zad] at *)); all_goals omega)))
    · have hkl : k < b.ins.length := by simp only [Zaa, kzz, kz11, kz12, maxL, Zad] at *; omega
      refine .inl ⟨_, _, _, uG (QC.fc (c_ins m f (b.ins.getD (k : Int).toNat default)) rfl), ?_⟩
      conv => whnf
      (repeat' first | refine Zac ?_ | (refine Zab tok (by rfl) ?_; conv => whnf) | (refine Zag ?_; conv => whnf) | (refine Zah ?_; conv => whnf) | refine Zae rfl (fun hb => ?_) (fun hb => ?_))
      · refine ⟨_, rfl, Rel.bool ?_⟩
        unfold Ze8
        rw [all_no default hlt (p := blkB m f)]
        · simp
        · rw [hbk]; unfold blkB
          rw [all_no default hkl (p := fun x => decide (InsP m f x)) (by simpa using hb)]
          simp
      · refine ⟨k + 1, ⟨hkl, fun j hj => ?_⟩, by omega, ?_⟩
        · by_cases e : j = k
          · subst e; simpa using hb
          · exact hd j (by omega)
        refine Weak.list [((2, 0, 0), .old (2, 0, 0), Zam (Zav m)), ((3, 0, 0), .old (3, 0, 0), Zam (Zbm f)), ((6, 0, 0), .old (6, 0, 0), .row true 14 1 (fun _ => Zbi b))] rfl (by rfl) ?_ (.old rfl (BLe.refl _) (.old rfl (BLe.refl _) (.old rfl (BLe.refl _) .nil)))
        ((repeat' first | exact TLes.nil | refine TLes.cons (TLe.eq rfl) ?_ | refine TLes.cons (TLe.int ?_) ?_); (all_goals first | ((try (simp only [Zaa, kzz, kz11, kz12, maxL, Zad] at *)); exact Zal (by omega) (by omega)) | skip))
    · have hkl : k = b.ins.length := by simp only [Zaa, kzz, kz11, kz12, maxL, Zad] at *; omega
      refine ⟨i + 1, ⟨hlt, fun j hj => ?_⟩, by omega, ?_⟩
      · by_cases e : j = i
        · subst e; rw [hbk]; unfold blkB
          rw [decide_eq_true hB, all_yes default (p := fun x => decide (InsP m f x)) (fun j hj => hd j (by omega))]; rfl
        · exact hc j (by omega)
      refine Weak.list [((2, 0, 0), .old (2, 0, 0), Zam (Zav m)), ((3, 0, 0), .old (3, 0, 0), Zam (Zbm f))] rfl (by rfl) ?_ (.old rfl (BLe.refl _) (.old rfl (BLe.refl _) .nil))
      ((repeat' first | exact TLes.nil | refine TLes.cons (TLe.eq rfl) ?_ | refine TLes.cons (TLe.int ?_) ?_); (all_goals first | ((try (simp only [Zaa, kzz, kz11, kz12, maxL, Zad] at *)); exact Zal (by omega) (by omega)) | skip))
  · refine ⟨_, rfl, Rel.bool ?_⟩
    unfold Ze8
    rw [decide_eq_true hF, all_yes default (fun j hj => hc j (by simp only [Zaa, kzz, kz11, kz12, maxL, Zad] at *; omega))]; rfl
def Zbg (m : Zaj) : Bool := decide (1 ≤ m.funcs.length ∧ m.funcs.length ≤ 16 ∧ (m.funcs.getD 0 default).params = 0) && m.funcs.all (Ze8 m)
theorem c_Right (m : Zaj) : FC Tryz.prog 17 [.agg (Zav m)] (.bool (Zbg m)) := by
  refine Zao tok Tryz.func17 rfl (by decide +kernel) (Nat.le_of_ble_eq_true rfl) ?_
  refine Zaw 0 (fun hl => ?_)
  have hl0 : m.funcs.length ≤ maxL := hl.1.1
  ((repeat' first | refine Zac ?_ | (refine Zab tok (by rfl) ?_; conv => whnf) | refine Zai ?_ | (refine Zag ?_; conv => whnf) | (refine Zah ?_; conv => whnf) | refine Zae rfl (fun hb => ?_) (fun hb => ?_) | (refine @And.intro (Zaa _ _ _ _) _ ?_ ?_; rotate_left; (conv => whnf); rotate_right)); all_goals (try ((guard_target = Zaa _ _ _ _); ((refine Za8 ?_; intro hgd; (conv at hgd => whnf))); (all_goals (try simp only [Zaa, kzz, kz11, kz12, maxL, Zad] at *)); all_goals omega)))
  · refine ⟨_, rfl, Rel.bool ?_⟩
    rw [show Int.toNat 0 = 0 from rfl] at hb
    unfold Zbg
    rw [decide_eq_false]
    · rfl
    · rintro ⟨h1, h2, h3⟩
      rw [h3] at hb; simp [-List.length_eq_zero_iff] at hb; omega
  have hF : 1 ≤ m.funcs.length ∧ m.funcs.length ≤ 16 ∧ (m.funcs.getD 0 default).params = 0 := by
    rw [show Int.toNat 0 = 0 from rfl] at hb
    simp only [Bool.cond_true_left, Bool.or_eq_false_iff] at hb
    refine ⟨?_, ?_, by simpa using hb.2⟩ <;> simp only [Zaa, kzz, kz11, kz12, maxL, Zad] at * <;> omega
  clear hb
  refine Za1 (fun i : Nat => mkS [(1, .bp (1, 0, 0) 0), (2, .bool false), (3, iv i)] [((1, 0, 0), Zam (Zav m))])
    (fun i => i ≤ m.funcs.length ∧ ∀ j, j < i → Ze8 m (m.funcs.getD j default) = true) (fun i => m.funcs.length - i) 0 ⟨Nat.zero_le _, by simp⟩ ?_ ?_
  · refine Weak.list [((1, 0, 0), .old (1, 0, 0), Zam (Zav m))] rfl (by rfl) ?_ (.old rfl (BLe.refl _) .nil)
    ((repeat' first | exact TLes.nil | refine TLes.cons (TLe.eq rfl) ?_); skip)
  rintro i ⟨hi, hc⟩
  ((repeat' first | refine Zac ?_ | (refine Zab tok (by rfl) ?_; conv => whnf) | (refine Zat tok mix (by rfl) ?_; conv => whnf) | refine Zai ?_ | (refine Zag ?_; conv => whnf) | (refine Za3 ?_; conv => whnf) | (refine Zah ?_; conv => whnf) | refine Zae rfl (fun hb => ?_) (fun hb => ?_) | (refine @And.intro (Zaa _ _ _ _) _ ?_ ?_; rotate_left; (conv => whnf); rotate_right)); all_goals (try ((guard_target = Zaa _ _ _ _); refine Zaf ?_; (all_goals (try simp only [Zaa, kzz, kz11, kz12, maxL, Zad] at *)); all_goals omega)))
  · have hlt : i < m.funcs.length := by simp only [Zaa, kzz, kz11, kz12, maxL, Zad] at *; omega
    refine .inl ⟨_, _, _, uG (QC.fc (c_Func m (m.funcs.getD (i : Int).toNat default)) rfl), ?_⟩
    conv => whnf
    (repeat' first | refine Zac ?_ | (refine Zab tok (by rfl) ?_; conv => whnf) | (refine Zag ?_; conv => whnf) | (refine Zah ?_; conv => whnf) | refine Zae rfl (fun hb => ?_) (fun hb => ?_))
    · refine ⟨_, rfl, Rel.bool ?_⟩
      unfold Zbg
      rw [all_no default hlt (p := Ze8 m) (by simpa using hb)]
      simp
    · refine ⟨i + 1, ⟨hlt, fun j hj => ?_⟩, by omega, ?_⟩
      · by_cases e : j = i
        · subst e; simpa using hb
        · exact hc j (by omega)
      refine Weak.list [((1, 0, 0), .old (1, 0, 0), Zam (Zav m))] rfl (by rfl) ?_ (.old rfl (BLe.refl _) .nil)
      ((repeat' first | exact TLes.nil | refine TLes.cons (TLe.eq rfl) ?_ | refine TLes.cons (TLe.int ?_) ?_); (all_goals first | ((try (simp only [Zaa, kzz, kz11, kz12, maxL, Zad] at *)); exact Zal (by omega) (by omega)) | skip))
  · refine ⟨_, rfl, Rel.bool ?_⟩
    unfold Zbg
    rw [decide_eq_true hF, all_yes default (fun j hj => hc j (by simp only [Zaa, kzz, kz11, kz12, maxL, Zad] at *; omega))]; rfl
end Go.Proofs.YtoelbgjpmpoolaaGreat
namespace Go.Proofs.YtoelbgjpmpoolaaGreat
open Go Dv
set_option maxRecDepth 10000
set_option linter.unusedSimpArgs false
def blkS (b : Zex) : Bool := decide (b.ins.length ≤ 70 ∧ b.pad.catch_.length ≤ 20 ∧ b.fin.args.length ≤ 20) && b.ins.all fun x => decide (x.args.length ≤ 20)
def funS (f : Func) : Bool := decide (f.blocks.length ≤ 70) && f.blocks.all blkS
def many (f : Func) : Nat := (f.blocks.map fun b => b.ins.length).sum
def manyTo (f : Func) (k : Nat) : Nat := ((f.blocks.take k).map fun b => b.ins.length).sum
def totTo (m : Zaj) (i : Nat) : Nat := ((m.funcs.take i).map many).sum
def shortB (m : Zaj) : Bool := decide (m.funcs.length ≤ 20) && m.funcs.all funS && decide ((m.funcs.map many).sum ≤ 2000)
theorem manyTo_succ {f : Func} {k : Nat} (h : k < f.blocks.length) : manyTo f (k + 1) = manyTo f k + (f.blocks.getD k default).ins.length := by
  unfold manyTo; rw [take_succ_getD default h]; simp
theorem totTo_succ {m : Zaj} {i : Nat} (h : i < m.funcs.length) : totTo m (i + 1) = totTo m i + many (m.funcs.getD i default) := by
  unfold totTo; rw [take_succ_getD default h]; simp
theorem manyTo_all (f : Func) : manyTo f f.blocks.length = many f := by unfold manyTo many; rw [List.take_length]
theorem c_Short (m : Zaj) : FC Tryz.prog 48 [.agg (Zav m)] (.bool (shortB m)) := by
  refine Zao tok Tryz.func48 rfl (by decide +kernel) (Nat.le_of_ble_eq_true rfl) ?_
  refine Zaw 0 (fun hl => ?_)
  have hl0 : m.funcs.length ≤ maxL := hl.1.1
  (repeat' first | refine Zac ?_ | (refine Zab tok (by rfl) ?_; conv => whnf) | refine Zai ?_ | (refine Zag ?_; conv => whnf) | (refine Zah ?_; conv => whnf) | refine Zae rfl (fun hb => ?_) (fun hb => ?_))
  · refine ⟨_, rfl, Rel.bool ?_⟩
    unfold shortB
    rw [decide_eq_false (by simp only [Zaa, kzz, kz11, kz12, maxL, Zad] at *; omega)]; simp
  have h20 : m.funcs.length ≤ 20 := by simp only [Zaa, kzz, kz11, kz12, maxL, Zad] at *; omega
  clear hb
  refine Za1 (fun i : Nat => mkS [(1, .bp (1, 0, 0) 0), (2, .bool false), (3, iv (totTo m i)), (4, iv i)] [((1, 0, 0), Zam (Zav m))])
    (fun i => i ≤ m.funcs.length ∧ totTo m i ≤ i * 4900 ∧ ∀ j, j < i → funS (m.funcs.getD j default) = true) (fun i => m.funcs.length - i) 0 ⟨Nat.zero_le _, by simp [totTo], by simp⟩ ?_ ?_
  · refine Weak.list [((1, 0, 0), .old (1, 0, 0), Zam (Zav m))] rfl (by rfl) ?_ (.old rfl (BLe.refl _) .nil)
    ((repeat' first | exact TLes.nil | refine TLes.cons (TLe.eq rfl) ?_); skip)
  rintro i ⟨hi, hn, hc⟩
  ((repeat' first | refine Zac ?_ | (refine Zab tok (by rfl) ?_; conv => whnf) | refine Zai ?_ | (refine Zag ?_; conv => whnf) | (refine Za3 ?_; conv => whnf) | (refine Zah ?_; conv => whnf) | refine Zae rfl (fun hb => ?_) (fun hb => ?_) | (refine @And.intro (Zaa _ _ _ _) _ ?_ ?_; rotate_left; (conv => whnf); rotate_right)); all_goals (try ((guard_target = Zaa _ _ _ _); refine Zaf ?_; (all_goals (try simp only [Zaa, kzz, kz11, kz12, maxL, Zad] at *)); all_goals omega)))
  · have hlt : i < m.funcs.length := by simp only [Zaa, kzz, kz11, kz12, maxL, Zad] at *; omega
    refine ⟨_, rfl, Rel.bool ?_⟩
    unfold shortB
    rw [all_no default hlt (p := funS)]
    · simp
    · unfold funS; rw [decide_eq_false]; rfl
      simp at hb; simp; omega
  · have hlt : i < m.funcs.length := by simp only [Zaa, kzz, kz11, kz12, maxL, Zad] at *; omega
    have hget : m.funcs.getD (i : Int).toNat default = m.funcs.getD i default := by simp
    rw [hget] at hb
    generalize hf : m.funcs.getD i default = f at hget hb
    have hf70 : f.blocks.length ≤ 70 := by simp only [Zaa, kzz, kz11, kz12, maxL, Zad] at *; omega
    clear hb
    refine Za1 (fun k : Nat => mkS [(1, .bp (1, 0, 0) 0), (2, .bool false), (3, iv ((totTo m i + manyTo f k : Nat) : Int)), (4, iv i), (5, iv k)] [((1, 0, 0), Zam (Zav m))])
      (fun k => k ≤ f.blocks.length ∧ manyTo f k ≤ k * 70 ∧ ∀ j, j < k → blkS (f.blocks.getD j default) = true) (fun k => f.blocks.length - k) 0 ⟨Nat.zero_le _, by simp [manyTo], by simp⟩ ?_ ?_
    · refine Weak.list [((1, 0, 0), .old (1, 0, 0), Zam (Zav m))] rfl (by rfl) ?_ (.old rfl (BLe.refl _) .nil)
      ((repeat' first | exact TLes.nil | refine TLes.cons (TLe.eq rfl) ?_); skip)
      all_goals simp [manyTo]
    rintro k ⟨hk, hs, hd⟩
    ((repeat' ((fail_if_success (show AWp _ _ _ (Code.region 13 _ _) _ _)); first | refine Zac ?_ | (refine Zab tok (by rfl) ?_; conv => whnf) | refine Zai ?_ | (refine Zag ?_; conv => whnf) | (refine Za3 ?_; conv => whnf) | refine Zae rfl (fun hb => ?_) (fun hb => ?_) | (refine @And.intro (Zaa _ _ _ _) _ ?_ ?_; rotate_left; (conv => whnf); rotate_right))); all_goals (try ((guard_target = Zaa _ _ _ _); refine Zaf ?_; (all_goals (try simp only [Zaa, kzz, kz11, kz12, maxL, Zad] at *)); all_goals omega)))
    · rw [hget] at hb
      have hkl : k < f.blocks.length := by simp only [Zaa, kzz, kz11, kz12, maxL, Zad] at *; omega
      have hgb : f.blocks.getD (k : Int).toNat default = f.blocks.getD k default := by simp
      generalize hbk : f.blocks.getD k default = b at hgb
      refine Zau (Weak.list (tl := [(1, .bp (1, 0, 0) 0), (2, .bool false), (3, iv ((totTo m i + manyTo f k : Nat) : Int)), (4, iv i), (5, iv k), (6, .bp (6, 0, 0) 0)]) [((1, 0, 0), .old (1, 0, 0), Zam (Zav m)), ((6, 0, 0), .old (6, 0, 0), .row true 14 1 (fun _ => Zbi b))] rfl (by rfl) ?_ (.old rfl (BLe.refl _) (.old rfl (BLe.rowW (Nat.le_refl _) (fun z hz => ?_)) .nil))) ?_
      · ((repeat' first | exact TLes.nil | refine TLes.cons (TLe.eq rfl) ?_); skip)
      · match z, hz with
        | 0, _ => rw [← hgb, ← hget]; exact Wks.of rfl
      have bad : blkS b = false → shortB m = false := fun h => by
        unfold shortB
        rw [all_no default hlt (p := funS)]
        · simp
        · rw [hf]; unfold funS; rw [all_no default hkl (p := blkS) (by rw [hbk]; exact h)]; simp
      clear hb
      (repeat' first | refine Zac ?_ | (refine Zab tok (by rfl) ?_; conv => whnf) | refine Zai ?_ | (refine Zag ?_; conv => whnf) | (refine Zah ?_; conv => whnf) | refine Zae rfl (fun hb => ?_) (fun hb => ?_))
      · refine ⟨_, rfl, Rel.bool (bad ?_).symm⟩
        unfold blkS; rw [decide_eq_false]; rfl
        simp at hb; omega
      have hB : b.ins.length ≤ 70 ∧ b.pad.catch_.length ≤ 20 ∧ b.fin.args.length ≤ 20 := by simp at hb; omega
      clear hb
      have hsucc := manyTo_succ hkl
      rw [hbk] at hsucc
      have hi20 : i ≤ 20 := by omega
      have hk70 : k ≤ 70 := by omega
      have hbig : totTo m i + manyTo f k + b.ins.length ≤ 200000 := by omega
      refine Za1 (fun j : Nat => mkS [(1, .bp (1, 0, 0) 0), (2, .bool false), (3, iv ((totTo m i + manyTo f (k + 1) : Nat) : Int)), (4, iv i), (5, iv k), (6, .bp (6, 0, 0) 0), (7, iv j)] [((1, 0, 0), Zam (Zav m)), ((6, 0, 0), .row true 14 1 (fun _ => Zbi b))])
        (fun j => j ≤ b.ins.length ∧ ∀ q, q < j → decide ((b.ins.getD q default).args.length ≤ 20) = true) (fun j => b.ins.length - j) 0 ⟨Nat.zero_le _, by simp⟩ ?_ ?_
      · refine Weak.list [((1, 0, 0), .old (1, 0, 0), Zam (Zav m)), ((6, 0, 0), .old (6, 0, 0), .row true 14 1 (fun _ => Zbi b))] rfl (by rfl) ?_ (.old rfl (BLe.refl _) (.old rfl (BLe.refl _) .nil))
        ((repeat' first | exact TLes.nil | refine TLes.cons (TLe.eq rfl) ?_ | refine TLes.cons (TLe.int ?_) ?_); (all_goals first | ((try (simp only [Zaa, kzz, kz11, kz12, maxL, Zad] at *)); (simp (disch := omega) only [Zal]; omega)) | skip))
      rintro j ⟨hj, he⟩
      ((repeat' first | refine Zac ?_ | (refine Zab tok (by rfl) ?_; conv => whnf) | refine Zai ?_ | (refine Zag ?_; conv => whnf) | (refine Za3 ?_; conv => whnf) | (refine Zah ?_; conv => whnf) | refine Zae rfl (fun hb => ?_) (fun hb => ?_) | (refine @And.intro (Zaa _ _ _ _) _ ?_ ?_; rotate_left; (conv => whnf); rotate_right)); all_goals (try ((guard_target = Zaa _ _ _ _); refine Zaf ?_; (all_goals (try simp only [Zaa, kzz, kz11, kz12, maxL, Zad] at *)); all_goals omega)))
      · have hjl : j < b.ins.length := by simp only [Zaa, kzz, kz11, kz12, maxL, Zad] at *; omega
        refine ⟨_, rfl, Rel.bool (bad ?_).symm⟩
        unfold blkS; rw [all_no default hjl (p := fun (x : Ins) => decide (x.args.length ≤ 20)) (by simp at hb ⊢; omega)]; simp
      · have hjl : j < b.ins.length := by simp only [Zaa, kzz, kz11, kz12, maxL, Zad] at *; omega
        refine ⟨j + 1, ⟨hjl, fun q hq => ?_⟩, by omega, ?_⟩
        · by_cases e : q = j
          · subst e; simp at hb ⊢; omega
          · exact he q (by omega)
        refine Weak.list [((1, 0, 0), .old (1, 0, 0), Zam (Zav m)), ((6, 0, 0), .old (6, 0, 0), .row true 14 1 (fun _ => Zbi b))] rfl (by rfl) ?_ (.old rfl (BLe.refl _) (.old rfl (BLe.refl _) .nil))
        ((repeat' first | exact TLes.nil | refine TLes.cons (TLe.eq rfl) ?_ | refine TLes.cons (TLe.int ?_) ?_); (all_goals first | ((try (simp only [Zaa, kzz, kz11, kz12, maxL, Zad] at *)); exact Zal (by omega) (by omega)) | skip))
      · have hjl : j = b.ins.length := by simp only [Zaa, kzz, kz11, kz12, maxL, Zad] at *; omega
        refine ⟨k + 1, ⟨hkl, by omega, fun q hq => ?_⟩, by omega, ?_⟩
        · by_cases e : q = k
          · subst e; rw [hbk]; unfold blkS
            rw [decide_eq_true hB, all_yes default (p := fun (x : Ins) => decide (x.args.length ≤ 20)) (fun q hq => he q (by omega))]; rfl
          · exact hd q (by omega)
        refine Weak.list [((1, 0, 0), .old (1, 0, 0), Zam (Zav m))] rfl (by rfl) ?_ (.old rfl (BLe.refl _) .nil)
        ((repeat' first | exact TLes.nil | refine TLes.cons (TLe.eq rfl) ?_ | refine TLes.cons (TLe.int ?_) ?_); (all_goals first | ((try (simp only [Zaa, kzz, kz11, kz12, maxL, Zad] at *)); exact Zal (by omega) (by omega)) | skip))
    · rw [hget] at hb
      have hkl : k = f.blocks.length := by simp only [Zaa, kzz, kz11, kz12, maxL, Zad] at *; omega
      subst hkl
      have hsucc := totTo_succ hlt
      rw [hf] at hsucc
      rw [manyTo_all] at hs
      refine ⟨i + 1, ⟨hlt, by omega, fun q hq => ?_⟩, by omega, ?_⟩
      · by_cases e : q = i
        · subst e; rw [hf]; unfold funS
          rw [decide_eq_true hf70, all_yes default (fun q hq => hd q hq)]; rfl
        · exact hc q (by omega)
      refine Weak.list [((1, 0, 0), .old (1, 0, 0), Zam (Zav m))] rfl (by rfl) ?_ (.old rfl (BLe.refl _) .nil)
      ((repeat' first | exact TLes.nil | refine TLes.cons (TLe.eq rfl) ?_ | refine TLes.cons (TLe.int ?_) ?_); (all_goals first | ((try (simp only [Zaa, kzz, kz11, kz12, maxL, Zad] at *)); exact Zal (by omega) (by omega)) | skip))
      rw [manyTo_all, hsucc]
  · refine ⟨_, rfl, Rel.bool ?_⟩
    have hil : i = m.funcs.length := by simp only [Zaa, kzz, kz11, kz12, maxL, Zad] at *; omega
    unfold shortB
    rw [decide_eq_true h20, all_yes default (fun j hj => hc j (by omega))]
    rw [hil]; unfold totTo; rw [List.take_length]
    rw [Bool.eq_iff_iff]; simp
    omega
end Go.Proofs.YtoelbgjpmpoolaaGreat
namespace Go.Proofs.YtoelbgjpmpoolaaGreat
open Go Dv Go.Sort
set_option maxRecDepth 10000
set_option linter.unusedSimpArgs false
abbrev i0 : Dv.Id := (0, 7, 0)
abbrev i1 : Dv.Id := (1, 7, 0)
abbrev arow (n : Nat) (d : Array Int) : Zan := .row true 1 n (fun x => [.int .u16 d[x]!])
theorem c_isNaN (x : Int) : FC Tryz.prog 242 [.int .u16 x] (.bool false) := by
  refine Zao tok Tryz.func242 rfl (by decide +kernel) (Nat.le_of_ble_eq_true rfl) ?_
  (repeat' first | refine Zac ?_ | (refine Zab tok (by rfl) ?_; conv => whnf) | (refine Zah ?_; conv => whnf))
  exact ⟨_, rfl, Rel.bool (by simp)⟩
theorem c_Less (x y : Int) : FC Tryz.prog 235 [.int .u16 x, .int .u16 y] (.bool (ltInt x y)) := by
  refine Zao tok Tryz.func235 rfl (by decide +kernel) (Nat.le_of_ble_eq_true rfl) ?_
  (repeat' first | refine Zac ?_ | (refine Zab tok (by rfl) ?_; conv => whnf))
  refine .inl ⟨_, _, _, uG (QC.fc (c_isNaN x) rfl), ?_⟩
  conv => whnf
  skip
  refine .inl ⟨_, _, _, uG (QC.fc (c_isNaN y) rfl), ?_⟩
  conv => whnf
  (repeat' (refine Zah ?_; conv => whnf))
  exact ⟨_, rfl, Rel.bool (by simp [ltInt])⟩
theorem bang_set (d : Array Int) (i : Nat) (v : Int) (x : Nat) (hi : i < d.size) : (d.setIfInBounds i v)[x]! = if i = x then v else d[x]! := by
  by_cases h : i = x
  · subst h; rw [if_pos rfl, getElem!_pos (d.setIfInBounds i v) i (by simpa using hi)]; simp
  · rw [if_neg h]
    by_cases hx : x < d.size
    · rw [getElem!_pos (d.setIfInBounds i v) x (by simpa using hx), getElem!_pos d x hx]
      rw [Array.getElem_setIfInBounds (by simpa using hx)]; simp [h]
    · rw [getElem!_neg (d.setIfInBounds i v) x (by simpa using hx), getElem!_neg d x hx]
theorem Zb4 (d : Array Int) (i j : Nat) : (swp d i j).size = d.size := by simp [swp]
theorem Zda {d : Array Int} {i j i' j' : Nat} {u v : Int} (hi : i < d.size) (hj : j < d.size) (ei : i' = i) (ej : j' = j) (eu : u = d[j]!) (ev : v = d[i]!) (x : Nat) :
    updR (updR (fun x => [AV.int .u16 d[x]!]) i' [.int .u16 u]) j' [.int .u16 v] x = [.int .u16 (swp d i j)[x]!] := by
  subst ei; subst ej; subst eu; subst ev
  unfold swp
  rw [bang_set _ _ _ _ (by simpa using hj), bang_set _ _ _ _ hi]
  unfold updR
  cases h1 : Nat.beq j' x with
  | true => have := Nat.eq_of_beq_eq_true h1; rw [if_pos this]; rfl
  | false =>
    have n1 : j' ≠ x := fun e => by subst e; simp at h1
    rw [if_neg n1]
    cases h2 : Nat.beq i' x with
    | true => have := Nat.eq_of_beq_eq_true h2; rw [if_pos this]; rfl
    | false =>
      have n2 : i' ≠ x := fun e => by subst e; simp at h2
      rw [if_neg n2]; rfl
theorem c_insertion (n : Nat) (d0 : Array Int) (a b : Nat) (hn : d0.size = n) (ha : a ≤ b) (hb0 : b ≤ n) :
    HC Tryz.prog [i0] 229 [(i0, arow n d0)] [.rs i0 1 0 n, iv a, iv b] (.tup []) [(i0, arow n (insertionSort ltInt d0 a b))] := by
  refine Zcd tok Tryz.func229 rfl (by decide +kernel) (Nat.le_of_ble_eq_true rfl) ?_
  refine Zaw 0 (fun hl => ?_)
  have hl0 : n ≤ 4294967296 := hl
  (repeat' first | refine Zac ?_ | (refine Zab tok (by rfl) ?_; conv => whnf) | refine Zai ?_)
  refine Za1 (fun q : Nat × Array Int => mkS [(0, .rs i0 1 0 n), (1, iv a), (2, iv b), (6, iv q.1)] [(i0, arow n q.2)])
    (fun q => a + 1 ≤ q.1 ∧ q.1 ≤ b + 1 ∧ q.2.size = n ∧ insOuter ltInt a b q.1 q.2 = insertionSort ltInt d0 a b) (fun q => b + 1 - q.1) (a + 1, d0) ⟨Nat.le_refl _, by omega, hn, rfl⟩ ?_ ?_
  · refine Weak.list [(i0, .old i0, arow n d0)] rfl (by rfl) ?_ (.old rfl (BLe.refl _) .nil)
    ((repeat' first | exact TLes.nil | refine TLes.cons (TLe.eq rfl) ?_ | refine TLes.cons (TLe.int ?_) ?_); (all_goals first | ((try (simp only [Zaa, kzz, kz11, kz12, maxL, Zad] at *)); exact Zal (by omega) (by omega)) | skip))
  rintro ⟨i, d⟩ ⟨hi1, hi2, hd, hR⟩
  simp only at hi1 hi2 hd hR ⊢
  (repeat' first | refine Zac ?_ | (refine Zab tok (by rfl) ?_; conv => whnf) | refine Zai ?_ | (refine Zag ?_; conv => whnf) | (refine Za3 ?_; conv => whnf) | refine Zae rfl (fun hb => ?_) (fun hb => ?_))
  · have hib : i < b := by simp only [Zaa, kzz, kz11, kz12, maxL, Zad] at *; omega
    refine Za1 (fun q : Nat × Array Int => mkS [(0, .rs i0 1 0 n), (1, iv a), (2, iv b), (6, iv i), (7, iv q.1)] [(i0, arow n q.2)])
      (fun q => q.1 ≤ i ∧ a ≤ q.1 ∧ q.2.size = n ∧ insInner ltInt a q.1 q.2 = insInner ltInt a i d) (fun q => q.1) (i, d) ⟨Nat.le_refl _, by omega, hd, rfl⟩ ?_ ?_
    · refine Weak.list [(i0, .old i0, arow n d)] rfl (by rfl) ?_ (.old rfl (BLe.refl _) .nil)
      ((repeat' first | exact TLes.nil | refine TLes.cons (TLe.eq rfl) ?_); skip)
    rintro ⟨j, e⟩ ⟨hj1, hj2, he, hS⟩
    simp only at hj1 hj2 he hS ⊢
    ((repeat' first | refine Zac ?_ | (refine Zat tok mix (by rfl) ?_; conv => whnf) | (refine @And.intro (Zaa _ _ _ _) _ ?_ ?_; rotate_left; (conv => whnf); rotate_right)); all_goals (try ((guard_target = Zaa _ _ _ _); ((refine Za8 ?_; intro hgd; (conv at hgd => whnf))); (all_goals (try simp only [Zaa, kzz, kz11, kz12, maxL, Zad] at *)); (all_goals (try (simp (disch := omega) only [Zal]))); all_goals omega)))
    have hless : ∀ x y, x = e[j]! → y = e[j - 1]! → FC Tryz.prog 235 [.int .u16 x, .int .u16 y] (.bool (ltInt e[j]! e[j - 1]!)) := fun x y h1 h2 => by rw [h1, h2]; exact c_Less _ _
    have hix : ∀ k : Nat, e[0 + (k : Int).toNat]! = e[k]! := fun k => by rw [show 0 + (k : Int).toNat = k by simp]
    have hix1 : e[0 + (IntKind.i64.wrap ((j : Int) - 1)).toNat]! = e[j - 1]! := by rw [Zal (by omega) (by omega), show 0 + ((j : Int) - 1).toNat = j - 1 by omega]
    refine .inl ⟨_, _, _, uG (QC.fc (hless _ _ (hix j) hix1) rfl), ?_⟩
    conv => whnf
    ((repeat' first | refine Zac ?_ | (refine Zab tok (by rfl) ?_; conv => whnf) | (refine Zat tok mix (by rfl) ?_; conv => whnf) | refine Zai ?_ | (refine Zag ?_; conv => whnf) | (refine Za3 ?_; conv => whnf) | refine Zae rfl (fun hb => ?_) (fun hb => ?_) | (refine @And.intro (Zaa _ _ _ _) _ ?_ ?_; rotate_left; (conv => whnf); rotate_right)); all_goals (try ((guard_target = Zaa _ _ _ _); refine Zaf ?_; (all_goals (try simp only [Zaa, kzz, kz11, kz12, maxL, Zad] at *)); (all_goals (try (simp (disch := omega) only [Zal]))); all_goals omega)))
    · have hc : a < j ∧ ltInt e[j]! e[j - 1]! = true := by
        by_cases h1 : a < j
        · refine ⟨h1, ?_⟩
          rw [decide_eq_true (by omega)] at hb; exact hb
        · rw [decide_eq_false (by omega)] at hb; cases hb
      refine ⟨(j - 1, swp e j (j - 1)), ⟨by omega, by omega, by rw [Zb4]; exact he, ?_⟩, by omega, ?_⟩
      · rw [← hS]
        obtain ⟨j, rfl⟩ : ∃ k, j = k + 1 := ⟨j - 1, by omega⟩
        simp only [insInner]
        have h2 := hc.2
        simp only [Nat.add_sub_cancel] at h2 ⊢
        rw [if_pos]
        simp [h2]; omega
      refine Weak.list [(i0, .old i0, arow n (swp e j (j - 1)))] rfl (by rfl) ?_ (.old rfl (BLe.row rfl (fun x hx => ?_)) .nil)
      · ((repeat' first | exact TLes.nil | refine TLes.cons (TLe.eq rfl) ?_ | refine TLes.cons (TLe.int ?_) ?_); (all_goals first | ((try (simp only [Zaa, kzz, kz11, kz12, maxL, Zad] at *)); (simp (disch := omega) only [Zal]; omega)) | skip))
      · exact Zda (d := e) (i := j) (j := j - 1) (by omega) (by omega) (by simp) (by rw [Zal (by omega) (by omega)]; omega) hix1 (hix j) x
    · have hin : insInner ltInt a j e = e := by
        cases j with
        | zero => rfl
        | succ j =>
          simp only [insInner]
          rw [if_neg]
          intro h
          simp only [Bool.and_eq_true, decide_eq_true_eq] at h
          simp only [Nat.add_sub_cancel] at hb
          rw [h.2, decide_eq_true (by omega)] at hb
          cases hb
      refine ⟨(i + 1, e), ⟨by omega, by omega, he, ?_⟩, by omega, ?_⟩
      · rw [← hR]
        conv => rhs; unfold insOuter
        rw [if_pos hib, ← hS, hin]
      refine Weak.list [(i0, .old i0, arow n e)] rfl (by rfl) ?_ (.old rfl (BLe.refl _) .nil)
      ((repeat' first | exact TLes.nil | refine TLes.cons (TLe.eq rfl) ?_ | refine TLes.cons (TLe.int ?_) ?_); (all_goals first | ((try (simp only [Zaa, kzz, kz11, kz12, maxL, Zad] at *)); exact Zal (by omega) (by omega)) | skip))
  · have hib : b ≤ i := by simp only [Zaa, kzz, kz11, kz12, maxL, Zad] at *; omega
    have : insertionSort ltInt d0 a b = d := by rw [← hR]; unfold insOuter; rw [if_neg (by omega)]
    rw [this]
    exact ⟨_, [(i0, .old i0, arow n d)], rfl, rfl, rfl, rfl, .old rfl (BLe.refl _) .nil, .eq rfl⟩
end Go.Proofs.YtoelbgjpmpoolaaGreat
namespace Go.Proofs.YtoelbgjpmpoolaaGreat
open Go Dv
set_option maxRecDepth 10000
set_option linter.unusedSimpArgs false
def w16 (x : Int) : Int := IntKind.u16.wrap x
def doW (op a b : Int) : Int × Bool :=
  if op = 2 then (a, true) else if op = 3 then (w16 (a + b), true) else if op = 4 then (w16 (a - b), true) else if op = 5 then (w16 (a * b), true)
  else if op = 6 then (if b = 0 then (0, false) else (w16 (a.tdiv b), true)) else if op = 7 then (if a = b then 1 else 0, true) else if op = 8 then (if a < b then 1 else 0, true) else (0, false)
def twoO (op : Int) : Bool := bif decide (2 < op) then decide (op ≤ 8) else false
def turnsO (op : Int) : Bool := decide (op = 3 ∨ op = 5 ∨ op = 7)
theorem c_truth (b : Bool) : FC Tryz.prog 198 [.bool b] (.int .u16 (if b = true then 1 else 0)) := by
  refine Zao tok Tryz.func198 rfl (by decide +kernel) (Nat.le_of_ble_eq_true rfl) ?_
  (repeat' first | refine Zac ?_ | (refine Zab tok (by rfl) ?_; conv => whnf) | (refine Zag ?_; conv => whnf) | (refine Zah ?_; conv => whnf) | refine Zae rfl (fun hb => ?_) (fun hb => ?_))
  · exact ⟨_, rfl, Rel.int (by rw [if_pos hb])⟩
  · exact ⟨_, rfl, Rel.int (by rw [if_neg (by rw [hb]; simp)])⟩
theorem c_Two (op : Int) : FC Tryz.prog 166 [iv op] (.bool (twoO op)) := by
  refine Zao tok Tryz.func166 rfl (by decide +kernel) (Nat.le_of_ble_eq_true rfl) ?_
  (repeat' first | refine Zac ?_ | (refine Zab tok (by rfl) ?_; conv => whnf) | (refine Zah ?_; conv => whnf))
  exact ⟨_, rfl, Rel.imm rfl⟩
theorem c_Do (op a b : Int) : FC Tryz.prog 168 [iv op, .int .u16 a, .int .u16 b] (.tup [.int .u16 (doW op a b).1, .bool (doW op a b).2]) := by
  refine Zao tok Tryz.func168 rfl (by decide +kernel) (Nat.le_of_ble_eq_true rfl) ?_
  ((repeat' first | refine Zac ?_ | (refine Zab tok (by rfl) ?_; conv => whnf) | refine Zai ?_ | (refine Zag ?_; conv => whnf) | (refine Zah ?_; conv => whnf) | refine Zae rfl (fun hb => ?_) (fun hb => ?_) | (refine @And.intro (Zaa _ _ _ _) _ ?_ ?_; rotate_left; (conv => whnf); rotate_right)); all_goals (try ((guard_target = Zaa _ _ _ _); refine Zaf ?_; (all_goals (try simp only [Zaa, kzz, kz11, kz12, maxL, Zad] at *)); all_goals omega)))
  all_goals (try (refine .inl ⟨_, _, _, uG (QC.fc (c_truth _) rfl), ?_⟩; conv => whnf))
  (repeat' (refine Zah ?_; conv => whnf))
  all_goals refine ⟨_, rfl, Rel.tup (.cons (Rel.int ?_) (.cons (Rel.bool ?_) .nil))⟩
  all_goals simp only [Zaa, kzz, kz11, kz12, maxL, Zad] at *
  all_goals simp [doW, w16, *]
def noteW (m : List (List Int × Int)) (x : Ins) : List (List Int × Int) :=
  if x.op = 10 ∨ x.op = 12 then m else if x.op = 1 then mput m [x.dst] x.k else mdel m [x.dst]
end Go.Proofs.YtoelbgjpmpoolaaGreat
namespace Go.Proofs.YtoelbgjpmpoolaaGreat
open Go Dv
set_option maxRecDepth 10000
set_option linter.unusedSimpArgs false
structure Deed where
  op : Int
  a : Int
  b : Int
deriving DecidableEq, Inhabited
def Deed.l (d : Deed) : List Int := [d.op, d.a, d.b]
def ofD (x : Ins) : Deed := if turnsO x.op = true ∧ x.b < x.a then ⟨x.op, x.b, x.a⟩ else ⟨x.op, x.a, x.b⟩
abbrev κS : MK := ⟨true, 3, .i64, .i64⟩
def hit (p : Int) (q : List Int × Int) : Bool := decide (q.1.getD 1 0 = p) || decide (q.1.getD 2 0 = p) || decide (q.2 = p)
def Zdc (m : List (List Int × Int)) (p : Int) : List (List Int × Int) := m.filter fun q => !hit p q
theorem Zfu (k : List Int) : ∀ {m : List (List Int × Int)}, (m.map (·.1)).Nodup → mdel m k = m.filter fun q => !decide (q.1 = k)
  | [], _ => rfl
  | (k', v') :: r, h => by
      simp only [List.map_cons, List.nodup_cons] at h
      simp only [mdel]
      split
      · rename_i e; subst e
        rw [List.filter_cons_of_neg (by simp)]
        symm
        refine List.filter_eq_self.2 (fun q hq => ?_)
        simp only [Bool.not_eq_true', decide_eq_false_iff_not]
        intro e; exact h.1 (e ▸ List.mem_map.2 ⟨q, hq, rfl⟩)
      · rename_i e
        rw [List.filter_cons_of_pos (by simpa using e), Zfu k h.2]
structure FInv (m : List (List Int × Int)) (p : Int) (clock : Nat) (es : Array MapEntry) (seen : Array Nat) (m' : List (List Int × Int)) : Prop where
  ok : MOk κS m' es clock
  same : Zdc m' p = Zdc m p
  past : ∀ e ∈ es.toList, seen.contains e.born = true → ∀ k v, (k, v) ∈ m' → e.key = keyV κS k → hit p (k, v) = false
theorem FInv.done {m : List (List Int × Int)} {p : Int} {clock : Nat} {es : Array MapEntry} {seen : Array Nat} {m' : List (List Int × Int)} (h : FInv m p clock es seen m') (h0 : (leftOf es seen).size = 0) : MOk κS (Zdc m p) es clock := by
  rw [← h.same]
  have : Zdc m' p = m' := List.filter_eq_self.2 (fun q hq => by
    have h1 : (keyV κS q.1, Value.int .i64 q.2) ∈ m'.map (fun p => (keyV κS p.1, Value.int κS.vk p.2)) := List.mem_map.2 ⟨q, hq, rfl⟩
    rw [← h.ok.kv] at h1
    obtain ⟨e, he, h2⟩ := List.mem_map.1 h1
    have h3 := Prod.mk.inj h2
    rw [h.past e he (all_seen es seen h0 e he) q.1 q.2 hq h3.1]; rfl)
  rw [this]; exact h.ok
abbrev Mp := List (List Int × Int)
def sameHit (m : Mp) (x : Ins) : Bool := bif twoO x.op then (Zch m (ofD x).l).isSome else false
def sameY (m : Mp) (x : Ins) : Ins := if sameHit m x = true then ⟨2, x.dst, (Zch m (ofD x).l).getD 0, 0, 0, 0, []⟩ else x
def sameOk (m : Mp) (x : Ins) : Bool := twoO x.op && !(Zch m (ofD x).l).isSome
def sameM (m : Mp) (x : Ins) : Mp := if (sameY m x).op = 10 ∨ (sameY m x).op = 12 then m else
  if sameOk m x = true ∧ (sameY m x).dst ≠ (ofD x).a ∧ (sameY m x).dst ≠ (ofD x).b then mput (Zdc m (sameY m x).dst) (ofD x).l (sameY m x).dst else Zdc m (sameY m x).dst
def sameIns : Mp → List Ins → List Ins × Mp
  | m, [] => ([], m)
  | m, x :: r => (sameY m x :: (sameIns (sameM m x) r).1, (sameIns (sameM m x) r).2)
def sameAt (l : List Ins) (i : Nat) : List Ins := (sameIns [] (l.take i)).1 ++ l.drop i
end Go.Proofs.YtoelbgjpmpoolaaGreat
namespace Go.Proofs.YtoelbgjpmpoolaaGreat
open Go Dv
set_option linter.unusedSimpArgs false
def Zfq (x : Ins) (p : Int) : Prop := x.op ≠ 10 ∧ x.op ≠ 12 ∧ x.dst = p
instance (x : Ins) (p : Int) : Decidable (Zfq x p) := by unfold Zfq; infer_instance
def alikeP (x y : Ins) : Prop := x.op = y.op ∧ 3 ≤ x.op ∧ x.op ≤ 8 ∧ ((x.a = y.a ∧ x.b = y.b) ∨ ((x.op = 3 ∨ x.op = 5 ∨ x.op = 7) ∧ x.a = y.b ∧ x.b = y.a))
instance (x y : Ins) : Decidable (alikeP x y) := by unfold alikeP; infer_instance
def keptAt (l : List Ins) (i k : Nat) : Prop := ¬ Zfq (l.getD k default) (l.getD i default).a ∧ ¬ Zfq (l.getD k default) (l.getD i default).b ∧ (i < k → ¬ Zfq (l.getD k default) (l.getD i default).dst)
instance (l : List Ins) (i k : Nat) : Decidable (keptAt l i k) := by unfold keptAt; infer_instance
def keptP (l : List Ins) (i : Nat) : Prop := ∀ k, k < l.length → i ≤ k → keptAt l i k
instance (l : List Ins) (i : Nat) : Decidable (keptP l i) := by unfold keptP; infer_instance
theorem twoO_iff {op : Int} : twoO op = true ↔ 3 ≤ op ∧ op ≤ 8 := by
  unfold twoO; cases h : decide (2 < op) <;> simp at h ⊢ <;> omega
theorem hit_of {x : Ins} {p v : Int} : hit p ((ofD x).l, v) = true ↔ x.a = p ∨ x.b = p ∨ v = p := by
  unfold hit ofD Deed.l
  split <;> simp [or_assoc] <;> omega
theorem mlook_mem {m : Mp} {k : List Int} {v : Int} (h : Zch m k = some v) : (k, v) ∈ m := by
  induction m with
  | nil => cases h
  | cons q r ih =>
    obtain ⟨a, b⟩ := q
    simp only [Zch] at h
    split at h
    · rename_i e; subst e; cases h; simp
    · exact List.mem_cons_of_mem _ (ih h)
theorem mem_mlook {m : Mp} (hn : (m.map (·.1)).Nodup) {k : List Int} {v : Int} (h : (k, v) ∈ m) : Zch m k = some v := by
  induction m with
  | nil => cases h
  | cons q r ih =>
    obtain ⟨a, b⟩ := q
    simp only [List.map_cons, List.nodup_cons] at hn
    simp only [Zch]
    rcases List.mem_cons.1 h with e | e
    · cases e; simp
    · split
      · rename_i e2; subst e2; exact absurd (List.mem_map.2 ⟨_, e, rfl⟩) hn.1
      · exact ih hn.2 e
theorem mlook_forget {m : Mp} (hn : (m.map (·.1)).Nodup) {p : Int} {k : List Int} {v : Int} : Zch (Zdc m p) k = some v ↔ Zch m k = some v ∧ hit p (k, v) = false := by
  have hn2 : ((Zdc m p).map (·.1)).Nodup := by
    unfold Zdc
    exact (List.Sublist.map _ List.filter_sublist).nodup hn
  constructor
  · intro h
    have := mlook_mem h
    unfold Zdc at this
    rw [List.mem_filter] at this
    exact ⟨mem_mlook hn this.1, by simpa using this.2⟩
  · rintro ⟨h1, h2⟩
    refine mem_mlook hn2 ?_
    unfold Zdc
    rw [List.mem_filter]
    exact ⟨mlook_mem h1, by simp [h2]⟩
theorem mlook_mput {m : Mp} {k k' : List Int} {v : Int} : Zch (mput m k v) k' = if k = k' then some v else Zch m k' := by
  induction m with
  | nil => simp [mput, Zch]
  | cons q r ih =>
    obtain ⟨a, b⟩ := q
    simp only [mput]
    by_cases e : a = k
    · subst e
      simp only [if_true, Zch]
      by_cases e2 : a = k'
      · simp [e2]
      · simp [e2]
    · simp only [if_neg e, Zch]
      by_cases e2 : a = k'
      · subst e2; simp; exact fun h => absurd h.symm e
      · simp only [if_neg e2]; exact ih
theorem mem_mput {m : Mp} {k : List Int} {v : Int} {q : List Int × Int} (h : q ∈ mput m k v) : q = (k, v) ∨ q ∈ m := by
  induction m with
  | nil => simp [mput] at h; exact .inl h
  | cons p r ih =>
    obtain ⟨a, b⟩ := p
    simp only [mput] at h
    split at h
    · rcases List.mem_cons.1 h with h | h
      · exact .inl h
      · exact .inr (List.mem_cons_of_mem _ h)
    · rcases List.mem_cons.1 h with h | h
      · exact .inr (h ▸ List.mem_cons_self)
      · rcases ih h with h | h
        · exact .inl h
        · exact .inr (List.mem_cons_of_mem _ h)
theorem mput_keys {m : Mp} {k : List Int} {v : Int} (hn : (m.map (·.1)).Nodup) : ((mput m k v).map (·.1)).Nodup := by
  induction m with
  | nil => simp [mput]
  | cons q r ih =>
    obtain ⟨a, b⟩ := q
    simp only [List.map_cons, List.nodup_cons] at hn
    simp only [mput]
    by_cases e : a = k
    · subst e; simp only [if_true, List.map_cons, List.nodup_cons]; exact hn
    · simp only [if_neg e, List.map_cons, List.nodup_cons]
      refine ⟨fun h => ?_, ih hn.2⟩
      rw [List.mem_map] at h
      obtain ⟨⟨c, d⟩, h1, h2⟩ := h
      simp only at h2; subst h2
      rcases mem_mput h1 with h3 | h3
      · cases h3; exact e rfl
      · exact hn.1 (List.mem_map.2 ⟨_, h3, rfl⟩)
theorem Zc1 {l : List Ins} {y : Ins} {k : Nat} (h : k < l.length) : (l ++ [y]).getD k default = l.getD k default := by rw [getD_append, if_pos h]
theorem Zer {l : List Ins} {y : Ins} : (l ++ [y]).getD l.length default = y := by rw [getD_append, if_neg (Nat.lt_irrefl _), Nat.sub_self]; rfl
theorem kept_old {l : List Ins} {y : Ins} {i : Nat} (hi : i < l.length) : keptP (l ++ [y]) i ↔ keptP l i ∧ ¬ Zfq y (l.getD i default).a ∧ ¬ Zfq y (l.getD i default).b ∧ ¬ Zfq y (l.getD i default).dst := by
  constructor
  · intro h
    refine ⟨fun k hk hik => ?_, ?_⟩
    · have := h k (by simp; omega) hik
      unfold keptAt at this ⊢
      rw [Zc1 hk, Zc1 hi] at this; exact this
    · have := h l.length (by simp) (by omega)
      unfold keptAt at this
      rw [Zer, Zc1 hi] at this
      exact ⟨this.1, this.2.1, this.2.2 hi⟩
  · rintro ⟨h1, h2, h3, h4⟩ k hk hik
    unfold keptAt
    by_cases e : k < l.length
    · have := h1 k e hik
      unfold keptAt at this
      rw [Zc1 e, Zc1 hi]; exact this
    · have : k = l.length := by simp at hk; omega
      subst this
      rw [Zer, Zc1 hi]; exact ⟨h2, h3, fun _ => h4⟩
theorem kept_new {l : List Ins} {y : Ins} : keptP (l ++ [y]) l.length ↔ ¬ Zfq y y.a ∧ ¬ Zfq y y.b := by
  constructor
  · intro h
    have := h l.length (by simp) (Nat.le_refl _)
    unfold keptAt at this
    rw [Zer] at this; exact ⟨this.1, this.2.1⟩
  · rintro ⟨h1, h2⟩ k hk hik
    have : k = l.length := by simp at hk; omega
    subst this
    unfold keptAt
    rw [Zer]; exact ⟨h1, h2, fun h => absurd h (Nat.lt_irrefl _)⟩
structure PInv (l : List Ins) (m : Mp) : Prop where
  nd : (m.map (·.1)).Nodup
  fwd : ∀ key v, Zch m key = some v → ∃ k, k < l.length ∧ keptP l k ∧ twoO (l.getD k default).op = true ∧ (ofD (l.getD k default)).l = key ∧ (l.getD k default).dst = v
  bwd : ∀ k, k < l.length → keptP l k → twoO (l.getD k default).op = true → Zch m (ofD (l.getD k default)).l = some (l.getD k default).dst
theorem PInv.step {l : List Ins} {m : Mp} (h : PInv l m) (x : Ins) : PInv (l ++ [sameY m x]) (sameM m x) := by
  generalize hy : sameY m x = y
  have hset : ∀ p, Zfq y p ↔ ¬ (y.op = 10 ∨ y.op = 12) ∧ y.dst = p := fun p => by unfold Zfq; omega
  have htwo : twoO y.op = true → y = x ∧ twoO x.op = true ∧ Zch m (ofD x).l = none := fun ht => by
    unfold sameY at hy
    split at hy
    · subst hy; simp [twoO] at ht
    · rename_i hh
      subst hy
      refine ⟨rfl, ht, ?_⟩
      unfold sameHit at hh
      rw [ht] at hh
      cases hm : Zch m (ofD x).l with
      | none => rfl
      | some v => rw [hm] at hh; simp at hh
  unfold sameM
  rw [hy]
  by_cases h10 : y.op = 10 ∨ y.op = 12
  · rw [if_pos h10]
    have hno : ∀ p, ¬ Zfq y p := fun p hp => ((hset p).1 hp).1 h10
    refine ⟨h.nd, fun key v hv => ?_, fun k hk hkp ht => ?_⟩
    · obtain ⟨k, h1, h2, h3, h4, h5⟩ := h.fwd key v hv
      exact ⟨k, by simp; omega, (kept_old h1).2 ⟨h2, hno _, hno _, hno _⟩, by rw [Zc1 h1]; exact h3, by rw [Zc1 h1]; exact h4, by rw [Zc1 h1]; exact h5⟩
    · by_cases e : k < l.length
      · rw [Zc1 e] at ht ⊢
        exact h.bwd k e ((kept_old e).1 hkp).1 ht
      · have : k = l.length := by simp at hk; omega
        subst this
        rw [Zer, twoO_iff] at ht
        omega
  · rw [if_neg h10]
    have hset2 : ∀ p, Zfq y p ↔ y.dst = p := fun p => by rw [hset]; exact ⟨fun a => a.2, fun a => ⟨h10, a⟩⟩
    have hnf : ((Zdc m y.dst).map (·.1)).Nodup := by
      unfold Zdc; exact (List.Sublist.map _ List.filter_sublist).nodup h.nd
    have old1 : ∀ key v, Zch (Zdc m y.dst) key = some v → ∃ k, k < (l ++ [y]).length ∧ keptP (l ++ [y]) k ∧ twoO ((l ++ [y]).getD k default).op = true ∧ (ofD ((l ++ [y]).getD k default)).l = key ∧ ((l ++ [y]).getD k default).dst = v := fun key v hv => by
      obtain ⟨h0, hh⟩ := (mlook_forget h.nd).1 hv
      obtain ⟨k, h1, h2, h3, h4, h5⟩ := h.fwd key v h0
      have h6 : ¬ ((l.getD k default).a = y.dst ∨ (l.getD k default).b = y.dst ∨ v = y.dst) := fun e => by
        have := hit_of.2 e
        rw [h4, hh] at this; cases this
      exact ⟨k, by simp; omega, (kept_old h1).2 ⟨h2, fun e => h6 (.inl ((hset2 _).1 e).symm), fun e => h6 (.inr (.inl ((hset2 _).1 e).symm)), fun e => h6 (.inr (.inr (by rw [← h5]; exact ((hset2 _).1 e).symm)))⟩, by rw [Zc1 h1]; exact h3, by rw [Zc1 h1]; exact h4, by rw [Zc1 h1]; exact h5⟩
    have old2 : ∀ k, k < l.length → keptP (l ++ [y]) k → twoO (l.getD k default).op = true → Zch m (ofD (l.getD k default)).l = some (l.getD k default).dst ∧ Zch (Zdc m y.dst) (ofD (l.getD k default)).l = some (l.getD k default).dst := fun k e hkp ht => by
      obtain ⟨h1, h2, h3, h4⟩ := (kept_old e).1 hkp
      have h5 := h.bwd k e h1 ht
      refine ⟨h5, (mlook_forget h.nd).2 ⟨h5, ?_⟩⟩
      rw [Bool.eq_false_iff]
      intro hh
      rw [hset2] at h2 h3 h4
      rcases hit_of.1 hh with e1 | e1 | e1
      · exact h2 e1.symm
      · exact h3 e1.symm
      · exact h4 e1.symm
    by_cases hput : sameOk m x = true ∧ y.dst ≠ (ofD x).a ∧ y.dst ≠ (ofD x).b
    · rw [if_pos hput]
      obtain ⟨hok, hna, hnb⟩ := hput
      unfold sameOk at hok
      rw [Bool.and_eq_true] at hok
      have hnone : Zch m (ofD x).l = none := by
        cases hm : Zch m (ofD x).l with
        | none => rfl
        | some v => rw [hm] at hok; simp at hok
      have hyx : y = x := by
        unfold sameY sameHit at hy
        rw [hok.1, hnone] at hy; simpa using hy.symm
      subst hyx
      have hab : y.dst ≠ y.a ∧ y.dst ≠ y.b := by
        unfold ofD at hna hnb
        split at hna <;> simp_all
      refine ⟨mput_keys hnf, fun key v hv => ?_, fun k hk hkp ht => ?_⟩
      · rw [mlook_mput] at hv
        split at hv
        · rename_i e
          cases hv
          exact ⟨l.length, by simp, kept_new.2 ⟨fun e => hab.1 ((hset2 _).1 e), fun e => hab.2 ((hset2 _).1 e)⟩, by rw [Zer]; exact hok.1, by rw [Zer]; exact e, by rw [Zer]⟩
        · exact old1 key v hv
      · by_cases e : k < l.length
        · rw [Zc1 e] at ht ⊢
          obtain ⟨a1, a2⟩ := old2 k e hkp ht
          rw [mlook_mput, if_neg (fun e2 => by rw [← e2, hnone] at a1; cases a1)]
          exact a2
        · have : k = l.length := by simp at hk; omega
          subst this
          rw [Zer, mlook_mput, if_pos rfl]
    · rw [if_neg hput]
      refine ⟨hnf, old1, fun k hk hkp ht => ?_⟩
      by_cases e : k < l.length
      · rw [Zc1 e] at ht ⊢
        exact (old2 k e hkp ht).2
      · exfalso
        have : k = l.length := by simp at hk; omega
        subst this
        rw [Zer] at ht
        obtain ⟨rfl, h1, h2⟩ := htwo ht
        obtain ⟨h3, h4⟩ := kept_new.1 hkp
        rw [hset2] at h3 h4
        refine hput ⟨by unfold sameOk; rw [h1, h2]; rfl, ?_, ?_⟩
        · unfold ofD; split <;> simp <;> first | exact h4 | exact h3
        · unfold ofD; split <;> simp <;> first | exact h3 | exact h4
theorem PInv.nil : PInv [] [] := ⟨List.nodup_nil, (fun _ _ h => by cases h), (fun k hk => by simp at hk)⟩
end Go.Proofs.YtoelbgjpmpoolaaGreat
namespace Go.Proofs.YtoelbgjpmpoolaaGreat
open Go Dv
set_option maxRecDepth 10000
set_option linter.unusedSimpArgs false
end Go.Proofs.YtoelbgjpmpoolaaGreat
namespace Go.Proofs.YtoelbgjpmpoolaaGreat
open Go Dv
set_option maxRecDepth 10000
set_option linter.unusedSimpArgs false
def aheadN (l : List Ins) (p : Int) : Nat → Int × Bool
  | 0 => (0, false)
  | k + 1 => if Zfq (l.getD k default) p then ((l.getD k default).k, decide ((l.getD k default).op = 1)) else aheadN l p k
def aheadL (l : List Ins) (p : Int) : Int × Bool := aheadN l p l.length
theorem aheadN_old {l : List Ins} {y : Ins} {p : Int} : ∀ {k : Nat}, k ≤ l.length → aheadN (l ++ [y]) p k = aheadN l p k
  | 0, _ => rfl
  | k + 1, h => by
      simp only [aheadN]
      rw [Zc1 (by omega), aheadN_old (by omega)]
theorem aheadL_snoc (l : List Ins) (y : Ins) (p : Int) : aheadL (l ++ [y]) p = if Zfq y p then (y.k, decide (y.op = 1)) else aheadL l p := by
  unfold aheadL
  rw [show (l ++ [y]).length = l.length + 1 from by simp]
  simp only [aheadN]
  rw [Zer, aheadN_old (Nat.le_refl _)]
structure KInv (l : List Ins) (m : List (List Int × Int)) : Prop where
  nd : (m.map (·.1)).Nodup
  eq : ∀ p v, Zch m [p] = some v ↔ aheadL l p = (v, true)
theorem KInv.nil : KInv [] [] := ⟨List.nodup_nil, fun p v => by simp [Zch, aheadL, aheadN]⟩
theorem KInv.none {l : List Ins} {m : List (List Int × Int)} (h : KInv l m) (p : Int) : Zch m [p] = none ↔ (aheadL l p).2 = false := by
  cases hm : Zch m [p] with
  | none =>
    cases hq : aheadL l p with
    | mk v b =>
      cases b with
      | false => simp
      | true => have := (h.eq p v).2 hq; rw [hm] at this; cases this
  | some v => have := (h.eq p v).1 hm; rw [this]; simp
theorem mdel_keys {m : List (List Int × Int)} {k : List Int} (hn : (m.map (·.1)).Nodup) : ((mdel m k).map (·.1)).Nodup := by
  rw [Zfu k hn]
  exact (List.Sublist.map _ List.filter_sublist).nodup hn
theorem mlook_mdel {m : List (List Int × Int)} (hn : (m.map (·.1)).Nodup) {k k' : List Int} {v : Int} : Zch (mdel m k) k' = some v ↔ k' ≠ k ∧ Zch m k' = some v := by
  have hn2 := mdel_keys (k := k) hn
  constructor
  · intro h
    have := mlook_mem h
    rw [Zfu k hn, List.mem_filter] at this
    exact ⟨by simpa using this.2, mem_mlook hn this.1⟩
  · rintro ⟨h1, h2⟩
    refine mem_mlook hn2 ?_
    rw [Zfu k hn, List.mem_filter]
    exact ⟨mlook_mem h2, by simpa using h1⟩
theorem KInv.step {l : List Ins} {m : List (List Int × Int)} (h : KInv l m) (y : Ins) : KInv (l ++ [y]) (noteW m y) := by
  unfold noteW
  by_cases h1 : y.op = 10 ∨ y.op = 12
  · rw [if_pos h1]
    refine ⟨h.nd, fun p v => ?_⟩
    rw [aheadL_snoc, if_neg (fun e => by unfold Zfq at e; omega)]
    exact h.eq p v
  · rw [if_neg h1]
    have hs : ∀ p, Zfq y p ↔ y.dst = p := fun p => by unfold Zfq; omega
    by_cases h2 : y.op = 1
    · rw [if_pos h2]
      refine ⟨mput_keys h.nd, fun p v => ?_⟩
      rw [mlook_mput, aheadL_snoc]
      by_cases h3 : y.dst = p
      · rw [if_pos (by rw [h3]), if_pos ((hs p).2 h3)]; simp [h2]
      · rw [if_neg (fun e => h3 (by simpa using e)), if_neg (fun e => h3 ((hs p).1 e))]
        exact h.eq p v
    · rw [if_neg h2]
      refine ⟨mdel_keys h.nd, fun p v => ?_⟩
      rw [mlook_mdel h.nd, aheadL_snoc]
      by_cases h3 : y.dst = p
      · rw [if_pos ((hs p).2 h3)]; simp [h2, h3]
      · rw [if_neg (fun e => h3 ((hs p).1 e))]
        constructor
        · rintro ⟨_, h4⟩; exact (h.eq p v).1 h4
        · intro h4; exact ⟨fun e => h3 (by simpa using e.symm), (h.eq p v).2 h4⟩
end Go.Proofs.YtoelbgjpmpoolaaGreat
namespace Go.Proofs.YtoelbgjpmpoolaaGreat
open Go Dv
set_option maxRecDepth 10000
set_option linter.unusedSimpArgs false
theorem u64w {x : Int} (h : 0 ≤ x) (h2 : x < 18446744073709551616) : IntKind.u64.wrap x = x := by
  rw [IntKind.wrap_u64]; omega
theorem u16w (x : Int) : IntKind.u16.wrap x = x % 65536 := by
  unfold IntKind.wrap; simp [IntKind.bits, IntKind.signed]
theorem c_rDo (op a b : Int) : FC Tryz.prog 192 [iv op, .int .u16 a, .int .u16 b] (.tup [.int .u16 (doW op a b).1, .bool (doW op a b).2]) := by
  refine Zao tok Tryz.func192 rfl (by decide +kernel) (Nat.le_of_ble_eq_true rfl) ?_
  refine Zaw 1 (fun h1 => ?_)
  refine Zaw 2 (fun h2 => ?_)
  have ha : 0 ≤ a ∧ a ≤ 65535 := h1
  have hb2 : 0 ≤ b ∧ b ≤ 65535 := h2
  clear h1 h2
  have ea : IntKind.u64.wrap a = a := u64w ha.1 (by omega)
  have eb : IntKind.u64.wrap b = b := u64w hb2.1 (by omega)
  have modw : ∀ x : Int, 0 ≤ x → x < 18446744073709551616 → IntKind.u16.wrap (IntKind.u64.wrap ((IntKind.u64.wrap x).tmod 65536)) = w16 x := fun x h1 h2 => by
    rw [u64w h1 h2, Int.tmod_eq_emod_of_nonneg h1, u64w (by omega) (by omega), w16, u16w, u16w]; omega
  have m3 : IntKind.u16.wrap (IntKind.u64.wrap ((IntKind.u64.wrap (IntKind.u64.wrap a + IntKind.u64.wrap b)).tmod 65536)) = w16 (a + b) := by
    rw [ea, eb]; exact modw _ (by omega) (by omega)
  have m4 : IntKind.u16.wrap (IntKind.u64.wrap ((IntKind.u64.wrap (IntKind.u64.wrap (IntKind.u64.wrap a + 65536) - IntKind.u64.wrap b)).tmod 65536)) = w16 (a - b) := by
    rw [ea, eb, u64w (x := a + 65536) (by omega) (by omega), modw _ (by omega) (by omega), w16, w16, u16w, u16w]; omega
  have hm1 : 0 ≤ a * b := Int.mul_nonneg ha.1 hb2.1
  have hm2 : a * b ≤ 65535 * 65535 := Int.mul_le_mul ha.2 hb2.2 hb2.1 (by omega)
  have m5 : IntKind.u16.wrap (IntKind.u64.wrap ((IntKind.u64.wrap (IntKind.u64.wrap a * IntKind.u64.wrap b)).tmod 65536)) = w16 (a * b) := by
    rw [ea, eb]; exact modw _ hm1 (by omega)
  have hd0 : 0 ≤ a.tdiv b := Int.tdiv_nonneg ha.1 hb2.1
  have hd1 : a.tdiv b ≤ a := Int.tdiv_le_self _ ha.1
  have m6 : IntKind.u16.wrap (IntKind.u64.wrap ((IntKind.u64.wrap a).tdiv (IntKind.u64.wrap b))) = w16 (a.tdiv b) := by
    rw [ea, eb, u64w hd0 (by omega)]; rfl
  ((repeat' first | refine Zac ?_ | (refine Zab tok (by rfl) ?_; conv => whnf) | (refine Zag ?_; conv => whnf) | (refine Zah ?_; conv => whnf) | refine Zae rfl (fun hb => ?_) (fun hb => ?_) | (refine @And.intro (Zaa _ _ _ _) _ ?_ ?_; rotate_left; (conv => whnf); rotate_right)); all_goals (try ((guard_target = Zaa _ _ _ _); refine Zaf ?_; (all_goals (try simp only [Zaa, kzz, kz11, kz12, maxL, Zad] at *)); all_goals omega)))
  all_goals refine ⟨_, rfl, Rel.tup (.cons (Rel.int ?_) (.cons (Rel.bool ?_) .nil))⟩
  all_goals simp only [decide_eq_true_eq, decide_eq_false_iff_not] at *
  all_goals first
    | (simp only [m3, m4, m5, m6]; simp [doW, *]; done)
    | (simp [doW, *]; done)
    | skip
  all_goals (rw [ea, eb] at *)
  all_goals (try rw [m6])
  all_goals clear m3 m4 m5 m6 hm1 hm2 hd0 hd1 modw ea eb
  all_goals (simp only [cond_eq_ite] at *; unfold doW; grind)
end Go.Proofs.YtoelbgjpmpoolaaGreat
namespace Go.Proofs.YtoelbgjpmpoolaaGreat
open Go Dv
set_option maxRecDepth 10000
set_option linter.unusedSimpArgs false
structure Za2 where
  (f block at_ : Int)
  regs : List Int
  fly : Int
deriving Inhabited
def Zar (x : Za2) : List AV := [iv x.f, iv x.block, iv x.at_, u16s x.regs, .int .u16 x.fly]
def frW (f : Za2) (n w : Int) : Za2 := { f with regs := f.regs.set n.toNat w }
theorem Zdi {f : Nat → List AV} {k : Nat} {c : List AV} : updR f k c k = c := by unfold updR; rw [show Nat.beq k k = true by simp]; rfl
theorem Zcw {f : Nat → List AV} {k i : Nat} {c : List AV} (h : k ≠ i) : updR f k c i = f i := by
  unfold updR; rw [show Nat.beq k i = false from by rw [Bool.eq_false_iff]; intro e; exact h (Nat.eq_of_beq_eq_true e)]; rfl
theorem rowSet {l : List Int} {K : Nat} {w : Int} {z : Nat} (hK : K < l.length) : updR (fun q => [.int .u16 (l.getD q 0)]) K [.int .u16 w] z = [.int .u16 ((l.set K w).getD z 0)] := by
  rw [getD_set]
  by_cases e : K = z
  · subst e; rw [if_pos ⟨rfl, hK⟩]; exact Zdi
  · rw [if_neg (fun h => e h.1)]; exact Zcw e
theorem c_With (f : Za2) (n w : Int) (h0 : 0 ≤ n) (h1 : n < f.regs.length) : FC Tryz.prog 151 [.agg (Zar f), iv n, .int .u16 w] (.agg (Zar (frW f n w))) := by
  refine Zao tok Tryz.func151 rfl (by decide +kernel) (Nat.le_of_ble_eq_true rfl) ?_
  refine Zaw 0 (fun hl => ?_)
  have hl0 : f.regs.length ≤ maxL := hl.2.2.2.1.1
  have hmx : maxL = 4294967296 := rfl
  clear hl
  ((repeat' first | refine Zac ?_ | (refine Zab tok (by rfl) ?_; conv => whnf) | (refine Zah ?_; conv => whnf) | (refine @And.intro (Zaa _ _ _ _) _ ?_ ?_; rotate_left; (conv => whnf); rotate_right)); all_goals (try ((guard_target = Zaa _ _ _ _); refine Zaf ?_; (first | refine And.intro Zd3 ?_ | skip); (all_goals (try simp only [Zaa, kzz, kz11, kz12, maxL, Zad] at *)); all_goals omega)))
  have hz : n.toNat < f.regs.length := by omega
  have hlen : (frW f n w).regs.length = f.regs.length := by simp [frW]
  refine ⟨_, rfl, Rel.agg (.cons (Rel.imm rfl) (.cons (Rel.imm rfl) (.cons (Rel.imm rfl) (.cons (Rel.row rfl ?_ ?_ (fun z _ => ?_)) (.cons (Rel.imm rfl) .nil)))))⟩
  · rfl
  · rw [hlen, Nat.zero_add]
  · rw [Nat.zero_add]
    exact rowSet (l := f.regs) hz
def thereB (f : Za2) (n : Int) : Bool := decide (0 ≤ n ∧ n < f.regs.length)
theorem c_there (f : Za2) (n : Int) : FC Tryz.prog 191 [.agg (Zar f), iv n] (.bool (thereB f n)) := by
  refine Zao tok Tryz.func191 rfl (by decide +kernel) (Nat.le_of_ble_eq_true rfl) ?_
  (repeat' first | refine Zac ?_ | (refine Zab tok (by rfl) ?_; conv => whnf) | (refine Zah ?_; conv => whnf))
  refine ⟨_, rfl, Rel.bool ?_⟩
  unfold thereB
  by_cases e1 : 0 ≤ n <;> by_cases e2 : n < (f.regs.length : Int) <;> simp [e1, e2]
def catchF (p : Pad) (w : Int) : Bool := decide (w ∈ p.catch_) || p.all
theorem c_Catches (p : Pad) (w : Int) : FC Tryz.prog 193 [.agg (Zd8 p), .int .u16 w] (.bool (catchF p w)) := by
  refine Zao tok Tryz.func193 rfl (by decide +kernel) (Nat.le_of_ble_eq_true rfl) ?_
  refine Zaw 0 (fun hl => ?_)
  have hl0 : p.catch_.length ≤ maxL := hl.2.1.1
  have hmx : maxL = 4294967296 := rfl
  clear hl
  (repeat' ((fail_if_success (show AWp _ _ _ (Code.region 2 _ _) _ _)); first | refine Zac ?_ | (refine Zab tok (by rfl) ?_; conv => whnf) | refine Zai ?_))
  refine Za1 (fun i : Nat => mkS [(1, .int .u16 w), (2, .bp (2, 0, 0) 0), (5, iv i)] [((2, 0, 0), .row true 4 1 (fun _ => Zd8 p))]) (fun i => i ≤ p.catch_.length ∧ ∀ j, j < i → p.catch_.getD j 0 ≠ w) (fun i => p.catch_.length - i) 0 ⟨Nat.zero_le _, fun j h => absurd h (Nat.not_lt_zero j)⟩ ?_ ?_
  · refine Weak.list [((2, 0, 0), .old (2, 0, 0), .row true 4 1 (fun _ => Zd8 p))] rfl (by rfl) ?_ (.old rfl (BLe.rowW (Nat.le_refl _) (ltS (Wks.of rfl) lt0)) .nil)
    ((repeat' first | exact TLes.nil | refine TLes.cons (TLe.eq rfl) ?_); skip)
  rintro i ⟨hi, hn⟩
  (repeat' ((fail_if_success (show AWp _ _ _ (Code.region 4 _ _) _ _)); first | refine Zac ?_ | (refine Zab tok (by rfl) ?_; conv => whnf) | refine Zai ?_ | (refine Zag ?_; conv => whnf) | (refine Za3 ?_; conv => whnf) | (refine Zah ?_; conv => whnf) | refine Zae rfl (fun hb => ?_) (fun hb => ?_)))
  · have hlt : i < p.catch_.length := by simp only [decide_eq_true_eq] at hb; omega
    clear hb
    have hz : (i : Int).toNat = i := by simp
    ((repeat' first | refine Zac ?_ | (refine Zab tok (by rfl) ?_; conv => whnf) | (refine Zag ?_; conv => whnf) | (refine Zah ?_; conv => whnf) | refine Zae rfl (fun hb => ?_) (fun hb => ?_) | (refine @And.intro (Zaa _ _ _ _) _ ?_ ?_; rotate_left; (conv => whnf); rotate_right)); all_goals (try ((guard_target = Zaa _ _ _ _); refine Zaf ?_; (all_goals (try simp only [Zaa, kzz, kz11, kz12, maxL, Zad] at *)); all_goals omega)))
    · have e : p.catch_.getD i 0 = w := by rw [hz] at hb; simpa using hb
      refine ⟨_, rfl, Rel.bool ?_⟩
      unfold catchF
      have : w ∈ p.catch_ := by rw [← e, Zb5 0 hlt]; exact List.getElem_mem _
      simp [this]
    · have e : p.catch_.getD i 0 ≠ w := by rw [hz] at hb; simpa using hb
      refine ⟨i + 1, ⟨hlt, fun j hj => ?_⟩, by omega, ?_⟩
      · by_cases h : j = i
        · rw [h]; exact e
        · exact hn j (by omega)
      refine Weak.list [((2, 0, 0), .old (2, 0, 0), .row true 4 1 (fun _ => Zd8 p))] rfl (by rfl) ?_ (.old rfl (BLe.refl _) .nil)
      ((repeat' first | exact TLes.nil | refine TLes.cons (TLe.eq rfl) ?_ | refine TLes.cons (TLe.int ?_) ?_); (all_goals first | ((try (simp only [Zaa, kzz, kz11, kz12, maxL, Zad] at *)); exact Zal (by omega) (by omega)) | skip))
  · have hil : i = p.catch_.length := by simp only [decide_eq_false_iff_not] at hb; omega
    clear hb
    subst hil
    skip
    refine ⟨_, rfl, Rel.bool ?_⟩
    unfold catchF
    have : ¬ w ∈ p.catch_ := fun h => by
      obtain ⟨j, hj, e⟩ := List.getElem_of_mem h
      exact hn j hj (by rw [Zb5 0 hj]; exact e)
    simp [this]
def reckV (f : Za2) (x : Ins) : Int × Bool := if x.op = 1 then (x.k, true) else doW x.op (f.regs.getD x.a.toNat 0) (if 2 < x.op then f.regs.getD x.b.toNat 0 else 0)
def Zce (f : Za2) (x : Ins) : Za2 × Bool := if (reckV f x).2 = true then ({ frW f x.dst (reckV f x).1 with at_ := f.at_ + 1 }, true) else (f, false)
set_option maxHeartbeats 1000000 in
theorem c_Reckon (f : Za2) (x : Ins) (hat0 : 0 ≤ f.at_) (hat : f.at_ < 1000000) (h1 : 1 ≤ x.op) (h8 : x.op ≤ 8) (hd : 0 ≤ x.dst ∧ x.dst < f.regs.length) (ha : 1 < x.op → 0 ≤ x.a ∧ x.a < f.regs.length) (hb' : 2 < x.op → 0 ≤ x.b ∧ x.b < f.regs.length) :
    FC Tryz.prog 149 [.agg (Zar f), .agg (Zba x)] (.tup [.agg (Zar (Zce f x).1), .bool (Zce f x).2]) := by
  refine Zao tok Tryz.func149 rfl (by decide +kernel) (Nat.le_of_ble_eq_true rfl) ?_
  refine Zaw 0 (fun hl => ?_)
  have hl0 : f.regs.length ≤ maxL := hl.2.2.2.1.1
  have hmx : maxL = 4294967296 := rfl
  clear hl
  have hT : ∀ n, (0 ≤ n ∧ n < (f.regs.length : Int)) → FC Tryz.prog 191 [.agg (Zar f), iv n] (.bool true) := fun n h => by
    have := c_there f n
    rw [show thereB f n = true from decide_eq_true h] at this; exact this
  have hW : ∀ w, FC Tryz.prog 151 [.agg (Zar f), iv x.dst, .int .u16 w] (.agg (Zar (frW f x.dst w))) := fun w => c_With f x.dst w hd.1 hd.2
  by_cases h2 : 1 < x.op
  · have ha2 := ha h2
    have hav : (f.regs.getD x.a.toNat 0) = f.regs.getD (0 + x.a.toNat) 0 := by rw [Nat.zero_add]
    (repeat' first | refine Zac ?_ | (refine Zab tok (by rfl) ?_; conv => whnf))
    refine .inl ⟨_, _, _, uG (QC.fc (hT _ hd) rfl), ?_⟩
    conv => whnf
    (repeat' first | refine Zac ?_ | (refine Zab tok (by rfl) ?_; conv => whnf) | (refine Zag ?_; conv => whnf) | (refine Zah ?_; conv => whnf) | refine Zae rfl (fun hb => ?_) (fun hb => ?_))
    · exfalso; simp at hb; omega
    clear hb
    · refine .inl ⟨_, _, _, uG (QC.fc (hT _ ha2) rfl), ?_⟩
      conv => whnf
      have hB : 2 < x.op → thereB f x.b = true := fun h => decide_eq_true (hb' h)
      skip
      refine .inl ⟨_, _, _, uG (QC.fc (c_there f x.b) rfl), ?_⟩
      conv => whnf
      ((repeat' first | refine Zac ?_ | (refine Zab tok (by rfl) ?_; conv => whnf) | (refine Zat tok mix (by rfl) ?_; conv => whnf) | (refine Zag ?_; conv => whnf) | (refine Zah ?_; conv => whnf) | refine Zae rfl (fun hb => ?_) (fun hb => ?_) | (refine @And.intro (Zaa _ _ _ _) _ ?_ ?_; rotate_left; (conv => whnf); rotate_right)); all_goals (try ((guard_target = Zaa _ _ _ _); refine Zaf ?_; (all_goals (try simp only [Zaa, kzz, kz11, kz12, maxL, Zad] at *)); all_goals omega)))
      · exfalso
        rw [Bool.not_true, cond_false] at hb
        by_cases h3 : 2 < x.op
        · rw [hB h3, decide_eq_true h3] at hb; cases hb
        · rw [decide_eq_false h3] at hb; cases hb
      · have h3 : 2 < x.op := by simpa using hb
        have hV : reckV f x = doW x.op (f.regs.getD x.a.toNat 0) (f.regs.getD x.b.toNat 0) := by
          unfold reckV; rw [if_neg (by omega), if_pos h3]
        clear hb
        refine .inl ⟨_, _, _, uG (QC.fc (c_rDo x.op (f.regs.getD x.a.toNat 0) (f.regs.getD x.b.toNat 0)) rfl), ?_⟩
        conv => whnf
        rw [← hV]
        (repeat' first | refine Zac ?_ | (refine Zab tok (by rfl) ?_; conv => whnf) | (refine Zag ?_; conv => whnf) | (refine Zah ?_; conv => whnf) | refine Zae rfl (fun hb => ?_) (fun hb => ?_))
        · have hv : Zce f x = (f, false) := if_neg (by simpa using hb)
          rw [hv]
          exact ⟨_, rfl, Rel.tup (.cons (Rel.agg (Rels.imm rfl)) (.cons (Rel.bool rfl) .nil))⟩
        · have hv : Zce f x = ({ frW f x.dst (reckV f x).1 with at_ := f.at_ + 1 }, true) := if_pos (by simpa using hb)
          refine .inl ⟨_, _, _, uG (QC.fc (hW _) rfl), ?_⟩
          conv => whnf
          (repeat' first | refine Zac ?_ | (refine Zab tok (by rfl) ?_; conv => whnf) | (refine Zah ?_; conv => whnf))
          rw [hv]
          refine ⟨_, rfl, Rel.tup (.cons (Rel.agg (.cons (Rel.imm rfl) (.cons (Rel.imm rfl) (.cons (Rel.int (show IntKind.i64.wrap (f.at_ + 1) = f.at_ + 1 from Zal (by omega) (by omega))) (.cons (Rel.imm rfl) (.cons (Rel.imm rfl) .nil)))))) (.cons (Rel.bool rfl) .nil))⟩
      · have h3 : ¬ 2 < x.op := by simpa using hb
        have hV : reckV f x = doW x.op (f.regs.getD x.a.toNat 0) 0 := by
          unfold reckV; rw [if_neg (by omega), if_neg h3]
        clear hb
        refine .inl ⟨_, _, _, uG (QC.fc (c_rDo x.op (f.regs.getD x.a.toNat 0) 0) rfl), ?_⟩
        conv => whnf
        rw [← hV]
        (repeat' first | refine Zac ?_ | (refine Zab tok (by rfl) ?_; conv => whnf) | (refine Zag ?_; conv => whnf) | (refine Zah ?_; conv => whnf) | refine Zae rfl (fun hb => ?_) (fun hb => ?_))
        · have hv : Zce f x = (f, false) := if_neg (by simpa using hb)
          rw [hv]
          exact ⟨_, rfl, Rel.tup (.cons (Rel.agg (Rels.imm rfl)) (.cons (Rel.bool rfl) .nil))⟩
        · have hv : Zce f x = ({ frW f x.dst (reckV f x).1 with at_ := f.at_ + 1 }, true) := if_pos (by simpa using hb)
          refine .inl ⟨_, _, _, uG (QC.fc (hW _) rfl), ?_⟩
          conv => whnf
          (repeat' first | refine Zac ?_ | (refine Zab tok (by rfl) ?_; conv => whnf) | (refine Zah ?_; conv => whnf))
          rw [hv]
          refine ⟨_, rfl, Rel.tup (.cons (Rel.agg (.cons (Rel.imm rfl) (.cons (Rel.imm rfl) (.cons (Rel.int (show IntKind.i64.wrap (f.at_ + 1) = f.at_ + 1 from Zal (by omega) (by omega))) (.cons (Rel.imm rfl) (.cons (Rel.imm rfl) .nil)))))) (.cons (Rel.bool rfl) .nil))⟩
    · exfalso; simp at hb; omega
  · have h2' : x.op = 1 := by omega
    have hV : reckV f x = (x.k, true) := if_pos h2'
    have hv : Zce f x = ({ frW f x.dst (reckV f x).1 with at_ := f.at_ + 1 }, true) := if_pos (by rw [hV])
    rw [hV] at hv
    (repeat' first | refine Zac ?_ | (refine Zab tok (by rfl) ?_; conv => whnf))
    refine .inl ⟨_, _, _, uG (QC.fc (hT _ hd) rfl), ?_⟩
    conv => whnf
    (repeat' first | refine Zac ?_ | (refine Zab tok (by rfl) ?_; conv => whnf) | (refine Zag ?_; conv => whnf) | (refine Zah ?_; conv => whnf) | refine Zae rfl (fun hb => ?_) (fun hb => ?_))
    · exfalso; simp at hb; omega
    · exfalso; simp at hb; omega
    · refine .inl ⟨_, _, _, uG (QC.fc (hW _) rfl), ?_⟩
      conv => whnf
      (repeat' first | refine Zac ?_ | (refine Zab tok (by rfl) ?_; conv => whnf) | (refine Zah ?_; conv => whnf))
      rw [hv]
      refine ⟨_, rfl, Rel.tup (.cons (Rel.agg (.cons (Rel.imm rfl) (.cons (Rel.imm rfl) (.cons (Rel.int (show IntKind.i64.wrap (f.at_ + 1) = f.at_ + 1 from Zal (by omega) (by omega))) (.cons (Rel.imm rfl) (.cons (Rel.imm rfl) .nil)))))) (.cons (Rel.bool rfl) .nil))⟩
end Go.Proofs.YtoelbgjpmpoolaaGreat
namespace Go.Proofs.YtoelbgjpmpoolaaGreat
open Go Dv
set_option maxRecDepth 10000
set_option linter.unusedSimpArgs false
def regN (args : List Int) (q : Nat) : Int := if q < args.length then args.getD q 0 else 0
def frN (m : Zaj) (n : Int) (args : List Int) : Za2 := ⟨n, 0, 0, (List.range (m.funcs.getD n.toNat default).regs.toNat).map (regN args), 0⟩
theorem appF {k z : Nat} {g : Nat → Int} {v : Int} (hz : z < k + 1) (hv : v = g k) : appR k (fun q => [.int .u16 (g q)]) (fun i => rowOf 1 [.int .u16 v] (0 + i)) z = [.int .u16 (g z)] := by
  unfold appR
  by_cases e : z < k
  · rw [show Nat.blt z k = true from by rw [Nat.blt_eq]; exact e]; rfl
  · have e2 : z = k := by omega
    subst e2
    rw [show Nat.blt z z = false from by rw [Bool.eq_false_iff]; intro h; rw [Nat.blt_eq] at h; omega, Nat.sub_self, hv]; rfl
set_option maxHeartbeats 1000000 in
theorem c_frNew (m : Zaj) (n : Int) (args : List Int) (h0 : 0 ≤ n) (h1 : n < m.funcs.length) (hp : (args.length : Int) = (m.funcs.getD n.toNat default).params) (hR : (m.funcs.getD n.toNat default).regs ≤ 256) :
    FC Tryz.prog 104 [.agg (Zav m), iv n, u16s args] (.tup [.agg (Zar (frN m n args)), iv 0]) := by
  refine Zao tok Tryz.func104 rfl (by decide +kernel) (Nat.le_of_ble_eq_true rfl) ?_
  have hmx : maxL = 4294967296 := rfl
  have hgen : ∃ R, (m.funcs.getD n.toNat default).regs = R := ⟨_, rfl⟩
  obtain ⟨R, hRe⟩ := hgen
  have hfr : frN m n args = ⟨n, 0, 0, (List.range R.toNat).map (regN args), 0⟩ := by unfold frN; rw [hRe]
  rw [hRe] at hR
  ((repeat' ((fail_if_success (show AWp _ _ _ (Code.region 5 _ _) _ _)); first | refine Zac ?_ | (refine Zab tok (by rfl) ?_; conv => whnf) | refine Zai ?_ | (refine Zag ?_; conv => whnf) | (refine Zah ?_; conv => whnf) | refine Zae rfl (fun hb => ?_) (fun hb => ?_) | (refine @And.intro (Zaa _ _ _ _) _ ?_ ?_; rotate_left; (conv => whnf); rotate_right))); all_goals (try ((guard_target = Zaa _ _ _ _); ((refine Za8 ?_; intro hgd; (conv at hgd => whnf))); (all_goals (try simp only [Zaa, kzz, kz11, kz12, maxL, Zad] at *)); all_goals omega)))
  · exfalso
    rw [decide_eq_false (show ¬ n < 0 by omega), decide_eq_false (show ¬ (m.funcs.length : Int) ≤ n by omega), decide_eq_true hp] at hb
    cases hb
  clear hb
  refine Za1 (fun i : Nat => mkS [(1, iv n), (2, u16s args), (3, .bp (3, 0, 0) 0), (6, .bp (6, 0, 0) 0), (8, .bp (8, 0, 0) 0), (9, iv i)] [((3, 0, 0), Zam (Zav m)), ((6, 0, 0), Zam [iv 0, iv 0, iv 0, .nsl, .int .u16 0]), ((8, 0, 0), .row false 5 1 (fun _ => [iv n, iv 0, iv 0, .rs (101, 0, 0) 1 0 i, .int .u16 0])), ((101, 0, 0), .row true 1 i (fun q => [.int .u16 (regN args q)]))]) (fun i => i ≤ R.toNat) (fun i => R.toNat - i) 0 (Nat.zero_le _) ?_ ?_
  · refine Weak.list [((3, 0, 0), .old (3, 0, 0), Zam (Zav m)), ((6, 0, 0), .old (6, 0, 0), Zam [iv 0, iv 0, iv 0, .nsl, .int .u16 0]), ((8, 0, 0), .old (8, 0, 0), .row false 5 1 (fun _ => [iv n, iv 0, iv 0, .rs (101, 0, 0) 1 0 0, .int .u16 0])), ((101, 0, 0), .nil, .row true 1 0 (fun q => [.int .u16 (regN args q)]))] rfl (by rfl) ?_ (.old rfl (BLe.refl _) (.old rfl (BLe.refl _) (.oldR rfl (BLeR.cells rfl (ltS (.cons .eq (.cons .eq (.cons .eq (.cons (.nil rfl) (.cons .eq .nil))))) lt0)) (.new .nil))))
    ((repeat' first | exact TLes.nil | refine TLes.cons (TLe.eq rfl) ?_); skip)
  intro i hi
  ((repeat' ((fail_if_success (show AWp _ _ _ (Code.region 7 _ _) _ _)); first | refine Zac ?_ | (refine Zab tok (by rfl) ?_; conv => whnf) | refine Zai ?_ | (refine Zag ?_; conv => whnf) | (refine Za3 ?_; conv => whnf) | (refine Zah ?_; conv => whnf) | refine Zae rfl (fun hb => ?_) (fun hb => ?_) | (refine @And.intro (Zaa _ _ _ _) _ ?_ ?_; rotate_left; (conv => whnf); rotate_right))); all_goals (try ((guard_target = Zaa _ _ _ _); refine Zaf ?_; (all_goals (try simp only [Zaa, kzz, kz11, kz12, maxL, Zad] at *)); all_goals omega)))
  · have hlt : i < R.toNat := by rw [hRe] at hb; simp only [decide_eq_true_eq] at hb; omega
    clear hb
    have hiz : (i : Int).toNat = i := by simp
    ((repeat' first | (refine Zab tok (by rfl) ?_; conv => whnf) | (refine Zat tok mix (by rfl) ?_; conv => whnf) | refine Zae rfl (fun hb => ?_) (fun hb => ?_) | (refine @And.intro (Zaa _ _ _ _) _ ?_ ?_; rotate_left; (conv => whnf); rotate_right)); all_goals (try ((guard_target = Zaa _ _ _ _); refine Zaf ?_; (first | refine And.intro (Zc5 rfl ?_) ?_ | skip); (all_goals (try simp only [Zaa, kzz, kz11, kz12, maxL, Zad] at *)); all_goals omega)))
    · have hv : args.getD (i : Int).toNat 0 = regN args i := by unfold regN; rw [hiz, if_pos (by simpa using hb)]
      clear hb
      refine ⟨i + 1, hlt, by omega, ?_⟩
      refine Weak.list [((3, 0, 0), .old (3, 0, 0), Zam (Zav m)), ((6, 0, 0), .old (6, 0, 0), Zam [iv 0, iv 0, iv 0, .nsl, .int .u16 0]), ((8, 0, 0), .old (8, 0, 0), .row false 5 1 (fun _ => [iv n, iv 0, iv 0, .rs (101, 0, 0) 1 0 (i + 1), .int .u16 0])), ((101, 0, 0), .old (54, 0, 0), .row true 1 (i + 1) (fun q => [.int .u16 (regN args q)]))] rfl (by rfl) ?_ (.old rfl (BLe.refl _) (.old rfl (BLe.refl _) (.old rfl (BLe.rowW (Nat.le_refl _) (ltS (Wks.of rfl) lt0)) (.old rfl (BLe.rowW (Nat.le_refl _) (fun z hz => Wks.of (by simp only [allB, Zca, Bool.true_and, Bool.and_true, Bool.and_self, cond_true]; exact appF hz hv))) .nil))))
      ((repeat' first | exact TLes.nil | refine TLes.cons (TLe.eq rfl) ?_ | refine TLes.cons (TLe.int ?_) ?_); (all_goals first | ((try (simp only [Zaa, kzz, kz11, kz12, maxL, Zad] at *)); exact Zal (by omega) (by omega)) | skip))
    · have hv : (0 : Int) = regN args i := by unfold regN; rw [if_neg (by simpa using hb)]
      clear hb
      refine ⟨i + 1, hlt, by omega, ?_⟩
      refine Weak.list [((3, 0, 0), .old (3, 0, 0), Zam (Zav m)), ((6, 0, 0), .old (6, 0, 0), Zam [iv 0, iv 0, iv 0, .nsl, .int .u16 0]), ((8, 0, 0), .old (8, 0, 0), .row false 5 1 (fun _ => [iv n, iv 0, iv 0, .rs (101, 0, 0) 1 0 (i + 1), .int .u16 0])), ((101, 0, 0), .old (59, 0, 0), .row true 1 (i + 1) (fun q => [.int .u16 (regN args q)]))] rfl (by rfl) ?_ (.old rfl (BLe.refl _) (.old rfl (BLe.refl _) (.old rfl (BLe.rowW (Nat.le_refl _) (ltS (Wks.of rfl) lt0)) (.old rfl (BLe.rowW (Nat.le_refl _) (fun z hz => Wks.of (by simp only [allB, Zca, Bool.true_and, Bool.and_true, Bool.and_self, cond_true]; exact appF hz hv))) .nil))))
      ((repeat' first | exact TLes.nil | refine TLes.cons (TLe.eq rfl) ?_ | refine TLes.cons (TLe.int ?_) ?_); (all_goals first | ((try (simp only [Zaa, kzz, kz11, kz12, maxL, Zad] at *)); exact Zal (by omega) (by omega)) | skip))
  · have hil : i = R.toNat := by rw [hRe] at hb; simp only [decide_eq_false_iff_not] at hb; omega
    clear hb
    subst hil
    skip
    rw [hfr]
    refine ⟨_, rfl, Rel.tup (.cons (Rel.agg (.cons (Rel.imm rfl) (.cons (Rel.imm rfl) (.cons (Rel.imm rfl) (.cons (Rel.row rfl rfl (by simp) (fun z hz => ?_)) (.cons (Rel.imm rfl) .nil)))))) (.cons (Rel.imm rfl) .nil))⟩
    have hz2 : z < R.toNat := by simpa using hz
    rw [List.getD_eq_getElem?_getD, List.getElem?_map, List.getElem?_range hz2]; rfl
def padOf (m : Zaj) (f : Za2) (pad : Int) : Zex := (m.funcs.getD f.f.toNat default).blocks.getD pad.toNat default
def landF (m : Zaj) (f : Za2) (pad w : Int) : Za2 := frW { f with block := pad, at_ := 0, fly := w } (padOf m f pad).pad.dst w
set_option maxHeartbeats 1000000 in
theorem c_Land (m : Zaj) (f : Za2) (pad w : Int) (h0 : 0 ≤ f.f) (h1 : f.f < m.funcs.length) (p0 : 0 ≤ pad) (p1 : pad < (m.funcs.getD f.f.toNat default).blocks.length) (hl : (padOf m f pad).landing = true)
    (hd : 0 ≤ (padOf m f pad).pad.dst ∧ (padOf m f pad).pad.dst < f.regs.length) :
    FC Tryz.prog 153 [.agg (Zav m), .agg (Zar f), iv pad, .int .u16 w] (.tup [.agg (Zar (landF m f pad w)), iv 0]) := by
  refine Zao tok Tryz.func153 rfl (by decide +kernel) (Nat.le_of_ble_eq_true rfl) ?_
  have hmx : maxL = 4294967296 := rfl
  have hW := c_With { f with block := pad, at_ := 0, fly := w } (padOf m f pad).pad.dst w hd.1 hd.2
  ((repeat' first | refine Zac ?_ | (refine Zab tok (by rfl) ?_; conv => whnf) | (refine Zat tok mix (by rfl) ?_; conv => whnf) | (refine Zag ?_; conv => whnf) | (refine Zah ?_; conv => whnf) | refine Zae rfl (fun hb => ?_) (fun hb => ?_) | (refine @And.intro (Zaa _ _ _ _) _ ?_ ?_; rotate_left; (conv => whnf); rotate_right)); all_goals (try ((guard_target = Zaa _ _ _ _); (first | refine Zaf ?_ | (refine Za8 ?_; intro hgd; (conv at hgd => whnf))); (all_goals (try simp only [Zaa, kzz, kz11, kz12, maxL, Zad] at *)); all_goals omega)))
  · exfalso
    unfold padOf at hl
    rw [decide_eq_false (show ¬ pad < 0 by omega), decide_eq_false (show ¬ ((m.funcs.getD f.f.toNat default).blocks.length : Int) ≤ pad by omega), hl] at hb
    cases hb
  clear hb
  refine .inl ⟨_, _, _, uG (QC.fc hW rfl), ?_⟩
  conv => whnf
  (repeat' (refine Zah ?_; conv => whnf))
  exact ⟨_, rfl, Rel.tup (.cons (Rel.agg (Rels.imm rfl)) (.cons (Rel.imm rfl) .nil))⟩
end Go.Proofs.YtoelbgjpmpoolaaGreat
namespace Go.Proofs.YtoelbgjpmpoolaaGreat
open Go Dv
set_option maxRecDepth 10000
set_option linter.unusedSimpArgs false
structure Mach where
  stack : List Za2
  (cells inputs events : List Int)
  (done value : Int)
deriving Inhabited
def frs (l : List Za2) : AV := .sl 5 l.length fun i => Zar (l.getD i default)
abbrev cw (l : List Int) (k : Nat) : AV := .int .u16 (l.getD k 0)
def Zas (s : Mach) : List AV := [frs s.stack, cw s.cells 0, cw s.cells 1, cw s.cells 2, cw s.cells 3, cw s.cells 4, cw s.cells 5, cw s.cells 6, cw s.cells 7, cw s.cells 8, cw s.cells 9, cw s.cells 10, cw s.cells 11, cw s.cells 12, cw s.cells 13, cw s.cells 14, cw s.cells 15, u16s s.inputs, ints s.events, iv s.done, .int .u16 s.value]
def endM (s : Mach) (how w : Int) : Mach := { s with done := how, value := w }
theorem c_ended (s : Mach) (how w : Int) : FC Tryz.prog 150 [.agg (Zas s), iv how, .int .u16 w] (.agg (Zas (endM s how w))) := by
  refine Zao tok Tryz.func150 rfl (by decide +kernel) (Nat.le_of_ble_eq_true rfl) ?_
  (repeat' first | refine Zac ?_ | (refine Zab tok (by rfl) ?_; conv => whnf) | (refine Zah ?_; conv => whnf))
  exact ⟨_, rfl, Rel.agg (Rels.imm rfl)⟩
def Zdb (m : Zaj) (f : Za2) : Func := m.funcs.getD f.f.toNat default
def Za0 (m : Zaj) (f : Za2) : Zex := (Zdb m f).blocks.getD f.block.toNat default
structure OkF (m : Zaj) (f : Za2) : Prop where
  f0 : 0 ≤ f.f
  f1 : f.f < m.funcs.length
  b0 : 0 ≤ f.block
  b1 : f.block < (Zdb m f).blocks.length
  a0 : 0 ≤ f.at_
  a1 : f.at_ ≤ (Za0 m f).ins.length
  regs : (f.regs.length : Int) = (Zdb m f).regs
theorem c_stands (m : Zaj) (f : Za2) (h : OkF m f) : FC Tryz.prog 105 [.agg (Zav m), .agg (Zar f)] (.tup [.agg (Zbi (Za0 m f)), .bool (decide (f.at_ = (Za0 m f).ins.length))]) := by
  refine Zao tok Tryz.func105 rfl (by decide +kernel) (Nat.le_of_ble_eq_true rfl) ?_
  have h1 := h.f0
  have h2 := h.f1
  have h3 := h.b0
  have h4 : f.block < (m.funcs.getD f.f.toNat default).blocks.length := h.b1
  ((repeat' first | refine Zac ?_ | (refine Zab tok (by rfl) ?_; conv => whnf) | (refine Zat tok mix (by rfl) ?_; conv => whnf) | (refine Zah ?_; conv => whnf) | (refine @And.intro (Zaa _ _ _ _) _ ?_ ?_; rotate_left; (conv => whnf); rotate_right)); all_goals (try ((guard_target = Zaa _ _ _ _); refine Zaf ?_; all_goals omega)))
  exact ⟨_, rfl, Rel.tup (.cons (Rel.agg (Rels.imm rfl)) (.cons (Rel.bool rfl) .nil))⟩
theorem app_two {k z : Nat} {l : List Za2} {x : Za2} {F : Nat → List AV} (hl : l.length = k) (hz : z < k + 1) (hF : ∀ i, i < k → F i = Zar (l.getD i default)) : appR k F (fun i => rowOf 5 (Zar x) (0 + i)) z = Zar ((l ++ [x]).getD z default) := by
  unfold appR
  by_cases e : z < k
  · rw [show Nat.blt z k = true from by rw [Nat.blt_eq]; exact e, cond_true, hF z e]
    simp [List.getD_eq_getElem?_getD, List.getElem?_append_left (show z < l.length by omega)]
  · have e2 : z = l.length := by omega
    subst e2
    rw [show Nat.blt l.length k = false from by rw [Bool.eq_false_iff]; intro h; rw [Nat.blt_eq] at h; omega, cond_false]
    have e3 : l.length - k = 0 := by omega
    rw [e3]
    have e4 : (l ++ [x]).getD l.length default = x := by simp [List.getD_eq_getElem?_getD]
    rw [e4]; rfl
theorem Zb3 {l : List Za2} {k i : Nat} (d : Za2) (h : i < k) : (l.take k).getD i d = l.getD i d := by
  rw [List.getD_eq_getElem?_getD, List.getElem?_take, if_pos h, ← List.getD_eq_getElem?_getD]
def Zbo (s : Mach) (f : Za2) : Mach := { s with stack := s.stack.take (s.stack.length - 1) ++ [f] }
set_option maxHeartbeats 1000000 in
theorem Ze1 (s : Mach) (f : Za2) (h : 0 < s.stack.length) : FC Tryz.prog 110 [.agg (Zas s), .agg (Zar f)] (.agg (Zas (Zbo s f))) := by
  refine Zao tok Tryz.func110 rfl (by decide +kernel) (Nat.le_of_ble_eq_true rfl) ?_
  refine Zaw 0 (fun hl => ?_)
  have hl0 : s.stack.length ≤ maxL := hl.1.1
  have hmx : maxL = 4294967296 := rfl
  clear hl
  ((repeat' first | refine Zac ?_ | (refine Zab tok (by rfl) ?_; conv => whnf) | (refine Zah ?_; conv => whnf) | (refine @And.intro (Zaa _ _ _ _) _ ?_ ?_; rotate_left; (conv => whnf); rotate_right)); all_goals (try ((guard_target = Zaa _ _ _ _); refine Zaf ?_; (first | refine And.intro (Zc5 rfl ?_) ?_ | refine And.intro Zd3 ?_ | skip); (all_goals (try simp only [Zaa, kzz, kz11, kz12, maxL, Zad] at *)); (all_goals (try (simp (disch := omega) only [Zal]))); all_goals omega)))
  have hq : (IntKind.i64.wrap ((s.stack.length : Int) - 1)).toNat = s.stack.length - 1 := by rw [Zal (by omega) (by omega)]; omega
  have hk : 0 + ((IntKind.i64.wrap ((s.stack.length : Int) - 1)).toNat - Int.toNat 0) = s.stack.length - 1 := by rw [hq]; simp
  refine ⟨_, rfl, Rel.agg (.cons (Rel.row rfl ?_ ?_ (fun z hz => ?_)) (Rels.imm rfl))⟩
  · rfl
  · rw [hk]; simp [Zbo]
  · rw [hk, show (Zbo s f).stack = s.stack.take (s.stack.length - 1) ++ [f] from rfl]
    simp only [allB, Zca, Bool.true_and, Bool.and_true, Bool.and_self, cond_true]
    refine app_two (l := s.stack.take (s.stack.length - 1)) (by simp) (by simp [Zbo] at hz; omega) (fun i hi => ?_)
    show Zar (s.stack.getD (Int.toNat 0 + i) default) = _
    rw [show Int.toNat 0 + i = i from Nat.zero_add i, Zb3 _ hi]
end Go.Proofs.YtoelbgjpmpoolaaGreat
namespace Go.Proofs.YtoelbgjpmpoolaaGreat
open Go Dv
set_option maxRecDepth 10000
set_option linter.unusedSimpArgs false
def endB (m : Zaj) (f : Za2) : Bool := decide (f.at_ = (Za0 m f).ins.length)
def padF (m : Zaj) (f : Za2) : Pad := ((Zdb m f).blocks.getD (Za0 m f).fin.pad.toNat default).pad
def Zeg (m : Zaj) (f : Za2) (w : Int) (c : Bool) : Bool := endB m f && (decide ((Za0 m f).fin.kind = 4) && (catchF (padF m f) w || (c && (padF m f).cleanup)))
set_option maxHeartbeats 1000000 in
theorem c_catcher (m : Zaj) (f : Za2) (w : Int) (c : Bool) (h : OkF m f) (hp : (Za0 m f).fin.kind = 4 → 0 ≤ (Za0 m f).fin.pad ∧ (Za0 m f).fin.pad < (Zdb m f).blocks.length) :
    FC Tryz.prog 152 [.agg (Zav m), .agg (Zar f), .int .u16 w, .bool c] (.bool (Zeg m f w c)) := by
  refine Zao tok Tryz.func152 rfl (by decide +kernel) (Nat.le_of_ble_eq_true rfl) ?_
  have h1 := h.f0
  have h2 := h.f1
  have hS := c_stands m f h
  have hgen : ∃ b, Za0 m f = b := ⟨_, rfl⟩
  obtain ⟨b, hbe⟩ := hgen
  have hC := c_Catches (padF m f) w
  have hpf : padF m f = ((m.funcs.getD f.f.toNat default).blocks.getD b.fin.pad.toNat default).pad := by unfold padF Zdb; rw [hbe]
  have hpl : b.fin.kind = 4 → 0 ≤ b.fin.pad ∧ b.fin.pad < (m.funcs.getD f.f.toNat default).blocks.length := by rw [← hbe]; exact hp
  unfold Zeg endB
  rw [hbe] at hS ⊢
  (repeat' first | refine Zac ?_ | (refine Zab tok (by rfl) ?_; conv => whnf))
  refine .inl ⟨_, _, _, uG (QC.fc hS rfl), ?_⟩
  conv => whnf
  ((repeat' first | refine Zac ?_ | (refine Zab tok (by rfl) ?_; conv => whnf) | (refine Zat tok mix (by rfl) ?_; conv => whnf) | (refine Zag ?_; conv => whnf) | (refine Zah ?_; conv => whnf) | refine Zae rfl (fun hb => ?_) (fun hb => ?_) | (refine @And.intro (Zaa _ _ _ _) _ ?_ ?_; rotate_left; (conv => whnf); rotate_right)); all_goals (try ((guard_target = Zaa _ _ _ _); refine Zaf ?_; (all_goals (try simp only [Zaa, kzz, kz11, kz12, maxL, Zad] at *)); all_goals omega)))
  · refine ⟨_, rfl, Rel.bool ?_⟩
    by_cases e1 : f.at_ = (b.ins.length : Int) <;> by_cases e2 : b.fin.kind = 4 <;> simp [e1, e2] at hb ⊢
  have he : f.at_ = (b.ins.length : Int) ∧ b.fin.kind = 4 := by
    by_cases e1 : f.at_ = (b.ins.length : Int) <;> by_cases e2 : b.fin.kind = 4 <;> simp [e1, e2] at hb ⊢
  clear hb
  obtain ⟨hp0, hp1⟩ := hpl he.2
  have hcall : ∀ p, p = padF m f → FC Tryz.prog 193 [.agg (Zd8 p), .int .u16 w] (.bool (catchF (padF m f) w)) := fun p e => by rw [e]; exact c_Catches _ _
  skip
  refine .inl ⟨_, _, _, uG (QC.fc (hcall ((m.funcs.getD f.f.toNat default).blocks.getD b.fin.pad.toNat default).pad hpf.symm) rfl), ?_⟩
  conv => whnf
  (repeat' (refine Zah ?_; conv => whnf))
  refine ⟨_, rfl, Rel.bool ?_⟩
  rw [hpf, decide_eq_true he.1, decide_eq_true he.2]
  cases catchF ((m.funcs.getD f.f.toNat default).blocks.getD b.fin.pad.toNat default).pad w <;> cases c <;> simp
def topF (s : Mach) : Za2 := s.stack.getD (s.stack.length - 1) default
def Zb1 (f : Za2) (l : List Int) : List Int := l.map fun p => f.regs.getD p.toNat 0
def Zb2 (m : Zaj) (s : Mach) (n : Int) (places : List Int) : Mach := if 32 ≤ s.stack.length then endM s 5 0 else { s with stack := s.stack ++ [frN m n (Zb1 (topF s) places)] }
theorem Zcz {α : Type} (d : α) {l : List α} {i : Nat} (h : i < l.length) : l.getD i d ∈ l := by rw [Zb5 d h]; exact List.getElem_mem h
set_option maxHeartbeats 2000000 in
theorem c_rcalled (m : Zaj) (s : Mach) (n : Int) (places : List Int) (h : 0 < s.stack.length) (h0 : 0 ≤ n) (h1 : n < m.funcs.length) (hp : (places.length : Int) = (m.funcs.getD n.toNat default).params) (hR : (m.funcs.getD n.toNat default).regs ≤ 256)
    (hpl : ∀ p ∈ places, 0 ≤ p ∧ p < (topF s).regs.length) : FC Tryz.prog 108 [.agg (Zav m), .agg (Zas s), iv n, ints places] (.agg (Zas (Zb2 m s n places))) := by
  refine Zao tok Tryz.func108 rfl (by decide +kernel) (Nat.le_of_ble_eq_true rfl) ?_
  refine Zaw 1 (fun hl => ?_)
  have hl0 : s.stack.length ≤ maxL := hl.1.1
  refine Zaw 3 (fun hl => ?_)
  have hl1 : places.length ≤ maxL := hl.1
  have hmx : maxL = 4294967296 := rfl
  clear hl
  have hN := c_frNew m n (Zb1 (topF s) places) h0 h1 (by unfold Zb1; rw [List.length_map]; exact hp) hR
  have hq : (IntKind.i64.wrap ((s.stack.length : Int) - 1)).toNat = s.stack.length - 1 := by rw [Zal (by omega) (by omega)]; omega
  have ht : s.stack.getD (IntKind.i64.wrap ((s.stack.length : Int) - 1)).toNat default = topF s := by rw [hq]; rfl
  have hgen : ∃ t, topF s = t := ⟨_, rfl⟩
  obtain ⟨t, hte⟩ := hgen
  rw [hte] at ht hpl hN
  (repeat' ((fail_if_success (show AWp _ _ _ (Code.region 3 _ _) _ _)); first | refine Zac ?_ | (refine Zab tok (by rfl) ?_; conv => whnf) | (refine Zag ?_; conv => whnf) | refine Zae rfl (fun hb => ?_) (fun hb => ?_)))
  · have h32 : 32 ≤ s.stack.length := by simp only [decide_eq_true_eq] at hb; omega
    clear hb
    rw [show Zb2 m s n places = endM s 5 0 from if_pos h32]
    refine .inl ⟨_, _, _, uG (QC.fc (c_ended s 5 0) rfl), ?_⟩
    conv => whnf
    (repeat' (refine Zah ?_; conv => whnf))
    exact ⟨_, rfl, Rel.agg (Rels.imm rfl)⟩
  have h32 : ¬ 32 ≤ s.stack.length := by simp only [decide_eq_false_iff_not] at hb; omega
  clear hb
  rw [show Zb2 m s n places = { s with stack := s.stack ++ [frN m n (Zb1 (topF s) places)] } from if_neg h32, hte]
  ((repeat' ((fail_if_success (show AWp _ _ _ (Code.region 6 _ _) _ _)); first | refine Zac ?_ | (refine Zab tok (by rfl) ?_; conv => whnf) | refine Zai ?_ | (refine @And.intro (Zaa _ _ _ _) _ ?_ ?_; rotate_left; (conv => whnf); rotate_right))); all_goals (try ((guard_target = Zaa _ _ _ _); refine Zaf ?_; (all_goals (try simp only [Zaa, kzz, kz11, kz12, maxL, Zad] at *)); (all_goals (try (simp (disch := omega) only [Zal]))); all_goals omega)))
  refine Za1 (fun j : Nat => mkS [(2, iv n), (3, ints places), (4, .bp (4, 0, 0) 0), (5, .bp (5, 0, 0) 0), (8, .bp (8, 0, 0) 0), (9, .bp (9, 0, 0) 0), (10, .rs (101, 0, 0) 1 0 j), (11, iv j)] [((4, 0, 0), Zam (Zav m)), ((5, 0, 0), Zam (Zas s)), ((8, 0, 0), Zam [.nsl, .int .u16 0, .int .u16 0, .int .u16 0, .int .u16 0, .int .u16 0, .int .u16 0, .int .u16 0, .int .u16 0, .int .u16 0, .int .u16 0, .int .u16 0, .int .u16 0, .int .u16 0, .int .u16 0, .int .u16 0, .int .u16 0, .nsl, .nsl, iv 0, .int .u16 0]), ((9, 0, 0), .row true 5 1 (fun _ => Zar t)), ((101, 0, 0), .row true 1 j (fun q => [.int .u16 ((Zb1 t places).getD q 0)]))]) (fun j => j ≤ places.length) (fun j => places.length - j) 0 (Nat.zero_le _) ?_ ?_
  · refine Weak.list [((4, 0, 0), .old (4, 0, 0), Zam (Zav m)), ((5, 0, 0), .old (5, 0, 0), Zam (Zas s)), ((8, 0, 0), .old (8, 0, 0), Zam [.nsl, .int .u16 0, .int .u16 0, .int .u16 0, .int .u16 0, .int .u16 0, .int .u16 0, .int .u16 0, .int .u16 0, .int .u16 0, .int .u16 0, .int .u16 0, .int .u16 0, .int .u16 0, .int .u16 0, .int .u16 0, .int .u16 0, .nsl, .nsl, iv 0, .int .u16 0]), ((9, 0, 0), .old (9, 0, 0), .row true 5 1 (fun _ => Zar t)), ((101, 0, 0), .nil, .row true 1 0 (fun q => [.int .u16 ((Zb1 t places).getD q 0)]))] rfl (by rfl) ?_ (.old rfl (BLe.refl _) (.old rfl (BLe.refl _) (.old rfl (BLe.refl _) (.old rfl (BLe.rowW (Nat.le_refl _) (ltS (Wks.of (by rw [← ht]; rfl)) lt0)) (.new .nil)))))
    ((repeat' first | exact TLes.nil | refine TLes.cons (TLe.eq rfl) ?_ | refine TLes.cons (TLe.nilL rfl ?_) ?_); (all_goals first | rfl | skip))
  intro j hj
  (repeat' ((fail_if_success (show AWp _ _ _ (Code.region 8 _ _) _ _)); first | refine Zac ?_ | (refine Zab tok (by rfl) ?_; conv => whnf) | refine Zai ?_ | (refine Zag ?_; conv => whnf) | (refine Za3 ?_; conv => whnf) | refine Zae rfl (fun hb => ?_) (fun hb => ?_)))
  · have hlt : j < places.length := by simp only [decide_eq_true_eq] at hb; omega
    clear hb
    have hjz : (j : Int).toNat = j := by simp
    have hpj := hpl _ (Zcz 0 hlt)
    have hpj' : 0 ≤ places.getD (j : Int).toNat 0 ∧ places.getD (j : Int).toNat 0 < t.regs.length := by rw [hjz]; exact hpj
    have hv : t.regs.getD (places.getD (j : Int).toNat 0).toNat 0 = (Zb1 t places).getD j 0 := by
      unfold Zb1
      rw [hjz, List.getD_eq_getElem?_getD (l := places.map _), List.getElem?_map, List.getElem?_eq_getElem hlt, Zb5 0 hlt]; rfl
    ((repeat' first | (refine Zab tok (by rfl) ?_; conv => whnf) | (refine Zat tok mix (by rfl) ?_; conv => whnf) | (refine @And.intro (Zaa _ _ _ _) _ ?_ ?_; rotate_left; (conv => whnf); rotate_right)); all_goals (try ((guard_target = Zaa _ _ _ _); refine Zaf ?_; (first | refine And.intro (Zc5 rfl ?_) ?_ | skip); (all_goals (try simp only [Zaa, kzz, kz11, kz12, maxL, Zad] at *)); all_goals omega)))
    refine ⟨j + 1, hlt, by omega, ?_⟩
    refine Weak.list [((4, 0, 0), .old (4, 0, 0), Zam (Zav m)), ((5, 0, 0), .old (5, 0, 0), Zam (Zas s)), ((8, 0, 0), .old (8, 0, 0), Zam [.nsl, .int .u16 0, .int .u16 0, .int .u16 0, .int .u16 0, .int .u16 0, .int .u16 0, .int .u16 0, .int .u16 0, .int .u16 0, .int .u16 0, .int .u16 0, .int .u16 0, .int .u16 0, .int .u16 0, .int .u16 0, .int .u16 0, .nsl, .nsl, iv 0, .int .u16 0]), ((9, 0, 0), .old (9, 0, 0), .row true 5 1 (fun _ => Zar t)), ((101, 0, 0), .old (44, 0, 0), .row true 1 (j + 1) (fun q => [.int .u16 ((Zb1 t places).getD q 0)]))] rfl (by rfl) ?_ (.old rfl (BLe.refl _) (.old rfl (BLe.refl _) (.old rfl (BLe.refl _) (.old rfl (BLe.refl _) (.old rfl (BLe.rowW (Nat.le_refl _) (fun z hz => Wks.of (by simp only [allB, Zca, Bool.true_and, Bool.and_true, Bool.and_self, cond_true]; exact appF hz hv))) .nil)))))
    ((repeat' first | exact TLes.nil | refine TLes.cons (TLe.eq rfl) ?_ | refine TLes.cons (TLe.int ?_) ?_); (all_goals first | ((try (simp only [Zaa, kzz, kz11, kz12, maxL, Zad] at *)); exact Zal (by omega) (by omega)) | skip))
  · have hjl : j = places.length := by simp only [decide_eq_false_iff_not] at hb; omega
    clear hb
    subst hjl
    have hal : (Zb1 t places).length = places.length := by simp [Zb1]
    skip
    refine .inr ⟨_, _, _, uG (QH.give (rd := [(101, 0, 0)]) hN (.cons (.imm rfl) (.cons (.imm rfl) (.cons (.row rfl (.head _) rfl hal.symm (fun q hq => rfl)) .nil))) rfl), ?_⟩
    conv => whnf
    (repeat' ((fail_if_success (show AWp _ _ _ (Code.region 10 _ _) _ _)); refine Zac ?_))
    refine Zc9 tok mix (by rfl) [1, 2, 4, 7] 20 (by rfl) (by rfl) (by rfl) ?_
    conv => whnf
    repeat' first
      | (refine @And.intro (Zaa _ _ _ _) _ ?_ ?_; rotate_left; (conv => whnf); rotate_right)
      | (guard_target = And _ _; refine @And.intro (gOp _ _ _ _ _ _ _ _ _) _ (by (conv => whnf); exact ⟨rfl, rfl⟩) ?_; conv => whnf)
      | (guard_target = And _ _; refine And.intro ?_ ?_ <;> (conv => whnf))
    all_goals (try ((guard_target = Zaa _ _ _ _); refine Zaf ?_; (first | refine And.intro (Zc5 rfl ?_) ?_ | refine And.intro Zd3 ?_ | skip); (all_goals (try simp only [Zaa, kzz, kz11, kz12, maxL, Zad] at *)); all_goals omega))
    all_goals (repeat' first | refine Zac ?_ | (refine Zab tok (by rfl) ?_; conv => whnf) | (refine Zah ?_; conv => whnf))
    all_goals refine ⟨_, rfl, Rel.agg (.cons (Rel.row rfl ?_ ?_ (fun z hz => ?_)) (Rels.imm rfl))⟩
    all_goals first
      | rfl
      | (show 0 + s.stack.length + 1 = (s.stack ++ [frN m n (Zb1 t places)]).length; simp; done)
      | (have hz' : z < (s.stack ++ [frN m n (Zb1 t places)]).length := hz
         rw [Nat.zero_add]
         simp only [allB, Zca, Bool.true_and, Bool.and_true, Bool.and_self, cond_true]
         exact app_two (l := s.stack) rfl (by simp at hz'; omega) (fun i hi => rfl))
end Go.Proofs.YtoelbgjpmpoolaaGreat
namespace Go.Proofs.YtoelbgjpmpoolaaGreat
open Go Dv
set_option maxRecDepth 10000
set_option linter.unusedSimpArgs false
abbrev Zbz : List AV := [.nsl, .int .u16 0, .int .u16 0, .int .u16 0, .int .u16 0, .int .u16 0, .int .u16 0, .int .u16 0, .int .u16 0, .int .u16 0, .int .u16 0, .int .u16 0, .int .u16 0, .int .u16 0, .int .u16 0, .int .u16 0, .int .u16 0, .nsl, .nsl, iv 0, .int .u16 0]
def popM (s : Mach) : Mach := { s with stack := s.stack.take (s.stack.length - 1) }
theorem Zct {s : Mach} : (popM s).stack.length = s.stack.length - 1 := by simp [popM]
def answF (m : Zaj) (f : Za2) (w : Int) : Za2 :=
  if endB m f = true then { frW f (Za0 m f).fin.dst w with block := (Za0 m f).fin.to, at_ := 0 }
  else { frW f ((Za0 m f).ins.getD f.at_.toNat default).dst w with at_ := f.at_ + 1 }
def Zbw (m : Zaj) (s : Mach) (w : Int) : Mach := if s.stack.length = 1 then endM (popM s) 1 w else Zbo (popM s) (answF m (topF (popM s)) w)
theorem wk_pop {s : Mach} {n : Nat} (hn : n = s.stack.length - 1) : Wk (.sl 5 n (fun i => (fun i => Zar (s.stack.getD i default)) (Int.toNat 0 + i))) (frs (popM s).stack) := by
  subst hn
  refine .sl Zct.symm (fun i hi => ?_)
  show Zar (s.stack.getD (Int.toNat 0 + i) default) = Zar ((s.stack.take (s.stack.length - 1)).getD i default)
  rw [show Int.toNat 0 + i = i from Nat.zero_add i, Zb3 _ hi]
set_option maxHeartbeats 2000000 in
theorem c_answered (m : Zaj) (s : Mach) (w : Int) (h : 0 < s.stack.length) (hF : 1 < s.stack.length → OkF m (topF (popM s))) (hat : 1 < s.stack.length → (topF (popM s)).at_ < 1000000)
    (hd1 : 1 < s.stack.length → endB m (topF (popM s)) = true → 0 ≤ (Za0 m (topF (popM s))).fin.dst ∧ (Za0 m (topF (popM s))).fin.dst < (topF (popM s)).regs.length)
    (hd2 : 1 < s.stack.length → endB m (topF (popM s)) = false → 0 ≤ ((Za0 m (topF (popM s))).ins.getD (topF (popM s)).at_.toNat default).dst ∧ ((Za0 m (topF (popM s))).ins.getD (topF (popM s)).at_.toNat default).dst < (topF (popM s)).regs.length) :
    FC Tryz.prog 107 [.agg (Zav m), .agg (Zas s), .int .u16 w] (.agg (Zas (Zbw m s w))) := by
  refine Zao tok Tryz.func107 rfl (by decide +kernel) (Nat.le_of_ble_eq_true rfl) ?_
  refine Zaw 1 (fun hl => ?_)
  have hl0 : s.stack.length ≤ maxL := hl.1.1
  have hmx : maxL = 4294967296 := rfl
  clear hl
  have hq : (IntKind.i64.wrap ((s.stack.length : Int) - 1)).toNat = s.stack.length - 1 := by rw [Zal (by omega) (by omega)]; omega
  have hpl := Zct (s := s)
  ((repeat' ((fail_if_success (show AWp _ _ _ (Code.region 2 _ _) _ _)); first | refine Zac ?_ | (refine Zab tok (by rfl) ?_; conv => whnf) | (refine @And.intro (Zaa _ _ _ _) _ ?_ ?_; rotate_left; (conv => whnf); rotate_right))); all_goals (try ((guard_target = Zaa _ _ _ _); refine Zaf ?_; (all_goals (try simp only [Zaa, kzz, kz11, kz12, maxL, Zad] at *)); (all_goals (try (simp (disch := omega) only [Zal]))); all_goals omega)))
  refine Zau (Weak.list (tl := [(2, .int .u16 w), (3, .bp (3, 0, 0) 0), (4, .bp (4, 0, 0) 0), (6, .bp (6, 0, 0) 0)]) [((3, 0, 0), .old (3, 0, 0), Zam (Zav m)), ((4, 0, 0), .old (4, 0, 0), Zam (Zas (popM s))), ((6, 0, 0), .old (6, 0, 0), Zam Zbz)] rfl (by rfl) ?_ (.old rfl (BLe.refl _) (.old rfl (BLe.rowW (Nat.le_refl _) (ltS (.cons (wk_pop (by rw [hq]; simp)) (Wks.refl _)) lt0)) (.old rfl (BLe.refl _) .nil)))) ?_
  · ((repeat' first | exact TLes.nil | refine TLes.cons (TLe.eq rfl) ?_); skip)
  (repeat' ((fail_if_success (show AWp _ _ _ (Code.region 3 _ _) _ _)); (fail_if_success (show AWp _ _ _ (Code.region 4 _ _) _ _)); first | refine Zac ?_ | (refine Zab tok (by rfl) ?_; conv => whnf) | (refine Zag ?_; conv => whnf) | refine Zae rfl (fun hb => ?_) (fun hb => ?_)))
  · have h1 : s.stack.length = 1 := by rw [hpl] at hb; simp only [decide_eq_true_eq] at hb; omega
    rw [show Zbw m s w = endM (popM s) 1 w from if_pos h1]
    (repeat' (refine Zab tok (by rfl) ?_; conv => whnf))
    refine .inl ⟨_, _, _, uG (QC.fc (c_ended (popM s) 1 w) rfl), ?_⟩
    conv => whnf
    (repeat' (refine Zah ?_; conv => whnf))
    exact ⟨_, rfl, Rel.agg (Rels.imm rfl)⟩
  have h1 : ¬ s.stack.length = 1 := by rw [hpl] at hb; simp only [decide_eq_false_iff_not] at hb; omega
  clear hb
  have h2 : 1 < s.stack.length := by omega
  have hOk := hF h2
  have hat1 := hat h2
  have hd1 := hd1 h2
  have hd2 := hd2 h2
  have hp0 : 0 < (popM s).stack.length := by omega
  have hpm : (popM s).stack.length ≤ maxL := by omega
  rw [show Zbw m s w = Zbo (popM s) (answF m (topF (popM s)) w) from if_neg h1]
  have ht : (popM s).stack.getD (IntKind.i64.wrap (((popM s).stack.length : Int) - 1)).toNat default = topF (popM s) := by
    have : (IntKind.i64.wrap (((popM s).stack.length : Int) - 1)).toNat = (popM s).stack.length - 1 := by rw [Zal (by omega) (by omega)]; omega
    rw [this]; rfl
  have hwith := fun g => Ze1 (popM s) g hp0
  have hgen : ∃ t, topF (popM s) = t := ⟨_, rfl⟩
  obtain ⟨t, hte⟩ := hgen
  rw [hte] at ht hOk hat1 hd1 hd2 ⊢
  have hSt := c_stands m t hOk
  have ha0 := hOk.a0
  have ha1 := hOk.a1
  have hgen : ∃ b, Za0 m t = b := ⟨_, rfl⟩
  obtain ⟨b, hbe⟩ := hgen
  have hE : endB m t = decide (t.at_ = b.ins.length) := by unfold endB; rw [hbe]
  rw [hbe] at hSt ha1 hd1 hd2
  ((repeat' ((fail_if_success (show AWp _ _ _ (Code.region 5 _ _) _ _)); first | refine Zac ?_ | (refine Zab tok (by rfl) ?_; conv => whnf) | (refine @And.intro (Zaa _ _ _ _) _ ?_ ?_; rotate_left; (conv => whnf); rotate_right))); all_goals (try ((guard_target = Zaa _ _ _ _); refine Zaf ?_; (all_goals (try simp only [Zaa, kzz, kz11, kz12, maxL, Zad] at *)); (all_goals (try (simp (disch := omega) only [Zal]))); all_goals omega)))
  refine Zau (Weak.list (tl := [(2, .int .u16 w), (3, .bp (3, 0, 0) 0), (4, .bp (4, 0, 0) 0), (6, .bp (6, 0, 0) 0), (7, .bp (7, 0, 0) 0)]) [((3, 0, 0), .old (3, 0, 0), Zam (Zav m)), ((4, 0, 0), .old (4, 0, 0), Zam (Zas (popM s))), ((6, 0, 0), .old (6, 0, 0), Zam Zbz), ((7, 0, 0), .old (7, 0, 0), .row true 5 1 (fun _ => Zar t))] rfl (by rfl) ?_ (.old rfl (BLe.refl _) (.old rfl (BLe.refl _) (.old rfl (BLe.refl _) (.old rfl (BLe.rowW (Nat.le_refl _) (ltS (Wks.of (by rw [← ht]; rfl)) lt0)) .nil))))) ?_
  · ((repeat' first | exact TLes.nil | refine TLes.cons (TLe.eq rfl) ?_); skip)
  (repeat' (refine Zab tok (by rfl) ?_; conv => whnf))
  refine .inl ⟨_, _, _, uG (QC.fc hSt rfl), ?_⟩
  conv => whnf
  ((repeat' first | refine Zac ?_ | (refine Zab tok (by rfl) ?_; conv => whnf) | (refine Zat tok mix (by rfl) ?_; conv => whnf) | refine Zae rfl (fun hb => ?_) (fun hb => ?_) | (refine @And.intro (Zaa _ _ _ _) _ ?_ ?_; rotate_left; (conv => whnf); rotate_right)); all_goals (try ((guard_target = Zaa _ _ _ _); refine Zaf ?_; (all_goals (try simp only [Zaa, kzz, kz11, kz12, maxL, Zad] at *)); all_goals omega)))
  · have he : endB m t = true := by rw [hE]; exact hb
    clear hb
    obtain ⟨g1, g2⟩ := hd1 he
    refine .inl ⟨_, _, _, uG (QC.fc (c_With t b.fin.dst w g1 g2) rfl), ?_⟩
    conv => whnf
    (repeat' first | refine Zac ?_ | (refine Zab tok (by rfl) ?_; conv => whnf))
    have hA : answF m t w = { frW t b.fin.dst w with block := b.fin.to, at_ := 0 } := by unfold answF; rw [if_pos he, hbe]
    rw [hA]
    refine .inl ⟨_, _, _, uG (QC.fc (hwith { frW t b.fin.dst w with block := b.fin.to, at_ := 0 }) rfl), ?_⟩
    conv => whnf
    (repeat' (refine Zah ?_; conv => whnf))
    exact ⟨_, rfl, Rel.agg (Rels.imm rfl)⟩
  · have he : endB m t = false := by rw [hE]; exact hb
    obtain ⟨g1, g2⟩ := hd2 he
    have hlt : t.at_ < b.ins.length := by simp only [decide_eq_false_iff_not] at hb; omega
    clear hb
    skip
    refine .inl ⟨_, _, _, uG (QC.fc (c_With t (b.ins.getD t.at_.toNat default).dst w g1 g2) rfl), ?_⟩
    conv => whnf
    (repeat' first | refine Zac ?_ | (refine Zab tok (by rfl) ?_; conv => whnf))
    have hA : answF m t w = { frW t (b.ins.getD t.at_.toNat default).dst w with at_ := IntKind.i64.wrap (t.at_ + 1) } := by
      unfold answF
      rw [if_neg (by rw [he]; simp), hbe, Zal (by omega) (by omega)]
    rw [hA]
    refine .inl ⟨_, _, _, uG (QC.fc (hwith { frW t (b.ins.getD t.at_.toNat default).dst w with at_ := IntKind.i64.wrap (t.at_ + 1) }) rfl), ?_⟩
    conv => whnf
    (repeat' (refine Zah ?_; conv => whnf))
    exact ⟨_, rfl, Rel.agg (Rels.imm rfl)⟩
end Go.Proofs.YtoelbgjpmpoolaaGreat
namespace Go.Proofs.YtoelbgjpmpoolaaGreat
open Go Dv Go.Sort
set_option maxRecDepth 10000
set_option linter.unusedSimpArgs false
theorem Zdv {d : Array Int} {i j : Nat} : ∀ x y, x = d[i]! → y = d[j]! → FC Tryz.prog 235 [.int .u16 x, .int .u16 y] (.bool (ltInt d[i]! d[j]!)) := fun x y h1 h2 => by rw [h1, h2]; exact c_Less _ _
theorem Zbb {d : Array Int} {e : Nat} {i : Nat} (h : e = i) : d[e]! = d[i]! := by rw [h]
theorem c_reverse (n : Nat) (d0 : Array Int) (a b : Nat) (hn : d0.size = n) (ha : a < b) (hb0 : b ≤ n) :
    HC Tryz.prog [i0] 233 [(i0, arow n d0)] [.rs i0 1 0 n, iv a, iv b] (.tup []) [(i0, arow n (reverseRange d0 a b))] := by
  refine Zcd tok Tryz.func233 rfl (by decide +kernel) (Nat.le_of_ble_eq_true rfl) ?_
  refine Zaw 0 (fun hl => ?_)
  have hl0 : n ≤ 4294967296 := hl
  (repeat' first | refine Zac ?_ | (refine Zab tok (by rfl) ?_; conv => whnf) | refine Zai ?_)
  refine Za1 (fun q : (Nat × Nat) × Array Int => mkS [(0, .rs i0 1 0 n), (6, iv q.1.1), (7, iv q.1.2)] [(i0, arow n q.2)])
    (fun q => q.1.1 ≤ n ∧ q.1.2 < n ∧ q.2.size = n ∧ reverseLoop q.1.1 q.1.2 q.2 = reverseRange d0 a b) (fun q => q.1.2 - q.1.1) ((a, b - 1), d0) ⟨by simp; omega, by simp; omega, hn, rfl⟩ ?_ ?_
  · refine Weak.list [(i0, .old i0, arow n d0)] rfl (by rfl) ?_ (.old rfl (BLe.refl _) .nil)
    ((repeat' first | exact TLes.nil | refine TLes.cons (TLe.eq rfl) ?_ | refine TLes.cons (TLe.int ?_) ?_); (all_goals first | ((try (simp only [Zaa, kzz, kz11, kz12, maxL, Zad] at *)); (simp (disch := omega) only [Zal]; omega)) | skip))
  rintro ⟨⟨i, j⟩, d⟩ ⟨hi1, hj1, hd, hR⟩
  simp only at hi1 hj1 hd hR ⊢
  ((repeat' first | refine Zac ?_ | (refine Zab tok (by rfl) ?_; conv => whnf) | (refine Zat tok mix (by rfl) ?_; conv => whnf) | refine Zai ?_ | (refine Zag ?_; conv => whnf) | (refine Za3 ?_; conv => whnf) | refine Zae rfl (fun hb => ?_) (fun hb => ?_) | (refine @And.intro (Zaa _ _ _ _) _ ?_ ?_; rotate_left; (conv => whnf); rotate_right)); all_goals (try ((guard_target = Zaa _ _ _ _); refine Zaf ?_; (all_goals (try simp only [Zaa, kzz, kz11, kz12, maxL, Zad] at *)); all_goals omega)))
  · have hij : i < j := by simp only [Zaa, kzz, kz11, kz12, maxL, Zad] at *; omega
    refine ⟨((i + 1, j - 1), swp d i j), ⟨by simp; omega, by simp; omega, by rw [Zb4]; exact hd, ?_⟩, by simp; omega, ?_⟩
    · rw [← hR]; conv => rhs; unfold reverseLoop
      rw [if_pos hij]
    refine Weak.list [(i0, .old i0, arow n (swp d i j))] rfl (by rfl) ?_ (.old rfl (BLe.row rfl (fun x hx => ?_)) .nil)
    · ((repeat' first | exact TLes.nil | refine TLes.cons (TLe.eq rfl) ?_ | refine TLes.cons (TLe.int ?_) ?_); (all_goals first | ((try (simp only [Zaa, kzz, kz11, kz12, maxL, Zad] at *)); first | exact Zal (by omega) (by omega) | (simp (disch := omega) only [Zal]; omega)) | skip))
    · exact Zda (d := d) (i := i) (j := j) (by omega) (by omega) (by simp) (by simp) (Zbb (by simp)) (Zbb (by simp)) x
  · have hij : ¬ i < j := by simp only [Zaa, kzz, kz11, kz12, maxL, Zad] at *; omega
    have : reverseRange d0 a b = d := by rw [← hR]; unfold reverseLoop; rw [if_neg hij]
    rw [this]
    exact ⟨_, [(i0, .old i0, arow n d)], rfl, rfl, rfl, rfl, .old rfl (BLe.refl _) .nil, .eq rfl⟩
theorem siftDown_size : ∀ (k hi first root : Nat) (d : Array Int), hi - root ≤ k → (siftDown ltInt hi first root d).size = d.size := by
  intro k
  induction k with
  | zero =>
    intro hi first root d h
    unfold siftDown; rw [dif_pos (by omega)]
  | succ k ih =>
    intro hi first root d h
    unfold siftDown
    split
    · rfl
    · rename_i h1
      split
      · split
        · rfl
        · split
          · rw [ih _ _ _ _ (by omega), Zb4]
          · rfl
      · split
        · rfl
        · rw [ih _ _ _ _ (by omega), Zb4]
theorem c_sift (n : Nat) (d0 : Array Int) (root hi first : Nat) (hn : d0.size = n) (hf : first + hi ≤ n) (hr : root ≤ n) :
    HC Tryz.prog [i0] 239 [(i0, arow n d0)] [.rs i0 1 0 n, iv root, iv hi, iv first] (.tup []) [(i0, arow n (siftDown ltInt hi first root d0))] := by
  refine Zcd tok Tryz.func239 rfl (by decide +kernel) (Nat.le_of_ble_eq_true rfl) ?_
  refine Zaw 0 (fun hl => ?_)
  have hl0 : n ≤ 4294967296 := hl
  (repeat' first | refine Zac ?_ | (refine Zab tok (by rfl) ?_; conv => whnf) | refine Zai ?_)
  refine Za1 (fun q : Nat × Array Int => mkS [(0, .rs i0 1 0 n), (2, iv hi), (3, iv first), (8, iv q.1)] [(i0, arow n q.2)])
    (fun q => q.1 ≤ n ∧ q.2.size = n ∧ siftDown ltInt hi first q.1 q.2 = siftDown ltInt hi first root d0) (fun q => n - q.1) (root, d0) ⟨hr, hn, rfl⟩ ?_ ?_
  · refine Weak.list [(i0, .old i0, arow n d0)] rfl (by rfl) ?_ (.old rfl (BLe.refl _) .nil)
    ((repeat' first | exact TLes.nil | refine TLes.cons (TLe.eq rfl) ?_); skip)
  rintro ⟨r, d⟩ ⟨hr1, hd, hR⟩
  simp only at hr1 hd hR ⊢
  (repeat' ((fail_if_success (show AWp _ _ _ (Code.region 3 _ _) _ _)); first | refine Zac ?_ | (refine Zab tok (by rfl) ?_; conv => whnf) | refine Zai ?_ | (refine Zag ?_; conv => whnf) | (refine Za3 ?_; conv => whnf) | refine Zae rfl (fun hb => ?_) (fun hb => ?_)))
  · have hex : hi ≤ 2 * r + 1 := by simp (disch := omega) only [Zal] at hb; simp only [Zaa, kzz, kz11, kz12, maxL, Zad] at *; omega
    have : siftDown ltInt hi first root d0 = d := by rw [← hR]; unfold siftDown; rw [dif_pos hex]
    rw [this]
    exact ⟨_, [(i0, .old i0, arow n d)], rfl, rfl, rfl, rfl, .old rfl (BLe.refl _) .nil, .eq rfl⟩
  · have hex : 2 * r + 1 < hi := by simp (disch := omega) only [Zal] at hb; simp only [Zaa, kzz, kz11, kz12, maxL, Zad] at *; omega
    clear hb
    refine Zau (Weak.list (tl := [(0, .rs i0 1 0 n), (2, iv hi), (3, iv first), (8, iv r), (9, iv ((2 * r + 1 : Nat) : Int))]) [(i0, .old i0, arow n d)] rfl (by rfl) ?_ (.old rfl (BLe.refl _) .nil)) ?_
    · ((repeat' first | exact TLes.nil | refine TLes.cons (TLe.eq rfl) ?_ | refine TLes.cons (TLe.int ?_) ?_); (all_goals first | ((simp (disch := omega) only [Zal]; omega)) | skip))
    ((repeat' first | (refine Zat tok mix (by rfl) ?_; conv => whnf) | (refine @And.intro (Zaa _ _ _ _) _ ?_ ?_; rotate_left; (conv => whnf); rotate_right)); all_goals (try ((guard_target = Zaa _ _ _ _); ((refine Za8 ?_; intro hgd; (conv at hgd => whnf); (try simp (disch := omega) only [Zal] at hgd))); (all_goals (try simp only [Zaa, kzz, kz11, kz12, maxL, Zad] at *)); (all_goals (try (simp (disch := omega) only [Zal]))); all_goals omega)))
    have h2 : ∀ k : Nat, first + k < n → d[0 + (IntKind.i64.wrap ((first : Int) + (k : Int))).toNat]! = d[first + k]! := fun k hk => by simp (disch := omega) only [Zal]; exact Zbb (by omega)
    have h3 : d[0 + (IntKind.i64.wrap (IntKind.i64.wrap ((first : Int) + ((2 * r + 1 : Nat) : Int)) + 1)).toNat]! = d[first + (2 * r + 1) + 1]! := by simp (disch := omega) only [Zal]; exact Zbb (by omega)
    refine .inl ⟨_, _, _, uG (QC.fc (Zdv (d := d) (i := first + (2 * r + 1)) (j := first + (2 * r + 1) + 1) _ _ (h2 _ (by omega)) h3) rfl), ?_⟩
    conv => whnf
    skip
    refine Zdp (fun c : Nat => mkS [(0, .rs i0 1 0 n), (2, iv hi), (3, iv first), (8, iv r), (9, iv c)] [(i0, arow n d)])
      (fun c => r < c ∧ c < hi ∧ siftDown ltInt hi first r d = if (!ltInt d[first + r]! d[first + c]!) = true then d else siftDown ltInt hi first c (swp d (first + r) (first + c))) ?_ ?_
    · (repeat' first | (refine Zab tok (by rfl) ?_; conv => whnf) | (refine Zag ?_; conv => whnf) | refine Zae rfl (fun hb => ?_) (fun hb => ?_))
      · have hc : 2 * r + 1 + 1 < hi ∧ ltInt d[first + (2 * r + 1)]! d[first + (2 * r + 1) + 1]! = true := by
          rw [Zal (by omega) (by omega)] at hb
          by_cases h1 : 2 * r + 1 + 1 < hi
          · rw [decide_eq_true (by omega)] at hb; exact ⟨h1, hb⟩
          · rw [decide_eq_false (by omega)] at hb; cases hb
        refine ⟨2 * r + 2, ⟨by omega, by omega, ?_⟩, Weak.list [(i0, .old i0, arow n d)] rfl (by rfl) ?_ (.old rfl (BLe.refl _) .nil)⟩
        · conv => lhs; unfold siftDown
          rw [dif_neg (by omega), if_pos (by simp [hc]), dif_pos (by omega)]
        · ((repeat' first | exact TLes.nil | refine TLes.cons (TLe.eq rfl) ?_ | refine TLes.cons (TLe.int ?_) ?_); (all_goals first | ((try (simp only [Zaa, kzz, kz11, kz12, maxL, Zad] at *)); exact Zal (by omega) (by omega)) | skip))
      · have hc : ¬ (2 * r + 1 + 1 < hi ∧ ltInt d[first + (2 * r + 1)]! d[first + (2 * r + 1) + 1]! = true) := by
          rw [Zal (by omega) (by omega)] at hb
          rintro ⟨h1, h4⟩
          rw [decide_eq_true (by omega), h4] at hb; cases hb
        refine ⟨2 * r + 1, ⟨by omega, by omega, ?_⟩, Weak.list [(i0, .old i0, arow n d)] rfl (by rfl) ?_ (.old rfl (BLe.refl _) .nil)⟩
        · conv => lhs; unfold siftDown
          rw [dif_neg (by omega), if_neg (by simpa using hc)]
        · ((repeat' first | exact TLes.nil | refine TLes.cons (TLe.eq rfl) ?_); skip)
    rintro c ⟨hc1, hc2, hc3⟩ τ hτ
    refine Zau hτ ?_
    conv => whnf
    ((repeat' first | refine Zac ?_ | (refine Zat tok mix (by rfl) ?_; conv => whnf) | (refine @And.intro (Zaa _ _ _ _) _ ?_ ?_; rotate_left; (conv => whnf); rotate_right)); all_goals (try ((guard_target = Zaa _ _ _ _); refine Zaf ?_; (all_goals (try simp only [Zaa, kzz, kz11, kz12, maxL, Zad] at *)); (all_goals (try (simp (disch := omega) only [Zal]))); all_goals omega)))
    refine .inl ⟨_, _, _, uG (QC.fc (Zdv (d := d) (i := first + r) (j := first + c) _ _ (h2 _ (by omega)) (h2 _ (by omega))) rfl), ?_⟩
    conv => whnf
    ((repeat' first | refine Zac ?_ | (refine Zab tok (by rfl) ?_; conv => whnf) | (refine Zat tok mix (by rfl) ?_; conv => whnf) | (refine Zag ?_; conv => whnf) | (refine Zah ?_; conv => whnf) | refine Zae rfl (fun hb => ?_) (fun hb => ?_) | (refine @And.intro (Zaa _ _ _ _) _ ?_ ?_; rotate_left; (conv => whnf); rotate_right)); all_goals (try ((guard_target = Zaa _ _ _ _); refine Zaf ?_; (all_goals (try simp only [Zaa, kzz, kz11, kz12, maxL, Zad] at *)); (all_goals (try (simp (disch := omega) only [Zal]))); all_goals omega)))
    · have : siftDown ltInt hi first root d0 = d := by rw [← hR, hc3, if_pos hb]
      rw [this]
      exact ⟨_, [(i0, .old i0, arow n d)], rfl, rfl, rfl, rfl, .old rfl (BLe.refl _) .nil, .eq rfl⟩
    · refine ⟨(c, swp d (first + r) (first + c)), ⟨by simp; omega, by rw [Zb4]; exact hd, ?_⟩, by simp; omega, ?_⟩
      · rw [← hR, hc3, if_neg (by rw [hb]; simp)]
      refine Weak.list [(i0, .old i0, arow n (swp d (first + r) (first + c)))] rfl (by rfl) ?_ (.old rfl (BLe.row rfl (fun x hx => ?_)) .nil)
      · ((repeat' first | exact TLes.nil | refine TLes.cons (TLe.eq rfl) ?_); skip)
      · exact Zda (d := d) (i := first + r) (j := first + c) (by omega) (by omega) (by simp (disch := omega) only [Zal]; omega) (by simp (disch := omega) only [Zal]; omega) (h2 _ (by omega)) (h2 _ (by omega)) x
theorem c_heap (n : Nat) (d0 : Array Int) (a b : Nat) (hn : d0.size = n) (ha : a ≤ b) (hb0 : b ≤ n) :
    HC Tryz.prog [i0] 230 [(i0, arow n d0)] [.rs i0 1 0 n, iv a, iv b] (.tup []) [(i0, arow n (heapSort ltInt d0 a b))] := by
  refine Zcd tok Tryz.func230 rfl (by decide +kernel) (Nat.le_of_ble_eq_true rfl) ?_
  refine Zaw 0 (fun hl => ?_)
  have hl0 : n ≤ 4294967296 := hl
  obtain ⟨K, hK⟩ : ∃ K, K = (b - a - 1) / 2 + 1 := ⟨_, rfl⟩
  have hhs : heapSort ltInt d0 a b = heapPop ltInt a (b - a) (heapBuild ltInt (b - a) a K d0) := by rw [hK]; rfl
  ((repeat' first | refine Zac ?_ | (refine Zab tok (by rfl) ?_; conv => whnf) | refine Zai ?_ | (refine @And.intro (Zaa _ _ _ _) _ ?_ ?_; rotate_left; (conv => whnf); rotate_right)); all_goals (try ((guard_target = Zaa _ _ _ _); refine Zaf ?_; all_goals omega)))
  refine Za1 (fun q : Nat × Array Int => mkS [(0, .rs i0 1 0 n), (6, iv a), (7, iv 0), (8, iv ((b - a : Nat) : Int)), (9, iv ((q.1 : Int) - 1))] [(i0, arow n q.2)])
    (fun q => q.1 ≤ K ∧ q.2.size = n ∧ heapBuild ltInt (b - a) a q.1 q.2 = heapBuild ltInt (b - a) a K d0) (fun q => q.1) (K, d0) ⟨Nat.le_refl _, hn, rfl⟩ ?_ ?_
  · refine Weak.list [(i0, .old i0, arow n d0)] rfl (by rfl) ?_ (.old rfl (BLe.refl _) .nil)
    ((repeat' first | exact TLes.nil | refine TLes.cons (TLe.eq rfl) ?_ | refine TLes.cons (TLe.int ?_) ?_); (all_goals first | ((try (simp only [Zaa, kzz, kz11, kz12, maxL, Zad] at *)); (simp (disch := omega) only [Zal]; omega)) | skip))
    show _ = (K : Int) - 1
    rw [Zal (x := (b : Int) - a) (by omega) (by omega), Zal (x := (b : Int) - a - 1) (by omega) (by omega)]
    by_cases e : a = b
    · subst e
      have : K = 1 := by omega
      subst this
      rw [Int.sub_self]; rfl
    · rw [Int.tdiv_eq_ediv_of_nonneg (by omega), Zal (by omega) (by omega)]
      omega
  rintro ⟨k, d⟩ ⟨hk, hd, hR⟩
  simp only at hk hd hR ⊢
  (repeat' first | refine Zac ?_ | (refine Zab tok (by rfl) ?_; conv => whnf) | refine Zai ?_ | (refine Zag ?_; conv => whnf) | (refine Za3 ?_; conv => whnf) | refine Zae rfl (fun hb => ?_) (fun hb => ?_))
  · have hk1 : 1 ≤ k := by simp only [Zaa, kzz, kz11, kz12, maxL, Zad] at *; omega
    obtain ⟨k, rfl⟩ : ∃ j, k = j + 1 := ⟨k - 1, by omega⟩
    have hcall : ∀ z : Int, z = (k : Int) → HC Tryz.prog [i0] 239 [(i0, arow n d)] [.rs i0 1 0 n, iv z, iv ((b - a : Nat) : Int), iv a] (.tup []) [(i0, arow n (siftDown ltInt (b - a) a k d))] := fun z e => e ▸ c_sift n d k (b - a) a hd (by omega) (by omega)
    refine .inr ⟨_, _, _, uG (QH.of (dead := []) [(i0, .old i0, arow n d)] (hcall _ (by simp)) rfl (.old rfl (BLe.refl _) .nil) (.cons (.eq rfl) (.cons (.eq rfl) (.cons (.eq rfl) (.cons (.eq rfl) .nil)))) [(i0, i0)] rfl (.cons rfl (BLe.refl _) .nil) rfl), ?_⟩
    conv => whnf
    (repeat' (refine Zab tok (by rfl) ?_; conv => whnf))
    refine ⟨(k, siftDown ltInt (b - a) a k d), ⟨by simp; omega, by rw [siftDown_size _ _ _ _ _ (Nat.le_refl _)]; exact hd, hR⟩, by simp, ?_⟩
    refine Weak.list [(i0, .old i0, arow n (siftDown ltInt (b - a) a k d))] rfl (by rfl) ?_ (.old rfl (BLe.refl _) .nil)
    ((repeat' first | exact TLes.nil | refine TLes.cons (TLe.eq rfl) ?_ | refine TLes.cons (TLe.int ?_) ?_); (all_goals first | ((try (simp only [Zaa, kzz, kz11, kz12, maxL, Zad] at *)); (simp (disch := omega) only [Zal]; omega)) | skip))
  · have hk0 : k = 0 := by simp only [Zaa, kzz, kz11, kz12, maxL, Zad] at *; omega
    subst hk0
    have hd1 : d = heapBuild ltInt (b - a) a K d0 := hR
    rw [← hd1] at hhs
    clear hR hd1
    refine Za1 (fun q : Nat × Array Int => mkS [(0, .rs i0 1 0 n), (6, iv a), (7, iv 0), (10, iv ((q.1 : Int) - 1))] [(i0, arow n q.2)])
      (fun q => q.1 ≤ b - a ∧ q.2.size = n ∧ heapPop ltInt a q.1 q.2 = heapSort ltInt d0 a b) (fun q => q.1) (b - a, d) ⟨Nat.le_refl _, hd, hhs.symm⟩ ?_ ?_
    · refine Weak.list [(i0, .old i0, arow n d)] rfl (by rfl) ?_ (.old rfl (BLe.refl _) .nil)
      ((repeat' first | exact TLes.nil | refine TLes.cons (TLe.eq rfl) ?_ | refine TLes.cons (TLe.int ?_) ?_); (all_goals first | ((try (simp only [Zaa, kzz, kz11, kz12, maxL, Zad] at *)); exact Zal (by omega) (by omega)) | skip))
    rintro ⟨k, e⟩ ⟨hk, he, hS⟩
    simp only at hk he hS ⊢
    ((repeat' ((fail_if_success (show AWp _ _ _ (Code.region 11 _ _) _ _)); first | refine Zac ?_ | (refine Zab tok (by rfl) ?_; conv => whnf) | (refine Zat tok mix (by rfl) ?_; conv => whnf) | refine Zai ?_ | (refine Zag ?_; conv => whnf) | (refine Za3 ?_; conv => whnf) | refine Zae rfl (fun hb => ?_) (fun hb => ?_) | (refine @And.intro (Zaa _ _ _ _) _ ?_ ?_; rotate_left; (conv => whnf); rotate_right))); all_goals (try ((guard_target = Zaa _ _ _ _); refine Zaf ?_; (all_goals (try simp only [Zaa, kzz, kz11, kz12, maxL, Zad] at *)); (all_goals (try (simp (disch := omega) only [Zal]))); all_goals omega)))
    · have hk1 : 1 ≤ k := by simp only [Zaa, kzz, kz11, kz12, maxL, Zad] at *; omega
      obtain ⟨k, rfl⟩ : ∃ j, k = j + 1 := ⟨k - 1, by omega⟩
      refine Zau (Weak.list (tl := [(0, .rs i0 1 0 n), (6, iv a), (7, iv 0), (10, iv k)]) [(i0, .old i0, arow n (swp e a (a + k)))] rfl (by rfl) ?_ (.old rfl (BLe.row rfl (fun x hx => ?_)) .nil)) ?_
      · ((repeat' first | exact TLes.nil | refine TLes.cons (TLe.eq rfl) ?_ | refine TLes.cons (TLe.int ?_) ?_); (all_goals first | ((try (simp only [Zaa, kzz, kz11, kz12, maxL, Zad] at *)); omega) | skip))
      · have h2 : e[0 + (IntKind.i64.wrap ((a : Int) + (((k + 1 : Nat) : Int) - 1))).toNat]! = e[a + k]! := by simp (disch := omega) only [Zal]; exact Zbb (by omega)
        exact Zda (d := e) (i := a) (j := a + k) (by omega) (by omega) (by simp) (by simp (disch := omega) only [Zal]; omega) h2 (Zbb (by simp)) x
      (repeat' (refine Zab tok (by rfl) ?_; conv => whnf))
      refine .inr ⟨_, _, _, uG (QH.of (dead := []) [(i0, .old i0, arow n (swp e a (a + k)))] (c_sift n (swp e a (a + k)) 0 k a (by rw [Zb4]; exact he) (by omega) (by omega)) rfl (.old rfl (BLe.refl _) .nil) (.cons (.eq rfl) (.cons (.eq rfl) (.cons (.eq rfl) (.cons (.eq rfl) .nil)))) [(i0, i0)] rfl (.cons rfl (BLe.refl _) .nil) rfl), ?_⟩
      conv => whnf
      (repeat' (refine Zab tok (by rfl) ?_; conv => whnf))
      refine ⟨(k, siftDown ltInt k a 0 (swp e a (a + k))), ⟨by simp; omega, by rw [siftDown_size _ _ _ _ _ (Nat.le_refl _), Zb4]; exact he, hS⟩, by simp, ?_⟩
      refine Weak.list [(i0, .old i0, arow n (siftDown ltInt k a 0 (swp e a (a + k))))] rfl (by rfl) ?_ (.old rfl (BLe.refl _) .nil)
      ((repeat' first | exact TLes.nil | refine TLes.cons (TLe.eq rfl) ?_ | refine TLes.cons (TLe.int ?_) ?_); (all_goals first | ((try (simp only [Zaa, kzz, kz11, kz12, maxL, Zad] at *)); exact Zal (by omega) (by omega)) | skip))
    · have hk0 : k = 0 := by simp only [Zaa, kzz, kz11, kz12, maxL, Zad] at *; omega
      subst hk0
      have : heapSort ltInt d0 a b = e := hS.symm
      rw [this]
      exact ⟨_, [(i0, .old i0, arow n e)], rfl, rfl, rfl, rfl, .old rfl (BLe.refl _) .nil, .eq rfl⟩
end Go.Proofs.YtoelbgjpmpoolaaGreat
namespace Go.Proofs.YtoelbgjpmpoolaaGreat
open Go Dv Go.Sort
set_option maxRecDepth 10000
set_option linter.unusedSimpArgs false
abbrev crow (s : Nat) : Zan := .row true 1 1 (fun _ => [iv s])
theorem c_order2 (n : Nat) (d : Array Int) (a b s : Nat) (hn : d.size = n) (ha : a < n) (hb0 : b < n) (hs : s ≤ 1000) :
    HC Tryz.prog [i0, i1] 243 [(i0, arow n d), (i1, crow s)] [.rs i0 1 0 n, iv a, iv b, .bp i1 0] (.tup [iv (order2 ltInt d a b s).1, iv (order2 ltInt d a b s).2.1]) [(i0, arow n d), (i1, crow (order2 ltInt d a b s).2.2)] := by
  refine Zcd tok Tryz.func243 rfl (by decide +kernel) (Nat.le_of_ble_eq_true rfl) ?_
  refine Zaw 0 (fun hl => ?_)
  have hl0 : n ≤ 4294967296 := hl
  ((repeat' first | refine Zac ?_ | (refine Zab tok (by rfl) ?_; conv => whnf) | (refine Zat tok mix (by rfl) ?_; conv => whnf) | (refine @And.intro (Zaa _ _ _ _) _ ?_ ?_; rotate_left; (conv => whnf); rotate_right)); all_goals (try ((guard_target = Zaa _ _ _ _); refine Zaf ?_; (all_goals (try simp only [Zaa, kzz, kz11, kz12, maxL, Zad] at *)); all_goals omega)))
  refine .inl ⟨_, _, _, uG (QC.fc (Zdv (d := d) (i := b) (j := a) _ _ (Zbb (by simp)) (Zbb (by simp))) rfl), ?_⟩
  conv => whnf
  (repeat' first | refine Zac ?_ | (refine Zab tok (by rfl) ?_; conv => whnf) | (refine Zag ?_; conv => whnf) | (refine Zah ?_; conv => whnf) | refine Zae rfl (fun hb => ?_) (fun hb => ?_))
  · have e : order2 ltInt d a b s = (b, a, s + 1) := if_pos hb
    rw [e]
    refine ⟨_, [(i0, .old i0, arow n d), (i1, .old i1, crow (s + 1))], rfl, rfl, rfl, rfl, .old rfl (BLe.refl _) (.old rfl (BLe.row rfl (fun x hx => ?_)) .nil), .eq rfl⟩
    match x, hx with
    | 0, _ =>
      show [iv (IntKind.i64.wrap ((s : Int) + 1))] = [iv ((s + 1 : Nat) : Int)]
      rw [Zal (by omega) (by omega)]; rfl
  · have e : order2 ltInt d a b s = (a, b, s) := if_neg (by rw [hb]; simp)
    rw [e]
    exact ⟨_, [(i0, .old i0, arow n d), (i1, .old i1, crow s)], rfl, rfl, rfl, rfl, .old rfl (BLe.refl _) (.old rfl (BLe.refl _) .nil), .eq rfl⟩
theorem order2_in {n : Nat} (d : Array Int) {a b s : Nat} (ha : a < n) (hb : b < n) : (order2 ltInt d a b s).1 < n ∧ (order2 ltInt d a b s).2.1 < n ∧ (order2 ltInt d a b s).2.2 ≤ s + 1 := by
  unfold order2; split
  · exact ⟨hb, ha, Nat.le_refl _⟩
  · exact ⟨ha, hb, Nat.le_succ _⟩
theorem c_median (n : Nat) (d : Array Int) (a b c s : Nat) (hn : d.size = n) (ha : a < n) (hb0 : b < n) (hc0 : c < n) (hs : s ≤ 100) :
    HC Tryz.prog [i0, i1] 241 [(i0, arow n d), (i1, crow s)] [.rs i0 1 0 n, iv a, iv b, iv c, .bp i1 0] (iv (median ltInt d a b c s).1) [(i0, arow n d), (i1, crow (median ltInt d a b c s).2)] := by
  refine Zcd tok Tryz.func241 rfl (by decide +kernel) (Nat.le_of_ble_eq_true rfl) ?_
  (repeat' first | refine Zac ?_ | (refine Zab tok (by rfl) ?_; conv => whnf))
  have e : median ltInt d a b c s = ((order2 ltInt d (order2 ltInt d a b s).1 (order2 ltInt d (order2 ltInt d a b s).2.1 c (order2 ltInt d a b s).2.2).1 (order2 ltInt d (order2 ltInt d a b s).2.1 c (order2 ltInt d a b s).2.2).2.2).2.1,
    (order2 ltInt d (order2 ltInt d a b s).1 (order2 ltInt d (order2 ltInt d a b s).2.1 c (order2 ltInt d a b s).2.2).1 (order2 ltInt d (order2 ltInt d a b s).2.1 c (order2 ltInt d a b s).2.2).2.2).2.2) := rfl
  rw [e]
  have b1 := order2_in (n := n) d (s := s) ha hb0
  have c1 := c_order2 n d a b s hn ha hb0 (by omega)
  generalize order2 ltInt d a b s = r1 at b1 c1 ⊢
  have b2 := order2_in (n := n) d (s := r1.2.2) b1.2.1 hc0
  have c2 := c_order2 n d r1.2.1 c r1.2.2 hn b1.2.1 hc0 (by omega)
  generalize order2 ltInt d r1.2.1 c r1.2.2 = r2 at b2 c2 ⊢
  have c3 := c_order2 n d r1.1 r2.1 r2.2.2 hn b1.1 b2.1 (by omega)
  generalize order2 ltInt d r1.1 r2.1 r2.2.2 = r3 at c3 ⊢
  refine .inr ⟨_, _, _, uG (QH.of (dead := []) [(i0, .old i0, arow n d), (i1, .old i1, crow s)] c1 rfl (.old rfl (BLe.refl _) (.old rfl (BLe.refl _) .nil)) (.cons (.eq rfl) (.cons (.eq rfl) (.cons (.eq rfl) (.cons (.eq rfl) .nil)))) [(i0, i0), (i1, i1)] rfl (.cons rfl (BLe.refl _) (.cons rfl (BLe.refl _) .nil)) rfl), ?_⟩
  conv => whnf
  (repeat' first | refine Zac ?_ | (refine Zab tok (by rfl) ?_; conv => whnf))
  refine .inr ⟨_, _, _, uG (QH.of (dead := []) [(i0, .old i0, arow n d), (i1, .old i1, crow r1.2.2)] c2 rfl (.old rfl (BLe.refl _) (.old rfl (BLe.refl _) .nil)) (.cons (.eq rfl) (.cons (.eq rfl) (.cons (.eq rfl) (.cons (.eq rfl) .nil)))) [(i0, i0), (i1, i1)] rfl (.cons rfl (BLe.refl _) (.cons rfl (BLe.refl _) .nil)) rfl), ?_⟩
  conv => whnf
  (repeat' first | refine Zac ?_ | (refine Zab tok (by rfl) ?_; conv => whnf))
  refine .inr ⟨_, _, _, uG (QH.of (dead := []) [(i0, .old i0, arow n d), (i1, .old i1, crow r2.2.2)] c3 rfl (.old rfl (BLe.refl _) (.old rfl (BLe.refl _) .nil)) (.cons (.eq rfl) (.cons (.eq rfl) (.cons (.eq rfl) (.cons (.eq rfl) .nil)))) [(i0, i0), (i1, i1)] rfl (.cons rfl (BLe.refl _) (.cons rfl (BLe.refl _) .nil)) rfl), ?_⟩
  conv => whnf
  (repeat' first | refine Zac ?_ | (refine Zab tok (by rfl) ?_; conv => whnf) | (refine Zah ?_; conv => whnf))
  exact ⟨_, [(i0, .old i0, arow n d), (i1, .old i1, crow r3.2.2)], rfl, rfl, rfl, rfl, .old rfl (BLe.refl _) (.old rfl (BLe.refl _) .nil), .eq rfl⟩
theorem median_in {n : Nat} (d : Array Int) {a b c s : Nat} (ha : a < n) (hb : b < n) (hc : c < n) : (median ltInt d a b c s).1 < n ∧ (median ltInt d a b c s).2 ≤ s + 3 := by
  have b1 := order2_in (n := n) d (s := s) ha hb
  have b2 := order2_in (n := n) d (s := (order2 ltInt d a b s).2.2) b1.2.1 hc
  have b3 := order2_in (n := n) d (s := (order2 ltInt d (order2 ltInt d a b s).2.1 c (order2 ltInt d a b s).2.2).2.2) b1.1 b2.1
  exact ⟨b3.2.1, by have := b3.2.2; have := b2.2.2; have := b1.2.2; show (order2 ltInt d _ _ _).2.2 ≤ _; omega⟩
theorem c_medAdj (n : Nat) (d : Array Int) (a s : Nat) (hn : d.size = n) (h1 : 1 ≤ a) (ha : a + 1 < n) (hs : s ≤ 100) :
    HC Tryz.prog [i0, i1] 240 [(i0, arow n d), (i1, crow s)] [.rs i0 1 0 n, iv a, .bp i1 0] (iv (medianAdjacent ltInt d a s).1) [(i0, arow n d), (i1, crow (medianAdjacent ltInt d a s).2)] := by
  refine Zcd tok Tryz.func240 rfl (by decide +kernel) (Nat.le_of_ble_eq_true rfl) ?_
  refine Zaw 0 (fun hl => ?_)
  have hl0 : n ≤ 4294967296 := hl
  (repeat' first | refine Zac ?_ | (refine Zab tok (by rfl) ?_; conv => whnf))
  have hcall : ∀ x y : Int, x = ((a - 1 : Nat) : Int) → y = ((a + 1 : Nat) : Int) → HC Tryz.prog [i0, i1] 241 [(i0, arow n d), (i1, crow s)] [.rs i0 1 0 n, iv x, iv a, iv y, .bp i1 0] (iv (median ltInt d (a - 1) a (a + 1) s).1) [(i0, arow n d), (i1, crow (median ltInt d (a - 1) a (a + 1) s).2)] :=
    fun x y e1 e2 => by rw [e1, e2]; exact c_median n d (a - 1) a (a + 1) s hn (by omega) (by omega) (by omega) hs
  refine .inr ⟨_, _, _, uG (QH.of (dead := []) [(i0, .old i0, arow n d), (i1, .old i1, crow s)] (hcall _ _ (by simp (disch := omega) only [Zal]; omega) (by simp (disch := omega) only [Zal]; omega)) rfl (.old rfl (BLe.refl _) (.old rfl (BLe.refl _) .nil)) (.cons (.eq rfl) (.cons (.eq rfl) (.cons (.eq rfl) (.cons (.eq rfl) (.cons (.eq rfl) .nil))))) [(i0, i0), (i1, i1)] rfl (.cons rfl (BLe.refl _) (.cons rfl (BLe.refl _) .nil)) rfl), ?_⟩
  conv => whnf
  (repeat' (refine Zah ?_; conv => whnf))
  exact ⟨_, [(i0, .old i0, arow n d), (i1, .old i1, crow (medianAdjacent ltInt d a s).2)], rfl, rfl, rfl, rfl, .old rfl (BLe.refl _) (.old rfl (BLe.refl _) .nil), .eq rfl⟩
end Go.Proofs.YtoelbgjpmpoolaaGreat
namespace Go.Proofs.YtoelbgjpmpoolaaGreat
open Go Dv Go.Sort
set_option maxRecDepth 10000
set_option linter.unusedSimpArgs false
def hintI : Hint → Int
  | .unknown => 0
  | .increasing => 1
  | .decreasing => 2
theorem c_choose (n : Nat) (d : Array Int) (a b : Nat) (hn : d.size = n) (ha : a < b) (hb0 : b ≤ n) :
    HC Tryz.prog [i0] 232 [(i0, arow n d)] [.rs i0 1 0 n, iv a, iv b] (.tup [iv (choosePivot ltInt d a b).1, iv (hintI (choosePivot ltInt d a b).2)]) [(i0, arow n d)] := by
  refine Zcd tok Tryz.func232 rfl (by decide +kernel) (Nat.le_of_ble_eq_true rfl) ?_
  refine Zaw 0 (fun hl => ?_)
  have hl0 : n ≤ 4294967296 := hl
  ((repeat' ((fail_if_success (show AWp _ _ _ (Code.region 6 _ _) _ _)); first | refine Zac ?_ | (refine Zab tok (by rfl) ?_; conv => whnf) | (refine @And.intro (Zaa _ _ _ _) _ ?_ ?_; rotate_left; (conv => whnf); rotate_right))); all_goals (try ((guard_target = Zaa _ _ _ _); refine Zaf ?_; all_goals omega)))
  obtain ⟨l, hl1⟩ : ∃ l, l = b - a := ⟨_, rfl⟩
  have e1 : IntKind.i64.wrap ((b : Int) - (a : Int)) = (l : Int) := by rw [Zal (by omega) (by omega)]; omega
  have e2 : ((l : Int)).tdiv 4 = ((l / 4 : Nat) : Int) := by rw [Int.tdiv_eq_ediv_of_nonneg (by omega)]; omega
  refine Zau (Weak.list (tl := [(0, .rs i0 1 0 n), (6, iv 0), (7, iv 0), (8, iv l), (9, .bp (9, 0, 0) 0), (10, iv ((a + l / 4 * 1 : Nat) : Int)), (11, iv ((a + l / 4 * 2 : Nat) : Int)), (12, iv ((a + l / 4 * 3 : Nat) : Int))]) [(i0, .old i0, arow n d), ((9, 0, 0), .old (9, 0, 0), crow 0)] rfl (by rfl) ?_ (.old rfl (BLe.refl _) (.old rfl (BLe.refl _) .nil))) ?_
  · ((repeat' first | exact TLes.nil | refine TLes.cons (TLe.eq rfl) ?_ | refine TLes.cons (TLe.int ?_) ?_); (all_goals first | (omega) | skip))
    · rw [e1, e2, Zal (x := ((l / 4 : Nat) : Int)) (by omega) (by omega), Zal (x := ((l / 4 : Nat) : Int) * 1) (by omega) (by omega), Zal (by omega) (by omega)]; omega
    · rw [e1, e2, Zal (x := ((l / 4 : Nat) : Int)) (by omega) (by omega), Zal (x := ((l / 4 : Nat) : Int) * 2) (by omega) (by omega), Zal (by omega) (by omega)]; omega
    · rw [e1, e2, Zal (x := ((l / 4 : Nat) : Int)) (by omega) (by omega), Zal (x := ((l / 4 : Nat) : Int) * 3) (by omega) (by omega), Zal (by omega) (by omega)]; omega
  obtain ⟨i, hi⟩ : ∃ i, i = a + l / 4 * 1 := ⟨_, rfl⟩
  obtain ⟨j, hj⟩ : ∃ j, j = a + l / 4 * 2 := ⟨_, rfl⟩
  obtain ⟨k, hk⟩ : ∃ k, k = a + l / 4 * 3 := ⟨_, rfl⟩
  obtain ⟨R, hR⟩ : ∃ R : Nat × Nat, R = if l ≥ 8 then (if l ≥ 50 then
      median ltInt d (medianAdjacent ltInt d i 0).1 (medianAdjacent ltInt d j (medianAdjacent ltInt d i 0).2).1 (medianAdjacent ltInt d k (medianAdjacent ltInt d j (medianAdjacent ltInt d i 0).2).2).1 (medianAdjacent ltInt d k (medianAdjacent ltInt d j (medianAdjacent ltInt d i 0).2).2).2
      else median ltInt d i j k 0) else (j, 0) := ⟨_, rfl⟩
  have hch : choosePivot ltInt d a b = (R.1, if R.2 = 0 then .increasing else if R.2 = 12 then .decreasing else .unknown) := by
    rw [hR, hi, hj, hk, hl1]; rfl
  rw [hch]
  rw [← hi, ← hj, ← hk]
  (repeat' (refine Zab tok (by rfl) ?_; conv => whnf))
  refine Zdp (fun q : Nat × Nat => mkS [(0, .rs i0 1 0 n), (6, iv 0), (7, iv 0), (9, .bp (9, 0, 0) 0), (11, iv q.1)] [(i0, arow n d), ((9, 0, 0), crow q.2)]) (fun q => q = R) ?_ ?_
  · (repeat' first | refine Zac ?_ | (refine Zab tok (by rfl) ?_; conv => whnf) | (refine Zag ?_; conv => whnf) | refine Zae rfl (fun hb => ?_) (fun hb => ?_))
    · have h50 : 50 ≤ l := by simp only [Zaa, kzz, kz11, kz12, maxL, Zad] at *; omega
      have m1 := median_in (n := n) d (a := i - 1) (b := i) (c := i + 1) (s := 0) (by omega) (by omega) (by omega)
      have c1 := c_medAdj n d i 0 hn (by omega) (by omega) (by omega)
      rw [if_pos (by omega), if_pos h50] at hR
      change _ ∧ (medianAdjacent ltInt d i 0).2 ≤ _ at m1
      change (medianAdjacent ltInt d i 0).1 < _ ∧ _ at m1
      generalize medianAdjacent ltInt d i 0 = r1 at m1 c1 hR
      have m2 := median_in (n := n) d (a := j - 1) (b := j) (c := j + 1) (s := r1.2) (by omega) (by omega) (by omega)
      have c2 := c_medAdj n d j r1.2 hn (by omega) (by omega) (by omega)
      change (medianAdjacent ltInt d j r1.2).1 < _ ∧ (medianAdjacent ltInt d j r1.2).2 ≤ _ at m2
      generalize medianAdjacent ltInt d j r1.2 = r2 at m2 c2 hR
      have m3 := median_in (n := n) d (a := k - 1) (b := k) (c := k + 1) (s := r2.2) (by omega) (by omega) (by omega)
      have c3 := c_medAdj n d k r2.2 hn (by omega) (by omega) (by omega)
      change (medianAdjacent ltInt d k r2.2).1 < _ ∧ (medianAdjacent ltInt d k r2.2).2 ≤ _ at m3
      generalize medianAdjacent ltInt d k r2.2 = r3 at m3 c3 hR
      have c4 := c_median n d r1.1 r2.1 r3.1 r3.2 hn m1.1 m2.1 m3.1 (by omega)
      rw [← hR] at c4
      refine .inr ⟨_, _, _, uG (QH.of (dead := []) [(i0, .old i0, arow n d), (i1, .old (9, 0, 0), crow 0)] (c1) rfl (.old rfl (BLe.refl _) (.old rfl (BLe.refl _) .nil)) (.cons (.eq rfl) (.cons (.eq rfl) (.cons (.eq rfl) .nil))) [(i0, i0), (i1, (9, 0, 0))] rfl (.cons rfl (BLe.refl _) (.cons rfl (BLe.refl _) .nil)) rfl), ?_⟩
      conv => whnf
      (repeat' first | refine Zac ?_ | (refine Zab tok (by rfl) ?_; conv => whnf))
      refine .inr ⟨_, _, _, uG (QH.of (dead := []) [(i0, .old i0, arow n d), (i1, .old (9, 0, 0), crow r1.2)] (c2) rfl (.old rfl (BLe.refl _) (.old rfl (BLe.refl _) .nil)) (.cons (.eq rfl) (.cons (.eq rfl) (.cons (.eq rfl) .nil))) [(i0, i0), (i1, (9, 0, 0))] rfl (.cons rfl (BLe.refl _) (.cons rfl (BLe.refl _) .nil)) rfl), ?_⟩
      conv => whnf
      (repeat' (refine Zab tok (by rfl) ?_; conv => whnf))
      refine .inr ⟨_, _, _, uG (QH.of (dead := []) [(i0, .old i0, arow n d), (i1, .old (9, 0, 0), crow r2.2)] (c3) rfl (.old rfl (BLe.refl _) (.old rfl (BLe.refl _) .nil)) (.cons (.eq rfl) (.cons (.eq rfl) (.cons (.eq rfl) .nil))) [(i0, i0), (i1, (9, 0, 0))] rfl (.cons rfl (BLe.refl _) (.cons rfl (BLe.refl _) .nil)) rfl), ?_⟩
      conv => whnf
      (repeat' (refine Zab tok (by rfl) ?_; conv => whnf))
      refine .inr ⟨_, _, _, uG (QH.of (dead := []) [(i0, .old i0, arow n d), (i1, .old (9, 0, 0), crow r3.2)] (c4) rfl (.old rfl (BLe.refl _) (.old rfl (BLe.refl _) .nil)) (.cons (.eq rfl) (.cons (.eq rfl) (.cons (.eq rfl) (.cons (.eq rfl) (.cons (.eq rfl) .nil))))) [(i0, i0), (i1, (9, 0, 0))] rfl (.cons rfl (BLe.refl _) (.cons rfl (BLe.refl _) .nil)) rfl), ?_⟩
      conv => whnf
      skip
      refine ⟨R, rfl, Weak.list [(i0, .old i0, arow n d), ((9, 0, 0), .old (9, 0, 0), crow R.2)] rfl (by rfl) ?_ (.old rfl (BLe.refl _) (.old rfl (BLe.refl _) .nil))⟩
      ((repeat' first | exact TLes.nil | refine TLes.cons (TLe.eq rfl) ?_); skip)
    · have h8 : 8 ≤ l ∧ l < 50 := by simp only [Zaa, kzz, kz11, kz12, maxL, Zad] at *; omega
      have c4 := c_median n d i j k 0 hn (by omega) (by omega) (by omega) (by omega)
      rw [if_pos (by omega), if_neg (by omega)] at hR
      rw [← hR] at c4
      refine .inr ⟨_, _, _, uG (QH.of (dead := []) [(i0, .old i0, arow n d), (i1, .old (9, 0, 0), crow 0)] (c4) rfl (.old rfl (BLe.refl _) (.old rfl (BLe.refl _) .nil)) (.cons (.eq rfl) (.cons (.eq rfl) (.cons (.eq rfl) (.cons (.eq rfl) (.cons (.eq rfl) .nil))))) [(i0, i0), (i1, (9, 0, 0))] rfl (.cons rfl (BLe.refl _) (.cons rfl (BLe.refl _) .nil)) rfl), ?_⟩
      conv => whnf
      skip
      refine ⟨R, rfl, Weak.list [(i0, .old i0, arow n d), ((9, 0, 0), .old (9, 0, 0), crow R.2)] rfl (by rfl) ?_ (.old rfl (BLe.refl _) (.old rfl (BLe.refl _) .nil))⟩
      ((repeat' first | exact TLes.nil | refine TLes.cons (TLe.eq rfl) ?_); skip)
    · rw [if_neg (by simp only [Zaa, kzz, kz11, kz12, maxL, Zad] at *; omega)] at hR
      refine ⟨R, rfl, Weak.list [(i0, .old i0, arow n d), ((9, 0, 0), .old (9, 0, 0), crow R.2)] rfl (by rfl) ?_ ?_⟩
      · rw [hR]; ((repeat' first | exact TLes.nil | refine TLes.cons (TLe.eq rfl) ?_); skip)
      · rw [hR]; exact (.old rfl (BLe.refl _) (.old rfl (BLe.refl _) .nil))
  rintro q hq τ hτ
  subst hq
  refine Zau hτ ?_
  conv => whnf
  (repeat' first | refine Zac ?_ | (refine Zab tok (by rfl) ?_; conv => whnf) | refine Zai ?_ | (refine Zah ?_; conv => whnf) | refine Zae rfl (fun hb => ?_) (fun hb => ?_))
  · have h0 : q.2 = 0 := by simp only [Zaa, kzz, kz11, kz12, maxL, Zad] at *; omega
    rw [if_pos h0]
    exact ⟨_, [(i0, .old i0, arow n d)], rfl, rfl, rfl, rfl, .old rfl (BLe.refl _) .nil, .eq rfl⟩
  · rename_i hb0
    have h0 : ¬ q.2 = 0 := by simp only [Zaa, kzz, kz11, kz12, maxL, Zad] at *; omega
    have h1 : q.2 = 12 := by simp only [Zaa, kzz, kz11, kz12, maxL, Zad] at *; omega
    rw [if_neg h0, if_pos h1]
    exact ⟨_, [(i0, .old i0, arow n d)], rfl, rfl, rfl, rfl, .old rfl (BLe.refl _) .nil, .eq rfl⟩
  · rename_i hb0
    have h0 : ¬ q.2 = 0 := by simp only [Zaa, kzz, kz11, kz12, maxL, Zad] at *; omega
    have h1 : ¬ q.2 = 12 := by simp only [Zaa, kzz, kz11, kz12, maxL, Zad] at *; omega
    rw [if_neg h0, if_neg h1]
    exact ⟨_, [(i0, .old i0, arow n d)], rfl, rfl, rfl, rfl, .old rfl (BLe.refl _) .nil, .eq rfl⟩
end Go.Proofs.YtoelbgjpmpoolaaGreat
namespace Go.Proofs.YtoelbgjpmpoolaaGreat
open Go Dv Go.Sort
set_option maxRecDepth 10000
set_option linter.unusedSimpArgs false
theorem c_part (n : Nat) (d0 : Array Int) (a b pivot : Nat) (hn : d0.size = n) (hp1 : a ≤ pivot) (hp2 : pivot < b) (hb0 : b ≤ n) :
    HC Tryz.prog [i0] 237 [(i0, arow n d0)] [.rs i0 1 0 n, iv a, iv b, iv pivot] (.tup [iv (partition ltInt d0 a b pivot).1, .bool (partition ltInt d0 a b pivot).2.1]) [(i0, arow n (partition ltInt d0 a b pivot).2.2)] := by
  refine Zcd tok Tryz.func237 rfl (by decide +kernel) (Nat.le_of_ble_eq_true rfl) ?_
  refine Zaw 0 (fun hl => ?_)
  have hl0 : n ≤ 4294967296 := hl
  obtain ⟨d, hd1⟩ : ∃ d, d = swp d0 a pivot := ⟨_, rfl⟩
  have hd : d.size = n := by rw [hd1, Zb4]; exact hn
  have hpart : partition ltInt d0 a b pivot = (let i := scanUp (fun x => ltInt x d[a]!) d (b - 1) (a + 1); let j := scanDown (fun x => !ltInt x d[a]!) d i (b - 1);
      if i > j then (j, true, swp d j a) else (let r := partLoop ltInt a (i + 1) (j - 1) (swp d i j); (r.1, false, swp r.2 r.1 a))) := by rw [hd1]; rfl
  obtain ⟨R, hR⟩ : ∃ R, R = partition ltInt d0 a b pivot := ⟨_, rfl⟩
  rw [← hR]; rw [hpart] at hR; clear hpart
  ((repeat' ((fail_if_success (show AWp _ _ _ (Code.region 2 _ _) _ _)); first | refine Zac ?_ | (refine Zab tok (by rfl) ?_; conv => whnf) | (refine Zat tok mix (by rfl) ?_; conv => whnf) | (refine @And.intro (Zaa _ _ _ _) _ ?_ ?_; rotate_left; (conv => whnf); rotate_right))); all_goals (try ((guard_target = Zaa _ _ _ _); refine Zaf ?_; (all_goals (try simp only [Zaa, kzz, kz11, kz12, maxL, Zad] at *)); all_goals omega)))
  refine Zau (Weak.list (tl := [(0, .rs i0 1 0 n), (1, iv a), (2, iv b), (8, iv 0), (9, .bool false)]) [(i0, .old i0, arow n d)] rfl (by rfl) ?_ (.old rfl (BLe.row rfl (fun x hx => ?_)) .nil)) ?_
  · ((repeat' first | exact TLes.nil | refine TLes.cons (TLe.eq rfl) ?_); skip)
  · rw [hd1]; exact Zda (d := d0) (i := a) (j := pivot) (by omega) (by omega) (by simp) (by simp) (Zbb (by simp)) (Zbb (by simp)) x
  (repeat' first | refine Zac ?_ | (refine Zab tok (by rfl) ?_; conv => whnf) | refine Zai ?_)
  refine Za1 (fun i : Nat => mkS [(0, .rs i0 1 0 n), (1, iv a), (8, iv 0), (9, .bool false), (10, iv i), (11, iv (b - 1))] [(i0, arow n d)])
    (fun i => (a + 1) ≤ i ∧ i ≤ (b - 1) + 2 ∧ scanUp (fun x => ltInt x d[a]!) d (b - 1) i = scanUp (fun x => ltInt x d[a]!) d (b - 1) (a + 1)) (fun i => (b - 1) + 2 - i) ((a + 1)) ⟨Nat.le_refl _, by omega, rfl⟩ ?_ ?_
  · refine Weak.list [(i0, .old i0, arow n d)] rfl (by rfl) ?_ (.old rfl (BLe.refl _) .nil)
    ((repeat' first | exact TLes.nil | refine TLes.cons (TLe.eq rfl) ?_ | refine TLes.cons (TLe.int ?_) ?_); (all_goals first | ((try (simp only [Zaa, kzz, kz11, kz12, maxL, Zad] at *)); exact Zal (by omega) (by omega)) | skip))
  rintro i ⟨hiu, hiu2, hU⟩
  ((repeat' first | refine Zac ?_ | (refine Zat tok mix (by rfl) ?_; conv => whnf) | (refine @And.intro (Zaa _ _ _ _) _ ?_ ?_; rotate_left; (conv => whnf); rotate_right)); all_goals (try ((guard_target = Zaa _ _ _ _); ((refine Za8 ?_; intro hgd; (conv at hgd => whnf))); (all_goals (try simp only [Zaa, kzz, kz11, kz12, maxL, Zad] at *)); all_goals omega)))
  · refine .inl ⟨_, _, _, uG (QC.fc (Zdv (d := d) (i := i) (j := a) _ _ (Zbb (by simp)) (Zbb (by simp))) rfl), ?_⟩
    conv => whnf
    (repeat' first | refine Zac ?_ | (refine Zab tok (by rfl) ?_; conv => whnf) | refine Zai ?_ | (refine Zag ?_; conv => whnf) | (refine Za3 ?_; conv => whnf) | refine Zae rfl (fun hb => ?_) (fun hb => ?_))
    · have hc : i ≤ (b - 1) ∧ ltInt d[i]! d[a]! = true := by
        by_cases h1 : i ≤ (b - 1)
        · refine ⟨h1, ?_⟩
          rw [decide_eq_true (by omega)] at hb; exact hb
        · rw [decide_eq_false (by omega)] at hb; cases hb
      refine ⟨i + 1, ⟨by omega, by omega, ?_⟩, by omega, ?_⟩
      · rw [← hU]; conv => rhs; unfold scanUp
        rw [if_pos (by rw [Bool.and_eq_true]; exact ⟨by simpa using hc.1, hc.2⟩)]
      refine Weak.list [(i0, .old i0, arow n d)] rfl (by rfl) ?_ (.old rfl (BLe.refl _) .nil)
      ((repeat' first | exact TLes.nil | refine TLes.cons (TLe.eq rfl) ?_ | refine TLes.cons (TLe.int ?_) ?_); (all_goals first | ((try (simp only [Zaa, kzz, kz11, kz12, maxL, Zad] at *)); exact Zal (by omega) (by omega)) | skip))
    have hcU : ¬ (i ≤ (b - 1) ∧ ltInt d[i]! d[a]! = true) := by
      rintro ⟨h1, h2⟩
      rw [decide_eq_true (by omega), h2] at hb; cases hb
    have hU2 : scanUp (fun x => ltInt x d[a]!) d (b - 1) (a + 1) = i := by
      rw [← hU]; unfold scanUp; rw [if_neg (by rw [Bool.and_eq_true]; intro h; exact hcU ⟨by simpa using h.1, h.2⟩)]
    clear hb hU
    refine Za1 (fun j : Nat => mkS [(0, .rs i0 1 0 n), (1, iv a), (8, iv 0), (9, .bool false), (10, iv i), (11, iv j)] [(i0, arow n d)])
      (fun j => j ≤ (b - 1) ∧ i ≤ j + 2 ∧ scanDown (fun x => !ltInt x d[a]!) d i j = scanDown (fun x => !ltInt x d[a]!) d i (b - 1)) (fun j => j) ((b - 1)) ⟨Nat.le_refl _, by omega, rfl⟩ ?_ ?_
    · refine Weak.list [(i0, .old i0, arow n d)] rfl (by rfl) ?_ (.old rfl (BLe.refl _) .nil)
      ((repeat' first | exact TLes.nil | refine TLes.cons (TLe.eq rfl) ?_ | refine TLes.cons (TLe.int ?_) ?_); (all_goals first | ((try (simp only [Zaa, kzz, kz11, kz12, maxL, Zad] at *)); omega) | skip))
    rintro j ⟨hjd, hjd2, hD⟩
    ((repeat' first | refine Zac ?_ | (refine Zat tok mix (by rfl) ?_; conv => whnf) | (refine @And.intro (Zaa _ _ _ _) _ ?_ ?_; rotate_left; (conv => whnf); rotate_right)); all_goals (try ((guard_target = Zaa _ _ _ _); ((refine Za8 ?_; intro hgd; (conv at hgd => whnf))); (all_goals (try simp only [Zaa, kzz, kz11, kz12, maxL, Zad] at *)); all_goals omega)))
    · refine .inl ⟨_, _, _, uG (QC.fc (Zdv (d := d) (i := j) (j := a) _ _ (Zbb (by simp)) (Zbb (by simp))) rfl), ?_⟩
      conv => whnf
      ((repeat' first | refine Zac ?_ | (refine Zab tok (by rfl) ?_; conv => whnf) | (refine Zat tok mix (by rfl) ?_; conv => whnf) | refine Zai ?_ | (refine Zag ?_; conv => whnf) | (refine Za3 ?_; conv => whnf) | (refine Zah ?_; conv => whnf) | refine Zae rfl (fun hb => ?_) (fun hb => ?_) | (refine @And.intro (Zaa _ _ _ _) _ ?_ ?_; rotate_left; (conv => whnf); rotate_right)); all_goals (try ((guard_target = Zaa _ _ _ _); refine Zaf ?_; (all_goals (try simp only [Zaa, kzz, kz11, kz12, maxL, Zad] at *)); all_goals omega)))
      · have hc : i ≤ j ∧ (!ltInt d[j]! d[a]!) = true := by
          by_cases h1 : i ≤ j
          · refine ⟨h1, ?_⟩
            rw [decide_eq_true (by omega)] at hb; exact hb
          · rw [decide_eq_false (by omega)] at hb; cases hb
        refine ⟨j - 1, ⟨by omega, by omega, ?_⟩, by omega, ?_⟩
        · rw [← hD]
          obtain ⟨j, rfl⟩ : ∃ k, j = k + 1 := ⟨j - 1, by omega⟩
          conv => rhs; unfold scanDown
          rw [if_pos (by rw [Bool.and_eq_true]; exact ⟨by simpa using hc.1, hc.2⟩)]; rfl
        refine Weak.list [(i0, .old i0, arow n d)] rfl (by rfl) ?_ (.old rfl (BLe.refl _) .nil)
        ((repeat' first | exact TLes.nil | refine TLes.cons (TLe.eq rfl) ?_ | refine TLes.cons (TLe.int ?_) ?_); (all_goals first | ((try (simp only [Zaa, kzz, kz11, kz12, maxL, Zad] at *)); (simp (disch := omega) only [Zal]; omega)) | skip))
      all_goals
        have hcD : ¬ (i ≤ j ∧ (!ltInt d[j]! d[a]!) = true) := by
          rintro ⟨h1, h2⟩
          have hb2 := hb
          first | (rw [decide_eq_true (by omega), h2] at hb2; cases hb2; done) | (rename_i hb3 _; rw [decide_eq_true (by omega), h2] at hb3; cases hb3; done) | (rename_i hb3; rw [decide_eq_true (by omega), h2] at hb3; cases hb3; done)
        have hD2 : scanDown (fun x => !ltInt x d[a]!) d i (b - 1) = j := by
          rw [← hD]
          cases j with
          | zero => rfl
          | succ j => unfold scanDown; rw [if_neg (by rw [Bool.and_eq_true]; intro h; exact hcD ⟨by simpa using h.1, h.2⟩)]
      · have hij : j < i := by simp only [Zaa, kzz, kz11, kz12, maxL, Zad] at *; omega
        have hRes : R = (j, true, swp d j a) := by rw [hR]; simp only [hU2, hD2]; rw [if_pos hij]
        rw [hRes]
        exact ⟨_, [(i0, .old i0, arow n (swp d j a))], rfl, rfl, rfl, rfl, .old rfl (BLe.row rfl (fun x hx => Zda (d := d) (i := j) (j := a) (by omega) (by omega) (by simp) (by simp) (Zbb (by simp)) (Zbb (by simp)) x)) .nil, .eq rfl⟩
      · have hij : i ≤ j := by simp only [Zaa, kzz, kz11, kz12, maxL, Zad] at *; omega
        obtain ⟨RL, hRL⟩ : ∃ RL, RL = partLoop ltInt a (i + 1) (j - 1) (swp d i j) := ⟨_, rfl⟩
        have hR2 : R = (RL.1, false, swp RL.2 RL.1 a) := by rw [hR]; simp only [hU2, hD2]; rw [if_neg (by omega), ← hRL]
        refine Za1 (fun q : (Nat × Nat) × Array Int => mkS [(0, .rs i0 1 0 n), (1, iv a), (8, iv 0), (9, .bool false), (10, iv q.1.1), (11, iv q.1.2)] [(i0, arow n q.2)])
          (fun q => a + 1 ≤ q.1.1 ∧ q.1.1 ≤ q.1.2 + 2 ∧ q.1.2 ≤ b - 1 ∧ q.2.size = n ∧ partLoop ltInt a q.1.1 q.1.2 q.2 = RL) (fun q => q.1.2 + 2 - q.1.1) ((i + 1, j - 1), swp d i j) ⟨by simp; omega, by simp; omega, by simp; omega, by rw [Zb4]; exact hd, hRL.symm⟩ ?_ ?_
        · refine Weak.list [(i0, .old i0, arow n (swp d i j))] rfl (by rfl) ?_ (.old rfl (BLe.row rfl (fun x hx => Zda (d := d) (i := i) (j := j) (by omega) (by omega) (by simp) (by simp) (Zbb (by simp)) (Zbb (by simp)) x)) .nil)
          ((repeat' first | exact TLes.nil | refine TLes.cons (TLe.eq rfl) ?_ | refine TLes.cons (TLe.int ?_) ?_); (all_goals first | ((try (simp only [Zaa, kzz, kz11, kz12, maxL, Zad] at *)); first | exact Zal (by omega) (by omega) | (simp (disch := omega) only [Zal]; omega)) | skip))
        rintro ⟨⟨u, v⟩, d⟩ ⟨hu1, hu2, hv1, hd, hRL⟩
        simp only at hu1 hu2 hv1 hd hRL ⊢
        (repeat' first | refine Zac ?_ | refine Zai ?_)
        refine Za1 (fun i : Nat => mkS [(0, .rs i0 1 0 n), (1, iv a), (8, iv 0), (9, .bool false), (10, iv i), (11, iv v)] [(i0, arow n d)])
          (fun i => u ≤ i ∧ i ≤ v + 2 ∧ scanUp (fun x => ltInt x d[a]!) d v i = scanUp (fun x => ltInt x d[a]!) d v u) (fun i => v + 2 - i) (u) ⟨Nat.le_refl _, by omega, rfl⟩ ?_ ?_
        · refine Weak.list [(i0, .old i0, arow n d)] rfl (by rfl) ?_ (.old rfl (BLe.refl _) .nil)
          ((repeat' first | exact TLes.nil | refine TLes.cons (TLe.eq rfl) ?_); skip)
        rintro i ⟨hiu, hiu2, hU⟩
        ((repeat' first | refine Zac ?_ | (refine Zat tok mix (by rfl) ?_; conv => whnf) | (refine @And.intro (Zaa _ _ _ _) _ ?_ ?_; rotate_left; (conv => whnf); rotate_right)); all_goals (try ((guard_target = Zaa _ _ _ _); ((refine Za8 ?_; intro hgd; (conv at hgd => whnf))); (all_goals (try simp only [Zaa, kzz, kz11, kz12, maxL, Zad] at *)); all_goals omega)))
        · refine .inl ⟨_, _, _, uG (QC.fc (Zdv (d := d) (i := i) (j := a) _ _ (Zbb (by simp)) (Zbb (by simp))) rfl), ?_⟩
          conv => whnf
          (repeat' first | refine Zac ?_ | (refine Zab tok (by rfl) ?_; conv => whnf) | refine Zai ?_ | (refine Zag ?_; conv => whnf) | (refine Za3 ?_; conv => whnf) | refine Zae rfl (fun hb => ?_) (fun hb => ?_))
          · have hc : i ≤ v ∧ ltInt d[i]! d[a]! = true := by
              by_cases h1 : i ≤ v
              · refine ⟨h1, ?_⟩
                rw [decide_eq_true (by omega)] at hb; exact hb
              · rw [decide_eq_false (by omega)] at hb; cases hb
            refine ⟨i + 1, ⟨by omega, by omega, ?_⟩, by omega, ?_⟩
            · rw [← hU]; conv => rhs; unfold scanUp
              rw [if_pos (by rw [Bool.and_eq_true]; exact ⟨by simpa using hc.1, hc.2⟩)]
            refine Weak.list [(i0, .old i0, arow n d)] rfl (by rfl) ?_ (.old rfl (BLe.refl _) .nil)
            ((repeat' first | exact TLes.nil | refine TLes.cons (TLe.eq rfl) ?_ | refine TLes.cons (TLe.int ?_) ?_); (all_goals first | ((try (simp only [Zaa, kzz, kz11, kz12, maxL, Zad] at *)); exact Zal (by omega) (by omega)) | skip))
          have hcU : ¬ (i ≤ v ∧ ltInt d[i]! d[a]! = true) := by
            rintro ⟨h1, h2⟩
            rw [decide_eq_true (by omega), h2] at hb; cases hb
          have hU2 : scanUp (fun x => ltInt x d[a]!) d v u = i := by
            rw [← hU]; unfold scanUp; rw [if_neg (by rw [Bool.and_eq_true]; intro h; exact hcU ⟨by simpa using h.1, h.2⟩)]
          clear hb hU
          refine Za1 (fun j : Nat => mkS [(0, .rs i0 1 0 n), (1, iv a), (8, iv 0), (9, .bool false), (10, iv i), (11, iv j)] [(i0, arow n d)])
            (fun j => j ≤ v ∧ i ≤ j + 2 ∧ scanDown (fun x => !ltInt x d[a]!) d i j = scanDown (fun x => !ltInt x d[a]!) d i v) (fun j => j) (v) ⟨Nat.le_refl _, by omega, rfl⟩ ?_ ?_
          · refine Weak.list [(i0, .old i0, arow n d)] rfl (by rfl) ?_ (.old rfl (BLe.refl _) .nil)
            ((repeat' first | exact TLes.nil | refine TLes.cons (TLe.eq rfl) ?_); skip)
          rintro j ⟨hjd, hjd2, hD⟩
          ((repeat' first | refine Zac ?_ | (refine Zat tok mix (by rfl) ?_; conv => whnf) | (refine @And.intro (Zaa _ _ _ _) _ ?_ ?_; rotate_left; (conv => whnf); rotate_right)); all_goals (try ((guard_target = Zaa _ _ _ _); ((refine Za8 ?_; intro hgd; (conv at hgd => whnf))); (all_goals (try simp only [Zaa, kzz, kz11, kz12, maxL, Zad] at *)); all_goals omega)))
          · refine .inl ⟨_, _, _, uG (QC.fc (Zdv (d := d) (i := j) (j := a) _ _ (Zbb (by simp)) (Zbb (by simp))) rfl), ?_⟩
            conv => whnf
            ((repeat' first | refine Zac ?_ | (refine Zab tok (by rfl) ?_; conv => whnf) | (refine Zat tok mix (by rfl) ?_; conv => whnf) | refine Zai ?_ | (refine Zag ?_; conv => whnf) | (refine Za3 ?_; conv => whnf) | (refine Zah ?_; conv => whnf) | refine Zae rfl (fun hb => ?_) (fun hb => ?_) | (refine @And.intro (Zaa _ _ _ _) _ ?_ ?_; rotate_left; (conv => whnf); rotate_right)); all_goals (try ((guard_target = Zaa _ _ _ _); refine Zaf ?_; (all_goals (try simp only [Zaa, kzz, kz11, kz12, maxL, Zad] at *)); all_goals omega)))
            · have hc : i ≤ j ∧ (!ltInt d[j]! d[a]!) = true := by
                by_cases h1 : i ≤ j
                · refine ⟨h1, ?_⟩
                  rw [decide_eq_true (by omega)] at hb; exact hb
                · rw [decide_eq_false (by omega)] at hb; cases hb
              refine ⟨j - 1, ⟨by omega, by omega, ?_⟩, by omega, ?_⟩
              · rw [← hD]
                obtain ⟨j, rfl⟩ : ∃ k, j = k + 1 := ⟨j - 1, by omega⟩
                conv => rhs; unfold scanDown
                rw [if_pos (by rw [Bool.and_eq_true]; exact ⟨by simpa using hc.1, hc.2⟩)]; rfl
              refine Weak.list [(i0, .old i0, arow n d)] rfl (by rfl) ?_ (.old rfl (BLe.refl _) .nil)
              ((repeat' first | exact TLes.nil | refine TLes.cons (TLe.eq rfl) ?_ | refine TLes.cons (TLe.int ?_) ?_); (all_goals first | ((try (simp only [Zaa, kzz, kz11, kz12, maxL, Zad] at *)); (simp (disch := omega) only [Zal]; omega)) | skip))
            all_goals
              have hcD : ¬ (i ≤ j ∧ (!ltInt d[j]! d[a]!) = true) := by
                rintro ⟨h1, h2⟩
                have hb2 := hb
                first | (rw [decide_eq_true (by omega), h2] at hb2; cases hb2; done) | (rename_i hb3 _; rw [decide_eq_true (by omega), h2] at hb3; cases hb3; done) | (rename_i hb3; rw [decide_eq_true (by omega), h2] at hb3; cases hb3; done)
              have hD2 : scanDown (fun x => !ltInt x d[a]!) d i v = j := by
                rw [← hD]
                cases j with
                | zero => rfl
                | succ j => unfold scanDown; rw [if_neg (by rw [Bool.and_eq_true]; intro h; exact hcD ⟨by simpa using h.1, h.2⟩)]
            · have hij : j < i := by simp only [Zaa, kzz, kz11, kz12, maxL, Zad] at *; omega
              have hlp : partLoop ltInt a u v d = (j, d) := by
                unfold partLoop; rw [hU2]; (try simp only []); rw [hD2]; (try simp only []); rw [if_pos hij]
              have hRes : R = (j, false, swp d j a) := by rw [hR2, ← hRL, hlp]
              rw [hRes]
              exact ⟨_, [(i0, .old i0, arow n (swp d j a))], rfl, rfl, rfl, rfl, .old rfl (BLe.row rfl (fun x hx => Zda (d := d) (i := j) (j := a) (by omega) (by omega) (by simp) (by simp) (Zbb (by simp)) (Zbb (by simp)) x)) .nil, .eq rfl⟩
            · have hij : i ≤ j := by simp only [Zaa, kzz, kz11, kz12, maxL, Zad] at *; omega
              refine ⟨((i + 1, j - 1), swp d i j), ⟨by simp; omega, by simp; omega, by simp; omega, by rw [Zb4]; exact hd, ?_⟩, by simp; omega, ?_⟩
              · rw [← hRL]; conv => rhs; unfold partLoop
                rw [hU2]; (try simp only []); rw [hD2]; (try simp only [])
                rw [if_neg (by omega), dif_pos (by omega)]
              refine Weak.list [(i0, .old i0, arow n (swp d i j))] rfl (by rfl) ?_ (.old rfl (BLe.row rfl (fun x hx => Zda (d := d) (i := i) (j := j) (by omega) (by omega) (by simp) (by simp) (Zbb (by simp)) (Zbb (by simp)) x)) .nil)
              ((repeat' first | exact TLes.nil | refine TLes.cons (TLe.eq rfl) ?_ | refine TLes.cons (TLe.int ?_) ?_); (all_goals first | ((try (simp only [Zaa, kzz, kz11, kz12, maxL, Zad] at *)); first | exact Zal (by omega) (by omega) | (simp (disch := omega) only [Zal]; omega)) | skip))
end Go.Proofs.YtoelbgjpmpoolaaGreat
namespace Go.Proofs.YtoelbgjpmpoolaaGreat
open Go Dv Go.Sort
set_option maxRecDepth 10000
set_option linter.unusedSimpArgs false
theorem c_partEq (n : Nat) (d0 : Array Int) (a b pivot : Nat) (hn : d0.size = n) (hp1 : a ≤ pivot) (hp2 : pivot < b) (hb0 : b ≤ n) :
    HC Tryz.prog [i0] 236 [(i0, arow n d0)] [.rs i0 1 0 n, iv a, iv b, iv pivot] (iv (partitionEqual ltInt d0 a b pivot).1) [(i0, arow n (partitionEqual ltInt d0 a b pivot).2)] := by
  refine Zcd tok Tryz.func236 rfl (by decide +kernel) (Nat.le_of_ble_eq_true rfl) ?_
  refine Zaw 0 (fun hl => ?_)
  have hl0 : n ≤ 4294967296 := hl
  obtain ⟨d, hd1⟩ : ∃ d, d = swp d0 a pivot := ⟨_, rfl⟩
  have hd : d.size = n := by rw [hd1, Zb4]; exact hn
  obtain ⟨RL, hRL⟩ : ∃ RL, RL = partEqLoop ltInt a (a + 1) (b - 1) d := ⟨_, rfl⟩
  have hpart : partitionEqual ltInt d0 a b pivot = RL := by rw [hRL, hd1]; rfl
  rw [hpart]; clear hpart
  ((repeat' ((fail_if_success (show AWp _ _ _ (Code.region 2 _ _) _ _)); first | refine Zac ?_ | (refine Zab tok (by rfl) ?_; conv => whnf) | (refine Zat tok mix (by rfl) ?_; conv => whnf) | (refine @And.intro (Zaa _ _ _ _) _ ?_ ?_; rotate_left; (conv => whnf); rotate_right))); all_goals (try ((guard_target = Zaa _ _ _ _); refine Zaf ?_; (all_goals (try simp only [Zaa, kzz, kz11, kz12, maxL, Zad] at *)); all_goals omega)))
  refine Zau (Weak.list (tl := [(0, .rs i0 1 0 n), (1, iv a), (2, iv b), (8, iv 0)]) [(i0, .old i0, arow n d)] rfl (by rfl) ?_ (.old rfl (BLe.row rfl (fun x hx => ?_)) .nil)) ?_
  · ((repeat' first | exact TLes.nil | refine TLes.cons (TLe.eq rfl) ?_); skip)
  · rw [hd1]; exact Zda (d := d0) (i := a) (j := pivot) (by omega) (by omega) (by simp) (by simp) (Zbb (by simp)) (Zbb (by simp)) x
  (repeat' first | refine Zac ?_ | (refine Zab tok (by rfl) ?_; conv => whnf) | refine Zai ?_)
  refine Za1 (fun q : (Nat × Nat) × Array Int => mkS [(0, .rs i0 1 0 n), (1, iv a), (8, iv 0), (9, iv q.1.1), (10, iv q.1.2)] [(i0, arow n q.2)])
    (fun q => a + 1 ≤ q.1.1 ∧ q.1.1 ≤ q.1.2 + 2 ∧ q.1.2 ≤ b - 1 ∧ q.2.size = n ∧ partEqLoop ltInt a q.1.1 q.1.2 q.2 = RL) (fun q => q.1.2 + 2 - q.1.1) ((a + 1, b - 1), d) ⟨by simp, by simp; omega, by simp, hd, hRL.symm⟩ ?_ ?_
  · refine Weak.list [(i0, .old i0, arow n d)] rfl (by rfl) ?_ (.old rfl (BLe.refl _) .nil)
    ((repeat' first | exact TLes.nil | refine TLes.cons (TLe.eq rfl) ?_ | refine TLes.cons (TLe.int ?_) ?_); (all_goals first | ((try (simp only [Zaa, kzz, kz11, kz12, maxL, Zad] at *)); first | exact Zal (by omega) (by omega) | (simp (disch := omega) only [Zal]; omega)) | skip))
  clear hRL hd hd1
  rintro ⟨⟨u, v⟩, d⟩ ⟨hu1, hu2, hv1, hd, hRL⟩
  simp only at hu1 hu2 hv1 hd hRL ⊢
  (repeat' first | refine Zac ?_ | refine Zai ?_)
  refine Za1 (fun i : Nat => mkS [(0, .rs i0 1 0 n), (1, iv a), (8, iv 0), (9, iv i), (10, iv v)] [(i0, arow n d)])
    (fun i => u ≤ i ∧ i ≤ v + 2 ∧ scanUp (fun x => !ltInt d[a]! x) d v i = scanUp (fun x => !ltInt d[a]! x) d v u) (fun i => v + 2 - i) (u) ⟨Nat.le_refl _, by omega, rfl⟩ ?_ ?_
  · refine Weak.list [(i0, .old i0, arow n d)] rfl (by rfl) ?_ (.old rfl (BLe.refl _) .nil)
    ((repeat' first | exact TLes.nil | refine TLes.cons (TLe.eq rfl) ?_); skip)
  rintro i ⟨hiu, hiu2, hU⟩
  ((repeat' first | refine Zac ?_ | (refine Zat tok mix (by rfl) ?_; conv => whnf) | (refine @And.intro (Zaa _ _ _ _) _ ?_ ?_; rotate_left; (conv => whnf); rotate_right)); all_goals (try ((guard_target = Zaa _ _ _ _); ((refine Za8 ?_; intro hgd; (conv at hgd => whnf))); (all_goals (try simp only [Zaa, kzz, kz11, kz12, maxL, Zad] at *)); all_goals omega)))
  · refine .inl ⟨_, _, _, uG (QC.fc (Zdv (d := d) (i := a) (j := i) _ _ (Zbb (by simp)) (Zbb (by simp))) rfl), ?_⟩
    conv => whnf
    (repeat' first | refine Zac ?_ | (refine Zab tok (by rfl) ?_; conv => whnf) | refine Zai ?_ | (refine Zag ?_; conv => whnf) | (refine Za3 ?_; conv => whnf) | refine Zae rfl (fun hb => ?_) (fun hb => ?_))
    · have hc : i ≤ v ∧ (!ltInt d[a]! d[i]!) = true := by
        by_cases h1 : i ≤ v
        · refine ⟨h1, ?_⟩
          rw [decide_eq_true (by omega)] at hb; exact hb
        · rw [decide_eq_false (by omega)] at hb; cases hb
      refine ⟨i + 1, ⟨by omega, by omega, ?_⟩, by omega, ?_⟩
      · rw [← hU]; conv => rhs; unfold scanUp
        rw [if_pos (by rw [Bool.and_eq_true]; exact ⟨by simpa using hc.1, hc.2⟩)]
      refine Weak.list [(i0, .old i0, arow n d)] rfl (by rfl) ?_ (.old rfl (BLe.refl _) .nil)
      ((repeat' first | exact TLes.nil | refine TLes.cons (TLe.eq rfl) ?_ | refine TLes.cons (TLe.int ?_) ?_); (all_goals first | ((try (simp only [Zaa, kzz, kz11, kz12, maxL, Zad] at *)); exact Zal (by omega) (by omega)) | skip))
    have hcU : ¬ (i ≤ v ∧ (!ltInt d[a]! d[i]!) = true) := by
      rintro ⟨h1, h2⟩
      rw [decide_eq_true (by omega), h2] at hb; cases hb
    have hU2 : scanUp (fun x => !ltInt d[a]! x) d v u = i := by
      rw [← hU]; unfold scanUp; rw [if_neg (by rw [Bool.and_eq_true]; intro h; exact hcU ⟨by simpa using h.1, h.2⟩)]
    clear hb hU
    refine Za1 (fun j : Nat => mkS [(0, .rs i0 1 0 n), (1, iv a), (8, iv 0), (9, iv i), (10, iv j)] [(i0, arow n d)])
      (fun j => j ≤ v ∧ i ≤ j + 2 ∧ scanDown (fun x => ltInt d[a]! x) d i j = scanDown (fun x => ltInt d[a]! x) d i v) (fun j => j) (v) ⟨Nat.le_refl _, by omega, rfl⟩ ?_ ?_
    · refine Weak.list [(i0, .old i0, arow n d)] rfl (by rfl) ?_ (.old rfl (BLe.refl _) .nil)
      ((repeat' first | exact TLes.nil | refine TLes.cons (TLe.eq rfl) ?_); skip)
    rintro j ⟨hjd, hjd2, hD⟩
    ((repeat' first | refine Zac ?_ | (refine Zat tok mix (by rfl) ?_; conv => whnf) | (refine @And.intro (Zaa _ _ _ _) _ ?_ ?_; rotate_left; (conv => whnf); rotate_right)); all_goals (try ((guard_target = Zaa _ _ _ _); ((refine Za8 ?_; intro hgd; (conv at hgd => whnf))); (all_goals (try simp only [Zaa, kzz, kz11, kz12, maxL, Zad] at *)); all_goals omega)))
    · refine .inl ⟨_, _, _, uG (QC.fc (Zdv (d := d) (i := a) (j := j) _ _ (Zbb (by simp)) (Zbb (by simp))) rfl), ?_⟩
      conv => whnf
      ((repeat' first | refine Zac ?_ | (refine Zab tok (by rfl) ?_; conv => whnf) | (refine Zat tok mix (by rfl) ?_; conv => whnf) | refine Zai ?_ | (refine Zag ?_; conv => whnf) | (refine Za3 ?_; conv => whnf) | (refine Zah ?_; conv => whnf) | refine Zae rfl (fun hb => ?_) (fun hb => ?_) | (refine @And.intro (Zaa _ _ _ _) _ ?_ ?_; rotate_left; (conv => whnf); rotate_right)); all_goals (try ((guard_target = Zaa _ _ _ _); refine Zaf ?_; (all_goals (try simp only [Zaa, kzz, kz11, kz12, maxL, Zad] at *)); all_goals omega)))
      · have hc : i ≤ j ∧ ltInt d[a]! d[j]! = true := by
          by_cases h1 : i ≤ j
          · refine ⟨h1, ?_⟩
            rw [decide_eq_true (by omega)] at hb; exact hb
          · rw [decide_eq_false (by omega)] at hb; cases hb
        refine ⟨j - 1, ⟨by omega, by omega, ?_⟩, by omega, ?_⟩
        · rw [← hD]
          obtain ⟨j, rfl⟩ : ∃ k, j = k + 1 := ⟨j - 1, by omega⟩
          conv => rhs; unfold scanDown
          rw [if_pos (by rw [Bool.and_eq_true]; exact ⟨by simpa using hc.1, hc.2⟩)]; rfl
        refine Weak.list [(i0, .old i0, arow n d)] rfl (by rfl) ?_ (.old rfl (BLe.refl _) .nil)
        ((repeat' first | exact TLes.nil | refine TLes.cons (TLe.eq rfl) ?_ | refine TLes.cons (TLe.int ?_) ?_); (all_goals first | ((try (simp only [Zaa, kzz, kz11, kz12, maxL, Zad] at *)); (simp (disch := omega) only [Zal]; omega)) | skip))
      all_goals
        have hcD : ¬ (i ≤ j ∧ ltInt d[a]! d[j]! = true) := by
          rintro ⟨h1, h2⟩
          have hb2 := hb
          first | (rw [decide_eq_true (by omega), h2] at hb2; cases hb2; done) | (rename_i hb3 _; rw [decide_eq_true (by omega), h2] at hb3; cases hb3; done) | (rename_i hb3; rw [decide_eq_true (by omega), h2] at hb3; cases hb3; done)
        have hD2 : scanDown (fun x => ltInt d[a]! x) d i v = j := by
          rw [← hD]
          cases j with
          | zero => rfl
          | succ j => unfold scanDown; rw [if_neg (by rw [Bool.and_eq_true]; intro h; exact hcD ⟨by simpa using h.1, h.2⟩)]
      · have hij : j < i := by simp only [Zaa, kzz, kz11, kz12, maxL, Zad] at *; omega
        have hlp : partEqLoop ltInt a u v d = (i, d) := by
          unfold partEqLoop; rw [hU2]; (try simp only []); rw [hD2]; (try simp only []); rw [if_pos hij]
        have hRes : RL = (i, d) := by rw [← hRL, hlp]
        rw [hRes]
        exact ⟨_, [(i0, .old i0, arow n d)], rfl, rfl, rfl, rfl, .old rfl (BLe.refl _) .nil, .eq rfl⟩
      · have hij : i ≤ j := by simp only [Zaa, kzz, kz11, kz12, maxL, Zad] at *; omega
        refine ⟨((i + 1, j - 1), swp d i j), ⟨by simp; omega, by simp; omega, by simp; omega, by rw [Zb4]; exact hd, ?_⟩, by simp; omega, ?_⟩
        · rw [← hRL]; conv => rhs; unfold partEqLoop
          rw [hU2]; (try simp only []); rw [hD2]; (try simp only [])
          rw [if_neg (by omega), dif_pos (by omega)]
        refine Weak.list [(i0, .old i0, arow n (swp d i j))] rfl (by rfl) ?_ (.old rfl (BLe.row rfl (fun x hx => Zda (d := d) (i := i) (j := j) (by omega) (by omega) (by simp) (by simp) (Zbb (by simp)) (Zbb (by simp)) x)) .nil)
        ((repeat' first | exact TLes.nil | refine TLes.cons (TLe.eq rfl) ?_ | refine TLes.cons (TLe.int ?_) ?_); (all_goals first | ((try (simp only [Zaa, kzz, kz11, kz12, maxL, Zad] at *)); first | exact Zal (by omega) (by omega) | (simp (disch := omega) only [Zal]; omega)) | skip))
end Go.Proofs.YtoelbgjpmpoolaaGreat
namespace Go.Proofs.YtoelbgjpmpoolaaGreat
open Go Dv Go.Sort
set_option maxRecDepth 10000
set_option linter.unusedSimpArgs false
theorem shiftDown_size : ∀ (k : Nat) (d : Array Int), (shiftDown ltInt k d).size = d.size
  | 0, _ => rfl
  | k + 1, d => by
      simp only [shiftDown]; split
      · rfl
      · rw [shiftDown_size, Zb4]
theorem shiftUp_size : ∀ (m b j : Nat) (d : Array Int), b - j ≤ m → (shiftUp ltInt b j d).size = d.size
  | 0, b, j, d, h => by unfold shiftUp; rw [if_neg (by omega)]
  | m + 1, b, j, d, h => by
      unfold shiftUp; split
      · split
        · rfl
        · rw [shiftUp_size m b _ _ (by omega), Zb4]
      · rfl
theorem scan_end {d : Array Int} {b k : Nat} (h : (bif decide ((k : Int) < (b : Int)) then !ltInt d[k]! d[k - 1]! else false) = false) : scanSorted ltInt d b k = k := by
  unfold scanSorted
  rw [if_neg]
  rw [Bool.and_eq_true]
  rintro ⟨h1, h2⟩
  simp only [decide_eq_true_eq] at h1
  rw [decide_eq_true (by omega), h2] at h; cases h
theorem c_partial (n : Nat) (d0 : Array Int) (a b : Nat) (hn : d0.size = n) (ha : a < b) (hb0 : b ≤ n) :
    HC Tryz.prog [i0] 234 [(i0, arow n d0)] [.rs i0 1 0 n, iv a, iv b] (.bool (partialInsertionSort ltInt d0 a b).2) [(i0, arow n (partialInsertionSort ltInt d0 a b).1)] := by
  refine Zcd tok Tryz.func234 rfl (by decide +kernel) (Nat.le_of_ble_eq_true rfl) ?_
  refine Zaw 0 (fun hl => ?_)
  have hl0 : n ≤ 4294967296 := hl
  obtain ⟨R, hR0⟩ : ∃ R, R = partialInsertionSort ltInt d0 a b := ⟨_, rfl⟩
  rw [← hR0]
  (repeat' first | refine Zac ?_ | (refine Zab tok (by rfl) ?_; conv => whnf) | refine Zai ?_)
  refine Za1 (fun q : (Nat × Nat) × Array Int => mkS [(0, .rs i0 1 0 n), (1, iv a), (2, iv b), (6, .bool false), (7, iv q.1.2), (8, iv (5 - (q.1.1 : Int)))] [(i0, arow n q.2)])
    (fun q => q.1.1 ≤ 5 ∧ a + 1 ≤ q.1.2 ∧ q.1.2 ≤ b ∧ q.2.size = n ∧ partialIns ltInt a b q.1.1 q.1.2 q.2 = R) (fun q => q.1.1) ((5, a + 1), d0) ⟨by simp, by simp, by simp; omega, hn, hR0.symm⟩ ?_ ?_
  · refine Weak.list [(i0, .old i0, arow n d0)] rfl (by rfl) ?_ (.old rfl (BLe.refl _) .nil)
    ((repeat' first | exact TLes.nil | refine TLes.cons (TLe.eq rfl) ?_ | refine TLes.cons (TLe.int ?_) ?_); (all_goals first | ((try (simp only [Zaa, kzz, kz11, kz12, maxL, Zad] at *)); exact Zal (by omega) (by omega)) | skip))
  clear hR0
  rintro ⟨⟨s, i⟩, d⟩ ⟨hs, hi1, hi2, hd, hR⟩
  simp only at hs hi1 hi2 hd hR ⊢
  (repeat' first | refine Zac ?_ | (refine Zab tok (by rfl) ?_; conv => whnf) | refine Zai ?_ | (refine Zag ?_; conv => whnf) | (refine Za3 ?_; conv => whnf) | (refine Zah ?_; conv => whnf) | refine Zae rfl (fun hb => ?_) (fun hb => ?_))
  · have hs1 : 1 ≤ s := by simp only [Zaa, kzz, kz11, kz12, maxL, Zad] at *; omega
    obtain ⟨s, rfl⟩ : ∃ k, s = k + 1 := ⟨s - 1, by omega⟩
    clear hb
    refine Za1 (fun k : Nat => mkS [(0, .rs i0 1 0 n), (1, iv a), (2, iv b), (6, .bool false), (7, iv k), (8, iv (5 - ((s + 1 : Nat) : Int)))] [(i0, arow n d)])
      (fun k => i ≤ k ∧ k ≤ b ∧ scanSorted ltInt d b k = scanSorted ltInt d b i) (fun k => b - k) i ⟨Nat.le_refl _, hi2, rfl⟩ ?_ ?_
    · refine Weak.list [(i0, .old i0, arow n d)] rfl (by rfl) ?_ (.old rfl (BLe.refl _) .nil)
      ((repeat' first | exact TLes.nil | refine TLes.cons (TLe.eq rfl) ?_); skip)
    rintro k ⟨hk1, hk2, hS⟩
    have hm1 : d[0 + (IntKind.i64.wrap ((k : Int) - 1)).toNat]! = d[k - 1]! := by simp (disch := omega) only [Zal]; exact Zbb (by omega)
    (repeat' ((fail_if_success (show AWp _ _ _ (Code.region 5 _ _) _ _)); refine Zac ?_))
    ((repeat' first | (refine Zat tok mix (by rfl) ?_; conv => whnf) | (refine @And.intro (Zaa _ _ _ _) _ ?_ ?_; rotate_left; (conv => whnf); rotate_right)); all_goals (try ((guard_target = Zaa _ _ _ _); ((refine Za8 ?_; intro hgd; (conv at hgd => whnf))); (all_goals (try simp only [Zaa, kzz, kz11, kz12, maxL, Zad] at *)); (all_goals (try (simp (disch := omega) only [Zal]))); all_goals omega)))
    refine .inl ⟨_, _, _, uG (QC.fc (Zdv (d := d) (i := k) (j := k - 1) _ _ (Zbb (by simp)) hm1) rfl), ?_⟩
    conv => whnf
    ((repeat' ((fail_if_success (show AWp _ _ _ (Code.region 12 _ _) _ _)); first | refine Zac ?_ | (refine Zab tok (by rfl) ?_; conv => whnf) | (refine Zat tok mix (by rfl) ?_; conv => whnf) | refine Zai ?_ | (refine Zag ?_; conv => whnf) | (refine Za3 ?_; conv => whnf) | (refine Zah ?_; conv => whnf) | refine Zae rfl (fun hb => ?_) (fun hb => ?_) | (refine @And.intro (Zaa _ _ _ _) _ ?_ ?_; rotate_left; (conv => whnf); rotate_right))); all_goals (try ((guard_target = Zaa _ _ _ _); refine Zaf ?_; (all_goals (try simp only [Zaa, kzz, kz11, kz12, maxL, Zad] at *)); (all_goals (try (simp (disch := omega) only [Zal]))); all_goals omega)))
    · have hc : k < b ∧ (!ltInt d[k]! d[k - 1]!) = true := by
        by_cases h1 : k < b
        · refine ⟨h1, ?_⟩
          rw [decide_eq_true (by omega)] at hb; exact hb
        · rw [decide_eq_false (by omega)] at hb; cases hb
      refine ⟨k + 1, ⟨by omega, by omega, ?_⟩, by omega, ?_⟩
      · rw [← hS]; conv => rhs; unfold scanSorted
        rw [if_pos (by rw [Bool.and_eq_true]; exact ⟨by simpa using hc.1, hc.2⟩)]
      refine Weak.list [(i0, .old i0, arow n d)] rfl (by rfl) ?_ (.old rfl (BLe.refl _) .nil)
      ((repeat' first | exact TLes.nil | refine TLes.cons (TLe.eq rfl) ?_ | refine TLes.cons (TLe.int ?_) ?_); (all_goals first | ((try (simp only [Zaa, kzz, kz11, kz12, maxL, Zad] at *)); exact Zal (by omega) (by omega)) | skip))
    · rename_i hx
      have hSk : scanSorted ltInt d b i = k := by rw [← hS]; exact scan_end hx
      have hkb : k = b := by simp only [Zaa, kzz, kz11, kz12, maxL, Zad] at *; omega
      have hRes : R = (d, true) := by rw [← hR]; simp only [partialIns, hSk]; rw [if_pos hkb]
      rw [hRes]
      exact ⟨_, [(i0, .old i0, arow n d)], rfl, rfl, rfl, rfl, .old rfl (BLe.refl _) .nil, .eq rfl⟩
    · rename_i hx hy
      have hSk : scanSorted ltInt d b i = k := by rw [← hS]; exact scan_end hx
      have hkb : k ≠ b := by simp only [Zaa, kzz, kz11, kz12, maxL, Zad] at *; omega
      have h50 : b - a < 50 := by simp (disch := omega) only [Zal] at hb; simp only [Zaa, kzz, kz11, kz12, maxL, Zad] at *; omega
      have hRes : R = (d, false) := by rw [← hR]; simp only [partialIns, hSk]; rw [if_neg hkb, if_pos h50]
      rw [hRes]
      exact ⟨_, [(i0, .old i0, arow n d)], rfl, rfl, rfl, rfl, .old rfl (BLe.refl _) .nil, .eq rfl⟩
    rename_i hx hy
    have hSk : scanSorted ltInt d b i = k := by rw [← hS]; exact scan_end hx
    have hkb : k ≠ b := by simp only [Zaa, kzz, kz11, kz12, maxL, Zad] at *; omega
    have h50 : ¬ b - a < 50 := by simp (disch := omega) only [Zal] at hb; simp only [Zaa, kzz, kz11, kz12, maxL, Zad] at *; omega
    obtain ⟨d2, hd2⟩ : ∃ x, x = swp d k (k - 1) := ⟨_, rfl⟩
    obtain ⟨d3, hd3⟩ : ∃ x, x = if k - a ≥ 2 then shiftDown ltInt (k - 1) d2 else d2 := ⟨_, rfl⟩
    obtain ⟨d4, hd4⟩ : ∃ x, x = if b - k ≥ 2 then shiftUp ltInt b (k + 1) d3 else d3 := ⟨_, rfl⟩
    have hR2 : partialIns ltInt a b s k d4 = R := by rw [← hR]; simp only [partialIns, hSk]; rw [if_neg hkb, if_neg h50, hd4, hd3, hd2]
    have z2 : d2.size = n := by rw [hd2, Zb4]; exact hd
    have z3 : d3.size = n := by rw [hd3]; split <;> simp [shiftDown_size, z2]
    have z4 : d4.size = n := by rw [hd4]; split <;> simp [shiftUp_size _ _ _ _ (Nat.le_refl _), z3]
    refine Zau (Weak.list (tl := [(0, .rs i0 1 0 n), (1, iv a), (2, iv b), (6, .bool false), (7, iv k), (8, iv (5 - ((s + 1 : Nat) : Int)))]) [(i0, .old i0, arow n d2)] rfl (by rfl) ?_ (.old rfl (BLe.row rfl (fun x hx => ?_)) .nil)) ?_
    · ((repeat' first | exact TLes.nil | refine TLes.cons (TLe.eq rfl) ?_); skip)
    · rw [hd2]; exact Zda (d := d) (i := k) (j := k - 1) (by omega) (by omega) (by simp) (by simp (disch := omega) only [Zal]; omega) hm1 (Zbb (by simp)) x
    clear hx hy hb hR hS hSk hm1 hd2
    (repeat' (refine Zab tok (by rfl) ?_; conv => whnf))
    refine Zdp (fun _ : Unit => mkS [(0, .rs i0 1 0 n), (1, iv a), (2, iv b), (6, .bool false), (7, iv k), (8, iv (5 - ((s + 1 : Nat) : Int)))] [(i0, arow n d3)]) (fun _ => True) ?_ ?_
    · (repeat' first | refine Zac ?_ | (refine Zab tok (by rfl) ?_; conv => whnf) | refine Zai ?_ | (refine Zag ?_; conv => whnf) | refine Zae rfl (fun hb => ?_) (fun hb => ?_))
      · have hk2 : k - a ≥ 2 := by simp (disch := omega) only [Zal] at hb; simp only [Zaa, kzz, kz11, kz12, maxL, Zad] at *; omega
        rw [if_pos hk2] at hd3
        refine Za1 (fun q : Nat × Array Int => mkS [(0, .rs i0 1 0 n), (1, iv a), (2, iv b), (6, .bool false), (7, iv k), (8, iv (5 - ((s + 1 : Nat) : Int))), (9, iv q.1)] [(i0, arow n q.2)])
          (fun q => q.1 ≤ k - 1 ∧ q.2.size = n ∧ shiftDown ltInt q.1 q.2 = d3) (fun q => q.1) (k - 1, d2) ⟨Nat.le_refl _, z2, hd3.symm⟩ ?_ ?_
        · refine Weak.list [(i0, .old i0, arow n d2)] rfl (by rfl) ?_ (.old rfl (BLe.refl _) .nil)
          ((repeat' first | exact TLes.nil | refine TLes.cons (TLe.eq rfl) ?_ | refine TLes.cons (TLe.int ?_) ?_); (all_goals first | ((try (simp only [Zaa, kzz, kz11, kz12, maxL, Zad] at *)); (simp (disch := omega) only [Zal]; omega)) | skip))
        rintro ⟨j, e⟩ ⟨hj, he, hq⟩
        simp only at hj he hq ⊢
        have hm2 : e[0 + (IntKind.i64.wrap ((j : Int) - 1)).toNat]! = e[j - 1]! := by simp (disch := omega) only [Zal]; exact Zbb (by omega)
        ((repeat' first | refine Zac ?_ | (refine Zab tok (by rfl) ?_; conv => whnf) | (refine Zat tok mix (by rfl) ?_; conv => whnf) | refine Zai ?_ | (refine Zag ?_; conv => whnf) | (refine Za3 ?_; conv => whnf) | refine Zae rfl (fun hb => ?_) (fun hb => ?_) | (refine @And.intro (Zaa _ _ _ _) _ ?_ ?_; rotate_left; (conv => whnf); rotate_right)); all_goals (try ((guard_target = Zaa _ _ _ _); refine Zaf ?_; (all_goals (try simp only [Zaa, kzz, kz11, kz12, maxL, Zad] at *)); (all_goals (try (simp (disch := omega) only [Zal]))); all_goals omega)))
        · refine .inl ⟨_, _, _, uG (QC.fc (Zdv (d := e) (i := j) (j := j - 1) _ _ (Zbb (by simp)) hm2) rfl), ?_⟩
          conv => whnf
          have hj1 : 1 ≤ j := by simp only [Zaa, kzz, kz11, kz12, maxL, Zad] at *; omega
          obtain ⟨j, rfl⟩ : ∃ m, j = m + 1 := ⟨j - 1, by omega⟩
          ((repeat' first | (refine Zab tok (by rfl) ?_; conv => whnf) | (refine Zat tok mix (by rfl) ?_; conv => whnf) | (refine Zag ?_; conv => whnf) | (refine Za3 ?_; conv => whnf) | refine Zae rfl (fun hb => ?_) (fun hb => ?_) | (refine @And.intro (Zaa _ _ _ _) _ ?_ ?_; rotate_left; (conv => whnf); rotate_right)); all_goals (try ((guard_target = Zaa _ _ _ _); refine Zaf ?_; (all_goals (try simp only [Zaa, kzz, kz11, kz12, maxL, Zad] at *)); (all_goals (try (simp (disch := omega) only [Zal]))); all_goals omega)))
          · refine ⟨(), trivial, ?_⟩
            have : d3 = e := by rw [← hq]; simp only [shiftDown]; rw [if_pos (by simpa using hb)]
            rw [this]
            refine Weak.list [(i0, .old i0, arow n e)] rfl (by rfl) ?_ (.old rfl (BLe.refl _) .nil)
            ((repeat' first | exact TLes.nil | refine TLes.cons (TLe.eq rfl) ?_); skip)
          · refine ⟨(j, swp e (j + 1) j), ⟨by simp; omega, by rw [Zb4]; exact he, ?_⟩, by simp, ?_⟩
            · rw [← hq]; conv => rhs; simp only [shiftDown]
              rw [if_neg (by simpa using hb)]
            refine Weak.list [(i0, .old i0, arow n (swp e (j + 1) j))] rfl (by rfl) ?_ (.old rfl (BLe.row rfl (fun x hx => ?_)) .nil)
            · ((repeat' first | exact TLes.nil | refine TLes.cons (TLe.eq rfl) ?_ | refine TLes.cons (TLe.int ?_) ?_); (all_goals first | ((try (simp only [Zaa, kzz, kz11, kz12, maxL, Zad] at *)); (simp (disch := omega) only [Zal]; omega)) | skip))
            · exact Zda (d := e) (i := j + 1) (j := j) (by omega) (by omega) (by simp) (by simp (disch := omega) only [Zal]; omega) hm2 (Zbb (by simp)) x
        · refine ⟨(), trivial, ?_⟩
          have hj0 : j = 0 := by simp only [Zaa, kzz, kz11, kz12, maxL, Zad] at *; omega
          subst hj0
          have : d3 = e := by rw [← hq]; rfl
          rw [this]
          refine Weak.list [(i0, .old i0, arow n e)] rfl (by rfl) ?_ (.old rfl (BLe.refl _) .nil)
          ((repeat' first | exact TLes.nil | refine TLes.cons (TLe.eq rfl) ?_); skip)
      · have hk2 : ¬ k - a ≥ 2 := by simp (disch := omega) only [Zal] at hb; simp only [Zaa, kzz, kz11, kz12, maxL, Zad] at *; omega
        rw [if_neg hk2] at hd3
        refine ⟨(), trivial, ?_⟩
        rw [hd3]
        refine Weak.list [(i0, .old i0, arow n d2)] rfl (by rfl) ?_ (.old rfl (BLe.refl _) .nil)
        ((repeat' first | exact TLes.nil | refine TLes.cons (TLe.eq rfl) ?_); skip)
    rintro _ _ τ hτ
    refine Zau hτ ?_
    clear hd3
    conv => whnf
    (repeat' first | refine Zac ?_ | (refine Zab tok (by rfl) ?_; conv => whnf))
    refine Zdp (fun _ : Unit => mkS [(0, .rs i0 1 0 n), (1, iv a), (2, iv b), (6, .bool false), (7, iv k), (8, iv (5 - ((s + 1 : Nat) : Int)))] [(i0, arow n d4)]) (fun _ => True) ?_ ?_
    · (repeat' first | refine Zac ?_ | (refine Zab tok (by rfl) ?_; conv => whnf) | refine Zai ?_ | (refine Zag ?_; conv => whnf) | refine Zae rfl (fun hb => ?_) (fun hb => ?_))
      · have hk2 : b - k ≥ 2 := by simp (disch := omega) only [Zal] at hb; simp only [Zaa, kzz, kz11, kz12, maxL, Zad] at *; omega
        rw [if_pos hk2] at hd4
        refine Za1 (fun q : Nat × Array Int => mkS [(0, .rs i0 1 0 n), (1, iv a), (2, iv b), (6, .bool false), (7, iv k), (8, iv (5 - ((s + 1 : Nat) : Int))), (10, iv q.1)] [(i0, arow n q.2)])
          (fun q => 1 ≤ q.1 ∧ q.1 ≤ b ∧ q.2.size = n ∧ shiftUp ltInt b q.1 q.2 = d4) (fun q => b - q.1) (k + 1, d3) ⟨by simp, by simp; omega, z3, hd4.symm⟩ ?_ ?_
        · refine Weak.list [(i0, .old i0, arow n d3)] rfl (by rfl) ?_ (.old rfl (BLe.refl _) .nil)
          ((repeat' first | exact TLes.nil | refine TLes.cons (TLe.eq rfl) ?_ | refine TLes.cons (TLe.int ?_) ?_); (all_goals first | ((try (simp only [Zaa, kzz, kz11, kz12, maxL, Zad] at *)); exact Zal (by omega) (by omega)) | skip))
        rintro ⟨j, e⟩ ⟨hj1, hj, he, hq⟩
        simp only at hj1 hj he hq ⊢
        have hm2 : e[0 + (IntKind.i64.wrap ((j : Int) - 1)).toNat]! = e[j - 1]! := by simp (disch := omega) only [Zal]; exact Zbb (by omega)
        ((repeat' first | refine Zac ?_ | (refine Zab tok (by rfl) ?_; conv => whnf) | (refine Zat tok mix (by rfl) ?_; conv => whnf) | refine Zai ?_ | (refine Zag ?_; conv => whnf) | (refine Za3 ?_; conv => whnf) | refine Zae rfl (fun hb => ?_) (fun hb => ?_) | (refine @And.intro (Zaa _ _ _ _) _ ?_ ?_; rotate_left; (conv => whnf); rotate_right)); all_goals (try ((guard_target = Zaa _ _ _ _); refine Zaf ?_; (all_goals (try simp only [Zaa, kzz, kz11, kz12, maxL, Zad] at *)); (all_goals (try (simp (disch := omega) only [Zal]))); all_goals omega)))
        · have hjb : j < b := by simp only [Zaa, kzz, kz11, kz12, maxL, Zad] at *; omega
          refine .inl ⟨_, _, _, uG (QC.fc (Zdv (d := e) (i := j) (j := j - 1) _ _ (Zbb (by simp)) hm2) rfl), ?_⟩
          conv => whnf
          ((repeat' first | (refine Zab tok (by rfl) ?_; conv => whnf) | (refine Zat tok mix (by rfl) ?_; conv => whnf) | (refine Zag ?_; conv => whnf) | (refine Za3 ?_; conv => whnf) | refine Zae rfl (fun hb => ?_) (fun hb => ?_) | (refine @And.intro (Zaa _ _ _ _) _ ?_ ?_; rotate_left; (conv => whnf); rotate_right)); all_goals (try ((guard_target = Zaa _ _ _ _); refine Zaf ?_; (all_goals (try simp only [Zaa, kzz, kz11, kz12, maxL, Zad] at *)); (all_goals (try (simp (disch := omega) only [Zal]))); all_goals omega)))
          · refine ⟨(), trivial, ?_⟩
            have : d4 = e := by rw [← hq]; unfold shiftUp; rw [if_pos hjb, if_pos (by simpa using hb)]
            rw [this]
            refine Weak.list [(i0, .old i0, arow n e)] rfl (by rfl) ?_ (.old rfl (BLe.refl _) .nil)
            ((repeat' first | exact TLes.nil | refine TLes.cons (TLe.eq rfl) ?_); skip)
          · refine ⟨(j + 1, swp e j (j - 1)), ⟨by simp, by simp; omega, by rw [Zb4]; exact he, ?_⟩, by simp; omega, ?_⟩
            · rw [← hq]; conv => rhs; unfold shiftUp
              rw [if_pos hjb, if_neg (by simpa using hb)]
            refine Weak.list [(i0, .old i0, arow n (swp e j (j - 1)))] rfl (by rfl) ?_ (.old rfl (BLe.row rfl (fun x hx => ?_)) .nil)
            · ((repeat' first | exact TLes.nil | refine TLes.cons (TLe.eq rfl) ?_ | refine TLes.cons (TLe.int ?_) ?_); (all_goals first | ((try (simp only [Zaa, kzz, kz11, kz12, maxL, Zad] at *)); exact Zal (by omega) (by omega)) | skip))
            · exact Zda (d := e) (i := j) (j := j - 1) (by omega) (by omega) (by simp) (by simp (disch := omega) only [Zal]; omega) hm2 (Zbb (by simp)) x
        · refine ⟨(), trivial, ?_⟩
          have hj0 : ¬ j < b := by simp only [Zaa, kzz, kz11, kz12, maxL, Zad] at *; omega
          have : d4 = e := by rw [← hq]; unfold shiftUp; rw [if_neg hj0]
          rw [this]
          refine Weak.list [(i0, .old i0, arow n e)] rfl (by rfl) ?_ (.old rfl (BLe.refl _) .nil)
          ((repeat' first | exact TLes.nil | refine TLes.cons (TLe.eq rfl) ?_); skip)
      · have hk2 : ¬ b - k ≥ 2 := by simp (disch := omega) only [Zal] at hb; simp only [Zaa, kzz, kz11, kz12, maxL, Zad] at *; omega
        rw [if_neg hk2] at hd4
        refine ⟨(), trivial, ?_⟩
        rw [hd4]
        refine Weak.list [(i0, .old i0, arow n d3)] rfl (by rfl) ?_ (.old rfl (BLe.refl _) .nil)
        ((repeat' first | exact TLes.nil | refine TLes.cons (TLe.eq rfl) ?_); skip)
    rintro _ _ τ hτ
    refine Zau hτ ?_
    conv => whnf
    (repeat' (refine Zab tok (by rfl) ?_; conv => whnf))
    refine ⟨((s, k), d4), ⟨by simp; omega, by simp; omega, by simp; omega, z4, hR2⟩, by simp, ?_⟩
    refine Weak.list [(i0, .old i0, arow n d4)] rfl (by rfl) ?_ (.old rfl (BLe.refl _) .nil)
    ((repeat' first | exact TLes.nil | refine TLes.cons (TLe.eq rfl) ?_ | refine TLes.cons (TLe.int ?_) ?_); (all_goals first | ((try (simp only [Zaa, kzz, kz11, kz12, maxL, Zad] at *)); (simp (disch := omega) only [Zal]; omega)) | skip))
  · have hs0 : s = 0 := by simp only [Zaa, kzz, kz11, kz12, maxL, Zad] at *; omega
    subst hs0
    have hRes : R = (d, false) := hR.symm
    rw [hRes]
    exact ⟨_, [(i0, .old i0, arow n d)], rfl, rfl, rfl, rfl, .old rfl (BLe.refl _) .nil, .eq rfl⟩
end Go.Proofs.YtoelbgjpmpoolaaGreat
namespace Go.Proofs.YtoelbgjpmpoolaaGreat
open Go Dv Go.Sort
set_option maxRecDepth 10000
set_option linter.unusedSimpArgs false
structure PQ where
  (a b lim : Nat)
  (wb wp : Bool)
  d : Array Int
theorem pdq_eq {R d : Array Int} {a b lim : Nat} {wb wp : Bool} (h12 : ¬ b - a ≤ 12) (hlim : lim ≠ 0) (hR : pdq ltInt d a b lim wb wp = R) :
    ∃ d1 lim' c d2 pivot hint pi, d1 = (if (!wb) = true then breakPatterns d a b else d) ∧ lim' = (if (!wb) = true then lim - 1 else lim) ∧ c = choosePivot ltInt d1 a b ∧ d2 = (if c.2 = .decreasing then reverseRange d1 a b else d1) ∧
      pivot = (if c.2 = .decreasing then (b - 1) - (c.1 - a) else c.1) ∧ hint = (if c.2 = .decreasing then Hint.increasing else c.2) ∧ pi = (if (wb && wp && decide (hint = .increasing)) = true then partialInsertionSort ltInt d2 a b else (d2, false)) ∧
      R = if pi.2 = true then pi.1 else if (decide (a > 0) && !ltInt pi.1[a - 1]! pi.1[pivot]!) = true then
        (match partitionEqual ltInt pi.1 a b pivot with
        | (mid, d4) => if _h : a < mid ∧ mid ≤ b then pdq ltInt d4 mid b lim' wb wp else d4)
      else (match partition ltInt pi.1 a b pivot with
        | (mid, ap, d4) => if _h : a ≤ mid ∧ mid < b then
            if mid - a < b - mid then pdq ltInt (pdq ltInt d4 a mid lim' true true) (mid + 1) b lim' (decide (mid - a ≥ (b - a) / 8)) ap
            else pdq ltInt (pdq ltInt d4 (mid + 1) b lim' true true) a mid lim' (decide (b - mid ≥ (b - a) / 8)) ap
          else d4) := by
  refine ⟨_, _, _, _, _, _, _, rfl, rfl, rfl, rfl, rfl, rfl, rfl, ?_⟩
  rw [← hR]
  conv => lhs; unfold pdq
  rw [if_neg h12, if_neg hlim]
def Brk : Prop := ∀ (n : Nat) (d : Array Int) (a b : Nat), d.size = n → a ≤ b → b ≤ n → HC Tryz.prog [i0] 231 [(i0, arow n d)] [.rs i0 1 0 n, iv a, iv b] (.tup []) [(i0, arow n (breakPatterns d a b))]
theorem hintI_two (h : Hint) : decide (hintI h = 2) = decide (h = .decreasing) := by cases h <;> rfl
theorem hintI_one (h : Hint) : decide (hintI h = 1) = decide (h = .increasing) := by cases h <;> rfl
theorem c_pdq (hbrk : Brk) : ∀ (N n : Nat) (d : Array Int) (a b lim : Nat), d.size = n → a ≤ b → b ≤ n → b - a ≤ N → lim ≤ 1000 → Sort.Below ltInt a b d → HC Tryz.prog [i0] 222 [(i0, arow n d)] [.rs i0 1 0 n, iv a, iv b, iv lim] (.tup []) [(i0, arow n (pdq ltInt d a b lim true true))] := by
  intro N
  induction N using Nat.strongRecOn with
  | ind N ih =>
  intro n d0 a0 b0 lim0 hn0 hab0 hbn0 hN0 hl0' hB0
  refine Zcd tok Tryz.func222 rfl (by decide +kernel) (Nat.le_of_ble_eq_true rfl) ?_
  refine Zaw 0 (fun hl => ?_)
  have hl0 : n ≤ 4294967296 := hl
  obtain ⟨R, hR0⟩ : ∃ R, R = pdq ltInt d0 a0 b0 lim0 true true := ⟨_, rfl⟩
  rw [← hR0]
  have h := swo_ltInt
  (repeat' first | refine Zac ?_ | (refine Zab tok (by rfl) ?_; conv => whnf) | refine Zai ?_)
  refine Za1 (fun q : PQ => mkS [(0, .rs i0 1 0 n), (1, iv q.a), (2, iv q.b), (3, iv q.lim), (8, .bool q.wb), (9, .bool q.wp)] [(i0, arow n q.d)])
    (fun q => q.d.size = n ∧ q.a ≤ q.b ∧ q.b ≤ n ∧ q.lim ≤ 1000 ∧ Sort.Below ltInt q.a q.b q.d ∧ q.b - q.a ≤ N ∧ pdq ltInt q.d q.a q.b q.lim q.wb q.wp = R) (fun q => q.b - q.a) ⟨a0, b0, lim0, true, true, d0⟩ ⟨hn0, hab0, hbn0, hl0', hB0, hN0, hR0.symm⟩ ?_ ?_
  · refine Weak.list [(i0, .old i0, arow n d0)] rfl (by rfl) ?_ (.old rfl (BLe.refl _) .nil)
    ((repeat' first | exact TLes.nil | refine TLes.cons (TLe.eq rfl) ?_); skip)
  rintro q ⟨hd, hab, hbn, hlm, hB, hN, hR⟩
  clear hR0
  (repeat' ((fail_if_success (show AWp _ _ _ (Code.region 7 _ _) _ _)); first | refine Zac ?_ | (refine Zab tok (by rfl) ?_; conv => whnf) | refine Zai ?_ | (refine Zag ?_; conv => whnf) | refine Zae rfl (fun hb => ?_) (fun hb => ?_)))
  · have h12 : q.b - q.a ≤ 12 := by simp (disch := omega) only [Zal] at hb; simp only [Zaa, kzz, kz11, kz12, maxL, Zad] at *; omega
    refine .inr ⟨_, _, _, uG (QH.of (dead := []) [(i0, .old i0, arow n q.d)] (c_insertion n q.d q.a q.b hd hab hbn) rfl (.old rfl (BLe.refl _) .nil) ((.cons (.eq rfl) (.cons (.eq rfl) (.cons (.eq rfl) .nil)))) [(i0, i0)] rfl (.cons rfl (BLe.refl _) .nil) rfl), ?_⟩
    conv => whnf
    (repeat' (refine Zah ?_; conv => whnf))
    have hRes : R = insertionSort ltInt q.d q.a q.b := by rw [← hR]; unfold pdq; rw [if_pos h12]
    rw [hRes]
    exact ⟨_, [(i0, .old i0, arow n (insertionSort ltInt q.d q.a q.b))], rfl, rfl, rfl, rfl, .old rfl (BLe.refl _) .nil, .eq rfl⟩
  · rename_i hx
    have h12 : ¬ q.b - q.a ≤ 12 := by simp (disch := omega) only [Zal] at hx; simp only [Zaa, kzz, kz11, kz12, maxL, Zad] at *; omega
    have hz : q.lim = 0 := by simp only [Zaa, kzz, kz11, kz12, maxL, Zad] at *; omega
    refine .inr ⟨_, _, _, uG (QH.of (dead := []) [(i0, .old i0, arow n q.d)] (c_heap n q.d q.a q.b hd hab hbn) rfl (.old rfl (BLe.refl _) .nil) ((.cons (.eq rfl) (.cons (.eq rfl) (.cons (.eq rfl) .nil)))) [(i0, i0)] rfl (.cons rfl (BLe.refl _) .nil) rfl), ?_⟩
    conv => whnf
    (repeat' (refine Zah ?_; conv => whnf))
    have hRes : R = heapSort ltInt q.d q.a q.b := by rw [← hR]; unfold pdq; rw [if_neg h12, if_pos hz]
    rw [hRes]
    exact ⟨_, [(i0, .old i0, arow n (heapSort ltInt q.d q.a q.b))], rfl, rfl, rfl, rfl, .old rfl (BLe.refl _) .nil, .eq rfl⟩
  rename_i hx
  have h12 : ¬ q.b - q.a ≤ 12 := by simp (disch := omega) only [Zal] at hx; simp only [Zaa, kzz, kz11, kz12, maxL, Zad] at *; omega
  have hz : q.lim ≠ 0 := by simp only [Zaa, kzz, kz11, kz12, maxL, Zad] at *; omega
  clear hb hx
  obtain ⟨d1, lim', c, d2, pivot, hint, pi, e1, e2, e3, e4, e5, e6, e7, hstep⟩ := pdq_eq h12 hz hR
  have s1 : PermIn q.a q.b q.d d1 := by rw [e1]; exact step_break q.d hab (by omega) _
  have b1 : d1.size = n := by rw [s1.1]; exact hd
  have s2 : PermIn q.a q.b d1 d2 := by rw [e4]; exact step_reverse reverseRange_holds d1 hab (by omega) _
  have b2 : d2.size = n := by rw [s2.1]; exact b1
  have B2 : Sort.Below ltInt q.a q.b d2 := (hB.perm (by omega) s1).perm (by omega) s2
  have s3 : PermIn q.a q.b d2 pi.1 := by rw [e7]; exact (step_partial (partialInsertionSort_holds (lt := ltInt)) h d2 (a := q.a) (b := q.b) (by omega) (by omega) B2 _).1
  have b3 : pi.1.size = n := by rw [s3.1]; exact b2
  have B3 : Sort.Below ltInt q.a q.b pi.1 := B2.perm (by omega) s3
  have hc0 := choosePivot_holds ltInt d1 q.a q.b (by omega)
  rw [← e3] at hc0
  have hpv : q.a ≤ pivot ∧ pivot < q.b := by rw [e5]; exact pivot_range hc0.1 hc0.2 _
  have hlm' : lim' ≤ 1000 := by rw [e2]; split <;> omega
  (repeat' (refine Zab tok (by rfl) ?_; conv => whnf))
  refine Zdp (fun _ : Unit => mkS [(0, .rs i0 1 0 n), (1, iv q.a), (2, iv q.b), (3, iv lim'), (8, .bool q.wb), (9, .bool q.wp), (10, iv ((q.b - q.a : Nat) : Int))] [(i0, arow n d1)]) (fun _ => True) ?_ ?_
  · (repeat' first | refine Zac ?_ | (refine Zab tok (by rfl) ?_; conv => whnf) | (refine Zag ?_; conv => whnf) | refine Zae rfl (fun hb => ?_) (fun hb => ?_))
    · have hw : (!q.wb) = true := hb
      rw [if_pos hw] at e1 e2
      refine .inr ⟨_, _, _, uG (QH.of (dead := []) [(i0, .old i0, arow n q.d)] (hbrk n q.d q.a q.b hd hab hbn) rfl (.old rfl (BLe.refl _) .nil) ((.cons (.eq rfl) (.cons (.eq rfl) (.cons (.eq rfl) .nil)))) [(i0, i0)] rfl (.cons rfl (BLe.refl _) .nil) rfl), ?_⟩
      conv => whnf
      (repeat' (refine Zab tok (by rfl) ?_; conv => whnf))
      refine ⟨(), trivial, ?_⟩
      rw [e1]
      refine Weak.list [(i0, .old i0, arow n (breakPatterns q.d q.a q.b))] rfl (by rfl) ?_ (.old rfl (BLe.refl _) .nil)
      ((repeat' first | exact TLes.nil | refine TLes.cons (TLe.eq rfl) ?_ | refine TLes.cons (TLe.int ?_) ?_); (all_goals first | ((try (simp only [Zaa, kzz, kz11, kz12, maxL, Zad] at *)); (simp (disch := omega) only [Zal]; omega)) | skip))
      all_goals (rw [e2]; omega)
    · have hw : ¬ (!q.wb) = true := by rw [hb]; simp
      rw [if_neg hw] at e1 e2
      refine ⟨(), trivial, ?_⟩
      rw [e1]
      refine Weak.list [(i0, .old i0, arow n q.d)] rfl (by rfl) ?_ (.old rfl (BLe.refl _) .nil)
      ((repeat' first | exact TLes.nil | refine TLes.cons (TLe.eq rfl) ?_ | refine TLes.cons (TLe.int ?_) ?_); (all_goals first | ((try (simp only [Zaa, kzz, kz11, kz12, maxL, Zad] at *)); first | omega | (simp (disch := omega) only [Zal]; omega)) | skip))
      all_goals (rw [e2])
  rintro _ _ τ hτ
  refine Zau hτ ?_
  have hch := c_choose n d1 q.a q.b b1 (by omega) hbn
  rw [← e3] at hch
  conv => whnf
  (repeat' first | refine Zac ?_ | (refine Zab tok (by rfl) ?_; conv => whnf))
  refine .inr ⟨_, _, _, uG (QH.of (dead := []) [(i0, .old i0, arow n d1)] (hch) rfl (.old rfl (BLe.refl _) .nil) ((.cons (.eq rfl) (.cons (.eq rfl) (.cons (.eq rfl) .nil)))) [(i0, i0)] rfl (.cons rfl (BLe.refl _) .nil) rfl), ?_⟩
  conv => whnf
  (repeat' first | refine Zac ?_ | (refine Zab tok (by rfl) ?_; conv => whnf))
  refine Zdp (fun _ : Unit => mkS [(0, .rs i0 1 0 n), (1, iv q.a), (2, iv q.b), (3, iv lim'), (8, .bool q.wb), (9, .bool q.wp), (10, iv ((q.b - q.a : Nat) : Int)), (11, iv pivot), (12, iv (hintI hint))] [(i0, arow n d2)]) (fun _ => True) ?_ ?_
  · (repeat' first | refine Zac ?_ | (refine Zab tok (by rfl) ?_; conv => whnf) | (refine Zag ?_; conv => whnf) | refine Zae rfl (fun hb => ?_) (fun hb => ?_))
    · have hw : c.2 = .decreasing := by rw [hintI_two] at hb; simpa using hb
      rw [if_pos hw] at e4 e5 e6
      refine .inr ⟨_, _, _, uG (QH.of (dead := []) [(i0, .old i0, arow n d1)] (c_reverse n d1 q.a q.b b1 (by omega) hbn) rfl (.old rfl (BLe.refl _) .nil) ((.cons (.eq rfl) (.cons (.eq rfl) (.cons (.eq rfl) .nil)))) [(i0, i0)] rfl (.cons rfl (BLe.refl _) .nil) rfl), ?_⟩
      conv => whnf
      (repeat' first | refine Zac ?_ | (refine Zab tok (by rfl) ?_; conv => whnf))
      refine ⟨(), trivial, ?_⟩
      rw [e4]
      refine Weak.list [(i0, .old i0, arow n (reverseRange d1 q.a q.b))] rfl (by rfl) ?_ (.old rfl (BLe.refl _) .nil)
      ((repeat' first | exact TLes.nil | refine TLes.cons (TLe.eq rfl) ?_ | refine TLes.cons (TLe.int ?_) ?_); (all_goals first | ((try (simp only [Zaa, kzz, kz11, kz12, maxL, Zad] at *)); (simp (disch := omega) only [Zal]; omega)) | skip))
      all_goals first | (rw [e5]; simp (disch := omega) only [Zal]; omega) | (rw [e6]; rfl)
    · have hw : ¬ c.2 = .decreasing := by rw [hintI_two] at hb; simpa using hb
      rw [if_neg hw] at e4 e5 e6
      refine ⟨(), trivial, ?_⟩
      rw [e4]
      refine Weak.list [(i0, .old i0, arow n d1)] rfl (by rfl) ?_ (.old rfl (BLe.refl _) .nil)
      ((repeat' first | exact TLes.nil | refine TLes.cons (TLe.eq rfl) ?_ | refine TLes.cons (TLe.int ?_) ?_); (all_goals first | ((try (simp only [Zaa, kzz, kz11, kz12, maxL, Zad] at *)); omega) | skip))
      all_goals first | (rw [e5]) | (rw [e6])
  rintro _ _ τ hτ
  refine Zau hτ ?_
  conv => whnf
  (repeat' first | refine Zac ?_ | (refine Zab tok (by rfl) ?_; conv => whnf))
  rw [hintI_one]
  refine Zdp (fun _ : Unit => mkS [(0, .rs i0 1 0 n), (1, iv q.a), (2, iv q.b), (3, iv lim'), (8, .bool q.wb), (9, .bool q.wp), (10, iv ((q.b - q.a : Nat) : Int)), (11, iv pivot)] [(i0, arow n pi.1)]) (fun _ => pi.2 = false) ?_ ?_
  · (repeat' first | refine Zac ?_ | (refine Zab tok (by rfl) ?_; conv => whnf) | (refine Zag ?_; conv => whnf) | refine Zae rfl (fun hb => ?_) (fun hb => ?_))
    · have hcond : (q.wb && q.wp && decide (hint = .increasing)) = true := by
        cases h1 : q.wb <;> cases h2 : q.wp <;> simp [h1, h2] at hb ⊢
        exact hb
      rw [if_pos hcond] at e7
      have hcp := c_partial n d2 q.a q.b b2 (by omega) hbn
      rw [← e7] at hcp
      refine .inr ⟨_, _, _, uG (QH.of (dead := []) [(i0, .old i0, arow n d2)] (hcp) rfl (.old rfl (BLe.refl _) .nil) ((.cons (.eq rfl) (.cons (.eq rfl) (.cons (.eq rfl) .nil)))) [(i0, i0)] rfl (.cons rfl (BLe.refl _) .nil) rfl), ?_⟩
      conv => whnf
      (repeat' first | (refine Zag ?_; conv => whnf) | (refine Zah ?_; conv => whnf) | refine Zae rfl (fun hb => ?_) (fun hb => ?_))
      · have hRes : R = pi.1 := by rw [hstep, if_pos hb]
        rw [hRes]
        exact ⟨_, [(i0, .old i0, arow n pi.1)], rfl, rfl, rfl, rfl, .old rfl (BLe.refl _) .nil, .eq rfl⟩
      · refine ⟨(), hb, ?_⟩
        refine Weak.list [(i0, .old i0, arow n pi.1)] rfl (by rfl) ?_ (.old rfl (BLe.refl _) .nil)
        ((repeat' first | exact TLes.nil | refine TLes.cons (TLe.eq rfl) ?_); skip)
    · have hcond : ¬ (q.wb && q.wp && decide (hint = .increasing)) = true := by
        cases h1 : q.wb <;> cases h2 : q.wp <;> simp [h1, h2] at hb ⊢
        exact hb
      rw [if_neg hcond] at e7
      refine ⟨(), by rw [e7], ?_⟩
      rw [e7]
      refine Weak.list [(i0, .old i0, arow n d2)] rfl (by rfl) ?_ (.old rfl (BLe.refl _) .nil)
      ((repeat' first | exact TLes.nil | refine TLes.cons (TLe.eq rfl) ?_); skip)
  rintro _ hpi τ hτ
  refine Zau hτ ?_
  rw [hpi, if_neg (by simp)] at hstep
  generalize pi.1 = d3 at s3 b3 B3 hstep
  clear hτ
  have hm1 : d3[0 + (IntKind.i64.wrap ((q.a : Int) - 1)).toNat]! = d3[q.a - 1]! := by simp (disch := omega) only [Zal]; exact Zbb (by omega)
  conv => whnf
  ((repeat' first | refine Zac ?_ | (refine Zat tok mix (by rfl) ?_; conv => whnf) | (refine @And.intro (Zaa _ _ _ _) _ ?_ ?_; rotate_left; (conv => whnf); rotate_right)); all_goals (try ((guard_target = Zaa _ _ _ _); ((refine Za8 ?_; intro hgd; (conv at hgd => whnf))); (all_goals (try simp only [Zaa, kzz, kz11, kz12, maxL, Zad] at *)); (all_goals (try (simp (disch := omega) only [Zal]))); all_goals omega)))
  refine .inl ⟨_, _, _, uG (QC.fc (Zdv (d := d3) (i := q.a - 1) (j := pivot) _ _ hm1 (Zbb (by simp))) rfl), ?_⟩
  conv => whnf
  (repeat' first | refine Zac ?_ | (refine Zab tok (by rfl) ?_; conv => whnf) | (refine Zag ?_; conv => whnf) | refine Zae rfl (fun hb => ?_) (fun hb => ?_))
  · have hc : (decide (q.a > 0) && !ltInt d3[q.a - 1]! d3[pivot]!) = true := by
      by_cases h1 : 0 < q.a
      · rw [decide_eq_true (by omega)] at hb
        rw [Bool.and_eq_true]; exact ⟨by simpa using h1, hb⟩
      · rw [decide_eq_false (by omega)] at hb; cases hb
    rw [if_pos hc] at hstep
    rw [Bool.and_eq_true, decide_eq_true_eq, Bool.not_eq_true'] at hc
    obtain ⟨mid, d4, hx⟩ : ∃ m d, partitionEqual ltInt d3 q.a q.b pivot = (m, d) := ⟨_, _, rfl⟩
    have hcp := c_partEq n d3 q.a q.b pivot b3 hpv.1 hpv.2 hbn
    rw [hx] at hcp hstep
    obtain ⟨g1, g2, g3, g4, _⟩ := round_eq h (partitionEqual_holds (lt := ltInt)) hc.1 hpv.1 hpv.2 (by omega) B3 hc.2 hx
    simp only [] at hcp hstep
    rw [dif_pos ⟨g1, g2⟩] at hstep
    refine .inr ⟨_, _, _, uG (QH.of (dead := []) [(i0, .old i0, arow n d3)] (hcp) rfl (.old rfl (BLe.refl _) .nil) ((.cons (.eq rfl) (.cons (.eq rfl) (.cons (.eq rfl) (.cons (.eq rfl) .nil))))) [(i0, i0)] rfl (.cons rfl (BLe.refl _) .nil) rfl), ?_⟩
    conv => whnf
    (repeat' first | refine Zac ?_ | (refine Zab tok (by rfl) ?_; conv => whnf) | (refine Za3 ?_; conv => whnf))
    refine ⟨⟨mid, q.b, lim', q.wb, q.wp, d4⟩, ⟨by simp; omega, g2, hbn, hlm', g4, by simp; omega, hstep.symm⟩, by simp; omega, ?_⟩
    refine Weak.list [(i0, .old i0, arow n d4)] rfl (by rfl) ?_ (.old rfl (BLe.refl _) .nil)
    ((repeat' first | exact TLes.nil | refine TLes.cons (TLe.eq rfl) ?_); skip)
  have hc : ¬ (decide (q.a > 0) && !ltInt d3[q.a - 1]! d3[pivot]!) = true := by
    rw [Bool.and_eq_true]
    rintro ⟨h1, h2⟩
    simp only [decide_eq_true_eq] at h1
    rw [decide_eq_true (by omega), h2] at hb; cases hb
  rw [if_neg hc] at hstep
  obtain ⟨mid, ap, d4, hx⟩ : ∃ m p d, partition ltInt d3 q.a q.b pivot = (m, p, d) := ⟨_, _, _, rfl⟩
  have hcp := c_part n d3 q.a q.b pivot b3 hpv.1 hpv.2 hbn
  rw [hx] at hcp hstep
  obtain ⟨g1, g2, g3, g4, g5, g6, g7⟩ := round_part h (partition_holds ltInt) hpv.1 hpv.2 (by omega) B3 hx
  simp only [] at hcp hstep
  rw [dif_pos ⟨g1, g2⟩] at hstep
  refine .inr ⟨_, _, _, uG (QH.of (dead := []) [(i0, .old i0, arow n d3)] (hcp) rfl (.old rfl (BLe.refl _) .nil) ((.cons (.eq rfl) (.cons (.eq rfl) (.cons (.eq rfl) (.cons (.eq rfl) .nil))))) [(i0, i0)] rfl (.cons rfl (BLe.refl _) .nil) rfl), ?_⟩
  conv => whnf
  ((repeat' first | refine Zac ?_ | (refine Zab tok (by rfl) ?_; conv => whnf) | refine Zae rfl (fun hb => ?_) (fun hb => ?_) | (refine @And.intro (Zaa _ _ _ _) _ ?_ ?_; rotate_left; (conv => whnf); rotate_right)); all_goals (try ((guard_target = Zaa _ _ _ _); refine Zaf ?_; (all_goals (try simp only [Zaa, kzz, kz11, kz12, maxL, Zad] at *)); all_goals omega)))
  · have hlt : mid - q.a < q.b - mid := by simp (disch := omega) only [Zal] at hb; simp only [Zaa, kzz, kz11, kz12, maxL, Zad] at *; omega
    rw [if_pos hlt] at hstep
    refine .inr ⟨_, _, _, uG (QH.of (dead := []) [(i0, .old i0, arow n d4)] (ih (mid - q.a) (by omega) n d4 q.a mid lim' (by omega) g1 (by omega) (Nat.le_refl _) hlm' g4) rfl (.old rfl (BLe.refl _) .nil) ((.cons (.eq rfl) (.cons (.eq rfl) (.cons (.eq rfl) (.cons (.eq rfl) .nil))))) [(i0, i0)] rfl (.cons rfl (BLe.refl _) .nil) rfl), ?_⟩
    conv => whnf
    (repeat' (refine Zab tok (by rfl) ?_; conv => whnf))
    have hp := pdq_sorts ltInt h d4 q.a mid lim' true true g1 (by omega) g4
    generalize pdq ltInt d4 q.a mid lim' true true = L at hp hstep
    have hL := (g6 L hp.1 hp.2).1
    have hLs := hp.1.1
    refine ⟨⟨mid + 1, q.b, lim', decide (mid - q.a ≥ (q.b - q.a) / 8), ap, L⟩, ⟨by simp; omega, by simp; omega, hbn, hlm', hL, by simp; omega, hstep.symm⟩, by simp; omega, ?_⟩
    refine Weak.list [(i0, .old i0, arow n L)] rfl (by rfl) ?_ (.old rfl (BLe.refl _) .nil)
    ((repeat' first | exact TLes.nil | refine TLes.cons (TLe.eq rfl) ?_ | refine TLes.cons (TLe.int ?_) ?_ | refine TLes.cons (TLe.bool ?_) ?_); (all_goals first | ((try (simp only [Zaa, kzz, kz11, kz12, maxL, Zad] at *)); exact Zal (by omega) (by omega)) | skip))
    all_goals
      rw [Int.tdiv_eq_ediv_of_nonneg (by omega), Zal (x := ((q.b - q.a : Nat) : Int) / 8) (by omega) (by omega), Zal (by omega) (by omega), decide_eq_decide]
      omega
  · have hlt : ¬ mid - q.a < q.b - mid := by simp (disch := omega) only [Zal] at hb; simp only [Zaa, kzz, kz11, kz12, maxL, Zad] at *; omega
    rw [if_neg hlt] at hstep
    have hcall : ∀ z : Int, z = ((mid + 1 : Nat) : Int) → HC Tryz.prog [i0] 222 [(i0, arow n d4)] [.rs i0 1 0 n, iv z, iv q.b, iv lim'] (.tup []) [(i0, arow n (pdq ltInt d4 (mid + 1) q.b lim' true true))] :=
      fun z e => e ▸ ih (q.b - (mid + 1)) (by omega) n d4 (mid + 1) q.b lim' (by omega) (by omega) (by omega) (Nat.le_refl _) hlm' g5
    refine .inr ⟨_, _, _, uG (QH.of (dead := []) [(i0, .old i0, arow n d4)] (hcall _ (by simp (disch := omega) only [Zal]; omega)) rfl (.old rfl (BLe.refl _) .nil) ((.cons (.eq rfl) (.cons (.eq rfl) (.cons (.eq rfl) (.cons (.eq rfl) .nil))))) [(i0, i0)] rfl (.cons rfl (BLe.refl _) .nil) rfl), ?_⟩
    conv => whnf
    (repeat' (refine Zab tok (by rfl) ?_; conv => whnf))
    have hp := pdq_sorts ltInt h d4 (mid + 1) q.b lim' true true (by omega) (by omega) g5
    generalize pdq ltInt d4 (mid + 1) q.b lim' true true = L at hp hstep
    have hL := (g7 L hp.1 hp.2).1
    have hLs := hp.1.1
    refine ⟨⟨q.a, mid, lim', decide (q.b - mid ≥ (q.b - q.a) / 8), ap, L⟩, ⟨by simp; omega, g1, by simp; omega, hlm', hL, by simp; omega, hstep.symm⟩, by simp; omega, ?_⟩
    refine Weak.list [(i0, .old i0, arow n L)] rfl (by rfl) ?_ (.old rfl (BLe.refl _) .nil)
    ((repeat' first | exact TLes.nil | refine TLes.cons (TLe.eq rfl) ?_ | refine TLes.cons (TLe.bool ?_) ?_); skip)
    all_goals
      rw [Int.tdiv_eq_ediv_of_nonneg (by omega), Zal (x := ((q.b - q.a : Nat) : Int) / 8) (by omega) (by omega), Zal (by omega) (by omega), decide_eq_decide]
      omega
end Go.Proofs.YtoelbgjpmpoolaaGreat
namespace Go.Proofs
open Go.Shelf
def Tryz.lays125_ren : Go.Shelf.Ren := ⟨fun | 125 => 201 | 128 => 219 | 129 => 220 | n => n, fun | 46 => 222 | 3 => 3 | 51 => 236 | 53 => 226 | 4 => 4 | 5 => 5 | 9 => 9 | n => n, fun | n => n⟩
theorem Tryz.lays125 : Go.Proofs.Lays.n125 Tryz.prog Tryz.lays125_ren := {
  mixed := by kernel_rfl
  f125 := Tryz.func201.trans (congrArg some (by kernel_rfl))
  f128 := Tryz.func219.trans (congrArg some (by kernel_rfl))
  f129 := Tryz.func220.trans (congrArg some (by kernel_rfl))
  t3 := Tryz.underlying3
  a3 := Tryz.isAgg3
  z3 := Tryz.sizeOf3
  v3 := Tryz.zeroValue3
  t4 := Tryz.underlying4
  a4 := Tryz.isAgg4
  z4 := Tryz.sizeOf4
  v4 := Tryz.zeroValue4
  t5 := Tryz.underlying5
  a5 := Tryz.isAgg5
  z5 := Tryz.sizeOf5
  v5 := Tryz.zeroValue5
  t9 := Tryz.underlying9
  a9 := Tryz.isAgg9
  z9 := Tryz.sizeOf9
  v9 := Tryz.zeroValue9
  t46 := Tryz.underlying222
  a46 := Tryz.isAgg222
  z46 := Tryz.sizeOf222
  v46 := Tryz.zeroValue222
  t51 := Tryz.underlying236
  a51 := Tryz.isAgg236
  z51 := Tryz.sizeOf236
  v51 := Tryz.zeroValue236
  t53 := Tryz.underlying226
  a53 := Tryz.isAgg226
  z53 := Tryz.sizeOf226
  v53 := Tryz.zeroValue226 }
end Go.Proofs
namespace Go.Proofs.YtoelbgjpmpoolaaGreat
open Go Dv Go.Sort Go.Shelf
set_option maxRecDepth 10000
set_option linter.unusedSimpArgs false
theorem c_Len (x : Nat) (hx : x < 4611686018427387904) : FC Tryz.prog 201 [.int .u64 x] (iv (bitsLen x)) := by
  refine ⟨⟨_, Tryz.func201, rfl, by decide +kernel⟩, fun X w vals _ hV => ?_⟩
  simp only [Vs, V] at hV
  obtain ⟨v, r, rfl, ⟨rfl, _⟩, rfl⟩ := hV
  refine (Any.bits_Len Tryz.lays125 (x : Int) w (by omega) (by omega)).mono ?_
  rintro e w' ⟨he, rfl⟩
  rw [Int.toNat_natCast, Go.Proofs.bitLen_eq _ (by omega)] at he
  refine ⟨_, he, Fr.refl _ _, ?_⟩
  simp only [V]
  have := (bitsLen_le_iff x 62).2 (by omega)
  refine ⟨trivial, ?_, ?_⟩ <;> simp [IntKind.min, IntKind.max, IntKind.signed, IntKind.bits] <;> omega
theorem c_nextPow (L : Nat) (hL : L < 4611686018427387904) : FC Tryz.prog 224 [iv L] (.int .u64 ((1 <<< bitsLen L : Nat) : Int)) := by
  refine Zao tok Tryz.func224 rfl (by decide +kernel) (Nat.le_of_ble_eq_true rfl) ?_
  (repeat' first | refine Zac ?_ | (refine Zab tok (by rfl) ?_; conv => whnf))
  have hcall : ∀ z : Int, z = (L : Int) → FC Tryz.prog 201 [.int .u64 z] (iv (bitsLen L)) := fun z e => e ▸ c_Len L hL
  refine .inl ⟨_, _, _, uG (QC.fc (hcall _ (by rw [IntKind.wrap_u64]; omega)) rfl), ?_⟩
  conv => whnf
  ((repeat' first | (refine Zah ?_; conv => whnf) | (refine @And.intro (Zaa _ _ _ _) _ ?_ ?_; rotate_left; (conv => whnf); rotate_right)); all_goals (try ((guard_target = Zaa _ _ _ _); refine Zaf ?_; all_goals omega)))
  have hk : bitsLen L ≤ 62 := (bitsLen_le_iff L 62).2 (by omega)
  refine ⟨_, rfl, Rel.int ?_⟩
  show IntKind.u64.wrap (1 * 2 ^ (min (bitsLen L : Int).toNat 64)) = _
  rw [Int.toNat_natCast, Nat.min_eq_left (by omega), Int.one_mul]
  exact Go.Proofs.wrap_two_pow (bitsLen L) hk
def g1 (y : Int) : Int := bitsI .xor .u64 y (y.fdiv (2 ^ (min (7 : Int).toNat IntKind.u64.bits)))
def g2 (y : Int) : Int := bitsI .xor .u64 y (IntKind.u64.wrap (y * 2 ^ (min (17 : Int).toNat IntKind.u64.bits)))
abbrev urow (r : Nat) : Zan := .row true 1 1 (fun _ => [.int .u64 r])
theorem c_Next (X : Nat) (hX : X < 18446744073709551616) : HC Tryz.prog [i0] 225 [(i0, urow X)] [.bp i0 0] (.int .u64 (xorNextN X)) [(i0, urow (xorNextN X))] := by
  refine Zcd tok Tryz.func225 rfl (by decide +kernel) (Nat.le_of_ble_eq_true rfl) ?_
  obtain ⟨A, hA⟩ : ∃ A : Nat, A = X ^^^ (X * 8192 % 18446744073709551616) := ⟨_, rfl⟩
  obtain ⟨B, hB⟩ : ∃ B : Nat, B = A ^^^ (A / 128) := ⟨_, rfl⟩
  obtain ⟨C, hC⟩ : ∃ C : Nat, C = B ^^^ (B * 131072 % 18446744073709551616) := ⟨_, rfl⟩
  have lA : A < 18446744073709551616 := by rw [hA]; exact Nat.xor_lt_two_pow (n := 64) (by omega) (by omega)
  have lB : B < 18446744073709551616 := by rw [hB]; exact Nat.xor_lt_two_pow (n := 64) (by omega) (by omega)
  have e1 : Go.bits .xor .u64 (X : Int) (IntKind.u64.wrap ((X : Int) * 8192)) = (A : Int) := by
    rw [IntKind.wrap_u64, show ((X : Int) * 8192 % 18446744073709551616) = ((X * 8192 % 18446744073709551616 : Nat) : Int) by omega, bits_xor_u64_nat _ _ hX (by omega), hA]
  have e2 : Go.bits .xor .u64 (A : Int) ((A : Int).fdiv 128) = (B : Int) := by
    rw [Int.fdiv_eq_ediv_of_nonneg _ (by omega), show ((A : Int) / 128) = ((A / 128 : Nat) : Int) by omega, bits_xor_u64_nat _ _ lA (by omega), hB]
  have e3 : Go.bits .xor .u64 (B : Int) (IntKind.u64.wrap ((B : Int) * 131072)) = (C : Int) := by
    rw [IntKind.wrap_u64, show ((B : Int) * 131072 % 18446744073709551616) = ((B * 131072 % 18446744073709551616 : Nat) : Int) by omega, bits_xor_u64_nat _ _ lB (by omega), hC]
  have hv : xorNextN X = C := by unfold xorNextN; simp only []; rw [← hA, ← hB, ← hC]
  rw [hv]
  have hE : g2 (g1 (bitsI .xor .u64 (X : Int) (IntKind.u64.wrap ((X : Int) * 2 ^ (min (13 : Int).toNat IntKind.u64.bits))))) = (C : Int) := by
    rw [show bitsI .xor .u64 (X : Int) (IntKind.u64.wrap ((X : Int) * 2 ^ (min (13 : Int).toNat IntKind.u64.bits))) = (A : Int) from e1, show g1 (A : Int) = (B : Int) from e2]
    exact e3
  ((repeat' first | refine Zac ?_ | (refine Zab tok (by rfl) ?_; conv => whnf) | (refine Zat tok mix (by rfl) ?_; conv => whnf) | (refine Zah ?_; conv => whnf) | (refine @And.intro (Zaa _ _ _ _) _ ?_ ?_; rotate_left; (conv => whnf); rotate_right)); all_goals (try ((guard_target = Zaa _ _ _ _); refine Zaf ?_; all_goals omega)))
  refine ⟨_, [(i0, .old i0, urow C)], rfl, rfl, rfl, rfl, .old rfl (BLe.row rfl (fun x hx => ?_)) .nil, TLe.int hE⟩
  match x, hx with
  | 0, _ => exact congrArg (fun z => [AV.int .u64 z]) hE
theorem c_break : Brk := by
  intro n d0 a b hn hab hbn
  refine Zcd tok Tryz.func231 rfl (by decide +kernel) (Nat.le_of_ble_eq_true rfl) ?_
  refine Zaw 0 (fun hl => ?_)
  have hl0 : n ≤ 4294967296 := hl
  obtain ⟨L, rfl⟩ : ∃ L, b = a + L := ⟨b - a, by omega⟩
  (repeat' first | refine Zac ?_ | (refine Zab tok (by rfl) ?_; conv => whnf) | (refine Zag ?_; conv => whnf) | refine Zae rfl (fun hb => ?_) (fun hb => ?_))
  · have h8 : 8 ≤ L := by simp (disch := omega) only [Zal] at hb; simp only [Zaa, kzz, kz11, kz12, maxL, Zad] at *; omega
    rw [Go.Proofs.breakPatterns_eq d0 a L h8]
    obtain ⟨M, hM⟩ : ∃ M, M = 1 <<< bitsLen L := ⟨_, rfl⟩
    have hM1 : 1 ≤ M := by rw [hM, Nat.one_shiftLeft]; exact Nat.two_pow_pos _
    have hM2 : M ≤ 2 * L := by rw [hM, Nat.one_shiftLeft]; exact two_pow_bitsLen_le (by omega)
    rw [← hM]
    obtain ⟨I, hI⟩ : ∃ I, I = a + L / 4 * 2 - 1 := ⟨_, rfl⟩
    rw [← hI]
    have hnp : ∀ z : Int, z = (L : Int) → FC Tryz.prog 224 [iv z] (.int .u64 (M : Int)) := fun z e => by rw [e, hM]; exact c_nextPow L (by omega)
    refine .inl ⟨_, _, _, uG (QC.fc (hnp _ (by simp (disch := omega) only [Zal]; omega)) rfl), ?_⟩
    conv => whnf
    ((repeat' first | refine Zac ?_ | (refine Zab tok (by rfl) ?_; conv => whnf) | refine Zai ?_ | (refine @And.intro (Zaa _ _ _ _) _ ?_ ?_; rotate_left; (conv => whnf); rotate_right)); all_goals (try ((guard_target = Zaa _ _ _ _); refine Zaf ?_; (all_goals (try simp only [Zaa, kzz, kz11, kz12, maxL, Zad] at *)); all_goals omega)))
    obtain ⟨R0, hR0⟩ : ∃ R0, R0 = Go.Proofs.bpRest a L M I 3 0 (UInt64.ofNat L, d0) := ⟨_, rfl⟩
    rw [← hR0]
    have eL : IntKind.i64.wrap (((a + L : Nat) : Int) - (a : Int)) = (L : Int) := by rw [Zal (by omega) (by omega)]; omega
    have eQ : ((L : Int)).tdiv 4 = ((L / 4 : Nat) : Int) := by rw [Int.tdiv_eq_ediv_of_nonneg (by omega)]; omega
    have eA : IntKind.i64.wrap ((a : Int) + IntKind.i64.wrap (IntKind.i64.wrap ((L : Int).tdiv 4) * 2)) = ((I + 1 : Nat) : Int) := by
      rw [eQ, Zal (x := ((L / 4 : Nat) : Int)) (by omega) (by omega), Zal (x := ((L / 4 : Nat) : Int) * 2) (by omega) (by omega), Zal (by omega) (by omega)]; omega
    refine Za1 (fun q : Nat × UInt64 × Array Int => mkS [(0, .rs i0 1 0 n), (1, iv a), (6, iv L), (7, .bp (7, 0, 0) 0), (8, .int .u64 M), (9, iv ((I + q.1 : Nat) : Int))] [(i0, arow n q.2.2), ((7, 0, 0), urow q.2.1.toNat)])
      (fun q => q.1 ≤ 3 ∧ q.2.2.size = n ∧ Go.Proofs.bpRest a L M I (3 - q.1) q.1 (q.2.1, q.2.2) = R0) (fun q => 3 - q.1) (0, UInt64.ofNat L, d0) ⟨Nat.zero_le _, hn, hR0.symm⟩ ?_ ?_
    · refine Weak.list [(i0, .old i0, arow n d0), ((7, 0, 0), .old (7, 0, 0), urow (UInt64.ofNat L).toNat)] rfl (by rfl) ?_ (.old rfl (BLe.refl _) (.old rfl (BLe.row rfl (fun x hx => ?_)) .nil))
      · ((repeat' first | exact TLes.nil | refine TLes.cons (TLe.eq rfl) ?_ | refine TLes.cons (TLe.int ?_) ?_); (all_goals first | ((try (simp only [Zaa, kzz, kz11, kz12, maxL, Zad] at *)); omega) | skip))
        all_goals (rw [eL, eA, Zal (by omega) (by omega)]; simp)
      · match x, hx with
        | 0, _ =>
          show [AV.int .u64 (IntKind.u64.wrap (IntKind.i64.wrap (((a + L : Nat) : Int) - (a : Int))))] = [AV.int .u64 ((UInt64.ofNat L).toNat : Int)]
          rw [eL, IntKind.wrap_u64, UInt64.toNat_ofNat']
          simp
    clear hR0
    rintro ⟨t, r, d⟩ ⟨ht, hd, hR⟩
    simp only at ht hd hR ⊢
    ((repeat' first | refine Zac ?_ | (refine Zab tok (by rfl) ?_; conv => whnf) | refine Zai ?_ | (refine Zag ?_; conv => whnf) | (refine Za3 ?_; conv => whnf) | refine Zae rfl (fun hb => ?_) (fun hb => ?_) | (refine @And.intro (Zaa _ _ _ _) _ ?_ ?_; rotate_left; (conv => whnf); rotate_right)); all_goals (try ((guard_target = Zaa _ _ _ _); refine Zaf ?_; (all_goals (try simp only [Zaa, kzz, kz11, kz12, maxL, Zad] at *)); all_goals omega)))
    · have ht2 : t < 3 := by rw [eA, Zal (by omega) (by omega)] at hb; simp only [Zaa, kzz, kz11, kz12, maxL, Zad] at *; omega
      clear hb
      have lr := r.toNat_lt
      refine .inr ⟨_, _, _, uG (QH.of (dead := []) [(i0, .old (7, 0, 0), urow r.toNat)] (c_Next r.toNat (by omega)) rfl (.old rfl (BLe.refl _) .nil) (.cons (.eq rfl) .nil) [(i0, (7, 0, 0))] rfl (.cons rfl (BLe.refl _) .nil) rfl), ?_⟩
      conv => whnf
      (repeat' ((fail_if_success (show AWp _ _ _ (Code.region 8 _ _) _ _)); refine Zac ?_))
      rw [← xorNext_toNat]
      obtain ⟨O, hO⟩ : ∃ O, O = (xorNext r).toNat &&& (M - 1) := ⟨_, rfl⟩
      have lO : O ≤ M - 1 := by rw [hO]; exact Nat.and_le_right
      have lx := (xorNext r).toNat_lt
      have eO : IntKind.i64.wrap (bitsI .and .u64 ((xorNext r).toNat : Int) (IntKind.u64.wrap ((M : Int) - 1))) = (O : Int) := by
        rw [IntKind.wrap_u64, show ((M : Int) - 1) % 18446744073709551616 = ((M - 1 : Nat) : Int) by omega, show bitsI .and .u64 ((xorNext r).toNat : Int) ((M - 1 : Nat) : Int) = (((xorNext r).toNat &&& (M - 1) : Nat) : Int) from bits_and_u64_nat _ _ (by omega) (by omega), ← hO, Zal (by omega) (by omega)]
      refine Zau (Weak.list (tl := [(0, .rs i0 1 0 n), (1, iv a), (6, iv L), (7, .bp (7, 0, 0) 0), (8, .int .u64 M), (9, iv ((I + t : Nat) : Int)), (10, iv O)]) [(i0, .old i0, arow n d), ((7, 0, 0), .old (7, 0, 0), urow (xorNext r).toNat)] rfl (by rfl) ?_ (.old rfl (BLe.refl _) (.old rfl (BLe.refl _) .nil))) ?_
      · ((repeat' first | exact TLes.nil | refine TLes.cons (TLe.eq rfl) ?_ | refine TLes.cons (TLe.int ?_) ?_); (all_goals first | ((try (simp only [Zaa, kzz, kz11, kz12, maxL, Zad] at *)); omega) | skip))
      (repeat' (refine Zab tok (by rfl) ?_; conv => whnf))
      obtain ⟨o, ho⟩ : ∃ o, o = if O ≥ L then O - L else O := ⟨_, rfl⟩
      have lo : o < L := by rw [ho]; split <;> omega
      refine Zdp (fun _ : Unit => mkS [(0, .rs i0 1 0 n), (1, iv a), (6, iv L), (7, .bp (7, 0, 0) 0), (8, .int .u64 M), (9, iv ((I + t : Nat) : Int)), (10, iv o)] [(i0, arow n d), ((7, 0, 0), urow (xorNext r).toNat)]) (fun _ => True) ?_ ?_
      · (repeat' first | (refine Zab tok (by rfl) ?_; conv => whnf) | (refine Zag ?_; conv => whnf) | refine Zae rfl (fun hb => ?_) (fun hb => ?_))
        · have h1 : O ≥ L := by simp only [Zaa, kzz, kz11, kz12, maxL, Zad] at *; omega
          rw [if_pos h1] at ho
          refine ⟨(), trivial, Weak.list [(i0, .old i0, arow n d), ((7, 0, 0), .old (7, 0, 0), urow (xorNext r).toNat)] rfl (by rfl) ?_ (.old rfl (BLe.refl _) (.old rfl (BLe.refl _) .nil))⟩
          ((repeat' first | exact TLes.nil | refine TLes.cons (TLe.eq rfl) ?_ | refine TLes.cons (TLe.int ?_) ?_); (all_goals first | ((try (simp only [Zaa, kzz, kz11, kz12, maxL, Zad] at *)); (simp (disch := omega) only [Zal]; omega)) | skip))
          all_goals (rw [ho]; simp (disch := omega) only [Zal]; omega)
        · have h1 : ¬ O ≥ L := by simp only [Zaa, kzz, kz11, kz12, maxL, Zad] at *; omega
          rw [if_neg h1] at ho
          refine ⟨(), trivial, Weak.list [(i0, .old i0, arow n d), ((7, 0, 0), .old (7, 0, 0), urow (xorNext r).toNat)] rfl (by rfl) ?_ (.old rfl (BLe.refl _) (.old rfl (BLe.refl _) .nil))⟩
          ((repeat' first | exact TLes.nil | refine TLes.cons (TLe.eq rfl) ?_ | refine TLes.cons (TLe.int ?_) ?_); (all_goals first | ((try (simp only [Zaa, kzz, kz11, kz12, maxL, Zad] at *)); omega) | skip))
          all_goals (rw [ho])
      rintro _ _ τ hτ
      refine Zau hτ ?_
      conv => whnf
      ((repeat' first | (refine Zab tok (by rfl) ?_; conv => whnf) | (refine Zat tok mix (by rfl) ?_; conv => whnf) | (refine @And.intro (Zaa _ _ _ _) _ ?_ ?_; rotate_left; (conv => whnf); rotate_right)); all_goals (try ((guard_target = Zaa _ _ _ _); refine Zaf ?_; (all_goals (try simp only [Zaa, kzz, kz11, kz12, maxL, Zad] at *)); (all_goals (try (simp (disch := omega) only [Zal]))); all_goals omega)))
      have h2 : d[0 + (IntKind.i64.wrap ((a : Int) + (o : Int))).toNat]! = d[a + o]! := by simp (disch := omega) only [Zal]; exact Zbb (by omega)
      refine ⟨(t + 1, xorNext r, swp d (I + t) (a + o)), ⟨ht2, by rw [Zb4]; exact hd, ?_⟩, by simp; omega, ?_⟩
      · rw [← hR]; exact (Go.Proofs.bp_step a L M I t r d o ht2 (by rw [← hO]; exact ho.symm)).symm
      refine Weak.list [(i0, .old i0, arow n (swp d (I + t) (a + o))), ((7, 0, 0), .old (7, 0, 0), urow (xorNext r).toNat)] rfl (by rfl) ?_ (.old rfl (BLe.row rfl (fun x hx => ?_)) (.old rfl (BLe.refl _) .nil))
      · ((repeat' first | exact TLes.nil | refine TLes.cons (TLe.eq rfl) ?_ | refine TLes.cons (TLe.int ?_) ?_); (all_goals first | ((try (simp only [Zaa, kzz, kz11, kz12, maxL, Zad] at *)); exact Zal (by omega) (by omega)) | skip))
      · exact Zda (d := d) (i := I + t) (j := a + o) (by omega) (by omega) (by omega) (by simp (disch := omega) only [Zal]; omega) h2 (Zbb (by omega)) x
    · have ht3 : t = 3 := by rw [eA, Zal (by omega) (by omega)] at hb; simp only [Zaa, kzz, kz11, kz12, maxL, Zad] at *; omega
      subst ht3
      have hRes : R0 = d := hR.symm
      rw [hRes]
      exact ⟨_, [(i0, .old i0, arow n d)], rfl, rfl, rfl, rfl, .old rfl (BLe.refl _) .nil, .eq rfl⟩
  · have h8 : ¬ 8 ≤ L := by simp (disch := omega) only [Zal] at hb; simp only [Zaa, kzz, kz11, kz12, maxL, Zad] at *; omega
    have : breakPatterns d0 a (a + L) = d0 := by unfold breakPatterns; simp only []; rw [if_neg (by omega)]
    rw [this]
    exact ⟨_, [(i0, .old i0, arow n d0)], rfl, rfl, rfl, rfl, .old rfl (BLe.refl _) .nil, .eq rfl⟩
end Go.Proofs.YtoelbgjpmpoolaaGreat
namespace Go.Proofs.YtoelbgjpmpoolaaGreat
open Go Dv Go.Sort
set_option maxRecDepth 10000
set_option linter.unusedSimpArgs false
theorem c_Sort (n : Nat) (d : Array Int) (hn : d.size = n) : HC Tryz.prog [i0] 204 [(i0, arow n d)] [.rs i0 1 0 n] (.tup []) [(i0, arow n (Go.Sort.sort ltInt d))] := by
  refine Zcd tok Tryz.func204 rfl (by decide +kernel) (Nat.le_of_ble_eq_true rfl) ?_
  refine Zaw 0 (fun hl => ?_)
  have hl0 : n ≤ 4294967296 := hl
  (repeat' first | refine Zac ?_ | (refine Zab tok (by rfl) ?_; conv => whnf))
  have hk := (bitsLen_le_iff n 62).2 (by omega)
  have hlen : ∀ z : Int, z = (n : Int) → FC Tryz.prog 201 [.int .u64 z] (iv (bitsLen n)) := fun z e => e ▸ c_Len n (by omega)
  refine .inl ⟨_, _, _, uG (QC.fc (hlen _ (by rw [IntKind.wrap_u64]; omega)) rfl), ?_⟩
  conv => whnf
  skip
  have hp := c_pdq c_break n n d 0 n (bitsLen n) hn (Nat.zero_le _) (Nat.le_refl _) (by omega) (by omega) (Or.inl rfl)
  have he : Go.Sort.sort ltInt d = pdq ltInt d 0 n (bitsLen n) true true := by unfold Go.Sort.sort; rw [hn]
  rw [he]
  refine .inr ⟨_, _, _, uG (QH.of (dead := []) [(i0, .old i0, arow n d)] hp rfl (.old rfl (BLe.refl _) .nil) (.cons (.eq rfl) (.cons (.eq rfl) (.cons (.eq rfl) (.cons (.eq rfl) .nil)))) [(i0, i0)] rfl (.cons rfl (BLe.refl _) .nil) rfl), ?_⟩
  conv => whnf
  skip
  exact ⟨_, [(i0, .old i0, arow n (pdq ltInt d 0 n (bitsLen n) true true))], rfl, rfl, rfl, rfl, .old rfl (BLe.refl _) .nil, .eq rfl⟩
def Zdq (l : List Int) : List Int := (Go.Sort.sort ltInt l.toArray).toList
theorem sorted_len (l : List Int) : (Zdq l).length = l.length := by
  have := (sort_sorts ltInt swo_ltInt l.toArray).1.1
  simp only [Zdq, Array.length_toList, this, List.size_toArray]
theorem sorted_eq (l : List Int) : Zdq l = l.mergeSort (fun x y => decide (x ≤ y)) := sortInt l
theorem bang_list (l : List Int) (x : Nat) : l.toArray[x]! = l.getD x 0 := by
  by_cases h : x < l.length
  · rw [getElem!_pos l.toArray x (by simpa using h), Zb5 0 h]; simp
  · rw [getElem!_neg l.toArray x (by simpa using h), List.getD_eq_getElem?_getD, List.getElem?_eq_none (by omega)]; rfl
end Go.Proofs.YtoelbgjpmpoolaaGreat
namespace Go.Proofs.YtoelbgjpmpoolaaGreat
open Go Dv Go.Sort
set_option maxRecDepth 10000
set_option linter.unusedSimpArgs false
def runs (d : Array Int) : Nat → Nat
  | 0 => 0
  | 1 => 1
  | j + 2 => runs d (j + 1) + if d[j + 1]! = d[j]! then 0 else 1
theorem runs_succ (d : Array Int) {j : Nat} (h : 1 ≤ j) : runs d (j + 1) = runs d j + if d[j]! = d[j - 1]! then 0 else 1 := by
  obtain ⟨j, rfl⟩ : ∃ k, j = k + 1 := ⟨j - 1, by omega⟩
  rfl
theorem runs_le (d : Array Int) : ∀ j, runs d j ≤ j
  | 0 => Nat.le_refl _
  | 1 => Nat.le_refl _
  | j + 2 => by have := runs_le d (j + 1); simp only [runs]; split <;> omega
abbrev xrow (n : Nat) : Zan := .row true 1 n (fun _ => [.any])
theorem any_row {n n' : Nat} {f : Nat → List AV} (hn : n' ≤ n) (h : ∀ i, i < n' → ∃ v, f i = [v]) : BLe (.row true 1 n f) (xrow n') := by
  refine BLe.rowW hn (fun i hi => ?_)
  obtain ⟨v, e⟩ := h i hi
  rw [e]; exact .cons .any .nil
theorem set_row {d : Array Int} {i i' : Nat} {u v : Int} (hi : i < d.size) (ei : i' = i) (eu : u = v) (x : Nat) :
    updR (fun x => [AV.int .u16 d[x]!]) i' [.int .u16 u] x = [.int .u16 (d.setIfInBounds i v)[x]!] := by
  subst ei; subst eu
  rw [bang_set _ _ _ _ hi]
  unfold updR
  cases h2 : Nat.beq i' x with
  | true => have := Nat.eq_of_beq_eq_true h2; rw [if_pos this]; rfl
  | false =>
    have n2 : i' ≠ x := fun e => by subst e; simp at h2
    rw [if_neg n2]; rfl
theorem c_Compact (n : Nat) (d : Array Int) (hn : d.size = n) : HC Tryz.prog [i0] 184 [(i0, arow n d)] [.rs i0 1 0 n] (.rs i0 1 0 (runs d n)) [(i0, xrow n)] := by
  refine Zcd tok Tryz.func184 rfl (by decide +kernel) (Nat.le_of_ble_eq_true rfl) ?_
  refine Zaw 0 (fun hl => ?_)
  have hl0 : n ≤ 4294967296 := hl
  (repeat' first | refine Zac ?_ | (refine Zab tok (by rfl) ?_; conv => whnf) | refine Zai ?_ | (refine Zag ?_; conv => whnf) | (refine Zah ?_; conv => whnf) | refine Zae rfl (fun hb => ?_) (fun hb => ?_))
  · have h2 : n = 0 ∨ n = 1 := by simp only [Zaa, kzz, kz11, kz12, maxL, Zad] at *; omega
    have hr : runs d n = n := by rcases h2 with rfl | rfl <;> rfl
    rw [hr]
    exact ⟨_, [(i0, .old i0, xrow n)], rfl, rfl, rfl, rfl, .old rfl (any_row (Nat.le_refl _) (fun i _ => ⟨_, rfl⟩)) .nil, .eq rfl⟩
  have hn2 : 2 ≤ n := by simp only [Zaa, kzz, kz11, kz12, maxL, Zad] at *; omega
  clear hb
  refine Za1 (fun k : Nat => mkS [(0, .rs i0 1 0 n), (2, .nsl), (3, iv k)] [(i0, arow n d)])
    (fun k => 1 ≤ k ∧ k ≤ n ∧ runs d k = k) (fun k => n - k) 1 ⟨Nat.le_refl _, by omega, rfl⟩ ?_ ?_
  · refine Weak.list [(i0, .old i0, arow n d)] rfl (by rfl) ?_ (.old rfl (BLe.refl _) .nil)
    ((repeat' first | exact TLes.nil | refine TLes.cons (TLe.eq rfl) ?_); skip)
  rintro k ⟨hk1, hk2, hr⟩
  have hm1 : d[0 + (IntKind.i64.wrap ((k : Int) - 1)).toNat]! = d[k - 1]! := by simp (disch := omega) only [Zal]; exact Zbb (by omega)
  ((repeat' ((fail_if_success (show AWp _ _ _ (Code.region 8 _ _) _ _)); first | refine Zac ?_ | (refine Zab tok (by rfl) ?_; conv => whnf) | (refine Zat tok mix (by rfl) ?_; conv => whnf) | refine Zai ?_ | (refine Zag ?_; conv => whnf) | (refine Za3 ?_; conv => whnf) | (refine Zah ?_; conv => whnf) | refine Zae rfl (fun hb => ?_) (fun hb => ?_) | (refine @And.intro (Zaa _ _ _ _) _ ?_ ?_; rotate_left; (conv => whnf); rotate_right))); all_goals (try ((guard_target = Zaa _ _ _ _); refine Zaf ?_; (all_goals (try simp only [Zaa, kzz, kz11, kz12, maxL, Zad] at *)); (all_goals (try (simp (disch := omega) only [Zal]))); all_goals omega)))
  · have hlt : k < n := by rename_i hx; simp only [Zaa, kzz, kz11, kz12, maxL, Zad] at *; omega
    have heq : d[k]! = d[k - 1]! := by rw [hm1] at hb; simpa using hb
    clear hb
    (repeat' first | (refine Zab tok (by rfl) ?_; conv => whnf) | refine Zai ?_)
    refine Za1 (fun q : (Nat × Nat) × Array Int => mkS [(0, .rs i0 1 0 n), (2, .nsl), (3, iv q.1.2), (4, .rs i0 1 (0 + (k : Int).toNat) (n - k)), (5, iv q.1.1)] [(i0, arow n q.2)])
      (fun q => 1 ≤ q.1.1 ∧ q.1.1 ≤ n - k ∧ q.1.2 = runs d (k + q.1.1) ∧ q.2.size = n ∧ q.1.2 ≤ k + q.1.1 - 1 ∧ ∀ x, k + q.1.1 - 1 ≤ x → q.2[x]! = d[x]!) (fun q => n - k - q.1.1) ((1, k), d)
      ⟨by simp, by simp; omega, by simp only []; rw [runs_succ d hk1, if_pos heq, hr]; rfl, hn, by simp, fun _ _ => rfl⟩ ?_ ?_
    · refine Weak.list [(i0, .old i0, arow n d)] rfl (by rfl) ?_ (.old rfl (BLe.refl _) .nil)
      ((repeat' first | exact TLes.nil | refine TLes.cons (TLe.eq rfl) ?_); skip)
    rintro ⟨⟨j, i⟩, e⟩ ⟨hj1, hj2, hi, he, hij, hx⟩
    simp only at hj1 hj2 hi he hij hx ⊢
    ((repeat' first | refine Zac ?_ | (refine Zab tok (by rfl) ?_; conv => whnf) | (refine Zat tok mix (by rfl) ?_; conv => whnf) | refine Zai ?_ | (refine Zag ?_; conv => whnf) | (refine Za3 ?_; conv => whnf) | (refine Zah ?_; conv => whnf) | refine Zae rfl (fun hb => ?_) (fun hb => ?_) | (refine @And.intro (Zaa _ _ _ _) _ ?_ ?_; rotate_left; (conv => whnf); rotate_right)); all_goals (try ((guard_target = Zaa _ _ _ _); refine Zaf ?_; (all_goals (try simp only [Zaa, kzz, kz11, kz12, maxL, Zad] at *)); (all_goals (try (simp (disch := omega) only [Zal]))); all_goals omega)))
    · have hlt2 : j < n - k := by rename_i h1; simp only [Zaa, kzz, kz11, kz12, maxL, Zad] at *; omega
      have hv1 : e[0 + (k : Int).toNat + (j : Int).toNat]! = d[k + j]! := by rw [Zbb (i := k + j) (by omega)]; exact hx _ (by omega)
      have hv2 : e[0 + (k : Int).toNat + (IntKind.i64.wrap ((j : Int) - 1)).toNat]! = d[k + j - 1]! := by rw [Zal (by omega) (by omega), Zbb (i := k + j - 1) (by omega)]; exact hx _ (by omega)
      have hne : ¬ d[k + j]! = d[k + j - 1]! := by rw [hv1, hv2] at hb; simpa using hb
      refine ⟨((j + 1, i + 1), e.setIfInBounds i d[k + j]!), ⟨by simp, by simp; omega, ?_, by simp [he], by simp; omega, fun x h2 => ?_⟩, by simp; omega, ?_⟩
      · simp only []
        rw [show k + (j + 1) = k + j + 1 by omega, runs_succ d (by omega), if_neg hne, hi]
      · simp only [] at h2 ⊢
        rw [bang_set _ _ _ _ (by omega), if_neg (by omega)]
        exact hx x (by omega)
      refine Weak.list [(i0, .old i0, arow n (e.setIfInBounds i d[k + j]!))] rfl (by rfl) ?_ (.old rfl (BLe.row rfl (fun x h2 => ?_)) .nil)
      · ((repeat' first | exact TLes.nil | refine TLes.cons (TLe.eq rfl) ?_ | refine TLes.cons (TLe.int ?_) ?_); (all_goals first | ((try (simp only [Zaa, kzz, kz11, kz12, maxL, Zad] at *)); exact Zal (by omega) (by omega)) | skip))
      · exact set_row (d := e) (i := i) (by omega) (by omega) hv1 x
    · have hlt2 : j < n - k := by rename_i h1; simp only [Zaa, kzz, kz11, kz12, maxL, Zad] at *; omega
      have hv1 : e[0 + (k : Int).toNat + (j : Int).toNat]! = d[k + j]! := by rw [Zbb (i := k + j) (by omega)]; exact hx _ (by omega)
      have hv2 : e[0 + (k : Int).toNat + (IntKind.i64.wrap ((j : Int) - 1)).toNat]! = d[k + j - 1]! := by rw [Zal (by omega) (by omega), Zbb (i := k + j - 1) (by omega)]; exact hx _ (by omega)
      have hne : d[k + j]! = d[k + j - 1]! := by rw [hv1, hv2] at hb; simpa using hb
      refine ⟨((j + 1, i), e), ⟨by simp, by simp; omega, ?_, he, by simp; omega, fun x h2 => hx x (by simp at h2; omega)⟩, by simp; omega, ?_⟩
      · simp only []
        rw [show k + (j + 1) = k + j + 1 by omega, runs_succ d (by omega), if_pos hne, hi]; rfl
      refine Weak.list [(i0, .old i0, arow n e)] rfl (by rfl) ?_ (.old rfl (BLe.refl _) .nil)
      ((repeat' first | exact TLes.nil | refine TLes.cons (TLe.eq rfl) ?_ | refine TLes.cons (TLe.int ?_) ?_); (all_goals first | ((try (simp only [Zaa, kzz, kz11, kz12, maxL, Zad] at *)); exact Zal (by omega) (by omega)) | skip))
    · have hj : j = n - k := by simp only [Zaa, kzz, kz11, kz12, maxL, Zad] at *; omega
      have hin : i = runs d n := by rw [hi, hj]; congr 1; omega
      refine ⟨_, [(i0, .old i0, xrow n)], rfl, rfl, rfl, rfl, .old rfl (any_row (Nat.le_refl _) (fun x h2 => ?_)) .nil, TLe.rsL rfl (by rw [← hin]; simp)⟩
      show ∃ v, (bif inRow (0 + (i : Int).toNat) ((n : Int).toNat - (i : Int).toNat) x then [AV.int .u16 0] else [AV.int .u16 e[x]!]) = [v]
      cases inRow (0 + (i : Int).toNat) ((n : Int).toNat - (i : Int).toNat) x <;> exact ⟨_, rfl⟩
  · have hlt : k < n := by rename_i hx; simp only [Zaa, kzz, kz11, kz12, maxL, Zad] at *; omega
    have heq : ¬ d[k]! = d[k - 1]! := by rw [hm1] at hb; simpa using hb
    refine ⟨k + 1, ⟨by omega, by omega, by rw [runs_succ d hk1, if_neg heq, hr]⟩, by omega, ?_⟩
    refine Weak.list [(i0, .old i0, arow n d)] rfl (by rfl) ?_ (.old rfl (BLe.refl _) .nil)
    ((repeat' first | exact TLes.nil | refine TLes.cons (TLe.eq rfl) ?_ | refine TLes.cons (TLe.int ?_) ?_); (all_goals first | ((try (simp only [Zaa, kzz, kz11, kz12, maxL, Zad] at *)); exact Zal (by omega) (by omega)) | skip))
  · have hkn : k = n := by simp only [Zaa, kzz, kz11, kz12, maxL, Zad] at *; omega
    rw [← hkn, hr, hkn]
    exact ⟨_, [(i0, .old i0, xrow n)], rfl, rfl, rfl, rfl, .old rfl (any_row (Nat.le_refl _) (fun i _ => ⟨_, rfl⟩)) .nil, .eq rfl⟩
theorem runs_all {l : List Int} (hs : ∀ i j, i < j → j < l.length → l.getD i 0 ≤ l.getD j 0) : ∀ j, j ≤ l.length → (runs l.toArray j = j ↔ ∀ x, x < j → ∀ y, y < x → l.getD y 0 ≠ l.getD x 0)
  | 0, _ => ⟨fun _ x h => by omega, fun _ => rfl⟩
  | 1, _ => ⟨fun _ x h y h2 => by omega, fun _ => rfl⟩
  | j + 2, hj => by
      have ih := runs_all hs (j + 1) (by omega)
      have hle := runs_le l.toArray (j + 1)
      simp only [runs, bang_list]
      constructor
      · intro h
        split at h
        · omega
        · rename_i hne
          have hall := ih.1 (by omega)
          intro x hx y hy
          by_cases e : x = j + 1
          · subst e
            by_cases e2 : y = j
            · subst e2; exact fun h3 => hne h3.symm
            · have h1 := hs y j (by omega) (by omega)
              have h2 := hs j (j + 1) (by omega) (by omega)
              omega
          · exact hall x (by omega) y hy
      · intro h
        rw [if_neg (fun h3 => h (j + 1) (by omega) j (by omega) h3.symm)]
        have := ih.2 (fun x hx y hy => h x (by omega) y hy)
        omega
end Go.Proofs.YtoelbgjpmpoolaaGreat
