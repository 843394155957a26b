/- A module laid open may be; run 20 times as long it tells, and ends, as the module does, but for too many frames. -/
import Derived.Test.YtoelbgjpmpoolaaGreatDvc3
import Derived.Test.YtoelbgjpmpoolaaGreatProg
import Derived.Sort.AssemblyPlain
import Derived.Shelf.Small.Bits
import Derived.Sort.Walk7
import Derived.RangeFuncGives
import Derived.Maps.AppendAt
import Derived.Shelf.Abstract
import Derived.WalkKit
import Derived.OwnWalkIn
import Derived.TacticsInMore
import Derived.RegionIn
import Derived.LoopNIn
import Derived.LoopIn
set_option linter.unusedVariables false
set_option linter.unusedSimpArgs false
set_option linter.unnecessarySimpa false
namespace Go.Proofs.YtoelbgjpmpoolaaGreat
open Go Dv
def table : List (Nat × Dv.TI) := [
 (1, ⟨1, 8, .other, [.nfn]⟩),
 (2, ⟨1, 8, .int .i64, [.int .i64 0]⟩),
 (3, ⟨1, 8, .int .i64, [.int .i64 0]⟩),
 (4, ⟨1, 1, .bool, [.bool false]⟩),
 (5, ⟨1, 1, .int .u8, [.int .u8 0]⟩),
 (6, ⟨1, 1, .int .u8, [.int .u8 0]⟩),
 (7, ⟨4, 24, .struct [(0, 2), (1, 3), (2, 4), (3, 6)], [.int .i64 0, .int .i64 0, .bool false, .int .u8 0]⟩),
 (8, ⟨4, 24, .struct [(0, 2), (1, 3), (2, 4), (3, 6)], [.int .i64 0, .int .i64 0, .bool false, .int .u8 0]⟩),
 (9, ⟨1, 16, .string, [.str ⟨#[]⟩]⟩),
 (10, ⟨1, 16, .string, [.str ⟨#[]⟩]⟩),
 (11, ⟨1, 16, .string, [.str ⟨#[]⟩]⟩),
 (12, ⟨1, 8, .int .u64, [.int .u64 0]⟩),
 (13, ⟨2, 24, .struct [(0, 9), (1, 12)], [.str ⟨#[]⟩, .int .u64 0]⟩),
 (14, ⟨2, 24, .struct [(0, 9), (1, 12)], [.str ⟨#[]⟩, .int .u64 0]⟩),
 (15, ⟨1, 8, .other, [.np]⟩),
 (16, ⟨1, 8, .other, [.np]⟩),
 (17, ⟨1, 8, .other, [.np]⟩),
 (18, ⟨1, 8, .struct [(0, 17)], [.np]⟩),
 (19, ⟨1, 8, .struct [(0, 17)], [.np]⟩),
 (20, ⟨1, 16, .other, [.nif]⟩),
 (21, ⟨1, 4, .int .i32, [.int .i32 0]⟩),
 (22, ⟨1, 24, .slice 38, [.nsl]⟩),
 (23, ⟨1, 24, .struct [(0, 22)], [.nsl]⟩),
 (24, ⟨1, 24, .struct [(0, 22)], [.nsl]⟩),
 (25, ⟨1, 24, .slice 50, [.nsl]⟩),
 (26, ⟨1, 8, .other, [.nfn]⟩),
 (27, ⟨1, 8, .other, [.nfn]⟩),
 (28, ⟨1, 8, .int .i64, [.int .i64 0]⟩),
 (30, ⟨1, 8, .other, [.nfn]⟩),
 (31, ⟨1, 8, .other, [.nfn]⟩),
 (32, ⟨1, 8, .other, [.nfn]⟩),
 (33, ⟨1, 8, .other, [.nfn]⟩),
 (34, ⟨1, 24, .slice 4, [.nsl]⟩),
 (35, ⟨1, 8, .other, [.nfn]⟩),
 (36, ⟨1, 24, .slice 46, [.nsl]⟩),
 (37, ⟨3, 40, .struct [(0, 3), (1, 3), (2, 36)], [.int .i64 0, .int .i64 0, .nsl]⟩),
 (38, ⟨3, 40, .struct [(0, 3), (1, 3), (2, 36)], [.int .i64 0, .int .i64 0, .nsl]⟩),
 (39, ⟨4, 40, .struct [(0, 3), (1, 25), (2, 4), (3, 4)], [.int .i64 0, .nsl, .bool false, .bool false]⟩),
 (40, ⟨4, 40, .struct [(0, 3), (1, 25), (2, 4), (3, 4)], [.int .i64 0, .nsl, .bool false, .bool false]⟩),
 (41, ⟨1, 24, .slice 70, [.nsl]⟩),
 (42, ⟨1, 24, .slice 3, [.nsl]⟩),
 (43, ⟨8, 80, .struct [(0, 3), (1, 3), (2, 3), (3, 3), (4, 42), (5, 3), (6, 3), (7, 3)], [.int .i64 0, .int .i64 0, .int .i64 0, .int .i64 0, .nsl, .int .i64 0, .int .i64 0, .int .i64 0]⟩),
 (44, ⟨8, 80, .struct [(0, 3), (1, 3), (2, 3), (3, 3), (4, 42), (5, 3), (6, 3), (7, 3)], [.int .i64 0, .int .i64 0, .int .i64 0, .int .i64 0, .nsl, .int .i64 0, .int .i64 0, .int .i64 0]⟩),
 (45, ⟨14, 152, .struct [(0, 4), (1, 40), (5, 41), (6, 44)], [.bool false, .int .i64 0, .nsl, .bool false, .bool false, .nsl, .int .i64 0, .int .i64 0, .int .i64 0, .int .i64 0, .nsl, .int .i64 0, .int .i64 0, .int .i64 0]⟩),
 (46, ⟨14, 152, .struct [(0, 4), (1, 40), (5, 41), (6, 44)], [.bool false, .int .i64 0, .nsl, .bool false, .bool false, .nsl, .int .i64 0, .int .i64 0, .int .i64 0, .int .i64 0, .nsl, .int .i64 0, .int .i64 0, .int .i64 0]⟩),
 (47, ⟨1, 8, .other, [.nfn]⟩),
 (48, ⟨1, 8, .other, [.nfn]⟩),
 (49, ⟨1, 24, .slice 62, [.nsl]⟩),
 (50, ⟨1, 2, .int .u16, [.int .u16 0]⟩),
 (51, ⟨16, 32, .array 16 50, [.int .u16 0, .int .u16 0, .int .u16 0, .int .u16 0, .int .u16 0, .int .u16 0, .int .u16 0, .int .u16 0, .int .u16 0, .int .u16 0, .int .u16 0, .int .u16 0, .int .u16 0, .int .u16 0, .int .u16 0, .int .u16 0]⟩),
 (52, ⟨21, 120, .struct [(0, 49), (1, 51), (17, 25), (18, 42), (19, 3), (20, 50)], [.nsl, .int .u16 0, .int .u16 0, .int .u16 0, .int .u16 0, .int .u16 0, .int .u16 0, .int .u16 0, .int .u16 0, .int .u16 0, .int .u16 0, .int .u16 0, .int .u16 0, .int .u16 0, .int .u16 0, .int .u16 0, .int .u16 0, .nsl, .nsl, .int .i64 0, .int .u16 0]⟩),
 (53, ⟨21, 120, .struct [(0, 49), (1, 51), (17, 25), (18, 42), (19, 3), (20, 50)], [.nsl, .int .u16 0, .int .u16 0, .int .u16 0, .int .u16 0, .int .u16 0, .int .u16 0, .int .u16 0, .int .u16 0, .int .u16 0, .int .u16 0, .int .u16 0, .int .u16 0, .int .u16 0, .int .u16 0, .int .u16 0, .int .u16 0, .nsl, .nsl, .int .i64 0, .int .u16 0]⟩),
 (54, ⟨1, 8, .other, [.nfn]⟩),
 (55, ⟨1, 8, .other, [.nfn]⟩),
 (56, ⟨1, 8, .other, [.nfn]⟩),
 (58, ⟨1, 8, .other, [.nfn]⟩),
 (59, ⟨1, 8, .other, [.nfn]⟩),
 (60, ⟨1, 8, .other, [.nfn]⟩),
 (61, ⟨5, 56, .struct [(0, 3), (1, 3), (2, 3), (3, 25), (4, 50)], [.int .i64 0, .int .i64 0, .int .i64 0, .nsl, .int .u16 0]⟩),
 (62, ⟨5, 56, .struct [(0, 3), (1, 3), (2, 3), (3, 25), (4, 50)], [.int .i64 0, .int .i64 0, .int .i64 0, .nsl, .int .u16 0]⟩),
 (63, ⟨1, 8, .other, [.nfn]⟩),
 (64, ⟨1, 8, .other, [.nfn]⟩),
 (65, ⟨1, 24, .slice 34, [.nsl]⟩),
 (66, ⟨1, 8, .other, [.nfn]⟩),
 (67, ⟨1, 8, .other, [.nfn]⟩),
 (68, ⟨1, 8, .other, [.nfn]⟩),
 (69, ⟨7, 72, .struct [(0, 3), (1, 3), (2, 3), (3, 3), (4, 50), (5, 3), (6, 42)], [.int .i64 0, .int .i64 0, .int .i64 0, .int .i64 0, .int .u16 0, .int .i64 0, .nsl]⟩),
 (70, ⟨7, 72, .struct [(0, 3), (1, 3), (2, 3), (3, 3), (4, 50), (5, 3), (6, 42)], [.int .i64 0, .int .i64 0, .int .i64 0, .int .i64 0, .int .u16 0, .int .i64 0, .nsl]⟩),
 (71, ⟨1, 8, .other, [.nfn]⟩),
 (72, ⟨1, 8, .other, [.nfn]⟩),
 (74, ⟨1, 8, .other, [.nfn]⟩),
 (75, ⟨1, 8, .other, [.nfn]⟩),
 (76, ⟨1, 8, .other, [.nfn]⟩),
 (77, ⟨1, 8, .other, [.nfn]⟩),
 (78, ⟨1, 8, .other, [.nfn]⟩),
 (79, ⟨1, 8, .other, [.nfn]⟩),
 (80, ⟨1, 8, .other, [.nfn]⟩),
 (81, ⟨1, 8, .other, [.nfn]⟩),
 (82, ⟨1, 8, .other, [.nfn]⟩),
 (83, ⟨1, 8, .other, [.nfn]⟩),
 (84, ⟨1, 8, .other, [.nfn]⟩),
 (85, ⟨1, 8, .other, [.np]⟩),
 (86, ⟨22, 144, .struct [(0, 53), (21, 24)], [.nsl, .int .u16 0, .int .u16 0, .int .u16 0, .int .u16 0, .int .u16 0, .int .u16 0, .int .u16 0, .int .u16 0, .int .u16 0, .int .u16 0, .int .u16 0, .int .u16 0, .int .u16 0, .int .u16 0, .int .u16 0, .int .u16 0, .nsl, .nsl, .int .i64 0, .int .u16 0, .nsl]⟩),
 (87, ⟨22, 144, .struct [(0, 53), (21, 24)], [.nsl, .int .u16 0, .int .u16 0, .int .u16 0, .int .u16 0, .int .u16 0, .int .u16 0, .int .u16 0, .int .u16 0, .int .u16 0, .int .u16 0, .int .u16 0, .int .u16 0, .int .u16 0, .int .u16 0, .int .u16 0, .int .u16 0, .nsl, .nsl, .int .i64 0, .int .u16 0, .nsl]⟩),
 (88, ⟨1, 8, .other, [.nfn]⟩),
 (89, ⟨1, 8, .other, [.nfn]⟩),
 (91, ⟨1, 8, .other, [.nfn]⟩),
 (92, ⟨1, 8, .other, [.nfn]⟩),
 (93, ⟨1, 8, .other, [.nfn]⟩),
 (94, ⟨1, 8, .other, [.nfn]⟩),
 (95, ⟨1, 8, .other, [.nfn]⟩),
 (96, ⟨1, 8, .other, [.nfn]⟩),
 (97, ⟨1, 8, .other, [.nfn]⟩),
 (98, ⟨5, 88, .struct [(0, 38), (3, 34), (4, 42)], [.int .i64 0, .int .i64 0, .nsl, .nsl, .nsl]⟩),
 (99, ⟨5, 88, .struct [(0, 38), (3, 34), (4, 42)], [.int .i64 0, .int .i64 0, .nsl, .nsl, .nsl]⟩),
 (100, ⟨1, 8, .other, [.np]⟩),
 (101, ⟨1, 8, .other, [.nfn]⟩),
 (102, ⟨5, 88, .struct [(0, 38), (3, 65), (4, 65)], [.int .i64 0, .int .i64 0, .nsl, .nsl, .nsl]⟩),
 (103, ⟨5, 88, .struct [(0, 38), (3, 65), (4, 65)], [.int .i64 0, .int .i64 0, .nsl, .nsl, .nsl]⟩),
 (104, ⟨1, 8, .other, [.np]⟩),
 (105, ⟨1, 8, .other, [.nfn]⟩),
 (106, ⟨1, 8, .other, [.nfn]⟩),
 (107, ⟨1, 8, .other, [.nfn]⟩),
 (108, ⟨1, 8, .other, [.nfn]⟩),
 (109, ⟨1, 8, .other, [.nfn]⟩),
 (110, ⟨1, 8, .other, [.nfn]⟩),
 (111, ⟨1, 8, .other, [.np]⟩),
 (112, ⟨1, 8, .other, [.nfn]⟩),
 (113, ⟨1, 8, .other, [.nfn]⟩),
 (114, ⟨1, 8, .other, [.nfn]⟩),
 (115, ⟨1, 8, .other, [.np]⟩),
 (116, ⟨1, 8, .other, [.nfn]⟩),
 (117, ⟨1, 8, .other, [.nfn]⟩),
 (118, ⟨1, 8, .other, [.nfn]⟩),
 (119, ⟨4, 64, .struct [(0, 24), (1, 38)], [.nsl, .int .i64 0, .int .i64 0, .nsl]⟩),
 (120, ⟨4, 64, .struct [(0, 24), (1, 38)], [.nsl, .int .i64 0, .int .i64 0, .nsl]⟩),
 (121, ⟨1, 8, .other, [.nfn]⟩),
 (122, ⟨1, 8, .other, [.nfn]⟩),
 (123, ⟨1, 8, .other, [.nfn]⟩),
 (124, ⟨1, 8, .other, [.nfn]⟩),
 (125, ⟨1, 8, .other, [.nfn]⟩),
 (126, ⟨1, 8, .other, [.nfn]⟩),
 (127, ⟨1, 8, .other, [.nfn]⟩),
 (128, ⟨1, 8, .other, [.nfn]⟩),
 (129, ⟨1, 8, .other, [.nfn]⟩),
 (130, ⟨1, 8, .other, [.nfn]⟩),
 (131, ⟨1, 8, .other, [.nfn]⟩),
 (133, ⟨1, 8, .other, [.nfn]⟩),
 (135, ⟨1, 8, .other, [.nfn]⟩),
 (136, ⟨1, 8, .other, [.nfn]⟩),
 (137, ⟨1, 8, .other, [.nfn]⟩),
 (138, ⟨1, 8, .other, [.nfn]⟩),
 (139, ⟨1, 8, .other, [.nfn]⟩),
 (140, ⟨1, 8, .other, [.nfn]⟩),
 (141, ⟨1, 8, .other, [.np]⟩),
 (142, ⟨1, 8, .other, [.nfn]⟩),
 (143, ⟨1, 8, .other, [.nfn]⟩),
 (144, ⟨1, 8, .other, [.nfn]⟩),
 (145, ⟨1, 8, .other, [.nfn]⟩),
 (146, ⟨1, 8, .other, [.nfn]⟩),
 (147, ⟨1, 8, .other, [.nfn]⟩),
 (149, ⟨1, 8, .other, [.nfn]⟩),
 (150, ⟨1, 8, .other, [.nfn]⟩),
 (151, ⟨1, 8, .other, [.nfn]⟩),
 (152, ⟨1, 8, .other, [.nfn]⟩),
 (153, ⟨1, 8, .map ⟨true, 3, .i64, .i64⟩ 157 3, [.any]⟩),
 (154, ⟨1, 8, .map ⟨true, 3, .i64, .i64⟩ 157 3, [.any]⟩),
 (155, ⟨1, 8, .other, [.np]⟩),
 (156, ⟨3, 24, .struct [(0, 3), (1, 3), (2, 3)], [.int .i64 0, .int .i64 0, .int .i64 0]⟩),
 (157, ⟨3, 24, .struct [(0, 3), (1, 3), (2, 3)], [.int .i64 0, .int .i64 0, .int .i64 0]⟩),
 (159, ⟨1, 8, .other, [.nfn]⟩),
 (161, ⟨1, 8, .other, [.nfn]⟩),
 (162, ⟨1, 8, .map ⟨false, 1, .i64, .u16⟩ 3 50, [.any]⟩),
 (163, ⟨1, 8, .map ⟨false, 1, .i64, .u16⟩ 3 50, [.any]⟩),
 (165, ⟨1, 8, .other, [.nfn]⟩),
 (166, ⟨1, 8, .other, [.nfn]⟩),
 (167, ⟨1, 8, .other, [.nfn]⟩),
 (168, ⟨1, 8, .other, [.nfn]⟩),
 (169, ⟨1, 8, .other, [.nfn]⟩),
 (170, ⟨1, 8, .other, [.nfn]⟩),
 (171, ⟨1, 8, .other, [.nfn]⟩),
 (172, ⟨1, 8, .other, [.np]⟩),
 (173, ⟨1, 8, .other, [.nfn]⟩),
 (174, ⟨1, 8, .other, [.nfn]⟩),
 (175, ⟨1, 8, .other, [.nfn]⟩),
 (176, ⟨1, 8, .other, [.nfn]⟩),
 (177, ⟨1, 8, .other, [.nfn]⟩),
 (178, ⟨1, 8, .other, [.nfn]⟩),
 (179, ⟨1, 8, .other, [.nfn]⟩),
 (180, ⟨1, 8, .other, [.nfn]⟩),
 (182, ⟨1, 8, .other, [.nfn]⟩),
 (183, ⟨1, 8, .other, [.nfn]⟩),
 (184, ⟨1, 8, .other, [.nfn]⟩),
 (185, ⟨1, 8, .other, [.nfn]⟩),
 (186, ⟨1, 8, .other, [.nfn]⟩),
 (187, ⟨1, 8, .other, [.np]⟩),
 (188, ⟨1, 8, .other, [.nfn]⟩),
 (189, ⟨1, 8, .other, [.nfn]⟩),
 (190, ⟨1, 8, .other, [.nfn]⟩),
 (191, ⟨1, 8, .other, [.nfn]⟩),
 (193, ⟨1, 8, .other, [.nfn]⟩),
 (194, ⟨1, 8, .other, [.nfn]⟩),
 (195, ⟨1, 8, .other, [.nfn]⟩),
 (196, ⟨1, 8, .other, [.nfn]⟩),
 (197, ⟨1, 8, .other, [.nfn]⟩),
 (198, ⟨1, 8, .other, [.nfn]⟩),
 (199, ⟨1, 8, .other, [.nfn]⟩),
 (200, ⟨1, 8, .other, [.nfn]⟩),
 (201, ⟨1, 8, .other, [.nfn]⟩),
 (202, ⟨1, 8, .other, [.nfn]⟩),
 (203, ⟨1, 8, .other, [.nfn]⟩),
 (204, ⟨1, 8, .other, [.nfn]⟩),
 (205, ⟨1, 8, .other, [.nfn]⟩),
 (206, ⟨1, 8, .other, [.nfn]⟩),
 (207, ⟨1, 8, .other, [.nfn]⟩),
 (208, ⟨1, 8, .other, [.nfn]⟩),
 (209, ⟨1, 8, .other, [.nfn]⟩),
 (210, ⟨1, 8, .other, [.nfn]⟩),
 (211, ⟨1, 8, .other, [.nfn]⟩),
 (212, ⟨1, 8, .other, [.nfn]⟩),
 (213, ⟨1, 8, .other, [.nfn]⟩),
 (214, ⟨1, 8, .other, [.nfn]⟩),
 (215, ⟨1, 8, .other, [.nfn]⟩),
 (216, ⟨1, 8, .other, [.nfn]⟩),
 (217, ⟨1, 8, .other, [.nfn]⟩),
 (218, ⟨1, 8, .other, [.nfn]⟩),
 (219, ⟨1, 8, .other, [.nfn]⟩),
 (220, ⟨1, 8, .other, [.nfn]⟩),
 (221, ⟨1, 8, .other, [.nfn]⟩),
 (222, ⟨1, 8, .int .u64, [.int .u64 0]⟩),
 (223, ⟨1, 8, .other, [.nfn]⟩),
 (224, ⟨1, 8, .other, [.nfn]⟩),
 (225, ⟨1, 8, .other, [.nfn]⟩),
 (226, ⟨1, 8, .int .u64, [.int .u64 0]⟩),
 (227, ⟨1, 8, .other, [.nfn]⟩),
 (228, ⟨1, 8, .other, [.nfn]⟩),
 (229, ⟨1, 8, .int .i64, [.int .i64 0]⟩),
 (231, ⟨1, 8, .other, [.nfn]⟩),
 (232, ⟨1, 8, .other, [.nfn]⟩),
 (233, ⟨1, 8, .other, [.nfn]⟩),
 (234, ⟨1, 8, .other, [.nfn]⟩),
 (235, ⟨1, 8, .other, [.nfn]⟩),
 (236, ⟨1, 4, .int .u32, [.int .u32 0]⟩),
 (237, ⟨1, 8, .other, [.nfn]⟩),
 (238, ⟨1, 8, .other, [.nfn]⟩),
 (239, ⟨1, 8, .other, [.nfn]⟩),
 (240, ⟨1, 8, .int .u64, [.int .u64 0]⟩),
 (241, ⟨1, 8, .other, [.nfn]⟩),
 (242, ⟨1, 8, .other, [.nfn]⟩),
 (243, ⟨1, 8, .other, [.nfn]⟩),
 (244, ⟨1, 8, .other, [.np]⟩),
 (245, ⟨1, 8, .other, [.nfn]⟩),
 (246, ⟨1, 8, .other, [.nfn]⟩),
 (247, ⟨1, 8, .other, [.nfn]⟩),
 (248, ⟨1, 8, .other, [.nfn]⟩),
 (249, ⟨1, 8, .other, [.nfn]⟩),
 (250, ⟨1, 8, .other, [.nfn]⟩),
 (251, ⟨1, 8, .other, [.nfn]⟩),
 (252, ⟨1, 8, .other, [.np]⟩),
 (254, ⟨1, 8, .other, [.nfn]⟩),
 (255, ⟨1, 8, .other, [.nfn]⟩),
 (256, ⟨1, 8, .other, [.nfn]⟩),
 (257, ⟨1, 8, .other, [.nfn]⟩),
 (258, ⟨1, 8, .other, [.nfn]⟩),
 (259, ⟨4, 40, .struct [(0, 17), (1, 17), (2, 17), (3, 9)], [.np, .np, .np, .str ⟨#[]⟩]⟩),
 (260, ⟨4, 40, .struct [(0, 17), (1, 17), (2, 17), (3, 9)], [.np, .np, .np, .str ⟨#[]⟩]⟩),
 (261, ⟨0, 0, .array 0 16, []⟩),
 (262, ⟨0, 0, .struct [(0, 261)], []⟩),
 (263, ⟨0, 0, .struct [(0, 261)], []⟩),
 (264, ⟨1, 8, .other, [.nfn]⟩),
 (265, ⟨1, 1, .int .u8, [.int .u8 0]⟩),
 (266, ⟨1, 1, .int .u8, [.int .u8 0]⟩),
 (267, ⟨1, 8, .other, [.nfn]⟩),
 (268, ⟨1, 8, .other, [.np]⟩),
 (269, ⟨1, 4, .int .i32, [.int .i32 0]⟩),
 (270, ⟨1, 4, .int .i32, [.int .i32 0]⟩),
 (271, ⟨11, 48, .struct [(0, 12), (1, 12), (2, 236), (3, 265), (4, 5), (5, 5), (6, 266), (7, 267), (8, 268), (9, 269), (10, 270)], [.int .u64 0, .int .u64 0, .int .u32 0, .int .u8 0, .int .u8 0, .int .u8 0, .int .u8 0, .nfn, .np, .int .i32 0, .int .i32 0]⟩),
 (272, ⟨11, 48, .struct [(0, 12), (1, 12), (2, 236), (3, 265), (4, 5), (5, 5), (6, 266), (7, 267), (8, 268), (9, 269), (10, 270)], [.int .u64 0, .int .u64 0, .int .u32 0, .int .u8 0, .int .u8 0, .int .u8 0, .int .u8 0, .nfn, .np, .int .i32 0, .int .i32 0]⟩)]
theorem tok : TOk Tryz.prog (findT table) := table_ok (by kernel_rfl)
abbrev T := findT table
end Go.Proofs.YtoelbgjpmpoolaaGreat
namespace Go.Proofs.YtoelbgjpmpoolaaGreat
open Go Dv
set_option maxRecDepth 10000
set_option linter.unusedSimpArgs false
theorem mix : Tryz.prog.follows .mixedOrders = true := by decide +kernel
structure Ins where
 (op dst a b k f : Int)
 args : List Int
deriving Inhabited
structure End where
 (kind a dst f : Int)
 args : List Int
 (to els pad : Int)
deriving Inhabited
structure Pad where
 dst : Int
 catch_ : List Int
 (all cleanup : Bool)
deriving Inhabited
structure Zbs where
 landing : Bool
 pad : Pad
 ins : List Ins
 fin : End
deriving Inhabited
structure Func where
 (params regs : Int)
 blocks : List Zbs
deriving Inhabited
abbrev iv (n : Int) : AV := .int .i64 n
def ints (l : List Int) : AV := .sl 1 l.length fun i => [iv (l.getD i 0)]
def u16s (l : List Int) : AV := .sl 1 l.length fun i => [.int .u16 (l.getD i 0)]
def Zax (x : Ins) : List AV := [iv x.op, iv x.dst, iv x.a, iv x.b, .int .u16 x.k, iv x.f, ints x.args]
def inss (l : List Ins) : AV := .sl 7 l.length fun i => Zax (l.getD i default)
def Zdi (e : End) : List AV := [iv e.kind, iv e.a, iv e.dst, iv e.f, ints e.args, iv e.to, iv e.els, iv e.pad]
def Zbg (b : Zbs) : List AV := [.bool b.landing, iv b.pad.dst, u16s b.pad.catch_, .bool b.pad.all, .bool b.pad.cleanup, inss b.ins, iv b.fin.kind, iv b.fin.a, iv b.fin.dst, iv b.fin.f, ints b.fin.args, iv b.fin.to, iv b.fin.els, iv b.fin.pad]
def Zd2 (l : List Zbs) : AV := .sl 14 l.length fun i => Zbg (l.getD i default)
def Za1 (f : Func) : List AV := [iv f.params, iv f.regs, Zd2 f.blocks]
structure Zak where
 funcs : List Func
deriving Inhabited
def funcss (l : List Func) : AV := .sl 3 l.length fun i => Za1 (l.getD i default)
def Zao (m : Zak) : List AV := [funcss m.funcs]
def Zc1 (p : Pad) : List AV := [iv p.dst, u16s p.catch_, .bool p.all, .bool p.cleanup]
deriving instance DecidableEq for Ins
deriving instance DecidableEq for End
deriving instance DecidableEq for Pad
deriving instance DecidableEq for Zbs
deriving instance DecidableEq for Func
deriving instance DecidableEq for Zak
def idxG {α : Type} (p : α → Bool) (l : List α) : Int := match l.findIdx? p with | some i => (i : Int) | none => -1
theorem idxG_at {α : Type} (d : α) {p : α → Bool} {l : List α} {i : Nat} (hi : i < l.length) (hc : ∀ j, j < i → p (l.getD j d) = false) (h : p (l.getD i d) = true) : idxG p l = (i : Int) := by
 have : l.findIdx? p = some i := by
  rw [List.findIdx?_eq_some_iff_getElem]
  refine ⟨hi, by rw [← Zbl d hi]; exact h, fun j hj => ?_⟩
  have h2 := hc j hj; rw [Zbl d (by omega)] at h2; rw [h2]; simp
 simp [idxG, this]
theorem idxG_none {α : Type} (d : α) {p : α → Bool} {l : List α} (hc : ∀ j, j < l.length → p (l.getD j d) = false) : idxG p l = -1 := by
 have : l.findIdx? p = none := by
  rw [List.findIdx?_eq_none_iff]
  intro x hx
  obtain ⟨j, hj, rfl⟩ := List.getElem_of_mem hx
  have := hc j hj
  rw [Zbl d hj] at this; exact this
 simp [idxG, this]
theorem idxG_any {α : Type} (p : α → Bool) (l : List α) : decide (0 ≤ idxG p l) = l.any p := by
 unfold idxG
 cases h : l.findIdx? p with
 | none =>
  rw [List.findIdx?_eq_none_iff] at h
  have : l.any p = false := by
   rw [List.any_eq_false]; intro x hx; rw [h x hx]; simp
  rw [this]; rfl
 | some i =>
  rw [List.findIdx?_eq_some_iff_getElem] at h
  obtain ⟨hi, h1, _⟩ := h
  have : l.any p = true := List.any_eq_true.2 ⟨l[i], List.getElem_mem hi, h1⟩
  rw [this]; simp
theorem all_no {α : Type} (d : α) {p : α → Bool} {l : List α} {i : Nat} (hi : i < l.length) (h : p (l.getD i d) = false) : l.all p = false := by
 rw [List.all_eq_false]
 exact ⟨l[i], List.getElem_mem hi, by rw [← Zbl d hi, h]; simp⟩
theorem all_yes {α : Type} (d : α) {p : α → Bool} {l : List α} (h : ∀ j, j < l.length → p (l.getD j d) = true) : l.all p = true := by
 rw [List.all_eq_true]
 intro x hx
 obtain ⟨j, hj, rfl⟩ := List.getElem_of_mem hx
 have := h j hj
 rw [Zbl d hj] at this; exact this
def inn (n most : Int) : Bool := bif decide (0 ≤ n) then decide (n < most) else false
theorem Zab (n most : Int) : inn n most = true ↔ 0 ≤ n ∧ n < most := by unfold inn; cases h : decide (0 ≤ n) <;> simp at h ⊢ <;> omega
theorem Zdt (n k : Int) : FC Tryz.prog 142 [iv n, iv k] (.bool (inn n k)) := by
 refine Zan tok Tryz.func142 rfl (by decide +kernel) (nB rfl) ?_
 (repeat' first | refine Zad ?_ | (refine Zaa tok (by rfl) ?_; conv => whnf) | (refine Zah ?_; conv => whnf))
 exact ⟨_, rfl, Rel.imm rfl⟩
def goalB (f : Func) (n : Int) : Bool := bif inn n f.blocks.length then !(f.blocks.getD n.toNat default).landing else false
theorem c_goal (f : Func) (n : Int) : FC Tryz.prog 143 [.agg (Za1 f), iv n] (.bool (goalB f n)) := by
 refine Zan tok Tryz.func143 rfl (by decide +kernel) (nB rfl) ?_
 refine Zap 0 (fun hl => ?_)
 (repeat' first | refine Zad ?_ | (refine Zaa tok (by rfl) ?_; conv => whnf))
 refine .inl ⟨_, _, _, uG (QC.fc (Zdt n f.blocks.length) rfl), ?_⟩
 conv => whnf
 ((repeat' first | (refine Zah ?_; conv => whnf) | (refine uA ?_ ?_; rotate_left; (conv => whnf); rotate_right)); all_goals (try ((guard_target = Zac _ _ _ _); ((refine Za7 ?_; intro hgd; (conv at hgd => whnf); (try simp only [Zab] at hgd))); all_goals omega)))
 exact ⟨_, rfl, Rel.imm rfl⟩
def Zdq (m : Zak) (f : Func) (n : Int) (l : List Int) : Bool := bif bif inn n m.funcs.length then decide ((l.length : Int) = (m.funcs.getD n.toNat default).params) else false then l.all (fun k => inn k f.regs) else false
theorem c_args (m : Zak) (f : Func) (n : Int) (l : List Int) : FC Tryz.prog 144 [.agg (Zao m), .agg (Za1 f), iv n, ints l] (.bool (Zdq m f n l)) := by
 refine Zan tok Tryz.func144 rfl (by decide +kernel) (nB rfl) ?_
 refine Zap 3 (fun hl => ?_)
 have hl0 : l.length ≤ mL := hl.1
 (repeat' first | refine Zad ?_ | (refine Zaa tok (by rfl) ?_; conv => whnf))
 refine .inl ⟨_, _, _, uG (QC.fc (Zdt n m.funcs.length) rfl), ?_⟩
 conv => whnf
 ((repeat' first | refine Zad ?_ | (refine Zaa tok (by rfl) ?_; conv => whnf) | refine Zaj ?_ | (refine Zag ?_; conv => whnf) | (refine Zah ?_; conv => whnf) | refine Zaf rfl (fun hb => ?_) (fun hb => ?_) | (refine uA ?_ ?_; rotate_left; (conv => whnf); rotate_right)); all_goals (try ((guard_target = Zac _ _ _ _); ((refine Za7 ?_; intro hgd; (conv at hgd => whnf))); (all_goals (try simp only [Zac, kZ, kA, kB, mL, Zab] at *)); all_goals omega)))
 ·refine ⟨_, rfl, Rel.bool ?_⟩
  unfold Zdq
  cases h1 : inn n m.funcs.length <;> simp [h1] at hb ⊢
  intro h2; exact absurd h2 hb
 have hg : (bif inn n m.funcs.length then decide ((l.length : Int) = (m.funcs.getD n.toNat default).params) else false) = true := by
  cases h1 : inn n m.funcs.length <;> simp [h1] at hb ⊢
  exact hb
 refine Za3 (fun i : Nat => mkS [(3, ints l), (5, .bp (5, 0, 0) 0), (8, .bool false), (9, iv i)] [((5, 0, 0), Zam (Za1 f))])
  (fun i => i ≤ l.length ∧ ∀ j, j < i → inn (l.getD j 0) f.regs = true) (fun i => l.length - i) 0 ⟨Nat.zero_le _, by simp⟩ ?_ ?_
 ·refine Weak.list [((5, 0, 0), .old (5, 0, 0), Zam (Za1 f))] rfl (by rfl) ?_ (.old rfl (BLe.refl _) .nil)
  ((repeat' first | exact TLes.nil | refine tE rfl ?_); skip)
 rintro i ⟨hi, hc⟩
 ((repeat' first | refine Zad ?_ | (refine Zaa tok (by rfl) ?_; conv => whnf) | (refine Za2 tok mix (by rfl) ?_; conv => whnf) | refine Zaj ?_ | (refine Zag ?_; conv => whnf) | (refine Za0 ?_; conv => whnf) | (refine Zah ?_; conv => whnf) | refine Zaf rfl (fun hb => ?_) (fun hb => ?_) | (refine uA ?_ ?_; rotate_left; (conv => whnf); rotate_right)); all_goals (try ((guard_target = Zac _ _ _ _); refine Zae ?_; (all_goals (try simp only [Zac, kZ, kA, kB, mL, Zab] at *)); all_goals omega)))
 ·have hlt : i < l.length := by simp only [Zac, kZ, kA, kB, mL, Zab] at *; omega
  refine .inl ⟨_, _, _, uG (QC.fc (Zdt (l.getD (i : Int).toNat 0) f.regs) rfl), ?_⟩
  conv => whnf
  (repeat' first | refine Zad ?_ | (refine Zaa tok (by rfl) ?_; conv => whnf) | (refine Zag ?_; conv => whnf) | (refine Zah ?_; conv => whnf) | refine Zaf rfl (fun hb => ?_) (fun hb => ?_))
  ·refine ⟨_, rfl, Rel.bool ?_⟩
   unfold Zdq; rw [hg, cond_true]
   exact (all_no 0 hlt (p := fun k => inn k f.regs) (by simpa using hb)).symm
  ·refine ⟨i + 1, ⟨hlt, fun j hj => ?_⟩, by omega, ?_⟩
   ·by_cases e : j = i
    ·subst e; simpa using hb
    ·exact hc j (by omega)
   refine Weak.list [((5, 0, 0), .old (5, 0, 0), Zam (Za1 f))] rfl (by rfl) ?_ (.old rfl (BLe.refl _) .nil)
   ((repeat' first | exact TLes.nil | refine tE rfl ?_ | refine TLes.cons (TLe.int ?_) ?_); (all_goals first | ((try (simp only [Zac, kZ, kA, kB, mL, Zab] at *)); exact Zal (by omega) (by omega)) | skip))
 ·refine ⟨_, rfl, Rel.bool ?_⟩
  unfold Zdq; rw [hg, cond_true]
  exact (all_yes 0 (p := fun k => inn k f.regs) (fun j hj => hc j (by simp only [Zac, kZ, kA, kB, mL, Zab] at *; omega))).symm
theorem c_plain (k f : Int) (l : List Int) : FC Tryz.prog 145 [.int .u16 k, iv f, ints l] (.bool (decide (k = 0 ∧ f = 0 ∧ l = []))) := by
 refine Zan tok Tryz.func145 rfl (by decide +kernel) (nB rfl) ?_
 (repeat' first | refine Zad ?_ | (refine Zaa tok (by rfl) ?_; conv => whnf) | (refine Zah ?_; conv => whnf))
 refine ⟨_, rfl, Rel.bool ?_⟩
 rw [Bool.eq_iff_iff]; simp [and_assoc]
set_option linter.unusedSimpArgs false
def InsP (m : Zak) (f : Func) (x : Ins) : Prop :=
 (x.op = 1 ∧ inn x.dst f.regs = true ∧ x.a = 0 ∧ x.b = 0 ∧ x.f = 0 ∧ x.args = []) ∨
 ((x.op = 2 ∨ x.op = 9) ∧ inn x.dst f.regs = true ∧ inn x.a f.regs = true ∧ x.b = 0 ∧ x.k = 0 ∧ x.f = 0 ∧ x.args = []) ∨
 ((3 ≤ x.op ∧ x.op ≤ 8) ∧ inn x.dst f.regs = true ∧ inn x.a f.regs = true ∧ inn x.b f.regs = true ∧ x.k = 0 ∧ x.f = 0 ∧ x.args = []) ∨
 (x.op = 10 ∧ x.dst = 0 ∧ inn x.a f.regs = true ∧ inn x.b f.regs = true ∧ x.k = 0 ∧ x.f = 0 ∧ x.args = []) ∨
 (x.op = 11 ∧ inn x.dst f.regs = true ∧ x.a = 0 ∧ x.b = 0 ∧ x.k = 0 ∧ Zdq m f x.f x.args = true) ∨
 (x.op = 12 ∧ x.dst = 0 ∧ inn x.a f.regs = true ∧ x.b = 0 ∧ x.k = 0 ∧ x.f = 0 ∧ x.args = []) ∨
 (x.op = 13 ∧ inn x.dst f.regs = true ∧ x.a = 0 ∧ x.b = 0 ∧ x.k = 0 ∧ x.f = 0 ∧ x.args = [])
instance (m : Zak) (f : Func) (x : Ins) : Decidable (InsP m f x) := by unfold InsP; infer_instance
theorem c_ins (m : Zak) (f : Func) (x : Ins) : FC Tryz.prog 97 [.agg (Zao m), .agg (Za1 f), .agg (Zax x)] (.bool (decide (InsP m f x))) := by
 refine Zan tok Tryz.func97 rfl (by decide +kernel) (nB rfl) ?_
 (repeat' first | refine Zad ?_ | (refine Zaa tok (by rfl) ?_; conv => whnf) | (refine Za2 tok mix (by rfl) ?_; conv => whnf))
 refine .inl ⟨_, _, _, uG (QC.fc (Zdt x.dst f.regs) rfl), ?_⟩
 conv => whnf
 skip
 refine .inl ⟨_, _, _, uG (QC.fc (Zdt x.a f.regs) rfl), ?_⟩
 conv => whnf
 skip
 refine .inl ⟨_, _, _, uG (QC.fc (Zdt x.b f.regs) rfl), ?_⟩
 conv => whnf
 (repeat' first | refine Zad ?_ | (refine Zaa tok (by rfl) ?_; conv => whnf) | refine Zaj ?_ | (refine Zag ?_; conv => whnf) | (refine Zah ?_; conv => whnf) | refine Zaf rfl (fun hb => ?_) (fun hb => ?_))
 all_goals (try (refine .inl ⟨_, _, _, uG (QC.fc (c_plain x.k x.f x.args) rfl), ?_⟩; conv => whnf))
 (repeat' (refine Zah ?_; conv => whnf))
 all_goals (try (refine .inl ⟨_, _, _, uG (QC.fc (c_args m f x.f x.args) rfl), ?_⟩; conv => whnf))
 (repeat' (refine Zah ?_; conv => whnf))
 all_goals (first | (exfalso; simp only [decide_eq_true_eq, decide_eq_false_iff_not] at *; omega) | refine ⟨_, rfl, Rel.bool ?_⟩)
 all_goals simp only [decide_eq_true_eq, decide_eq_false_iff_not] at *
 all_goals first | (rw [Bool.eq_iff_iff]; simp [InsP, hb, and_assoc]; done) | skip
 all_goals
  symm; rw [decide_eq_false_iff_not]
  rintro (h | h | h | h | h | h | h) <;> omega
def EndP (m : Zak) (f : Func) (x : End) : Prop :=
 ((x.kind = 1 ∨ x.kind = 5) ∧ inn x.a f.regs = true ∧ x.dst = 0 ∧ x.f = 0 ∧ x.args = [] ∧ x.pad = 0 ∧ x.to = 0 ∧ x.els = 0) ∨
 (x.kind = 2 ∧ x.a = 0 ∧ x.dst = 0 ∧ x.f = 0 ∧ x.args = [] ∧ x.pad = 0 ∧ goalB f x.to = true ∧ x.els = 0) ∨
 (x.kind = 3 ∧ inn x.a f.regs = true ∧ x.dst = 0 ∧ x.f = 0 ∧ x.args = [] ∧ x.pad = 0 ∧ goalB f x.to = true ∧ goalB f x.els = true) ∨
 (x.kind = 4 ∧ x.a = 0 ∧ inn x.dst f.regs = true ∧ Zdq m f x.f x.args = true ∧ goalB f x.to = true ∧ x.els = 0 ∧ inn x.pad f.blocks.length = true ∧ (f.blocks.getD x.pad.toNat default).landing = true) ∨
 (x.kind = 6 ∧ x.a = 0 ∧ x.dst = 0 ∧ x.f = 0 ∧ x.args = [] ∧ x.pad = 0 ∧ x.to = 0 ∧ x.els = 0)
instance (m : Zak) (f : Func) (x : End) : Decidable (EndP m f x) := by unfold EndP; infer_instance
theorem c_end (m : Zak) (f : Func) (x : End) : FC Tryz.prog 96 [.agg (Zao m), .agg (Za1 f), .agg (Zdi x)] (.bool (decide (EndP m f x))) := by
 refine Zan tok Tryz.func96 rfl (by decide +kernel) (nB rfl) ?_
 (repeat' first | refine Zad ?_ | (refine Zaa tok (by rfl) ?_; conv => whnf) | (refine Za2 tok mix (by rfl) ?_; conv => whnf))
 refine .inl ⟨_, _, _, uG (QC.fc (Zdt x.a f.regs) rfl), ?_⟩
 conv => whnf
 skip
 refine .inl ⟨_, _, _, uG (QC.fc (Zdt x.dst f.regs) rfl), ?_⟩
 conv => whnf
 (repeat' first | refine Zad ?_ | (refine Zaa tok (by rfl) ?_; conv => whnf) | refine Zaj ?_ | (refine Zag ?_; conv => whnf) | (refine Zah ?_; conv => whnf) | refine Zaf rfl (fun hb => ?_) (fun hb => ?_))
 all_goals (try (refine .inl ⟨_, _, _, uG (QC.fc (c_args m f x.f x.args) rfl), ?_⟩; conv => whnf))
 skip
 all_goals (try (refine .inl ⟨_, _, _, uG (QC.fc (c_goal f x.to) rfl), ?_⟩; conv => whnf))
 (repeat' (refine Zah ?_; conv => whnf))
 all_goals (try (refine .inl ⟨_, _, _, uG (QC.fc (c_goal f x.els) rfl), ?_⟩; conv => whnf))
 (repeat' (refine Zah ?_; conv => whnf))
 all_goals (try (refine .inl ⟨_, _, _, uG (QC.fc (Zdt x.pad f.blocks.length) rfl), ?_⟩; conv => whnf))
 ((repeat' first | (refine Zah ?_; conv => whnf) | (refine uA ?_ ?_; rotate_left; (conv => whnf); rotate_right)); all_goals (try ((guard_target = Zac _ _ _ _); ((refine Za7 ?_; intro hgd; (conv at hgd => whnf))); (all_goals (try simp only [Zac, kZ, kA, kB, mL, Zab] at *)); all_goals omega)))
 all_goals (first | (exfalso; simp only [decide_eq_true_eq, decide_eq_false_iff_not] at *; omega) | refine ⟨_, rfl, Rel.bool ?_⟩ | skip)
 all_goals (try simp only [decide_eq_true_eq, decide_eq_false_iff_not] at *)
 all_goals first | (rw [Bool.eq_iff_iff]; simp [EndP, hb, and_assoc]; done) | skip
 all_goals
  symm; rw [decide_eq_false_iff_not]
  rintro (h | h | h | h | h) <;> omega
set_option linter.unusedSimpArgs false
def PadP (f : Func) (b : Zbs) : Prop :=
 (b.landing = false ∧ b.pad.dst = 0 ∧ b.pad.catch_ = [] ∧ b.pad.all = false ∧ b.pad.cleanup = false) ∨
 (b.landing = true ∧ b.pad.catch_.length ≤ 8 ∧ b.pad.catch_.Nodup ∧ inn b.pad.dst f.regs = true ∧ (b.pad.catch_ ≠ [] ∨ b.pad.all = true ∨ b.pad.cleanup = true))
instance (f : Func) (b : Zbs) : Decidable (PadP f b) := by unfold PadP; infer_instance
theorem nodup_getD {l : List Int} (h : ∀ i, i < l.length → ∀ k, k < i → l.getD k 0 ≠ l.getD i 0) : l.Nodup := by
 unfold List.Nodup
 rw [List.pairwise_iff_getElem]
 intro i j hi hj hij
 have := h j hj i hij
 rw [Zbl _ hi, Zbl _ hj] at this; exact this
theorem not_nodup {l : List Int} {i k : Nat} (hi : i < l.length) (hk : k < i) (h : l.getD k 0 = l.getD i 0) : ¬ l.Nodup := by
 unfold List.Nodup
 rw [List.pairwise_iff_getElem]
 intro h2
 have := h2 k i (by omega) hi hk
 rw [Zbl _ (by omega), Zbl _ hi] at h; exact this h
theorem c_pad (f : Func) (b : Zbs) : FC Tryz.prog 95 [.agg (Za1 f), .agg (Zbg b)] (.bool (decide (PadP f b))) := by
 refine Zan tok Tryz.func95 rfl (by decide +kernel) (nB rfl) ?_
 refine Zap 1 (fun hl => ?_)
 have hl0 : b.pad.catch_.length ≤ mL := hl.2.2.1.1
 (repeat' first | refine Zad ?_ | (refine Zaa tok (by rfl) ?_; conv => whnf) | refine Zaj ?_ | (refine Zag ?_; conv => whnf) | (refine Zah ?_; conv => whnf) | refine Zaf rfl (fun hb => ?_) (fun hb => ?_))
 ·refine ⟨_, rfl, Rel.bool ?_⟩
  rw [Bool.eq_iff_iff]
  simp at hb
  simp [PadP, hb, and_assoc]
 simp only [Bool.not_eq_eq_eq_not, Bool.not_false] at hb
 refine Za3 (fun i : Nat => mkS [(2, .bp (2, 0, 0) 0), (4, .bool false), (5, .bp (5, 0, 0) 0), (6, iv i)] [((2, 0, 0), Zam (Za1 f)), ((5, 0, 0), .row true 4 1 (fun _ => Zc1 b.pad))])
  (fun i => i ≤ b.pad.catch_.length ∧ i ≤ 8 ∧ ∀ j, j < i → ∀ k, k < j → b.pad.catch_.getD k 0 ≠ b.pad.catch_.getD j 0) (fun i => b.pad.catch_.length - i) 0 ⟨Nat.zero_le _, Nat.zero_le _, by simp⟩ ?_ ?_
 ·refine Weak.list [((2, 0, 0), .old (2, 0, 0), Zam (Za1 f)), ((5, 0, 0), .old (5, 0, 0), .row true 4 1 (fun _ => Zc1 b.pad))] rfl (by rfl) ?_ (.old rfl (BLe.refl _) (.old rfl (BLe.rowW (Nat.le_refl _) (fun z hz => ?_)) .nil))
  ·((repeat' first | exact TLes.nil | refine tE rfl ?_); skip)
  ·match z, hz with
   | 0, _ => exact Wks.of rfl
 rintro i ⟨hi, hi8, hc⟩
 (repeat' first | refine Zad ?_ | (refine Zaa tok (by rfl) ?_; conv => whnf) | refine Zaj ?_ | (refine Zag ?_; conv => whnf) | (refine Za0 ?_; conv => whnf) | (refine Zah ?_; conv => whnf) | refine Zaf rfl (fun hb => ?_) (fun hb => ?_))
 ·refine ⟨_, rfl, Rel.bool ?_⟩
  symm; rw [decide_eq_false_iff_not]
  rintro (h | h)
  ·simp_all
  ·have := h.2.1; simp only [Zac, kZ, kA, kB, mL, Zab] at *; omega
 ·have hlt : i < b.pad.catch_.length := by simp only [Zac, kZ, kA, kB, mL, Zab] at *; omega
  have hi7 : i < 8 := by simp only [Zac, kZ, kA, kB, mL, Zab] at *; omega
  refine Za3 (fun k : Nat => mkS [(2, .bp (2, 0, 0) 0), (4, .bool false), (5, .bp (5, 0, 0) 0), (6, iv i), (7, iv k)] [((2, 0, 0), Zam (Za1 f)), ((5, 0, 0), .row true 4 1 (fun _ => Zc1 b.pad))])
   (fun k => k ≤ i ∧ ∀ j, j < k → b.pad.catch_.getD j 0 ≠ b.pad.catch_.getD i 0) (fun k => i - k) 0 ⟨Nat.zero_le _, by simp⟩ ?_ ?_
  ·refine Weak.list [((2, 0, 0), .old (2, 0, 0), Zam (Za1 f)), ((5, 0, 0), .old (5, 0, 0), .row true 4 1 (fun _ => Zc1 b.pad))] rfl (by rfl) ?_ (.old rfl (BLe.refl _) (.old rfl (BLe.refl _) .nil))
   ((repeat' first | exact TLes.nil | refine tE rfl ?_); skip)
  rintro k ⟨hk, hd⟩
  ((repeat' first | refine Zad ?_ | (refine Zaa tok (by rfl) ?_; conv => whnf) | (refine Za2 tok mix (by rfl) ?_; conv => whnf) | refine Zaj ?_ | (refine Zag ?_; conv => whnf) | (refine Za0 ?_; conv => whnf) | (refine Zah ?_; conv => whnf) | refine Zaf rfl (fun hb => ?_) (fun hb => ?_) | (refine uA ?_ ?_; rotate_left; (conv => whnf); rotate_right)); all_goals (try ((guard_target = Zac _ _ _ _); refine Zae ?_; (all_goals (try simp only [Zac, kZ, kA, kB, mL, Zab] at *)); all_goals omega)))
  ·have hki : k < i := by simp only [Zac, kZ, kA, kB, mL, Zab] at *; omega
   refine ⟨_, rfl, Rel.bool ?_⟩
   symm; rw [decide_eq_false_iff_not]
   have he : b.pad.catch_.getD k 0 = b.pad.catch_.getD i 0 := by simpa using hb
   rintro (h | h)
   ·simp_all
   ·exact not_nodup hlt hki he h.2.2.1
  ·have hki : k < i := by simp only [Zac, kZ, kA, kB, mL, Zab] at *; omega
   refine ⟨k + 1, ⟨hki, fun j hj => ?_⟩, by omega, ?_⟩
   ·by_cases e : j = k
    ·subst e; simpa using hb
    ·exact hd j (by omega)
   refine Weak.list [((2, 0, 0), .old (2, 0, 0), Zam (Za1 f)), ((5, 0, 0), .old (5, 0, 0), .row true 4 1 (fun _ => Zc1 b.pad))] rfl (by rfl) ?_ (.old rfl (BLe.refl _) (.old rfl (BLe.refl _) .nil))
   ((repeat' first | exact TLes.nil | refine tE rfl ?_ | refine TLes.cons (TLe.int ?_) ?_); (all_goals first | ((try (simp only [Zac, kZ, kA, kB, mL, Zab] at *)); exact Zal (by omega) (by omega)) | skip))
  ·have hki : k = i := by simp only [Zac, kZ, kA, kB, mL, Zab] at *; omega
   refine ⟨i + 1, ⟨hlt, hi7, fun j hj => ?_⟩, by omega, ?_⟩
   ·by_cases e : j = i
    ·subst e; intro k' hk'; exact hd k' (by omega)
    ·exact hc j (by omega)
   refine Weak.list [((2, 0, 0), .old (2, 0, 0), Zam (Za1 f)), ((5, 0, 0), .old (5, 0, 0), .row true 4 1 (fun _ => Zc1 b.pad))] rfl (by rfl) ?_ (.old rfl (BLe.refl _) (.old rfl (BLe.refl _) .nil))
   ((repeat' first | exact TLes.nil | refine tE rfl ?_ | refine TLes.cons (TLe.int ?_) ?_); (all_goals first | ((try (simp only [Zac, kZ, kA, kB, mL, Zab] at *)); exact Zal (by omega) (by omega)) | skip))
 ·have hil : i = b.pad.catch_.length := by simp only [Zac, kZ, kA, kB, mL, Zab] at *; omega
  refine .inl ⟨_, _, _, uG (QC.fc (Zdt b.pad.dst f.regs) rfl), ?_⟩
  conv => whnf
  (repeat' (refine Zah ?_; conv => whnf))
  refine ⟨_, rfl, Rel.bool ?_⟩
  have hn : b.pad.catch_.Nodup := nodup_getD (fun i' h' k hk => hc i' (by omega) k hk)
  have h8 : b.pad.catch_.length ≤ 8 := by omega
  rw [Bool.eq_iff_iff]
  rename_i hland
  simp [PadP, hland, hn, h8]
  intro _
  cases b.pad.catch_ <;> simp [or_assoc]
def blkB (m : Zak) (f : Func) (b : Zbs) : Bool := decide (b.ins.length ≤ 64 ∧ PadP f b ∧ EndP m f b.fin) && b.ins.all fun x => decide (InsP m f x)
def FunP (f : Func) : Prop := 0 ≤ f.params ∧ f.params ≤ 8 ∧ f.params ≤ f.regs ∧ f.regs ≤ 256 ∧ 1 ≤ f.blocks.length ∧ f.blocks.length ≤ 64 ∧ (f.blocks.getD 0 default).landing = false
instance (f : Func) : Decidable (FunP f) := by unfold FunP; infer_instance
def Zem (m : Zak) (f : Func) : Bool := decide (FunP f) && f.blocks.all (blkB m f)
theorem c_Func (m : Zak) (f : Func) : FC Tryz.prog 55 [.agg (Zao m), .agg (Za1 f)] (.bool (Zem m f)) := by
 refine Zan tok Tryz.func55 rfl (by decide +kernel) (nB rfl) ?_
 refine Zap 1 (fun hl => ?_)
 have hl0 : f.blocks.length ≤ mL := hl.2.2.1.1
 ((repeat' first | refine Zad ?_ | (refine Zaa tok (by rfl) ?_; conv => whnf) | refine Zaj ?_ | (refine Zag ?_; conv => whnf) | (refine Zah ?_; conv => whnf) | refine Zaf rfl (fun hb => ?_) (fun hb => ?_) | (refine uA ?_ ?_; rotate_left; (conv => whnf); rotate_right)); all_goals (try ((guard_target = Zac _ _ _ _); ((refine Za7 ?_; intro hgd; (conv at hgd => whnf))); (all_goals (try simp only [Zac, kZ, kA, kB, mL, Zab] at *)); all_goals omega)))
 ·refine ⟨_, rfl, Rel.bool ?_⟩
  rw [show Int.toNat 0 = 0 from rfl] at hb
  unfold Zem
  have hF : decide (FunP f) = false := by
   rw [decide_eq_false_iff_not]; intro h; unfold FunP at h
   rw [h.2.2.2.2.2.2] at hb; simp [-List.length_eq_zero_iff] at hb; omega
  rw [hF]; rfl
 have hF : FunP f := by
  rw [show Int.toNat 0 = 0 from rfl] at hb
  unfold FunP
  cases hland : (f.blocks.getD 0 default).landing with
  | true => rw [hland] at hb; simp at hb
  | false => rw [hland] at hb; simp [-List.length_eq_zero_iff] at hb; refine ⟨?_, ?_, ?_, ?_, ?_, ?_, rfl⟩ <;> omega
 clear hb
 refine Za3 (fun i : Nat => mkS [(2, .bp (2, 0, 0) 0), (3, .bp (3, 0, 0) 0), (4, .bool false), (5, iv i)] [((2, 0, 0), Zam (Zao m)), ((3, 0, 0), Zam (Za1 f))])
  (fun i => i ≤ f.blocks.length ∧ ∀ j, j < i → blkB m f (f.blocks.getD j default) = true) (fun i => f.blocks.length - i) 0 ⟨Nat.zero_le _, by simp⟩ ?_ ?_
 ·refine Weak.list [((2, 0, 0), .old (2, 0, 0), Zam (Zao m)), ((3, 0, 0), .old (3, 0, 0), Zam (Za1 f))] rfl (by rfl) ?_ (.old rfl (BLe.refl _) (.old rfl (BLe.refl _) .nil))
  ((repeat' first | exact TLes.nil | refine tE rfl ?_); skip)
 rintro i ⟨hi, hc⟩
 ((repeat' ((fail_if_success (show Rg 7)); first | refine Zad ?_ | (refine Zaa tok (by rfl) ?_; conv => whnf) | refine Zaj ?_ | (refine Zag ?_; conv => whnf) | (refine Za0 ?_; conv => whnf) | (refine Zah ?_; conv => whnf) | refine Zaf rfl (fun hb => ?_) (fun hb => ?_) | (refine uA ?_ ?_; rotate_left; (conv => whnf); rotate_right))); all_goals (try ((guard_target = Zac _ _ _ _); refine Zae ?_; (all_goals (try simp only [Zac, kZ, kA, kB, mL, Zab] at *)); all_goals omega)))
 ·have hlt : i < f.blocks.length := by simp only [Zac, kZ, kA, kB, mL, Zab] at *; omega
  have hget : f.blocks.getD (i : Int).toNat default = f.blocks.getD i default := by simp
  generalize hbk : f.blocks.getD i default = b at hget
  refine Zaz (Weak.list (tl := [(2, .bp (2, 0, 0) 0), (3, .bp (3, 0, 0) 0), (4, .bool false), (5, iv i), (6, .bp (6, 0, 0) 0)]) [((2, 0, 0), .old (2, 0, 0), Zam (Zao m)), ((3, 0, 0), .old (3, 0, 0), Zam (Za1 f)), ((6, 0, 0), .old (6, 0, 0), .row true 14 1 (fun _ => Zbg b))] rfl (by rfl) ?_ (.old rfl (BLe.refl _) (.old rfl (BLe.refl _) (.old rfl (BLe.rowW (Nat.le_refl _) (fun z hz => ?_)) .nil)))) ?_
  ·((repeat' first | exact TLes.nil | refine tE rfl ?_); skip)
  ·match z, hz with
   | 0, _ => rw [← hget]; exact Wks.of rfl
  (repeat' (refine Zaa tok (by rfl) ?_; conv => whnf))
  refine .inl ⟨_, _, _, uG (QC.fc (c_pad f b) rfl), ?_⟩
  conv => whnf
  skip
  refine .inl ⟨_, _, _, uG (QC.fc (c_end m f b.fin) rfl), ?_⟩
  conv => whnf
  (repeat' first | refine Zad ?_ | (refine Zaa tok (by rfl) ?_; conv => whnf) | refine Zaj ?_ | (refine Zag ?_; conv => whnf) | (refine Zah ?_; conv => whnf) | refine Zaf rfl (fun hb => ?_) (fun hb => ?_))
  ·refine ⟨_, rfl, Rel.bool ?_⟩
   unfold Zem
   rw [all_no default hlt (p := blkB m f)]
   ·simp
   ·rw [hbk]; unfold blkB
    have : ¬ (b.ins.length ≤ 64 ∧ PadP f b ∧ EndP m f b.fin) := by
     rintro ⟨h1, h2, h3⟩
     simp [h2, h3] at hb; omega
    rw [decide_eq_false this]; rfl
  have hB : b.ins.length ≤ 64 ∧ PadP f b ∧ EndP m f b.fin := by
   simp at hb; exact ⟨by omega, hb.1.2, hb.2⟩
  clear hb
  refine Za3 (fun k : Nat => mkS [(2, .bp (2, 0, 0) 0), (3, .bp (3, 0, 0) 0), (4, .bool false), (5, iv i), (6, .bp (6, 0, 0) 0), (7, iv k)] [((2, 0, 0), Zam (Zao m)), ((3, 0, 0), Zam (Za1 f)), ((6, 0, 0), .row true 14 1 (fun _ => Zbg b))])
   (fun k => k ≤ b.ins.length ∧ ∀ j, j < k → decide (InsP m f (b.ins.getD j default)) = true) (fun k => b.ins.length - k) 0 ⟨Nat.zero_le _, by simp⟩ ?_ ?_
  ·refine Weak.list [((2, 0, 0), .old (2, 0, 0), Zam (Zao m)), ((3, 0, 0), .old (3, 0, 0), Zam (Za1 f)), ((6, 0, 0), .old (6, 0, 0), .row true 14 1 (fun _ => Zbg b))] rfl (by rfl) ?_ (.old rfl (BLe.refl _) (.old rfl (BLe.refl _) (.old rfl (BLe.refl _) .nil)))
   ((repeat' first | exact TLes.nil | refine tE rfl ?_); skip)
  rintro k ⟨hk, hd⟩
  ((repeat' first | refine Zad ?_ | (refine Zaa tok (by rfl) ?_; conv => whnf) | (refine Za2 tok mix (by rfl) ?_; conv => whnf) | refine Zaj ?_ | (refine Zag ?_; conv => whnf) | (refine Za0 ?_; conv => whnf) | refine Zaf rfl (fun hb => ?_) (fun hb => ?_) | (refine uA ?_ ?_; rotate_left; (conv => whnf); rotate_right)); all_goals (try ((guard_target = Zac _ _ _ _); refine Zae ?_; (all_goals (try simp only [Zac, kZ, kA, kB, mL, Zab] at *)); all_goals omega)))
  ·have hkl : k < b.ins.length := by simp only [Zac, kZ, kA, kB, mL, Zab] at *; omega
   refine .inl ⟨_, _, _, uG (QC.fc (c_ins m f (b.ins.getD (k : Int).toNat default)) rfl), ?_⟩
   conv => whnf
   (repeat' first | refine Zad ?_ | (refine Zaa tok (by rfl) ?_; conv => whnf) | (refine Zag ?_; conv => whnf) | (refine Zah ?_; conv => whnf) | refine Zaf rfl (fun hb => ?_) (fun hb => ?_))
   ·refine ⟨_, rfl, Rel.bool ?_⟩
    unfold Zem
    rw [all_no default hlt (p := blkB m f)]
    ·simp
    ·rw [hbk]; unfold blkB
     rw [all_no default hkl (p := fun x => decide (InsP m f x)) (by simpa using hb)]
     simp
   ·refine ⟨k + 1, ⟨hkl, fun j hj => ?_⟩, by omega, ?_⟩
    ·by_cases e : j = k
     ·subst e; simpa using hb
     ·exact hd j (by omega)
    refine Weak.list [((2, 0, 0), .old (2, 0, 0), Zam (Zao m)), ((3, 0, 0), .old (3, 0, 0), Zam (Za1 f)), ((6, 0, 0), .old (6, 0, 0), .row true 14 1 (fun _ => Zbg b))] rfl (by rfl) ?_ (.old rfl (BLe.refl _) (.old rfl (BLe.refl _) (.old rfl (BLe.refl _) .nil)))
    ((repeat' first | exact TLes.nil | refine tE rfl ?_ | refine TLes.cons (TLe.int ?_) ?_); (all_goals first | ((try (simp only [Zac, kZ, kA, kB, mL, Zab] at *)); exact Zal (by omega) (by omega)) | skip))
  ·have hkl : k = b.ins.length := by simp only [Zac, kZ, kA, kB, mL, Zab] at *; omega
   refine ⟨i + 1, ⟨hlt, fun j hj => ?_⟩, by omega, ?_⟩
   ·by_cases e : j = i
    ·subst e; rw [hbk]; unfold blkB
     rw [decide_eq_true hB, all_yes default (p := fun x => decide (InsP m f x)) (fun j hj => hd j (by omega))]; rfl
    ·exact hc j (by omega)
   refine Weak.list [((2, 0, 0), .old (2, 0, 0), Zam (Zao m)), ((3, 0, 0), .old (3, 0, 0), Zam (Za1 f))] rfl (by rfl) ?_ (.old rfl (BLe.refl _) (.old rfl (BLe.refl _) .nil))
   ((repeat' first | exact TLes.nil | refine tE rfl ?_ | refine TLes.cons (TLe.int ?_) ?_); (all_goals first | ((try (simp only [Zac, kZ, kA, kB, mL, Zab] at *)); exact Zal (by omega) (by omega)) | skip))
 ·refine ⟨_, rfl, Rel.bool ?_⟩
  unfold Zem
  rw [decide_eq_true hF, all_yes default (fun j hj => hc j (by simp only [Zac, kZ, kA, kB, mL, Zab] at *; omega))]; rfl
def Za6 (m : Zak) : Bool := decide (1 ≤ m.funcs.length ∧ m.funcs.length ≤ 16 ∧ (m.funcs.getD 0 default).params = 0) && m.funcs.all (Zem m)
theorem c_Right (m : Zak) : FC Tryz.prog 17 [.agg (Zao m)] (.bool (Za6 m)) := by
 refine Zan tok Tryz.func17 rfl (by decide +kernel) (nB rfl) ?_
 refine Zap 0 (fun hl => ?_)
 have hl0 : m.funcs.length ≤ mL := hl.1.1
 ((repeat' first | refine Zad ?_ | (refine Zaa tok (by rfl) ?_; conv => whnf) | refine Zaj ?_ | (refine Zag ?_; conv => whnf) | (refine Zah ?_; conv => whnf) | refine Zaf rfl (fun hb => ?_) (fun hb => ?_) | (refine uA ?_ ?_; rotate_left; (conv => whnf); rotate_right)); all_goals (try ((guard_target = Zac _ _ _ _); ((refine Za7 ?_; intro hgd; (conv at hgd => whnf))); (all_goals (try simp only [Zac, kZ, kA, kB, mL, Zab] at *)); all_goals omega)))
 ·refine ⟨_, rfl, Rel.bool ?_⟩
  rw [show Int.toNat 0 = 0 from rfl] at hb
  unfold Za6
  rw [decide_eq_false]
  ·rfl
  ·rintro ⟨h1, h2, h3⟩
   rw [h3] at hb; simp [-List.length_eq_zero_iff] at hb; omega
 have hF : 1 ≤ m.funcs.length ∧ m.funcs.length ≤ 16 ∧ (m.funcs.getD 0 default).params = 0 := by
  rw [show Int.toNat 0 = 0 from rfl] at hb
  simp only [Bool.cond_true_left, Bool.or_eq_false_iff] at hb
  refine ⟨?_, ?_, by simpa using hb.2⟩ <;> simp only [Zac, kZ, kA, kB, mL, Zab] at * <;> omega
 clear hb
 refine Za3 (fun i : Nat => mkS [(1, .bp (1, 0, 0) 0), (2, .bool false), (3, iv i)] [((1, 0, 0), Zam (Zao m))])
  (fun i => i ≤ m.funcs.length ∧ ∀ j, j < i → Zem m (m.funcs.getD j default) = true) (fun i => m.funcs.length - i) 0 ⟨Nat.zero_le _, by simp⟩ ?_ ?_
 ·refine Weak.list [((1, 0, 0), .old (1, 0, 0), Zam (Zao m))] rfl (by rfl) ?_ (.old rfl (BLe.refl _) .nil)
  ((repeat' first | exact TLes.nil | refine tE rfl ?_); skip)
 rintro i ⟨hi, hc⟩
 ((repeat' first | refine Zad ?_ | (refine Zaa tok (by rfl) ?_; conv => whnf) | (refine Za2 tok mix (by rfl) ?_; conv => whnf) | refine Zaj ?_ | (refine Zag ?_; conv => whnf) | (refine Za0 ?_; conv => whnf) | (refine Zah ?_; conv => whnf) | refine Zaf rfl (fun hb => ?_) (fun hb => ?_) | (refine uA ?_ ?_; rotate_left; (conv => whnf); rotate_right)); all_goals (try ((guard_target = Zac _ _ _ _); refine Zae ?_; (all_goals (try simp only [Zac, kZ, kA, kB, mL, Zab] at *)); all_goals omega)))
 ·have hlt : i < m.funcs.length := by simp only [Zac, kZ, kA, kB, mL, Zab] at *; omega
  refine .inl ⟨_, _, _, uG (QC.fc (c_Func m (m.funcs.getD (i : Int).toNat default)) rfl), ?_⟩
  conv => whnf
  (repeat' first | refine Zad ?_ | (refine Zaa tok (by rfl) ?_; conv => whnf) | (refine Zag ?_; conv => whnf) | (refine Zah ?_; conv => whnf) | refine Zaf rfl (fun hb => ?_) (fun hb => ?_))
  ·refine ⟨_, rfl, Rel.bool ?_⟩
   unfold Za6
   rw [all_no default hlt (p := Zem m) (by simpa using hb)]
   simp
  ·refine ⟨i + 1, ⟨hlt, fun j hj => ?_⟩, by omega, ?_⟩
   ·by_cases e : j = i
    ·subst e; simpa using hb
    ·exact hc j (by omega)
   refine Weak.list [((1, 0, 0), .old (1, 0, 0), Zam (Zao m))] rfl (by rfl) ?_ (.old rfl (BLe.refl _) .nil)
   ((repeat' first | exact TLes.nil | refine tE rfl ?_ | refine TLes.cons (TLe.int ?_) ?_); (all_goals first | ((try (simp only [Zac, kZ, kA, kB, mL, Zab] at *)); exact Zal (by omega) (by omega)) | skip))
 ·refine ⟨_, rfl, Rel.bool ?_⟩
  unfold Za6
  rw [decide_eq_true hF, all_yes default (fun j hj => hc j (by simp only [Zac, kZ, kA, kB, mL, Zab] at *; omega))]; rfl
set_option linter.unusedSimpArgs false
def blkS (b : Zbs) : Bool := decide (b.ins.length ≤ 70 ∧ b.pad.catch_.length ≤ 20 ∧ b.fin.args.length ≤ 20) && b.ins.all fun x => decide (x.args.length ≤ 20)
def funS (f : Func) : Bool := decide (f.blocks.length ≤ 70) && f.blocks.all blkS
def many (f : Func) : Nat := (f.blocks.map fun b => b.ins.length).sum
def manyTo (f : Func) (k : Nat) : Nat := ((f.blocks.take k).map fun b => b.ins.length).sum
def totTo (m : Zak) (i : Nat) : Nat := ((m.funcs.take i).map many).sum
def shortB (m : Zak) : Bool := decide (m.funcs.length ≤ 20) && m.funcs.all funS && decide ((m.funcs.map many).sum ≤ 2000)
theorem manyTo_succ {f : Func} {k : Nat} (h : k < f.blocks.length) : manyTo f (k + 1) = manyTo f k + (f.blocks.getD k default).ins.length := by
 unfold manyTo; rw [Zb9 default h]; simp
theorem totTo_succ {m : Zak} {i : Nat} (h : i < m.funcs.length) : totTo m (i + 1) = totTo m i + many (m.funcs.getD i default) := by
 unfold totTo; rw [Zb9 default h]; simp
theorem manyTo_all (f : Func) : manyTo f f.blocks.length = many f := by unfold manyTo many; rw [List.take_length]
theorem c_Short (m : Zak) : FC Tryz.prog 48 [.agg (Zao m)] (.bool (shortB m)) := by
 refine Zan tok Tryz.func48 rfl (by decide +kernel) (nB rfl) ?_
 refine Zap 0 (fun hl => ?_)
 have hl0 : m.funcs.length ≤ mL := hl.1.1
 (repeat' first | refine Zad ?_ | (refine Zaa tok (by rfl) ?_; conv => whnf) | refine Zaj ?_ | (refine Zag ?_; conv => whnf) | (refine Zah ?_; conv => whnf) | refine Zaf rfl (fun hb => ?_) (fun hb => ?_))
 ·refine ⟨_, rfl, Rel.bool ?_⟩
  unfold shortB
  rw [decide_eq_false (by simp only [Zac, kZ, kA, kB, mL, Zab] at *; omega)]; simp
 have h20 : m.funcs.length ≤ 20 := by simp only [Zac, kZ, kA, kB, mL, Zab] at *; omega
 clear hb
 refine Za3 (fun i : Nat => mkS [(1, .bp (1, 0, 0) 0), (2, .bool false), (3, iv (totTo m i)), (4, iv i)] [((1, 0, 0), Zam (Zao m))])
  (fun i => i ≤ m.funcs.length ∧ totTo m i ≤ i * 4900 ∧ ∀ j, j < i → funS (m.funcs.getD j default) = true) (fun i => m.funcs.length - i) 0 ⟨Nat.zero_le _, by simp [totTo], by simp⟩ ?_ ?_
 ·refine Weak.list [((1, 0, 0), .old (1, 0, 0), Zam (Zao m))] rfl (by rfl) ?_ (.old rfl (BLe.refl _) .nil)
  ((repeat' first | exact TLes.nil | refine tE rfl ?_); skip)
 rintro i ⟨hi, hn, hc⟩
 ((repeat' first | refine Zad ?_ | (refine Zaa tok (by rfl) ?_; conv => whnf) | refine Zaj ?_ | (refine Zag ?_; conv => whnf) | (refine Za0 ?_; conv => whnf) | (refine Zah ?_; conv => whnf) | refine Zaf rfl (fun hb => ?_) (fun hb => ?_) | (refine uA ?_ ?_; rotate_left; (conv => whnf); rotate_right)); all_goals (try ((guard_target = Zac _ _ _ _); refine Zae ?_; (all_goals (try simp only [Zac, kZ, kA, kB, mL, Zab] at *)); all_goals omega)))
 ·have hlt : i < m.funcs.length := by simp only [Zac, kZ, kA, kB, mL, Zab] at *; omega
  refine ⟨_, rfl, Rel.bool ?_⟩
  unfold shortB
  rw [all_no default hlt (p := funS)]
  ·simp
  ·unfold funS; rw [decide_eq_false]; rfl
   simp at hb; simp; omega
 ·have hlt : i < m.funcs.length := by simp only [Zac, kZ, kA, kB, mL, Zab] at *; omega
  have hget : m.funcs.getD (i : Int).toNat default = m.funcs.getD i default := by simp
  rw [hget] at hb
  generalize hf : m.funcs.getD i default = f at hget hb
  have hf70 : f.blocks.length ≤ 70 := by simp only [Zac, kZ, kA, kB, mL, Zab] at *; omega
  clear hb
  refine Za3 (fun k : Nat => mkS [(1, .bp (1, 0, 0) 0), (2, .bool false), (3, iv ((totTo m i + manyTo f k : Nat) : Int)), (4, iv i), (5, iv k)] [((1, 0, 0), Zam (Zao m))])
   (fun k => k ≤ f.blocks.length ∧ manyTo f k ≤ k * 70 ∧ ∀ j, j < k → blkS (f.blocks.getD j default) = true) (fun k => f.blocks.length - k) 0 ⟨Nat.zero_le _, by simp [manyTo], by simp⟩ ?_ ?_
  ·refine Weak.list [((1, 0, 0), .old (1, 0, 0), Zam (Zao m))] rfl (by rfl) ?_ (.old rfl (BLe.refl _) .nil)
   ((repeat' first | exact TLes.nil | refine tE rfl ?_); skip)
   all_goals simp [manyTo]
  rintro k ⟨hk, hs, hd⟩
  ((repeat' ((fail_if_success (show Rg 13)); first | refine Zad ?_ | (refine Zaa tok (by rfl) ?_; conv => whnf) | refine Zaj ?_ | (refine Zag ?_; conv => whnf) | (refine Za0 ?_; conv => whnf) | refine Zaf rfl (fun hb => ?_) (fun hb => ?_) | (refine uA ?_ ?_; rotate_left; (conv => whnf); rotate_right))); all_goals (try ((guard_target = Zac _ _ _ _); refine Zae ?_; (all_goals (try simp only [Zac, kZ, kA, kB, mL, Zab] at *)); all_goals omega)))
  ·rw [hget] at hb
   have hkl : k < f.blocks.length := by simp only [Zac, kZ, kA, kB, mL, Zab] at *; omega
   have hgb : f.blocks.getD (k : Int).toNat default = f.blocks.getD k default := by simp
   generalize hbk : f.blocks.getD k default = b at hgb
   refine Zaz (Weak.list (tl := [(1, .bp (1, 0, 0) 0), (2, .bool false), (3, iv ((totTo m i + manyTo f k : Nat) : Int)), (4, iv i), (5, iv k), (6, .bp (6, 0, 0) 0)]) [((1, 0, 0), .old (1, 0, 0), Zam (Zao m)), ((6, 0, 0), .old (6, 0, 0), .row true 14 1 (fun _ => Zbg b))] rfl (by rfl) ?_ (.old rfl (BLe.refl _) (.old rfl (BLe.rowW (Nat.le_refl _) (fun z hz => ?_)) .nil))) ?_
   ·((repeat' first | exact TLes.nil | refine tE rfl ?_); skip)
   ·match z, hz with
    | 0, _ => rw [← hgb, ← hget]; exact Wks.of rfl
   have bad : blkS b = false → shortB m = false := fun h => by
    unfold shortB
    rw [all_no default hlt (p := funS)]
    ·simp
    ·rw [hf]; unfold funS; rw [all_no default hkl (p := blkS) (by rw [hbk]; exact h)]; simp
   clear hb
   (repeat' first | refine Zad ?_ | (refine Zaa tok (by rfl) ?_; conv => whnf) | refine Zaj ?_ | (refine Zag ?_; conv => whnf) | (refine Zah ?_; conv => whnf) | refine Zaf rfl (fun hb => ?_) (fun hb => ?_))
   ·refine ⟨_, rfl, Rel.bool (bad ?_).symm⟩
    unfold blkS; rw [decide_eq_false]; rfl
    simp at hb; omega
   have hB : b.ins.length ≤ 70 ∧ b.pad.catch_.length ≤ 20 ∧ b.fin.args.length ≤ 20 := by simp at hb; omega
   clear hb
   have hsucc := manyTo_succ hkl
   rw [hbk] at hsucc
   have hi20 : i ≤ 20 := by omega
   have hk70 : k ≤ 70 := by omega
   have hbig : totTo m i + manyTo f k + b.ins.length ≤ 200000 := by omega
   refine Za3 (fun j : Nat => mkS [(1, .bp (1, 0, 0) 0), (2, .bool false), (3, iv ((totTo m i + manyTo f (k + 1) : Nat) : Int)), (4, iv i), (5, iv k), (6, .bp (6, 0, 0) 0), (7, iv j)] [((1, 0, 0), Zam (Zao m)), ((6, 0, 0), .row true 14 1 (fun _ => Zbg b))])
    (fun j => j ≤ b.ins.length ∧ ∀ q, q < j → decide ((b.ins.getD q default).args.length ≤ 20) = true) (fun j => b.ins.length - j) 0 ⟨Nat.zero_le _, by simp⟩ ?_ ?_
   ·refine Weak.list [((1, 0, 0), .old (1, 0, 0), Zam (Zao m)), ((6, 0, 0), .old (6, 0, 0), .row true 14 1 (fun _ => Zbg b))] rfl (by rfl) ?_ (.old rfl (BLe.refl _) (.old rfl (BLe.refl _) .nil))
    ((repeat' first | exact TLes.nil | refine tE rfl ?_ | refine TLes.cons (TLe.int ?_) ?_); (all_goals first | ((try (simp only [Zac, kZ, kA, kB, mL, Zab] at *)); (simp (disch := omega) only [Zal]; omega)) | skip))
   rintro j ⟨hj, he⟩
   ((repeat' first | refine Zad ?_ | (refine Zaa tok (by rfl) ?_; conv => whnf) | refine Zaj ?_ | (refine Zag ?_; conv => whnf) | (refine Za0 ?_; conv => whnf) | (refine Zah ?_; conv => whnf) | refine Zaf rfl (fun hb => ?_) (fun hb => ?_) | (refine uA ?_ ?_; rotate_left; (conv => whnf); rotate_right)); all_goals (try ((guard_target = Zac _ _ _ _); refine Zae ?_; (all_goals (try simp only [Zac, kZ, kA, kB, mL, Zab] at *)); all_goals omega)))
   ·have hjl : j < b.ins.length := by simp only [Zac, kZ, kA, kB, mL, Zab] at *; omega
    refine ⟨_, rfl, Rel.bool (bad ?_).symm⟩
    unfold blkS; rw [all_no default hjl (p := fun (x : Ins) => decide (x.args.length ≤ 20)) (by simp at hb ⊢; omega)]; simp
   ·have hjl : j < b.ins.length := by simp only [Zac, kZ, kA, kB, mL, Zab] at *; omega
    refine ⟨j + 1, ⟨hjl, fun q hq => ?_⟩, by omega, ?_⟩
    ·by_cases e : q = j
     ·subst e; simp at hb ⊢; omega
     ·exact he q (by omega)
    refine Weak.list [((1, 0, 0), .old (1, 0, 0), Zam (Zao m)), ((6, 0, 0), .old (6, 0, 0), .row true 14 1 (fun _ => Zbg b))] rfl (by rfl) ?_ (.old rfl (BLe.refl _) (.old rfl (BLe.refl _) .nil))
    ((repeat' first | exact TLes.nil | refine tE rfl ?_ | refine TLes.cons (TLe.int ?_) ?_); (all_goals first | ((try (simp only [Zac, kZ, kA, kB, mL, Zab] at *)); exact Zal (by omega) (by omega)) | skip))
   ·have hjl : j = b.ins.length := by simp only [Zac, kZ, kA, kB, mL, Zab] at *; omega
    refine ⟨k + 1, ⟨hkl, by omega, fun q hq => ?_⟩, by omega, ?_⟩
    ·by_cases e : q = k
     ·subst e; rw [hbk]; unfold blkS
      rw [decide_eq_true hB, all_yes default (p := fun (x : Ins) => decide (x.args.length ≤ 20)) (fun q hq => he q (by omega))]; rfl
     ·exact hd q (by omega)
    refine Weak.list [((1, 0, 0), .old (1, 0, 0), Zam (Zao m))] rfl (by rfl) ?_ (.old rfl (BLe.refl _) .nil)
    ((repeat' first | exact TLes.nil | refine tE rfl ?_ | refine TLes.cons (TLe.int ?_) ?_); (all_goals first | ((try (simp only [Zac, kZ, kA, kB, mL, Zab] at *)); exact Zal (by omega) (by omega)) | skip))
  ·rw [hget] at hb
   have hkl : k = f.blocks.length := by simp only [Zac, kZ, kA, kB, mL, Zab] at *; omega
   subst hkl
   have hsucc := totTo_succ hlt
   rw [hf] at hsucc
   rw [manyTo_all] at hs
   refine ⟨i + 1, ⟨hlt, by omega, fun q hq => ?_⟩, by omega, ?_⟩
   ·by_cases e : q = i
    ·subst e; rw [hf]; unfold funS
     rw [decide_eq_true hf70, all_yes default (fun q hq => hd q hq)]; rfl
    ·exact hc q (by omega)
   refine Weak.list [((1, 0, 0), .old (1, 0, 0), Zam (Zao m))] rfl (by rfl) ?_ (.old rfl (BLe.refl _) .nil)
   ((repeat' first | exact TLes.nil | refine tE rfl ?_ | refine TLes.cons (TLe.int ?_) ?_); (all_goals first | ((try (simp only [Zac, kZ, kA, kB, mL, Zab] at *)); exact Zal (by omega) (by omega)) | skip))
   rw [manyTo_all, hsucc]
 ·refine ⟨_, rfl, Rel.bool ?_⟩
  have hil : i = m.funcs.length := by simp only [Zac, kZ, kA, kB, mL, Zab] at *; omega
  unfold shortB
  rw [decide_eq_true h20, all_yes default (fun j hj => hc j (by omega))]
  rw [hil]; unfold totTo; rw [List.take_length]
  rw [Bool.eq_iff_iff]; simp
  omega
end Go.Proofs.YtoelbgjpmpoolaaGreat
namespace Go.Proofs.YtoelbgjpmpoolaaGreat
open Go Dv Go.Sort
set_option maxRecDepth 10000
set_option linter.unusedSimpArgs false
abbrev i0 : Dv.Id := (0, 7, 0)
abbrev i1 : Dv.Id := (1, 7, 0)
abbrev arow (n : Nat) (d : Array Int) : Zau := .row true 1 n (fun x => [.int .u16 d[x]!])
theorem c_isNaN (x : Int) : FC Tryz.prog 242 [.int .u16 x] (.bool false) := by
 refine Zan tok Tryz.func242 rfl (by decide +kernel) (nB rfl) ?_
 (repeat' first | refine Zad ?_ | (refine Zaa tok (by rfl) ?_; conv => whnf) | (refine Zah ?_; conv => whnf))
 exact ⟨_, rfl, Rel.bool (by simp)⟩
theorem c_Less (x y : Int) : FC Tryz.prog 235 [.int .u16 x, .int .u16 y] (.bool (ltInt x y)) := by
 refine Zan tok Tryz.func235 rfl (by decide +kernel) (nB rfl) ?_
 (repeat' first | refine Zad ?_ | (refine Zaa tok (by rfl) ?_; conv => whnf))
 refine .inl ⟨_, _, _, uG (QC.fc (c_isNaN x) rfl), ?_⟩
 conv => whnf
 skip
 refine .inl ⟨_, _, _, uG (QC.fc (c_isNaN y) rfl), ?_⟩
 conv => whnf
 (repeat' (refine Zah ?_; conv => whnf))
 exact ⟨_, rfl, Rel.bool (by simp [ltInt])⟩
theorem bang_set (d : Array Int) (i : Nat) (v : Int) (x : Nat) (hi : i < d.size) : (d.setIfInBounds i v)[x]! = if i = x then v else d[x]! := by
 by_cases h : i = x
 ·subst h; rw [if_pos rfl, getElem!_pos (d.setIfInBounds i v) i (by simpa using hi)]; simp
 ·rw [if_neg h]
  by_cases hx : x < d.size
  ·rw [getElem!_pos (d.setIfInBounds i v) x (by simpa using hx), getElem!_pos d x hx]
   rw [Array.getElem_setIfInBounds (by simpa using hx)]; simp [h]
  ·rw [getElem!_neg (d.setIfInBounds i v) x (by simpa using hx), getElem!_neg d x hx]
theorem Zb3 (d : Array Int) (i j : Nat) : (swp d i j).size = d.size := by simp [swp]
theorem Zc6 {d : Array Int} {i j i' j' : Nat} {u v : Int} (hi : i < d.size) (hj : j < d.size) (ei : i' = i) (ej : j' = j) (eu : u = d[j]!) (ev : v = d[i]!) (x : Nat) :
  updR (updR (fun x => [AV.int .u16 d[x]!]) i' [.int .u16 u]) j' [.int .u16 v] x = [.int .u16 (swp d i j)[x]!] := by
 subst ei; subst ej; subst eu; subst ev
 unfold swp
 rw [bang_set _ _ _ _ (by simpa using hj), bang_set _ _ _ _ hi]
 unfold updR
 cases h1 : Nat.beq j' x with
 | true => have := Nat.eq_of_beq_eq_true h1; rw [if_pos this]; rfl
 | false =>
  have n1 : j' ≠ x := fun e => by subst e; simp at h1
  rw [if_neg n1]
  cases h2 : Nat.beq i' x with
  | true => have := Nat.eq_of_beq_eq_true h2; rw [if_pos this]; rfl
  | false =>
   have n2 : i' ≠ x := fun e => by subst e; simp at h2
   rw [if_neg n2]; rfl
theorem c_insertion (n : Nat) (d0 : Array Int) (a b : Nat) (hn : d0.size = n) (ha : a ≤ b) (hb0 : b ≤ n) :
  HC Tryz.prog [i0] 229 [(i0, arow n d0)] [.rs i0 1 0 n, iv a, iv b] (.tup []) [(i0, arow n (insertionSort ltInt d0 a b))] := by
 refine Zcd tok Tryz.func229 rfl (by decide +kernel) (nB rfl) ?_
 refine Zap 0 (fun hl => ?_)
 have hl0 : n ≤ 4294967296 := hl
 (repeat' first | refine Zad ?_ | (refine Zaa tok (by rfl) ?_; conv => whnf) | refine Zaj ?_)
 refine Za3 (fun q : Nat × Array Int => mkS [(0, .rs i0 1 0 n), (1, iv a), (2, iv b), (6, iv q.1)] [(i0, arow n q.2)])
  (fun q => a + 1 ≤ q.1 ∧ q.1 ≤ b + 1 ∧ q.2.size = n ∧ insOuter ltInt a b q.1 q.2 = insertionSort ltInt d0 a b) (fun q => b + 1 - q.1) (a + 1, d0) ⟨Nat.le_refl _, by omega, hn, rfl⟩ ?_ ?_
 ·refine Weak.list [(i0, .old i0, arow n d0)] rfl (by rfl) ?_ (.old rfl (BLe.refl _) .nil)
  ((repeat' first | exact TLes.nil | refine tE rfl ?_ | refine TLes.cons (TLe.int ?_) ?_); (all_goals first | ((try (simp only [Zac, kZ, kA, kB, mL, Zab] at *)); exact Zal (by omega) (by omega)) | skip))
 rintro ⟨i, d⟩ ⟨hi1, hi2, hd, hR⟩
 simp only at hi1 hi2 hd hR ⊢
 (repeat' first | refine Zad ?_ | (refine Zaa tok (by rfl) ?_; conv => whnf) | refine Zaj ?_ | (refine Zag ?_; conv => whnf) | (refine Za0 ?_; conv => whnf) | refine Zaf rfl (fun hb => ?_) (fun hb => ?_))
 ·have hib : i < b := by simp only [Zac, kZ, kA, kB, mL, Zab] at *; omega
  refine Za3 (fun q : Nat × Array Int => mkS [(0, .rs i0 1 0 n), (1, iv a), (2, iv b), (6, iv i), (7, iv q.1)] [(i0, arow n q.2)])
   (fun q => q.1 ≤ i ∧ a ≤ q.1 ∧ q.2.size = n ∧ insInner ltInt a q.1 q.2 = insInner ltInt a i d) (fun q => q.1) (i, d) ⟨Nat.le_refl _, by omega, hd, rfl⟩ ?_ ?_
  ·refine Weak.list [(i0, .old i0, arow n d)] rfl (by rfl) ?_ (.old rfl (BLe.refl _) .nil)
   ((repeat' first | exact TLes.nil | refine tE rfl ?_); skip)
  rintro ⟨j, e⟩ ⟨hj1, hj2, he, hS⟩
  simp only at hj1 hj2 he hS ⊢
  ((repeat' first | refine Zad ?_ | (refine Za2 tok mix (by rfl) ?_; conv => whnf) | (refine uA ?_ ?_; rotate_left; (conv => whnf); rotate_right)); all_goals (try ((guard_target = Zac _ _ _ _); ((refine Za7 ?_; intro hgd; (conv at hgd => whnf))); (all_goals (try simp only [Zac, kZ, kA, kB, mL, Zab] at *)); (all_goals (try (simp (disch := omega) only [Zal]))); all_goals omega)))
  have hless : ∀ x y, x = e[j]! → y = e[j - 1]! → FC Tryz.prog 235 [.int .u16 x, .int .u16 y] (.bool (ltInt e[j]! e[j - 1]!)) := fun x y h1 h2 => by rw [h1, h2]; exact c_Less _ _
  have hix : ∀ k : Nat, e[0 + (k : Int).toNat]! = e[k]! := fun k => by rw [show 0 + (k : Int).toNat = k by simp]
  have hix1 : e[0 + (IntKind.i64.wrap ((j : Int) - 1)).toNat]! = e[j - 1]! := by rw [Zal (by omega) (by omega), show 0 + ((j : Int) - 1).toNat = j - 1 by omega]
  refine .inl ⟨_, _, _, uG (QC.fc (hless _ _ (hix j) hix1) rfl), ?_⟩
  conv => whnf
  ((repeat' first | refine Zad ?_ | (refine Zaa tok (by rfl) ?_; conv => whnf) | (refine Za2 tok mix (by rfl) ?_; conv => whnf) | refine Zaj ?_ | (refine Zag ?_; conv => whnf) | (refine Za0 ?_; conv => whnf) | refine Zaf rfl (fun hb => ?_) (fun hb => ?_) | (refine uA ?_ ?_; rotate_left; (conv => whnf); rotate_right)); all_goals (try ((guard_target = Zac _ _ _ _); refine Zae ?_; (all_goals (try simp only [Zac, kZ, kA, kB, mL, Zab] at *)); (all_goals (try (simp (disch := omega) only [Zal]))); all_goals omega)))
  ·have hc : a < j ∧ ltInt e[j]! e[j - 1]! = true := by
    by_cases h1 : a < j
    ·refine ⟨h1, ?_⟩
     rw [decide_eq_true (by omega)] at hb; exact hb
    ·rw [decide_eq_false (by omega)] at hb; cases hb
   refine ⟨(j - 1, swp e j (j - 1)), ⟨by omega, by omega, by rw [Zb3]; exact he, ?_⟩, by omega, ?_⟩
   ·rw [← hS]
    obtain ⟨j, rfl⟩ : ∃ k, j = k + 1 := ⟨j - 1, by omega⟩
    simp only [insInner]
    have h2 := hc.2
    simp only [Nat.add_sub_cancel] at h2 ⊢
    rw [if_pos]
    simp [h2]; omega
   refine Weak.list [(i0, .old i0, arow n (swp e j (j - 1)))] rfl (by rfl) ?_ (.old rfl (BLe.row rfl (fun x hx => ?_)) .nil)
   ·((repeat' first | exact TLes.nil | refine tE rfl ?_ | refine TLes.cons (TLe.int ?_) ?_); (all_goals first | ((try (simp only [Zac, kZ, kA, kB, mL, Zab] at *)); (simp (disch := omega) only [Zal]; omega)) | skip))
   ·exact Zc6 (d := e) (i := j) (j := j - 1) (by omega) (by omega) (by simp) (by rw [Zal (by omega) (by omega)]; omega) hix1 (hix j) x
  ·have hin : insInner ltInt a j e = e := by
    cases j with
    | zero => rfl
    | succ j =>
     simp only [insInner]
     rw [if_neg]
     intro h
     simp only [Bool.and_eq_true, decide_eq_true_eq] at h
     simp only [Nat.add_sub_cancel] at hb
     rw [h.2, decide_eq_true (by omega)] at hb
     cases hb
   refine ⟨(i + 1, e), ⟨by omega, by omega, he, ?_⟩, by omega, ?_⟩
   ·rw [← hR]
    conv => rhs; unfold insOuter
    rw [if_pos hib, ← hS, hin]
   refine Weak.list [(i0, .old i0, arow n e)] rfl (by rfl) ?_ (.old rfl (BLe.refl _) .nil)
   ((repeat' first | exact TLes.nil | refine tE rfl ?_ | refine TLes.cons (TLe.int ?_) ?_); (all_goals first | ((try (simp only [Zac, kZ, kA, kB, mL, Zab] at *)); exact Zal (by omega) (by omega)) | skip))
 ·have hib : b ≤ i := by simp only [Zac, kZ, kA, kB, mL, Zab] at *; omega
  have : insertionSort ltInt d0 a b = d := by rw [← hR]; unfold insOuter; rw [if_neg (by omega)]
  rw [this]
  exact ⟨_, [(i0, .old i0, arow n d)], rfl, rfl, rfl, rfl, .old rfl (BLe.refl _) .nil, .eq rfl⟩
set_option linter.unusedSimpArgs false
theorem Zdn {d : Array Int} {i j : Nat} : ∀ x y, x = d[i]! → y = d[j]! → FC Tryz.prog 235 [.int .u16 x, .int .u16 y] (.bool (ltInt d[i]! d[j]!)) := fun x y h1 h2 => by rw [h1, h2]; exact c_Less _ _
theorem Za9 {d : Array Int} {e : Nat} {i : Nat} (h : e = i) : d[e]! = d[i]! := by rw [h]
theorem c_reverse (n : Nat) (d0 : Array Int) (a b : Nat) (hn : d0.size = n) (ha : a < b) (hb0 : b ≤ n) :
  HC Tryz.prog [i0] 233 [(i0, arow n d0)] [.rs i0 1 0 n, iv a, iv b] (.tup []) [(i0, arow n (reverseRange d0 a b))] := by
 refine Zcd tok Tryz.func233 rfl (by decide +kernel) (nB rfl) ?_
 refine Zap 0 (fun hl => ?_)
 have hl0 : n ≤ 4294967296 := hl
 (repeat' first | refine Zad ?_ | (refine Zaa tok (by rfl) ?_; conv => whnf) | refine Zaj ?_)
 refine Za3 (fun q : (Nat × Nat) × Array Int => mkS [(0, .rs i0 1 0 n), (6, iv q.1.1), (7, iv q.1.2)] [(i0, arow n q.2)])
  (fun q => q.1.1 ≤ n ∧ q.1.2 < n ∧ q.2.size = n ∧ reverseLoop q.1.1 q.1.2 q.2 = reverseRange d0 a b) (fun q => q.1.2 - q.1.1) ((a, b - 1), d0) ⟨by simp; omega, by simp; omega, hn, rfl⟩ ?_ ?_
 ·refine Weak.list [(i0, .old i0, arow n d0)] rfl (by rfl) ?_ (.old rfl (BLe.refl _) .nil)
  ((repeat' first | exact TLes.nil | refine tE rfl ?_ | refine TLes.cons (TLe.int ?_) ?_); (all_goals first | ((try (simp only [Zac, kZ, kA, kB, mL, Zab] at *)); (simp (disch := omega) only [Zal]; omega)) | skip))
 rintro ⟨⟨i, j⟩, d⟩ ⟨hi1, hj1, hd, hR⟩
 simp only at hi1 hj1 hd hR ⊢
 ((repeat' first | refine Zad ?_ | (refine Zaa tok (by rfl) ?_; conv => whnf) | (refine Za2 tok mix (by rfl) ?_; conv => whnf) | refine Zaj ?_ | (refine Zag ?_; conv => whnf) | (refine Za0 ?_; conv => whnf) | refine Zaf rfl (fun hb => ?_) (fun hb => ?_) | (refine uA ?_ ?_; rotate_left; (conv => whnf); rotate_right)); all_goals (try ((guard_target = Zac _ _ _ _); refine Zae ?_; (all_goals (try simp only [Zac, kZ, kA, kB, mL, Zab] at *)); all_goals omega)))
 ·have hij : i < j := by simp only [Zac, kZ, kA, kB, mL, Zab] at *; omega
  refine ⟨((i + 1, j - 1), swp d i j), ⟨by simp; omega, by simp; omega, by rw [Zb3]; exact hd, ?_⟩, by simp; omega, ?_⟩
  ·rw [← hR]; conv => rhs; unfold reverseLoop
   rw [if_pos hij]
  refine Weak.list [(i0, .old i0, arow n (swp d i j))] rfl (by rfl) ?_ (.old rfl (BLe.row rfl (fun x hx => ?_)) .nil)
  ·((repeat' first | exact TLes.nil | refine tE rfl ?_ | refine TLes.cons (TLe.int ?_) ?_); (all_goals first | ((try (simp only [Zac, kZ, kA, kB, mL, Zab] at *)); first | exact Zal (by omega) (by omega) | (simp (disch := omega) only [Zal]; omega)) | skip))
  ·exact Zc6 (d := d) (i := i) (j := j) (by omega) (by omega) (by simp) (by simp) (Za9 (by simp)) (Za9 (by simp)) x
 ·have hij : ¬ i < j := by simp only [Zac, kZ, kA, kB, mL, Zab] at *; omega
  have : reverseRange d0 a b = d := by rw [← hR]; unfold reverseLoop; rw [if_neg hij]
  rw [this]
  exact ⟨_, [(i0, .old i0, arow n d)], rfl, rfl, rfl, rfl, .old rfl (BLe.refl _) .nil, .eq rfl⟩
theorem siftDown_size : ∀ (k hi first root : Nat) (d : Array Int), hi - root ≤ k → (siftDown ltInt hi first root d).size = d.size := by
 intro k
 induction k with
 | zero =>
  intro hi first root d h
  unfold siftDown; rw [dif_pos (by omega)]
 | succ k ih =>
  intro hi first root d h
  unfold siftDown
  split
  ·rfl
  ·rename_i h1
   split
   ·split
    ·rfl
    ·split
     ·rw [ih _ _ _ _ (by omega), Zb3]
     ·rfl
   ·split
    ·rfl
    ·rw [ih _ _ _ _ (by omega), Zb3]
theorem c_sift (n : Nat) (d0 : Array Int) (root hi first : Nat) (hn : d0.size = n) (hf : first + hi ≤ n) (hr : root ≤ n) :
  HC Tryz.prog [i0] 239 [(i0, arow n d0)] [.rs i0 1 0 n, iv root, iv hi, iv first] (.tup []) [(i0, arow n (siftDown ltInt hi first root d0))] := by
 refine Zcd tok Tryz.func239 rfl (by decide +kernel) (nB rfl) ?_
 refine Zap 0 (fun hl => ?_)
 have hl0 : n ≤ 4294967296 := hl
 (repeat' first | refine Zad ?_ | (refine Zaa tok (by rfl) ?_; conv => whnf) | refine Zaj ?_)
 refine Za3 (fun q : Nat × Array Int => mkS [(0, .rs i0 1 0 n), (2, iv hi), (3, iv first), (8, iv q.1)] [(i0, arow n q.2)])
  (fun q => q.1 ≤ n ∧ q.2.size = n ∧ siftDown ltInt hi first q.1 q.2 = siftDown ltInt hi first root d0) (fun q => n - q.1) (root, d0) ⟨hr, hn, rfl⟩ ?_ ?_
 ·refine Weak.list [(i0, .old i0, arow n d0)] rfl (by rfl) ?_ (.old rfl (BLe.refl _) .nil)
  ((repeat' first | exact TLes.nil | refine tE rfl ?_); skip)
 rintro ⟨r, d⟩ ⟨hr1, hd, hR⟩
 simp only at hr1 hd hR ⊢
 (repeat' ((fail_if_success (show Rg 3)); first | refine Zad ?_ | (refine Zaa tok (by rfl) ?_; conv => whnf) | refine Zaj ?_ | (refine Zag ?_; conv => whnf) | (refine Za0 ?_; conv => whnf) | refine Zaf rfl (fun hb => ?_) (fun hb => ?_)))
 ·have hex : hi ≤ 2 * r + 1 := by simp (disch := omega) only [Zal] at hb; simp only [Zac, kZ, kA, kB, mL, Zab] at *; omega
  have : siftDown ltInt hi first root d0 = d := by rw [← hR]; unfold siftDown; rw [dif_pos hex]
  rw [this]
  exact ⟨_, [(i0, .old i0, arow n d)], rfl, rfl, rfl, rfl, .old rfl (BLe.refl _) .nil, .eq rfl⟩
 ·have hex : 2 * r + 1 < hi := by simp (disch := omega) only [Zal] at hb; simp only [Zac, kZ, kA, kB, mL, Zab] at *; omega
  clear hb
  refine Zaz (Weak.list (tl := [(0, .rs i0 1 0 n), (2, iv hi), (3, iv first), (8, iv r), (9, iv ((2 * r + 1 : Nat) : Int))]) [(i0, .old i0, arow n d)] rfl (by rfl) ?_ (.old rfl (BLe.refl _) .nil)) ?_
  ·((repeat' first | exact TLes.nil | refine tE rfl ?_ | refine TLes.cons (TLe.int ?_) ?_); (all_goals first | ((simp (disch := omega) only [Zal]; omega)) | skip))
  ((repeat' first | (refine Za2 tok mix (by rfl) ?_; conv => whnf) | (refine uA ?_ ?_; rotate_left; (conv => whnf); rotate_right)); all_goals (try ((guard_target = Zac _ _ _ _); ((refine Za7 ?_; intro hgd; (conv at hgd => whnf); (try simp (disch := omega) only [Zal] at hgd))); (all_goals (try simp only [Zac, kZ, kA, kB, mL, Zab] at *)); (all_goals (try (simp (disch := omega) only [Zal]))); all_goals omega)))
  have h2 : ∀ k : Nat, first + k < n → d[0 + (IntKind.i64.wrap ((first : Int) + (k : Int))).toNat]! = d[first + k]! := fun k hk => by simp (disch := omega) only [Zal]; exact Za9 (by omega)
  have h3 : d[0 + (IntKind.i64.wrap (IntKind.i64.wrap ((first : Int) + ((2 * r + 1 : Nat) : Int)) + 1)).toNat]! = d[first + (2 * r + 1) + 1]! := by simp (disch := omega) only [Zal]; exact Za9 (by omega)
  refine .inl ⟨_, _, _, uG (QC.fc (Zdn (d := d) (i := first + (2 * r + 1)) (j := first + (2 * r + 1) + 1) _ _ (h2 _ (by omega)) h3) rfl), ?_⟩
  conv => whnf
  skip
  refine Zdu (fun c : Nat => mkS [(0, .rs i0 1 0 n), (2, iv hi), (3, iv first), (8, iv r), (9, iv c)] [(i0, arow n d)])
   (fun c => r < c ∧ c < hi ∧ siftDown ltInt hi first r d = if (!ltInt d[first + r]! d[first + c]!) = true then d else siftDown ltInt hi first c (swp d (first + r) (first + c))) ?_ ?_
  ·(repeat' first | (refine Zaa tok (by rfl) ?_; conv => whnf) | (refine Zag ?_; conv => whnf) | refine Zaf rfl (fun hb => ?_) (fun hb => ?_))
   ·have hc : 2 * r + 1 + 1 < hi ∧ ltInt d[first + (2 * r + 1)]! d[first + (2 * r + 1) + 1]! = true := by
     rw [Zal (by omega) (by omega)] at hb
     by_cases h1 : 2 * r + 1 + 1 < hi
     ·rw [decide_eq_true (by omega)] at hb; exact ⟨h1, hb⟩
     ·rw [decide_eq_false (by omega)] at hb; cases hb
    refine ⟨2 * r + 2, ⟨by omega, by omega, ?_⟩, Weak.list [(i0, .old i0, arow n d)] rfl (by rfl) ?_ (.old rfl (BLe.refl _) .nil)⟩
    ·conv => lhs; unfold siftDown
     rw [dif_neg (by omega), if_pos (by simp [hc]), dif_pos (by omega)]
    ·((repeat' first | exact TLes.nil | refine tE rfl ?_ | refine TLes.cons (TLe.int ?_) ?_); (all_goals first | ((try (simp only [Zac, kZ, kA, kB, mL, Zab] at *)); exact Zal (by omega) (by omega)) | skip))
   ·have hc : ¬ (2 * r + 1 + 1 < hi ∧ ltInt d[first + (2 * r + 1)]! d[first + (2 * r + 1) + 1]! = true) := by
     rw [Zal (by omega) (by omega)] at hb
     rintro ⟨h1, h4⟩
     rw [decide_eq_true (by omega), h4] at hb; cases hb
    refine ⟨2 * r + 1, ⟨by omega, by omega, ?_⟩, Weak.list [(i0, .old i0, arow n d)] rfl (by rfl) ?_ (.old rfl (BLe.refl _) .nil)⟩
    ·conv => lhs; unfold siftDown
     rw [dif_neg (by omega), if_neg (by simpa using hc)]
    ·((repeat' first | exact TLes.nil | refine tE rfl ?_); skip)
  rintro c ⟨hc1, hc2, hc3⟩ τ hτ
  refine Zaz hτ ?_
  conv => whnf
  ((repeat' first | refine Zad ?_ | (refine Za2 tok mix (by rfl) ?_; conv => whnf) | (refine uA ?_ ?_; rotate_left; (conv => whnf); rotate_right)); all_goals (try ((guard_target = Zac _ _ _ _); refine Zae ?_; (all_goals (try simp only [Zac, kZ, kA, kB, mL, Zab] at *)); (all_goals (try (simp (disch := omega) only [Zal]))); all_goals omega)))
  refine .inl ⟨_, _, _, uG (QC.fc (Zdn (d := d) (i := first + r) (j := first + c) _ _ (h2 _ (by omega)) (h2 _ (by omega))) rfl), ?_⟩
  conv => whnf
  ((repeat' first | refine Zad ?_ | (refine Zaa tok (by rfl) ?_; conv => whnf) | (refine Za2 tok mix (by rfl) ?_; conv => whnf) | (refine Zag ?_; conv => whnf) | (refine Zah ?_; conv => whnf) | refine Zaf rfl (fun hb => ?_) (fun hb => ?_) | (refine uA ?_ ?_; rotate_left; (conv => whnf); rotate_right)); all_goals (try ((guard_target = Zac _ _ _ _); refine Zae ?_; (all_goals (try simp only [Zac, kZ, kA, kB, mL, Zab] at *)); (all_goals (try (simp (disch := omega) only [Zal]))); all_goals omega)))
  ·have : siftDown ltInt hi first root d0 = d := by rw [← hR, hc3, if_pos hb]
   rw [this]
   exact ⟨_, [(i0, .old i0, arow n d)], rfl, rfl, rfl, rfl, .old rfl (BLe.refl _) .nil, .eq rfl⟩
  ·refine ⟨(c, swp d (first + r) (first + c)), ⟨by simp; omega, by rw [Zb3]; exact hd, ?_⟩, by simp; omega, ?_⟩
   ·rw [← hR, hc3, if_neg (by rw [hb]; simp)]
   refine Weak.list [(i0, .old i0, arow n (swp d (first + r) (first + c)))] rfl (by rfl) ?_ (.old rfl (BLe.row rfl (fun x hx => ?_)) .nil)
   ·((repeat' first | exact TLes.nil | refine tE rfl ?_); skip)
   ·exact Zc6 (d := d) (i := first + r) (j := first + c) (by omega) (by omega) (by simp (disch := omega) only [Zal]; omega) (by simp (disch := omega) only [Zal]; omega) (h2 _ (by omega)) (h2 _ (by omega)) x
theorem c_heap (n : Nat) (d0 : Array Int) (a b : Nat) (hn : d0.size = n) (ha : a ≤ b) (hb0 : b ≤ n) :
  HC Tryz.prog [i0] 230 [(i0, arow n d0)] [.rs i0 1 0 n, iv a, iv b] (.tup []) [(i0, arow n (heapSort ltInt d0 a b))] := by
 refine Zcd tok Tryz.func230 rfl (by decide +kernel) (nB rfl) ?_
 refine Zap 0 (fun hl => ?_)
 have hl0 : n ≤ 4294967296 := hl
 obtain ⟨K, hK⟩ : ∃ K, K = (b - a - 1) / 2 + 1 := ⟨_, rfl⟩
 have hhs : heapSort ltInt d0 a b = heapPop ltInt a (b - a) (heapBuild ltInt (b - a) a K d0) := by rw [hK]; rfl
 ((repeat' first | refine Zad ?_ | (refine Zaa tok (by rfl) ?_; conv => whnf) | refine Zaj ?_ | (refine uA ?_ ?_; rotate_left; (conv => whnf); rotate_right)); all_goals (try ((guard_target = Zac _ _ _ _); refine Zae ?_; all_goals omega)))
 refine Za3 (fun q : Nat × Array Int => mkS [(0, .rs i0 1 0 n), (6, iv a), (7, iv 0), (8, iv ((b - a : Nat) : Int)), (9, iv ((q.1 : Int) - 1))] [(i0, arow n q.2)])
  (fun q => q.1 ≤ K ∧ q.2.size = n ∧ heapBuild ltInt (b - a) a q.1 q.2 = heapBuild ltInt (b - a) a K d0) (fun q => q.1) (K, d0) ⟨Nat.le_refl _, hn, rfl⟩ ?_ ?_
 ·refine Weak.list [(i0, .old i0, arow n d0)] rfl (by rfl) ?_ (.old rfl (BLe.refl _) .nil)
  ((repeat' first | exact TLes.nil | refine tE rfl ?_ | refine TLes.cons (TLe.int ?_) ?_); (all_goals first | ((try (simp only [Zac, kZ, kA, kB, mL, Zab] at *)); (simp (disch := omega) only [Zal]; omega)) | skip))
  show _ = (K : Int) - 1
  rw [Zal (x := (b : Int) - a) (by omega) (by omega), Zal (x := (b : Int) - a - 1) (by omega) (by omega)]
  by_cases e : a = b
  ·subst e
   have : K = 1 := by omega
   subst this
   rw [Int.sub_self]; rfl
  ·rw [Int.tdiv_eq_ediv_of_nonneg (by omega), Zal (by omega) (by omega)]
   omega
 rintro ⟨k, d⟩ ⟨hk, hd, hR⟩
 simp only at hk hd hR ⊢
 (repeat' first | refine Zad ?_ | (refine Zaa tok (by rfl) ?_; conv => whnf) | refine Zaj ?_ | (refine Zag ?_; conv => whnf) | (refine Za0 ?_; conv => whnf) | refine Zaf rfl (fun hb => ?_) (fun hb => ?_))
 ·have hk1 : 1 ≤ k := by simp only [Zac, kZ, kA, kB, mL, Zab] at *; omega
  obtain ⟨k, rfl⟩ : ∃ j, k = j + 1 := ⟨k - 1, by omega⟩
  have hcall : ∀ z : Int, z = (k : Int) → HC Tryz.prog [i0] 239 [(i0, arow n d)] [.rs i0 1 0 n, iv z, iv ((b - a : Nat) : Int), iv a] (.tup []) [(i0, arow n (siftDown ltInt (b - a) a k d))] := fun z e => e ▸ c_sift n d k (b - a) a hd (by omega) (by omega)
  refine .inr ⟨_, _, _, uG (QH.of (dead := []) [(i0, .old i0, arow n d)] (hcall _ (by simp)) rfl (.old rfl (BLe.refl _) .nil) (.cons (.eq rfl) (.cons (.eq rfl) (.cons (.eq rfl) (.cons (.eq rfl) .nil)))) [(i0, i0)] rfl (.cons rfl (BLe.refl _) .nil) rfl), ?_⟩
  conv => whnf
  (repeat' (refine Zaa tok (by rfl) ?_; conv => whnf))
  refine ⟨(k, siftDown ltInt (b - a) a k d), ⟨by simp; omega, by rw [siftDown_size _ _ _ _ _ (Nat.le_refl _)]; exact hd, hR⟩, by simp, ?_⟩
  refine Weak.list [(i0, .old i0, arow n (siftDown ltInt (b - a) a k d))] rfl (by rfl) ?_ (.old rfl (BLe.refl _) .nil)
  ((repeat' first | exact TLes.nil | refine tE rfl ?_ | refine TLes.cons (TLe.int ?_) ?_); (all_goals first | ((try (simp only [Zac, kZ, kA, kB, mL, Zab] at *)); (simp (disch := omega) only [Zal]; omega)) | skip))
 ·have hk0 : k = 0 := by simp only [Zac, kZ, kA, kB, mL, Zab] at *; omega
  subst hk0
  have hd1 : d = heapBuild ltInt (b - a) a K d0 := hR
  rw [← hd1] at hhs
  clear hR hd1
  refine Za3 (fun q : Nat × Array Int => mkS [(0, .rs i0 1 0 n), (6, iv a), (7, iv 0), (10, iv ((q.1 : Int) - 1))] [(i0, arow n q.2)])
   (fun q => q.1 ≤ b - a ∧ q.2.size = n ∧ heapPop ltInt a q.1 q.2 = heapSort ltInt d0 a b) (fun q => q.1) (b - a, d) ⟨Nat.le_refl _, hd, hhs.symm⟩ ?_ ?_
  ·refine Weak.list [(i0, .old i0, arow n d)] rfl (by rfl) ?_ (.old rfl (BLe.refl _) .nil)
   ((repeat' first | exact TLes.nil | refine tE rfl ?_ | refine TLes.cons (TLe.int ?_) ?_); (all_goals first | ((try (simp only [Zac, kZ, kA, kB, mL, Zab] at *)); exact Zal (by omega) (by omega)) | skip))
  rintro ⟨k, e⟩ ⟨hk, he, hS⟩
  simp only at hk he hS ⊢
  ((repeat' ((fail_if_success (show Rg 11)); first | refine Zad ?_ | (refine Zaa tok (by rfl) ?_; conv => whnf) | (refine Za2 tok mix (by rfl) ?_; conv => whnf) | refine Zaj ?_ | (refine Zag ?_; conv => whnf) | (refine Za0 ?_; conv => whnf) | refine Zaf rfl (fun hb => ?_) (fun hb => ?_) | (refine uA ?_ ?_; rotate_left; (conv => whnf); rotate_right))); all_goals (try ((guard_target = Zac _ _ _ _); refine Zae ?_; (all_goals (try simp only [Zac, kZ, kA, kB, mL, Zab] at *)); (all_goals (try (simp (disch := omega) only [Zal]))); all_goals omega)))
  ·have hk1 : 1 ≤ k := by simp only [Zac, kZ, kA, kB, mL, Zab] at *; omega
   obtain ⟨k, rfl⟩ : ∃ j, k = j + 1 := ⟨k - 1, by omega⟩
   refine Zaz (Weak.list (tl := [(0, .rs i0 1 0 n), (6, iv a), (7, iv 0), (10, iv k)]) [(i0, .old i0, arow n (swp e a (a + k)))] rfl (by rfl) ?_ (.old rfl (BLe.row rfl (fun x hx => ?_)) .nil)) ?_
   ·((repeat' first | exact TLes.nil | refine tE rfl ?_ | refine TLes.cons (TLe.int ?_) ?_); (all_goals first | ((try (simp only [Zac, kZ, kA, kB, mL, Zab] at *)); omega) | skip))
   ·have h2 : e[0 + (IntKind.i64.wrap ((a : Int) + (((k + 1 : Nat) : Int) - 1))).toNat]! = e[a + k]! := by simp (disch := omega) only [Zal]; exact Za9 (by omega)
    exact Zc6 (d := e) (i := a) (j := a + k) (by omega) (by omega) (by simp) (by simp (disch := omega) only [Zal]; omega) h2 (Za9 (by simp)) x
   (repeat' (refine Zaa tok (by rfl) ?_; conv => whnf))
   refine .inr ⟨_, _, _, uG (QH.of (dead := []) [(i0, .old i0, arow n (swp e a (a + k)))] (c_sift n (swp e a (a + k)) 0 k a (by rw [Zb3]; exact he) (by omega) (by omega)) rfl (.old rfl (BLe.refl _) .nil) (.cons (.eq rfl) (.cons (.eq rfl) (.cons (.eq rfl) (.cons (.eq rfl) .nil)))) [(i0, i0)] rfl (.cons rfl (BLe.refl _) .nil) rfl), ?_⟩
   conv => whnf
   (repeat' (refine Zaa tok (by rfl) ?_; conv => whnf))
   refine ⟨(k, siftDown ltInt k a 0 (swp e a (a + k))), ⟨by simp; omega, by rw [siftDown_size _ _ _ _ _ (Nat.le_refl _), Zb3]; exact he, hS⟩, by simp, ?_⟩
   refine Weak.list [(i0, .old i0, arow n (siftDown ltInt k a 0 (swp e a (a + k))))] rfl (by rfl) ?_ (.old rfl (BLe.refl _) .nil)
   ((repeat' first | exact TLes.nil | refine tE rfl ?_ | refine TLes.cons (TLe.int ?_) ?_); (all_goals first | ((try (simp only [Zac, kZ, kA, kB, mL, Zab] at *)); exact Zal (by omega) (by omega)) | skip))
  ·have hk0 : k = 0 := by simp only [Zac, kZ, kA, kB, mL, Zab] at *; omega
   subst hk0
   have : heapSort ltInt d0 a b = e := hS.symm
   rw [this]
   exact ⟨_, [(i0, .old i0, arow n e)], rfl, rfl, rfl, rfl, .old rfl (BLe.refl _) .nil, .eq rfl⟩
set_option linter.unusedSimpArgs false
abbrev crow (s : Nat) : Zau := .row true 1 1 (fun _ => [iv s])
theorem c_order2 (n : Nat) (d : Array Int) (a b s : Nat) (hn : d.size = n) (ha : a < n) (hb0 : b < n) (hs : s ≤ 1000) :
  HC Tryz.prog [i0, i1] 243 [(i0, arow n d), (i1, crow s)] [.rs i0 1 0 n, iv a, iv b, .bp i1 0] (.tup [iv (order2 ltInt d a b s).1, iv (order2 ltInt d a b s).2.1]) [(i0, arow n d), (i1, crow (order2 ltInt d a b s).2.2)] := by
 refine Zcd tok Tryz.func243 rfl (by decide +kernel) (nB rfl) ?_
 refine Zap 0 (fun hl => ?_)
 have hl0 : n ≤ 4294967296 := hl
 ((repeat' first | refine Zad ?_ | (refine Zaa tok (by rfl) ?_; conv => whnf) | (refine Za2 tok mix (by rfl) ?_; conv => whnf) | (refine uA ?_ ?_; rotate_left; (conv => whnf); rotate_right)); all_goals (try ((guard_target = Zac _ _ _ _); refine Zae ?_; (all_goals (try simp only [Zac, kZ, kA, kB, mL, Zab] at *)); all_goals omega)))
 refine .inl ⟨_, _, _, uG (QC.fc (Zdn (d := d) (i := b) (j := a) _ _ (Za9 (by simp)) (Za9 (by simp))) rfl), ?_⟩
 conv => whnf
 (repeat' first | refine Zad ?_ | (refine Zaa tok (by rfl) ?_; conv => whnf) | (refine Zag ?_; conv => whnf) | (refine Zah ?_; conv => whnf) | refine Zaf rfl (fun hb => ?_) (fun hb => ?_))
 ·have e : order2 ltInt d a b s = (b, a, s + 1) := if_pos hb
  rw [e]
  refine ⟨_, [(i0, .old i0, arow n d), (i1, .old i1, crow (s + 1))], rfl, rfl, rfl, rfl, .old rfl (BLe.refl _) (.old rfl (BLe.row rfl (fun x hx => ?_)) .nil), .eq rfl⟩
  match x, hx with
  | 0, _ =>
   show [iv (IntKind.i64.wrap ((s : Int) + 1))] = [iv ((s + 1 : Nat) : Int)]
   rw [Zal (by omega) (by omega)]; rfl
 ·have e : order2 ltInt d a b s = (a, b, s) := if_neg (by rw [hb]; simp)
  rw [e]
  exact ⟨_, [(i0, .old i0, arow n d), (i1, .old i1, crow s)], rfl, rfl, rfl, rfl, .old rfl (BLe.refl _) (.old rfl (BLe.refl _) .nil), .eq rfl⟩
theorem order2_in {n : Nat} (d : Array Int) {a b s : Nat} (ha : a < n) (hb : b < n) : (order2 ltInt d a b s).1 < n ∧ (order2 ltInt d a b s).2.1 < n ∧ (order2 ltInt d a b s).2.2 ≤ s + 1 := by
 unfold order2; split
 ·exact ⟨hb, ha, Nat.le_refl _⟩
 ·exact ⟨ha, hb, Nat.le_succ _⟩
theorem c_median (n : Nat) (d : Array Int) (a b c s : Nat) (hn : d.size = n) (ha : a < n) (hb0 : b < n) (hc0 : c < n) (hs : s ≤ 100) :
  HC Tryz.prog [i0, i1] 241 [(i0, arow n d), (i1, crow s)] [.rs i0 1 0 n, iv a, iv b, iv c, .bp i1 0] (iv (median ltInt d a b c s).1) [(i0, arow n d), (i1, crow (median ltInt d a b c s).2)] := by
 refine Zcd tok Tryz.func241 rfl (by decide +kernel) (nB rfl) ?_
 (repeat' first | refine Zad ?_ | (refine Zaa tok (by rfl) ?_; conv => whnf))
 have e : median ltInt d a b c s = ((order2 ltInt d (order2 ltInt d a b s).1 (order2 ltInt d (order2 ltInt d a b s).2.1 c (order2 ltInt d a b s).2.2).1 (order2 ltInt d (order2 ltInt d a b s).2.1 c (order2 ltInt d a b s).2.2).2.2).2.1,
  (order2 ltInt d (order2 ltInt d a b s).1 (order2 ltInt d (order2 ltInt d a b s).2.1 c (order2 ltInt d a b s).2.2).1 (order2 ltInt d (order2 ltInt d a b s).2.1 c (order2 ltInt d a b s).2.2).2.2).2.2) := rfl
 rw [e]
 have b1 := order2_in (n := n) d (s := s) ha hb0
 have c1 := c_order2 n d a b s hn ha hb0 (by omega)
 generalize order2 ltInt d a b s = r1 at b1 c1 ⊢
 have b2 := order2_in (n := n) d (s := r1.2.2) b1.2.1 hc0
 have c2 := c_order2 n d r1.2.1 c r1.2.2 hn b1.2.1 hc0 (by omega)
 generalize order2 ltInt d r1.2.1 c r1.2.2 = r2 at b2 c2 ⊢
 have c3 := c_order2 n d r1.1 r2.1 r2.2.2 hn b1.1 b2.1 (by omega)
 generalize order2 ltInt d r1.1 r2.1 r2.2.2 = r3 at c3 ⊢
 refine .inr ⟨_, _, _, uG (QH.of (dead := []) [(i0, .old i0, arow n d), (i1, .old i1, crow s)] c1 rfl (.old rfl (BLe.refl _) (.old rfl (BLe.refl _) .nil)) (.cons (.eq rfl) (.cons (.eq rfl) (.cons (.eq rfl) (.cons (.eq rfl) .nil)))) [(i0, i0), (i1, i1)] rfl (.cons rfl (BLe.refl _) (.cons rfl (BLe.refl _) .nil)) rfl), ?_⟩
 conv => whnf
 (repeat' first | refine Zad ?_ | (refine Zaa tok (by rfl) ?_; conv => whnf))
 refine .inr ⟨_, _, _, uG (QH.of (dead := []) [(i0, .old i0, arow n d), (i1, .old i1, crow r1.2.2)] c2 rfl (.old rfl (BLe.refl _) (.old rfl (BLe.refl _) .nil)) (.cons (.eq rfl) (.cons (.eq rfl) (.cons (.eq rfl) (.cons (.eq rfl) .nil)))) [(i0, i0), (i1, i1)] rfl (.cons rfl (BLe.refl _) (.cons rfl (BLe.refl _) .nil)) rfl), ?_⟩
 conv => whnf
 (repeat' first | refine Zad ?_ | (refine Zaa tok (by rfl) ?_; conv => whnf))
 refine .inr ⟨_, _, _, uG (QH.of (dead := []) [(i0, .old i0, arow n d), (i1, .old i1, crow r2.2.2)] c3 rfl (.old rfl (BLe.refl _) (.old rfl (BLe.refl _) .nil)) (.cons (.eq rfl) (.cons (.eq rfl) (.cons (.eq rfl) (.cons (.eq rfl) .nil)))) [(i0, i0), (i1, i1)] rfl (.cons rfl (BLe.refl _) (.cons rfl (BLe.refl _) .nil)) rfl), ?_⟩
 conv => whnf
 (repeat' first | refine Zad ?_ | (refine Zaa tok (by rfl) ?_; conv => whnf) | (refine Zah ?_; conv => whnf))
 exact ⟨_, [(i0, .old i0, arow n d), (i1, .old i1, crow r3.2.2)], rfl, rfl, rfl, rfl, .old rfl (BLe.refl _) (.old rfl (BLe.refl _) .nil), .eq rfl⟩
theorem median_in {n : Nat} (d : Array Int) {a b c s : Nat} (ha : a < n) (hb : b < n) (hc : c < n) : (median ltInt d a b c s).1 < n ∧ (median ltInt d a b c s).2 ≤ s + 3 := by
 have b1 := order2_in (n := n) d (s := s) ha hb
 have b2 := order2_in (n := n) d (s := (order2 ltInt d a b s).2.2) b1.2.1 hc
 have b3 := order2_in (n := n) d (s := (order2 ltInt d (order2 ltInt d a b s).2.1 c (order2 ltInt d a b s).2.2).2.2) b1.1 b2.1
 exact ⟨b3.2.1, by have := b3.2.2; have := b2.2.2; have := b1.2.2; show (order2 ltInt d _ _ _).2.2 ≤ _; omega⟩
theorem c_medAdj (n : Nat) (d : Array Int) (a s : Nat) (hn : d.size = n) (h1 : 1 ≤ a) (ha : a + 1 < n) (hs : s ≤ 100) :
  HC Tryz.prog [i0, i1] 240 [(i0, arow n d), (i1, crow s)] [.rs i0 1 0 n, iv a, .bp i1 0] (iv (medianAdjacent ltInt d a s).1) [(i0, arow n d), (i1, crow (medianAdjacent ltInt d a s).2)] := by
 refine Zcd tok Tryz.func240 rfl (by decide +kernel) (nB rfl) ?_
 refine Zap 0 (fun hl => ?_)
 have hl0 : n ≤ 4294967296 := hl
 (repeat' first | refine Zad ?_ | (refine Zaa tok (by rfl) ?_; conv => whnf))
 have hcall : ∀ x y : Int, x = ((a - 1 : Nat) : Int) → y = ((a + 1 : Nat) : Int) → HC Tryz.prog [i0, i1] 241 [(i0, arow n d), (i1, crow s)] [.rs i0 1 0 n, iv x, iv a, iv y, .bp i1 0] (iv (median ltInt d (a - 1) a (a + 1) s).1) [(i0, arow n d), (i1, crow (median ltInt d (a - 1) a (a + 1) s).2)] :=
  fun x y e1 e2 => by rw [e1, e2]; exact c_median n d (a - 1) a (a + 1) s hn (by omega) (by omega) (by omega) hs
 refine .inr ⟨_, _, _, uG (QH.of (dead := []) [(i0, .old i0, arow n d), (i1, .old i1, crow s)] (hcall _ _ (by simp (disch := omega) only [Zal]; omega) (by simp (disch := omega) only [Zal]; omega)) rfl (.old rfl (BLe.refl _) (.old rfl (BLe.refl _) .nil)) (.cons (.eq rfl) (.cons (.eq rfl) (.cons (.eq rfl) (.cons (.eq rfl) (.cons (.eq rfl) .nil))))) [(i0, i0), (i1, i1)] rfl (.cons rfl (BLe.refl _) (.cons rfl (BLe.refl _) .nil)) rfl), ?_⟩
 conv => whnf
 (repeat' (refine Zah ?_; conv => whnf))
 exact ⟨_, [(i0, .old i0, arow n d), (i1, .old i1, crow (medianAdjacent ltInt d a s).2)], rfl, rfl, rfl, rfl, .old rfl (BLe.refl _) (.old rfl (BLe.refl _) .nil), .eq rfl⟩
set_option linter.unusedSimpArgs false
def hintI : Hint → Int
 | .unknown => 0
 | .increasing => 1
 | .decreasing => 2
theorem c_choose (n : Nat) (d : Array Int) (a b : Nat) (hn : d.size = n) (ha : a < b) (hb0 : b ≤ n) :
  HC Tryz.prog [i0] 232 [(i0, arow n d)] [.rs i0 1 0 n, iv a, iv b] (.tup [iv (choosePivot ltInt d a b).1, iv (hintI (choosePivot ltInt d a b).2)]) [(i0, arow n d)] := by
 refine Zcd tok Tryz.func232 rfl (by decide +kernel) (nB rfl) ?_
 refine Zap 0 (fun hl => ?_)
 have hl0 : n ≤ 4294967296 := hl
 ((repeat' ((fail_if_success (show Rg 6)); first | refine Zad ?_ | (refine Zaa tok (by rfl) ?_; conv => whnf) | (refine uA ?_ ?_; rotate_left; (conv => whnf); rotate_right))); all_goals (try ((guard_target = Zac _ _ _ _); refine Zae ?_; all_goals omega)))
 obtain ⟨l, hl1⟩ : ∃ l, l = b - a := ⟨_, rfl⟩
 have e1 : IntKind.i64.wrap ((b : Int) - (a : Int)) = (l : Int) := by rw [Zal (by omega) (by omega)]; omega
 have e2 : ((l : Int)).tdiv 4 = ((l / 4 : Nat) : Int) := by rw [Int.tdiv_eq_ediv_of_nonneg (by omega)]; omega
 refine Zaz (Weak.list (tl := [(0, .rs i0 1 0 n), (6, iv 0), (7, iv 0), (8, iv l), (9, .bp (9, 0, 0) 0), (10, iv ((a + l / 4 * 1 : Nat) : Int)), (11, iv ((a + l / 4 * 2 : Nat) : Int)), (12, iv ((a + l / 4 * 3 : Nat) : Int))]) [(i0, .old i0, arow n d), ((9, 0, 0), .old (9, 0, 0), crow 0)] rfl (by rfl) ?_ (.old rfl (BLe.refl _) (.old rfl (BLe.refl _) .nil))) ?_
 ·((repeat' first | exact TLes.nil | refine tE rfl ?_ | refine TLes.cons (TLe.int ?_) ?_); (all_goals first | (omega) | skip))
  ·rw [e1, e2, Zal (x := ((l / 4 : Nat) : Int)) (by omega) (by omega), Zal (x := ((l / 4 : Nat) : Int) * 1) (by omega) (by omega), Zal (by omega) (by omega)]; omega
  ·rw [e1, e2, Zal (x := ((l / 4 : Nat) : Int)) (by omega) (by omega), Zal (x := ((l / 4 : Nat) : Int) * 2) (by omega) (by omega), Zal (by omega) (by omega)]; omega
  ·rw [e1, e2, Zal (x := ((l / 4 : Nat) : Int)) (by omega) (by omega), Zal (x := ((l / 4 : Nat) : Int) * 3) (by omega) (by omega), Zal (by omega) (by omega)]; omega
 obtain ⟨i, hi⟩ : ∃ i, i = a + l / 4 * 1 := ⟨_, rfl⟩
 obtain ⟨j, hj⟩ : ∃ j, j = a + l / 4 * 2 := ⟨_, rfl⟩
 obtain ⟨k, hk⟩ : ∃ k, k = a + l / 4 * 3 := ⟨_, rfl⟩
 obtain ⟨R, hR⟩ : ∃ R : Nat × Nat, R = if l ≥ 8 then (if l ≥ 50 then
   median ltInt d (medianAdjacent ltInt d i 0).1 (medianAdjacent ltInt d j (medianAdjacent ltInt d i 0).2).1 (medianAdjacent ltInt d k (medianAdjacent ltInt d j (medianAdjacent ltInt d i 0).2).2).1 (medianAdjacent ltInt d k (medianAdjacent ltInt d j (medianAdjacent ltInt d i 0).2).2).2
   else median ltInt d i j k 0) else (j, 0) := ⟨_, rfl⟩
 have hch : choosePivot ltInt d a b = (R.1, if R.2 = 0 then .increasing else if R.2 = 12 then .decreasing else .unknown) := by
  rw [hR, hi, hj, hk, hl1]; rfl
 rw [hch]
 rw [← hi, ← hj, ← hk]
 (repeat' (refine Zaa tok (by rfl) ?_; conv => whnf))
 refine Zdu (fun q : Nat × Nat => mkS [(0, .rs i0 1 0 n), (6, iv 0), (7, iv 0), (9, .bp (9, 0, 0) 0), (11, iv q.1)] [(i0, arow n d), ((9, 0, 0), crow q.2)]) (fun q => q = R) ?_ ?_
 ·(repeat' first | refine Zad ?_ | (refine Zaa tok (by rfl) ?_; conv => whnf) | (refine Zag ?_; conv => whnf) | refine Zaf rfl (fun hb => ?_) (fun hb => ?_))
  ·have h50 : 50 ≤ l := by simp only [Zac, kZ, kA, kB, mL, Zab] at *; omega
   have m1 := median_in (n := n) d (a := i - 1) (b := i) (c := i + 1) (s := 0) (by omega) (by omega) (by omega)
   have c1 := c_medAdj n d i 0 hn (by omega) (by omega) (by omega)
   rw [if_pos (by omega), if_pos h50] at hR
   change _ ∧ (medianAdjacent ltInt d i 0).2 ≤ _ at m1
   change (medianAdjacent ltInt d i 0).1 < _ ∧ _ at m1
   generalize medianAdjacent ltInt d i 0 = r1 at m1 c1 hR
   have m2 := median_in (n := n) d (a := j - 1) (b := j) (c := j + 1) (s := r1.2) (by omega) (by omega) (by omega)
   have c2 := c_medAdj n d j r1.2 hn (by omega) (by omega) (by omega)
   change (medianAdjacent ltInt d j r1.2).1 < _ ∧ (medianAdjacent ltInt d j r1.2).2 ≤ _ at m2
   generalize medianAdjacent ltInt d j r1.2 = r2 at m2 c2 hR
   have m3 := median_in (n := n) d (a := k - 1) (b := k) (c := k + 1) (s := r2.2) (by omega) (by omega) (by omega)
   have c3 := c_medAdj n d k r2.2 hn (by omega) (by omega) (by omega)
   change (medianAdjacent ltInt d k r2.2).1 < _ ∧ (medianAdjacent ltInt d k r2.2).2 ≤ _ at m3
   generalize medianAdjacent ltInt d k r2.2 = r3 at m3 c3 hR
   have c4 := c_median n d r1.1 r2.1 r3.1 r3.2 hn m1.1 m2.1 m3.1 (by omega)
   rw [← hR] at c4
   refine .inr ⟨_, _, _, uG (QH.of (dead := []) [(i0, .old i0, arow n d), (i1, .old (9, 0, 0), crow 0)] (c1) rfl (.old rfl (BLe.refl _) (.old rfl (BLe.refl _) .nil)) (.cons (.eq rfl) (.cons (.eq rfl) (.cons (.eq rfl) .nil))) [(i0, i0), (i1, (9, 0, 0))] rfl (.cons rfl (BLe.refl _) (.cons rfl (BLe.refl _) .nil)) rfl), ?_⟩
   conv => whnf
   (repeat' first | refine Zad ?_ | (refine Zaa tok (by rfl) ?_; conv => whnf))
   refine .inr ⟨_, _, _, uG (QH.of (dead := []) [(i0, .old i0, arow n d), (i1, .old (9, 0, 0), crow r1.2)] (c2) rfl (.old rfl (BLe.refl _) (.old rfl (BLe.refl _) .nil)) (.cons (.eq rfl) (.cons (.eq rfl) (.cons (.eq rfl) .nil))) [(i0, i0), (i1, (9, 0, 0))] rfl (.cons rfl (BLe.refl _) (.cons rfl (BLe.refl _) .nil)) rfl), ?_⟩
   conv => whnf
   (repeat' (refine Zaa tok (by rfl) ?_; conv => whnf))
   refine .inr ⟨_, _, _, uG (QH.of (dead := []) [(i0, .old i0, arow n d), (i1, .old (9, 0, 0), crow r2.2)] (c3) rfl (.old rfl (BLe.refl _) (.old rfl (BLe.refl _) .nil)) (.cons (.eq rfl) (.cons (.eq rfl) (.cons (.eq rfl) .nil))) [(i0, i0), (i1, (9, 0, 0))] rfl (.cons rfl (BLe.refl _) (.cons rfl (BLe.refl _) .nil)) rfl), ?_⟩
   conv => whnf
   (repeat' (refine Zaa tok (by rfl) ?_; conv => whnf))
   refine .inr ⟨_, _, _, uG (QH.of (dead := []) [(i0, .old i0, arow n d), (i1, .old (9, 0, 0), crow r3.2)] (c4) rfl (.old rfl (BLe.refl _) (.old rfl (BLe.refl _) .nil)) (.cons (.eq rfl) (.cons (.eq rfl) (.cons (.eq rfl) (.cons (.eq rfl) (.cons (.eq rfl) .nil))))) [(i0, i0), (i1, (9, 0, 0))] rfl (.cons rfl (BLe.refl _) (.cons rfl (BLe.refl _) .nil)) rfl), ?_⟩
   conv => whnf
   skip
   refine ⟨R, rfl, Weak.list [(i0, .old i0, arow n d), ((9, 0, 0), .old (9, 0, 0), crow R.2)] rfl (by rfl) ?_ (.old rfl (BLe.refl _) (.old rfl (BLe.refl _) .nil))⟩
   ((repeat' first | exact TLes.nil | refine tE rfl ?_); skip)
  ·have h8 : 8 ≤ l ∧ l < 50 := by simp only [Zac, kZ, kA, kB, mL, Zab] at *; omega
   have c4 := c_median n d i j k 0 hn (by omega) (by omega) (by omega) (by omega)
   rw [if_pos (by omega), if_neg (by omega)] at hR
   rw [← hR] at c4
   refine .inr ⟨_, _, _, uG (QH.of (dead := []) [(i0, .old i0, arow n d), (i1, .old (9, 0, 0), crow 0)] (c4) rfl (.old rfl (BLe.refl _) (.old rfl (BLe.refl _) .nil)) (.cons (.eq rfl) (.cons (.eq rfl) (.cons (.eq rfl) (.cons (.eq rfl) (.cons (.eq rfl) .nil))))) [(i0, i0), (i1, (9, 0, 0))] rfl (.cons rfl (BLe.refl _) (.cons rfl (BLe.refl _) .nil)) rfl), ?_⟩
   conv => whnf
   skip
   refine ⟨R, rfl, Weak.list [(i0, .old i0, arow n d), ((9, 0, 0), .old (9, 0, 0), crow R.2)] rfl (by rfl) ?_ (.old rfl (BLe.refl _) (.old rfl (BLe.refl _) .nil))⟩
   ((repeat' first | exact TLes.nil | refine tE rfl ?_); skip)
  ·rw [if_neg (by simp only [Zac, kZ, kA, kB, mL, Zab] at *; omega)] at hR
   refine ⟨R, rfl, Weak.list [(i0, .old i0, arow n d), ((9, 0, 0), .old (9, 0, 0), crow R.2)] rfl (by rfl) ?_ ?_⟩
   ·rw [hR]; ((repeat' first | exact TLes.nil | refine tE rfl ?_); skip)
   ·rw [hR]; exact (.old rfl (BLe.refl _) (.old rfl (BLe.refl _) .nil))
 rintro q hq τ hτ
 subst hq
 refine Zaz hτ ?_
 conv => whnf
 (repeat' first | refine Zad ?_ | (refine Zaa tok (by rfl) ?_; conv => whnf) | refine Zaj ?_ | (refine Zah ?_; conv => whnf) | refine Zaf rfl (fun hb => ?_) (fun hb => ?_))
 ·have h0 : q.2 = 0 := by simp only [Zac, kZ, kA, kB, mL, Zab] at *; omega
  rw [if_pos h0]
  exact ⟨_, [(i0, .old i0, arow n d)], rfl, rfl, rfl, rfl, .old rfl (BLe.refl _) .nil, .eq rfl⟩
 ·rename_i hb0
  have h0 : ¬ q.2 = 0 := by simp only [Zac, kZ, kA, kB, mL, Zab] at *; omega
  have h1 : q.2 = 12 := by simp only [Zac, kZ, kA, kB, mL, Zab] at *; omega
  rw [if_neg h0, if_pos h1]
  exact ⟨_, [(i0, .old i0, arow n d)], rfl, rfl, rfl, rfl, .old rfl (BLe.refl _) .nil, .eq rfl⟩
 ·rename_i hb0
  have h0 : ¬ q.2 = 0 := by simp only [Zac, kZ, kA, kB, mL, Zab] at *; omega
  have h1 : ¬ q.2 = 12 := by simp only [Zac, kZ, kA, kB, mL, Zab] at *; omega
  rw [if_neg h0, if_neg h1]
  exact ⟨_, [(i0, .old i0, arow n d)], rfl, rfl, rfl, rfl, .old rfl (BLe.refl _) .nil, .eq rfl⟩
set_option linter.unusedSimpArgs false
theorem c_part (n : Nat) (d0 : Array Int) (a b pivot : Nat) (hn : d0.size = n) (hp1 : a ≤ pivot) (hp2 : pivot < b) (hb0 : b ≤ n) :
  HC Tryz.prog [i0] 237 [(i0, arow n d0)] [.rs i0 1 0 n, iv a, iv b, iv pivot] (.tup [iv (partition ltInt d0 a b pivot).1, .bool (partition ltInt d0 a b pivot).2.1]) [(i0, arow n (partition ltInt d0 a b pivot).2.2)] := by
 refine Zcd tok Tryz.func237 rfl (by decide +kernel) (nB rfl) ?_
 refine Zap 0 (fun hl => ?_)
 have hl0 : n ≤ 4294967296 := hl
 obtain ⟨d, hd1⟩ : ∃ d, d = swp d0 a pivot := ⟨_, rfl⟩
 have hd : d.size = n := by rw [hd1, Zb3]; exact hn
 have hpart : partition ltInt d0 a b pivot = (let i := scanUp (fun x => ltInt x d[a]!) d (b - 1) (a + 1); let j := scanDown (fun x => !ltInt x d[a]!) d i (b - 1);
   if i > j then (j, true, swp d j a) else (let r := partLoop ltInt a (i + 1) (j - 1) (swp d i j); (r.1, false, swp r.2 r.1 a))) := by rw [hd1]; rfl
 obtain ⟨R, hR⟩ : ∃ R, R = partition ltInt d0 a b pivot := ⟨_, rfl⟩
 rw [← hR]; rw [hpart] at hR; clear hpart
 ((repeat' ((fail_if_success (show Rg 2)); first | refine Zad ?_ | (refine Zaa tok (by rfl) ?_; conv => whnf) | (refine Za2 tok mix (by rfl) ?_; conv => whnf) | (refine uA ?_ ?_; rotate_left; (conv => whnf); rotate_right))); all_goals (try ((guard_target = Zac _ _ _ _); refine Zae ?_; (all_goals (try simp only [Zac, kZ, kA, kB, mL, Zab] at *)); all_goals omega)))
 refine Zaz (Weak.list (tl := [(0, .rs i0 1 0 n), (1, iv a), (2, iv b), (8, iv 0), (9, .bool false)]) [(i0, .old i0, arow n d)] rfl (by rfl) ?_ (.old rfl (BLe.row rfl (fun x hx => ?_)) .nil)) ?_
 ·((repeat' first | exact TLes.nil | refine tE rfl ?_); skip)
 ·rw [hd1]; exact Zc6 (d := d0) (i := a) (j := pivot) (by omega) (by omega) (by simp) (by simp) (Za9 (by simp)) (Za9 (by simp)) x
 (repeat' first | refine Zad ?_ | (refine Zaa tok (by rfl) ?_; conv => whnf) | refine Zaj ?_)
 refine Za3 (fun i : Nat => mkS [(0, .rs i0 1 0 n), (1, iv a), (8, iv 0), (9, .bool false), (10, iv i), (11, iv (b - 1))] [(i0, arow n d)])
  (fun i => (a + 1) ≤ i ∧ i ≤ (b - 1) + 2 ∧ scanUp (fun x => ltInt x d[a]!) d (b - 1) i = scanUp (fun x => ltInt x d[a]!) d (b - 1) (a + 1)) (fun i => (b - 1) + 2 - i) ((a + 1)) ⟨Nat.le_refl _, by omega, rfl⟩ ?_ ?_
 ·refine Weak.list [(i0, .old i0, arow n d)] rfl (by rfl) ?_ (.old rfl (BLe.refl _) .nil)
  ((repeat' first | exact TLes.nil | refine tE rfl ?_ | refine TLes.cons (TLe.int ?_) ?_); (all_goals first | ((try (simp only [Zac, kZ, kA, kB, mL, Zab] at *)); exact Zal (by omega) (by omega)) | skip))
 rintro i ⟨hiu, hiu2, hU⟩
 ((repeat' first | refine Zad ?_ | (refine Za2 tok mix (by rfl) ?_; conv => whnf) | (refine uA ?_ ?_; rotate_left; (conv => whnf); rotate_right)); all_goals (try ((guard_target = Zac _ _ _ _); ((refine Za7 ?_; intro hgd; (conv at hgd => whnf))); (all_goals (try simp only [Zac, kZ, kA, kB, mL, Zab] at *)); all_goals omega)))
 ·refine .inl ⟨_, _, _, uG (QC.fc (Zdn (d := d) (i := i) (j := a) _ _ (Za9 (by simp)) (Za9 (by simp))) rfl), ?_⟩
  conv => whnf
  (repeat' first | refine Zad ?_ | (refine Zaa tok (by rfl) ?_; conv => whnf) | refine Zaj ?_ | (refine Zag ?_; conv => whnf) | (refine Za0 ?_; conv => whnf) | refine Zaf rfl (fun hb => ?_) (fun hb => ?_))
  ·have hc : i ≤ (b - 1) ∧ ltInt d[i]! d[a]! = true := by
    by_cases h1 : i ≤ (b - 1)
    ·refine ⟨h1, ?_⟩
     rw [decide_eq_true (by omega)] at hb; exact hb
    ·rw [decide_eq_false (by omega)] at hb; cases hb
   refine ⟨i + 1, ⟨by omega, by omega, ?_⟩, by omega, ?_⟩
   ·rw [← hU]; conv => rhs; unfold scanUp
    rw [if_pos (by rw [Bool.and_eq_true]; exact ⟨by simpa using hc.1, hc.2⟩)]
   refine Weak.list [(i0, .old i0, arow n d)] rfl (by rfl) ?_ (.old rfl (BLe.refl _) .nil)
   ((repeat' first | exact TLes.nil | refine tE rfl ?_ | refine TLes.cons (TLe.int ?_) ?_); (all_goals first | ((try (simp only [Zac, kZ, kA, kB, mL, Zab] at *)); exact Zal (by omega) (by omega)) | skip))
  have hcU : ¬ (i ≤ (b - 1) ∧ ltInt d[i]! d[a]! = true) := by
   rintro ⟨h1, h2⟩
   rw [decide_eq_true (by omega), h2] at hb; cases hb
  have hU2 : scanUp (fun x => ltInt x d[a]!) d (b - 1) (a + 1) = i := by
   rw [← hU]; unfold scanUp; rw [if_neg (by rw [Bool.and_eq_true]; intro h; exact hcU ⟨by simpa using h.1, h.2⟩)]
  clear hb hU
  refine Za3 (fun j : Nat => mkS [(0, .rs i0 1 0 n), (1, iv a), (8, iv 0), (9, .bool false), (10, iv i), (11, iv j)] [(i0, arow n d)])
   (fun j => j ≤ (b - 1) ∧ i ≤ j + 2 ∧ scanDown (fun x => !ltInt x d[a]!) d i j = scanDown (fun x => !ltInt x d[a]!) d i (b - 1)) (fun j => j) ((b - 1)) ⟨Nat.le_refl _, by omega, rfl⟩ ?_ ?_
  ·refine Weak.list [(i0, .old i0, arow n d)] rfl (by rfl) ?_ (.old rfl (BLe.refl _) .nil)
   ((repeat' first | exact TLes.nil | refine tE rfl ?_ | refine TLes.cons (TLe.int ?_) ?_); (all_goals first | ((try (simp only [Zac, kZ, kA, kB, mL, Zab] at *)); omega) | skip))
  rintro j ⟨hjd, hjd2, hD⟩
  ((repeat' first | refine Zad ?_ | (refine Za2 tok mix (by rfl) ?_; conv => whnf) | (refine uA ?_ ?_; rotate_left; (conv => whnf); rotate_right)); all_goals (try ((guard_target = Zac _ _ _ _); ((refine Za7 ?_; intro hgd; (conv at hgd => whnf))); (all_goals (try simp only [Zac, kZ, kA, kB, mL, Zab] at *)); all_goals omega)))
  ·refine .inl ⟨_, _, _, uG (QC.fc (Zdn (d := d) (i := j) (j := a) _ _ (Za9 (by simp)) (Za9 (by simp))) rfl), ?_⟩
   conv => whnf
   ((repeat' first | refine Zad ?_ | (refine Zaa tok (by rfl) ?_; conv => whnf) | (refine Za2 tok mix (by rfl) ?_; conv => whnf) | refine Zaj ?_ | (refine Zag ?_; conv => whnf) | (refine Za0 ?_; conv => whnf) | (refine Zah ?_; conv => whnf) | refine Zaf rfl (fun hb => ?_) (fun hb => ?_) | (refine uA ?_ ?_; rotate_left; (conv => whnf); rotate_right)); all_goals (try ((guard_target = Zac _ _ _ _); refine Zae ?_; (all_goals (try simp only [Zac, kZ, kA, kB, mL, Zab] at *)); all_goals omega)))
   ·have hc : i ≤ j ∧ (!ltInt d[j]! d[a]!) = true := by
     by_cases h1 : i ≤ j
     ·refine ⟨h1, ?_⟩
      rw [decide_eq_true (by omega)] at hb; exact hb
     ·rw [decide_eq_false (by omega)] at hb; cases hb
    refine ⟨j - 1, ⟨by omega, by omega, ?_⟩, by omega, ?_⟩
    ·rw [← hD]
     obtain ⟨j, rfl⟩ : ∃ k, j = k + 1 := ⟨j - 1, by omega⟩
     conv => rhs; unfold scanDown
     rw [if_pos (by rw [Bool.and_eq_true]; exact ⟨by simpa using hc.1, hc.2⟩)]; rfl
    refine Weak.list [(i0, .old i0, arow n d)] rfl (by rfl) ?_ (.old rfl (BLe.refl _) .nil)
    ((repeat' first | exact TLes.nil | refine tE rfl ?_ | refine TLes.cons (TLe.int ?_) ?_); (all_goals first | ((try (simp only [Zac, kZ, kA, kB, mL, Zab] at *)); (simp (disch := omega) only [Zal]; omega)) | skip))
   all_goals
    have hcD : ¬ (i ≤ j ∧ (!ltInt d[j]! d[a]!) = true) := by
     rintro ⟨h1, h2⟩
     have hb2 := hb
     first | (rw [decide_eq_true (by omega), h2] at hb2; cases hb2; done) | (rename_i hb3 _; rw [decide_eq_true (by omega), h2] at hb3; cases hb3; done) | (rename_i hb3; rw [decide_eq_true (by omega), h2] at hb3; cases hb3; done)
    have hD2 : scanDown (fun x => !ltInt x d[a]!) d i (b - 1) = j := by
     rw [← hD]
     cases j with
     | zero => rfl
     | succ j => unfold scanDown; rw [if_neg (by rw [Bool.and_eq_true]; intro h; exact hcD ⟨by simpa using h.1, h.2⟩)]
   ·have hij : j < i := by simp only [Zac, kZ, kA, kB, mL, Zab] at *; omega
    have hRes : R = (j, true, swp d j a) := by rw [hR]; simp only [hU2, hD2]; rw [if_pos hij]
    rw [hRes]
    exact ⟨_, [(i0, .old i0, arow n (swp d j a))], rfl, rfl, rfl, rfl, .old rfl (BLe.row rfl (fun x hx => Zc6 (d := d) (i := j) (j := a) (by omega) (by omega) (by simp) (by simp) (Za9 (by simp)) (Za9 (by simp)) x)) .nil, .eq rfl⟩
   ·have hij : i ≤ j := by simp only [Zac, kZ, kA, kB, mL, Zab] at *; omega
    obtain ⟨RL, hRL⟩ : ∃ RL, RL = partLoop ltInt a (i + 1) (j - 1) (swp d i j) := ⟨_, rfl⟩
    have hR2 : R = (RL.1, false, swp RL.2 RL.1 a) := by rw [hR]; simp only [hU2, hD2]; rw [if_neg (by omega), ← hRL]
    refine Za3 (fun q : (Nat × Nat) × Array Int => mkS [(0, .rs i0 1 0 n), (1, iv a), (8, iv 0), (9, .bool false), (10, iv q.1.1), (11, iv q.1.2)] [(i0, arow n q.2)])
     (fun q => a + 1 ≤ q.1.1 ∧ q.1.1 ≤ q.1.2 + 2 ∧ q.1.2 ≤ b - 1 ∧ q.2.size = n ∧ partLoop ltInt a q.1.1 q.1.2 q.2 = RL) (fun q => q.1.2 + 2 - q.1.1) ((i + 1, j - 1), swp d i j) ⟨by simp; omega, by simp; omega, by simp; omega, by rw [Zb3]; exact hd, hRL.symm⟩ ?_ ?_
    ·refine Weak.list [(i0, .old i0, arow n (swp d i j))] rfl (by rfl) ?_ (.old rfl (BLe.row rfl (fun x hx => Zc6 (d := d) (i := i) (j := j) (by omega) (by omega) (by simp) (by simp) (Za9 (by simp)) (Za9 (by simp)) x)) .nil)
     ((repeat' first | exact TLes.nil | refine tE rfl ?_ | refine TLes.cons (TLe.int ?_) ?_); (all_goals first | ((try (simp only [Zac, kZ, kA, kB, mL, Zab] at *)); first | exact Zal (by omega) (by omega) | (simp (disch := omega) only [Zal]; omega)) | skip))
    rintro ⟨⟨u, v⟩, d⟩ ⟨hu1, hu2, hv1, hd, hRL⟩
    simp only at hu1 hu2 hv1 hd hRL ⊢
    (repeat' first | refine Zad ?_ | refine Zaj ?_)
    refine Za3 (fun i : Nat => mkS [(0, .rs i0 1 0 n), (1, iv a), (8, iv 0), (9, .bool false), (10, iv i), (11, iv v)] [(i0, arow n d)])
     (fun i => u ≤ i ∧ i ≤ v + 2 ∧ scanUp (fun x => ltInt x d[a]!) d v i = scanUp (fun x => ltInt x d[a]!) d v u) (fun i => v + 2 - i) (u) ⟨Nat.le_refl _, by omega, rfl⟩ ?_ ?_
    ·refine Weak.list [(i0, .old i0, arow n d)] rfl (by rfl) ?_ (.old rfl (BLe.refl _) .nil)
     ((repeat' first | exact TLes.nil | refine tE rfl ?_); skip)
    rintro i ⟨hiu, hiu2, hU⟩
    ((repeat' first | refine Zad ?_ | (refine Za2 tok mix (by rfl) ?_; conv => whnf) | (refine uA ?_ ?_; rotate_left; (conv => whnf); rotate_right)); all_goals (try ((guard_target = Zac _ _ _ _); ((refine Za7 ?_; intro hgd; (conv at hgd => whnf))); (all_goals (try simp only [Zac, kZ, kA, kB, mL, Zab] at *)); all_goals omega)))
    ·refine .inl ⟨_, _, _, uG (QC.fc (Zdn (d := d) (i := i) (j := a) _ _ (Za9 (by simp)) (Za9 (by simp))) rfl), ?_⟩
     conv => whnf
     (repeat' first | refine Zad ?_ | (refine Zaa tok (by rfl) ?_; conv => whnf) | refine Zaj ?_ | (refine Zag ?_; conv => whnf) | (refine Za0 ?_; conv => whnf) | refine Zaf rfl (fun hb => ?_) (fun hb => ?_))
     ·have hc : i ≤ v ∧ ltInt d[i]! d[a]! = true := by
       by_cases h1 : i ≤ v
       ·refine ⟨h1, ?_⟩
        rw [decide_eq_true (by omega)] at hb; exact hb
       ·rw [decide_eq_false (by omega)] at hb; cases hb
      refine ⟨i + 1, ⟨by omega, by omega, ?_⟩, by omega, ?_⟩
      ·rw [← hU]; conv => rhs; unfold scanUp
       rw [if_pos (by rw [Bool.and_eq_true]; exact ⟨by simpa using hc.1, hc.2⟩)]
      refine Weak.list [(i0, .old i0, arow n d)] rfl (by rfl) ?_ (.old rfl (BLe.refl _) .nil)
      ((repeat' first | exact TLes.nil | refine tE rfl ?_ | refine TLes.cons (TLe.int ?_) ?_); (all_goals first | ((try (simp only [Zac, kZ, kA, kB, mL, Zab] at *)); exact Zal (by omega) (by omega)) | skip))
     have hcU : ¬ (i ≤ v ∧ ltInt d[i]! d[a]! = true) := by
      rintro ⟨h1, h2⟩
      rw [decide_eq_true (by omega), h2] at hb; cases hb
     have hU2 : scanUp (fun x => ltInt x d[a]!) d v u = i := by
      rw [← hU]; unfold scanUp; rw [if_neg (by rw [Bool.and_eq_true]; intro h; exact hcU ⟨by simpa using h.1, h.2⟩)]
     clear hb hU
     refine Za3 (fun j : Nat => mkS [(0, .rs i0 1 0 n), (1, iv a), (8, iv 0), (9, .bool false), (10, iv i), (11, iv j)] [(i0, arow n d)])
      (fun j => j ≤ v ∧ i ≤ j + 2 ∧ scanDown (fun x => !ltInt x d[a]!) d i j = scanDown (fun x => !ltInt x d[a]!) d i v) (fun j => j) (v) ⟨Nat.le_refl _, by omega, rfl⟩ ?_ ?_
     ·refine Weak.list [(i0, .old i0, arow n d)] rfl (by rfl) ?_ (.old rfl (BLe.refl _) .nil)
      ((repeat' first | exact TLes.nil | refine tE rfl ?_); skip)
     rintro j ⟨hjd, hjd2, hD⟩
     ((repeat' first | refine Zad ?_ | (refine Za2 tok mix (by rfl) ?_; conv => whnf) | (refine uA ?_ ?_; rotate_left; (conv => whnf); rotate_right)); all_goals (try ((guard_target = Zac _ _ _ _); ((refine Za7 ?_; intro hgd; (conv at hgd => whnf))); (all_goals (try simp only [Zac, kZ, kA, kB, mL, Zab] at *)); all_goals omega)))
     ·refine .inl ⟨_, _, _, uG (QC.fc (Zdn (d := d) (i := j) (j := a) _ _ (Za9 (by simp)) (Za9 (by simp))) rfl), ?_⟩
      conv => whnf
      ((repeat' first | refine Zad ?_ | (refine Zaa tok (by rfl) ?_; conv => whnf) | (refine Za2 tok mix (by rfl) ?_; conv => whnf) | refine Zaj ?_ | (refine Zag ?_; conv => whnf) | (refine Za0 ?_; conv => whnf) | (refine Zah ?_; conv => whnf) | refine Zaf rfl (fun hb => ?_) (fun hb => ?_) | (refine uA ?_ ?_; rotate_left; (conv => whnf); rotate_right)); all_goals (try ((guard_target = Zac _ _ _ _); refine Zae ?_; (all_goals (try simp only [Zac, kZ, kA, kB, mL, Zab] at *)); all_goals omega)))
      ·have hc : i ≤ j ∧ (!ltInt d[j]! d[a]!) = true := by
        by_cases h1 : i ≤ j
        ·refine ⟨h1, ?_⟩
         rw [decide_eq_true (by omega)] at hb; exact hb
        ·rw [decide_eq_false (by omega)] at hb; cases hb
       refine ⟨j - 1, ⟨by omega, by omega, ?_⟩, by omega, ?_⟩
       ·rw [← hD]
        obtain ⟨j, rfl⟩ : ∃ k, j = k + 1 := ⟨j - 1, by omega⟩
        conv => rhs; unfold scanDown
        rw [if_pos (by rw [Bool.and_eq_true]; exact ⟨by simpa using hc.1, hc.2⟩)]; rfl
       refine Weak.list [(i0, .old i0, arow n d)] rfl (by rfl) ?_ (.old rfl (BLe.refl _) .nil)
       ((repeat' first | exact TLes.nil | refine tE rfl ?_ | refine TLes.cons (TLe.int ?_) ?_); (all_goals first | ((try (simp only [Zac, kZ, kA, kB, mL, Zab] at *)); (simp (disch := omega) only [Zal]; omega)) | skip))
      all_goals
       have hcD : ¬ (i ≤ j ∧ (!ltInt d[j]! d[a]!) = true) := by
        rintro ⟨h1, h2⟩
        have hb2 := hb
        first | (rw [decide_eq_true (by omega), h2] at hb2; cases hb2; done) | (rename_i hb3 _; rw [decide_eq_true (by omega), h2] at hb3; cases hb3; done) | (rename_i hb3; rw [decide_eq_true (by omega), h2] at hb3; cases hb3; done)
       have hD2 : scanDown (fun x => !ltInt x d[a]!) d i v = j := by
        rw [← hD]
        cases j with
        | zero => rfl
        | succ j => unfold scanDown; rw [if_neg (by rw [Bool.and_eq_true]; intro h; exact hcD ⟨by simpa using h.1, h.2⟩)]
      ·have hij : j < i := by simp only [Zac, kZ, kA, kB, mL, Zab] at *; omega
       have hlp : partLoop ltInt a u v d = (j, d) := by
        unfold partLoop; rw [hU2]; (try simp only []); rw [hD2]; (try simp only []); rw [if_pos hij]
       have hRes : R = (j, false, swp d j a) := by rw [hR2, ← hRL, hlp]
       rw [hRes]
       exact ⟨_, [(i0, .old i0, arow n (swp d j a))], rfl, rfl, rfl, rfl, .old rfl (BLe.row rfl (fun x hx => Zc6 (d := d) (i := j) (j := a) (by omega) (by omega) (by simp) (by simp) (Za9 (by simp)) (Za9 (by simp)) x)) .nil, .eq rfl⟩
      ·have hij : i ≤ j := by simp only [Zac, kZ, kA, kB, mL, Zab] at *; omega
       refine ⟨((i + 1, j - 1), swp d i j), ⟨by simp; omega, by simp; omega, by simp; omega, by rw [Zb3]; exact hd, ?_⟩, by simp; omega, ?_⟩
       ·rw [← hRL]; conv => rhs; unfold partLoop
        rw [hU2]; (try simp only []); rw [hD2]; (try simp only [])
        rw [if_neg (by omega), dif_pos (by omega)]
       refine Weak.list [(i0, .old i0, arow n (swp d i j))] rfl (by rfl) ?_ (.old rfl (BLe.row rfl (fun x hx => Zc6 (d := d) (i := i) (j := j) (by omega) (by omega) (by simp) (by simp) (Za9 (by simp)) (Za9 (by simp)) x)) .nil)
       ((repeat' first | exact TLes.nil | refine tE rfl ?_ | refine TLes.cons (TLe.int ?_) ?_); (all_goals first | ((try (simp only [Zac, kZ, kA, kB, mL, Zab] at *)); first | exact Zal (by omega) (by omega) | (simp (disch := omega) only [Zal]; omega)) | skip))
set_option linter.unusedSimpArgs false
theorem c_partEq (n : Nat) (d0 : Array Int) (a b pivot : Nat) (hn : d0.size = n) (hp1 : a ≤ pivot) (hp2 : pivot < b) (hb0 : b ≤ n) :
  HC Tryz.prog [i0] 236 [(i0, arow n d0)] [.rs i0 1 0 n, iv a, iv b, iv pivot] (iv (partitionEqual ltInt d0 a b pivot).1) [(i0, arow n (partitionEqual ltInt d0 a b pivot).2)] := by
 refine Zcd tok Tryz.func236 rfl (by decide +kernel) (nB rfl) ?_
 refine Zap 0 (fun hl => ?_)
 have hl0 : n ≤ 4294967296 := hl
 obtain ⟨d, hd1⟩ : ∃ d, d = swp d0 a pivot := ⟨_, rfl⟩
 have hd : d.size = n := by rw [hd1, Zb3]; exact hn
 obtain ⟨RL, hRL⟩ : ∃ RL, RL = partEqLoop ltInt a (a + 1) (b - 1) d := ⟨_, rfl⟩
 have hpart : partitionEqual ltInt d0 a b pivot = RL := by rw [hRL, hd1]; rfl
 rw [hpart]; clear hpart
 ((repeat' ((fail_if_success (show Rg 2)); first | refine Zad ?_ | (refine Zaa tok (by rfl) ?_; conv => whnf) | (refine Za2 tok mix (by rfl) ?_; conv => whnf) | (refine uA ?_ ?_; rotate_left; (conv => whnf); rotate_right))); all_goals (try ((guard_target = Zac _ _ _ _); refine Zae ?_; (all_goals (try simp only [Zac, kZ, kA, kB, mL, Zab] at *)); all_goals omega)))
 refine Zaz (Weak.list (tl := [(0, .rs i0 1 0 n), (1, iv a), (2, iv b), (8, iv 0)]) [(i0, .old i0, arow n d)] rfl (by rfl) ?_ (.old rfl (BLe.row rfl (fun x hx => ?_)) .nil)) ?_
 ·((repeat' first | exact TLes.nil | refine tE rfl ?_); skip)
 ·rw [hd1]; exact Zc6 (d := d0) (i := a) (j := pivot) (by omega) (by omega) (by simp) (by simp) (Za9 (by simp)) (Za9 (by simp)) x
 (repeat' first | refine Zad ?_ | (refine Zaa tok (by rfl) ?_; conv => whnf) | refine Zaj ?_)
 refine Za3 (fun q : (Nat × Nat) × Array Int => mkS [(0, .rs i0 1 0 n), (1, iv a), (8, iv 0), (9, iv q.1.1), (10, iv q.1.2)] [(i0, arow n q.2)])
  (fun q => a + 1 ≤ q.1.1 ∧ q.1.1 ≤ q.1.2 + 2 ∧ q.1.2 ≤ b - 1 ∧ q.2.size = n ∧ partEqLoop ltInt a q.1.1 q.1.2 q.2 = RL) (fun q => q.1.2 + 2 - q.1.1) ((a + 1, b - 1), d) ⟨by simp, by simp; omega, by simp, hd, hRL.symm⟩ ?_ ?_
 ·refine Weak.list [(i0, .old i0, arow n d)] rfl (by rfl) ?_ (.old rfl (BLe.refl _) .nil)
  ((repeat' first | exact TLes.nil | refine tE rfl ?_ | refine TLes.cons (TLe.int ?_) ?_); (all_goals first | ((try (simp only [Zac, kZ, kA, kB, mL, Zab] at *)); first | exact Zal (by omega) (by omega) | (simp (disch := omega) only [Zal]; omega)) | skip))
 clear hRL hd hd1
 rintro ⟨⟨u, v⟩, d⟩ ⟨hu1, hu2, hv1, hd, hRL⟩
 simp only at hu1 hu2 hv1 hd hRL ⊢
 (repeat' first | refine Zad ?_ | refine Zaj ?_)
 refine Za3 (fun i : Nat => mkS [(0, .rs i0 1 0 n), (1, iv a), (8, iv 0), (9, iv i), (10, iv v)] [(i0, arow n d)])
  (fun i => u ≤ i ∧ i ≤ v + 2 ∧ scanUp (fun x => !ltInt d[a]! x) d v i = scanUp (fun x => !ltInt d[a]! x) d v u) (fun i => v + 2 - i) (u) ⟨Nat.le_refl _, by omega, rfl⟩ ?_ ?_
 ·refine Weak.list [(i0, .old i0, arow n d)] rfl (by rfl) ?_ (.old rfl (BLe.refl _) .nil)
  ((repeat' first | exact TLes.nil | refine tE rfl ?_); skip)
 rintro i ⟨hiu, hiu2, hU⟩
 ((repeat' first | refine Zad ?_ | (refine Za2 tok mix (by rfl) ?_; conv => whnf) | (refine uA ?_ ?_; rotate_left; (conv => whnf); rotate_right)); all_goals (try ((guard_target = Zac _ _ _ _); ((refine Za7 ?_; intro hgd; (conv at hgd => whnf))); (all_goals (try simp only [Zac, kZ, kA, kB, mL, Zab] at *)); all_goals omega)))
 ·refine .inl ⟨_, _, _, uG (QC.fc (Zdn (d := d) (i := a) (j := i) _ _ (Za9 (by simp)) (Za9 (by simp))) rfl), ?_⟩
  conv => whnf
  (repeat' first | refine Zad ?_ | (refine Zaa tok (by rfl) ?_; conv => whnf) | refine Zaj ?_ | (refine Zag ?_; conv => whnf) | (refine Za0 ?_; conv => whnf) | refine Zaf rfl (fun hb => ?_) (fun hb => ?_))
  ·have hc : i ≤ v ∧ (!ltInt d[a]! d[i]!) = true := by
    by_cases h1 : i ≤ v
    ·refine ⟨h1, ?_⟩
     rw [decide_eq_true (by omega)] at hb; exact hb
    ·rw [decide_eq_false (by omega)] at hb; cases hb
   refine ⟨i + 1, ⟨by omega, by omega, ?_⟩, by omega, ?_⟩
   ·rw [← hU]; conv => rhs; unfold scanUp
    rw [if_pos (by rw [Bool.and_eq_true]; exact ⟨by simpa using hc.1, hc.2⟩)]
   refine Weak.list [(i0, .old i0, arow n d)] rfl (by rfl) ?_ (.old rfl (BLe.refl _) .nil)
   ((repeat' first | exact TLes.nil | refine tE rfl ?_ | refine TLes.cons (TLe.int ?_) ?_); (all_goals first | ((try (simp only [Zac, kZ, kA, kB, mL, Zab] at *)); exact Zal (by omega) (by omega)) | skip))
  have hcU : ¬ (i ≤ v ∧ (!ltInt d[a]! d[i]!) = true) := by
   rintro ⟨h1, h2⟩
   rw [decide_eq_true (by omega), h2] at hb; cases hb
  have hU2 : scanUp (fun x => !ltInt d[a]! x) d v u = i := by
   rw [← hU]; unfold scanUp; rw [if_neg (by rw [Bool.and_eq_true]; intro h; exact hcU ⟨by simpa using h.1, h.2⟩)]
  clear hb hU
  refine Za3 (fun j : Nat => mkS [(0, .rs i0 1 0 n), (1, iv a), (8, iv 0), (9, iv i), (10, iv j)] [(i0, arow n d)])
   (fun j => j ≤ v ∧ i ≤ j + 2 ∧ scanDown (fun x => ltInt d[a]! x) d i j = scanDown (fun x => ltInt d[a]! x) d i v) (fun j => j) (v) ⟨Nat.le_refl _, by omega, rfl⟩ ?_ ?_
  ·refine Weak.list [(i0, .old i0, arow n d)] rfl (by rfl) ?_ (.old rfl (BLe.refl _) .nil)
   ((repeat' first | exact TLes.nil | refine tE rfl ?_); skip)
  rintro j ⟨hjd, hjd2, hD⟩
  ((repeat' first | refine Zad ?_ | (refine Za2 tok mix (by rfl) ?_; conv => whnf) | (refine uA ?_ ?_; rotate_left; (conv => whnf); rotate_right)); all_goals (try ((guard_target = Zac _ _ _ _); ((refine Za7 ?_; intro hgd; (conv at hgd => whnf))); (all_goals (try simp only [Zac, kZ, kA, kB, mL, Zab] at *)); all_goals omega)))
  ·refine .inl ⟨_, _, _, uG (QC.fc (Zdn (d := d) (i := a) (j := j) _ _ (Za9 (by simp)) (Za9 (by simp))) rfl), ?_⟩
   conv => whnf
   ((repeat' first | refine Zad ?_ | (refine Zaa tok (by rfl) ?_; conv => whnf) | (refine Za2 tok mix (by rfl) ?_; conv => whnf) | refine Zaj ?_ | (refine Zag ?_; conv => whnf) | (refine Za0 ?_; conv => whnf) | (refine Zah ?_; conv => whnf) | refine Zaf rfl (fun hb => ?_) (fun hb => ?_) | (refine uA ?_ ?_; rotate_left; (conv => whnf); rotate_right)); all_goals (try ((guard_target = Zac _ _ _ _); refine Zae ?_; (all_goals (try simp only [Zac, kZ, kA, kB, mL, Zab] at *)); all_goals omega)))
   ·have hc : i ≤ j ∧ ltInt d[a]! d[j]! = true := by
     by_cases h1 : i ≤ j
     ·refine ⟨h1, ?_⟩
      rw [decide_eq_true (by omega)] at hb; exact hb
     ·rw [decide_eq_false (by omega)] at hb; cases hb
    refine ⟨j - 1, ⟨by omega, by omega, ?_⟩, by omega, ?_⟩
    ·rw [← hD]
     obtain ⟨j, rfl⟩ : ∃ k, j = k + 1 := ⟨j - 1, by omega⟩
     conv => rhs; unfold scanDown
     rw [if_pos (by rw [Bool.and_eq_true]; exact ⟨by simpa using hc.1, hc.2⟩)]; rfl
    refine Weak.list [(i0, .old i0, arow n d)] rfl (by rfl) ?_ (.old rfl (BLe.refl _) .nil)
    ((repeat' first | exact TLes.nil | refine tE rfl ?_ | refine TLes.cons (TLe.int ?_) ?_); (all_goals first | ((try (simp only [Zac, kZ, kA, kB, mL, Zab] at *)); (simp (disch := omega) only [Zal]; omega)) | skip))
   all_goals
    have hcD : ¬ (i ≤ j ∧ ltInt d[a]! d[j]! = true) := by
     rintro ⟨h1, h2⟩
     have hb2 := hb
     first | (rw [decide_eq_true (by omega), h2] at hb2; cases hb2; done) | (rename_i hb3 _; rw [decide_eq_true (by omega), h2] at hb3; cases hb3; done) | (rename_i hb3; rw [decide_eq_true (by omega), h2] at hb3; cases hb3; done)
    have hD2 : scanDown (fun x => ltInt d[a]! x) d i v = j := by
     rw [← hD]
     cases j with
     | zero => rfl
     | succ j => unfold scanDown; rw [if_neg (by rw [Bool.and_eq_true]; intro h; exact hcD ⟨by simpa using h.1, h.2⟩)]
   ·have hij : j < i := by simp only [Zac, kZ, kA, kB, mL, Zab] at *; omega
    have hlp : partEqLoop ltInt a u v d = (i, d) := by
     unfold partEqLoop; rw [hU2]; (try simp only []); rw [hD2]; (try simp only []); rw [if_pos hij]
    have hRes : RL = (i, d) := by rw [← hRL, hlp]
    rw [hRes]
    exact ⟨_, [(i0, .old i0, arow n d)], rfl, rfl, rfl, rfl, .old rfl (BLe.refl _) .nil, .eq rfl⟩
   ·have hij : i ≤ j := by simp only [Zac, kZ, kA, kB, mL, Zab] at *; omega
    refine ⟨((i + 1, j - 1), swp d i j), ⟨by simp; omega, by simp; omega, by simp; omega, by rw [Zb3]; exact hd, ?_⟩, by simp; omega, ?_⟩
    ·rw [← hRL]; conv => rhs; unfold partEqLoop
     rw [hU2]; (try simp only []); rw [hD2]; (try simp only [])
     rw [if_neg (by omega), dif_pos (by omega)]
    refine Weak.list [(i0, .old i0, arow n (swp d i j))] rfl (by rfl) ?_ (.old rfl (BLe.row rfl (fun x hx => Zc6 (d := d) (i := i) (j := j) (by omega) (by omega) (by simp) (by simp) (Za9 (by simp)) (Za9 (by simp)) x)) .nil)
    ((repeat' first | exact TLes.nil | refine tE rfl ?_ | refine TLes.cons (TLe.int ?_) ?_); (all_goals first | ((try (simp only [Zac, kZ, kA, kB, mL, Zab] at *)); first | exact Zal (by omega) (by omega) | (simp (disch := omega) only [Zal]; omega)) | skip))
set_option linter.unusedSimpArgs false
theorem shiftDown_size : ∀ (k : Nat) (d : Array Int), (shiftDown ltInt k d).size = d.size
 | 0, _ => rfl
 | k + 1, d => by
   simp only [shiftDown]; split
   ·rfl
   ·rw [shiftDown_size, Zb3]
theorem shiftUp_size : ∀ (m b j : Nat) (d : Array Int), b - j ≤ m → (shiftUp ltInt b j d).size = d.size
 | 0, b, j, d, h => by unfold shiftUp; rw [if_neg (by omega)]
 | m + 1, b, j, d, h => by
   unfold shiftUp; split
   ·split
    ·rfl
    ·rw [shiftUp_size m b _ _ (by omega), Zb3]
   ·rfl
theorem scan_end {d : Array Int} {b k : Nat} (h : (bif decide ((k : Int) < (b : Int)) then !ltInt d[k]! d[k - 1]! else false) = false) : scanSorted ltInt d b k = k := by
 unfold scanSorted
 rw [if_neg]
 rw [Bool.and_eq_true]
 rintro ⟨h1, h2⟩
 simp only [decide_eq_true_eq] at h1
 rw [decide_eq_true (by omega), h2] at h; cases h
theorem c_partial (n : Nat) (d0 : Array Int) (a b : Nat) (hn : d0.size = n) (ha : a < b) (hb0 : b ≤ n) :
  HC Tryz.prog [i0] 234 [(i0, arow n d0)] [.rs i0 1 0 n, iv a, iv b] (.bool (partialInsertionSort ltInt d0 a b).2) [(i0, arow n (partialInsertionSort ltInt d0 a b).1)] := by
 refine Zcd tok Tryz.func234 rfl (by decide +kernel) (nB rfl) ?_
 refine Zap 0 (fun hl => ?_)
 have hl0 : n ≤ 4294967296 := hl
 obtain ⟨R, hR0⟩ : ∃ R, R = partialInsertionSort ltInt d0 a b := ⟨_, rfl⟩
 rw [← hR0]
 (repeat' first | refine Zad ?_ | (refine Zaa tok (by rfl) ?_; conv => whnf) | refine Zaj ?_)
 refine Za3 (fun q : (Nat × Nat) × Array Int => mkS [(0, .rs i0 1 0 n), (1, iv a), (2, iv b), (6, .bool false), (7, iv q.1.2), (8, iv (5 - (q.1.1 : Int)))] [(i0, arow n q.2)])
  (fun q => q.1.1 ≤ 5 ∧ a + 1 ≤ q.1.2 ∧ q.1.2 ≤ b ∧ q.2.size = n ∧ partialIns ltInt a b q.1.1 q.1.2 q.2 = R) (fun q => q.1.1) ((5, a + 1), d0) ⟨by simp, by simp, by simp; omega, hn, hR0.symm⟩ ?_ ?_
 ·refine Weak.list [(i0, .old i0, arow n d0)] rfl (by rfl) ?_ (.old rfl (BLe.refl _) .nil)
  ((repeat' first | exact TLes.nil | refine tE rfl ?_ | refine TLes.cons (TLe.int ?_) ?_); (all_goals first | ((try (simp only [Zac, kZ, kA, kB, mL, Zab] at *)); exact Zal (by omega) (by omega)) | skip))
 clear hR0
 rintro ⟨⟨s, i⟩, d⟩ ⟨hs, hi1, hi2, hd, hR⟩
 simp only at hs hi1 hi2 hd hR ⊢
 (repeat' first | refine Zad ?_ | (refine Zaa tok (by rfl) ?_; conv => whnf) | refine Zaj ?_ | (refine Zag ?_; conv => whnf) | (refine Za0 ?_; conv => whnf) | (refine Zah ?_; conv => whnf) | refine Zaf rfl (fun hb => ?_) (fun hb => ?_))
 ·have hs1 : 1 ≤ s := by simp only [Zac, kZ, kA, kB, mL, Zab] at *; omega
  obtain ⟨s, rfl⟩ : ∃ k, s = k + 1 := ⟨s - 1, by omega⟩
  clear hb
  refine Za3 (fun k : Nat => mkS [(0, .rs i0 1 0 n), (1, iv a), (2, iv b), (6, .bool false), (7, iv k), (8, iv (5 - ((s + 1 : Nat) : Int)))] [(i0, arow n d)])
   (fun k => i ≤ k ∧ k ≤ b ∧ scanSorted ltInt d b k = scanSorted ltInt d b i) (fun k => b - k) i ⟨Nat.le_refl _, hi2, rfl⟩ ?_ ?_
  ·refine Weak.list [(i0, .old i0, arow n d)] rfl (by rfl) ?_ (.old rfl (BLe.refl _) .nil)
   ((repeat' first | exact TLes.nil | refine tE rfl ?_); skip)
  rintro k ⟨hk1, hk2, hS⟩
  have hm1 : d[0 + (IntKind.i64.wrap ((k : Int) - 1)).toNat]! = d[k - 1]! := by simp (disch := omega) only [Zal]; exact Za9 (by omega)
  (repeat' ((fail_if_success (show Rg 5)); refine Zad ?_))
  ((repeat' first | (refine Za2 tok mix (by rfl) ?_; conv => whnf) | (refine uA ?_ ?_; rotate_left; (conv => whnf); rotate_right)); all_goals (try ((guard_target = Zac _ _ _ _); ((refine Za7 ?_; intro hgd; (conv at hgd => whnf))); (all_goals (try simp only [Zac, kZ, kA, kB, mL, Zab] at *)); (all_goals (try (simp (disch := omega) only [Zal]))); all_goals omega)))
  refine .inl ⟨_, _, _, uG (QC.fc (Zdn (d := d) (i := k) (j := k - 1) _ _ (Za9 (by simp)) hm1) rfl), ?_⟩
  conv => whnf
  ((repeat' ((fail_if_success (show Rg 12)); first | refine Zad ?_ | (refine Zaa tok (by rfl) ?_; conv => whnf) | (refine Za2 tok mix (by rfl) ?_; conv => whnf) | refine Zaj ?_ | (refine Zag ?_; conv => whnf) | (refine Za0 ?_; conv => whnf) | (refine Zah ?_; conv => whnf) | refine Zaf rfl (fun hb => ?_) (fun hb => ?_) | (refine uA ?_ ?_; rotate_left; (conv => whnf); rotate_right))); all_goals (try ((guard_target = Zac _ _ _ _); refine Zae ?_; (all_goals (try simp only [Zac, kZ, kA, kB, mL, Zab] at *)); (all_goals (try (simp (disch := omega) only [Zal]))); all_goals omega)))
  ·have hc : k < b ∧ (!ltInt d[k]! d[k - 1]!) = true := by
    by_cases h1 : k < b
    ·refine ⟨h1, ?_⟩
     rw [decide_eq_true (by omega)] at hb; exact hb
    ·rw [decide_eq_false (by omega)] at hb; cases hb
   refine ⟨k + 1, ⟨by omega, by omega, ?_⟩, by omega, ?_⟩
   ·rw [← hS]; conv => rhs; unfold scanSorted
    rw [if_pos (by rw [Bool.and_eq_true]; exact ⟨by simpa using hc.1, hc.2⟩)]
   refine Weak.list [(i0, .old i0, arow n d)] rfl (by rfl) ?_ (.old rfl (BLe.refl _) .nil)
   ((repeat' first | exact TLes.nil | refine tE rfl ?_ | refine TLes.cons (TLe.int ?_) ?_); (all_goals first | ((try (simp only [Zac, kZ, kA, kB, mL, Zab] at *)); exact Zal (by omega) (by omega)) | skip))
  ·rename_i hx
   have hSk : scanSorted ltInt d b i = k := by rw [← hS]; exact scan_end hx
   have hkb : k = b := by simp only [Zac, kZ, kA, kB, mL, Zab] at *; omega
   have hRes : R = (d, true) := by rw [← hR]; simp only [partialIns, hSk]; rw [if_pos hkb]
   rw [hRes]
   exact ⟨_, [(i0, .old i0, arow n d)], rfl, rfl, rfl, rfl, .old rfl (BLe.refl _) .nil, .eq rfl⟩
  ·rename_i hx hy
   have hSk : scanSorted ltInt d b i = k := by rw [← hS]; exact scan_end hx
   have hkb : k ≠ b := by simp only [Zac, kZ, kA, kB, mL, Zab] at *; omega
   have h50 : b - a < 50 := by simp (disch := omega) only [Zal] at hb; simp only [Zac, kZ, kA, kB, mL, Zab] at *; omega
   have hRes : R = (d, false) := by rw [← hR]; simp only [partialIns, hSk]; rw [if_neg hkb, if_pos h50]
   rw [hRes]
   exact ⟨_, [(i0, .old i0, arow n d)], rfl, rfl, rfl, rfl, .old rfl (BLe.refl _) .nil, .eq rfl⟩
  rename_i hx hy
  have hSk : scanSorted ltInt d b i = k := by rw [← hS]; exact scan_end hx
  have hkb : k ≠ b := by simp only [Zac, kZ, kA, kB, mL, Zab] at *; omega
  have h50 : ¬ b - a < 50 := by simp (disch := omega) only [Zal] at hb; simp only [Zac, kZ, kA, kB, mL, Zab] at *; omega
  obtain ⟨d2, hd2⟩ : ∃ x, x = swp d k (k - 1) := ⟨_, rfl⟩
  obtain ⟨d3, hd3⟩ : ∃ x, x = if k - a ≥ 2 then shiftDown ltInt (k - 1) d2 else d2 := ⟨_, rfl⟩
  obtain ⟨d4, hd4⟩ : ∃ x, x = if b - k ≥ 2 then shiftUp ltInt b (k + 1) d3 else d3 := ⟨_, rfl⟩
  have hR2 : partialIns ltInt a b s k d4 = R := by rw [← hR]; simp only [partialIns, hSk]; rw [if_neg hkb, if_neg h50, hd4, hd3, hd2]
  have z2 : d2.size = n := by rw [hd2, Zb3]; exact hd
  have z3 : d3.size = n := by rw [hd3]; split <;> simp [shiftDown_size, z2]
  have z4 : d4.size = n := by rw [hd4]; split <;> simp [shiftUp_size _ _ _ _ (Nat.le_refl _), z3]
  refine Zaz (Weak.list (tl := [(0, .rs i0 1 0 n), (1, iv a), (2, iv b), (6, .bool false), (7, iv k), (8, iv (5 - ((s + 1 : Nat) : Int)))]) [(i0, .old i0, arow n d2)] rfl (by rfl) ?_ (.old rfl (BLe.row rfl (fun x hx => ?_)) .nil)) ?_
  ·((repeat' first | exact TLes.nil | refine tE rfl ?_); skip)
  ·rw [hd2]; exact Zc6 (d := d) (i := k) (j := k - 1) (by omega) (by omega) (by simp) (by simp (disch := omega) only [Zal]; omega) hm1 (Za9 (by simp)) x
  clear hx hy hb hR hS hSk hm1 hd2
  (repeat' (refine Zaa tok (by rfl) ?_; conv => whnf))
  refine Zdu (fun _ : Unit => mkS [(0, .rs i0 1 0 n), (1, iv a), (2, iv b), (6, .bool false), (7, iv k), (8, iv (5 - ((s + 1 : Nat) : Int)))] [(i0, arow n d3)]) (fun _ => True) ?_ ?_
  ·(repeat' first | refine Zad ?_ | (refine Zaa tok (by rfl) ?_; conv => whnf) | refine Zaj ?_ | (refine Zag ?_; conv => whnf) | refine Zaf rfl (fun hb => ?_) (fun hb => ?_))
   ·have hk2 : k - a ≥ 2 := by simp (disch := omega) only [Zal] at hb; simp only [Zac, kZ, kA, kB, mL, Zab] at *; omega
    rw [if_pos hk2] at hd3
    refine Za3 (fun q : Nat × Array Int => mkS [(0, .rs i0 1 0 n), (1, iv a), (2, iv b), (6, .bool false), (7, iv k), (8, iv (5 - ((s + 1 : Nat) : Int))), (9, iv q.1)] [(i0, arow n q.2)])
     (fun q => q.1 ≤ k - 1 ∧ q.2.size = n ∧ shiftDown ltInt q.1 q.2 = d3) (fun q => q.1) (k - 1, d2) ⟨Nat.le_refl _, z2, hd3.symm⟩ ?_ ?_
    ·refine Weak.list [(i0, .old i0, arow n d2)] rfl (by rfl) ?_ (.old rfl (BLe.refl _) .nil)
     ((repeat' first | exact TLes.nil | refine tE rfl ?_ | refine TLes.cons (TLe.int ?_) ?_); (all_goals first | ((try (simp only [Zac, kZ, kA, kB, mL, Zab] at *)); (simp (disch := omega) only [Zal]; omega)) | skip))
    rintro ⟨j, e⟩ ⟨hj, he, hq⟩
    simp only at hj he hq ⊢
    have hm2 : e[0 + (IntKind.i64.wrap ((j : Int) - 1)).toNat]! = e[j - 1]! := by simp (disch := omega) only [Zal]; exact Za9 (by omega)
    ((repeat' first | refine Zad ?_ | (refine Zaa tok (by rfl) ?_; conv => whnf) | (refine Za2 tok mix (by rfl) ?_; conv => whnf) | refine Zaj ?_ | (refine Zag ?_; conv => whnf) | (refine Za0 ?_; conv => whnf) | refine Zaf rfl (fun hb => ?_) (fun hb => ?_) | (refine uA ?_ ?_; rotate_left; (conv => whnf); rotate_right)); all_goals (try ((guard_target = Zac _ _ _ _); refine Zae ?_; (all_goals (try simp only [Zac, kZ, kA, kB, mL, Zab] at *)); (all_goals (try (simp (disch := omega) only [Zal]))); all_goals omega)))
    ·refine .inl ⟨_, _, _, uG (QC.fc (Zdn (d := e) (i := j) (j := j - 1) _ _ (Za9 (by simp)) hm2) rfl), ?_⟩
     conv => whnf
     have hj1 : 1 ≤ j := by simp only [Zac, kZ, kA, kB, mL, Zab] at *; omega
     obtain ⟨j, rfl⟩ : ∃ m, j = m + 1 := ⟨j - 1, by omega⟩
     ((repeat' first | (refine Zaa tok (by rfl) ?_; conv => whnf) | (refine Za2 tok mix (by rfl) ?_; conv => whnf) | (refine Zag ?_; conv => whnf) | (refine Za0 ?_; conv => whnf) | refine Zaf rfl (fun hb => ?_) (fun hb => ?_) | (refine uA ?_ ?_; rotate_left; (conv => whnf); rotate_right)); all_goals (try ((guard_target = Zac _ _ _ _); refine Zae ?_; (all_goals (try simp only [Zac, kZ, kA, kB, mL, Zab] at *)); (all_goals (try (simp (disch := omega) only [Zal]))); all_goals omega)))
     ·refine ⟨(), trivial, ?_⟩
      have : d3 = e := by rw [← hq]; simp only [shiftDown]; rw [if_pos (by simpa using hb)]
      rw [this]
      refine Weak.list [(i0, .old i0, arow n e)] rfl (by rfl) ?_ (.old rfl (BLe.refl _) .nil)
      ((repeat' first | exact TLes.nil | refine tE rfl ?_); skip)
     ·refine ⟨(j, swp e (j + 1) j), ⟨by simp; omega, by rw [Zb3]; exact he, ?_⟩, by simp, ?_⟩
      ·rw [← hq]; conv => rhs; simp only [shiftDown]
       rw [if_neg (by simpa using hb)]
      refine Weak.list [(i0, .old i0, arow n (swp e (j + 1) j))] rfl (by rfl) ?_ (.old rfl (BLe.row rfl (fun x hx => ?_)) .nil)
      ·((repeat' first | exact TLes.nil | refine tE rfl ?_ | refine TLes.cons (TLe.int ?_) ?_); (all_goals first | ((try (simp only [Zac, kZ, kA, kB, mL, Zab] at *)); (simp (disch := omega) only [Zal]; omega)) | skip))
      ·exact Zc6 (d := e) (i := j + 1) (j := j) (by omega) (by omega) (by simp) (by simp (disch := omega) only [Zal]; omega) hm2 (Za9 (by simp)) x
    ·refine ⟨(), trivial, ?_⟩
     have hj0 : j = 0 := by simp only [Zac, kZ, kA, kB, mL, Zab] at *; omega
     subst hj0
     have : d3 = e := by rw [← hq]; rfl
     rw [this]
     refine Weak.list [(i0, .old i0, arow n e)] rfl (by rfl) ?_ (.old rfl (BLe.refl _) .nil)
     ((repeat' first | exact TLes.nil | refine tE rfl ?_); skip)
   ·have hk2 : ¬ k - a ≥ 2 := by simp (disch := omega) only [Zal] at hb; simp only [Zac, kZ, kA, kB, mL, Zab] at *; omega
    rw [if_neg hk2] at hd3
    refine ⟨(), trivial, ?_⟩
    rw [hd3]
    refine Weak.list [(i0, .old i0, arow n d2)] rfl (by rfl) ?_ (.old rfl (BLe.refl _) .nil)
    ((repeat' first | exact TLes.nil | refine tE rfl ?_); skip)
  rintro _ _ τ hτ
  refine Zaz hτ ?_
  clear hd3
  conv => whnf
  (repeat' first | refine Zad ?_ | (refine Zaa tok (by rfl) ?_; conv => whnf))
  refine Zdu (fun _ : Unit => mkS [(0, .rs i0 1 0 n), (1, iv a), (2, iv b), (6, .bool false), (7, iv k), (8, iv (5 - ((s + 1 : Nat) : Int)))] [(i0, arow n d4)]) (fun _ => True) ?_ ?_
  ·(repeat' first | refine Zad ?_ | (refine Zaa tok (by rfl) ?_; conv => whnf) | refine Zaj ?_ | (refine Zag ?_; conv => whnf) | refine Zaf rfl (fun hb => ?_) (fun hb => ?_))
   ·have hk2 : b - k ≥ 2 := by simp (disch := omega) only [Zal] at hb; simp only [Zac, kZ, kA, kB, mL, Zab] at *; omega
    rw [if_pos hk2] at hd4
    refine Za3 (fun q : Nat × Array Int => mkS [(0, .rs i0 1 0 n), (1, iv a), (2, iv b), (6, .bool false), (7, iv k), (8, iv (5 - ((s + 1 : Nat) : Int))), (10, iv q.1)] [(i0, arow n q.2)])
     (fun q => 1 ≤ q.1 ∧ q.1 ≤ b ∧ q.2.size = n ∧ shiftUp ltInt b q.1 q.2 = d4) (fun q => b - q.1) (k + 1, d3) ⟨by simp, by simp; omega, z3, hd4.symm⟩ ?_ ?_
    ·refine Weak.list [(i0, .old i0, arow n d3)] rfl (by rfl) ?_ (.old rfl (BLe.refl _) .nil)
     ((repeat' first | exact TLes.nil | refine tE rfl ?_ | refine TLes.cons (TLe.int ?_) ?_); (all_goals first | ((try (simp only [Zac, kZ, kA, kB, mL, Zab] at *)); exact Zal (by omega) (by omega)) | skip))
    rintro ⟨j, e⟩ ⟨hj1, hj, he, hq⟩
    simp only at hj1 hj he hq ⊢
    have hm2 : e[0 + (IntKind.i64.wrap ((j : Int) - 1)).toNat]! = e[j - 1]! := by simp (disch := omega) only [Zal]; exact Za9 (by omega)
    ((repeat' first | refine Zad ?_ | (refine Zaa tok (by rfl) ?_; conv => whnf) | (refine Za2 tok mix (by rfl) ?_; conv => whnf) | refine Zaj ?_ | (refine Zag ?_; conv => whnf) | (refine Za0 ?_; conv => whnf) | refine Zaf rfl (fun hb => ?_) (fun hb => ?_) | (refine uA ?_ ?_; rotate_left; (conv => whnf); rotate_right)); all_goals (try ((guard_target = Zac _ _ _ _); refine Zae ?_; (all_goals (try simp only [Zac, kZ, kA, kB, mL, Zab] at *)); (all_goals (try (simp (disch := omega) only [Zal]))); all_goals omega)))
    ·have hjb : j < b := by simp only [Zac, kZ, kA, kB, mL, Zab] at *; omega
     refine .inl ⟨_, _, _, uG (QC.fc (Zdn (d := e) (i := j) (j := j - 1) _ _ (Za9 (by simp)) hm2) rfl), ?_⟩
     conv => whnf
     ((repeat' first | (refine Zaa tok (by rfl) ?_; conv => whnf) | (refine Za2 tok mix (by rfl) ?_; conv => whnf) | (refine Zag ?_; conv => whnf) | (refine Za0 ?_; conv => whnf) | refine Zaf rfl (fun hb => ?_) (fun hb => ?_) | (refine uA ?_ ?_; rotate_left; (conv => whnf); rotate_right)); all_goals (try ((guard_target = Zac _ _ _ _); refine Zae ?_; (all_goals (try simp only [Zac, kZ, kA, kB, mL, Zab] at *)); (all_goals (try (simp (disch := omega) only [Zal]))); all_goals omega)))
     ·refine ⟨(), trivial, ?_⟩
      have : d4 = e := by rw [← hq]; unfold shiftUp; rw [if_pos hjb, if_pos (by simpa using hb)]
      rw [this]
      refine Weak.list [(i0, .old i0, arow n e)] rfl (by rfl) ?_ (.old rfl (BLe.refl _) .nil)
      ((repeat' first | exact TLes.nil | refine tE rfl ?_); skip)
     ·refine ⟨(j + 1, swp e j (j - 1)), ⟨by simp, by simp; omega, by rw [Zb3]; exact he, ?_⟩, by simp; omega, ?_⟩
      ·rw [← hq]; conv => rhs; unfold shiftUp
       rw [if_pos hjb, if_neg (by simpa using hb)]
      refine Weak.list [(i0, .old i0, arow n (swp e j (j - 1)))] rfl (by rfl) ?_ (.old rfl (BLe.row rfl (fun x hx => ?_)) .nil)
      ·((repeat' first | exact TLes.nil | refine tE rfl ?_ | refine TLes.cons (TLe.int ?_) ?_); (all_goals first | ((try (simp only [Zac, kZ, kA, kB, mL, Zab] at *)); exact Zal (by omega) (by omega)) | skip))
      ·exact Zc6 (d := e) (i := j) (j := j - 1) (by omega) (by omega) (by simp) (by simp (disch := omega) only [Zal]; omega) hm2 (Za9 (by simp)) x
    ·refine ⟨(), trivial, ?_⟩
     have hj0 : ¬ j < b := by simp only [Zac, kZ, kA, kB, mL, Zab] at *; omega
     have : d4 = e := by rw [← hq]; unfold shiftUp; rw [if_neg hj0]
     rw [this]
     refine Weak.list [(i0, .old i0, arow n e)] rfl (by rfl) ?_ (.old rfl (BLe.refl _) .nil)
     ((repeat' first | exact TLes.nil | refine tE rfl ?_); skip)
   ·have hk2 : ¬ b - k ≥ 2 := by simp (disch := omega) only [Zal] at hb; simp only [Zac, kZ, kA, kB, mL, Zab] at *; omega
    rw [if_neg hk2] at hd4
    refine ⟨(), trivial, ?_⟩
    rw [hd4]
    refine Weak.list [(i0, .old i0, arow n d3)] rfl (by rfl) ?_ (.old rfl (BLe.refl _) .nil)
    ((repeat' first | exact TLes.nil | refine tE rfl ?_); skip)
  rintro _ _ τ hτ
  refine Zaz hτ ?_
  conv => whnf
  (repeat' (refine Zaa tok (by rfl) ?_; conv => whnf))
  refine ⟨((s, k), d4), ⟨by simp; omega, by simp; omega, by simp; omega, z4, hR2⟩, by simp, ?_⟩
  refine Weak.list [(i0, .old i0, arow n d4)] rfl (by rfl) ?_ (.old rfl (BLe.refl _) .nil)
  ((repeat' first | exact TLes.nil | refine tE rfl ?_ | refine TLes.cons (TLe.int ?_) ?_); (all_goals first | ((try (simp only [Zac, kZ, kA, kB, mL, Zab] at *)); (simp (disch := omega) only [Zal]; omega)) | skip))
 ·have hs0 : s = 0 := by simp only [Zac, kZ, kA, kB, mL, Zab] at *; omega
  subst hs0
  have hRes : R = (d, false) := hR.symm
  rw [hRes]
  exact ⟨_, [(i0, .old i0, arow n d)], rfl, rfl, rfl, rfl, .old rfl (BLe.refl _) .nil, .eq rfl⟩
end Go.Proofs.YtoelbgjpmpoolaaGreat
namespace Go.Proofs.YtoelbgjpmpoolaaGreat
open Go Dv Go.Sort
set_option maxRecDepth 10000
set_option linter.unusedSimpArgs false
structure PQ where
 (a b lim : Nat)
 (wb wp : Bool)
 d : Array Int
theorem pdq_eq {R d : Array Int} {a b lim : Nat} {wb wp : Bool} (h12 : ¬ b - a ≤ 12) (hlim : lim ≠ 0) (hR : pdq ltInt d a b lim wb wp = R) :
  ∃ d1 lim' c d2 pivot hint pi, d1 = (if (!wb) = true then breakPatterns d a b else d) ∧ lim' = (if (!wb) = true then lim - 1 else lim) ∧ c = choosePivot ltInt d1 a b ∧ d2 = (if c.2 = .decreasing then reverseRange d1 a b else d1) ∧
   pivot = (if c.2 = .decreasing then (b - 1) - (c.1 - a) else c.1) ∧ hint = (if c.2 = .decreasing then Hint.increasing else c.2) ∧ pi = (if (wb && wp && decide (hint = .increasing)) = true then partialInsertionSort ltInt d2 a b else (d2, false)) ∧
   R = if pi.2 = true then pi.1 else if (decide (a > 0) && !ltInt pi.1[a - 1]! pi.1[pivot]!) = true then
    (match partitionEqual ltInt pi.1 a b pivot with
    | (mid, d4) => if _h : a < mid ∧ mid ≤ b then pdq ltInt d4 mid b lim' wb wp else d4)
   else (match partition ltInt pi.1 a b pivot with
    | (mid, ap, d4) => if _h : a ≤ mid ∧ mid < b then
      if mid - a < b - mid then pdq ltInt (pdq ltInt d4 a mid lim' true true) (mid + 1) b lim' (decide (mid - a ≥ (b - a) / 8)) ap
      else pdq ltInt (pdq ltInt d4 (mid + 1) b lim' true true) a mid lim' (decide (b - mid ≥ (b - a) / 8)) ap
     else d4) := by
 refine ⟨_, _, _, _, _, _, _, rfl, rfl, rfl, rfl, rfl, rfl, rfl, ?_⟩
 rw [← hR]
 conv => lhs; unfold pdq
 rw [if_neg h12, if_neg hlim]
def Brk : Prop := ∀ (n : Nat) (d : Array Int) (a b : Nat), d.size = n → a ≤ b → b ≤ n → HC Tryz.prog [i0] 231 [(i0, arow n d)] [.rs i0 1 0 n, iv a, iv b] (.tup []) [(i0, arow n (breakPatterns d a b))]
theorem hintI_two (h : Hint) : decide (hintI h = 2) = decide (h = .decreasing) := by cases h <;> rfl
theorem hintI_one (h : Hint) : decide (hintI h = 1) = decide (h = .increasing) := by cases h <;> rfl
theorem c_pdq (hbrk : Brk) : ∀ (N n : Nat) (d : Array Int) (a b lim : Nat), d.size = n → a ≤ b → b ≤ n → b - a ≤ N → lim ≤ 1000 → Sort.Below ltInt a b d → HC Tryz.prog [i0] 222 [(i0, arow n d)] [.rs i0 1 0 n, iv a, iv b, iv lim] (.tup []) [(i0, arow n (pdq ltInt d a b lim true true))] := by
 intro N
 induction N using Nat.strongRecOn with
 | ind N ih =>
 intro n d0 a0 b0 lim0 hn0 hab0 hbn0 hN0 hl0' hB0
 refine Zcd tok Tryz.func222 rfl (by decide +kernel) (nB rfl) ?_
 refine Zap 0 (fun hl => ?_)
 have hl0 : n ≤ 4294967296 := hl
 obtain ⟨R, hR0⟩ : ∃ R, R = pdq ltInt d0 a0 b0 lim0 true true := ⟨_, rfl⟩
 rw [← hR0]
 have h := swo_ltInt
 (repeat' first | refine Zad ?_ | (refine Zaa tok (by rfl) ?_; conv => whnf) | refine Zaj ?_)
 refine Za3 (fun q : PQ => mkS [(0, .rs i0 1 0 n), (1, iv q.a), (2, iv q.b), (3, iv q.lim), (8, .bool q.wb), (9, .bool q.wp)] [(i0, arow n q.d)])
  (fun q => q.d.size = n ∧ q.a ≤ q.b ∧ q.b ≤ n ∧ q.lim ≤ 1000 ∧ Sort.Below ltInt q.a q.b q.d ∧ q.b - q.a ≤ N ∧ pdq ltInt q.d q.a q.b q.lim q.wb q.wp = R) (fun q => q.b - q.a) ⟨a0, b0, lim0, true, true, d0⟩ ⟨hn0, hab0, hbn0, hl0', hB0, hN0, hR0.symm⟩ ?_ ?_
 ·refine Weak.list [(i0, .old i0, arow n d0)] rfl (by rfl) ?_ (.old rfl (BLe.refl _) .nil)
  ((repeat' first | exact TLes.nil | refine tE rfl ?_); skip)
 rintro q ⟨hd, hab, hbn, hlm, hB, hN, hR⟩
 clear hR0
 (repeat' ((fail_if_success (show Rg 7)); first | refine Zad ?_ | (refine Zaa tok (by rfl) ?_; conv => whnf) | refine Zaj ?_ | (refine Zag ?_; conv => whnf) | refine Zaf rfl (fun hb => ?_) (fun hb => ?_)))
 ·have h12 : q.b - q.a ≤ 12 := by simp (disch := omega) only [Zal] at hb; simp only [Zac, kZ, kA, kB, mL, Zab] at *; omega
  refine .inr ⟨_, _, _, uG (QH.of (dead := []) [(i0, .old i0, arow n q.d)] (c_insertion n q.d q.a q.b hd hab hbn) rfl (.old rfl (BLe.refl _) .nil) ((.cons (.eq rfl) (.cons (.eq rfl) (.cons (.eq rfl) .nil)))) [(i0, i0)] rfl (.cons rfl (BLe.refl _) .nil) rfl), ?_⟩
  conv => whnf
  (repeat' (refine Zah ?_; conv => whnf))
  have hRes : R = insertionSort ltInt q.d q.a q.b := by rw [← hR]; unfold pdq; rw [if_pos h12]
  rw [hRes]
  exact ⟨_, [(i0, .old i0, arow n (insertionSort ltInt q.d q.a q.b))], rfl, rfl, rfl, rfl, .old rfl (BLe.refl _) .nil, .eq rfl⟩
 ·rename_i hx
  have h12 : ¬ q.b - q.a ≤ 12 := by simp (disch := omega) only [Zal] at hx; simp only [Zac, kZ, kA, kB, mL, Zab] at *; omega
  have hz : q.lim = 0 := by simp only [Zac, kZ, kA, kB, mL, Zab] at *; omega
  refine .inr ⟨_, _, _, uG (QH.of (dead := []) [(i0, .old i0, arow n q.d)] (c_heap n q.d q.a q.b hd hab hbn) rfl (.old rfl (BLe.refl _) .nil) ((.cons (.eq rfl) (.cons (.eq rfl) (.cons (.eq rfl) .nil)))) [(i0, i0)] rfl (.cons rfl (BLe.refl _) .nil) rfl), ?_⟩
  conv => whnf
  (repeat' (refine Zah ?_; conv => whnf))
  have hRes : R = heapSort ltInt q.d q.a q.b := by rw [← hR]; unfold pdq; rw [if_neg h12, if_pos hz]
  rw [hRes]
  exact ⟨_, [(i0, .old i0, arow n (heapSort ltInt q.d q.a q.b))], rfl, rfl, rfl, rfl, .old rfl (BLe.refl _) .nil, .eq rfl⟩
 rename_i hx
 have h12 : ¬ q.b - q.a ≤ 12 := by simp (disch := omega) only [Zal] at hx; simp only [Zac, kZ, kA, kB, mL, Zab] at *; omega
 have hz : q.lim ≠ 0 := by simp only [Zac, kZ, kA, kB, mL, Zab] at *; omega
 clear hb hx
 obtain ⟨d1, lim', c, d2, pivot, hint, pi, e1, e2, e3, e4, e5, e6, e7, hstep⟩ := pdq_eq h12 hz hR
 have s1 : PermIn q.a q.b q.d d1 := by rw [e1]; exact step_break q.d hab (by omega) _
 have b1 : d1.size = n := by rw [s1.1]; exact hd
 have s2 : PermIn q.a q.b d1 d2 := by rw [e4]; exact step_reverse reverseRange_holds d1 hab (by omega) _
 have b2 : d2.size = n := by rw [s2.1]; exact b1
 have B2 : Sort.Below ltInt q.a q.b d2 := (hB.perm (by omega) s1).perm (by omega) s2
 have s3 : PermIn q.a q.b d2 pi.1 := by rw [e7]; exact (step_partial (partialInsertionSort_holds (lt := ltInt)) h d2 (a := q.a) (b := q.b) (by omega) (by omega) B2 _).1
 have b3 : pi.1.size = n := by rw [s3.1]; exact b2
 have B3 : Sort.Below ltInt q.a q.b pi.1 := B2.perm (by omega) s3
 have hc0 := choosePivot_holds ltInt d1 q.a q.b (by omega)
 rw [← e3] at hc0
 have hpv : q.a ≤ pivot ∧ pivot < q.b := by rw [e5]; exact pivot_range hc0.1 hc0.2 _
 have hlm' : lim' ≤ 1000 := by rw [e2]; split <;> omega
 (repeat' (refine Zaa tok (by rfl) ?_; conv => whnf))
 refine Zdu (fun _ : Unit => mkS [(0, .rs i0 1 0 n), (1, iv q.a), (2, iv q.b), (3, iv lim'), (8, .bool q.wb), (9, .bool q.wp), (10, iv ((q.b - q.a : Nat) : Int))] [(i0, arow n d1)]) (fun _ => True) ?_ ?_
 ·(repeat' first | refine Zad ?_ | (refine Zaa tok (by rfl) ?_; conv => whnf) | (refine Zag ?_; conv => whnf) | refine Zaf rfl (fun hb => ?_) (fun hb => ?_))
  ·have hw : (!q.wb) = true := hb
   rw [if_pos hw] at e1 e2
   refine .inr ⟨_, _, _, uG (QH.of (dead := []) [(i0, .old i0, arow n q.d)] (hbrk n q.d q.a q.b hd hab hbn) rfl (.old rfl (BLe.refl _) .nil) ((.cons (.eq rfl) (.cons (.eq rfl) (.cons (.eq rfl) .nil)))) [(i0, i0)] rfl (.cons rfl (BLe.refl _) .nil) rfl), ?_⟩
   conv => whnf
   (repeat' (refine Zaa tok (by rfl) ?_; conv => whnf))
   refine ⟨(), trivial, ?_⟩
   rw [e1]
   refine Weak.list [(i0, .old i0, arow n (breakPatterns q.d q.a q.b))] rfl (by rfl) ?_ (.old rfl (BLe.refl _) .nil)
   ((repeat' first | exact TLes.nil | refine tE rfl ?_ | refine TLes.cons (TLe.int ?_) ?_); (all_goals first | ((try (simp only [Zac, kZ, kA, kB, mL, Zab] at *)); (simp (disch := omega) only [Zal]; omega)) | skip))
   all_goals (rw [e2]; omega)
  ·have hw : ¬ (!q.wb) = true := by rw [hb]; simp
   rw [if_neg hw] at e1 e2
   refine ⟨(), trivial, ?_⟩
   rw [e1]
   refine Weak.list [(i0, .old i0, arow n q.d)] rfl (by rfl) ?_ (.old rfl (BLe.refl _) .nil)
   ((repeat' first | exact TLes.nil | refine tE rfl ?_ | refine TLes.cons (TLe.int ?_) ?_); (all_goals first | ((try (simp only [Zac, kZ, kA, kB, mL, Zab] at *)); first | omega | (simp (disch := omega) only [Zal]; omega)) | skip))
   all_goals (rw [e2])
 rintro _ _ τ hτ
 refine Zaz hτ ?_
 have hch := c_choose n d1 q.a q.b b1 (by omega) hbn
 rw [← e3] at hch
 conv => whnf
 (repeat' first | refine Zad ?_ | (refine Zaa tok (by rfl) ?_; conv => whnf))
 refine .inr ⟨_, _, _, uG (QH.of (dead := []) [(i0, .old i0, arow n d1)] (hch) rfl (.old rfl (BLe.refl _) .nil) ((.cons (.eq rfl) (.cons (.eq rfl) (.cons (.eq rfl) .nil)))) [(i0, i0)] rfl (.cons rfl (BLe.refl _) .nil) rfl), ?_⟩
 conv => whnf
 (repeat' first | refine Zad ?_ | (refine Zaa tok (by rfl) ?_; conv => whnf))
 refine Zdu (fun _ : Unit => mkS [(0, .rs i0 1 0 n), (1, iv q.a), (2, iv q.b), (3, iv lim'), (8, .bool q.wb), (9, .bool q.wp), (10, iv ((q.b - q.a : Nat) : Int)), (11, iv pivot), (12, iv (hintI hint))] [(i0, arow n d2)]) (fun _ => True) ?_ ?_
 ·(repeat' first | refine Zad ?_ | (refine Zaa tok (by rfl) ?_; conv => whnf) | (refine Zag ?_; conv => whnf) | refine Zaf rfl (fun hb => ?_) (fun hb => ?_))
  ·have hw : c.2 = .decreasing := by rw [hintI_two] at hb; simpa using hb
   rw [if_pos hw] at e4 e5 e6
   refine .inr ⟨_, _, _, uG (QH.of (dead := []) [(i0, .old i0, arow n d1)] (c_reverse n d1 q.a q.b b1 (by omega) hbn) rfl (.old rfl (BLe.refl _) .nil) ((.cons (.eq rfl) (.cons (.eq rfl) (.cons (.eq rfl) .nil)))) [(i0, i0)] rfl (.cons rfl (BLe.refl _) .nil) rfl), ?_⟩
   conv => whnf
   (repeat' first | refine Zad ?_ | (refine Zaa tok (by rfl) ?_; conv => whnf))
   refine ⟨(), trivial, ?_⟩
   rw [e4]
   refine Weak.list [(i0, .old i0, arow n (reverseRange d1 q.a q.b))] rfl (by rfl) ?_ (.old rfl (BLe.refl _) .nil)
   ((repeat' first | exact TLes.nil | refine tE rfl ?_ | refine TLes.cons (TLe.int ?_) ?_); (all_goals first | ((try (simp only [Zac, kZ, kA, kB, mL, Zab] at *)); (simp (disch := omega) only [Zal]; omega)) | skip))
   all_goals first | (rw [e5]; simp (disch := omega) only [Zal]; omega) | (rw [e6]; rfl)
  ·have hw : ¬ c.2 = .decreasing := by rw [hintI_two] at hb; simpa using hb
   rw [if_neg hw] at e4 e5 e6
   refine ⟨(), trivial, ?_⟩
   rw [e4]
   refine Weak.list [(i0, .old i0, arow n d1)] rfl (by rfl) ?_ (.old rfl (BLe.refl _) .nil)
   ((repeat' first | exact TLes.nil | refine tE rfl ?_ | refine TLes.cons (TLe.int ?_) ?_); (all_goals first | ((try (simp only [Zac, kZ, kA, kB, mL, Zab] at *)); omega) | skip))
   all_goals first | (rw [e5]) | (rw [e6])
 rintro _ _ τ hτ
 refine Zaz hτ ?_
 conv => whnf
 (repeat' first | refine Zad ?_ | (refine Zaa tok (by rfl) ?_; conv => whnf))
 rw [hintI_one]
 refine Zdu (fun _ : Unit => mkS [(0, .rs i0 1 0 n), (1, iv q.a), (2, iv q.b), (3, iv lim'), (8, .bool q.wb), (9, .bool q.wp), (10, iv ((q.b - q.a : Nat) : Int)), (11, iv pivot)] [(i0, arow n pi.1)]) (fun _ => pi.2 = false) ?_ ?_
 ·(repeat' first | refine Zad ?_ | (refine Zaa tok (by rfl) ?_; conv => whnf) | (refine Zag ?_; conv => whnf) | refine Zaf rfl (fun hb => ?_) (fun hb => ?_))
  ·have hcond : (q.wb && q.wp && decide (hint = .increasing)) = true := by
    cases h1 : q.wb <;> cases h2 : q.wp <;> simp [h1, h2] at hb ⊢
    exact hb
   rw [if_pos hcond] at e7
   have hcp := c_partial n d2 q.a q.b b2 (by omega) hbn
   rw [← e7] at hcp
   refine .inr ⟨_, _, _, uG (QH.of (dead := []) [(i0, .old i0, arow n d2)] (hcp) rfl (.old rfl (BLe.refl _) .nil) ((.cons (.eq rfl) (.cons (.eq rfl) (.cons (.eq rfl) .nil)))) [(i0, i0)] rfl (.cons rfl (BLe.refl _) .nil) rfl), ?_⟩
   conv => whnf
   (repeat' first | (refine Zag ?_; conv => whnf) | (refine Zah ?_; conv => whnf) | refine Zaf rfl (fun hb => ?_) (fun hb => ?_))
   ·have hRes : R = pi.1 := by rw [hstep, if_pos hb]
    rw [hRes]
    exact ⟨_, [(i0, .old i0, arow n pi.1)], rfl, rfl, rfl, rfl, .old rfl (BLe.refl _) .nil, .eq rfl⟩
   ·refine ⟨(), hb, ?_⟩
    refine Weak.list [(i0, .old i0, arow n pi.1)] rfl (by rfl) ?_ (.old rfl (BLe.refl _) .nil)
    ((repeat' first | exact TLes.nil | refine tE rfl ?_); skip)
  ·have hcond : ¬ (q.wb && q.wp && decide (hint = .increasing)) = true := by
    cases h1 : q.wb <;> cases h2 : q.wp <;> simp [h1, h2] at hb ⊢
    exact hb
   rw [if_neg hcond] at e7
   refine ⟨(), by rw [e7], ?_⟩
   rw [e7]
   refine Weak.list [(i0, .old i0, arow n d2)] rfl (by rfl) ?_ (.old rfl (BLe.refl _) .nil)
   ((repeat' first | exact TLes.nil | refine tE rfl ?_); skip)
 rintro _ hpi τ hτ
 refine Zaz hτ ?_
 rw [hpi, if_neg (by simp)] at hstep
 generalize pi.1 = d3 at s3 b3 B3 hstep
 clear hτ
 have hm1 : d3[0 + (IntKind.i64.wrap ((q.a : Int) - 1)).toNat]! = d3[q.a - 1]! := by simp (disch := omega) only [Zal]; exact Za9 (by omega)
 conv => whnf
 ((repeat' first | refine Zad ?_ | (refine Za2 tok mix (by rfl) ?_; conv => whnf) | (refine uA ?_ ?_; rotate_left; (conv => whnf); rotate_right)); all_goals (try ((guard_target = Zac _ _ _ _); ((refine Za7 ?_; intro hgd; (conv at hgd => whnf))); (all_goals (try simp only [Zac, kZ, kA, kB, mL, Zab] at *)); (all_goals (try (simp (disch := omega) only [Zal]))); all_goals omega)))
 refine .inl ⟨_, _, _, uG (QC.fc (Zdn (d := d3) (i := q.a - 1) (j := pivot) _ _ hm1 (Za9 (by simp))) rfl), ?_⟩
 conv => whnf
 (repeat' first | refine Zad ?_ | (refine Zaa tok (by rfl) ?_; conv => whnf) | (refine Zag ?_; conv => whnf) | refine Zaf rfl (fun hb => ?_) (fun hb => ?_))
 ·have hc : (decide (q.a > 0) && !ltInt d3[q.a - 1]! d3[pivot]!) = true := by
   by_cases h1 : 0 < q.a
   ·rw [decide_eq_true (by omega)] at hb
    rw [Bool.and_eq_true]; exact ⟨by simpa using h1, hb⟩
   ·rw [decide_eq_false (by omega)] at hb; cases hb
  rw [if_pos hc] at hstep
  rw [Bool.and_eq_true, decide_eq_true_eq, Bool.not_eq_true'] at hc
  obtain ⟨mid, d4, hx⟩ : ∃ m d, partitionEqual ltInt d3 q.a q.b pivot = (m, d) := ⟨_, _, rfl⟩
  have hcp := c_partEq n d3 q.a q.b pivot b3 hpv.1 hpv.2 hbn
  rw [hx] at hcp hstep
  obtain ⟨g1, g2, g3, g4, _⟩ := round_eq h (partitionEqual_holds (lt := ltInt)) hc.1 hpv.1 hpv.2 (by omega) B3 hc.2 hx
  simp only [] at hcp hstep
  rw [dif_pos ⟨g1, g2⟩] at hstep
  refine .inr ⟨_, _, _, uG (QH.of (dead := []) [(i0, .old i0, arow n d3)] (hcp) rfl (.old rfl (BLe.refl _) .nil) ((.cons (.eq rfl) (.cons (.eq rfl) (.cons (.eq rfl) (.cons (.eq rfl) .nil))))) [(i0, i0)] rfl (.cons rfl (BLe.refl _) .nil) rfl), ?_⟩
  conv => whnf
  (repeat' first | refine Zad ?_ | (refine Zaa tok (by rfl) ?_; conv => whnf) | (refine Za0 ?_; conv => whnf))
  refine ⟨⟨mid, q.b, lim', q.wb, q.wp, d4⟩, ⟨by simp; omega, g2, hbn, hlm', g4, by simp; omega, hstep.symm⟩, by simp; omega, ?_⟩
  refine Weak.list [(i0, .old i0, arow n d4)] rfl (by rfl) ?_ (.old rfl (BLe.refl _) .nil)
  ((repeat' first | exact TLes.nil | refine tE rfl ?_); skip)
 have hc : ¬ (decide (q.a > 0) && !ltInt d3[q.a - 1]! d3[pivot]!) = true := by
  rw [Bool.and_eq_true]
  rintro ⟨h1, h2⟩
  simp only [decide_eq_true_eq] at h1
  rw [decide_eq_true (by omega), h2] at hb; cases hb
 rw [if_neg hc] at hstep
 obtain ⟨mid, ap, d4, hx⟩ : ∃ m p d, partition ltInt d3 q.a q.b pivot = (m, p, d) := ⟨_, _, _, rfl⟩
 have hcp := c_part n d3 q.a q.b pivot b3 hpv.1 hpv.2 hbn
 rw [hx] at hcp hstep
 obtain ⟨g1, g2, g3, g4, g5, g6, g7⟩ := round_part h (partition_holds ltInt) hpv.1 hpv.2 (by omega) B3 hx
 simp only [] at hcp hstep
 rw [dif_pos ⟨g1, g2⟩] at hstep
 refine .inr ⟨_, _, _, uG (QH.of (dead := []) [(i0, .old i0, arow n d3)] (hcp) rfl (.old rfl (BLe.refl _) .nil) ((.cons (.eq rfl) (.cons (.eq rfl) (.cons (.eq rfl) (.cons (.eq rfl) .nil))))) [(i0, i0)] rfl (.cons rfl (BLe.refl _) .nil) rfl), ?_⟩
 conv => whnf
 ((repeat' first | refine Zad ?_ | (refine Zaa tok (by rfl) ?_; conv => whnf) | refine Zaf rfl (fun hb => ?_) (fun hb => ?_) | (refine uA ?_ ?_; rotate_left; (conv => whnf); rotate_right)); all_goals (try ((guard_target = Zac _ _ _ _); refine Zae ?_; (all_goals (try simp only [Zac, kZ, kA, kB, mL, Zab] at *)); all_goals omega)))
 ·have hlt : mid - q.a < q.b - mid := by simp (disch := omega) only [Zal] at hb; simp only [Zac, kZ, kA, kB, mL, Zab] at *; omega
  rw [if_pos hlt] at hstep
  refine .inr ⟨_, _, _, uG (QH.of (dead := []) [(i0, .old i0, arow n d4)] (ih (mid - q.a) (by omega) n d4 q.a mid lim' (by omega) g1 (by omega) (Nat.le_refl _) hlm' g4) rfl (.old rfl (BLe.refl _) .nil) ((.cons (.eq rfl) (.cons (.eq rfl) (.cons (.eq rfl) (.cons (.eq rfl) .nil))))) [(i0, i0)] rfl (.cons rfl (BLe.refl _) .nil) rfl), ?_⟩
  conv => whnf
  (repeat' (refine Zaa tok (by rfl) ?_; conv => whnf))
  have hp := pdq_sorts ltInt h d4 q.a mid lim' true true g1 (by omega) g4
  generalize pdq ltInt d4 q.a mid lim' true true = L at hp hstep
  have hL := (g6 L hp.1 hp.2).1
  have hLs := hp.1.1
  refine ⟨⟨mid + 1, q.b, lim', decide (mid - q.a ≥ (q.b - q.a) / 8), ap, L⟩, ⟨by simp; omega, by simp; omega, hbn, hlm', hL, by simp; omega, hstep.symm⟩, by simp; omega, ?_⟩
  refine Weak.list [(i0, .old i0, arow n L)] rfl (by rfl) ?_ (.old rfl (BLe.refl _) .nil)
  ((repeat' first | exact TLes.nil | refine tE rfl ?_ | refine TLes.cons (TLe.int ?_) ?_ | refine TLes.cons (TLe.bool ?_) ?_); (all_goals first | ((try (simp only [Zac, kZ, kA, kB, mL, Zab] at *)); exact Zal (by omega) (by omega)) | skip))
  all_goals
   rw [Int.tdiv_eq_ediv_of_nonneg (by omega), Zal (x := ((q.b - q.a : Nat) : Int) / 8) (by omega) (by omega), Zal (by omega) (by omega), decide_eq_decide]
   omega
 ·have hlt : ¬ mid - q.a < q.b - mid := by simp (disch := omega) only [Zal] at hb; simp only [Zac, kZ, kA, kB, mL, Zab] at *; omega
  rw [if_neg hlt] at hstep
  have hcall : ∀ z : Int, z = ((mid + 1 : Nat) : Int) → HC Tryz.prog [i0] 222 [(i0, arow n d4)] [.rs i0 1 0 n, iv z, iv q.b, iv lim'] (.tup []) [(i0, arow n (pdq ltInt d4 (mid + 1) q.b lim' true true))] :=
   fun z e => e ▸ ih (q.b - (mid + 1)) (by omega) n d4 (mid + 1) q.b lim' (by omega) (by omega) (by omega) (Nat.le_refl _) hlm' g5
  refine .inr ⟨_, _, _, uG (QH.of (dead := []) [(i0, .old i0, arow n d4)] (hcall _ (by simp (disch := omega) only [Zal]; omega)) rfl (.old rfl (BLe.refl _) .nil) ((.cons (.eq rfl) (.cons (.eq rfl) (.cons (.eq rfl) (.cons (.eq rfl) .nil))))) [(i0, i0)] rfl (.cons rfl (BLe.refl _) .nil) rfl), ?_⟩
  conv => whnf
  (repeat' (refine Zaa tok (by rfl) ?_; conv => whnf))
  have hp := pdq_sorts ltInt h d4 (mid + 1) q.b lim' true true (by omega) (by omega) g5
  generalize pdq ltInt d4 (mid + 1) q.b lim' true true = L at hp hstep
  have hL := (g7 L hp.1 hp.2).1
  have hLs := hp.1.1
  refine ⟨⟨q.a, mid, lim', decide (q.b - mid ≥ (q.b - q.a) / 8), ap, L⟩, ⟨by simp; omega, g1, by simp; omega, hlm', hL, by simp; omega, hstep.symm⟩, by simp; omega, ?_⟩
  refine Weak.list [(i0, .old i0, arow n L)] rfl (by rfl) ?_ (.old rfl (BLe.refl _) .nil)
  ((repeat' first | exact TLes.nil | refine tE rfl ?_ | refine TLes.cons (TLe.bool ?_) ?_); skip)
  all_goals
   rw [Int.tdiv_eq_ediv_of_nonneg (by omega), Zal (x := ((q.b - q.a : Nat) : Int) / 8) (by omega) (by omega), Zal (by omega) (by omega), decide_eq_decide]
   omega
end Go.Proofs.YtoelbgjpmpoolaaGreat
namespace Go.Proofs
open Go.Shelf
def Tryz.lays125_ren : Go.Shelf.Ren := ⟨fun | 125 => 201 | 128 => 219 | 129 => 220 | n => n, fun | 46 => 222 | 3 => 3 | 51 => 236 | 53 => 226 | 4 => 4 | 5 => 5 | 9 => 9 | n => n, fun | n => n⟩
theorem Tryz.lays125 : Go.Proofs.Lays.n125 Tryz.prog Tryz.lays125_ren := {
 mixed := by kernel_rfl
 f125 := Tryz.func201.trans (congrArg some (by kernel_rfl))
 f128 := Tryz.func219.trans (congrArg some (by kernel_rfl))
 f129 := Tryz.func220.trans (congrArg some (by kernel_rfl))
 t3 := Tryz.underlying3
 a3 := Tryz.isAgg3
 z3 := Tryz.sizeOf3
 v3 := Tryz.zeroValue3
 t4 := Tryz.underlying4
 a4 := Tryz.isAgg4
 z4 := Tryz.sizeOf4
 v4 := Tryz.zeroValue4
 t5 := Tryz.underlying5
 a5 := Tryz.isAgg5
 z5 := Tryz.sizeOf5
 v5 := Tryz.zeroValue5
 t9 := Tryz.underlying9
 a9 := Tryz.isAgg9
 z9 := Tryz.sizeOf9
 v9 := Tryz.zeroValue9
 t46 := Tryz.underlying222
 a46 := Tryz.isAgg222
 z46 := Tryz.sizeOf222
 v46 := Tryz.zeroValue222
 t51 := Tryz.underlying236
 a51 := Tryz.isAgg236
 z51 := Tryz.sizeOf236
 v51 := Tryz.zeroValue236
 t53 := Tryz.underlying226
 a53 := Tryz.isAgg226
 z53 := Tryz.sizeOf226
 v53 := Tryz.zeroValue226 }
end Go.Proofs
namespace Go.Proofs.YtoelbgjpmpoolaaGreat
open Go Dv Go.Sort Go.Shelf
set_option maxRecDepth 10000
set_option linter.unusedSimpArgs false
theorem c_Len (x : Nat) (hx : x < 4611686018427387904) : FC Tryz.prog 201 [.int .u64 x] (iv (bitsLen x)) := by
 refine ⟨⟨_, Tryz.func201, rfl, by decide +kernel⟩, fun X w vals _ hV => ?_⟩
 simp only [Vs, V] at hV
 obtain ⟨v, r, rfl, ⟨rfl, _⟩, rfl⟩ := hV
 refine (Any.bits_Len Tryz.lays125 (x : Int) w (by omega) (by omega)).mono ?_
 rintro e w' ⟨he, rfl⟩
 rw [Int.toNat_natCast, Go.Proofs.bitLen_eq _ (by omega)] at he
 refine ⟨_, he, Fr.refl _ _, ?_⟩
 simp only [V]
 have := (bitsLen_le_iff x 62).2 (by omega)
 refine ⟨trivial, ?_, ?_⟩ <;> simp [IntKind.min, IntKind.max, IntKind.signed, IntKind.bits] <;> omega
theorem c_nextPow (L : Nat) (hL : L < 4611686018427387904) : FC Tryz.prog 224 [iv L] (.int .u64 ((1 <<< bitsLen L : Nat) : Int)) := by
 refine Zan tok Tryz.func224 rfl (by decide +kernel) (nB rfl) ?_
 (repeat' first | refine Zad ?_ | (refine Zaa tok (by rfl) ?_; conv => whnf))
 have hcall : ∀ z : Int, z = (L : Int) → FC Tryz.prog 201 [.int .u64 z] (iv (bitsLen L)) := fun z e => e ▸ c_Len L hL
 refine .inl ⟨_, _, _, uG (QC.fc (hcall _ (by rw [IntKind.wrap_u64]; omega)) rfl), ?_⟩
 conv => whnf
 ((repeat' first | (refine Zah ?_; conv => whnf) | (refine uA ?_ ?_; rotate_left; (conv => whnf); rotate_right)); all_goals (try ((guard_target = Zac _ _ _ _); refine Zae ?_; all_goals omega)))
 have hk : bitsLen L ≤ 62 := (bitsLen_le_iff L 62).2 (by omega)
 refine ⟨_, rfl, Rel.int ?_⟩
 show IntKind.u64.wrap (1 * 2 ^ (min (bitsLen L : Int).toNat 64)) = _
 rw [Int.toNat_natCast, Nat.min_eq_left (by omega), Int.one_mul]
 exact Go.Proofs.wrap_two_pow (bitsLen L) hk
def g1 (y : Int) : Int := bitsI .xor .u64 y (y.fdiv (2 ^ (min (7 : Int).toNat IntKind.u64.bits)))
def g2 (y : Int) : Int := bitsI .xor .u64 y (IntKind.u64.wrap (y * 2 ^ (min (17 : Int).toNat IntKind.u64.bits)))
abbrev urow (r : Nat) : Zau := .row true 1 1 (fun _ => [.int .u64 r])
theorem c_Next (X : Nat) (hX : X < 18446744073709551616) : HC Tryz.prog [i0] 225 [(i0, urow X)] [.bp i0 0] (.int .u64 (xorNextN X)) [(i0, urow (xorNextN X))] := by
 refine Zcd tok Tryz.func225 rfl (by decide +kernel) (nB rfl) ?_
 obtain ⟨A, hA⟩ : ∃ A : Nat, A = X ^^^ (X * 8192 % 18446744073709551616) := ⟨_, rfl⟩
 obtain ⟨B, hB⟩ : ∃ B : Nat, B = A ^^^ (A / 128) := ⟨_, rfl⟩
 obtain ⟨C, hC⟩ : ∃ C : Nat, C = B ^^^ (B * 131072 % 18446744073709551616) := ⟨_, rfl⟩
 have lA : A < 18446744073709551616 := by rw [hA]; exact Nat.xor_lt_two_pow (n := 64) (by omega) (by omega)
 have lB : B < 18446744073709551616 := by rw [hB]; exact Nat.xor_lt_two_pow (n := 64) (by omega) (by omega)
 have e1 : Go.bits .xor .u64 (X : Int) (IntKind.u64.wrap ((X : Int) * 8192)) = (A : Int) := by
  rw [IntKind.wrap_u64, show ((X : Int) * 8192 % 18446744073709551616) = ((X * 8192 % 18446744073709551616 : Nat) : Int) by omega, bits_xor_u64_nat _ _ hX (by omega), hA]
 have e2 : Go.bits .xor .u64 (A : Int) ((A : Int).fdiv 128) = (B : Int) := by
  rw [Int.fdiv_eq_ediv_of_nonneg _ (by omega), show ((A : Int) / 128) = ((A / 128 : Nat) : Int) by omega, bits_xor_u64_nat _ _ lA (by omega), hB]
 have e3 : Go.bits .xor .u64 (B : Int) (IntKind.u64.wrap ((B : Int) * 131072)) = (C : Int) := by
  rw [IntKind.wrap_u64, show ((B : Int) * 131072 % 18446744073709551616) = ((B * 131072 % 18446744073709551616 : Nat) : Int) by omega, bits_xor_u64_nat _ _ lB (by omega), hC]
 have hv : xorNextN X = C := by unfold xorNextN; simp only []; rw [← hA, ← hB, ← hC]
 rw [hv]
 have hE : g2 (g1 (bitsI .xor .u64 (X : Int) (IntKind.u64.wrap ((X : Int) * 2 ^ (min (13 : Int).toNat IntKind.u64.bits))))) = (C : Int) := by
  rw [show bitsI .xor .u64 (X : Int) (IntKind.u64.wrap ((X : Int) * 2 ^ (min (13 : Int).toNat IntKind.u64.bits))) = (A : Int) from e1, show g1 (A : Int) = (B : Int) from e2]
  exact e3
 ((repeat' first | refine Zad ?_ | (refine Zaa tok (by rfl) ?_; conv => whnf) | (refine Za2 tok mix (by rfl) ?_; conv => whnf) | (refine Zah ?_; conv => whnf) | (refine uA ?_ ?_; rotate_left; (conv => whnf); rotate_right)); all_goals (try ((guard_target = Zac _ _ _ _); refine Zae ?_; all_goals omega)))
 refine ⟨_, [(i0, .old i0, urow C)], rfl, rfl, rfl, rfl, .old rfl (BLe.row rfl (fun x hx => ?_)) .nil, TLe.int hE⟩
 match x, hx with
 | 0, _ => exact congrArg (fun z => [AV.int .u64 z]) hE
theorem c_break : Brk := by
 intro n d0 a b hn hab hbn
 refine Zcd tok Tryz.func231 rfl (by decide +kernel) (nB rfl) ?_
 refine Zap 0 (fun hl => ?_)
 have hl0 : n ≤ 4294967296 := hl
 obtain ⟨L, rfl⟩ : ∃ L, b = a + L := ⟨b - a, by omega⟩
 (repeat' first | refine Zad ?_ | (refine Zaa tok (by rfl) ?_; conv => whnf) | (refine Zag ?_; conv => whnf) | refine Zaf rfl (fun hb => ?_) (fun hb => ?_))
 ·have h8 : 8 ≤ L := by simp (disch := omega) only [Zal] at hb; simp only [Zac, kZ, kA, kB, mL, Zab] at *; omega
  rw [Go.Proofs.breakPatterns_eq d0 a L h8]
  obtain ⟨M, hM⟩ : ∃ M, M = 1 <<< bitsLen L := ⟨_, rfl⟩
  have hM1 : 1 ≤ M := by rw [hM, Nat.one_shiftLeft]; exact Nat.two_pow_pos _
  have hM2 : M ≤ 2 * L := by rw [hM, Nat.one_shiftLeft]; exact two_pow_bitsLen_le (by omega)
  rw [← hM]
  obtain ⟨I, hI⟩ : ∃ I, I = a + L / 4 * 2 - 1 := ⟨_, rfl⟩
  rw [← hI]
  have hnp : ∀ z : Int, z = (L : Int) → FC Tryz.prog 224 [iv z] (.int .u64 (M : Int)) := fun z e => by rw [e, hM]; exact c_nextPow L (by omega)
  refine .inl ⟨_, _, _, uG (QC.fc (hnp _ (by simp (disch := omega) only [Zal]; omega)) rfl), ?_⟩
  conv => whnf
  ((repeat' first | refine Zad ?_ | (refine Zaa tok (by rfl) ?_; conv => whnf) | refine Zaj ?_ | (refine uA ?_ ?_; rotate_left; (conv => whnf); rotate_right)); all_goals (try ((guard_target = Zac _ _ _ _); refine Zae ?_; (all_goals (try simp only [Zac, kZ, kA, kB, mL, Zab] at *)); all_goals omega)))
  obtain ⟨R0, hR0⟩ : ∃ R0, R0 = Go.Proofs.bpRest a L M I 3 0 (UInt64.ofNat L, d0) := ⟨_, rfl⟩
  rw [← hR0]
  have eL : IntKind.i64.wrap (((a + L : Nat) : Int) - (a : Int)) = (L : Int) := by rw [Zal (by omega) (by omega)]; omega
  have eQ : ((L : Int)).tdiv 4 = ((L / 4 : Nat) : Int) := by rw [Int.tdiv_eq_ediv_of_nonneg (by omega)]; omega
  have eA : IntKind.i64.wrap ((a : Int) + IntKind.i64.wrap (IntKind.i64.wrap ((L : Int).tdiv 4) * 2)) = ((I + 1 : Nat) : Int) := by
   rw [eQ, Zal (x := ((L / 4 : Nat) : Int)) (by omega) (by omega), Zal (x := ((L / 4 : Nat) : Int) * 2) (by omega) (by omega), Zal (by omega) (by omega)]; omega
  refine Za3 (fun q : Nat × UInt64 × Array Int => mkS [(0, .rs i0 1 0 n), (1, iv a), (6, iv L), (7, .bp (7, 0, 0) 0), (8, .int .u64 M), (9, iv ((I + q.1 : Nat) : Int))] [(i0, arow n q.2.2), ((7, 0, 0), urow q.2.1.toNat)])
   (fun q => q.1 ≤ 3 ∧ q.2.2.size = n ∧ Go.Proofs.bpRest a L M I (3 - q.1) q.1 (q.2.1, q.2.2) = R0) (fun q => 3 - q.1) (0, UInt64.ofNat L, d0) ⟨Nat.zero_le _, hn, hR0.symm⟩ ?_ ?_
  ·refine Weak.list [(i0, .old i0, arow n d0), ((7, 0, 0), .old (7, 0, 0), urow (UInt64.ofNat L).toNat)] rfl (by rfl) ?_ (.old rfl (BLe.refl _) (.old rfl (BLe.row rfl (fun x hx => ?_)) .nil))
   ·((repeat' first | exact TLes.nil | refine tE rfl ?_ | refine TLes.cons (TLe.int ?_) ?_); (all_goals first | ((try (simp only [Zac, kZ, kA, kB, mL, Zab] at *)); omega) | skip))
    all_goals (rw [eL, eA, Zal (by omega) (by omega)]; simp)
   ·match x, hx with
    | 0, _ =>
     show [AV.int .u64 (IntKind.u64.wrap (IntKind.i64.wrap (((a + L : Nat) : Int) - (a : Int))))] = [AV.int .u64 ((UInt64.ofNat L).toNat : Int)]
     rw [eL, IntKind.wrap_u64, UInt64.toNat_ofNat']
     simp
  clear hR0
  rintro ⟨t, r, d⟩ ⟨ht, hd, hR⟩
  simp only at ht hd hR ⊢
  ((repeat' first | refine Zad ?_ | (refine Zaa tok (by rfl) ?_; conv => whnf) | refine Zaj ?_ | (refine Zag ?_; conv => whnf) | (refine Za0 ?_; conv => whnf) | refine Zaf rfl (fun hb => ?_) (fun hb => ?_) | (refine uA ?_ ?_; rotate_left; (conv => whnf); rotate_right)); all_goals (try ((guard_target = Zac _ _ _ _); refine Zae ?_; (all_goals (try simp only [Zac, kZ, kA, kB, mL, Zab] at *)); all_goals omega)))
  ·have ht2 : t < 3 := by rw [eA, Zal (by omega) (by omega)] at hb; simp only [Zac, kZ, kA, kB, mL, Zab] at *; omega
   clear hb
   have lr := r.toNat_lt
   refine .inr ⟨_, _, _, uG (QH.of (dead := []) [(i0, .old (7, 0, 0), urow r.toNat)] (c_Next r.toNat (by omega)) rfl (.old rfl (BLe.refl _) .nil) (.cons (.eq rfl) .nil) [(i0, (7, 0, 0))] rfl (.cons rfl (BLe.refl _) .nil) rfl), ?_⟩
   conv => whnf
   (repeat' ((fail_if_success (show Rg 8)); refine Zad ?_))
   rw [← xorNext_toNat]
   obtain ⟨O, hO⟩ : ∃ O, O = (xorNext r).toNat &&& (M - 1) := ⟨_, rfl⟩
   have lO : O ≤ M - 1 := by rw [hO]; exact Nat.and_le_right
   have lx := (xorNext r).toNat_lt
   have eO : IntKind.i64.wrap (bitsI .and .u64 ((xorNext r).toNat : Int) (IntKind.u64.wrap ((M : Int) - 1))) = (O : Int) := by
    rw [IntKind.wrap_u64, show ((M : Int) - 1) % 18446744073709551616 = ((M - 1 : Nat) : Int) by omega, show bitsI .and .u64 ((xorNext r).toNat : Int) ((M - 1 : Nat) : Int) = (((xorNext r).toNat &&& (M - 1) : Nat) : Int) from bits_and_u64_nat _ _ (by omega) (by omega), ← hO, Zal (by omega) (by omega)]
   refine Zaz (Weak.list (tl := [(0, .rs i0 1 0 n), (1, iv a), (6, iv L), (7, .bp (7, 0, 0) 0), (8, .int .u64 M), (9, iv ((I + t : Nat) : Int)), (10, iv O)]) [(i0, .old i0, arow n d), ((7, 0, 0), .old (7, 0, 0), urow (xorNext r).toNat)] rfl (by rfl) ?_ (.old rfl (BLe.refl _) (.old rfl (BLe.refl _) .nil))) ?_
   ·((repeat' first | exact TLes.nil | refine tE rfl ?_ | refine TLes.cons (TLe.int ?_) ?_); (all_goals first | ((try (simp only [Zac, kZ, kA, kB, mL, Zab] at *)); omega) | skip))
   (repeat' (refine Zaa tok (by rfl) ?_; conv => whnf))
   obtain ⟨o, ho⟩ : ∃ o, o = if O ≥ L then O - L else O := ⟨_, rfl⟩
   have lo : o < L := by rw [ho]; split <;> omega
   refine Zdu (fun _ : Unit => mkS [(0, .rs i0 1 0 n), (1, iv a), (6, iv L), (7, .bp (7, 0, 0) 0), (8, .int .u64 M), (9, iv ((I + t : Nat) : Int)), (10, iv o)] [(i0, arow n d), ((7, 0, 0), urow (xorNext r).toNat)]) (fun _ => True) ?_ ?_
   ·(repeat' first | (refine Zaa tok (by rfl) ?_; conv => whnf) | (refine Zag ?_; conv => whnf) | refine Zaf rfl (fun hb => ?_) (fun hb => ?_))
    ·have h1 : O ≥ L := by simp only [Zac, kZ, kA, kB, mL, Zab] at *; omega
     rw [if_pos h1] at ho
     refine ⟨(), trivial, Weak.list [(i0, .old i0, arow n d), ((7, 0, 0), .old (7, 0, 0), urow (xorNext r).toNat)] rfl (by rfl) ?_ (.old rfl (BLe.refl _) (.old rfl (BLe.refl _) .nil))⟩
     ((repeat' first | exact TLes.nil | refine tE rfl ?_ | refine TLes.cons (TLe.int ?_) ?_); (all_goals first | ((try (simp only [Zac, kZ, kA, kB, mL, Zab] at *)); (simp (disch := omega) only [Zal]; omega)) | skip))
     all_goals (rw [ho]; simp (disch := omega) only [Zal]; omega)
    ·have h1 : ¬ O ≥ L := by simp only [Zac, kZ, kA, kB, mL, Zab] at *; omega
     rw [if_neg h1] at ho
     refine ⟨(), trivial, Weak.list [(i0, .old i0, arow n d), ((7, 0, 0), .old (7, 0, 0), urow (xorNext r).toNat)] rfl (by rfl) ?_ (.old rfl (BLe.refl _) (.old rfl (BLe.refl _) .nil))⟩
     ((repeat' first | exact TLes.nil | refine tE rfl ?_ | refine TLes.cons (TLe.int ?_) ?_); (all_goals first | ((try (simp only [Zac, kZ, kA, kB, mL, Zab] at *)); omega) | skip))
     all_goals (rw [ho])
   rintro _ _ τ hτ
   refine Zaz hτ ?_
   conv => whnf
   ((repeat' first | (refine Zaa tok (by rfl) ?_; conv => whnf) | (refine Za2 tok mix (by rfl) ?_; conv => whnf) | (refine uA ?_ ?_; rotate_left; (conv => whnf); rotate_right)); all_goals (try ((guard_target = Zac _ _ _ _); refine Zae ?_; (all_goals (try simp only [Zac, kZ, kA, kB, mL, Zab] at *)); (all_goals (try (simp (disch := omega) only [Zal]))); all_goals omega)))
   have h2 : d[0 + (IntKind.i64.wrap ((a : Int) + (o : Int))).toNat]! = d[a + o]! := by simp (disch := omega) only [Zal]; exact Za9 (by omega)
   refine ⟨(t + 1, xorNext r, swp d (I + t) (a + o)), ⟨ht2, by rw [Zb3]; exact hd, ?_⟩, by simp; omega, ?_⟩
   ·rw [← hR]; exact (Go.Proofs.bp_step a L M I t r d o ht2 (by rw [← hO]; exact ho.symm)).symm
   refine Weak.list [(i0, .old i0, arow n (swp d (I + t) (a + o))), ((7, 0, 0), .old (7, 0, 0), urow (xorNext r).toNat)] rfl (by rfl) ?_ (.old rfl (BLe.row rfl (fun x hx => ?_)) (.old rfl (BLe.refl _) .nil))
   ·((repeat' first | exact TLes.nil | refine tE rfl ?_ | refine TLes.cons (TLe.int ?_) ?_); (all_goals first | ((try (simp only [Zac, kZ, kA, kB, mL, Zab] at *)); exact Zal (by omega) (by omega)) | skip))
   ·exact Zc6 (d := d) (i := I + t) (j := a + o) (by omega) (by omega) (by omega) (by simp (disch := omega) only [Zal]; omega) h2 (Za9 (by omega)) x
  ·have ht3 : t = 3 := by rw [eA, Zal (by omega) (by omega)] at hb; simp only [Zac, kZ, kA, kB, mL, Zab] at *; omega
   subst ht3
   have hRes : R0 = d := hR.symm
   rw [hRes]
   exact ⟨_, [(i0, .old i0, arow n d)], rfl, rfl, rfl, rfl, .old rfl (BLe.refl _) .nil, .eq rfl⟩
 ·have h8 : ¬ 8 ≤ L := by simp (disch := omega) only [Zal] at hb; simp only [Zac, kZ, kA, kB, mL, Zab] at *; omega
  have : breakPatterns d0 a (a + L) = d0 := by unfold breakPatterns; simp only []; rw [if_neg (by omega)]
  rw [this]
  exact ⟨_, [(i0, .old i0, arow n d0)], rfl, rfl, rfl, rfl, .old rfl (BLe.refl _) .nil, .eq rfl⟩
end Go.Proofs.YtoelbgjpmpoolaaGreat
namespace Go.Proofs.YtoelbgjpmpoolaaGreat
open Go Dv Go.Sort
set_option maxRecDepth 10000
set_option linter.unusedSimpArgs false
theorem c_Sort (n : Nat) (d : Array Int) (hn : d.size = n) : HC Tryz.prog [i0] 204 [(i0, arow n d)] [.rs i0 1 0 n] (.tup []) [(i0, arow n (Go.Sort.sort ltInt d))] := by
 refine Zcd tok Tryz.func204 rfl (by decide +kernel) (nB rfl) ?_
 refine Zap 0 (fun hl => ?_)
 have hl0 : n ≤ 4294967296 := hl
 (repeat' first | refine Zad ?_ | (refine Zaa tok (by rfl) ?_; conv => whnf))
 have hk := (bitsLen_le_iff n 62).2 (by omega)
 have hlen : ∀ z : Int, z = (n : Int) → FC Tryz.prog 201 [.int .u64 z] (iv (bitsLen n)) := fun z e => e ▸ c_Len n (by omega)
 refine .inl ⟨_, _, _, uG (QC.fc (hlen _ (by rw [IntKind.wrap_u64]; omega)) rfl), ?_⟩
 conv => whnf
 skip
 have hp := c_pdq c_break n n d 0 n (bitsLen n) hn (Nat.zero_le _) (Nat.le_refl _) (by omega) (by omega) (Or.inl rfl)
 have he : Go.Sort.sort ltInt d = pdq ltInt d 0 n (bitsLen n) true true := by unfold Go.Sort.sort; rw [hn]
 rw [he]
 refine .inr ⟨_, _, _, uG (QH.of (dead := []) [(i0, .old i0, arow n d)] hp rfl (.old rfl (BLe.refl _) .nil) (.cons (.eq rfl) (.cons (.eq rfl) (.cons (.eq rfl) (.cons (.eq rfl) .nil)))) [(i0, i0)] rfl (.cons rfl (BLe.refl _) .nil) rfl), ?_⟩
 conv => whnf
 skip
 exact ⟨_, [(i0, .old i0, arow n (pdq ltInt d 0 n (bitsLen n) true true))], rfl, rfl, rfl, rfl, .old rfl (BLe.refl _) .nil, .eq rfl⟩
def Zdj (l : List Int) : List Int := (Go.Sort.sort ltInt l.toArray).toList
theorem sorted_len (l : List Int) : (Zdj l).length = l.length := by
 have := (sort_sorts ltInt swo_ltInt l.toArray).1.1
 simp only [Zdj, Array.length_toList, this, List.size_toArray]
theorem sorted_eq (l : List Int) : Zdj l = l.mergeSort (fun x y => decide (x ≤ y)) := sortInt l
theorem bang_list (l : List Int) (x : Nat) : l.toArray[x]! = l.getD x 0 := by
 by_cases h : x < l.length
 ·rw [getElem!_pos l.toArray x (by simpa using h), Zbl 0 h]; simp
 ·rw [getElem!_neg l.toArray x (by simpa using h), List.getD_eq_getElem?_getD, List.getElem?_eq_none (by omega)]; rfl
set_option linter.unusedSimpArgs false
def runs (d : Array Int) : Nat → Nat
 | 0 => 0
 | 1 => 1
 | j + 2 => runs d (j + 1) + if d[j + 1]! = d[j]! then 0 else 1
theorem runs_succ (d : Array Int) {j : Nat} (h : 1 ≤ j) : runs d (j + 1) = runs d j + if d[j]! = d[j - 1]! then 0 else 1 := by
 obtain ⟨j, rfl⟩ : ∃ k, j = k + 1 := ⟨j - 1, by omega⟩
 rfl
theorem runs_le (d : Array Int) : ∀ j, runs d j ≤ j
 | 0 => Nat.le_refl _
 | 1 => Nat.le_refl _
 | j + 2 => by have := runs_le d (j + 1); simp only [runs]; split <;> omega
abbrev xrow (n : Nat) : Zau := .row true 1 n (fun _ => [.any])
theorem any_row {n n' : Nat} {f : Nat → List AV} (hn : n' ≤ n) (h : ∀ i, i < n' → ∃ v, f i = [v]) : BLe (.row true 1 n f) (xrow n') := by
 refine BLe.rowW hn (fun i hi => ?_)
 obtain ⟨v, e⟩ := h i hi
 rw [e]; exact .cons .any .nil
theorem set_row {d : Array Int} {i i' : Nat} {u v : Int} (hi : i < d.size) (ei : i' = i) (eu : u = v) (x : Nat) :
  updR (fun x => [AV.int .u16 d[x]!]) i' [.int .u16 u] x = [.int .u16 (d.setIfInBounds i v)[x]!] := by
 subst ei; subst eu
 rw [bang_set _ _ _ _ hi]
 unfold updR
 cases h2 : Nat.beq i' x with
 | true => have := Nat.eq_of_beq_eq_true h2; rw [if_pos this]; rfl
 | false =>
  have n2 : i' ≠ x := fun e => by subst e; simp at h2
  rw [if_neg n2]; rfl
theorem c_Compact (n : Nat) (d : Array Int) (hn : d.size = n) : HC Tryz.prog [i0] 184 [(i0, arow n d)] [.rs i0 1 0 n] (.rs i0 1 0 (runs d n)) [(i0, xrow n)] := by
 refine Zcd tok Tryz.func184 rfl (by decide +kernel) (nB rfl) ?_
 refine Zap 0 (fun hl => ?_)
 have hl0 : n ≤ 4294967296 := hl
 (repeat' first | refine Zad ?_ | (refine Zaa tok (by rfl) ?_; conv => whnf) | refine Zaj ?_ | (refine Zag ?_; conv => whnf) | (refine Zah ?_; conv => whnf) | refine Zaf rfl (fun hb => ?_) (fun hb => ?_))
 ·have h2 : n = 0 ∨ n = 1 := by simp only [Zac, kZ, kA, kB, mL, Zab] at *; omega
  have hr : runs d n = n := by rcases h2 with rfl | rfl <;> rfl
  rw [hr]
  exact ⟨_, [(i0, .old i0, xrow n)], rfl, rfl, rfl, rfl, .old rfl (any_row (Nat.le_refl _) (fun i _ => ⟨_, rfl⟩)) .nil, .eq rfl⟩
 have hn2 : 2 ≤ n := by simp only [Zac, kZ, kA, kB, mL, Zab] at *; omega
 clear hb
 refine Za3 (fun k : Nat => mkS [(0, .rs i0 1 0 n), (2, .nsl), (3, iv k)] [(i0, arow n d)])
  (fun k => 1 ≤ k ∧ k ≤ n ∧ runs d k = k) (fun k => n - k) 1 ⟨Nat.le_refl _, by omega, rfl⟩ ?_ ?_
 ·refine Weak.list [(i0, .old i0, arow n d)] rfl (by rfl) ?_ (.old rfl (BLe.refl _) .nil)
  ((repeat' first | exact TLes.nil | refine tE rfl ?_); skip)
 rintro k ⟨hk1, hk2, hr⟩
 have hm1 : d[0 + (IntKind.i64.wrap ((k : Int) - 1)).toNat]! = d[k - 1]! := by simp (disch := omega) only [Zal]; exact Za9 (by omega)
 ((repeat' ((fail_if_success (show Rg 8)); first | refine Zad ?_ | (refine Zaa tok (by rfl) ?_; conv => whnf) | (refine Za2 tok mix (by rfl) ?_; conv => whnf) | refine Zaj ?_ | (refine Zag ?_; conv => whnf) | (refine Za0 ?_; conv => whnf) | (refine Zah ?_; conv => whnf) | refine Zaf rfl (fun hb => ?_) (fun hb => ?_) | (refine uA ?_ ?_; rotate_left; (conv => whnf); rotate_right))); all_goals (try ((guard_target = Zac _ _ _ _); refine Zae ?_; (all_goals (try simp only [Zac, kZ, kA, kB, mL, Zab] at *)); (all_goals (try (simp (disch := omega) only [Zal]))); all_goals omega)))
 ·have hlt : k < n := by rename_i hx; simp only [Zac, kZ, kA, kB, mL, Zab] at *; omega
  have heq : d[k]! = d[k - 1]! := by rw [hm1] at hb; simpa using hb
  clear hb
  (repeat' first | (refine Zaa tok (by rfl) ?_; conv => whnf) | refine Zaj ?_)
  refine Za3 (fun q : (Nat × Nat) × Array Int => mkS [(0, .rs i0 1 0 n), (2, .nsl), (3, iv q.1.2), (4, .rs i0 1 (0 + (k : Int).toNat) (n - k)), (5, iv q.1.1)] [(i0, arow n q.2)])
   (fun q => 1 ≤ q.1.1 ∧ q.1.1 ≤ n - k ∧ q.1.2 = runs d (k + q.1.1) ∧ q.2.size = n ∧ q.1.2 ≤ k + q.1.1 - 1 ∧ ∀ x, k + q.1.1 - 1 ≤ x → q.2[x]! = d[x]!) (fun q => n - k - q.1.1) ((1, k), d)
   ⟨by simp, by simp; omega, by simp only []; rw [runs_succ d hk1, if_pos heq, hr]; rfl, hn, by simp, fun _ _ => rfl⟩ ?_ ?_
  ·refine Weak.list [(i0, .old i0, arow n d)] rfl (by rfl) ?_ (.old rfl (BLe.refl _) .nil)
   ((repeat' first | exact TLes.nil | refine tE rfl ?_); skip)
  rintro ⟨⟨j, i⟩, e⟩ ⟨hj1, hj2, hi, he, hij, hx⟩
  simp only at hj1 hj2 hi he hij hx ⊢
  ((repeat' first | refine Zad ?_ | (refine Zaa tok (by rfl) ?_; conv => whnf) | (refine Za2 tok mix (by rfl) ?_; conv => whnf) | refine Zaj ?_ | (refine Zag ?_; conv => whnf) | (refine Za0 ?_; conv => whnf) | (refine Zah ?_; conv => whnf) | refine Zaf rfl (fun hb => ?_) (fun hb => ?_) | (refine uA ?_ ?_; rotate_left; (conv => whnf); rotate_right)); all_goals (try ((guard_target = Zac _ _ _ _); refine Zae ?_; (all_goals (try simp only [Zac, kZ, kA, kB, mL, Zab] at *)); (all_goals (try (simp (disch := omega) only [Zal]))); all_goals omega)))
  ·have hlt2 : j < n - k := by rename_i h1; simp only [Zac, kZ, kA, kB, mL, Zab] at *; omega
   have hv1 : e[0 + (k : Int).toNat + (j : Int).toNat]! = d[k + j]! := by rw [Za9 (i := k + j) (by omega)]; exact hx _ (by omega)
   have hv2 : e[0 + (k : Int).toNat + (IntKind.i64.wrap ((j : Int) - 1)).toNat]! = d[k + j - 1]! := by rw [Zal (by omega) (by omega), Za9 (i := k + j - 1) (by omega)]; exact hx _ (by omega)
   have hne : ¬ d[k + j]! = d[k + j - 1]! := by rw [hv1, hv2] at hb; simpa using hb
   refine ⟨((j + 1, i + 1), e.setIfInBounds i d[k + j]!), ⟨by simp, by simp; omega, ?_, by simp [he], by simp; omega, fun x h2 => ?_⟩, by simp; omega, ?_⟩
   ·simp only []
    rw [show k + (j + 1) = k + j + 1 by omega, runs_succ d (by omega), if_neg hne, hi]
   ·simp only [] at h2 ⊢
    rw [bang_set _ _ _ _ (by omega), if_neg (by omega)]
    exact hx x (by omega)
   refine Weak.list [(i0, .old i0, arow n (e.setIfInBounds i d[k + j]!))] rfl (by rfl) ?_ (.old rfl (BLe.row rfl (fun x h2 => ?_)) .nil)
   ·((repeat' first | exact TLes.nil | refine tE rfl ?_ | refine TLes.cons (TLe.int ?_) ?_); (all_goals first | ((try (simp only [Zac, kZ, kA, kB, mL, Zab] at *)); exact Zal (by omega) (by omega)) | skip))
   ·exact set_row (d := e) (i := i) (by omega) (by omega) hv1 x
  ·have hlt2 : j < n - k := by rename_i h1; simp only [Zac, kZ, kA, kB, mL, Zab] at *; omega
   have hv1 : e[0 + (k : Int).toNat + (j : Int).toNat]! = d[k + j]! := by rw [Za9 (i := k + j) (by omega)]; exact hx _ (by omega)
   have hv2 : e[0 + (k : Int).toNat + (IntKind.i64.wrap ((j : Int) - 1)).toNat]! = d[k + j - 1]! := by rw [Zal (by omega) (by omega), Za9 (i := k + j - 1) (by omega)]; exact hx _ (by omega)
   have hne : d[k + j]! = d[k + j - 1]! := by rw [hv1, hv2] at hb; simpa using hb
   refine ⟨((j + 1, i), e), ⟨by simp, by simp; omega, ?_, he, by simp; omega, fun x h2 => hx x (by simp at h2; omega)⟩, by simp; omega, ?_⟩
   ·simp only []
    rw [show k + (j + 1) = k + j + 1 by omega, runs_succ d (by omega), if_pos hne, hi]; rfl
   refine Weak.list [(i0, .old i0, arow n e)] rfl (by rfl) ?_ (.old rfl (BLe.refl _) .nil)
   ((repeat' first | exact TLes.nil | refine tE rfl ?_ | refine TLes.cons (TLe.int ?_) ?_); (all_goals first | ((try (simp only [Zac, kZ, kA, kB, mL, Zab] at *)); exact Zal (by omega) (by omega)) | skip))
  ·have hj : j = n - k := by simp only [Zac, kZ, kA, kB, mL, Zab] at *; omega
   have hin : i = runs d n := by rw [hi, hj]; congr 1; omega
   refine ⟨_, [(i0, .old i0, xrow n)], rfl, rfl, rfl, rfl, .old rfl (any_row (Nat.le_refl _) (fun x h2 => ?_)) .nil, TLe.rsL rfl (by rw [← hin]; simp)⟩
   show ∃ v, (bif inRow (0 + (i : Int).toNat) ((n : Int).toNat - (i : Int).toNat) x then [AV.int .u16 0] else [AV.int .u16 e[x]!]) = [v]
   cases inRow (0 + (i : Int).toNat) ((n : Int).toNat - (i : Int).toNat) x <;> exact ⟨_, rfl⟩
 ·have hlt : k < n := by rename_i hx; simp only [Zac, kZ, kA, kB, mL, Zab] at *; omega
  have heq : ¬ d[k]! = d[k - 1]! := by rw [hm1] at hb; simpa using hb
  refine ⟨k + 1, ⟨by omega, by omega, by rw [runs_succ d hk1, if_neg heq, hr]⟩, by omega, ?_⟩
  refine Weak.list [(i0, .old i0, arow n d)] rfl (by rfl) ?_ (.old rfl (BLe.refl _) .nil)
  ((repeat' first | exact TLes.nil | refine tE rfl ?_ | refine TLes.cons (TLe.int ?_) ?_); (all_goals first | ((try (simp only [Zac, kZ, kA, kB, mL, Zab] at *)); exact Zal (by omega) (by omega)) | skip))
 ·have hkn : k = n := by simp only [Zac, kZ, kA, kB, mL, Zab] at *; omega
  rw [← hkn, hr, hkn]
  exact ⟨_, [(i0, .old i0, xrow n)], rfl, rfl, rfl, rfl, .old rfl (any_row (Nat.le_refl _) (fun i _ => ⟨_, rfl⟩)) .nil, .eq rfl⟩
theorem runs_all {l : List Int} (hs : ∀ i j, i < j → j < l.length → l.getD i 0 ≤ l.getD j 0) : ∀ j, j ≤ l.length → (runs l.toArray j = j ↔ ∀ x, x < j → ∀ y, y < x → l.getD y 0 ≠ l.getD x 0)
 | 0, _ => ⟨fun _ x h => by omega, fun _ => rfl⟩
 | 1, _ => ⟨fun _ x h y h2 => by omega, fun _ => rfl⟩
 | j + 2, hj => by
   have ih := runs_all hs (j + 1) (by omega)
   have hle := runs_le l.toArray (j + 1)
   simp only [runs, bang_list]
   constructor
   ·intro h
    split at h
    ·omega
    ·rename_i hne
     have hall := ih.1 (by omega)
     intro x hx y hy
     by_cases e : x = j + 1
     ·subst e
      by_cases e2 : y = j
      ·subst e2; exact fun h3 => hne h3.symm
      ·have h1 := hs y j (by omega) (by omega)
       have h2 := hs j (j + 1) (by omega) (by omega)
       omega
     ·exact hall x (by omega) y hy
   ·intro h
    rw [if_neg (fun h3 => h (j + 1) (by omega) j (by omega) h3.symm)]
    have := ih.2 (fun x hx y hy => h x (by omega) y hy)
    omega
end Go.Proofs.YtoelbgjpmpoolaaGreat
namespace Go.Proofs.YtoelbgjpmpoolaaGreat
open Go Dv
set_option maxRecDepth 10000
set_option linter.unusedSimpArgs false
def encL (m : Zak) (f : Func) : List AV := Zao m ++ Za1 f
theorem c_IdxInt {g : FuncId} {cap : List AV} {p : Int → Bool} (hi : Zb6 cap = true) (hg : ∀ k, FC Tryz.prog g (iv k :: cap) (.bool (p k))) (l : List Int) : FC Tryz.prog 169 [ints l, .fn g cap] (iv (idxG p l)) := by
 refine Zan tok Tryz.func169 rfl (by decide +kernel) (nB rfl) ?_
 refine Zap 0 (fun hl => ?_)
 have hl0 : l.length ≤ mL := hl.1
 (repeat' first | refine Zad ?_ | (refine Zaa tok (by rfl) ?_; conv => whnf) | refine Zaj ?_)
 refine Za3 (fun i : Nat => mkS [(0, ints l), (1, .fn g cap), (7, iv l.length), (8, iv i)] [])
  (fun i => i ≤ l.length ∧ ∀ j, j < i → p (l.getD j 0) = false) (fun i => l.length - i) 0 ⟨Nat.zero_le _, by simp⟩ ?_ ?_
 ·refine Weak.list [] rfl (by rfl) ?_ .nil
  ((repeat' first | exact TLes.nil | refine tE rfl ?_ | refine TLes.cons (TLe.fn (by assumption)) ?_); skip)
 rintro i ⟨hi2, hc⟩
 ((repeat' first | refine Zad ?_ | (refine Zaa tok (by rfl) ?_; conv => whnf) | refine Zaj ?_ | (refine Zag ?_; conv => whnf) | (refine Za0 ?_; conv => whnf) | (refine Zah ?_; conv => whnf) | (refine (Zci _ _).mpr ?_; conv => whnf) | refine Zaf rfl (fun hb => ?_) (fun hb => ?_) | (refine uA ?_ ?_; rotate_left; (conv => whnf); rotate_right)); all_goals (try ((guard_target = Zac _ _ _ _); refine Zae ?_; (all_goals (try simp only [Zac, kZ, kA, kB, mL, Zab] at *)); all_goals omega)))
 ·have hlt : i < l.length := by simp only [Zac, kZ, kA, kB, mL, Zab] at *; omega
  refine .inl ⟨_, _, _, uG (QC.fc (hg _) (immDs_app (xs := [_]) rfl hi)), ?_⟩
  conv => whnf
  (repeat' first | refine Zad ?_ | (refine Zaa tok (by rfl) ?_; conv => whnf) | (refine Zag ?_; conv => whnf) | (refine Zah ?_; conv => whnf) | refine Zaf rfl (fun hb => ?_) (fun hb => ?_))
  ·refine ⟨_, rfl, Rel.int ?_⟩
   exact (idxG_at 0 hlt hc (by simpa using hb)).symm
  ·refine ⟨i + 1, ⟨hlt, fun j hj => ?_⟩, by omega, ?_⟩
   ·by_cases e : j = i
    ·subst e; simpa using hb
    ·exact hc j (by omega)
   refine Weak.list [] rfl (by rfl) ?_ .nil
   ((repeat' first | exact TLes.nil | refine tE rfl ?_ | refine TLes.cons (TLe.int ?_) ?_ | refine TLes.cons (TLe.fn (by assumption)) ?_); (all_goals first | ((try (simp only [Zac, kZ, kA, kB, mL, Zab] at *)); exact Zal (by omega) (by omega)) | skip))
 ·refine ⟨_, rfl, Rel.int ?_⟩
  exact (idxG_none 0 (fun j hj => hc j (by simp only [Zac, kZ, kA, kB, mL, Zab] at *; omega))).symm
theorem c_HasInt {g : FuncId} {cap : List AV} {p : Int → Bool} (hi : Zb6 cap = true) (hg : ∀ k, FC Tryz.prog g (iv k :: cap) (.bool (p k))) (l : List Int) : FC Tryz.prog 206 [ints l, .fn g cap] (.bool (l.any p)) := by
 refine Zan tok Tryz.func206 rfl (by decide +kernel) (nB rfl) ?_
 (repeat' first | refine Zad ?_ | (refine Zaa tok (by rfl) ?_; conv => whnf) | (refine (Zci _ _).mpr ?_; conv => whnf))
 refine .inl ⟨_, _, _, uG (QC.fc (c_IdxInt hi hg l) (show Zb6 [ints l, AV.fn g cap] = true from by simp [Zb6, immD, ints, hi])), ?_⟩
 conv => whnf
 (repeat' (refine Zah ?_; conv => whnf))
 refine ⟨_, rfl, Rel.bool ?_⟩
 rw [← idxG_any]
theorem c_place (m : Zak) (f : Func) (n : Int) : FC Tryz.prog 183 [.agg (encL m f), iv n] (.bool (inn n f.regs)) := by
 refine Zan tok Tryz.func183 rfl (by decide +kernel) (nB rfl) ?_
 (repeat' first | refine Zad ?_ | (refine Zaa tok (by rfl) ?_; conv => whnf) | (refine Zah ?_; conv => whnf))
 exact ⟨_, rfl, Rel.imm rfl⟩
theorem c_lgoal (m : Zak) (f : Func) (n : Int) : FC Tryz.prog 185 [.agg (encL m f), iv n] (.bool (goalB f n)) := by
 refine Zan tok Tryz.func185 rfl (by decide +kernel) (nB rfl) ?_
 ((repeat' first | refine Zad ?_ | (refine Zaa tok (by rfl) ?_; conv => whnf) | (refine Zah ?_; conv => whnf) | (refine uA ?_ ?_; rotate_left; (conv => whnf); rotate_right)); all_goals (try ((guard_target = Zac _ _ _ _); ((refine Za7 ?_; intro hgd; (conv at hgd => whnf))); (all_goals (try simp only [Zac, kZ, kA, kB, mL, Zab] at *)); all_goals omega)))
 exact ⟨_, rfl, Rel.imm rfl⟩
def landB (f : Func) (n : Int) : Bool := bif inn n f.blocks.length then (f.blocks.getD n.toNat default).landing else false
theorem c_landing (m : Zak) (f : Func) (n : Int) : FC Tryz.prog 187 [.agg (encL m f), iv n] (.bool (landB f n)) := by
 refine Zan tok Tryz.func187 rfl (by decide +kernel) (nB rfl) ?_
 ((repeat' first | refine Zad ?_ | (refine Zaa tok (by rfl) ?_; conv => whnf) | (refine Zah ?_; conv => whnf) | (refine uA ?_ ?_; rotate_left; (conv => whnf); rotate_right)); all_goals (try ((guard_target = Zac _ _ _ _); ((refine Za7 ?_; intro hgd; (conv at hgd => whnf))); (all_goals (try simp only [Zac, kZ, kA, kB, mL, Zab] at *)); all_goals omega)))
 exact ⟨_, rfl, Rel.imm rfl⟩
theorem c_call1 (m : Zak) (f : Func) (k : Int) : FC Tryz.prog 207 [iv k, .ip (encL m f)] (.bool (!inn k f.regs)) := by
 refine Zan tok Tryz.func207 rfl (by decide +kernel) (nB rfl) ?_
 (repeat' first | refine Zad ?_ | (refine Zaa tok (by rfl) ?_; conv => whnf))
 refine .inl ⟨_, _, _, uG (QC.fc (c_place m f k) rfl), ?_⟩
 conv => whnf
 (repeat' (refine Zah ?_; conv => whnf))
 exact ⟨_, rfl, Rel.imm rfl⟩
theorem c_lcall (m : Zak) (f : Func) (n : Int) (l : List Int) : FC Tryz.prog 186 [.agg (encL m f), iv n, ints l] (.bool (Zdq m f n l)) := by
 refine Zan tok Tryz.func186 rfl (by decide +kernel) (nB rfl) ?_
 ((repeat' first | refine Zad ?_ | (refine Zaa tok (by rfl) ?_; conv => whnf) | (refine Zag ?_; conv => whnf) | (refine Zah ?_; conv => whnf) | refine Zaf rfl (fun hb => ?_) (fun hb => ?_) | (refine uA ?_ ?_; rotate_left; (conv => whnf); rotate_right)); all_goals (try ((guard_target = Zac _ _ _ _); ((refine Za7 ?_; intro hgd; (conv at hgd => whnf))); (all_goals (try simp only [Zac, kZ, kA, kB, mL, Zab] at *)); all_goals omega)))
 ·refine ⟨_, rfl, Rel.bool ?_⟩
  unfold Zdq inn
  by_cases h0 : n < 0
  ·rw [decide_eq_false (show ¬ 0 ≤ n by omega)]; rfl
  ·by_cases h1 : (m.funcs.length : Int) ≤ n
   ·rw [decide_eq_false (show ¬ n < (m.funcs.length : Int) by omega)]; cases decide (0 ≤ n) <;> rfl
   ·rw [decide_eq_false h0, decide_eq_false h1] at hb
    simp only [cond_false, Bool.not_eq_eq_eq_not, Bool.not_true] at hb
    rw [hb]; cases decide (0 ≤ n) <;> cases decide (n < (m.funcs.length : Int)) <;> rfl
 have hh := c_HasInt (g := 207) (cap := [.ip (encL m f)]) (p := fun k => !inn k f.regs) rfl (fun k => c_call1 m f k) l
 refine .inl ⟨_, _, _, uG (QC.sc (rd := [Zc4 (some 3)]) hh (.i (.cons (.fn (.cons (.ip rfl (List.mem_singleton.2 rfl) (by decide) (Ress.imms rfl)) .nil)) .nil)) rfl), ?_⟩
 conv => whnf
 (repeat' (refine Zah ?_; conv => whnf))
 refine ⟨_, rfl, Rel.bool ?_⟩
 have h0 : ¬ n < 0 := by intro h0; rw [decide_eq_true h0] at hb; cases hb
 rw [decide_eq_false h0] at hb
 have h1 : ¬ (m.funcs.length : Int) ≤ n := by intro h1; rw [decide_eq_true h1] at hb; cases hb
 rw [decide_eq_false h1] at hb
 simp only [cond_false, Bool.not_eq_eq_eq_not, Bool.not_false] at hb
 unfold Zdq
 rw [show inn n m.funcs.length = true from (Zab _ _).2 ⟨by omega, by omega⟩, hb]
 simp only [cond_true]
 rw [List.not_any_eq_all_not]
 simp
set_option linter.unusedSimpArgs false
theorem c_EqualI (l k : List Int) : FC Tryz.prog 208 [ints l, ints k] (.bool (decide (l = k))) := by
 refine Zan tok Tryz.func208 rfl (by decide +kernel) (nB rfl) ?_
 refine Zap 0 (fun hl => ?_)
 have hl0 : l.length ≤ mL := hl.1
 (repeat' first | refine Zad ?_ | (refine Zaa tok (by rfl) ?_; conv => whnf) | refine Zaj ?_ | (refine Zag ?_; conv => whnf) | (refine Zah ?_; conv => whnf) | refine Zaf rfl (fun hb => ?_) (fun hb => ?_))
 ·refine ⟨_, rfl, Rel.bool ?_⟩
  simp only [Zac, kZ, kA, kB, mL, Zab] at *
  symm; rw [decide_eq_false_iff_not]
  intro e; rw [e] at hb; exact hb rfl
 have hlen : l.length = k.length := by simp only [Zac, kZ, kA, kB, mL, Zab] at *; omega
 refine Za3 (fun i : Nat => mkS [(0, ints l), (1, ints k), (4, .bool false), (12, iv l.length), (13, iv i)] []) (fun i => i ≤ l.length ∧ ∀ j, j < i → l.getD j 0 = k.getD j 0) (fun i => l.length - i) 0 ⟨Nat.zero_le _, by simp⟩ ?_ ?_
 ·refine Weak.list [] rfl (by rfl) ?_ .nil
  ((repeat' first | exact TLes.nil | refine tE rfl ?_); skip)
 rintro i ⟨hi, hc⟩
 ((repeat' first | refine Zad ?_ | (refine Zaa tok (by rfl) ?_; conv => whnf) | (refine Za2 tok mix (by rfl) ?_; conv => whnf) | refine Zaj ?_ | (refine Zag ?_; conv => whnf) | (refine Za0 ?_; conv => whnf) | (refine Zah ?_; conv => whnf) | refine Zaf rfl (fun hb => ?_) (fun hb => ?_) | (refine uA ?_ ?_; rotate_left; (conv => whnf); rotate_right)); all_goals (try ((guard_target = Zac _ _ _ _); refine Zae ?_; (all_goals (try simp only [Zac, kZ, kA, kB, mL, Zab] at *)); all_goals omega)))
 all_goals simp only [Zac, kZ, kA, kB, mL, Zab] at *
 ·refine ⟨_, rfl, Rel.bool ?_⟩
  symm; rw [decide_eq_false_iff_not]
  intro e; subst e; exact hb rfl
 ·refine ⟨i + 1, ⟨by omega, fun j hj => ?_⟩, by omega, ?_⟩
  ·by_cases e : j = i
   ·subst e; exact hb
   ·exact hc j (by omega)
  refine Weak.list [] rfl (by rfl) ?_ .nil
  ((repeat' first | exact TLes.nil | refine tE rfl ?_ | refine TLes.cons (TLe.int ?_) ?_); (all_goals first | (exact Zal (by omega) (by omega)) | skip))
 ·refine ⟨_, rfl, Rel.bool ?_⟩
  symm; rw [decide_eq_true_eq]
  exact Zbk 0 hlen (fun j hj => hc j (by omega))
theorem c_EqualU (l k : List Int) : FC Tryz.prog 202 [u16s l, u16s k] (.bool (decide (l = k))) := by
 refine Zan tok Tryz.func202 rfl (by decide +kernel) (nB rfl) ?_
 refine Zap 0 (fun hl => ?_)
 have hl0 : l.length ≤ mL := hl.1
 (repeat' first | refine Zad ?_ | (refine Zaa tok (by rfl) ?_; conv => whnf) | refine Zaj ?_ | (refine Zag ?_; conv => whnf) | (refine Zah ?_; conv => whnf) | refine Zaf rfl (fun hb => ?_) (fun hb => ?_))
 ·refine ⟨_, rfl, Rel.bool ?_⟩
  simp only [Zac, kZ, kA, kB, mL, Zab] at *
  symm; rw [decide_eq_false_iff_not]
  intro e; rw [e] at hb; exact hb rfl
 have hlen : l.length = k.length := by simp only [Zac, kZ, kA, kB, mL, Zab] at *; omega
 refine Za3 (fun i : Nat => mkS [(0, u16s l), (1, u16s k), (4, .bool false), (12, iv l.length), (13, iv i)] []) (fun i => i ≤ l.length ∧ ∀ j, j < i → l.getD j 0 = k.getD j 0) (fun i => l.length - i) 0 ⟨Nat.zero_le _, by simp⟩ ?_ ?_
 ·refine Weak.list [] rfl (by rfl) ?_ .nil
  ((repeat' first | exact TLes.nil | refine tE rfl ?_); skip)
 rintro i ⟨hi, hc⟩
 ((repeat' first | refine Zad ?_ | (refine Zaa tok (by rfl) ?_; conv => whnf) | (refine Za2 tok mix (by rfl) ?_; conv => whnf) | refine Zaj ?_ | (refine Zag ?_; conv => whnf) | (refine Za0 ?_; conv => whnf) | (refine Zah ?_; conv => whnf) | refine Zaf rfl (fun hb => ?_) (fun hb => ?_) | (refine uA ?_ ?_; rotate_left; (conv => whnf); rotate_right)); all_goals (try ((guard_target = Zac _ _ _ _); refine Zae ?_; (all_goals (try simp only [Zac, kZ, kA, kB, mL, Zab] at *)); all_goals omega)))
 all_goals simp only [Zac, kZ, kA, kB, mL, Zab] at *
 ·refine ⟨_, rfl, Rel.bool ?_⟩
  symm; rw [decide_eq_false_iff_not]
  intro e; subst e; exact hb rfl
 ·refine ⟨i + 1, ⟨by omega, fun j hj => ?_⟩, by omega, ?_⟩
  ·by_cases e : j = i
   ·subst e; exact hb
   ·exact hc j (by omega)
  refine Weak.list [] rfl (by rfl) ?_ .nil
  ((repeat' first | exact TLes.nil | refine tE rfl ?_ | refine TLes.cons (TLe.int ?_) ?_); (all_goals first | (exact Zal (by omega) (by omega)) | skip))
 ·refine ⟨_, rfl, Rel.bool ?_⟩
  symm; rw [decide_eq_true_eq]
  exact Zbk 0 hlen (fun j hj => hc j (by omega))
theorem c_sameIns (x y : Ins) : FC Tryz.prog 189 [.agg (Zax x), .agg (Zax y)] (.bool (decide (x = y))) := by
 refine Zan tok Tryz.func189 rfl (by decide +kernel) (nB rfl) ?_
 (repeat' first | refine Zad ?_ | (refine Zaa tok (by rfl) ?_; conv => whnf))
 refine .inl ⟨_, _, _, uG (QC.fc (c_EqualI x.args y.args) rfl), ?_⟩
 conv => whnf
 (repeat' (refine Zah ?_; conv => whnf))
 refine ⟨_, rfl, Rel.bool ?_⟩
 obtain ⟨a1, a2, a3, a4, a5, a6, a7⟩ := x
 obtain ⟨b1, b2, b3, b4, b5, b6, b7⟩ := y
 rw [Bool.eq_iff_iff]
 simp [and_assoc]
theorem c_sameEnd (x y : End) : FC Tryz.prog 188 [.agg (Zdi x), .agg (Zdi y)] (.bool (decide (x = y))) := by
 refine Zan tok Tryz.func188 rfl (by decide +kernel) (nB rfl) ?_
 (repeat' first | refine Zad ?_ | (refine Zaa tok (by rfl) ?_; conv => whnf))
 refine .inl ⟨_, _, _, uG (QC.fc (c_EqualI x.args y.args) rfl), ?_⟩
 conv => whnf
 (repeat' (refine Zah ?_; conv => whnf))
 refine ⟨_, rfl, Rel.bool ?_⟩
 obtain ⟨a1, a2, a3, a4, a5, a6, a7, a8⟩ := x
 obtain ⟨b1, b2, b3, b4, b5, b6, b7, b8⟩ := y
 rw [Bool.eq_iff_iff]
 simp [and_assoc]
theorem c_samePad (x y : Pad) : FC Tryz.prog 180 [.agg (Zc1 x), .agg (Zc1 y)] (.bool (decide (x = y))) := by
 refine Zan tok Tryz.func180 rfl (by decide +kernel) (nB rfl) ?_
 (repeat' first | refine Zad ?_ | (refine Zaa tok (by rfl) ?_; conv => whnf))
 refine .inl ⟨_, _, _, uG (QC.fc (c_EqualU x.catch_ y.catch_) rfl), ?_⟩
 conv => whnf
 (repeat' (refine Zah ?_; conv => whnf))
 refine ⟨_, rfl, Rel.bool ?_⟩
 obtain ⟨a1, a2, a3, a4⟩ := x
 obtain ⟨b1, b2, b3, b4⟩ := y
 rw [Bool.eq_iff_iff]
 simp [and_assoc]
set_option linter.unusedSimpArgs false
theorem ins_eq (u x : Ins) : u = x ↔ x.op = u.op ∧ x.dst = u.dst ∧ x.a = u.a ∧ x.b = u.b ∧ x.k = u.k ∧ x.f = u.f ∧ x.args = u.args := by
 rw [eq_comm (a := u)]; cases u; cases x; simp
set_option maxHeartbeats 4000000 in
theorem c_lins (m : Zak) (f : Func) (x : Ins) : FC Tryz.prog 141 [.agg (encL m f), .agg (Zax x)] (.bool (decide (InsP m f x))) := by
 refine Zan tok Tryz.func141 rfl (by decide +kernel) (nB rfl) ?_
 (repeat' ((fail_if_success (show Rg 3)); first | refine Zad ?_ | (refine Zaa tok (by rfl) ?_; conv => whnf)))
 refine Zaa tok (by rfl) ?_
 conv => whnf
 refine Zdu (fun q : Ins × Bool => mkS [(2, .bp (2, 0, 0) 0), (3, .bp (3, 0, 0) 0), (4, .bool false), (5, .bp (5, 0, 0) 0), (6, .bool q.2)] [((2, 0, 0), Zam (encL m f)), ((3, 0, 0), Zam (Zax x)), ((5, 0, 0), .row true 7 1 (fun _ => Zax q.1))]) (fun q => (q.2 && decide (q.1 = x)) = decide (InsP m f x)) ?_ ?_
 ·(repeat' first | refine Zad ?_ | (refine Zaa tok (by rfl) ?_; conv => whnf) | (refine Za2 tok mix (by rfl) ?_; conv => whnf) | refine Zaj ?_ | (refine Zag ?_; conv => whnf) | (refine Zah ?_; conv => whnf) | refine Zaf rfl (fun hb => ?_) (fun hb => ?_))
  all_goals (try (exfalso; simp only [decide_eq_true_eq, decide_eq_false_iff_not] at *; omega))
  all_goals (repeat' first | (refine .inl ⟨_, _, _, uG (QC.fc (c_place m f x.dst) rfl), ?_⟩; conv => whnf) | (refine .inl ⟨_, _, _, uG (QC.fc (c_place m f x.a) rfl), ?_⟩; conv => whnf) | (refine .inl ⟨_, _, _, uG (QC.fc (c_place m f x.b) rfl), ?_⟩; conv => whnf) | (refine .inl ⟨_, _, _, uG (QC.fc (c_lcall m f x.f x.args) rfl), ?_⟩; conv => whnf))
  skip
  all_goals (have hop := hb; simp only [decide_eq_true_eq, decide_eq_false_iff_not] at hop)
  all_goals (try (first | (refine ⟨(⟨x.op, x.dst, 0, 0, x.k, 0, []⟩, inn x.dst f.regs), ?hp, Weak.list [((2, 0, 0), .old (2, 0, 0), Zam (encL m f)), ((3, 0, 0), .old (3, 0, 0), Zam (Zax x)), ((5, 0, 0), .old (5, 0, 0), .row true 7 1 (fun _ => Zax ⟨x.op, x.dst, 0, 0, x.k, 0, []⟩))] rfl (by rfl) (.cons (.eq rfl) (.cons (.eq rfl) (.cons (.eq rfl) (.cons (.eq rfl) (.cons (.eq rfl) .nil))))) (.old rfl (BLe.refl _) (.old rfl (BLe.refl _) (.old rfl (BLe.rowW (Nat.le_refl _) (fun z hz => ?row)) .nil)))⟩; (case row => (match z, hz with | 0, _ => (repeat' ((conv => arg 1; whnf); (conv => arg 2; whnf); first | refine Wks.cons .refl ?_ | refine Wks.cons (.nsl rfl) ?_ | exact Wks.nil)))); (case hp => (rw [Bool.eq_iff_iff]; simp [InsP, ins_eq, hop, and_assoc, and_comm, and_left_comm]; done))) | (refine ⟨(⟨x.op, x.dst, x.a, 0, 0, 0, []⟩, bif inn x.dst f.regs then inn x.a f.regs else false), ?hp, Weak.list [((2, 0, 0), .old (2, 0, 0), Zam (encL m f)), ((3, 0, 0), .old (3, 0, 0), Zam (Zax x)), ((5, 0, 0), .old (5, 0, 0), .row true 7 1 (fun _ => Zax ⟨x.op, x.dst, x.a, 0, 0, 0, []⟩))] rfl (by rfl) (.cons (.eq rfl) (.cons (.eq rfl) (.cons (.eq rfl) (.cons (.eq rfl) (.cons (.eq rfl) .nil))))) (.old rfl (BLe.refl _) (.old rfl (BLe.refl _) (.old rfl (BLe.rowW (Nat.le_refl _) (fun z hz => ?row)) .nil)))⟩; (case row => (match z, hz with | 0, _ => (repeat' ((conv => arg 1; whnf); (conv => arg 2; whnf); first | refine Wks.cons .refl ?_ | refine Wks.cons (.nsl rfl) ?_ | exact Wks.nil)))); (case hp => (rw [Bool.eq_iff_iff]; simp [InsP, ins_eq, hop, and_assoc, and_comm, and_left_comm]; done))) | (refine ⟨(⟨x.op, x.dst, x.a, x.b, 0, 0, []⟩, bif bif inn x.dst f.regs then inn x.a f.regs else false then inn x.b f.regs else false), ?hp, Weak.list [((2, 0, 0), .old (2, 0, 0), Zam (encL m f)), ((3, 0, 0), .old (3, 0, 0), Zam (Zax x)), ((5, 0, 0), .old (5, 0, 0), .row true 7 1 (fun _ => Zax ⟨x.op, x.dst, x.a, x.b, 0, 0, []⟩))] rfl (by rfl) (.cons (.eq rfl) (.cons (.eq rfl) (.cons (.eq rfl) (.cons (.eq rfl) (.cons (.eq rfl) .nil))))) (.old rfl (BLe.refl _) (.old rfl (BLe.refl _) (.old rfl (BLe.rowW (Nat.le_refl _) (fun z hz => ?row)) .nil)))⟩; (case row => (match z, hz with | 0, _ => (repeat' ((conv => arg 1; whnf); (conv => arg 2; whnf); first | refine Wks.cons .refl ?_ | refine Wks.cons (.nsl rfl) ?_ | exact Wks.nil)))); (case hp => (rw [Bool.eq_iff_iff]; simp [InsP, ins_eq, hop, and_assoc, and_comm, and_left_comm]; done))) | (refine ⟨(⟨x.op, 0, x.a, x.b, 0, 0, []⟩, bif inn x.a f.regs then inn x.b f.regs else false), ?hp, Weak.list [((2, 0, 0), .old (2, 0, 0), Zam (encL m f)), ((3, 0, 0), .old (3, 0, 0), Zam (Zax x)), ((5, 0, 0), .old (5, 0, 0), .row true 7 1 (fun _ => Zax ⟨x.op, 0, x.a, x.b, 0, 0, []⟩))] rfl (by rfl) (.cons (.eq rfl) (.cons (.eq rfl) (.cons (.eq rfl) (.cons (.eq rfl) (.cons (.eq rfl) .nil))))) (.old rfl (BLe.refl _) (.old rfl (BLe.refl _) (.old rfl (BLe.rowW (Nat.le_refl _) (fun z hz => ?row)) .nil)))⟩; (case row => (match z, hz with | 0, _ => (repeat' ((conv => arg 1; whnf); (conv => arg 2; whnf); first | refine Wks.cons .refl ?_ | refine Wks.cons (.nsl rfl) ?_ | exact Wks.nil)))); (case hp => (rw [Bool.eq_iff_iff]; simp [InsP, ins_eq, hop, and_assoc, and_comm, and_left_comm]; done))) | (refine ⟨(⟨x.op, x.dst, 0, 0, 0, x.f, x.args⟩, bif inn x.dst f.regs then Zdq m f x.f x.args else false), ?hp, Weak.list [((2, 0, 0), .old (2, 0, 0), Zam (encL m f)), ((3, 0, 0), .old (3, 0, 0), Zam (Zax x)), ((5, 0, 0), .old (5, 0, 0), .row true 7 1 (fun _ => Zax ⟨x.op, x.dst, 0, 0, 0, x.f, x.args⟩))] rfl (by rfl) (.cons (.eq rfl) (.cons (.eq rfl) (.cons (.eq rfl) (.cons (.eq rfl) (.cons (.eq rfl) .nil))))) (.old rfl (BLe.refl _) (.old rfl (BLe.refl _) (.old rfl (BLe.rowW (Nat.le_refl _) (fun z hz => ?row)) .nil)))⟩; (case row => (match z, hz with | 0, _ => (repeat' ((conv => arg 1; whnf); (conv => arg 2; whnf); first | refine Wks.cons .refl ?_ | exact Wks.nil)))); (case hp => (rw [Bool.eq_iff_iff]; simp [InsP, ins_eq, hop, and_assoc, and_comm, and_left_comm]; done))) | (refine ⟨(⟨x.op, 0, x.a, 0, 0, 0, []⟩, inn x.a f.regs), ?hp, Weak.list [((2, 0, 0), .old (2, 0, 0), Zam (encL m f)), ((3, 0, 0), .old (3, 0, 0), Zam (Zax x)), ((5, 0, 0), .old (5, 0, 0), .row true 7 1 (fun _ => Zax ⟨x.op, 0, x.a, 0, 0, 0, []⟩))] rfl (by rfl) (.cons (.eq rfl) (.cons (.eq rfl) (.cons (.eq rfl) (.cons (.eq rfl) (.cons (.eq rfl) .nil))))) (.old rfl (BLe.refl _) (.old rfl (BLe.refl _) (.old rfl (BLe.rowW (Nat.le_refl _) (fun z hz => ?row)) .nil)))⟩; (case row => (match z, hz with | 0, _ => (repeat' ((conv => arg 1; whnf); (conv => arg 2; whnf); first | refine Wks.cons .refl ?_ | refine Wks.cons (.nsl rfl) ?_ | exact Wks.nil)))); (case hp => (rw [Bool.eq_iff_iff]; simp [InsP, ins_eq, hop, and_assoc, and_comm, and_left_comm]; done))) | (refine ⟨(⟨x.op, x.dst, 0, 0, 0, 0, []⟩, inn x.dst f.regs), ?hp, Weak.list [((2, 0, 0), .old (2, 0, 0), Zam (encL m f)), ((3, 0, 0), .old (3, 0, 0), Zam (Zax x)), ((5, 0, 0), .old (5, 0, 0), .row true 7 1 (fun _ => Zax ⟨x.op, x.dst, 0, 0, 0, 0, []⟩))] rfl (by rfl) (.cons (.eq rfl) (.cons (.eq rfl) (.cons (.eq rfl) (.cons (.eq rfl) (.cons (.eq rfl) .nil))))) (.old rfl (BLe.refl _) (.old rfl (BLe.refl _) (.old rfl (BLe.rowW (Nat.le_refl _) (fun z hz => ?row)) .nil)))⟩; (case row => (match z, hz with | 0, _ => (repeat' ((conv => arg 1; whnf); (conv => arg 2; whnf); first | refine Wks.cons .refl ?_ | refine Wks.cons (.nsl rfl) ?_ | exact Wks.nil)))); (case hp => (rw [Bool.eq_iff_iff]; simp [InsP, ins_eq, hop, and_assoc, and_comm, and_left_comm]; done)))))
  refine ⟨_, rfl, Rel.bool ?_⟩
  simp only [decide_eq_true_eq, decide_eq_false_iff_not] at *
  symm; rw [decide_eq_false_iff_not]
  rintro (h | h | h | h | h | h | h) <;> omega
 rintro q hq τ hτ
 refine Zaz hτ ?_
 conv => whnf
 (repeat' first | refine Zad ?_ | (refine Zaa tok (by rfl) ?_; conv => whnf))
 refine .inl ⟨_, _, _, uG (QC.fc (c_sameIns q.1 x) rfl), ?_⟩
 conv => whnf
 (repeat' (refine Zah ?_; conv => whnf))
 refine ⟨_, rfl, Rel.bool ?_⟩
 rw [← hq]
 cases q.2 <;> rfl
set_option linter.unusedSimpArgs false
theorem end_eq (u x : End) : u = x ↔ x.kind = u.kind ∧ x.a = u.a ∧ x.dst = u.dst ∧ x.f = u.f ∧ x.args = u.args ∧ x.to = u.to ∧ x.els = u.els ∧ x.pad = u.pad := by
 rw [eq_comm (a := u)]; cases u; cases x; simp
set_option maxHeartbeats 4000000 in
theorem c_lend (m : Zak) (f : Func) (x : End) : FC Tryz.prog 139 [.agg (encL m f), .agg (Zdi x)] (.bool (decide (EndP m f x))) := by
 refine Zan tok Tryz.func139 rfl (by decide +kernel) (nB rfl) ?_
 (repeat' ((fail_if_success (show Rg 3)); first | refine Zad ?_ | (refine Zaa tok (by rfl) ?_; conv => whnf)))
 refine Zaa tok (by rfl) ?_
 conv => whnf
 refine Zdu (fun q : End × Bool => mkS [(2, .bp (2, 0, 0) 0), (3, .bp (3, 0, 0) 0), (4, .bool false), (5, .bp (5, 0, 0) 0), (6, .bool q.2)] [((2, 0, 0), Zam (encL m f)), ((3, 0, 0), Zam (Zdi x)), ((5, 0, 0), .row true 8 1 (fun _ => Zdi q.1))]) (fun q => (q.2 && decide (q.1 = x)) = decide (EndP m f x)) ?_ ?_
 ·(repeat' first | refine Zad ?_ | (refine Zaa tok (by rfl) ?_; conv => whnf) | (refine Za2 tok mix (by rfl) ?_; conv => whnf) | refine Zaj ?_ | (refine Zag ?_; conv => whnf) | (refine Zah ?_; conv => whnf) | refine Zaf rfl (fun hb => ?_) (fun hb => ?_))
  all_goals (try (exfalso; simp only [decide_eq_true_eq, decide_eq_false_iff_not] at *; omega))
  all_goals (repeat' first | (refine .inl ⟨_, _, _, uG (QC.fc (c_place m f x.dst) rfl), ?_⟩; conv => whnf) | (refine .inl ⟨_, _, _, uG (QC.fc (c_place m f x.a) rfl), ?_⟩; conv => whnf) | (refine .inl ⟨_, _, _, uG (QC.fc (c_lgoal m f x.to) rfl), ?_⟩; conv => whnf) | (refine .inl ⟨_, _, _, uG (QC.fc (c_lgoal m f x.els) rfl), ?_⟩; conv => whnf) | (refine .inl ⟨_, _, _, uG (QC.fc (c_landing m f x.pad) rfl), ?_⟩; conv => whnf) | (refine .inl ⟨_, _, _, uG (QC.fc (c_lcall m f x.f x.args) rfl), ?_⟩; conv => whnf))
  skip
  all_goals (have hop := hb; simp only [decide_eq_true_eq, decide_eq_false_iff_not] at hop)
  all_goals (try (first | (refine ⟨(⟨x.kind, x.a, 0, 0, [], 0, 0, 0⟩, inn x.a f.regs), ?hp, Weak.list [((2, 0, 0), .old (2, 0, 0), Zam (encL m f)), ((3, 0, 0), .old (3, 0, 0), Zam (Zdi x)), ((5, 0, 0), .old (5, 0, 0), .row true 8 1 (fun _ => Zdi ⟨x.kind, x.a, 0, 0, [], 0, 0, 0⟩))] rfl (by rfl) (.cons (.eq rfl) (.cons (.eq rfl) (.cons (.eq rfl) (.cons (.eq rfl) (.cons (.eq rfl) .nil))))) (.old rfl (BLe.refl _) (.old rfl (BLe.refl _) (.old rfl (BLe.rowW (Nat.le_refl _) (fun z hz => ?row)) .nil)))⟩; (case row => (match z, hz with | 0, _ => (repeat' ((conv => arg 1; whnf); (conv => arg 2; whnf); first | refine Wks.cons .refl ?_ | refine Wks.cons (.nsl rfl) ?_ | exact Wks.nil)))); (case hp => (rw [Bool.eq_iff_iff]; simp [EndP, end_eq, hop, landB, and_assoc, and_comm, and_left_comm]; done))) | (refine ⟨(⟨x.kind, 0, 0, 0, [], x.to, 0, 0⟩, goalB f x.to), ?hp, Weak.list [((2, 0, 0), .old (2, 0, 0), Zam (encL m f)), ((3, 0, 0), .old (3, 0, 0), Zam (Zdi x)), ((5, 0, 0), .old (5, 0, 0), .row true 8 1 (fun _ => Zdi ⟨x.kind, 0, 0, 0, [], x.to, 0, 0⟩))] rfl (by rfl) (.cons (.eq rfl) (.cons (.eq rfl) (.cons (.eq rfl) (.cons (.eq rfl) (.cons (.eq rfl) .nil))))) (.old rfl (BLe.refl _) (.old rfl (BLe.refl _) (.old rfl (BLe.rowW (Nat.le_refl _) (fun z hz => ?row)) .nil)))⟩; (case row => (match z, hz with | 0, _ => (repeat' ((conv => arg 1; whnf); (conv => arg 2; whnf); first | refine Wks.cons .refl ?_ | refine Wks.cons (.nsl rfl) ?_ | exact Wks.nil)))); (case hp => (rw [Bool.eq_iff_iff]; simp [EndP, end_eq, hop, landB, and_assoc, and_comm, and_left_comm]; done))) | (refine ⟨(⟨x.kind, x.a, 0, 0, [], x.to, x.els, 0⟩, bif bif inn x.a f.regs then goalB f x.to else false then goalB f x.els else false), ?hp, Weak.list [((2, 0, 0), .old (2, 0, 0), Zam (encL m f)), ((3, 0, 0), .old (3, 0, 0), Zam (Zdi x)), ((5, 0, 0), .old (5, 0, 0), .row true 8 1 (fun _ => Zdi ⟨x.kind, x.a, 0, 0, [], x.to, x.els, 0⟩))] rfl (by rfl) (.cons (.eq rfl) (.cons (.eq rfl) (.cons (.eq rfl) (.cons (.eq rfl) (.cons (.eq rfl) .nil))))) (.old rfl (BLe.refl _) (.old rfl (BLe.refl _) (.old rfl (BLe.rowW (Nat.le_refl _) (fun z hz => ?row)) .nil)))⟩; (case row => (match z, hz with | 0, _ => (repeat' ((conv => arg 1; whnf); (conv => arg 2; whnf); first | refine Wks.cons .refl ?_ | refine Wks.cons (.nsl rfl) ?_ | exact Wks.nil)))); (case hp => (rw [Bool.eq_iff_iff]; simp [EndP, end_eq, hop, landB, and_assoc, and_comm, and_left_comm]; done))) | (refine ⟨(⟨x.kind, 0, x.dst, x.f, x.args, x.to, 0, x.pad⟩, bif bif bif inn x.dst f.regs then Zdq m f x.f x.args else false then goalB f x.to else false then landB f x.pad else false), ?hp, Weak.list [((2, 0, 0), .old (2, 0, 0), Zam (encL m f)), ((3, 0, 0), .old (3, 0, 0), Zam (Zdi x)), ((5, 0, 0), .old (5, 0, 0), .row true 8 1 (fun _ => Zdi ⟨x.kind, 0, x.dst, x.f, x.args, x.to, 0, x.pad⟩))] rfl (by rfl) (.cons (.eq rfl) (.cons (.eq rfl) (.cons (.eq rfl) (.cons (.eq rfl) (.cons (.eq rfl) .nil))))) (.old rfl (BLe.refl _) (.old rfl (BLe.refl _) (.old rfl (BLe.rowW (Nat.le_refl _) (fun z hz => ?row)) .nil)))⟩; (case row => (match z, hz with | 0, _ => (repeat' ((conv => arg 1; whnf); (conv => arg 2; whnf); first | refine Wks.cons .refl ?_ | exact Wks.nil)))); (case hp => (rw [Bool.eq_iff_iff]; simp [EndP, end_eq, hop, landB, and_assoc, and_comm, and_left_comm]; done))) | (refine ⟨(⟨x.kind, 0, 0, 0, [], 0, 0, 0⟩, true), ?hp, Weak.list [((2, 0, 0), .old (2, 0, 0), Zam (encL m f)), ((3, 0, 0), .old (3, 0, 0), Zam (Zdi x)), ((5, 0, 0), .old (5, 0, 0), .row true 8 1 (fun _ => Zdi ⟨x.kind, 0, 0, 0, [], 0, 0, 0⟩))] rfl (by rfl) (.cons (.eq rfl) (.cons (.eq rfl) (.cons (.eq rfl) (.cons (.eq rfl) (.cons (.eq rfl) .nil))))) (.old rfl (BLe.refl _) (.old rfl (BLe.refl _) (.old rfl (BLe.rowW (Nat.le_refl _) (fun z hz => ?row)) .nil)))⟩; (case row => (match z, hz with | 0, _ => (repeat' ((conv => arg 1; whnf); (conv => arg 2; whnf); first | refine Wks.cons .refl ?_ | refine Wks.cons (.nsl rfl) ?_ | exact Wks.nil)))); (case hp => (rw [Bool.eq_iff_iff]; simp [EndP, end_eq, hop, landB, and_assoc, and_comm, and_left_comm]; done)))))
  refine ⟨_, rfl, Rel.bool ?_⟩
  simp only [decide_eq_true_eq, decide_eq_false_iff_not] at *
  symm; rw [decide_eq_false_iff_not]
  rintro (h | h | h | h | h) <;> omega
 rintro q hq τ hτ
 refine Zaz hτ ?_
 conv => whnf
 (repeat' first | refine Zad ?_ | (refine Zaa tok (by rfl) ?_; conv => whnf))
 refine .inl ⟨_, _, _, uG (QC.fc (c_sameEnd q.1 x) rfl), ?_⟩
 conv => whnf
 (repeat' (refine Zah ?_; conv => whnf))
 refine ⟨_, rfl, Rel.bool ?_⟩
 rw [← hq]
 cases q.2 <;> rfl
set_option linter.unusedSimpArgs false
theorem c_IdxInsM {g : FuncId} {cap : List AV} {p : Ins → Bool} (hi : Zb6 cap = true) (l : List Ins) (hg : ∀ i, i < l.length → FC Tryz.prog g (.agg (Zax (l.getD i default)) :: cap) (.bool (p (l.getD i default)))) : FC Tryz.prog 147 [inss l, .fn g cap] (iv (idxG p l)) := by
 refine Zan tok Tryz.func147 rfl (by decide +kernel) (nB rfl) ?_
 refine Zap 0 (fun hl => ?_)
 have hl0 : l.length ≤ mL := hl.1
 (repeat' first | refine Zad ?_ | (refine Zaa tok (by rfl) ?_; conv => whnf) | refine Zaj ?_)
 refine Za3 (fun i : Nat => mkS [(0, inss l), (1, .fn g cap), (7, iv l.length), (8, iv i)] [])
  (fun i => i ≤ l.length ∧ ∀ j, j < i → p (l.getD j default) = false) (fun i => l.length - i) 0 ⟨Nat.zero_le _, by simp⟩ ?_ ?_
 ·refine Weak.list [] rfl (by rfl) ?_ .nil
  ((repeat' first | exact TLes.nil | refine tE rfl ?_ | refine TLes.cons (TLe.fn (by assumption)) ?_); skip)
 rintro i ⟨hi2, hc⟩
 ((repeat' first | refine Zad ?_ | (refine Zaa tok (by rfl) ?_; conv => whnf) | refine Zaj ?_ | (refine Zag ?_; conv => whnf) | (refine Za0 ?_; conv => whnf) | (refine Zah ?_; conv => whnf) | (refine (Zci _ _).mpr ?_; conv => whnf) | refine Zaf rfl (fun hb => ?_) (fun hb => ?_) | (refine uA ?_ ?_; rotate_left; (conv => whnf); rotate_right)); all_goals (try ((guard_target = Zac _ _ _ _); refine Zae ?_; (all_goals (try simp only [Zac, kZ, kA, kB, mL, Zab] at *)); all_goals omega)))
 ·have hlt : i < l.length := by simp only [Zac, kZ, kA, kB, mL, Zab] at *; omega
  refine .inl ⟨_, _, _, uG (QC.fc (hg (i : Int).toNat hlt) (immDs_app (xs := [.agg (Zax (l.getD (i : Int).toNat default))]) rfl hi)), ?_⟩
  conv => whnf
  (repeat' first | refine Zad ?_ | (refine Zaa tok (by rfl) ?_; conv => whnf) | (refine Zag ?_; conv => whnf) | (refine Zah ?_; conv => whnf) | refine Zaf rfl (fun hb => ?_) (fun hb => ?_))
  ·refine ⟨_, rfl, Rel.int ?_⟩
   exact (idxG_at default hlt hc (by simpa using hb)).symm
  ·refine ⟨i + 1, ⟨hlt, fun j hj => ?_⟩, by omega, ?_⟩
   ·by_cases e : j = i
    ·subst e; simpa using hb
    ·exact hc j (by omega)
   refine Weak.list [] rfl (by rfl) ?_ .nil
   ((repeat' first | exact TLes.nil | refine tE rfl ?_ | refine TLes.cons (TLe.int ?_) ?_ | refine TLes.cons (TLe.fn (by assumption)) ?_); (all_goals first | ((try (simp only [Zac, kZ, kA, kB, mL, Zab] at *)); exact Zal (by omega) (by omega)) | skip))
 ·refine ⟨_, rfl, Rel.int ?_⟩
  exact (idxG_none default (fun j hj => hc j (by simp only [Zac, kZ, kA, kB, mL, Zab] at *; omega))).symm
theorem c_HasInsM {g : FuncId} {cap : List AV} {p : Ins → Bool} (hi : Zb6 cap = true) (l : List Ins) (hg : ∀ i, i < l.length → FC Tryz.prog g (.agg (Zax (l.getD i default)) :: cap) (.bool (p (l.getD i default)))) : FC Tryz.prog 100 [inss l, .fn g cap] (.bool (l.any p)) := by
 refine Zan tok Tryz.func100 rfl (by decide +kernel) (nB rfl) ?_
 (repeat' first | refine Zad ?_ | (refine Zaa tok (by rfl) ?_; conv => whnf) | (refine (Zci _ _).mpr ?_; conv => whnf))
 refine .inl ⟨_, _, _, uG (QC.fc (c_IdxInsM hi l hg) (show Zb6 [inss l, AV.fn g cap] = true from by simp [Zb6, immD, inss, hi])), ?_⟩
 conv => whnf
 (repeat' (refine Zah ?_; conv => whnf))
 refine ⟨_, rfl, Rel.bool ?_⟩
 rw [← idxG_any]
theorem c_IdxFuncM {g : FuncId} {cap : List AV} {p : Func → Bool} (hi : Zb6 cap = true) (l : List Func) (hg : ∀ i, i < l.length → FC Tryz.prog g (.agg (Za1 (l.getD i default)) :: cap) (.bool (p (l.getD i default)))) : FC Tryz.prog 90 [funcss l, .fn g cap] (iv (idxG p l)) := by
 refine Zan tok Tryz.func90 rfl (by decide +kernel) (nB rfl) ?_
 refine Zap 0 (fun hl => ?_)
 have hl0 : l.length ≤ mL := hl.1
 (repeat' first | refine Zad ?_ | (refine Zaa tok (by rfl) ?_; conv => whnf) | refine Zaj ?_)
 refine Za3 (fun i : Nat => mkS [(0, funcss l), (1, .fn g cap), (7, iv l.length), (8, iv i)] [])
  (fun i => i ≤ l.length ∧ ∀ j, j < i → p (l.getD j default) = false) (fun i => l.length - i) 0 ⟨Nat.zero_le _, by simp⟩ ?_ ?_
 ·refine Weak.list [] rfl (by rfl) ?_ .nil
  ((repeat' first | exact TLes.nil | refine tE rfl ?_ | refine TLes.cons (TLe.fn (by assumption)) ?_); skip)
 rintro i ⟨hi2, hc⟩
 ((repeat' first | refine Zad ?_ | (refine Zaa tok (by rfl) ?_; conv => whnf) | refine Zaj ?_ | (refine Zag ?_; conv => whnf) | (refine Za0 ?_; conv => whnf) | (refine Zah ?_; conv => whnf) | (refine (Zci _ _).mpr ?_; conv => whnf) | refine Zaf rfl (fun hb => ?_) (fun hb => ?_) | (refine uA ?_ ?_; rotate_left; (conv => whnf); rotate_right)); all_goals (try ((guard_target = Zac _ _ _ _); refine Zae ?_; (all_goals (try simp only [Zac, kZ, kA, kB, mL, Zab] at *)); all_goals omega)))
 ·have hlt : i < l.length := by simp only [Zac, kZ, kA, kB, mL, Zab] at *; omega
  refine .inl ⟨_, _, _, uG (QC.fc (hg (i : Int).toNat hlt) (immDs_app (xs := [.agg (Za1 (l.getD (i : Int).toNat default))]) rfl hi)), ?_⟩
  conv => whnf
  (repeat' first | refine Zad ?_ | (refine Zaa tok (by rfl) ?_; conv => whnf) | (refine Zag ?_; conv => whnf) | (refine Zah ?_; conv => whnf) | refine Zaf rfl (fun hb => ?_) (fun hb => ?_))
  ·refine ⟨_, rfl, Rel.int ?_⟩
   exact (idxG_at default hlt hc (by simpa using hb)).symm
  ·refine ⟨i + 1, ⟨hlt, fun j hj => ?_⟩, by omega, ?_⟩
   ·by_cases e : j = i
    ·subst e; simpa using hb
    ·exact hc j (by omega)
   refine Weak.list [] rfl (by rfl) ?_ .nil
   ((repeat' first | exact TLes.nil | refine tE rfl ?_ | refine TLes.cons (TLe.int ?_) ?_ | refine TLes.cons (TLe.fn (by assumption)) ?_); (all_goals first | ((try (simp only [Zac, kZ, kA, kB, mL, Zab] at *)); exact Zal (by omega) (by omega)) | skip))
 ·refine ⟨_, rfl, Rel.int ?_⟩
  exact (idxG_none default (fun j hj => hc j (by simp only [Zac, kZ, kA, kB, mL, Zab] at *; omega))).symm
theorem c_HasFuncM {g : FuncId} {cap : List AV} {p : Func → Bool} (hi : Zb6 cap = true) (l : List Func) (hg : ∀ i, i < l.length → FC Tryz.prog g (.agg (Za1 (l.getD i default)) :: cap) (.bool (p (l.getD i default)))) : FC Tryz.prog 51 [funcss l, .fn g cap] (.bool (l.any p)) := by
 refine Zan tok Tryz.func51 rfl (by decide +kernel) (nB rfl) ?_
 (repeat' first | refine Zad ?_ | (refine Zaa tok (by rfl) ?_; conv => whnf) | (refine (Zci _ _).mpr ?_; conv => whnf))
 refine .inl ⟨_, _, _, uG (QC.fc (c_IdxFuncM hi l hg) (show Zb6 [funcss l, AV.fn g cap] = true from by simp [Zb6, immD, funcss, hi])), ?_⟩
 conv => whnf
 (repeat' (refine Zah ?_; conv => whnf))
 refine ⟨_, rfl, Rel.bool ?_⟩
 rw [← idxG_any]
theorem c_HasIns {g : FuncId} {cap : List AV} {p : Ins → Bool} (hi : Zb6 cap = true) (hg : ∀ x, FC Tryz.prog g (.agg (Zax x) :: cap) (.bool (p x))) (l : List Ins) : FC Tryz.prog 100 [inss l, .fn g cap] (.bool (l.any p)) := c_HasInsM hi l (fun i _ => hg _)
theorem c_HasFunc {g : FuncId} {cap : List AV} {p : Func → Bool} (hi : Zb6 cap = true) (hg : ∀ x, FC Tryz.prog g (.agg (Za1 x) :: cap) (.bool (p x))) (l : List Func) : FC Tryz.prog 51 [funcss l, .fn g cap] (.bool (l.any p)) := c_HasFuncM hi l (fun i _ => hg _)
set_option linter.unusedSimpArgs false
theorem c_lblk1 (m : Zak) (f : Func) (x : Ins) : FC Tryz.prog 140 [.agg (Zax x), .ip (encL m f)] (.bool (!decide (InsP m f x))) := by
 refine Zan tok Tryz.func140 rfl (by decide +kernel) (nB rfl) ?_
 (repeat' first | refine Zad ?_ | (refine Zaa tok (by rfl) ?_; conv => whnf))
 refine .inl ⟨_, _, _, uG (QC.fc (c_lins m f x) rfl), ?_⟩
 conv => whnf
 (repeat' (refine Zah ?_; conv => whnf))
 exact ⟨_, rfl, Rel.imm rfl⟩
def LPad : Prop := ∀ (m : Zak) (f : Func) (b : Zbs), FC Tryz.prog 138 [.agg (encL m f), .agg (Zbg b)] (.bool (decide (PadP f b)))
theorem c_lblock (hpad : LPad) (m : Zak) (f : Func) (n : Nat) (hn : n < f.blocks.length) : FC Tryz.prog 91 [.agg (encL m f), iv n] (.bool (blkB m f (f.blocks.getD n default))) := by
 refine Zan tok Tryz.func91 rfl (by decide +kernel) (nB rfl) ?_
 ((repeat' ((fail_if_success (show Rg 2)); first | refine Zad ?_ | (refine Zaa tok (by rfl) ?_; conv => whnf) | (refine uA ?_ ?_; rotate_left; (conv => whnf); rotate_right))); all_goals (try ((guard_target = Zac _ _ _ _); refine Zae ?_; all_goals omega)))
 have hget : f.blocks.getD (n : Int).toNat default = f.blocks.getD n default := by simp
 generalize f.blocks.getD n default = b at hget ⊢
 refine Zaz (Weak.list (tl := [(2, .bp (2, 0, 0) 0), (4, .bool false), (5, .bp (5, 0, 0) 0)]) [((2, 0, 0), .old (2, 0, 0), Zam (encL m f)), ((5, 0, 0), .old (5, 0, 0), .row true 14 1 (fun _ => Zbg b))] rfl (by rfl) ?_ (.old rfl (BLe.refl _) (.old rfl (BLe.rowW (Nat.le_refl _) (fun z hz => ?_)) .nil))) ?_
 ·((repeat' first | exact TLes.nil | refine tE rfl ?_); skip)
 ·match z, hz with
  | 0, _ => rw [← hget]; exact Wks.of rfl
 (repeat' (refine Zaa tok (by rfl) ?_; conv => whnf))
 refine .inl ⟨_, _, _, uG (QC.fc (hpad m f b) rfl), ?_⟩
 conv => whnf
 skip
 refine .inl ⟨_, _, _, uG (QC.fc (c_lend m f b.fin) rfl), ?_⟩
 conv => whnf
 skip
 have hh := c_HasIns (g := 140) (cap := [.ip (encL m f)]) (p := fun x => !decide (InsP m f x)) rfl (fun x => c_lblk1 m f x) b.ins
 refine .inl ⟨_, _, _, uG (QC.sc (rd := [(2, 0, 0)]) hh (.i (.cons (.fn (.cons (.ip rfl (List.mem_singleton.2 rfl) (by decide) (Ress.imms rfl)) .nil)) .nil)) rfl), ?_⟩
 conv => whnf
 (repeat' (refine Zah ?_; conv => whnf))
 refine ⟨_, rfl, Rel.bool ?_⟩
 unfold blkB
 rw [List.not_any_eq_all_not, Bool.eq_iff_iff]
 have hc : decide ((b.ins.length : Int) ≤ 64) = decide (b.ins.length ≤ 64) := by rw [decide_eq_decide]; omega
 rw [hc]
 simp [and_assoc]
set_option linter.unusedSimpArgs false
theorem c_lFunc (hpad : LPad) (m : Zak) (f : Func) : FC Tryz.prog 53 [.agg (Zao m), .agg (Za1 f)] (.bool (Zem m f)) := by
 refine Zan tok Tryz.func53 rfl (by decide +kernel) (nB rfl) ?_
 refine Zap 1 (fun hl => ?_)
 have hl0 : f.blocks.length ≤ mL := hl.2.2.1.1
 ((repeat' first | refine Zad ?_ | (refine Zaa tok (by rfl) ?_; conv => whnf) | refine Zaj ?_ | (refine Zag ?_; conv => whnf) | (refine Zah ?_; conv => whnf) | refine Zaf rfl (fun hb => ?_) (fun hb => ?_) | (refine uA ?_ ?_; rotate_left; (conv => whnf); rotate_right)); all_goals (try ((guard_target = Zac _ _ _ _); ((refine Za7 ?_; intro hgd; (conv at hgd => whnf))); (all_goals (try simp only [Zac, kZ, kA, kB, mL, Zab] at *)); all_goals omega)))
 ·refine ⟨_, rfl, Rel.bool ?_⟩
  rw [show Int.toNat 0 = 0 from rfl] at hb
  unfold Zem
  have hF : decide (FunP f) = false := by
   rw [decide_eq_false_iff_not]; intro h; unfold FunP at h
   rw [h.2.2.2.2.2.2] at hb; simp [-List.length_eq_zero_iff] at hb; omega
  rw [hF]; rfl
 have hF : FunP f := by
  rw [show Int.toNat 0 = 0 from rfl] at hb
  unfold FunP
  cases hland : (f.blocks.getD 0 default).landing with
  | true => rw [hland] at hb; simp at hb
  | false => rw [hland] at hb; simp [-List.length_eq_zero_iff] at hb; refine ⟨?_, ?_, ?_, ?_, ?_, ?_, rfl⟩ <;> omega
 clear hb
 refine Za3 (fun i : Nat => mkS [(4, .bool false), (5, .bp (5, 0, 0) 0), (51, iv f.blocks.length), (52, iv i)] [((5, 0, 0), .row true 4 1 (fun _ => encL m f))])
  (fun i => i ≤ f.blocks.length ∧ ∀ j, j < i → blkB m f (f.blocks.getD j default) = true) (fun i => f.blocks.length - i) 0 ⟨Nat.zero_le _, by simp⟩ ?_ ?_
 ·refine Weak.list [((5, 0, 0), .old (5, 0, 0), .row true 4 1 (fun _ => encL m f))] rfl (by rfl) ?_ (.old rfl (BLe.rowW (Nat.le_refl _) (fun z hz => ?_)) .nil)
  ·((repeat' first | exact TLes.nil | refine tE rfl ?_); skip)
  ·match z, hz with
   | 0, _ => exact Wks.of rfl
 rintro i ⟨hi, hc⟩
 (repeat' first | refine Zad ?_ | (refine Zaa tok (by rfl) ?_; conv => whnf) | refine Zaj ?_ | (refine Zag ?_; conv => whnf) | (refine Za0 ?_; conv => whnf) | (refine Zah ?_; conv => whnf) | refine Zaf rfl (fun hb => ?_) (fun hb => ?_))
 ·have hlt : i < f.blocks.length := by simp only [Zac, kZ, kA, kB, mL, Zab] at *; omega
  refine .inl ⟨_, _, _, uG (QC.fc (c_lblock hpad m f i hlt) rfl), ?_⟩
  conv => whnf
  (repeat' first | refine Zad ?_ | (refine Zaa tok (by rfl) ?_; conv => whnf) | (refine Zag ?_; conv => whnf) | (refine Zah ?_; conv => whnf) | refine Zaf rfl (fun hb => ?_) (fun hb => ?_))
  ·refine ⟨_, rfl, Rel.bool ?_⟩
   unfold Zem
   rw [all_no default hlt (p := blkB m f) (by simpa using hb)]
   simp
  ·refine ⟨i + 1, ⟨hlt, fun j hj => ?_⟩, by omega, ?_⟩
   ·by_cases e : j = i
    ·subst e; simpa using hb
    ·exact hc j (by omega)
   refine Weak.list [((5, 0, 0), .old (5, 0, 0), .row true 4 1 (fun _ => encL m f))] rfl (by rfl) ?_ (.old rfl (BLe.refl _) .nil)
   ((repeat' first | exact TLes.nil | refine tE rfl ?_ | refine TLes.cons (TLe.int ?_) ?_); (all_goals first | ((try (simp only [Zac, kZ, kA, kB, mL, Zab] at *)); exact Zal (by omega) (by omega)) | skip))
 ·refine ⟨_, rfl, Rel.bool ?_⟩
  unfold Zem
  rw [decide_eq_true hF, all_yes default (fun j hj => hc j (by simp only [Zac, kZ, kA, kB, mL, Zab] at *; omega))]; rfl
theorem c_lRight1 (hpad : LPad) (m : Zak) (f : Func) : FC Tryz.prog 52 [.agg (Za1 f), .ip (Zao m)] (.bool (!Zem m f)) := by
 refine Zan tok Tryz.func52 rfl (by decide +kernel) (nB rfl) ?_
 (repeat' first | refine Zad ?_ | (refine Zaa tok (by rfl) ?_; conv => whnf))
 refine .inl ⟨_, _, _, uG (QC.fc (c_lFunc hpad m f) rfl), ?_⟩
 conv => whnf
 (repeat' (refine Zah ?_; conv => whnf))
 exact ⟨_, rfl, Rel.imm rfl⟩
theorem c_lRight (hpad : LPad) (m : Zak) : FC Tryz.prog 15 [.agg (Zao m)] (.bool (Za6 m)) := by
 refine Zan tok Tryz.func15 rfl (by decide +kernel) (nB rfl) ?_
 refine Zap 0 (fun hl => ?_)
 have hl0 : m.funcs.length ≤ mL := hl.1.1
 ((repeat' first | refine Zad ?_ | (refine Zaa tok (by rfl) ?_; conv => whnf) | (refine Zag ?_; conv => whnf) | (refine Zah ?_; conv => whnf) | refine Zaf rfl (fun hb => ?_) (fun hb => ?_) | (refine uA ?_ ?_; rotate_left; (conv => whnf); rotate_right)); all_goals (try ((guard_target = Zac _ _ _ _); ((refine Za7 ?_; intro hgd; (conv at hgd => whnf))); (all_goals (try simp only [Zac, kZ, kA, kB, mL, Zab] at *)); all_goals omega)))
 ·refine ⟨_, rfl, Rel.bool ?_⟩
  rw [show Int.toNat 0 = 0 from rfl] at hb
  unfold Za6
  rw [decide_eq_false]
  ·rfl
  ·rintro ⟨h1, h2, h3⟩
   rw [h3] at hb; simp [-List.length_eq_zero_iff] at hb; omega
 have hF : 1 ≤ m.funcs.length ∧ m.funcs.length ≤ 16 ∧ (m.funcs.getD 0 default).params = 0 := by
  rw [show Int.toNat 0 = 0 from rfl] at hb
  simp only [Bool.cond_true_left, Bool.or_eq_false_iff] at hb
  refine ⟨?_, ?_, by simpa using hb.2⟩ <;> simp only [Zac, kZ, kA, kB, mL, Zab] at * <;> omega
 clear hb
 refine .inl ⟨_, _, _, uG (QC.sc (rd := [(1, 0, 0)]) (c_HasFunc (g := 52) (cap := [.ip (Zao m)]) (p := fun f => !Zem m f) rfl (fun f => c_lRight1 hpad m f) m.funcs) (.i (.cons (.fn (.cons (.ip rfl (List.mem_singleton.2 rfl) (by decide) (Ress.imms rfl)) .nil)) .nil)) rfl), ?_⟩
 conv => whnf
 (repeat' (refine Zah ?_; conv => whnf))
 refine ⟨_, rfl, Rel.bool ?_⟩
 unfold Za6
 rw [List.not_any_eq_all_not, decide_eq_true hF]
 simp
end Go.Proofs.YtoelbgjpmpoolaaGreat
namespace Go.Proofs.YtoelbgjpmpoolaaGreat
open Go Dv Go.RowKit Go.Maps Go.Sort Go.Shelf
set_option linter.unusedSimpArgs false
@[go_sem, reducible] def encU (k : Int) : Value := .int .u16 k
def SeqU (F : Fence) (n : Nat) (g : Nat) (lb : Array Value) (S : List Int → Prop) (N : Nat) (w : World) : Prop :=
 ∀ (l : Nat) (J : List Int → World → Prop) (W : World), RowKit.Below w.heap.size w W → (∀ pre W', J pre W' → RowKit.Below w.heap.size w W') →
  (∀ pre x W', J pre W' → pre.length < N → YieldAt F (n - 1) Tryz.prog l #[encU x] W' fun e W2 => e = .returned (.bool true) ∧ J (pre ++ [x]) W2 ∧ KeepsWalks W' W2) → J [] W →
  CallsIn F n Tryz.prog g (#[.func (.yield l) #[] #[]] ++ lb) W fun e W' => (∃ v, e = .returned v) ∧ ∃ ss, S ss ∧ J ss W'
def Sq.apAssign : Code := (Code.region 2 #[{ dst := some 5, op := Op.assign (Operand.tmp 7), type := 50, pos := "iter.go:51", after := #[], guard := none }] false)
def Sq.apBody : Code := (Code.block 1 (Code.region 3 #[{ dst := some 8, op := Op.load 25 (Operand.tmp 2), type := 25, pos := "iter.go:52", after := #[], guard := none }, { dst := some 9, op := Op.move (Operand.tmp 5), type := 50, pos := "iter.go:52", after := #[], guard := none }, { dst := some 10, op := Op.buildSlice 25 1 #[(0, Operand.tmp 9)], type := 25, pos := "iter.go:52", after := #[{ on := 1, ground := Ground.data }], guard := none }, { dst := some 11, op := Op.call { callee := Callee.builtin Builtin.append, args := #[Operand.tmp 8, Operand.tmp 10], argTypes := #[25, 25] }, type := 25, pos := "iter.go:52", after := #[{ on := 0, ground := Ground.data }, { on := 2, ground := Ground.data }], guard := none }, { dst := none, op := Op.store 25 (Operand.tmp 2) (Operand.tmp 11), type := 0, pos := "iter.go:52", after := #[{ on := 3, ground := Ground.data }, { on := 3, ground := Ground.chain }, { on := 0, ground := Ground.phase }, { on := 1, ground := Ground.phase }, { on := 2, ground := Ground.phase }, { on := 3, ground := Ground.phase }], guard := none }] false))
def Sq.apRec (fn : FuncId) (sv : Value) (Bs D : Nat) (st : LoopState) (pend : Option Code) : Loop :=
 { state := st, pending := pend, fn, tmps := #[.slice none 0 0, sv, .pointer (some ⟨Bs, 0, none⟩), undef, .slice none 0 0, undef, sv, undef, undef, undef, undef, undef, undef], params := #[7], assign := Sq.apAssign, body := Sq.apBody, defers := D }
structure Sq.ApAt (w0 : World) (fn : FuncId) (sv : Value) (Bs l D : Nat) (ss : List Int) (W : World) : Prop where
 box : ∃ v, W.heap[Bs]? = some (.cells #[v] 25 (0, 0)) ∧ W.ownsRow w0.heap.size 50 1 v ss.length (ss.map encU) ∧ (v = .slice none 0 0 ↔ ss = [])
 L : W.heap[l]? = some (.loop (Sq.apRec fn sv Bs D .ready none))
 K : W.heap[D]? = some (.deferred (some []))
 below : Below w0.heap.size w0 W
theorem Zcp (W : World) (l : Nat) (o : Obj) : W.grownBy (W.putObj l o) (some l) :=
 ⟨rfl, rfl, rfl, by simp, fun k _ hk => World.putObj_heap_other (fun e => hk (by rw [e]))⟩
theorem grownBy_setCell0 (W : World) (b : Nat) (v : Value) : W.grownBy (W.setCell ⟨b, 0, none⟩ v) (some b) :=
 ⟨rfl, rfl, rfl, (KeepsWalks.setCell W _ v).size, fun k _ hk => Below.heap_setCell _ _ _ k (fun e => hk (by rw [e]))⟩
theorem Zee {W : World} {base : Nat} {e : TypeId} {size : Nat} {v : Value} {k : Nat} {xs : List Value} (h : W.ownsRow base e size v k xs) {j : Nat} {o : Obj} (hj : W.heap[j]? = some o) (hno : ∀ cur, o ≠ .cells cur e (0, 0)) :
  v.ownBlock = none ∨ v.ownBlock ≠ some j := by
 rcases h.2 with ⟨rfl, _⟩ | ⟨g, cap, cur, rfl, _, hgb, _⟩
 ·exact .inl rfl
 ·refine .inr fun e' => ?_
  have : g = j := by simpa [Value.ownBlock] using e'
  subst this; rw [hgb] at hj; cases hj; exact hno cur rfl
theorem cell_of_box {W : World} {B : Nat} {v : Value} {t : TypeId} (h : W.heap[B]? = some (.cells #[v] t (0, 0))) : W.cell? ⟨B, 0, none⟩ = some v ∧ W.frozen? ⟨B, 0, none⟩ = false := by
 constructor <;> simp [World.cell?, World.frozen?, h]
theorem heap_setCell_box {W : World} {B : Nat} {v : Value} {t : TypeId} (v' : Value) (h : W.heap[B]? = some (.cells #[v] t (0, 0))) : (W.setCell ⟨B, 0, none⟩ v').heap[B]? = some (.cells #[v'] t (0, 0)) := by
 obtain ⟨hlt, hk⟩ := Array.getElem?_eq_some_iff.1 h
 show (W.heap.modify B _)[B]? = _
 rw [Array.getElem?_eq_getElem (by rw [Array.size_modify]; exact hlt), Array.getElem_modify_self, hk]
 rfl
theorem ownsRow_not_walk {W : World} {base : Nat} {e : TypeId} {size : Nat} {v : Value} {k : Nat} {xs : List Value} (h : W.ownsRow base e size v k xs) : ∀ (j : Nat) (o : Obj), v.ownBlock = some j → W.heap[j]? = some o → o.isWalk = false := by
 intro j o hj ho
 rcases h.2 with ⟨rfl, _⟩ | ⟨g, cap, cur, rfl, _, hgb, _⟩
 ·simp [Value.ownBlock] at hj
 ·have : g = j := by simpa [Value.ownBlock] using hj
  subst this; rw [hgb] at ho; cases ho; rfl
theorem Sq.infoU : (Tryz.prog.info? 50).map (fun i => (i.zero, i.size, i.bytes)) = some (some (.int .u16 0), 1, 2) := by kernel_rfl
set_option maxRecDepth 100000 in
set_option maxHeartbeats 2000000 in
theorem Sq.apYield (F : Fence) (m : Nat) (w0 : World) (fn : FuncId) (hfn : F.fn fn) (sv : Value) (Bs l D : Nat) (hBl : Bs ≠ l) (hDl : D ≠ l) (hDB : D ≠ Bs) (h0B : w0.heap.size ≤ Bs) (h0l : w0.heap.size ≤ l)
    (N : Nat) (hN : N ≤ maxLen) (hNb : N * 2 ≤ 140737488355328) (ss : List Int) (x : Int) (W : World) (h : Sq.ApAt w0 fn sv Bs l D ss W) (hlen : ss.length < N) :
    YieldAt F m Tryz.prog l #[encU x] W fun e W' => e = .returned (.bool true) ∧ Sq.ApAt w0 fn sv Bs l D (ss ++ [x]) W' ∧ KeepsWalks W W' := by
  obtain ⟨i0, hi, hz0, hz1, hz2⟩ := info_parts Sq.infoU
  obtain ⟨v, hv, hrow, _⟩ := h.box
  refine ⟨fn, #[.slice none 0 0, sv, .pointer (some ⟨Bs, 0, none⟩), undef, .slice none 0 0, undef, sv, encU x, undef, undef, undef, undef, undef], Sq.apAssign, Sq.apBody, by simpa [Sq.apRec] using run_yield (P := Tryz.prog) (args := #[encU x]) h.L rfl, roundIn_of_wpIn hfn ?_⟩
  have hl : l < W.heap.size := (Array.getElem?_eq_some_iff.1 h.L).1
  have hbr := run_beginRound (P := Tryz.prog) h.L rfl
  obtain ⟨W2, hW2⟩ : ∃ W2, W.putObj l (.loop { Sq.apRec fn sv Bs D .ready none with state := .busy }) = W2 := ⟨_, rfl⟩
  rw [hW2] at hbr
  have hg2 : W.grownBy W2 (some l) := by rw [← hW2]; exact Zcp _ _ _
  have hk2 : KeepsWalks W W2 := by rw [← hW2]; exact KeepsWalks.putObj _ h.L rfl
  have hv2 : W2.heap[Bs]? = some (.cells #[v] 25 (0, 0)) := by rw [← hW2]; exact (World.putObj_heap_other hBl).trans hv
  have hK2 : W2.heap[D]? = some (.deferred (some [])) := by rw [← hW2]; exact (World.putObj_heap_other hDl).trans h.K
  have hL2 : W2.heap[l]? = some (.loop { Sq.apRec fn sv Bs D .ready none with state := .busy }) := by rw [← hW2]; exact World.putObj_heap_same hl
  have hrow2 : W2.ownsRow w0.heap.size 50 1 v ss.length (ss.map encU) := hrow.kept hg2 (Zee hrow h.L (fun cur e => by cases e))
  have hb2 : Below w0.heap.size w0 W2 := h.below.grown hg2 h.below.size (fun k e => by cases e; exact h0l)
  obtain ⟨hc2, hf2⟩ := cell_of_box hv2
  have hBlt : Bs < W2.heap.size := (Array.getElem?_eq_some_iff.1 hv2).1
  have hl2 : l < W2.heap.size := (Array.getElem?_eq_some_iff.1 hL2).1
  have hDlt : D < W2.heap.size := (Array.getElem?_eq_some_iff.1 hK2).1
  have ne_of : ∀ {j : Nat} {o : Obj}, W2.heap[j]? = some o → (∀ cur, o ≠ .cells cur 50 (0, 0)) → some j ≠ v.ownBlock := fun hj hno => by
    rcases Zee hrow2 hj hno with e | e
    · rw [e]; simp
    · exact fun e' => e e'.symm
  clear hW2
  unfold Sq.apAssign
  gi_wp2_with (rw [Oper.semAt_eq _ _ _ (fun c h => by cases h)]; go_simp; try go_bits)
  unfold Sq.apBody
  gi_wp2_with (first
    | (gi_at_builtin; refine wpListIn_append_own _ rfl _ _ 25 rfl w0.heap.size 50 i0 (.int .u16 0) 1 2 Tryz.underlying25 hi hz0 hz1 hz2 rfl (by decide) _ _ _ rfl (hrow2.alloc _) ⟨W2.heap.size, 0, none⟩ 1 1 [encU x] rfl rfl (cell_one_new _ _ _) (by simp [Value.oneCell', encU]) (by omega) (by omega) (by have := hb2.size; simp; omega) ?_; intro v' w3 hown' hg3 hnil3
       have hv3 : w3.heap[Bs]? = some (.cells #[v] 25 (0, 0)) := (hg3.block Bs (by simp; omega) (ne_of hv2 (fun cur e => by cases e))).trans ((Below.heap_alloc _ _ Bs hBlt).trans hv2)
       obtain ⟨hc3, hf3⟩ := cell_of_box hv3
       obtain ⟨g', cap', cur', rfl, hbase', hgb', hr1, hr2, hr3, hr4⟩ : ∃ g' cap' cur', v' = .slice (some ⟨g', 0, none⟩) (ss.length + 1) cap' ∧ w0.heap.size ≤ g' ∧ w3.heap[g']? = some (.cells cur' 50 (0, 0)) ∧ ss.length + 1 ≤ cap' ∧ cap' ≤ maxLen ∧ cur'.size = cap' * 1 ∧ cur'.toList.take ((ss.length + 1) * 1) = ss.map encU ++ [encU x] := by
         rcases hown'.2 with ⟨_, h0⟩ | h'
         · exact absurd h0 (by omega)
         · exact h'
       go_frame)
    | (rw [Oper.semAt_eq _ _ _ (fun c h => by cases h)]; go_simp; try go_bits))
  have hg3' : (W2.alloc (.cells #[encU x] 50)).grownBy w3 v.ownBlock := hg3
  have hL3 : w3.heap[l]? = some (.loop { Sq.apRec fn sv Bs D .ready none with state := .busy }) := (hg3'.block l (by simp; omega) (ne_of hL2 (fun cur e => by cases e))).trans ((Below.heap_alloc _ _ l hl2).trans hL2)
  have hK3 : w3.heap[D]? = some (.deferred (some [])) := (hg3'.block D (by simp; omega) (ne_of hK2 (fun cur e => by cases e))).trans ((Below.heap_alloc _ _ D hDlt).trans hK2)
  obtain ⟨w4, hw4⟩ : ∃ w4, w3.setCell ⟨Bs, 0, none⟩ (.slice (some ⟨g', 0, none⟩) (ss.length + 1) cap') = w4 := ⟨_, rfl⟩
  rw [hw4]
  have hg4 : w3.grownBy w4 (some Bs) := by rw [← hw4]; exact grownBy_setCell0 _ _ _
  have hv4 : w4.heap[Bs]? = some (.cells #[.slice (some ⟨g', 0, none⟩) (ss.length + 1) cap'] 25 (0, 0)) := by rw [← hw4]; exact heap_setCell_box _ hv3
  have hL4 : w4.heap[l]? = some (.loop { Sq.apRec fn sv Bs D .ready none with state := .busy }) := (hg4.block l (Array.getElem?_eq_some_iff.1 hL3).1 (fun e => hBl (by cases e; rfl))).trans hL3
  have hK4 : w4.heap[D]? = some (.deferred (some [])) := (hg4.block D (Array.getElem?_eq_some_iff.1 hK3).1 (fun e => hDB (by cases e; rfl))).trans hK3
  have hrow4 := hown'.kept hg4 (Zee hown' hv3 (fun cur e => by cases e))
  have hl4 : l < w4.heap.size := (Array.getElem?_eq_some_iff.1 hL4).1
  have hb3 : Below w0.heap.size w0 w3 := (hb2.alloc hb2.size _).grown hg3' (by have := hb2.size; simp; omega) (fun k e => (hrow2.lt k e).1)
  have hb4 : Below w0.heap.size w0 w4 := hb3.grown hg4 hb3.size (fun k e => by cases e; exact h0B)
  have hk4 : KeepsWalks W w4 := ((hk2.trans (KeepsWalks.alloc _ _)).trans (KeepsWalks.of_grownBy hg3' (ownsRow_not_walk (hrow2.alloc _)))).trans (by rw [← hw4]; exact KeepsWalks.setCell _ _ _)
  clear hw4
  refine ⟨_, _, run_endRound none hL4, rfl, ⟨⟨_, (World.putObj_heap_other hBl).trans hv4, ?_, by simp⟩, World.putObj_heap_same hl4, (World.putObj_heap_other hDl).trans hK4, hb4.grown (Zcp _ _ _) hb4.size (fun k e => by cases e; exact h0l)⟩, hk4.trans (KeepsWalks.putObj _ hL4 rfl)⟩
  have := hrow4.kept (Zcp w4 l (.loop { { Sq.apRec fn sv Bs D .ready none with state := .busy } with state := if (none : Option Code).isNone then .ready else .done, pending := none })) (Zee hrow4 hL4 (fun cur e => by cases e))
  simpa using this
set_option maxRecDepth 100000 in
set_option maxHeartbeats 2000000 in
theorem Sq.appendSeq_in (F : Fence) (n : Nat) (h11 : F.fn 221) (hro : F.round = none) (hn : 2 ≤ n) (g : Nat) (lb : Array Value) (hFg : F.fn g) (eg : ∀ args w, (callFunc g args).run Tryz.prog w = .ok (.enter g args) w)
    (S : List Int → Prop) (N : Nat) (hN : N ≤ maxLen) (hNb : N * 2 ≤ 140737488355328) (w : World) (hseq : SeqU F (n - 1) g lb S N w) :
    CallsIn F n Tryz.prog 221 #[.slice none 0 0, .func (.func g) #[] lb] w fun e w' => ∃ (v : Value) (ss : List Int), e = .returned v ∧ S ss ∧ w'.ownsRow w.heap.size 50 1 v ss.length (ss.map encU) ∧ (v = .slice none 0 0 ↔ ss = []) ∧ Below w.heap.size w w' := by
  have h1 : 1 ≤ n := by omega
  refine callsIn_of_wp_marks Tryz.func221 rfl h11 ?_ hro
  simp only [Tryz.ntmps221, List.size_toArray, List.length_cons, List.length_nil, Nat.reduceAdd, Nat.reduceSub, Array.replicate_succ, Array.replicate_zero, List.push_toArray, List.append_toArray, List.nil_append, List.cons_append]
  gi_wp2
  refine wpIn_rangeFunc ?_
  intro fn hfn
  rw [hro]
  obtain ⟨W0, hW0⟩ : ∃ W0, w.alloc (.cells #[.slice none 0 0] 25) = W0 := ⟨_, rfl⟩
  have hs0 : W0.heap.size = w.heap.size + 1 := by rw [← hW0]; simp
  have hv0 : W0.heap[w.heap.size]? = some (.cells #[.slice none 0 0] 25 (0, 0)) := by rw [← hW0]; exact World.alloc_heap_new w _
  have hb0 : Below w.heap.size w W0 := by rw [← hW0]; exact (Below.refl _ w).alloc (Nat.le_refl _) _
  rw [hW0]
  obtain ⟨W1, hW1⟩ : ∃ W1, (W0.alloc (.deferred (some []))).alloc (.loop (Sq.apRec fn (.func (.func g) #[] lb) w.heap.size W0.heap.size .ready none)) = W1 := ⟨_, rfl⟩
  have hold : ∀ k, k < W0.heap.size → W1.heap[k]? = W0.heap[k]? := fun k hk => by
    rw [← hW1]; exact (Below.heap_alloc _ _ k (by simp; omega)).trans (Below.heap_alloc _ _ k hk)
  have hb1 : Below w.heap.size w W1 := by rw [← hW1]; exact (hb0.alloc hb0.size _).alloc (by have := hb0.size; simp; omega) _
  have hs1 : W1.heap.size = W0.heap.size + 2 := by rw [← hW1]; simp
  have hM : Sq.ApAt w fn (.func (.func g) #[] lb) w.heap.size (W0.heap.size + 1) W0.heap.size [] W1 :=
    ⟨⟨_, (hold w.heap.size (by omega)).trans hv0, ⟨rfl, .inl ⟨rfl, rfl⟩⟩, by simp⟩,
     by rw [← hW1]; have := World.alloc_heap_new (W0.alloc (.deferred (some []))) (.loop (Sq.apRec fn (.func (.func g) #[] lb) w.heap.size W0.heap.size .ready none)); rwa [World.size_alloc] at this,
     by rw [← hW1]; exact (Below.heap_alloc _ _ _ (by simp)).trans (World.alloc_heap_new W0 _), hb1⟩
  refine ⟨W0.heap.size + 1, [{ target := .collected W0.heap.size, args := #[] }], W1, { target := .fn (.func g) lb, args := #[.func (.yield (W0.heap.size + 1)) #[] #[]] }, W1, g,
    #[.func (.yield (W0.heap.size + 1)) #[] #[]] ++ lb, W1, ?_, ?_, ?_, ?_, fun _ => h1, ?_⟩
  · rw [← hW1]; exact run_enterLoop_outer _ _ _ _ _
  · simp [resolve, go_sem]
  · intro f' hf'; simp [Target.leads] at hf'; subst hf'; exact hFg
  · simp [invoke, go_sem, eg]
  · refine (hseq (W0.heap.size + 1) (Sq.ApAt w fn (.func (.func g) #[] lb) w.heap.size (W0.heap.size + 1) W0.heap.size) W1 hb1 (fun _ _ h => h.below)
      (fun pre x W hJ hl => Sq.apYield F (n - 1 - 1) w fn hfn _ w.heap.size (W0.heap.size + 1) W0.heap.size (by omega) (by omega) (by omega) (Nat.le_refl _) (by omega) N hN hNb pre x W hJ hl) hM).mono ?_
    rintro e W2 ⟨⟨v0, rfl⟩, ss, hS, h2⟩
    obtain ⟨v, hv, hrow, hnil⟩ := h2.box
    have hend := run_endLoop (P := Tryz.prog) h2.L (by simp [Sq.apRec])
    obtain ⟨W3, hW3⟩ : ∃ W3, W2.putObj (W0.heap.size + 1) (.loop { Sq.apRec fn (.func (.func g) #[] lb) w.heap.size W0.heap.size .ready none with state := .exhausted }) = W3 := ⟨_, rfl⟩
    rw [hW3] at hend
    have hg3 : W2.grownBy W3 (some (W0.heap.size + 1)) := by rw [← hW3]; exact Zcp _ _ _
    have hv3 : W3.heap[w.heap.size]? = some (.cells #[v] 25 (0, 0)) := by rw [← hW3]; exact (World.putObj_heap_other (by omega)).trans hv
    have hK3 : W3.heap[W0.heap.size]? = some (.deferred (some [])) := by rw [← hW3]; exact (World.putObj_heap_other (by omega)).trans h2.K
    have hrow3 := hrow.kept hg3 (Zee hrow h2.L (fun cur e => by cases e))
    have hb3 : Below w.heap.size w W3 := h2.below.grown hg3 h2.below.size (fun k e => by cases e; omega)
    obtain ⟨hc3, hf3⟩ := cell_of_box hv3
    clear hW3
    refine ⟨none, W3, hend, ?_⟩
    gi_wp2
    rw [← hs0]
    refine ⟨by simp, .inl ⟨_, _, rfl, run_takeDeferred hK3, ?_⟩⟩
    exact ⟨_, results_tmp rfl _ _ _, v, ss, rfl, hS, hrow3.kept (Zcp _ _ _) (Zee hrow3 hK3 (fun cur e => by cases e)), hnil, hb3.grown (Zcp _ _ _) hb3.size (fun k e => by cases e; omega)⟩
end Go.Proofs.YtoelbgjpmpoolaaGreat
namespace Go.Proofs.YtoelbgjpmpoolaaGreat
open Go Dv Go.RowKit Go.Maps Go.Sort Go.Shelf
attribute [local go_sem] Oper.semAt_some
set_option maxRecDepth 100000 in
set_option maxHeartbeats 2000000 in
theorem Sq.values1_in (F : Fence) (n : Nat) (h7 : F.fn 205) (hro : F.round = none) (hn : 1 ≤ n) (Bs bo b off cap : Nat) (zs : List Int) (hreach : zs.length * 2 ≤ 140737488351232) (w : World) (hBs0 : Bs < w.heap.size) (hb : b < w.heap.size)
  (hBs : w.cell? ⟨Bs, bo, none⟩ = some (.slice (some ⟨b, off, none⟩) zs.length cap)) (hc : ∀ j, j < zs.length → w.cell? ⟨b, off + j, none⟩ = some (.int .u16 (zs[j]?.getD 0))) :
  SeqU F n 205 #[.pointer (some ⟨Bs, bo, none⟩)] (fun ss => ss = zs) zs.length w := by
 intro l J W hW hJB hY h0
 have hBsW := (hW.cell (p := ⟨Bs, bo, none⟩) hBs0).trans hBs
 have hcW : ∀ W', RowKit.Below w.heap.size w W' → ∀ k, k < zs.length → W'.cell? ⟨b, off + k, none⟩ = some (.int .u16 (zs[k]?.getD 0)) := fun W' h k hk => (h.cell (p := ⟨b, off + k, none⟩) hb).trans (hc k hk)
 refine callsIn_of_wp Tryz.func205 rfl h7 ?_ hro
 simp only [Tryz.ntmps205, List.size_toArray, List.length_cons, List.length_nil, Nat.reduceAdd, Nat.reduceSub, Array.replicate_succ, Array.replicate_zero, List.push_toArray, List.append_toArray, List.nil_append, List.cons_append]
 gi_wp2
 gi_loopw [7] (fun i wr => ∃ k : Nat, k ≤ zs.length ∧ i = .int .i64 k ∧ J (zs.take k) wr)
  (fun i _ => zs.length - (intOf i).toNat)
 case atStart => exact ⟨0, Nat.zero_le _, rfl, by simpa using h0⟩
 case round =>
  obtain ⟨k, hk, rfl, hJs⟩ := hrel
  by_cases hlt : k < zs.length
  ·have hcx' := hcW wr (hJB _ _ hJs) k hlt
   have hJx : ∀ W', J (zs.take k ++ [zs[k]?.getD 0]) W' → J (zs.take (k + 1)) W' := fun W' h => by rw [List.take_add_one]; simpa [List.getElem?_eq_getElem hlt] using h
   generalize zs[k]?.getD 0 = x at hcx' hJx
   obtain ⟨fn, tmps, assign, body, hy, hR⟩ := hY _ x wr hJs (by rw [List.length_take]; omega)
   unfold encU at hy
   gi_wp2
   refine hR.mono ?_
   rintro e W3 ⟨rfl, hJ3, _⟩
   gi_wp2
   go_roundw
   case rel => exact ⟨k + 1, by omega, by simp, hJx _ hJ3⟩
   case measure => simp [intOf]; omega
  ·obtain rfl : k = zs.length := by omega
   gi_wp2
   go_end0
   exact ⟨⟨_, rfl⟩, _, rfl, by simpa using hJs⟩
set_option maxRecDepth 100000 in
set_option maxHeartbeats 1000000 in
theorem Sq.values1_nil (F : Fence) (n : Nat) (h7 : F.fn 205) (hro : F.round = none) (Bs bo cap : Nat) (p : Option Addr) (w : World) (hBs0 : Bs < w.heap.size)
  (hBs : w.cell? ⟨Bs, bo, none⟩ = some (.slice p 0 cap)) :
  SeqU F n 205 #[.pointer (some ⟨Bs, bo, none⟩)] (fun ss => ss = []) 0 w := by
 intro l J W hW hJB hY h0
 have hBsW := (hW.cell (p := ⟨Bs, bo, none⟩) hBs0).trans hBs
 refine callsIn_of_wp Tryz.func205 rfl h7 ?_ hro
 simp only [Tryz.ntmps205, List.size_toArray, List.length_cons, List.length_nil, Nat.reduceAdd, Nat.reduceSub, Array.replicate_succ, Array.replicate_zero, List.push_toArray, List.append_toArray, List.nil_append, List.cons_append]
 gi_wp2
 gi_loopw [7] (fun i wr => i = .int .i64 0 ∧ J [] wr) (fun _ _ => 0)
 case atStart => exact ⟨rfl, h0⟩
 case round =>
  obtain ⟨rfl, hJs⟩ := hrel
  gi_wp2
  go_end0
  exact ⟨⟨_, rfl⟩, _, rfl, hJs⟩
set_option linter.unusedSimpArgs false
theorem fr_below {w w' : World} (h : RowKit.Below w.heap.size w w') : Fr (fun _ => False) w w' :=
 ⟨h.os, h.tape, h.output, h.size, fun b hb _ => h.block b hb, fun a ha => by simp only [World.frozen?, h.block a.block ha]⟩
theorem c_AppendSeq (l : List Int) (hl : l.length ≤ mL) : FO Tryz.prog 221 [.nsl, .fn 205 [.ip [u16s l]]] 1 l.length (fun i => [.int .u16 (l.getD i 0)]) := by
 refine ⟨⟨_, Tryz.func221, rfl, by decide +kernel⟩, fun X w vals hX hv => ?_⟩
 simp only [Vs, V, Vc, u16s] at hv
 obtain ⟨_, _, rfl, rfl, _, _, rfl, ⟨a, rfl, _, _, rfl, ⟨Bs, bo, rfl, hBs, hnX, ⟨v, hcell, _, p, c, rfl, hnc, _, hrow⟩, _⟩, rfl⟩, rfl⟩ := hv
 have hu : ∀ i, i < l.length → IntKind.u16.min ≤ l.getD i 0 ∧ l.getD i 0 ≤ IntKind.u16.max := fun i hi => by
  rcases hrow with h0 | ⟨b, o, _, _, _, hc⟩
  ·omega
  ·exact (hc i hi).2.1.choose_spec.2.2.2
 have key : ∃ N, SeqU Fence.wide 1 205 #[.pointer (some ⟨Bs, bo, none⟩)] (fun ss => ss = l) N w ∧ N ≤ maxLen ∧ N * 2 ≤ 140737488355328 := by
  rcases hrow with h0 | ⟨b, o, rfl, hb, _, hc⟩
  ·have : l = [] := List.length_eq_zero_iff.1 h0
   subst this
   exact ⟨0, Sq.values1_nil Fence.wide 1 trivial rfl Bs bo c p w hBs hcell, by decide, by decide⟩
  ·refine ⟨l.length, Sq.values1_in Fence.wide 1 trivial rfl (by omega) Bs bo b o c l (by simp only [mL] at hl; omega) w hBs hb hcell (fun j hj => ?_), by simp only [mL] at hl; simp only [maxLen]; omega, by simp only [mL] at hl; omega⟩
   obtain ⟨_, ⟨v, h1, _, h2, _⟩, _⟩ := hc j hj
   rw [Nat.mul_one] at h1
   rw [h1, h2]; simp
 obtain ⟨N, hseq, hN, hN2⟩ := key
 refine (callsIn_wide.1 (Sq.appendSeq_in Fence.wide 2 trivial rfl (by omega) 205 #[.pointer (some ⟨Bs, bo, none⟩)] trivial (fun args w => run_callFunc ⟨_, Tryz.func205, rfl, by decide +kernel⟩ args w) (fun ss => ss = l) N hN hN2 w hseq)).mono ?_
 rintro e w' ⟨v, ss, rfl, rfl, hown, hnil, hb⟩
 refine ⟨v, rfl, fr_below hb, hl, ?_⟩
 rcases hown.2 with ⟨h1, h2⟩ | ⟨g, cap, cur, h1, h2, h3, h4, h5, h6, h7⟩
 ·exact .inl ⟨h1, h2⟩
 ·refine .inr ⟨_, g, cap, h1, h2, .inr rfl, cur, 50, h3, h4, h6, fun i hi => ⟨rfl, ?_⟩⟩
  simp only [Vc, V]
  have hg : cur[i]? = some (.int .u16 (ss.getD i 0)) := by
   have := congrArg (fun l => l[i]?) h7
   simp only [Nat.mul_one, List.getElem?_take, hi, if_true, List.getElem?_map] at this
   rw [← Array.getElem?_toList, this, List.getElem?_eq_getElem hi, List.getD_eq_getElem?_getD, List.getElem?_eq_getElem hi]; rfl
  refine ⟨⟨_, ?_, rfl, rfl, ?_⟩, trivial⟩
  ·simp [World.cell?, h3, hg]
  ·exact hu i hi
theorem Rel.bp {h : Zaq} {id : Dv.Id} {imm : Bool} {sz k : Nat} {f : Nat → List AV} {g : List AV} (hh : h id = some (.row imm sz k f)) (hk : 0 < k) (hm : Rels h (f 0) g) : Rel h (.bp id 0) (.ip g) := fun X ι w v s hv => by
 simp only [V] at hv ⊢
 cases hl : ι id with
 | none => simp [hl] at hv
 | some l =>
  cases l with
  | ghost => simp [hl] at hv
  | nil => simp [hl] at hv
  | «at» b c =>
   simp only [hl] at hv
   obtain ⟨arr, TT, hc, h4, h5, h6⟩ := s.rel id _ _ hh hl
   refine ⟨b, 0, hv, s.lt hl, s.apart id b c hl, ?_⟩
   obtain ⟨h7, h8⟩ := h6 0 hk
   have h9 := Zcn imm _ _ _ h8
   rw [Nat.zero_mul] at h9
   obtain ⟨vs, hvl, hvc, hvV, hv1⟩ := Vc_read h9
   exact Vc_of_Vs (hm X ι w vs s hvV) hvc hv1
theorem c_Values (l : List Int) : FC Tryz.prog 182 [u16s l] (.fn 205 [.ip [u16s l]]) := by
 refine Zan tok Tryz.func182 rfl (by decide +kernel) (nB rfl) ?_
 (repeat' first | refine Zad ?_ | (refine Zaa tok (by rfl) ?_; conv => whnf) | (refine Zah ?_; conv => whnf))
 exact ⟨_, rfl, Rel.fn (Rels.cons (Rel.bp rfl Nat.zero_lt_one (Rels.imm rfl)) Rels.nil)⟩
theorem c_Collect (l : List Int) (hl : l.length ≤ mL) : FO Tryz.prog 203 [.fn 205 [.ip [u16s l]]] 1 l.length (fun i => [.int .u16 (l.getD i 0)]) := by
 refine Zft tok Tryz.func203 rfl (by decide +kernel) (nB rfl) ?_
 (repeat' first | refine Zad ?_ | (refine Zaa tok (by rfl) ?_; conv => whnf))
 refine .inl ⟨_, _, _, uG (QC.fo (rd := []) (c_AppendSeq l hl) (Ress.imms rfl) (.inl rfl) rfl), ?_⟩
 conv => whnf
 (repeat' (refine Zah ?_; conv => whnf))
 exact ⟨_, rfl, .rs rfl (Nat.le_refl _) rfl (fun _ _ => rfl)⟩
theorem c_Sorted (l : List Int) (hl : l.length ≤ mL) : FO Tryz.prog 181 [.fn 205 [.ip [u16s l]]] 1 l.length (fun i => [.int .u16 ((Zdj l).getD i 0)]) := by
 refine Zft tok Tryz.func181 rfl (by decide +kernel) (nB rfl) ?_
 (repeat' first | refine Zad ?_ | (refine Zaa tok (by rfl) ?_; conv => whnf))
 refine .inl ⟨_, _, _, uG (QC.fo (rd := []) (c_Collect l hl) (Ress.imms rfl) (.inl rfl) rfl), ?_⟩
 conv => whnf
 (repeat' first | refine Zad ?_ | (refine Zaa tok (by rfl) ?_; conv => whnf))
 have hS := c_Sort l.length l.toArray (by simp)
 refine .inr ⟨_, _, _, uG (QH.of (dead := []) [(i0, .old (5, 0, 0), arow l.length l.toArray)] hS rfl (.old rfl (BLe.row rfl (fun x h2 => ?_)) .nil) (.cons (.eq rfl) .nil) [(i0, (5, 0, 0))] rfl (.cons (b' := .row true 1 l.length (fun i => [.int .u16 ((Zdj l).getD i 0)])) rfl (BLe.row rfl (fun x h2 => ?_)) .nil) rfl), ?_⟩
 ·show [AV.int .u16 (l.getD x 0)] = [.int .u16 l.toArray[x]!]
  rw [bang_list]
 ·show [AV.int .u16 (Go.Sort.sort ltInt l.toArray)[x]!] = [.int .u16 ((Zdj l).getD x 0)]
  rw [← bang_list]; simp [Zdj]
 conv => whnf
 (repeat' first | refine Zad ?_ | (refine Zaa tok (by rfl) ?_; conv => whnf) | (refine Zah ?_; conv => whnf))
 exact ⟨_, rfl, .rs rfl (Nat.le_refl _) rfl (fun _ _ => rfl)⟩
end Go.Proofs.YtoelbgjpmpoolaaGreat
namespace Go.Proofs.YtoelbgjpmpoolaaGreat
open Go Dv
set_option maxRecDepth 10000
set_option linter.unusedSimpArgs false
theorem sorted_perm (l : List Int) : (Zdj l).Perm l := by rw [sorted_eq]; exact List.mergeSort_perm l _
theorem sorted_asc (l : List Int) : ∀ i j, i < j → j < (Zdj l).length → (Zdj l).getD i 0 ≤ (Zdj l).getD j 0 := by
 have h : (Zdj l).Pairwise (fun x y => decide (x ≤ y) = true) := by
  rw [sorted_eq]
  exact List.pairwise_mergeSort (fun a b c h1 h2 => by simp at *; omega) (fun a b => by simp; omega) l
 intro i j hij hj
 rw [List.pairwise_iff_getElem] at h
 have := h i j (by omega) hj hij
 rw [Zbl _ (by omega), Zbl _ hj]; simpa using this
theorem runs_sorted (l : List Int) : runs (Zdj l).toArray l.length = l.length ↔ l.Nodup := by
 have h := runs_all (sorted_asc l) l.length (by rw [sorted_len]; omega)
 rw [h, ← (sorted_perm l).nodup_iff]
 constructor
 ·intro hh; exact nodup_getD (fun i hi k hk => hh i (by rw [sorted_len] at hi; exact hi) k hk)
 ·intro hn x hx y hy he
  exact not_nodup (by rw [sorted_len]; exact hx) hy he hn
theorem c_lpad : LPad := by
 intro m f b
 refine Zan tok Tryz.func138 rfl (by decide +kernel) (nB rfl) ?_
 refine Zap 1 (fun hl => ?_)
 have hl0 : b.pad.catch_.length ≤ mL := hl.2.2.1.1
 (repeat' first | refine Zad ?_ | (refine Zaa tok (by rfl) ?_; conv => whnf) | (refine Zag ?_; conv => whnf) | refine Zaf rfl (fun hb => ?_) (fun hb => ?_))
 ·refine .inl ⟨_, _, _, uG (QC.sc (rd := []) (c_samePad b.pad ⟨0, [], false, false⟩) (.i (.cons (.agg (.i (.cons .nsl (.i (.i .nil))))) .nil)) rfl), ?_⟩
  conv => whnf
  (repeat' (refine Zah ?_; conv => whnf))
  refine ⟨_, rfl, Rel.bool ?_⟩
  rw [decide_eq_decide]
  obtain ⟨land, ⟨d, c, al, cl⟩, _, _⟩ := b
  simp at hb
  simp [PadP, hb, and_assoc]
 refine .inl ⟨_, _, _, uG (QC.fc (c_Values b.pad.catch_) rfl), ?_⟩
 conv => whnf
 skip
 refine .inl ⟨_, _, _, uG (QC.fo (rd := []) (c_Sorted b.pad.catch_ hl0) (Ress.imms rfl) (.inl rfl) rfl), ?_⟩
 conv => whnf
 (repeat' first | refine Zad ?_ | (refine Za2 tok mix (by rfl) ?_; conv => whnf))
 refine .inl ⟨_, _, _, uG (QC.fc (c_place m f b.pad.dst) rfl), ?_⟩
 conv => whnf
 skip
 have hC := c_Compact b.pad.catch_.length (Zdj b.pad.catch_).toArray (by simp [sorted_len])
 refine .inl ⟨_, _, _, uG (QC.turn (i := (18, 0, 0)) (rd := [(18, 0, 0)]) (b := .row true 1 0 (fun _ => [])) (List.mem_singleton.2 rfl) (fun h' hh => QH.of (dead := []) [(i0, .old (18, 0, 0), arow b.pad.catch_.length (Zdj b.pad.catch_).toArray)] hC rfl (.old (hh _ (List.mem_singleton.2 rfl)) (BLe.row rfl (fun x h2 => ?_)) .nil) (.cons (.eq rfl) .nil) [(i0, (18, 0, 0))] rfl (.cons (b' := .row true 1 0 (fun _ => [])) rfl (BLe.rowW (Nat.zero_le _) (fun x h2 => absurd h2 (Nat.not_lt_zero x))) .nil) rfl)), ?_⟩
 ·show [AV.int .u16 ((Zdj b.pad.catch_).getD x 0)] = [.int .u16 (Zdj b.pad.catch_).toArray[x]!]
  rw [bang_list]
 conv => whnf
 (repeat' (refine Zah ?_; conv => whnf))
 refine ⟨_, rfl, Rel.bool ?_⟩
 have h1 := runs_sorted b.pad.catch_
 generalize runs (Zdj b.pad.catch_).toArray b.pad.catch_.length = rr at h1 ⊢
 have hland : b.landing = true := by simpa using hb
 rw [Bool.eq_iff_iff]
 have e1 : ((rr : Int) = (b.pad.catch_.length : Int)) ↔ b.pad.catch_.Nodup := by rw [← h1]; omega
 have e2 : ((b.pad.catch_.length : Int) ≤ 8) ↔ b.pad.catch_.length ≤ 8 := by omega
 have e3 : (0 : Int) < (b.pad.catch_.length : Int) ↔ b.pad.catch_ ≠ [] := by
  rw [← List.length_pos_iff]; omega
 simp only [cond_eq_ite, Bool.if_false_right, Bool.if_true_left, Bool.and_eq_true, Bool.or_eq_true, decide_eq_true_eq, e1, e2, e3, PadP, hland, Bool.decide_eq_true]
 simp
 constructor
 ·rintro ⟨⟨⟨h2, h3⟩, h4⟩, h5⟩
  refine ⟨h3, h4, h2, ?_⟩
  rcases h5 with (h5 | h5) | h5 <;> simp [h5]
 ·rintro ⟨h3, h4, h2, h5⟩
  refine ⟨⟨⟨h2, h3⟩, h4⟩, ?_⟩
  rcases h5 with h5 | h5 | h5 <;> simp [h5]
end Go.Proofs.YtoelbgjpmpoolaaGreat
namespace Go.Proofs.YtoelbgjpmpoolaaGreat
open Go Dv
def leL (a b : List Bool) : Prop := ∀ i, a.getD i false = true → b.getD i false = true
theorem leL.refl (a : List Bool) : leL a a := fun _ h => h
theorem leL.trans {a b c : List Bool} (h : leL a b) (k : leL b c) : leL a c := fun i e => k i (h i e)
def cnt (a : List Bool) : Nat := a.count true
theorem cnt_le {a : List Bool} : cnt a ≤ a.length := List.count_le_length
theorem cnt_mono : ∀ {a b : List Bool}, a.length = b.length → leL a b → cnt a ≤ cnt b ∧ (cnt b ≤ cnt a → a = b)
 | [], [], _, _ => ⟨Nat.le_refl _, fun _ => rfl⟩
 | x :: a, y :: b, hl, h => by
   have hl' : a.length = b.length := by simpa using hl
   have h' : leL a b := fun i e => by have := h (i + 1) (by simpa using e); simpa using this
   have h0 : x = true → y = true := fun e => by have := h 0 (by simpa using e); simpa using this
   obtain ⟨h1, h2⟩ := cnt_mono hl' h'
   unfold cnt at h1 h2 ⊢
   cases x <;> cases y
   ·refine ⟨by simpa using h1, fun k => ?_⟩
    rw [h2 (by simpa using k)]
   ·refine ⟨by simp; omega, fun k => ?_⟩
    simp at k; omega
   ·exact absurd (h0 rfl) (by simp)
   ·refine ⟨by simpa using h1, fun k => ?_⟩
    rw [h2 (by simpa using k)]
theorem set_get {a : List Bool} {n i : Nat} (hn : n < a.length) : (a.set n true).getD i false = (decide (n = i) || a.getD i false) := by
 rw [Zcm]
 by_cases h : n = i
 ·subst h; simp [hn]
 ·simp [h]
theorem leL_set (a : List Bool) (n : Nat) : leL a (a.set n true) := fun i h => by
 by_cases hn : n < a.length
 ·rw [set_get hn, h]; simp
 ·rw [List.set_eq_of_length_le (by omega)]; exact h
section
variable (len : Nat) (D : Nat → List Bool → Bool)
def MonoD : Prop := ∀ n a b, leL a b → D n a = true → D n b = true
structure Closed (a : List Bool) : Prop where
 sz : a.length = len
 cl : ∀ n, n < len → D n a = true → a.getD n false = true
def Zfu (a : List Bool) : Prop := ∀ c, Closed len D c → leL a c
def nxt (a : List Bool) : List Bool := (List.range len).map fun n => a.getD n false || D n a
def iterN : Nat → List Bool → List Bool
 | 0, a => a
 | k + 1, a => iterN k (nxt len D a)
def lfp : List Bool := iterN len D (len + 1) (List.replicate len false)
variable {len D}
theorem nxt_len (a : List Bool) : (nxt len D a).length = len := by simp [nxt]
theorem nxt_get (a : List Bool) {i : Nat} (hi : i < len) : (nxt len D a).getD i false = (a.getD i false || D i a) := by simp [nxt, List.getD_eq_getElem?_getD, hi]
theorem getD_ge {a : List Bool} {i : Nat} (h : a.length ≤ i) : a.getD i false = false := by simp [List.getD_eq_getElem?_getD, h]
theorem nxt_le {a : List Bool} (hl : a.length = len) : leL a (nxt len D a) := fun i h => by
 by_cases hi : i < len
 ·rw [nxt_get a hi, h]; rfl
 ·rw [getD_ge (by omega)] at h; cases h
theorem nxt_beneath (hD : MonoD D) {a : List Bool} (h : Zfu len D a) : Zfu len D (nxt len D a) := fun c hc i e => by
 by_cases hi : i < len
 ·rw [nxt_get a hi, Bool.or_eq_true] at e
  rcases e with e | e
  ·exact h c hc i e
  ·exact hc.cl i hi (hD i a c (h c hc) e)
 ·rw [getD_ge (by rw [nxt_len]; omega)] at e; cases e
theorem nxt_same {a : List Bool} (hl : a.length = len) (h : cnt (nxt len D a) ≤ cnt a) : Closed len D a := by
 have e := (cnt_mono (by rw [hl, nxt_len]) (nxt_le hl)).2 h
 refine ⟨hl, fun n hn hd => ?_⟩
 rw [e, nxt_get a hn, hd]; simp
theorem nxt_closed {a : List Bool} (h : Closed len D a) : nxt len D a = a := by
 refine Zbk false (by rw [nxt_len, h.sz]) (fun i hi => ?_)
 rw [nxt_len] at hi
 rw [nxt_get a hi]
 cases e : D i a with
 | false => simp
 | true => rw [h.cl i hi e]; rfl
theorem iterN_ok (hD : MonoD D) : ∀ (k : Nat) (a : List Bool), a.length = len → Zfu len D a → (iterN len D k a).length = len ∧ Zfu len D (iterN len D k a) ∧ (Closed len D (iterN len D k a) ∨ k + cnt a ≤ cnt (iterN len D k a))
 | 0, a, hl, hb => ⟨hl, hb, .inr (by simp [iterN])⟩
 | k + 1, a, hl, hb => by
   have ih := iterN_ok hD k (nxt len D a) (nxt_len a) (nxt_beneath hD hb)
   simp only [iterN]
   refine ⟨ih.1, ih.2.1, ?_⟩
   by_cases hc : cnt (nxt len D a) ≤ cnt a
   ·have h0 := nxt_same hl hc
    left
    have : ∀ k, iterN len D k a = a := fun k => by
     induction k with
     | zero => rfl
     | succ k ih => rw [iterN, nxt_closed h0, ih]
    rw [nxt_closed h0, this k]; exact h0
   ·rcases ih.2.2 with h | h
    ·exact .inl h
    ·right; omega
theorem lfp_ok (hD : MonoD D) : Closed len D (lfp len D) ∧ Zfu len D (lfp len D) := by
 have h0 : Zfu len D (List.replicate len false) := fun c _ i e => by
  exfalso; simp only [List.getD_eq_getElem?_getD, List.getElem?_replicate] at e; split at e <;> simp at e
 have := iterN_ok hD (len + 1) (List.replicate len false) (by simp) h0
 refine ⟨?_, this.2.1⟩
 rcases this.2.2 with h | h
 ·exact h
 ·have h2 : cnt (iterN len D (len + 1) (List.replicate len false)) ≤ (iterN len D (len + 1) (List.replicate len false)).length := cnt_le
  rw [this.1] at h2; omega
theorem lfp_uniq (hD : MonoD D) {a : List Bool} (h1 : Closed len D a) (h2 : Zfu len D a) : a = lfp len D := by
 obtain ⟨h3, h4⟩ := lfp_ok hD (len := len)
 refine Zbk false (by rw [h1.sz, h3.sz]) (fun i _ => ?_)
 have e1 := h2 _ h3 i
 have e2 := h4 _ h1 i
 cases hx : a.getD i false <;> cases hy : (lfp len D).getD i false
 ·rfl
 ·rw [e2 hy] at hx; cases hx
 ·rw [e1 hx] at hy; cases hy
 ·rfl
end
end Go.Proofs.YtoelbgjpmpoolaaGreat
namespace Go.Proofs.YtoelbgjpmpoolaaGreat
open Go Dv
set_option maxRecDepth 10000
set_option linter.unusedSimpArgs false
structure OkB (nf nb : Nat) (b : Zbs) : Prop where
 fn : b.fin.kind = 4 → 0 ≤ b.fin.f ∧ b.fin.f < nf
 pad : b.fin.kind = 4 → 0 ≤ b.fin.pad ∧ b.fin.pad < nb
 ins : ∀ i, i < b.ins.length → (b.ins.getD i default).op = 11 → 0 ≤ (b.ins.getD i default).f ∧ (b.ins.getD i default).f < nf
theorem all_at {α : Type} (d : α) {p : α → Bool} {l : List α} (h : l.all p = true) {i : Nat} (hi : i < l.length) : p (l.getD i d) = true := by
 rw [List.all_eq_true] at h; rw [Zbl d hi]; exact h _ (List.getElem_mem hi)
theorem args_in {m : Zak} {f : Func} {n : Int} {l : List Int} (h : Zdq m f n l = true) : 0 ≤ n ∧ n < m.funcs.length := by
 unfold Zdq at h
 cases h1 : inn n m.funcs.length with
 | true => exact (Zab _ _).1 h1
 | false => rw [h1] at h; simp at h
theorem right_funcs {m : Zak} (h : Za6 m = true) {n : Nat} (hn : n < m.funcs.length) : Zem m (m.funcs.getD n default) = true := by
 unfold Za6 at h; rw [Bool.and_eq_true] at h
 exact all_at default h.2 hn
theorem Zel {m : Zak} {f : Func} (h : Zem m f = true) {i : Nat} (hi : i < f.blocks.length) : blkB m f (f.blocks.getD i default) = true := by
 unfold Zem at h; rw [Bool.and_eq_true] at h
 exact all_at default h.2 hi
theorem blk_ok {m : Zak} {f : Func} {b : Zbs} (h : blkB m f b = true) : OkB m.funcs.length f.blocks.length b := by
 unfold blkB at h; rw [Bool.and_eq_true, decide_eq_true_eq] at h
 obtain ⟨⟨_, _, he⟩, hi⟩ := h
 have k4 : b.fin.kind = 4 → Zdq m f b.fin.f b.fin.args = true ∧ inn b.fin.pad f.blocks.length = true := fun k => by
  rcases he with h | h | h | h | h
  ·omega
  ·omega
  ·omega
  ·exact ⟨h.2.2.2.1, h.2.2.2.2.2.2.1⟩
  ·omega
 refine ⟨fun k => args_in (k4 k).1, fun k => (Zab _ _).1 (k4 k).2, fun i hi' k => ?_⟩
 have := all_at default hi hi'
 rw [decide_eq_true_eq] at this
 rcases this with h | h | h | h | h | h | h
 ·omega
 ·omega
 ·omega
 ·omega
 ·exact args_in h.2.2.2.2.2
 ·omega
 ·omega
end Go.Proofs.YtoelbgjpmpoolaaGreat
namespace Go.Proofs.YtoelbgjpmpoolaaGreat
open Go Dv
set_option maxRecDepth 10000
set_option linter.unusedSimpArgs false
def smallF (f : Func) : Bool := decide (f.blocks.length = 1 ∧ f.regs ≤ 16 ∧ (f.blocks.getD 0 default).ins.length ≤ 16 ∧ (f.blocks.getD 0 default).fin.kind = 1) && !((f.blocks.getD 0 default).ins.any fun x => decide (x.op = 11))
abbrev wi (x : Int) : Int := IntKind.i64.wrap x
def mv1 (x : Ins) (n : Int) : Ins :=
 { x with dst := if x.op ≠ 10 ∧ x.op ≠ 12 then wi (x.dst + n) else x.dst, a := if x.op ≠ 1 ∧ x.op ≠ 13 then wi (x.a + n) else x.a, b := if x.op ≠ 1 ∧ x.op ≠ 13 ∧ x.op ≠ 2 ∧ x.op ≠ 9 ∧ x.op ≠ 12 then wi (x.b + n) else x.b }
theorem c_small1 (x : Ins) : FC Tryz.prog 103 [.agg (Zax x)] (.bool (decide (x.op = 11))) := by
 refine Zan tok Tryz.func103 rfl (by decide +kernel) (nB rfl) ?_
 (repeat' first | refine Zad ?_ | (refine Zaa tok (by rfl) ?_; conv => whnf) | (refine Zah ?_; conv => whnf))
 exact ⟨_, rfl, Rel.imm rfl⟩
theorem c_Small (f : Func) : FC Tryz.prog 60 [.agg (Za1 f)] (.bool (smallF f)) := by
 refine Zan tok Tryz.func60 rfl (by decide +kernel) (nB rfl) ?_
 refine Zap 0 (fun hl => ?_)
 have hl0 : f.blocks.length ≤ mL := hl.2.2.1.1
 clear hl
 ((repeat' first | refine Zad ?_ | (refine Zaa tok (by rfl) ?_; conv => whnf) | (refine Zag ?_; conv => whnf) | (refine Zah ?_; conv => whnf) | refine Zaf rfl (fun hb => ?_) (fun hb => ?_) | (refine uA ?_ ?_; rotate_left; (conv => whnf); rotate_right)); all_goals (try ((guard_target = Zac _ _ _ _); refine Zae ?_; (all_goals (try simp only [Zac, kZ, kA, kB, mL, Zab] at *)); all_goals omega)))
 ·refine ⟨_, rfl, Rel.bool ?_⟩
  unfold smallF
  have : ¬ (f.blocks.length = 1 ∧ f.regs ≤ 16 ∧ (f.blocks.getD 0 default).ins.length ≤ 16 ∧ (f.blocks.getD 0 default).fin.kind = 1) := by
   intro h; simp [h.1] at hb; omega
  rw [decide_eq_false this]; rfl
 have h1 : f.blocks.length = 1 ∧ f.regs ≤ 16 := by simp at hb; omega
 refine .inl ⟨_, _, _, uG (QC.fc (c_HasIns (g := 103) (cap := []) (p := fun x => decide (x.op = 11)) rfl c_small1 (f.blocks.getD 0 default).ins) rfl), ?_⟩
 conv => whnf
 (repeat' first | refine Zad ?_ | (refine Zaa tok (by rfl) ?_; conv => whnf) | (refine Zah ?_; conv => whnf))
 refine ⟨_, rfl, Rel.bool ?_⟩
 unfold smallF
 rw [Bool.eq_iff_iff]
 simp [h1]
 grind
theorem c_moved (x : Ins) (n : Int) : FC Tryz.prog 190 [.agg (Zax x), iv n] (.agg (Zax (mv1 x n))) := by
 refine Zan tok Tryz.func190 rfl (by decide +kernel) (nB rfl) ?_
 (repeat' first | refine Zad ?_ | (refine Zaa tok (by rfl) ?_; conv => whnf) | refine Zaj ?_ | (refine Zag ?_; conv => whnf) | (refine Zah ?_; conv => whnf) | refine Zaf rfl (fun hb => ?_) (fun hb => ?_))
 all_goals
  refine ⟨_, rfl, Rel.agg (.cons (Rel.imm rfl) (.cons (Rel.int ?_) (.cons (Rel.int ?_) (.cons (Rel.int ?_) (.cons (Rel.imm rfl) (.cons (Rel.imm rfl) (.cons (Rel.imm rfl) .nil)))))))⟩
 all_goals simp only [Bool.not_eq_eq_eq_not, Bool.cond_false_right, Bool.cond_true_left, Bool.cond_true_right, Bool.and_eq_true, Bool.and_eq_false_iff, Bool.or_eq_true, Bool.or_eq_false_iff, Bool.not_true, Bool.not_false, decide_eq_true_eq, decide_eq_false_iff_not] at *
 all_goals (simp only [mv1]; first | (rw [if_pos (by omega)]; done) | (rw [if_neg (by omega)]; done) | rfl)
end Go.Proofs.YtoelbgjpmpoolaaGreat
