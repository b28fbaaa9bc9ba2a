/-
  The table of the seat's types for the abstract walk, and that it is the program's. Written by a program of mine (gentypes.py) out of the translation's own rows; no condition.
-/
import Derived.Test.YtikkoaoibomofaaGreatDoorAwB
import Derived.Test.YtikkoaoibomofaaGreatDoorProg
set_option maxRecDepth 100000
namespace Go.Proofs.YtikkoaoibomofaaGreatDoor.Aw
open Go
def ti1 : TI := ⟨1, 8, .nilFunc, .fn⟩
def ti2 : TI := ⟨1, 8, .int .i64 0, .int .i64⟩
def ti3 : TI := ⟨1, 8, .int .i64 0, .int .i64⟩
def ti4 : TI := ⟨1, 1, .bool false, .bool⟩
def ti5 : TI := ⟨1, 1, .int .u8 0, .int .u8⟩
def ti6 : TI := ⟨1, 1, .int .u8 0, .int .u8⟩
def ti7 : TI := ⟨4, 24, .agg #[.int .i64 0, .int .i64 0, .bool false, .int .u8 0], .strct [(0, 2), (1, 3), (2, 4), (3, 6)]⟩
def ti8 : TI := ⟨4, 24, .agg #[.int .i64 0, .int .i64 0, .bool false, .int .u8 0], .strct [(0, 2), (1, 3), (2, 4), (3, 6)]⟩
def ti9 : TI := ⟨1, 16, .string ByteArray.empty, .str⟩
def ti10 : TI := ⟨1, 16, .string ByteArray.empty, .str⟩
def ti11 : TI := ⟨1, 16, .string ByteArray.empty, .str⟩
def ti12 : TI := ⟨1, 8, .int .u64 0, .int .u64⟩
def ti13 : TI := ⟨2, 24, .agg #[.string ByteArray.empty, .int .u64 0], .strct [(0, 9), (1, 12)]⟩
def ti14 : TI := ⟨2, 24, .agg #[.string ByteArray.empty, .int .u64 0], .strct [(0, 9), (1, 12)]⟩
def ti15 : TI := ⟨1, 8, .pointer none, .ptr 136⟩
def ti16 : TI := ⟨1, 8, .pointer none, .ptr 139⟩
def ti17 : TI := ⟨1, 8, .pointer none, .ptr 148⟩
def ti18 : TI := ⟨1, 8, .agg #[.pointer none], .strct [(0, 17)]⟩
def ti19 : TI := ⟨1, 8, .agg #[.pointer none], .strct [(0, 17)]⟩
def ti20 : TI := ⟨1, 16, .nilIface, .iface true⟩
def ti21 : TI := ⟨1, 4, .int .i32 0, .int .i32⟩
def ti22 : TI := ⟨1, 8, .pointer none, .ptr 40⟩
def ti23 : TI := ⟨1, 24, .slice none 0 0, .slice 24⟩
def ti24 : TI := ⟨1, 24, .slice none 0 0, .slice 3⟩
def ti25 : TI := ⟨1, 24, .slice none 0 0, .slice 41⟩
def ti26 : TI := ⟨1, 24, .slice none 0 0, .slice 53⟩
def ti27 : TI := ⟨1, 24, .slice none 0 0, .slice 55⟩
def ti28 : TI := ⟨1, 24, .slice none 0 0, .slice 57⟩
def ti29 : TI := ⟨1, 24, .slice none 0 0, .slice 59⟩
def ti30 : TI := ⟨1, 24, .slice none 0 0, .slice 61⟩
def ti31 : TI := ⟨1, 24, .slice none 0 0, .slice 63⟩
def ti32 : TI := ⟨1, 24, .slice none 0 0, .slice 23⟩
def ti33 : TI := ⟨1, 24, .slice none 0 0, .slice 66⟩
def ti34 : TI := ⟨1, 24, .slice none 0 0, .slice 68⟩
def ti35 : TI := ⟨1, 24, .slice none 0 0, .slice 70⟩
def ti36 : TI := ⟨1, 24, .slice none 0 0, .slice 72⟩
def ti37 : TI := ⟨1, 24, .slice none 0 0, .slice 74⟩
def ti38 : TI := ⟨1, 24, .slice none 0 0, .slice 76⟩
def ti39 : TI := ⟨139, 3024, .agg #[.bool false, .bool false, .int .i64 0, .int .i64 0, .slice none 0 0, .slice none 0 0, .slice none 0 0, .slice none 0 0, .slice none 0 0, .slice none 0 0, .slice none 0 0, .slice none 0 0, .int .i64 0, .slice none 0 0, .slice none 0 0, .slice none 0 0, .slice none 0 0, .slice none 0 0, .slice none 0 0, .slice none 0 0, .slice none 0 0, .int .i64 0, .slice none 0 0, .slice none 0 0, .slice none 0 0, .slice none 0 0, .slice none 0 0, .slice none 0 0, .slice none 0 0, .slice none 0 0, .int .i64 0, .slice none 0 0, .slice none 0 0, .slice none 0 0, .slice none 0 0, .slice none 0 0, .slice none 0 0, .slice none 0 0, .slice none 0 0, .int .i64 0, .slice none 0 0, .slice none 0 0, .slice none 0 0, .slice none 0 0, .slice none 0 0, .slice none 0 0, .slice none 0 0, .slice none 0 0, .int .i64 0, .slice none 0 0, .slice none 0 0, .slice none 0 0, .slice none 0 0, .slice none 0 0, .slice none 0 0, .slice none 0 0, .slice none 0 0, .int .i64 0, .slice none 0 0, .slice none 0 0, .slice none 0 0, .slice none 0 0, .slice none 0 0, .slice none 0 0, .slice none 0 0, .slice none 0 0, .int .i64 0, .slice none 0 0, .slice none 0 0, .slice none 0 0, .slice none 0 0, .slice none 0 0, .slice none 0 0, .slice none 0 0, .slice none 0 0, .int .i64 0, .slice none 0 0, .slice none 0 0, .slice none 0 0, .slice none 0 0, .slice none 0 0, .slice none 0 0, .slice none 0 0, .slice none 0 0, .int .i64 0, .slice none 0 0, .slice none 0 0, .slice none 0 0, .slice none 0 0, .slice none 0 0, .slice none 0 0, .slice none 0 0, .slice none 0 0, .int .i64 0, .slice none 0 0, .slice none 0 0, .slice none 0 0, .slice none 0 0, .slice none 0 0, .slice none 0 0, .slice none 0 0, .slice none 0 0, .int .i64 0, .slice none 0 0, .slice none 0 0, .slice none 0 0, .slice none 0 0, .slice none 0 0, .slice none 0 0, .slice none 0 0, .slice none 0 0, .int .i64 0, .slice none 0 0, .slice none 0 0, .slice none 0 0, .slice none 0 0, .slice none 0 0, .slice none 0 0, .slice none 0 0, .slice none 0 0, .int .i64 0, .slice none 0 0, .slice none 0 0, .slice none 0 0, .slice none 0 0, .slice none 0 0, .slice none 0 0, .slice none 0 0, .slice none 0 0, .int .i64 0, .slice none 0 0, .slice none 0 0, .slice none 0 0, .slice none 0 0, .slice none 0 0, .slice none 0 0, .slice none 0 0, .slice none 0 0, .int .i64 0], .strct [(0, 4), (1, 4), (2, 3), (3, 3), (4, 23), (5, 23), (6, 23), (7, 23), (8, 23), (9, 24), (10, 24), (11, 24), (12, 3), (13, 25), (14, 25), (15, 25), (16, 25), (17, 25), (18, 24), (19, 24), (20, 24), (21, 3), (22, 26), (23, 26), (24, 26), (25, 26), (26, 26), (27, 24), (28, 24), (29, 24), (30, 3), (31, 27), (32, 27), (33, 27), (34, 27), (35, 27), (36, 24), (37, 24), (38, 24), (39, 3), (40, 28), (41, 28), (42, 28), (43, 28), (44, 28), (45, 24), (46, 24), (47, 24), (48, 3), (49, 29), (50, 29), (51, 29), (52, 29), (53, 29), (54, 24), (55, 24), (56, 24), (57, 3), (58, 30), (59, 30), (60, 30), (61, 30), (62, 30), (63, 24), (64, 24), (65, 24), (66, 3), (67, 31), (68, 31), (69, 31), (70, 31), (71, 31), (72, 24), (73, 24), (74, 24), (75, 3), (76, 32), (77, 32), (78, 32), (79, 32), (80, 32), (81, 24), (82, 24), (83, 24), (84, 3), (85, 33), (86, 33), (87, 33), (88, 33), (89, 33), (90, 24), (91, 24), (92, 24), (93, 3), (94, 34), (95, 34), (96, 34), (97, 34), (98, 34), (99, 24), (100, 24), (101, 24), (102, 3), (103, 35), (104, 35), (105, 35), (106, 35), (107, 35), (108, 24), (109, 24), (110, 24), (111, 3), (112, 36), (113, 36), (114, 36), (115, 36), (116, 36), (117, 24), (118, 24), (119, 24), (120, 3), (121, 37), (122, 37), (123, 37), (124, 37), (125, 37), (126, 24), (127, 24), (128, 24), (129, 3), (130, 38), (131, 38), (132, 38), (133, 38), (134, 38), (135, 24), (136, 24), (137, 24), (138, 3)]⟩
def ti40 : TI := ⟨139, 3024, .agg #[.bool false, .bool false, .int .i64 0, .int .i64 0, .slice none 0 0, .slice none 0 0, .slice none 0 0, .slice none 0 0, .slice none 0 0, .slice none 0 0, .slice none 0 0, .slice none 0 0, .int .i64 0, .slice none 0 0, .slice none 0 0, .slice none 0 0, .slice none 0 0, .slice none 0 0, .slice none 0 0, .slice none 0 0, .slice none 0 0, .int .i64 0, .slice none 0 0, .slice none 0 0, .slice none 0 0, .slice none 0 0, .slice none 0 0, .slice none 0 0, .slice none 0 0, .slice none 0 0, .int .i64 0, .slice none 0 0, .slice none 0 0, .slice none 0 0, .slice none 0 0, .slice none 0 0, .slice none 0 0, .slice none 0 0, .slice none 0 0, .int .i64 0, .slice none 0 0, .slice none 0 0, .slice none 0 0, .slice none 0 0, .slice none 0 0, .slice none 0 0, .slice none 0 0, .slice none 0 0, .int .i64 0, .slice none 0 0, .slice none 0 0, .slice none 0 0, .slice none 0 0, .slice none 0 0, .slice none 0 0, .slice none 0 0, .slice none 0 0, .int .i64 0, .slice none 0 0, .slice none 0 0, .slice none 0 0, .slice none 0 0, .slice none 0 0, .slice none 0 0, .slice none 0 0, .slice none 0 0, .int .i64 0, .slice none 0 0, .slice none 0 0, .slice none 0 0, .slice none 0 0, .slice none 0 0, .slice none 0 0, .slice none 0 0, .slice none 0 0, .int .i64 0, .slice none 0 0, .slice none 0 0, .slice none 0 0, .slice none 0 0, .slice none 0 0, .slice none 0 0, .slice none 0 0, .slice none 0 0, .int .i64 0, .slice none 0 0, .slice none 0 0, .slice none 0 0, .slice none 0 0, .slice none 0 0, .slice none 0 0, .slice none 0 0, .slice none 0 0, .int .i64 0, .slice none 0 0, .slice none 0 0, .slice none 0 0, .slice none 0 0, .slice none 0 0, .slice none 0 0, .slice none 0 0, .slice none 0 0, .int .i64 0, .slice none 0 0, .slice none 0 0, .slice none 0 0, .slice none 0 0, .slice none 0 0, .slice none 0 0, .slice none 0 0, .slice none 0 0, .int .i64 0, .slice none 0 0, .slice none 0 0, .slice none 0 0, .slice none 0 0, .slice none 0 0, .slice none 0 0, .slice none 0 0, .slice none 0 0, .int .i64 0, .slice none 0 0, .slice none 0 0, .slice none 0 0, .slice none 0 0, .slice none 0 0, .slice none 0 0, .slice none 0 0, .slice none 0 0, .int .i64 0, .slice none 0 0, .slice none 0 0, .slice none 0 0, .slice none 0 0, .slice none 0 0, .slice none 0 0, .slice none 0 0, .slice none 0 0, .int .i64 0], .strct [(0, 4), (1, 4), (2, 3), (3, 3), (4, 23), (5, 23), (6, 23), (7, 23), (8, 23), (9, 24), (10, 24), (11, 24), (12, 3), (13, 25), (14, 25), (15, 25), (16, 25), (17, 25), (18, 24), (19, 24), (20, 24), (21, 3), (22, 26), (23, 26), (24, 26), (25, 26), (26, 26), (27, 24), (28, 24), (29, 24), (30, 3), (31, 27), (32, 27), (33, 27), (34, 27), (35, 27), (36, 24), (37, 24), (38, 24), (39, 3), (40, 28), (41, 28), (42, 28), (43, 28), (44, 28), (45, 24), (46, 24), (47, 24), (48, 3), (49, 29), (50, 29), (51, 29), (52, 29), (53, 29), (54, 24), (55, 24), (56, 24), (57, 3), (58, 30), (59, 30), (60, 30), (61, 30), (62, 30), (63, 24), (64, 24), (65, 24), (66, 3), (67, 31), (68, 31), (69, 31), (70, 31), (71, 31), (72, 24), (73, 24), (74, 24), (75, 3), (76, 32), (77, 32), (78, 32), (79, 32), (80, 32), (81, 24), (82, 24), (83, 24), (84, 3), (85, 33), (86, 33), (87, 33), (88, 33), (89, 33), (90, 24), (91, 24), (92, 24), (93, 3), (94, 34), (95, 34), (96, 34), (97, 34), (98, 34), (99, 24), (100, 24), (101, 24), (102, 3), (103, 35), (104, 35), (105, 35), (106, 35), (107, 35), (108, 24), (109, 24), (110, 24), (111, 3), (112, 36), (113, 36), (114, 36), (115, 36), (116, 36), (117, 24), (118, 24), (119, 24), (120, 3), (121, 37), (122, 37), (123, 37), (124, 37), (125, 37), (126, 24), (127, 24), (128, 24), (129, 3), (130, 38), (131, 38), (132, 38), (133, 38), (134, 38), (135, 24), (136, 24), (137, 24), (138, 3)]⟩
def ti41 : TI := ⟨1, 24, .slice none 0 0, .slice 9⟩
def ti42 : TI := ⟨1, 8, .nilFunc, .fn⟩
def ti43 : TI := ⟨1, 8, .nilFunc, .fn⟩
def ti44 : TI := ⟨1, 8, .nilFunc, .fn⟩
def ti45 : TI := ⟨1, 8, .nilFunc, .fn⟩
def ti46 : TI := ⟨1, 8, .nilFunc, .fn⟩
def ti47 : TI := ⟨1, 8, .nilFunc, .fn⟩
def ti48 : TI := ⟨1, 8, .nilFunc, .fn⟩
def ti49 : TI := ⟨1, 8, .nilFunc, .fn⟩
def ti50 : TI := ⟨1, 8, .nilFunc, .fn⟩
def ti51 : TI := ⟨1, 8, .nilFunc, .fn⟩
def ti52 : TI := ⟨1, 8, .nilFunc, .fn⟩
def ti53 : TI := ⟨1, 24, .slice none 0 0, .slice 80⟩
def ti54 : TI := ⟨1, 8, .nilFunc, .fn⟩
def ti55 : TI := ⟨1, 24, .slice none 0 0, .slice 82⟩
def ti56 : TI := ⟨1, 8, .nilFunc, .fn⟩
def ti57 : TI := ⟨1, 24, .slice none 0 0, .slice 84⟩
def ti58 : TI := ⟨1, 8, .nilFunc, .fn⟩
def ti59 : TI := ⟨1, 24, .slice none 0 0, .slice 86⟩
def ti60 : TI := ⟨1, 8, .nilFunc, .fn⟩
def ti61 : TI := ⟨1, 24, .slice none 0 0, .slice 88⟩
def ti62 : TI := ⟨1, 8, .nilFunc, .fn⟩
def ti63 : TI := ⟨1, 24, .slice none 0 0, .slice 90⟩
def ti64 : TI := ⟨1, 8, .nilFunc, .fn⟩
def ti65 : TI := ⟨1, 8, .nilFunc, .fn⟩
def ti66 : TI := ⟨1, 24, .slice none 0 0, .slice 92⟩
def ti67 : TI := ⟨1, 8, .nilFunc, .fn⟩
def ti68 : TI := ⟨1, 24, .slice none 0 0, .slice 95⟩
def ti69 : TI := ⟨1, 8, .nilFunc, .fn⟩
def ti70 : TI := ⟨1, 24, .slice none 0 0, .slice 97⟩
def ti71 : TI := ⟨1, 8, .nilFunc, .fn⟩
def ti72 : TI := ⟨1, 24, .slice none 0 0, .slice 100⟩
def ti73 : TI := ⟨1, 8, .nilFunc, .fn⟩
def ti74 : TI := ⟨1, 24, .slice none 0 0, .slice 102⟩
def ti75 : TI := ⟨1, 8, .nilFunc, .fn⟩
def ti76 : TI := ⟨1, 24, .slice none 0 0, .slice 104⟩
def ti77 : TI := ⟨1, 8, .nilFunc, .fn⟩
def ti78 : TI := ⟨1, 8, .nilFunc, .fn⟩
def ti79 : TI := ⟨2, 16, .agg #[.int .i64 0, .int .i64 0], .strct [(0, 3), (1, 3)]⟩
def ti80 : TI := ⟨2, 16, .agg #[.int .i64 0, .int .i64 0], .strct [(0, 3), (1, 3)]⟩
def ti81 : TI := ⟨3, 32, .agg #[.string ByteArray.empty, .int .i64 0, .int .i64 0], .strct [(0, 9), (1, 3), (2, 3)]⟩
def ti82 : TI := ⟨3, 32, .agg #[.string ByteArray.empty, .int .i64 0, .int .i64 0], .strct [(0, 9), (1, 3), (2, 3)]⟩
def ti83 : TI := ⟨2, 24, .agg #[.string ByteArray.empty, .int .i64 0], .strct [(0, 9), (1, 3)]⟩
def ti84 : TI := ⟨2, 24, .agg #[.string ByteArray.empty, .int .i64 0], .strct [(0, 9), (1, 3)]⟩
def ti85 : TI := ⟨3, 32, .agg #[.int .i64 0, .string ByteArray.empty, .int .i64 0], .strct [(0, 3), (1, 9), (2, 3)]⟩
def ti86 : TI := ⟨3, 32, .agg #[.int .i64 0, .string ByteArray.empty, .int .i64 0], .strct [(0, 3), (1, 9), (2, 3)]⟩
def ti87 : TI := ⟨3, 24, .agg #[.int .i64 0, .int .i64 0, .int .i64 0], .strct [(0, 3), (1, 3), (2, 3)]⟩
def ti88 : TI := ⟨3, 24, .agg #[.int .i64 0, .int .i64 0, .int .i64 0], .strct [(0, 3), (1, 3), (2, 3)]⟩
def ti89 : TI := ⟨6, 48, .agg #[.int .i64 0, .int .i64 0, .bool false, .int .i64 0, .int .i64 0, .bool false], .strct [(0, 3), (1, 3), (2, 4), (3, 3), (4, 3), (5, 4)]⟩
def ti90 : TI := ⟨6, 48, .agg #[.int .i64 0, .int .i64 0, .bool false, .int .i64 0, .int .i64 0, .bool false], .strct [(0, 3), (1, 3), (2, 4), (3, 3), (4, 3), (5, 4)]⟩
def ti91 : TI := ⟨10, 144, .agg #[.int .i64 0, .int .i64 0, .slice none 0 0, .int .i64 0, .int .i64 0, .int .i64 0, .int .i64 0, .slice none 0 0, .slice none 0 0, .slice none 0 0], .strct [(0, 3), (1, 3), (2, 53), (3, 3), (4, 3), (5, 3), (6, 3), (7, 24), (8, 24), (9, 23)]⟩
def ti92 : TI := ⟨10, 144, .agg #[.int .i64 0, .int .i64 0, .slice none 0 0, .int .i64 0, .int .i64 0, .int .i64 0, .int .i64 0, .slice none 0 0, .slice none 0 0, .slice none 0 0], .strct [(0, 3), (1, 3), (2, 53), (3, 3), (4, 3), (5, 3), (6, 3), (7, 24), (8, 24), (9, 23)]⟩
def ti93 : TI := ⟨1, 8, .nilFunc, .fn⟩
def ti94 : TI := ⟨2, 40, .agg #[.slice none 0 0, .string ByteArray.empty], .strct [(0, 57), (1, 9)]⟩
def ti95 : TI := ⟨2, 40, .agg #[.slice none 0 0, .string ByteArray.empty], .strct [(0, 57), (1, 9)]⟩
def ti96 : TI := ⟨10, 176, .agg #[.int .i64 0, .string ByteArray.empty, .slice none 0 0, .slice none 0 0, .string ByteArray.empty, .slice none 0 0, .slice none 0 0, .int .i64 0, .string ByteArray.empty, .string ByteArray.empty], .strct [(0, 3), (1, 9), (2, 59), (3, 95), (5, 24), (6, 41), (7, 3), (8, 9), (9, 9)]⟩
def ti97 : TI := ⟨10, 176, .agg #[.int .i64 0, .string ByteArray.empty, .slice none 0 0, .slice none 0 0, .string ByteArray.empty, .slice none 0 0, .slice none 0 0, .int .i64 0, .string ByteArray.empty, .string ByteArray.empty], .strct [(0, 3), (1, 9), (2, 59), (3, 95), (5, 24), (6, 41), (7, 3), (8, 9), (9, 9)]⟩
def ti98 : TI := ⟨1, 8, .nilFunc, .fn⟩
def ti99 : TI := ⟨3, 40, .agg #[.int .i64 0, .int .i64 0, .slice none 0 0], .strct [(0, 3), (1, 3), (2, 24)]⟩
def ti100 : TI := ⟨3, 40, .agg #[.int .i64 0, .int .i64 0, .slice none 0 0], .strct [(0, 3), (1, 3), (2, 24)]⟩
def ti101 : TI := ⟨7, 72, .agg #[.int .i64 0, .int .i64 0, .int .i64 0, .int .i64 0, .int .i64 0, .int .i64 0, .slice none 0 0], .strct [(0, 3), (1, 88), (4, 100)]⟩
def ti102 : TI := ⟨7, 72, .agg #[.int .i64 0, .int .i64 0, .int .i64 0, .int .i64 0, .int .i64 0, .int .i64 0, .slice none 0 0], .strct [(0, 3), (1, 88), (4, 100)]⟩
def ti103 : TI := ⟨4, 56, .agg #[.int .i64 0, .int .i64 0, .string ByteArray.empty, .slice none 0 0], .strct [(0, 3), (1, 3), (2, 9), (3, 24)]⟩
def ti104 : TI := ⟨4, 56, .agg #[.int .i64 0, .int .i64 0, .string ByteArray.empty, .slice none 0 0], .strct [(0, 3), (1, 3), (2, 9), (3, 24)]⟩
def ti105 : TI := ⟨1, 8, .nilFunc, .fn⟩
def ti107 : TI := ⟨1, 8, .nilFunc, .fn⟩
def ti108 : TI := ⟨1, 8, .nilFunc, .fn⟩
def ti109 : TI := ⟨1, 8, .nilFunc, .fn⟩
def ti110 : TI := ⟨1, 8, .int .u64 0, .int .u64⟩
def ti111 : TI := ⟨256, 256, .agg #[.int .u8 0, .int .u8 0, .int .u8 0, .int .u8 0, .int .u8 0, .int .u8 0, .int .u8 0, .int .u8 0, .int .u8 0, .int .u8 0, .int .u8 0, .int .u8 0, .int .u8 0, .int .u8 0, .int .u8 0, .int .u8 0, .int .u8 0, .int .u8 0, .int .u8 0, .int .u8 0, .int .u8 0, .int .u8 0, .int .u8 0, .int .u8 0, .int .u8 0, .int .u8 0, .int .u8 0, .int .u8 0, .int .u8 0, .int .u8 0, .int .u8 0, .int .u8 0, .int .u8 0, .int .u8 0, .int .u8 0, .int .u8 0, .int .u8 0, .int .u8 0, .int .u8 0, .int .u8 0, .int .u8 0, .int .u8 0, .int .u8 0, .int .u8 0, .int .u8 0, .int .u8 0, .int .u8 0, .int .u8 0, .int .u8 0, .int .u8 0, .int .u8 0, .int .u8 0, .int .u8 0, .int .u8 0, .int .u8 0, .int .u8 0, .int .u8 0, .int .u8 0, .int .u8 0, .int .u8 0, .int .u8 0, .int .u8 0, .int .u8 0, .int .u8 0, .int .u8 0, .int .u8 0, .int .u8 0, .int .u8 0, .int .u8 0, .int .u8 0, .int .u8 0, .int .u8 0, .int .u8 0, .int .u8 0, .int .u8 0, .int .u8 0, .int .u8 0, .int .u8 0, .int .u8 0, .int .u8 0, .int .u8 0, .int .u8 0, .int .u8 0, .int .u8 0, .int .u8 0, .int .u8 0, .int .u8 0, .int .u8 0, .int .u8 0, .int .u8 0, .int .u8 0, .int .u8 0, .int .u8 0, .int .u8 0, .int .u8 0, .int .u8 0, .int .u8 0, .int .u8 0, .int .u8 0, .int .u8 0, .int .u8 0, .int .u8 0, .int .u8 0, .int .u8 0, .int .u8 0, .int .u8 0, .int .u8 0, .int .u8 0, .int .u8 0, .int .u8 0, .int .u8 0, .int .u8 0, .int .u8 0, .int .u8 0, .int .u8 0, .int .u8 0, .int .u8 0, .int .u8 0, .int .u8 0, .int .u8 0, .int .u8 0, .int .u8 0, .int .u8 0, .int .u8 0, .int .u8 0, .int .u8 0, .int .u8 0, .int .u8 0, .int .u8 0, .int .u8 0, .int .u8 0, .int .u8 0, .int .u8 0, .int .u8 0, .int .u8 0, .int .u8 0, .int .u8 0, .int .u8 0, .int .u8 0, .int .u8 0, .int .u8 0, .int .u8 0, .int .u8 0, .int .u8 0, .int .u8 0, .int .u8 0, .int .u8 0, .int .u8 0, .int .u8 0, .int .u8 0, .int .u8 0, .int .u8 0, .int .u8 0, .int .u8 0, .int .u8 0, .int .u8 0, .int .u8 0, .int .u8 0, .int .u8 0, .int .u8 0, .int .u8 0, .int .u8 0, .int .u8 0, .int .u8 0, .int .u8 0, .int .u8 0, .int .u8 0, .int .u8 0, .int .u8 0, .int .u8 0, .int .u8 0, .int .u8 0, .int .u8 0, .int .u8 0, .int .u8 0, .int .u8 0, .int .u8 0, .int .u8 0, .int .u8 0, .int .u8 0, .int .u8 0, .int .u8 0, .int .u8 0, .int .u8 0, .int .u8 0, .int .u8 0, .int .u8 0, .int .u8 0, .int .u8 0, .int .u8 0, .int .u8 0, .int .u8 0, .int .u8 0, .int .u8 0, .int .u8 0, .int .u8 0, .int .u8 0, .int .u8 0, .int .u8 0, .int .u8 0, .int .u8 0, .int .u8 0, .int .u8 0, .int .u8 0, .int .u8 0, .int .u8 0, .int .u8 0, .int .u8 0, .int .u8 0, .int .u8 0, .int .u8 0, .int .u8 0, .int .u8 0, .int .u8 0, .int .u8 0, .int .u8 0, .int .u8 0, .int .u8 0, .int .u8 0, .int .u8 0, .int .u8 0, .int .u8 0, .int .u8 0, .int .u8 0, .int .u8 0, .int .u8 0, .int .u8 0, .int .u8 0, .int .u8 0, .int .u8 0, .int .u8 0, .int .u8 0, .int .u8 0, .int .u8 0, .int .u8 0, .int .u8 0, .int .u8 0, .int .u8 0, .int .u8 0, .int .u8 0, .int .u8 0, .int .u8 0, .int .u8 0, .int .u8 0, .int .u8 0, .int .u8 0, .int .u8 0, .int .u8 0, .int .u8 0, .int .u8 0, .int .u8 0, .int .u8 0, .int .u8 0, .int .u8 0, .int .u8 0, .int .u8 0], .array 256 5⟩
def ti112 : TI := ⟨2, 2, .agg #[.int .u8 0, .int .u8 0], .strct [(0, 5), (1, 5)]⟩
def ti113 : TI := ⟨2, 2, .agg #[.int .u8 0, .int .u8 0], .strct [(0, 5), (1, 5)]⟩
def ti114 : TI := ⟨32, 32, .agg #[.int .u8 0, .int .u8 0, .int .u8 0, .int .u8 0, .int .u8 0, .int .u8 0, .int .u8 0, .int .u8 0, .int .u8 0, .int .u8 0, .int .u8 0, .int .u8 0, .int .u8 0, .int .u8 0, .int .u8 0, .int .u8 0, .int .u8 0, .int .u8 0, .int .u8 0, .int .u8 0, .int .u8 0, .int .u8 0, .int .u8 0, .int .u8 0, .int .u8 0, .int .u8 0, .int .u8 0, .int .u8 0, .int .u8 0, .int .u8 0, .int .u8 0, .int .u8 0], .array 16 113⟩
def ti115 : TI := ⟨1, 4, .int .u32 0, .int .u32⟩
def ti117 : TI := ⟨1, 8, .nilFunc, .fn⟩
def ti118 : TI := ⟨1, 8, .nilFunc, .fn⟩
def ti119 : TI := ⟨24, 24, .agg #[.int .u8 0, .int .u8 0, .int .u8 0, .int .u8 0, .int .u8 0, .int .u8 0, .int .u8 0, .int .u8 0, .int .u8 0, .int .u8 0, .int .u8 0, .int .u8 0, .int .u8 0, .int .u8 0, .int .u8 0, .int .u8 0, .int .u8 0, .int .u8 0, .int .u8 0, .int .u8 0, .int .u8 0, .int .u8 0, .int .u8 0, .int .u8 0], .array 24 5⟩
def ti120 : TI := ⟨1, 8, .int .u64 0, .int .u64⟩
def ti121 : TI := ⟨1, 8, .nilFunc, .fn⟩
def ti122 : TI := ⟨1, 8, .nilFunc, .fn⟩
def ti123 : TI := ⟨1, 24, .slice none 0 0, .slice 5⟩
def ti125 : TI := ⟨1, 8, .nilFunc, .fn⟩
def ti126 : TI := ⟨1, 8, .nilFunc, .fn⟩
def ti127 : TI := ⟨20, 160, .agg #[.int .u64 0, .int .u64 0, .int .u64 0, .int .u64 0, .int .u64 0, .int .u64 0, .int .u64 0, .int .u64 0, .int .u64 0, .int .u64 0, .int .u64 0, .int .u64 0, .int .u64 0, .int .u64 0, .int .u64 0, .int .u64 0, .int .u64 0, .int .u64 0, .int .u64 0, .int .u64 0], .array 20 120⟩
def ti128 : TI := ⟨65, 65, .agg #[.int .u8 0, .int .u8 0, .int .u8 0, .int .u8 0, .int .u8 0, .int .u8 0, .int .u8 0, .int .u8 0, .int .u8 0, .int .u8 0, .int .u8 0, .int .u8 0, .int .u8 0, .int .u8 0, .int .u8 0, .int .u8 0, .int .u8 0, .int .u8 0, .int .u8 0, .int .u8 0, .int .u8 0, .int .u8 0, .int .u8 0, .int .u8 0, .int .u8 0, .int .u8 0, .int .u8 0, .int .u8 0, .int .u8 0, .int .u8 0, .int .u8 0, .int .u8 0, .int .u8 0, .int .u8 0, .int .u8 0, .int .u8 0, .int .u8 0, .int .u8 0, .int .u8 0, .int .u8 0, .int .u8 0, .int .u8 0, .int .u8 0, .int .u8 0, .int .u8 0, .int .u8 0, .int .u8 0, .int .u8 0, .int .u8 0, .int .u8 0, .int .u8 0, .int .u8 0, .int .u8 0, .int .u8 0, .int .u8 0, .int .u8 0, .int .u8 0, .int .u8 0, .int .u8 0, .int .u8 0, .int .u8 0, .int .u8 0, .int .u8 0, .int .u8 0, .int .u8 0], .array 65 5⟩
def ti129 : TI := ⟨1, 8, .nilFunc, .fn⟩
def ti130 : TI := ⟨1, 8, .nilFunc, .fn⟩
def ti131 : TI := ⟨1, 8, .nilFunc, .fn⟩
def ti132 : TI := ⟨32, 32, .agg #[.int .u8 0, .int .u8 0, .int .u8 0, .int .u8 0, .int .u8 0, .int .u8 0, .int .u8 0, .int .u8 0, .int .u8 0, .int .u8 0, .int .u8 0, .int .u8 0, .int .u8 0, .int .u8 0, .int .u8 0, .int .u8 0, .int .u8 0, .int .u8 0, .int .u8 0, .int .u8 0, .int .u8 0, .int .u8 0, .int .u8 0, .int .u8 0, .int .u8 0, .int .u8 0, .int .u8 0, .int .u8 0, .int .u8 0, .int .u8 0, .int .u8 0, .int .u8 0], .array 32 5⟩
def ti133 : TI := ⟨64, 64, .agg #[.int .u8 0, .int .u8 0, .int .u8 0, .int .u8 0, .int .u8 0, .int .u8 0, .int .u8 0, .int .u8 0, .int .u8 0, .int .u8 0, .int .u8 0, .int .u8 0, .int .u8 0, .int .u8 0, .int .u8 0, .int .u8 0, .int .u8 0, .int .u8 0, .int .u8 0, .int .u8 0, .int .u8 0, .int .u8 0, .int .u8 0, .int .u8 0, .int .u8 0, .int .u8 0, .int .u8 0, .int .u8 0, .int .u8 0, .int .u8 0, .int .u8 0, .int .u8 0, .int .u8 0, .int .u8 0, .int .u8 0, .int .u8 0, .int .u8 0, .int .u8 0, .int .u8 0, .int .u8 0, .int .u8 0, .int .u8 0, .int .u8 0, .int .u8 0, .int .u8 0, .int .u8 0, .int .u8 0, .int .u8 0, .int .u8 0, .int .u8 0, .int .u8 0, .int .u8 0, .int .u8 0, .int .u8 0, .int .u8 0, .int .u8 0, .int .u8 0, .int .u8 0, .int .u8 0, .int .u8 0, .int .u8 0, .int .u8 0, .int .u8 0, .int .u8 0], .array 64 5⟩
def ti134 : TI := ⟨1, 8, .nilFunc, .fn⟩
def ti135 : TI := ⟨4, 40, .agg #[.pointer none, .pointer none, .pointer none, .string ByteArray.empty], .strct [(0, 17), (1, 17), (2, 17), (3, 9)]⟩
def ti136 : TI := ⟨4, 40, .agg #[.pointer none, .pointer none, .pointer none, .string ByteArray.empty], .strct [(0, 17), (1, 17), (2, 17), (3, 9)]⟩
def ti137 : TI := ⟨0, 0, .agg #[], .array 0 16⟩
def ti138 : TI := ⟨0, 0, .agg #[], .strct [(0, 137)]⟩
def ti139 : TI := ⟨0, 0, .agg #[], .strct [(0, 137)]⟩
def ti140 : TI := ⟨1, 8, .nilFunc, .fn⟩
def ti141 : TI := ⟨1, 1, .int .u8 0, .int .u8⟩
def ti142 : TI := ⟨1, 1, .int .u8 0, .int .u8⟩
def ti143 : TI := ⟨1, 8, .nilFunc, .fn⟩
def ti144 : TI := ⟨1, 8, .pointer none, .ptr 5⟩
def ti145 : TI := ⟨1, 4, .int .i32 0, .int .i32⟩
def ti146 : TI := ⟨1, 4, .int .i32 0, .int .i32⟩
def ti147 : TI := ⟨11, 48, .agg #[.int .u64 0, .int .u64 0, .int .u32 0, .int .u8 0, .int .u8 0, .int .u8 0, .int .u8 0, .nilFunc, .pointer none, .int .i32 0, .int .i32 0], .strct [(0, 12), (1, 12), (2, 115), (3, 141), (4, 5), (5, 5), (6, 142), (7, 143), (8, 144), (9, 145), (10, 146)]⟩
def ti148 : TI := ⟨11, 48, .agg #[.int .u64 0, .int .u64 0, .int .u32 0, .int .u8 0, .int .u8 0, .int .u8 0, .int .u8 0, .nilFunc, .pointer none, .int .i32 0, .int .i32 0], .strct [(0, 12), (1, 12), (2, 115), (3, 141), (4, 5), (5, 5), (6, 142), (7, 143), (8, 144), (9, 145), (10, 146)]⟩
def leafT (n : Nat) (ti : TI) (t : Nat) : TI := bif Nat.beq t n then ti else TI.none
def OkT (P : Program) (t : Nat) (ti : TI) : Prop := TIok P t ti ∨ ti = TI.none
theorem leafT_ok {P : Program} {n : Nat} {ti : TI} (h : TIok P n ti) (t : Nat) : OkT P t (leafT n ti t) := by
  unfold leafT
  cases e : Nat.beq t n with
  | true => have := Nat.eq_of_beq_eq_true e; subst this; exact .inl h
  | false => exact .inr rfl
theorem nodeT_ok {P : Program} {t : Nat} {b : Bool} {x y : TI} (hx : OkT P t x) (hy : OkT P t y) : OkT P t (bif b then x else y) := by cases b <;> assumption
theorem tiOk1 : TIok Tryz.prog 1 ti1 := ⟨by kernel_rfl, by kernel_rfl, rfl, rfl⟩
theorem tiOk2 : TIok Tryz.prog 2 ti2 := ⟨by kernel_rfl, by kernel_rfl, rfl, rfl⟩
theorem tiOk3 : TIok Tryz.prog 3 ti3 := ⟨by kernel_rfl, by kernel_rfl, rfl, rfl⟩
theorem tiOk4 : TIok Tryz.prog 4 ti4 := ⟨by kernel_rfl, by kernel_rfl, rfl, rfl⟩
theorem tiOk5 : TIok Tryz.prog 5 ti5 := ⟨by kernel_rfl, by kernel_rfl, rfl, rfl⟩
theorem tiOk6 : TIok Tryz.prog 6 ti6 := ⟨by kernel_rfl, by kernel_rfl, rfl, rfl⟩
theorem tiOk7 : TIok Tryz.prog 7 ti7 := ⟨by kernel_rfl, by kernel_rfl, rfl, rfl⟩
theorem tiOk8 : TIok Tryz.prog 8 ti8 := ⟨by kernel_rfl, by kernel_rfl, rfl, rfl⟩
theorem tiOk9 : TIok Tryz.prog 9 ti9 := ⟨by kernel_rfl, by kernel_rfl, rfl, rfl⟩
theorem tiOk10 : TIok Tryz.prog 10 ti10 := ⟨by kernel_rfl, by kernel_rfl, rfl, rfl⟩
theorem tiOk11 : TIok Tryz.prog 11 ti11 := ⟨by kernel_rfl, by kernel_rfl, rfl, rfl⟩
theorem tiOk12 : TIok Tryz.prog 12 ti12 := ⟨by kernel_rfl, by kernel_rfl, rfl, rfl⟩
theorem tiOk13 : TIok Tryz.prog 13 ti13 := ⟨by kernel_rfl, by kernel_rfl, rfl, rfl⟩
theorem tiOk14 : TIok Tryz.prog 14 ti14 := ⟨by kernel_rfl, by kernel_rfl, rfl, rfl⟩
theorem tiOk15 : TIok Tryz.prog 15 ti15 := ⟨by kernel_rfl, by kernel_rfl, rfl, rfl⟩
theorem tiOk16 : TIok Tryz.prog 16 ti16 := ⟨by kernel_rfl, by kernel_rfl, rfl, rfl⟩
theorem tiOk17 : TIok Tryz.prog 17 ti17 := ⟨by kernel_rfl, by kernel_rfl, rfl, rfl⟩
theorem tiOk18 : TIok Tryz.prog 18 ti18 := ⟨by kernel_rfl, by kernel_rfl, rfl, rfl⟩
theorem tiOk19 : TIok Tryz.prog 19 ti19 := ⟨by kernel_rfl, by kernel_rfl, rfl, rfl⟩
theorem tiOk20 : TIok Tryz.prog 20 ti20 := ⟨by kernel_rfl, by kernel_rfl, rfl, rfl⟩
theorem tiOk21 : TIok Tryz.prog 21 ti21 := ⟨by kernel_rfl, by kernel_rfl, rfl, rfl⟩
theorem tiOk22 : TIok Tryz.prog 22 ti22 := ⟨by kernel_rfl, by kernel_rfl, rfl, rfl⟩
theorem tiOk23 : TIok Tryz.prog 23 ti23 := ⟨by kernel_rfl, by kernel_rfl, rfl, rfl⟩
theorem tiOk24 : TIok Tryz.prog 24 ti24 := ⟨by kernel_rfl, by kernel_rfl, rfl, rfl⟩
theorem tiOk25 : TIok Tryz.prog 25 ti25 := ⟨by kernel_rfl, by kernel_rfl, rfl, rfl⟩
theorem tiOk26 : TIok Tryz.prog 26 ti26 := ⟨by kernel_rfl, by kernel_rfl, rfl, rfl⟩
theorem tiOk27 : TIok Tryz.prog 27 ti27 := ⟨by kernel_rfl, by kernel_rfl, rfl, rfl⟩
theorem tiOk28 : TIok Tryz.prog 28 ti28 := ⟨by kernel_rfl, by kernel_rfl, rfl, rfl⟩
theorem tiOk29 : TIok Tryz.prog 29 ti29 := ⟨by kernel_rfl, by kernel_rfl, rfl, rfl⟩
theorem tiOk30 : TIok Tryz.prog 30 ti30 := ⟨by kernel_rfl, by kernel_rfl, rfl, rfl⟩
theorem tiOk31 : TIok Tryz.prog 31 ti31 := ⟨by kernel_rfl, by kernel_rfl, rfl, rfl⟩
theorem tiOk32 : TIok Tryz.prog 32 ti32 := ⟨by kernel_rfl, by kernel_rfl, rfl, rfl⟩
theorem tiOk33 : TIok Tryz.prog 33 ti33 := ⟨by kernel_rfl, by kernel_rfl, rfl, rfl⟩
theorem tiOk34 : TIok Tryz.prog 34 ti34 := ⟨by kernel_rfl, by kernel_rfl, rfl, rfl⟩
theorem tiOk35 : TIok Tryz.prog 35 ti35 := ⟨by kernel_rfl, by kernel_rfl, rfl, rfl⟩
theorem tiOk36 : TIok Tryz.prog 36 ti36 := ⟨by kernel_rfl, by kernel_rfl, rfl, rfl⟩
theorem tiOk37 : TIok Tryz.prog 37 ti37 := ⟨by kernel_rfl, by kernel_rfl, rfl, rfl⟩
theorem tiOk38 : TIok Tryz.prog 38 ti38 := ⟨by kernel_rfl, by kernel_rfl, rfl, rfl⟩
theorem tiOk39 : TIok Tryz.prog 39 ti39 := ⟨by kernel_rfl, by kernel_rfl, rfl, rfl⟩
theorem tiOk40 : TIok Tryz.prog 40 ti40 := ⟨by kernel_rfl, by kernel_rfl, rfl, rfl⟩
theorem tiOk41 : TIok Tryz.prog 41 ti41 := ⟨by kernel_rfl, by kernel_rfl, rfl, rfl⟩
theorem tiOk42 : TIok Tryz.prog 42 ti42 := ⟨by kernel_rfl, by kernel_rfl, rfl, rfl⟩
theorem tiOk43 : TIok Tryz.prog 43 ti43 := ⟨by kernel_rfl, by kernel_rfl, rfl, rfl⟩
theorem tiOk44 : TIok Tryz.prog 44 ti44 := ⟨by kernel_rfl, by kernel_rfl, rfl, rfl⟩
theorem tiOk45 : TIok Tryz.prog 45 ti45 := ⟨by kernel_rfl, by kernel_rfl, rfl, rfl⟩
theorem tiOk46 : TIok Tryz.prog 46 ti46 := ⟨by kernel_rfl, by kernel_rfl, rfl, rfl⟩
theorem tiOk47 : TIok Tryz.prog 47 ti47 := ⟨by kernel_rfl, by kernel_rfl, rfl, rfl⟩
theorem tiOk48 : TIok Tryz.prog 48 ti48 := ⟨by kernel_rfl, by kernel_rfl, rfl, rfl⟩
theorem tiOk49 : TIok Tryz.prog 49 ti49 := ⟨by kernel_rfl, by kernel_rfl, rfl, rfl⟩
theorem tiOk50 : TIok Tryz.prog 50 ti50 := ⟨by kernel_rfl, by kernel_rfl, rfl, rfl⟩
theorem tiOk51 : TIok Tryz.prog 51 ti51 := ⟨by kernel_rfl, by kernel_rfl, rfl, rfl⟩
theorem tiOk52 : TIok Tryz.prog 52 ti52 := ⟨by kernel_rfl, by kernel_rfl, rfl, rfl⟩
theorem tiOk53 : TIok Tryz.prog 53 ti53 := ⟨by kernel_rfl, by kernel_rfl, rfl, rfl⟩
theorem tiOk54 : TIok Tryz.prog 54 ti54 := ⟨by kernel_rfl, by kernel_rfl, rfl, rfl⟩
theorem tiOk55 : TIok Tryz.prog 55 ti55 := ⟨by kernel_rfl, by kernel_rfl, rfl, rfl⟩
theorem tiOk56 : TIok Tryz.prog 56 ti56 := ⟨by kernel_rfl, by kernel_rfl, rfl, rfl⟩
theorem tiOk57 : TIok Tryz.prog 57 ti57 := ⟨by kernel_rfl, by kernel_rfl, rfl, rfl⟩
theorem tiOk58 : TIok Tryz.prog 58 ti58 := ⟨by kernel_rfl, by kernel_rfl, rfl, rfl⟩
theorem tiOk59 : TIok Tryz.prog 59 ti59 := ⟨by kernel_rfl, by kernel_rfl, rfl, rfl⟩
theorem tiOk60 : TIok Tryz.prog 60 ti60 := ⟨by kernel_rfl, by kernel_rfl, rfl, rfl⟩
theorem tiOk61 : TIok Tryz.prog 61 ti61 := ⟨by kernel_rfl, by kernel_rfl, rfl, rfl⟩
theorem tiOk62 : TIok Tryz.prog 62 ti62 := ⟨by kernel_rfl, by kernel_rfl, rfl, rfl⟩
theorem tiOk63 : TIok Tryz.prog 63 ti63 := ⟨by kernel_rfl, by kernel_rfl, rfl, rfl⟩
theorem tiOk64 : TIok Tryz.prog 64 ti64 := ⟨by kernel_rfl, by kernel_rfl, rfl, rfl⟩
theorem tiOk65 : TIok Tryz.prog 65 ti65 := ⟨by kernel_rfl, by kernel_rfl, rfl, rfl⟩
theorem tiOk66 : TIok Tryz.prog 66 ti66 := ⟨by kernel_rfl, by kernel_rfl, rfl, rfl⟩
theorem tiOk67 : TIok Tryz.prog 67 ti67 := ⟨by kernel_rfl, by kernel_rfl, rfl, rfl⟩
theorem tiOk68 : TIok Tryz.prog 68 ti68 := ⟨by kernel_rfl, by kernel_rfl, rfl, rfl⟩
theorem tiOk69 : TIok Tryz.prog 69 ti69 := ⟨by kernel_rfl, by kernel_rfl, rfl, rfl⟩
theorem tiOk70 : TIok Tryz.prog 70 ti70 := ⟨by kernel_rfl, by kernel_rfl, rfl, rfl⟩
theorem tiOk71 : TIok Tryz.prog 71 ti71 := ⟨by kernel_rfl, by kernel_rfl, rfl, rfl⟩
theorem tiOk72 : TIok Tryz.prog 72 ti72 := ⟨by kernel_rfl, by kernel_rfl, rfl, rfl⟩
theorem tiOk73 : TIok Tryz.prog 73 ti73 := ⟨by kernel_rfl, by kernel_rfl, rfl, rfl⟩
theorem tiOk74 : TIok Tryz.prog 74 ti74 := ⟨by kernel_rfl, by kernel_rfl, rfl, rfl⟩
theorem tiOk75 : TIok Tryz.prog 75 ti75 := ⟨by kernel_rfl, by kernel_rfl, rfl, rfl⟩
theorem tiOk76 : TIok Tryz.prog 76 ti76 := ⟨by kernel_rfl, by kernel_rfl, rfl, rfl⟩
theorem tiOk77 : TIok Tryz.prog 77 ti77 := ⟨by kernel_rfl, by kernel_rfl, rfl, rfl⟩
theorem tiOk78 : TIok Tryz.prog 78 ti78 := ⟨by kernel_rfl, by kernel_rfl, rfl, rfl⟩
theorem tiOk79 : TIok Tryz.prog 79 ti79 := ⟨by kernel_rfl, by kernel_rfl, rfl, rfl⟩
theorem tiOk80 : TIok Tryz.prog 80 ti80 := ⟨by kernel_rfl, by kernel_rfl, rfl, rfl⟩
theorem tiOk81 : TIok Tryz.prog 81 ti81 := ⟨by kernel_rfl, by kernel_rfl, rfl, rfl⟩
theorem tiOk82 : TIok Tryz.prog 82 ti82 := ⟨by kernel_rfl, by kernel_rfl, rfl, rfl⟩
theorem tiOk83 : TIok Tryz.prog 83 ti83 := ⟨by kernel_rfl, by kernel_rfl, rfl, rfl⟩
theorem tiOk84 : TIok Tryz.prog 84 ti84 := ⟨by kernel_rfl, by kernel_rfl, rfl, rfl⟩
theorem tiOk85 : TIok Tryz.prog 85 ti85 := ⟨by kernel_rfl, by kernel_rfl, rfl, rfl⟩
theorem tiOk86 : TIok Tryz.prog 86 ti86 := ⟨by kernel_rfl, by kernel_rfl, rfl, rfl⟩
theorem tiOk87 : TIok Tryz.prog 87 ti87 := ⟨by kernel_rfl, by kernel_rfl, rfl, rfl⟩
theorem tiOk88 : TIok Tryz.prog 88 ti88 := ⟨by kernel_rfl, by kernel_rfl, rfl, rfl⟩
theorem tiOk89 : TIok Tryz.prog 89 ti89 := ⟨by kernel_rfl, by kernel_rfl, rfl, rfl⟩
theorem tiOk90 : TIok Tryz.prog 90 ti90 := ⟨by kernel_rfl, by kernel_rfl, rfl, rfl⟩
theorem tiOk91 : TIok Tryz.prog 91 ti91 := ⟨by kernel_rfl, by kernel_rfl, rfl, rfl⟩
theorem tiOk92 : TIok Tryz.prog 92 ti92 := ⟨by kernel_rfl, by kernel_rfl, rfl, rfl⟩
theorem tiOk93 : TIok Tryz.prog 93 ti93 := ⟨by kernel_rfl, by kernel_rfl, rfl, rfl⟩
theorem tiOk94 : TIok Tryz.prog 94 ti94 := ⟨by kernel_rfl, by kernel_rfl, rfl, rfl⟩
theorem tiOk95 : TIok Tryz.prog 95 ti95 := ⟨by kernel_rfl, by kernel_rfl, rfl, rfl⟩
theorem tiOk96 : TIok Tryz.prog 96 ti96 := ⟨by kernel_rfl, by kernel_rfl, rfl, rfl⟩
theorem tiOk97 : TIok Tryz.prog 97 ti97 := ⟨by kernel_rfl, by kernel_rfl, rfl, rfl⟩
theorem tiOk98 : TIok Tryz.prog 98 ti98 := ⟨by kernel_rfl, by kernel_rfl, rfl, rfl⟩
theorem tiOk99 : TIok Tryz.prog 99 ti99 := ⟨by kernel_rfl, by kernel_rfl, rfl, rfl⟩
theorem tiOk100 : TIok Tryz.prog 100 ti100 := ⟨by kernel_rfl, by kernel_rfl, rfl, rfl⟩
theorem tiOk101 : TIok Tryz.prog 101 ti101 := ⟨by kernel_rfl, by kernel_rfl, rfl, rfl⟩
theorem tiOk102 : TIok Tryz.prog 102 ti102 := ⟨by kernel_rfl, by kernel_rfl, rfl, rfl⟩
theorem tiOk103 : TIok Tryz.prog 103 ti103 := ⟨by kernel_rfl, by kernel_rfl, rfl, rfl⟩
theorem tiOk104 : TIok Tryz.prog 104 ti104 := ⟨by kernel_rfl, by kernel_rfl, rfl, rfl⟩
theorem tiOk105 : TIok Tryz.prog 105 ti105 := ⟨by kernel_rfl, by kernel_rfl, rfl, rfl⟩
theorem tiOk107 : TIok Tryz.prog 107 ti107 := ⟨by kernel_rfl, by kernel_rfl, rfl, rfl⟩
theorem tiOk108 : TIok Tryz.prog 108 ti108 := ⟨by kernel_rfl, by kernel_rfl, rfl, rfl⟩
theorem tiOk109 : TIok Tryz.prog 109 ti109 := ⟨by kernel_rfl, by kernel_rfl, rfl, rfl⟩
theorem tiOk110 : TIok Tryz.prog 110 ti110 := ⟨by kernel_rfl, by kernel_rfl, rfl, rfl⟩
theorem tiOk111 : TIok Tryz.prog 111 ti111 := ⟨by kernel_rfl, by kernel_rfl, rfl, rfl⟩
theorem tiOk112 : TIok Tryz.prog 112 ti112 := ⟨by kernel_rfl, by kernel_rfl, rfl, rfl⟩
theorem tiOk113 : TIok Tryz.prog 113 ti113 := ⟨by kernel_rfl, by kernel_rfl, rfl, rfl⟩
theorem tiOk114 : TIok Tryz.prog 114 ti114 := ⟨by kernel_rfl, by kernel_rfl, rfl, rfl⟩
theorem tiOk115 : TIok Tryz.prog 115 ti115 := ⟨by kernel_rfl, by kernel_rfl, rfl, rfl⟩
theorem tiOk117 : TIok Tryz.prog 117 ti117 := ⟨by kernel_rfl, by kernel_rfl, rfl, rfl⟩
theorem tiOk118 : TIok Tryz.prog 118 ti118 := ⟨by kernel_rfl, by kernel_rfl, rfl, rfl⟩
theorem tiOk119 : TIok Tryz.prog 119 ti119 := ⟨by kernel_rfl, by kernel_rfl, rfl, rfl⟩
theorem tiOk120 : TIok Tryz.prog 120 ti120 := ⟨by kernel_rfl, by kernel_rfl, rfl, rfl⟩
theorem tiOk121 : TIok Tryz.prog 121 ti121 := ⟨by kernel_rfl, by kernel_rfl, rfl, rfl⟩
theorem tiOk122 : TIok Tryz.prog 122 ti122 := ⟨by kernel_rfl, by kernel_rfl, rfl, rfl⟩
theorem tiOk123 : TIok Tryz.prog 123 ti123 := ⟨by kernel_rfl, by kernel_rfl, rfl, rfl⟩
theorem tiOk125 : TIok Tryz.prog 125 ti125 := ⟨by kernel_rfl, by kernel_rfl, rfl, rfl⟩
theorem tiOk126 : TIok Tryz.prog 126 ti126 := ⟨by kernel_rfl, by kernel_rfl, rfl, rfl⟩
theorem tiOk127 : TIok Tryz.prog 127 ti127 := ⟨by kernel_rfl, by kernel_rfl, rfl, rfl⟩
theorem tiOk128 : TIok Tryz.prog 128 ti128 := ⟨by kernel_rfl, by kernel_rfl, rfl, rfl⟩
theorem tiOk129 : TIok Tryz.prog 129 ti129 := ⟨by kernel_rfl, by kernel_rfl, rfl, rfl⟩
theorem tiOk130 : TIok Tryz.prog 130 ti130 := ⟨by kernel_rfl, by kernel_rfl, rfl, rfl⟩
theorem tiOk131 : TIok Tryz.prog 131 ti131 := ⟨by kernel_rfl, by kernel_rfl, rfl, rfl⟩
theorem tiOk132 : TIok Tryz.prog 132 ti132 := ⟨by kernel_rfl, by kernel_rfl, rfl, rfl⟩
theorem tiOk133 : TIok Tryz.prog 133 ti133 := ⟨by kernel_rfl, by kernel_rfl, rfl, rfl⟩
theorem tiOk134 : TIok Tryz.prog 134 ti134 := ⟨by kernel_rfl, by kernel_rfl, rfl, rfl⟩
theorem tiOk135 : TIok Tryz.prog 135 ti135 := ⟨by kernel_rfl, by kernel_rfl, rfl, rfl⟩
theorem tiOk136 : TIok Tryz.prog 136 ti136 := ⟨by kernel_rfl, by kernel_rfl, rfl, rfl⟩
theorem tiOk137 : TIok Tryz.prog 137 ti137 := ⟨by kernel_rfl, by kernel_rfl, rfl, rfl⟩
theorem tiOk138 : TIok Tryz.prog 138 ti138 := ⟨by kernel_rfl, by kernel_rfl, rfl, rfl⟩
theorem tiOk139 : TIok Tryz.prog 139 ti139 := ⟨by kernel_rfl, by kernel_rfl, rfl, rfl⟩
theorem tiOk140 : TIok Tryz.prog 140 ti140 := ⟨by kernel_rfl, by kernel_rfl, rfl, rfl⟩
theorem tiOk141 : TIok Tryz.prog 141 ti141 := ⟨by kernel_rfl, by kernel_rfl, rfl, rfl⟩
theorem tiOk142 : TIok Tryz.prog 142 ti142 := ⟨by kernel_rfl, by kernel_rfl, rfl, rfl⟩
theorem tiOk143 : TIok Tryz.prog 143 ti143 := ⟨by kernel_rfl, by kernel_rfl, rfl, rfl⟩
theorem tiOk144 : TIok Tryz.prog 144 ti144 := ⟨by kernel_rfl, by kernel_rfl, rfl, rfl⟩
theorem tiOk145 : TIok Tryz.prog 145 ti145 := ⟨by kernel_rfl, by kernel_rfl, rfl, rfl⟩
theorem tiOk146 : TIok Tryz.prog 146 ti146 := ⟨by kernel_rfl, by kernel_rfl, rfl, rfl⟩
theorem tiOk147 : TIok Tryz.prog 147 ti147 := ⟨by kernel_rfl, by kernel_rfl, rfl, rfl⟩
theorem tiOk148 : TIok Tryz.prog 148 ti148 := ⟨by kernel_rfl, by kernel_rfl, rfl, rfl⟩
def Tt (t : TypeId) : TI :=
  bif Nat.blt t 73 then
   bif Nat.blt t 37 then
    bif Nat.blt t 19 then
     bif Nat.blt t 10 then
      bif Nat.blt t 5 then
       bif Nat.blt t 3 then
        bif Nat.blt t 2 then
         leafT 1 ti1 t
        else
         leafT 2 ti2 t
       else
        bif Nat.blt t 4 then
         leafT 3 ti3 t
        else
         leafT 4 ti4 t
      else
       bif Nat.blt t 7 then
        bif Nat.blt t 6 then
         leafT 5 ti5 t
        else
         leafT 6 ti6 t
       else
        bif Nat.blt t 8 then
         leafT 7 ti7 t
        else
         bif Nat.blt t 9 then
          leafT 8 ti8 t
         else
          leafT 9 ti9 t
     else
      bif Nat.blt t 14 then
       bif Nat.blt t 12 then
        bif Nat.blt t 11 then
         leafT 10 ti10 t
        else
         leafT 11 ti11 t
       else
        bif Nat.blt t 13 then
         leafT 12 ti12 t
        else
         leafT 13 ti13 t
      else
       bif Nat.blt t 16 then
        bif Nat.blt t 15 then
         leafT 14 ti14 t
        else
         leafT 15 ti15 t
       else
        bif Nat.blt t 17 then
         leafT 16 ti16 t
        else
         bif Nat.blt t 18 then
          leafT 17 ti17 t
         else
          leafT 18 ti18 t
    else
     bif Nat.blt t 28 then
      bif Nat.blt t 23 then
       bif Nat.blt t 21 then
        bif Nat.blt t 20 then
         leafT 19 ti19 t
        else
         leafT 20 ti20 t
       else
        bif Nat.blt t 22 then
         leafT 21 ti21 t
        else
         leafT 22 ti22 t
      else
       bif Nat.blt t 25 then
        bif Nat.blt t 24 then
         leafT 23 ti23 t
        else
         leafT 24 ti24 t
       else
        bif Nat.blt t 26 then
         leafT 25 ti25 t
        else
         bif Nat.blt t 27 then
          leafT 26 ti26 t
         else
          leafT 27 ti27 t
     else
      bif Nat.blt t 32 then
       bif Nat.blt t 30 then
        bif Nat.blt t 29 then
         leafT 28 ti28 t
        else
         leafT 29 ti29 t
       else
        bif Nat.blt t 31 then
         leafT 30 ti30 t
        else
         leafT 31 ti31 t
      else
       bif Nat.blt t 34 then
        bif Nat.blt t 33 then
         leafT 32 ti32 t
        else
         leafT 33 ti33 t
       else
        bif Nat.blt t 35 then
         leafT 34 ti34 t
        else
         bif Nat.blt t 36 then
          leafT 35 ti35 t
         else
          leafT 36 ti36 t
   else
    bif Nat.blt t 55 then
     bif Nat.blt t 46 then
      bif Nat.blt t 41 then
       bif Nat.blt t 39 then
        bif Nat.blt t 38 then
         leafT 37 ti37 t
        else
         leafT 38 ti38 t
       else
        bif Nat.blt t 40 then
         leafT 39 ti39 t
        else
         leafT 40 ti40 t
      else
       bif Nat.blt t 43 then
        bif Nat.blt t 42 then
         leafT 41 ti41 t
        else
         leafT 42 ti42 t
       else
        bif Nat.blt t 44 then
         leafT 43 ti43 t
        else
         bif Nat.blt t 45 then
          leafT 44 ti44 t
         else
          leafT 45 ti45 t
     else
      bif Nat.blt t 50 then
       bif Nat.blt t 48 then
        bif Nat.blt t 47 then
         leafT 46 ti46 t
        else
         leafT 47 ti47 t
       else
        bif Nat.blt t 49 then
         leafT 48 ti48 t
        else
         leafT 49 ti49 t
      else
       bif Nat.blt t 52 then
        bif Nat.blt t 51 then
         leafT 50 ti50 t
        else
         leafT 51 ti51 t
       else
        bif Nat.blt t 53 then
         leafT 52 ti52 t
        else
         bif Nat.blt t 54 then
          leafT 53 ti53 t
         else
          leafT 54 ti54 t
    else
     bif Nat.blt t 64 then
      bif Nat.blt t 59 then
       bif Nat.blt t 57 then
        bif Nat.blt t 56 then
         leafT 55 ti55 t
        else
         leafT 56 ti56 t
       else
        bif Nat.blt t 58 then
         leafT 57 ti57 t
        else
         leafT 58 ti58 t
      else
       bif Nat.blt t 61 then
        bif Nat.blt t 60 then
         leafT 59 ti59 t
        else
         leafT 60 ti60 t
       else
        bif Nat.blt t 62 then
         leafT 61 ti61 t
        else
         bif Nat.blt t 63 then
          leafT 62 ti62 t
         else
          leafT 63 ti63 t
     else
      bif Nat.blt t 68 then
       bif Nat.blt t 66 then
        bif Nat.blt t 65 then
         leafT 64 ti64 t
        else
         leafT 65 ti65 t
       else
        bif Nat.blt t 67 then
         leafT 66 ti66 t
        else
         leafT 67 ti67 t
      else
       bif Nat.blt t 70 then
        bif Nat.blt t 69 then
         leafT 68 ti68 t
        else
         leafT 69 ti69 t
       else
        bif Nat.blt t 71 then
         leafT 70 ti70 t
        else
         bif Nat.blt t 72 then
          leafT 71 ti71 t
         else
          leafT 72 ti72 t
  else
   bif Nat.blt t 110 then
    bif Nat.blt t 91 then
     bif Nat.blt t 82 then
      bif Nat.blt t 77 then
       bif Nat.blt t 75 then
        bif Nat.blt t 74 then
         leafT 73 ti73 t
        else
         leafT 74 ti74 t
       else
        bif Nat.blt t 76 then
         leafT 75 ti75 t
        else
         leafT 76 ti76 t
      else
       bif Nat.blt t 79 then
        bif Nat.blt t 78 then
         leafT 77 ti77 t
        else
         leafT 78 ti78 t
       else
        bif Nat.blt t 80 then
         leafT 79 ti79 t
        else
         bif Nat.blt t 81 then
          leafT 80 ti80 t
         else
          leafT 81 ti81 t
     else
      bif Nat.blt t 86 then
       bif Nat.blt t 84 then
        bif Nat.blt t 83 then
         leafT 82 ti82 t
        else
         leafT 83 ti83 t
       else
        bif Nat.blt t 85 then
         leafT 84 ti84 t
        else
         leafT 85 ti85 t
      else
       bif Nat.blt t 88 then
        bif Nat.blt t 87 then
         leafT 86 ti86 t
        else
         leafT 87 ti87 t
       else
        bif Nat.blt t 89 then
         leafT 88 ti88 t
        else
         bif Nat.blt t 90 then
          leafT 89 ti89 t
         else
          leafT 90 ti90 t
    else
     bif Nat.blt t 100 then
      bif Nat.blt t 95 then
       bif Nat.blt t 93 then
        bif Nat.blt t 92 then
         leafT 91 ti91 t
        else
         leafT 92 ti92 t
       else
        bif Nat.blt t 94 then
         leafT 93 ti93 t
        else
         leafT 94 ti94 t
      else
       bif Nat.blt t 97 then
        bif Nat.blt t 96 then
         leafT 95 ti95 t
        else
         leafT 96 ti96 t
       else
        bif Nat.blt t 98 then
         leafT 97 ti97 t
        else
         bif Nat.blt t 99 then
          leafT 98 ti98 t
         else
          leafT 99 ti99 t
     else
      bif Nat.blt t 104 then
       bif Nat.blt t 102 then
        bif Nat.blt t 101 then
         leafT 100 ti100 t
        else
         leafT 101 ti101 t
       else
        bif Nat.blt t 103 then
         leafT 102 ti102 t
        else
         leafT 103 ti103 t
      else
       bif Nat.blt t 107 then
        bif Nat.blt t 105 then
         leafT 104 ti104 t
        else
         leafT 105 ti105 t
       else
        bif Nat.blt t 108 then
         leafT 107 ti107 t
        else
         bif Nat.blt t 109 then
          leafT 108 ti108 t
         else
          leafT 109 ti109 t
   else
    bif Nat.blt t 130 then
     bif Nat.blt t 120 then
      bif Nat.blt t 114 then
       bif Nat.blt t 112 then
        bif Nat.blt t 111 then
         leafT 110 ti110 t
        else
         leafT 111 ti111 t
       else
        bif Nat.blt t 113 then
         leafT 112 ti112 t
        else
         leafT 113 ti113 t
      else
       bif Nat.blt t 117 then
        bif Nat.blt t 115 then
         leafT 114 ti114 t
        else
         leafT 115 ti115 t
       else
        bif Nat.blt t 118 then
         leafT 117 ti117 t
        else
         bif Nat.blt t 119 then
          leafT 118 ti118 t
         else
          leafT 119 ti119 t
     else
      bif Nat.blt t 125 then
       bif Nat.blt t 122 then
        bif Nat.blt t 121 then
         leafT 120 ti120 t
        else
         leafT 121 ti121 t
       else
        bif Nat.blt t 123 then
         leafT 122 ti122 t
        else
         leafT 123 ti123 t
      else
       bif Nat.blt t 127 then
        bif Nat.blt t 126 then
         leafT 125 ti125 t
        else
         leafT 126 ti126 t
       else
        bif Nat.blt t 128 then
         leafT 127 ti127 t
        else
         bif Nat.blt t 129 then
          leafT 128 ti128 t
         else
          leafT 129 ti129 t
    else
     bif Nat.blt t 139 then
      bif Nat.blt t 134 then
       bif Nat.blt t 132 then
        bif Nat.blt t 131 then
         leafT 130 ti130 t
        else
         leafT 131 ti131 t
       else
        bif Nat.blt t 133 then
         leafT 132 ti132 t
        else
         leafT 133 ti133 t
      else
       bif Nat.blt t 136 then
        bif Nat.blt t 135 then
         leafT 134 ti134 t
        else
         leafT 135 ti135 t
       else
        bif Nat.blt t 137 then
         leafT 136 ti136 t
        else
         bif Nat.blt t 138 then
          leafT 137 ti137 t
         else
          leafT 138 ti138 t
     else
      bif Nat.blt t 144 then
       bif Nat.blt t 141 then
        bif Nat.blt t 140 then
         leafT 139 ti139 t
        else
         leafT 140 ti140 t
       else
        bif Nat.blt t 142 then
         leafT 141 ti141 t
        else
         bif Nat.blt t 143 then
          leafT 142 ti142 t
         else
          leafT 143 ti143 t
      else
       bif Nat.blt t 146 then
        bif Nat.blt t 145 then
         leafT 144 ti144 t
        else
         leafT 145 ti145 t
       else
        bif Nat.blt t 147 then
         leafT 146 ti146 t
        else
         bif Nat.blt t 148 then
          leafT 147 ti147 t
         else
          leafT 148 ti148 t
theorem Tt_ok (t : TypeId) : TIok Tryz.prog t (Tt t) ∨ Tt t = TI.none :=
  (nodeT_ok (nodeT_ok (nodeT_ok (nodeT_ok (nodeT_ok (nodeT_ok (nodeT_ok (leafT_ok tiOk1 t) (leafT_ok tiOk2 t)) (nodeT_ok (leafT_ok tiOk3 t) (leafT_ok tiOk4 t))) (nodeT_ok (nodeT_ok (leafT_ok tiOk5 t) (leafT_ok tiOk6 t)) (nodeT_ok (leafT_ok tiOk7 t) (nodeT_ok (leafT_ok tiOk8 t) (leafT_ok tiOk9 t))))) (nodeT_ok (nodeT_ok (nodeT_ok (leafT_ok tiOk10 t) (leafT_ok tiOk11 t)) (nodeT_ok (leafT_ok tiOk12 t) (leafT_ok tiOk13 t))) (nodeT_ok (nodeT_ok (leafT_ok tiOk14 t) (leafT_ok tiOk15 t)) (nodeT_ok (leafT_ok tiOk16 t) (nodeT_ok (leafT_ok tiOk17 t) (leafT_ok tiOk18 t)))))) (nodeT_ok (nodeT_ok (nodeT_ok (nodeT_ok (leafT_ok tiOk19 t) (leafT_ok tiOk20 t)) (nodeT_ok (leafT_ok tiOk21 t) (leafT_ok tiOk22 t))) (nodeT_ok (nodeT_ok (leafT_ok tiOk23 t) (leafT_ok tiOk24 t)) (nodeT_ok (leafT_ok tiOk25 t) (nodeT_ok (leafT_ok tiOk26 t) (leafT_ok tiOk27 t))))) (nodeT_ok (nodeT_ok (nodeT_ok (leafT_ok tiOk28 t) (leafT_ok tiOk29 t)) (nodeT_ok (leafT_ok tiOk30 t) (leafT_ok tiOk31 t))) (nodeT_ok (nodeT_ok (leafT_ok tiOk32 t) (leafT_ok tiOk33 t)) (nodeT_ok (leafT_ok tiOk34 t) (nodeT_ok (leafT_ok tiOk35 t) (leafT_ok tiOk36 t))))))) (nodeT_ok (nodeT_ok (nodeT_ok (nodeT_ok (nodeT_ok (leafT_ok tiOk37 t) (leafT_ok tiOk38 t)) (nodeT_ok (leafT_ok tiOk39 t) (leafT_ok tiOk40 t))) (nodeT_ok (nodeT_ok (leafT_ok tiOk41 t) (leafT_ok tiOk42 t)) (nodeT_ok (leafT_ok tiOk43 t) (nodeT_ok (leafT_ok tiOk44 t) (leafT_ok tiOk45 t))))) (nodeT_ok (nodeT_ok (nodeT_ok (leafT_ok tiOk46 t) (leafT_ok tiOk47 t)) (nodeT_ok (leafT_ok tiOk48 t) (leafT_ok tiOk49 t))) (nodeT_ok (nodeT_ok (leafT_ok tiOk50 t) (leafT_ok tiOk51 t)) (nodeT_ok (leafT_ok tiOk52 t) (nodeT_ok (leafT_ok tiOk53 t) (leafT_ok tiOk54 t)))))) (nodeT_ok (nodeT_ok (nodeT_ok (nodeT_ok (leafT_ok tiOk55 t) (leafT_ok tiOk56 t)) (nodeT_ok (leafT_ok tiOk57 t) (leafT_ok tiOk58 t))) (nodeT_ok (nodeT_ok (leafT_ok tiOk59 t) (leafT_ok tiOk60 t)) (nodeT_ok (leafT_ok tiOk61 t) (nodeT_ok (leafT_ok tiOk62 t) (leafT_ok tiOk63 t))))) (nodeT_ok (nodeT_ok (nodeT_ok (leafT_ok tiOk64 t) (leafT_ok tiOk65 t)) (nodeT_ok (leafT_ok tiOk66 t) (leafT_ok tiOk67 t))) (nodeT_ok (nodeT_ok (leafT_ok tiOk68 t) (leafT_ok tiOk69 t)) (nodeT_ok (leafT_ok tiOk70 t) (nodeT_ok (leafT_ok tiOk71 t) (leafT_ok tiOk72 t)))))))) (nodeT_ok (nodeT_ok (nodeT_ok (nodeT_ok (nodeT_ok (nodeT_ok (leafT_ok tiOk73 t) (leafT_ok tiOk74 t)) (nodeT_ok (leafT_ok tiOk75 t) (leafT_ok tiOk76 t))) (nodeT_ok (nodeT_ok (leafT_ok tiOk77 t) (leafT_ok tiOk78 t)) (nodeT_ok (leafT_ok tiOk79 t) (nodeT_ok (leafT_ok tiOk80 t) (leafT_ok tiOk81 t))))) (nodeT_ok (nodeT_ok (nodeT_ok (leafT_ok tiOk82 t) (leafT_ok tiOk83 t)) (nodeT_ok (leafT_ok tiOk84 t) (leafT_ok tiOk85 t))) (nodeT_ok (nodeT_ok (leafT_ok tiOk86 t) (leafT_ok tiOk87 t)) (nodeT_ok (leafT_ok tiOk88 t) (nodeT_ok (leafT_ok tiOk89 t) (leafT_ok tiOk90 t)))))) (nodeT_ok (nodeT_ok (nodeT_ok (nodeT_ok (leafT_ok tiOk91 t) (leafT_ok tiOk92 t)) (nodeT_ok (leafT_ok tiOk93 t) (leafT_ok tiOk94 t))) (nodeT_ok (nodeT_ok (leafT_ok tiOk95 t) (leafT_ok tiOk96 t)) (nodeT_ok (leafT_ok tiOk97 t) (nodeT_ok (leafT_ok tiOk98 t) (leafT_ok tiOk99 t))))) (nodeT_ok (nodeT_ok (nodeT_ok (leafT_ok tiOk100 t) (leafT_ok tiOk101 t)) (nodeT_ok (leafT_ok tiOk102 t) (leafT_ok tiOk103 t))) (nodeT_ok (nodeT_ok (leafT_ok tiOk104 t) (leafT_ok tiOk105 t)) (nodeT_ok (leafT_ok tiOk107 t) (nodeT_ok (leafT_ok tiOk108 t) (leafT_ok tiOk109 t))))))) (nodeT_ok (nodeT_ok (nodeT_ok (nodeT_ok (nodeT_ok (leafT_ok tiOk110 t) (leafT_ok tiOk111 t)) (nodeT_ok (leafT_ok tiOk112 t) (leafT_ok tiOk113 t))) (nodeT_ok (nodeT_ok (leafT_ok tiOk114 t) (leafT_ok tiOk115 t)) (nodeT_ok (leafT_ok tiOk117 t) (nodeT_ok (leafT_ok tiOk118 t) (leafT_ok tiOk119 t))))) (nodeT_ok (nodeT_ok (nodeT_ok (leafT_ok tiOk120 t) (leafT_ok tiOk121 t)) (nodeT_ok (leafT_ok tiOk122 t) (leafT_ok tiOk123 t))) (nodeT_ok (nodeT_ok (leafT_ok tiOk125 t) (leafT_ok tiOk126 t)) (nodeT_ok (leafT_ok tiOk127 t) (nodeT_ok (leafT_ok tiOk128 t) (leafT_ok tiOk129 t)))))) (nodeT_ok (nodeT_ok (nodeT_ok (nodeT_ok (leafT_ok tiOk130 t) (leafT_ok tiOk131 t)) (nodeT_ok (leafT_ok tiOk132 t) (leafT_ok tiOk133 t))) (nodeT_ok (nodeT_ok (leafT_ok tiOk134 t) (leafT_ok tiOk135 t)) (nodeT_ok (leafT_ok tiOk136 t) (nodeT_ok (leafT_ok tiOk137 t) (leafT_ok tiOk138 t))))) (nodeT_ok (nodeT_ok (nodeT_ok (leafT_ok tiOk139 t) (leafT_ok tiOk140 t)) (nodeT_ok (leafT_ok tiOk141 t) (nodeT_ok (leafT_ok tiOk142 t) (leafT_ok tiOk143 t)))) (nodeT_ok (nodeT_ok (leafT_ok tiOk144 t) (leafT_ok tiOk145 t)) (nodeT_ok (leafT_ok tiOk146 t) (nodeT_ok (leafT_ok tiOk147 t) (leafT_ok tiOk148 t)))))))))
theorem eqOk80 : EqOkB Tryz.prog 80 = true := by kernel_rfl
theorem eqOk82 : EqOkB Tryz.prog 82 = true := by kernel_rfl
theorem eqOk84 : EqOkB Tryz.prog 84 = true := by kernel_rfl
theorem eqOk86 : EqOkB Tryz.prog 86 = true := by kernel_rfl
theorem eqOk88 : EqOkB Tryz.prog 88 = true := by kernel_rfl
theorem eqOk90 : EqOkB Tryz.prog 90 = true := by kernel_rfl
def Et (t : TypeId) : Bool := [80, 82, 84, 86, 88, 90].any (Nat.beq t)
theorem Et_ok (t : TypeId) (h : Et t = true) : EqOkB Tryz.prog t = true := by
  obtain ⟨x, hx, he⟩ := List.any_eq_true.1 h
  have := Nat.eq_of_beq_eq_true he
  subst this
  simp only [List.mem_cons, List.not_mem_nil, or_false] at hx
  rcases hx with rfl | rfl | rfl | rfl | rfl | rfl
  · exact eqOk80
  · exact eqOk82
  · exact eqOk84
  · exact eqOk86
  · exact eqOk88
  · exact eqOk90
end Go.Proofs.YtikkoaoibomofaaGreatDoor.Aw
