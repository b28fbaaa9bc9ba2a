/-
  The table of the seat's types for the abstract walk, and that it is the program's. Written by a program of mine (gentypes.py) out of the translation's own rows; no condition.
-/
import Derived.Test.YtcpdgnkhkdddhaaGreatDoorWrd1
import Derived.Test.YtcpdgnkhkdddhaaGreatDoorProg
set_option maxRecDepth 100000
namespace Go.Proofs.YtcpdgnkhkdddhaaGreatDoor.Aw
open Go
def ti1 : TI := ⟨1, 8, .nilFunc, .fn⟩
def ti2 : TI := ⟨1, 8, .int .i64 0, .int .i64⟩
def ti3 : TI := ⟨1, 8, .int .i64 0, .int .i64⟩
def ti4 : TI := ⟨1, 1, .bool false, .bool⟩
def ti5 : TI := ⟨1, 1, .int .u8 0, .int .u8⟩
def ti6 : TI := ⟨1, 1, .int .u8 0, .int .u8⟩
def ti7 : TI := ⟨4, 24, .agg #[.int .i64 0, .int .i64 0, .bool false, .int .u8 0], .strct [(0, 2), (1, 3), (2, 4), (3, 6)]⟩
def ti8 : TI := ⟨4, 24, .agg #[.int .i64 0, .int .i64 0, .bool false, .int .u8 0], .strct [(0, 2), (1, 3), (2, 4), (3, 6)]⟩
def ti9 : TI := ⟨1, 16, .string ByteArray.empty, .str⟩
def ti10 : TI := ⟨1, 16, .string ByteArray.empty, .str⟩
def ti11 : TI := ⟨1, 16, .string ByteArray.empty, .str⟩
def ti12 : TI := ⟨1, 8, .int .u64 0, .int .u64⟩
def ti13 : TI := ⟨2, 24, .agg #[.string ByteArray.empty, .int .u64 0], .strct [(0, 9), (1, 12)]⟩
def ti14 : TI := ⟨2, 24, .agg #[.string ByteArray.empty, .int .u64 0], .strct [(0, 9), (1, 12)]⟩
def ti15 : TI := ⟨1, 8, .pointer none, .ptr 348⟩
def ti16 : TI := ⟨1, 8, .pointer none, .ptr 351⟩
def ti17 : TI := ⟨1, 8, .pointer none, .ptr 358⟩
def ti18 : TI := ⟨1, 8, .agg #[.pointer none], .strct [(0, 17)]⟩
def ti19 : TI := ⟨1, 8, .agg #[.pointer none], .strct [(0, 17)]⟩
def ti20 : TI := ⟨1, 16, .nilIface, .iface true⟩
def ti21 : TI := ⟨1, 4, .int .i32 0, .int .i32⟩
def ti22 : TI := ⟨1, 24, .slice none 0 0, .slice 54⟩
def ti23 : TI := ⟨1, 8, .pointer none, .ptr 111⟩
def ti24 : TI := ⟨1, 8, .nilFunc, .fn⟩
def ti25 : TI := ⟨1, 8, .nilFunc, .fn⟩
def ti26 : TI := ⟨1, 8, .nilFunc, .fn⟩
def ti27 : TI := ⟨1, 8, .pointer none, .ptr 44⟩
def ti28 : TI := ⟨1, 24, .slice none 0 0, .slice 29⟩
def ti29 : TI := ⟨1, 24, .slice none 0 0, .slice 3⟩
def ti30 : TI := ⟨1, 24, .slice none 0 0, .slice 52⟩
def ti31 : TI := ⟨1, 24, .slice none 0 0, .slice 171⟩
def ti32 : TI := ⟨1, 24, .slice none 0 0, .slice 174⟩
def ti33 : TI := ⟨1, 24, .slice none 0 0, .slice 49⟩
def ti34 : TI := ⟨1, 24, .slice none 0 0, .slice 48⟩
def ti35 : TI := ⟨1, 24, .slice none 0 0, .slice 177⟩
def ti36 : TI := ⟨1, 24, .slice none 0 0, .slice 180⟩
def ti37 : TI := ⟨1, 24, .slice none 0 0, .slice 28⟩
def ti38 : TI := ⟨1, 24, .slice none 0 0, .slice 183⟩
def ti39 : TI := ⟨1, 24, .slice none 0 0, .slice 186⟩
def ti40 : TI := ⟨1, 24, .slice none 0 0, .slice 22⟩
def ti41 : TI := ⟨1, 24, .slice none 0 0, .slice 187⟩
def ti42 : TI := ⟨1, 24, .slice none 0 0, .slice 192⟩
def ti43 : TI := ⟨28, 672, .agg #[.slice none 0 0, .slice none 0 0, .slice none 0 0, .slice none 0 0, .slice none 0 0, .slice none 0 0, .slice none 0 0, .slice none 0 0, .slice none 0 0, .slice none 0 0, .slice none 0 0, .slice none 0 0, .slice none 0 0, .slice none 0 0, .slice none 0 0, .slice none 0 0, .slice none 0 0, .slice none 0 0, .slice none 0 0, .slice none 0 0, .slice none 0 0, .slice none 0 0, .slice none 0 0, .slice none 0 0, .slice none 0 0, .slice none 0 0, .slice none 0 0, .slice none 0 0], .strct [(0, 28), (1, 29), (2, 30), (3, 29), (4, 31), (5, 29), (6, 32), (7, 29), (8, 33), (9, 29), (10, 34), (11, 29), (12, 35), (13, 29), (14, 36), (15, 29), (16, 37), (17, 29), (18, 38), (19, 29), (20, 39), (21, 29), (22, 40), (23, 29), (24, 41), (25, 29), (26, 42), (27, 29)]⟩
def ti44 : TI := ⟨28, 672, .agg #[.slice none 0 0, .slice none 0 0, .slice none 0 0, .slice none 0 0, .slice none 0 0, .slice none 0 0, .slice none 0 0, .slice none 0 0, .slice none 0 0, .slice none 0 0, .slice none 0 0, .slice none 0 0, .slice none 0 0, .slice none 0 0, .slice none 0 0, .slice none 0 0, .slice none 0 0, .slice none 0 0, .slice none 0 0, .slice none 0 0, .slice none 0 0, .slice none 0 0, .slice none 0 0, .slice none 0 0, .slice none 0 0, .slice none 0 0, .slice none 0 0, .slice none 0 0], .strct [(0, 28), (1, 29), (2, 30), (3, 29), (4, 31), (5, 29), (6, 32), (7, 29), (8, 33), (9, 29), (10, 34), (11, 29), (12, 35), (13, 29), (14, 36), (15, 29), (16, 37), (17, 29), (18, 38), (19, 29), (20, 39), (21, 29), (22, 40), (23, 29), (24, 41), (25, 29), (26, 42), (27, 29)]⟩
def ti45 : TI := ⟨1, 8, .nilFunc, .fn⟩
def ti47 : TI := ⟨1, 8, .nilFunc, .fn⟩
def ti48 : TI := ⟨1, 24, .slice none 0 0, .slice 123⟩
def ti49 : TI := ⟨1, 24, .slice none 0 0, .slice 136⟩
def ti50 : TI := ⟨2, 40, .agg #[.slice none 0 0, .string ByteArray.empty], .strct [(0, 49), (1, 9)]⟩
def ti51 : TI := ⟨2, 40, .agg #[.slice none 0 0, .string ByteArray.empty], .strct [(0, 49), (1, 9)]⟩
def ti52 : TI := ⟨1, 24, .slice none 0 0, .slice 9⟩
def ti53 : TI := ⟨10, 176, .agg #[.int .i64 0, .string ByteArray.empty, .slice none 0 0, .slice none 0 0, .string ByteArray.empty, .slice none 0 0, .slice none 0 0, .int .i64 0, .string ByteArray.empty, .string ByteArray.empty], .strct [(0, 3), (1, 9), (2, 48), (3, 51), (5, 29), (6, 52), (7, 3), (8, 9), (9, 9)]⟩
def ti54 : TI := ⟨10, 176, .agg #[.int .i64 0, .string ByteArray.empty, .slice none 0 0, .slice none 0 0, .string ByteArray.empty, .slice none 0 0, .slice none 0 0, .int .i64 0, .string ByteArray.empty, .string ByteArray.empty], .strct [(0, 3), (1, 9), (2, 48), (3, 51), (5, 29), (6, 52), (7, 3), (8, 9), (9, 9)]⟩
def ti55 : TI := ⟨1, 8, .int .i64 0, .int .i64⟩
def ti57 : TI := ⟨1, 8, .nilFunc, .fn⟩
def ti58 : TI := ⟨1, 8, .nilFunc, .fn⟩
def ti59 : TI := ⟨1, 8, .nilFunc, .fn⟩
def ti60 : TI := ⟨1, 8, .nilFunc, .fn⟩
def ti61 : TI := ⟨13, 104, .agg #[.int .i64 0, .int .i64 0, .int .i64 0, .int .i64 0, .int .i64 0, .int .i64 0, .int .i64 0, .int .i64 0, .int .i64 0, .int .i64 0, .int .i64 0, .int .i64 0, .int .i64 0], .array 13 3⟩
def ti62 : TI := ⟨19, 152, .agg #[.int .i64 0, .int .i64 0, .int .i64 0, .int .i64 0, .int .i64 0, .int .i64 0, .int .i64 0, .int .i64 0, .int .i64 0, .int .i64 0, .int .i64 0, .int .i64 0, .int .i64 0, .int .i64 0, .int .i64 0, .int .i64 0, .int .i64 0, .int .i64 0, .int .i64 0], .strct [(0, 3), (1, 3), (2, 3), (3, 3), (4, 3), (5, 3), (6, 61)]⟩
def ti63 : TI := ⟨19, 152, .agg #[.int .i64 0, .int .i64 0, .int .i64 0, .int .i64 0, .int .i64 0, .int .i64 0, .int .i64 0, .int .i64 0, .int .i64 0, .int .i64 0, .int .i64 0, .int .i64 0, .int .i64 0, .int .i64 0, .int .i64 0, .int .i64 0, .int .i64 0, .int .i64 0, .int .i64 0], .strct [(0, 3), (1, 3), (2, 3), (3, 3), (4, 3), (5, 3), (6, 61)]⟩
def ti64 : TI := ⟨2, 16, .agg #[.int .i64 0, .int .i64 0], .strct [(0, 3), (1, 3)]⟩
def ti65 : TI := ⟨2, 16, .agg #[.int .i64 0, .int .i64 0], .strct [(0, 3), (1, 3)]⟩
def ti67 : TI := ⟨1, 8, .nilFunc, .fn⟩
def ti68 : TI := ⟨1, 16, .nilIface, .iface false⟩
def ti69 : TI := ⟨1, 16, .nilIface, .iface false⟩
def ti71 : TI := ⟨1, 8, .nilFunc, .fn⟩
def ti72 : TI := ⟨1, 8, .pointer none, .ptr 75⟩
def ti74 : TI := ⟨3, 24, .agg #[.int .i64 0, .int .i64 0, .int .i64 0], .strct [(0, 3), (1, 3), (2, 55)]⟩
def ti75 : TI := ⟨3, 24, .agg #[.int .i64 0, .int .i64 0, .int .i64 0], .strct [(0, 3), (1, 3), (2, 55)]⟩
def ti76 : TI := ⟨1, 8, .nilFunc, .fn⟩
def ti77 : TI := ⟨2, 16, .agg #[.int .i64 0, .int .i64 0], .strct [(0, 3), (1, 3)]⟩
def ti79 : TI := ⟨1, 8, .nilFunc, .fn⟩
def ti81 : TI := ⟨1, 8, .nilFunc, .fn⟩
def ti83 : TI := ⟨1, 8, .nilFunc, .fn⟩
def ti84 : TI := ⟨1, 8, .nilFunc, .fn⟩
def ti85 : TI := ⟨1, 24, .slice none 0 0, .slice 90⟩
def ti86 : TI := ⟨1, 8, .nilFunc, .fn⟩
def ti87 : TI := ⟨1, 8, .pointer none, .ptr 106⟩
def ti88 : TI := ⟨1, 8, .nilFunc, .fn⟩
def ti89 : TI := ⟨10, 136, .agg #[.int .i64 0, .bool false, .slice none 0 0, .string ByteArray.empty, .slice none 0 0, .slice none 0 0, .int .i64 0, .int .i64 0, .int .i64 0, .int .i64 0], .strct [(0, 3), (1, 4), (2, 51), (4, 48), (5, 29), (6, 3), (7, 3), (8, 3), (9, 3)]⟩
def ti90 : TI := ⟨10, 136, .agg #[.int .i64 0, .bool false, .slice none 0 0, .string ByteArray.empty, .slice none 0 0, .slice none 0 0, .int .i64 0, .int .i64 0, .int .i64 0, .int .i64 0], .strct [(0, 3), (1, 4), (2, 51), (4, 48), (5, 29), (6, 3), (7, 3), (8, 3), (9, 3)]⟩
def ti92 : TI := ⟨1, 8, .nilFunc, .fn⟩
def ti93 : TI := ⟨1, 8, .nilFunc, .fn⟩
def ti94 : TI := ⟨1, 8, .nilFunc, .fn⟩
def ti95 : TI := ⟨1, 8, .nilFunc, .fn⟩
def ti96 : TI := ⟨1, 8, .nilFunc, .fn⟩
def ti97 : TI := ⟨1, 8, .nilFunc, .fn⟩
def ti98 : TI := ⟨1, 8, .nilFunc, .fn⟩
def ti100 : TI := ⟨1, 8, .nilFunc, .fn⟩
def ti101 : TI := ⟨1, 8, .nilFunc, .fn⟩
def ti102 : TI := ⟨1, 24, .slice none 0 0, .slice 5⟩
def ti103 : TI := ⟨3, 56, .agg #[.slice none 0 0, .slice none 0 0, .bool false], .strct [(0, 22), (1, 102), (2, 4)]⟩
def ti104 : TI := ⟨3, 56, .agg #[.slice none 0 0, .slice none 0 0, .bool false], .strct [(0, 22), (1, 102), (2, 4)]⟩
def ti105 : TI := ⟨5, 72, .agg #[.slice none 0 0, .slice none 0 0, .bool false, .int .i64 0, .bool false], .strct [(0, 104), (3, 3), (4, 4)]⟩
def ti106 : TI := ⟨5, 72, .agg #[.slice none 0 0, .slice none 0 0, .bool false, .int .i64 0, .bool false], .strct [(0, 104), (3, 3), (4, 4)]⟩
def ti107 : TI := ⟨1, 8, .nilFunc, .fn⟩
def ti108 : TI := ⟨1, 8, .nilFunc, .fn⟩
def ti109 : TI := ⟨1, 8, .nilFunc, .fn⟩
def ti110 : TI := ⟨1, 8, .agg #[.int .i64 0], .strct [(0, 3)]⟩
def ti111 : TI := ⟨1, 8, .agg #[.int .i64 0], .strct [(0, 3)]⟩
def ti112 : TI := ⟨1, 8, .nilFunc, .fn⟩
def ti113 : TI := ⟨1, 8, .nilFunc, .fn⟩
def ti114 : TI := ⟨1, 8, .nilFunc, .fn⟩
def ti116 : TI := ⟨1, 8, .nilFunc, .fn⟩
def ti118 : TI := ⟨1, 8, .nilFunc, .fn⟩
def ti119 : TI := ⟨1, 8, .nilFunc, .fn⟩
def ti120 : TI := ⟨1, 8, .nilFunc, .fn⟩
def ti121 : TI := ⟨1, 8, .nilFunc, .fn⟩
def ti122 : TI := ⟨3, 32, .agg #[.int .i64 0, .string ByteArray.empty, .int .i64 0], .strct [(0, 3), (1, 9), (2, 3)]⟩
def ti123 : TI := ⟨3, 32, .agg #[.int .i64 0, .string ByteArray.empty, .int .i64 0], .strct [(0, 3), (1, 9), (2, 3)]⟩
def ti124 : TI := ⟨1, 8, .nilFunc, .fn⟩
def ti125 : TI := ⟨1, 8, .pointer none, .ptr 128⟩
def ti126 : TI := ⟨13, 104, .agg #[.int .i64 0, .int .i64 0, .int .i64 0, .int .i64 0, .int .i64 0, .int .i64 0, .int .i64 0, .int .i64 0, .int .i64 0, .int .i64 0, .int .i64 0, .int .i64 0, .int .i64 0], .array 13 3⟩
def ti127 : TI := ⟨33, 264, .agg #[.int .i64 0, .int .i64 0, .int .i64 0, .int .i64 0, .int .i64 0, .int .i64 0, .int .i64 0, .int .i64 0, .int .i64 0, .int .i64 0, .int .i64 0, .int .i64 0, .int .i64 0, .int .i64 0, .int .i64 0, .int .i64 0, .int .i64 0, .int .i64 0, .int .i64 0, .int .i64 0, .int .i64 0, .int .i64 0, .int .i64 0, .int .i64 0, .int .i64 0, .int .i64 0, .int .i64 0, .int .i64 0, .int .i64 0, .int .i64 0, .int .i64 0, .int .i64 0, .int .i64 0], .strct [(0, 126), (13, 63), (32, 3)]⟩
def ti128 : TI := ⟨33, 264, .agg #[.int .i64 0, .int .i64 0, .int .i64 0, .int .i64 0, .int .i64 0, .int .i64 0, .int .i64 0, .int .i64 0, .int .i64 0, .int .i64 0, .int .i64 0, .int .i64 0, .int .i64 0, .int .i64 0, .int .i64 0, .int .i64 0, .int .i64 0, .int .i64 0, .int .i64 0, .int .i64 0, .int .i64 0, .int .i64 0, .int .i64 0, .int .i64 0, .int .i64 0, .int .i64 0, .int .i64 0, .int .i64 0, .int .i64 0, .int .i64 0, .int .i64 0, .int .i64 0, .int .i64 0], .strct [(0, 126), (13, 63), (32, 3)]⟩
def ti129 : TI := ⟨1, 8, .nilFunc, .fn⟩
def ti130 : TI := ⟨1, 8, .pointer none, .ptr 132⟩
def ti131 : TI := ⟨2, 32, .agg #[.pointer none, .slice none 0 0], .strct [(0, 130), (1, 102)]⟩
def ti132 : TI := ⟨2, 32, .agg #[.pointer none, .slice none 0 0], .strct [(0, 130), (1, 102)]⟩
def ti134 : TI := ⟨1, 8, .nilFunc, .fn⟩
def ti135 : TI := ⟨2, 24, .agg #[.string ByteArray.empty, .int .i64 0], .strct [(0, 9), (1, 3)]⟩
def ti136 : TI := ⟨2, 24, .agg #[.string ByteArray.empty, .int .i64 0], .strct [(0, 9), (1, 3)]⟩
def ti137 : TI := ⟨1, 8, .nilFunc, .fn⟩
def ti138 : TI := ⟨1, 8, .nilFunc, .fn⟩
def ti139 : TI := ⟨1, 8, .nilFunc, .fn⟩
def ti140 : TI := ⟨1, 8, .nilFunc, .fn⟩
def ti141 : TI := ⟨1, 8, .nilFunc, .fn⟩
def ti142 : TI := ⟨1, 8, .nilFunc, .fn⟩
def ti143 : TI := ⟨1, 8, .nilFunc, .fn⟩
def ti145 : TI := ⟨1, 8, .nilFunc, .fn⟩
def ti146 : TI := ⟨1, 8, .pointer none, .ptr 104⟩
def ti147 : TI := ⟨1, 8, .nilFunc, .fn⟩
def ti148 : TI := ⟨1, 8, .nilFunc, .fn⟩
def ti149 : TI := ⟨1, 8, .nilFunc, .fn⟩
def ti150 : TI := ⟨1, 8, .nilFunc, .fn⟩
def ti151 : TI := ⟨1, 8, .nilFunc, .fn⟩
def ti152 : TI := ⟨1, 8, .nilFunc, .fn⟩
def ti153 : TI := ⟨1, 8, .nilFunc, .fn⟩
def ti154 : TI := ⟨1, 8, .pointer none, .ptr 156⟩
def ti155 : TI := ⟨2, 32, .agg #[.slice none 0 0, .int .i64 0], .strct [(0, 52), (1, 3)]⟩
def ti156 : TI := ⟨2, 32, .agg #[.slice none 0 0, .int .i64 0], .strct [(0, 52), (1, 3)]⟩
def ti158 : TI := ⟨1, 8, .nilFunc, .fn⟩
def ti159 : TI := ⟨1, 8, .nilFunc, .fn⟩
def ti160 : TI := ⟨1, 8, .nilFunc, .fn⟩
def ti161 : TI := ⟨1, 8, .nilFunc, .fn⟩
def ti162 : TI := ⟨1, 8, .nilFunc, .fn⟩
def ti164 : TI := ⟨1, 8, .nilFunc, .fn⟩
def ti165 : TI := ⟨1, 8, .nilFunc, .fn⟩
def ti166 : TI := ⟨1, 8, .pointer none, .ptr 72⟩
def ti167 : TI := ⟨1, 8, .nilFunc, .fn⟩
def ti168 : TI := ⟨1, 8, .nilFunc, .fn⟩
def ti169 : TI := ⟨1, 8, .nilFunc, .fn⟩
def ti170 : TI := ⟨1, 8, .nilFunc, .fn⟩
def ti171 : TI := ⟨1, 24, .slice none 0 0, .slice 173⟩
def ti172 : TI := ⟨2, 16, .agg #[.int .i64 0, .int .i64 0], .strct [(0, 3), (1, 3)]⟩
def ti173 : TI := ⟨2, 16, .agg #[.int .i64 0, .int .i64 0], .strct [(0, 3), (1, 3)]⟩
def ti174 : TI := ⟨1, 24, .slice none 0 0, .slice 176⟩
def ti175 : TI := ⟨3, 32, .agg #[.string ByteArray.empty, .int .i64 0, .int .i64 0], .strct [(0, 9), (1, 3), (2, 3)]⟩
def ti176 : TI := ⟨3, 32, .agg #[.string ByteArray.empty, .int .i64 0, .int .i64 0], .strct [(0, 9), (1, 3), (2, 3)]⟩
def ti177 : TI := ⟨1, 24, .slice none 0 0, .slice 179⟩
def ti178 : TI := ⟨3, 24, .agg #[.int .i64 0, .int .i64 0, .int .i64 0], .strct [(0, 3), (1, 3), (2, 3)]⟩
def ti179 : TI := ⟨3, 24, .agg #[.int .i64 0, .int .i64 0, .int .i64 0], .strct [(0, 3), (1, 3), (2, 3)]⟩
def ti180 : TI := ⟨1, 24, .slice none 0 0, .slice 182⟩
def ti181 : TI := ⟨6, 48, .agg #[.int .i64 0, .int .i64 0, .bool false, .int .i64 0, .int .i64 0, .bool false], .strct [(0, 3), (1, 3), (2, 4), (3, 3), (4, 3), (5, 4)]⟩
def ti182 : TI := ⟨6, 48, .agg #[.int .i64 0, .int .i64 0, .bool false, .int .i64 0, .int .i64 0, .bool false], .strct [(0, 3), (1, 3), (2, 4), (3, 3), (4, 3), (5, 4)]⟩
def ti183 : TI := ⟨1, 24, .slice none 0 0, .slice 185⟩
def ti184 : TI := ⟨10, 144, .agg #[.int .i64 0, .int .i64 0, .slice none 0 0, .int .i64 0, .int .i64 0, .int .i64 0, .int .i64 0, .slice none 0 0, .slice none 0 0, .slice none 0 0], .strct [(0, 3), (1, 3), (2, 171), (3, 3), (4, 3), (5, 3), (6, 3), (7, 29), (8, 29), (9, 28)]⟩
def ti185 : TI := ⟨10, 144, .agg #[.int .i64 0, .int .i64 0, .slice none 0 0, .int .i64 0, .int .i64 0, .int .i64 0, .int .i64 0, .slice none 0 0, .slice none 0 0, .slice none 0 0], .strct [(0, 3), (1, 3), (2, 171), (3, 3), (4, 3), (5, 3), (6, 3), (7, 29), (8, 29), (9, 28)]⟩
def ti186 : TI := ⟨1, 24, .slice none 0 0, .slice 51⟩
def ti187 : TI := ⟨1, 24, .slice none 0 0, .slice 191⟩
def ti188 : TI := ⟨3, 40, .agg #[.int .i64 0, .int .i64 0, .slice none 0 0], .strct [(0, 3), (1, 3), (2, 29)]⟩
def ti189 : TI := ⟨3, 40, .agg #[.int .i64 0, .int .i64 0, .slice none 0 0], .strct [(0, 3), (1, 3), (2, 29)]⟩
def ti190 : TI := ⟨7, 72, .agg #[.int .i64 0, .int .i64 0, .int .i64 0, .int .i64 0, .int .i64 0, .int .i64 0, .slice none 0 0], .strct [(0, 3), (1, 179), (4, 189)]⟩
def ti191 : TI := ⟨7, 72, .agg #[.int .i64 0, .int .i64 0, .int .i64 0, .int .i64 0, .int .i64 0, .int .i64 0, .slice none 0 0], .strct [(0, 3), (1, 179), (4, 189)]⟩
def ti192 : TI := ⟨1, 24, .slice none 0 0, .slice 194⟩
def ti193 : TI := ⟨4, 56, .agg #[.int .i64 0, .int .i64 0, .string ByteArray.empty, .slice none 0 0], .strct [(0, 3), (1, 3), (2, 9), (3, 29)]⟩
def ti194 : TI := ⟨4, 56, .agg #[.int .i64 0, .int .i64 0, .string ByteArray.empty, .slice none 0 0], .strct [(0, 3), (1, 3), (2, 9), (3, 29)]⟩
def ti195 : TI := ⟨1, 8, .nilFunc, .fn⟩
def ti196 : TI := ⟨1, 8, .nilFunc, .fn⟩
def ti197 : TI := ⟨1, 8, .pointer none, .ptr 5⟩
def ti198 : TI := ⟨1, 8, .nilFunc, .fn⟩
def ti199 : TI := ⟨1, 8, .nilFunc, .fn⟩
def ti200 : TI := ⟨1, 8, .nilFunc, .fn⟩
def ti201 : TI := ⟨1, 8, .nilFunc, .fn⟩
def ti202 : TI := ⟨1, 8, .nilFunc, .fn⟩
def ti203 : TI := ⟨1, 8, .nilFunc, .fn⟩
def ti204 : TI := ⟨1, 8, .nilFunc, .fn⟩
def ti205 : TI := ⟨1, 8, .nilFunc, .fn⟩
def ti206 : TI := ⟨1, 8, .pointer none, .ptr 208⟩
def ti207 : TI := ⟨11, 200, .agg #[.slice none 0 0, .int .i64 0, .string ByteArray.empty, .slice none 0 0, .slice none 0 0, .string ByteArray.empty, .slice none 0 0, .slice none 0 0, .int .i64 0, .string ByteArray.empty, .string ByteArray.empty], .strct [(0, 52), (1, 54)]⟩
def ti208 : TI := ⟨11, 200, .agg #[.slice none 0 0, .int .i64 0, .string ByteArray.empty, .slice none 0 0, .slice none 0 0, .string ByteArray.empty, .slice none 0 0, .slice none 0 0, .int .i64 0, .string ByteArray.empty, .string ByteArray.empty], .strct [(0, 52), (1, 54)]⟩
def ti209 : TI := ⟨1, 8, .nilFunc, .fn⟩
def ti210 : TI := ⟨1, 8, .nilFunc, .fn⟩
def ti212 : TI := ⟨1, 8, .map none, .map 9 210⟩
def ti213 : TI := ⟨1, 8, .nilFunc, .fn⟩
def ti214 : TI := ⟨1, 8, .nilFunc, .fn⟩
def ti215 : TI := ⟨1, 8, .nilFunc, .fn⟩
def ti217 : TI := ⟨1, 8, .int .u64 0, .int .u64⟩
def ti218 : TI := ⟨3, 24, .agg #[.pointer none, .pointer none, .int .u64 0], .strct [(0, 17), (1, 216), (2, 217)]⟩
def ti219 : TI := ⟨3, 24, .agg #[.pointer none, .pointer none, .int .u64 0], .strct [(0, 17), (1, 216), (2, 217)]⟩
def ti220 : TI := ⟨1, 8, .nilFunc, .fn⟩
def ti221 : TI := ⟨1, 16, .nilIface, .iface false⟩
def ti222 : TI := ⟨1, 16, .nilIface, .iface false⟩
def ti223 : TI := ⟨1, 8, .nilFunc, .fn⟩
def ti224 : TI := ⟨1, 1, .int .u8 0, .int .u8⟩
def ti225 : TI := ⟨1, 8, .nilFunc, .fn⟩
def ti226 : TI := ⟨1, 8, .nilFunc, .fn⟩
def ti227 : TI := ⟨1, 8, .nilFunc, .fn⟩
def ti228 : TI := ⟨1, 8, .nilFunc, .fn⟩
def ti229 : TI := ⟨1, 8, .nilFunc, .fn⟩
def ti230 : TI := ⟨1, 8, .nilFunc, .fn⟩
def ti231 : TI := ⟨1, 8, .nilFunc, .fn⟩
def ti232 : TI := ⟨1, 8, .nilFunc, .fn⟩
def ti233 : TI := ⟨1, 8, .nilFunc, .fn⟩
def ti234 : TI := ⟨2, 32, .agg #[.bool false, .slice none 0 0], .strct [(0, 4), (1, 29)]⟩
def ti235 : TI := ⟨2, 32, .agg #[.bool false, .slice none 0 0], .strct [(0, 4), (1, 29)]⟩
def ti237 : TI := ⟨1, 8, .nilFunc, .fn⟩
def ti238 : TI := ⟨1, 8, .nilFunc, .fn⟩
def ti239 : TI := ⟨1, 8, .nilFunc, .fn⟩
def ti240 : TI := ⟨1, 8, .agg #[.pointer none], .strct [(0, 17)]⟩
def ti241 : TI := ⟨1, 8, .agg #[.pointer none], .strct [(0, 17)]⟩
def ti242 : TI := ⟨1, 8, .pointer none, .ptr 362⟩
def ti243 : TI := ⟨1, 8, .nilFunc, .fn⟩
def ti244 : TI := ⟨1, 8, .nilFunc, .fn⟩
def ti245 : TI := ⟨1, 8, .nilFunc, .fn⟩
def ti246 : TI := ⟨1, 16, .nilIface, .iface false⟩
def ti248 : TI := ⟨1, 8, .nilFunc, .fn⟩
def ti249 : TI := ⟨1, 16, .nilIface, .iface false⟩
def ti250 : TI := ⟨1, 16, .nilIface, .iface false⟩
def ti251 : TI := ⟨1, 24, .slice none 0 0, .slice 69⟩
def ti252 : TI := ⟨1, 8, .nilFunc, .fn⟩
def ti253 : TI := ⟨1, 8, .nilFunc, .fn⟩
def ti254 : TI := ⟨1, 8, .int .u64 0, .int .u64⟩
def ti255 : TI := ⟨1, 8, .nilFunc, .fn⟩
def ti256 : TI := ⟨24, 24, .agg #[.int .u8 0, .int .u8 0, .int .u8 0, .int .u8 0, .int .u8 0, .int .u8 0, .int .u8 0, .int .u8 0, .int .u8 0, .int .u8 0, .int .u8 0, .int .u8 0, .int .u8 0, .int .u8 0, .int .u8 0, .int .u8 0, .int .u8 0, .int .u8 0, .int .u8 0, .int .u8 0, .int .u8 0, .int .u8 0, .int .u8 0, .int .u8 0], .array 24 5⟩
def ti257 : TI := ⟨1, 8, .int .u64 0, .int .u64⟩
def ti258 : TI := ⟨1, 8, .nilFunc, .fn⟩
def ti259 : TI := ⟨1, 8, .nilFunc, .fn⟩
def ti261 : TI := ⟨1, 8, .nilFunc, .fn⟩
def ti262 : TI := ⟨1, 8, .nilFunc, .fn⟩
def ti263 : TI := ⟨1, 8, .nilFunc, .fn⟩
def ti265 : TI := ⟨1, 8, .nilFunc, .fn⟩
def ti266 : TI := ⟨1, 8, .nilFunc, .fn⟩
def ti267 : TI := ⟨1, 8, .nilFunc, .fn⟩
def ti268 : TI := ⟨1, 24, .slice none 0 0, .slice 270⟩
def ti269 : TI := ⟨2, 16, .agg #[.int .i64 0, .int .i64 0], .strct [(0, 3), (1, 3)]⟩
def ti270 : TI := ⟨2, 16, .agg #[.int .i64 0, .int .i64 0], .strct [(0, 3), (1, 3)]⟩
def ti271 : TI := ⟨1, 8, .nilFunc, .fn⟩
def ti272 : TI := ⟨1, 8, .nilFunc, .fn⟩
def ti274 : TI := ⟨1, 8, .nilFunc, .fn⟩
def ti275 : TI := ⟨1, 4, .int .u32 0, .int .u32⟩
def ti277 : TI := ⟨1, 8, .nilFunc, .fn⟩
def ti279 : TI := ⟨1, 8, .nilFunc, .fn⟩
def ti280 : TI := ⟨1, 8, .nilFunc, .fn⟩
def ti281 : TI := ⟨20, 160, .agg #[.int .u64 0, .int .u64 0, .int .u64 0, .int .u64 0, .int .u64 0, .int .u64 0, .int .u64 0, .int .u64 0, .int .u64 0, .int .u64 0, .int .u64 0, .int .u64 0, .int .u64 0, .int .u64 0, .int .u64 0, .int .u64 0, .int .u64 0, .int .u64 0, .int .u64 0, .int .u64 0], .array 20 257⟩
def ti282 : TI := ⟨65, 65, .agg #[.int .u8 0, .int .u8 0, .int .u8 0, .int .u8 0, .int .u8 0, .int .u8 0, .int .u8 0, .int .u8 0, .int .u8 0, .int .u8 0, .int .u8 0, .int .u8 0, .int .u8 0, .int .u8 0, .int .u8 0, .int .u8 0, .int .u8 0, .int .u8 0, .int .u8 0, .int .u8 0, .int .u8 0, .int .u8 0, .int .u8 0, .int .u8 0, .int .u8 0, .int .u8 0, .int .u8 0, .int .u8 0, .int .u8 0, .int .u8 0, .int .u8 0, .int .u8 0, .int .u8 0, .int .u8 0, .int .u8 0, .int .u8 0, .int .u8 0, .int .u8 0, .int .u8 0, .int .u8 0, .int .u8 0, .int .u8 0, .int .u8 0, .int .u8 0, .int .u8 0, .int .u8 0, .int .u8 0, .int .u8 0, .int .u8 0, .int .u8 0, .int .u8 0, .int .u8 0, .int .u8 0, .int .u8 0, .int .u8 0, .int .u8 0, .int .u8 0, .int .u8 0, .int .u8 0, .int .u8 0, .int .u8 0, .int .u8 0, .int .u8 0, .int .u8 0, .int .u8 0], .array 65 5⟩
def ti283 : TI := ⟨1, 8, .nilFunc, .fn⟩
def ti284 : TI := ⟨1, 8, .nilFunc, .fn⟩
def ti285 : TI := ⟨1, 8, .nilFunc, .fn⟩
def ti286 : TI := ⟨1, 8, .nilFunc, .fn⟩
def ti287 : TI := ⟨1, 8, .map none, .map 9 3⟩
def ti288 : TI := ⟨1, 8, .nilFunc, .fn⟩
def ti289 : TI := ⟨1, 8, .nilFunc, .fn⟩
def ti290 : TI := ⟨1, 24, .slice none 0 0, .slice 275⟩
def ti291 : TI := ⟨3, 40, .agg #[.int .i64 0, .bool false, .slice none 0 0], .strct [(0, 3), (1, 4), (2, 290)]⟩
def ti292 : TI := ⟨3, 40, .agg #[.int .i64 0, .bool false, .slice none 0 0], .strct [(0, 3), (1, 4), (2, 290)]⟩
def ti294 : TI := ⟨1, 8, .nilFunc, .fn⟩
def ti295 : TI := ⟨1, 8, .nilFunc, .fn⟩
def ti296 : TI := ⟨1, 8, .nilFunc, .fn⟩
def ti297 : TI := ⟨1, 8, .nilFunc, .fn⟩
def ti298 : TI := ⟨256, 256, .agg #[.int .u8 0, .int .u8 0, .int .u8 0, .int .u8 0, .int .u8 0, .int .u8 0, .int .u8 0, .int .u8 0, .int .u8 0, .int .u8 0, .int .u8 0, .int .u8 0, .int .u8 0, .int .u8 0, .int .u8 0, .int .u8 0, .int .u8 0, .int .u8 0, .int .u8 0, .int .u8 0, .int .u8 0, .int .u8 0, .int .u8 0, .int .u8 0, .int .u8 0, .int .u8 0, .int .u8 0, .int .u8 0, .int .u8 0, .int .u8 0, .int .u8 0, .int .u8 0, .int .u8 0, .int .u8 0, .int .u8 0, .int .u8 0, .int .u8 0, .int .u8 0, .int .u8 0, .int .u8 0, .int .u8 0, .int .u8 0, .int .u8 0, .int .u8 0, .int .u8 0, .int .u8 0, .int .u8 0, .int .u8 0, .int .u8 0, .int .u8 0, .int .u8 0, .int .u8 0, .int .u8 0, .int .u8 0, .int .u8 0, .int .u8 0, .int .u8 0, .int .u8 0, .int .u8 0, .int .u8 0, .int .u8 0, .int .u8 0, .int .u8 0, .int .u8 0, .int .u8 0, .int .u8 0, .int .u8 0, .int .u8 0, .int .u8 0, .int .u8 0, .int .u8 0, .int .u8 0, .int .u8 0, .int .u8 0, .int .u8 0, .int .u8 0, .int .u8 0, .int .u8 0, .int .u8 0, .int .u8 0, .int .u8 0, .int .u8 0, .int .u8 0, .int .u8 0, .int .u8 0, .int .u8 0, .int .u8 0, .int .u8 0, .int .u8 0, .int .u8 0, .int .u8 0, .int .u8 0, .int .u8 0, .int .u8 0, .int .u8 0, .int .u8 0, .int .u8 0, .int .u8 0, .int .u8 0, .int .u8 0, .int .u8 0, .int .u8 0, .int .u8 0, .int .u8 0, .int .u8 0, .int .u8 0, .int .u8 0, .int .u8 0, .int .u8 0, .int .u8 0, .int .u8 0, .int .u8 0, .int .u8 0, .int .u8 0, .int .u8 0, .int .u8 0, .int .u8 0, .int .u8 0, .int .u8 0, .int .u8 0, .int .u8 0, .int .u8 0, .int .u8 0, .int .u8 0, .int .u8 0, .int .u8 0, .int .u8 0, .int .u8 0, .int .u8 0, .int .u8 0, .int .u8 0, .int .u8 0, .int .u8 0, .int .u8 0, .int .u8 0, .int .u8 0, .int .u8 0, .int .u8 0, .int .u8 0, .int .u8 0, .int .u8 0, .int .u8 0, .int .u8 0, .int .u8 0, .int .u8 0, .int .u8 0, .int .u8 0, .int .u8 0, .int .u8 0, .int .u8 0, .int .u8 0, .int .u8 0, .int .u8 0, .int .u8 0, .int .u8 0, .int .u8 0, .int .u8 0, .int .u8 0, .int .u8 0, .int .u8 0, .int .u8 0, .int .u8 0, .int .u8 0, .int .u8 0, .int .u8 0, .int .u8 0, .int .u8 0, .int .u8 0, .int .u8 0, .int .u8 0, .int .u8 0, .int .u8 0, .int .u8 0, .int .u8 0, .int .u8 0, .int .u8 0, .int .u8 0, .int .u8 0, .int .u8 0, .int .u8 0, .int .u8 0, .int .u8 0, .int .u8 0, .int .u8 0, .int .u8 0, .int .u8 0, .int .u8 0, .int .u8 0, .int .u8 0, .int .u8 0, .int .u8 0, .int .u8 0, .int .u8 0, .int .u8 0, .int .u8 0, .int .u8 0, .int .u8 0, .int .u8 0, .int .u8 0, .int .u8 0, .int .u8 0, .int .u8 0, .int .u8 0, .int .u8 0, .int .u8 0, .int .u8 0, .int .u8 0, .int .u8 0, .int .u8 0, .int .u8 0, .int .u8 0, .int .u8 0, .int .u8 0, .int .u8 0, .int .u8 0, .int .u8 0, .int .u8 0, .int .u8 0, .int .u8 0, .int .u8 0, .int .u8 0, .int .u8 0, .int .u8 0, .int .u8 0, .int .u8 0, .int .u8 0, .int .u8 0, .int .u8 0, .int .u8 0, .int .u8 0, .int .u8 0, .int .u8 0, .int .u8 0, .int .u8 0, .int .u8 0, .int .u8 0, .int .u8 0, .int .u8 0, .int .u8 0, .int .u8 0, .int .u8 0, .int .u8 0, .int .u8 0, .int .u8 0, .int .u8 0, .int .u8 0, .int .u8 0, .int .u8 0, .int .u8 0, .int .u8 0, .int .u8 0, .int .u8 0, .int .u8 0, .int .u8 0, .int .u8 0, .int .u8 0], .array 256 5⟩
def ti299 : TI := ⟨2, 2, .agg #[.int .u8 0, .int .u8 0], .strct [(0, 5), (1, 5)]⟩
def ti300 : TI := ⟨2, 2, .agg #[.int .u8 0, .int .u8 0], .strct [(0, 5), (1, 5)]⟩
def ti301 : TI := ⟨32, 32, .agg #[.int .u8 0, .int .u8 0, .int .u8 0, .int .u8 0, .int .u8 0, .int .u8 0, .int .u8 0, .int .u8 0, .int .u8 0, .int .u8 0, .int .u8 0, .int .u8 0, .int .u8 0, .int .u8 0, .int .u8 0, .int .u8 0, .int .u8 0, .int .u8 0, .int .u8 0, .int .u8 0, .int .u8 0, .int .u8 0, .int .u8 0, .int .u8 0, .int .u8 0, .int .u8 0, .int .u8 0, .int .u8 0, .int .u8 0, .int .u8 0, .int .u8 0, .int .u8 0], .array 16 300⟩
def ti302 : TI := ⟨32, 32, .agg #[.int .u8 0, .int .u8 0, .int .u8 0, .int .u8 0, .int .u8 0, .int .u8 0, .int .u8 0, .int .u8 0, .int .u8 0, .int .u8 0, .int .u8 0, .int .u8 0, .int .u8 0, .int .u8 0, .int .u8 0, .int .u8 0, .int .u8 0, .int .u8 0, .int .u8 0, .int .u8 0, .int .u8 0, .int .u8 0, .int .u8 0, .int .u8 0, .int .u8 0, .int .u8 0, .int .u8 0, .int .u8 0, .int .u8 0, .int .u8 0, .int .u8 0, .int .u8 0], .array 32 5⟩
def ti303 : TI := ⟨64, 64, .agg #[.int .u8 0, .int .u8 0, .int .u8 0, .int .u8 0, .int .u8 0, .int .u8 0, .int .u8 0, .int .u8 0, .int .u8 0, .int .u8 0, .int .u8 0, .int .u8 0, .int .u8 0, .int .u8 0, .int .u8 0, .int .u8 0, .int .u8 0, .int .u8 0, .int .u8 0, .int .u8 0, .int .u8 0, .int .u8 0, .int .u8 0, .int .u8 0, .int .u8 0, .int .u8 0, .int .u8 0, .int .u8 0, .int .u8 0, .int .u8 0, .int .u8 0, .int .u8 0, .int .u8 0, .int .u8 0, .int .u8 0, .int .u8 0, .int .u8 0, .int .u8 0, .int .u8 0, .int .u8 0, .int .u8 0, .int .u8 0, .int .u8 0, .int .u8 0, .int .u8 0, .int .u8 0, .int .u8 0, .int .u8 0, .int .u8 0, .int .u8 0, .int .u8 0, .int .u8 0, .int .u8 0, .int .u8 0, .int .u8 0, .int .u8 0, .int .u8 0, .int .u8 0, .int .u8 0, .int .u8 0, .int .u8 0, .int .u8 0, .int .u8 0, .int .u8 0], .array 64 5⟩
def ti304 : TI := ⟨1, 8, .nilFunc, .fn⟩
def ti305 : TI := ⟨1, 8, .nilFunc, .fn⟩
def ti306 : TI := ⟨1, 8, .nilFunc, .fn⟩
def ti307 : TI := ⟨1, 8, .nilFunc, .fn⟩
def ti308 : TI := ⟨1, 8, .nilFunc, .fn⟩
def ti309 : TI := ⟨1, 8, .nilFunc, .fn⟩
def ti310 : TI := ⟨1, 8, .nilFunc, .fn⟩
def ti312 : TI := ⟨1, 8, .nilFunc, .fn⟩
def ti313 : TI := ⟨1, 8, .nilFunc, .fn⟩
def ti314 : TI := ⟨1, 8, .nilFunc, .fn⟩
def ti315 : TI := ⟨1, 8, .nilFunc, .fn⟩
def ti316 : TI := ⟨1, 8, .nilFunc, .fn⟩
def ti317 : TI := ⟨1, 8, .nilFunc, .fn⟩
def ti318 : TI := ⟨1, 8, .nilFunc, .fn⟩
def ti319 : TI := ⟨1, 8, .nilFunc, .fn⟩
def ti320 : TI := ⟨1, 8, .nilFunc, .fn⟩
def ti321 : TI := ⟨1, 8, .nilFunc, .fn⟩
def ti322 : TI := ⟨1, 8, .nilFunc, .fn⟩
def ti323 : TI := ⟨1, 8, .int .i64 0, .int .i64⟩
def ti325 : TI := ⟨1, 8, .nilFunc, .fn⟩
def ti326 : TI := ⟨1, 8, .pointer none, .ptr 340⟩
def ti327 : TI := ⟨1, 8, .nilFunc, .fn⟩
def ti328 : TI := ⟨1, 8, .nilFunc, .fn⟩
def ti330 : TI := ⟨1, 8, .nilFunc, .fn⟩
def ti331 : TI := ⟨1, 8, .pointer none, .ptr 333⟩
def ti332 : TI := ⟨2, 32, .agg #[.slice none 0 0, .int .i64 0], .strct [(0, 290), (1, 2)]⟩
def ti333 : TI := ⟨2, 32, .agg #[.slice none 0 0, .int .i64 0], .strct [(0, 290), (1, 2)]⟩
def ti334 : TI := ⟨1, 8, .nilFunc, .fn⟩
def ti335 : TI := ⟨1, 8, .nilFunc, .fn⟩
def ti337 : TI := ⟨1, 8, .nilFunc, .fn⟩
def ti338 : TI := ⟨1, 8, .nilFunc, .fn⟩
def ti339 : TI := ⟨3, 48, .agg #[.string ByteArray.empty, .string ByteArray.empty, .nilIface], .strct [(0, 9), (1, 9), (2, 69)]⟩
def ti340 : TI := ⟨3, 48, .agg #[.string ByteArray.empty, .string ByteArray.empty, .nilIface], .strct [(0, 9), (1, 9), (2, 69)]⟩
def ti341 : TI := ⟨1, 8, .nilFunc, .fn⟩
def ti342 : TI := ⟨1, 8, .nilFunc, .fn⟩
def ti343 : TI := ⟨1, 8, .nilFunc, .fn⟩
def ti344 : TI := ⟨1, 8, .pointer none, .ptr 346⟩
def ti345 : TI := ⟨1, 16, .agg #[.string ByteArray.empty], .strct [(0, 9)]⟩
def ti346 : TI := ⟨1, 16, .agg #[.string ByteArray.empty], .strct [(0, 9)]⟩
def ti347 : TI := ⟨4, 40, .agg #[.pointer none, .pointer none, .pointer none, .string ByteArray.empty], .strct [(0, 17), (1, 17), (2, 17), (3, 9)]⟩
def ti348 : TI := ⟨4, 40, .agg #[.pointer none, .pointer none, .pointer none, .string ByteArray.empty], .strct [(0, 17), (1, 17), (2, 17), (3, 9)]⟩
def ti349 : TI := ⟨0, 0, .agg #[], .array 0 16⟩
def ti350 : TI := ⟨0, 0, .agg #[], .strct [(0, 349)]⟩
def ti351 : TI := ⟨0, 0, .agg #[], .strct [(0, 349)]⟩
def ti352 : TI := ⟨1, 8, .nilFunc, .fn⟩
def ti353 : TI := ⟨1, 1, .int .u8 0, .int .u8⟩
def ti354 : TI := ⟨1, 8, .nilFunc, .fn⟩
def ti355 : TI := ⟨1, 4, .int .i32 0, .int .i32⟩
def ti356 : TI := ⟨1, 4, .int .i32 0, .int .i32⟩
def ti357 : TI := ⟨11, 48, .agg #[.int .u64 0, .int .u64 0, .int .u32 0, .int .u8 0, .int .u8 0, .int .u8 0, .int .u8 0, .nilFunc, .pointer none, .int .i32 0, .int .i32 0], .strct [(0, 12), (1, 12), (2, 275), (3, 353), (4, 5), (5, 5), (6, 224), (7, 354), (8, 197), (9, 355), (10, 356)]⟩
def ti358 : TI := ⟨11, 48, .agg #[.int .u64 0, .int .u64 0, .int .u32 0, .int .u8 0, .int .u8 0, .int .u8 0, .int .u8 0, .nilFunc, .pointer none, .int .i32 0, .int .i32 0], .strct [(0, 12), (1, 12), (2, 275), (3, 353), (4, 5), (5, 5), (6, 224), (7, 354), (8, 197), (9, 355), (10, 356)]⟩
def ti359 : TI := ⟨1, 8, .nilFunc, .fn⟩
def ti360 : TI := ⟨1, 8, .nilFunc, .fn⟩
def ti361 : TI := ⟨2, 24, .agg #[.string ByteArray.empty, .int .u8 0], .strct [(0, 9), (1, 224)]⟩
def ti362 : TI := ⟨2, 24, .agg #[.string ByteArray.empty, .int .u8 0], .strct [(0, 9), (1, 224)]⟩
def ti363 : TI := ⟨1, 8, .pointer none, .ptr 367⟩
def ti364 : TI := ⟨1, 8, .nilFunc, .fn⟩
def ti365 : TI := ⟨1, 2, .int .u16 0, .int .u16⟩
def ti366 : TI := ⟨5, 16, .agg #[.int .i32 0, .int .u16 0, .int .u16 0, .int .u32 0, .int .u32 0], .strct [(0, 355), (1, 365), (2, 365), (3, 275), (4, 275)]⟩
def ti367 : TI := ⟨5, 16, .agg #[.int .i32 0, .int .u16 0, .int .u16 0, .int .u32 0, .int .u32 0], .strct [(0, 355), (1, 365), (2, 365), (3, 275), (4, 275)]⟩
def ti368 : TI := ⟨1, 24, .slice none 0 0, .slice 371⟩
def ti369 : TI := ⟨1, 4, .int .i32 0, .int .i32⟩
def ti370 : TI := ⟨4, 16, .agg #[.int .i32 0, .int .i32 0, .int .i32 0, .int .i32 0], .strct [(0, 355), (1, 356), (2, 369), (3, 369)]⟩
def ti371 : TI := ⟨4, 16, .agg #[.int .i32 0, .int .i32 0, .int .i32 0, .int .i32 0], .strct [(0, 355), (1, 356), (2, 369), (3, 369)]⟩
def ti372 : TI := ⟨1, 8, .pointer none, .ptr 69⟩
def leafT (n : Nat) (ti : TI) (t : Nat) : TI := bif Nat.beq t n then ti else TI.none
def OkT (P : Program) (t : Nat) (ti : TI) : Prop := TIok P t ti ∨ ti = TI.none
theorem leafT_ok {P : Program} {n : Nat} {ti : TI} (h : TIok P n ti) (t : Nat) : OkT P t (leafT n ti t) := by
  unfold leafT
  cases e : Nat.beq t n with
  | true => have := Nat.eq_of_beq_eq_true e; subst this; exact .inl h
  | false => exact .inr rfl
theorem nodeT_ok {P : Program} {t : Nat} {b : Bool} {x y : TI} (hx : OkT P t x) (hy : OkT P t y) : OkT P t (bif b then x else y) := by cases b <;> assumption
theorem tiOk1 : TIok Tryz.prog 1 ti1 := ⟨by kernel_rfl, by kernel_rfl, rfl, rfl⟩
theorem tiOk2 : TIok Tryz.prog 2 ti2 := ⟨by kernel_rfl, by kernel_rfl, rfl, rfl⟩
theorem tiOk3 : TIok Tryz.prog 3 ti3 := ⟨by kernel_rfl, by kernel_rfl, rfl, rfl⟩
theorem tiOk4 : TIok Tryz.prog 4 ti4 := ⟨by kernel_rfl, by kernel_rfl, rfl, rfl⟩
theorem tiOk5 : TIok Tryz.prog 5 ti5 := ⟨by kernel_rfl, by kernel_rfl, rfl, rfl⟩
theorem tiOk6 : TIok Tryz.prog 6 ti6 := ⟨by kernel_rfl, by kernel_rfl, rfl, rfl⟩
theorem tiOk7 : TIok Tryz.prog 7 ti7 := ⟨by kernel_rfl, by kernel_rfl, rfl, rfl⟩
theorem tiOk8 : TIok Tryz.prog 8 ti8 := ⟨by kernel_rfl, by kernel_rfl, rfl, rfl⟩
theorem tiOk9 : TIok Tryz.prog 9 ti9 := ⟨by kernel_rfl, by kernel_rfl, rfl, rfl⟩
theorem tiOk10 : TIok Tryz.prog 10 ti10 := ⟨by kernel_rfl, by kernel_rfl, rfl, rfl⟩
theorem tiOk11 : TIok Tryz.prog 11 ti11 := ⟨by kernel_rfl, by kernel_rfl, rfl, rfl⟩
theorem tiOk12 : TIok Tryz.prog 12 ti12 := ⟨by kernel_rfl, by kernel_rfl, rfl, rfl⟩
theorem tiOk13 : TIok Tryz.prog 13 ti13 := ⟨by kernel_rfl, by kernel_rfl, rfl, rfl⟩
theorem tiOk14 : TIok Tryz.prog 14 ti14 := ⟨by kernel_rfl, by kernel_rfl, rfl, rfl⟩
theorem tiOk15 : TIok Tryz.prog 15 ti15 := ⟨by kernel_rfl, by kernel_rfl, rfl, rfl⟩
theorem tiOk16 : TIok Tryz.prog 16 ti16 := ⟨by kernel_rfl, by kernel_rfl, rfl, rfl⟩
theorem tiOk17 : TIok Tryz.prog 17 ti17 := ⟨by kernel_rfl, by kernel_rfl, rfl, rfl⟩
theorem tiOk18 : TIok Tryz.prog 18 ti18 := ⟨by kernel_rfl, by kernel_rfl, rfl, rfl⟩
theorem tiOk19 : TIok Tryz.prog 19 ti19 := ⟨by kernel_rfl, by kernel_rfl, rfl, rfl⟩
theorem tiOk20 : TIok Tryz.prog 20 ti20 := ⟨by kernel_rfl, by kernel_rfl, rfl, rfl⟩
theorem tiOk21 : TIok Tryz.prog 21 ti21 := ⟨by kernel_rfl, by kernel_rfl, rfl, rfl⟩
theorem tiOk22 : TIok Tryz.prog 22 ti22 := ⟨by kernel_rfl, by kernel_rfl, rfl, rfl⟩
theorem tiOk23 : TIok Tryz.prog 23 ti23 := ⟨by kernel_rfl, by kernel_rfl, rfl, rfl⟩
theorem tiOk24 : TIok Tryz.prog 24 ti24 := ⟨by kernel_rfl, by kernel_rfl, rfl, rfl⟩
theorem tiOk25 : TIok Tryz.prog 25 ti25 := ⟨by kernel_rfl, by kernel_rfl, rfl, rfl⟩
theorem tiOk26 : TIok Tryz.prog 26 ti26 := ⟨by kernel_rfl, by kernel_rfl, rfl, rfl⟩
theorem tiOk27 : TIok Tryz.prog 27 ti27 := ⟨by kernel_rfl, by kernel_rfl, rfl, rfl⟩
theorem tiOk28 : TIok Tryz.prog 28 ti28 := ⟨by kernel_rfl, by kernel_rfl, rfl, rfl⟩
theorem tiOk29 : TIok Tryz.prog 29 ti29 := ⟨by kernel_rfl, by kernel_rfl, rfl, rfl⟩
theorem tiOk30 : TIok Tryz.prog 30 ti30 := ⟨by kernel_rfl, by kernel_rfl, rfl, rfl⟩
theorem tiOk31 : TIok Tryz.prog 31 ti31 := ⟨by kernel_rfl, by kernel_rfl, rfl, rfl⟩
theorem tiOk32 : TIok Tryz.prog 32 ti32 := ⟨by kernel_rfl, by kernel_rfl, rfl, rfl⟩
theorem tiOk33 : TIok Tryz.prog 33 ti33 := ⟨by kernel_rfl, by kernel_rfl, rfl, rfl⟩
theorem tiOk34 : TIok Tryz.prog 34 ti34 := ⟨by kernel_rfl, by kernel_rfl, rfl, rfl⟩
theorem tiOk35 : TIok Tryz.prog 35 ti35 := ⟨by kernel_rfl, by kernel_rfl, rfl, rfl⟩
theorem tiOk36 : TIok Tryz.prog 36 ti36 := ⟨by kernel_rfl, by kernel_rfl, rfl, rfl⟩
theorem tiOk37 : TIok Tryz.prog 37 ti37 := ⟨by kernel_rfl, by kernel_rfl, rfl, rfl⟩
theorem tiOk38 : TIok Tryz.prog 38 ti38 := ⟨by kernel_rfl, by kernel_rfl, rfl, rfl⟩
theorem tiOk39 : TIok Tryz.prog 39 ti39 := ⟨by kernel_rfl, by kernel_rfl, rfl, rfl⟩
theorem tiOk40 : TIok Tryz.prog 40 ti40 := ⟨by kernel_rfl, by kernel_rfl, rfl, rfl⟩
theorem tiOk41 : TIok Tryz.prog 41 ti41 := ⟨by kernel_rfl, by kernel_rfl, rfl, rfl⟩
theorem tiOk42 : TIok Tryz.prog 42 ti42 := ⟨by kernel_rfl, by kernel_rfl, rfl, rfl⟩
theorem tiOk43 : TIok Tryz.prog 43 ti43 := ⟨by kernel_rfl, by kernel_rfl, rfl, rfl⟩
theorem tiOk44 : TIok Tryz.prog 44 ti44 := ⟨by kernel_rfl, by kernel_rfl, rfl, rfl⟩
theorem tiOk45 : TIok Tryz.prog 45 ti45 := ⟨by kernel_rfl, by kernel_rfl, rfl, rfl⟩
theorem tiOk47 : TIok Tryz.prog 47 ti47 := ⟨by kernel_rfl, by kernel_rfl, rfl, rfl⟩
theorem tiOk48 : TIok Tryz.prog 48 ti48 := ⟨by kernel_rfl, by kernel_rfl, rfl, rfl⟩
theorem tiOk49 : TIok Tryz.prog 49 ti49 := ⟨by kernel_rfl, by kernel_rfl, rfl, rfl⟩
theorem tiOk50 : TIok Tryz.prog 50 ti50 := ⟨by kernel_rfl, by kernel_rfl, rfl, rfl⟩
theorem tiOk51 : TIok Tryz.prog 51 ti51 := ⟨by kernel_rfl, by kernel_rfl, rfl, rfl⟩
theorem tiOk52 : TIok Tryz.prog 52 ti52 := ⟨by kernel_rfl, by kernel_rfl, rfl, rfl⟩
theorem tiOk53 : TIok Tryz.prog 53 ti53 := ⟨by kernel_rfl, by kernel_rfl, rfl, rfl⟩
theorem tiOk54 : TIok Tryz.prog 54 ti54 := ⟨by kernel_rfl, by kernel_rfl, rfl, rfl⟩
theorem tiOk55 : TIok Tryz.prog 55 ti55 := ⟨by kernel_rfl, by kernel_rfl, rfl, rfl⟩
theorem tiOk57 : TIok Tryz.prog 57 ti57 := ⟨by kernel_rfl, by kernel_rfl, rfl, rfl⟩
theorem tiOk58 : TIok Tryz.prog 58 ti58 := ⟨by kernel_rfl, by kernel_rfl, rfl, rfl⟩
theorem tiOk59 : TIok Tryz.prog 59 ti59 := ⟨by kernel_rfl, by kernel_rfl, rfl, rfl⟩
theorem tiOk60 : TIok Tryz.prog 60 ti60 := ⟨by kernel_rfl, by kernel_rfl, rfl, rfl⟩
theorem tiOk61 : TIok Tryz.prog 61 ti61 := ⟨by kernel_rfl, by kernel_rfl, rfl, rfl⟩
theorem tiOk62 : TIok Tryz.prog 62 ti62 := ⟨by kernel_rfl, by kernel_rfl, rfl, rfl⟩
theorem tiOk63 : TIok Tryz.prog 63 ti63 := ⟨by kernel_rfl, by kernel_rfl, rfl, rfl⟩
theorem tiOk64 : TIok Tryz.prog 64 ti64 := ⟨by kernel_rfl, by kernel_rfl, rfl, rfl⟩
theorem tiOk65 : TIok Tryz.prog 65 ti65 := ⟨by kernel_rfl, by kernel_rfl, rfl, rfl⟩
theorem tiOk67 : TIok Tryz.prog 67 ti67 := ⟨by kernel_rfl, by kernel_rfl, rfl, rfl⟩
theorem tiOk68 : TIok Tryz.prog 68 ti68 := ⟨by kernel_rfl, by kernel_rfl, rfl, rfl⟩
theorem tiOk69 : TIok Tryz.prog 69 ti69 := ⟨by kernel_rfl, by kernel_rfl, rfl, rfl⟩
theorem tiOk71 : TIok Tryz.prog 71 ti71 := ⟨by kernel_rfl, by kernel_rfl, rfl, rfl⟩
theorem tiOk72 : TIok Tryz.prog 72 ti72 := ⟨by kernel_rfl, by kernel_rfl, rfl, rfl⟩
theorem tiOk74 : TIok Tryz.prog 74 ti74 := ⟨by kernel_rfl, by kernel_rfl, rfl, rfl⟩
theorem tiOk75 : TIok Tryz.prog 75 ti75 := ⟨by kernel_rfl, by kernel_rfl, rfl, rfl⟩
theorem tiOk76 : TIok Tryz.prog 76 ti76 := ⟨by kernel_rfl, by kernel_rfl, rfl, rfl⟩
theorem tiOk77 : TIok Tryz.prog 77 ti77 := ⟨by kernel_rfl, by kernel_rfl, rfl, rfl⟩
theorem tiOk79 : TIok Tryz.prog 79 ti79 := ⟨by kernel_rfl, by kernel_rfl, rfl, rfl⟩
theorem tiOk81 : TIok Tryz.prog 81 ti81 := ⟨by kernel_rfl, by kernel_rfl, rfl, rfl⟩
theorem tiOk83 : TIok Tryz.prog 83 ti83 := ⟨by kernel_rfl, by kernel_rfl, rfl, rfl⟩
theorem tiOk84 : TIok Tryz.prog 84 ti84 := ⟨by kernel_rfl, by kernel_rfl, rfl, rfl⟩
theorem tiOk85 : TIok Tryz.prog 85 ti85 := ⟨by kernel_rfl, by kernel_rfl, rfl, rfl⟩
theorem tiOk86 : TIok Tryz.prog 86 ti86 := ⟨by kernel_rfl, by kernel_rfl, rfl, rfl⟩
theorem tiOk87 : TIok Tryz.prog 87 ti87 := ⟨by kernel_rfl, by kernel_rfl, rfl, rfl⟩
theorem tiOk88 : TIok Tryz.prog 88 ti88 := ⟨by kernel_rfl, by kernel_rfl, rfl, rfl⟩
theorem tiOk89 : TIok Tryz.prog 89 ti89 := ⟨by kernel_rfl, by kernel_rfl, rfl, rfl⟩
theorem tiOk90 : TIok Tryz.prog 90 ti90 := ⟨by kernel_rfl, by kernel_rfl, rfl, rfl⟩
theorem tiOk92 : TIok Tryz.prog 92 ti92 := ⟨by kernel_rfl, by kernel_rfl, rfl, rfl⟩
theorem tiOk93 : TIok Tryz.prog 93 ti93 := ⟨by kernel_rfl, by kernel_rfl, rfl, rfl⟩
theorem tiOk94 : TIok Tryz.prog 94 ti94 := ⟨by kernel_rfl, by kernel_rfl, rfl, rfl⟩
theorem tiOk95 : TIok Tryz.prog 95 ti95 := ⟨by kernel_rfl, by kernel_rfl, rfl, rfl⟩
theorem tiOk96 : TIok Tryz.prog 96 ti96 := ⟨by kernel_rfl, by kernel_rfl, rfl, rfl⟩
theorem tiOk97 : TIok Tryz.prog 97 ti97 := ⟨by kernel_rfl, by kernel_rfl, rfl, rfl⟩
theorem tiOk98 : TIok Tryz.prog 98 ti98 := ⟨by kernel_rfl, by kernel_rfl, rfl, rfl⟩
theorem tiOk100 : TIok Tryz.prog 100 ti100 := ⟨by kernel_rfl, by kernel_rfl, rfl, rfl⟩
theorem tiOk101 : TIok Tryz.prog 101 ti101 := ⟨by kernel_rfl, by kernel_rfl, rfl, rfl⟩
theorem tiOk102 : TIok Tryz.prog 102 ti102 := ⟨by kernel_rfl, by kernel_rfl, rfl, rfl⟩
theorem tiOk103 : TIok Tryz.prog 103 ti103 := ⟨by kernel_rfl, by kernel_rfl, rfl, rfl⟩
theorem tiOk104 : TIok Tryz.prog 104 ti104 := ⟨by kernel_rfl, by kernel_rfl, rfl, rfl⟩
theorem tiOk105 : TIok Tryz.prog 105 ti105 := ⟨by kernel_rfl, by kernel_rfl, rfl, rfl⟩
theorem tiOk106 : TIok Tryz.prog 106 ti106 := ⟨by kernel_rfl, by kernel_rfl, rfl, rfl⟩
theorem tiOk107 : TIok Tryz.prog 107 ti107 := ⟨by kernel_rfl, by kernel_rfl, rfl, rfl⟩
theorem tiOk108 : TIok Tryz.prog 108 ti108 := ⟨by kernel_rfl, by kernel_rfl, rfl, rfl⟩
theorem tiOk109 : TIok Tryz.prog 109 ti109 := ⟨by kernel_rfl, by kernel_rfl, rfl, rfl⟩
theorem tiOk110 : TIok Tryz.prog 110 ti110 := ⟨by kernel_rfl, by kernel_rfl, rfl, rfl⟩
theorem tiOk111 : TIok Tryz.prog 111 ti111 := ⟨by kernel_rfl, by kernel_rfl, rfl, rfl⟩
theorem tiOk112 : TIok Tryz.prog 112 ti112 := ⟨by kernel_rfl, by kernel_rfl, rfl, rfl⟩
theorem tiOk113 : TIok Tryz.prog 113 ti113 := ⟨by kernel_rfl, by kernel_rfl, rfl, rfl⟩
theorem tiOk114 : TIok Tryz.prog 114 ti114 := ⟨by kernel_rfl, by kernel_rfl, rfl, rfl⟩
theorem tiOk116 : TIok Tryz.prog 116 ti116 := ⟨by kernel_rfl, by kernel_rfl, rfl, rfl⟩
theorem tiOk118 : TIok Tryz.prog 118 ti118 := ⟨by kernel_rfl, by kernel_rfl, rfl, rfl⟩
theorem tiOk119 : TIok Tryz.prog 119 ti119 := ⟨by kernel_rfl, by kernel_rfl, rfl, rfl⟩
theorem tiOk120 : TIok Tryz.prog 120 ti120 := ⟨by kernel_rfl, by kernel_rfl, rfl, rfl⟩
theorem tiOk121 : TIok Tryz.prog 121 ti121 := ⟨by kernel_rfl, by kernel_rfl, rfl, rfl⟩
theorem tiOk122 : TIok Tryz.prog 122 ti122 := ⟨by kernel_rfl, by kernel_rfl, rfl, rfl⟩
theorem tiOk123 : TIok Tryz.prog 123 ti123 := ⟨by kernel_rfl, by kernel_rfl, rfl, rfl⟩
theorem tiOk124 : TIok Tryz.prog 124 ti124 := ⟨by kernel_rfl, by kernel_rfl, rfl, rfl⟩
theorem tiOk125 : TIok Tryz.prog 125 ti125 := ⟨by kernel_rfl, by kernel_rfl, rfl, rfl⟩
theorem tiOk126 : TIok Tryz.prog 126 ti126 := ⟨by kernel_rfl, by kernel_rfl, rfl, rfl⟩
theorem tiOk127 : TIok Tryz.prog 127 ti127 := ⟨by kernel_rfl, by kernel_rfl, rfl, rfl⟩
theorem tiOk128 : TIok Tryz.prog 128 ti128 := ⟨by kernel_rfl, by kernel_rfl, rfl, rfl⟩
theorem tiOk129 : TIok Tryz.prog 129 ti129 := ⟨by kernel_rfl, by kernel_rfl, rfl, rfl⟩
theorem tiOk130 : TIok Tryz.prog 130 ti130 := ⟨by kernel_rfl, by kernel_rfl, rfl, rfl⟩
theorem tiOk131 : TIok Tryz.prog 131 ti131 := ⟨by kernel_rfl, by kernel_rfl, rfl, rfl⟩
theorem tiOk132 : TIok Tryz.prog 132 ti132 := ⟨by kernel_rfl, by kernel_rfl, rfl, rfl⟩
theorem tiOk134 : TIok Tryz.prog 134 ti134 := ⟨by kernel_rfl, by kernel_rfl, rfl, rfl⟩
theorem tiOk135 : TIok Tryz.prog 135 ti135 := ⟨by kernel_rfl, by kernel_rfl, rfl, rfl⟩
theorem tiOk136 : TIok Tryz.prog 136 ti136 := ⟨by kernel_rfl, by kernel_rfl, rfl, rfl⟩
theorem tiOk137 : TIok Tryz.prog 137 ti137 := ⟨by kernel_rfl, by kernel_rfl, rfl, rfl⟩
theorem tiOk138 : TIok Tryz.prog 138 ti138 := ⟨by kernel_rfl, by kernel_rfl, rfl, rfl⟩
theorem tiOk139 : TIok Tryz.prog 139 ti139 := ⟨by kernel_rfl, by kernel_rfl, rfl, rfl⟩
theorem tiOk140 : TIok Tryz.prog 140 ti140 := ⟨by kernel_rfl, by kernel_rfl, rfl, rfl⟩
theorem tiOk141 : TIok Tryz.prog 141 ti141 := ⟨by kernel_rfl, by kernel_rfl, rfl, rfl⟩
theorem tiOk142 : TIok Tryz.prog 142 ti142 := ⟨by kernel_rfl, by kernel_rfl, rfl, rfl⟩
theorem tiOk143 : TIok Tryz.prog 143 ti143 := ⟨by kernel_rfl, by kernel_rfl, rfl, rfl⟩
theorem tiOk145 : TIok Tryz.prog 145 ti145 := ⟨by kernel_rfl, by kernel_rfl, rfl, rfl⟩
theorem tiOk146 : TIok Tryz.prog 146 ti146 := ⟨by kernel_rfl, by kernel_rfl, rfl, rfl⟩
theorem tiOk147 : TIok Tryz.prog 147 ti147 := ⟨by kernel_rfl, by kernel_rfl, rfl, rfl⟩
theorem tiOk148 : TIok Tryz.prog 148 ti148 := ⟨by kernel_rfl, by kernel_rfl, rfl, rfl⟩
theorem tiOk149 : TIok Tryz.prog 149 ti149 := ⟨by kernel_rfl, by kernel_rfl, rfl, rfl⟩
theorem tiOk150 : TIok Tryz.prog 150 ti150 := ⟨by kernel_rfl, by kernel_rfl, rfl, rfl⟩
theorem tiOk151 : TIok Tryz.prog 151 ti151 := ⟨by kernel_rfl, by kernel_rfl, rfl, rfl⟩
theorem tiOk152 : TIok Tryz.prog 152 ti152 := ⟨by kernel_rfl, by kernel_rfl, rfl, rfl⟩
theorem tiOk153 : TIok Tryz.prog 153 ti153 := ⟨by kernel_rfl, by kernel_rfl, rfl, rfl⟩
theorem tiOk154 : TIok Tryz.prog 154 ti154 := ⟨by kernel_rfl, by kernel_rfl, rfl, rfl⟩
theorem tiOk155 : TIok Tryz.prog 155 ti155 := ⟨by kernel_rfl, by kernel_rfl, rfl, rfl⟩
theorem tiOk156 : TIok Tryz.prog 156 ti156 := ⟨by kernel_rfl, by kernel_rfl, rfl, rfl⟩
theorem tiOk158 : TIok Tryz.prog 158 ti158 := ⟨by kernel_rfl, by kernel_rfl, rfl, rfl⟩
theorem tiOk159 : TIok Tryz.prog 159 ti159 := ⟨by kernel_rfl, by kernel_rfl, rfl, rfl⟩
theorem tiOk160 : TIok Tryz.prog 160 ti160 := ⟨by kernel_rfl, by kernel_rfl, rfl, rfl⟩
theorem tiOk161 : TIok Tryz.prog 161 ti161 := ⟨by kernel_rfl, by kernel_rfl, rfl, rfl⟩
theorem tiOk162 : TIok Tryz.prog 162 ti162 := ⟨by kernel_rfl, by kernel_rfl, rfl, rfl⟩
theorem tiOk164 : TIok Tryz.prog 164 ti164 := ⟨by kernel_rfl, by kernel_rfl, rfl, rfl⟩
theorem tiOk165 : TIok Tryz.prog 165 ti165 := ⟨by kernel_rfl, by kernel_rfl, rfl, rfl⟩
theorem tiOk166 : TIok Tryz.prog 166 ti166 := ⟨by kernel_rfl, by kernel_rfl, rfl, rfl⟩
theorem tiOk167 : TIok Tryz.prog 167 ti167 := ⟨by kernel_rfl, by kernel_rfl, rfl, rfl⟩
theorem tiOk168 : TIok Tryz.prog 168 ti168 := ⟨by kernel_rfl, by kernel_rfl, rfl, rfl⟩
theorem tiOk169 : TIok Tryz.prog 169 ti169 := ⟨by kernel_rfl, by kernel_rfl, rfl, rfl⟩
theorem tiOk170 : TIok Tryz.prog 170 ti170 := ⟨by kernel_rfl, by kernel_rfl, rfl, rfl⟩
theorem tiOk171 : TIok Tryz.prog 171 ti171 := ⟨by kernel_rfl, by kernel_rfl, rfl, rfl⟩
theorem tiOk172 : TIok Tryz.prog 172 ti172 := ⟨by kernel_rfl, by kernel_rfl, rfl, rfl⟩
theorem tiOk173 : TIok Tryz.prog 173 ti173 := ⟨by kernel_rfl, by kernel_rfl, rfl, rfl⟩
theorem tiOk174 : TIok Tryz.prog 174 ti174 := ⟨by kernel_rfl, by kernel_rfl, rfl, rfl⟩
theorem tiOk175 : TIok Tryz.prog 175 ti175 := ⟨by kernel_rfl, by kernel_rfl, rfl, rfl⟩
theorem tiOk176 : TIok Tryz.prog 176 ti176 := ⟨by kernel_rfl, by kernel_rfl, rfl, rfl⟩
theorem tiOk177 : TIok Tryz.prog 177 ti177 := ⟨by kernel_rfl, by kernel_rfl, rfl, rfl⟩
theorem tiOk178 : TIok Tryz.prog 178 ti178 := ⟨by kernel_rfl, by kernel_rfl, rfl, rfl⟩
theorem tiOk179 : TIok Tryz.prog 179 ti179 := ⟨by kernel_rfl, by kernel_rfl, rfl, rfl⟩
theorem tiOk180 : TIok Tryz.prog 180 ti180 := ⟨by kernel_rfl, by kernel_rfl, rfl, rfl⟩
theorem tiOk181 : TIok Tryz.prog 181 ti181 := ⟨by kernel_rfl, by kernel_rfl, rfl, rfl⟩
theorem tiOk182 : TIok Tryz.prog 182 ti182 := ⟨by kernel_rfl, by kernel_rfl, rfl, rfl⟩
theorem tiOk183 : TIok Tryz.prog 183 ti183 := ⟨by kernel_rfl, by kernel_rfl, rfl, rfl⟩
theorem tiOk184 : TIok Tryz.prog 184 ti184 := ⟨by kernel_rfl, by kernel_rfl, rfl, rfl⟩
theorem tiOk185 : TIok Tryz.prog 185 ti185 := ⟨by kernel_rfl, by kernel_rfl, rfl, rfl⟩
theorem tiOk186 : TIok Tryz.prog 186 ti186 := ⟨by kernel_rfl, by kernel_rfl, rfl, rfl⟩
theorem tiOk187 : TIok Tryz.prog 187 ti187 := ⟨by kernel_rfl, by kernel_rfl, rfl, rfl⟩
theorem tiOk188 : TIok Tryz.prog 188 ti188 := ⟨by kernel_rfl, by kernel_rfl, rfl, rfl⟩
theorem tiOk189 : TIok Tryz.prog 189 ti189 := ⟨by kernel_rfl, by kernel_rfl, rfl, rfl⟩
theorem tiOk190 : TIok Tryz.prog 190 ti190 := ⟨by kernel_rfl, by kernel_rfl, rfl, rfl⟩
theorem tiOk191 : TIok Tryz.prog 191 ti191 := ⟨by kernel_rfl, by kernel_rfl, rfl, rfl⟩
theorem tiOk192 : TIok Tryz.prog 192 ti192 := ⟨by kernel_rfl, by kernel_rfl, rfl, rfl⟩
theorem tiOk193 : TIok Tryz.prog 193 ti193 := ⟨by kernel_rfl, by kernel_rfl, rfl, rfl⟩
theorem tiOk194 : TIok Tryz.prog 194 ti194 := ⟨by kernel_rfl, by kernel_rfl, rfl, rfl⟩
theorem tiOk195 : TIok Tryz.prog 195 ti195 := ⟨by kernel_rfl, by kernel_rfl, rfl, rfl⟩
theorem tiOk196 : TIok Tryz.prog 196 ti196 := ⟨by kernel_rfl, by kernel_rfl, rfl, rfl⟩
theorem tiOk197 : TIok Tryz.prog 197 ti197 := ⟨by kernel_rfl, by kernel_rfl, rfl, rfl⟩
theorem tiOk198 : TIok Tryz.prog 198 ti198 := ⟨by kernel_rfl, by kernel_rfl, rfl, rfl⟩
theorem tiOk199 : TIok Tryz.prog 199 ti199 := ⟨by kernel_rfl, by kernel_rfl, rfl, rfl⟩
theorem tiOk200 : TIok Tryz.prog 200 ti200 := ⟨by kernel_rfl, by kernel_rfl, rfl, rfl⟩
theorem tiOk201 : TIok Tryz.prog 201 ti201 := ⟨by kernel_rfl, by kernel_rfl, rfl, rfl⟩
theorem tiOk202 : TIok Tryz.prog 202 ti202 := ⟨by kernel_rfl, by kernel_rfl, rfl, rfl⟩
theorem tiOk203 : TIok Tryz.prog 203 ti203 := ⟨by kernel_rfl, by kernel_rfl, rfl, rfl⟩
theorem tiOk204 : TIok Tryz.prog 204 ti204 := ⟨by kernel_rfl, by kernel_rfl, rfl, rfl⟩
theorem tiOk205 : TIok Tryz.prog 205 ti205 := ⟨by kernel_rfl, by kernel_rfl, rfl, rfl⟩
theorem tiOk206 : TIok Tryz.prog 206 ti206 := ⟨by kernel_rfl, by kernel_rfl, rfl, rfl⟩
theorem tiOk207 : TIok Tryz.prog 207 ti207 := ⟨by kernel_rfl, by kernel_rfl, rfl, rfl⟩
theorem tiOk208 : TIok Tryz.prog 208 ti208 := ⟨by kernel_rfl, by kernel_rfl, rfl, rfl⟩
theorem tiOk209 : TIok Tryz.prog 209 ti209 := ⟨by kernel_rfl, by kernel_rfl, rfl, rfl⟩
theorem tiOk210 : TIok Tryz.prog 210 ti210 := ⟨by kernel_rfl, by kernel_rfl, rfl, rfl⟩
theorem tiOk212 : TIok Tryz.prog 212 ti212 := ⟨by kernel_rfl, by kernel_rfl, rfl, rfl⟩
theorem tiOk213 : TIok Tryz.prog 213 ti213 := ⟨by kernel_rfl, by kernel_rfl, rfl, rfl⟩
theorem tiOk214 : TIok Tryz.prog 214 ti214 := ⟨by kernel_rfl, by kernel_rfl, rfl, rfl⟩
theorem tiOk215 : TIok Tryz.prog 215 ti215 := ⟨by kernel_rfl, by kernel_rfl, rfl, rfl⟩
theorem tiOk217 : TIok Tryz.prog 217 ti217 := ⟨by kernel_rfl, by kernel_rfl, rfl, rfl⟩
theorem tiOk218 : TIok Tryz.prog 218 ti218 := ⟨by kernel_rfl, by kernel_rfl, rfl, rfl⟩
theorem tiOk219 : TIok Tryz.prog 219 ti219 := ⟨by kernel_rfl, by kernel_rfl, rfl, rfl⟩
theorem tiOk220 : TIok Tryz.prog 220 ti220 := ⟨by kernel_rfl, by kernel_rfl, rfl, rfl⟩
theorem tiOk221 : TIok Tryz.prog 221 ti221 := ⟨by kernel_rfl, by kernel_rfl, rfl, rfl⟩
theorem tiOk222 : TIok Tryz.prog 222 ti222 := ⟨by kernel_rfl, by kernel_rfl, rfl, rfl⟩
theorem tiOk223 : TIok Tryz.prog 223 ti223 := ⟨by kernel_rfl, by kernel_rfl, rfl, rfl⟩
theorem tiOk224 : TIok Tryz.prog 224 ti224 := ⟨by kernel_rfl, by kernel_rfl, rfl, rfl⟩
theorem tiOk225 : TIok Tryz.prog 225 ti225 := ⟨by kernel_rfl, by kernel_rfl, rfl, rfl⟩
theorem tiOk226 : TIok Tryz.prog 226 ti226 := ⟨by kernel_rfl, by kernel_rfl, rfl, rfl⟩
theorem tiOk227 : TIok Tryz.prog 227 ti227 := ⟨by kernel_rfl, by kernel_rfl, rfl, rfl⟩
theorem tiOk228 : TIok Tryz.prog 228 ti228 := ⟨by kernel_rfl, by kernel_rfl, rfl, rfl⟩
theorem tiOk229 : TIok Tryz.prog 229 ti229 := ⟨by kernel_rfl, by kernel_rfl, rfl, rfl⟩
theorem tiOk230 : TIok Tryz.prog 230 ti230 := ⟨by kernel_rfl, by kernel_rfl, rfl, rfl⟩
theorem tiOk231 : TIok Tryz.prog 231 ti231 := ⟨by kernel_rfl, by kernel_rfl, rfl, rfl⟩
theorem tiOk232 : TIok Tryz.prog 232 ti232 := ⟨by kernel_rfl, by kernel_rfl, rfl, rfl⟩
theorem tiOk233 : TIok Tryz.prog 233 ti233 := ⟨by kernel_rfl, by kernel_rfl, rfl, rfl⟩
theorem tiOk234 : TIok Tryz.prog 234 ti234 := ⟨by kernel_rfl, by kernel_rfl, rfl, rfl⟩
theorem tiOk235 : TIok Tryz.prog 235 ti235 := ⟨by kernel_rfl, by kernel_rfl, rfl, rfl⟩
theorem tiOk237 : TIok Tryz.prog 237 ti237 := ⟨by kernel_rfl, by kernel_rfl, rfl, rfl⟩
theorem tiOk238 : TIok Tryz.prog 238 ti238 := ⟨by kernel_rfl, by kernel_rfl, rfl, rfl⟩
theorem tiOk239 : TIok Tryz.prog 239 ti239 := ⟨by kernel_rfl, by kernel_rfl, rfl, rfl⟩
theorem tiOk240 : TIok Tryz.prog 240 ti240 := ⟨by kernel_rfl, by kernel_rfl, rfl, rfl⟩
theorem tiOk241 : TIok Tryz.prog 241 ti241 := ⟨by kernel_rfl, by kernel_rfl, rfl, rfl⟩
theorem tiOk242 : TIok Tryz.prog 242 ti242 := ⟨by kernel_rfl, by kernel_rfl, rfl, rfl⟩
theorem tiOk243 : TIok Tryz.prog 243 ti243 := ⟨by kernel_rfl, by kernel_rfl, rfl, rfl⟩
theorem tiOk244 : TIok Tryz.prog 244 ti244 := ⟨by kernel_rfl, by kernel_rfl, rfl, rfl⟩
theorem tiOk245 : TIok Tryz.prog 245 ti245 := ⟨by kernel_rfl, by kernel_rfl, rfl, rfl⟩
theorem tiOk246 : TIok Tryz.prog 246 ti246 := ⟨by kernel_rfl, by kernel_rfl, rfl, rfl⟩
theorem tiOk248 : TIok Tryz.prog 248 ti248 := ⟨by kernel_rfl, by kernel_rfl, rfl, rfl⟩
theorem tiOk249 : TIok Tryz.prog 249 ti249 := ⟨by kernel_rfl, by kernel_rfl, rfl, rfl⟩
theorem tiOk250 : TIok Tryz.prog 250 ti250 := ⟨by kernel_rfl, by kernel_rfl, rfl, rfl⟩
theorem tiOk251 : TIok Tryz.prog 251 ti251 := ⟨by kernel_rfl, by kernel_rfl, rfl, rfl⟩
theorem tiOk252 : TIok Tryz.prog 252 ti252 := ⟨by kernel_rfl, by kernel_rfl, rfl, rfl⟩
theorem tiOk253 : TIok Tryz.prog 253 ti253 := ⟨by kernel_rfl, by kernel_rfl, rfl, rfl⟩
theorem tiOk254 : TIok Tryz.prog 254 ti254 := ⟨by kernel_rfl, by kernel_rfl, rfl, rfl⟩
theorem tiOk255 : TIok Tryz.prog 255 ti255 := ⟨by kernel_rfl, by kernel_rfl, rfl, rfl⟩
theorem tiOk256 : TIok Tryz.prog 256 ti256 := ⟨by kernel_rfl, by kernel_rfl, rfl, rfl⟩
theorem tiOk257 : TIok Tryz.prog 257 ti257 := ⟨by kernel_rfl, by kernel_rfl, rfl, rfl⟩
theorem tiOk258 : TIok Tryz.prog 258 ti258 := ⟨by kernel_rfl, by kernel_rfl, rfl, rfl⟩
theorem tiOk259 : TIok Tryz.prog 259 ti259 := ⟨by kernel_rfl, by kernel_rfl, rfl, rfl⟩
theorem tiOk261 : TIok Tryz.prog 261 ti261 := ⟨by kernel_rfl, by kernel_rfl, rfl, rfl⟩
theorem tiOk262 : TIok Tryz.prog 262 ti262 := ⟨by kernel_rfl, by kernel_rfl, rfl, rfl⟩
theorem tiOk263 : TIok Tryz.prog 263 ti263 := ⟨by kernel_rfl, by kernel_rfl, rfl, rfl⟩
theorem tiOk265 : TIok Tryz.prog 265 ti265 := ⟨by kernel_rfl, by kernel_rfl, rfl, rfl⟩
theorem tiOk266 : TIok Tryz.prog 266 ti266 := ⟨by kernel_rfl, by kernel_rfl, rfl, rfl⟩
theorem tiOk267 : TIok Tryz.prog 267 ti267 := ⟨by kernel_rfl, by kernel_rfl, rfl, rfl⟩
theorem tiOk268 : TIok Tryz.prog 268 ti268 := ⟨by kernel_rfl, by kernel_rfl, rfl, rfl⟩
theorem tiOk269 : TIok Tryz.prog 269 ti269 := ⟨by kernel_rfl, by kernel_rfl, rfl, rfl⟩
theorem tiOk270 : TIok Tryz.prog 270 ti270 := ⟨by kernel_rfl, by kernel_rfl, rfl, rfl⟩
theorem tiOk271 : TIok Tryz.prog 271 ti271 := ⟨by kernel_rfl, by kernel_rfl, rfl, rfl⟩
theorem tiOk272 : TIok Tryz.prog 272 ti272 := ⟨by kernel_rfl, by kernel_rfl, rfl, rfl⟩
theorem tiOk274 : TIok Tryz.prog 274 ti274 := ⟨by kernel_rfl, by kernel_rfl, rfl, rfl⟩
theorem tiOk275 : TIok Tryz.prog 275 ti275 := ⟨by kernel_rfl, by kernel_rfl, rfl, rfl⟩
theorem tiOk277 : TIok Tryz.prog 277 ti277 := ⟨by kernel_rfl, by kernel_rfl, rfl, rfl⟩
theorem tiOk279 : TIok Tryz.prog 279 ti279 := ⟨by kernel_rfl, by kernel_rfl, rfl, rfl⟩
theorem tiOk280 : TIok Tryz.prog 280 ti280 := ⟨by kernel_rfl, by kernel_rfl, rfl, rfl⟩
theorem tiOk281 : TIok Tryz.prog 281 ti281 := ⟨by kernel_rfl, by kernel_rfl, rfl, rfl⟩
theorem tiOk282 : TIok Tryz.prog 282 ti282 := ⟨by kernel_rfl, by kernel_rfl, rfl, rfl⟩
theorem tiOk283 : TIok Tryz.prog 283 ti283 := ⟨by kernel_rfl, by kernel_rfl, rfl, rfl⟩
theorem tiOk284 : TIok Tryz.prog 284 ti284 := ⟨by kernel_rfl, by kernel_rfl, rfl, rfl⟩
theorem tiOk285 : TIok Tryz.prog 285 ti285 := ⟨by kernel_rfl, by kernel_rfl, rfl, rfl⟩
theorem tiOk286 : TIok Tryz.prog 286 ti286 := ⟨by kernel_rfl, by kernel_rfl, rfl, rfl⟩
theorem tiOk287 : TIok Tryz.prog 287 ti287 := ⟨by kernel_rfl, by kernel_rfl, rfl, rfl⟩
theorem tiOk288 : TIok Tryz.prog 288 ti288 := ⟨by kernel_rfl, by kernel_rfl, rfl, rfl⟩
theorem tiOk289 : TIok Tryz.prog 289 ti289 := ⟨by kernel_rfl, by kernel_rfl, rfl, rfl⟩
theorem tiOk290 : TIok Tryz.prog 290 ti290 := ⟨by kernel_rfl, by kernel_rfl, rfl, rfl⟩
theorem tiOk291 : TIok Tryz.prog 291 ti291 := ⟨by kernel_rfl, by kernel_rfl, rfl, rfl⟩
theorem tiOk292 : TIok Tryz.prog 292 ti292 := ⟨by kernel_rfl, by kernel_rfl, rfl, rfl⟩
theorem tiOk294 : TIok Tryz.prog 294 ti294 := ⟨by kernel_rfl, by kernel_rfl, rfl, rfl⟩
theorem tiOk295 : TIok Tryz.prog 295 ti295 := ⟨by kernel_rfl, by kernel_rfl, rfl, rfl⟩
theorem tiOk296 : TIok Tryz.prog 296 ti296 := ⟨by kernel_rfl, by kernel_rfl, rfl, rfl⟩
theorem tiOk297 : TIok Tryz.prog 297 ti297 := ⟨by kernel_rfl, by kernel_rfl, rfl, rfl⟩
theorem tiOk298 : TIok Tryz.prog 298 ti298 := ⟨by kernel_rfl, by kernel_rfl, rfl, rfl⟩
theorem tiOk299 : TIok Tryz.prog 299 ti299 := ⟨by kernel_rfl, by kernel_rfl, rfl, rfl⟩
theorem tiOk300 : TIok Tryz.prog 300 ti300 := ⟨by kernel_rfl, by kernel_rfl, rfl, rfl⟩
theorem tiOk301 : TIok Tryz.prog 301 ti301 := ⟨by kernel_rfl, by kernel_rfl, rfl, rfl⟩
theorem tiOk302 : TIok Tryz.prog 302 ti302 := ⟨by kernel_rfl, by kernel_rfl, rfl, rfl⟩
theorem tiOk303 : TIok Tryz.prog 303 ti303 := ⟨by kernel_rfl, by kernel_rfl, rfl, rfl⟩
theorem tiOk304 : TIok Tryz.prog 304 ti304 := ⟨by kernel_rfl, by kernel_rfl, rfl, rfl⟩
theorem tiOk305 : TIok Tryz.prog 305 ti305 := ⟨by kernel_rfl, by kernel_rfl, rfl, rfl⟩
theorem tiOk306 : TIok Tryz.prog 306 ti306 := ⟨by kernel_rfl, by kernel_rfl, rfl, rfl⟩
theorem tiOk307 : TIok Tryz.prog 307 ti307 := ⟨by kernel_rfl, by kernel_rfl, rfl, rfl⟩
theorem tiOk308 : TIok Tryz.prog 308 ti308 := ⟨by kernel_rfl, by kernel_rfl, rfl, rfl⟩
theorem tiOk309 : TIok Tryz.prog 309 ti309 := ⟨by kernel_rfl, by kernel_rfl, rfl, rfl⟩
theorem tiOk310 : TIok Tryz.prog 310 ti310 := ⟨by kernel_rfl, by kernel_rfl, rfl, rfl⟩
theorem tiOk312 : TIok Tryz.prog 312 ti312 := ⟨by kernel_rfl, by kernel_rfl, rfl, rfl⟩
theorem tiOk313 : TIok Tryz.prog 313 ti313 := ⟨by kernel_rfl, by kernel_rfl, rfl, rfl⟩
theorem tiOk314 : TIok Tryz.prog 314 ti314 := ⟨by kernel_rfl, by kernel_rfl, rfl, rfl⟩
theorem tiOk315 : TIok Tryz.prog 315 ti315 := ⟨by kernel_rfl, by kernel_rfl, rfl, rfl⟩
theorem tiOk316 : TIok Tryz.prog 316 ti316 := ⟨by kernel_rfl, by kernel_rfl, rfl, rfl⟩
theorem tiOk317 : TIok Tryz.prog 317 ti317 := ⟨by kernel_rfl, by kernel_rfl, rfl, rfl⟩
theorem tiOk318 : TIok Tryz.prog 318 ti318 := ⟨by kernel_rfl, by kernel_rfl, rfl, rfl⟩
theorem tiOk319 : TIok Tryz.prog 319 ti319 := ⟨by kernel_rfl, by kernel_rfl, rfl, rfl⟩
theorem tiOk320 : TIok Tryz.prog 320 ti320 := ⟨by kernel_rfl, by kernel_rfl, rfl, rfl⟩
theorem tiOk321 : TIok Tryz.prog 321 ti321 := ⟨by kernel_rfl, by kernel_rfl, rfl, rfl⟩
theorem tiOk322 : TIok Tryz.prog 322 ti322 := ⟨by kernel_rfl, by kernel_rfl, rfl, rfl⟩
theorem tiOk323 : TIok Tryz.prog 323 ti323 := ⟨by kernel_rfl, by kernel_rfl, rfl, rfl⟩
theorem tiOk325 : TIok Tryz.prog 325 ti325 := ⟨by kernel_rfl, by kernel_rfl, rfl, rfl⟩
theorem tiOk326 : TIok Tryz.prog 326 ti326 := ⟨by kernel_rfl, by kernel_rfl, rfl, rfl⟩
theorem tiOk327 : TIok Tryz.prog 327 ti327 := ⟨by kernel_rfl, by kernel_rfl, rfl, rfl⟩
theorem tiOk328 : TIok Tryz.prog 328 ti328 := ⟨by kernel_rfl, by kernel_rfl, rfl, rfl⟩
theorem tiOk330 : TIok Tryz.prog 330 ti330 := ⟨by kernel_rfl, by kernel_rfl, rfl, rfl⟩
theorem tiOk331 : TIok Tryz.prog 331 ti331 := ⟨by kernel_rfl, by kernel_rfl, rfl, rfl⟩
theorem tiOk332 : TIok Tryz.prog 332 ti332 := ⟨by kernel_rfl, by kernel_rfl, rfl, rfl⟩
theorem tiOk333 : TIok Tryz.prog 333 ti333 := ⟨by kernel_rfl, by kernel_rfl, rfl, rfl⟩
theorem tiOk334 : TIok Tryz.prog 334 ti334 := ⟨by kernel_rfl, by kernel_rfl, rfl, rfl⟩
theorem tiOk335 : TIok Tryz.prog 335 ti335 := ⟨by kernel_rfl, by kernel_rfl, rfl, rfl⟩
theorem tiOk337 : TIok Tryz.prog 337 ti337 := ⟨by kernel_rfl, by kernel_rfl, rfl, rfl⟩
theorem tiOk338 : TIok Tryz.prog 338 ti338 := ⟨by kernel_rfl, by kernel_rfl, rfl, rfl⟩
theorem tiOk339 : TIok Tryz.prog 339 ti339 := ⟨by kernel_rfl, by kernel_rfl, rfl, rfl⟩
theorem tiOk340 : TIok Tryz.prog 340 ti340 := ⟨by kernel_rfl, by kernel_rfl, rfl, rfl⟩
theorem tiOk341 : TIok Tryz.prog 341 ti341 := ⟨by kernel_rfl, by kernel_rfl, rfl, rfl⟩
theorem tiOk342 : TIok Tryz.prog 342 ti342 := ⟨by kernel_rfl, by kernel_rfl, rfl, rfl⟩
theorem tiOk343 : TIok Tryz.prog 343 ti343 := ⟨by kernel_rfl, by kernel_rfl, rfl, rfl⟩
theorem tiOk344 : TIok Tryz.prog 344 ti344 := ⟨by kernel_rfl, by kernel_rfl, rfl, rfl⟩
theorem tiOk345 : TIok Tryz.prog 345 ti345 := ⟨by kernel_rfl, by kernel_rfl, rfl, rfl⟩
theorem tiOk346 : TIok Tryz.prog 346 ti346 := ⟨by kernel_rfl, by kernel_rfl, rfl, rfl⟩
theorem tiOk347 : TIok Tryz.prog 347 ti347 := ⟨by kernel_rfl, by kernel_rfl, rfl, rfl⟩
theorem tiOk348 : TIok Tryz.prog 348 ti348 := ⟨by kernel_rfl, by kernel_rfl, rfl, rfl⟩
theorem tiOk349 : TIok Tryz.prog 349 ti349 := ⟨by kernel_rfl, by kernel_rfl, rfl, rfl⟩
theorem tiOk350 : TIok Tryz.prog 350 ti350 := ⟨by kernel_rfl, by kernel_rfl, rfl, rfl⟩
theorem tiOk351 : TIok Tryz.prog 351 ti351 := ⟨by kernel_rfl, by kernel_rfl, rfl, rfl⟩
theorem tiOk352 : TIok Tryz.prog 352 ti352 := ⟨by kernel_rfl, by kernel_rfl, rfl, rfl⟩
theorem tiOk353 : TIok Tryz.prog 353 ti353 := ⟨by kernel_rfl, by kernel_rfl, rfl, rfl⟩
theorem tiOk354 : TIok Tryz.prog 354 ti354 := ⟨by kernel_rfl, by kernel_rfl, rfl, rfl⟩
theorem tiOk355 : TIok Tryz.prog 355 ti355 := ⟨by kernel_rfl, by kernel_rfl, rfl, rfl⟩
theorem tiOk356 : TIok Tryz.prog 356 ti356 := ⟨by kernel_rfl, by kernel_rfl, rfl, rfl⟩
theorem tiOk357 : TIok Tryz.prog 357 ti357 := ⟨by kernel_rfl, by kernel_rfl, rfl, rfl⟩
theorem tiOk358 : TIok Tryz.prog 358 ti358 := ⟨by kernel_rfl, by kernel_rfl, rfl, rfl⟩
theorem tiOk359 : TIok Tryz.prog 359 ti359 := ⟨by kernel_rfl, by kernel_rfl, rfl, rfl⟩
theorem tiOk360 : TIok Tryz.prog 360 ti360 := ⟨by kernel_rfl, by kernel_rfl, rfl, rfl⟩
theorem tiOk361 : TIok Tryz.prog 361 ti361 := ⟨by kernel_rfl, by kernel_rfl, rfl, rfl⟩
theorem tiOk362 : TIok Tryz.prog 362 ti362 := ⟨by kernel_rfl, by kernel_rfl, rfl, rfl⟩
theorem tiOk363 : TIok Tryz.prog 363 ti363 := ⟨by kernel_rfl, by kernel_rfl, rfl, rfl⟩
theorem tiOk364 : TIok Tryz.prog 364 ti364 := ⟨by kernel_rfl, by kernel_rfl, rfl, rfl⟩
theorem tiOk365 : TIok Tryz.prog 365 ti365 := ⟨by kernel_rfl, by kernel_rfl, rfl, rfl⟩
theorem tiOk366 : TIok Tryz.prog 366 ti366 := ⟨by kernel_rfl, by kernel_rfl, rfl, rfl⟩
theorem tiOk367 : TIok Tryz.prog 367 ti367 := ⟨by kernel_rfl, by kernel_rfl, rfl, rfl⟩
theorem tiOk368 : TIok Tryz.prog 368 ti368 := ⟨by kernel_rfl, by kernel_rfl, rfl, rfl⟩
theorem tiOk369 : TIok Tryz.prog 369 ti369 := ⟨by kernel_rfl, by kernel_rfl, rfl, rfl⟩
theorem tiOk370 : TIok Tryz.prog 370 ti370 := ⟨by kernel_rfl, by kernel_rfl, rfl, rfl⟩
theorem tiOk371 : TIok Tryz.prog 371 ti371 := ⟨by kernel_rfl, by kernel_rfl, rfl, rfl⟩
theorem tiOk372 : TIok Tryz.prog 372 ti372 := ⟨by kernel_rfl, by kernel_rfl, rfl, rfl⟩
def Tt (t : TypeId) : TI :=
  bif Nat.blt t 188 then
   bif Nat.blt t 95 then
    bif Nat.blt t 43 then
     bif Nat.blt t 22 then
      bif Nat.blt t 11 then
       bif Nat.blt t 6 then
        bif Nat.blt t 3 then
         bif Nat.blt t 2 then
          leafT 1 ti1 t
         else
          leafT 2 ti2 t
        else
         bif Nat.blt t 4 then
          leafT 3 ti3 t
         else
          bif Nat.blt t 5 then
           leafT 4 ti4 t
          else
           leafT 5 ti5 t
       else
        bif Nat.blt t 8 then
         bif Nat.blt t 7 then
          leafT 6 ti6 t
         else
          leafT 7 ti7 t
        else
         bif Nat.blt t 9 then
          leafT 8 ti8 t
         else
          bif Nat.blt t 10 then
           leafT 9 ti9 t
          else
           leafT 10 ti10 t
      else
       bif Nat.blt t 16 then
        bif Nat.blt t 13 then
         bif Nat.blt t 12 then
          leafT 11 ti11 t
         else
          leafT 12 ti12 t
        else
         bif Nat.blt t 14 then
          leafT 13 ti13 t
         else
          bif Nat.blt t 15 then
           leafT 14 ti14 t
          else
           leafT 15 ti15 t
       else
        bif Nat.blt t 19 then
         bif Nat.blt t 17 then
          leafT 16 ti16 t
         else
          bif Nat.blt t 18 then
           leafT 17 ti17 t
          else
           leafT 18 ti18 t
        else
         bif Nat.blt t 20 then
          leafT 19 ti19 t
         else
          bif Nat.blt t 21 then
           leafT 20 ti20 t
          else
           leafT 21 ti21 t
     else
      bif Nat.blt t 32 then
       bif Nat.blt t 27 then
        bif Nat.blt t 24 then
         bif Nat.blt t 23 then
          leafT 22 ti22 t
         else
          leafT 23 ti23 t
        else
         bif Nat.blt t 25 then
          leafT 24 ti24 t
         else
          bif Nat.blt t 26 then
           leafT 25 ti25 t
          else
           leafT 26 ti26 t
       else
        bif Nat.blt t 29 then
         bif Nat.blt t 28 then
          leafT 27 ti27 t
         else
          leafT 28 ti28 t
        else
         bif Nat.blt t 30 then
          leafT 29 ti29 t
         else
          bif Nat.blt t 31 then
           leafT 30 ti30 t
          else
           leafT 31 ti31 t
      else
       bif Nat.blt t 37 then
        bif Nat.blt t 34 then
         bif Nat.blt t 33 then
          leafT 32 ti32 t
         else
          leafT 33 ti33 t
        else
         bif Nat.blt t 35 then
          leafT 34 ti34 t
         else
          bif Nat.blt t 36 then
           leafT 35 ti35 t
          else
           leafT 36 ti36 t
       else
        bif Nat.blt t 40 then
         bif Nat.blt t 38 then
          leafT 37 ti37 t
         else
          bif Nat.blt t 39 then
           leafT 38 ti38 t
          else
           leafT 39 ti39 t
        else
         bif Nat.blt t 41 then
          leafT 40 ti40 t
         else
          bif Nat.blt t 42 then
           leafT 41 ti41 t
          else
           leafT 42 ti42 t
    else
     bif Nat.blt t 67 then
      bif Nat.blt t 54 then
       bif Nat.blt t 49 then
        bif Nat.blt t 45 then
         bif Nat.blt t 44 then
          leafT 43 ti43 t
         else
          leafT 44 ti44 t
        else
         bif Nat.blt t 47 then
          leafT 45 ti45 t
         else
          bif Nat.blt t 48 then
           leafT 47 ti47 t
          else
           leafT 48 ti48 t
       else
        bif Nat.blt t 51 then
         bif Nat.blt t 50 then
          leafT 49 ti49 t
         else
          leafT 50 ti50 t
        else
         bif Nat.blt t 52 then
          leafT 51 ti51 t
         else
          bif Nat.blt t 53 then
           leafT 52 ti52 t
          else
           leafT 53 ti53 t
      else
       bif Nat.blt t 60 then
        bif Nat.blt t 57 then
         bif Nat.blt t 55 then
          leafT 54 ti54 t
         else
          leafT 55 ti55 t
        else
         bif Nat.blt t 58 then
          leafT 57 ti57 t
         else
          bif Nat.blt t 59 then
           leafT 58 ti58 t
          else
           leafT 59 ti59 t
       else
        bif Nat.blt t 63 then
         bif Nat.blt t 61 then
          leafT 60 ti60 t
         else
          bif Nat.blt t 62 then
           leafT 61 ti61 t
          else
           leafT 62 ti62 t
        else
         bif Nat.blt t 64 then
          leafT 63 ti63 t
         else
          bif Nat.blt t 65 then
           leafT 64 ti64 t
          else
           leafT 65 ti65 t
     else
      bif Nat.blt t 83 then
       bif Nat.blt t 74 then
        bif Nat.blt t 69 then
         bif Nat.blt t 68 then
          leafT 67 ti67 t
         else
          leafT 68 ti68 t
        else
         bif Nat.blt t 71 then
          leafT 69 ti69 t
         else
          bif Nat.blt t 72 then
           leafT 71 ti71 t
          else
           leafT 72 ti72 t
       else
        bif Nat.blt t 77 then
         bif Nat.blt t 75 then
          leafT 74 ti74 t
         else
          bif Nat.blt t 76 then
           leafT 75 ti75 t
          else
           leafT 76 ti76 t
        else
         bif Nat.blt t 79 then
          leafT 77 ti77 t
         else
          bif Nat.blt t 81 then
           leafT 79 ti79 t
          else
           leafT 81 ti81 t
      else
       bif Nat.blt t 88 then
        bif Nat.blt t 85 then
         bif Nat.blt t 84 then
          leafT 83 ti83 t
         else
          leafT 84 ti84 t
        else
         bif Nat.blt t 86 then
          leafT 85 ti85 t
         else
          bif Nat.blt t 87 then
           leafT 86 ti86 t
          else
           leafT 87 ti87 t
       else
        bif Nat.blt t 92 then
         bif Nat.blt t 89 then
          leafT 88 ti88 t
         else
          bif Nat.blt t 90 then
           leafT 89 ti89 t
          else
           leafT 90 ti90 t
        else
         bif Nat.blt t 93 then
          leafT 92 ti92 t
         else
          bif Nat.blt t 94 then
           leafT 93 ti93 t
          else
           leafT 94 ti94 t
   else
    bif Nat.blt t 142 then
     bif Nat.blt t 119 then
      bif Nat.blt t 106 then
       bif Nat.blt t 101 then
        bif Nat.blt t 97 then
         bif Nat.blt t 96 then
          leafT 95 ti95 t
         else
          leafT 96 ti96 t
        else
         bif Nat.blt t 98 then
          leafT 97 ti97 t
         else
          bif Nat.blt t 100 then
           leafT 98 ti98 t
          else
           leafT 100 ti100 t
       else
        bif Nat.blt t 103 then
         bif Nat.blt t 102 then
          leafT 101 ti101 t
         else
          leafT 102 ti102 t
        else
         bif Nat.blt t 104 then
          leafT 103 ti103 t
         else
          bif Nat.blt t 105 then
           leafT 104 ti104 t
          else
           leafT 105 ti105 t
      else
       bif Nat.blt t 111 then
        bif Nat.blt t 108 then
         bif Nat.blt t 107 then
          leafT 106 ti106 t
         else
          leafT 107 ti107 t
        else
         bif Nat.blt t 109 then
          leafT 108 ti108 t
         else
          bif Nat.blt t 110 then
           leafT 109 ti109 t
          else
           leafT 110 ti110 t
       else
        bif Nat.blt t 114 then
         bif Nat.blt t 112 then
          leafT 111 ti111 t
         else
          bif Nat.blt t 113 then
           leafT 112 ti112 t
          else
           leafT 113 ti113 t
        else
         bif Nat.blt t 116 then
          leafT 114 ti114 t
         else
          bif Nat.blt t 118 then
           leafT 116 ti116 t
          else
           leafT 118 ti118 t
     else
      bif Nat.blt t 130 then
       bif Nat.blt t 124 then
        bif Nat.blt t 121 then
         bif Nat.blt t 120 then
          leafT 119 ti119 t
         else
          leafT 120 ti120 t
        else
         bif Nat.blt t 122 then
          leafT 121 ti121 t
         else
          bif Nat.blt t 123 then
           leafT 122 ti122 t
          else
           leafT 123 ti123 t
       else
        bif Nat.blt t 127 then
         bif Nat.blt t 125 then
          leafT 124 ti124 t
         else
          bif Nat.blt t 126 then
           leafT 125 ti125 t
          else
           leafT 126 ti126 t
        else
         bif Nat.blt t 128 then
          leafT 127 ti127 t
         else
          bif Nat.blt t 129 then
           leafT 128 ti128 t
          else
           leafT 129 ti129 t
      else
       bif Nat.blt t 136 then
        bif Nat.blt t 132 then
         bif Nat.blt t 131 then
          leafT 130 ti130 t
         else
          leafT 131 ti131 t
        else
         bif Nat.blt t 134 then
          leafT 132 ti132 t
         else
          bif Nat.blt t 135 then
           leafT 134 ti134 t
          else
           leafT 135 ti135 t
       else
        bif Nat.blt t 139 then
         bif Nat.blt t 137 then
          leafT 136 ti136 t
         else
          bif Nat.blt t 138 then
           leafT 137 ti137 t
          else
           leafT 138 ti138 t
        else
         bif Nat.blt t 140 then
          leafT 139 ti139 t
         else
          bif Nat.blt t 141 then
           leafT 140 ti140 t
          else
           leafT 141 ti141 t
    else
     bif Nat.blt t 166 then
      bif Nat.blt t 153 then
       bif Nat.blt t 148 then
        bif Nat.blt t 145 then
         bif Nat.blt t 143 then
          leafT 142 ti142 t
         else
          leafT 143 ti143 t
        else
         bif Nat.blt t 146 then
          leafT 145 ti145 t
         else
          bif Nat.blt t 147 then
           leafT 146 ti146 t
          else
           leafT 147 ti147 t
       else
        bif Nat.blt t 150 then
         bif Nat.blt t 149 then
          leafT 148 ti148 t
         else
          leafT 149 ti149 t
        else
         bif Nat.blt t 151 then
          leafT 150 ti150 t
         else
          bif Nat.blt t 152 then
           leafT 151 ti151 t
          else
           leafT 152 ti152 t
      else
       bif Nat.blt t 159 then
        bif Nat.blt t 155 then
         bif Nat.blt t 154 then
          leafT 153 ti153 t
         else
          leafT 154 ti154 t
        else
         bif Nat.blt t 156 then
          leafT 155 ti155 t
         else
          bif Nat.blt t 158 then
           leafT 156 ti156 t
          else
           leafT 158 ti158 t
       else
        bif Nat.blt t 162 then
         bif Nat.blt t 160 then
          leafT 159 ti159 t
         else
          bif Nat.blt t 161 then
           leafT 160 ti160 t
          else
           leafT 161 ti161 t
        else
         bif Nat.blt t 164 then
          leafT 162 ti162 t
         else
          bif Nat.blt t 165 then
           leafT 164 ti164 t
          else
           leafT 165 ti165 t
     else
      bif Nat.blt t 177 then
       bif Nat.blt t 171 then
        bif Nat.blt t 168 then
         bif Nat.blt t 167 then
          leafT 166 ti166 t
         else
          leafT 167 ti167 t
        else
         bif Nat.blt t 169 then
          leafT 168 ti168 t
         else
          bif Nat.blt t 170 then
           leafT 169 ti169 t
          else
           leafT 170 ti170 t
       else
        bif Nat.blt t 174 then
         bif Nat.blt t 172 then
          leafT 171 ti171 t
         else
          bif Nat.blt t 173 then
           leafT 172 ti172 t
          else
           leafT 173 ti173 t
        else
         bif Nat.blt t 175 then
          leafT 174 ti174 t
         else
          bif Nat.blt t 176 then
           leafT 175 ti175 t
          else
           leafT 176 ti176 t
      else
       bif Nat.blt t 182 then
        bif Nat.blt t 179 then
         bif Nat.blt t 178 then
          leafT 177 ti177 t
         else
          leafT 178 ti178 t
        else
         bif Nat.blt t 180 then
          leafT 179 ti179 t
         else
          bif Nat.blt t 181 then
           leafT 180 ti180 t
          else
           leafT 181 ti181 t
       else
        bif Nat.blt t 185 then
         bif Nat.blt t 183 then
          leafT 182 ti182 t
         else
          bif Nat.blt t 184 then
           leafT 183 ti183 t
          else
           leafT 184 ti184 t
        else
         bif Nat.blt t 186 then
          leafT 185 ti185 t
         else
          bif Nat.blt t 187 then
           leafT 186 ti186 t
          else
           leafT 187 ti187 t
  else
   bif Nat.blt t 282 then
    bif Nat.blt t 232 then
     bif Nat.blt t 209 then
      bif Nat.blt t 198 then
       bif Nat.blt t 193 then
        bif Nat.blt t 190 then
         bif Nat.blt t 189 then
          leafT 188 ti188 t
         else
          leafT 189 ti189 t
        else
         bif Nat.blt t 191 then
          leafT 190 ti190 t
         else
          bif Nat.blt t 192 then
           leafT 191 ti191 t
          else
           leafT 192 ti192 t
       else
        bif Nat.blt t 195 then
         bif Nat.blt t 194 then
          leafT 193 ti193 t
         else
          leafT 194 ti194 t
        else
         bif Nat.blt t 196 then
          leafT 195 ti195 t
         else
          bif Nat.blt t 197 then
           leafT 196 ti196 t
          else
           leafT 197 ti197 t
      else
       bif Nat.blt t 203 then
        bif Nat.blt t 200 then
         bif Nat.blt t 199 then
          leafT 198 ti198 t
         else
          leafT 199 ti199 t
        else
         bif Nat.blt t 201 then
          leafT 200 ti200 t
         else
          bif Nat.blt t 202 then
           leafT 201 ti201 t
          else
           leafT 202 ti202 t
       else
        bif Nat.blt t 206 then
         bif Nat.blt t 204 then
          leafT 203 ti203 t
         else
          bif Nat.blt t 205 then
           leafT 204 ti204 t
          else
           leafT 205 ti205 t
        else
         bif Nat.blt t 207 then
          leafT 206 ti206 t
         else
          bif Nat.blt t 208 then
           leafT 207 ti207 t
          else
           leafT 208 ti208 t
     else
      bif Nat.blt t 221 then
       bif Nat.blt t 215 then
        bif Nat.blt t 212 then
         bif Nat.blt t 210 then
          leafT 209 ti209 t
         else
          leafT 210 ti210 t
        else
         bif Nat.blt t 213 then
          leafT 212 ti212 t
         else
          bif Nat.blt t 214 then
           leafT 213 ti213 t
          else
           leafT 214 ti214 t
       else
        bif Nat.blt t 218 then
         bif Nat.blt t 217 then
          leafT 215 ti215 t
         else
          leafT 217 ti217 t
        else
         bif Nat.blt t 219 then
          leafT 218 ti218 t
         else
          bif Nat.blt t 220 then
           leafT 219 ti219 t
          else
           leafT 220 ti220 t
      else
       bif Nat.blt t 226 then
        bif Nat.blt t 223 then
         bif Nat.blt t 222 then
          leafT 221 ti221 t
         else
          leafT 222 ti222 t
        else
         bif Nat.blt t 224 then
          leafT 223 ti223 t
         else
          bif Nat.blt t 225 then
           leafT 224 ti224 t
          else
           leafT 225 ti225 t
       else
        bif Nat.blt t 229 then
         bif Nat.blt t 227 then
          leafT 226 ti226 t
         else
          bif Nat.blt t 228 then
           leafT 227 ti227 t
          else
           leafT 228 ti228 t
        else
         bif Nat.blt t 230 then
          leafT 229 ti229 t
         else
          bif Nat.blt t 231 then
           leafT 230 ti230 t
          else
           leafT 231 ti231 t
    else
     bif Nat.blt t 255 then
      bif Nat.blt t 243 then
       bif Nat.blt t 238 then
        bif Nat.blt t 234 then
         bif Nat.blt t 233 then
          leafT 232 ti232 t
         else
          leafT 233 ti233 t
        else
         bif Nat.blt t 235 then
          leafT 234 ti234 t
         else
          bif Nat.blt t 237 then
           leafT 235 ti235 t
          else
           leafT 237 ti237 t
       else
        bif Nat.blt t 240 then
         bif Nat.blt t 239 then
          leafT 238 ti238 t
         else
          leafT 239 ti239 t
        else
         bif Nat.blt t 241 then
          leafT 240 ti240 t
         else
          bif Nat.blt t 242 then
           leafT 241 ti241 t
          else
           leafT 242 ti242 t
      else
       bif Nat.blt t 249 then
        bif Nat.blt t 245 then
         bif Nat.blt t 244 then
          leafT 243 ti243 t
         else
          leafT 244 ti244 t
        else
         bif Nat.blt t 246 then
          leafT 245 ti245 t
         else
          bif Nat.blt t 248 then
           leafT 246 ti246 t
          else
           leafT 248 ti248 t
       else
        bif Nat.blt t 252 then
         bif Nat.blt t 250 then
          leafT 249 ti249 t
         else
          bif Nat.blt t 251 then
           leafT 250 ti250 t
          else
           leafT 251 ti251 t
        else
         bif Nat.blt t 253 then
          leafT 252 ti252 t
         else
          bif Nat.blt t 254 then
           leafT 253 ti253 t
          else
           leafT 254 ti254 t
     else
      bif Nat.blt t 268 then
       bif Nat.blt t 261 then
        bif Nat.blt t 257 then
         bif Nat.blt t 256 then
          leafT 255 ti255 t
         else
          leafT 256 ti256 t
        else
         bif Nat.blt t 258 then
          leafT 257 ti257 t
         else
          bif Nat.blt t 259 then
           leafT 258 ti258 t
          else
           leafT 259 ti259 t
       else
        bif Nat.blt t 265 then
         bif Nat.blt t 262 then
          leafT 261 ti261 t
         else
          bif Nat.blt t 263 then
           leafT 262 ti262 t
          else
           leafT 263 ti263 t
        else
         bif Nat.blt t 266 then
          leafT 265 ti265 t
         else
          bif Nat.blt t 267 then
           leafT 266 ti266 t
          else
           leafT 267 ti267 t
      else
       bif Nat.blt t 274 then
        bif Nat.blt t 270 then
         bif Nat.blt t 269 then
          leafT 268 ti268 t
         else
          leafT 269 ti269 t
        else
         bif Nat.blt t 271 then
          leafT 270 ti270 t
         else
          bif Nat.blt t 272 then
           leafT 271 ti271 t
          else
           leafT 272 ti272 t
       else
        bif Nat.blt t 279 then
         bif Nat.blt t 275 then
          leafT 274 ti274 t
         else
          bif Nat.blt t 277 then
           leafT 275 ti275 t
          else
           leafT 277 ti277 t
        else
         bif Nat.blt t 280 then
          leafT 279 ti279 t
         else
          bif Nat.blt t 281 then
           leafT 280 ti280 t
          else
           leafT 281 ti281 t
   else
    bif Nat.blt t 328 then
     bif Nat.blt t 304 then
      bif Nat.blt t 292 then
       bif Nat.blt t 287 then
        bif Nat.blt t 284 then
         bif Nat.blt t 283 then
          leafT 282 ti282 t
         else
          leafT 283 ti283 t
        else
         bif Nat.blt t 285 then
          leafT 284 ti284 t
         else
          bif Nat.blt t 286 then
           leafT 285 ti285 t
          else
           leafT 286 ti286 t
       else
        bif Nat.blt t 289 then
         bif Nat.blt t 288 then
          leafT 287 ti287 t
         else
          leafT 288 ti288 t
        else
         bif Nat.blt t 290 then
          leafT 289 ti289 t
         else
          bif Nat.blt t 291 then
           leafT 290 ti290 t
          else
           leafT 291 ti291 t
      else
       bif Nat.blt t 298 then
        bif Nat.blt t 295 then
         bif Nat.blt t 294 then
          leafT 292 ti292 t
         else
          leafT 294 ti294 t
        else
         bif Nat.blt t 296 then
          leafT 295 ti295 t
         else
          bif Nat.blt t 297 then
           leafT 296 ti296 t
          else
           leafT 297 ti297 t
       else
        bif Nat.blt t 301 then
         bif Nat.blt t 299 then
          leafT 298 ti298 t
         else
          bif Nat.blt t 300 then
           leafT 299 ti299 t
          else
           leafT 300 ti300 t
        else
         bif Nat.blt t 302 then
          leafT 301 ti301 t
         else
          bif Nat.blt t 303 then
           leafT 302 ti302 t
          else
           leafT 303 ti303 t
     else
      bif Nat.blt t 316 then
       bif Nat.blt t 309 then
        bif Nat.blt t 306 then
         bif Nat.blt t 305 then
          leafT 304 ti304 t
         else
          leafT 305 ti305 t
        else
         bif Nat.blt t 307 then
          leafT 306 ti306 t
         else
          bif Nat.blt t 308 then
           leafT 307 ti307 t
          else
           leafT 308 ti308 t
       else
        bif Nat.blt t 313 then
         bif Nat.blt t 310 then
          leafT 309 ti309 t
         else
          bif Nat.blt t 312 then
           leafT 310 ti310 t
          else
           leafT 312 ti312 t
        else
         bif Nat.blt t 314 then
          leafT 313 ti313 t
         else
          bif Nat.blt t 315 then
           leafT 314 ti314 t
          else
           leafT 315 ti315 t
      else
       bif Nat.blt t 321 then
        bif Nat.blt t 318 then
         bif Nat.blt t 317 then
          leafT 316 ti316 t
         else
          leafT 317 ti317 t
        else
         bif Nat.blt t 319 then
          leafT 318 ti318 t
         else
          bif Nat.blt t 320 then
           leafT 319 ti319 t
          else
           leafT 320 ti320 t
       else
        bif Nat.blt t 325 then
         bif Nat.blt t 322 then
          leafT 321 ti321 t
         else
          bif Nat.blt t 323 then
           leafT 322 ti322 t
          else
           leafT 323 ti323 t
        else
         bif Nat.blt t 326 then
          leafT 325 ti325 t
         else
          bif Nat.blt t 327 then
           leafT 326 ti326 t
          else
           leafT 327 ti327 t
    else
     bif Nat.blt t 351 then
      bif Nat.blt t 340 then
       bif Nat.blt t 334 then
        bif Nat.blt t 331 then
         bif Nat.blt t 330 then
          leafT 328 ti328 t
         else
          leafT 330 ti330 t
        else
         bif Nat.blt t 332 then
          leafT 331 ti331 t
         else
          bif Nat.blt t 333 then
           leafT 332 ti332 t
          else
           leafT 333 ti333 t
       else
        bif Nat.blt t 337 then
         bif Nat.blt t 335 then
          leafT 334 ti334 t
         else
          leafT 335 ti335 t
        else
         bif Nat.blt t 338 then
          leafT 337 ti337 t
         else
          bif Nat.blt t 339 then
           leafT 338 ti338 t
          else
           leafT 339 ti339 t
      else
       bif Nat.blt t 345 then
        bif Nat.blt t 342 then
         bif Nat.blt t 341 then
          leafT 340 ti340 t
         else
          leafT 341 ti341 t
        else
         bif Nat.blt t 343 then
          leafT 342 ti342 t
         else
          bif Nat.blt t 344 then
           leafT 343 ti343 t
          else
           leafT 344 ti344 t
       else
        bif Nat.blt t 348 then
         bif Nat.blt t 346 then
          leafT 345 ti345 t
         else
          bif Nat.blt t 347 then
           leafT 346 ti346 t
          else
           leafT 347 ti347 t
        else
         bif Nat.blt t 349 then
          leafT 348 ti348 t
         else
          bif Nat.blt t 350 then
           leafT 349 ti349 t
          else
           leafT 350 ti350 t
     else
      bif Nat.blt t 362 then
       bif Nat.blt t 356 then
        bif Nat.blt t 353 then
         bif Nat.blt t 352 then
          leafT 351 ti351 t
         else
          leafT 352 ti352 t
        else
         bif Nat.blt t 354 then
          leafT 353 ti353 t
         else
          bif Nat.blt t 355 then
           leafT 354 ti354 t
          else
           leafT 355 ti355 t
       else
        bif Nat.blt t 359 then
         bif Nat.blt t 357 then
          leafT 356 ti356 t
         else
          bif Nat.blt t 358 then
           leafT 357 ti357 t
          else
           leafT 358 ti358 t
        else
         bif Nat.blt t 360 then
          leafT 359 ti359 t
         else
          bif Nat.blt t 361 then
           leafT 360 ti360 t
          else
           leafT 361 ti361 t
      else
       bif Nat.blt t 367 then
        bif Nat.blt t 364 then
         bif Nat.blt t 363 then
          leafT 362 ti362 t
         else
          leafT 363 ti363 t
        else
         bif Nat.blt t 365 then
          leafT 364 ti364 t
         else
          bif Nat.blt t 366 then
           leafT 365 ti365 t
          else
           leafT 366 ti366 t
       else
        bif Nat.blt t 370 then
         bif Nat.blt t 368 then
          leafT 367 ti367 t
         else
          bif Nat.blt t 369 then
           leafT 368 ti368 t
          else
           leafT 369 ti369 t
        else
         bif Nat.blt t 371 then
          leafT 370 ti370 t
         else
          bif Nat.blt t 372 then
           leafT 371 ti371 t
          else
           leafT 372 ti372 t
theorem Tt_ok (t : TypeId) : TIok Tryz.prog t (Tt t) ∨ Tt t = TI.none :=
  (nodeT_ok (nodeT_ok (nodeT_ok (nodeT_ok (nodeT_ok (nodeT_ok (nodeT_ok (nodeT_ok (leafT_ok tiOk1 t) (leafT_ok tiOk2 t)) (nodeT_ok (leafT_ok tiOk3 t) (nodeT_ok (leafT_ok tiOk4 t) (leafT_ok tiOk5 t)))) (nodeT_ok (nodeT_ok (leafT_ok tiOk6 t) (leafT_ok tiOk7 t)) (nodeT_ok (leafT_ok tiOk8 t) (nodeT_ok (leafT_ok tiOk9 t) (leafT_ok tiOk10 t))))) (nodeT_ok (nodeT_ok (nodeT_ok (leafT_ok tiOk11 t) (leafT_ok tiOk12 t)) (nodeT_ok (leafT_ok tiOk13 t) (nodeT_ok (leafT_ok tiOk14 t) (leafT_ok tiOk15 t)))) (nodeT_ok (nodeT_ok (leafT_ok tiOk16 t) (nodeT_ok (leafT_ok tiOk17 t) (leafT_ok tiOk18 t))) (nodeT_ok (leafT_ok tiOk19 t) (nodeT_ok (leafT_ok tiOk20 t) (leafT_ok tiOk21 t)))))) (nodeT_ok (nodeT_ok (nodeT_ok (nodeT_ok (leafT_ok tiOk22 t) (leafT_ok tiOk23 t)) (nodeT_ok (leafT_ok tiOk24 t) (nodeT_ok (leafT_ok tiOk25 t) (leafT_ok tiOk26 t)))) (nodeT_ok (nodeT_ok (leafT_ok tiOk27 t) (leafT_ok tiOk28 t)) (nodeT_ok (leafT_ok tiOk29 t) (nodeT_ok (leafT_ok tiOk30 t) (leafT_ok tiOk31 t))))) (nodeT_ok (nodeT_ok (nodeT_ok (leafT_ok tiOk32 t) (leafT_ok tiOk33 t)) (nodeT_ok (leafT_ok tiOk34 t) (nodeT_ok (leafT_ok tiOk35 t) (leafT_ok tiOk36 t)))) (nodeT_ok (nodeT_ok (leafT_ok tiOk37 t) (nodeT_ok (leafT_ok tiOk38 t) (leafT_ok tiOk39 t))) (nodeT_ok (leafT_ok tiOk40 t) (nodeT_ok (leafT_ok tiOk41 t) (leafT_ok tiOk42 t))))))) (nodeT_ok (nodeT_ok (nodeT_ok (nodeT_ok (nodeT_ok (leafT_ok tiOk43 t) (leafT_ok tiOk44 t)) (nodeT_ok (leafT_ok tiOk45 t) (nodeT_ok (leafT_ok tiOk47 t) (leafT_ok tiOk48 t)))) (nodeT_ok (nodeT_ok (leafT_ok tiOk49 t) (leafT_ok tiOk50 t)) (nodeT_ok (leafT_ok tiOk51 t) (nodeT_ok (leafT_ok tiOk52 t) (leafT_ok tiOk53 t))))) (nodeT_ok (nodeT_ok (nodeT_ok (leafT_ok tiOk54 t) (leafT_ok tiOk55 t)) (nodeT_ok (leafT_ok tiOk57 t) (nodeT_ok (leafT_ok tiOk58 t) (leafT_ok tiOk59 t)))) (nodeT_ok (nodeT_ok (leafT_ok tiOk60 t) (nodeT_ok (leafT_ok tiOk61 t) (leafT_ok tiOk62 t))) (nodeT_ok (leafT_ok tiOk63 t) (nodeT_ok (leafT_ok tiOk64 t) (leafT_ok tiOk65 t)))))) (nodeT_ok (nodeT_ok (nodeT_ok (nodeT_ok (leafT_ok tiOk67 t) (leafT_ok tiOk68 t)) (nodeT_ok (leafT_ok tiOk69 t) (nodeT_ok (leafT_ok tiOk71 t) (leafT_ok tiOk72 t)))) (nodeT_ok (nodeT_ok (leafT_ok tiOk74 t) (nodeT_ok (leafT_ok tiOk75 t) (leafT_ok tiOk76 t))) (nodeT_ok (leafT_ok tiOk77 t) (nodeT_ok (leafT_ok tiOk79 t) (leafT_ok tiOk81 t))))) (nodeT_ok (nodeT_ok (nodeT_ok (leafT_ok tiOk83 t) (leafT_ok tiOk84 t)) (nodeT_ok (leafT_ok tiOk85 t) (nodeT_ok (leafT_ok tiOk86 t) (leafT_ok tiOk87 t)))) (nodeT_ok (nodeT_ok (leafT_ok tiOk88 t) (nodeT_ok (leafT_ok tiOk89 t) (leafT_ok tiOk90 t))) (nodeT_ok (leafT_ok tiOk92 t) (nodeT_ok (leafT_ok tiOk93 t) (leafT_ok tiOk94 t)))))))) (nodeT_ok (nodeT_ok (nodeT_ok (nodeT_ok (nodeT_ok (nodeT_ok (leafT_ok tiOk95 t) (leafT_ok tiOk96 t)) (nodeT_ok (leafT_ok tiOk97 t) (nodeT_ok (leafT_ok tiOk98 t) (leafT_ok tiOk100 t)))) (nodeT_ok (nodeT_ok (leafT_ok tiOk101 t) (leafT_ok tiOk102 t)) (nodeT_ok (leafT_ok tiOk103 t) (nodeT_ok (leafT_ok tiOk104 t) (leafT_ok tiOk105 t))))) (nodeT_ok (nodeT_ok (nodeT_ok (leafT_ok tiOk106 t) (leafT_ok tiOk107 t)) (nodeT_ok (leafT_ok tiOk108 t) (nodeT_ok (leafT_ok tiOk109 t) (leafT_ok tiOk110 t)))) (nodeT_ok (nodeT_ok (leafT_ok tiOk111 t) (nodeT_ok (leafT_ok tiOk112 t) (leafT_ok tiOk113 t))) (nodeT_ok (leafT_ok tiOk114 t) (nodeT_ok (leafT_ok tiOk116 t) (leafT_ok tiOk118 t)))))) (nodeT_ok (nodeT_ok (nodeT_ok (nodeT_ok (leafT_ok tiOk119 t) (leafT_ok tiOk120 t)) (nodeT_ok (leafT_ok tiOk121 t) (nodeT_ok (leafT_ok tiOk122 t) (leafT_ok tiOk123 t)))) (nodeT_ok (nodeT_ok (leafT_ok tiOk124 t) (nodeT_ok (leafT_ok tiOk125 t) (leafT_ok tiOk126 t))) (nodeT_ok (leafT_ok tiOk127 t) (nodeT_ok (leafT_ok tiOk128 t) (leafT_ok tiOk129 t))))) (nodeT_ok (nodeT_ok (nodeT_ok (leafT_ok tiOk130 t) (leafT_ok tiOk131 t)) (nodeT_ok (leafT_ok tiOk132 t) (nodeT_ok (leafT_ok tiOk134 t) (leafT_ok tiOk135 t)))) (nodeT_ok (nodeT_ok (leafT_ok tiOk136 t) (nodeT_ok (leafT_ok tiOk137 t) (leafT_ok tiOk138 t))) (nodeT_ok (leafT_ok tiOk139 t) (nodeT_ok (leafT_ok tiOk140 t) (leafT_ok tiOk141 t))))))) (nodeT_ok (nodeT_ok (nodeT_ok (nodeT_ok (nodeT_ok (leafT_ok tiOk142 t) (leafT_ok tiOk143 t)) (nodeT_ok (leafT_ok tiOk145 t) (nodeT_ok (leafT_ok tiOk146 t) (leafT_ok tiOk147 t)))) (nodeT_ok (nodeT_ok (leafT_ok tiOk148 t) (leafT_ok tiOk149 t)) (nodeT_ok (leafT_ok tiOk150 t) (nodeT_ok (leafT_ok tiOk151 t) (leafT_ok tiOk152 t))))) (nodeT_ok (nodeT_ok (nodeT_ok (leafT_ok tiOk153 t) (leafT_ok tiOk154 t)) (nodeT_ok (leafT_ok tiOk155 t) (nodeT_ok (leafT_ok tiOk156 t) (leafT_ok tiOk158 t)))) (nodeT_ok (nodeT_ok (leafT_ok tiOk159 t) (nodeT_ok (leafT_ok tiOk160 t) (leafT_ok tiOk161 t))) (nodeT_ok (leafT_ok tiOk162 t) (nodeT_ok (leafT_ok tiOk164 t) (leafT_ok tiOk165 t)))))) (nodeT_ok (nodeT_ok (nodeT_ok (nodeT_ok (leafT_ok tiOk166 t) (leafT_ok tiOk167 t)) (nodeT_ok (leafT_ok tiOk168 t) (nodeT_ok (leafT_ok tiOk169 t) (leafT_ok tiOk170 t)))) (nodeT_ok (nodeT_ok (leafT_ok tiOk171 t) (nodeT_ok (leafT_ok tiOk172 t) (leafT_ok tiOk173 t))) (nodeT_ok (leafT_ok tiOk174 t) (nodeT_ok (leafT_ok tiOk175 t) (leafT_ok tiOk176 t))))) (nodeT_ok (nodeT_ok (nodeT_ok (leafT_ok tiOk177 t) (leafT_ok tiOk178 t)) (nodeT_ok (leafT_ok tiOk179 t) (nodeT_ok (leafT_ok tiOk180 t) (leafT_ok tiOk181 t)))) (nodeT_ok (nodeT_ok (leafT_ok tiOk182 t) (nodeT_ok (leafT_ok tiOk183 t) (leafT_ok tiOk184 t))) (nodeT_ok (leafT_ok tiOk185 t) (nodeT_ok (leafT_ok tiOk186 t) (leafT_ok tiOk187 t))))))))) (nodeT_ok (nodeT_ok (nodeT_ok (nodeT_ok (nodeT_ok (nodeT_ok (nodeT_ok (leafT_ok tiOk188 t) (leafT_ok tiOk189 t)) (nodeT_ok (leafT_ok tiOk190 t) (nodeT_ok (leafT_ok tiOk191 t) (leafT_ok tiOk192 t)))) (nodeT_ok (nodeT_ok (leafT_ok tiOk193 t) (leafT_ok tiOk194 t)) (nodeT_ok (leafT_ok tiOk195 t) (nodeT_ok (leafT_ok tiOk196 t) (leafT_ok tiOk197 t))))) (nodeT_ok (nodeT_ok (nodeT_ok (leafT_ok tiOk198 t) (leafT_ok tiOk199 t)) (nodeT_ok (leafT_ok tiOk200 t) (nodeT_ok (leafT_ok tiOk201 t) (leafT_ok tiOk202 t)))) (nodeT_ok (nodeT_ok (leafT_ok tiOk203 t) (nodeT_ok (leafT_ok tiOk204 t) (leafT_ok tiOk205 t))) (nodeT_ok (leafT_ok tiOk206 t) (nodeT_ok (leafT_ok tiOk207 t) (leafT_ok tiOk208 t)))))) (nodeT_ok (nodeT_ok (nodeT_ok (nodeT_ok (leafT_ok tiOk209 t) (leafT_ok tiOk210 t)) (nodeT_ok (leafT_ok tiOk212 t) (nodeT_ok (leafT_ok tiOk213 t) (leafT_ok tiOk214 t)))) (nodeT_ok (nodeT_ok (leafT_ok tiOk215 t) (leafT_ok tiOk217 t)) (nodeT_ok (leafT_ok tiOk218 t) (nodeT_ok (leafT_ok tiOk219 t) (leafT_ok tiOk220 t))))) (nodeT_ok (nodeT_ok (nodeT_ok (leafT_ok tiOk221 t) (leafT_ok tiOk222 t)) (nodeT_ok (leafT_ok tiOk223 t) (nodeT_ok (leafT_ok tiOk224 t) (leafT_ok tiOk225 t)))) (nodeT_ok (nodeT_ok (leafT_ok tiOk226 t) (nodeT_ok (leafT_ok tiOk227 t) (leafT_ok tiOk228 t))) (nodeT_ok (leafT_ok tiOk229 t) (nodeT_ok (leafT_ok tiOk230 t) (leafT_ok tiOk231 t))))))) (nodeT_ok (nodeT_ok (nodeT_ok (nodeT_ok (nodeT_ok (leafT_ok tiOk232 t) (leafT_ok tiOk233 t)) (nodeT_ok (leafT_ok tiOk234 t) (nodeT_ok (leafT_ok tiOk235 t) (leafT_ok tiOk237 t)))) (nodeT_ok (nodeT_ok (leafT_ok tiOk238 t) (leafT_ok tiOk239 t)) (nodeT_ok (leafT_ok tiOk240 t) (nodeT_ok (leafT_ok tiOk241 t) (leafT_ok tiOk242 t))))) (nodeT_ok (nodeT_ok (nodeT_ok (leafT_ok tiOk243 t) (leafT_ok tiOk244 t)) (nodeT_ok (leafT_ok tiOk245 t) (nodeT_ok (leafT_ok tiOk246 t) (leafT_ok tiOk248 t)))) (nodeT_ok (nodeT_ok (leafT_ok tiOk249 t) (nodeT_ok (leafT_ok tiOk250 t) (leafT_ok tiOk251 t))) (nodeT_ok (leafT_ok tiOk252 t) (nodeT_ok (leafT_ok tiOk253 t) (leafT_ok tiOk254 t)))))) (nodeT_ok (nodeT_ok (nodeT_ok (nodeT_ok (leafT_ok tiOk255 t) (leafT_ok tiOk256 t)) (nodeT_ok (leafT_ok tiOk257 t) (nodeT_ok (leafT_ok tiOk258 t) (leafT_ok tiOk259 t)))) (nodeT_ok (nodeT_ok (leafT_ok tiOk261 t) (nodeT_ok (leafT_ok tiOk262 t) (leafT_ok tiOk263 t))) (nodeT_ok (leafT_ok tiOk265 t) (nodeT_ok (leafT_ok tiOk266 t) (leafT_ok tiOk267 t))))) (nodeT_ok (nodeT_ok (nodeT_ok (leafT_ok tiOk268 t) (leafT_ok tiOk269 t)) (nodeT_ok (leafT_ok tiOk270 t) (nodeT_ok (leafT_ok tiOk271 t) (leafT_ok tiOk272 t)))) (nodeT_ok (nodeT_ok (leafT_ok tiOk274 t) (nodeT_ok (leafT_ok tiOk275 t) (leafT_ok tiOk277 t))) (nodeT_ok (leafT_ok tiOk279 t) (nodeT_ok (leafT_ok tiOk280 t) (leafT_ok tiOk281 t)))))))) (nodeT_ok (nodeT_ok (nodeT_ok (nodeT_ok (nodeT_ok (nodeT_ok (leafT_ok tiOk282 t) (leafT_ok tiOk283 t)) (nodeT_ok (leafT_ok tiOk284 t) (nodeT_ok (leafT_ok tiOk285 t) (leafT_ok tiOk286 t)))) (nodeT_ok (nodeT_ok (leafT_ok tiOk287 t) (leafT_ok tiOk288 t)) (nodeT_ok (leafT_ok tiOk289 t) (nodeT_ok (leafT_ok tiOk290 t) (leafT_ok tiOk291 t))))) (nodeT_ok (nodeT_ok (nodeT_ok (leafT_ok tiOk292 t) (leafT_ok tiOk294 t)) (nodeT_ok (leafT_ok tiOk295 t) (nodeT_ok (leafT_ok tiOk296 t) (leafT_ok tiOk297 t)))) (nodeT_ok (nodeT_ok (leafT_ok tiOk298 t) (nodeT_ok (leafT_ok tiOk299 t) (leafT_ok tiOk300 t))) (nodeT_ok (leafT_ok tiOk301 t) (nodeT_ok (leafT_ok tiOk302 t) (leafT_ok tiOk303 t)))))) (nodeT_ok (nodeT_ok (nodeT_ok (nodeT_ok (leafT_ok tiOk304 t) (leafT_ok tiOk305 t)) (nodeT_ok (leafT_ok tiOk306 t) (nodeT_ok (leafT_ok tiOk307 t) (leafT_ok tiOk308 t)))) (nodeT_ok (nodeT_ok (leafT_ok tiOk309 t) (nodeT_ok (leafT_ok tiOk310 t) (leafT_ok tiOk312 t))) (nodeT_ok (leafT_ok tiOk313 t) (nodeT_ok (leafT_ok tiOk314 t) (leafT_ok tiOk315 t))))) (nodeT_ok (nodeT_ok (nodeT_ok (leafT_ok tiOk316 t) (leafT_ok tiOk317 t)) (nodeT_ok (leafT_ok tiOk318 t) (nodeT_ok (leafT_ok tiOk319 t) (leafT_ok tiOk320 t)))) (nodeT_ok (nodeT_ok (leafT_ok tiOk321 t) (nodeT_ok (leafT_ok tiOk322 t) (leafT_ok tiOk323 t))) (nodeT_ok (leafT_ok tiOk325 t) (nodeT_ok (leafT_ok tiOk326 t) (leafT_ok tiOk327 t))))))) (nodeT_ok (nodeT_ok (nodeT_ok (nodeT_ok (nodeT_ok (leafT_ok tiOk328 t) (leafT_ok tiOk330 t)) (nodeT_ok (leafT_ok tiOk331 t) (nodeT_ok (leafT_ok tiOk332 t) (leafT_ok tiOk333 t)))) (nodeT_ok (nodeT_ok (leafT_ok tiOk334 t) (leafT_ok tiOk335 t)) (nodeT_ok (leafT_ok tiOk337 t) (nodeT_ok (leafT_ok tiOk338 t) (leafT_ok tiOk339 t))))) (nodeT_ok (nodeT_ok (nodeT_ok (leafT_ok tiOk340 t) (leafT_ok tiOk341 t)) (nodeT_ok (leafT_ok tiOk342 t) (nodeT_ok (leafT_ok tiOk343 t) (leafT_ok tiOk344 t)))) (nodeT_ok (nodeT_ok (leafT_ok tiOk345 t) (nodeT_ok (leafT_ok tiOk346 t) (leafT_ok tiOk347 t))) (nodeT_ok (leafT_ok tiOk348 t) (nodeT_ok (leafT_ok tiOk349 t) (leafT_ok tiOk350 t)))))) (nodeT_ok (nodeT_ok (nodeT_ok (nodeT_ok (leafT_ok tiOk351 t) (leafT_ok tiOk352 t)) (nodeT_ok (leafT_ok tiOk353 t) (nodeT_ok (leafT_ok tiOk354 t) (leafT_ok tiOk355 t)))) (nodeT_ok (nodeT_ok (leafT_ok tiOk356 t) (nodeT_ok (leafT_ok tiOk357 t) (leafT_ok tiOk358 t))) (nodeT_ok (leafT_ok tiOk359 t) (nodeT_ok (leafT_ok tiOk360 t) (leafT_ok tiOk361 t))))) (nodeT_ok (nodeT_ok (nodeT_ok (leafT_ok tiOk362 t) (leafT_ok tiOk363 t)) (nodeT_ok (leafT_ok tiOk364 t) (nodeT_ok (leafT_ok tiOk365 t) (leafT_ok tiOk366 t)))) (nodeT_ok (nodeT_ok (leafT_ok tiOk367 t) (nodeT_ok (leafT_ok tiOk368 t) (leafT_ok tiOk369 t))) (nodeT_ok (leafT_ok tiOk370 t) (nodeT_ok (leafT_ok tiOk371 t) (leafT_ok tiOk372 t))))))))))
theorem eqOk63 : EqOkB Tryz.prog 63 = true := by kernel_rfl
theorem eqOk65 : EqOkB Tryz.prog 65 = true := by kernel_rfl
theorem eqOk75 : EqOkB Tryz.prog 75 = true := by kernel_rfl
theorem eqOk77 : EqOkB Tryz.prog 77 = true := by kernel_rfl
theorem eqOk111 : EqOkB Tryz.prog 111 = true := by kernel_rfl
theorem eqOk123 : EqOkB Tryz.prog 123 = true := by kernel_rfl
theorem eqOk136 : EqOkB Tryz.prog 136 = true := by kernel_rfl
theorem eqOk173 : EqOkB Tryz.prog 173 = true := by kernel_rfl
theorem eqOk176 : EqOkB Tryz.prog 176 = true := by kernel_rfl
theorem eqOk179 : EqOkB Tryz.prog 179 = true := by kernel_rfl
theorem eqOk182 : EqOkB Tryz.prog 182 = true := by kernel_rfl
def Et (t : TypeId) : Bool := [63, 65, 75, 77, 111, 123, 136, 173, 176, 179, 182].any (Nat.beq t)
theorem Et_ok (t : TypeId) (h : Et t = true) : EqOkB Tryz.prog t = true := by
  obtain ⟨x, hx, he⟩ := List.any_eq_true.1 h
  have := Nat.eq_of_beq_eq_true he
  subst this
  simp only [List.mem_cons, List.not_mem_nil, or_false] at hx
  rcases hx with rfl | rfl | rfl | rfl | rfl | rfl | rfl | rfl | rfl | rfl | rfl
  · exact eqOk63
  · exact eqOk65
  · exact eqOk75
  · exact eqOk77
  · exact eqOk111
  · exact eqOk123
  · exact eqOk136
  · exact eqOk173
  · exact eqOk176
  · exact eqOk179
  · exact eqOk182
end Go.Proofs.YtcpdgnkhkdddhaaGreatDoor.Aw
