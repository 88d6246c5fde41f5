/- Parts of the proof, one behind the other. No further condition. -/
import Derived.Test.YteliblifgdofgaaGreatDoorK03
import Derived.Test.YteliblifgdofgaaGreatDoorProg
import Derived.KernelRfl
set_option linter.unusedVariables false
set_option linter.unusedSimpArgs false
set_option maxRecDepth 100000
set_option maxHeartbeats 8000000
namespace Go.Proofs.YteliblifgdofgaaGreatDoor
def iR:Go.Ab.Tab:=[
 (1,⟨1,8,.other,[.nilFunc]⟩),
 (2,⟨1,8,.int .i64,[.int .i64 0]⟩),
 (3,⟨1,8,.int .i64,[.int .i64 0]⟩),
 (4,⟨1,1,.bool,[.bool false]⟩),
 (5,⟨1,1,.int .u8,[.int .u8 0]⟩),
 (6,⟨1,1,.int .u8,[.int .u8 0]⟩),
 (7,⟨4,24,.struct [(0,2),(1,3),(2,4),(3,6)],[.int .i64 0,.int .i64 0,.bool false,.int .u8 0]⟩),
 (8,⟨4,24,.struct [(0,2),(1,3),(2,4),(3,6)],[.int .i64 0,.int .i64 0,.bool false,.int .u8 0]⟩),
 (9,⟨1,16,.str,[.str []]⟩),
 (10,⟨1,16,.str,[.str []]⟩),
 (11,⟨1,16,.str,[.str []]⟩),
 (12,⟨1,8,.int .u64,[.int .u64 0]⟩),
 (13,⟨2,24,.struct [(0,9),(1,12)],[.str [],.int .u64 0]⟩),
 (14,⟨2,24,.struct [(0,9),(1,12)],[.str [],.int .u64 0]⟩),
 (15,⟨1,8,.ptr 403,[.nilptr]⟩),
 (16,⟨1,8,.ptr 406,[.nilptr]⟩),
 (17,⟨1,8,.ptr 413,[.nilptr]⟩),
 (18,⟨1,8,.struct [(0,17)],[.nilptr]⟩),
 (19,⟨1,8,.struct [(0,17)],[.nilptr]⟩),
 (20,⟨1,16,.iface,[.nilIface]⟩),
 (21,⟨1,4,.int .i32,[.int .i32 0]⟩),
 (22,⟨1,24,.slice 40,[.sl 0 [] .full]⟩),
 (23,⟨1,8,.other,[.nilFunc]⟩),
 (24,⟨1,24,.slice 9,[.sl 0 [] .full]⟩),
 (25,⟨1,24,.slice 3,[.sl 0 [] .full]⟩),
 (26,⟨1,24,.slice 87,[.sl 0 [] .full]⟩),
 (27,⟨9,120,.struct [(0,3),(1,3),(2,3),(3,3),(4,4),(5,3),(6,24),(7,25),(8,26)],[.int .i64 0,.int .i64 0,.int .i64 0,.int .i64 0,.bool false,.int .i64 0,.sl 0 [] .full,.sl 0 [] .full,.sl 0 [] .full]⟩),
 (28,⟨9,120,.struct [(0,3),(1,3),(2,3),(3,3),(4,4),(5,3),(6,24),(7,25),(8,26)],[.int .i64 0,.int .i64 0,.int .i64 0,.int .i64 0,.bool false,.int .i64 0,.sl 0 [] .full,.sl 0 [] .full,.sl 0 [] .full]⟩),
 (30,⟨1,8,.other,[.nilFunc]⟩),
 (31,⟨1,8,.other,[.nilFunc]⟩),
 (32,⟨1,24,.slice 53,[.sl 0 [] .full]⟩),
 (33,⟨1,8,.int .i64,[.int .i64 0]⟩),
 (35,⟨1,8,.other,[.nilFunc]⟩),
 (36,⟨1,8,.other,[.nilFunc]⟩),
 (37,⟨1,8,.other,[.nilFunc]⟩),
 (38,⟨1,24,.slice 112,[.sl 0 [] .full]⟩),
 (39,⟨6,64,.struct [(0,3),(1,3),(2,3),(3,3),(4,3),(5,38)],[.int .i64 0,.int .i64 0,.int .i64 0,.int .i64 0,.int .i64 0,.sl 0 [] .full]⟩),
 (40,⟨6,64,.struct [(0,3),(1,3),(2,3),(3,3),(4,3),(5,38)],[.int .i64 0,.int .i64 0,.int .i64 0,.int .i64 0,.int .i64 0,.sl 0 [] .full]⟩),
 (41,⟨2,16,.struct [(0,33),(1,3)],[.int .i64 0,.int .i64 0]⟩),
 (42,⟨2,16,.struct [(0,33),(1,3)],[.int .i64 0,.int .i64 0]⟩),
 (44,⟨1,8,.other,[.nilFunc]⟩),
 (45,⟨1,8,.other,[.nilFunc]⟩),
 (46,⟨1,8,.other,[.nilFunc]⟩),
 (47,⟨1,8,.other,[.nilFunc]⟩),
 (49,⟨1,8,.other,[.nilFunc]⟩),
 (50,⟨3,40,.struct [(0,3),(1,3),(2,25)],[.int .i64 0,.int .i64 0,.sl 0 [] .full]⟩),
 (51,⟨3,40,.struct [(0,3),(1,3),(2,25)],[.int .i64 0,.int .i64 0,.sl 0 [] .full]⟩),
 (52,⟨5,64,.struct [(0,9),(1,3),(2,51)],[.str [],.int .i64 0,.int .i64 0,.int .i64 0,.sl 0 [] .full]⟩),
 (53,⟨5,64,.struct [(0,9),(1,3),(2,51)],[.str [],.int .i64 0,.int .i64 0,.int .i64 0,.sl 0 [] .full]⟩),
 (55,⟨1,8,.other,[.nilFunc]⟩),
 (56,⟨1,24,.slice 107,[.sl 0 [] .full]⟩),
 (58,⟨1,8,.other,[.nilFunc]⟩),
 (59,⟨1,8,.other,[.nilFunc]⟩),
 (60,⟨1,8,.other,[.nilFunc]⟩),
 (61,⟨1,8,.other,[.nilFunc]⟩),
 (62,⟨1,8,.other,[.nilFunc]⟩),
 (63,⟨1,8,.other,[.nilFunc]⟩),
 (65,⟨1,8,.other,[.nilFunc]⟩),
 (67,⟨1,8,.other,[.nilFunc]⟩),
 (68,⟨1,24,.slice 183,[.sl 0 [] .full]⟩),
 (70,⟨1,8,.other,[.nilFunc]⟩),
 (71,⟨1,8,.other,[.nilFunc]⟩),
 (72,⟨1,8,.other,[.nilFunc]⟩),
 (73,⟨1,8,.ptr 241,[.nilptr]⟩),
 (74,⟨1,8,.other,[.nilFunc]⟩),
 (75,⟨1,8,.other,[.nilFunc]⟩),
 (76,⟨1,24,.slice 163,[.sl 0 [] .full]⟩),
 (77,⟨1,24,.slice 295,[.sl 0 [] .full]⟩),
 (78,⟨1,24,.slice 154,[.sl 0 [] .full]⟩),
 (79,⟨5,88,.struct [(0,3),(1,3),(2,76),(3,77),(4,78)],[.int .i64 0,.int .i64 0,.sl 0 [] .full,.sl 0 [] .full,.sl 0 [] .full]⟩),
 (80,⟨5,88,.struct [(0,3),(1,3),(2,76),(3,77),(4,78)],[.int .i64 0,.int .i64 0,.sl 0 [] .full,.sl 0 [] .full,.sl 0 [] .full]⟩),
 (82,⟨1,8,.other,[.nilFunc]⟩),
 (84,⟨1,8,.other,[.nilFunc]⟩),
 (85,⟨1,8,.other,[.nilFunc]⟩),
 (86,⟨4,48,.struct [(0,3),(1,3),(2,3),(3,24)],[.int .i64 0,.int .i64 0,.int .i64 0,.sl 0 [] .full]⟩),
 (87,⟨4,48,.struct [(0,3),(1,3),(2,3),(3,24)],[.int .i64 0,.int .i64 0,.int .i64 0,.sl 0 [] .full]⟩),
 (88,⟨1,8,.other,[.nilFunc]⟩),
 (89,⟨1,8,.other,[.nilFunc]⟩),
 (91,⟨1,8,.other,[.nilFunc]⟩),
 (92,⟨6,72,.struct [(0,53),(5,4)],[.str [],.int .i64 0,.int .i64 0,.int .i64 0,.sl 0 [] .full,.bool false]⟩),
 (93,⟨6,72,.struct [(0,53),(5,4)],[.str [],.int .i64 0,.int .i64 0,.int .i64 0,.sl 0 [] .full,.bool false]⟩),
 (95,⟨1,8,.other,[.nilFunc]⟩),
 (96,⟨1,8,.other,[.nilFunc]⟩),
 (97,⟨1,8,.other,[.nilFunc]⟩),
 (98,⟨1,8,.other,[.nilFunc]⟩),
 (99,⟨1,8,.other,[.nilFunc]⟩),
 (100,⟨1,8,.other,[.nilFunc]⟩),
 (101,⟨1,8,.other,[.nilFunc]⟩),
 (102,⟨1,8,.other,[.nilFunc]⟩),
 (103,⟨1,8,.other,[.nilFunc]⟩),
 (104,⟨1,8,.other,[.nilFunc]⟩),
 (105,⟨1,8,.other,[.nilFunc]⟩),
 (106,⟨2,24,.struct [(0,9),(1,3)],[.str [],.int .i64 0]⟩),
 (107,⟨2,24,.struct [(0,9),(1,3)],[.str [],.int .i64 0]⟩),
 (108,⟨1,8,.other,[.nilFunc]⟩),
 (109,⟨1,8,.other,[.nilFunc]⟩),
 (110,⟨1,8,.other,[.nilFunc]⟩),
 (111,⟨5,64,.struct [(0,9),(1,4),(2,51)],[.str [],.bool false,.int .i64 0,.int .i64 0,.sl 0 [] .full]⟩),
 (112,⟨5,64,.struct [(0,9),(1,4),(2,51)],[.str [],.bool false,.int .i64 0,.int .i64 0,.sl 0 [] .full]⟩),
 (113,⟨1,8,.other,[.nilFunc]⟩),
 (114,⟨1,8,.other,[.nilFunc]⟩),
 (115,⟨1,8,.ptr 118,[.nilptr]⟩),
 (116,⟨1,24,.slice 5,[.sl 0 [] .full]⟩),
 (117,⟨2,32,.struct [(0,115),(1,116)],[.nilptr,.sl 0 [] .full]⟩),
 (118,⟨2,32,.struct [(0,115),(1,116)],[.nilptr,.sl 0 [] .full]⟩),
 (119,⟨5,40,.array 5 3,[.int .i64 0,.int .i64 0,.int .i64 0,.int .i64 0,.int .i64 0]⟩),
 (120,⟨1,8,.other,[.nilFunc]⟩),
 (121,⟨1,16,.iface,[.nilIface]⟩),
 (122,⟨1,16,.iface,[.nilIface]⟩),
 (124,⟨1,8,.other,[.nilFunc]⟩),
 (125,⟨1,8,.other,[.nilFunc]⟩),
 (126,⟨1,8,.other,[.nilFunc]⟩),
 (127,⟨1,8,.other,[.nilFunc]⟩),
 (128,⟨1,8,.ptr 28,[.nilptr]⟩),
 (129,⟨1,8,.ptr 68,[.nilptr]⟩),
 (130,⟨1,8,.ptr 33,[.nilptr]⟩),
 (131,⟨1,8,.ptr 134,[.nilptr]⟩),
 (132,⟨1,8,.other,[.nilFunc]⟩),
 (133,⟨10,144,.struct [(0,28),(9,68)],[.int .i64 0,.int .i64 0,.int .i64 0,.int .i64 0,.bool false,.int .i64 0,.sl 0 [] .full,.sl 0 [] .full,.sl 0 [] .full,.sl 0 [] .full]⟩),
 (134,⟨10,144,.struct [(0,28),(9,68)],[.int .i64 0,.int .i64 0,.int .i64 0,.int .i64 0,.bool false,.int .i64 0,.sl 0 [] .full,.sl 0 [] .full,.sl 0 [] .full,.sl 0 [] .full]⟩),
 (135,⟨1,8,.other,[.nilFunc]⟩),
 (136,⟨1,8,.other,[.nilFunc]⟩),
 (137,⟨1,8,.other,[.nilFunc]⟩),
 (138,⟨1,8,.other,[.nilFunc]⟩),
 (139,⟨1,8,.other,[.nilFunc]⟩),
 (140,⟨1,8,.ptr 193,[.nilptr]⟩),
 (142,⟨1,8,.other,[.nilFunc]⟩),
 (143,⟨1,8,.other,[.nilFunc]⟩),
 (144,⟨1,8,.other,[.nilFunc]⟩),
 (147,⟨1,8,.other,[.nilFunc]⟩),
 (149,⟨1,8,.other,[.nilFunc]⟩),
 (150,⟨1,24,.slice 42,[.sl 0 [] .full]⟩),
 (152,⟨1,8,.other,[.nilFunc]⟩),
 (153,⟨4,32,.struct [(0,3),(1,3),(2,42)],[.int .i64 0,.int .i64 0,.int .i64 0,.int .i64 0]⟩),
 (154,⟨4,32,.struct [(0,3),(1,3),(2,42)],[.int .i64 0,.int .i64 0,.int .i64 0,.int .i64 0]⟩),
 (156,⟨1,8,.other,[.nilFunc]⟩),
 (157,⟨1,8,.other,[.nilFunc]⟩),
 (158,⟨1,8,.other,[.nilFunc]⟩),
 (159,⟨1,8,.other,[.nilFunc]⟩),
 (160,⟨2,24,.struct [(0,9),(1,3)],[.str [],.int .i64 0]⟩),
 (161,⟨2,24,.struct [(0,9),(1,3)],[.str [],.int .i64 0]⟩),
 (162,⟨3,40,.struct [(0,161),(2,9)],[.str [],.int .i64 0,.str []]⟩),
 (163,⟨3,40,.struct [(0,161),(2,9)],[.str [],.int .i64 0,.str []]⟩),
 (165,⟨1,8,.other,[.nilFunc]⟩),
 (166,⟨1,8,.other,[.nilFunc]⟩),
 (167,⟨1,8,.other,[.nilFunc]⟩),
 (168,⟨1,8,.other,[.nilFunc]⟩),
 (169,⟨1,8,.other,[.nilFunc]⟩),
 (170,⟨1,8,.other,[.nilFunc]⟩),
 (171,⟨1,8,.other,[.nilFunc]⟩),
 (172,⟨1,8,.other,[.nilFunc]⟩),
 (173,⟨1,8,.other,[.nilFunc]⟩),
 (174,⟨1,8,.other,[.nilFunc]⟩),
 (175,⟨1,8,.other,[.nilFunc]⟩),
 (176,⟨1,8,.other,[.nilFunc]⟩),
 (177,⟨1,8,.ptr 5,[.nilptr]⟩),
 (179,⟨1,8,.other,[.nilFunc]⟩),
 (180,⟨1,8,.other,[.nilFunc]⟩),
 (181,⟨1,8,.other,[.nilFunc]⟩),
 (182,⟨8,80,.struct [(0,3),(1,3),(2,3),(3,3),(4,3),(5,3),(6,3),(7,24)],[.int .i64 0,.int .i64 0,.int .i64 0,.int .i64 0,.int .i64 0,.int .i64 0,.int .i64 0,.sl 0 [] .full]⟩),
 (183,⟨8,80,.struct [(0,3),(1,3),(2,3),(3,3),(4,3),(5,3),(6,3),(7,24)],[.int .i64 0,.int .i64 0,.int .i64 0,.int .i64 0,.int .i64 0,.int .i64 0,.int .i64 0,.sl 0 [] .full]⟩),
 (184,⟨1,8,.other,[.nilFunc]⟩),
 (185,⟨1,8,.other,[.nilFunc]⟩),
 (186,⟨1,8,.other,[.nilFunc]⟩),
 (187,⟨1,8,.other,[.nilFunc]⟩),
 (188,⟨1,8,.other,[.nilFunc]⟩),
 (189,⟨1,8,.other,[.nilFunc]⟩),
 (190,⟨1,8,.other,[.nilFunc]⟩),
 (191,⟨1,8,.other,[.nilFunc]⟩),
 (192,⟨3,40,.struct [(0,73),(1,189),(2,76)],[.nilptr,.nilFunc,.sl 0 [] .full]⟩),
 (193,⟨3,40,.struct [(0,73),(1,189),(2,76)],[.nilptr,.nilFunc,.sl 0 [] .full]⟩),
 (195,⟨1,8,.other,[.nilFunc]⟩),
 (196,⟨1,8,.other,[.nilFunc]⟩),
 (197,⟨6,72,.struct [(0,161),(2,51),(5,4)],[.str [],.int .i64 0,.int .i64 0,.int .i64 0,.sl 0 [] .full,.bool false]⟩),
 (198,⟨6,72,.struct [(0,161),(2,51),(5,4)],[.str [],.int .i64 0,.int .i64 0,.int .i64 0,.sl 0 [] .full,.bool false]⟩),
 (199,⟨1,8,.other,[.nilFunc]⟩),
 (200,⟨1,8,.other,[.nilFunc]⟩),
 (201,⟨1,8,.map 3 4,[.nilmap]⟩),
 (202,⟨1,8,.other,[.nilFunc]⟩),
 (204,⟨1,8,.other,[.nilFunc]⟩),
 (206,⟨1,8,.other,[.nilFunc]⟩),
 (208,⟨1,8,.other,[.nilFunc]⟩),
 (209,⟨1,8,.other,[.nilFunc]⟩),
 (210,⟨1,8,.other,[.nilFunc]⟩),
 (211,⟨4,32,.struct [(0,3),(1,3),(2,42)],[.int .i64 0,.int .i64 0,.int .i64 0,.int .i64 0]⟩),
 (212,⟨1,8,.other,[.nilFunc]⟩),
 (214,⟨1,8,.other,[.nilFunc]⟩),
 (215,⟨1,8,.other,[.nilFunc]⟩),
 (217,⟨1,8,.other,[.nilFunc]⟩),
 (218,⟨1,8,.other,[.nilFunc]⟩),
 (219,⟨1,8,.other,[.nilFunc]⟩),
 (220,⟨1,8,.other,[.nilFunc]⟩),
 (221,⟨1,8,.other,[.nilFunc]⟩),
 (222,⟨1,8,.other,[.nilFunc]⟩),
 (223,⟨1,8,.other,[.nilFunc]⟩),
 (224,⟨5,64,.struct [(0,9),(1,4),(2,51)],[.str [],.bool false,.int .i64 0,.int .i64 0,.sl 0 [] .full]⟩),
 (225,⟨1,8,.other,[.nilFunc]⟩),
 (227,⟨1,8,.other,[.nilFunc]⟩),
 (228,⟨1,8,.other,[.nilFunc]⟩),
 (229,⟨1,8,.other,[.nilFunc]⟩),
 (230,⟨4,48,.struct [(0,3),(1,3),(2,3),(3,24)],[.int .i64 0,.int .i64 0,.int .i64 0,.sl 0 [] .full]⟩),
 (231,⟨1,8,.other,[.nilFunc]⟩),
 (233,⟨1,8,.other,[.nilFunc]⟩),
 (234,⟨1,8,.other,[.nilFunc]⟩),
 (235,⟨1,8,.other,[.nilFunc]⟩),
 (236,⟨1,8,.other,[.nilFunc]⟩),
 (237,⟨1,24,.slice 163,[.sl 0 [] .full]⟩),
 (238,⟨1,16,.iface,[.nilIface]⟩),
 (239,⟨1,16,.iface,[.nilIface]⟩),
 (240,⟨1,16,.struct [(0,239)],[.nilIface]⟩),
 (241,⟨1,16,.struct [(0,239)],[.nilIface]⟩),
 (242,⟨1,24,.slice 239,[.sl 0 [] .full]⟩),
 (243,⟨1,8,.other,[.nilFunc]⟩),
 (244,⟨1,8,.other,[.nilFunc]⟩),
 (245,⟨1,8,.other,[.nilFunc]⟩),
 (246,⟨1,24,.slice 198,[.sl 0 [] .full]⟩),
 (247,⟨1,8,.other,[.nilFunc]⟩),
 (248,⟨1,8,.other,[.nilFunc]⟩),
 (249,⟨1,8,.other,[.nilFunc]⟩),
 (250,⟨1,8,.other,[.nilFunc]⟩),
 (251,⟨1,8,.other,[.nilFunc]⟩),
 (252,⟨1,8,.int .u64,[.int .u64 0]⟩),
 (254,⟨1,8,.other,[.nilFunc]⟩),
 (255,⟨1,8,.other,[.nilFunc]⟩),
 (256,⟨1,8,.other,[.nilFunc]⟩),
 (257,⟨1,8,.other,[.nilFunc]⟩),
 (258,⟨1,8,.other,[.nilFunc]⟩),
 (259,⟨1,8,.other,[.nilFunc]⟩),
 (260,⟨1,8,.ptr 262,[.nilptr]⟩),
 (261,⟨6,96,.struct [(0,80),(5,73)],[.int .i64 0,.int .i64 0,.sl 0 [] .full,.sl 0 [] .full,.sl 0 [] .full,.nilptr]⟩),
 (262,⟨6,96,.struct [(0,80),(5,73)],[.int .i64 0,.int .i64 0,.sl 0 [] .full,.sl 0 [] .full,.sl 0 [] .full,.nilptr]⟩),
 (263,⟨1,8,.other,[.nilFunc]⟩),
 (265,⟨1,8,.other,[.nilFunc]⟩),
 (266,⟨1,8,.other,[.nilFunc]⟩),
 (268,⟨1,8,.other,[.nilFunc]⟩),
 (269,⟨1,8,.other,[.nilFunc]⟩),
 (271,⟨1,8,.other,[.nilFunc]⟩),
 (272,⟨1,8,.other,[.nilFunc]⟩),
 (273,⟨1,8,.other,[.nilFunc]⟩),
 (274,⟨1,8,.other,[.nilFunc]⟩),
 (275,⟨1,8,.other,[.nilFunc]⟩),
 (276,⟨1,8,.other,[.nilFunc]⟩),
 (277,⟨1,8,.other,[.nilFunc]⟩),
 (278,⟨1,8,.other,[.nilFunc]⟩),
 (279,⟨1,24,.slice 242,[.sl 0 [] .full]⟩),
 (280,⟨1,8,.other,[.nilFunc]⟩),
 (281,⟨2,32,.struct [(0,242),(1,3)],[.sl 0 [] .full,.int .i64 0]⟩),
 (282,⟨2,32,.struct [(0,242),(1,3)],[.sl 0 [] .full,.int .i64 0]⟩),
 (283,⟨1,8,.other,[.nilFunc]⟩),
 (285,⟨1,8,.other,[.nilFunc]⟩),
 (286,⟨1,8,.other,[.nilFunc]⟩),
 (287,⟨1,8,.other,[.nilFunc]⟩),
 (289,⟨1,8,.other,[.nilFunc]⟩),
 (290,⟨1,8,.other,[.nilFunc]⟩),
 (291,⟨1,8,.other,[.nilFunc]⟩),
 (292,⟨1,8,.other,[.nilFunc]⟩),
 (293,⟨1,8,.other,[.nilFunc]⟩),
 (294,⟨2,16,.struct [(0,3),(1,3)],[.int .i64 0,.int .i64 0]⟩),
 (295,⟨2,16,.struct [(0,3),(1,3)],[.int .i64 0,.int .i64 0]⟩),
 (296,⟨1,8,.other,[.nilFunc]⟩),
 (297,⟨1,8,.other,[.nilFunc]⟩),
 (298,⟨5,40,.array 5 297,[.nilFunc,.nilFunc,.nilFunc,.nilFunc,.nilFunc]⟩),
 (299,⟨1,8,.other,[.nilFunc]⟩),
 (300,⟨1,8,.other,[.nilFunc]⟩),
 (301,⟨1,8,.other,[.nilFunc]⟩),
 (302,⟨1,8,.other,[.nilFunc]⟩),
 (303,⟨1,8,.other,[.nilFunc]⟩),
 (304,⟨1,8,.other,[.nilFunc]⟩),
 (305,⟨1,8,.int .i64,[.int .i64 0]⟩),
 (307,⟨1,8,.other,[.nilFunc]⟩),
 (308,⟨1,8,.other,[.nilFunc]⟩),
 (309,⟨1,8,.other,[.nilFunc]⟩),
 (310,⟨1,8,.other,[.nilFunc]⟩),
 (311,⟨1,8,.other,[.nilFunc]⟩),
 (312,⟨1,4,.int .u32,[.int .u32 0]⟩),
 (313,⟨1,8,.other,[.nilFunc]⟩),
 (314,⟨1,8,.int .u64,[.int .u64 0]⟩),
 (315,⟨1,8,.other,[.nilFunc]⟩),
 (317,⟨1,8,.other,[.nilFunc]⟩),
 (318,⟨1,8,.other,[.nilFunc]⟩),
 (319,⟨1,8,.other,[.nilFunc]⟩),
 (320,⟨256,256,.array 256 4,[.bool false,.bool false,.bool false,.bool false,.bool false,.bool false,.bool false,.bool false,.bool false,.bool false,.bool false,.bool false,.bool false,.bool false,.bool false,.bool false,.bool false,.bool false,.bool false,.bool false,.bool false,.bool false,.bool false,.bool false,.bool false,.bool false,.bool false,.bool false,.bool false,.bool false,.bool false,.bool false,.bool false,.bool false,.bool false,.bool false,.bool false,.bool false,.bool false,.bool false,.bool false,.bool false,.bool false,.bool false,.bool false,.bool false,.bool false,.bool false,.bool false,.bool false,.bool false,.bool false,.bool false,.bool false,.bool false,.bool false,.bool false,.bool false,.bool false,.bool false,.bool false,.bool false,.bool false,.bool false,.bool false,.bool false,.bool false,.bool false,.bool false,.bool false,.bool false,.bool false,.bool false,.bool false,.bool false,.bool false,.bool false,.bool false,.bool false,.bool false,.bool false,.bool false,.bool false,.bool false,.bool false,.bool false,.bool false,.bool false,.bool false,.bool false,.bool false,.bool false,.bool false,.bool false,.bool false,.bool false,.bool false,.bool false,.bool false,.bool false,.bool false,.bool false,.bool false,.bool false,.bool false,.bool false,.bool false,.bool false,.bool false,.bool false,.bool false,.bool false,.bool false,.bool false,.bool false,.bool false,.bool false,.bool false,.bool false,.bool false,.bool false,.bool false,.bool false,.bool false,.bool false,.bool false,.bool false,.bool false,.bool false,.bool false,.bool false,.bool false,.bool false,.bool false,.bool false,.bool false,.bool false,.bool false,.bool false,.bool false,.bool false,.bool false,.bool false,.bool false,.bool false,.bool false,.bool false,.bool false,.bool false,.bool false,.bool false,.bool false,.bool false,.bool false,.bool false,.bool false,.bool false,.bool false,.bool false,.bool false,.bool false,.bool false,.bool false,.bool false,.bool false,.bool false,.bool false,.bool false,.bool false,.bool false,.bool false,.bool false,.bool false,.bool false,.bool false,.bool false,.bool false,.bool false,.bool false,.bool false,.bool false,.bool false,.bool false,.bool false,.bool false,.bool false,.bool false,.bool false,.bool false,.bool false,.bool false,.bool false,.bool false,.bool false,.bool false,.bool false,.bool false,.bool false,.bool false,.bool false,.bool false,.bool false,.bool false,.bool false,.bool false,.bool false,.bool false,.bool false,.bool false,.bool false,.bool false,.bool false,.bool false,.bool false,.bool false,.bool false,.bool false,.bool false,.bool false,.bool false,.bool false,.bool false,.bool false,.bool false,.bool false,.bool false,.bool false,.bool false,.bool false,.bool false,.bool false,.bool false,.bool false,.bool false,.bool false,.bool false,.bool false,.bool false,.bool false,.bool false,.bool false,.bool false,.bool false,.bool false,.bool false,.bool false,.bool false,.bool false,.bool false,.bool false,.bool false,.bool false,.bool false,.bool false,.bool false,.bool false]⟩),
 (321,⟨256,256,.array 256 4,[.bool false,.bool false,.bool false,.bool false,.bool false,.bool false,.bool false,.bool false,.bool false,.bool false,.bool false,.bool false,.bool false,.bool false,.bool false,.bool false,.bool false,.bool false,.bool false,.bool false,.bool false,.bool false,.bool false,.bool false,.bool false,.bool false,.bool false,.bool false,.bool false,.bool false,.bool false,.bool false,.bool false,.bool false,.bool false,.bool false,.bool false,.bool false,.bool false,.bool false,.bool false,.bool false,.bool false,.bool false,.bool false,.bool false,.bool false,.bool false,.bool false,.bool false,.bool false,.bool false,.bool false,.bool false,.bool false,.bool false,.bool false,.bool false,.bool false,.bool false,.bool false,.bool false,.bool false,.bool false,.bool false,.bool false,.bool false,.bool false,.bool false,.bool false,.bool false,.bool false,.bool false,.bool false,.bool false,.bool false,.bool false,.bool false,.bool false,.bool false,.bool false,.bool false,.bool false,.bool false,.bool false,.bool false,.bool false,.bool false,.bool false,.bool false,.bool false,.bool false,.bool false,.bool false,.bool false,.bool false,.bool false,.bool false,.bool false,.bool false,.bool false,.bool false,.bool false,.bool false,.bool false,.bool false,.bool false,.bool false,.bool false,.bool false,.bool false,.bool false,.bool false,.bool false,.bool false,.bool false,.bool false,.bool false,.bool false,.bool false,.bool false,.bool false,.bool false,.bool false,.bool false,.bool false,.bool false,.bool false,.bool false,.bool false,.bool false,.bool false,.bool false,.bool false,.bool false,.bool false,.bool false,.bool false,.bool false,.bool false,.bool false,.bool false,.bool false,.bool false,.bool false,.bool false,.bool false,.bool false,.bool false,.bool false,.bool false,.bool false,.bool false,.bool false,.bool false,.bool false,.bool false,.bool false,.bool false,.bool false,.bool false,.bool false,.bool false,.bool false,.bool false,.bool false,.bool false,.bool false,.bool false,.bool false,.bool false,.bool false,.bool false,.bool false,.bool false,.bool false,.bool false,.bool false,.bool false,.bool false,.bool false,.bool false,.bool false,.bool false,.bool false,.bool false,.bool false,.bool false,.bool false,.bool false,.bool false,.bool false,.bool false,.bool false,.bool false,.bool false,.bool false,.bool false,.bool false,.bool false,.bool false,.bool false,.bool false,.bool false,.bool false,.bool false,.bool false,.bool false,.bool false,.bool false,.bool false,.bool false,.bool false,.bool false,.bool false,.bool false,.bool false,.bool false,.bool false,.bool false,.bool false,.bool false,.bool false,.bool false,.bool false,.bool false,.bool false,.bool false,.bool false,.bool false,.bool false,.bool false,.bool false,.bool false,.bool false,.bool false,.bool false,.bool false,.bool false,.bool false,.bool false,.bool false,.bool false,.bool false,.bool false,.bool false,.bool false,.bool false,.bool false,.bool false,.bool false,.bool false,.bool false,.bool false,.bool false,.bool false]⟩),
 (323,⟨1,8,.other,[.nilFunc]⟩),
 (324,⟨1,8,.ptr 326,[.nilptr]⟩),
 (325,⟨1,16,.struct [(0,9)],[.str []]⟩),
 (326,⟨1,16,.struct [(0,9)],[.str []]⟩),
 (327,⟨1,8,.other,[.nilFunc]⟩),
 (328,⟨1,8,.other,[.nilFunc]⟩),
 (329,⟨1,8,.other,[.nilFunc]⟩),
 (331,⟨1,8,.other,[.nilFunc]⟩),
 (333,⟨1,8,.other,[.nilFunc]⟩),
 (334,⟨1,8,.other,[.nilFunc]⟩),
 (335,⟨1,8,.other,[.nilFunc]⟩),
 (336,⟨1,8,.other,[.nilFunc]⟩),
 (338,⟨1,8,.other,[.nilFunc]⟩),
 (339,⟨1,8,.other,[.nilFunc]⟩),
 (340,⟨1,8,.other,[.nilFunc]⟩),
 (341,⟨1,8,.other,[.nilFunc]⟩),
 (343,⟨1,8,.other,[.nilFunc]⟩),
 (345,⟨1,8,.other,[.nilFunc]⟩),
 (346,⟨1,8,.int .u64,[.int .u64 0]⟩),
 (347,⟨1,8,.other,[.nilFunc]⟩),
 (348,⟨1,8,.other,[.nilFunc]⟩),
 (349,⟨1,8,.other,[.nilFunc]⟩),
 (350,⟨1,8,.ptr 3,[.nilptr]⟩),
 (351,⟨1,8,.other,[.nilFunc]⟩),
 (352,⟨1,8,.other,[.nilFunc]⟩),
 (353,⟨1,8,.ptr 321,[.nilptr]⟩),
 (354,⟨1,8,.other,[.nilFunc]⟩),
 (355,⟨1,8,.other,[.nilFunc]⟩),
 (356,⟨1,8,.other,[.nilFunc]⟩),
 (357,⟨1,8,.other,[.nilFunc]⟩),
 (358,⟨1,8,.other,[.nilFunc]⟩),
 (359,⟨1,8,.other,[.nilFunc]⟩),
 (360,⟨1,8,.other,[.nilFunc]⟩),
 (361,⟨1,8,.other,[.nilFunc]⟩),
 (362,⟨1,8,.other,[.nilFunc]⟩),
 (363,⟨1,24,.slice 161,[.sl 0 [] .full]⟩),
 (365,⟨1,8,.other,[.nilFunc]⟩),
 (366,⟨1,8,.other,[.nilFunc]⟩),
 (367,⟨1,8,.other,[.nilFunc]⟩),
 (368,⟨1,8,.other,[.nilFunc]⟩),
 (369,⟨1,8,.other,[.nilFunc]⟩),
 (370,⟨1,8,.ptr 346,[.nilptr]⟩),
 (372,⟨1,8,.other,[.nilFunc]⟩),
 (373,⟨256,256,.array 256 5,[.int .u8 0,.int .u8 0,.int .u8 0,.int .u8 0,.int .u8 0,.int .u8 0,.int .u8 0,.int .u8 0,.int .u8 0,.int .u8 0,.int .u8 0,.int .u8 0,.int .u8 0,.int .u8 0,.int .u8 0,.int .u8 0,.int .u8 0,.int .u8 0,.int .u8 0,.int .u8 0,.int .u8 0,.int .u8 0,.int .u8 0,.int .u8 0,.int .u8 0,.int .u8 0,.int .u8 0,.int .u8 0,.int .u8 0,.int .u8 0,.int .u8 0,.int .u8 0,.int .u8 0,.int .u8 0,.int .u8 0,.int .u8 0,.int .u8 0,.int .u8 0,.int .u8 0,.int .u8 0,.int .u8 0,.int .u8 0,.int .u8 0,.int .u8 0,.int .u8 0,.int .u8 0,.int .u8 0,.int .u8 0,.int .u8 0,.int .u8 0,.int .u8 0,.int .u8 0,.int .u8 0,.int .u8 0,.int .u8 0,.int .u8 0,.int .u8 0,.int .u8 0,.int .u8 0,.int .u8 0,.int .u8 0,.int .u8 0,.int .u8 0,.int .u8 0,.int .u8 0,.int .u8 0,.int .u8 0,.int .u8 0,.int .u8 0,.int .u8 0,.int .u8 0,.int .u8 0,.int .u8 0,.int .u8 0,.int .u8 0,.int .u8 0,.int .u8 0,.int .u8 0,.int .u8 0,.int .u8 0,.int .u8 0,.int .u8 0,.int .u8 0,.int .u8 0,.int .u8 0,.int .u8 0,.int .u8 0,.int .u8 0,.int .u8 0,.int .u8 0,.int .u8 0,.int .u8 0,.int .u8 0,.int .u8 0,.int .u8 0,.int .u8 0,.int .u8 0,.int .u8 0,.int .u8 0,.int .u8 0,.int .u8 0,.int .u8 0,.int .u8 0,.int .u8 0,.int .u8 0,.int .u8 0,.int .u8 0,.int .u8 0,.int .u8 0,.int .u8 0,.int .u8 0,.int .u8 0,.int .u8 0,.int .u8 0,.int .u8 0,.int .u8 0,.int .u8 0,.int .u8 0,.int .u8 0,.int .u8 0,.int .u8 0,.int .u8 0,.int .u8 0,.int .u8 0,.int .u8 0,.int .u8 0,.int .u8 0,.int .u8 0,.int .u8 0,.int .u8 0,.int .u8 0,.int .u8 0,.int .u8 0,.int .u8 0,.int .u8 0,.int .u8 0,.int .u8 0,.int .u8 0,.int .u8 0,.int .u8 0,.int .u8 0,.int .u8 0,.int .u8 0,.int .u8 0,.int .u8 0,.int .u8 0,.int .u8 0,.int .u8 0,.int .u8 0,.int .u8 0,.int .u8 0,.int .u8 0,.int .u8 0,.int .u8 0,.int .u8 0,.int .u8 0,.int .u8 0,.int .u8 0,.int .u8 0,.int .u8 0,.int .u8 0,.int .u8 0,.int .u8 0,.int .u8 0,.int .u8 0,.int .u8 0,.int .u8 0,.int .u8 0,.int .u8 0,.int .u8 0,.int .u8 0,.int .u8 0,.int .u8 0,.int .u8 0,.int .u8 0,.int .u8 0,.int .u8 0,.int .u8 0,.int .u8 0,.int .u8 0,.int .u8 0,.int .u8 0,.int .u8 0,.int .u8 0,.int .u8 0,.int .u8 0,.int .u8 0,.int .u8 0,.int .u8 0,.int .u8 0,.int .u8 0,.int .u8 0,.int .u8 0,.int .u8 0,.int .u8 0,.int .u8 0,.int .u8 0,.int .u8 0,.int .u8 0,.int .u8 0,.int .u8 0,.int .u8 0,.int .u8 0,.int .u8 0,.int .u8 0,.int .u8 0,.int .u8 0,.int .u8 0,.int .u8 0,.int .u8 0,.int .u8 0,.int .u8 0,.int .u8 0,.int .u8 0,.int .u8 0,.int .u8 0,.int .u8 0,.int .u8 0,.int .u8 0,.int .u8 0,.int .u8 0,.int .u8 0,.int .u8 0,.int .u8 0,.int .u8 0,.int .u8 0,.int .u8 0,.int .u8 0,.int .u8 0,.int .u8 0,.int .u8 0,.int .u8 0,.int .u8 0,.int .u8 0,.int .u8 0,.int .u8 0,.int .u8 0,.int .u8 0,.int .u8 0,.int .u8 0,.int .u8 0,.int .u8 0,.int .u8 0,.int .u8 0,.int .u8 0,.int .u8 0,.int .u8 0,.int .u8 0,.int .u8 0,.int .u8 0,.int .u8 0,.int .u8 0,.int .u8 0,.int .u8 0,.int .u8 0,.int .u8 0]⟩),
 (374,⟨2,2,.struct [(0,5),(1,5)],[.int .u8 0,.int .u8 0]⟩),
 (375,⟨2,2,.struct [(0,5),(1,5)],[.int .u8 0,.int .u8 0]⟩),
 (376,⟨32,32,.array 16 375,[.int .u8 0,.int .u8 0,.int .u8 0,.int .u8 0,.int .u8 0,.int .u8 0,.int .u8 0,.int .u8 0,.int .u8 0,.int .u8 0,.int .u8 0,.int .u8 0,.int .u8 0,.int .u8 0,.int .u8 0,.int .u8 0,.int .u8 0,.int .u8 0,.int .u8 0,.int .u8 0,.int .u8 0,.int .u8 0,.int .u8 0,.int .u8 0,.int .u8 0,.int .u8 0,.int .u8 0,.int .u8 0,.int .u8 0,.int .u8 0,.int .u8 0,.int .u8 0]⟩),
 (378,⟨1,8,.other,[.nilFunc]⟩),
 (379,⟨1,8,.other,[.nilFunc]⟩),
 (380,⟨1,8,.other,[.nilFunc]⟩),
 (381,⟨2,24,.struct [(0,9),(1,3)],[.str [],.int .i64 0]⟩),
 (382,⟨1,8,.int .i64,[.int .i64 0]⟩),
 (383,⟨1,8,.other,[.nilFunc]⟩),
 (384,⟨1,8,.other,[.nilFunc]⟩),
 (385,⟨1,8,.other,[.nilFunc]⟩),
 (386,⟨1,8,.other,[.nilFunc]⟩),
 (387,⟨1,8,.other,[.nilFunc]⟩),
 (388,⟨1,8,.other,[.nilFunc]⟩),
 (390,⟨1,8,.other,[.nilFunc]⟩),
 (391,⟨1,8,.other,[.nilFunc]⟩),
 (392,⟨1,8,.other,[.nilFunc]⟩),
 (393,⟨1,8,.other,[.nilFunc]⟩),
 (394,⟨1,8,.other,[.nilFunc]⟩),
 (395,⟨1,8,.other,[.nilFunc]⟩),
 (396,⟨1,8,.other,[.nilFunc]⟩),
 (397,⟨1,8,.other,[.nilFunc]⟩),
 (398,⟨1,8,.other,[.nilFunc]⟩),
 (399,⟨1,8,.other,[.nilFunc]⟩),
 (400,⟨1,8,.other,[.nilFunc]⟩),
 (401,⟨1,8,.other,[.nilFunc]⟩),
 (402,⟨4,40,.struct [(0,17),(1,17),(2,17),(3,9)],[.nilptr,.nilptr,.nilptr,.str []]⟩),
 (403,⟨4,40,.struct [(0,17),(1,17),(2,17),(3,9)],[.nilptr,.nilptr,.nilptr,.str []]⟩),
 (404,⟨0,0,.array 0 16,[]⟩),
 (405,⟨0,0,.struct [(0,404)],[]⟩),
 (406,⟨0,0,.struct [(0,404)],[]⟩),
 (407,⟨1,1,.int .u8,[.int .u8 0]⟩),
 (408,⟨1,1,.int .u8,[.int .u8 0]⟩),
 (409,⟨1,8,.other,[.nilFunc]⟩),
 (410,⟨1,4,.int .i32,[.int .i32 0]⟩),
 (411,⟨1,4,.int .i32,[.int .i32 0]⟩),
 (412,⟨11,48,.struct [(0,12),(1,12),(2,312),(3,407),(4,5),(5,5),(6,408),(7,409),(8,177),(9,410),(10,411)],[.int .u64 0,.int .u64 0,.int .u32 0,.int .u8 0,.int .u8 0,.int .u8 0,.int .u8 0,.nilFunc,.nilptr,.int .i32 0,.int .i32 0]⟩),
 (413,⟨11,48,.struct [(0,12),(1,12),(2,312),(3,407),(4,5),(5,5),(6,408),(7,409),(8,177),(9,410),(10,411)],[.int .u64 0,.int .u64 0,.int .u32 0,.int .u8 0,.int .u8 0,.int .u8 0,.int .u8 0,.nilFunc,.nilptr,.int .i32 0,.int .i32 0]⟩),
 (414,⟨1,8,.other,[.nilFunc]⟩),
 (415,⟨1,8,.other,[.nilFunc]⟩),
 (416,⟨1,8,.other,[.nilFunc]⟩),
 (417,⟨1,8,.other,[.nilFunc]⟩),
 (418,⟨1,24,.slice 76,[.sl 0 [] .full]⟩),
 (419,⟨1,8,.other,[.nilFunc]⟩),
 (420,⟨1,8,.other,[.nilFunc]⟩),
 (421,⟨1,8,.other,[.nilFunc]⟩),
 (422,⟨1,8,.other,[.nilFunc]⟩),
 (423,⟨1,8,.other,[.nilFunc]⟩),
 (424,⟨1,8,.other,[.nilFunc]⟩),
 (425,⟨1,8,.other,[.nilFunc]⟩),
 (427,⟨1,8,.other,[.nilFunc]⟩),
 (428,⟨1,8,.other,[.nilFunc]⟩),
 (429,⟨1,24,.slice 237,[.sl 0 [] .full]⟩),
 (430,⟨1,8,.other,[.nilFunc]⟩)]
def eqs:List Go.TypeId:=[42,107,154,161,163,211,295,326,381]
theorem aF:Go.Ab.TabOK Tryz.prog iR:=Go.Ab.tabOK_of (by kernel_rfl)
end Go.Proofs.YteliblifgdofgaaGreatDoor
namespace Go.Ab
open Go.RowKit
def a0w:AV→AV→Bool
 |.bool _,.bool _=>true
 |_,_=>false
def VE (τ:Tab) (t:TypeId):Bool:=match aJ τ t with|some i=>(match i.k with|.bool=>true|_=>false)|none=>false
theorem KL {P:Program} {τ:Tab} (hτ:TabOK P τ) {t:TypeId} (h:VE τ t=true):P.underlying t=some .bool:=by
 unfold VE at h
 split at h
 case h_2=>cases h
 rename_i i hi
 obtain⟨f,d,z,H⟩:=TI.spec hτ hi
 have hf:=H.fits
 split at h
 case h_2=>cases h
 rename_i hk
 rw[hk] at hf
 cases d<;>simp[TK.fits] at hf
 exact H.und
def IA (τ:Tab) (t:TypeId) (ix:AV):Option (Nat×TI):=
 match aJ τ t,ix with
 |some i,.int _ n=>(match i.k with|.array len e=>(match aJ τ e with|some ei=>if 0≤n∧n < len then some (n.toNat,ei) else none|none=>none)|_=>none)
 |_,_=>none
def ZH (τ:Tab) (ρ:Operand→AV) (op:Op):Option AV:=
 match op with
 |.move x=>some (ρ x)
 |.assign x=>some (ρ x)
 |.pick c a b=>X8 (ρ c) (ρ a) (ρ b)
 |.binOp b xt x y _=>if a0w (ρ x) (ρ y)=true then (if VE τ xt=true then ZY b (ρ x) (ρ y) else none) else ZY b (ρ x) (ρ y)
 |.unOp u _ x=>aun u (ρ x)
 |.convert s d x=>X5 τ s d (ρ x)
 |.makeInterface t x=>U3 τ t (ρ x)
 |.makeFunc g a b=>some (.fn g (a.toList.map ρ) (b.toList.map ρ))
 |.extract t i=>a89 (ρ t) i
 |.field t x j=>LT τ t j (ρ x)
 |.load t x=>WF τ t (ρ x)
 |.fieldAddr t x j=>KX τ t j (ρ x)
 |.call {callee:=.builtin .len,args:=⟨[x]⟩,argTypes:=⟨[t]⟩}=>ZG τ t (ρ x)
 |.call {callee:=.builtin .min,args:=⟨[x,y]⟩,argTypes:=_}=>amm false (ρ x) (ρ y)
 |.call {callee:=.builtin .max,args:=⟨[x,y]⟩,argTypes:=_}=>amm true (ρ x) (ρ y)
 |_=>none
theorem JX {P:Program} {τ:Tab} (hτ:TabOK P τ) {ρ:Operand→AV} {op:Op} {ty:TypeId} {x:AV} (h:ZH τ ρ op=some x):jF P op ty ρ x:=by
 unfold ZH at h
 split at h
 ·cases h;exact rW
 ·cases h;exact LE
 ·exact VH h
 ·split at h
  ·split at h
   ·rename_i hb;exact Q2 (fun _=>KL hτ hb) h
   ·cases h
  ·rename_i hb
   refine Q2 ?_ h
   rintro⟨p,q,e1,e2⟩
   rw[e1,e2] at hb
   exact absurd rfl hb
 ·exact a85 h
 ·exact XC hτ h
 ·exact VJ hτ h
 ·cases h;exact lZ
 ·exact ZX h
 ·exact QS hτ h
 ·exact YQ hτ h
 ·exact SF hτ h
 ·exact a3p hτ h
 ·exact a3s h
 ·exact a3n h
 ·cases h
def Z6 (τ:Tab) (ρ:Operand→AV) (M:aG) (op:Op):Option AV:=
 match op with
 |.load t x=>cX M τ t (ρ x)
 |.fieldAddr t x j=>EH M τ t j (ρ x)
 |.nilCheck x=>a8d M (ρ x)
 |_=>none
theorem I6 {P:Program} {τ:Tab} (hτ:TabOK P τ) {ρ:Operand→AV} {M:aG} {op:Op} {ty:TypeId} {x:AV} (h:Z6 τ ρ M op=some x):wR P op ty ρ M x:=by
 unfold Z6 at h
 split at h
 ·exact GH hτ h
 ·exact QP hτ h
 ·exact a3h h
 ·cases h
def BT (τ:Tab) (M:aG) (t:TypeId) (x y:AV):Option aG:=
 match x with
 |.ptr id off=>
  match M.get id,aJ τ t with
  |some (.cells l),some i=>if y.solid=true∧y.cells.length=i.size∧off+i.size≤l.length then some (M.set id (.cells (b9 l off y.cells))) else none
  |_,_=>none
 |_=>none
def H5 (τ:Tab) (ρ:Operand→AV) (M:aG) (op:Op):Option (AV×aG):=
 match op with
 |.box _ x=>if (ρ x).solid=true then some (.ptr M.next 0,M.push (.cells (ρ x).cells)) else none
 |.alloc t=>(match aJ τ t with|some i=>if (i.agg=true∨i.size=1)∧i.zv.solid=true then some (.ptr M.next 0,M.push (.cells i.zv.cells)) else none|none=>none)
 |.store t x y=>(match BT τ M t (ρ x) (ρ y) with|some M'=>some (.top,M')|none=>none)
 |_=>none
theorem w8 {P:Program} {τ:Tab} (hτ:TabOK P τ) {ρ:Operand→AV} {M M':aG} {op:Op} {ty:TypeId} {x:AV} (h:H5 τ ρ M op=some (x,M')):F9 P op ty ρ M x M':=by
 unfold H5 at h
 split at h
 ·split at h
  ·rename_i hs;cases h;exact a2t hs
  ·cases h
 ·split at h
  case h_2=>cases h
  rename_i i hi
  split at h
  ·rename_i hs;cases h;exact RO hτ hi hs.1 hs.2
  ·cases h
 ·split at h
  case h_2=>cases h
  rename_i M1 hM
  cases h
  unfold BT at hM
  split at hM
  case h_2=>cases hM
  rename_i id off e
  split at hM
  case h_2=>cases hM
  rename_i l i hl hi
  split at hM
  case isFalse=>cases hM
  rename_i hs
  cases hM
  exact uR hτ hi e hl hs.1 hs.2.1 hs.2.2
 ·cases h
def AV.force:AV→Option AV
 |.int k n=>some (.int k n)
 |.bool b=>some (.bool b)
 |.str s=>some (.str s)
 |.sl z xs t=>some (.sl z xs t)
 |.ptr i o=>some (.ptr i o)
 |.ref c=>some (.ref c)
 |.nilptr=>some .nilptr
 |.nilIface=>some .nilIface
 |.iface t v=>some (.iface t v)
 |.nilFunc=>some .nilFunc
 |.fn f a b=>some (.fn f a b)
 |.agg l=>some (.agg l)
 |.tup l=>some (.tup l)
 |.map i=>some (.map i)
 |.nilmap=>some .nilmap
 |.osl i o n c z=>some (.osl i o n c z)
 |.yld i=>some (.yld i)
 |.bsl i g n c=>some (.bsl i g n c)
 |.top=>some .top
theorem AV.force_spec {x y:AV} (h:x.force=some y):x=y:=by cases x<;>(simp only[AV.force,Option.some.injEq] at h;exact h)
def aG.force:aG→Option aG
 |⟨n,l⟩=>some ⟨n,l⟩
theorem aG.force_spec {x y:aG} (h:x.force=some y):x=y:=by cases x;simp only[aG.force,Option.some.injEq] at h;exact h
end Go.Ab
namespace Go.Ab
open Go.RowKit
inductive fQ where
 |P
 |R
 |E
 |Y
def VD:fQ→Bool
 |.P|.R=>true
 |_=>false
abbrev Fr:=Nat→AV
def K9 (φ:Fr):Operand→AV
 |.tmp t=>φ t
 |.const v=>T7 v
 |.global _=>.top
 |.func g=>.fn (.func g) [] []
def iS (φ:Fr) (dst:Option Tmp) (x:AV):Fr:=
 match dst with
 |some d=>fun t=>if t=d then x else φ t
 |none=>φ
def xB (ops:Array Oper) (φ:Fr) (o:Oper):Option Bool:=
 match o.guard with
 |none=>some true
 |some (j,b)=>
  match (ops[j]?).bind (·.dst) with
  |some d=>(match φ d with|.bool c=>some (c==b)|.tup []=>some false|_=>none)
  |none=>none
def jD (P:Program) (o:Oper) (ρ:Operand→AV) (M:aG) (K Kp:AV→aG→Prop):Prop:=
 ∀(μ:Mu) (F:c8) (w:World) (a:Act),dY μ F M w→(∀y∈o.op.operands,bP μ F w (ρ y) (a.eval y))→∀(next:Act→World→Prop) (Q':Exit→Act→World→Prop),
  (∀μ' M' w' v u,dQ w μ w' μ'→dY μ' F M' w'→bP μ' F w' u v→K u M'→next (a.put o.dst v) w')→
  (∀μ' M' w' v u,dQ w μ w' μ'→dY μ' F M' w'→bP μ' F w' u v→Kp u M'→Q' (.panic [{v,recovered:=false}]) a w')→o.wp P a w next Q'
theorem jD.mono {P:Program} {o:Oper} {ρ:Operand→AV} {M:aG} {K K' Kp:AV→aG→Prop} (h:jD P o ρ M K Kp) (hk:∀u M,K u M→K' u M):jD P o ρ M K' Kp:=
 fun μ F w a hg hr next Q' h1 h2=>h μ F w a hg hr next Q' (fun μ' M' w' v u e1 e2 e3 e4=>h1 μ' M' w' v u e1 e2 e3 (hk u M' e4)) h2
theorem jD.congr {P:Program} {o:Oper} {ρ ρ':Operand→AV} {M:aG} {K Kp:AV→aG→Prop} (h:jD P o ρ M K Kp) (he:∀y∈o.op.operands,ρ' y=ρ y):jD P o ρ' M K Kp:=
 fun μ F w a hg hr next Q' h1 h2=>h μ F w a hg (fun y hy=>he y hy ▸ hr y hy) next Q' h1 h2
theorem jD.of_E {P:Program} {o:Oper} {ρ:Operand→AV} {M M':aG} {x:AV} (h:F9 P o.op o.type ρ M x M') {K Kp:AV→aG→Prop} (hk:K x M'):jD P o ρ M K Kp:=by
 intro μ F w a hg hr next Q' h1 h2
 obtain⟨μ',nx,v,w',g1,g2,g3,g4,g5⟩:=h μ F w a.eval o hg rfl rfl hr
 unfold Oper.wp
 rw[g1]
 have:=h1 μ' M' w' v x g3 g4 g5 hk
 rcases g2 with rfl|⟨rfl,rfl⟩
 ·exact this
 ·exact this
def G5 (P:Program) (o:Oper) (ρ:Operand→AV) (M:aG) (K Kp:AV→aG→Prop):Prop:=
 ∀(r:Option Nat) (μ:Mu) (F:c8) (w:World) (a:Act),dY μ F M w→(∀y∈o.op.operands,bP μ F w (ρ y) (a.eval y))→∀(next:Act→World→Prop) (Q':Exit→Act→World→Prop),
  (∀μ' M' w' v u,dQ w μ w' μ'→dY μ' F M' w'→bP μ' F w' u v→K u M'→next (a.put o.dst v) w')→
  (∀μ' M' w' v u,dQ w μ w' μ'→dY μ' F M' w'→bP μ' F w' u v→Kp u M'→Q' (.panic [{v,recovered:=false}]) a w')→o.wpIn (xR r) 9 P a w next Q'
theorem G5.mono {P:Program} {o:Oper} {ρ:Operand→AV} {M:aG} {K K' Kp:AV→aG→Prop} (h:G5 P o ρ M K Kp) (hk:∀u M,K u M→K' u M):G5 P o ρ M K' Kp:=
 fun r μ F w a hg hr next Q' h1 h2=>h r μ F w a hg hr next Q' (fun μ' M' w' v u e1 e2 e3 e4=>h1 μ' M' w' v u e1 e2 e3 (hk u M' e4)) h2
theorem G5.congr {P:Program} {o:Oper} {ρ ρ':Operand→AV} {M:aG} {K Kp:AV→aG→Prop} (h:G5 P o ρ M K Kp) (he:∀y∈o.op.operands,ρ' y=ρ y):G5 P o ρ' M K Kp:=
 fun r μ F w a hg hr next Q' h1 h2=>h r μ F w a hg (fun y hy=>he y hy ▸ hr y hy) next Q' h1 h2
theorem jD.toI {P:Program} {o:Oper} {ρ:Operand→AV} {M:aG} {K Kp:AV→aG→Prop} (hnd:∀c,o.op≠.defer c) (h:jD P o ρ M K Kp):G5 P o ρ M K Kp:=
 fun r μ F w a hg hr next Q' h1 h2=>xS hnd (h μ F w a hg hr next Q' h1 h2)
theorem G5.of_E {P:Program} {o:Oper} {ρ:Operand→AV} {M M':aG} {x:AV} (h:F9 P o.op o.type ρ M x M') {K Kp:AV→aG→Prop} (hk:K x M'):G5 P o ρ M K Kp:=by
 intro r μ F w a hg hr next Q' h1 h2
 obtain⟨μ',nx,v,w',g1,g2,g3,g4,g5⟩:=h μ F w a.eval o hg rfl rfl hr
 exact HZ g1 g2 (h1 μ' M' w' v x g3 g4 g5 hk)
def SC (P:Program) (o:Oper) (c:fQ) (ρ:Operand→AV) (M:aG) (K Kp:AV→aG→Prop):Prop:=
 match c with
 |.P=>∃x,(∀N,jD P o ρ N (fun u M'=>u=x∧M'=N) fun _ _=>False)∧K x M
 |.R=>∃x,jD P o ρ M (fun u M'=>u=x∧M'=M) (fun _ _=>False)∧K x M
 |.E=>jD P o ρ M K Kp
 |.Y=>G5 P o ρ M K Kp
theorem SC.mono {P:Program} {o:Oper} {c:fQ} {ρ:Operand→AV} {M:aG} {K K' Kp:AV→aG→Prop} (h:SC P o c ρ M K Kp) (hk:∀u N,(VD c=true→N=M)→K u N→K' u N):SC P o c ρ M K' Kp:=by
 cases c with
 |P=>obtain⟨x,h1,h2⟩:=h;exact⟨x,h1,hk x M (fun _=>rfl) h2⟩
 |R=>obtain⟨x,h1,h2⟩:=h;exact⟨x,h1,hk x M (fun _=>rfl) h2⟩
 |E=>exact jD.mono h fun u N hu=>hk u N (fun hne=>by cases hne) hu
 |Y=>exact G5.mono h fun u N hu=>hk u N (fun hne=>by cases hne) hu
theorem SC.congr {P:Program} {o:Oper} {c:fQ} {ρ ρ':Operand→AV} {M:aG} {K Kp:AV→aG→Prop} (h:SC P o c ρ M K Kp) (he:∀y∈o.op.operands,ρ' y=ρ y):SC P o c ρ' M K Kp:=by
 cases c with
 |P=>obtain⟨x,h1,h2⟩:=h;exact⟨x,fun N=>(h1 N).congr he,h2⟩
 |R=>obtain⟨x,h1,h2⟩:=h;exact⟨x,h1.congr he,h2⟩
 |E=>exact jD.congr h he
 |Y=>exact G5.congr h he
theorem SC.toI {P:Program} {o:Oper} {c:fQ} {ρ:Operand→AV} {M:aG} {K Kp:AV→aG→Prop} (hnd:∀c,o.op≠.defer c) (h:SC P o c ρ M K Kp):G5 P o ρ M K Kp:=by
 have key:∀x,jD P o ρ M (fun u M'=>u=x∧M'=M) (fun _ _=>False)→K x M→G5 P o ρ M K Kp:=by
  intro x h1 h2 r μ F w a hg hr next Q' g1 g2
  refine h1.toI hnd r μ F w a hg hr next Q' (fun μ' M' w' v u e1 e2 e3 ⟨e4,e5⟩=>?_) (fun _ _ _ _ _ _ _ _ hf=>hf.elim)
  subst e4;subst e5
  exact g1 μ' _ w' v u e1 e2 e3 h2
 cases c with
 |P=>obtain⟨x,h1,h2⟩:=h;exact key x (h1 M) h2
 |R=>obtain⟨x,h1,h2⟩:=h;exact key x h1 h2
 |E=>exact jD.toI hnd h
 |Y=>exact h
section
variable {P:Program} {ops:Array Oper} {cls:Nat→fQ} {Kp:AV→aG→Prop} {Q:Fr→aG→Prop}
def P0 (P:Program) (ops:Array Oper) (cls:Nat→fQ) (Kp:AV→aG→Prop) (i:Nat) (K:Fr→aG→Prop) (φ:Fr) (M:aG):Prop:=
 match ops[i]? with
 |none=>K φ M
 |some o=>
  match xB ops φ o with
  |some true=>SC P o (cls i) (K9 φ) M (fun x M'=>K (iS φ o.dst x) M') Kp
  |some false=>K (iS φ o.dst (.tup [])) M
  |none=>False
def sY (P:Program) (ops:Array Oper) (cls:Nat→fQ) (Kp:AV→aG→Prop) (Q:Fr→aG→Prop):Nat→Array Bool→Fr→aG→Prop
 |0,listed,φ,M=>Region.ready .any ops listed=[]∧Q φ M
 |k+1,listed,φ,M=>(Region.ready .any ops listed=[]→Q φ M)∧∀i∈Region.ready .any ops listed,P0 P ops cls Kp i (sY P ops cls Kp Q k (listed.setIfInBounds i true)) φ M
structure s6 (μ:Mu) (F:c8) (w:World) (n:Nat) (φ:Fr) (ds:List bJ) (a:Act):Prop where
 size:a.tmps.size=n
 tmps:∀t,bP μ F w (φ t) (a.tmps.getD t undef)
 defs:fM μ F w ds a.defers
 kept:∀p,p∈dD ds→bP μ F w p.2 (a.tmps.getD p.1 undef)
theorem rN {μ:Mu} {F:c8} {w:World} {l:List (Nat×AV)} {ds:List bJ} {a:Act} (h:∀p,p∈l→bP μ F w p.2 (a.tmps.getD p.1 undef)):∀t,bP μ F w (AF.get ⟨l,ds⟩ t) (a.tmps.getD t undef):=by
 intro t
 unfold AF.get
 induction l with
 |nil=>exact .top _
 |cons p r ih=>
  obtain⟨k,x⟩:=p
  simp only[aJ]
  by_cases e:t=k
  ·subst e
   rw[if_pos rfl]
   exact h (t,x) (by simp)
  ·rw[if_neg e]
   exact ih fun q hq=>h q (by simp[hq])
theorem s6.evo {μ μ':Mu} {F:c8} {w w':World} (hev:dQ w μ w' μ') {n:Nat} {φ:Fr} {ds:List bJ} {a:Act} (h:s6 μ F w n φ ds a):s6 μ' F w' n φ ds a:=
 ⟨h.size,fun t=>(h.tmps t).evo hev,h.defs.evo hev,fun p hp=>(h.kept p hp).evo hev⟩
theorem s6.ev {μ:Mu} {F:c8} {w:World} {n:Nat} {φ:Fr} {ds:List bJ} {a:Act} (h:s6 μ F w n φ ds a) (x:Operand):bP μ F w (K9 φ x) (a.eval x):=by
 cases x with
 |tmp t=>exact h.tmps t
 |const v=>exact P4 _ _ _ _
 |global g=>exact .top _
 |func g=>exact .fn _ _ _ _ _ rfl rfl (by simp) (by simp)
theorem s6.put {μ:Mu} {F:c8} {w:World} {n:Nat} {φ:Fr} {ds:List bJ} {a:Act} (h:s6 μ F w n φ ds a) {dst:Option Tmp} (hd:∀d,dst=some d→d < n∧∀p,p∈dD ds→p.1≠d) {x:AV} {v:Value} (hr:bP μ F w x v):s6 μ F w n (iS φ dst x) ds (a.put dst v):=by
 cases dst with
 |none=>exact h
 |some d=>
  obtain⟨hlt,hk⟩:=hd d rfl
  refine⟨by simp[Act.put,h.size],?_,h.defs,fun p hp=>by
   have:=h.kept p hp
   simp only[Act.put]
   rw[Array.getD_eq_getD_getElem?,Array.getElem?_setIfInBounds_ne (Ne.symm (hk p hp)),←Array.getD_eq_getD_getElem?]
   exact this⟩
  intro t
  simp only[iS,Act.put]
  by_cases ht:t=d
  ·subst ht
   have:t < a.tmps.size:=by rw[h.size];exact hlt
   simp[Array.getElem?_setIfInBounds,this,hr]
  ·rw[if_neg ht]
   have:=h.tmps t
   rw[Array.getD_eq_getD_getElem?,Array.getElem?_setIfInBounds_ne (by omega),←Array.getD_eq_getD_getElem?]
   exact this
theorem I4 {μ:Mu} {F:c8} {w:World} {n:Nat} {φ:Fr} {ds:List bJ} {a:Act} (hr:s6 μ F w n φ ds a) {o:Oper} {b:Bool} (h:xB ops φ o=some b):Region.wanted o (yielded ops a.tmps)=b:=by
 unfold xB at h
 split at h
 ·rename_i hg
  cases h
  simp[Region.wanted,hg]
 ·rename_i j want hg
  split at h
  ·rename_i d hd
   split at h
   ·rename_i c hc
    cases h
    have hv:=hr.tmps d
    rw[hc] at hv
    generalize hu:a.tmps.getD d undef=u at hv
    cases hv
    have hlt:d < a.tmps.size:=by
     rcases Nat.lt_or_ge d a.tmps.size with h|h
     ·exact h
     ·simp[Array.getD,Nat.not_lt.2 h,undef] at hu
    have hget:a.tmps[d]? =some (.bool c):=by
     rw[Array.getElem?_eq_getElem hlt]
     simp[Array.getD,hlt] at hu
     rw[hu]
    simp only[Region.wanted,hg,yielded,hd,Option.bind_some,hget]
    cases c<;>cases want<;>rfl
   ·rename_i hc
    cases h
    have hv:=hr.tmps d
    rw[hc] at hv
    exact tC hg hd hv
   ·cases h
  ·cases h
theorem C0 {r:Option Nat} {n:Nat} {ds:List bJ} (hd:(ops.all fun o=>jB ds o n)=true) {F:c8} {Q':Exit→Act→World→Prop}:∀(k:Nat) (listed:Array Bool) (φ:Fr) (M:aG) (μ:Mu) (w:World) (a:Act),dY μ F M w→s6 μ F w n φ ds a→
  (∀μ' φ' M' w' a',dQ w μ w' μ'→dY μ' F M' w'→s6 μ' F w' n φ' ds a'→Q φ' M'→Q' .normal a' w')→
  (∀μ' φ' M' w' a' v u,dQ w μ w' μ'→dY μ' F M' w'→s6 μ' F w' n φ' ds a'→bP μ' F w' u v→Kp u M'→Q' (.panic [{v,recovered:=false}]) a' w')→
  sY P ops cls Kp Q k listed φ M→wpAnyIn (xR r) 9 P .any ops Q' k listed a w:=by
 intro k
 induction k with
 |zero=>intro listed φ M μ w a hg hr hQ hP h;exact⟨h.1,hQ μ φ M w a (dQ.refl _ _) hg hr h.2⟩
 |succ k ih=>
  intro listed φ M μ w a hg hr hQ hP h
  refine⟨fun h0=>hQ μ φ M w a (dQ.refl _ _) hg hr (h.1 h0),fun i hi=>?_⟩
  have hop:=h.2 i hi
  unfold P0 at hop
  unfold wpOpIn
  split
  ·rename_i ho
   simp only[ho] at hop
   exact ih _ φ M μ w a hg hr hQ hP hop
  ·rename_i o ho
   simp only[ho] at hop
   have hdo:=iQ ((Array.all_eq_true_iff_forall_mem.1 hd) o (Array.mem_of_getElem? ho))
   have hnd:=XD ((Array.all_eq_true_iff_forall_mem.1 hd) o (Array.mem_of_getElem? ho))
   split at hop
   ·rename_i hw
    rw[I4 hr hw,if_pos rfl]
    refine SC.toI hnd hop r μ F w a hg (fun y _=>hr.ev y) _ _ ?_ ?_
    ·intro μ' M' w' v u e1 e2 e3 e4
     refine ih _ _ M' μ' w' _ e2 ((hr.evo e1).put hdo e3) ?_ ?_ e4
     ·intro μ2 φ2 M2 w2 a2 f1 f2 f3 f4
      exact hQ μ2 φ2 M2 w2 a2 (e1.trans f1) f2 f3 f4
     ·intro μ2 φ2 M2 w2 a2 v2 u2 f1 f2 f3 f4 f5
      exact hP μ2 φ2 M2 w2 a2 v2 u2 (e1.trans f1) f2 f3 f4 f5
    ·intro μ' M' w' v u e1 e2 e3 e4
     exact hP μ' φ M' w' a v u e1 e2 (hr.evo e1) e3 e4
   ·rename_i hw
    rw[I4 hr hw,if_neg (by simp)]
    exact⟨fun _ _=>trivial,ih _ _ M μ w _ hg (hr.put hdo uW) hQ hP hop⟩
   ·exact hop.elim
theorem wV {φ:Fr} {o:Oper} {dst:Option Tmp} {x:AV} (h:∀d,dst=some d→d∉o.looksAt ops):∀y∈o.op.operands,K9 (iS φ dst x) y=K9 φ y:=by
 intro y hy
 cases dst with
 |none=>rfl
 |some d=>
  cases y with
  |tmp t=>
   simp only[K9,iS]
   rw[if_neg]
   rintro rfl
   refine h t rfl ?_
   unfold Oper.looksAt
   refine List.mem_append.2 (.inl (List.mem_filterMap.2 ⟨.tmp t,by simpa using hy,rfl⟩))
  |_=>rfl
theorem lO {φ:Fr} {o:Oper} {dst:Option Tmp} {x:AV} (h:∀d,dst=some d→d∉o.looksAt ops):xB ops (iS φ dst x) o=xB ops φ o:=by
 unfold xB
 cases hg:o.guard with
 |none=>rfl
 |some jb=>
  obtain⟨j,b⟩:=jb
  simp only
  cases hd:(ops[j]?).bind (·.dst) with
  |none=>rfl
  |some d=>
   simp only
   cases dst with
   |none=>rfl
   |some d'=>
    simp only[iS]
    rw[if_neg]
    rintro rfl
    refine h d rfl ?_
    unfold Oper.looksAt
    refine List.mem_append.2 (.inr ?_)
    simp only[hg,hd,Option.toList_some,List.mem_singleton]
theorem QH {φ:Fr} {x y:Option Tmp} (u v:AV) (h:∀d,x=some d→y≠some d):iS (iS φ x u) y v=iS (iS φ y v) x u:=by
 cases x with
 |none=>rfl
 |some d=>
  cases y with
  |none=>rfl
  |some e=>
   have hne:d≠e:=fun he=>h d rfl (he ▸ rfl)
   funext t
   simp only[iS]
   by_cases h1:t=d<;>by_cases h2:t=e<;>simp[h1,h2]
   ·subst h1;exact absurd h2 hne
   ·subst h1;intro h;exact absurd h hne
   ·subst h2;intro h;exact absurd h.symm hne
def MQ:fQ→fQ→Bool
 |.P,_=>true
 |.R,.E=>false
 |.R,.Y=>false
 |.R,_=>true
 |.E,_=>false
 |.Y,_=>false
theorem CV {i:Nat} {oi:Oper} (hi:ops[i]? =some oi) {R:Nat→Bool} (hR:∀j oj,j≠i→ops[j]? =some oj→(∀e∈oj.after,Region.binds .any e=true→R e.on=true)→R j=true):
  ∀(k:Nat) (listed:Array Bool) (φ:Fr) (M:aG),(∀j,listed.getD j false=true→R j=true)→i∈Region.ready .any ops listed→
   (∀j oj,ops[j]? =some oj→j≠i→R j=true→listed.getD j true=false→oi.apart ops oj=true∧MQ (cls i) (cls j)=true)→
   P0 P ops cls Kp i (sY P ops cls Kp Q k (listed.setIfInBounds i true)) φ M→sY P ops cls Kp Q (k+1) listed φ M:=by
 intro k
 induction k with
 |zero=>
  intro listed φ M hl hr hap H
  refine⟨fun h=>(by rw[h] at hr;cases hr),fun j hj=>?_⟩
  by_cases hji:j=i
  ·subst hji;exact H
  ·exfalso
   have hj':=ready_mono hj hji
   obtain⟨hjun,oj,hoj,hall⟩:=mem_ready.1 hj
   have hRj:R j=true:=hR j oj hji hoj fun e he hb=>hl _ (hall e he hb)
   obtain⟨ha,hc⟩:=hap j oj hoj hji hRj hjun
   unfold P0 at H
   simp only[hi] at H
   split at H
   ·cases hci:cls i with
    |P=>rw[hci] at H;obtain⟨x,_,h0,_⟩:=H;rw[h0] at hj';cases hj'
    |R=>rw[hci] at H;obtain⟨x,_,h0,_⟩:=H;rw[h0] at hj';cases hj'
    |E=>rw[hci] at hc;cases hc
    |Y=>rw[hci] at hc;cases hc
   ·rw[H.1] at hj';cases hj'
   ·exact H
 |succ k ih=>
  intro listed φ M hl hr hap H
  refine⟨fun h=>(by rw[h] at hr;cases hr),fun j hj=>?_⟩
  by_cases hji:j=i
  ·subst hji;exact H
  ·have hj':=ready_mono hj hji
   obtain⟨hjun,oj,hoj,hall⟩:=mem_ready.1 hj
   have hRj:R j=true:=hR j oj hji hoj fun e he hb=>hl _ (hall e he hb)
   obtain⟨ha,hc⟩:=hap j oj hoj hji hRj hjun
   obtain⟨a1,a2,a3⟩:=Oper.apart_spec ha
   have hl':∀m,(listed.setIfInBounds j true).getD m false=true→R m=true:=by
    intro m hm
    by_cases hmj:j=m
    ·subst hmj;exact hRj
    ·rw[getD_set_ne false hmj] at hm;exact hl m hm
   have hap':∀m om,ops[m]? =some om→m≠i→R m=true→(listed.setIfInBounds j true).getD m true=false→oi.apart ops om=true∧MQ (cls i) (cls m)=true:=by
    intro m om hm hmi hRm hun
    refine hap m om hm hmi hRm ?_
    by_cases hmj:j=m
    ·subst hmj;exact hjun
    ·rw[getD_set_ne true hmj] at hun;exact hun
   have hri:i∈Region.ready .any ops (listed.setIfInBounds j true):=ready_mono hr (Ne.symm hji)
   have hcomm:(listed.setIfInBounds j true).setIfInBounds i true=(listed.setIfInBounds i true).setIfInBounds j true:=Array.setIfInBounds_comm _ _ hji
   have hcm:=fun (u v:AV) (φ:Fr)=>QH (φ:=φ) u v a2
   unfold P0 at H
   simp only[hi] at H
   unfold P0
   simp only[hoj]
   split at H
   ·-- i is carried out
    rename_i hwi
    have later:∀(x u:AV) (N:aG),(∀ψ:Fr,(∀y∈oi.op.operands,K9 ψ y=K9 φ y)→SC P oi (cls i) (K9 ψ) N (fun x' M'=>x'=x∧M'=N) (fun _ _=>False)∧VD (cls i)=true)→
      sY P ops cls Kp Q k ((listed.setIfInBounds i true).setIfInBounds j true) (iS (iS φ oi.dst x) oj.dst u) N→sY P ops cls Kp Q (k+1) (listed.setIfInBounds j true) (iS φ oj.dst u) N:=by
     intro x u N hsc hany
     refine ih _ _ N hl' hri hap' ?_
     unfold P0
     simp only[hi]
     rw[lO (ops:=ops) a3,hwi]
     simp only
     obtain⟨h1,h2⟩:=hsc (iS φ oj.dst u) (wV (ops:=ops) a3)
     refine SC.congr (ρ:=K9 (iS φ oj.dst u)) ?_ fun _ _=>rfl
     cases hci:cls i with
     |P=>
      rw[hci] at h1
      obtain⟨x',g1,g2,_⟩:=h1
      subst g2
      refine⟨x',g1,?_⟩
      show sY P ops cls Kp Q k _ (iS (iS φ oj.dst u) oi.dst x') N
      rw[hcomm,←hcm]
      exact hany
     |R=>
      rw[hci] at h1
      obtain⟨x',g1,g2,_⟩:=h1
      subst g2
      refine⟨x',g1,?_⟩
      show sY P ops cls Kp Q k _ (iS (iS φ oj.dst u) oi.dst x') N
      rw[hcomm,←hcm]
      exact hany
     |E=>rw[hci] at h2;cases h2
     |Y=>rw[hci] at h2;cases h2
    cases hci:cls i with
    |E=>rw[hci] at hc;cases hc
    |Y=>rw[hci] at hc;cases hc
    |P=>
     rw[hci] at H
     obtain⟨x,g1,g2⟩:=H
     have hj2:=g2.2 j hj'
     unfold P0 at hj2
     simp only[hoj] at hj2
     rw[lO (ops:=ops) a1] at hj2
     have hsc:∀(N:aG) (ψ:Fr),(∀y∈oi.op.operands,K9 ψ y=K9 φ y)→SC P oi (cls i) (K9 ψ) N (fun x' M'=>x'=x∧M'=N) (fun _ _=>False)∧VD (cls i)=true:=by
      intro N ψ hψ
      rw[hci]
      exact⟨⟨x,fun N'=>(g1 N').congr hψ,rfl,rfl⟩,rfl⟩
     split at hj2
     ·rename_i hwj
      refine SC.mono (SC.congr hj2 fun y hy=>(wV (ops:=ops) a1 y hy).symm) fun u N _ hu=>later x u N (hsc N) hu
     ·exact later x (.tup []) M (hsc M) hj2
     ·exact hj2.elim
    |R=>
     rw[hci] at H hc
     obtain⟨x,g1,g2⟩:=H
     have hj2:=g2.2 j hj'
     unfold P0 at hj2
     simp only[hoj] at hj2
     rw[lO (ops:=ops) a1] at hj2
     have hsc:∀(ψ:Fr),(∀y∈oi.op.operands,K9 ψ y=K9 φ y)→SC P oi (cls i) (K9 ψ) M (fun x' M'=>x'=x∧M'=M) (fun _ _=>False)∧VD (cls i)=true:=by
      intro ψ hψ
      rw[hci]
      exact⟨⟨x,g1.congr hψ,rfl,rfl⟩,rfl⟩
     have hne:VD (cls j)=true:=by
      cases hcj:cls j with
      |P=>rfl
      |R=>rfl
      |E=>rw[hcj] at hc;cases hc
      |Y=>rw[hcj] at hc;cases hc
     split at hj2
     ·rename_i hwj
      refine SC.mono (SC.congr hj2 fun y hy=>(wV (ops:=ops) a1 y hy).symm) fun u N hN hu=>?_
      have:=hN hne
      subst this
      exact later x u _ hsc hu
     ·exact later x (.tup []) M hsc hj2
     ·exact hj2.elim
   ·-- it is passed over
    rename_i hwi
    have hj2:=H.2 j hj'
    unfold P0 at hj2
    simp only[hoj] at hj2
    rw[lO (ops:=ops) a1] at hj2
    have later:∀(u:AV) (N:aG),sY P ops cls Kp Q k ((listed.setIfInBounds i true).setIfInBounds j true) (iS (iS φ oi.dst (.tup [])) oj.dst u) N→sY P ops cls Kp Q (k+1) (listed.setIfInBounds j true) (iS φ oj.dst u) N:=by
     intro u N hany
     refine ih _ _ N hl' hri hap' ?_
     unfold P0
     simp only[hi]
     rw[lO (ops:=ops) a3,hwi]
     simp only
     rw[hcomm,←hcm]
     exact hany
    split at hj2
    ·refine SC.mono (SC.congr hj2 fun y hy=>(wV (ops:=ops) a1 y hy).symm) fun u N _ hu=>later u N hu
    ·exact later (.tup []) M hj2
    ·exact hj2.elim
   ·exact H.elim
end
end Go.Ab
