/- Calls of 'carafe/carafelaw7.KinFinds' that are worked out beforehand: literal entries, each with the blocks that it finds and leaves. No condition. -/
import Derived.Test.YtedgooajlaeclaaGXCaseX
namespace Go.Proofs.Ytedgooajlaeclaa.cKinFinds
open GX
/-- 1391 operations -/
def ent0 : Ent := { f := 6, args := [], ins := [], n := 0, r := .ptr 1 0, outs := [(0, some (.map [(.str [79, 98, 106, 101, 99, 116], .int .i64 0, 0), (.str [84, 104, 114, 111, 119, 97, 98, 108, 101], .int .i64 1, 1), (.str [65, 114, 105, 116, 104, 109, 101, 116, 105, 99], .int .i64 2, 2), (.str [78, 117, 108, 108, 80, 111, 105, 110, 116, 101, 114], .int .i64 3, 3), (.str [73, 110, 100, 101, 120], .int .i64 4, 4), (.str [78, 101, 103, 97, 116, 105, 118, 101, 83, 105, 122, 101], .int .i64 5, 5), (.str [67, 97, 115, 116], .int .i64 6, 6), (.str [83, 116, 111, 114, 101], .int .i64 7, 7), (.str [77, 111, 110, 105, 116, 111, 114], .int .i64 8, 8), (.str [77, 101, 109, 111, 114, 121], .int .i64 9, 9), (.str [83, 116, 97, 99, 107], .int .i64 10, 10), (.str [84, 104, 114, 101, 97, 100], .int .i64 11, 11), (.str [83, 121, 115, 116, 101, 109], .int .i64 12, 12)] 13)), (1, some (.cells 59 [.slice 111 0 13 (.op 5), .map 0] false)), (10, some (.cells 36 [.str [119, 97, 105, 116], .str [40, 41, 86], .bool false, .bool true, .int .i64 0, .int .i64 0, .nils, .nils, .nils, .str [110, 111, 116, 105, 102, 121], .str [40, 41, 86], .bool false, .bool true, .int .i64 0, .int .i64 0, .nils, .nils, .nils, .str [110, 111, 116, 105, 102, 121, 65, 108, 108], .str [40, 41, 86], .bool false, .bool true, .int .i64 0, .int .i64 0, .nils, .nils, .nils] true)), (82, some (.cells 36 [.str [114, 117, 110], .str [40, 41, 86], .bool false, .bool false, .int .i64 0, .int .i64 1, .slice 87 0 1 (.op 1), .nils, .nils, .str [115, 116, 97, 114, 116], .str [40, 41, 86], .bool false, .bool true, .int .i64 0, .int .i64 0, .nils, .nils, .nils, .str [106, 111, 105, 110], .str [40, 41, 86], .bool false, .bool true, .int .i64 0, .int .i64 0, .nils, .nils, .nils] true)), (87, some (.cells 5 [.int .u8 177] true)), (103, some (.cells 36 [.str [112, 114, 105, 110, 116], .str [40, 73, 41, 86], .bool true, .bool true, .int .i64 0, .int .i64 0, .nils, .nils, .nils, .str [115, 108, 101, 101, 112], .str [40, 73, 41, 86], .bool true, .bool true, .int .i64 0, .int .i64 0, .nils, .nils, .nils] true)), (111, some (.cells 29 [.str [79, 98, 106, 101, 99, 116], .str [], .nils, .nils, .slice 10 0 3 (.op 9), .str [84, 104, 114, 111, 119, 97, 98, 108, 101], .str [79, 98, 106, 101, 99, 116], .nils, .nils, .nils, .str [65, 114, 105, 116, 104, 109, 101, 116, 105, 99], .str [84, 104, 114, 111, 119, 97, 98, 108, 101], .nils, .nils, .nils, .str [78, 117, 108, 108, 80, 111, 105, 110, 116, 101, 114], .str [84, 104, 114, 111, 119, 97, 98, 108, 101], .nils, .nils, .nils, .str [73, 110, 100, 101, 120], .str [84, 104, 114, 111, 119, 97, 98, 108, 101], .nils, .nils, .nils, .str [78, 101, 103, 97, 116, 105, 118, 101, 83, 105, 122, 101], .str [84, 104, 114, 111, 119, 97, 98, 108, 101], .nils, .nils, .nils, .str [67, 97, 115, 116], .str [84, 104, 114, 111, 119, 97, 98, 108, 101], .nils, .nils, .nils, .str [83, 116, 111, 114, 101], .str [84, 104, 114, 111, 119, 97, 98, 108, 101], .nils, .nils, .nils, .str [77, 111, 110, 105, 116, 111, 114], .str [84, 104, 114, 111, 119, 97, 98, 108, 101], .nils, .nils, .nils, .str [77, 101, 109, 111, 114, 121], .str [84, 104, 114, 111, 119, 97, 98, 108, 101], .nils, .nils, .nils, .str [83, 116, 97, 99, 107], .str [84, 104, 114, 111, 119, 97, 98, 108, 101], .nils, .nils, .nils, .str [84, 104, 114, 101, 97, 100], .str [79, 98, 106, 101, 99, 116], .nils, .nils, .slice 82 0 3 (.op 9), .str [83, 121, 115, 116, 101, 109], .str [79, 98, 106, 101, 99, 116], .nils, .nils, .slice 103 0 2 (.op 9)] true))], n' := 112 }
/-- 2455 operations -/
def ent1 : Ent := { f := 11, args := [], ins := [], n := 175, r := .bool true, outs := [], n' := 319 }
/-- 2455 operations -/
def ent2 : Ent := { f := 11, args := [], ins := [], n := 209, r := .bool true, outs := [], n' := 353 }
/-- 2455 operations -/
def ent3 : Ent := { f := 11, args := [], ins := [], n := 236, r := .bool true, outs := [], n' := 380 }
/-- 2455 operations -/
def ent4 : Ent := { f := 11, args := [], ins := [], n := 208, r := .bool true, outs := [], n' := 352 }
/-- 2455 operations -/
def ent5 : Ent := { f := 11, args := [], ins := [], n := 243, r := .bool true, outs := [], n' := 387 }
/-- 2455 operations -/
def ent6 : Ent := { f := 11, args := [], ins := [], n := 270, r := .bool true, outs := [], n' := 414 }
/-- 2455 operations -/
def ent7 : Ent := { f := 11, args := [], ins := [], n := 242, r := .bool true, outs := [], n' := 386 }
/-- 2455 operations -/
def ent8 : Ent := { f := 11, args := [], ins := [], n := 269, r := .bool true, outs := [], n' := 413 }
/-- 2455 operations -/
def ent9 : Ent := { f := 11, args := [], ins := [], n := 241, r := .bool true, outs := [], n' := 385 }
/-- 2455 operations -/
def ent10 : Ent := { f := 11, args := [], ins := [], n := 277, r := .bool true, outs := [], n' := 421 }
/-- 2455 operations -/
def ent11 : Ent := { f := 11, args := [], ins := [], n := 304, r := .bool true, outs := [], n' := 448 }
/-- 2455 operations -/
def ent12 : Ent := { f := 11, args := [], ins := [], n := 276, r := .bool true, outs := [], n' := 420 }
/-- 2455 operations -/
def ent13 : Ent := { f := 11, args := [], ins := [], n := 303, r := .bool true, outs := [], n' := 447 }
/-- 2455 operations -/
def ent14 : Ent := { f := 11, args := [], ins := [], n := 275, r := .bool true, outs := [], n' := 419 }
/-- 2455 operations -/
def ent15 : Ent := { f := 11, args := [], ins := [], n := 302, r := .bool true, outs := [], n' := 446 }
/-- 2455 operations -/
def ent16 : Ent := { f := 11, args := [], ins := [], n := 274, r := .bool true, outs := [], n' := 418 }
/-- 2455 operations -/
def ent17 : Ent := { f := 11, args := [], ins := [], n := 311, r := .bool true, outs := [], n' := 455 }
/-- 2455 operations -/
def ent18 : Ent := { f := 11, args := [], ins := [], n := 338, r := .bool true, outs := [], n' := 482 }
/-- 2455 operations -/
def ent19 : Ent := { f := 11, args := [], ins := [], n := 310, r := .bool true, outs := [], n' := 454 }
/-- 2455 operations -/
def ent20 : Ent := { f := 11, args := [], ins := [], n := 337, r := .bool true, outs := [], n' := 481 }
/-- 2455 operations -/
def ent21 : Ent := { f := 11, args := [], ins := [], n := 309, r := .bool true, outs := [], n' := 453 }
/-- 2455 operations -/
def ent22 : Ent := { f := 11, args := [], ins := [], n := 336, r := .bool true, outs := [], n' := 480 }
/-- 2455 operations -/
def ent23 : Ent := { f := 11, args := [], ins := [], n := 308, r := .bool true, outs := [], n' := 452 }
/-- 2455 operations -/
def ent24 : Ent := { f := 11, args := [], ins := [], n := 335, r := .bool true, outs := [], n' := 479 }
/-- 2455 operations -/
def ent25 : Ent := { f := 11, args := [], ins := [], n := 307, r := .bool true, outs := [], n' := 451 }
/-- 2455 operations -/
def ent26 : Ent := { f := 11, args := [], ins := [], n := 345, r := .bool true, outs := [], n' := 489 }
/-- 2455 operations -/
def ent27 : Ent := { f := 11, args := [], ins := [], n := 372, r := .bool true, outs := [], n' := 516 }
/-- 2455 operations -/
def ent28 : Ent := { f := 11, args := [], ins := [], n := 344, r := .bool true, outs := [], n' := 488 }
/-- 2455 operations -/
def ent29 : Ent := { f := 11, args := [], ins := [], n := 371, r := .bool true, outs := [], n' := 515 }
/-- 2455 operations -/
def ent30 : Ent := { f := 11, args := [], ins := [], n := 343, r := .bool true, outs := [], n' := 487 }
/-- 2455 operations -/
def ent31 : Ent := { f := 11, args := [], ins := [], n := 370, r := .bool true, outs := [], n' := 514 }
/-- 2455 operations -/
def ent32 : Ent := { f := 11, args := [], ins := [], n := 342, r := .bool true, outs := [], n' := 486 }
/-- 2455 operations -/
def ent33 : Ent := { f := 11, args := [], ins := [], n := 369, r := .bool true, outs := [], n' := 513 }
/-- 2455 operations -/
def ent34 : Ent := { f := 11, args := [], ins := [], n := 341, r := .bool true, outs := [], n' := 485 }
/-- 2455 operations -/
def ent35 : Ent := { f := 11, args := [], ins := [], n := 368, r := .bool true, outs := [], n' := 512 }
/-- 2455 operations -/
def ent36 : Ent := { f := 11, args := [], ins := [], n := 340, r := .bool true, outs := [], n' := 484 }
/-- 2455 operations -/
def ent37 : Ent := { f := 11, args := [], ins := [], n := 379, r := .bool true, outs := [], n' := 523 }
/-- 2455 operations -/
def ent38 : Ent := { f := 11, args := [], ins := [], n := 406, r := .bool true, outs := [], n' := 550 }
/-- 2455 operations -/
def ent39 : Ent := { f := 11, args := [], ins := [], n := 378, r := .bool true, outs := [], n' := 522 }
/-- 2455 operations -/
def ent40 : Ent := { f := 11, args := [], ins := [], n := 405, r := .bool true, outs := [], n' := 549 }
/-- 2455 operations -/
def ent41 : Ent := { f := 11, args := [], ins := [], n := 377, r := .bool true, outs := [], n' := 521 }
/-- 2455 operations -/
def ent42 : Ent := { f := 11, args := [], ins := [], n := 404, r := .bool true, outs := [], n' := 548 }
/-- 2455 operations -/
def ent43 : Ent := { f := 11, args := [], ins := [], n := 376, r := .bool true, outs := [], n' := 520 }
/-- 2455 operations -/
def ent44 : Ent := { f := 11, args := [], ins := [], n := 403, r := .bool true, outs := [], n' := 547 }
/-- 2455 operations -/
def ent45 : Ent := { f := 11, args := [], ins := [], n := 375, r := .bool true, outs := [], n' := 519 }
/-- 2455 operations -/
def ent46 : Ent := { f := 11, args := [], ins := [], n := 402, r := .bool true, outs := [], n' := 546 }
/-- 2455 operations -/
def ent47 : Ent := { f := 11, args := [], ins := [], n := 374, r := .bool true, outs := [], n' := 518 }
/-- 2455 operations -/
def ent48 : Ent := { f := 11, args := [], ins := [], n := 401, r := .bool true, outs := [], n' := 545 }
/-- 2455 operations -/
def ent49 : Ent := { f := 11, args := [], ins := [], n := 373, r := .bool true, outs := [], n' := 517 }
/-- 2455 operations -/
def ent50 : Ent := { f := 11, args := [], ins := [], n := 413, r := .bool true, outs := [], n' := 557 }
/-- 2455 operations -/
def ent51 : Ent := { f := 11, args := [], ins := [], n := 440, r := .bool true, outs := [], n' := 584 }
/-- 2455 operations -/
def ent52 : Ent := { f := 11, args := [], ins := [], n := 412, r := .bool true, outs := [], n' := 556 }
/-- 2455 operations -/
def ent53 : Ent := { f := 11, args := [], ins := [], n := 439, r := .bool true, outs := [], n' := 583 }
/-- 2455 operations -/
def ent54 : Ent := { f := 11, args := [], ins := [], n := 411, r := .bool true, outs := [], n' := 555 }
/-- 2455 operations -/
def ent55 : Ent := { f := 11, args := [], ins := [], n := 438, r := .bool true, outs := [], n' := 582 }
/-- 2455 operations -/
def ent56 : Ent := { f := 11, args := [], ins := [], n := 410, r := .bool true, outs := [], n' := 554 }
/-- 2455 operations -/
def ent57 : Ent := { f := 11, args := [], ins := [], n := 437, r := .bool true, outs := [], n' := 581 }
/-- 2455 operations -/
def ent58 : Ent := { f := 11, args := [], ins := [], n := 409, r := .bool true, outs := [], n' := 553 }
/-- 2455 operations -/
def ent59 : Ent := { f := 11, args := [], ins := [], n := 436, r := .bool true, outs := [], n' := 580 }
/-- 2455 operations -/
def ent60 : Ent := { f := 11, args := [], ins := [], n := 408, r := .bool true, outs := [], n' := 552 }
/-- 2455 operations -/
def ent61 : Ent := { f := 11, args := [], ins := [], n := 435, r := .bool true, outs := [], n' := 579 }
/-- 2455 operations -/
def ent62 : Ent := { f := 11, args := [], ins := [], n := 407, r := .bool true, outs := [], n' := 551 }
/-- 2455 operations -/
def ent63 : Ent := { f := 11, args := [], ins := [], n := 434, r := .bool true, outs := [], n' := 578 }
/-- 2455 operations -/
def ent64 : Ent := { f := 11, args := [], ins := [], n := 447, r := .bool true, outs := [], n' := 591 }
/-- 2455 operations -/
def ent65 : Ent := { f := 11, args := [], ins := [], n := 474, r := .bool true, outs := [], n' := 618 }
/-- 2455 operations -/
def ent66 : Ent := { f := 11, args := [], ins := [], n := 446, r := .bool true, outs := [], n' := 590 }
/-- 2455 operations -/
def ent67 : Ent := { f := 11, args := [], ins := [], n := 473, r := .bool true, outs := [], n' := 617 }
/-- 2455 operations -/
def ent68 : Ent := { f := 11, args := [], ins := [], n := 445, r := .bool true, outs := [], n' := 589 }
/-- 2455 operations -/
def ent69 : Ent := { f := 11, args := [], ins := [], n := 472, r := .bool true, outs := [], n' := 616 }
/-- 2455 operations -/
def ent70 : Ent := { f := 11, args := [], ins := [], n := 444, r := .bool true, outs := [], n' := 588 }
/-- 2455 operations -/
def ent71 : Ent := { f := 11, args := [], ins := [], n := 471, r := .bool true, outs := [], n' := 615 }
/-- 2455 operations -/
def ent72 : Ent := { f := 11, args := [], ins := [], n := 443, r := .bool true, outs := [], n' := 587 }
/-- 2455 operations -/
def ent73 : Ent := { f := 11, args := [], ins := [], n := 470, r := .bool true, outs := [], n' := 614 }
/-- 2455 operations -/
def ent74 : Ent := { f := 11, args := [], ins := [], n := 442, r := .bool true, outs := [], n' := 586 }
/-- 2455 operations -/
def ent75 : Ent := { f := 11, args := [], ins := [], n := 469, r := .bool true, outs := [], n' := 613 }
/-- 2455 operations -/
def ent76 : Ent := { f := 11, args := [], ins := [], n := 441, r := .bool true, outs := [], n' := 585 }
/-- 2455 operations -/
def ent77 : Ent := { f := 11, args := [], ins := [], n := 468, r := .bool true, outs := [], n' := 612 }
/-- 2455 operations -/
def ent78 : Ent := { f := 11, args := [], ins := [], n := 467, r := .bool true, outs := [], n' := 611 }
def es0 : List Ent := []
def es1 : List Ent := ent0 :: es0
def es2 : List Ent := ent1 :: es1
def es3 : List Ent := ent2 :: es2
def es4 : List Ent := ent3 :: es3
def es5 : List Ent := ent4 :: es4
def es6 : List Ent := ent5 :: es5
def es7 : List Ent := ent6 :: es6
def es8 : List Ent := ent7 :: es7
def es9 : List Ent := ent8 :: es8
def es10 : List Ent := ent9 :: es9
def es11 : List Ent := ent10 :: es10
def es12 : List Ent := ent11 :: es11
def es13 : List Ent := ent12 :: es12
def es14 : List Ent := ent13 :: es13
def es15 : List Ent := ent14 :: es14
def es16 : List Ent := ent15 :: es15
def es17 : List Ent := ent16 :: es16
def es18 : List Ent := ent17 :: es17
def es19 : List Ent := ent18 :: es18
def es20 : List Ent := ent19 :: es19
def es21 : List Ent := ent20 :: es20
def es22 : List Ent := ent21 :: es21
def es23 : List Ent := ent22 :: es22
def es24 : List Ent := ent23 :: es23
def es25 : List Ent := ent24 :: es24
def es26 : List Ent := ent25 :: es25
def es27 : List Ent := ent26 :: es26
def es28 : List Ent := ent27 :: es27
def es29 : List Ent := ent28 :: es28
def es30 : List Ent := ent29 :: es29
def es31 : List Ent := ent30 :: es30
def es32 : List Ent := ent31 :: es31
def es33 : List Ent := ent32 :: es32
def es34 : List Ent := ent33 :: es33
def es35 : List Ent := ent34 :: es34
def es36 : List Ent := ent35 :: es35
def es37 : List Ent := ent36 :: es36
def es38 : List Ent := ent37 :: es37
def es39 : List Ent := ent38 :: es38
def es40 : List Ent := ent39 :: es39
def es41 : List Ent := ent40 :: es40
def es42 : List Ent := ent41 :: es41
def es43 : List Ent := ent42 :: es42
def es44 : List Ent := ent43 :: es43
def es45 : List Ent := ent44 :: es44
def es46 : List Ent := ent45 :: es45
def es47 : List Ent := ent46 :: es46
def es48 : List Ent := ent47 :: es47
def es49 : List Ent := ent48 :: es48
def es50 : List Ent := ent49 :: es49
def es51 : List Ent := ent50 :: es50
def es52 : List Ent := ent51 :: es51
def es53 : List Ent := ent52 :: es52
def es54 : List Ent := ent53 :: es53
def es55 : List Ent := ent54 :: es54
def es56 : List Ent := ent55 :: es55
def es57 : List Ent := ent56 :: es56
def es58 : List Ent := ent57 :: es57
def es59 : List Ent := ent58 :: es58
def es60 : List Ent := ent59 :: es59
def es61 : List Ent := ent60 :: es60
def es62 : List Ent := ent61 :: es61
def es63 : List Ent := ent62 :: es62
def es64 : List Ent := ent63 :: es63
def es65 : List Ent := ent64 :: es64
def es66 : List Ent := ent65 :: es65
def es67 : List Ent := ent66 :: es66
def es68 : List Ent := ent67 :: es67
def es69 : List Ent := ent68 :: es68
def es70 : List Ent := ent69 :: es69
def es71 : List Ent := ent70 :: es70
def es72 : List Ent := ent71 :: es71
def es73 : List Ent := ent72 :: es72
def es74 : List Ent := ent73 :: es73
def es75 : List Ent := ent74 :: es74
def es76 : List Ent := ent75 :: es75
def es77 : List Ent := ent76 :: es76
def es78 : List Ent := ent77 :: es77
def es79 : List Ent := ent78 :: es78
end Go.Proofs.Ytedgooajlaeclaa.cKinFinds
