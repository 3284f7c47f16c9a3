/- Closed facts on the types of the program. Made by a program (gen_types.py). -/
import Derived.Test.YthgicbkdckpeaaaDoorProg
import Derived.Test.YthgicbkdckpeaaaDoorG10
set_option linter.unusedSimpArgs false
set_option linter.unusedVariables false
namespace Go.Ab.Ty
open Go Go.Ab Go.Proofs
theorem follows:Tryd.prog.follows .mixedOrders = true:=by kernel_rfl
@[go_sem] theorem agg0:aggTy Tryd.prog 0 = some false:=by kernel_rfl
@[go_sem] theorem sz0:szTy Tryd.prog 0 = some 1:=by kernel_rfl
@[go_sem] theorem agg1:aggTy Tryd.prog 1 = some false:=by kernel_rfl
@[go_sem] theorem sz1:szTy Tryd.prog 1 = some 1:=by kernel_rfl
@[go_sem] theorem zero1:zeroA Tryd.prog 1 = some (.base .nilFunc):=by kernel_rfl
@[go_sem] theorem el1:elI Tryd.prog 1 1 8 = true:=by kernel_rfl
@[go_sem] theorem agg2:aggTy Tryd.prog 2 = some false:=by kernel_rfl
@[go_sem] theorem sz2:szTy Tryd.prog 2 = some 1:=by kernel_rfl
@[go_sem] theorem zero2:zeroA Tryd.prog 2 = some (.base (.int .i64 (0))):=by kernel_rfl
@[go_sem] theorem el2:elI Tryd.prog 2 1 8 = true:=by kernel_rfl
@[go_sem] theorem agg3:aggTy Tryd.prog 3 = some false:=by kernel_rfl
@[go_sem] theorem sz3:szTy Tryd.prog 3 = some 1:=by kernel_rfl
@[go_sem] theorem zero3:zeroA Tryd.prog 3 = some (.base (.int .i64 (0))):=by kernel_rfl
@[go_sem] theorem el3:elI Tryd.prog 3 1 8 = true:=by kernel_rfl
@[go_sem] theorem agg4:aggTy Tryd.prog 4 = some false:=by kernel_rfl
@[go_sem] theorem sz4:szTy Tryd.prog 4 = some 1:=by kernel_rfl
@[go_sem] theorem zero4:zeroA Tryd.prog 4 = some (.base (.bool false)):=by kernel_rfl
@[go_sem] theorem el4:elI Tryd.prog 4 1 1 = true:=by kernel_rfl
@[go_sem] theorem agg5:aggTy Tryd.prog 5 = some false:=by kernel_rfl
@[go_sem] theorem sz5:szTy Tryd.prog 5 = some 1:=by kernel_rfl
@[go_sem] theorem zero5:zeroA Tryd.prog 5 = some (.base (.int .u8 (0))):=by kernel_rfl
@[go_sem] theorem el5:elI Tryd.prog 5 1 1 = true:=by kernel_rfl
@[go_sem] theorem agg6:aggTy Tryd.prog 6 = some false:=by kernel_rfl
@[go_sem] theorem sz6:szTy Tryd.prog 6 = some 1:=by kernel_rfl
@[go_sem] theorem zero6:zeroA Tryd.prog 6 = some (.base (.int .u8 (0))):=by kernel_rfl
@[go_sem] theorem el6:elI Tryd.prog 6 1 1 = true:=by kernel_rfl
@[go_sem] theorem agg7:aggTy Tryd.prog 7 = some true:=by kernel_rfl
@[go_sem] theorem sz7:szTy Tryd.prog 7 = some 4:=by kernel_rfl
@[go_sem] theorem zero7:zeroA Tryd.prog 7 = some (.agg [.base (.int .i64 (0)),.base (.int .i64 (0)),.base (.bool false),.base (.int .u8 (0))]):=by kernel_rfl
@[go_sem] theorem el7:elI Tryd.prog 7 4 24 = true:=by kernel_rfl
@[go_sem] theorem pl7:placesOf Tryd.prog 7 = some [(0,1),(1,1),(2,1),(3,1)]:=by kernel_rfl
@[go_sem] theorem off7_0:fieldOff Tryd.prog 7 0 = some 0:=by kernel_rfl
@[go_sem] theorem off7_1:fieldOff Tryd.prog 7 1 = some 1:=by kernel_rfl
@[go_sem] theorem off7_2:fieldOff Tryd.prog 7 2 = some 2:=by kernel_rfl
@[go_sem] theorem off7_3:fieldOff Tryd.prog 7 3 = some 3:=by kernel_rfl
@[go_sem] theorem agg8:aggTy Tryd.prog 8 = some true:=by kernel_rfl
@[go_sem] theorem sz8:szTy Tryd.prog 8 = some 4:=by kernel_rfl
@[go_sem] theorem zero8:zeroA Tryd.prog 8 = some (.agg [.base (.int .i64 (0)),.base (.int .i64 (0)),.base (.bool false),.base (.int .u8 (0))]):=by kernel_rfl
@[go_sem] theorem el8:elI Tryd.prog 8 4 24 = true:=by kernel_rfl
@[go_sem] theorem pl8:placesOf Tryd.prog 8 = some [(0,1),(1,1),(2,1),(3,1)]:=by kernel_rfl
@[go_sem] theorem off8_0:fieldOff Tryd.prog 8 0 = some 0:=by kernel_rfl
@[go_sem] theorem off8_1:fieldOff Tryd.prog 8 1 = some 1:=by kernel_rfl
@[go_sem] theorem off8_2:fieldOff Tryd.prog 8 2 = some 2:=by kernel_rfl
@[go_sem] theorem off8_3:fieldOff Tryd.prog 8 3 = some 3:=by kernel_rfl
@[go_sem] theorem agg9:aggTy Tryd.prog 9 = some false:=by kernel_rfl
@[go_sem] theorem sz9:szTy Tryd.prog 9 = some 1:=by kernel_rfl
@[go_sem] theorem zero9:zeroA Tryd.prog 9 = some (.base (.string ByteArray.empty)):=by kernel_rfl
@[go_sem] theorem el9:elI Tryd.prog 9 1 16 = true:=by kernel_rfl
@[go_sem] theorem agg10:aggTy Tryd.prog 10 = some false:=by kernel_rfl
@[go_sem] theorem sz10:szTy Tryd.prog 10 = some 1:=by kernel_rfl
@[go_sem] theorem zero10:zeroA Tryd.prog 10 = some (.base (.string ByteArray.empty)):=by kernel_rfl
@[go_sem] theorem el10:elI Tryd.prog 10 1 16 = true:=by kernel_rfl
@[go_sem] theorem agg11:aggTy Tryd.prog 11 = some false:=by kernel_rfl
@[go_sem] theorem sz11:szTy Tryd.prog 11 = some 1:=by kernel_rfl
@[go_sem] theorem zero11:zeroA Tryd.prog 11 = some (.base (.string ByteArray.empty)):=by kernel_rfl
@[go_sem] theorem el11:elI Tryd.prog 11 1 16 = true:=by kernel_rfl
@[go_sem] theorem agg12:aggTy Tryd.prog 12 = some false:=by kernel_rfl
@[go_sem] theorem sz12:szTy Tryd.prog 12 = some 1:=by kernel_rfl
@[go_sem] theorem zero12:zeroA Tryd.prog 12 = some (.base (.int .u64 (0))):=by kernel_rfl
@[go_sem] theorem el12:elI Tryd.prog 12 1 8 = true:=by kernel_rfl
@[go_sem] theorem agg16:aggTy Tryd.prog 16 = some false:=by kernel_rfl
@[go_sem] theorem sz16:szTy Tryd.prog 16 = some 1:=by kernel_rfl
@[go_sem] theorem zero16:zeroA Tryd.prog 16 = some (.base (.pointer none)):=by kernel_rfl
@[go_sem] theorem el16:elI Tryd.prog 16 1 8 = true:=by kernel_rfl
@[go_sem] theorem agg17:aggTy Tryd.prog 17 = some false:=by kernel_rfl
@[go_sem] theorem sz17:szTy Tryd.prog 17 = some 1:=by kernel_rfl
@[go_sem] theorem zero17:zeroA Tryd.prog 17 = some (.base (.pointer none)):=by kernel_rfl
@[go_sem] theorem el17:elI Tryd.prog 17 1 8 = true:=by kernel_rfl
@[go_sem] theorem agg20:aggTy Tryd.prog 20 = some false:=by kernel_rfl
@[go_sem] theorem sz20:szTy Tryd.prog 20 = some 1:=by kernel_rfl
@[go_sem] theorem zero20:zeroA Tryd.prog 20 = some (.base .nilIface):=by kernel_rfl
@[go_sem] theorem el20:elI Tryd.prog 20 1 16 = true:=by kernel_rfl
@[go_sem] theorem agg21:aggTy Tryd.prog 21 = some false:=by kernel_rfl
@[go_sem] theorem sz21:szTy Tryd.prog 21 = some 1:=by kernel_rfl
@[go_sem] theorem zero21:zeroA Tryd.prog 21 = some (.base (.int .i32 (0))):=by kernel_rfl
@[go_sem] theorem el21:elI Tryd.prog 21 1 4 = true:=by kernel_rfl
@[go_sem] theorem agg22:aggTy Tryd.prog 22 = some false:=by kernel_rfl
@[go_sem] theorem sz22:szTy Tryd.prog 22 = some 1:=by kernel_rfl
@[go_sem] theorem zero22:zeroA Tryd.prog 22 = some (.base (.slice none 0 0)):=by kernel_rfl
@[go_sem] theorem el22:elI Tryd.prog 22 1 24 = true:=by kernel_rfl
@[go_sem] theorem agg23:aggTy Tryd.prog 23 = some true:=by kernel_rfl
@[go_sem] theorem sz23:szTy Tryd.prog 23 = some 3:=by kernel_rfl
@[go_sem] theorem zero23:zeroA Tryd.prog 23 = some (.agg [.base (.slice none 0 0),.base (.slice none 0 0),.base (.int .i64 (0))]):=by kernel_rfl
@[go_sem] theorem el23:elI Tryd.prog 23 3 56 = true:=by kernel_rfl
@[go_sem] theorem pl23:placesOf Tryd.prog 23 = some [(0,1),(1,1),(2,1)]:=by kernel_rfl
@[go_sem] theorem off23_0:fieldOff Tryd.prog 23 0 = some 0:=by kernel_rfl
@[go_sem] theorem off23_1:fieldOff Tryd.prog 23 1 = some 1:=by kernel_rfl
@[go_sem] theorem off23_2:fieldOff Tryd.prog 23 2 = some 2:=by kernel_rfl
@[go_sem] theorem agg24:aggTy Tryd.prog 24 = some true:=by kernel_rfl
@[go_sem] theorem sz24:szTy Tryd.prog 24 = some 3:=by kernel_rfl
@[go_sem] theorem zero24:zeroA Tryd.prog 24 = some (.agg [.base (.slice none 0 0),.base (.slice none 0 0),.base (.int .i64 (0))]):=by kernel_rfl
@[go_sem] theorem el24:elI Tryd.prog 24 3 56 = true:=by kernel_rfl
@[go_sem] theorem pl24:placesOf Tryd.prog 24 = some [(0,1),(1,1),(2,1)]:=by kernel_rfl
@[go_sem] theorem off24_0:fieldOff Tryd.prog 24 0 = some 0:=by kernel_rfl
@[go_sem] theorem off24_1:fieldOff Tryd.prog 24 1 = some 1:=by kernel_rfl
@[go_sem] theorem off24_2:fieldOff Tryd.prog 24 2 = some 2:=by kernel_rfl
@[go_sem] theorem agg25:aggTy Tryd.prog 25 = some false:=by kernel_rfl
@[go_sem] theorem sz25:szTy Tryd.prog 25 = some 1:=by kernel_rfl
@[go_sem] theorem zero25:zeroA Tryd.prog 25 = some (.base (.slice none 0 0)):=by kernel_rfl
@[go_sem] theorem el25:elI Tryd.prog 25 1 24 = true:=by kernel_rfl
@[go_sem] theorem agg29:aggTy Tryd.prog 29 = some false:=by kernel_rfl
@[go_sem] theorem sz29:szTy Tryd.prog 29 = some 1:=by kernel_rfl
@[go_sem] theorem zero29:zeroA Tryd.prog 29 = some (.base (.slice none 0 0)):=by kernel_rfl
@[go_sem] theorem el29:elI Tryd.prog 29 1 24 = true:=by kernel_rfl
@[go_sem] theorem agg30:aggTy Tryd.prog 30 = some false:=by kernel_rfl
@[go_sem] theorem sz30:szTy Tryd.prog 30 = some 1:=by kernel_rfl
@[go_sem] theorem zero30:zeroA Tryd.prog 30 = some (.base (.slice none 0 0)):=by kernel_rfl
@[go_sem] theorem el30:elI Tryd.prog 30 1 24 = true:=by kernel_rfl
@[go_sem] theorem agg31:aggTy Tryd.prog 31 = some true:=by kernel_rfl
@[go_sem] theorem sz31:szTy Tryd.prog 31 = some 6:=by kernel_rfl
@[go_sem] theorem zero31:zeroA Tryd.prog 31 = some (.agg [.base (.slice none 0 0),.base (.slice none 0 0),.base (.slice none 0 0),.base (.slice none 0 0),.base (.bool false),.base (.int .i64 (0))]):=by kernel_rfl
@[go_sem] theorem el31:elI Tryd.prog 31 6 112 = true:=by kernel_rfl
@[go_sem] theorem pl31:placesOf Tryd.prog 31 = some [(0,1),(1,1),(2,1),(3,1),(4,1),(5,1)]:=by kernel_rfl
@[go_sem] theorem off31_0:fieldOff Tryd.prog 31 0 = some 0:=by kernel_rfl
@[go_sem] theorem off31_1:fieldOff Tryd.prog 31 1 = some 1:=by kernel_rfl
@[go_sem] theorem off31_2:fieldOff Tryd.prog 31 2 = some 2:=by kernel_rfl
@[go_sem] theorem off31_3:fieldOff Tryd.prog 31 3 = some 3:=by kernel_rfl
@[go_sem] theorem off31_4:fieldOff Tryd.prog 31 4 = some 4:=by kernel_rfl
@[go_sem] theorem off31_5:fieldOff Tryd.prog 31 5 = some 5:=by kernel_rfl
@[go_sem] theorem agg32:aggTy Tryd.prog 32 = some true:=by kernel_rfl
@[go_sem] theorem sz32:szTy Tryd.prog 32 = some 6:=by kernel_rfl
@[go_sem] theorem zero32:zeroA Tryd.prog 32 = some (.agg [.base (.slice none 0 0),.base (.slice none 0 0),.base (.slice none 0 0),.base (.slice none 0 0),.base (.bool false),.base (.int .i64 (0))]):=by kernel_rfl
@[go_sem] theorem el32:elI Tryd.prog 32 6 112 = true:=by kernel_rfl
@[go_sem] theorem pl32:placesOf Tryd.prog 32 = some [(0,1),(1,1),(2,1),(3,1),(4,1),(5,1)]:=by kernel_rfl
@[go_sem] theorem off32_0:fieldOff Tryd.prog 32 0 = some 0:=by kernel_rfl
@[go_sem] theorem off32_1:fieldOff Tryd.prog 32 1 = some 1:=by kernel_rfl
@[go_sem] theorem off32_2:fieldOff Tryd.prog 32 2 = some 2:=by kernel_rfl
@[go_sem] theorem off32_3:fieldOff Tryd.prog 32 3 = some 3:=by kernel_rfl
@[go_sem] theorem off32_4:fieldOff Tryd.prog 32 4 = some 4:=by kernel_rfl
@[go_sem] theorem off32_5:fieldOff Tryd.prog 32 5 = some 5:=by kernel_rfl
@[go_sem] theorem agg33:aggTy Tryd.prog 33 = some false:=by kernel_rfl
@[go_sem] theorem sz33:szTy Tryd.prog 33 = some 1:=by kernel_rfl
@[go_sem] theorem zero33:zeroA Tryd.prog 33 = some (.base (.int .i64 (0))):=by kernel_rfl
@[go_sem] theorem el33:elI Tryd.prog 33 1 8 = true:=by kernel_rfl
@[go_sem] theorem agg34:aggTy Tryd.prog 34 = some false:=by kernel_rfl
@[go_sem] theorem sz34:szTy Tryd.prog 34 = some 1:=by kernel_rfl
@[go_sem] theorem agg40:aggTy Tryd.prog 40 = some false:=by kernel_rfl
@[go_sem] theorem sz40:szTy Tryd.prog 40 = some 1:=by kernel_rfl
@[go_sem] theorem zero40:zeroA Tryd.prog 40 = some (.base .nilFunc):=by kernel_rfl
@[go_sem] theorem el40:elI Tryd.prog 40 1 8 = true:=by kernel_rfl
@[go_sem] theorem agg44:aggTy Tryd.prog 44 = some false:=by kernel_rfl
@[go_sem] theorem sz44:szTy Tryd.prog 44 = some 1:=by kernel_rfl
@[go_sem] theorem agg48:aggTy Tryd.prog 48 = some false:=by kernel_rfl
@[go_sem] theorem sz48:szTy Tryd.prog 48 = some 1:=by kernel_rfl
@[go_sem] theorem zero48:zeroA Tryd.prog 48 = some (.base (.slice none 0 0)):=by kernel_rfl
@[go_sem] theorem el48:elI Tryd.prog 48 1 24 = true:=by kernel_rfl
@[go_sem] theorem agg49:aggTy Tryd.prog 49 = some false:=by kernel_rfl
@[go_sem] theorem sz49:szTy Tryd.prog 49 = some 1:=by kernel_rfl
@[go_sem] theorem zero49:zeroA Tryd.prog 49 = some (.base (.slice none 0 0)):=by kernel_rfl
@[go_sem] theorem el49:elI Tryd.prog 49 1 24 = true:=by kernel_rfl
@[go_sem] theorem agg56:aggTy Tryd.prog 56 = some false:=by kernel_rfl
@[go_sem] theorem sz56:szTy Tryd.prog 56 = some 1:=by kernel_rfl
@[go_sem] theorem zero56:zeroA Tryd.prog 56 = some (.base .nilFunc):=by kernel_rfl
@[go_sem] theorem el56:elI Tryd.prog 56 1 8 = true:=by kernel_rfl
@[go_sem] theorem agg57:aggTy Tryd.prog 57 = some false:=by kernel_rfl
@[go_sem] theorem sz57:szTy Tryd.prog 57 = some 1:=by kernel_rfl
@[go_sem] theorem zero57:zeroA Tryd.prog 57 = some (.base .nilFunc):=by kernel_rfl
@[go_sem] theorem el57:elI Tryd.prog 57 1 8 = true:=by kernel_rfl
@[go_sem] theorem agg59:aggTy Tryd.prog 59 = some false:=by kernel_rfl
@[go_sem] theorem sz59:szTy Tryd.prog 59 = some 1:=by kernel_rfl
@[go_sem] theorem agg63:aggTy Tryd.prog 63 = some true:=by kernel_rfl
@[go_sem] theorem sz63:szTy Tryd.prog 63 = some 2:=by kernel_rfl
@[go_sem] theorem zero63:zeroA Tryd.prog 63 = some (.agg [.base (.int .i64 (0)),.base (.int .i64 (0))]):=by kernel_rfl
@[go_sem] theorem el63:elI Tryd.prog 63 2 16 = true:=by kernel_rfl
@[go_sem] theorem agg64:aggTy Tryd.prog 64 = some true:=by kernel_rfl
@[go_sem] theorem sz64:szTy Tryd.prog 64 = some 3:=by kernel_rfl
@[go_sem] theorem zero64:zeroA Tryd.prog 64 = some (.agg [.base (.int .u8 (0)),.base (.int .u8 (0)),.base (.int .u8 (0))]):=by kernel_rfl
@[go_sem] theorem el64:elI Tryd.prog 64 3 3 = true:=by kernel_rfl
@[go_sem] theorem agg65:aggTy Tryd.prog 65 = some false:=by kernel_rfl
@[go_sem] theorem sz65:szTy Tryd.prog 65 = some 1:=by kernel_rfl
@[go_sem] theorem zero65:zeroA Tryd.prog 65 = some (.base .nilFunc):=by kernel_rfl
@[go_sem] theorem el65:elI Tryd.prog 65 1 8 = true:=by kernel_rfl
@[go_sem] theorem agg66:aggTy Tryd.prog 66 = some false:=by kernel_rfl
@[go_sem] theorem sz66:szTy Tryd.prog 66 = some 1:=by kernel_rfl
@[go_sem] theorem zero66:zeroA Tryd.prog 66 = some (.base (.slice none 0 0)):=by kernel_rfl
@[go_sem] theorem el66:elI Tryd.prog 66 1 24 = true:=by kernel_rfl
@[go_sem] theorem agg67:aggTy Tryd.prog 67 = some true:=by kernel_rfl
@[go_sem] theorem sz67:szTy Tryd.prog 67 = some 3:=by kernel_rfl
@[go_sem] theorem zero67:zeroA Tryd.prog 67 = some (.agg [.base (.int .i64 (0)),.base (.int .i64 (0)),.base (.slice none 0 0)]):=by kernel_rfl
@[go_sem] theorem el67:elI Tryd.prog 67 3 40 = true:=by kernel_rfl
@[go_sem] theorem pl67:placesOf Tryd.prog 67 = some [(0,1),(1,1),(2,1)]:=by kernel_rfl
@[go_sem] theorem off67_0:fieldOff Tryd.prog 67 0 = some 0:=by kernel_rfl
@[go_sem] theorem off67_1:fieldOff Tryd.prog 67 1 = some 1:=by kernel_rfl
@[go_sem] theorem off67_2:fieldOff Tryd.prog 67 2 = some 2:=by kernel_rfl
@[go_sem] theorem agg68:aggTy Tryd.prog 68 = some true:=by kernel_rfl
@[go_sem] theorem sz68:szTy Tryd.prog 68 = some 3:=by kernel_rfl
@[go_sem] theorem zero68:zeroA Tryd.prog 68 = some (.agg [.base (.int .i64 (0)),.base (.int .i64 (0)),.base (.slice none 0 0)]):=by kernel_rfl
@[go_sem] theorem el68:elI Tryd.prog 68 3 40 = true:=by kernel_rfl
@[go_sem] theorem pl68:placesOf Tryd.prog 68 = some [(0,1),(1,1),(2,1)]:=by kernel_rfl
@[go_sem] theorem off68_0:fieldOff Tryd.prog 68 0 = some 0:=by kernel_rfl
@[go_sem] theorem off68_1:fieldOff Tryd.prog 68 1 = some 1:=by kernel_rfl
@[go_sem] theorem off68_2:fieldOff Tryd.prog 68 2 = some 2:=by kernel_rfl
@[go_sem] theorem agg69:aggTy Tryd.prog 69 = some true:=by kernel_rfl
@[go_sem] theorem sz69:szTy Tryd.prog 69 = some 6:=by kernel_rfl
@[go_sem] theorem zero69:zeroA Tryd.prog 69 = some (.agg [.base (.int .i64 (0)),.base (.int .i64 (0)),.base (.int .i64 (0)),.base (.int .i64 (0)),.base (.int .i64 (0)),.base (.slice none 0 0)]):=by kernel_rfl
@[go_sem] theorem el69:elI Tryd.prog 69 6 64 = true:=by kernel_rfl
@[go_sem] theorem pl69:placesOf Tryd.prog 69 = some [(0,1),(1,1),(2,1),(3,1),(4,1),(5,1)]:=by kernel_rfl
@[go_sem] theorem off69_0:fieldOff Tryd.prog 69 0 = some 0:=by kernel_rfl
@[go_sem] theorem off69_1:fieldOff Tryd.prog 69 1 = some 1:=by kernel_rfl
@[go_sem] theorem off69_2:fieldOff Tryd.prog 69 2 = some 2:=by kernel_rfl
@[go_sem] theorem off69_3:fieldOff Tryd.prog 69 3 = some 3:=by kernel_rfl
@[go_sem] theorem off69_4:fieldOff Tryd.prog 69 4 = some 4:=by kernel_rfl
@[go_sem] theorem off69_5:fieldOff Tryd.prog 69 5 = some 5:=by kernel_rfl
@[go_sem] theorem agg70:aggTy Tryd.prog 70 = some true:=by kernel_rfl
@[go_sem] theorem sz70:szTy Tryd.prog 70 = some 6:=by kernel_rfl
@[go_sem] theorem zero70:zeroA Tryd.prog 70 = some (.agg [.base (.int .i64 (0)),.base (.int .i64 (0)),.base (.int .i64 (0)),.base (.int .i64 (0)),.base (.int .i64 (0)),.base (.slice none 0 0)]):=by kernel_rfl
@[go_sem] theorem el70:elI Tryd.prog 70 6 64 = true:=by kernel_rfl
@[go_sem] theorem pl70:placesOf Tryd.prog 70 = some [(0,1),(1,1),(2,1),(3,1),(4,1),(5,1)]:=by kernel_rfl
@[go_sem] theorem off70_0:fieldOff Tryd.prog 70 0 = some 0:=by kernel_rfl
@[go_sem] theorem off70_1:fieldOff Tryd.prog 70 1 = some 1:=by kernel_rfl
@[go_sem] theorem off70_2:fieldOff Tryd.prog 70 2 = some 2:=by kernel_rfl
@[go_sem] theorem off70_3:fieldOff Tryd.prog 70 3 = some 3:=by kernel_rfl
@[go_sem] theorem off70_4:fieldOff Tryd.prog 70 4 = some 4:=by kernel_rfl
@[go_sem] theorem off70_5:fieldOff Tryd.prog 70 5 = some 5:=by kernel_rfl
@[go_sem] theorem agg72:aggTy Tryd.prog 72 = some true:=by kernel_rfl
@[go_sem] theorem sz72:szTy Tryd.prog 72 = some 4:=by kernel_rfl
@[go_sem] theorem zero72:zeroA Tryd.prog 72 = some (.agg [.base (.int .i64 (0)),.base (.int .i64 (0)),.base (.bool false),.base (.int .i64 (0))]):=by kernel_rfl
@[go_sem] theorem el72:elI Tryd.prog 72 4 32 = true:=by kernel_rfl
@[go_sem] theorem pl72:placesOf Tryd.prog 72 = some [(0,1),(1,1),(2,1),(3,1)]:=by kernel_rfl
@[go_sem] theorem off72_0:fieldOff Tryd.prog 72 0 = some 0:=by kernel_rfl
@[go_sem] theorem off72_1:fieldOff Tryd.prog 72 1 = some 1:=by kernel_rfl
@[go_sem] theorem off72_2:fieldOff Tryd.prog 72 2 = some 2:=by kernel_rfl
@[go_sem] theorem off72_3:fieldOff Tryd.prog 72 3 = some 3:=by kernel_rfl
@[go_sem] theorem agg73:aggTy Tryd.prog 73 = some true:=by kernel_rfl
@[go_sem] theorem sz73:szTy Tryd.prog 73 = some 4:=by kernel_rfl
@[go_sem] theorem zero73:zeroA Tryd.prog 73 = some (.agg [.base (.int .i64 (0)),.base (.int .i64 (0)),.base (.bool false),.base (.int .i64 (0))]):=by kernel_rfl
@[go_sem] theorem el73:elI Tryd.prog 73 4 32 = true:=by kernel_rfl
@[go_sem] theorem pl73:placesOf Tryd.prog 73 = some [(0,1),(1,1),(2,1),(3,1)]:=by kernel_rfl
@[go_sem] theorem off73_0:fieldOff Tryd.prog 73 0 = some 0:=by kernel_rfl
@[go_sem] theorem off73_1:fieldOff Tryd.prog 73 1 = some 1:=by kernel_rfl
@[go_sem] theorem off73_2:fieldOff Tryd.prog 73 2 = some 2:=by kernel_rfl
@[go_sem] theorem off73_3:fieldOff Tryd.prog 73 3 = some 3:=by kernel_rfl
@[go_sem] theorem agg74:aggTy Tryd.prog 74 = some true:=by kernel_rfl
@[go_sem] theorem sz74:szTy Tryd.prog 74 = some 8:=by kernel_rfl
@[go_sem] theorem zero74:zeroA Tryd.prog 74 = some (.agg [.base (.slice none 0 0),.base (.slice none 0 0),.base (.int .i64 (0)),.base (.int .i64 (0)),.base (.int .i64 (0)),.base (.slice none 0 0),.base (.int .i64 (0)),.base (.bool false)]):=by kernel_rfl
@[go_sem] theorem el74:elI Tryd.prog 74 8 112 = true:=by kernel_rfl
@[go_sem] theorem pl74:placesOf Tryd.prog 74 = some [(0,3),(3,3),(6,1),(7,1)]:=by kernel_rfl
@[go_sem] theorem off74_0:fieldOff Tryd.prog 74 0 = some 0:=by kernel_rfl
@[go_sem] theorem off74_1:fieldOff Tryd.prog 74 1 = some 3:=by kernel_rfl
@[go_sem] theorem off74_2:fieldOff Tryd.prog 74 2 = some 6:=by kernel_rfl
@[go_sem] theorem off74_3:fieldOff Tryd.prog 74 3 = some 7:=by kernel_rfl
@[go_sem] theorem agg75:aggTy Tryd.prog 75 = some true:=by kernel_rfl
@[go_sem] theorem sz75:szTy Tryd.prog 75 = some 8:=by kernel_rfl
@[go_sem] theorem zero75:zeroA Tryd.prog 75 = some (.agg [.base (.slice none 0 0),.base (.slice none 0 0),.base (.int .i64 (0)),.base (.int .i64 (0)),.base (.int .i64 (0)),.base (.slice none 0 0),.base (.int .i64 (0)),.base (.bool false)]):=by kernel_rfl
@[go_sem] theorem el75:elI Tryd.prog 75 8 112 = true:=by kernel_rfl
@[go_sem] theorem pl75:placesOf Tryd.prog 75 = some [(0,3),(3,3),(6,1),(7,1)]:=by kernel_rfl
@[go_sem] theorem off75_0:fieldOff Tryd.prog 75 0 = some 0:=by kernel_rfl
@[go_sem] theorem off75_1:fieldOff Tryd.prog 75 1 = some 3:=by kernel_rfl
@[go_sem] theorem off75_2:fieldOff Tryd.prog 75 2 = some 6:=by kernel_rfl
@[go_sem] theorem off75_3:fieldOff Tryd.prog 75 3 = some 7:=by kernel_rfl
@[go_sem] theorem agg76:aggTy Tryd.prog 76 = some false:=by kernel_rfl
@[go_sem] theorem sz76:szTy Tryd.prog 76 = some 1:=by kernel_rfl
@[go_sem] theorem zero76:zeroA Tryd.prog 76 = some (.base (.pointer none)):=by kernel_rfl
@[go_sem] theorem el76:elI Tryd.prog 76 1 8 = true:=by kernel_rfl
@[go_sem] theorem agg77:aggTy Tryd.prog 77 = some false:=by kernel_rfl
@[go_sem] theorem sz77:szTy Tryd.prog 77 = some 1:=by kernel_rfl
@[go_sem] theorem agg79:aggTy Tryd.prog 79 = some false:=by kernel_rfl
@[go_sem] theorem sz79:szTy Tryd.prog 79 = some 1:=by kernel_rfl
@[go_sem] theorem zero79:zeroA Tryd.prog 79 = some (.base (.slice none 0 0)):=by kernel_rfl
@[go_sem] theorem el79:elI Tryd.prog 79 1 24 = true:=by kernel_rfl
@[go_sem] theorem agg80:aggTy Tryd.prog 80 = some false:=by kernel_rfl
@[go_sem] theorem sz80:szTy Tryd.prog 80 = some 1:=by kernel_rfl
@[go_sem] theorem zero80:zeroA Tryd.prog 80 = some (.base (.slice none 0 0)):=by kernel_rfl
@[go_sem] theorem el80:elI Tryd.prog 80 1 24 = true:=by kernel_rfl
@[go_sem] theorem agg81:aggTy Tryd.prog 81 = some false:=by kernel_rfl
@[go_sem] theorem sz81:szTy Tryd.prog 81 = some 1:=by kernel_rfl
@[go_sem] theorem zero81:zeroA Tryd.prog 81 = some (.base (.slice none 0 0)):=by kernel_rfl
@[go_sem] theorem el81:elI Tryd.prog 81 1 24 = true:=by kernel_rfl
@[go_sem] theorem agg82:aggTy Tryd.prog 82 = some true:=by kernel_rfl
@[go_sem] theorem sz82:szTy Tryd.prog 82 = some 13:=by kernel_rfl
@[go_sem] theorem zero82:zeroA Tryd.prog 82 = some (.agg [.base (.slice none 0 0),.base (.slice none 0 0),.base (.int .i64 (0)),.base (.slice none 0 0),.base (.int .i64 (0)),.base (.slice none 0 0),.base (.slice none 0 0),.base (.slice none 0 0),.base (.slice none 0 0),.base (.slice none 0 0),.base (.slice none 0 0),.base (.slice none 0 0),.base (.slice none 0 0)]):=by kernel_rfl
@[go_sem] theorem el82:elI Tryd.prog 82 13 280 = true:=by kernel_rfl
@[go_sem] theorem pl82:placesOf Tryd.prog 82 = some [(0,3),(3,1),(4,1),(5,1),(6,1),(7,1),(8,1),(9,1),(10,1),(11,1),(12,1)]:=by kernel_rfl
@[go_sem] theorem off82_0:fieldOff Tryd.prog 82 0 = some 0:=by kernel_rfl
@[go_sem] theorem off82_1:fieldOff Tryd.prog 82 1 = some 3:=by kernel_rfl
@[go_sem] theorem off82_2:fieldOff Tryd.prog 82 2 = some 4:=by kernel_rfl
@[go_sem] theorem off82_3:fieldOff Tryd.prog 82 3 = some 5:=by kernel_rfl
@[go_sem] theorem off82_4:fieldOff Tryd.prog 82 4 = some 6:=by kernel_rfl
@[go_sem] theorem off82_5:fieldOff Tryd.prog 82 5 = some 7:=by kernel_rfl
@[go_sem] theorem off82_6:fieldOff Tryd.prog 82 6 = some 8:=by kernel_rfl
@[go_sem] theorem off82_7:fieldOff Tryd.prog 82 7 = some 9:=by kernel_rfl
@[go_sem] theorem off82_8:fieldOff Tryd.prog 82 8 = some 10:=by kernel_rfl
@[go_sem] theorem off82_9:fieldOff Tryd.prog 82 9 = some 11:=by kernel_rfl
@[go_sem] theorem off82_10:fieldOff Tryd.prog 82 10 = some 12:=by kernel_rfl
@[go_sem] theorem agg83:aggTy Tryd.prog 83 = some true:=by kernel_rfl
@[go_sem] theorem sz83:szTy Tryd.prog 83 = some 13:=by kernel_rfl
@[go_sem] theorem zero83:zeroA Tryd.prog 83 = some (.agg [.base (.slice none 0 0),.base (.slice none 0 0),.base (.int .i64 (0)),.base (.slice none 0 0),.base (.int .i64 (0)),.base (.slice none 0 0),.base (.slice none 0 0),.base (.slice none 0 0),.base (.slice none 0 0),.base (.slice none 0 0),.base (.slice none 0 0),.base (.slice none 0 0),.base (.slice none 0 0)]):=by kernel_rfl
@[go_sem] theorem el83:elI Tryd.prog 83 13 280 = true:=by kernel_rfl
@[go_sem] theorem pl83:placesOf Tryd.prog 83 = some [(0,3),(3,1),(4,1),(5,1),(6,1),(7,1),(8,1),(9,1),(10,1),(11,1),(12,1)]:=by kernel_rfl
@[go_sem] theorem off83_0:fieldOff Tryd.prog 83 0 = some 0:=by kernel_rfl
@[go_sem] theorem off83_1:fieldOff Tryd.prog 83 1 = some 3:=by kernel_rfl
@[go_sem] theorem off83_2:fieldOff Tryd.prog 83 2 = some 4:=by kernel_rfl
@[go_sem] theorem off83_3:fieldOff Tryd.prog 83 3 = some 5:=by kernel_rfl
@[go_sem] theorem off83_4:fieldOff Tryd.prog 83 4 = some 6:=by kernel_rfl
@[go_sem] theorem off83_5:fieldOff Tryd.prog 83 5 = some 7:=by kernel_rfl
@[go_sem] theorem off83_6:fieldOff Tryd.prog 83 6 = some 8:=by kernel_rfl
@[go_sem] theorem off83_7:fieldOff Tryd.prog 83 7 = some 9:=by kernel_rfl
@[go_sem] theorem off83_8:fieldOff Tryd.prog 83 8 = some 10:=by kernel_rfl
@[go_sem] theorem off83_9:fieldOff Tryd.prog 83 9 = some 11:=by kernel_rfl
@[go_sem] theorem off83_10:fieldOff Tryd.prog 83 10 = some 12:=by kernel_rfl
@[go_sem] theorem agg84:aggTy Tryd.prog 84 = some false:=by kernel_rfl
@[go_sem] theorem sz84:szTy Tryd.prog 84 = some 1:=by kernel_rfl
@[go_sem] theorem zero84:zeroA Tryd.prog 84 = some (.base (.pointer none)):=by kernel_rfl
@[go_sem] theorem el84:elI Tryd.prog 84 1 8 = true:=by kernel_rfl
@[go_sem] theorem agg85:aggTy Tryd.prog 85 = some false:=by kernel_rfl
@[go_sem] theorem sz85:szTy Tryd.prog 85 = some 1:=by kernel_rfl
@[go_sem] theorem zero85:zeroA Tryd.prog 85 = some (.base (.slice none 0 0)):=by kernel_rfl
@[go_sem] theorem el85:elI Tryd.prog 85 1 24 = true:=by kernel_rfl
@[go_sem] theorem agg86:aggTy Tryd.prog 86 = some false:=by kernel_rfl
@[go_sem] theorem sz86:szTy Tryd.prog 86 = some 1:=by kernel_rfl
@[go_sem] theorem zero86:zeroA Tryd.prog 86 = some (.base (.map none)):=by kernel_rfl
@[go_sem] theorem el86:elI Tryd.prog 86 1 8 = true:=by kernel_rfl
@[go_sem] theorem agg87:aggTy Tryd.prog 87 = some true:=by kernel_rfl
@[go_sem] theorem sz87:szTy Tryd.prog 87 = some 12:=by kernel_rfl
@[go_sem] theorem zero87:zeroA Tryd.prog 87 = some (.agg [.base (.slice none 0 0),.base (.int .i64 (0)),.base (.bool false),.base (.int .i64 (0)),.base (.slice none 0 0),.base (.map none),.base (.int .i64 (0)),.base (.int .i64 (0)),.base (.int .i64 (0)),.base (.int .i64 (0)),.base (.slice none 0 0),.base (.slice none 0 0)]):=by kernel_rfl
@[go_sem] theorem el87:elI Tryd.prog 87 12 160 = true:=by kernel_rfl
@[go_sem] theorem pl87:placesOf Tryd.prog 87 = some [(0,1),(1,1),(2,1),(3,1),(4,1),(5,1),(6,1),(7,1),(8,1),(9,1),(10,1),(11,1)]:=by kernel_rfl
@[go_sem] theorem off87_0:fieldOff Tryd.prog 87 0 = some 0:=by kernel_rfl
@[go_sem] theorem off87_1:fieldOff Tryd.prog 87 1 = some 1:=by kernel_rfl
@[go_sem] theorem off87_2:fieldOff Tryd.prog 87 2 = some 2:=by kernel_rfl
@[go_sem] theorem off87_3:fieldOff Tryd.prog 87 3 = some 3:=by kernel_rfl
@[go_sem] theorem off87_4:fieldOff Tryd.prog 87 4 = some 4:=by kernel_rfl
@[go_sem] theorem off87_5:fieldOff Tryd.prog 87 5 = some 5:=by kernel_rfl
@[go_sem] theorem off87_6:fieldOff Tryd.prog 87 6 = some 6:=by kernel_rfl
@[go_sem] theorem off87_7:fieldOff Tryd.prog 87 7 = some 7:=by kernel_rfl
@[go_sem] theorem off87_8:fieldOff Tryd.prog 87 8 = some 8:=by kernel_rfl
@[go_sem] theorem off87_9:fieldOff Tryd.prog 87 9 = some 9:=by kernel_rfl
@[go_sem] theorem off87_10:fieldOff Tryd.prog 87 10 = some 10:=by kernel_rfl
@[go_sem] theorem off87_11:fieldOff Tryd.prog 87 11 = some 11:=by kernel_rfl
@[go_sem] theorem agg88:aggTy Tryd.prog 88 = some true:=by kernel_rfl
@[go_sem] theorem sz88:szTy Tryd.prog 88 = some 12:=by kernel_rfl
@[go_sem] theorem zero88:zeroA Tryd.prog 88 = some (.agg [.base (.slice none 0 0),.base (.int .i64 (0)),.base (.bool false),.base (.int .i64 (0)),.base (.slice none 0 0),.base (.map none),.base (.int .i64 (0)),.base (.int .i64 (0)),.base (.int .i64 (0)),.base (.int .i64 (0)),.base (.slice none 0 0),.base (.slice none 0 0)]):=by kernel_rfl
@[go_sem] theorem el88:elI Tryd.prog 88 12 160 = true:=by kernel_rfl
@[go_sem] theorem pl88:placesOf Tryd.prog 88 = some [(0,1),(1,1),(2,1),(3,1),(4,1),(5,1),(6,1),(7,1),(8,1),(9,1),(10,1),(11,1)]:=by kernel_rfl
@[go_sem] theorem off88_0:fieldOff Tryd.prog 88 0 = some 0:=by kernel_rfl
@[go_sem] theorem off88_1:fieldOff Tryd.prog 88 1 = some 1:=by kernel_rfl
@[go_sem] theorem off88_2:fieldOff Tryd.prog 88 2 = some 2:=by kernel_rfl
@[go_sem] theorem off88_3:fieldOff Tryd.prog 88 3 = some 3:=by kernel_rfl
@[go_sem] theorem off88_4:fieldOff Tryd.prog 88 4 = some 4:=by kernel_rfl
@[go_sem] theorem off88_5:fieldOff Tryd.prog 88 5 = some 5:=by kernel_rfl
@[go_sem] theorem off88_6:fieldOff Tryd.prog 88 6 = some 6:=by kernel_rfl
@[go_sem] theorem off88_7:fieldOff Tryd.prog 88 7 = some 7:=by kernel_rfl
@[go_sem] theorem off88_8:fieldOff Tryd.prog 88 8 = some 8:=by kernel_rfl
@[go_sem] theorem off88_9:fieldOff Tryd.prog 88 9 = some 9:=by kernel_rfl
@[go_sem] theorem off88_10:fieldOff Tryd.prog 88 10 = some 10:=by kernel_rfl
@[go_sem] theorem off88_11:fieldOff Tryd.prog 88 11 = some 11:=by kernel_rfl
@[go_sem] theorem agg92:aggTy Tryd.prog 92 = some false:=by kernel_rfl
@[go_sem] theorem sz92:szTy Tryd.prog 92 = some 1:=by kernel_rfl
@[go_sem] theorem zero92:zeroA Tryd.prog 92 = some (.base (.slice none 0 0)):=by kernel_rfl
@[go_sem] theorem el92:elI Tryd.prog 92 1 24 = true:=by kernel_rfl
@[go_sem] theorem agg93:aggTy Tryd.prog 93 = some true:=by kernel_rfl
@[go_sem] theorem sz93:szTy Tryd.prog 93 = some 11:=by kernel_rfl
@[go_sem] theorem zero93:zeroA Tryd.prog 93 = some (.agg [.base (.slice none 0 0),.base (.int .i64 (0)),.base (.int .i64 (0)),.base (.bool false),.base (.int .i64 (0)),.base (.bool false),.base (.bool false),.base (.int .i64 (0)),.base (.int .i64 (0)),.base (.slice none 0 0),.base (.slice none 0 0)]):=by kernel_rfl
@[go_sem] theorem el93:elI Tryd.prog 93 11 128 = true:=by kernel_rfl
@[go_sem] theorem pl93:placesOf Tryd.prog 93 = some [(0,1),(1,1),(2,1),(3,1),(4,1),(5,1),(6,1),(7,1),(8,1),(9,1),(10,1)]:=by kernel_rfl
@[go_sem] theorem off93_0:fieldOff Tryd.prog 93 0 = some 0:=by kernel_rfl
@[go_sem] theorem off93_1:fieldOff Tryd.prog 93 1 = some 1:=by kernel_rfl
@[go_sem] theorem off93_2:fieldOff Tryd.prog 93 2 = some 2:=by kernel_rfl
@[go_sem] theorem off93_3:fieldOff Tryd.prog 93 3 = some 3:=by kernel_rfl
@[go_sem] theorem off93_4:fieldOff Tryd.prog 93 4 = some 4:=by kernel_rfl
@[go_sem] theorem off93_5:fieldOff Tryd.prog 93 5 = some 5:=by kernel_rfl
@[go_sem] theorem off93_6:fieldOff Tryd.prog 93 6 = some 6:=by kernel_rfl
@[go_sem] theorem off93_7:fieldOff Tryd.prog 93 7 = some 7:=by kernel_rfl
@[go_sem] theorem off93_8:fieldOff Tryd.prog 93 8 = some 8:=by kernel_rfl
@[go_sem] theorem off93_9:fieldOff Tryd.prog 93 9 = some 9:=by kernel_rfl
@[go_sem] theorem off93_10:fieldOff Tryd.prog 93 10 = some 10:=by kernel_rfl
@[go_sem] theorem agg94:aggTy Tryd.prog 94 = some true:=by kernel_rfl
@[go_sem] theorem sz94:szTy Tryd.prog 94 = some 11:=by kernel_rfl
@[go_sem] theorem zero94:zeroA Tryd.prog 94 = some (.agg [.base (.slice none 0 0),.base (.int .i64 (0)),.base (.int .i64 (0)),.base (.bool false),.base (.int .i64 (0)),.base (.bool false),.base (.bool false),.base (.int .i64 (0)),.base (.int .i64 (0)),.base (.slice none 0 0),.base (.slice none 0 0)]):=by kernel_rfl
@[go_sem] theorem el94:elI Tryd.prog 94 11 128 = true:=by kernel_rfl
@[go_sem] theorem pl94:placesOf Tryd.prog 94 = some [(0,1),(1,1),(2,1),(3,1),(4,1),(5,1),(6,1),(7,1),(8,1),(9,1),(10,1)]:=by kernel_rfl
@[go_sem] theorem off94_0:fieldOff Tryd.prog 94 0 = some 0:=by kernel_rfl
@[go_sem] theorem off94_1:fieldOff Tryd.prog 94 1 = some 1:=by kernel_rfl
@[go_sem] theorem off94_2:fieldOff Tryd.prog 94 2 = some 2:=by kernel_rfl
@[go_sem] theorem off94_3:fieldOff Tryd.prog 94 3 = some 3:=by kernel_rfl
@[go_sem] theorem off94_4:fieldOff Tryd.prog 94 4 = some 4:=by kernel_rfl
@[go_sem] theorem off94_5:fieldOff Tryd.prog 94 5 = some 5:=by kernel_rfl
@[go_sem] theorem off94_6:fieldOff Tryd.prog 94 6 = some 6:=by kernel_rfl
@[go_sem] theorem off94_7:fieldOff Tryd.prog 94 7 = some 7:=by kernel_rfl
@[go_sem] theorem off94_8:fieldOff Tryd.prog 94 8 = some 8:=by kernel_rfl
@[go_sem] theorem off94_9:fieldOff Tryd.prog 94 9 = some 9:=by kernel_rfl
@[go_sem] theorem off94_10:fieldOff Tryd.prog 94 10 = some 10:=by kernel_rfl
@[go_sem] theorem agg95:aggTy Tryd.prog 95 = some false:=by kernel_rfl
@[go_sem] theorem sz95:szTy Tryd.prog 95 = some 1:=by kernel_rfl
@[go_sem] theorem zero95:zeroA Tryd.prog 95 = some (.base .nilFunc):=by kernel_rfl
@[go_sem] theorem el95:elI Tryd.prog 95 1 8 = true:=by kernel_rfl
@[go_sem] theorem agg96:aggTy Tryd.prog 96 = some false:=by kernel_rfl
@[go_sem] theorem sz96:szTy Tryd.prog 96 = some 1:=by kernel_rfl
@[go_sem] theorem zero96:zeroA Tryd.prog 96 = some (.base .nilFunc):=by kernel_rfl
@[go_sem] theorem el96:elI Tryd.prog 96 1 8 = true:=by kernel_rfl
@[go_sem] theorem agg99:aggTy Tryd.prog 99 = some false:=by kernel_rfl
@[go_sem] theorem sz99:szTy Tryd.prog 99 = some 1:=by kernel_rfl
@[go_sem] theorem zero99:zeroA Tryd.prog 99 = some (.base .nilFunc):=by kernel_rfl
@[go_sem] theorem el99:elI Tryd.prog 99 1 8 = true:=by kernel_rfl
@[go_sem] theorem agg104:aggTy Tryd.prog 104 = some false:=by kernel_rfl
@[go_sem] theorem sz104:szTy Tryd.prog 104 = some 1:=by kernel_rfl
@[go_sem] theorem agg106:aggTy Tryd.prog 106 = some false:=by kernel_rfl
@[go_sem] theorem sz106:szTy Tryd.prog 106 = some 1:=by kernel_rfl
@[go_sem] theorem zero106:zeroA Tryd.prog 106 = some (.base (.int .u64 (0))):=by kernel_rfl
@[go_sem] theorem el106:elI Tryd.prog 106 1 8 = true:=by kernel_rfl
@[go_sem] theorem agg108:aggTy Tryd.prog 108 = some false:=by kernel_rfl
@[go_sem] theorem sz108:szTy Tryd.prog 108 = some 1:=by kernel_rfl
@[go_sem] theorem zero108:zeroA Tryd.prog 108 = some (.base .nilFunc):=by kernel_rfl
@[go_sem] theorem el108:elI Tryd.prog 108 1 8 = true:=by kernel_rfl
@[go_sem] theorem agg109:aggTy Tryd.prog 109 = some false:=by kernel_rfl
@[go_sem] theorem sz109:szTy Tryd.prog 109 = some 1:=by kernel_rfl
@[go_sem] theorem zero109:zeroA Tryd.prog 109 = some (.base .nilFunc):=by kernel_rfl
@[go_sem] theorem el109:elI Tryd.prog 109 1 8 = true:=by kernel_rfl
@[go_sem] theorem agg111:aggTy Tryd.prog 111 = some true:=by kernel_rfl
@[go_sem] theorem sz111:szTy Tryd.prog 111 = some 7:=by kernel_rfl
@[go_sem] theorem zero111:zeroA Tryd.prog 111 = some (.agg [.base (.int .i64 (0)),.base (.int .i64 (0)),.base (.slice none 0 0),.base (.int .i64 (0)),.base (.int .i64 (0)),.base (.slice none 0 0),.base (.slice none 0 0)]):=by kernel_rfl
@[go_sem] theorem el111:elI Tryd.prog 111 7 104 = true:=by kernel_rfl
@[go_sem] theorem pl111:placesOf Tryd.prog 111 = some [(0,3),(3,1),(4,1),(5,1),(6,1)]:=by kernel_rfl
@[go_sem] theorem off111_0:fieldOff Tryd.prog 111 0 = some 0:=by kernel_rfl
@[go_sem] theorem off111_1:fieldOff Tryd.prog 111 1 = some 3:=by kernel_rfl
@[go_sem] theorem off111_2:fieldOff Tryd.prog 111 2 = some 4:=by kernel_rfl
@[go_sem] theorem off111_3:fieldOff Tryd.prog 111 3 = some 5:=by kernel_rfl
@[go_sem] theorem off111_4:fieldOff Tryd.prog 111 4 = some 6:=by kernel_rfl
@[go_sem] theorem agg112:aggTy Tryd.prog 112 = some true:=by kernel_rfl
@[go_sem] theorem sz112:szTy Tryd.prog 112 = some 7:=by kernel_rfl
@[go_sem] theorem zero112:zeroA Tryd.prog 112 = some (.agg [.base (.int .i64 (0)),.base (.int .i64 (0)),.base (.slice none 0 0),.base (.int .i64 (0)),.base (.int .i64 (0)),.base (.slice none 0 0),.base (.slice none 0 0)]):=by kernel_rfl
@[go_sem] theorem el112:elI Tryd.prog 112 7 104 = true:=by kernel_rfl
@[go_sem] theorem pl112:placesOf Tryd.prog 112 = some [(0,3),(3,1),(4,1),(5,1),(6,1)]:=by kernel_rfl
@[go_sem] theorem off112_0:fieldOff Tryd.prog 112 0 = some 0:=by kernel_rfl
@[go_sem] theorem off112_1:fieldOff Tryd.prog 112 1 = some 3:=by kernel_rfl
@[go_sem] theorem off112_2:fieldOff Tryd.prog 112 2 = some 4:=by kernel_rfl
@[go_sem] theorem off112_3:fieldOff Tryd.prog 112 3 = some 5:=by kernel_rfl
@[go_sem] theorem off112_4:fieldOff Tryd.prog 112 4 = some 6:=by kernel_rfl
@[go_sem] theorem agg120:aggTy Tryd.prog 120 = some false:=by kernel_rfl
@[go_sem] theorem sz120:szTy Tryd.prog 120 = some 1:=by kernel_rfl
@[go_sem] theorem agg122:aggTy Tryd.prog 122 = some true:=by kernel_rfl
@[go_sem] theorem sz122:szTy Tryd.prog 122 = some 8:=by kernel_rfl
@[go_sem] theorem zero122:zeroA Tryd.prog 122 = some (.agg [.base (.int .i64 (0)),.base (.int .i64 (0)),.base (.int .i64 (0)),.base (.int .i64 (0)),.base (.int .i64 (0)),.base (.int .i64 (0)),.base (.int .i64 (0)),.base (.int .i64 (0))]):=by kernel_rfl
@[go_sem] theorem el122:elI Tryd.prog 122 8 64 = true:=by kernel_rfl
@[go_sem] theorem agg123:aggTy Tryd.prog 123 = some true:=by kernel_rfl
@[go_sem] theorem sz123:szTy Tryd.prog 123 = some 10:=by kernel_rfl
@[go_sem] theorem zero123:zeroA Tryd.prog 123 = some (.agg [.base (.int .i64 (0)),.base (.int .i64 (0)),.base (.int .i64 (0)),.base (.int .i64 (0)),.base (.int .i64 (0)),.base (.int .i64 (0)),.base (.int .i64 (0)),.base (.int .i64 (0)),.base (.int .i64 (0)),.base (.int .i64 (0))]):=by kernel_rfl
@[go_sem] theorem el123:elI Tryd.prog 123 10 80 = true:=by kernel_rfl
@[go_sem] theorem pl123:placesOf Tryd.prog 123 = some [(0,8),(8,1),(9,1)]:=by kernel_rfl
@[go_sem] theorem off123_0:fieldOff Tryd.prog 123 0 = some 0:=by kernel_rfl
@[go_sem] theorem off123_1:fieldOff Tryd.prog 123 1 = some 8:=by kernel_rfl
@[go_sem] theorem off123_2:fieldOff Tryd.prog 123 2 = some 9:=by kernel_rfl
@[go_sem] theorem agg124:aggTy Tryd.prog 124 = some true:=by kernel_rfl
@[go_sem] theorem sz124:szTy Tryd.prog 124 = some 10:=by kernel_rfl
@[go_sem] theorem zero124:zeroA Tryd.prog 124 = some (.agg [.base (.int .i64 (0)),.base (.int .i64 (0)),.base (.int .i64 (0)),.base (.int .i64 (0)),.base (.int .i64 (0)),.base (.int .i64 (0)),.base (.int .i64 (0)),.base (.int .i64 (0)),.base (.int .i64 (0)),.base (.int .i64 (0))]):=by kernel_rfl
@[go_sem] theorem el124:elI Tryd.prog 124 10 80 = true:=by kernel_rfl
@[go_sem] theorem pl124:placesOf Tryd.prog 124 = some [(0,8),(8,1),(9,1)]:=by kernel_rfl
@[go_sem] theorem off124_0:fieldOff Tryd.prog 124 0 = some 0:=by kernel_rfl
@[go_sem] theorem off124_1:fieldOff Tryd.prog 124 1 = some 8:=by kernel_rfl
@[go_sem] theorem off124_2:fieldOff Tryd.prog 124 2 = some 9:=by kernel_rfl
@[go_sem] theorem agg126:aggTy Tryd.prog 126 = some false:=by kernel_rfl
@[go_sem] theorem sz126:szTy Tryd.prog 126 = some 1:=by kernel_rfl
@[go_sem] theorem agg131:aggTy Tryd.prog 131 = some false:=by kernel_rfl
@[go_sem] theorem sz131:szTy Tryd.prog 131 = some 1:=by kernel_rfl
@[go_sem] theorem zero131:zeroA Tryd.prog 131 = some (.base .nilFunc):=by kernel_rfl
@[go_sem] theorem el131:elI Tryd.prog 131 1 8 = true:=by kernel_rfl
@[go_sem] theorem agg133:aggTy Tryd.prog 133 = some false:=by kernel_rfl
@[go_sem] theorem sz133:szTy Tryd.prog 133 = some 1:=by kernel_rfl
@[go_sem] theorem agg135:aggTy Tryd.prog 135 = some false:=by kernel_rfl
@[go_sem] theorem sz135:szTy Tryd.prog 135 = some 1:=by kernel_rfl
@[go_sem] theorem zero135:zeroA Tryd.prog 135 = some (.base (.pointer none)):=by kernel_rfl
@[go_sem] theorem el135:elI Tryd.prog 135 1 8 = true:=by kernel_rfl
@[go_sem] theorem agg136:aggTy Tryd.prog 136 = some false:=by kernel_rfl
@[go_sem] theorem sz136:szTy Tryd.prog 136 = some 1:=by kernel_rfl
@[go_sem] theorem agg139:aggTy Tryd.prog 139 = some true:=by kernel_rfl
@[go_sem] theorem sz139:szTy Tryd.prog 139 = some 6:=by kernel_rfl
@[go_sem] theorem zero139:zeroA Tryd.prog 139 = some (.agg [.base (.int .i64 (0)),.base (.int .i64 (0)),.base (.slice none 0 0),.base (.slice none 0 0),.base (.int .i64 (0)),.base (.int .i64 (0))]):=by kernel_rfl
@[go_sem] theorem el139:elI Tryd.prog 139 6 80 = true:=by kernel_rfl
@[go_sem] theorem pl139:placesOf Tryd.prog 139 = some [(0,3),(3,1),(4,1),(5,1)]:=by kernel_rfl
@[go_sem] theorem off139_0:fieldOff Tryd.prog 139 0 = some 0:=by kernel_rfl
@[go_sem] theorem off139_1:fieldOff Tryd.prog 139 1 = some 3:=by kernel_rfl
@[go_sem] theorem off139_2:fieldOff Tryd.prog 139 2 = some 4:=by kernel_rfl
@[go_sem] theorem off139_3:fieldOff Tryd.prog 139 3 = some 5:=by kernel_rfl
@[go_sem] theorem agg140:aggTy Tryd.prog 140 = some true:=by kernel_rfl
@[go_sem] theorem sz140:szTy Tryd.prog 140 = some 6:=by kernel_rfl
@[go_sem] theorem zero140:zeroA Tryd.prog 140 = some (.agg [.base (.int .i64 (0)),.base (.int .i64 (0)),.base (.slice none 0 0),.base (.slice none 0 0),.base (.int .i64 (0)),.base (.int .i64 (0))]):=by kernel_rfl
@[go_sem] theorem el140:elI Tryd.prog 140 6 80 = true:=by kernel_rfl
@[go_sem] theorem pl140:placesOf Tryd.prog 140 = some [(0,3),(3,1),(4,1),(5,1)]:=by kernel_rfl
@[go_sem] theorem off140_0:fieldOff Tryd.prog 140 0 = some 0:=by kernel_rfl
@[go_sem] theorem off140_1:fieldOff Tryd.prog 140 1 = some 3:=by kernel_rfl
@[go_sem] theorem off140_2:fieldOff Tryd.prog 140 2 = some 4:=by kernel_rfl
@[go_sem] theorem off140_3:fieldOff Tryd.prog 140 3 = some 5:=by kernel_rfl
@[go_sem] theorem agg156:aggTy Tryd.prog 156 = some true:=by kernel_rfl
@[go_sem] theorem sz156:szTy Tryd.prog 156 = some 2:=by kernel_rfl
@[go_sem] theorem zero156:zeroA Tryd.prog 156 = some (.agg [.base (.int .i64 (0)),.base (.int .i64 (0))]):=by kernel_rfl
@[go_sem] theorem el156:elI Tryd.prog 156 2 16 = true:=by kernel_rfl
@[go_sem] theorem pl156:placesOf Tryd.prog 156 = some [(0,1),(1,1)]:=by kernel_rfl
@[go_sem] theorem off156_0:fieldOff Tryd.prog 156 0 = some 0:=by kernel_rfl
@[go_sem] theorem off156_1:fieldOff Tryd.prog 156 1 = some 1:=by kernel_rfl
@[go_sem] theorem agg157:aggTy Tryd.prog 157 = some true:=by kernel_rfl
@[go_sem] theorem sz157:szTy Tryd.prog 157 = some 2:=by kernel_rfl
@[go_sem] theorem zero157:zeroA Tryd.prog 157 = some (.agg [.base (.int .i64 (0)),.base (.int .i64 (0))]):=by kernel_rfl
@[go_sem] theorem el157:elI Tryd.prog 157 2 16 = true:=by kernel_rfl
@[go_sem] theorem pl157:placesOf Tryd.prog 157 = some [(0,1),(1,1)]:=by kernel_rfl
@[go_sem] theorem off157_0:fieldOff Tryd.prog 157 0 = some 0:=by kernel_rfl
@[go_sem] theorem off157_1:fieldOff Tryd.prog 157 1 = some 1:=by kernel_rfl
@[go_sem] theorem agg160:aggTy Tryd.prog 160 = some false:=by kernel_rfl
@[go_sem] theorem sz160:szTy Tryd.prog 160 = some 1:=by kernel_rfl
@[go_sem] theorem zero160:zeroA Tryd.prog 160 = some (.base .nilFunc):=by kernel_rfl
@[go_sem] theorem el160:elI Tryd.prog 160 1 8 = true:=by kernel_rfl
@[go_sem] theorem agg167:aggTy Tryd.prog 167 = some false:=by kernel_rfl
@[go_sem] theorem sz167:szTy Tryd.prog 167 = some 1:=by kernel_rfl
@[go_sem] theorem zero167:zeroA Tryd.prog 167 = some (.base (.slice none 0 0)):=by kernel_rfl
@[go_sem] theorem el167:elI Tryd.prog 167 1 24 = true:=by kernel_rfl
@[go_sem] theorem agg170:aggTy Tryd.prog 170 = some true:=by kernel_rfl
@[go_sem] theorem sz170:szTy Tryd.prog 170 = some 24:=by kernel_rfl
@[go_sem] theorem el170:elI Tryd.prog 170 24 24 = true:=by kernel_rfl
@[go_sem] theorem agg171:aggTy Tryd.prog 171 = some false:=by kernel_rfl
@[go_sem] theorem sz171:szTy Tryd.prog 171 = some 1:=by kernel_rfl
@[go_sem] theorem zero171:zeroA Tryd.prog 171 = some (.base (.int .u64 (0))):=by kernel_rfl
@[go_sem] theorem el171:elI Tryd.prog 171 1 8 = true:=by kernel_rfl
@[go_sem] theorem agg174:aggTy Tryd.prog 174 = some false:=by kernel_rfl
@[go_sem] theorem sz174:szTy Tryd.prog 174 = some 1:=by kernel_rfl
@[go_sem] theorem agg177:aggTy Tryd.prog 177 = some true:=by kernel_rfl
@[go_sem] theorem sz177:szTy Tryd.prog 177 = some 20:=by kernel_rfl
@[go_sem] theorem el177:elI Tryd.prog 177 20 160 = true:=by kernel_rfl
@[go_sem] theorem agg178:aggTy Tryd.prog 178 = some false:=by kernel_rfl
@[go_sem] theorem sz178:szTy Tryd.prog 178 = some 1:=by kernel_rfl
@[go_sem] theorem zero178:zeroA Tryd.prog 178 = some (.base (.int .u32 (0))):=by kernel_rfl
@[go_sem] theorem el178:elI Tryd.prog 178 1 4 = true:=by kernel_rfl
@[go_sem] theorem agg179:aggTy Tryd.prog 179 = some true:=by kernel_rfl
@[go_sem] theorem sz179:szTy Tryd.prog 179 = some 65:=by kernel_rfl
@[go_sem] theorem el179:elI Tryd.prog 179 65 65 = true:=by kernel_rfl
@[go_sem] theorem agg182:aggTy Tryd.prog 182 = some true:=by kernel_rfl
@[go_sem] theorem sz182:szTy Tryd.prog 182 = some 32:=by kernel_rfl
@[go_sem] theorem el182:elI Tryd.prog 182 32 32 = true:=by kernel_rfl
@[go_sem] theorem agg183:aggTy Tryd.prog 183 = some true:=by kernel_rfl
@[go_sem] theorem sz183:szTy Tryd.prog 183 = some 64:=by kernel_rfl
@[go_sem] theorem el183:elI Tryd.prog 183 64 64 = true:=by kernel_rfl
@[go_sem] theorem agg184:aggTy Tryd.prog 184 = some false:=by kernel_rfl
@[go_sem] theorem sz184:szTy Tryd.prog 184 = some 1:=by kernel_rfl
@[go_sem] theorem zero184:zeroA Tryd.prog 184 = some (.base .nilFunc):=by kernel_rfl
@[go_sem] theorem el184:elI Tryd.prog 184 1 8 = true:=by kernel_rfl
@[go_sem] theorem agg187:aggTy Tryd.prog 187 = some true:=by kernel_rfl
@[go_sem] theorem sz187:szTy Tryd.prog 187 = some 0:=by kernel_rfl
@[go_sem] theorem agg188:aggTy Tryd.prog 188 = some true:=by kernel_rfl
@[go_sem] theorem sz188:szTy Tryd.prog 188 = some 0:=by kernel_rfl
@[go_sem] theorem pl188:placesOf Tryd.prog 188 = some [(0,0)]:=by kernel_rfl
@[go_sem] theorem agg189:aggTy Tryd.prog 189 = some true:=by kernel_rfl
@[go_sem] theorem sz189:szTy Tryd.prog 189 = some 0:=by kernel_rfl
@[go_sem] theorem pl189:placesOf Tryd.prog 189 = some [(0,0)]:=by kernel_rfl
@[go_sem] theorem agg191:aggTy Tryd.prog 191 = some false:=by kernel_rfl
@[go_sem] theorem sz191:szTy Tryd.prog 191 = some 1:=by kernel_rfl
@[go_sem] theorem zero191:zeroA Tryd.prog 191 = some (.base (.int .u8 (0))):=by kernel_rfl
@[go_sem] theorem el191:elI Tryd.prog 191 1 1 = true:=by kernel_rfl
@[go_sem] theorem agg192:aggTy Tryd.prog 192 = some false:=by kernel_rfl
@[go_sem] theorem sz192:szTy Tryd.prog 192 = some 1:=by kernel_rfl
@[go_sem] theorem zero192:zeroA Tryd.prog 192 = some (.base (.int .u8 (0))):=by kernel_rfl
@[go_sem] theorem el192:elI Tryd.prog 192 1 1 = true:=by kernel_rfl
@[go_sem] theorem agg193:aggTy Tryd.prog 193 = some false:=by kernel_rfl
@[go_sem] theorem sz193:szTy Tryd.prog 193 = some 1:=by kernel_rfl
@[go_sem] theorem zero193:zeroA Tryd.prog 193 = some (.base .nilFunc):=by kernel_rfl
@[go_sem] theorem el193:elI Tryd.prog 193 1 8 = true:=by kernel_rfl
@[go_sem] theorem agg194:aggTy Tryd.prog 194 = some false:=by kernel_rfl
@[go_sem] theorem sz194:szTy Tryd.prog 194 = some 1:=by kernel_rfl
@[go_sem] theorem zero194:zeroA Tryd.prog 194 = some (.base (.pointer none)):=by kernel_rfl
@[go_sem] theorem el194:elI Tryd.prog 194 1 8 = true:=by kernel_rfl
@[go_sem] theorem agg195:aggTy Tryd.prog 195 = some false:=by kernel_rfl
@[go_sem] theorem sz195:szTy Tryd.prog 195 = some 1:=by kernel_rfl
@[go_sem] theorem zero195:zeroA Tryd.prog 195 = some (.base (.int .i32 (0))):=by kernel_rfl
@[go_sem] theorem el195:elI Tryd.prog 195 1 4 = true:=by kernel_rfl
@[go_sem] theorem agg196:aggTy Tryd.prog 196 = some false:=by kernel_rfl
@[go_sem] theorem sz196:szTy Tryd.prog 196 = some 1:=by kernel_rfl
@[go_sem] theorem zero196:zeroA Tryd.prog 196 = some (.base (.int .i32 (0))):=by kernel_rfl
@[go_sem] theorem el196:elI Tryd.prog 196 1 4 = true:=by kernel_rfl
@[go_sem] theorem agg197:aggTy Tryd.prog 197 = some true:=by kernel_rfl
@[go_sem] theorem sz197:szTy Tryd.prog 197 = some 11:=by kernel_rfl
@[go_sem] theorem zero197:zeroA Tryd.prog 197 = some (.agg [.base (.int .u64 (0)),.base (.int .u64 (0)),.base (.int .u32 (0)),.base (.int .u8 (0)),.base (.int .u8 (0)),.base (.int .u8 (0)),.base (.int .u8 (0)),.base .nilFunc,.base (.pointer none),.base (.int .i32 (0)),.base (.int .i32 (0))]):=by kernel_rfl
@[go_sem] theorem el197:elI Tryd.prog 197 11 48 = true:=by kernel_rfl
@[go_sem] theorem pl197:placesOf Tryd.prog 197 = some [(0,1),(1,1),(2,1),(3,1),(4,1),(5,1),(6,1),(7,1),(8,1),(9,1),(10,1)]:=by kernel_rfl
@[go_sem] theorem off197_0:fieldOff Tryd.prog 197 0 = some 0:=by kernel_rfl
@[go_sem] theorem off197_1:fieldOff Tryd.prog 197 1 = some 1:=by kernel_rfl
@[go_sem] theorem off197_2:fieldOff Tryd.prog 197 2 = some 2:=by kernel_rfl
@[go_sem] theorem off197_3:fieldOff Tryd.prog 197 3 = some 3:=by kernel_rfl
@[go_sem] theorem off197_4:fieldOff Tryd.prog 197 4 = some 4:=by kernel_rfl
@[go_sem] theorem off197_5:fieldOff Tryd.prog 197 5 = some 5:=by kernel_rfl
@[go_sem] theorem off197_6:fieldOff Tryd.prog 197 6 = some 6:=by kernel_rfl
@[go_sem] theorem off197_7:fieldOff Tryd.prog 197 7 = some 7:=by kernel_rfl
@[go_sem] theorem off197_8:fieldOff Tryd.prog 197 8 = some 8:=by kernel_rfl
@[go_sem] theorem off197_9:fieldOff Tryd.prog 197 9 = some 9:=by kernel_rfl
@[go_sem] theorem off197_10:fieldOff Tryd.prog 197 10 = some 10:=by kernel_rfl
@[go_sem] theorem agg198:aggTy Tryd.prog 198 = some true:=by kernel_rfl
@[go_sem] theorem sz198:szTy Tryd.prog 198 = some 11:=by kernel_rfl
@[go_sem] theorem zero198:zeroA Tryd.prog 198 = some (.agg [.base (.int .u64 (0)),.base (.int .u64 (0)),.base (.int .u32 (0)),.base (.int .u8 (0)),.base (.int .u8 (0)),.base (.int .u8 (0)),.base (.int .u8 (0)),.base .nilFunc,.base (.pointer none),.base (.int .i32 (0)),.base (.int .i32 (0))]):=by kernel_rfl
@[go_sem] theorem el198:elI Tryd.prog 198 11 48 = true:=by kernel_rfl
@[go_sem] theorem pl198:placesOf Tryd.prog 198 = some [(0,1),(1,1),(2,1),(3,1),(4,1),(5,1),(6,1),(7,1),(8,1),(9,1),(10,1)]:=by kernel_rfl
@[go_sem] theorem off198_0:fieldOff Tryd.prog 198 0 = some 0:=by kernel_rfl
@[go_sem] theorem off198_1:fieldOff Tryd.prog 198 1 = some 1:=by kernel_rfl
@[go_sem] theorem off198_2:fieldOff Tryd.prog 198 2 = some 2:=by kernel_rfl
@[go_sem] theorem off198_3:fieldOff Tryd.prog 198 3 = some 3:=by kernel_rfl
@[go_sem] theorem off198_4:fieldOff Tryd.prog 198 4 = some 4:=by kernel_rfl
@[go_sem] theorem off198_5:fieldOff Tryd.prog 198 5 = some 5:=by kernel_rfl
@[go_sem] theorem off198_6:fieldOff Tryd.prog 198 6 = some 6:=by kernel_rfl
@[go_sem] theorem off198_7:fieldOff Tryd.prog 198 7 = some 7:=by kernel_rfl
@[go_sem] theorem off198_8:fieldOff Tryd.prog 198 8 = some 8:=by kernel_rfl
@[go_sem] theorem off198_9:fieldOff Tryd.prog 198 9 = some 9:=by kernel_rfl
@[go_sem] theorem off198_10:fieldOff Tryd.prog 198 10 = some 10:=by kernel_rfl
@[go_sem] theorem agg199:aggTy Tryd.prog 199 = some false:=by kernel_rfl
@[go_sem] theorem sz199:szTy Tryd.prog 199 = some 1:=by kernel_rfl
@[go_sem] theorem zero199:zeroA Tryd.prog 199 = some (.base (.pointer none)):=by kernel_rfl
@[go_sem] theorem el199:elI Tryd.prog 199 1 8 = true:=by kernel_rfl
attribute [go_sem] Tryd.underlying0 Tryd.underlying1 Tryd.underlying2 Tryd.underlying3 Tryd.underlying4 Tryd.underlying5 Tryd.underlying6 Tryd.underlying7 Tryd.underlying8 Tryd.underlying9 Tryd.underlying10 Tryd.underlying11 Tryd.underlying12 Tryd.underlying13 Tryd.underlying14 Tryd.underlying15 Tryd.underlying16 Tryd.underlying17 Tryd.underlying18 Tryd.underlying19 Tryd.underlying20 Tryd.underlying21 Tryd.underlying22 Tryd.underlying23 Tryd.underlying24 Tryd.underlying25 Tryd.underlying26 Tryd.underlying27 Tryd.underlying28 Tryd.underlying29 Tryd.underlying30 Tryd.underlying31 Tryd.underlying32 Tryd.underlying33 Tryd.underlying34 Tryd.underlying35 Tryd.underlying36 Tryd.underlying37 Tryd.underlying38 Tryd.underlying39 Tryd.underlying40 Tryd.underlying41 Tryd.underlying42 Tryd.underlying43 Tryd.underlying44 Tryd.underlying45 Tryd.underlying46 Tryd.underlying47 Tryd.underlying48 Tryd.underlying49 Tryd.underlying50 Tryd.underlying51 Tryd.underlying52 Tryd.underlying53 Tryd.underlying54 Tryd.underlying55 Tryd.underlying56 Tryd.underlying57 Tryd.underlying58 Tryd.underlying59 Tryd.underlying60 Tryd.underlying61 Tryd.underlying62 Tryd.underlying63 Tryd.underlying64 Tryd.underlying65 Tryd.underlying66 Tryd.underlying67 Tryd.underlying68 Tryd.underlying69 Tryd.underlying70 Tryd.underlying71 Tryd.underlying72 Tryd.underlying73 Tryd.underlying74 Tryd.underlying75 Tryd.underlying76 Tryd.underlying77 Tryd.underlying78 Tryd.underlying79 Tryd.underlying80 Tryd.underlying81 Tryd.underlying82 Tryd.underlying83 Tryd.underlying84 Tryd.underlying85 Tryd.underlying86 Tryd.underlying87 Tryd.underlying88 Tryd.underlying89 Tryd.underlying90 Tryd.underlying91 Tryd.underlying92 Tryd.underlying93 Tryd.underlying94 Tryd.underlying95 Tryd.underlying96 Tryd.underlying97 Tryd.underlying98 Tryd.underlying99 Tryd.underlying100 Tryd.underlying101 Tryd.underlying102 Tryd.underlying103 Tryd.underlying104 Tryd.underlying105 Tryd.underlying106 Tryd.underlying107 Tryd.underlying108 Tryd.underlying109 Tryd.underlying110 Tryd.underlying111 Tryd.underlying112 Tryd.underlying113 Tryd.underlying114 Tryd.underlying115 Tryd.underlying116 Tryd.underlying117 Tryd.underlying118 Tryd.underlying119 Tryd.underlying120 Tryd.underlying121 Tryd.underlying122 Tryd.underlying123 Tryd.underlying124 Tryd.underlying125 Tryd.underlying126 Tryd.underlying127 Tryd.underlying128 Tryd.underlying129 Tryd.underlying130 Tryd.underlying131 Tryd.underlying132 Tryd.underlying133 Tryd.underlying134 Tryd.underlying135 Tryd.underlying136 Tryd.underlying137 Tryd.underlying138 Tryd.underlying139 Tryd.underlying140 Tryd.underlying141 Tryd.underlying142 Tryd.underlying143 Tryd.underlying144 Tryd.underlying145 Tryd.underlying146 Tryd.underlying147 Tryd.underlying148 Tryd.underlying149 Tryd.underlying150 Tryd.underlying151 Tryd.underlying152 Tryd.underlying153 Tryd.underlying154 Tryd.underlying155 Tryd.underlying156 Tryd.underlying157 Tryd.underlying158 Tryd.underlying159 Tryd.underlying160 Tryd.underlying161 Tryd.underlying162 Tryd.underlying163 Tryd.underlying164 Tryd.underlying165 Tryd.underlying166 Tryd.underlying167 Tryd.underlying168 Tryd.underlying169 Tryd.underlying170 Tryd.underlying171 Tryd.underlying172 Tryd.underlying173 Tryd.underlying174 Tryd.underlying175 Tryd.underlying176 Tryd.underlying177 Tryd.underlying178 Tryd.underlying179 Tryd.underlying180 Tryd.underlying181 Tryd.underlying182 Tryd.underlying183 Tryd.underlying184 Tryd.underlying185 Tryd.underlying186 Tryd.underlying187 Tryd.underlying188 Tryd.underlying189 Tryd.underlying190 Tryd.underlying191 Tryd.underlying192 Tryd.underlying193 Tryd.underlying194 Tryd.underlying195 Tryd.underlying196 Tryd.underlying197 Tryd.underlying198 Tryd.underlying199
end Go.Ab.Ty
