/- Closed facts on the types of the program. Made by a program (gen_types.py). -/
import Derived.Test.YthjeoagadjdilaaProg
import Derived.Test.YthjeoagadjdilaaAbD
set_option linter.unusedSimpArgs false
set_option linter.unusedVariables false
namespace Go.Ab.Ty
open Go Go.Ab Go.Proofs

theorem follows : Try.prog.follows .mixedOrders = true := by kernel_rfl
@[go_sem] theorem agg0 : aggTy Try.prog 0 = some false := by kernel_rfl
@[go_sem] theorem sz0 : szTy Try.prog 0 = some 1 := by kernel_rfl
@[go_sem] theorem agg1 : aggTy Try.prog 1 = some false := by kernel_rfl
@[go_sem] theorem sz1 : szTy Try.prog 1 = some 1 := by kernel_rfl
@[go_sem] theorem zero1 : zeroA Try.prog 1 = some (.base .nilFunc) := by kernel_rfl
@[go_sem] theorem el1 : elI Try.prog 1 1 8 = true := by kernel_rfl
@[go_sem] theorem agg2 : aggTy Try.prog 2 = some false := by kernel_rfl
@[go_sem] theorem sz2 : szTy Try.prog 2 = some 1 := by kernel_rfl
@[go_sem] theorem zero2 : zeroA Try.prog 2 = some (.base (.int .i64 (0))) := by kernel_rfl
@[go_sem] theorem el2 : elI Try.prog 2 1 8 = true := by kernel_rfl
@[go_sem] theorem agg3 : aggTy Try.prog 3 = some false := by kernel_rfl
@[go_sem] theorem sz3 : szTy Try.prog 3 = some 1 := by kernel_rfl
@[go_sem] theorem zero3 : zeroA Try.prog 3 = some (.base (.int .i64 (0))) := by kernel_rfl
@[go_sem] theorem el3 : elI Try.prog 3 1 8 = true := by kernel_rfl
@[go_sem] theorem agg4 : aggTy Try.prog 4 = some false := by kernel_rfl
@[go_sem] theorem sz4 : szTy Try.prog 4 = some 1 := by kernel_rfl
@[go_sem] theorem zero4 : zeroA Try.prog 4 = some (.base (.bool false)) := by kernel_rfl
@[go_sem] theorem el4 : elI Try.prog 4 1 1 = true := by kernel_rfl
@[go_sem] theorem agg5 : aggTy Try.prog 5 = some false := by kernel_rfl
@[go_sem] theorem sz5 : szTy Try.prog 5 = some 1 := by kernel_rfl
@[go_sem] theorem zero5 : zeroA Try.prog 5 = some (.base (.int .u8 (0))) := by kernel_rfl
@[go_sem] theorem el5 : elI Try.prog 5 1 1 = true := by kernel_rfl
@[go_sem] theorem agg6 : aggTy Try.prog 6 = some false := by kernel_rfl
@[go_sem] theorem sz6 : szTy Try.prog 6 = some 1 := by kernel_rfl
@[go_sem] theorem zero6 : zeroA Try.prog 6 = some (.base (.int .u8 (0))) := by kernel_rfl
@[go_sem] theorem el6 : elI Try.prog 6 1 1 = true := by kernel_rfl
@[go_sem] theorem agg7 : aggTy Try.prog 7 = some true := by kernel_rfl
@[go_sem] theorem sz7 : szTy Try.prog 7 = some 4 := by kernel_rfl
@[go_sem] theorem zero7 : zeroA Try.prog 7 = some (.agg [.base (.int .i64 (0)), .base (.int .i64 (0)), .base (.bool false), .base (.int .u8 (0))]) := by kernel_rfl
@[go_sem] theorem el7 : elI Try.prog 7 4 24 = true := by kernel_rfl
@[go_sem] theorem pl7 : placesOf Try.prog 7 = some [(0, 1), (1, 1), (2, 1), (3, 1)] := by kernel_rfl
@[go_sem] theorem off7_0 : fieldOff Try.prog 7 0 = some 0 := by kernel_rfl
@[go_sem] theorem off7_1 : fieldOff Try.prog 7 1 = some 1 := by kernel_rfl
@[go_sem] theorem off7_2 : fieldOff Try.prog 7 2 = some 2 := by kernel_rfl
@[go_sem] theorem off7_3 : fieldOff Try.prog 7 3 = some 3 := by kernel_rfl
@[go_sem] theorem agg8 : aggTy Try.prog 8 = some true := by kernel_rfl
@[go_sem] theorem sz8 : szTy Try.prog 8 = some 4 := by kernel_rfl
@[go_sem] theorem zero8 : zeroA Try.prog 8 = some (.agg [.base (.int .i64 (0)), .base (.int .i64 (0)), .base (.bool false), .base (.int .u8 (0))]) := by kernel_rfl
@[go_sem] theorem el8 : elI Try.prog 8 4 24 = true := by kernel_rfl
@[go_sem] theorem pl8 : placesOf Try.prog 8 = some [(0, 1), (1, 1), (2, 1), (3, 1)] := by kernel_rfl
@[go_sem] theorem off8_0 : fieldOff Try.prog 8 0 = some 0 := by kernel_rfl
@[go_sem] theorem off8_1 : fieldOff Try.prog 8 1 = some 1 := by kernel_rfl
@[go_sem] theorem off8_2 : fieldOff Try.prog 8 2 = some 2 := by kernel_rfl
@[go_sem] theorem off8_3 : fieldOff Try.prog 8 3 = some 3 := by kernel_rfl
@[go_sem] theorem agg9 : aggTy Try.prog 9 = some false := by kernel_rfl
@[go_sem] theorem sz9 : szTy Try.prog 9 = some 1 := by kernel_rfl
@[go_sem] theorem zero9 : zeroA Try.prog 9 = some (.base (.string ByteArray.empty)) := by kernel_rfl
@[go_sem] theorem el9 : elI Try.prog 9 1 16 = true := by kernel_rfl
@[go_sem] theorem agg10 : aggTy Try.prog 10 = some false := by kernel_rfl
@[go_sem] theorem sz10 : szTy Try.prog 10 = some 1 := by kernel_rfl
@[go_sem] theorem zero10 : zeroA Try.prog 10 = some (.base (.string ByteArray.empty)) := by kernel_rfl
@[go_sem] theorem el10 : elI Try.prog 10 1 16 = true := by kernel_rfl
@[go_sem] theorem agg11 : aggTy Try.prog 11 = some false := by kernel_rfl
@[go_sem] theorem sz11 : szTy Try.prog 11 = some 1 := by kernel_rfl
@[go_sem] theorem zero11 : zeroA Try.prog 11 = some (.base (.string ByteArray.empty)) := by kernel_rfl
@[go_sem] theorem el11 : elI Try.prog 11 1 16 = true := by kernel_rfl
@[go_sem] theorem agg12 : aggTy Try.prog 12 = some false := by kernel_rfl
@[go_sem] theorem sz12 : szTy Try.prog 12 = some 1 := by kernel_rfl
@[go_sem] theorem zero12 : zeroA Try.prog 12 = some (.base (.int .u64 (0))) := by kernel_rfl
@[go_sem] theorem el12 : elI Try.prog 12 1 8 = true := by kernel_rfl
@[go_sem] theorem agg13 : aggTy Try.prog 13 = some true := by kernel_rfl
@[go_sem] theorem sz13 : szTy Try.prog 13 = some 2 := by kernel_rfl
@[go_sem] theorem zero13 : zeroA Try.prog 13 = some (.agg [.base (.string ByteArray.empty), .base (.int .u64 (0))]) := by kernel_rfl
@[go_sem] theorem el13 : elI Try.prog 13 2 24 = true := by kernel_rfl
@[go_sem] theorem pl13 : placesOf Try.prog 13 = some [(0, 1), (1, 1)] := by kernel_rfl
@[go_sem] theorem off13_0 : fieldOff Try.prog 13 0 = some 0 := by kernel_rfl
@[go_sem] theorem off13_1 : fieldOff Try.prog 13 1 = some 1 := by kernel_rfl
@[go_sem] theorem agg14 : aggTy Try.prog 14 = some true := by kernel_rfl
@[go_sem] theorem sz14 : szTy Try.prog 14 = some 2 := by kernel_rfl
@[go_sem] theorem zero14 : zeroA Try.prog 14 = some (.agg [.base (.string ByteArray.empty), .base (.int .u64 (0))]) := by kernel_rfl
@[go_sem] theorem el14 : elI Try.prog 14 2 24 = true := by kernel_rfl
@[go_sem] theorem pl14 : placesOf Try.prog 14 = some [(0, 1), (1, 1)] := by kernel_rfl
@[go_sem] theorem off14_0 : fieldOff Try.prog 14 0 = some 0 := by kernel_rfl
@[go_sem] theorem off14_1 : fieldOff Try.prog 14 1 = some 1 := by kernel_rfl
@[go_sem] theorem agg15 : aggTy Try.prog 15 = some false := by kernel_rfl
@[go_sem] theorem sz15 : szTy Try.prog 15 = some 1 := by kernel_rfl
@[go_sem] theorem zero15 : zeroA Try.prog 15 = some (.base (.pointer none)) := by kernel_rfl
@[go_sem] theorem el15 : elI Try.prog 15 1 8 = true := by kernel_rfl
@[go_sem] theorem agg16 : aggTy Try.prog 16 = some false := by kernel_rfl
@[go_sem] theorem sz16 : szTy Try.prog 16 = some 1 := by kernel_rfl
@[go_sem] theorem zero16 : zeroA Try.prog 16 = some (.base (.pointer none)) := by kernel_rfl
@[go_sem] theorem el16 : elI Try.prog 16 1 8 = true := by kernel_rfl
@[go_sem] theorem agg17 : aggTy Try.prog 17 = some false := by kernel_rfl
@[go_sem] theorem sz17 : szTy Try.prog 17 = some 1 := by kernel_rfl
@[go_sem] theorem zero17 : zeroA Try.prog 17 = some (.base (.pointer none)) := by kernel_rfl
@[go_sem] theorem el17 : elI Try.prog 17 1 8 = true := by kernel_rfl
@[go_sem] theorem agg18 : aggTy Try.prog 18 = some true := by kernel_rfl
@[go_sem] theorem sz18 : szTy Try.prog 18 = some 1 := by kernel_rfl
@[go_sem] theorem zero18 : zeroA Try.prog 18 = some (.agg [.base (.pointer none)]) := by kernel_rfl
@[go_sem] theorem el18 : elI Try.prog 18 1 8 = true := by kernel_rfl
@[go_sem] theorem pl18 : placesOf Try.prog 18 = some [(0, 1)] := by kernel_rfl
@[go_sem] theorem off18_0 : fieldOff Try.prog 18 0 = some 0 := by kernel_rfl
@[go_sem] theorem agg19 : aggTy Try.prog 19 = some true := by kernel_rfl
@[go_sem] theorem sz19 : szTy Try.prog 19 = some 1 := by kernel_rfl
@[go_sem] theorem zero19 : zeroA Try.prog 19 = some (.agg [.base (.pointer none)]) := by kernel_rfl
@[go_sem] theorem el19 : elI Try.prog 19 1 8 = true := by kernel_rfl
@[go_sem] theorem pl19 : placesOf Try.prog 19 = some [(0, 1)] := by kernel_rfl
@[go_sem] theorem off19_0 : fieldOff Try.prog 19 0 = some 0 := by kernel_rfl
@[go_sem] theorem agg20 : aggTy Try.prog 20 = some false := by kernel_rfl
@[go_sem] theorem sz20 : szTy Try.prog 20 = some 1 := by kernel_rfl
@[go_sem] theorem zero20 : zeroA Try.prog 20 = some (.base .nilIface) := by kernel_rfl
@[go_sem] theorem el20 : elI Try.prog 20 1 16 = true := by kernel_rfl
@[go_sem] theorem agg21 : aggTy Try.prog 21 = some false := by kernel_rfl
@[go_sem] theorem sz21 : szTy Try.prog 21 = some 1 := by kernel_rfl
@[go_sem] theorem zero21 : zeroA Try.prog 21 = some (.base (.int .i32 (0))) := by kernel_rfl
@[go_sem] theorem el21 : elI Try.prog 21 1 4 = true := by kernel_rfl
@[go_sem] theorem agg22 : aggTy Try.prog 22 = some false := by kernel_rfl
@[go_sem] theorem sz22 : szTy Try.prog 22 = some 1 := by kernel_rfl
@[go_sem] theorem zero22 : zeroA Try.prog 22 = some (.base (.slice none 0 0)) := by kernel_rfl
@[go_sem] theorem el22 : elI Try.prog 22 1 24 = true := by kernel_rfl
@[go_sem] theorem agg23 : aggTy Try.prog 23 = some true := by kernel_rfl
@[go_sem] theorem sz23 : szTy Try.prog 23 = some 3 := by kernel_rfl
@[go_sem] theorem zero23 : zeroA Try.prog 23 = some (.agg [.base (.slice none 0 0), .base (.slice none 0 0), .base (.int .i64 (0))]) := by kernel_rfl
@[go_sem] theorem el23 : elI Try.prog 23 3 56 = true := by kernel_rfl
@[go_sem] theorem pl23 : placesOf Try.prog 23 = some [(0, 1), (1, 1), (2, 1)] := by kernel_rfl
@[go_sem] theorem off23_0 : fieldOff Try.prog 23 0 = some 0 := by kernel_rfl
@[go_sem] theorem off23_1 : fieldOff Try.prog 23 1 = some 1 := by kernel_rfl
@[go_sem] theorem off23_2 : fieldOff Try.prog 23 2 = some 2 := by kernel_rfl
@[go_sem] theorem agg24 : aggTy Try.prog 24 = some true := by kernel_rfl
@[go_sem] theorem sz24 : szTy Try.prog 24 = some 3 := by kernel_rfl
@[go_sem] theorem zero24 : zeroA Try.prog 24 = some (.agg [.base (.slice none 0 0), .base (.slice none 0 0), .base (.int .i64 (0))]) := by kernel_rfl
@[go_sem] theorem el24 : elI Try.prog 24 3 56 = true := by kernel_rfl
@[go_sem] theorem pl24 : placesOf Try.prog 24 = some [(0, 1), (1, 1), (2, 1)] := by kernel_rfl
@[go_sem] theorem off24_0 : fieldOff Try.prog 24 0 = some 0 := by kernel_rfl
@[go_sem] theorem off24_1 : fieldOff Try.prog 24 1 = some 1 := by kernel_rfl
@[go_sem] theorem off24_2 : fieldOff Try.prog 24 2 = some 2 := by kernel_rfl
@[go_sem] theorem agg25 : aggTy Try.prog 25 = some false := by kernel_rfl
@[go_sem] theorem sz25 : szTy Try.prog 25 = some 1 := by kernel_rfl
@[go_sem] theorem zero25 : zeroA Try.prog 25 = some (.base .nilFunc) := by kernel_rfl
@[go_sem] theorem el25 : elI Try.prog 25 1 8 = true := by kernel_rfl
@[go_sem] theorem agg26 : aggTy Try.prog 26 = some false := by kernel_rfl
@[go_sem] theorem sz26 : szTy Try.prog 26 = some 1 := by kernel_rfl
@[go_sem] theorem zero26 : zeroA Try.prog 26 = some (.base .nilFunc) := by kernel_rfl
@[go_sem] theorem el26 : elI Try.prog 26 1 8 = true := by kernel_rfl
@[go_sem] theorem agg27 : aggTy Try.prog 27 = some true := by kernel_rfl
@[go_sem] theorem sz27 : szTy Try.prog 27 = some 3 := by kernel_rfl
@[go_sem] theorem zero27 : zeroA Try.prog 27 = some (.agg [.base (.int .i64 (0)), .base (.int .i64 (0)), .base (.int .i64 (0))]) := by kernel_rfl
@[go_sem] theorem el27 : elI Try.prog 27 3 24 = true := by kernel_rfl
@[go_sem] theorem pl27 : placesOf Try.prog 27 = some [(0, 1), (1, 1), (2, 1)] := by kernel_rfl
@[go_sem] theorem off27_0 : fieldOff Try.prog 27 0 = some 0 := by kernel_rfl
@[go_sem] theorem off27_1 : fieldOff Try.prog 27 1 = some 1 := by kernel_rfl
@[go_sem] theorem off27_2 : fieldOff Try.prog 27 2 = some 2 := by kernel_rfl
@[go_sem] theorem agg28 : aggTy Try.prog 28 = some true := by kernel_rfl
@[go_sem] theorem sz28 : szTy Try.prog 28 = some 3 := by kernel_rfl
@[go_sem] theorem zero28 : zeroA Try.prog 28 = some (.agg [.base (.int .i64 (0)), .base (.int .i64 (0)), .base (.int .i64 (0))]) := by kernel_rfl
@[go_sem] theorem el28 : elI Try.prog 28 3 24 = true := by kernel_rfl
@[go_sem] theorem pl28 : placesOf Try.prog 28 = some [(0, 1), (1, 1), (2, 1)] := by kernel_rfl
@[go_sem] theorem off28_0 : fieldOff Try.prog 28 0 = some 0 := by kernel_rfl
@[go_sem] theorem off28_1 : fieldOff Try.prog 28 1 = some 1 := by kernel_rfl
@[go_sem] theorem off28_2 : fieldOff Try.prog 28 2 = some 2 := by kernel_rfl
@[go_sem] theorem agg29 : aggTy Try.prog 29 = some false := by kernel_rfl
@[go_sem] theorem sz29 : szTy Try.prog 29 = some 1 := by kernel_rfl
@[go_sem] theorem zero29 : zeroA Try.prog 29 = some (.base (.slice none 0 0)) := by kernel_rfl
@[go_sem] theorem el29 : elI Try.prog 29 1 24 = true := by kernel_rfl
@[go_sem] theorem agg30 : aggTy Try.prog 30 = some true := by kernel_rfl
@[go_sem] theorem sz30 : szTy Try.prog 30 = some 3 := by kernel_rfl
@[go_sem] theorem zero30 : zeroA Try.prog 30 = some (.agg [.base (.int .i64 (0)), .base (.int .i64 (0)), .base (.slice none 0 0)]) := by kernel_rfl
@[go_sem] theorem el30 : elI Try.prog 30 3 40 = true := by kernel_rfl
@[go_sem] theorem pl30 : placesOf Try.prog 30 = some [(0, 1), (1, 1), (2, 1)] := by kernel_rfl
@[go_sem] theorem off30_0 : fieldOff Try.prog 30 0 = some 0 := by kernel_rfl
@[go_sem] theorem off30_1 : fieldOff Try.prog 30 1 = some 1 := by kernel_rfl
@[go_sem] theorem off30_2 : fieldOff Try.prog 30 2 = some 2 := by kernel_rfl
@[go_sem] theorem agg31 : aggTy Try.prog 31 = some true := by kernel_rfl
@[go_sem] theorem sz31 : szTy Try.prog 31 = some 3 := by kernel_rfl
@[go_sem] theorem zero31 : zeroA Try.prog 31 = some (.agg [.base (.int .i64 (0)), .base (.int .i64 (0)), .base (.slice none 0 0)]) := by kernel_rfl
@[go_sem] theorem el31 : elI Try.prog 31 3 40 = true := by kernel_rfl
@[go_sem] theorem pl31 : placesOf Try.prog 31 = some [(0, 1), (1, 1), (2, 1)] := by kernel_rfl
@[go_sem] theorem off31_0 : fieldOff Try.prog 31 0 = some 0 := by kernel_rfl
@[go_sem] theorem off31_1 : fieldOff Try.prog 31 1 = some 1 := by kernel_rfl
@[go_sem] theorem off31_2 : fieldOff Try.prog 31 2 = some 2 := by kernel_rfl
@[go_sem] theorem agg32 : aggTy Try.prog 32 = some false := by kernel_rfl
@[go_sem] theorem sz32 : szTy Try.prog 32 = some 1 := by kernel_rfl
@[go_sem] theorem zero32 : zeroA Try.prog 32 = some (.base (.slice none 0 0)) := by kernel_rfl
@[go_sem] theorem el32 : elI Try.prog 32 1 24 = true := by kernel_rfl
@[go_sem] theorem agg33 : aggTy Try.prog 33 = some true := by kernel_rfl
@[go_sem] theorem sz33 : szTy Try.prog 33 = some 6 := by kernel_rfl
@[go_sem] theorem zero33 : zeroA Try.prog 33 = some (.agg [.base (.int .i64 (0)), .base (.int .i64 (0)), .base (.int .i64 (0)), .base (.int .i64 (0)), .base (.int .i64 (0)), .base (.slice none 0 0)]) := by kernel_rfl
@[go_sem] theorem el33 : elI Try.prog 33 6 64 = true := by kernel_rfl
@[go_sem] theorem pl33 : placesOf Try.prog 33 = some [(0, 1), (1, 1), (2, 1), (3, 1), (4, 1), (5, 1)] := by kernel_rfl
@[go_sem] theorem off33_0 : fieldOff Try.prog 33 0 = some 0 := by kernel_rfl
@[go_sem] theorem off33_1 : fieldOff Try.prog 33 1 = some 1 := by kernel_rfl
@[go_sem] theorem off33_2 : fieldOff Try.prog 33 2 = some 2 := by kernel_rfl
@[go_sem] theorem off33_3 : fieldOff Try.prog 33 3 = some 3 := by kernel_rfl
@[go_sem] theorem off33_4 : fieldOff Try.prog 33 4 = some 4 := by kernel_rfl
@[go_sem] theorem off33_5 : fieldOff Try.prog 33 5 = some 5 := by kernel_rfl
@[go_sem] theorem agg34 : aggTy Try.prog 34 = some true := by kernel_rfl
@[go_sem] theorem sz34 : szTy Try.prog 34 = some 6 := by kernel_rfl
@[go_sem] theorem zero34 : zeroA Try.prog 34 = some (.agg [.base (.int .i64 (0)), .base (.int .i64 (0)), .base (.int .i64 (0)), .base (.int .i64 (0)), .base (.int .i64 (0)), .base (.slice none 0 0)]) := by kernel_rfl
@[go_sem] theorem el34 : elI Try.prog 34 6 64 = true := by kernel_rfl
@[go_sem] theorem pl34 : placesOf Try.prog 34 = some [(0, 1), (1, 1), (2, 1), (3, 1), (4, 1), (5, 1)] := by kernel_rfl
@[go_sem] theorem off34_0 : fieldOff Try.prog 34 0 = some 0 := by kernel_rfl
@[go_sem] theorem off34_1 : fieldOff Try.prog 34 1 = some 1 := by kernel_rfl
@[go_sem] theorem off34_2 : fieldOff Try.prog 34 2 = some 2 := by kernel_rfl
@[go_sem] theorem off34_3 : fieldOff Try.prog 34 3 = some 3 := by kernel_rfl
@[go_sem] theorem off34_4 : fieldOff Try.prog 34 4 = some 4 := by kernel_rfl
@[go_sem] theorem off34_5 : fieldOff Try.prog 34 5 = some 5 := by kernel_rfl
@[go_sem] theorem agg35 : aggTy Try.prog 35 = some false := by kernel_rfl
@[go_sem] theorem sz35 : szTy Try.prog 35 = some 1 := by kernel_rfl
@[go_sem] theorem zero35 : zeroA Try.prog 35 = some (.base .nilFunc) := by kernel_rfl
@[go_sem] theorem el35 : elI Try.prog 35 1 8 = true := by kernel_rfl
@[go_sem] theorem agg36 : aggTy Try.prog 36 = some false := by kernel_rfl
@[go_sem] theorem sz36 : szTy Try.prog 36 = some 1 := by kernel_rfl
@[go_sem] theorem zero36 : zeroA Try.prog 36 = some (.base (.int .i64 (0))) := by kernel_rfl
@[go_sem] theorem el36 : elI Try.prog 36 1 8 = true := by kernel_rfl
@[go_sem] theorem agg37 : aggTy Try.prog 37 = some false := by kernel_rfl
@[go_sem] theorem sz37 : szTy Try.prog 37 = some 1 := by kernel_rfl
@[go_sem] theorem agg38 : aggTy Try.prog 38 = some false := by kernel_rfl
@[go_sem] theorem sz38 : szTy Try.prog 38 = some 1 := by kernel_rfl
@[go_sem] theorem zero38 : zeroA Try.prog 38 = some (.base .nilFunc) := by kernel_rfl
@[go_sem] theorem el38 : elI Try.prog 38 1 8 = true := by kernel_rfl
@[go_sem] theorem agg39 : aggTy Try.prog 39 = some false := by kernel_rfl
@[go_sem] theorem sz39 : szTy Try.prog 39 = some 1 := by kernel_rfl
@[go_sem] theorem zero39 : zeroA Try.prog 39 = some (.base .nilFunc) := by kernel_rfl
@[go_sem] theorem el39 : elI Try.prog 39 1 8 = true := by kernel_rfl
@[go_sem] theorem agg40 : aggTy Try.prog 40 = some false := by kernel_rfl
@[go_sem] theorem sz40 : szTy Try.prog 40 = some 1 := by kernel_rfl
@[go_sem] theorem zero40 : zeroA Try.prog 40 = some (.base .nilFunc) := by kernel_rfl
@[go_sem] theorem el40 : elI Try.prog 40 1 8 = true := by kernel_rfl
@[go_sem] theorem agg41 : aggTy Try.prog 41 = some false := by kernel_rfl
@[go_sem] theorem sz41 : szTy Try.prog 41 = some 1 := by kernel_rfl
@[go_sem] theorem zero41 : zeroA Try.prog 41 = some (.base .nilFunc) := by kernel_rfl
@[go_sem] theorem el41 : elI Try.prog 41 1 8 = true := by kernel_rfl
@[go_sem] theorem agg42 : aggTy Try.prog 42 = some false := by kernel_rfl
@[go_sem] theorem sz42 : szTy Try.prog 42 = some 1 := by kernel_rfl
@[go_sem] theorem zero42 : zeroA Try.prog 42 = some (.base .nilFunc) := by kernel_rfl
@[go_sem] theorem el42 : elI Try.prog 42 1 8 = true := by kernel_rfl
@[go_sem] theorem agg43 : aggTy Try.prog 43 = some true := by kernel_rfl
@[go_sem] theorem sz43 : szTy Try.prog 43 = some 2 := by kernel_rfl
@[go_sem] theorem zero43 : zeroA Try.prog 43 = some (.agg [.base (.int .i64 (0)), .base (.int .i64 (0))]) := by kernel_rfl
@[go_sem] theorem el43 : elI Try.prog 43 2 16 = true := by kernel_rfl
@[go_sem] theorem pl43 : placesOf Try.prog 43 = some [(0, 1), (1, 1)] := by kernel_rfl
@[go_sem] theorem off43_0 : fieldOff Try.prog 43 0 = some 0 := by kernel_rfl
@[go_sem] theorem off43_1 : fieldOff Try.prog 43 1 = some 1 := by kernel_rfl
@[go_sem] theorem agg44 : aggTy Try.prog 44 = some true := by kernel_rfl
@[go_sem] theorem sz44 : szTy Try.prog 44 = some 2 := by kernel_rfl
@[go_sem] theorem zero44 : zeroA Try.prog 44 = some (.agg [.base (.int .i64 (0)), .base (.int .i64 (0))]) := by kernel_rfl
@[go_sem] theorem el44 : elI Try.prog 44 2 16 = true := by kernel_rfl
@[go_sem] theorem pl44 : placesOf Try.prog 44 = some [(0, 1), (1, 1)] := by kernel_rfl
@[go_sem] theorem off44_0 : fieldOff Try.prog 44 0 = some 0 := by kernel_rfl
@[go_sem] theorem off44_1 : fieldOff Try.prog 44 1 = some 1 := by kernel_rfl
@[go_sem] theorem agg45 : aggTy Try.prog 45 = some false := by kernel_rfl
@[go_sem] theorem sz45 : szTy Try.prog 45 = some 1 := by kernel_rfl
@[go_sem] theorem agg46 : aggTy Try.prog 46 = some false := by kernel_rfl
@[go_sem] theorem sz46 : szTy Try.prog 46 = some 1 := by kernel_rfl
@[go_sem] theorem zero46 : zeroA Try.prog 46 = some (.base .nilFunc) := by kernel_rfl
@[go_sem] theorem el46 : elI Try.prog 46 1 8 = true := by kernel_rfl
@[go_sem] theorem agg47 : aggTy Try.prog 47 = some false := by kernel_rfl
@[go_sem] theorem sz47 : szTy Try.prog 47 = some 1 := by kernel_rfl
@[go_sem] theorem zero47 : zeroA Try.prog 47 = some (.base .nilFunc) := by kernel_rfl
@[go_sem] theorem el47 : elI Try.prog 47 1 8 = true := by kernel_rfl
@[go_sem] theorem agg48 : aggTy Try.prog 48 = some false := by kernel_rfl
@[go_sem] theorem sz48 : szTy Try.prog 48 = some 1 := by kernel_rfl
@[go_sem] theorem zero48 : zeroA Try.prog 48 = some (.base (.slice none 0 0)) := by kernel_rfl
@[go_sem] theorem el48 : elI Try.prog 48 1 24 = true := by kernel_rfl
@[go_sem] theorem agg49 : aggTy Try.prog 49 = some false := by kernel_rfl
@[go_sem] theorem sz49 : szTy Try.prog 49 = some 1 := by kernel_rfl
@[go_sem] theorem agg50 : aggTy Try.prog 50 = some false := by kernel_rfl
@[go_sem] theorem sz50 : szTy Try.prog 50 = some 1 := by kernel_rfl
@[go_sem] theorem zero50 : zeroA Try.prog 50 = some (.base .nilFunc) := by kernel_rfl
@[go_sem] theorem el50 : elI Try.prog 50 1 8 = true := by kernel_rfl
@[go_sem] theorem agg51 : aggTy Try.prog 51 = some false := by kernel_rfl
@[go_sem] theorem sz51 : szTy Try.prog 51 = some 1 := by kernel_rfl
@[go_sem] theorem zero51 : zeroA Try.prog 51 = some (.base (.map none)) := by kernel_rfl
@[go_sem] theorem el51 : elI Try.prog 51 1 8 = true := by kernel_rfl
@[go_sem] theorem agg52 : aggTy Try.prog 52 = some false := by kernel_rfl
@[go_sem] theorem sz52 : szTy Try.prog 52 = some 1 := by kernel_rfl
@[go_sem] theorem zero52 : zeroA Try.prog 52 = some (.base .nilFunc) := by kernel_rfl
@[go_sem] theorem el52 : elI Try.prog 52 1 8 = true := by kernel_rfl
@[go_sem] theorem agg53 : aggTy Try.prog 53 = some true := by kernel_rfl
@[go_sem] theorem sz53 : szTy Try.prog 53 = some 8 := by kernel_rfl
@[go_sem] theorem zero53 : zeroA Try.prog 53 = some (.agg [.base (.slice none 0 0), .base (.slice none 0 0), .base (.int .i64 (0)), .base (.int .i64 (0)), .base (.int .i64 (0)), .base (.slice none 0 0), .base (.int .i64 (0)), .base (.bool false)]) := by kernel_rfl
@[go_sem] theorem el53 : elI Try.prog 53 8 112 = true := by kernel_rfl
@[go_sem] theorem pl53 : placesOf Try.prog 53 = some [(0, 3), (3, 3), (6, 1), (7, 1)] := by kernel_rfl
@[go_sem] theorem off53_0 : fieldOff Try.prog 53 0 = some 0 := by kernel_rfl
@[go_sem] theorem off53_1 : fieldOff Try.prog 53 1 = some 3 := by kernel_rfl
@[go_sem] theorem off53_2 : fieldOff Try.prog 53 2 = some 6 := by kernel_rfl
@[go_sem] theorem off53_3 : fieldOff Try.prog 53 3 = some 7 := by kernel_rfl
@[go_sem] theorem agg54 : aggTy Try.prog 54 = some true := by kernel_rfl
@[go_sem] theorem sz54 : szTy Try.prog 54 = some 8 := by kernel_rfl
@[go_sem] theorem zero54 : zeroA Try.prog 54 = some (.agg [.base (.slice none 0 0), .base (.slice none 0 0), .base (.int .i64 (0)), .base (.int .i64 (0)), .base (.int .i64 (0)), .base (.slice none 0 0), .base (.int .i64 (0)), .base (.bool false)]) := by kernel_rfl
@[go_sem] theorem el54 : elI Try.prog 54 8 112 = true := by kernel_rfl
@[go_sem] theorem pl54 : placesOf Try.prog 54 = some [(0, 3), (3, 3), (6, 1), (7, 1)] := by kernel_rfl
@[go_sem] theorem off54_0 : fieldOff Try.prog 54 0 = some 0 := by kernel_rfl
@[go_sem] theorem off54_1 : fieldOff Try.prog 54 1 = some 3 := by kernel_rfl
@[go_sem] theorem off54_2 : fieldOff Try.prog 54 2 = some 6 := by kernel_rfl
@[go_sem] theorem off54_3 : fieldOff Try.prog 54 3 = some 7 := by kernel_rfl
@[go_sem] theorem agg55 : aggTy Try.prog 55 = some false := by kernel_rfl
@[go_sem] theorem sz55 : szTy Try.prog 55 = some 1 := by kernel_rfl
@[go_sem] theorem zero55 : zeroA Try.prog 55 = some (.base .nilFunc) := by kernel_rfl
@[go_sem] theorem el55 : elI Try.prog 55 1 8 = true := by kernel_rfl
@[go_sem] theorem agg56 : aggTy Try.prog 56 = some false := by kernel_rfl
@[go_sem] theorem sz56 : szTy Try.prog 56 = some 1 := by kernel_rfl
@[go_sem] theorem agg57 : aggTy Try.prog 57 = some false := by kernel_rfl
@[go_sem] theorem sz57 : szTy Try.prog 57 = some 1 := by kernel_rfl
@[go_sem] theorem zero57 : zeroA Try.prog 57 = some (.base .nilFunc) := by kernel_rfl
@[go_sem] theorem el57 : elI Try.prog 57 1 8 = true := by kernel_rfl
@[go_sem] theorem agg58 : aggTy Try.prog 58 = some true := by kernel_rfl
@[go_sem] theorem sz58 : szTy Try.prog 58 = some 8 := by kernel_rfl
@[go_sem] theorem zero58 : zeroA Try.prog 58 = some (.agg [.base (.int .i64 (0)), .base (.int .i64 (0)), .base (.int .i64 (0)), .base (.int .i64 (0)), .base (.int .i64 (0)), .base (.int .i64 (0)), .base (.int .i64 (0)), .base (.int .i64 (0))]) := by kernel_rfl
@[go_sem] theorem el58 : elI Try.prog 58 8 64 = true := by kernel_rfl
@[go_sem] theorem agg59 : aggTy Try.prog 59 = some true := by kernel_rfl
@[go_sem] theorem sz59 : szTy Try.prog 59 = some 10 := by kernel_rfl
@[go_sem] theorem zero59 : zeroA Try.prog 59 = some (.agg [.base (.int .i64 (0)), .base (.int .i64 (0)), .base (.int .i64 (0)), .base (.int .i64 (0)), .base (.int .i64 (0)), .base (.int .i64 (0)), .base (.int .i64 (0)), .base (.int .i64 (0)), .base (.int .i64 (0)), .base (.int .i64 (0))]) := by kernel_rfl
@[go_sem] theorem el59 : elI Try.prog 59 10 80 = true := by kernel_rfl
@[go_sem] theorem pl59 : placesOf Try.prog 59 = some [(0, 8), (8, 1), (9, 1)] := by kernel_rfl
@[go_sem] theorem off59_0 : fieldOff Try.prog 59 0 = some 0 := by kernel_rfl
@[go_sem] theorem off59_1 : fieldOff Try.prog 59 1 = some 8 := by kernel_rfl
@[go_sem] theorem off59_2 : fieldOff Try.prog 59 2 = some 9 := by kernel_rfl
@[go_sem] theorem agg60 : aggTy Try.prog 60 = some true := by kernel_rfl
@[go_sem] theorem sz60 : szTy Try.prog 60 = some 10 := by kernel_rfl
@[go_sem] theorem zero60 : zeroA Try.prog 60 = some (.agg [.base (.int .i64 (0)), .base (.int .i64 (0)), .base (.int .i64 (0)), .base (.int .i64 (0)), .base (.int .i64 (0)), .base (.int .i64 (0)), .base (.int .i64 (0)), .base (.int .i64 (0)), .base (.int .i64 (0)), .base (.int .i64 (0))]) := by kernel_rfl
@[go_sem] theorem el60 : elI Try.prog 60 10 80 = true := by kernel_rfl
@[go_sem] theorem pl60 : placesOf Try.prog 60 = some [(0, 8), (8, 1), (9, 1)] := by kernel_rfl
@[go_sem] theorem off60_0 : fieldOff Try.prog 60 0 = some 0 := by kernel_rfl
@[go_sem] theorem off60_1 : fieldOff Try.prog 60 1 = some 8 := by kernel_rfl
@[go_sem] theorem off60_2 : fieldOff Try.prog 60 2 = some 9 := by kernel_rfl
@[go_sem] theorem agg61 : aggTy Try.prog 61 = some false := by kernel_rfl
@[go_sem] theorem sz61 : szTy Try.prog 61 = some 1 := by kernel_rfl
@[go_sem] theorem zero61 : zeroA Try.prog 61 = some (.base .nilFunc) := by kernel_rfl
@[go_sem] theorem el61 : elI Try.prog 61 1 8 = true := by kernel_rfl
@[go_sem] theorem agg62 : aggTy Try.prog 62 = some false := by kernel_rfl
@[go_sem] theorem sz62 : szTy Try.prog 62 = some 1 := by kernel_rfl
@[go_sem] theorem agg63 : aggTy Try.prog 63 = some false := by kernel_rfl
@[go_sem] theorem sz63 : szTy Try.prog 63 = some 1 := by kernel_rfl
@[go_sem] theorem zero63 : zeroA Try.prog 63 = some (.base .nilFunc) := by kernel_rfl
@[go_sem] theorem el63 : elI Try.prog 63 1 8 = true := by kernel_rfl
@[go_sem] theorem agg64 : aggTy Try.prog 64 = some false := by kernel_rfl
@[go_sem] theorem sz64 : szTy Try.prog 64 = some 1 := by kernel_rfl
@[go_sem] theorem agg65 : aggTy Try.prog 65 = some false := by kernel_rfl
@[go_sem] theorem sz65 : szTy Try.prog 65 = some 1 := by kernel_rfl
@[go_sem] theorem zero65 : zeroA Try.prog 65 = some (.base .nilFunc) := by kernel_rfl
@[go_sem] theorem el65 : elI Try.prog 65 1 8 = true := by kernel_rfl
@[go_sem] theorem agg66 : aggTy Try.prog 66 = some false := by kernel_rfl
@[go_sem] theorem sz66 : szTy Try.prog 66 = some 1 := by kernel_rfl
@[go_sem] theorem zero66 : zeroA Try.prog 66 = some (.base .nilFunc) := by kernel_rfl
@[go_sem] theorem el66 : elI Try.prog 66 1 8 = true := by kernel_rfl
@[go_sem] theorem agg67 : aggTy Try.prog 67 = some false := by kernel_rfl
@[go_sem] theorem sz67 : szTy Try.prog 67 = some 1 := by kernel_rfl
@[go_sem] theorem agg68 : aggTy Try.prog 68 = some false := by kernel_rfl
@[go_sem] theorem sz68 : szTy Try.prog 68 = some 1 := by kernel_rfl
@[go_sem] theorem zero68 : zeroA Try.prog 68 = some (.base .nilFunc) := by kernel_rfl
@[go_sem] theorem el68 : elI Try.prog 68 1 8 = true := by kernel_rfl
@[go_sem] theorem agg69 : aggTy Try.prog 69 = some false := by kernel_rfl
@[go_sem] theorem sz69 : szTy Try.prog 69 = some 1 := by kernel_rfl
@[go_sem] theorem zero69 : zeroA Try.prog 69 = some (.base .nilFunc) := by kernel_rfl
@[go_sem] theorem el69 : elI Try.prog 69 1 8 = true := by kernel_rfl
@[go_sem] theorem agg70 : aggTy Try.prog 70 = some false := by kernel_rfl
@[go_sem] theorem sz70 : szTy Try.prog 70 = some 1 := by kernel_rfl
@[go_sem] theorem zero70 : zeroA Try.prog 70 = some (.base .nilFunc) := by kernel_rfl
@[go_sem] theorem el70 : elI Try.prog 70 1 8 = true := by kernel_rfl
@[go_sem] theorem agg71 : aggTy Try.prog 71 = some false := by kernel_rfl
@[go_sem] theorem sz71 : szTy Try.prog 71 = some 1 := by kernel_rfl
@[go_sem] theorem zero71 : zeroA Try.prog 71 = some (.base .nilFunc) := by kernel_rfl
@[go_sem] theorem el71 : elI Try.prog 71 1 8 = true := by kernel_rfl
@[go_sem] theorem agg72 : aggTy Try.prog 72 = some false := by kernel_rfl
@[go_sem] theorem sz72 : szTy Try.prog 72 = some 1 := by kernel_rfl
@[go_sem] theorem zero72 : zeroA Try.prog 72 = some (.base .nilFunc) := by kernel_rfl
@[go_sem] theorem el72 : elI Try.prog 72 1 8 = true := by kernel_rfl
@[go_sem] theorem agg73 : aggTy Try.prog 73 = some false := by kernel_rfl
@[go_sem] theorem sz73 : szTy Try.prog 73 = some 1 := by kernel_rfl
@[go_sem] theorem zero73 : zeroA Try.prog 73 = some (.base .nilFunc) := by kernel_rfl
@[go_sem] theorem el73 : elI Try.prog 73 1 8 = true := by kernel_rfl
@[go_sem] theorem agg74 : aggTy Try.prog 74 = some false := by kernel_rfl
@[go_sem] theorem sz74 : szTy Try.prog 74 = some 1 := by kernel_rfl
@[go_sem] theorem zero74 : zeroA Try.prog 74 = some (.base .nilFunc) := by kernel_rfl
@[go_sem] theorem el74 : elI Try.prog 74 1 8 = true := by kernel_rfl
@[go_sem] theorem agg75 : aggTy Try.prog 75 = some false := by kernel_rfl
@[go_sem] theorem sz75 : szTy Try.prog 75 = some 1 := by kernel_rfl
@[go_sem] theorem zero75 : zeroA Try.prog 75 = some (.base .nilFunc) := by kernel_rfl
@[go_sem] theorem el75 : elI Try.prog 75 1 8 = true := by kernel_rfl
@[go_sem] theorem agg76 : aggTy Try.prog 76 = some false := by kernel_rfl
@[go_sem] theorem sz76 : szTy Try.prog 76 = some 1 := by kernel_rfl
@[go_sem] theorem zero76 : zeroA Try.prog 76 = some (.base .nilFunc) := by kernel_rfl
@[go_sem] theorem el76 : elI Try.prog 76 1 8 = true := by kernel_rfl
@[go_sem] theorem agg77 : aggTy Try.prog 77 = some false := by kernel_rfl
@[go_sem] theorem sz77 : szTy Try.prog 77 = some 1 := by kernel_rfl
@[go_sem] theorem zero77 : zeroA Try.prog 77 = some (.base .nilFunc) := by kernel_rfl
@[go_sem] theorem el77 : elI Try.prog 77 1 8 = true := by kernel_rfl
@[go_sem] theorem agg78 : aggTy Try.prog 78 = some false := by kernel_rfl
@[go_sem] theorem sz78 : szTy Try.prog 78 = some 1 := by kernel_rfl
@[go_sem] theorem zero78 : zeroA Try.prog 78 = some (.base .nilFunc) := by kernel_rfl
@[go_sem] theorem el78 : elI Try.prog 78 1 8 = true := by kernel_rfl
@[go_sem] theorem agg79 : aggTy Try.prog 79 = some false := by kernel_rfl
@[go_sem] theorem sz79 : szTy Try.prog 79 = some 1 := by kernel_rfl
@[go_sem] theorem zero79 : zeroA Try.prog 79 = some (.base .nilFunc) := by kernel_rfl
@[go_sem] theorem el79 : elI Try.prog 79 1 8 = true := by kernel_rfl
@[go_sem] theorem agg80 : aggTy Try.prog 80 = some false := by kernel_rfl
@[go_sem] theorem sz80 : szTy Try.prog 80 = some 1 := by kernel_rfl
@[go_sem] theorem zero80 : zeroA Try.prog 80 = some (.base .nilFunc) := by kernel_rfl
@[go_sem] theorem el80 : elI Try.prog 80 1 8 = true := by kernel_rfl
@[go_sem] theorem agg81 : aggTy Try.prog 81 = some false := by kernel_rfl
@[go_sem] theorem sz81 : szTy Try.prog 81 = some 1 := by kernel_rfl
@[go_sem] theorem zero81 : zeroA Try.prog 81 = some (.base .nilFunc) := by kernel_rfl
@[go_sem] theorem el81 : elI Try.prog 81 1 8 = true := by kernel_rfl
@[go_sem] theorem agg82 : aggTy Try.prog 82 = some false := by kernel_rfl
@[go_sem] theorem sz82 : szTy Try.prog 82 = some 1 := by kernel_rfl
@[go_sem] theorem zero82 : zeroA Try.prog 82 = some (.base .nilFunc) := by kernel_rfl
@[go_sem] theorem el82 : elI Try.prog 82 1 8 = true := by kernel_rfl
@[go_sem] theorem agg83 : aggTy Try.prog 83 = some false := by kernel_rfl
@[go_sem] theorem sz83 : szTy Try.prog 83 = some 1 := by kernel_rfl
@[go_sem] theorem zero83 : zeroA Try.prog 83 = some (.base .nilFunc) := by kernel_rfl
@[go_sem] theorem el83 : elI Try.prog 83 1 8 = true := by kernel_rfl
@[go_sem] theorem agg84 : aggTy Try.prog 84 = some false := by kernel_rfl
@[go_sem] theorem sz84 : szTy Try.prog 84 = some 1 := by kernel_rfl
@[go_sem] theorem zero84 : zeroA Try.prog 84 = some (.base .nilFunc) := by kernel_rfl
@[go_sem] theorem el84 : elI Try.prog 84 1 8 = true := by kernel_rfl
@[go_sem] theorem agg85 : aggTy Try.prog 85 = some false := by kernel_rfl
@[go_sem] theorem sz85 : szTy Try.prog 85 = some 1 := by kernel_rfl
@[go_sem] theorem zero85 : zeroA Try.prog 85 = some (.base .nilFunc) := by kernel_rfl
@[go_sem] theorem el85 : elI Try.prog 85 1 8 = true := by kernel_rfl
@[go_sem] theorem agg86 : aggTy Try.prog 86 = some false := by kernel_rfl
@[go_sem] theorem sz86 : szTy Try.prog 86 = some 1 := by kernel_rfl
@[go_sem] theorem agg87 : aggTy Try.prog 87 = some false := by kernel_rfl
@[go_sem] theorem sz87 : szTy Try.prog 87 = some 1 := by kernel_rfl
@[go_sem] theorem zero87 : zeroA Try.prog 87 = some (.base .nilFunc) := by kernel_rfl
@[go_sem] theorem el87 : elI Try.prog 87 1 8 = true := by kernel_rfl
@[go_sem] theorem agg88 : aggTy Try.prog 88 = some false := by kernel_rfl
@[go_sem] theorem sz88 : szTy Try.prog 88 = some 1 := by kernel_rfl
@[go_sem] theorem zero88 : zeroA Try.prog 88 = some (.base .nilFunc) := by kernel_rfl
@[go_sem] theorem el88 : elI Try.prog 88 1 8 = true := by kernel_rfl
@[go_sem] theorem agg89 : aggTy Try.prog 89 = some true := by kernel_rfl
@[go_sem] theorem sz89 : szTy Try.prog 89 = some 4 := by kernel_rfl
@[go_sem] theorem zero89 : zeroA Try.prog 89 = some (.agg [.base (.pointer none), .base (.pointer none), .base (.pointer none), .base (.string ByteArray.empty)]) := by kernel_rfl
@[go_sem] theorem el89 : elI Try.prog 89 4 40 = true := by kernel_rfl
@[go_sem] theorem pl89 : placesOf Try.prog 89 = some [(0, 1), (1, 1), (2, 1), (3, 1)] := by kernel_rfl
@[go_sem] theorem off89_0 : fieldOff Try.prog 89 0 = some 0 := by kernel_rfl
@[go_sem] theorem off89_1 : fieldOff Try.prog 89 1 = some 1 := by kernel_rfl
@[go_sem] theorem off89_2 : fieldOff Try.prog 89 2 = some 2 := by kernel_rfl
@[go_sem] theorem off89_3 : fieldOff Try.prog 89 3 = some 3 := by kernel_rfl
@[go_sem] theorem agg90 : aggTy Try.prog 90 = some true := by kernel_rfl
@[go_sem] theorem sz90 : szTy Try.prog 90 = some 4 := by kernel_rfl
@[go_sem] theorem zero90 : zeroA Try.prog 90 = some (.agg [.base (.pointer none), .base (.pointer none), .base (.pointer none), .base (.string ByteArray.empty)]) := by kernel_rfl
@[go_sem] theorem el90 : elI Try.prog 90 4 40 = true := by kernel_rfl
@[go_sem] theorem pl90 : placesOf Try.prog 90 = some [(0, 1), (1, 1), (2, 1), (3, 1)] := by kernel_rfl
@[go_sem] theorem off90_0 : fieldOff Try.prog 90 0 = some 0 := by kernel_rfl
@[go_sem] theorem off90_1 : fieldOff Try.prog 90 1 = some 1 := by kernel_rfl
@[go_sem] theorem off90_2 : fieldOff Try.prog 90 2 = some 2 := by kernel_rfl
@[go_sem] theorem off90_3 : fieldOff Try.prog 90 3 = some 3 := by kernel_rfl
@[go_sem] theorem agg91 : aggTy Try.prog 91 = some true := by kernel_rfl
@[go_sem] theorem sz91 : szTy Try.prog 91 = some 0 := by kernel_rfl
@[go_sem] theorem agg92 : aggTy Try.prog 92 = some true := by kernel_rfl
@[go_sem] theorem sz92 : szTy Try.prog 92 = some 0 := by kernel_rfl
@[go_sem] theorem pl92 : placesOf Try.prog 92 = some [(0, 0)] := by kernel_rfl
@[go_sem] theorem agg93 : aggTy Try.prog 93 = some true := by kernel_rfl
@[go_sem] theorem sz93 : szTy Try.prog 93 = some 0 := by kernel_rfl
@[go_sem] theorem pl93 : placesOf Try.prog 93 = some [(0, 0)] := by kernel_rfl
@[go_sem] theorem agg94 : aggTy Try.prog 94 = some false := by kernel_rfl
@[go_sem] theorem sz94 : szTy Try.prog 94 = some 1 := by kernel_rfl
@[go_sem] theorem zero94 : zeroA Try.prog 94 = some (.base .nilFunc) := by kernel_rfl
@[go_sem] theorem el94 : elI Try.prog 94 1 8 = true := by kernel_rfl
@[go_sem] theorem agg95 : aggTy Try.prog 95 = some false := by kernel_rfl
@[go_sem] theorem sz95 : szTy Try.prog 95 = some 1 := by kernel_rfl
@[go_sem] theorem zero95 : zeroA Try.prog 95 = some (.base (.int .u32 (0))) := by kernel_rfl
@[go_sem] theorem el95 : elI Try.prog 95 1 4 = true := by kernel_rfl
@[go_sem] theorem agg96 : aggTy Try.prog 96 = some false := by kernel_rfl
@[go_sem] theorem sz96 : szTy Try.prog 96 = some 1 := by kernel_rfl
@[go_sem] theorem zero96 : zeroA Try.prog 96 = some (.base (.int .u8 (0))) := by kernel_rfl
@[go_sem] theorem el96 : elI Try.prog 96 1 1 = true := by kernel_rfl
@[go_sem] theorem agg97 : aggTy Try.prog 97 = some false := by kernel_rfl
@[go_sem] theorem sz97 : szTy Try.prog 97 = some 1 := by kernel_rfl
@[go_sem] theorem zero97 : zeroA Try.prog 97 = some (.base (.int .u8 (0))) := by kernel_rfl
@[go_sem] theorem el97 : elI Try.prog 97 1 1 = true := by kernel_rfl
@[go_sem] theorem agg98 : aggTy Try.prog 98 = some false := by kernel_rfl
@[go_sem] theorem sz98 : szTy Try.prog 98 = some 1 := by kernel_rfl
@[go_sem] theorem zero98 : zeroA Try.prog 98 = some (.base .nilFunc) := by kernel_rfl
@[go_sem] theorem el98 : elI Try.prog 98 1 8 = true := by kernel_rfl
@[go_sem] theorem agg99 : aggTy Try.prog 99 = some false := by kernel_rfl
@[go_sem] theorem sz99 : szTy Try.prog 99 = some 1 := by kernel_rfl
@[go_sem] theorem zero99 : zeroA Try.prog 99 = some (.base (.pointer none)) := by kernel_rfl
@[go_sem] theorem el99 : elI Try.prog 99 1 8 = true := by kernel_rfl
@[go_sem] theorem agg100 : aggTy Try.prog 100 = some false := by kernel_rfl
@[go_sem] theorem sz100 : szTy Try.prog 100 = some 1 := by kernel_rfl
@[go_sem] theorem zero100 : zeroA Try.prog 100 = some (.base (.int .i32 (0))) := by kernel_rfl
@[go_sem] theorem el100 : elI Try.prog 100 1 4 = true := by kernel_rfl
@[go_sem] theorem agg101 : aggTy Try.prog 101 = some false := by kernel_rfl
@[go_sem] theorem sz101 : szTy Try.prog 101 = some 1 := by kernel_rfl
@[go_sem] theorem zero101 : zeroA Try.prog 101 = some (.base (.int .i32 (0))) := by kernel_rfl
@[go_sem] theorem el101 : elI Try.prog 101 1 4 = true := by kernel_rfl
@[go_sem] theorem agg102 : aggTy Try.prog 102 = some true := by kernel_rfl
@[go_sem] theorem sz102 : szTy Try.prog 102 = some 11 := by kernel_rfl
@[go_sem] theorem zero102 : zeroA Try.prog 102 = some (.agg [.base (.int .u64 (0)), .base (.int .u64 (0)), .base (.int .u32 (0)), .base (.int .u8 (0)), .base (.int .u8 (0)), .base (.int .u8 (0)), .base (.int .u8 (0)), .base .nilFunc, .base (.pointer none), .base (.int .i32 (0)), .base (.int .i32 (0))]) := by kernel_rfl
@[go_sem] theorem el102 : elI Try.prog 102 11 48 = true := by kernel_rfl
@[go_sem] theorem pl102 : placesOf Try.prog 102 = some [(0, 1), (1, 1), (2, 1), (3, 1), (4, 1), (5, 1), (6, 1), (7, 1), (8, 1), (9, 1), (10, 1)] := by kernel_rfl
@[go_sem] theorem off102_0 : fieldOff Try.prog 102 0 = some 0 := by kernel_rfl
@[go_sem] theorem off102_1 : fieldOff Try.prog 102 1 = some 1 := by kernel_rfl
@[go_sem] theorem off102_2 : fieldOff Try.prog 102 2 = some 2 := by kernel_rfl
@[go_sem] theorem off102_3 : fieldOff Try.prog 102 3 = some 3 := by kernel_rfl
@[go_sem] theorem off102_4 : fieldOff Try.prog 102 4 = some 4 := by kernel_rfl
@[go_sem] theorem off102_5 : fieldOff Try.prog 102 5 = some 5 := by kernel_rfl
@[go_sem] theorem off102_6 : fieldOff Try.prog 102 6 = some 6 := by kernel_rfl
@[go_sem] theorem off102_7 : fieldOff Try.prog 102 7 = some 7 := by kernel_rfl
@[go_sem] theorem off102_8 : fieldOff Try.prog 102 8 = some 8 := by kernel_rfl
@[go_sem] theorem off102_9 : fieldOff Try.prog 102 9 = some 9 := by kernel_rfl
@[go_sem] theorem off102_10 : fieldOff Try.prog 102 10 = some 10 := by kernel_rfl
@[go_sem] theorem agg103 : aggTy Try.prog 103 = some true := by kernel_rfl
@[go_sem] theorem sz103 : szTy Try.prog 103 = some 11 := by kernel_rfl
@[go_sem] theorem zero103 : zeroA Try.prog 103 = some (.agg [.base (.int .u64 (0)), .base (.int .u64 (0)), .base (.int .u32 (0)), .base (.int .u8 (0)), .base (.int .u8 (0)), .base (.int .u8 (0)), .base (.int .u8 (0)), .base .nilFunc, .base (.pointer none), .base (.int .i32 (0)), .base (.int .i32 (0))]) := by kernel_rfl
@[go_sem] theorem el103 : elI Try.prog 103 11 48 = true := by kernel_rfl
@[go_sem] theorem pl103 : placesOf Try.prog 103 = some [(0, 1), (1, 1), (2, 1), (3, 1), (4, 1), (5, 1), (6, 1), (7, 1), (8, 1), (9, 1), (10, 1)] := by kernel_rfl
@[go_sem] theorem off103_0 : fieldOff Try.prog 103 0 = some 0 := by kernel_rfl
@[go_sem] theorem off103_1 : fieldOff Try.prog 103 1 = some 1 := by kernel_rfl
@[go_sem] theorem off103_2 : fieldOff Try.prog 103 2 = some 2 := by kernel_rfl
@[go_sem] theorem off103_3 : fieldOff Try.prog 103 3 = some 3 := by kernel_rfl
@[go_sem] theorem off103_4 : fieldOff Try.prog 103 4 = some 4 := by kernel_rfl
@[go_sem] theorem off103_5 : fieldOff Try.prog 103 5 = some 5 := by kernel_rfl
@[go_sem] theorem off103_6 : fieldOff Try.prog 103 6 = some 6 := by kernel_rfl
@[go_sem] theorem off103_7 : fieldOff Try.prog 103 7 = some 7 := by kernel_rfl
@[go_sem] theorem off103_8 : fieldOff Try.prog 103 8 = some 8 := by kernel_rfl
@[go_sem] theorem off103_9 : fieldOff Try.prog 103 9 = some 9 := by kernel_rfl
@[go_sem] theorem off103_10 : fieldOff Try.prog 103 10 = some 10 := by kernel_rfl
@[go_sem] theorem agg104 : aggTy Try.prog 104 = some false := by kernel_rfl
@[go_sem] theorem sz104 : szTy Try.prog 104 = some 1 := by kernel_rfl
@[go_sem] theorem zero104 : zeroA Try.prog 104 = some (.base (.pointer none)) := by kernel_rfl
@[go_sem] theorem el104 : elI Try.prog 104 1 8 = true := by kernel_rfl
attribute [go_sem] Try.underlying0 Try.underlying1 Try.underlying2 Try.underlying3 Try.underlying4 Try.underlying5 Try.underlying6 Try.underlying7 Try.underlying8 Try.underlying9 Try.underlying10 Try.underlying11 Try.underlying12 Try.underlying13 Try.underlying14 Try.underlying15 Try.underlying16 Try.underlying17 Try.underlying18 Try.underlying19 Try.underlying20 Try.underlying21 Try.underlying22 Try.underlying23 Try.underlying24 Try.underlying25 Try.underlying26 Try.underlying27 Try.underlying28 Try.underlying29 Try.underlying30 Try.underlying31 Try.underlying32 Try.underlying33 Try.underlying34 Try.underlying35 Try.underlying36 Try.underlying37 Try.underlying38 Try.underlying39 Try.underlying40 Try.underlying41 Try.underlying42 Try.underlying43 Try.underlying44 Try.underlying45 Try.underlying46 Try.underlying47 Try.underlying48 Try.underlying49 Try.underlying50 Try.underlying51 Try.underlying52 Try.underlying53 Try.underlying54 Try.underlying55 Try.underlying56 Try.underlying57 Try.underlying58 Try.underlying59 Try.underlying60 Try.underlying61 Try.underlying62 Try.underlying63 Try.underlying64 Try.underlying65 Try.underlying66 Try.underlying67 Try.underlying68 Try.underlying69 Try.underlying70 Try.underlying71 Try.underlying72 Try.underlying73 Try.underlying74 Try.underlying75 Try.underlying76 Try.underlying77 Try.underlying78 Try.underlying79 Try.underlying80 Try.underlying81 Try.underlying82 Try.underlying83 Try.underlying84 Try.underlying85 Try.underlying86 Try.underlying87 Try.underlying88 Try.underlying89 Try.underlying90 Try.underlying91 Try.underlying92 Try.underlying93 Try.underlying94 Try.underlying95 Try.underlying96 Try.underlying97 Try.underlying98 Try.underlying99 Try.underlying100 Try.underlying101 Try.underlying102 Try.underlying103 Try.underlying104
end Go.Ab.Ty
namespace Go.Ab
open Go Go.Ab Go.Proofs Go.Ab.Ty

structure Stp where
  op : Int
  v : Int
  w : Int
  n : Int
  task : Int
  vars : List Int
structure Cd where
  params : Int
  vars : Int
  steps : List Stp
structure Tk where
  codes : List Cd
  methods : List Cd
  actors : Int

def encI (x : Int) : AV := .base (.int .i64 x)
@[go_sem] theorem encI_eq (x : Int) : encI x = .base (.int .i64 x) := rfl
def encS (s : Stp) : AV := .agg [.int s.op, .int s.v, .int s.w, .int s.n, .int s.task, .lst (s.vars.map .int)]
def encC (c : Cd) : AV := .agg [.int c.params, .int c.vars, .lst (c.steps.map encS)]
def encT (p : Tk) : AV := .agg [.lst (p.codes.map encC), .lst (p.methods.map encC), .int p.actors]
attribute [go_sem] encS encC encT List.length_map

structure Lk where
  p : Tk
  c : Cd
  own : Int
  method : Bool
def encL (l : Lk) : AV := .agg [.lst (l.p.codes.map encC), .lst (l.p.methods.map encC), .int l.p.actors, .int l.c.params, .int l.c.vars, .lst (l.c.steps.map encS), .int l.own, .base (.bool l.method)]
attribute [go_sem] encL
theorem Pu_mapS (l : List Stp) : Pu (.lst (l.map encS)) := .lst fun e he c hc => by
  obtain ⟨x, _, rfl⟩ := List.mem_map.1 he
  simp only [encS, AV.cells, List.mem_cons, List.not_mem_nil, or_false] at hc
  rcases hc with rfl | rfl | rfl | rfl | rfl | rfl <;> first | exact .base _ | exact Pu_mapInt _
theorem Pu_encS (s : Stp) : Pu (encS s) := .agg fun c hc => by
  simp only [List.mem_cons, List.not_mem_nil, or_false] at hc
  rcases hc with rfl | rfl | rfl | rfl | rfl | rfl <;> first | exact .base _ | exact Pu_mapInt _
theorem Pu_encC (s : Cd) : Pu (encC s) := .agg fun c hc => by
  simp only [List.mem_cons, List.not_mem_nil, or_false] at hc
  rcases hc with rfl | rfl | rfl <;> first | exact .base _ | exact Pu_mapS _
theorem Pu_mapC (l : List Cd) : Pu (.lst (l.map encC)) := .lst fun e he c hc => by
  obtain ⟨x, _, rfl⟩ := List.mem_map.1 he
  simp only [encC, AV.cells, List.mem_cons, List.not_mem_nil, or_false] at hc
  rcases hc with rfl | rfl | rfl <;> first | exact .base _ | exact Pu_mapS _
theorem Pu_encT (s : Tk) : Pu (encT s) := .agg fun c hc => by
  simp only [List.mem_cons, List.not_mem_nil, or_false] at hc
  rcases hc with rfl | rfl | rfl <;> first | exact .base _ | exact Pu_mapC _
theorem Pu_encL (s : Lk) : Pu (encL s) := .agg fun c hc => by
  simp only [List.mem_cons, List.not_mem_nil, or_false] at hc
  rcases hc with rfl | rfl | rfl | rfl | rfl | rfl | rfl | rfl <;> first | exact .base _ | exact Pu_mapC _ | exact Pu_mapS _

def Stp.Bd (s : Stp) : Prop := s.vars.length ≤ 9223372036854775807
def Cd.Bd (c : Cd) : Prop := c.steps.length ≤ 9223372036854775807 ∧ ∀ s ∈ c.steps, s.Bd
def Tk.Bd (p : Tk) : Prop := p.codes.length ≤ 9223372036854775807 ∧ p.methods.length ≤ 9223372036854775807 ∧ (∀ c ∈ p.codes, c.Bd) ∧ (∀ c ∈ p.methods, c.Bd)
section
variable {w : World} {O : Nat → Prop} {ι : Nat → Option Nat} {H : List ABlk} {u : Value}
theorem VR.bdS {s : Stp} (h : VR w O ι H (encS s) u) : s.Bd := by
  obtain ⟨v, hv⟩ := h.agg_el (j := 5) rfl
  have := hv.lst_len; rw [List.length_map] at this; exact this
theorem VR.bdL {l : List Stp} (h : VR w O ι H (.lst (l.map encS)) u) : l.length ≤ 9223372036854775807 ∧ ∀ s ∈ l, s.Bd := by
  refine ⟨by simpa using h.lst_len, fun s hs => ?_⟩
  obtain ⟨v, hv⟩ := h.lst_el (List.mem_map_of_mem hs) (j := 5) rfl
  simpa [Stp.Bd] using hv.lst_len
theorem VR.bdC {c : Cd} (h : VR w O ι H (encC c) u) : c.Bd := by
  obtain ⟨v, hv⟩ := h.agg_el (j := 2) rfl
  exact hv.bdL
theorem VR.bdM {l : List Cd} (h : VR w O ι H (.lst (l.map encC)) u) : l.length ≤ 9223372036854775807 ∧ ∀ c ∈ l, c.Bd := by
  refine ⟨by simpa using h.lst_len, fun s hs => ?_⟩
  obtain ⟨v, hv⟩ := h.lst_el (List.mem_map_of_mem hs) (j := 2) rfl
  exact hv.bdL
theorem VR.bdT {p : Tk} (h : VR w O ι H (encT p) u) : p.Bd := by
  obtain ⟨v, hv⟩ := h.agg_el (j := 0) rfl
  obtain ⟨v2, hv2⟩ := h.agg_el (j := 1) rfl
  exact ⟨hv.bdM.1, hv2.bdM.1, hv.bdM.2, hv2.bdM.2⟩
end
attribute [simp] Pu_mapS Pu_encS Pu_encC Pu_mapC Pu_encT Pu_encL
end Go.Ab
