/- Closed facts on the types of the program. Made by a program (gen_types.py). -/
import Derived.Test.YtjfahhbobiiphaaProg
import Derived.Test.YtjfahhbobiiphaaAbD
import Derived.Test.YtjfahhbobiiphaaAbF
set_option linter.unusedSimpArgs false
set_option linter.unusedVariables false
namespace Go.Ab.Ty
open Go Go.Ab Go.Proofs

theorem follows : Try.prog.follows .mixedOrders = true := by kernel_rfl
@[go_sem] theorem agg0 : aggTy Try.prog 0 = some false := by kernel_rfl
@[go_sem] theorem sz0 : szTy Try.prog 0 = some 1 := by kernel_rfl
@[go_sem] theorem agg1 : aggTy Try.prog 1 = some false := by kernel_rfl
@[go_sem] theorem sz1 : szTy Try.prog 1 = some 1 := by kernel_rfl
@[go_sem] theorem zero1 : zeroA Try.prog 1 = some (.base .nilFunc) := by kernel_rfl
@[go_sem] theorem el1 : elI Try.prog 1 1 8 = true := by kernel_rfl
@[go_sem] theorem agg2 : aggTy Try.prog 2 = some false := by kernel_rfl
@[go_sem] theorem sz2 : szTy Try.prog 2 = some 1 := by kernel_rfl
@[go_sem] theorem zero2 : zeroA Try.prog 2 = some (.base (.int .i64 (0))) := by kernel_rfl
@[go_sem] theorem el2 : elI Try.prog 2 1 8 = true := by kernel_rfl
@[go_sem] theorem agg3 : aggTy Try.prog 3 = some false := by kernel_rfl
@[go_sem] theorem sz3 : szTy Try.prog 3 = some 1 := by kernel_rfl
@[go_sem] theorem zero3 : zeroA Try.prog 3 = some (.base (.int .i64 (0))) := by kernel_rfl
@[go_sem] theorem el3 : elI Try.prog 3 1 8 = true := by kernel_rfl
@[go_sem] theorem agg4 : aggTy Try.prog 4 = some false := by kernel_rfl
@[go_sem] theorem sz4 : szTy Try.prog 4 = some 1 := by kernel_rfl
@[go_sem] theorem zero4 : zeroA Try.prog 4 = some (.base (.bool false)) := by kernel_rfl
@[go_sem] theorem el4 : elI Try.prog 4 1 1 = true := by kernel_rfl
@[go_sem] theorem agg5 : aggTy Try.prog 5 = some false := by kernel_rfl
@[go_sem] theorem sz5 : szTy Try.prog 5 = some 1 := by kernel_rfl
@[go_sem] theorem zero5 : zeroA Try.prog 5 = some (.base (.int .u8 (0))) := by kernel_rfl
@[go_sem] theorem el5 : elI Try.prog 5 1 1 = true := by kernel_rfl
@[go_sem] theorem agg6 : aggTy Try.prog 6 = some false := by kernel_rfl
@[go_sem] theorem sz6 : szTy Try.prog 6 = some 1 := by kernel_rfl
@[go_sem] theorem zero6 : zeroA Try.prog 6 = some (.base (.int .u8 (0))) := by kernel_rfl
@[go_sem] theorem el6 : elI Try.prog 6 1 1 = true := by kernel_rfl
@[go_sem] theorem agg7 : aggTy Try.prog 7 = some true := by kernel_rfl
@[go_sem] theorem sz7 : szTy Try.prog 7 = some 4 := by kernel_rfl
@[go_sem] theorem zero7 : zeroA Try.prog 7 = some (.agg [.base (.int .i64 (0)), .base (.int .i64 (0)), .base (.bool false), .base (.int .u8 (0))]) := by kernel_rfl
@[go_sem] theorem el7 : elI Try.prog 7 4 24 = true := by kernel_rfl
@[go_sem] theorem pl7 : placesOf Try.prog 7 = some [(0, 1), (1, 1), (2, 1), (3, 1)] := by kernel_rfl
@[go_sem] theorem off7_0 : fieldOff Try.prog 7 0 = some 0 := by kernel_rfl
@[go_sem] theorem off7_1 : fieldOff Try.prog 7 1 = some 1 := by kernel_rfl
@[go_sem] theorem off7_2 : fieldOff Try.prog 7 2 = some 2 := by kernel_rfl
@[go_sem] theorem off7_3 : fieldOff Try.prog 7 3 = some 3 := by kernel_rfl
@[go_sem] theorem agg8 : aggTy Try.prog 8 = some true := by kernel_rfl
@[go_sem] theorem sz8 : szTy Try.prog 8 = some 4 := by kernel_rfl
@[go_sem] theorem zero8 : zeroA Try.prog 8 = some (.agg [.base (.int .i64 (0)), .base (.int .i64 (0)), .base (.bool false), .base (.int .u8 (0))]) := by kernel_rfl
@[go_sem] theorem el8 : elI Try.prog 8 4 24 = true := by kernel_rfl
@[go_sem] theorem pl8 : placesOf Try.prog 8 = some [(0, 1), (1, 1), (2, 1), (3, 1)] := by kernel_rfl
@[go_sem] theorem off8_0 : fieldOff Try.prog 8 0 = some 0 := by kernel_rfl
@[go_sem] theorem off8_1 : fieldOff Try.prog 8 1 = some 1 := by kernel_rfl
@[go_sem] theorem off8_2 : fieldOff Try.prog 8 2 = some 2 := by kernel_rfl
@[go_sem] theorem off8_3 : fieldOff Try.prog 8 3 = some 3 := by kernel_rfl
@[go_sem] theorem agg9 : aggTy Try.prog 9 = some false := by kernel_rfl
@[go_sem] theorem sz9 : szTy Try.prog 9 = some 1 := by kernel_rfl
@[go_sem] theorem zero9 : zeroA Try.prog 9 = some (.base (.string ByteArray.empty)) := by kernel_rfl
@[go_sem] theorem el9 : elI Try.prog 9 1 16 = true := by kernel_rfl
@[go_sem] theorem agg10 : aggTy Try.prog 10 = some false := by kernel_rfl
@[go_sem] theorem sz10 : szTy Try.prog 10 = some 1 := by kernel_rfl
@[go_sem] theorem zero10 : zeroA Try.prog 10 = some (.base (.string ByteArray.empty)) := by kernel_rfl
@[go_sem] theorem el10 : elI Try.prog 10 1 16 = true := by kernel_rfl
@[go_sem] theorem agg11 : aggTy Try.prog 11 = some false := by kernel_rfl
@[go_sem] theorem sz11 : szTy Try.prog 11 = some 1 := by kernel_rfl
@[go_sem] theorem zero11 : zeroA Try.prog 11 = some (.base (.string ByteArray.empty)) := by kernel_rfl
@[go_sem] theorem el11 : elI Try.prog 11 1 16 = true := by kernel_rfl
@[go_sem] theorem agg12 : aggTy Try.prog 12 = some false := by kernel_rfl
@[go_sem] theorem sz12 : szTy Try.prog 12 = some 1 := by kernel_rfl
@[go_sem] theorem zero12 : zeroA Try.prog 12 = some (.base (.int .u64 (0))) := by kernel_rfl
@[go_sem] theorem el12 : elI Try.prog 12 1 8 = true := by kernel_rfl
@[go_sem] theorem agg13 : aggTy Try.prog 13 = some true := by kernel_rfl
@[go_sem] theorem sz13 : szTy Try.prog 13 = some 2 := by kernel_rfl
@[go_sem] theorem zero13 : zeroA Try.prog 13 = some (.agg [.base (.string ByteArray.empty), .base (.int .u64 (0))]) := by kernel_rfl
@[go_sem] theorem el13 : elI Try.prog 13 2 24 = true := by kernel_rfl
@[go_sem] theorem pl13 : placesOf Try.prog 13 = some [(0, 1), (1, 1)] := by kernel_rfl
@[go_sem] theorem off13_0 : fieldOff Try.prog 13 0 = some 0 := by kernel_rfl
@[go_sem] theorem off13_1 : fieldOff Try.prog 13 1 = some 1 := by kernel_rfl
@[go_sem] theorem agg14 : aggTy Try.prog 14 = some true := by kernel_rfl
@[go_sem] theorem sz14 : szTy Try.prog 14 = some 2 := by kernel_rfl
@[go_sem] theorem zero14 : zeroA Try.prog 14 = some (.agg [.base (.string ByteArray.empty), .base (.int .u64 (0))]) := by kernel_rfl
@[go_sem] theorem el14 : elI Try.prog 14 2 24 = true := by kernel_rfl
@[go_sem] theorem pl14 : placesOf Try.prog 14 = some [(0, 1), (1, 1)] := by kernel_rfl
@[go_sem] theorem off14_0 : fieldOff Try.prog 14 0 = some 0 := by kernel_rfl
@[go_sem] theorem off14_1 : fieldOff Try.prog 14 1 = some 1 := by kernel_rfl
@[go_sem] theorem agg15 : aggTy Try.prog 15 = some false := by kernel_rfl
@[go_sem] theorem sz15 : szTy Try.prog 15 = some 1 := by kernel_rfl
@[go_sem] theorem zero15 : zeroA Try.prog 15 = some (.base (.pointer none)) := by kernel_rfl
@[go_sem] theorem el15 : elI Try.prog 15 1 8 = true := by kernel_rfl
@[go_sem] theorem agg16 : aggTy Try.prog 16 = some false := by kernel_rfl
@[go_sem] theorem sz16 : szTy Try.prog 16 = some 1 := by kernel_rfl
@[go_sem] theorem zero16 : zeroA Try.prog 16 = some (.base (.pointer none)) := by kernel_rfl
@[go_sem] theorem el16 : elI Try.prog 16 1 8 = true := by kernel_rfl
@[go_sem] theorem agg17 : aggTy Try.prog 17 = some false := by kernel_rfl
@[go_sem] theorem sz17 : szTy Try.prog 17 = some 1 := by kernel_rfl
@[go_sem] theorem zero17 : zeroA Try.prog 17 = some (.base (.pointer none)) := by kernel_rfl
@[go_sem] theorem el17 : elI Try.prog 17 1 8 = true := by kernel_rfl
@[go_sem] theorem agg18 : aggTy Try.prog 18 = some true := by kernel_rfl
@[go_sem] theorem sz18 : szTy Try.prog 18 = some 1 := by kernel_rfl
@[go_sem] theorem zero18 : zeroA Try.prog 18 = some (.agg [.base (.pointer none)]) := by kernel_rfl
@[go_sem] theorem el18 : elI Try.prog 18 1 8 = true := by kernel_rfl
@[go_sem] theorem pl18 : placesOf Try.prog 18 = some [(0, 1)] := by kernel_rfl
@[go_sem] theorem off18_0 : fieldOff Try.prog 18 0 = some 0 := by kernel_rfl
@[go_sem] theorem agg19 : aggTy Try.prog 19 = some true := by kernel_rfl
@[go_sem] theorem sz19 : szTy Try.prog 19 = some 1 := by kernel_rfl
@[go_sem] theorem zero19 : zeroA Try.prog 19 = some (.agg [.base (.pointer none)]) := by kernel_rfl
@[go_sem] theorem el19 : elI Try.prog 19 1 8 = true := by kernel_rfl
@[go_sem] theorem pl19 : placesOf Try.prog 19 = some [(0, 1)] := by kernel_rfl
@[go_sem] theorem off19_0 : fieldOff Try.prog 19 0 = some 0 := by kernel_rfl
@[go_sem] theorem agg20 : aggTy Try.prog 20 = some false := by kernel_rfl
@[go_sem] theorem sz20 : szTy Try.prog 20 = some 1 := by kernel_rfl
@[go_sem] theorem zero20 : zeroA Try.prog 20 = some (.base .nilIface) := by kernel_rfl
@[go_sem] theorem el20 : elI Try.prog 20 1 16 = true := by kernel_rfl
@[go_sem] theorem agg21 : aggTy Try.prog 21 = some false := by kernel_rfl
@[go_sem] theorem sz21 : szTy Try.prog 21 = some 1 := by kernel_rfl
@[go_sem] theorem zero21 : zeroA Try.prog 21 = some (.base (.int .i32 (0))) := by kernel_rfl
@[go_sem] theorem el21 : elI Try.prog 21 1 4 = true := by kernel_rfl
@[go_sem] theorem agg22 : aggTy Try.prog 22 = some false := by kernel_rfl
@[go_sem] theorem sz22 : szTy Try.prog 22 = some 1 := by kernel_rfl
@[go_sem] theorem zero22 : zeroA Try.prog 22 = some (.base (.slice none 0 0)) := by kernel_rfl
@[go_sem] theorem el22 : elI Try.prog 22 1 24 = true := by kernel_rfl
@[go_sem] theorem agg23 : aggTy Try.prog 23 = some true := by kernel_rfl
@[go_sem] theorem sz23 : szTy Try.prog 23 = some 3 := by kernel_rfl
@[go_sem] theorem zero23 : zeroA Try.prog 23 = some (.agg [.base (.int .i64 (0)), .base (.string ByteArray.empty), .base (.slice none 0 0)]) := by kernel_rfl
@[go_sem] theorem el23 : elI Try.prog 23 3 48 = true := by kernel_rfl
@[go_sem] theorem pl23 : placesOf Try.prog 23 = some [(0, 1), (1, 1), (2, 1)] := by kernel_rfl
@[go_sem] theorem off23_0 : fieldOff Try.prog 23 0 = some 0 := by kernel_rfl
@[go_sem] theorem off23_1 : fieldOff Try.prog 23 1 = some 1 := by kernel_rfl
@[go_sem] theorem off23_2 : fieldOff Try.prog 23 2 = some 2 := by kernel_rfl
@[go_sem] theorem agg24 : aggTy Try.prog 24 = some true := by kernel_rfl
@[go_sem] theorem sz24 : szTy Try.prog 24 = some 3 := by kernel_rfl
@[go_sem] theorem zero24 : zeroA Try.prog 24 = some (.agg [.base (.int .i64 (0)), .base (.string ByteArray.empty), .base (.slice none 0 0)]) := by kernel_rfl
@[go_sem] theorem el24 : elI Try.prog 24 3 48 = true := by kernel_rfl
@[go_sem] theorem pl24 : placesOf Try.prog 24 = some [(0, 1), (1, 1), (2, 1)] := by kernel_rfl
@[go_sem] theorem off24_0 : fieldOff Try.prog 24 0 = some 0 := by kernel_rfl
@[go_sem] theorem off24_1 : fieldOff Try.prog 24 1 = some 1 := by kernel_rfl
@[go_sem] theorem off24_2 : fieldOff Try.prog 24 2 = some 2 := by kernel_rfl
@[go_sem] theorem agg25 : aggTy Try.prog 25 = some false := by kernel_rfl
@[go_sem] theorem sz25 : szTy Try.prog 25 = some 1 := by kernel_rfl
@[go_sem] theorem zero25 : zeroA Try.prog 25 = some (.base .nilFunc) := by kernel_rfl
@[go_sem] theorem el25 : elI Try.prog 25 1 8 = true := by kernel_rfl
@[go_sem] theorem agg26 : aggTy Try.prog 26 = some false := by kernel_rfl
@[go_sem] theorem sz26 : szTy Try.prog 26 = some 1 := by kernel_rfl
@[go_sem] theorem zero26 : zeroA Try.prog 26 = some (.base (.int .i64 (0))) := by kernel_rfl
@[go_sem] theorem el26 : elI Try.prog 26 1 8 = true := by kernel_rfl
@[go_sem] theorem agg27 : aggTy Try.prog 27 = some false := by kernel_rfl
@[go_sem] theorem sz27 : szTy Try.prog 27 = some 1 := by kernel_rfl
@[go_sem] theorem agg28 : aggTy Try.prog 28 = some false := by kernel_rfl
@[go_sem] theorem sz28 : szTy Try.prog 28 = some 1 := by kernel_rfl
@[go_sem] theorem zero28 : zeroA Try.prog 28 = some (.base .nilFunc) := by kernel_rfl
@[go_sem] theorem el28 : elI Try.prog 28 1 8 = true := by kernel_rfl
@[go_sem] theorem agg29 : aggTy Try.prog 29 = some false := by kernel_rfl
@[go_sem] theorem sz29 : szTy Try.prog 29 = some 1 := by kernel_rfl
@[go_sem] theorem zero29 : zeroA Try.prog 29 = some (.base .nilFunc) := by kernel_rfl
@[go_sem] theorem el29 : elI Try.prog 29 1 8 = true := by kernel_rfl
@[go_sem] theorem agg30 : aggTy Try.prog 30 = some false := by kernel_rfl
@[go_sem] theorem sz30 : szTy Try.prog 30 = some 1 := by kernel_rfl
@[go_sem] theorem zero30 : zeroA Try.prog 30 = some (.base .nilFunc) := by kernel_rfl
@[go_sem] theorem el30 : elI Try.prog 30 1 8 = true := by kernel_rfl
@[go_sem] theorem agg31 : aggTy Try.prog 31 = some false := by kernel_rfl
@[go_sem] theorem sz31 : szTy Try.prog 31 = some 1 := by kernel_rfl
@[go_sem] theorem zero31 : zeroA Try.prog 31 = some (.base .nilFunc) := by kernel_rfl
@[go_sem] theorem el31 : elI Try.prog 31 1 8 = true := by kernel_rfl
@[go_sem] theorem agg32 : aggTy Try.prog 32 = some false := by kernel_rfl
@[go_sem] theorem sz32 : szTy Try.prog 32 = some 1 := by kernel_rfl
@[go_sem] theorem zero32 : zeroA Try.prog 32 = some (.base (.slice none 0 0)) := by kernel_rfl
@[go_sem] theorem el32 : elI Try.prog 32 1 24 = true := by kernel_rfl
@[go_sem] theorem agg33 : aggTy Try.prog 33 = some false := by kernel_rfl
@[go_sem] theorem sz33 : szTy Try.prog 33 = some 1 := by kernel_rfl
@[go_sem] theorem agg34 : aggTy Try.prog 34 = some false := by kernel_rfl
@[go_sem] theorem sz34 : szTy Try.prog 34 = some 1 := by kernel_rfl
@[go_sem] theorem zero34 : zeroA Try.prog 34 = some (.base .nilFunc) := by kernel_rfl
@[go_sem] theorem el34 : elI Try.prog 34 1 8 = true := by kernel_rfl
@[go_sem] theorem agg35 : aggTy Try.prog 35 = some false := by kernel_rfl
@[go_sem] theorem sz35 : szTy Try.prog 35 = some 1 := by kernel_rfl
@[go_sem] theorem zero35 : zeroA Try.prog 35 = some (.base .nilFunc) := by kernel_rfl
@[go_sem] theorem el35 : elI Try.prog 35 1 8 = true := by kernel_rfl
@[go_sem] theorem agg36 : aggTy Try.prog 36 = some false := by kernel_rfl
@[go_sem] theorem sz36 : szTy Try.prog 36 = some 1 := by kernel_rfl
@[go_sem] theorem zero36 : zeroA Try.prog 36 = some (.base .nilFunc) := by kernel_rfl
@[go_sem] theorem el36 : elI Try.prog 36 1 8 = true := by kernel_rfl
@[go_sem] theorem agg37 : aggTy Try.prog 37 = some false := by kernel_rfl
@[go_sem] theorem sz37 : szTy Try.prog 37 = some 1 := by kernel_rfl
@[go_sem] theorem agg38 : aggTy Try.prog 38 = some false := by kernel_rfl
@[go_sem] theorem sz38 : szTy Try.prog 38 = some 1 := by kernel_rfl
@[go_sem] theorem zero38 : zeroA Try.prog 38 = some (.base .nilFunc) := by kernel_rfl
@[go_sem] theorem el38 : elI Try.prog 38 1 8 = true := by kernel_rfl
@[go_sem] theorem agg39 : aggTy Try.prog 39 = some false := by kernel_rfl
@[go_sem] theorem sz39 : szTy Try.prog 39 = some 1 := by kernel_rfl
@[go_sem] theorem zero39 : zeroA Try.prog 39 = some (.base .nilFunc) := by kernel_rfl
@[go_sem] theorem el39 : elI Try.prog 39 1 8 = true := by kernel_rfl
@[go_sem] theorem agg40 : aggTy Try.prog 40 = some false := by kernel_rfl
@[go_sem] theorem sz40 : szTy Try.prog 40 = some 1 := by kernel_rfl
@[go_sem] theorem zero40 : zeroA Try.prog 40 = some (.base (.slice none 0 0)) := by kernel_rfl
@[go_sem] theorem el40 : elI Try.prog 40 1 24 = true := by kernel_rfl
@[go_sem] theorem agg41 : aggTy Try.prog 41 = some false := by kernel_rfl
@[go_sem] theorem sz41 : szTy Try.prog 41 = some 1 := by kernel_rfl
@[go_sem] theorem agg42 : aggTy Try.prog 42 = some false := by kernel_rfl
@[go_sem] theorem sz42 : szTy Try.prog 42 = some 1 := by kernel_rfl
@[go_sem] theorem zero42 : zeroA Try.prog 42 = some (.base .nilFunc) := by kernel_rfl
@[go_sem] theorem el42 : elI Try.prog 42 1 8 = true := by kernel_rfl
@[go_sem] theorem agg43 : aggTy Try.prog 43 = some true := by kernel_rfl
@[go_sem] theorem sz43 : szTy Try.prog 43 = some 2 := by kernel_rfl
@[go_sem] theorem zero43 : zeroA Try.prog 43 = some (.agg [.base (.int .i64 (0)), .base (.int .i64 (0))]) := by kernel_rfl
@[go_sem] theorem el43 : elI Try.prog 43 2 16 = true := by kernel_rfl
@[go_sem] theorem agg44 : aggTy Try.prog 44 = some false := by kernel_rfl
@[go_sem] theorem sz44 : szTy Try.prog 44 = some 1 := by kernel_rfl
@[go_sem] theorem agg45 : aggTy Try.prog 45 = some false := by kernel_rfl
@[go_sem] theorem sz45 : szTy Try.prog 45 = some 1 := by kernel_rfl
@[go_sem] theorem zero45 : zeroA Try.prog 45 = some (.base .nilFunc) := by kernel_rfl
@[go_sem] theorem el45 : elI Try.prog 45 1 8 = true := by kernel_rfl
@[go_sem] theorem agg46 : aggTy Try.prog 46 = some false := by kernel_rfl
@[go_sem] theorem sz46 : szTy Try.prog 46 = some 1 := by kernel_rfl
@[go_sem] theorem agg47 : aggTy Try.prog 47 = some false := by kernel_rfl
@[go_sem] theorem sz47 : szTy Try.prog 47 = some 1 := by kernel_rfl
@[go_sem] theorem zero47 : zeroA Try.prog 47 = some (.base .nilFunc) := by kernel_rfl
@[go_sem] theorem el47 : elI Try.prog 47 1 8 = true := by kernel_rfl
@[go_sem] theorem agg48 : aggTy Try.prog 48 = some false := by kernel_rfl
@[go_sem] theorem sz48 : szTy Try.prog 48 = some 1 := by kernel_rfl
@[go_sem] theorem zero48 : zeroA Try.prog 48 = some (.base .nilFunc) := by kernel_rfl
@[go_sem] theorem el48 : elI Try.prog 48 1 8 = true := by kernel_rfl
@[go_sem] theorem agg49 : aggTy Try.prog 49 = some false := by kernel_rfl
@[go_sem] theorem sz49 : szTy Try.prog 49 = some 1 := by kernel_rfl
@[go_sem] theorem zero49 : zeroA Try.prog 49 = some (.base .nilFunc) := by kernel_rfl
@[go_sem] theorem el49 : elI Try.prog 49 1 8 = true := by kernel_rfl
@[go_sem] theorem agg50 : aggTy Try.prog 50 = some false := by kernel_rfl
@[go_sem] theorem sz50 : szTy Try.prog 50 = some 1 := by kernel_rfl
@[go_sem] theorem zero50 : zeroA Try.prog 50 = some (.base (.slice none 0 0)) := by kernel_rfl
@[go_sem] theorem el50 : elI Try.prog 50 1 24 = true := by kernel_rfl
@[go_sem] theorem agg51 : aggTy Try.prog 51 = some false := by kernel_rfl
@[go_sem] theorem sz51 : szTy Try.prog 51 = some 1 := by kernel_rfl
@[go_sem] theorem zero51 : zeroA Try.prog 51 = some (.base .nilFunc) := by kernel_rfl
@[go_sem] theorem el51 : elI Try.prog 51 1 8 = true := by kernel_rfl
@[go_sem] theorem agg52 : aggTy Try.prog 52 = some false := by kernel_rfl
@[go_sem] theorem sz52 : szTy Try.prog 52 = some 1 := by kernel_rfl
@[go_sem] theorem zero52 : zeroA Try.prog 52 = some (.base .nilFunc) := by kernel_rfl
@[go_sem] theorem el52 : elI Try.prog 52 1 8 = true := by kernel_rfl
@[go_sem] theorem agg53 : aggTy Try.prog 53 = some false := by kernel_rfl
@[go_sem] theorem sz53 : szTy Try.prog 53 = some 1 := by kernel_rfl
@[go_sem] theorem zero53 : zeroA Try.prog 53 = some (.base .nilFunc) := by kernel_rfl
@[go_sem] theorem el53 : elI Try.prog 53 1 8 = true := by kernel_rfl
@[go_sem] theorem agg54 : aggTy Try.prog 54 = some false := by kernel_rfl
@[go_sem] theorem sz54 : szTy Try.prog 54 = some 1 := by kernel_rfl
@[go_sem] theorem zero54 : zeroA Try.prog 54 = some (.base .nilFunc) := by kernel_rfl
@[go_sem] theorem el54 : elI Try.prog 54 1 8 = true := by kernel_rfl
@[go_sem] theorem agg55 : aggTy Try.prog 55 = some false := by kernel_rfl
@[go_sem] theorem sz55 : szTy Try.prog 55 = some 1 := by kernel_rfl
@[go_sem] theorem zero55 : zeroA Try.prog 55 = some (.base .nilFunc) := by kernel_rfl
@[go_sem] theorem el55 : elI Try.prog 55 1 8 = true := by kernel_rfl
@[go_sem] theorem agg56 : aggTy Try.prog 56 = some false := by kernel_rfl
@[go_sem] theorem sz56 : szTy Try.prog 56 = some 1 := by kernel_rfl
@[go_sem] theorem zero56 : zeroA Try.prog 56 = some (.base .nilFunc) := by kernel_rfl
@[go_sem] theorem el56 : elI Try.prog 56 1 8 = true := by kernel_rfl
@[go_sem] theorem agg57 : aggTy Try.prog 57 = some false := by kernel_rfl
@[go_sem] theorem sz57 : szTy Try.prog 57 = some 1 := by kernel_rfl
@[go_sem] theorem zero57 : zeroA Try.prog 57 = some (.base .nilFunc) := by kernel_rfl
@[go_sem] theorem el57 : elI Try.prog 57 1 8 = true := by kernel_rfl
@[go_sem] theorem agg58 : aggTy Try.prog 58 = some false := by kernel_rfl
@[go_sem] theorem sz58 : szTy Try.prog 58 = some 1 := by kernel_rfl
@[go_sem] theorem zero58 : zeroA Try.prog 58 = some (.base .nilFunc) := by kernel_rfl
@[go_sem] theorem el58 : elI Try.prog 58 1 8 = true := by kernel_rfl
@[go_sem] theorem agg59 : aggTy Try.prog 59 = some false := by kernel_rfl
@[go_sem] theorem sz59 : szTy Try.prog 59 = some 1 := by kernel_rfl
@[go_sem] theorem zero59 : zeroA Try.prog 59 = some (.base .nilFunc) := by kernel_rfl
@[go_sem] theorem el59 : elI Try.prog 59 1 8 = true := by kernel_rfl
@[go_sem] theorem agg60 : aggTy Try.prog 60 = some false := by kernel_rfl
@[go_sem] theorem sz60 : szTy Try.prog 60 = some 1 := by kernel_rfl
@[go_sem] theorem zero60 : zeroA Try.prog 60 = some (.base .nilFunc) := by kernel_rfl
@[go_sem] theorem el60 : elI Try.prog 60 1 8 = true := by kernel_rfl
@[go_sem] theorem agg61 : aggTy Try.prog 61 = some false := by kernel_rfl
@[go_sem] theorem sz61 : szTy Try.prog 61 = some 1 := by kernel_rfl
@[go_sem] theorem zero61 : zeroA Try.prog 61 = some (.base .nilFunc) := by kernel_rfl
@[go_sem] theorem el61 : elI Try.prog 61 1 8 = true := by kernel_rfl
@[go_sem] theorem agg62 : aggTy Try.prog 62 = some false := by kernel_rfl
@[go_sem] theorem sz62 : szTy Try.prog 62 = some 1 := by kernel_rfl
@[go_sem] theorem agg63 : aggTy Try.prog 63 = some false := by kernel_rfl
@[go_sem] theorem sz63 : szTy Try.prog 63 = some 1 := by kernel_rfl
@[go_sem] theorem zero63 : zeroA Try.prog 63 = some (.base .nilFunc) := by kernel_rfl
@[go_sem] theorem el63 : elI Try.prog 63 1 8 = true := by kernel_rfl
@[go_sem] theorem agg64 : aggTy Try.prog 64 = some false := by kernel_rfl
@[go_sem] theorem sz64 : szTy Try.prog 64 = some 1 := by kernel_rfl
@[go_sem] theorem zero64 : zeroA Try.prog 64 = some (.base .nilFunc) := by kernel_rfl
@[go_sem] theorem el64 : elI Try.prog 64 1 8 = true := by kernel_rfl
@[go_sem] theorem agg65 : aggTy Try.prog 65 = some false := by kernel_rfl
@[go_sem] theorem sz65 : szTy Try.prog 65 = some 1 := by kernel_rfl
@[go_sem] theorem zero65 : zeroA Try.prog 65 = some (.base .nilFunc) := by kernel_rfl
@[go_sem] theorem el65 : elI Try.prog 65 1 8 = true := by kernel_rfl
@[go_sem] theorem agg66 : aggTy Try.prog 66 = some false := by kernel_rfl
@[go_sem] theorem sz66 : szTy Try.prog 66 = some 1 := by kernel_rfl
@[go_sem] theorem zero66 : zeroA Try.prog 66 = some (.base .nilFunc) := by kernel_rfl
@[go_sem] theorem el66 : elI Try.prog 66 1 8 = true := by kernel_rfl
@[go_sem] theorem agg67 : aggTy Try.prog 67 = some false := by kernel_rfl
@[go_sem] theorem sz67 : szTy Try.prog 67 = some 1 := by kernel_rfl
@[go_sem] theorem zero67 : zeroA Try.prog 67 = some (.base (.slice none 0 0)) := by kernel_rfl
@[go_sem] theorem el67 : elI Try.prog 67 1 24 = true := by kernel_rfl
@[go_sem] theorem agg68 : aggTy Try.prog 68 = some false := by kernel_rfl
@[go_sem] theorem sz68 : szTy Try.prog 68 = some 1 := by kernel_rfl
@[go_sem] theorem zero68 : zeroA Try.prog 68 = some (.base (.slice none 0 0)) := by kernel_rfl
@[go_sem] theorem el68 : elI Try.prog 68 1 24 = true := by kernel_rfl
@[go_sem] theorem agg69 : aggTy Try.prog 69 = some false := by kernel_rfl
@[go_sem] theorem sz69 : szTy Try.prog 69 = some 1 := by kernel_rfl
@[go_sem] theorem agg70 : aggTy Try.prog 70 = some false := by kernel_rfl
@[go_sem] theorem sz70 : szTy Try.prog 70 = some 1 := by kernel_rfl
@[go_sem] theorem zero70 : zeroA Try.prog 70 = some (.base .nilFunc) := by kernel_rfl
@[go_sem] theorem el70 : elI Try.prog 70 1 8 = true := by kernel_rfl
@[go_sem] theorem agg71 : aggTy Try.prog 71 = some false := by kernel_rfl
@[go_sem] theorem sz71 : szTy Try.prog 71 = some 1 := by kernel_rfl
@[go_sem] theorem zero71 : zeroA Try.prog 71 = some (.base (.slice none 0 0)) := by kernel_rfl
@[go_sem] theorem el71 : elI Try.prog 71 1 24 = true := by kernel_rfl
@[go_sem] theorem agg72 : aggTy Try.prog 72 = some false := by kernel_rfl
@[go_sem] theorem sz72 : szTy Try.prog 72 = some 1 := by kernel_rfl
@[go_sem] theorem zero72 : zeroA Try.prog 72 = some (.base .nilFunc) := by kernel_rfl
@[go_sem] theorem el72 : elI Try.prog 72 1 8 = true := by kernel_rfl
@[go_sem] theorem agg73 : aggTy Try.prog 73 = some false := by kernel_rfl
@[go_sem] theorem sz73 : szTy Try.prog 73 = some 1 := by kernel_rfl
@[go_sem] theorem zero73 : zeroA Try.prog 73 = some (.base .nilFunc) := by kernel_rfl
@[go_sem] theorem el73 : elI Try.prog 73 1 8 = true := by kernel_rfl
@[go_sem] theorem agg74 : aggTy Try.prog 74 = some false := by kernel_rfl
@[go_sem] theorem sz74 : szTy Try.prog 74 = some 1 := by kernel_rfl
@[go_sem] theorem zero74 : zeroA Try.prog 74 = some (.base .nilFunc) := by kernel_rfl
@[go_sem] theorem el74 : elI Try.prog 74 1 8 = true := by kernel_rfl
@[go_sem] theorem agg75 : aggTy Try.prog 75 = some false := by kernel_rfl
@[go_sem] theorem sz75 : szTy Try.prog 75 = some 1 := by kernel_rfl
@[go_sem] theorem agg76 : aggTy Try.prog 76 = some false := by kernel_rfl
@[go_sem] theorem sz76 : szTy Try.prog 76 = some 1 := by kernel_rfl
@[go_sem] theorem zero76 : zeroA Try.prog 76 = some (.base .nilFunc) := by kernel_rfl
@[go_sem] theorem el76 : elI Try.prog 76 1 8 = true := by kernel_rfl
@[go_sem] theorem agg77 : aggTy Try.prog 77 = some false := by kernel_rfl
@[go_sem] theorem sz77 : szTy Try.prog 77 = some 1 := by kernel_rfl
@[go_sem] theorem zero77 : zeroA Try.prog 77 = some (.base .nilFunc) := by kernel_rfl
@[go_sem] theorem el77 : elI Try.prog 77 1 8 = true := by kernel_rfl
@[go_sem] theorem agg78 : aggTy Try.prog 78 = some false := by kernel_rfl
@[go_sem] theorem sz78 : szTy Try.prog 78 = some 1 := by kernel_rfl
@[go_sem] theorem zero78 : zeroA Try.prog 78 = some (.base .nilFunc) := by kernel_rfl
@[go_sem] theorem el78 : elI Try.prog 78 1 8 = true := by kernel_rfl
@[go_sem] theorem agg79 : aggTy Try.prog 79 = some false := by kernel_rfl
@[go_sem] theorem sz79 : szTy Try.prog 79 = some 1 := by kernel_rfl
@[go_sem] theorem zero79 : zeroA Try.prog 79 = some (.base .nilFunc) := by kernel_rfl
@[go_sem] theorem el79 : elI Try.prog 79 1 8 = true := by kernel_rfl
@[go_sem] theorem agg80 : aggTy Try.prog 80 = some false := by kernel_rfl
@[go_sem] theorem sz80 : szTy Try.prog 80 = some 1 := by kernel_rfl
@[go_sem] theorem zero80 : zeroA Try.prog 80 = some (.base (.pointer none)) := by kernel_rfl
@[go_sem] theorem el80 : elI Try.prog 80 1 8 = true := by kernel_rfl
@[go_sem] theorem agg81 : aggTy Try.prog 81 = some true := by kernel_rfl
@[go_sem] theorem sz81 : szTy Try.prog 81 = some 2 := by kernel_rfl
@[go_sem] theorem zero81 : zeroA Try.prog 81 = some (.agg [.base (.pointer none), .base (.slice none 0 0)]) := by kernel_rfl
@[go_sem] theorem el81 : elI Try.prog 81 2 32 = true := by kernel_rfl
@[go_sem] theorem pl81 : placesOf Try.prog 81 = some [(0, 1), (1, 1)] := by kernel_rfl
@[go_sem] theorem off81_0 : fieldOff Try.prog 81 0 = some 0 := by kernel_rfl
@[go_sem] theorem off81_1 : fieldOff Try.prog 81 1 = some 1 := by kernel_rfl
@[go_sem] theorem agg82 : aggTy Try.prog 82 = some true := by kernel_rfl
@[go_sem] theorem sz82 : szTy Try.prog 82 = some 2 := by kernel_rfl
@[go_sem] theorem zero82 : zeroA Try.prog 82 = some (.agg [.base (.pointer none), .base (.slice none 0 0)]) := by kernel_rfl
@[go_sem] theorem el82 : elI Try.prog 82 2 32 = true := by kernel_rfl
@[go_sem] theorem pl82 : placesOf Try.prog 82 = some [(0, 1), (1, 1)] := by kernel_rfl
@[go_sem] theorem off82_0 : fieldOff Try.prog 82 0 = some 0 := by kernel_rfl
@[go_sem] theorem off82_1 : fieldOff Try.prog 82 1 = some 1 := by kernel_rfl
@[go_sem] theorem agg83 : aggTy Try.prog 83 = some false := by kernel_rfl
@[go_sem] theorem sz83 : szTy Try.prog 83 = some 1 := by kernel_rfl
@[go_sem] theorem zero83 : zeroA Try.prog 83 = some (.base .nilIface) := by kernel_rfl
@[go_sem] theorem el83 : elI Try.prog 83 1 16 = true := by kernel_rfl
@[go_sem] theorem agg84 : aggTy Try.prog 84 = some false := by kernel_rfl
@[go_sem] theorem sz84 : szTy Try.prog 84 = some 1 := by kernel_rfl
@[go_sem] theorem zero84 : zeroA Try.prog 84 = some (.base .nilIface) := by kernel_rfl
@[go_sem] theorem el84 : elI Try.prog 84 1 16 = true := by kernel_rfl
@[go_sem] theorem agg85 : aggTy Try.prog 85 = some false := by kernel_rfl
@[go_sem] theorem sz85 : szTy Try.prog 85 = some 1 := by kernel_rfl
@[go_sem] theorem agg86 : aggTy Try.prog 86 = some false := by kernel_rfl
@[go_sem] theorem sz86 : szTy Try.prog 86 = some 1 := by kernel_rfl
@[go_sem] theorem zero86 : zeroA Try.prog 86 = some (.base .nilFunc) := by kernel_rfl
@[go_sem] theorem el86 : elI Try.prog 86 1 8 = true := by kernel_rfl
@[go_sem] theorem agg87 : aggTy Try.prog 87 = some false := by kernel_rfl
@[go_sem] theorem sz87 : szTy Try.prog 87 = some 1 := by kernel_rfl
@[go_sem] theorem zero87 : zeroA Try.prog 87 = some (.base .nilFunc) := by kernel_rfl
@[go_sem] theorem el87 : elI Try.prog 87 1 8 = true := by kernel_rfl
@[go_sem] theorem agg88 : aggTy Try.prog 88 = some false := by kernel_rfl
@[go_sem] theorem sz88 : szTy Try.prog 88 = some 1 := by kernel_rfl
@[go_sem] theorem zero88 : zeroA Try.prog 88 = some (.base .nilFunc) := by kernel_rfl
@[go_sem] theorem el88 : elI Try.prog 88 1 8 = true := by kernel_rfl
@[go_sem] theorem agg89 : aggTy Try.prog 89 = some false := by kernel_rfl
@[go_sem] theorem sz89 : szTy Try.prog 89 = some 1 := by kernel_rfl
@[go_sem] theorem zero89 : zeroA Try.prog 89 = some (.base .nilFunc) := by kernel_rfl
@[go_sem] theorem el89 : elI Try.prog 89 1 8 = true := by kernel_rfl
@[go_sem] theorem agg90 : aggTy Try.prog 90 = some false := by kernel_rfl
@[go_sem] theorem sz90 : szTy Try.prog 90 = some 1 := by kernel_rfl
@[go_sem] theorem zero90 : zeroA Try.prog 90 = some (.base .nilFunc) := by kernel_rfl
@[go_sem] theorem el90 : elI Try.prog 90 1 8 = true := by kernel_rfl
@[go_sem] theorem agg91 : aggTy Try.prog 91 = some false := by kernel_rfl
@[go_sem] theorem sz91 : szTy Try.prog 91 = some 1 := by kernel_rfl
@[go_sem] theorem zero91 : zeroA Try.prog 91 = some (.base .nilFunc) := by kernel_rfl
@[go_sem] theorem el91 : elI Try.prog 91 1 8 = true := by kernel_rfl
@[go_sem] theorem agg92 : aggTy Try.prog 92 = some false := by kernel_rfl
@[go_sem] theorem sz92 : szTy Try.prog 92 = some 1 := by kernel_rfl
@[go_sem] theorem zero92 : zeroA Try.prog 92 = some (.base (.pointer none)) := by kernel_rfl
@[go_sem] theorem el92 : elI Try.prog 92 1 8 = true := by kernel_rfl
@[go_sem] theorem agg93 : aggTy Try.prog 93 = some true := by kernel_rfl
@[go_sem] theorem sz93 : szTy Try.prog 93 = some 2 := by kernel_rfl
@[go_sem] theorem zero93 : zeroA Try.prog 93 = some (.agg [.base (.string ByteArray.empty), .base (.bool false)]) := by kernel_rfl
@[go_sem] theorem el93 : elI Try.prog 93 2 24 = true := by kernel_rfl
@[go_sem] theorem pl93 : placesOf Try.prog 93 = some [(0, 1), (1, 1)] := by kernel_rfl
@[go_sem] theorem off93_0 : fieldOff Try.prog 93 0 = some 0 := by kernel_rfl
@[go_sem] theorem off93_1 : fieldOff Try.prog 93 1 = some 1 := by kernel_rfl
@[go_sem] theorem agg94 : aggTy Try.prog 94 = some true := by kernel_rfl
@[go_sem] theorem sz94 : szTy Try.prog 94 = some 2 := by kernel_rfl
@[go_sem] theorem zero94 : zeroA Try.prog 94 = some (.agg [.base (.string ByteArray.empty), .base (.bool false)]) := by kernel_rfl
@[go_sem] theorem el94 : elI Try.prog 94 2 24 = true := by kernel_rfl
@[go_sem] theorem pl94 : placesOf Try.prog 94 = some [(0, 1), (1, 1)] := by kernel_rfl
@[go_sem] theorem off94_0 : fieldOff Try.prog 94 0 = some 0 := by kernel_rfl
@[go_sem] theorem off94_1 : fieldOff Try.prog 94 1 = some 1 := by kernel_rfl
@[go_sem] theorem agg95 : aggTy Try.prog 95 = some false := by kernel_rfl
@[go_sem] theorem sz95 : szTy Try.prog 95 = some 1 := by kernel_rfl
@[go_sem] theorem zero95 : zeroA Try.prog 95 = some (.base .nilFunc) := by kernel_rfl
@[go_sem] theorem el95 : elI Try.prog 95 1 8 = true := by kernel_rfl
@[go_sem] theorem agg96 : aggTy Try.prog 96 = some false := by kernel_rfl
@[go_sem] theorem sz96 : szTy Try.prog 96 = some 1 := by kernel_rfl
@[go_sem] theorem agg97 : aggTy Try.prog 97 = some false := by kernel_rfl
@[go_sem] theorem sz97 : szTy Try.prog 97 = some 1 := by kernel_rfl
@[go_sem] theorem zero97 : zeroA Try.prog 97 = some (.base .nilFunc) := by kernel_rfl
@[go_sem] theorem el97 : elI Try.prog 97 1 8 = true := by kernel_rfl
@[go_sem] theorem agg98 : aggTy Try.prog 98 = some false := by kernel_rfl
@[go_sem] theorem sz98 : szTy Try.prog 98 = some 1 := by kernel_rfl
@[go_sem] theorem zero98 : zeroA Try.prog 98 = some (.base (.pointer none)) := by kernel_rfl
@[go_sem] theorem el98 : elI Try.prog 98 1 8 = true := by kernel_rfl
@[go_sem] theorem agg99 : aggTy Try.prog 99 = some false := by kernel_rfl
@[go_sem] theorem sz99 : szTy Try.prog 99 = some 1 := by kernel_rfl
@[go_sem] theorem agg100 : aggTy Try.prog 100 = some false := by kernel_rfl
@[go_sem] theorem sz100 : szTy Try.prog 100 = some 1 := by kernel_rfl
@[go_sem] theorem zero100 : zeroA Try.prog 100 = some (.base .nilFunc) := by kernel_rfl
@[go_sem] theorem el100 : elI Try.prog 100 1 8 = true := by kernel_rfl
@[go_sem] theorem agg101 : aggTy Try.prog 101 = some false := by kernel_rfl
@[go_sem] theorem sz101 : szTy Try.prog 101 = some 1 := by kernel_rfl
@[go_sem] theorem zero101 : zeroA Try.prog 101 = some (.base (.map none)) := by kernel_rfl
@[go_sem] theorem el101 : elI Try.prog 101 1 8 = true := by kernel_rfl
@[go_sem] theorem agg102 : aggTy Try.prog 102 = some true := by kernel_rfl
@[go_sem] theorem sz102 : szTy Try.prog 102 = some 95 := by kernel_rfl
@[go_sem] theorem zero102 : zeroA Try.prog 102 = some (.agg [.base (.int .i64 (0)), .base (.int .i64 (0)), .base (.int .i64 (0)), .base (.int .i64 (0)), .base (.int .i64 (0)), .base (.int .i64 (0)), .base (.int .i64 (0)), .base (.int .i64 (0)), .base (.int .i64 (0)), .base (.int .i64 (0)), .base (.int .i64 (0)), .base (.int .i64 (0)), .base (.int .i64 (0)), .base (.int .i64 (0)), .base (.int .i64 (0)), .base (.int .i64 (0)), .base (.int .i64 (0)), .base (.int .i64 (0)), .base (.int .i64 (0)), .base (.int .i64 (0)), .base (.int .i64 (0)), .base (.int .i64 (0)), .base (.int .i64 (0)), .base (.int .i64 (0)), .base (.int .i64 (0)), .base (.int .i64 (0)), .base (.int .i64 (0)), .base (.int .i64 (0)), .base (.int .i64 (0)), .base (.int .i64 (0)), .base (.int .i64 (0)), .base (.int .i64 (0)), .base (.int .i64 (0)), .base (.int .i64 (0)), .base (.int .i64 (0)), .base (.int .i64 (0)), .base (.int .i64 (0)), .base (.int .i64 (0)), .base (.int .i64 (0)), .base (.int .i64 (0)), .base (.int .i64 (0)), .base (.int .i64 (0)), .base (.int .i64 (0)), .base (.int .i64 (0)), .base (.int .i64 (0)), .base (.int .i64 (0)), .base (.int .i64 (0)), .base (.int .i64 (0)), .base (.int .i64 (0)), .base (.int .i64 (0)), .base (.int .i64 (0)), .base (.int .i64 (0)), .base (.int .i64 (0)), .base (.int .i64 (0)), .base (.int .i64 (0)), .base (.int .i64 (0)), .base (.int .i64 (0)), .base (.int .i64 (0)), .base (.int .i64 (0)), .base (.int .i64 (0)), .base (.int .i64 (0)), .base (.int .i64 (0)), .base (.int .i64 (0)), .base (.int .i64 (0)), .base (.int .i64 (0)), .base (.int .i64 (0)), .base (.int .i64 (0)), .base (.int .i64 (0)), .base (.int .i64 (0)), .base (.int .i64 (0)), .base (.int .i64 (0)), .base (.int .i64 (0)), .base (.int .i64 (0)), .base (.int .i64 (0)), .base (.int .i64 (0)), .base (.int .i64 (0)), .base (.int .i64 (0)), .base (.int .i64 (0)), .base (.int .i64 (0)), .base (.int .i64 (0)), .base (.int .i64 (0)), .base (.int .i64 (0)), .base (.int .i64 (0)), .base (.int .i64 (0)), .base (.int .i64 (0)), .base (.int .i64 (0)), .base (.int .i64 (0)), .base (.int .i64 (0)), .base (.int .i64 (0)), .base (.int .i64 (0)), .base (.int .i64 (0)), .base (.int .i64 (0)), .base (.int .i64 (0)), .base (.int .i64 (0)), .base (.int .i64 (0))]) := by kernel_rfl
@[go_sem] theorem el102 : elI Try.prog 102 95 760 = true := by kernel_rfl
@[go_sem] theorem agg103 : aggTy Try.prog 103 = some false := by kernel_rfl
@[go_sem] theorem sz103 : szTy Try.prog 103 = some 1 := by kernel_rfl
@[go_sem] theorem zero103 : zeroA Try.prog 103 = some (.base (.slice none 0 0)) := by kernel_rfl
@[go_sem] theorem el103 : elI Try.prog 103 1 24 = true := by kernel_rfl
@[go_sem] theorem agg104 : aggTy Try.prog 104 = some true := by kernel_rfl
@[go_sem] theorem sz104 : szTy Try.prog 104 = some 97 := by kernel_rfl
@[go_sem] theorem zero104 : zeroA Try.prog 104 = some (.agg [.base (.int .i64 (0)), .base (.int .i64 (0)), .base (.int .i64 (0)), .base (.int .i64 (0)), .base (.int .i64 (0)), .base (.int .i64 (0)), .base (.int .i64 (0)), .base (.int .i64 (0)), .base (.int .i64 (0)), .base (.int .i64 (0)), .base (.int .i64 (0)), .base (.int .i64 (0)), .base (.int .i64 (0)), .base (.int .i64 (0)), .base (.int .i64 (0)), .base (.int .i64 (0)), .base (.int .i64 (0)), .base (.int .i64 (0)), .base (.int .i64 (0)), .base (.int .i64 (0)), .base (.int .i64 (0)), .base (.int .i64 (0)), .base (.int .i64 (0)), .base (.int .i64 (0)), .base (.int .i64 (0)), .base (.int .i64 (0)), .base (.int .i64 (0)), .base (.int .i64 (0)), .base (.int .i64 (0)), .base (.int .i64 (0)), .base (.int .i64 (0)), .base (.int .i64 (0)), .base (.int .i64 (0)), .base (.int .i64 (0)), .base (.int .i64 (0)), .base (.int .i64 (0)), .base (.int .i64 (0)), .base (.int .i64 (0)), .base (.int .i64 (0)), .base (.int .i64 (0)), .base (.int .i64 (0)), .base (.int .i64 (0)), .base (.int .i64 (0)), .base (.int .i64 (0)), .base (.int .i64 (0)), .base (.int .i64 (0)), .base (.int .i64 (0)), .base (.int .i64 (0)), .base (.int .i64 (0)), .base (.int .i64 (0)), .base (.int .i64 (0)), .base (.int .i64 (0)), .base (.int .i64 (0)), .base (.int .i64 (0)), .base (.int .i64 (0)), .base (.int .i64 (0)), .base (.int .i64 (0)), .base (.int .i64 (0)), .base (.int .i64 (0)), .base (.int .i64 (0)), .base (.int .i64 (0)), .base (.int .i64 (0)), .base (.int .i64 (0)), .base (.int .i64 (0)), .base (.int .i64 (0)), .base (.int .i64 (0)), .base (.int .i64 (0)), .base (.int .i64 (0)), .base (.int .i64 (0)), .base (.int .i64 (0)), .base (.int .i64 (0)), .base (.int .i64 (0)), .base (.int .i64 (0)), .base (.int .i64 (0)), .base (.int .i64 (0)), .base (.int .i64 (0)), .base (.int .i64 (0)), .base (.int .i64 (0)), .base (.int .i64 (0)), .base (.int .i64 (0)), .base (.int .i64 (0)), .base (.int .i64 (0)), .base (.int .i64 (0)), .base (.int .i64 (0)), .base (.int .i64 (0)), .base (.int .i64 (0)), .base (.int .i64 (0)), .base (.int .i64 (0)), .base (.int .i64 (0)), .base (.int .i64 (0)), .base (.int .i64 (0)), .base (.int .i64 (0)), .base (.int .i64 (0)), .base (.int .i64 (0)), .base (.int .i64 (0)), .base (.slice none 0 0), .base (.slice none 0 0)]) := by kernel_rfl
@[go_sem] theorem el104 : elI Try.prog 104 97 808 = true := by kernel_rfl
@[go_sem] theorem pl104 : placesOf Try.prog 104 = some [(0, 95), (95, 1), (96, 1)] := by kernel_rfl
@[go_sem] theorem off104_0 : fieldOff Try.prog 104 0 = some 0 := by kernel_rfl
@[go_sem] theorem off104_1 : fieldOff Try.prog 104 1 = some 95 := by kernel_rfl
@[go_sem] theorem off104_2 : fieldOff Try.prog 104 2 = some 96 := by kernel_rfl
@[go_sem] theorem agg105 : aggTy Try.prog 105 = some true := by kernel_rfl
@[go_sem] theorem sz105 : szTy Try.prog 105 = some 97 := by kernel_rfl
@[go_sem] theorem zero105 : zeroA Try.prog 105 = some (.agg [.base (.int .i64 (0)), .base (.int .i64 (0)), .base (.int .i64 (0)), .base (.int .i64 (0)), .base (.int .i64 (0)), .base (.int .i64 (0)), .base (.int .i64 (0)), .base (.int .i64 (0)), .base (.int .i64 (0)), .base (.int .i64 (0)), .base (.int .i64 (0)), .base (.int .i64 (0)), .base (.int .i64 (0)), .base (.int .i64 (0)), .base (.int .i64 (0)), .base (.int .i64 (0)), .base (.int .i64 (0)), .base (.int .i64 (0)), .base (.int .i64 (0)), .base (.int .i64 (0)), .base (.int .i64 (0)), .base (.int .i64 (0)), .base (.int .i64 (0)), .base (.int .i64 (0)), .base (.int .i64 (0)), .base (.int .i64 (0)), .base (.int .i64 (0)), .base (.int .i64 (0)), .base (.int .i64 (0)), .base (.int .i64 (0)), .base (.int .i64 (0)), .base (.int .i64 (0)), .base (.int .i64 (0)), .base (.int .i64 (0)), .base (.int .i64 (0)), .base (.int .i64 (0)), .base (.int .i64 (0)), .base (.int .i64 (0)), .base (.int .i64 (0)), .base (.int .i64 (0)), .base (.int .i64 (0)), .base (.int .i64 (0)), .base (.int .i64 (0)), .base (.int .i64 (0)), .base (.int .i64 (0)), .base (.int .i64 (0)), .base (.int .i64 (0)), .base (.int .i64 (0)), .base (.int .i64 (0)), .base (.int .i64 (0)), .base (.int .i64 (0)), .base (.int .i64 (0)), .base (.int .i64 (0)), .base (.int .i64 (0)), .base (.int .i64 (0)), .base (.int .i64 (0)), .base (.int .i64 (0)), .base (.int .i64 (0)), .base (.int .i64 (0)), .base (.int .i64 (0)), .base (.int .i64 (0)), .base (.int .i64 (0)), .base (.int .i64 (0)), .base (.int .i64 (0)), .base (.int .i64 (0)), .base (.int .i64 (0)), .base (.int .i64 (0)), .base (.int .i64 (0)), .base (.int .i64 (0)), .base (.int .i64 (0)), .base (.int .i64 (0)), .base (.int .i64 (0)), .base (.int .i64 (0)), .base (.int .i64 (0)), .base (.int .i64 (0)), .base (.int .i64 (0)), .base (.int .i64 (0)), .base (.int .i64 (0)), .base (.int .i64 (0)), .base (.int .i64 (0)), .base (.int .i64 (0)), .base (.int .i64 (0)), .base (.int .i64 (0)), .base (.int .i64 (0)), .base (.int .i64 (0)), .base (.int .i64 (0)), .base (.int .i64 (0)), .base (.int .i64 (0)), .base (.int .i64 (0)), .base (.int .i64 (0)), .base (.int .i64 (0)), .base (.int .i64 (0)), .base (.int .i64 (0)), .base (.int .i64 (0)), .base (.int .i64 (0)), .base (.slice none 0 0), .base (.slice none 0 0)]) := by kernel_rfl
@[go_sem] theorem el105 : elI Try.prog 105 97 808 = true := by kernel_rfl
@[go_sem] theorem pl105 : placesOf Try.prog 105 = some [(0, 95), (95, 1), (96, 1)] := by kernel_rfl
@[go_sem] theorem off105_0 : fieldOff Try.prog 105 0 = some 0 := by kernel_rfl
@[go_sem] theorem off105_1 : fieldOff Try.prog 105 1 = some 95 := by kernel_rfl
@[go_sem] theorem off105_2 : fieldOff Try.prog 105 2 = some 96 := by kernel_rfl
@[go_sem] theorem agg106 : aggTy Try.prog 106 = some false := by kernel_rfl
@[go_sem] theorem sz106 : szTy Try.prog 106 = some 1 := by kernel_rfl
@[go_sem] theorem zero106 : zeroA Try.prog 106 = some (.base .nilFunc) := by kernel_rfl
@[go_sem] theorem el106 : elI Try.prog 106 1 8 = true := by kernel_rfl
@[go_sem] theorem agg107 : aggTy Try.prog 107 = some false := by kernel_rfl
@[go_sem] theorem sz107 : szTy Try.prog 107 = some 1 := by kernel_rfl
@[go_sem] theorem zero107 : zeroA Try.prog 107 = some (.base (.slice none 0 0)) := by kernel_rfl
@[go_sem] theorem el107 : elI Try.prog 107 1 24 = true := by kernel_rfl
@[go_sem] theorem agg108 : aggTy Try.prog 108 = some false := by kernel_rfl
@[go_sem] theorem sz108 : szTy Try.prog 108 = some 1 := by kernel_rfl
@[go_sem] theorem agg109 : aggTy Try.prog 109 = some false := by kernel_rfl
@[go_sem] theorem sz109 : szTy Try.prog 109 = some 1 := by kernel_rfl
@[go_sem] theorem zero109 : zeroA Try.prog 109 = some (.base .nilFunc) := by kernel_rfl
@[go_sem] theorem el109 : elI Try.prog 109 1 8 = true := by kernel_rfl
@[go_sem] theorem agg110 : aggTy Try.prog 110 = some false := by kernel_rfl
@[go_sem] theorem sz110 : szTy Try.prog 110 = some 1 := by kernel_rfl
@[go_sem] theorem zero110 : zeroA Try.prog 110 = some (.base .nilFunc) := by kernel_rfl
@[go_sem] theorem el110 : elI Try.prog 110 1 8 = true := by kernel_rfl
@[go_sem] theorem agg111 : aggTy Try.prog 111 = some true := by kernel_rfl
@[go_sem] theorem sz111 : szTy Try.prog 111 = some 2 := by kernel_rfl
@[go_sem] theorem zero111 : zeroA Try.prog 111 = some (.agg [.base (.slice none 0 0), .base (.slice none 0 0)]) := by kernel_rfl
@[go_sem] theorem el111 : elI Try.prog 111 2 48 = true := by kernel_rfl
@[go_sem] theorem pl111 : placesOf Try.prog 111 = some [(0, 1), (1, 1)] := by kernel_rfl
@[go_sem] theorem off111_0 : fieldOff Try.prog 111 0 = some 0 := by kernel_rfl
@[go_sem] theorem off111_1 : fieldOff Try.prog 111 1 = some 1 := by kernel_rfl
@[go_sem] theorem agg112 : aggTy Try.prog 112 = some true := by kernel_rfl
@[go_sem] theorem sz112 : szTy Try.prog 112 = some 2 := by kernel_rfl
@[go_sem] theorem zero112 : zeroA Try.prog 112 = some (.agg [.base (.slice none 0 0), .base (.slice none 0 0)]) := by kernel_rfl
@[go_sem] theorem el112 : elI Try.prog 112 2 48 = true := by kernel_rfl
@[go_sem] theorem pl112 : placesOf Try.prog 112 = some [(0, 1), (1, 1)] := by kernel_rfl
@[go_sem] theorem off112_0 : fieldOff Try.prog 112 0 = some 0 := by kernel_rfl
@[go_sem] theorem off112_1 : fieldOff Try.prog 112 1 = some 1 := by kernel_rfl
@[go_sem] theorem agg113 : aggTy Try.prog 113 = some false := by kernel_rfl
@[go_sem] theorem sz113 : szTy Try.prog 113 = some 1 := by kernel_rfl
@[go_sem] theorem zero113 : zeroA Try.prog 113 = some (.base .nilFunc) := by kernel_rfl
@[go_sem] theorem el113 : elI Try.prog 113 1 8 = true := by kernel_rfl
@[go_sem] theorem agg114 : aggTy Try.prog 114 = some false := by kernel_rfl
@[go_sem] theorem sz114 : szTy Try.prog 114 = some 1 := by kernel_rfl
@[go_sem] theorem zero114 : zeroA Try.prog 114 = some (.base .nilFunc) := by kernel_rfl
@[go_sem] theorem el114 : elI Try.prog 114 1 8 = true := by kernel_rfl
@[go_sem] theorem agg115 : aggTy Try.prog 115 = some false := by kernel_rfl
@[go_sem] theorem sz115 : szTy Try.prog 115 = some 1 := by kernel_rfl
@[go_sem] theorem zero115 : zeroA Try.prog 115 = some (.base (.map none)) := by kernel_rfl
@[go_sem] theorem el115 : elI Try.prog 115 1 8 = true := by kernel_rfl
@[go_sem] theorem agg116 : aggTy Try.prog 116 = some true := by kernel_rfl
@[go_sem] theorem sz116 : szTy Try.prog 116 = some 2 := by kernel_rfl
@[go_sem] theorem zero116 : zeroA Try.prog 116 = some (.agg [.base (.int .i64 (0)), .base (.string ByteArray.empty)]) := by kernel_rfl
@[go_sem] theorem el116 : elI Try.prog 116 2 24 = true := by kernel_rfl
@[go_sem] theorem pl116 : placesOf Try.prog 116 = some [(0, 1), (1, 1)] := by kernel_rfl
@[go_sem] theorem off116_0 : fieldOff Try.prog 116 0 = some 0 := by kernel_rfl
@[go_sem] theorem off116_1 : fieldOff Try.prog 116 1 = some 1 := by kernel_rfl
@[go_sem] theorem agg117 : aggTy Try.prog 117 = some true := by kernel_rfl
@[go_sem] theorem sz117 : szTy Try.prog 117 = some 2 := by kernel_rfl
@[go_sem] theorem zero117 : zeroA Try.prog 117 = some (.agg [.base (.int .i64 (0)), .base (.string ByteArray.empty)]) := by kernel_rfl
@[go_sem] theorem el117 : elI Try.prog 117 2 24 = true := by kernel_rfl
@[go_sem] theorem pl117 : placesOf Try.prog 117 = some [(0, 1), (1, 1)] := by kernel_rfl
@[go_sem] theorem off117_0 : fieldOff Try.prog 117 0 = some 0 := by kernel_rfl
@[go_sem] theorem off117_1 : fieldOff Try.prog 117 1 = some 1 := by kernel_rfl
@[go_sem] theorem agg118 : aggTy Try.prog 118 = some false := by kernel_rfl
@[go_sem] theorem sz118 : szTy Try.prog 118 = some 1 := by kernel_rfl
@[go_sem] theorem zero118 : zeroA Try.prog 118 = some (.base (.slice none 0 0)) := by kernel_rfl
@[go_sem] theorem el118 : elI Try.prog 118 1 24 = true := by kernel_rfl
@[go_sem] theorem agg119 : aggTy Try.prog 119 = some false := by kernel_rfl
@[go_sem] theorem sz119 : szTy Try.prog 119 = some 1 := by kernel_rfl
@[go_sem] theorem zero119 : zeroA Try.prog 119 = some (.base .nilFunc) := by kernel_rfl
@[go_sem] theorem el119 : elI Try.prog 119 1 8 = true := by kernel_rfl
@[go_sem] theorem agg120 : aggTy Try.prog 120 = some false := by kernel_rfl
@[go_sem] theorem sz120 : szTy Try.prog 120 = some 1 := by kernel_rfl
@[go_sem] theorem zero120 : zeroA Try.prog 120 = some (.base .nilFunc) := by kernel_rfl
@[go_sem] theorem el120 : elI Try.prog 120 1 8 = true := by kernel_rfl
@[go_sem] theorem agg121 : aggTy Try.prog 121 = some false := by kernel_rfl
@[go_sem] theorem sz121 : szTy Try.prog 121 = some 1 := by kernel_rfl
@[go_sem] theorem zero121 : zeroA Try.prog 121 = some (.base .nilFunc) := by kernel_rfl
@[go_sem] theorem el121 : elI Try.prog 121 1 8 = true := by kernel_rfl
@[go_sem] theorem agg122 : aggTy Try.prog 122 = some false := by kernel_rfl
@[go_sem] theorem sz122 : szTy Try.prog 122 = some 1 := by kernel_rfl
@[go_sem] theorem zero122 : zeroA Try.prog 122 = some (.base .nilFunc) := by kernel_rfl
@[go_sem] theorem el122 : elI Try.prog 122 1 8 = true := by kernel_rfl
@[go_sem] theorem agg123 : aggTy Try.prog 123 = some false := by kernel_rfl
@[go_sem] theorem sz123 : szTy Try.prog 123 = some 1 := by kernel_rfl
@[go_sem] theorem zero123 : zeroA Try.prog 123 = some (.base .nilFunc) := by kernel_rfl
@[go_sem] theorem el123 : elI Try.prog 123 1 8 = true := by kernel_rfl
@[go_sem] theorem agg124 : aggTy Try.prog 124 = some false := by kernel_rfl
@[go_sem] theorem sz124 : szTy Try.prog 124 = some 1 := by kernel_rfl
@[go_sem] theorem zero124 : zeroA Try.prog 124 = some (.base (.slice none 0 0)) := by kernel_rfl
@[go_sem] theorem el124 : elI Try.prog 124 1 24 = true := by kernel_rfl
@[go_sem] theorem agg125 : aggTy Try.prog 125 = some false := by kernel_rfl
@[go_sem] theorem sz125 : szTy Try.prog 125 = some 1 := by kernel_rfl
@[go_sem] theorem zero125 : zeroA Try.prog 125 = some (.base .nilFunc) := by kernel_rfl
@[go_sem] theorem el125 : elI Try.prog 125 1 8 = true := by kernel_rfl
@[go_sem] theorem agg126 : aggTy Try.prog 126 = some false := by kernel_rfl
@[go_sem] theorem sz126 : szTy Try.prog 126 = some 1 := by kernel_rfl
@[go_sem] theorem zero126 : zeroA Try.prog 126 = some (.base (.pointer none)) := by kernel_rfl
@[go_sem] theorem el126 : elI Try.prog 126 1 8 = true := by kernel_rfl
@[go_sem] theorem agg127 : aggTy Try.prog 127 = some false := by kernel_rfl
@[go_sem] theorem sz127 : szTy Try.prog 127 = some 1 := by kernel_rfl
@[go_sem] theorem zero127 : zeroA Try.prog 127 = some (.base .nilFunc) := by kernel_rfl
@[go_sem] theorem el127 : elI Try.prog 127 1 8 = true := by kernel_rfl
@[go_sem] theorem agg128 : aggTy Try.prog 128 = some false := by kernel_rfl
@[go_sem] theorem sz128 : szTy Try.prog 128 = some 1 := by kernel_rfl
@[go_sem] theorem zero128 : zeroA Try.prog 128 = some (.base .nilFunc) := by kernel_rfl
@[go_sem] theorem el128 : elI Try.prog 128 1 8 = true := by kernel_rfl
@[go_sem] theorem agg129 : aggTy Try.prog 129 = some false := by kernel_rfl
@[go_sem] theorem sz129 : szTy Try.prog 129 = some 1 := by kernel_rfl
@[go_sem] theorem zero129 : zeroA Try.prog 129 = some (.base .nilFunc) := by kernel_rfl
@[go_sem] theorem el129 : elI Try.prog 129 1 8 = true := by kernel_rfl
@[go_sem] theorem agg130 : aggTy Try.prog 130 = some false := by kernel_rfl
@[go_sem] theorem sz130 : szTy Try.prog 130 = some 1 := by kernel_rfl
@[go_sem] theorem zero130 : zeroA Try.prog 130 = some (.base .nilFunc) := by kernel_rfl
@[go_sem] theorem el130 : elI Try.prog 130 1 8 = true := by kernel_rfl
@[go_sem] theorem agg131 : aggTy Try.prog 131 = some false := by kernel_rfl
@[go_sem] theorem sz131 : szTy Try.prog 131 = some 1 := by kernel_rfl
@[go_sem] theorem zero131 : zeroA Try.prog 131 = some (.base .nilFunc) := by kernel_rfl
@[go_sem] theorem el131 : elI Try.prog 131 1 8 = true := by kernel_rfl
@[go_sem] theorem agg132 : aggTy Try.prog 132 = some false := by kernel_rfl
@[go_sem] theorem sz132 : szTy Try.prog 132 = some 1 := by kernel_rfl
@[go_sem] theorem zero132 : zeroA Try.prog 132 = some (.base .nilFunc) := by kernel_rfl
@[go_sem] theorem el132 : elI Try.prog 132 1 8 = true := by kernel_rfl
@[go_sem] theorem agg133 : aggTy Try.prog 133 = some false := by kernel_rfl
@[go_sem] theorem sz133 : szTy Try.prog 133 = some 1 := by kernel_rfl
@[go_sem] theorem zero133 : zeroA Try.prog 133 = some (.base .nilFunc) := by kernel_rfl
@[go_sem] theorem el133 : elI Try.prog 133 1 8 = true := by kernel_rfl
@[go_sem] theorem agg134 : aggTy Try.prog 134 = some false := by kernel_rfl
@[go_sem] theorem sz134 : szTy Try.prog 134 = some 1 := by kernel_rfl
@[go_sem] theorem agg135 : aggTy Try.prog 135 = some false := by kernel_rfl
@[go_sem] theorem sz135 : szTy Try.prog 135 = some 1 := by kernel_rfl
@[go_sem] theorem zero135 : zeroA Try.prog 135 = some (.base .nilFunc) := by kernel_rfl
@[go_sem] theorem el135 : elI Try.prog 135 1 8 = true := by kernel_rfl
@[go_sem] theorem agg136 : aggTy Try.prog 136 = some false := by kernel_rfl
@[go_sem] theorem sz136 : szTy Try.prog 136 = some 1 := by kernel_rfl
@[go_sem] theorem zero136 : zeroA Try.prog 136 = some (.base .nilFunc) := by kernel_rfl
@[go_sem] theorem el136 : elI Try.prog 136 1 8 = true := by kernel_rfl
@[go_sem] theorem agg137 : aggTy Try.prog 137 = some false := by kernel_rfl
@[go_sem] theorem sz137 : szTy Try.prog 137 = some 1 := by kernel_rfl
@[go_sem] theorem agg138 : aggTy Try.prog 138 = some false := by kernel_rfl
@[go_sem] theorem sz138 : szTy Try.prog 138 = some 1 := by kernel_rfl
@[go_sem] theorem zero138 : zeroA Try.prog 138 = some (.base .nilFunc) := by kernel_rfl
@[go_sem] theorem el138 : elI Try.prog 138 1 8 = true := by kernel_rfl
@[go_sem] theorem agg139 : aggTy Try.prog 139 = some false := by kernel_rfl
@[go_sem] theorem sz139 : szTy Try.prog 139 = some 1 := by kernel_rfl
@[go_sem] theorem zero139 : zeroA Try.prog 139 = some (.base .nilFunc) := by kernel_rfl
@[go_sem] theorem el139 : elI Try.prog 139 1 8 = true := by kernel_rfl
@[go_sem] theorem agg140 : aggTy Try.prog 140 = some false := by kernel_rfl
@[go_sem] theorem sz140 : szTy Try.prog 140 = some 1 := by kernel_rfl
@[go_sem] theorem zero140 : zeroA Try.prog 140 = some (.base .nilFunc) := by kernel_rfl
@[go_sem] theorem el140 : elI Try.prog 140 1 8 = true := by kernel_rfl
@[go_sem] theorem agg141 : aggTy Try.prog 141 = some false := by kernel_rfl
@[go_sem] theorem sz141 : szTy Try.prog 141 = some 1 := by kernel_rfl
@[go_sem] theorem zero141 : zeroA Try.prog 141 = some (.base (.slice none 0 0)) := by kernel_rfl
@[go_sem] theorem el141 : elI Try.prog 141 1 24 = true := by kernel_rfl
@[go_sem] theorem agg142 : aggTy Try.prog 142 = some false := by kernel_rfl
@[go_sem] theorem sz142 : szTy Try.prog 142 = some 1 := by kernel_rfl
@[go_sem] theorem zero142 : zeroA Try.prog 142 = some (.base .nilFunc) := by kernel_rfl
@[go_sem] theorem el142 : elI Try.prog 142 1 8 = true := by kernel_rfl
@[go_sem] theorem agg143 : aggTy Try.prog 143 = some false := by kernel_rfl
@[go_sem] theorem sz143 : szTy Try.prog 143 = some 1 := by kernel_rfl
@[go_sem] theorem zero143 : zeroA Try.prog 143 = some (.base .nilFunc) := by kernel_rfl
@[go_sem] theorem el143 : elI Try.prog 143 1 8 = true := by kernel_rfl
@[go_sem] theorem agg144 : aggTy Try.prog 144 = some false := by kernel_rfl
@[go_sem] theorem sz144 : szTy Try.prog 144 = some 1 := by kernel_rfl
@[go_sem] theorem zero144 : zeroA Try.prog 144 = some (.base .nilFunc) := by kernel_rfl
@[go_sem] theorem el144 : elI Try.prog 144 1 8 = true := by kernel_rfl
@[go_sem] theorem agg145 : aggTy Try.prog 145 = some false := by kernel_rfl
@[go_sem] theorem sz145 : szTy Try.prog 145 = some 1 := by kernel_rfl
@[go_sem] theorem zero145 : zeroA Try.prog 145 = some (.base .nilFunc) := by kernel_rfl
@[go_sem] theorem el145 : elI Try.prog 145 1 8 = true := by kernel_rfl
@[go_sem] theorem agg146 : aggTy Try.prog 146 = some false := by kernel_rfl
@[go_sem] theorem sz146 : szTy Try.prog 146 = some 1 := by kernel_rfl
@[go_sem] theorem zero146 : zeroA Try.prog 146 = some (.base .nilFunc) := by kernel_rfl
@[go_sem] theorem el146 : elI Try.prog 146 1 8 = true := by kernel_rfl
@[go_sem] theorem agg147 : aggTy Try.prog 147 = some false := by kernel_rfl
@[go_sem] theorem sz147 : szTy Try.prog 147 = some 1 := by kernel_rfl
@[go_sem] theorem zero147 : zeroA Try.prog 147 = some (.base .nilFunc) := by kernel_rfl
@[go_sem] theorem el147 : elI Try.prog 147 1 8 = true := by kernel_rfl
@[go_sem] theorem agg148 : aggTy Try.prog 148 = some false := by kernel_rfl
@[go_sem] theorem sz148 : szTy Try.prog 148 = some 1 := by kernel_rfl
@[go_sem] theorem zero148 : zeroA Try.prog 148 = some (.base (.pointer none)) := by kernel_rfl
@[go_sem] theorem el148 : elI Try.prog 148 1 8 = true := by kernel_rfl
@[go_sem] theorem agg149 : aggTy Try.prog 149 = some false := by kernel_rfl
@[go_sem] theorem sz149 : szTy Try.prog 149 = some 1 := by kernel_rfl
@[go_sem] theorem zero149 : zeroA Try.prog 149 = some (.base .nilFunc) := by kernel_rfl
@[go_sem] theorem el149 : elI Try.prog 149 1 8 = true := by kernel_rfl
@[go_sem] theorem agg150 : aggTy Try.prog 150 = some false := by kernel_rfl
@[go_sem] theorem sz150 : szTy Try.prog 150 = some 1 := by kernel_rfl
@[go_sem] theorem zero150 : zeroA Try.prog 150 = some (.base .nilFunc) := by kernel_rfl
@[go_sem] theorem el150 : elI Try.prog 150 1 8 = true := by kernel_rfl
@[go_sem] theorem agg151 : aggTy Try.prog 151 = some false := by kernel_rfl
@[go_sem] theorem sz151 : szTy Try.prog 151 = some 1 := by kernel_rfl
@[go_sem] theorem zero151 : zeroA Try.prog 151 = some (.base .nilFunc) := by kernel_rfl
@[go_sem] theorem el151 : elI Try.prog 151 1 8 = true := by kernel_rfl
@[go_sem] theorem agg152 : aggTy Try.prog 152 = some false := by kernel_rfl
@[go_sem] theorem sz152 : szTy Try.prog 152 = some 1 := by kernel_rfl
@[go_sem] theorem zero152 : zeroA Try.prog 152 = some (.base .nilFunc) := by kernel_rfl
@[go_sem] theorem el152 : elI Try.prog 152 1 8 = true := by kernel_rfl
@[go_sem] theorem agg153 : aggTy Try.prog 153 = some false := by kernel_rfl
@[go_sem] theorem sz153 : szTy Try.prog 153 = some 1 := by kernel_rfl
@[go_sem] theorem zero153 : zeroA Try.prog 153 = some (.base (.map none)) := by kernel_rfl
@[go_sem] theorem el153 : elI Try.prog 153 1 8 = true := by kernel_rfl
@[go_sem] theorem agg154 : aggTy Try.prog 154 = some false := by kernel_rfl
@[go_sem] theorem sz154 : szTy Try.prog 154 = some 1 := by kernel_rfl
@[go_sem] theorem zero154 : zeroA Try.prog 154 = some (.base .nilFunc) := by kernel_rfl
@[go_sem] theorem el154 : elI Try.prog 154 1 8 = true := by kernel_rfl
@[go_sem] theorem agg155 : aggTy Try.prog 155 = some false := by kernel_rfl
@[go_sem] theorem sz155 : szTy Try.prog 155 = some 1 := by kernel_rfl
@[go_sem] theorem zero155 : zeroA Try.prog 155 = some (.base (.slice none 0 0)) := by kernel_rfl
@[go_sem] theorem el155 : elI Try.prog 155 1 24 = true := by kernel_rfl
@[go_sem] theorem agg156 : aggTy Try.prog 156 = some false := by kernel_rfl
@[go_sem] theorem sz156 : szTy Try.prog 156 = some 1 := by kernel_rfl
@[go_sem] theorem zero156 : zeroA Try.prog 156 = some (.base (.slice none 0 0)) := by kernel_rfl
@[go_sem] theorem el156 : elI Try.prog 156 1 24 = true := by kernel_rfl
@[go_sem] theorem agg157 : aggTy Try.prog 157 = some true := by kernel_rfl
@[go_sem] theorem sz157 : szTy Try.prog 157 = some 3 := by kernel_rfl
@[go_sem] theorem zero157 : zeroA Try.prog 157 = some (.agg [.base (.int .i64 (0)), .base (.int .i64 (0)), .base (.slice none 0 0)]) := by kernel_rfl
@[go_sem] theorem el157 : elI Try.prog 157 3 40 = true := by kernel_rfl
@[go_sem] theorem pl157 : placesOf Try.prog 157 = some [(0, 1), (1, 1), (2, 1)] := by kernel_rfl
@[go_sem] theorem off157_0 : fieldOff Try.prog 157 0 = some 0 := by kernel_rfl
@[go_sem] theorem off157_1 : fieldOff Try.prog 157 1 = some 1 := by kernel_rfl
@[go_sem] theorem off157_2 : fieldOff Try.prog 157 2 = some 2 := by kernel_rfl
@[go_sem] theorem agg158 : aggTy Try.prog 158 = some true := by kernel_rfl
@[go_sem] theorem sz158 : szTy Try.prog 158 = some 3 := by kernel_rfl
@[go_sem] theorem zero158 : zeroA Try.prog 158 = some (.agg [.base (.int .i64 (0)), .base (.int .i64 (0)), .base (.slice none 0 0)]) := by kernel_rfl
@[go_sem] theorem el158 : elI Try.prog 158 3 40 = true := by kernel_rfl
@[go_sem] theorem pl158 : placesOf Try.prog 158 = some [(0, 1), (1, 1), (2, 1)] := by kernel_rfl
@[go_sem] theorem off158_0 : fieldOff Try.prog 158 0 = some 0 := by kernel_rfl
@[go_sem] theorem off158_1 : fieldOff Try.prog 158 1 = some 1 := by kernel_rfl
@[go_sem] theorem off158_2 : fieldOff Try.prog 158 2 = some 2 := by kernel_rfl
@[go_sem] theorem agg159 : aggTy Try.prog 159 = some false := by kernel_rfl
@[go_sem] theorem sz159 : szTy Try.prog 159 = some 1 := by kernel_rfl
@[go_sem] theorem agg160 : aggTy Try.prog 160 = some false := by kernel_rfl
@[go_sem] theorem sz160 : szTy Try.prog 160 = some 1 := by kernel_rfl
@[go_sem] theorem zero160 : zeroA Try.prog 160 = some (.base .nilFunc) := by kernel_rfl
@[go_sem] theorem el160 : elI Try.prog 160 1 8 = true := by kernel_rfl
@[go_sem] theorem agg161 : aggTy Try.prog 161 = some false := by kernel_rfl
@[go_sem] theorem sz161 : szTy Try.prog 161 = some 1 := by kernel_rfl
@[go_sem] theorem zero161 : zeroA Try.prog 161 = some (.base (.pointer none)) := by kernel_rfl
@[go_sem] theorem el161 : elI Try.prog 161 1 8 = true := by kernel_rfl
@[go_sem] theorem agg162 : aggTy Try.prog 162 = some false := by kernel_rfl
@[go_sem] theorem sz162 : szTy Try.prog 162 = some 1 := by kernel_rfl
@[go_sem] theorem zero162 : zeroA Try.prog 162 = some (.base .nilFunc) := by kernel_rfl
@[go_sem] theorem el162 : elI Try.prog 162 1 8 = true := by kernel_rfl
@[go_sem] theorem agg163 : aggTy Try.prog 163 = some false := by kernel_rfl
@[go_sem] theorem sz163 : szTy Try.prog 163 = some 1 := by kernel_rfl
@[go_sem] theorem zero163 : zeroA Try.prog 163 = some (.base (.slice none 0 0)) := by kernel_rfl
@[go_sem] theorem el163 : elI Try.prog 163 1 24 = true := by kernel_rfl
@[go_sem] theorem agg164 : aggTy Try.prog 164 = some false := by kernel_rfl
@[go_sem] theorem sz164 : szTy Try.prog 164 = some 1 := by kernel_rfl
@[go_sem] theorem zero164 : zeroA Try.prog 164 = some (.base (.int .u64 (0))) := by kernel_rfl
@[go_sem] theorem el164 : elI Try.prog 164 1 8 = true := by kernel_rfl
@[go_sem] theorem agg165 : aggTy Try.prog 165 = some false := by kernel_rfl
@[go_sem] theorem sz165 : szTy Try.prog 165 = some 1 := by kernel_rfl
@[go_sem] theorem zero165 : zeroA Try.prog 165 = some (.base (.slice none 0 0)) := by kernel_rfl
@[go_sem] theorem el165 : elI Try.prog 165 1 24 = true := by kernel_rfl
@[go_sem] theorem agg166 : aggTy Try.prog 166 = some false := by kernel_rfl
@[go_sem] theorem sz166 : szTy Try.prog 166 = some 1 := by kernel_rfl
@[go_sem] theorem zero166 : zeroA Try.prog 166 = some (.base .nilFunc) := by kernel_rfl
@[go_sem] theorem el166 : elI Try.prog 166 1 8 = true := by kernel_rfl
@[go_sem] theorem agg167 : aggTy Try.prog 167 = some false := by kernel_rfl
@[go_sem] theorem sz167 : szTy Try.prog 167 = some 1 := by kernel_rfl
@[go_sem] theorem zero167 : zeroA Try.prog 167 = some (.base (.map none)) := by kernel_rfl
@[go_sem] theorem el167 : elI Try.prog 167 1 8 = true := by kernel_rfl
@[go_sem] theorem agg168 : aggTy Try.prog 168 = some false := by kernel_rfl
@[go_sem] theorem sz168 : szTy Try.prog 168 = some 1 := by kernel_rfl
@[go_sem] theorem zero168 : zeroA Try.prog 168 = some (.base (.pointer none)) := by kernel_rfl
@[go_sem] theorem el168 : elI Try.prog 168 1 8 = true := by kernel_rfl
@[go_sem] theorem agg169 : aggTy Try.prog 169 = some false := by kernel_rfl
@[go_sem] theorem sz169 : szTy Try.prog 169 = some 1 := by kernel_rfl
@[go_sem] theorem zero169 : zeroA Try.prog 169 = some (.base .nilFunc) := by kernel_rfl
@[go_sem] theorem el169 : elI Try.prog 169 1 8 = true := by kernel_rfl
@[go_sem] theorem agg170 : aggTy Try.prog 170 = some false := by kernel_rfl
@[go_sem] theorem sz170 : szTy Try.prog 170 = some 1 := by kernel_rfl
@[go_sem] theorem zero170 : zeroA Try.prog 170 = some (.base .nilFunc) := by kernel_rfl
@[go_sem] theorem el170 : elI Try.prog 170 1 8 = true := by kernel_rfl
@[go_sem] theorem agg171 : aggTy Try.prog 171 = some false := by kernel_rfl
@[go_sem] theorem sz171 : szTy Try.prog 171 = some 1 := by kernel_rfl
@[go_sem] theorem zero171 : zeroA Try.prog 171 = some (.base .nilFunc) := by kernel_rfl
@[go_sem] theorem el171 : elI Try.prog 171 1 8 = true := by kernel_rfl
@[go_sem] theorem agg172 : aggTy Try.prog 172 = some false := by kernel_rfl
@[go_sem] theorem sz172 : szTy Try.prog 172 = some 1 := by kernel_rfl
@[go_sem] theorem zero172 : zeroA Try.prog 172 = some (.base (.pointer none)) := by kernel_rfl
@[go_sem] theorem el172 : elI Try.prog 172 1 8 = true := by kernel_rfl
@[go_sem] theorem agg173 : aggTy Try.prog 173 = some true := by kernel_rfl
@[go_sem] theorem sz173 : szTy Try.prog 173 = some 3 := by kernel_rfl
@[go_sem] theorem zero173 : zeroA Try.prog 173 = some (.agg [.base (.slice none 0 0), .base (.slice none 0 0), .base (.slice none 0 0)]) := by kernel_rfl
@[go_sem] theorem el173 : elI Try.prog 173 3 72 = true := by kernel_rfl
@[go_sem] theorem pl173 : placesOf Try.prog 173 = some [(0, 1), (1, 1), (2, 1)] := by kernel_rfl
@[go_sem] theorem off173_0 : fieldOff Try.prog 173 0 = some 0 := by kernel_rfl
@[go_sem] theorem off173_1 : fieldOff Try.prog 173 1 = some 1 := by kernel_rfl
@[go_sem] theorem off173_2 : fieldOff Try.prog 173 2 = some 2 := by kernel_rfl
@[go_sem] theorem agg174 : aggTy Try.prog 174 = some true := by kernel_rfl
@[go_sem] theorem sz174 : szTy Try.prog 174 = some 3 := by kernel_rfl
@[go_sem] theorem zero174 : zeroA Try.prog 174 = some (.agg [.base (.slice none 0 0), .base (.slice none 0 0), .base (.slice none 0 0)]) := by kernel_rfl
@[go_sem] theorem el174 : elI Try.prog 174 3 72 = true := by kernel_rfl
@[go_sem] theorem pl174 : placesOf Try.prog 174 = some [(0, 1), (1, 1), (2, 1)] := by kernel_rfl
@[go_sem] theorem off174_0 : fieldOff Try.prog 174 0 = some 0 := by kernel_rfl
@[go_sem] theorem off174_1 : fieldOff Try.prog 174 1 = some 1 := by kernel_rfl
@[go_sem] theorem off174_2 : fieldOff Try.prog 174 2 = some 2 := by kernel_rfl
@[go_sem] theorem agg175 : aggTy Try.prog 175 = some false := by kernel_rfl
@[go_sem] theorem sz175 : szTy Try.prog 175 = some 1 := by kernel_rfl
@[go_sem] theorem zero175 : zeroA Try.prog 175 = some (.base .nilFunc) := by kernel_rfl
@[go_sem] theorem el175 : elI Try.prog 175 1 8 = true := by kernel_rfl
@[go_sem] theorem agg176 : aggTy Try.prog 176 = some false := by kernel_rfl
@[go_sem] theorem sz176 : szTy Try.prog 176 = some 1 := by kernel_rfl
@[go_sem] theorem zero176 : zeroA Try.prog 176 = some (.base .nilFunc) := by kernel_rfl
@[go_sem] theorem el176 : elI Try.prog 176 1 8 = true := by kernel_rfl
@[go_sem] theorem agg177 : aggTy Try.prog 177 = some false := by kernel_rfl
@[go_sem] theorem sz177 : szTy Try.prog 177 = some 1 := by kernel_rfl
@[go_sem] theorem zero177 : zeroA Try.prog 177 = some (.base .nilFunc) := by kernel_rfl
@[go_sem] theorem el177 : elI Try.prog 177 1 8 = true := by kernel_rfl
@[go_sem] theorem agg178 : aggTy Try.prog 178 = some false := by kernel_rfl
@[go_sem] theorem sz178 : szTy Try.prog 178 = some 1 := by kernel_rfl
@[go_sem] theorem zero178 : zeroA Try.prog 178 = some (.base .nilFunc) := by kernel_rfl
@[go_sem] theorem el178 : elI Try.prog 178 1 8 = true := by kernel_rfl
@[go_sem] theorem agg179 : aggTy Try.prog 179 = some false := by kernel_rfl
@[go_sem] theorem sz179 : szTy Try.prog 179 = some 1 := by kernel_rfl
@[go_sem] theorem zero179 : zeroA Try.prog 179 = some (.base .nilFunc) := by kernel_rfl
@[go_sem] theorem el179 : elI Try.prog 179 1 8 = true := by kernel_rfl
@[go_sem] theorem agg180 : aggTy Try.prog 180 = some false := by kernel_rfl
@[go_sem] theorem sz180 : szTy Try.prog 180 = some 1 := by kernel_rfl
@[go_sem] theorem zero180 : zeroA Try.prog 180 = some (.base .nilFunc) := by kernel_rfl
@[go_sem] theorem el180 : elI Try.prog 180 1 8 = true := by kernel_rfl
@[go_sem] theorem agg181 : aggTy Try.prog 181 = some false := by kernel_rfl
@[go_sem] theorem sz181 : szTy Try.prog 181 = some 1 := by kernel_rfl
@[go_sem] theorem zero181 : zeroA Try.prog 181 = some (.base .nilFunc) := by kernel_rfl
@[go_sem] theorem el181 : elI Try.prog 181 1 8 = true := by kernel_rfl
@[go_sem] theorem agg182 : aggTy Try.prog 182 = some true := by kernel_rfl
@[go_sem] theorem sz182 : szTy Try.prog 182 = some 5 := by kernel_rfl
@[go_sem] theorem zero182 : zeroA Try.prog 182 = some (.agg [.base (.slice none 0 0), .base (.slice none 0 0), .base (.int .u64 (0)), .base (.int .u64 (0)), .base (.bool false)]) := by kernel_rfl
@[go_sem] theorem el182 : elI Try.prog 182 5 72 = true := by kernel_rfl
@[go_sem] theorem pl182 : placesOf Try.prog 182 = some [(0, 1), (1, 1), (2, 1), (3, 1), (4, 1)] := by kernel_rfl
@[go_sem] theorem off182_0 : fieldOff Try.prog 182 0 = some 0 := by kernel_rfl
@[go_sem] theorem off182_1 : fieldOff Try.prog 182 1 = some 1 := by kernel_rfl
@[go_sem] theorem off182_2 : fieldOff Try.prog 182 2 = some 2 := by kernel_rfl
@[go_sem] theorem off182_3 : fieldOff Try.prog 182 3 = some 3 := by kernel_rfl
@[go_sem] theorem off182_4 : fieldOff Try.prog 182 4 = some 4 := by kernel_rfl
@[go_sem] theorem agg183 : aggTy Try.prog 183 = some true := by kernel_rfl
@[go_sem] theorem sz183 : szTy Try.prog 183 = some 5 := by kernel_rfl
@[go_sem] theorem zero183 : zeroA Try.prog 183 = some (.agg [.base (.slice none 0 0), .base (.slice none 0 0), .base (.int .u64 (0)), .base (.int .u64 (0)), .base (.bool false)]) := by kernel_rfl
@[go_sem] theorem el183 : elI Try.prog 183 5 72 = true := by kernel_rfl
@[go_sem] theorem pl183 : placesOf Try.prog 183 = some [(0, 1), (1, 1), (2, 1), (3, 1), (4, 1)] := by kernel_rfl
@[go_sem] theorem off183_0 : fieldOff Try.prog 183 0 = some 0 := by kernel_rfl
@[go_sem] theorem off183_1 : fieldOff Try.prog 183 1 = some 1 := by kernel_rfl
@[go_sem] theorem off183_2 : fieldOff Try.prog 183 2 = some 2 := by kernel_rfl
@[go_sem] theorem off183_3 : fieldOff Try.prog 183 3 = some 3 := by kernel_rfl
@[go_sem] theorem off183_4 : fieldOff Try.prog 183 4 = some 4 := by kernel_rfl
@[go_sem] theorem agg184 : aggTy Try.prog 184 = some false := by kernel_rfl
@[go_sem] theorem sz184 : szTy Try.prog 184 = some 1 := by kernel_rfl
@[go_sem] theorem zero184 : zeroA Try.prog 184 = some (.base (.int .u64 (0))) := by kernel_rfl
@[go_sem] theorem el184 : elI Try.prog 184 1 8 = true := by kernel_rfl
@[go_sem] theorem agg185 : aggTy Try.prog 185 = some false := by kernel_rfl
@[go_sem] theorem sz185 : szTy Try.prog 185 = some 1 := by kernel_rfl
@[go_sem] theorem zero185 : zeroA Try.prog 185 = some (.base .nilFunc) := by kernel_rfl
@[go_sem] theorem el185 : elI Try.prog 185 1 8 = true := by kernel_rfl
@[go_sem] theorem agg186 : aggTy Try.prog 186 = some false := by kernel_rfl
@[go_sem] theorem sz186 : szTy Try.prog 186 = some 1 := by kernel_rfl
@[go_sem] theorem zero186 : zeroA Try.prog 186 = some (.base .nilFunc) := by kernel_rfl
@[go_sem] theorem el186 : elI Try.prog 186 1 8 = true := by kernel_rfl
@[go_sem] theorem agg187 : aggTy Try.prog 187 = some false := by kernel_rfl
@[go_sem] theorem sz187 : szTy Try.prog 187 = some 1 := by kernel_rfl
@[go_sem] theorem zero187 : zeroA Try.prog 187 = some (.base .nilFunc) := by kernel_rfl
@[go_sem] theorem el187 : elI Try.prog 187 1 8 = true := by kernel_rfl
@[go_sem] theorem agg188 : aggTy Try.prog 188 = some false := by kernel_rfl
@[go_sem] theorem sz188 : szTy Try.prog 188 = some 1 := by kernel_rfl
@[go_sem] theorem zero188 : zeroA Try.prog 188 = some (.base .nilFunc) := by kernel_rfl
@[go_sem] theorem el188 : elI Try.prog 188 1 8 = true := by kernel_rfl
@[go_sem] theorem agg189 : aggTy Try.prog 189 = some true := by kernel_rfl
@[go_sem] theorem sz189 : szTy Try.prog 189 = some 3 := by kernel_rfl
@[go_sem] theorem zero189 : zeroA Try.prog 189 = some (.agg [.base (.int .u64 (0)), .base (.int .u64 (0)), .base (.bool false)]) := by kernel_rfl
@[go_sem] theorem el189 : elI Try.prog 189 3 24 = true := by kernel_rfl
@[go_sem] theorem pl189 : placesOf Try.prog 189 = some [(0, 1), (1, 1), (2, 1)] := by kernel_rfl
@[go_sem] theorem off189_0 : fieldOff Try.prog 189 0 = some 0 := by kernel_rfl
@[go_sem] theorem off189_1 : fieldOff Try.prog 189 1 = some 1 := by kernel_rfl
@[go_sem] theorem off189_2 : fieldOff Try.prog 189 2 = some 2 := by kernel_rfl
@[go_sem] theorem agg190 : aggTy Try.prog 190 = some true := by kernel_rfl
@[go_sem] theorem sz190 : szTy Try.prog 190 = some 3 := by kernel_rfl
@[go_sem] theorem zero190 : zeroA Try.prog 190 = some (.agg [.base (.int .u64 (0)), .base (.int .u64 (0)), .base (.bool false)]) := by kernel_rfl
@[go_sem] theorem el190 : elI Try.prog 190 3 24 = true := by kernel_rfl
@[go_sem] theorem pl190 : placesOf Try.prog 190 = some [(0, 1), (1, 1), (2, 1)] := by kernel_rfl
@[go_sem] theorem off190_0 : fieldOff Try.prog 190 0 = some 0 := by kernel_rfl
@[go_sem] theorem off190_1 : fieldOff Try.prog 190 1 = some 1 := by kernel_rfl
@[go_sem] theorem off190_2 : fieldOff Try.prog 190 2 = some 2 := by kernel_rfl
@[go_sem] theorem agg191 : aggTy Try.prog 191 = some false := by kernel_rfl
@[go_sem] theorem sz191 : szTy Try.prog 191 = some 1 := by kernel_rfl
@[go_sem] theorem zero191 : zeroA Try.prog 191 = some (.base .nilFunc) := by kernel_rfl
@[go_sem] theorem el191 : elI Try.prog 191 1 8 = true := by kernel_rfl
@[go_sem] theorem agg192 : aggTy Try.prog 192 = some false := by kernel_rfl
@[go_sem] theorem sz192 : szTy Try.prog 192 = some 1 := by kernel_rfl
@[go_sem] theorem zero192 : zeroA Try.prog 192 = some (.base .nilFunc) := by kernel_rfl
@[go_sem] theorem el192 : elI Try.prog 192 1 8 = true := by kernel_rfl
@[go_sem] theorem agg193 : aggTy Try.prog 193 = some false := by kernel_rfl
@[go_sem] theorem sz193 : szTy Try.prog 193 = some 1 := by kernel_rfl
@[go_sem] theorem zero193 : zeroA Try.prog 193 = some (.base .nilFunc) := by kernel_rfl
@[go_sem] theorem el193 : elI Try.prog 193 1 8 = true := by kernel_rfl
@[go_sem] theorem agg194 : aggTy Try.prog 194 = some true := by kernel_rfl
@[go_sem] theorem sz194 : szTy Try.prog 194 = some 4 := by kernel_rfl
@[go_sem] theorem zero194 : zeroA Try.prog 194 = some (.agg [.base (.pointer none), .base (.pointer none), .base (.pointer none), .base (.string ByteArray.empty)]) := by kernel_rfl
@[go_sem] theorem el194 : elI Try.prog 194 4 40 = true := by kernel_rfl
@[go_sem] theorem pl194 : placesOf Try.prog 194 = some [(0, 1), (1, 1), (2, 1), (3, 1)] := by kernel_rfl
@[go_sem] theorem off194_0 : fieldOff Try.prog 194 0 = some 0 := by kernel_rfl
@[go_sem] theorem off194_1 : fieldOff Try.prog 194 1 = some 1 := by kernel_rfl
@[go_sem] theorem off194_2 : fieldOff Try.prog 194 2 = some 2 := by kernel_rfl
@[go_sem] theorem off194_3 : fieldOff Try.prog 194 3 = some 3 := by kernel_rfl
@[go_sem] theorem agg195 : aggTy Try.prog 195 = some true := by kernel_rfl
@[go_sem] theorem sz195 : szTy Try.prog 195 = some 4 := by kernel_rfl
@[go_sem] theorem zero195 : zeroA Try.prog 195 = some (.agg [.base (.pointer none), .base (.pointer none), .base (.pointer none), .base (.string ByteArray.empty)]) := by kernel_rfl
@[go_sem] theorem el195 : elI Try.prog 195 4 40 = true := by kernel_rfl
@[go_sem] theorem pl195 : placesOf Try.prog 195 = some [(0, 1), (1, 1), (2, 1), (3, 1)] := by kernel_rfl
@[go_sem] theorem off195_0 : fieldOff Try.prog 195 0 = some 0 := by kernel_rfl
@[go_sem] theorem off195_1 : fieldOff Try.prog 195 1 = some 1 := by kernel_rfl
@[go_sem] theorem off195_2 : fieldOff Try.prog 195 2 = some 2 := by kernel_rfl
@[go_sem] theorem off195_3 : fieldOff Try.prog 195 3 = some 3 := by kernel_rfl
@[go_sem] theorem agg196 : aggTy Try.prog 196 = some true := by kernel_rfl
@[go_sem] theorem sz196 : szTy Try.prog 196 = some 0 := by kernel_rfl
@[go_sem] theorem agg197 : aggTy Try.prog 197 = some true := by kernel_rfl
@[go_sem] theorem sz197 : szTy Try.prog 197 = some 0 := by kernel_rfl
@[go_sem] theorem pl197 : placesOf Try.prog 197 = some [(0, 0)] := by kernel_rfl
@[go_sem] theorem agg198 : aggTy Try.prog 198 = some true := by kernel_rfl
@[go_sem] theorem sz198 : szTy Try.prog 198 = some 0 := by kernel_rfl
@[go_sem] theorem pl198 : placesOf Try.prog 198 = some [(0, 0)] := by kernel_rfl
@[go_sem] theorem agg199 : aggTy Try.prog 199 = some false := by kernel_rfl
@[go_sem] theorem sz199 : szTy Try.prog 199 = some 1 := by kernel_rfl
@[go_sem] theorem zero199 : zeroA Try.prog 199 = some (.base (.int .u32 (0))) := by kernel_rfl
@[go_sem] theorem el199 : elI Try.prog 199 1 4 = true := by kernel_rfl
@[go_sem] theorem agg200 : aggTy Try.prog 200 = some false := by kernel_rfl
@[go_sem] theorem sz200 : szTy Try.prog 200 = some 1 := by kernel_rfl
@[go_sem] theorem zero200 : zeroA Try.prog 200 = some (.base (.int .u8 (0))) := by kernel_rfl
@[go_sem] theorem el200 : elI Try.prog 200 1 1 = true := by kernel_rfl
@[go_sem] theorem agg201 : aggTy Try.prog 201 = some false := by kernel_rfl
@[go_sem] theorem sz201 : szTy Try.prog 201 = some 1 := by kernel_rfl
@[go_sem] theorem zero201 : zeroA Try.prog 201 = some (.base (.int .u8 (0))) := by kernel_rfl
@[go_sem] theorem el201 : elI Try.prog 201 1 1 = true := by kernel_rfl
@[go_sem] theorem agg202 : aggTy Try.prog 202 = some false := by kernel_rfl
@[go_sem] theorem sz202 : szTy Try.prog 202 = some 1 := by kernel_rfl
@[go_sem] theorem zero202 : zeroA Try.prog 202 = some (.base .nilFunc) := by kernel_rfl
@[go_sem] theorem el202 : elI Try.prog 202 1 8 = true := by kernel_rfl
@[go_sem] theorem agg203 : aggTy Try.prog 203 = some false := by kernel_rfl
@[go_sem] theorem sz203 : szTy Try.prog 203 = some 1 := by kernel_rfl
@[go_sem] theorem zero203 : zeroA Try.prog 203 = some (.base (.int .i32 (0))) := by kernel_rfl
@[go_sem] theorem el203 : elI Try.prog 203 1 4 = true := by kernel_rfl
@[go_sem] theorem agg204 : aggTy Try.prog 204 = some false := by kernel_rfl
@[go_sem] theorem sz204 : szTy Try.prog 204 = some 1 := by kernel_rfl
@[go_sem] theorem zero204 : zeroA Try.prog 204 = some (.base (.int .i32 (0))) := by kernel_rfl
@[go_sem] theorem el204 : elI Try.prog 204 1 4 = true := by kernel_rfl
@[go_sem] theorem agg205 : aggTy Try.prog 205 = some true := by kernel_rfl
@[go_sem] theorem sz205 : szTy Try.prog 205 = some 11 := by kernel_rfl
@[go_sem] theorem zero205 : zeroA Try.prog 205 = some (.agg [.base (.int .u64 (0)), .base (.int .u64 (0)), .base (.int .u32 (0)), .base (.int .u8 (0)), .base (.int .u8 (0)), .base (.int .u8 (0)), .base (.int .u8 (0)), .base .nilFunc, .base (.pointer none), .base (.int .i32 (0)), .base (.int .i32 (0))]) := by kernel_rfl
@[go_sem] theorem el205 : elI Try.prog 205 11 48 = true := by kernel_rfl
@[go_sem] theorem pl205 : placesOf Try.prog 205 = some [(0, 1), (1, 1), (2, 1), (3, 1), (4, 1), (5, 1), (6, 1), (7, 1), (8, 1), (9, 1), (10, 1)] := by kernel_rfl
@[go_sem] theorem off205_0 : fieldOff Try.prog 205 0 = some 0 := by kernel_rfl
@[go_sem] theorem off205_1 : fieldOff Try.prog 205 1 = some 1 := by kernel_rfl
@[go_sem] theorem off205_2 : fieldOff Try.prog 205 2 = some 2 := by kernel_rfl
@[go_sem] theorem off205_3 : fieldOff Try.prog 205 3 = some 3 := by kernel_rfl
@[go_sem] theorem off205_4 : fieldOff Try.prog 205 4 = some 4 := by kernel_rfl
@[go_sem] theorem off205_5 : fieldOff Try.prog 205 5 = some 5 := by kernel_rfl
@[go_sem] theorem off205_6 : fieldOff Try.prog 205 6 = some 6 := by kernel_rfl
@[go_sem] theorem off205_7 : fieldOff Try.prog 205 7 = some 7 := by kernel_rfl
@[go_sem] theorem off205_8 : fieldOff Try.prog 205 8 = some 8 := by kernel_rfl
@[go_sem] theorem off205_9 : fieldOff Try.prog 205 9 = some 9 := by kernel_rfl
@[go_sem] theorem off205_10 : fieldOff Try.prog 205 10 = some 10 := by kernel_rfl
@[go_sem] theorem agg206 : aggTy Try.prog 206 = some true := by kernel_rfl
@[go_sem] theorem sz206 : szTy Try.prog 206 = some 11 := by kernel_rfl
@[go_sem] theorem zero206 : zeroA Try.prog 206 = some (.agg [.base (.int .u64 (0)), .base (.int .u64 (0)), .base (.int .u32 (0)), .base (.int .u8 (0)), .base (.int .u8 (0)), .base (.int .u8 (0)), .base (.int .u8 (0)), .base .nilFunc, .base (.pointer none), .base (.int .i32 (0)), .base (.int .i32 (0))]) := by kernel_rfl
@[go_sem] theorem el206 : elI Try.prog 206 11 48 = true := by kernel_rfl
@[go_sem] theorem pl206 : placesOf Try.prog 206 = some [(0, 1), (1, 1), (2, 1), (3, 1), (4, 1), (5, 1), (6, 1), (7, 1), (8, 1), (9, 1), (10, 1)] := by kernel_rfl
@[go_sem] theorem off206_0 : fieldOff Try.prog 206 0 = some 0 := by kernel_rfl
@[go_sem] theorem off206_1 : fieldOff Try.prog 206 1 = some 1 := by kernel_rfl
@[go_sem] theorem off206_2 : fieldOff Try.prog 206 2 = some 2 := by kernel_rfl
@[go_sem] theorem off206_3 : fieldOff Try.prog 206 3 = some 3 := by kernel_rfl
@[go_sem] theorem off206_4 : fieldOff Try.prog 206 4 = some 4 := by kernel_rfl
@[go_sem] theorem off206_5 : fieldOff Try.prog 206 5 = some 5 := by kernel_rfl
@[go_sem] theorem off206_6 : fieldOff Try.prog 206 6 = some 6 := by kernel_rfl
@[go_sem] theorem off206_7 : fieldOff Try.prog 206 7 = some 7 := by kernel_rfl
@[go_sem] theorem off206_8 : fieldOff Try.prog 206 8 = some 8 := by kernel_rfl
@[go_sem] theorem off206_9 : fieldOff Try.prog 206 9 = some 9 := by kernel_rfl
@[go_sem] theorem off206_10 : fieldOff Try.prog 206 10 = some 10 := by kernel_rfl
attribute [go_sem] Try.underlying0 Try.underlying1 Try.underlying2 Try.underlying3 Try.underlying4 Try.underlying5 Try.underlying6 Try.underlying7 Try.underlying8 Try.underlying9 Try.underlying10 Try.underlying11 Try.underlying12 Try.underlying13 Try.underlying14 Try.underlying15 Try.underlying16 Try.underlying17 Try.underlying18 Try.underlying19 Try.underlying20 Try.underlying21 Try.underlying22 Try.underlying23 Try.underlying24 Try.underlying25 Try.underlying26 Try.underlying27 Try.underlying28 Try.underlying29 Try.underlying30 Try.underlying31 Try.underlying32 Try.underlying33 Try.underlying34 Try.underlying35 Try.underlying36 Try.underlying37 Try.underlying38 Try.underlying39 Try.underlying40 Try.underlying41 Try.underlying42 Try.underlying43 Try.underlying44 Try.underlying45 Try.underlying46 Try.underlying47 Try.underlying48 Try.underlying49 Try.underlying50 Try.underlying51 Try.underlying52 Try.underlying53 Try.underlying54 Try.underlying55 Try.underlying56 Try.underlying57 Try.underlying58 Try.underlying59 Try.underlying60 Try.underlying61 Try.underlying62 Try.underlying63 Try.underlying64 Try.underlying65 Try.underlying66 Try.underlying67 Try.underlying68 Try.underlying69 Try.underlying70 Try.underlying71 Try.underlying72 Try.underlying73 Try.underlying74 Try.underlying75 Try.underlying76 Try.underlying77 Try.underlying78 Try.underlying79 Try.underlying80 Try.underlying81 Try.underlying82 Try.underlying83 Try.underlying84 Try.underlying85 Try.underlying86 Try.underlying87 Try.underlying88 Try.underlying89 Try.underlying90 Try.underlying91 Try.underlying92 Try.underlying93 Try.underlying94 Try.underlying95 Try.underlying96 Try.underlying97 Try.underlying98 Try.underlying99 Try.underlying100 Try.underlying101 Try.underlying102 Try.underlying103 Try.underlying104 Try.underlying105 Try.underlying106 Try.underlying107 Try.underlying108 Try.underlying109 Try.underlying110 Try.underlying111 Try.underlying112 Try.underlying113 Try.underlying114 Try.underlying115 Try.underlying116 Try.underlying117 Try.underlying118 Try.underlying119 Try.underlying120 Try.underlying121 Try.underlying122 Try.underlying123 Try.underlying124 Try.underlying125 Try.underlying126 Try.underlying127 Try.underlying128 Try.underlying129 Try.underlying130 Try.underlying131 Try.underlying132 Try.underlying133 Try.underlying134 Try.underlying135 Try.underlying136 Try.underlying137 Try.underlying138 Try.underlying139 Try.underlying140 Try.underlying141 Try.underlying142 Try.underlying143 Try.underlying144 Try.underlying145 Try.underlying146 Try.underlying147 Try.underlying148 Try.underlying149 Try.underlying150 Try.underlying151 Try.underlying152 Try.underlying153 Try.underlying154 Try.underlying155 Try.underlying156 Try.underlying157 Try.underlying158 Try.underlying159 Try.underlying160 Try.underlying161 Try.underlying162 Try.underlying163 Try.underlying164 Try.underlying165 Try.underlying166 Try.underlying167 Try.underlying168 Try.underlying169 Try.underlying170 Try.underlying171 Try.underlying172 Try.underlying173 Try.underlying174 Try.underlying175 Try.underlying176 Try.underlying177 Try.underlying178 Try.underlying179 Try.underlying180 Try.underlying181 Try.underlying182 Try.underlying183 Try.underlying184 Try.underlying185 Try.underlying186 Try.underlying187 Try.underlying188 Try.underlying189 Try.underlying190 Try.underlying191 Try.underlying192 Try.underlying193 Try.underlying194 Try.underlying195 Try.underlying196 Try.underlying197 Try.underlying198 Try.underlying199 Try.underlying200 Try.underlying201 Try.underlying202 Try.underlying203 Try.underlying204 Try.underlying205 Try.underlying206
end Go.Ab.Ty
set_option maxHeartbeats 4000000
namespace Go.Ab
open Go Go.Ab Go.Proofs Go.Ab.Ty

abbrev chr (c : UInt8) : AV := .base (.int .u8 c.toNat)
abbrev str (s : ByteArray) : AV := .base (.string s)
def okB (c : UInt8) : Prop := 32 ≤ c.toNat ∧ c.toNat ≤ 126
instance (c : UInt8) : Decidable (okB c) := by unfold okB; infer_instance
theorem bs_get {s : ByteArray} {i : Nat} (h : i < s.size) : s[i]? = some s[i] := getElem?_pos s i h
theorem byteOf_ok (c : UInt8) : Fn Try.prog 56 [chr c] (.bool (decide (okB c))) := by
  refine Fn.intro' [(0, chr c)] 1 9 Try.func56 (by kernel_rfl) rfl rfl rfl rfl rfl ?_
  refine goB ?_
  exact Ret.bool rfl (by rw [decide_eq_true_iff]; simp [okB]; omega)

def isIn (s : ByteArray) (c : UInt8) : Prop := ∃ i, ∃ h : i < s.size, s[i] = c
open Classical in
theorem has_ok {s : ByteArray} (hs : s.size ≤ maxLen) (c : UInt8) : Fn Try.prog 94 [str s, chr c] (.bool (decide (isIn s c))) := by
  refine Fn.intro' [(0, str s), (1, chr c)] 2 17 Try.func94 (by kernel_rfl) rfl rfl rfl rfl rfl ?_
  unfold maxLen at hs
  refine goB ?_
  refine AWp.loopP (J := fun k : Nat => k ≤ s.size ∧ ∀ i, ∀ h : i < s.size, i < k → s[i] ≠ c) (fun k => [(5, .int k)]) (fun k => s.size - k) 0 ⟨Nat.zero_le _, fun i h h' => by omega⟩ .wk ?_
  rintro k ⟨hk, he⟩
  refine goB ?_
  refine ifA (fun hd => ?_) (fun hd => ?_)
  · simp at hd
    refine goB ?_
    refine ARun.q1 rfl rfl (ql_index_str rfl rfl Try.underlying9 (by omega) (bs_get (i := k) (by omega))) ?_
    refine goB ?_
    refine ifA (fun hq => ?_) (fun hq => ?_)
    · simp at hq
      refine goB ?_
      exact Ret.bool rfl (by rw [decide_eq_true_iff]; exact ⟨fun _ => ⟨k, by omega, UInt8.toNat_inj.1 (by omega)⟩, fun _ => rfl⟩)
    · simp at hq
      refine goB ?_
      rw [wrap_succ (by omega)]
      refine ⟨k + 1, ⟨by omega, fun i h hi => ?_⟩, by omega, .wk⟩
      by_cases e : i = k
      · subst e; exact fun h => hq (by rw [h])
      · exact he i h (by omega)
  simp at hd
  refine goB ?_
  exact Ret.bool rfl (by rw [decide_eq_true_iff]; exact ⟨fun h => (nomatch h), fun ⟨i, h, e⟩ => (he i h (by omega) e).elim⟩)
end Go.Ab
set_option maxHeartbeats 4000000
namespace Go.Ab
open Go Go.Ab Go.Proofs Go.Ab.Ty

inductive Rx | mk (op : Int) (set : ByteArray) (subs : List Rx)
def Rx.op : Rx → Int | .mk o _ _ => o
def Rx.set : Rx → ByteArray | .mk _ s _ => s
def Rx.subs : Rx → List Rx | .mk _ _ l => l
mutual
def encX : Rx → AV
  | .mk o s l => .agg [.int o, str s, .lst (encXs l)]
def encXs : List Rx → List AV
  | [] => []
  | r :: l => encX r :: encXs l
end
theorem encXs_map : ∀ l : List Rx, encXs l = l.map encX
  | [] => rfl
  | r :: l => by rw [encXs, encXs_map l]; rfl
theorem encX_mk (o : Int) (s : ByteArray) (l : List Rx) : encX (.mk o s l) = .agg [.int o, str s, .lst (l.map encX)] := by
  rw [encX, encXs_map]
theorem Rx.ind {p : Rx → Prop} (h : ∀ o s l, (∀ x ∈ l, p x) → p (.mk o s l)) : ∀ r, p r
  | .mk o s l => h o s l fun x hx => Rx.ind h x
inductive Rx.ok : Rx → Prop
  | mk (o : Int) (s : ByteArray) (l : List Rx) (hs : s.size ≤ maxLen) (hn : l.length ≤ maxLen) (hl : ∀ x ∈ l, Rx.ok x) : Rx.ok (.mk o s l)

inductive Rx.thin : Rx → Prop
  | mk (o : Int) (s : ByteArray) (l : List Rx) (hs : s.size ≤ 200) (hl : ∀ x ∈ l, Rx.thin x) : Rx.thin (.mk o s l)

theorem sh3 {f : Nat} {xs : List AV} (h : Sh Try.prog f 3 xs) : ∃ n, xs = [.int n] := by
  cases f with
  | zero => exact h.elim
  | succ f =>
    simp only [Sh, Try.underlying3] at h
    obtain ⟨n, h, _⟩ := h
    exact ⟨n, h⟩
theorem sh9 {f : Nat} {xs : List AV} (h : Sh Try.prog f 9 xs) : ∃ s : ByteArray, xs = [str s] ∧ s.size ≤ maxLen := by
  cases f with
  | zero => exact h.elim
  | succ f =>
    simp only [Sh, Try.underlying9] at h
    obtain ⟨s, h1, h2⟩ := h
    exact ⟨s, h1, h2⟩
theorem all_encP {α : Type} {Q : List AV → Prop} {R : α → Prop} {f : α → AV} {g : List AV → AV} {parts : List (List AV)} (h : ∀ p ∈ parts, Q p) (hq : ∀ p, Q p → ∃ x, g p = f x ∧ R x) : ∃ l : List α, parts.map g = l.map f ∧ ∀ x ∈ l, R x := by
  induction parts with
  | nil => exact ⟨[], rfl, by simp⟩
  | cons p ps ih =>
    obtain ⟨l, hl, hr⟩ := ih fun q hq' => h q (by simp [hq'])
    obtain ⟨x, hx, hx'⟩ := hq p (h p (by simp))
    exact ⟨x :: l, by simp [hl, hx], by simpa using ⟨hx', hr⟩⟩
theorem sh24 (n : Nat) : ∀ f : Nat, f < n → ∀ {p : List AV}, Sh Try.prog f 24 p → ∃ r : Rx, AV.agg p = encX r ∧ r.ok := by
  induction n with
  | zero => intro f hf; omega
  | succ n ih =>
    intro f hf p h
    cases f with
    | zero => exact h.elim
    | succ f =>
    simp only [Sh, Try.underlying24] at h
    obtain ⟨parts, hlen, rfl, h⟩ := h
    match parts, hlen, h with
    | [p0, p1, p2], _, h =>
      obtain ⟨o, rfl⟩ := sh3 (h 0 _ p0 rfl rfl).2
      obtain ⟨s, rfl, hs⟩ := sh9 (h 1 _ p1 rfl rfl).2
      have h2 : Sh Try.prog f 22 p2 := (h 2 _ p2 rfl rfl).2
      cases f with
      | zero => exact h2.elim
      | succ g =>
        simp only [Sh, Try.underlying22] at h2
        have ⟨parts, e, hn, h3⟩ := h2; clear h2; subst e
        obtain ⟨l, hl, hr⟩ := all_encP (f := encX) (R := Rx.ok) (g := mkEl (aggTy Try.prog 24 == some true)) h3 fun p hp => by
          obtain ⟨r, h1, h2⟩ := ih g (by omega) hp.2
          refine ⟨r, ?_, h2⟩
          rw [agg24]; exact h1
        exact ⟨.mk o s l, by rw [encX_mk, hl]; rfl, Rx.ok.mk o s l hs (by have := congrArg List.length hl; rw [List.length_map, List.length_map] at this; rw [← this]; exact hn) hr⟩
theorem shX {a : AV} (h : ShV Try.prog 24 a) : ∃ r : Rx, a = encX r ∧ r.ok := by
  unfold ShV at h
  obtain ⟨fuel, q, h, hn, e⟩ := h
  have ⟨r, h1, h2⟩ := sh24 (fuel + 1) fuel (Nat.lt_succ_self _) h
  exact ⟨r, by rw [e, agg24]; exact h1, h2⟩
end Go.Ab
