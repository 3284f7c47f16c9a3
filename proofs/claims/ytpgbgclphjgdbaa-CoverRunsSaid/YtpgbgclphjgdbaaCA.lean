/- Closed facts on the types of the program. Made by a program (gen_types.py). -/
import Derived.Test.YtpgbgclphjgdbaaProg
import Derived.Test.YtpgbgclphjgdbaaAbD
import Derived.Test.YtpgbgclphjgdbaaAbF
import Derived.Test.YtpgbgclphjgdbaaAbN
import Derived.Test.YtpgbgclphjgdbaaAbP
import Derived.Test.YtpgbgclphjgdbaaAbQ
import Derived.Test.YtpgbgclphjgdbaaAbO
set_option linter.unusedSimpArgs false
set_option linter.unusedVariables false
namespace Go.Ab.Ty
open Go Go.Ab Go.Proofs

theorem follows : Try.prog.follows .mixedOrders = true := by kernel_rfl
@[go_sem] theorem agg0 : aggTy Try.prog 0 = some false := by kernel_rfl
@[go_sem] theorem sz0 : szTy Try.prog 0 = some 1 := by kernel_rfl
@[go_sem] theorem agg1 : aggTy Try.prog 1 = some false := by kernel_rfl
@[go_sem] theorem sz1 : szTy Try.prog 1 = some 1 := by kernel_rfl
@[go_sem] theorem zero1 : zeroA Try.prog 1 = some (.base .nilFunc) := by kernel_rfl
@[go_sem] theorem el1 : elI Try.prog 1 1 8 = true := by kernel_rfl
@[go_sem] theorem agg2 : aggTy Try.prog 2 = some false := by kernel_rfl
@[go_sem] theorem sz2 : szTy Try.prog 2 = some 1 := by kernel_rfl
@[go_sem] theorem zero2 : zeroA Try.prog 2 = some (.base (.int .i64 (0))) := by kernel_rfl
@[go_sem] theorem el2 : elI Try.prog 2 1 8 = true := by kernel_rfl
@[go_sem] theorem agg3 : aggTy Try.prog 3 = some false := by kernel_rfl
@[go_sem] theorem sz3 : szTy Try.prog 3 = some 1 := by kernel_rfl
@[go_sem] theorem zero3 : zeroA Try.prog 3 = some (.base (.int .i64 (0))) := by kernel_rfl
@[go_sem] theorem el3 : elI Try.prog 3 1 8 = true := by kernel_rfl
@[go_sem] theorem agg4 : aggTy Try.prog 4 = some false := by kernel_rfl
@[go_sem] theorem sz4 : szTy Try.prog 4 = some 1 := by kernel_rfl
@[go_sem] theorem zero4 : zeroA Try.prog 4 = some (.base (.bool false)) := by kernel_rfl
@[go_sem] theorem el4 : elI Try.prog 4 1 1 = true := by kernel_rfl
@[go_sem] theorem agg5 : aggTy Try.prog 5 = some false := by kernel_rfl
@[go_sem] theorem sz5 : szTy Try.prog 5 = some 1 := by kernel_rfl
@[go_sem] theorem zero5 : zeroA Try.prog 5 = some (.base (.int .u8 (0))) := by kernel_rfl
@[go_sem] theorem el5 : elI Try.prog 5 1 1 = true := by kernel_rfl
@[go_sem] theorem agg6 : aggTy Try.prog 6 = some false := by kernel_rfl
@[go_sem] theorem sz6 : szTy Try.prog 6 = some 1 := by kernel_rfl
@[go_sem] theorem zero6 : zeroA Try.prog 6 = some (.base (.int .u8 (0))) := by kernel_rfl
@[go_sem] theorem el6 : elI Try.prog 6 1 1 = true := by kernel_rfl
@[go_sem] theorem agg7 : aggTy Try.prog 7 = some true := by kernel_rfl
@[go_sem] theorem sz7 : szTy Try.prog 7 = some 4 := by kernel_rfl
@[go_sem] theorem zero7 : zeroA Try.prog 7 = some (.agg [.base (.int .i64 (0)), .base (.int .i64 (0)), .base (.bool false), .base (.int .u8 (0))]) := by kernel_rfl
@[go_sem] theorem el7 : elI Try.prog 7 4 24 = true := by kernel_rfl
@[go_sem] theorem pl7 : placesOf Try.prog 7 = some [(0, 1), (1, 1), (2, 1), (3, 1)] := by kernel_rfl
@[go_sem] theorem off7_0 : fieldOff Try.prog 7 0 = some 0 := by kernel_rfl
@[go_sem] theorem off7_1 : fieldOff Try.prog 7 1 = some 1 := by kernel_rfl
@[go_sem] theorem off7_2 : fieldOff Try.prog 7 2 = some 2 := by kernel_rfl
@[go_sem] theorem off7_3 : fieldOff Try.prog 7 3 = some 3 := by kernel_rfl
@[go_sem] theorem agg8 : aggTy Try.prog 8 = some true := by kernel_rfl
@[go_sem] theorem sz8 : szTy Try.prog 8 = some 4 := by kernel_rfl
@[go_sem] theorem zero8 : zeroA Try.prog 8 = some (.agg [.base (.int .i64 (0)), .base (.int .i64 (0)), .base (.bool false), .base (.int .u8 (0))]) := by kernel_rfl
@[go_sem] theorem el8 : elI Try.prog 8 4 24 = true := by kernel_rfl
@[go_sem] theorem pl8 : placesOf Try.prog 8 = some [(0, 1), (1, 1), (2, 1), (3, 1)] := by kernel_rfl
@[go_sem] theorem off8_0 : fieldOff Try.prog 8 0 = some 0 := by kernel_rfl
@[go_sem] theorem off8_1 : fieldOff Try.prog 8 1 = some 1 := by kernel_rfl
@[go_sem] theorem off8_2 : fieldOff Try.prog 8 2 = some 2 := by kernel_rfl
@[go_sem] theorem off8_3 : fieldOff Try.prog 8 3 = some 3 := by kernel_rfl
@[go_sem] theorem agg9 : aggTy Try.prog 9 = some false := by kernel_rfl
@[go_sem] theorem sz9 : szTy Try.prog 9 = some 1 := by kernel_rfl
@[go_sem] theorem zero9 : zeroA Try.prog 9 = some (.base (.string ByteArray.empty)) := by kernel_rfl
@[go_sem] theorem el9 : elI Try.prog 9 1 16 = true := by kernel_rfl
@[go_sem] theorem agg10 : aggTy Try.prog 10 = some false := by kernel_rfl
@[go_sem] theorem sz10 : szTy Try.prog 10 = some 1 := by kernel_rfl
@[go_sem] theorem zero10 : zeroA Try.prog 10 = some (.base (.string ByteArray.empty)) := by kernel_rfl
@[go_sem] theorem el10 : elI Try.prog 10 1 16 = true := by kernel_rfl
@[go_sem] theorem agg11 : aggTy Try.prog 11 = some false := by kernel_rfl
@[go_sem] theorem sz11 : szTy Try.prog 11 = some 1 := by kernel_rfl
@[go_sem] theorem zero11 : zeroA Try.prog 11 = some (.base (.string ByteArray.empty)) := by kernel_rfl
@[go_sem] theorem el11 : elI Try.prog 11 1 16 = true := by kernel_rfl
@[go_sem] theorem agg12 : aggTy Try.prog 12 = some false := by kernel_rfl
@[go_sem] theorem sz12 : szTy Try.prog 12 = some 1 := by kernel_rfl
@[go_sem] theorem zero12 : zeroA Try.prog 12 = some (.base (.int .u64 (0))) := by kernel_rfl
@[go_sem] theorem el12 : elI Try.prog 12 1 8 = true := by kernel_rfl
@[go_sem] theorem agg13 : aggTy Try.prog 13 = some true := by kernel_rfl
@[go_sem] theorem sz13 : szTy Try.prog 13 = some 2 := by kernel_rfl
@[go_sem] theorem zero13 : zeroA Try.prog 13 = some (.agg [.base (.string ByteArray.empty), .base (.int .u64 (0))]) := by kernel_rfl
@[go_sem] theorem el13 : elI Try.prog 13 2 24 = true := by kernel_rfl
@[go_sem] theorem pl13 : placesOf Try.prog 13 = some [(0, 1), (1, 1)] := by kernel_rfl
@[go_sem] theorem off13_0 : fieldOff Try.prog 13 0 = some 0 := by kernel_rfl
@[go_sem] theorem off13_1 : fieldOff Try.prog 13 1 = some 1 := by kernel_rfl
@[go_sem] theorem agg14 : aggTy Try.prog 14 = some true := by kernel_rfl
@[go_sem] theorem sz14 : szTy Try.prog 14 = some 2 := by kernel_rfl
@[go_sem] theorem zero14 : zeroA Try.prog 14 = some (.agg [.base (.string ByteArray.empty), .base (.int .u64 (0))]) := by kernel_rfl
@[go_sem] theorem el14 : elI Try.prog 14 2 24 = true := by kernel_rfl
@[go_sem] theorem pl14 : placesOf Try.prog 14 = some [(0, 1), (1, 1)] := by kernel_rfl
@[go_sem] theorem off14_0 : fieldOff Try.prog 14 0 = some 0 := by kernel_rfl
@[go_sem] theorem off14_1 : fieldOff Try.prog 14 1 = some 1 := by kernel_rfl
@[go_sem] theorem agg15 : aggTy Try.prog 15 = some false := by kernel_rfl
@[go_sem] theorem sz15 : szTy Try.prog 15 = some 1 := by kernel_rfl
@[go_sem] theorem zero15 : zeroA Try.prog 15 = some (.base (.pointer none)) := by kernel_rfl
@[go_sem] theorem el15 : elI Try.prog 15 1 8 = true := by kernel_rfl
@[go_sem] theorem agg16 : aggTy Try.prog 16 = some false := by kernel_rfl
@[go_sem] theorem sz16 : szTy Try.prog 16 = some 1 := by kernel_rfl
@[go_sem] theorem zero16 : zeroA Try.prog 16 = some (.base (.pointer none)) := by kernel_rfl
@[go_sem] theorem el16 : elI Try.prog 16 1 8 = true := by kernel_rfl
@[go_sem] theorem agg17 : aggTy Try.prog 17 = some false := by kernel_rfl
@[go_sem] theorem sz17 : szTy Try.prog 17 = some 1 := by kernel_rfl
@[go_sem] theorem zero17 : zeroA Try.prog 17 = some (.base (.pointer none)) := by kernel_rfl
@[go_sem] theorem el17 : elI Try.prog 17 1 8 = true := by kernel_rfl
@[go_sem] theorem agg18 : aggTy Try.prog 18 = some true := by kernel_rfl
@[go_sem] theorem sz18 : szTy Try.prog 18 = some 1 := by kernel_rfl
@[go_sem] theorem zero18 : zeroA Try.prog 18 = some (.agg [.base (.pointer none)]) := by kernel_rfl
@[go_sem] theorem el18 : elI Try.prog 18 1 8 = true := by kernel_rfl
@[go_sem] theorem pl18 : placesOf Try.prog 18 = some [(0, 1)] := by kernel_rfl
@[go_sem] theorem off18_0 : fieldOff Try.prog 18 0 = some 0 := by kernel_rfl
@[go_sem] theorem agg19 : aggTy Try.prog 19 = some true := by kernel_rfl
@[go_sem] theorem sz19 : szTy Try.prog 19 = some 1 := by kernel_rfl
@[go_sem] theorem zero19 : zeroA Try.prog 19 = some (.agg [.base (.pointer none)]) := by kernel_rfl
@[go_sem] theorem el19 : elI Try.prog 19 1 8 = true := by kernel_rfl
@[go_sem] theorem pl19 : placesOf Try.prog 19 = some [(0, 1)] := by kernel_rfl
@[go_sem] theorem off19_0 : fieldOff Try.prog 19 0 = some 0 := by kernel_rfl
@[go_sem] theorem agg20 : aggTy Try.prog 20 = some false := by kernel_rfl
@[go_sem] theorem sz20 : szTy Try.prog 20 = some 1 := by kernel_rfl
@[go_sem] theorem zero20 : zeroA Try.prog 20 = some (.base .nilIface) := by kernel_rfl
@[go_sem] theorem el20 : elI Try.prog 20 1 16 = true := by kernel_rfl
@[go_sem] theorem agg21 : aggTy Try.prog 21 = some false := by kernel_rfl
@[go_sem] theorem sz21 : szTy Try.prog 21 = some 1 := by kernel_rfl
@[go_sem] theorem zero21 : zeroA Try.prog 21 = some (.base (.int .i32 (0))) := by kernel_rfl
@[go_sem] theorem el21 : elI Try.prog 21 1 4 = true := by kernel_rfl
@[go_sem] theorem agg22 : aggTy Try.prog 22 = some false := by kernel_rfl
@[go_sem] theorem sz22 : szTy Try.prog 22 = some 1 := by kernel_rfl
@[go_sem] theorem zero22 : zeroA Try.prog 22 = some (.base (.slice none 0 0)) := by kernel_rfl
@[go_sem] theorem el22 : elI Try.prog 22 1 24 = true := by kernel_rfl
@[go_sem] theorem agg23 : aggTy Try.prog 23 = some false := by kernel_rfl
@[go_sem] theorem sz23 : szTy Try.prog 23 = some 1 := by kernel_rfl
@[go_sem] theorem zero23 : zeroA Try.prog 23 = some (.base (.slice none 0 0)) := by kernel_rfl
@[go_sem] theorem el23 : elI Try.prog 23 1 24 = true := by kernel_rfl
@[go_sem] theorem agg24 : aggTy Try.prog 24 = some true := by kernel_rfl
@[go_sem] theorem sz24 : szTy Try.prog 24 = some 4 := by kernel_rfl
@[go_sem] theorem zero24 : zeroA Try.prog 24 = some (.agg [.base (.int .i64 (0)), .base (.string ByteArray.empty), .base (.int .i64 (0)), .base (.slice none 0 0)]) := by kernel_rfl
@[go_sem] theorem el24 : elI Try.prog 24 4 56 = true := by kernel_rfl
@[go_sem] theorem pl24 : placesOf Try.prog 24 = some [(0, 1), (1, 1), (2, 1), (3, 1)] := by kernel_rfl
@[go_sem] theorem off24_0 : fieldOff Try.prog 24 0 = some 0 := by kernel_rfl
@[go_sem] theorem off24_1 : fieldOff Try.prog 24 1 = some 1 := by kernel_rfl
@[go_sem] theorem off24_2 : fieldOff Try.prog 24 2 = some 2 := by kernel_rfl
@[go_sem] theorem off24_3 : fieldOff Try.prog 24 3 = some 3 := by kernel_rfl
@[go_sem] theorem agg25 : aggTy Try.prog 25 = some true := by kernel_rfl
@[go_sem] theorem sz25 : szTy Try.prog 25 = some 4 := by kernel_rfl
@[go_sem] theorem zero25 : zeroA Try.prog 25 = some (.agg [.base (.int .i64 (0)), .base (.string ByteArray.empty), .base (.int .i64 (0)), .base (.slice none 0 0)]) := by kernel_rfl
@[go_sem] theorem el25 : elI Try.prog 25 4 56 = true := by kernel_rfl
@[go_sem] theorem pl25 : placesOf Try.prog 25 = some [(0, 1), (1, 1), (2, 1), (3, 1)] := by kernel_rfl
@[go_sem] theorem off25_0 : fieldOff Try.prog 25 0 = some 0 := by kernel_rfl
@[go_sem] theorem off25_1 : fieldOff Try.prog 25 1 = some 1 := by kernel_rfl
@[go_sem] theorem off25_2 : fieldOff Try.prog 25 2 = some 2 := by kernel_rfl
@[go_sem] theorem off25_3 : fieldOff Try.prog 25 3 = some 3 := by kernel_rfl
@[go_sem] theorem agg26 : aggTy Try.prog 26 = some true := by kernel_rfl
@[go_sem] theorem sz26 : szTy Try.prog 26 = some 10 := by kernel_rfl
@[go_sem] theorem zero26 : zeroA Try.prog 26 = some (.agg [.base (.int .i64 (0)), .base (.string ByteArray.empty), .base (.int .i64 (0)), .base (.int .i64 (0)), .base (.string ByteArray.empty), .base (.int .i64 (0)), .base (.slice none 0 0), .base (.slice none 0 0), .base (.slice none 0 0), .base (.int .i64 (0))]) := by kernel_rfl
@[go_sem] theorem el26 : elI Try.prog 26 10 144 = true := by kernel_rfl
@[go_sem] theorem pl26 : placesOf Try.prog 26 = some [(0, 1), (1, 1), (2, 1), (3, 4), (7, 1), (8, 1), (9, 1)] := by kernel_rfl
@[go_sem] theorem off26_0 : fieldOff Try.prog 26 0 = some 0 := by kernel_rfl
@[go_sem] theorem off26_1 : fieldOff Try.prog 26 1 = some 1 := by kernel_rfl
@[go_sem] theorem off26_2 : fieldOff Try.prog 26 2 = some 2 := by kernel_rfl
@[go_sem] theorem off26_3 : fieldOff Try.prog 26 3 = some 3 := by kernel_rfl
@[go_sem] theorem off26_4 : fieldOff Try.prog 26 4 = some 7 := by kernel_rfl
@[go_sem] theorem off26_5 : fieldOff Try.prog 26 5 = some 8 := by kernel_rfl
@[go_sem] theorem off26_6 : fieldOff Try.prog 26 6 = some 9 := by kernel_rfl
@[go_sem] theorem agg27 : aggTy Try.prog 27 = some true := by kernel_rfl
@[go_sem] theorem sz27 : szTy Try.prog 27 = some 10 := by kernel_rfl
@[go_sem] theorem zero27 : zeroA Try.prog 27 = some (.agg [.base (.int .i64 (0)), .base (.string ByteArray.empty), .base (.int .i64 (0)), .base (.int .i64 (0)), .base (.string ByteArray.empty), .base (.int .i64 (0)), .base (.slice none 0 0), .base (.slice none 0 0), .base (.slice none 0 0), .base (.int .i64 (0))]) := by kernel_rfl
@[go_sem] theorem el27 : elI Try.prog 27 10 144 = true := by kernel_rfl
@[go_sem] theorem pl27 : placesOf Try.prog 27 = some [(0, 1), (1, 1), (2, 1), (3, 4), (7, 1), (8, 1), (9, 1)] := by kernel_rfl
@[go_sem] theorem off27_0 : fieldOff Try.prog 27 0 = some 0 := by kernel_rfl
@[go_sem] theorem off27_1 : fieldOff Try.prog 27 1 = some 1 := by kernel_rfl
@[go_sem] theorem off27_2 : fieldOff Try.prog 27 2 = some 2 := by kernel_rfl
@[go_sem] theorem off27_3 : fieldOff Try.prog 27 3 = some 3 := by kernel_rfl
@[go_sem] theorem off27_4 : fieldOff Try.prog 27 4 = some 7 := by kernel_rfl
@[go_sem] theorem off27_5 : fieldOff Try.prog 27 5 = some 8 := by kernel_rfl
@[go_sem] theorem off27_6 : fieldOff Try.prog 27 6 = some 9 := by kernel_rfl
@[go_sem] theorem agg28 : aggTy Try.prog 28 = some false := by kernel_rfl
@[go_sem] theorem sz28 : szTy Try.prog 28 = some 1 := by kernel_rfl
@[go_sem] theorem zero28 : zeroA Try.prog 28 = some (.base .nilFunc) := by kernel_rfl
@[go_sem] theorem el28 : elI Try.prog 28 1 8 = true := by kernel_rfl
@[go_sem] theorem agg29 : aggTy Try.prog 29 = some false := by kernel_rfl
@[go_sem] theorem sz29 : szTy Try.prog 29 = some 1 := by kernel_rfl
@[go_sem] theorem zero29 : zeroA Try.prog 29 = some (.base .nilFunc) := by kernel_rfl
@[go_sem] theorem el29 : elI Try.prog 29 1 8 = true := by kernel_rfl
@[go_sem] theorem agg30 : aggTy Try.prog 30 = some false := by kernel_rfl
@[go_sem] theorem sz30 : szTy Try.prog 30 = some 1 := by kernel_rfl
@[go_sem] theorem zero30 : zeroA Try.prog 30 = some (.base .nilFunc) := by kernel_rfl
@[go_sem] theorem el30 : elI Try.prog 30 1 8 = true := by kernel_rfl
@[go_sem] theorem agg31 : aggTy Try.prog 31 = some false := by kernel_rfl
@[go_sem] theorem sz31 : szTy Try.prog 31 = some 1 := by kernel_rfl
@[go_sem] theorem zero31 : zeroA Try.prog 31 = some (.base .nilFunc) := by kernel_rfl
@[go_sem] theorem el31 : elI Try.prog 31 1 8 = true := by kernel_rfl
@[go_sem] theorem agg32 : aggTy Try.prog 32 = some false := by kernel_rfl
@[go_sem] theorem sz32 : szTy Try.prog 32 = some 1 := by kernel_rfl
@[go_sem] theorem zero32 : zeroA Try.prog 32 = some (.base .nilFunc) := by kernel_rfl
@[go_sem] theorem el32 : elI Try.prog 32 1 8 = true := by kernel_rfl
@[go_sem] theorem agg33 : aggTy Try.prog 33 = some false := by kernel_rfl
@[go_sem] theorem sz33 : szTy Try.prog 33 = some 1 := by kernel_rfl
@[go_sem] theorem zero33 : zeroA Try.prog 33 = some (.base (.slice none 0 0)) := by kernel_rfl
@[go_sem] theorem el33 : elI Try.prog 33 1 24 = true := by kernel_rfl
@[go_sem] theorem agg34 : aggTy Try.prog 34 = some false := by kernel_rfl
@[go_sem] theorem sz34 : szTy Try.prog 34 = some 1 := by kernel_rfl
@[go_sem] theorem zero34 : zeroA Try.prog 34 = some (.base (.slice none 0 0)) := by kernel_rfl
@[go_sem] theorem el34 : elI Try.prog 34 1 24 = true := by kernel_rfl
@[go_sem] theorem agg35 : aggTy Try.prog 35 = some false := by kernel_rfl
@[go_sem] theorem sz35 : szTy Try.prog 35 = some 1 := by kernel_rfl
@[go_sem] theorem zero35 : zeroA Try.prog 35 = some (.base (.slice none 0 0)) := by kernel_rfl
@[go_sem] theorem el35 : elI Try.prog 35 1 24 = true := by kernel_rfl
@[go_sem] theorem agg36 : aggTy Try.prog 36 = some false := by kernel_rfl
@[go_sem] theorem sz36 : szTy Try.prog 36 = some 1 := by kernel_rfl
@[go_sem] theorem zero36 : zeroA Try.prog 36 = some (.base (.slice none 0 0)) := by kernel_rfl
@[go_sem] theorem el36 : elI Try.prog 36 1 24 = true := by kernel_rfl
@[go_sem] theorem agg37 : aggTy Try.prog 37 = some true := by kernel_rfl
@[go_sem] theorem sz37 : szTy Try.prog 37 = some 4 := by kernel_rfl
@[go_sem] theorem zero37 : zeroA Try.prog 37 = some (.agg [.base (.slice none 0 0), .base (.slice none 0 0), .base (.slice none 0 0), .base (.slice none 0 0)]) := by kernel_rfl
@[go_sem] theorem el37 : elI Try.prog 37 4 96 = true := by kernel_rfl
@[go_sem] theorem pl37 : placesOf Try.prog 37 = some [(0, 1), (1, 1), (2, 1), (3, 1)] := by kernel_rfl
@[go_sem] theorem off37_0 : fieldOff Try.prog 37 0 = some 0 := by kernel_rfl
@[go_sem] theorem off37_1 : fieldOff Try.prog 37 1 = some 1 := by kernel_rfl
@[go_sem] theorem off37_2 : fieldOff Try.prog 37 2 = some 2 := by kernel_rfl
@[go_sem] theorem off37_3 : fieldOff Try.prog 37 3 = some 3 := by kernel_rfl
@[go_sem] theorem agg38 : aggTy Try.prog 38 = some true := by kernel_rfl
@[go_sem] theorem sz38 : szTy Try.prog 38 = some 4 := by kernel_rfl
@[go_sem] theorem zero38 : zeroA Try.prog 38 = some (.agg [.base (.slice none 0 0), .base (.slice none 0 0), .base (.slice none 0 0), .base (.slice none 0 0)]) := by kernel_rfl
@[go_sem] theorem el38 : elI Try.prog 38 4 96 = true := by kernel_rfl
@[go_sem] theorem pl38 : placesOf Try.prog 38 = some [(0, 1), (1, 1), (2, 1), (3, 1)] := by kernel_rfl
@[go_sem] theorem off38_0 : fieldOff Try.prog 38 0 = some 0 := by kernel_rfl
@[go_sem] theorem off38_1 : fieldOff Try.prog 38 1 = some 1 := by kernel_rfl
@[go_sem] theorem off38_2 : fieldOff Try.prog 38 2 = some 2 := by kernel_rfl
@[go_sem] theorem off38_3 : fieldOff Try.prog 38 3 = some 3 := by kernel_rfl
@[go_sem] theorem agg39 : aggTy Try.prog 39 = some true := by kernel_rfl
@[go_sem] theorem sz39 : szTy Try.prog 39 = some 8 := by kernel_rfl
@[go_sem] theorem zero39 : zeroA Try.prog 39 = some (.agg [.base (.slice none 0 0), .base (.slice none 0 0), .base (.slice none 0 0), .base (.slice none 0 0), .base (.int .i64 (0)), .base (.string ByteArray.empty), .base (.int .i64 (0)), .base (.slice none 0 0)]) := by kernel_rfl
@[go_sem] theorem el39 : elI Try.prog 39 8 152 = true := by kernel_rfl
@[go_sem] theorem pl39 : placesOf Try.prog 39 = some [(0, 4), (4, 4)] := by kernel_rfl
@[go_sem] theorem off39_0 : fieldOff Try.prog 39 0 = some 0 := by kernel_rfl
@[go_sem] theorem off39_1 : fieldOff Try.prog 39 1 = some 4 := by kernel_rfl
@[go_sem] theorem agg40 : aggTy Try.prog 40 = some true := by kernel_rfl
@[go_sem] theorem sz40 : szTy Try.prog 40 = some 8 := by kernel_rfl
@[go_sem] theorem zero40 : zeroA Try.prog 40 = some (.agg [.base (.slice none 0 0), .base (.slice none 0 0), .base (.slice none 0 0), .base (.slice none 0 0), .base (.int .i64 (0)), .base (.string ByteArray.empty), .base (.int .i64 (0)), .base (.slice none 0 0)]) := by kernel_rfl
@[go_sem] theorem el40 : elI Try.prog 40 8 152 = true := by kernel_rfl
@[go_sem] theorem pl40 : placesOf Try.prog 40 = some [(0, 4), (4, 4)] := by kernel_rfl
@[go_sem] theorem off40_0 : fieldOff Try.prog 40 0 = some 0 := by kernel_rfl
@[go_sem] theorem off40_1 : fieldOff Try.prog 40 1 = some 4 := by kernel_rfl
@[go_sem] theorem agg41 : aggTy Try.prog 41 = some false := by kernel_rfl
@[go_sem] theorem sz41 : szTy Try.prog 41 = some 1 := by kernel_rfl
@[go_sem] theorem zero41 : zeroA Try.prog 41 = some (.base (.slice none 0 0)) := by kernel_rfl
@[go_sem] theorem el41 : elI Try.prog 41 1 24 = true := by kernel_rfl
@[go_sem] theorem agg42 : aggTy Try.prog 42 = some false := by kernel_rfl
@[go_sem] theorem sz42 : szTy Try.prog 42 = some 1 := by kernel_rfl
@[go_sem] theorem zero42 : zeroA Try.prog 42 = some (.base .nilFunc) := by kernel_rfl
@[go_sem] theorem el42 : elI Try.prog 42 1 8 = true := by kernel_rfl
@[go_sem] theorem agg43 : aggTy Try.prog 43 = some false := by kernel_rfl
@[go_sem] theorem sz43 : szTy Try.prog 43 = some 1 := by kernel_rfl
@[go_sem] theorem zero43 : zeroA Try.prog 43 = some (.base .nilFunc) := by kernel_rfl
@[go_sem] theorem el43 : elI Try.prog 43 1 8 = true := by kernel_rfl
@[go_sem] theorem agg44 : aggTy Try.prog 44 = some false := by kernel_rfl
@[go_sem] theorem sz44 : szTy Try.prog 44 = some 1 := by kernel_rfl
@[go_sem] theorem zero44 : zeroA Try.prog 44 = some (.base (.int .i64 (0))) := by kernel_rfl
@[go_sem] theorem el44 : elI Try.prog 44 1 8 = true := by kernel_rfl
@[go_sem] theorem agg45 : aggTy Try.prog 45 = some false := by kernel_rfl
@[go_sem] theorem sz45 : szTy Try.prog 45 = some 1 := by kernel_rfl
@[go_sem] theorem agg46 : aggTy Try.prog 46 = some false := by kernel_rfl
@[go_sem] theorem sz46 : szTy Try.prog 46 = some 1 := by kernel_rfl
@[go_sem] theorem zero46 : zeroA Try.prog 46 = some (.base .nilFunc) := by kernel_rfl
@[go_sem] theorem el46 : elI Try.prog 46 1 8 = true := by kernel_rfl
@[go_sem] theorem agg47 : aggTy Try.prog 47 = some false := by kernel_rfl
@[go_sem] theorem sz47 : szTy Try.prog 47 = some 1 := by kernel_rfl
@[go_sem] theorem agg48 : aggTy Try.prog 48 = some false := by kernel_rfl
@[go_sem] theorem sz48 : szTy Try.prog 48 = some 1 := by kernel_rfl
@[go_sem] theorem zero48 : zeroA Try.prog 48 = some (.base .nilFunc) := by kernel_rfl
@[go_sem] theorem el48 : elI Try.prog 48 1 8 = true := by kernel_rfl
@[go_sem] theorem agg49 : aggTy Try.prog 49 = some false := by kernel_rfl
@[go_sem] theorem sz49 : szTy Try.prog 49 = some 1 := by kernel_rfl
@[go_sem] theorem zero49 : zeroA Try.prog 49 = some (.base .nilFunc) := by kernel_rfl
@[go_sem] theorem el49 : elI Try.prog 49 1 8 = true := by kernel_rfl
@[go_sem] theorem agg50 : aggTy Try.prog 50 = some false := by kernel_rfl
@[go_sem] theorem sz50 : szTy Try.prog 50 = some 1 := by kernel_rfl
@[go_sem] theorem zero50 : zeroA Try.prog 50 = some (.base .nilFunc) := by kernel_rfl
@[go_sem] theorem el50 : elI Try.prog 50 1 8 = true := by kernel_rfl
@[go_sem] theorem agg51 : aggTy Try.prog 51 = some false := by kernel_rfl
@[go_sem] theorem sz51 : szTy Try.prog 51 = some 1 := by kernel_rfl
@[go_sem] theorem zero51 : zeroA Try.prog 51 = some (.base .nilFunc) := by kernel_rfl
@[go_sem] theorem el51 : elI Try.prog 51 1 8 = true := by kernel_rfl
@[go_sem] theorem agg52 : aggTy Try.prog 52 = some false := by kernel_rfl
@[go_sem] theorem sz52 : szTy Try.prog 52 = some 1 := by kernel_rfl
@[go_sem] theorem zero52 : zeroA Try.prog 52 = some (.base (.slice none 0 0)) := by kernel_rfl
@[go_sem] theorem el52 : elI Try.prog 52 1 24 = true := by kernel_rfl
@[go_sem] theorem agg53 : aggTy Try.prog 53 = some false := by kernel_rfl
@[go_sem] theorem sz53 : szTy Try.prog 53 = some 1 := by kernel_rfl
@[go_sem] theorem zero53 : zeroA Try.prog 53 = some (.base (.slice none 0 0)) := by kernel_rfl
@[go_sem] theorem el53 : elI Try.prog 53 1 24 = true := by kernel_rfl
@[go_sem] theorem agg54 : aggTy Try.prog 54 = some true := by kernel_rfl
@[go_sem] theorem sz54 : szTy Try.prog 54 = some 5 := by kernel_rfl
@[go_sem] theorem zero54 : zeroA Try.prog 54 = some (.agg [.base (.int .i64 (0)), .base (.slice none 0 0), .base (.slice none 0 0), .base (.slice none 0 0), .base (.int .i64 (0))]) := by kernel_rfl
@[go_sem] theorem el54 : elI Try.prog 54 5 88 = true := by kernel_rfl
@[go_sem] theorem pl54 : placesOf Try.prog 54 = some [(0, 1), (1, 1), (2, 1), (3, 1), (4, 1)] := by kernel_rfl
@[go_sem] theorem off54_0 : fieldOff Try.prog 54 0 = some 0 := by kernel_rfl
@[go_sem] theorem off54_1 : fieldOff Try.prog 54 1 = some 1 := by kernel_rfl
@[go_sem] theorem off54_2 : fieldOff Try.prog 54 2 = some 2 := by kernel_rfl
@[go_sem] theorem off54_3 : fieldOff Try.prog 54 3 = some 3 := by kernel_rfl
@[go_sem] theorem off54_4 : fieldOff Try.prog 54 4 = some 4 := by kernel_rfl
@[go_sem] theorem agg55 : aggTy Try.prog 55 = some true := by kernel_rfl
@[go_sem] theorem sz55 : szTy Try.prog 55 = some 5 := by kernel_rfl
@[go_sem] theorem zero55 : zeroA Try.prog 55 = some (.agg [.base (.int .i64 (0)), .base (.slice none 0 0), .base (.slice none 0 0), .base (.slice none 0 0), .base (.int .i64 (0))]) := by kernel_rfl
@[go_sem] theorem el55 : elI Try.prog 55 5 88 = true := by kernel_rfl
@[go_sem] theorem pl55 : placesOf Try.prog 55 = some [(0, 1), (1, 1), (2, 1), (3, 1), (4, 1)] := by kernel_rfl
@[go_sem] theorem off55_0 : fieldOff Try.prog 55 0 = some 0 := by kernel_rfl
@[go_sem] theorem off55_1 : fieldOff Try.prog 55 1 = some 1 := by kernel_rfl
@[go_sem] theorem off55_2 : fieldOff Try.prog 55 2 = some 2 := by kernel_rfl
@[go_sem] theorem off55_3 : fieldOff Try.prog 55 3 = some 3 := by kernel_rfl
@[go_sem] theorem off55_4 : fieldOff Try.prog 55 4 = some 4 := by kernel_rfl
@[go_sem] theorem agg56 : aggTy Try.prog 56 = some false := by kernel_rfl
@[go_sem] theorem sz56 : szTy Try.prog 56 = some 1 := by kernel_rfl
@[go_sem] theorem zero56 : zeroA Try.prog 56 = some (.base .nilFunc) := by kernel_rfl
@[go_sem] theorem el56 : elI Try.prog 56 1 8 = true := by kernel_rfl
@[go_sem] theorem agg57 : aggTy Try.prog 57 = some false := by kernel_rfl
@[go_sem] theorem sz57 : szTy Try.prog 57 = some 1 := by kernel_rfl
@[go_sem] theorem zero57 : zeroA Try.prog 57 = some (.base .nilFunc) := by kernel_rfl
@[go_sem] theorem el57 : elI Try.prog 57 1 8 = true := by kernel_rfl
@[go_sem] theorem agg58 : aggTy Try.prog 58 = some false := by kernel_rfl
@[go_sem] theorem sz58 : szTy Try.prog 58 = some 1 := by kernel_rfl
@[go_sem] theorem zero58 : zeroA Try.prog 58 = some (.base .nilFunc) := by kernel_rfl
@[go_sem] theorem el58 : elI Try.prog 58 1 8 = true := by kernel_rfl
@[go_sem] theorem agg59 : aggTy Try.prog 59 = some false := by kernel_rfl
@[go_sem] theorem sz59 : szTy Try.prog 59 = some 1 := by kernel_rfl
@[go_sem] theorem zero59 : zeroA Try.prog 59 = some (.base .nilFunc) := by kernel_rfl
@[go_sem] theorem el59 : elI Try.prog 59 1 8 = true := by kernel_rfl
@[go_sem] theorem agg60 : aggTy Try.prog 60 = some false := by kernel_rfl
@[go_sem] theorem sz60 : szTy Try.prog 60 = some 1 := by kernel_rfl
@[go_sem] theorem zero60 : zeroA Try.prog 60 = some (.base .nilFunc) := by kernel_rfl
@[go_sem] theorem el60 : elI Try.prog 60 1 8 = true := by kernel_rfl
@[go_sem] theorem agg61 : aggTy Try.prog 61 = some false := by kernel_rfl
@[go_sem] theorem sz61 : szTy Try.prog 61 = some 1 := by kernel_rfl
@[go_sem] theorem zero61 : zeroA Try.prog 61 = some (.base (.slice none 0 0)) := by kernel_rfl
@[go_sem] theorem el61 : elI Try.prog 61 1 24 = true := by kernel_rfl
@[go_sem] theorem agg62 : aggTy Try.prog 62 = some false := by kernel_rfl
@[go_sem] theorem sz62 : szTy Try.prog 62 = some 1 := by kernel_rfl
@[go_sem] theorem zero62 : zeroA Try.prog 62 = some (.base (.slice none 0 0)) := by kernel_rfl
@[go_sem] theorem el62 : elI Try.prog 62 1 24 = true := by kernel_rfl
@[go_sem] theorem agg63 : aggTy Try.prog 63 = some false := by kernel_rfl
@[go_sem] theorem sz63 : szTy Try.prog 63 = some 1 := by kernel_rfl
@[go_sem] theorem zero63 : zeroA Try.prog 63 = some (.base (.slice none 0 0)) := by kernel_rfl
@[go_sem] theorem el63 : elI Try.prog 63 1 24 = true := by kernel_rfl
@[go_sem] theorem agg64 : aggTy Try.prog 64 = some true := by kernel_rfl
@[go_sem] theorem sz64 : szTy Try.prog 64 = some 17 := by kernel_rfl
@[go_sem] theorem zero64 : zeroA Try.prog 64 = some (.agg [.base (.string ByteArray.empty), .base (.int .i64 (0)), .base (.slice none 0 0), .base (.bool false), .base (.bool false), .base (.slice none 0 0), .base (.slice none 0 0), .base (.int .i64 (0)), .base (.string ByteArray.empty), .base (.int .i64 (0)), .base (.int .i64 (0)), .base (.string ByteArray.empty), .base (.int .i64 (0)), .base (.slice none 0 0), .base (.slice none 0 0), .base (.slice none 0 0), .base (.int .i64 (0))]) := by kernel_rfl
@[go_sem] theorem el64 : elI Try.prog 64 17 248 = true := by kernel_rfl
@[go_sem] theorem pl64 : placesOf Try.prog 64 = some [(0, 1), (1, 1), (2, 1), (3, 1), (4, 1), (5, 1), (6, 1), (7, 10)] := by kernel_rfl
@[go_sem] theorem off64_0 : fieldOff Try.prog 64 0 = some 0 := by kernel_rfl
@[go_sem] theorem off64_1 : fieldOff Try.prog 64 1 = some 1 := by kernel_rfl
@[go_sem] theorem off64_2 : fieldOff Try.prog 64 2 = some 2 := by kernel_rfl
@[go_sem] theorem off64_3 : fieldOff Try.prog 64 3 = some 3 := by kernel_rfl
@[go_sem] theorem off64_4 : fieldOff Try.prog 64 4 = some 4 := by kernel_rfl
@[go_sem] theorem off64_5 : fieldOff Try.prog 64 5 = some 5 := by kernel_rfl
@[go_sem] theorem off64_6 : fieldOff Try.prog 64 6 = some 6 := by kernel_rfl
@[go_sem] theorem off64_7 : fieldOff Try.prog 64 7 = some 7 := by kernel_rfl
@[go_sem] theorem agg65 : aggTy Try.prog 65 = some true := by kernel_rfl
@[go_sem] theorem sz65 : szTy Try.prog 65 = some 17 := by kernel_rfl
@[go_sem] theorem zero65 : zeroA Try.prog 65 = some (.agg [.base (.string ByteArray.empty), .base (.int .i64 (0)), .base (.slice none 0 0), .base (.bool false), .base (.bool false), .base (.slice none 0 0), .base (.slice none 0 0), .base (.int .i64 (0)), .base (.string ByteArray.empty), .base (.int .i64 (0)), .base (.int .i64 (0)), .base (.string ByteArray.empty), .base (.int .i64 (0)), .base (.slice none 0 0), .base (.slice none 0 0), .base (.slice none 0 0), .base (.int .i64 (0))]) := by kernel_rfl
@[go_sem] theorem el65 : elI Try.prog 65 17 248 = true := by kernel_rfl
@[go_sem] theorem pl65 : placesOf Try.prog 65 = some [(0, 1), (1, 1), (2, 1), (3, 1), (4, 1), (5, 1), (6, 1), (7, 10)] := by kernel_rfl
@[go_sem] theorem off65_0 : fieldOff Try.prog 65 0 = some 0 := by kernel_rfl
@[go_sem] theorem off65_1 : fieldOff Try.prog 65 1 = some 1 := by kernel_rfl
@[go_sem] theorem off65_2 : fieldOff Try.prog 65 2 = some 2 := by kernel_rfl
@[go_sem] theorem off65_3 : fieldOff Try.prog 65 3 = some 3 := by kernel_rfl
@[go_sem] theorem off65_4 : fieldOff Try.prog 65 4 = some 4 := by kernel_rfl
@[go_sem] theorem off65_5 : fieldOff Try.prog 65 5 = some 5 := by kernel_rfl
@[go_sem] theorem off65_6 : fieldOff Try.prog 65 6 = some 6 := by kernel_rfl
@[go_sem] theorem off65_7 : fieldOff Try.prog 65 7 = some 7 := by kernel_rfl
@[go_sem] theorem agg66 : aggTy Try.prog 66 = some false := by kernel_rfl
@[go_sem] theorem sz66 : szTy Try.prog 66 = some 1 := by kernel_rfl
@[go_sem] theorem zero66 : zeroA Try.prog 66 = some (.base .nilFunc) := by kernel_rfl
@[go_sem] theorem el66 : elI Try.prog 66 1 8 = true := by kernel_rfl
@[go_sem] theorem agg67 : aggTy Try.prog 67 = some true := by kernel_rfl
@[go_sem] theorem sz67 : szTy Try.prog 67 = some 6 := by kernel_rfl
@[go_sem] theorem zero67 : zeroA Try.prog 67 = some (.agg [.base (.string ByteArray.empty), .base (.int .i64 (0)), .base (.string ByteArray.empty), .base (.int .i64 (0)), .base (.slice none 0 0), .base (.bool false)]) := by kernel_rfl
@[go_sem] theorem el67 : elI Try.prog 67 6 80 = true := by kernel_rfl
@[go_sem] theorem pl67 : placesOf Try.prog 67 = some [(0, 1), (1, 4), (5, 1)] := by kernel_rfl
@[go_sem] theorem off67_0 : fieldOff Try.prog 67 0 = some 0 := by kernel_rfl
@[go_sem] theorem off67_1 : fieldOff Try.prog 67 1 = some 1 := by kernel_rfl
@[go_sem] theorem off67_2 : fieldOff Try.prog 67 2 = some 5 := by kernel_rfl
@[go_sem] theorem agg68 : aggTy Try.prog 68 = some true := by kernel_rfl
@[go_sem] theorem sz68 : szTy Try.prog 68 = some 6 := by kernel_rfl
@[go_sem] theorem zero68 : zeroA Try.prog 68 = some (.agg [.base (.string ByteArray.empty), .base (.int .i64 (0)), .base (.string ByteArray.empty), .base (.int .i64 (0)), .base (.slice none 0 0), .base (.bool false)]) := by kernel_rfl
@[go_sem] theorem el68 : elI Try.prog 68 6 80 = true := by kernel_rfl
@[go_sem] theorem pl68 : placesOf Try.prog 68 = some [(0, 1), (1, 4), (5, 1)] := by kernel_rfl
@[go_sem] theorem off68_0 : fieldOff Try.prog 68 0 = some 0 := by kernel_rfl
@[go_sem] theorem off68_1 : fieldOff Try.prog 68 1 = some 1 := by kernel_rfl
@[go_sem] theorem off68_2 : fieldOff Try.prog 68 2 = some 5 := by kernel_rfl
@[go_sem] theorem agg69 : aggTy Try.prog 69 = some true := by kernel_rfl
@[go_sem] theorem sz69 : szTy Try.prog 69 = some 3 := by kernel_rfl
@[go_sem] theorem zero69 : zeroA Try.prog 69 = some (.agg [.base (.string ByteArray.empty), .base (.slice none 0 0), .base (.bool false)]) := by kernel_rfl
@[go_sem] theorem el69 : elI Try.prog 69 3 48 = true := by kernel_rfl
@[go_sem] theorem pl69 : placesOf Try.prog 69 = some [(0, 1), (1, 1), (2, 1)] := by kernel_rfl
@[go_sem] theorem off69_0 : fieldOff Try.prog 69 0 = some 0 := by kernel_rfl
@[go_sem] theorem off69_1 : fieldOff Try.prog 69 1 = some 1 := by kernel_rfl
@[go_sem] theorem off69_2 : fieldOff Try.prog 69 2 = some 2 := by kernel_rfl
@[go_sem] theorem agg70 : aggTy Try.prog 70 = some true := by kernel_rfl
@[go_sem] theorem sz70 : szTy Try.prog 70 = some 3 := by kernel_rfl
@[go_sem] theorem zero70 : zeroA Try.prog 70 = some (.agg [.base (.string ByteArray.empty), .base (.slice none 0 0), .base (.bool false)]) := by kernel_rfl
@[go_sem] theorem el70 : elI Try.prog 70 3 48 = true := by kernel_rfl
@[go_sem] theorem pl70 : placesOf Try.prog 70 = some [(0, 1), (1, 1), (2, 1)] := by kernel_rfl
@[go_sem] theorem off70_0 : fieldOff Try.prog 70 0 = some 0 := by kernel_rfl
@[go_sem] theorem off70_1 : fieldOff Try.prog 70 1 = some 1 := by kernel_rfl
@[go_sem] theorem off70_2 : fieldOff Try.prog 70 2 = some 2 := by kernel_rfl
@[go_sem] theorem agg71 : aggTy Try.prog 71 = some false := by kernel_rfl
@[go_sem] theorem sz71 : szTy Try.prog 71 = some 1 := by kernel_rfl
@[go_sem] theorem zero71 : zeroA Try.prog 71 = some (.base .nilFunc) := by kernel_rfl
@[go_sem] theorem el71 : elI Try.prog 71 1 8 = true := by kernel_rfl
@[go_sem] theorem agg72 : aggTy Try.prog 72 = some false := by kernel_rfl
@[go_sem] theorem sz72 : szTy Try.prog 72 = some 1 := by kernel_rfl
@[go_sem] theorem zero72 : zeroA Try.prog 72 = some (.base .nilFunc) := by kernel_rfl
@[go_sem] theorem el72 : elI Try.prog 72 1 8 = true := by kernel_rfl
@[go_sem] theorem agg73 : aggTy Try.prog 73 = some false := by kernel_rfl
@[go_sem] theorem sz73 : szTy Try.prog 73 = some 1 := by kernel_rfl
@[go_sem] theorem zero73 : zeroA Try.prog 73 = some (.base .nilFunc) := by kernel_rfl
@[go_sem] theorem el73 : elI Try.prog 73 1 8 = true := by kernel_rfl
@[go_sem] theorem agg74 : aggTy Try.prog 74 = some false := by kernel_rfl
@[go_sem] theorem sz74 : szTy Try.prog 74 = some 1 := by kernel_rfl
@[go_sem] theorem agg75 : aggTy Try.prog 75 = some false := by kernel_rfl
@[go_sem] theorem sz75 : szTy Try.prog 75 = some 1 := by kernel_rfl
@[go_sem] theorem zero75 : zeroA Try.prog 75 = some (.base .nilFunc) := by kernel_rfl
@[go_sem] theorem el75 : elI Try.prog 75 1 8 = true := by kernel_rfl
@[go_sem] theorem agg76 : aggTy Try.prog 76 = some false := by kernel_rfl
@[go_sem] theorem sz76 : szTy Try.prog 76 = some 1 := by kernel_rfl
@[go_sem] theorem zero76 : zeroA Try.prog 76 = some (.base .nilFunc) := by kernel_rfl
@[go_sem] theorem el76 : elI Try.prog 76 1 8 = true := by kernel_rfl
@[go_sem] theorem agg77 : aggTy Try.prog 77 = some false := by kernel_rfl
@[go_sem] theorem sz77 : szTy Try.prog 77 = some 1 := by kernel_rfl
@[go_sem] theorem zero77 : zeroA Try.prog 77 = some (.base .nilFunc) := by kernel_rfl
@[go_sem] theorem el77 : elI Try.prog 77 1 8 = true := by kernel_rfl
@[go_sem] theorem agg78 : aggTy Try.prog 78 = some false := by kernel_rfl
@[go_sem] theorem sz78 : szTy Try.prog 78 = some 1 := by kernel_rfl
@[go_sem] theorem zero78 : zeroA Try.prog 78 = some (.base .nilFunc) := by kernel_rfl
@[go_sem] theorem el78 : elI Try.prog 78 1 8 = true := by kernel_rfl
@[go_sem] theorem agg79 : aggTy Try.prog 79 = some false := by kernel_rfl
@[go_sem] theorem sz79 : szTy Try.prog 79 = some 1 := by kernel_rfl
@[go_sem] theorem zero79 : zeroA Try.prog 79 = some (.base .nilFunc) := by kernel_rfl
@[go_sem] theorem el79 : elI Try.prog 79 1 8 = true := by kernel_rfl
@[go_sem] theorem agg80 : aggTy Try.prog 80 = some false := by kernel_rfl
@[go_sem] theorem sz80 : szTy Try.prog 80 = some 1 := by kernel_rfl
@[go_sem] theorem agg81 : aggTy Try.prog 81 = some false := by kernel_rfl
@[go_sem] theorem sz81 : szTy Try.prog 81 = some 1 := by kernel_rfl
@[go_sem] theorem zero81 : zeroA Try.prog 81 = some (.base .nilFunc) := by kernel_rfl
@[go_sem] theorem el81 : elI Try.prog 81 1 8 = true := by kernel_rfl
@[go_sem] theorem agg82 : aggTy Try.prog 82 = some false := by kernel_rfl
@[go_sem] theorem sz82 : szTy Try.prog 82 = some 1 := by kernel_rfl
@[go_sem] theorem agg83 : aggTy Try.prog 83 = some false := by kernel_rfl
@[go_sem] theorem sz83 : szTy Try.prog 83 = some 1 := by kernel_rfl
@[go_sem] theorem zero83 : zeroA Try.prog 83 = some (.base .nilFunc) := by kernel_rfl
@[go_sem] theorem el83 : elI Try.prog 83 1 8 = true := by kernel_rfl
@[go_sem] theorem agg84 : aggTy Try.prog 84 = some false := by kernel_rfl
@[go_sem] theorem sz84 : szTy Try.prog 84 = some 1 := by kernel_rfl
@[go_sem] theorem zero84 : zeroA Try.prog 84 = some (.base .nilFunc) := by kernel_rfl
@[go_sem] theorem el84 : elI Try.prog 84 1 8 = true := by kernel_rfl
@[go_sem] theorem agg85 : aggTy Try.prog 85 = some false := by kernel_rfl
@[go_sem] theorem sz85 : szTy Try.prog 85 = some 1 := by kernel_rfl
@[go_sem] theorem zero85 : zeroA Try.prog 85 = some (.base .nilFunc) := by kernel_rfl
@[go_sem] theorem el85 : elI Try.prog 85 1 8 = true := by kernel_rfl
@[go_sem] theorem agg86 : aggTy Try.prog 86 = some false := by kernel_rfl
@[go_sem] theorem sz86 : szTy Try.prog 86 = some 1 := by kernel_rfl
@[go_sem] theorem zero86 : zeroA Try.prog 86 = some (.base (.map none)) := by kernel_rfl
@[go_sem] theorem el86 : elI Try.prog 86 1 8 = true := by kernel_rfl
@[go_sem] theorem agg87 : aggTy Try.prog 87 = some false := by kernel_rfl
@[go_sem] theorem sz87 : szTy Try.prog 87 = some 1 := by kernel_rfl
@[go_sem] theorem zero87 : zeroA Try.prog 87 = some (.base (.slice none 0 0)) := by kernel_rfl
@[go_sem] theorem el87 : elI Try.prog 87 1 24 = true := by kernel_rfl
@[go_sem] theorem agg88 : aggTy Try.prog 88 = some false := by kernel_rfl
@[go_sem] theorem sz88 : szTy Try.prog 88 = some 1 := by kernel_rfl
@[go_sem] theorem zero88 : zeroA Try.prog 88 = some (.base .nilFunc) := by kernel_rfl
@[go_sem] theorem el88 : elI Try.prog 88 1 8 = true := by kernel_rfl
@[go_sem] theorem agg89 : aggTy Try.prog 89 = some false := by kernel_rfl
@[go_sem] theorem sz89 : szTy Try.prog 89 = some 1 := by kernel_rfl
@[go_sem] theorem zero89 : zeroA Try.prog 89 = some (.base .nilFunc) := by kernel_rfl
@[go_sem] theorem el89 : elI Try.prog 89 1 8 = true := by kernel_rfl
@[go_sem] theorem agg90 : aggTy Try.prog 90 = some false := by kernel_rfl
@[go_sem] theorem sz90 : szTy Try.prog 90 = some 1 := by kernel_rfl
@[go_sem] theorem agg91 : aggTy Try.prog 91 = some false := by kernel_rfl
@[go_sem] theorem sz91 : szTy Try.prog 91 = some 1 := by kernel_rfl
@[go_sem] theorem zero91 : zeroA Try.prog 91 = some (.base .nilFunc) := by kernel_rfl
@[go_sem] theorem el91 : elI Try.prog 91 1 8 = true := by kernel_rfl
@[go_sem] theorem agg92 : aggTy Try.prog 92 = some false := by kernel_rfl
@[go_sem] theorem sz92 : szTy Try.prog 92 = some 1 := by kernel_rfl
@[go_sem] theorem zero92 : zeroA Try.prog 92 = some (.base (.pointer none)) := by kernel_rfl
@[go_sem] theorem el92 : elI Try.prog 92 1 8 = true := by kernel_rfl
@[go_sem] theorem agg93 : aggTy Try.prog 93 = some true := by kernel_rfl
@[go_sem] theorem sz93 : szTy Try.prog 93 = some 2 := by kernel_rfl
@[go_sem] theorem zero93 : zeroA Try.prog 93 = some (.agg [.base (.pointer none), .base (.slice none 0 0)]) := by kernel_rfl
@[go_sem] theorem el93 : elI Try.prog 93 2 32 = true := by kernel_rfl
@[go_sem] theorem pl93 : placesOf Try.prog 93 = some [(0, 1), (1, 1)] := by kernel_rfl
@[go_sem] theorem off93_0 : fieldOff Try.prog 93 0 = some 0 := by kernel_rfl
@[go_sem] theorem off93_1 : fieldOff Try.prog 93 1 = some 1 := by kernel_rfl
@[go_sem] theorem agg94 : aggTy Try.prog 94 = some true := by kernel_rfl
@[go_sem] theorem sz94 : szTy Try.prog 94 = some 2 := by kernel_rfl
@[go_sem] theorem zero94 : zeroA Try.prog 94 = some (.agg [.base (.pointer none), .base (.slice none 0 0)]) := by kernel_rfl
@[go_sem] theorem el94 : elI Try.prog 94 2 32 = true := by kernel_rfl
@[go_sem] theorem pl94 : placesOf Try.prog 94 = some [(0, 1), (1, 1)] := by kernel_rfl
@[go_sem] theorem off94_0 : fieldOff Try.prog 94 0 = some 0 := by kernel_rfl
@[go_sem] theorem off94_1 : fieldOff Try.prog 94 1 = some 1 := by kernel_rfl
@[go_sem] theorem agg95 : aggTy Try.prog 95 = some false := by kernel_rfl
@[go_sem] theorem sz95 : szTy Try.prog 95 = some 1 := by kernel_rfl
@[go_sem] theorem zero95 : zeroA Try.prog 95 = some (.base .nilIface) := by kernel_rfl
@[go_sem] theorem el95 : elI Try.prog 95 1 16 = true := by kernel_rfl
@[go_sem] theorem agg96 : aggTy Try.prog 96 = some false := by kernel_rfl
@[go_sem] theorem sz96 : szTy Try.prog 96 = some 1 := by kernel_rfl
@[go_sem] theorem zero96 : zeroA Try.prog 96 = some (.base .nilIface) := by kernel_rfl
@[go_sem] theorem el96 : elI Try.prog 96 1 16 = true := by kernel_rfl
@[go_sem] theorem agg97 : aggTy Try.prog 97 = some false := by kernel_rfl
@[go_sem] theorem sz97 : szTy Try.prog 97 = some 1 := by kernel_rfl
@[go_sem] theorem zero97 : zeroA Try.prog 97 = some (.base .nilFunc) := by kernel_rfl
@[go_sem] theorem el97 : elI Try.prog 97 1 8 = true := by kernel_rfl
@[go_sem] theorem agg98 : aggTy Try.prog 98 = some false := by kernel_rfl
@[go_sem] theorem sz98 : szTy Try.prog 98 = some 1 := by kernel_rfl
@[go_sem] theorem zero98 : zeroA Try.prog 98 = some (.base .nilFunc) := by kernel_rfl
@[go_sem] theorem el98 : elI Try.prog 98 1 8 = true := by kernel_rfl
@[go_sem] theorem agg99 : aggTy Try.prog 99 = some true := by kernel_rfl
@[go_sem] theorem sz99 : szTy Try.prog 99 = some 2 := by kernel_rfl
@[go_sem] theorem zero99 : zeroA Try.prog 99 = some (.agg [.base (.string ByteArray.empty), .base (.string ByteArray.empty)]) := by kernel_rfl
@[go_sem] theorem el99 : elI Try.prog 99 2 32 = true := by kernel_rfl
@[go_sem] theorem pl99 : placesOf Try.prog 99 = some [(0, 1), (1, 1)] := by kernel_rfl
@[go_sem] theorem off99_0 : fieldOff Try.prog 99 0 = some 0 := by kernel_rfl
@[go_sem] theorem off99_1 : fieldOff Try.prog 99 1 = some 1 := by kernel_rfl
@[go_sem] theorem agg100 : aggTy Try.prog 100 = some true := by kernel_rfl
@[go_sem] theorem sz100 : szTy Try.prog 100 = some 2 := by kernel_rfl
@[go_sem] theorem zero100 : zeroA Try.prog 100 = some (.agg [.base (.string ByteArray.empty), .base (.string ByteArray.empty)]) := by kernel_rfl
@[go_sem] theorem el100 : elI Try.prog 100 2 32 = true := by kernel_rfl
@[go_sem] theorem pl100 : placesOf Try.prog 100 = some [(0, 1), (1, 1)] := by kernel_rfl
@[go_sem] theorem off100_0 : fieldOff Try.prog 100 0 = some 0 := by kernel_rfl
@[go_sem] theorem off100_1 : fieldOff Try.prog 100 1 = some 1 := by kernel_rfl
@[go_sem] theorem agg101 : aggTy Try.prog 101 = some false := by kernel_rfl
@[go_sem] theorem sz101 : szTy Try.prog 101 = some 1 := by kernel_rfl
@[go_sem] theorem agg102 : aggTy Try.prog 102 = some false := by kernel_rfl
@[go_sem] theorem sz102 : szTy Try.prog 102 = some 1 := by kernel_rfl
@[go_sem] theorem zero102 : zeroA Try.prog 102 = some (.base .nilFunc) := by kernel_rfl
@[go_sem] theorem el102 : elI Try.prog 102 1 8 = true := by kernel_rfl
@[go_sem] theorem agg103 : aggTy Try.prog 103 = some false := by kernel_rfl
@[go_sem] theorem sz103 : szTy Try.prog 103 = some 1 := by kernel_rfl
@[go_sem] theorem zero103 : zeroA Try.prog 103 = some (.base (.pointer none)) := by kernel_rfl
@[go_sem] theorem el103 : elI Try.prog 103 1 8 = true := by kernel_rfl
@[go_sem] theorem agg104 : aggTy Try.prog 104 = some false := by kernel_rfl
@[go_sem] theorem sz104 : szTy Try.prog 104 = some 1 := by kernel_rfl
@[go_sem] theorem zero104 : zeroA Try.prog 104 = some (.base (.slice none 0 0)) := by kernel_rfl
@[go_sem] theorem el104 : elI Try.prog 104 1 24 = true := by kernel_rfl
@[go_sem] theorem agg105 : aggTy Try.prog 105 = some true := by kernel_rfl
@[go_sem] theorem sz105 : szTy Try.prog 105 = some 6 := by kernel_rfl
@[go_sem] theorem zero105 : zeroA Try.prog 105 = some (.agg [.base (.slice none 0 0), .base (.slice none 0 0), .base (.slice none 0 0), .base (.slice none 0 0), .base (.slice none 0 0), .base (.slice none 0 0)]) := by kernel_rfl
@[go_sem] theorem el105 : elI Try.prog 105 6 144 = true := by kernel_rfl
@[go_sem] theorem pl105 : placesOf Try.prog 105 = some [(0, 4), (4, 1), (5, 1)] := by kernel_rfl
@[go_sem] theorem off105_0 : fieldOff Try.prog 105 0 = some 0 := by kernel_rfl
@[go_sem] theorem off105_1 : fieldOff Try.prog 105 1 = some 4 := by kernel_rfl
@[go_sem] theorem off105_2 : fieldOff Try.prog 105 2 = some 5 := by kernel_rfl
@[go_sem] theorem agg106 : aggTy Try.prog 106 = some true := by kernel_rfl
@[go_sem] theorem sz106 : szTy Try.prog 106 = some 6 := by kernel_rfl
@[go_sem] theorem zero106 : zeroA Try.prog 106 = some (.agg [.base (.slice none 0 0), .base (.slice none 0 0), .base (.slice none 0 0), .base (.slice none 0 0), .base (.slice none 0 0), .base (.slice none 0 0)]) := by kernel_rfl
@[go_sem] theorem el106 : elI Try.prog 106 6 144 = true := by kernel_rfl
@[go_sem] theorem pl106 : placesOf Try.prog 106 = some [(0, 4), (4, 1), (5, 1)] := by kernel_rfl
@[go_sem] theorem off106_0 : fieldOff Try.prog 106 0 = some 0 := by kernel_rfl
@[go_sem] theorem off106_1 : fieldOff Try.prog 106 1 = some 4 := by kernel_rfl
@[go_sem] theorem off106_2 : fieldOff Try.prog 106 2 = some 5 := by kernel_rfl
@[go_sem] theorem agg107 : aggTy Try.prog 107 = some false := by kernel_rfl
@[go_sem] theorem sz107 : szTy Try.prog 107 = some 1 := by kernel_rfl
@[go_sem] theorem zero107 : zeroA Try.prog 107 = some (.base .nilFunc) := by kernel_rfl
@[go_sem] theorem el107 : elI Try.prog 107 1 8 = true := by kernel_rfl
@[go_sem] theorem agg108 : aggTy Try.prog 108 = some false := by kernel_rfl
@[go_sem] theorem sz108 : szTy Try.prog 108 = some 1 := by kernel_rfl
@[go_sem] theorem zero108 : zeroA Try.prog 108 = some (.base .nilFunc) := by kernel_rfl
@[go_sem] theorem el108 : elI Try.prog 108 1 8 = true := by kernel_rfl
@[go_sem] theorem agg109 : aggTy Try.prog 109 = some false := by kernel_rfl
@[go_sem] theorem sz109 : szTy Try.prog 109 = some 1 := by kernel_rfl
@[go_sem] theorem zero109 : zeroA Try.prog 109 = some (.base .nilFunc) := by kernel_rfl
@[go_sem] theorem el109 : elI Try.prog 109 1 8 = true := by kernel_rfl
@[go_sem] theorem agg110 : aggTy Try.prog 110 = some false := by kernel_rfl
@[go_sem] theorem sz110 : szTy Try.prog 110 = some 1 := by kernel_rfl
@[go_sem] theorem zero110 : zeroA Try.prog 110 = some (.base (.slice none 0 0)) := by kernel_rfl
@[go_sem] theorem el110 : elI Try.prog 110 1 24 = true := by kernel_rfl
@[go_sem] theorem agg111 : aggTy Try.prog 111 = some false := by kernel_rfl
@[go_sem] theorem sz111 : szTy Try.prog 111 = some 1 := by kernel_rfl
@[go_sem] theorem zero111 : zeroA Try.prog 111 = some (.base (.slice none 0 0)) := by kernel_rfl
@[go_sem] theorem el111 : elI Try.prog 111 1 24 = true := by kernel_rfl
@[go_sem] theorem agg112 : aggTy Try.prog 112 = some true := by kernel_rfl
@[go_sem] theorem sz112 : szTy Try.prog 112 = some 3 := by kernel_rfl
@[go_sem] theorem zero112 : zeroA Try.prog 112 = some (.agg [.base (.string ByteArray.empty), .base (.slice none 0 0), .base (.slice none 0 0)]) := by kernel_rfl
@[go_sem] theorem el112 : elI Try.prog 112 3 64 = true := by kernel_rfl
@[go_sem] theorem pl112 : placesOf Try.prog 112 = some [(0, 1), (1, 1), (2, 1)] := by kernel_rfl
@[go_sem] theorem off112_0 : fieldOff Try.prog 112 0 = some 0 := by kernel_rfl
@[go_sem] theorem off112_1 : fieldOff Try.prog 112 1 = some 1 := by kernel_rfl
@[go_sem] theorem off112_2 : fieldOff Try.prog 112 2 = some 2 := by kernel_rfl
@[go_sem] theorem agg113 : aggTy Try.prog 113 = some true := by kernel_rfl
@[go_sem] theorem sz113 : szTy Try.prog 113 = some 3 := by kernel_rfl
@[go_sem] theorem zero113 : zeroA Try.prog 113 = some (.agg [.base (.string ByteArray.empty), .base (.slice none 0 0), .base (.slice none 0 0)]) := by kernel_rfl
@[go_sem] theorem el113 : elI Try.prog 113 3 64 = true := by kernel_rfl
@[go_sem] theorem pl113 : placesOf Try.prog 113 = some [(0, 1), (1, 1), (2, 1)] := by kernel_rfl
@[go_sem] theorem off113_0 : fieldOff Try.prog 113 0 = some 0 := by kernel_rfl
@[go_sem] theorem off113_1 : fieldOff Try.prog 113 1 = some 1 := by kernel_rfl
@[go_sem] theorem off113_2 : fieldOff Try.prog 113 2 = some 2 := by kernel_rfl
@[go_sem] theorem agg114 : aggTy Try.prog 114 = some true := by kernel_rfl
@[go_sem] theorem sz114 : szTy Try.prog 114 = some 2 := by kernel_rfl
@[go_sem] theorem zero114 : zeroA Try.prog 114 = some (.agg [.base (.string ByteArray.empty), .base (.slice none 0 0)]) := by kernel_rfl
@[go_sem] theorem el114 : elI Try.prog 114 2 40 = true := by kernel_rfl
@[go_sem] theorem pl114 : placesOf Try.prog 114 = some [(0, 1), (1, 1)] := by kernel_rfl
@[go_sem] theorem off114_0 : fieldOff Try.prog 114 0 = some 0 := by kernel_rfl
@[go_sem] theorem off114_1 : fieldOff Try.prog 114 1 = some 1 := by kernel_rfl
@[go_sem] theorem agg115 : aggTy Try.prog 115 = some true := by kernel_rfl
@[go_sem] theorem sz115 : szTy Try.prog 115 = some 2 := by kernel_rfl
@[go_sem] theorem zero115 : zeroA Try.prog 115 = some (.agg [.base (.string ByteArray.empty), .base (.slice none 0 0)]) := by kernel_rfl
@[go_sem] theorem el115 : elI Try.prog 115 2 40 = true := by kernel_rfl
@[go_sem] theorem pl115 : placesOf Try.prog 115 = some [(0, 1), (1, 1)] := by kernel_rfl
@[go_sem] theorem off115_0 : fieldOff Try.prog 115 0 = some 0 := by kernel_rfl
@[go_sem] theorem off115_1 : fieldOff Try.prog 115 1 = some 1 := by kernel_rfl
@[go_sem] theorem agg116 : aggTy Try.prog 116 = some false := by kernel_rfl
@[go_sem] theorem sz116 : szTy Try.prog 116 = some 1 := by kernel_rfl
@[go_sem] theorem zero116 : zeroA Try.prog 116 = some (.base .nilFunc) := by kernel_rfl
@[go_sem] theorem el116 : elI Try.prog 116 1 8 = true := by kernel_rfl
@[go_sem] theorem agg117 : aggTy Try.prog 117 = some false := by kernel_rfl
@[go_sem] theorem sz117 : szTy Try.prog 117 = some 1 := by kernel_rfl
@[go_sem] theorem zero117 : zeroA Try.prog 117 = some (.base (.slice none 0 0)) := by kernel_rfl
@[go_sem] theorem el117 : elI Try.prog 117 1 24 = true := by kernel_rfl
@[go_sem] theorem agg118 : aggTy Try.prog 118 = some true := by kernel_rfl
@[go_sem] theorem sz118 : szTy Try.prog 118 = some 10 := by kernel_rfl
@[go_sem] theorem zero118 : zeroA Try.prog 118 = some (.agg [.base (.string ByteArray.empty), .base (.slice none 0 0), .base (.int .i64 (0)), .base (.string ByteArray.empty), .base (.int .i64 (0)), .base (.slice none 0 0), .base (.int .i64 (0)), .base (.string ByteArray.empty), .base (.int .i64 (0)), .base (.slice none 0 0)]) := by kernel_rfl
@[go_sem] theorem el118 : elI Try.prog 118 10 152 = true := by kernel_rfl
@[go_sem] theorem pl118 : placesOf Try.prog 118 = some [(0, 1), (1, 1), (2, 4), (6, 4)] := by kernel_rfl
@[go_sem] theorem off118_0 : fieldOff Try.prog 118 0 = some 0 := by kernel_rfl
@[go_sem] theorem off118_1 : fieldOff Try.prog 118 1 = some 1 := by kernel_rfl
@[go_sem] theorem off118_2 : fieldOff Try.prog 118 2 = some 2 := by kernel_rfl
@[go_sem] theorem off118_3 : fieldOff Try.prog 118 3 = some 6 := by kernel_rfl
@[go_sem] theorem agg119 : aggTy Try.prog 119 = some true := by kernel_rfl
@[go_sem] theorem sz119 : szTy Try.prog 119 = some 10 := by kernel_rfl
@[go_sem] theorem zero119 : zeroA Try.prog 119 = some (.agg [.base (.string ByteArray.empty), .base (.slice none 0 0), .base (.int .i64 (0)), .base (.string ByteArray.empty), .base (.int .i64 (0)), .base (.slice none 0 0), .base (.int .i64 (0)), .base (.string ByteArray.empty), .base (.int .i64 (0)), .base (.slice none 0 0)]) := by kernel_rfl
@[go_sem] theorem el119 : elI Try.prog 119 10 152 = true := by kernel_rfl
@[go_sem] theorem pl119 : placesOf Try.prog 119 = some [(0, 1), (1, 1), (2, 4), (6, 4)] := by kernel_rfl
@[go_sem] theorem off119_0 : fieldOff Try.prog 119 0 = some 0 := by kernel_rfl
@[go_sem] theorem off119_1 : fieldOff Try.prog 119 1 = some 1 := by kernel_rfl
@[go_sem] theorem off119_2 : fieldOff Try.prog 119 2 = some 2 := by kernel_rfl
@[go_sem] theorem off119_3 : fieldOff Try.prog 119 3 = some 6 := by kernel_rfl
@[go_sem] theorem agg120 : aggTy Try.prog 120 = some false := by kernel_rfl
@[go_sem] theorem sz120 : szTy Try.prog 120 = some 1 := by kernel_rfl
@[go_sem] theorem zero120 : zeroA Try.prog 120 = some (.base (.slice none 0 0)) := by kernel_rfl
@[go_sem] theorem el120 : elI Try.prog 120 1 24 = true := by kernel_rfl
@[go_sem] theorem agg121 : aggTy Try.prog 121 = some true := by kernel_rfl
@[go_sem] theorem sz121 : szTy Try.prog 121 = some 9 := by kernel_rfl
@[go_sem] theorem zero121 : zeroA Try.prog 121 = some (.agg [.base (.string ByteArray.empty), .base (.int .i64 (0)), .base (.string ByteArray.empty), .base (.int .i64 (0)), .base (.slice none 0 0), .base (.slice none 0 0), .base (.slice none 0 0), .base (.slice none 0 0), .base (.slice none 0 0)]) := by kernel_rfl
@[go_sem] theorem el121 : elI Try.prog 121 9 168 = true := by kernel_rfl
@[go_sem] theorem pl121 : placesOf Try.prog 121 = some [(0, 1), (1, 4), (5, 1), (6, 1), (7, 1), (8, 1)] := by kernel_rfl
@[go_sem] theorem off121_0 : fieldOff Try.prog 121 0 = some 0 := by kernel_rfl
@[go_sem] theorem off121_1 : fieldOff Try.prog 121 1 = some 1 := by kernel_rfl
@[go_sem] theorem off121_2 : fieldOff Try.prog 121 2 = some 5 := by kernel_rfl
@[go_sem] theorem off121_3 : fieldOff Try.prog 121 3 = some 6 := by kernel_rfl
@[go_sem] theorem off121_4 : fieldOff Try.prog 121 4 = some 7 := by kernel_rfl
@[go_sem] theorem off121_5 : fieldOff Try.prog 121 5 = some 8 := by kernel_rfl
@[go_sem] theorem agg122 : aggTy Try.prog 122 = some true := by kernel_rfl
@[go_sem] theorem sz122 : szTy Try.prog 122 = some 9 := by kernel_rfl
@[go_sem] theorem zero122 : zeroA Try.prog 122 = some (.agg [.base (.string ByteArray.empty), .base (.int .i64 (0)), .base (.string ByteArray.empty), .base (.int .i64 (0)), .base (.slice none 0 0), .base (.slice none 0 0), .base (.slice none 0 0), .base (.slice none 0 0), .base (.slice none 0 0)]) := by kernel_rfl
@[go_sem] theorem el122 : elI Try.prog 122 9 168 = true := by kernel_rfl
@[go_sem] theorem pl122 : placesOf Try.prog 122 = some [(0, 1), (1, 4), (5, 1), (6, 1), (7, 1), (8, 1)] := by kernel_rfl
@[go_sem] theorem off122_0 : fieldOff Try.prog 122 0 = some 0 := by kernel_rfl
@[go_sem] theorem off122_1 : fieldOff Try.prog 122 1 = some 1 := by kernel_rfl
@[go_sem] theorem off122_2 : fieldOff Try.prog 122 2 = some 5 := by kernel_rfl
@[go_sem] theorem off122_3 : fieldOff Try.prog 122 3 = some 6 := by kernel_rfl
@[go_sem] theorem off122_4 : fieldOff Try.prog 122 4 = some 7 := by kernel_rfl
@[go_sem] theorem off122_5 : fieldOff Try.prog 122 5 = some 8 := by kernel_rfl
@[go_sem] theorem agg123 : aggTy Try.prog 123 = some false := by kernel_rfl
@[go_sem] theorem sz123 : szTy Try.prog 123 = some 1 := by kernel_rfl
@[go_sem] theorem zero123 : zeroA Try.prog 123 = some (.base .nilFunc) := by kernel_rfl
@[go_sem] theorem el123 : elI Try.prog 123 1 8 = true := by kernel_rfl
@[go_sem] theorem agg124 : aggTy Try.prog 124 = some true := by kernel_rfl
@[go_sem] theorem sz124 : szTy Try.prog 124 = some 22 := by kernel_rfl
@[go_sem] theorem zero124 : zeroA Try.prog 124 = some (.agg [.base (.string ByteArray.empty), .base (.slice none 0 0), .base (.slice none 0 0), .base (.slice none 0 0), .base (.int .i64 (0)), .base (.string ByteArray.empty), .base (.int .i64 (0)), .base (.slice none 0 0), .base (.int .i64 (0)), .base (.string ByteArray.empty), .base (.int .i64 (0)), .base (.slice none 0 0), .base (.int .i64 (0)), .base (.string ByteArray.empty), .base (.int .i64 (0)), .base (.int .i64 (0)), .base (.string ByteArray.empty), .base (.int .i64 (0)), .base (.slice none 0 0), .base (.slice none 0 0), .base (.slice none 0 0), .base (.int .i64 (0))]) := by kernel_rfl
@[go_sem] theorem el124 : elI Try.prog 124 22 344 = true := by kernel_rfl
@[go_sem] theorem pl124 : placesOf Try.prog 124 = some [(0, 1), (1, 1), (2, 1), (3, 1), (4, 4), (8, 4), (12, 10)] := by kernel_rfl
@[go_sem] theorem off124_0 : fieldOff Try.prog 124 0 = some 0 := by kernel_rfl
@[go_sem] theorem off124_1 : fieldOff Try.prog 124 1 = some 1 := by kernel_rfl
@[go_sem] theorem off124_2 : fieldOff Try.prog 124 2 = some 2 := by kernel_rfl
@[go_sem] theorem off124_3 : fieldOff Try.prog 124 3 = some 3 := by kernel_rfl
@[go_sem] theorem off124_4 : fieldOff Try.prog 124 4 = some 4 := by kernel_rfl
@[go_sem] theorem off124_5 : fieldOff Try.prog 124 5 = some 8 := by kernel_rfl
@[go_sem] theorem off124_6 : fieldOff Try.prog 124 6 = some 12 := by kernel_rfl
@[go_sem] theorem agg125 : aggTy Try.prog 125 = some true := by kernel_rfl
@[go_sem] theorem sz125 : szTy Try.prog 125 = some 22 := by kernel_rfl
@[go_sem] theorem zero125 : zeroA Try.prog 125 = some (.agg [.base (.string ByteArray.empty), .base (.slice none 0 0), .base (.slice none 0 0), .base (.slice none 0 0), .base (.int .i64 (0)), .base (.string ByteArray.empty), .base (.int .i64 (0)), .base (.slice none 0 0), .base (.int .i64 (0)), .base (.string ByteArray.empty), .base (.int .i64 (0)), .base (.slice none 0 0), .base (.int .i64 (0)), .base (.string ByteArray.empty), .base (.int .i64 (0)), .base (.int .i64 (0)), .base (.string ByteArray.empty), .base (.int .i64 (0)), .base (.slice none 0 0), .base (.slice none 0 0), .base (.slice none 0 0), .base (.int .i64 (0))]) := by kernel_rfl
@[go_sem] theorem el125 : elI Try.prog 125 22 344 = true := by kernel_rfl
@[go_sem] theorem pl125 : placesOf Try.prog 125 = some [(0, 1), (1, 1), (2, 1), (3, 1), (4, 4), (8, 4), (12, 10)] := by kernel_rfl
@[go_sem] theorem off125_0 : fieldOff Try.prog 125 0 = some 0 := by kernel_rfl
@[go_sem] theorem off125_1 : fieldOff Try.prog 125 1 = some 1 := by kernel_rfl
@[go_sem] theorem off125_2 : fieldOff Try.prog 125 2 = some 2 := by kernel_rfl
@[go_sem] theorem off125_3 : fieldOff Try.prog 125 3 = some 3 := by kernel_rfl
@[go_sem] theorem off125_4 : fieldOff Try.prog 125 4 = some 4 := by kernel_rfl
@[go_sem] theorem off125_5 : fieldOff Try.prog 125 5 = some 8 := by kernel_rfl
@[go_sem] theorem off125_6 : fieldOff Try.prog 125 6 = some 12 := by kernel_rfl
@[go_sem] theorem agg126 : aggTy Try.prog 126 = some false := by kernel_rfl
@[go_sem] theorem sz126 : szTy Try.prog 126 = some 1 := by kernel_rfl
@[go_sem] theorem zero126 : zeroA Try.prog 126 = some (.base .nilFunc) := by kernel_rfl
@[go_sem] theorem el126 : elI Try.prog 126 1 8 = true := by kernel_rfl
@[go_sem] theorem agg127 : aggTy Try.prog 127 = some false := by kernel_rfl
@[go_sem] theorem sz127 : szTy Try.prog 127 = some 1 := by kernel_rfl
@[go_sem] theorem agg128 : aggTy Try.prog 128 = some false := by kernel_rfl
@[go_sem] theorem sz128 : szTy Try.prog 128 = some 1 := by kernel_rfl
@[go_sem] theorem zero128 : zeroA Try.prog 128 = some (.base .nilFunc) := by kernel_rfl
@[go_sem] theorem el128 : elI Try.prog 128 1 8 = true := by kernel_rfl
@[go_sem] theorem agg129 : aggTy Try.prog 129 = some false := by kernel_rfl
@[go_sem] theorem sz129 : szTy Try.prog 129 = some 1 := by kernel_rfl
@[go_sem] theorem zero129 : zeroA Try.prog 129 = some (.base (.slice none 0 0)) := by kernel_rfl
@[go_sem] theorem el129 : elI Try.prog 129 1 24 = true := by kernel_rfl
@[go_sem] theorem agg130 : aggTy Try.prog 130 = some false := by kernel_rfl
@[go_sem] theorem sz130 : szTy Try.prog 130 = some 1 := by kernel_rfl
@[go_sem] theorem agg131 : aggTy Try.prog 131 = some false := by kernel_rfl
@[go_sem] theorem sz131 : szTy Try.prog 131 = some 1 := by kernel_rfl
@[go_sem] theorem zero131 : zeroA Try.prog 131 = some (.base .nilFunc) := by kernel_rfl
@[go_sem] theorem el131 : elI Try.prog 131 1 8 = true := by kernel_rfl
@[go_sem] theorem agg132 : aggTy Try.prog 132 = some false := by kernel_rfl
@[go_sem] theorem sz132 : szTy Try.prog 132 = some 1 := by kernel_rfl
@[go_sem] theorem zero132 : zeroA Try.prog 132 = some (.base .nilFunc) := by kernel_rfl
@[go_sem] theorem el132 : elI Try.prog 132 1 8 = true := by kernel_rfl
@[go_sem] theorem agg133 : aggTy Try.prog 133 = some false := by kernel_rfl
@[go_sem] theorem sz133 : szTy Try.prog 133 = some 1 := by kernel_rfl
@[go_sem] theorem zero133 : zeroA Try.prog 133 = some (.base (.pointer none)) := by kernel_rfl
@[go_sem] theorem el133 : elI Try.prog 133 1 8 = true := by kernel_rfl
@[go_sem] theorem agg134 : aggTy Try.prog 134 = some false := by kernel_rfl
@[go_sem] theorem sz134 : szTy Try.prog 134 = some 1 := by kernel_rfl
@[go_sem] theorem zero134 : zeroA Try.prog 134 = some (.base .nilFunc) := by kernel_rfl
@[go_sem] theorem el134 : elI Try.prog 134 1 8 = true := by kernel_rfl
@[go_sem] theorem agg135 : aggTy Try.prog 135 = some false := by kernel_rfl
@[go_sem] theorem sz135 : szTy Try.prog 135 = some 1 := by kernel_rfl
@[go_sem] theorem zero135 : zeroA Try.prog 135 = some (.base .nilFunc) := by kernel_rfl
@[go_sem] theorem el135 : elI Try.prog 135 1 8 = true := by kernel_rfl
@[go_sem] theorem agg136 : aggTy Try.prog 136 = some false := by kernel_rfl
@[go_sem] theorem sz136 : szTy Try.prog 136 = some 1 := by kernel_rfl
@[go_sem] theorem zero136 : zeroA Try.prog 136 = some (.base .nilFunc) := by kernel_rfl
@[go_sem] theorem el136 : elI Try.prog 136 1 8 = true := by kernel_rfl
@[go_sem] theorem agg137 : aggTy Try.prog 137 = some true := by kernel_rfl
@[go_sem] theorem sz137 : szTy Try.prog 137 = some 6 := by kernel_rfl
@[go_sem] theorem zero137 : zeroA Try.prog 137 = some (.agg [.base (.string ByteArray.empty), .base (.int .i64 (0)), .base (.int .i64 (0)), .base (.string ByteArray.empty), .base (.int .i64 (0)), .base (.slice none 0 0)]) := by kernel_rfl
@[go_sem] theorem el137 : elI Try.prog 137 6 80 = true := by kernel_rfl
@[go_sem] theorem pl137 : placesOf Try.prog 137 = some [(0, 1), (1, 1), (2, 4)] := by kernel_rfl
@[go_sem] theorem off137_0 : fieldOff Try.prog 137 0 = some 0 := by kernel_rfl
@[go_sem] theorem off137_1 : fieldOff Try.prog 137 1 = some 1 := by kernel_rfl
@[go_sem] theorem off137_2 : fieldOff Try.prog 137 2 = some 2 := by kernel_rfl
@[go_sem] theorem agg138 : aggTy Try.prog 138 = some true := by kernel_rfl
@[go_sem] theorem sz138 : szTy Try.prog 138 = some 6 := by kernel_rfl
@[go_sem] theorem zero138 : zeroA Try.prog 138 = some (.agg [.base (.string ByteArray.empty), .base (.int .i64 (0)), .base (.int .i64 (0)), .base (.string ByteArray.empty), .base (.int .i64 (0)), .base (.slice none 0 0)]) := by kernel_rfl
@[go_sem] theorem el138 : elI Try.prog 138 6 80 = true := by kernel_rfl
@[go_sem] theorem pl138 : placesOf Try.prog 138 = some [(0, 1), (1, 1), (2, 4)] := by kernel_rfl
@[go_sem] theorem off138_0 : fieldOff Try.prog 138 0 = some 0 := by kernel_rfl
@[go_sem] theorem off138_1 : fieldOff Try.prog 138 1 = some 1 := by kernel_rfl
@[go_sem] theorem off138_2 : fieldOff Try.prog 138 2 = some 2 := by kernel_rfl
@[go_sem] theorem agg139 : aggTy Try.prog 139 = some true := by kernel_rfl
@[go_sem] theorem sz139 : szTy Try.prog 139 = some 10 := by kernel_rfl
@[go_sem] theorem zero139 : zeroA Try.prog 139 = some (.agg [.base (.int .i64 (0)), .base (.int .i64 (0)), .base (.string ByteArray.empty), .base (.int .i64 (0)), .base (.slice none 0 0), .base (.string ByteArray.empty), .base (.int .i64 (0)), .base (.string ByteArray.empty), .base (.int .i64 (0)), .base (.slice none 0 0)]) := by kernel_rfl
@[go_sem] theorem el139 : elI Try.prog 139 10 136 = true := by kernel_rfl
@[go_sem] theorem pl139 : placesOf Try.prog 139 = some [(0, 1), (1, 4), (5, 1), (6, 4)] := by kernel_rfl
@[go_sem] theorem off139_0 : fieldOff Try.prog 139 0 = some 0 := by kernel_rfl
@[go_sem] theorem off139_1 : fieldOff Try.prog 139 1 = some 1 := by kernel_rfl
@[go_sem] theorem off139_2 : fieldOff Try.prog 139 2 = some 5 := by kernel_rfl
@[go_sem] theorem off139_3 : fieldOff Try.prog 139 3 = some 6 := by kernel_rfl
@[go_sem] theorem agg140 : aggTy Try.prog 140 = some true := by kernel_rfl
@[go_sem] theorem sz140 : szTy Try.prog 140 = some 10 := by kernel_rfl
@[go_sem] theorem zero140 : zeroA Try.prog 140 = some (.agg [.base (.int .i64 (0)), .base (.int .i64 (0)), .base (.string ByteArray.empty), .base (.int .i64 (0)), .base (.slice none 0 0), .base (.string ByteArray.empty), .base (.int .i64 (0)), .base (.string ByteArray.empty), .base (.int .i64 (0)), .base (.slice none 0 0)]) := by kernel_rfl
@[go_sem] theorem el140 : elI Try.prog 140 10 136 = true := by kernel_rfl
@[go_sem] theorem pl140 : placesOf Try.prog 140 = some [(0, 1), (1, 4), (5, 1), (6, 4)] := by kernel_rfl
@[go_sem] theorem off140_0 : fieldOff Try.prog 140 0 = some 0 := by kernel_rfl
@[go_sem] theorem off140_1 : fieldOff Try.prog 140 1 = some 1 := by kernel_rfl
@[go_sem] theorem off140_2 : fieldOff Try.prog 140 2 = some 5 := by kernel_rfl
@[go_sem] theorem off140_3 : fieldOff Try.prog 140 3 = some 6 := by kernel_rfl
@[go_sem] theorem agg141 : aggTy Try.prog 141 = some false := by kernel_rfl
@[go_sem] theorem sz141 : szTy Try.prog 141 = some 1 := by kernel_rfl
@[go_sem] theorem zero141 : zeroA Try.prog 141 = some (.base .nilFunc) := by kernel_rfl
@[go_sem] theorem el141 : elI Try.prog 141 1 8 = true := by kernel_rfl
@[go_sem] theorem agg142 : aggTy Try.prog 142 = some false := by kernel_rfl
@[go_sem] theorem sz142 : szTy Try.prog 142 = some 1 := by kernel_rfl
@[go_sem] theorem zero142 : zeroA Try.prog 142 = some (.base .nilFunc) := by kernel_rfl
@[go_sem] theorem el142 : elI Try.prog 142 1 8 = true := by kernel_rfl
@[go_sem] theorem agg143 : aggTy Try.prog 143 = some false := by kernel_rfl
@[go_sem] theorem sz143 : szTy Try.prog 143 = some 1 := by kernel_rfl
@[go_sem] theorem zero143 : zeroA Try.prog 143 = some (.base .nilFunc) := by kernel_rfl
@[go_sem] theorem el143 : elI Try.prog 143 1 8 = true := by kernel_rfl
@[go_sem] theorem agg144 : aggTy Try.prog 144 = some false := by kernel_rfl
@[go_sem] theorem sz144 : szTy Try.prog 144 = some 1 := by kernel_rfl
@[go_sem] theorem zero144 : zeroA Try.prog 144 = some (.base .nilFunc) := by kernel_rfl
@[go_sem] theorem el144 : elI Try.prog 144 1 8 = true := by kernel_rfl
@[go_sem] theorem agg145 : aggTy Try.prog 145 = some false := by kernel_rfl
@[go_sem] theorem sz145 : szTy Try.prog 145 = some 1 := by kernel_rfl
@[go_sem] theorem zero145 : zeroA Try.prog 145 = some (.base .nilFunc) := by kernel_rfl
@[go_sem] theorem el145 : elI Try.prog 145 1 8 = true := by kernel_rfl
@[go_sem] theorem agg146 : aggTy Try.prog 146 = some false := by kernel_rfl
@[go_sem] theorem sz146 : szTy Try.prog 146 = some 1 := by kernel_rfl
@[go_sem] theorem zero146 : zeroA Try.prog 146 = some (.base .nilFunc) := by kernel_rfl
@[go_sem] theorem el146 : elI Try.prog 146 1 8 = true := by kernel_rfl
@[go_sem] theorem agg147 : aggTy Try.prog 147 = some false := by kernel_rfl
@[go_sem] theorem sz147 : szTy Try.prog 147 = some 1 := by kernel_rfl
@[go_sem] theorem zero147 : zeroA Try.prog 147 = some (.base .nilFunc) := by kernel_rfl
@[go_sem] theorem el147 : elI Try.prog 147 1 8 = true := by kernel_rfl
@[go_sem] theorem agg148 : aggTy Try.prog 148 = some false := by kernel_rfl
@[go_sem] theorem sz148 : szTy Try.prog 148 = some 1 := by kernel_rfl
@[go_sem] theorem zero148 : zeroA Try.prog 148 = some (.base .nilFunc) := by kernel_rfl
@[go_sem] theorem el148 : elI Try.prog 148 1 8 = true := by kernel_rfl
@[go_sem] theorem agg149 : aggTy Try.prog 149 = some false := by kernel_rfl
@[go_sem] theorem sz149 : szTy Try.prog 149 = some 1 := by kernel_rfl
@[go_sem] theorem zero149 : zeroA Try.prog 149 = some (.base .nilFunc) := by kernel_rfl
@[go_sem] theorem el149 : elI Try.prog 149 1 8 = true := by kernel_rfl
@[go_sem] theorem agg150 : aggTy Try.prog 150 = some false := by kernel_rfl
@[go_sem] theorem sz150 : szTy Try.prog 150 = some 1 := by kernel_rfl
@[go_sem] theorem zero150 : zeroA Try.prog 150 = some (.base .nilFunc) := by kernel_rfl
@[go_sem] theorem el150 : elI Try.prog 150 1 8 = true := by kernel_rfl
@[go_sem] theorem agg151 : aggTy Try.prog 151 = some false := by kernel_rfl
@[go_sem] theorem sz151 : szTy Try.prog 151 = some 1 := by kernel_rfl
@[go_sem] theorem zero151 : zeroA Try.prog 151 = some (.base .nilFunc) := by kernel_rfl
@[go_sem] theorem el151 : elI Try.prog 151 1 8 = true := by kernel_rfl
@[go_sem] theorem agg152 : aggTy Try.prog 152 = some false := by kernel_rfl
@[go_sem] theorem sz152 : szTy Try.prog 152 = some 1 := by kernel_rfl
@[go_sem] theorem zero152 : zeroA Try.prog 152 = some (.base .nilFunc) := by kernel_rfl
@[go_sem] theorem el152 : elI Try.prog 152 1 8 = true := by kernel_rfl
@[go_sem] theorem agg153 : aggTy Try.prog 153 = some false := by kernel_rfl
@[go_sem] theorem sz153 : szTy Try.prog 153 = some 1 := by kernel_rfl
@[go_sem] theorem agg154 : aggTy Try.prog 154 = some false := by kernel_rfl
@[go_sem] theorem sz154 : szTy Try.prog 154 = some 1 := by kernel_rfl
@[go_sem] theorem zero154 : zeroA Try.prog 154 = some (.base .nilFunc) := by kernel_rfl
@[go_sem] theorem el154 : elI Try.prog 154 1 8 = true := by kernel_rfl
@[go_sem] theorem agg155 : aggTy Try.prog 155 = some false := by kernel_rfl
@[go_sem] theorem sz155 : szTy Try.prog 155 = some 1 := by kernel_rfl
@[go_sem] theorem zero155 : zeroA Try.prog 155 = some (.base .nilFunc) := by kernel_rfl
@[go_sem] theorem el155 : elI Try.prog 155 1 8 = true := by kernel_rfl
@[go_sem] theorem agg156 : aggTy Try.prog 156 = some false := by kernel_rfl
@[go_sem] theorem sz156 : szTy Try.prog 156 = some 1 := by kernel_rfl
@[go_sem] theorem zero156 : zeroA Try.prog 156 = some (.base (.pointer none)) := by kernel_rfl
@[go_sem] theorem el156 : elI Try.prog 156 1 8 = true := by kernel_rfl
@[go_sem] theorem agg157 : aggTy Try.prog 157 = some false := by kernel_rfl
@[go_sem] theorem sz157 : szTy Try.prog 157 = some 1 := by kernel_rfl
@[go_sem] theorem zero157 : zeroA Try.prog 157 = some (.base .nilFunc) := by kernel_rfl
@[go_sem] theorem el157 : elI Try.prog 157 1 8 = true := by kernel_rfl
@[go_sem] theorem agg158 : aggTy Try.prog 158 = some false := by kernel_rfl
@[go_sem] theorem sz158 : szTy Try.prog 158 = some 1 := by kernel_rfl
@[go_sem] theorem zero158 : zeroA Try.prog 158 = some (.base .nilFunc) := by kernel_rfl
@[go_sem] theorem el158 : elI Try.prog 158 1 8 = true := by kernel_rfl
@[go_sem] theorem agg159 : aggTy Try.prog 159 = some false := by kernel_rfl
@[go_sem] theorem sz159 : szTy Try.prog 159 = some 1 := by kernel_rfl
@[go_sem] theorem zero159 : zeroA Try.prog 159 = some (.base .nilFunc) := by kernel_rfl
@[go_sem] theorem el159 : elI Try.prog 159 1 8 = true := by kernel_rfl
@[go_sem] theorem agg160 : aggTy Try.prog 160 = some false := by kernel_rfl
@[go_sem] theorem sz160 : szTy Try.prog 160 = some 1 := by kernel_rfl
@[go_sem] theorem zero160 : zeroA Try.prog 160 = some (.base .nilFunc) := by kernel_rfl
@[go_sem] theorem el160 : elI Try.prog 160 1 8 = true := by kernel_rfl
@[go_sem] theorem agg161 : aggTy Try.prog 161 = some false := by kernel_rfl
@[go_sem] theorem sz161 : szTy Try.prog 161 = some 1 := by kernel_rfl
@[go_sem] theorem zero161 : zeroA Try.prog 161 = some (.base .nilFunc) := by kernel_rfl
@[go_sem] theorem el161 : elI Try.prog 161 1 8 = true := by kernel_rfl
@[go_sem] theorem agg162 : aggTy Try.prog 162 = some false := by kernel_rfl
@[go_sem] theorem sz162 : szTy Try.prog 162 = some 1 := by kernel_rfl
@[go_sem] theorem zero162 : zeroA Try.prog 162 = some (.base .nilFunc) := by kernel_rfl
@[go_sem] theorem el162 : elI Try.prog 162 1 8 = true := by kernel_rfl
@[go_sem] theorem agg163 : aggTy Try.prog 163 = some false := by kernel_rfl
@[go_sem] theorem sz163 : szTy Try.prog 163 = some 1 := by kernel_rfl
@[go_sem] theorem zero163 : zeroA Try.prog 163 = some (.base .nilFunc) := by kernel_rfl
@[go_sem] theorem el163 : elI Try.prog 163 1 8 = true := by kernel_rfl
@[go_sem] theorem agg164 : aggTy Try.prog 164 = some false := by kernel_rfl
@[go_sem] theorem sz164 : szTy Try.prog 164 = some 1 := by kernel_rfl
@[go_sem] theorem zero164 : zeroA Try.prog 164 = some (.base .nilFunc) := by kernel_rfl
@[go_sem] theorem el164 : elI Try.prog 164 1 8 = true := by kernel_rfl
@[go_sem] theorem agg165 : aggTy Try.prog 165 = some false := by kernel_rfl
@[go_sem] theorem sz165 : szTy Try.prog 165 = some 1 := by kernel_rfl
@[go_sem] theorem zero165 : zeroA Try.prog 165 = some (.base .nilFunc) := by kernel_rfl
@[go_sem] theorem el165 : elI Try.prog 165 1 8 = true := by kernel_rfl
@[go_sem] theorem agg166 : aggTy Try.prog 166 = some false := by kernel_rfl
@[go_sem] theorem sz166 : szTy Try.prog 166 = some 1 := by kernel_rfl
@[go_sem] theorem agg167 : aggTy Try.prog 167 = some true := by kernel_rfl
@[go_sem] theorem sz167 : szTy Try.prog 167 = some 4 := by kernel_rfl
@[go_sem] theorem zero167 : zeroA Try.prog 167 = some (.agg [.base (.pointer none), .base (.pointer none), .base (.pointer none), .base (.string ByteArray.empty)]) := by kernel_rfl
@[go_sem] theorem el167 : elI Try.prog 167 4 40 = true := by kernel_rfl
@[go_sem] theorem pl167 : placesOf Try.prog 167 = some [(0, 1), (1, 1), (2, 1), (3, 1)] := by kernel_rfl
@[go_sem] theorem off167_0 : fieldOff Try.prog 167 0 = some 0 := by kernel_rfl
@[go_sem] theorem off167_1 : fieldOff Try.prog 167 1 = some 1 := by kernel_rfl
@[go_sem] theorem off167_2 : fieldOff Try.prog 167 2 = some 2 := by kernel_rfl
@[go_sem] theorem off167_3 : fieldOff Try.prog 167 3 = some 3 := by kernel_rfl
@[go_sem] theorem agg168 : aggTy Try.prog 168 = some true := by kernel_rfl
@[go_sem] theorem sz168 : szTy Try.prog 168 = some 4 := by kernel_rfl
@[go_sem] theorem zero168 : zeroA Try.prog 168 = some (.agg [.base (.pointer none), .base (.pointer none), .base (.pointer none), .base (.string ByteArray.empty)]) := by kernel_rfl
@[go_sem] theorem el168 : elI Try.prog 168 4 40 = true := by kernel_rfl
@[go_sem] theorem pl168 : placesOf Try.prog 168 = some [(0, 1), (1, 1), (2, 1), (3, 1)] := by kernel_rfl
@[go_sem] theorem off168_0 : fieldOff Try.prog 168 0 = some 0 := by kernel_rfl
@[go_sem] theorem off168_1 : fieldOff Try.prog 168 1 = some 1 := by kernel_rfl
@[go_sem] theorem off168_2 : fieldOff Try.prog 168 2 = some 2 := by kernel_rfl
@[go_sem] theorem off168_3 : fieldOff Try.prog 168 3 = some 3 := by kernel_rfl
@[go_sem] theorem agg169 : aggTy Try.prog 169 = some true := by kernel_rfl
@[go_sem] theorem sz169 : szTy Try.prog 169 = some 0 := by kernel_rfl
@[go_sem] theorem agg170 : aggTy Try.prog 170 = some true := by kernel_rfl
@[go_sem] theorem sz170 : szTy Try.prog 170 = some 0 := by kernel_rfl
@[go_sem] theorem pl170 : placesOf Try.prog 170 = some [(0, 0)] := by kernel_rfl
@[go_sem] theorem agg171 : aggTy Try.prog 171 = some true := by kernel_rfl
@[go_sem] theorem sz171 : szTy Try.prog 171 = some 0 := by kernel_rfl
@[go_sem] theorem pl171 : placesOf Try.prog 171 = some [(0, 0)] := by kernel_rfl
@[go_sem] theorem agg172 : aggTy Try.prog 172 = some false := by kernel_rfl
@[go_sem] theorem sz172 : szTy Try.prog 172 = some 1 := by kernel_rfl
@[go_sem] theorem zero172 : zeroA Try.prog 172 = some (.base .nilFunc) := by kernel_rfl
@[go_sem] theorem el172 : elI Try.prog 172 1 8 = true := by kernel_rfl
@[go_sem] theorem agg173 : aggTy Try.prog 173 = some false := by kernel_rfl
@[go_sem] theorem sz173 : szTy Try.prog 173 = some 1 := by kernel_rfl
@[go_sem] theorem zero173 : zeroA Try.prog 173 = some (.base (.int .u32 (0))) := by kernel_rfl
@[go_sem] theorem el173 : elI Try.prog 173 1 4 = true := by kernel_rfl
@[go_sem] theorem agg174 : aggTy Try.prog 174 = some false := by kernel_rfl
@[go_sem] theorem sz174 : szTy Try.prog 174 = some 1 := by kernel_rfl
@[go_sem] theorem zero174 : zeroA Try.prog 174 = some (.base (.int .u8 (0))) := by kernel_rfl
@[go_sem] theorem el174 : elI Try.prog 174 1 1 = true := by kernel_rfl
@[go_sem] theorem agg175 : aggTy Try.prog 175 = some false := by kernel_rfl
@[go_sem] theorem sz175 : szTy Try.prog 175 = some 1 := by kernel_rfl
@[go_sem] theorem zero175 : zeroA Try.prog 175 = some (.base (.int .u8 (0))) := by kernel_rfl
@[go_sem] theorem el175 : elI Try.prog 175 1 1 = true := by kernel_rfl
@[go_sem] theorem agg176 : aggTy Try.prog 176 = some false := by kernel_rfl
@[go_sem] theorem sz176 : szTy Try.prog 176 = some 1 := by kernel_rfl
@[go_sem] theorem zero176 : zeroA Try.prog 176 = some (.base .nilFunc) := by kernel_rfl
@[go_sem] theorem el176 : elI Try.prog 176 1 8 = true := by kernel_rfl
@[go_sem] theorem agg177 : aggTy Try.prog 177 = some false := by kernel_rfl
@[go_sem] theorem sz177 : szTy Try.prog 177 = some 1 := by kernel_rfl
@[go_sem] theorem zero177 : zeroA Try.prog 177 = some (.base (.int .i32 (0))) := by kernel_rfl
@[go_sem] theorem el177 : elI Try.prog 177 1 4 = true := by kernel_rfl
@[go_sem] theorem agg178 : aggTy Try.prog 178 = some false := by kernel_rfl
@[go_sem] theorem sz178 : szTy Try.prog 178 = some 1 := by kernel_rfl
@[go_sem] theorem zero178 : zeroA Try.prog 178 = some (.base (.int .i32 (0))) := by kernel_rfl
@[go_sem] theorem el178 : elI Try.prog 178 1 4 = true := by kernel_rfl
@[go_sem] theorem agg179 : aggTy Try.prog 179 = some true := by kernel_rfl
@[go_sem] theorem sz179 : szTy Try.prog 179 = some 11 := by kernel_rfl
@[go_sem] theorem zero179 : zeroA Try.prog 179 = some (.agg [.base (.int .u64 (0)), .base (.int .u64 (0)), .base (.int .u32 (0)), .base (.int .u8 (0)), .base (.int .u8 (0)), .base (.int .u8 (0)), .base (.int .u8 (0)), .base .nilFunc, .base (.pointer none), .base (.int .i32 (0)), .base (.int .i32 (0))]) := by kernel_rfl
@[go_sem] theorem el179 : elI Try.prog 179 11 48 = true := by kernel_rfl
@[go_sem] theorem pl179 : placesOf Try.prog 179 = some [(0, 1), (1, 1), (2, 1), (3, 1), (4, 1), (5, 1), (6, 1), (7, 1), (8, 1), (9, 1), (10, 1)] := by kernel_rfl
@[go_sem] theorem off179_0 : fieldOff Try.prog 179 0 = some 0 := by kernel_rfl
@[go_sem] theorem off179_1 : fieldOff Try.prog 179 1 = some 1 := by kernel_rfl
@[go_sem] theorem off179_2 : fieldOff Try.prog 179 2 = some 2 := by kernel_rfl
@[go_sem] theorem off179_3 : fieldOff Try.prog 179 3 = some 3 := by kernel_rfl
@[go_sem] theorem off179_4 : fieldOff Try.prog 179 4 = some 4 := by kernel_rfl
@[go_sem] theorem off179_5 : fieldOff Try.prog 179 5 = some 5 := by kernel_rfl
@[go_sem] theorem off179_6 : fieldOff Try.prog 179 6 = some 6 := by kernel_rfl
@[go_sem] theorem off179_7 : fieldOff Try.prog 179 7 = some 7 := by kernel_rfl
@[go_sem] theorem off179_8 : fieldOff Try.prog 179 8 = some 8 := by kernel_rfl
@[go_sem] theorem off179_9 : fieldOff Try.prog 179 9 = some 9 := by kernel_rfl
@[go_sem] theorem off179_10 : fieldOff Try.prog 179 10 = some 10 := by kernel_rfl
@[go_sem] theorem agg180 : aggTy Try.prog 180 = some true := by kernel_rfl
@[go_sem] theorem sz180 : szTy Try.prog 180 = some 11 := by kernel_rfl
@[go_sem] theorem zero180 : zeroA Try.prog 180 = some (.agg [.base (.int .u64 (0)), .base (.int .u64 (0)), .base (.int .u32 (0)), .base (.int .u8 (0)), .base (.int .u8 (0)), .base (.int .u8 (0)), .base (.int .u8 (0)), .base .nilFunc, .base (.pointer none), .base (.int .i32 (0)), .base (.int .i32 (0))]) := by kernel_rfl
@[go_sem] theorem el180 : elI Try.prog 180 11 48 = true := by kernel_rfl
@[go_sem] theorem pl180 : placesOf Try.prog 180 = some [(0, 1), (1, 1), (2, 1), (3, 1), (4, 1), (5, 1), (6, 1), (7, 1), (8, 1), (9, 1), (10, 1)] := by kernel_rfl
@[go_sem] theorem off180_0 : fieldOff Try.prog 180 0 = some 0 := by kernel_rfl
@[go_sem] theorem off180_1 : fieldOff Try.prog 180 1 = some 1 := by kernel_rfl
@[go_sem] theorem off180_2 : fieldOff Try.prog 180 2 = some 2 := by kernel_rfl
@[go_sem] theorem off180_3 : fieldOff Try.prog 180 3 = some 3 := by kernel_rfl
@[go_sem] theorem off180_4 : fieldOff Try.prog 180 4 = some 4 := by kernel_rfl
@[go_sem] theorem off180_5 : fieldOff Try.prog 180 5 = some 5 := by kernel_rfl
@[go_sem] theorem off180_6 : fieldOff Try.prog 180 6 = some 6 := by kernel_rfl
@[go_sem] theorem off180_7 : fieldOff Try.prog 180 7 = some 7 := by kernel_rfl
@[go_sem] theorem off180_8 : fieldOff Try.prog 180 8 = some 8 := by kernel_rfl
@[go_sem] theorem off180_9 : fieldOff Try.prog 180 9 = some 9 := by kernel_rfl
@[go_sem] theorem off180_10 : fieldOff Try.prog 180 10 = some 10 := by kernel_rfl
attribute [go_sem] Try.underlying0 Try.underlying1 Try.underlying2 Try.underlying3 Try.underlying4 Try.underlying5 Try.underlying6 Try.underlying7 Try.underlying8 Try.underlying9 Try.underlying10 Try.underlying11 Try.underlying12 Try.underlying13 Try.underlying14 Try.underlying15 Try.underlying16 Try.underlying17 Try.underlying18 Try.underlying19 Try.underlying20 Try.underlying21 Try.underlying22 Try.underlying23 Try.underlying24 Try.underlying25 Try.underlying26 Try.underlying27 Try.underlying28 Try.underlying29 Try.underlying30 Try.underlying31 Try.underlying32 Try.underlying33 Try.underlying34 Try.underlying35 Try.underlying36 Try.underlying37 Try.underlying38 Try.underlying39 Try.underlying40 Try.underlying41 Try.underlying42 Try.underlying43 Try.underlying44 Try.underlying45 Try.underlying46 Try.underlying47 Try.underlying48 Try.underlying49 Try.underlying50 Try.underlying51 Try.underlying52 Try.underlying53 Try.underlying54 Try.underlying55 Try.underlying56 Try.underlying57 Try.underlying58 Try.underlying59 Try.underlying60 Try.underlying61 Try.underlying62 Try.underlying63 Try.underlying64 Try.underlying65 Try.underlying66 Try.underlying67 Try.underlying68 Try.underlying69 Try.underlying70 Try.underlying71 Try.underlying72 Try.underlying73 Try.underlying74 Try.underlying75 Try.underlying76 Try.underlying77 Try.underlying78 Try.underlying79 Try.underlying80 Try.underlying81 Try.underlying82 Try.underlying83 Try.underlying84 Try.underlying85 Try.underlying86 Try.underlying87 Try.underlying88 Try.underlying89 Try.underlying90 Try.underlying91 Try.underlying92 Try.underlying93 Try.underlying94 Try.underlying95 Try.underlying96 Try.underlying97 Try.underlying98 Try.underlying99 Try.underlying100 Try.underlying101 Try.underlying102 Try.underlying103 Try.underlying104 Try.underlying105 Try.underlying106 Try.underlying107 Try.underlying108 Try.underlying109 Try.underlying110 Try.underlying111 Try.underlying112 Try.underlying113 Try.underlying114 Try.underlying115 Try.underlying116 Try.underlying117 Try.underlying118 Try.underlying119 Try.underlying120 Try.underlying121 Try.underlying122 Try.underlying123 Try.underlying124 Try.underlying125 Try.underlying126 Try.underlying127 Try.underlying128 Try.underlying129 Try.underlying130 Try.underlying131 Try.underlying132 Try.underlying133 Try.underlying134 Try.underlying135 Try.underlying136 Try.underlying137 Try.underlying138 Try.underlying139 Try.underlying140 Try.underlying141 Try.underlying142 Try.underlying143 Try.underlying144 Try.underlying145 Try.underlying146 Try.underlying147 Try.underlying148 Try.underlying149 Try.underlying150 Try.underlying151 Try.underlying152 Try.underlying153 Try.underlying154 Try.underlying155 Try.underlying156 Try.underlying157 Try.underlying158 Try.underlying159 Try.underlying160 Try.underlying161 Try.underlying162 Try.underlying163 Try.underlying164 Try.underlying165 Try.underlying166 Try.underlying167 Try.underlying168 Try.underlying169 Try.underlying170 Try.underlying171 Try.underlying172 Try.underlying173 Try.underlying174 Try.underlying175 Try.underlying176 Try.underlying177 Try.underlying178 Try.underlying179 Try.underlying180
end Go.Ab.Ty
set_option maxHeartbeats 4000000
namespace Go.Ab
open Go Go.Ab Go.Proofs Go.Ab.Ty

/-! ### types and nodes -/
abbrev str (s : ByteArray) : AV := .base (.string s)
inductive Tp | mk (kind : Int) (name : ByteArray) (n : Int) (args : List Tp)
mutual
def encT : Tp → AV
  | .mk k s n l => .agg [.int k, str s, .int n, .lst (encTs l)]
def encTs : List Tp → List AV
  | [] => []
  | r :: l => encT r :: encTs l
end
theorem encTs_map : ∀ l : List Tp, encTs l = l.map encT
  | [] => rfl
  | r :: l => by rw [encTs, encTs_map l]; rfl
theorem encT_mk (k : Int) (s : ByteArray) (n : Int) (l : List Tp) : encT (.mk k s n l) = .agg [.int k, str s, .int n, .lst (l.map encT)] := by
  rw [encT, encTs_map]
theorem Tp.ind {p : Tp → Prop} (h : ∀ k s n l, (∀ x ∈ l, p x) → p (.mk k s n l)) : ∀ r, p r
  | .mk k s n l => h k s n l fun x hx => Tp.ind h x
inductive Tp.ok : Tp → Prop
  | mk (k : Int) (s : ByteArray) (n : Int) (l : List Tp) (hs : s.size ≤ maxLen) (hn : l.length ≤ maxLen) (hl : ∀ x ∈ l, Tp.ok x) : Tp.ok (.mk k s n l)
theorem tok_sub {k : Int} {s : ByteArray} {n : Int} {l : List Tp} (h : (Tp.mk k s n l).ok) : s.size ≤ maxLen ∧ l.length ≤ maxLen ∧ ∀ x ∈ l, x.ok := by
  cases h with | mk _ _ _ _ h1 h2 h3 => exact ⟨h1, h2, h3⟩
inductive Nd | mk (op : Int) (s : ByteArray) (n : Int) (tk : Int) (tm : ByteArray) (tn : Int) (ta : List Tp) (ts : List Tp) (l : List Nd) (at' : Int)
mutual
def encN : Nd → AV
  | .mk o s n tk tm tn ta ts l a => .agg [.int o, str s, .int n, .int tk, str tm, .int tn, .lst (ta.map encT), .lst (ts.map encT), .lst (encNs l), .int a]
def encNs : List Nd → List AV
  | [] => []
  | r :: l => encN r :: encNs l
end
theorem encNs_map : ∀ l : List Nd, encNs l = l.map encN
  | [] => rfl
  | r :: l => by rw [encNs, encNs_map l]; rfl
theorem encN_mk (o : Int) (s : ByteArray) (n : Int) (tk : Int) (tm : ByteArray) (tn : Int) (ta ts : List Tp) (l : List Nd) (a : Int) : encN (.mk o s n tk tm tn ta ts l a) = .agg [.int o, str s, .int n, .int tk, str tm, .int tn, .lst (ta.map encT), .lst (ts.map encT), .lst (l.map encN), .int a] := by
  rw [encN, encNs_map]
theorem Nd.ind {p : Nd → Prop} (h : ∀ o s n tk tm tn ta ts l a, (∀ x ∈ l, p x) → p (.mk o s n tk tm tn ta ts l a)) : ∀ r, p r
  | .mk o s n tk tm tn ta ts l a => h o s n tk tm tn ta ts l a fun x hx => Nd.ind h x
inductive Nd.ok : Nd → Prop
  | mk (o : Int) (s : ByteArray) (n tk : Int) (tm : ByteArray) (tn : Int) (ta ts : List Tp) (l : List Nd) (a : Int) (hs : s.size ≤ maxLen) (ht : (Tp.mk tk tm tn ta).ok) (hts : ts.length ≤ maxLen) (htl : ∀ x ∈ ts, x.ok) (hn : l.length ≤ maxLen) (hl : ∀ x ∈ l, Nd.ok x) : Nd.ok (.mk o s n tk tm tn ta ts l a)
theorem nok_sub {o : Int} {s : ByteArray} {n tk : Int} {tm : ByteArray} {tn : Int} {ta ts : List Tp} {l : List Nd} {a : Int} (h : (Nd.mk o s n tk tm tn ta ts l a).ok) :
    s.size ≤ maxLen ∧ (Tp.mk tk tm tn ta).ok ∧ ts.length ≤ maxLen ∧ (∀ x ∈ ts, x.ok) ∧ l.length ≤ maxLen ∧ ∀ x ∈ l, x.ok := by
  cases h with | mk _ _ _ _ _ _ _ _ _ _ h1 h2 h3 h4 h5 h6 => exact ⟨h1, h2, h3, h4, h5, h6⟩
@[simp] theorem Pu_T (r : Tp) : ∀ c ∈ (encT r).cells, Pu c := by
  induction r using Tp.ind with
  | h k s n l ih =>
  rw [encT_mk]
  intro c hc
  simp only [AV.cells, List.mem_cons, List.not_mem_nil, or_false] at hc
  rcases hc with rfl | rfl | rfl | rfl
  · exact .base _
  · exact .base _
  · exact .base _
  · exact .lst fun e he c hc => by
      obtain ⟨x, hx, rfl⟩ := List.mem_map.1 he
      exact ih x hx c hc
theorem Pu_mapT (l : List Tp) : Pu (.lst (l.map encT)) := .lst fun e he c hc => by
  obtain ⟨x, _, rfl⟩ := List.mem_map.1 he
  exact Pu_T x c hc
theorem Pu_cN (r : Nd) : ∀ c ∈ (encN r).cells, Pu c := by
  induction r using Nd.ind with
  | h o s n tk tm tn ta ts l a ih =>
  rw [encN_mk]
  intro c hc
  simp only [AV.cells, List.mem_cons, List.not_mem_nil, or_false] at hc
  rcases hc with rfl | rfl | rfl | rfl | rfl | rfl | rfl | rfl | rfl | rfl
  · exact .base _
  · exact .base _
  · exact .base _
  · exact .base _
  · exact .base _
  · exact .base _
  · exact Pu_mapT ta
  · exact Pu_mapT ts
  · exact .lst fun e he c hc => by
      obtain ⟨x, hx, rfl⟩ := List.mem_map.1 he
      exact ih x hx c hc
  · exact .base _
@[simp] theorem Pu_mapN (l : List Nd) : Pu (.lst (l.map encN)) := .lst fun e he c hc => by
  obtain ⟨x, _, rfl⟩ := List.mem_map.1 he
  exact Pu_cN x c hc
@[simp] theorem Pu_N (o : Int) (s : ByteArray) (n tk : Int) (tm : ByteArray) (tn : Int) (ta ts : List Tp) (l : List Nd) (a : Int) : Pu (.agg [.int o, str s, .int n, .int tk, str tm, .int tn, .lst (ta.map encT), .lst (ts.map encT), .lst (l.map encN), .int a]) := by
  have := Pu_cN (.mk o s n tk tm tn ta ts l a)
  rw [encN_mk] at this
  exact .agg this
@[simp] theorem Pu_Tm (k : Int) (s : ByteArray) (n : Int) (l : List Tp) : Pu (.agg [.int k, str s, .int n, .lst (l.map encT)]) := by
  have := Pu_T (.mk k s n l)
  rw [encT_mk] at this
  exact .agg this
/-! ### as they are read -/
theorem sh3 {f : Nat} {xs : List AV} (h : Sh Try.prog f 3 xs) : ∃ n, xs = [.int n] := by
  cases f with
  | zero => exact h.elim
  | succ f =>
    simp only [Sh, Try.underlying3] at h
    obtain ⟨n, h, _⟩ := h
    exact ⟨n, h⟩
theorem sh9 {f : Nat} {xs : List AV} (h : Sh Try.prog f 9 xs) : ∃ s : ByteArray, xs = [str s] ∧ s.size ≤ maxLen := by
  cases f with
  | zero => exact h.elim
  | succ f =>
    simp only [Sh, Try.underlying9] at h
    obtain ⟨s, h1, h2⟩ := h
    exact ⟨s, h1, h2⟩
theorem all_encP {α : Type} {Q : List AV → Prop} {R : α → Prop} {f : α → AV} {g : List AV → AV} {parts : List (List AV)} (h : ∀ p ∈ parts, Q p) (hq : ∀ p, Q p → ∃ x, g p = f x ∧ R x) : ∃ l : List α, parts.map g = l.map f ∧ ∀ x ∈ l, R x := by
  induction parts with
  | nil => exact ⟨[], rfl, by simp⟩
  | cons p ps ih =>
    obtain ⟨l, hl, hr⟩ := ih fun q hq' => h q (by simp [hq'])
    obtain ⟨x, hx, hx'⟩ := hq p (h p (by simp))
    exact ⟨x :: l, by simp [hl, hx], by simpa using ⟨hx', hr⟩⟩
theorem shT (n : Nat) : ∀ f : Nat, f < n → ∀ {p : List AV}, Sh Try.prog f 25 p → ∃ r : Tp, AV.agg p = encT r ∧ r.ok := by
  induction n with
  | zero => intro f hf; omega
  | succ n ih =>
    intro f hf p h
    cases f with
    | zero => exact h.elim
    | succ f =>
    simp only [Sh, Try.underlying25] at h
    obtain ⟨parts, hlen, rfl, h⟩ := h
    match parts, hlen, h with
    | [p0, p1, p2, p3], _, h =>
      obtain ⟨o, rfl⟩ := sh3 (h 0 _ p0 rfl rfl).2
      obtain ⟨s, rfl, hs⟩ := sh9 (h 1 _ p1 rfl rfl).2
      obtain ⟨m, rfl⟩ := sh3 (h 2 _ p2 rfl rfl).2
      have h2 : Sh Try.prog f 23 p3 := (h 3 _ p3 rfl rfl).2
      cases f with
      | zero => exact h2.elim
      | succ g =>
        simp only [Sh, Try.underlying23] at h2
        have ⟨parts, e, hn, h3⟩ := h2; clear h2; subst e
        obtain ⟨l, hl, hr⟩ := all_encP (f := encT) (R := Tp.ok) (g := mkEl (aggTy Try.prog 25 == some true)) h3 fun p hp => by
          obtain ⟨r, h1, h2⟩ := ih g (by omega) hp.2
          refine ⟨r, ?_, h2⟩
          rw [agg25]; exact h1
        exact ⟨.mk o s m l, by rw [encT_mk, hl]; rfl, .mk o s m l hs (by have := congrArg List.length hl; rw [List.length_map, List.length_map] at this; rw [← this]; exact hn) hr⟩
theorem shTs {f : Nat} {p : List AV} (h : Sh Try.prog f 23 p) : ∃ l : List Tp, p = [.lst (l.map encT)] ∧ l.length ≤ maxLen ∧ ∀ x ∈ l, x.ok := by
  cases f with
  | zero => exact h.elim
  | succ g =>
    simp only [Sh, Try.underlying23] at h
    have ⟨parts, e, hn, h3⟩ := h; clear h; subst e
    obtain ⟨l, hl, hr⟩ := all_encP (f := encT) (R := Tp.ok) (g := mkEl (aggTy Try.prog 25 == some true)) h3 fun p hp => by
      obtain ⟨r, h1, h2⟩ := shT (g + 1) g (Nat.lt_succ_self _) hp.2
      refine ⟨r, ?_, h2⟩
      rw [agg25]; exact h1
    exact ⟨l, by rw [hl], by have := congrArg List.length hl; rw [List.length_map, List.length_map] at this; rw [← this]; exact hn, hr⟩
theorem shNd (n : Nat) : ∀ f : Nat, f < n → ∀ {p : List AV}, Sh Try.prog f 27 p → ∃ r : Nd, AV.agg p = encN r ∧ r.ok := by
  induction n with
  | zero => intro f hf; omega
  | succ n ih =>
    intro f hf p h
    cases f with
    | zero => exact h.elim
    | succ f =>
    simp only [Sh, Try.underlying27] at h
    obtain ⟨parts, hlen, rfl, h⟩ := h
    match parts, hlen, h with
    | [p0, p1, p2, p3, p4, p5, p6], _, h =>
      obtain ⟨o, rfl⟩ := sh3 (h 0 _ p0 rfl rfl).2
      obtain ⟨s, rfl, hs⟩ := sh9 (h 1 _ p1 rfl rfl).2
      obtain ⟨m, rfl⟩ := sh3 (h 2 _ p2 rfl rfl).2
      obtain ⟨t, ht, hto⟩ := shT (f + 1) f (Nat.lt_succ_self _) (show Sh Try.prog f 25 p3 from (h 3 _ p3 rfl rfl).2)
      obtain ⟨ts, rfl, hts, htl⟩ := shTs (show Sh Try.prog f 23 p4 from (h 4 _ p4 rfl rfl).2)
      have h2 : Sh Try.prog f 22 p5 := (h 5 _ p5 rfl rfl).2
      obtain ⟨a, rfl⟩ := sh3 (h 6 _ p6 rfl rfl).2
      obtain ⟨tk, tm, tn, ta⟩ := t
      rw [encT_mk] at ht
      injection ht with ht
      subst ht
      cases f with
      | zero => exact h2.elim
      | succ g =>
        simp only [Sh, Try.underlying22] at h2
        have ⟨parts, e, hn, h3⟩ := h2; clear h2; subst e
        obtain ⟨l, hl, hr⟩ := all_encP (f := encN) (R := Nd.ok) (g := mkEl (aggTy Try.prog 27 == some true)) h3 fun p hp => by
          obtain ⟨r, h1, h2⟩ := ih g (by omega) hp.2
          refine ⟨r, ?_, h2⟩
          rw [agg27]; exact h1
        exact ⟨.mk o s m tk tm tn ta ts l a, by rw [encN_mk, hl]; rfl, .mk o s m tk tm tn ta ts l a hs hto hts htl (by have := congrArg List.length hl; rw [List.length_map, List.length_map] at this; rw [← this]; exact hn) hr⟩
theorem shN {a : AV} (h : ShV Try.prog 27 a) : ∃ r : Nd, a = encN r ∧ r.ok := by
  unfold ShV at h
  obtain ⟨fuel, q, h, hn, e⟩ := h
  have ⟨r, h1, h2⟩ := shNd (fuel + 1) fuel (Nat.lt_succ_self _) h
  exact ⟨r, by rw [e, agg27]; exact h1, h2⟩
end Go.Ab
set_option maxHeartbeats 4000000
namespace Go.Ab
open Go Go.Ab Go.Proofs Go.Ab.Ty

/-! ### matching, apart, sizes (plain) -/
def Nd.op : Nd → Int | .mk o _ _ _ _ _ _ _ _ _ => o
def Nd.s : Nd → ByteArray | .mk _ s _ _ _ _ _ _ _ _ => s
def Nd.n : Nd → Int | .mk _ _ n _ _ _ _ _ _ _ => n
def Nd.l : Nd → List Nd | .mk _ _ _ _ _ _ _ _ l _ => l
def wldO (o : Int) : Prop := o = 40 ∨ o = 41
instance (o : Int) : Decidable (wldO o) := by unfold wldO; infer_instance
def hdO (o : Int) : Prop := o = 42 ∨ o = 43 ∨ o = 44 ∨ o = 45
instance (o : Int) : Decidable (hdO o) := by unfold hdO; infer_instance
def samH (o : Int) (s : ByteArray) (n : Int) (o' : Int) (s' : ByteArray) (n' : Int) : Prop := ((o = 42 ∨ o = 43) ∧ o = o' ∧ n = n') ∨ ((o = 44 ∨ o = 45) ∧ o = o' ∧ s = s')
instance (o : Int) (s : ByteArray) (n : Int) (o' : Int) (s' : ByteArray) (n' : Int) : Decidable (samH o s n o' s' n') := by unfold samH; infer_instance
theorem samH_comm {o : Int} {s : ByteArray} {n : Int} {o' : Int} {s' : ByteArray} {n' : Int} : samH o s n o' s' n' ↔ samH o' s' n' o s n := by
  unfold samH
  constructor
  · rintro (⟨h1, rfl, rfl⟩ | ⟨h1, rfl, rfl⟩)
    · exact .inl ⟨h1, rfl, rfl⟩
    · exact .inr ⟨h1, rfl, rfl⟩
  · rintro (⟨h1, rfl, rfl⟩ | ⟨h1, rfl, rfl⟩)
    · exact .inl ⟨h1, rfl, rfl⟩
    · exact .inr ⟨h1, rfl, rfl⟩
mutual
def mtc : Nd → Nd → Bool
  | .mk o s n _ _ _ _ _ l _, v => if wldO o then true else if samH o s n v.op v.s v.n then (if o = 45 then mtcs l v.l else true) else false
def mtcs : List Nd → List Nd → Bool
  | [], [] => true
  | x :: l, y :: m => mtc x y && mtcs l m
  | [], _ :: _ => false
  | _ :: _, [] => false
end
mutual
def apt : Nd → Nd → Bool
  | .mk o s n _ _ _ _ _ l _, b => if hdO o ∧ hdO b.op then (if samH o s n b.op b.s b.n then (if o = 45 then apts l b.l else false) else true) else false
def apts : List Nd → List Nd → Bool
  | [], [] => false
  | x :: l, y :: m => apt x y || apts l m
  | [], _ :: _ => false
  | _ :: _, [] => false
end
theorem mtcs_iff : ∀ (l m : List Nd), mtcs l m = true ↔ l.length = m.length ∧ ∀ i (h : i < l.length) (h' : i < m.length), mtc l[i] m[i] = true
  | [], [] => by simp [mtcs]
  | [], y :: m => by simp [mtcs]
  | x :: l, [] => by simp [mtcs]
  | x :: l, y :: m => by
    rw [mtcs, Bool.and_eq_true, mtcs_iff l m]
    constructor
    · rintro ⟨h1, h2, h3⟩
      refine ⟨by simp [h2], fun i h h' => ?_⟩
      cases i with
      | zero => exact h1
      | succ i => exact h3 i (by simpa using h) (by simpa using h')
    · rintro ⟨h1, h2⟩
      refine ⟨h2 0 (by simp) (by simp), by simpa using h1, fun i h h' => ?_⟩
      have := h2 (i + 1) (by simpa using h) (by simpa using h')
      simpa using this
theorem apts_iff : ∀ (l m : List Nd), apts l m = true ↔ ∃ i, ∃ (h : i < l.length) (h' : i < m.length), apt l[i] m[i] = true
  | [], [] => by simp [apts]
  | [], y :: m => by simp [apts]
  | x :: l, [] => by simp [apts]
  | x :: l, y :: m => by
    rw [apts, Bool.or_eq_true, apts_iff l m]
    constructor
    · rintro (h1 | ⟨i, h, h', h3⟩)
      · exact ⟨0, by simp, by simp, h1⟩
      · exact ⟨i + 1, by simpa using h, by simpa using h', by simpa using h3⟩
    · rintro ⟨i, h, h', h3⟩
      cases i with
      | zero => exact .inl h3
      | succ i => exact .inr ⟨i, by simpa using h, by simpa using h', by simpa using h3⟩
theorem apt_mk (o : Int) (s : ByteArray) (n tk : Int) (tm : ByteArray) (tn : Int) (ta ts : List Tp) (l : List Nd) (a : Int) (o' : Int) (s' : ByteArray) (n' tk' : Int) (tm' : ByteArray) (tn' : Int) (ta' ts' : List Tp) (l' : List Nd) (a' : Int) :
    apt (.mk o s n tk tm tn ta ts l a) (.mk o' s' n' tk' tm' tn' ta' ts' l' a') = if hdO o ∧ hdO o' then (if samH o s n o' s' n' then (if o = 45 then apts l l' else false) else true) else false := by rw [apt]; rfl
theorem mtc_mk (o : Int) (s : ByteArray) (n tk : Int) (tm : ByteArray) (tn : Int) (ta ts : List Tp) (l : List Nd) (a : Int) (o' : Int) (s' : ByteArray) (n' tk' : Int) (tm' : ByteArray) (tn' : Int) (ta' ts' : List Tp) (l' : List Nd) (a' : Int) :
    mtc (.mk o s n tk tm tn ta ts l a) (.mk o' s' n' tk' tm' tn' ta' ts' l' a') = if wldO o then true else if samH o s n o' s' n' then (if o = 45 then mtcs l l' else true) else false := by rw [mtc]; rfl
theorem apt_comm (a : Nd) : ∀ b, apt a b = apt b a := by
  induction a using Nd.ind with
  | h o s n tk tm tn ta ts l a ih =>
  rintro ⟨o', s', n', tk', tm', tn', ta', ts', l', a'⟩
  rw [apt_mk, apt_mk]
  by_cases h1 : hdO o ∧ hdO o'
  · rw [if_pos h1, if_pos h1.symm]
    by_cases h2 : samH o s n o' s' n'
    · rw [if_pos h2, if_pos (samH_comm.1 h2)]
      have ho : o = o' := by rcases h2 with ⟨_, h, _⟩ | ⟨_, h, _⟩ <;> exact h
      subst ho
      by_cases h3 : o = 45
      · rw [if_pos h3, if_pos h3, Bool.eq_iff_iff, apts_iff, apts_iff]
        constructor
        · rintro ⟨i, h, h', h4⟩
          exact ⟨i, h', h, by rw [← ih _ (List.getElem_mem h)]; exact h4⟩
        · rintro ⟨i, h, h', h4⟩
          exact ⟨i, h', h, by rw [ih _ (List.getElem_mem h')]; exact h4⟩
      · rw [if_neg h3, if_neg h3]
    · rw [if_neg h2, if_neg fun h => h2 (samH_comm.1 h)]
  · rw [if_neg h1, if_neg fun h => h1 h.symm]
theorem mtc_apt (a : Nd) : ∀ b, mtc a b = true → apt a b = false := by
  induction a using Nd.ind with
  | h o s n tk tm tn ta ts l a ih =>
  intro b
  rw [mtc, apt]
  by_cases h0 : wldO o
  · intro _
    rw [if_neg]
    rintro ⟨h1, _⟩
    unfold wldO at h0; unfold hdO at h1; omega
  rw [if_neg h0]
  by_cases h2 : samH o s n b.op b.s b.n
  · rw [if_pos h2, if_pos h2]
    by_cases h3 : o = 45
    · rw [if_pos h3, if_pos h3]
      intro h4
      split
      · rw [Bool.eq_false_iff]
        intro h5
        obtain ⟨i, h, h', h6⟩ := (apts_iff _ _).1 h5
        have := ih _ (List.getElem_mem h) _ (((mtcs_iff _ _).1 h4).2 i h h')
        rw [this] at h6; cases h6
      · rfl
    · rw [if_neg h3]; intro _; split <;> rfl
  · rw [if_neg h2]; intro h; cases h
/-! ### sizes -/
mutual
def Tp.cnt : Tp → Nat
  | .mk _ _ _ l => 1 + tcnts l
def tcnts : List Tp → Nat
  | [] => 0
  | x :: l => x.cnt + tcnts l
end
mutual
def Nd.cnt : Nd → Nat
  | .mk _ s _ _ _ _ ta ts l _ => 1 + s.size / 16 + tcnts ts + tcnts ta + ncnts l
def ncnts : List Nd → Nat
  | [] => 0
  | x :: l => x.cnt + ncnts l
end
section
variable {α : Type}
def capS (f : α → Nat) (m : Nat) : List α → Nat → Nat
  | [], _ => 0
  | _, 0 => 0
  | r :: l, k + 1 => min (f r) m + capS f m l k
def sumS (f : α → Nat) : List α → Nat
  | [] => 0
  | r :: l => f r + sumS f l
theorem capS_zero (f : α → Nat) (m : Nat) (l : List α) : capS f m l 0 = 0 := by cases l <;> rfl
theorem capS_succ {f : α → Nat} {m : Nat} {l : List α} {k : Nat} (h : k < l.length) : capS f m l (k + 1) = capS f m l k + min (f l[k]) m := by
  induction l generalizing k with
  | nil => simp at h
  | cons r l ih =>
    cases k with
    | zero => simp [capS, capS_zero]
    | succ k =>
      have := ih (k := k) (by simpa using h)
      simp only [capS, List.getElem_cons_succ] at this ⊢
      omega
theorem capS_le (f : α → Nat) (m : Nat) (l : List α) (k : Nat) : capS f m l k ≤ sumS f l := by
  induction l generalizing k with
  | nil => simp [capS]
  | cons r l ih =>
    cases k with
    | zero => simp [capS]
    | succ k => have := ih k; simp only [capS, sumS]; omega
theorem capS_all {f : α → Nat} {m : Nat} {l : List α} (h : capS f m l l.length < m) : capS f m l l.length = sumS f l := by
  induction l with
  | nil => rfl
  | cons r l ih =>
    simp only [List.length_cons, capS, sumS] at h ⊢
    have := ih (by omega)
    omega
end
theorem tcnts_sum : ∀ l : List Tp, tcnts l = sumS Tp.cnt l
  | [] => rfl
  | r :: l => by rw [tcnts, sumS, tcnts_sum l]
theorem ncnts_sum : ∀ l : List Nd, ncnts l = sumS Nd.cnt l
  | [] => rfl
  | r :: l => by rw [ncnts, sumS, ncnts_sum l]
end Go.Ab
