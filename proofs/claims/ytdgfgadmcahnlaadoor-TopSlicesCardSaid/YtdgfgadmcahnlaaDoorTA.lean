/- Closed facts on the types of the program. Made by a program (gen_types.py). -/
import Derived.Test.YtdgfgadmcahnlaaDoorProg
import Derived.Lib.ValidU
import Derived.Test.YtdgfgadmcahnlaaDoorAbD
import Derived.Test.YtdgfgadmcahnlaaDoorAbK
set_option linter.unusedSimpArgs false
set_option linter.unusedVariables false
namespace Go.Ab.Ty
open Go Go.Ab Go.Proofs

theorem follows : Tryd.prog.follows .mixedOrders = true := by kernel_rfl
@[go_sem] theorem agg0 : aggTy Tryd.prog 0 = some false := by kernel_rfl
@[go_sem] theorem sz0 : szTy Tryd.prog 0 = some 1 := by kernel_rfl
@[go_sem] theorem agg1 : aggTy Tryd.prog 1 = some false := by kernel_rfl
@[go_sem] theorem sz1 : szTy Tryd.prog 1 = some 1 := by kernel_rfl
@[go_sem] theorem zero1 : zeroA Tryd.prog 1 = some (.base .nilFunc) := by kernel_rfl
@[go_sem] theorem el1 : elI Tryd.prog 1 1 8 = true := by kernel_rfl
@[go_sem] theorem agg2 : aggTy Tryd.prog 2 = some false := by kernel_rfl
@[go_sem] theorem sz2 : szTy Tryd.prog 2 = some 1 := by kernel_rfl
@[go_sem] theorem zero2 : zeroA Tryd.prog 2 = some (.base (.int .i64 (0))) := by kernel_rfl
@[go_sem] theorem el2 : elI Tryd.prog 2 1 8 = true := by kernel_rfl
@[go_sem] theorem agg3 : aggTy Tryd.prog 3 = some false := by kernel_rfl
@[go_sem] theorem sz3 : szTy Tryd.prog 3 = some 1 := by kernel_rfl
@[go_sem] theorem zero3 : zeroA Tryd.prog 3 = some (.base (.int .i64 (0))) := by kernel_rfl
@[go_sem] theorem el3 : elI Tryd.prog 3 1 8 = true := by kernel_rfl
@[go_sem] theorem agg4 : aggTy Tryd.prog 4 = some false := by kernel_rfl
@[go_sem] theorem sz4 : szTy Tryd.prog 4 = some 1 := by kernel_rfl
@[go_sem] theorem zero4 : zeroA Tryd.prog 4 = some (.base (.bool false)) := by kernel_rfl
@[go_sem] theorem el4 : elI Tryd.prog 4 1 1 = true := by kernel_rfl
@[go_sem] theorem agg5 : aggTy Tryd.prog 5 = some false := by kernel_rfl
@[go_sem] theorem sz5 : szTy Tryd.prog 5 = some 1 := by kernel_rfl
@[go_sem] theorem zero5 : zeroA Tryd.prog 5 = some (.base (.int .u8 (0))) := by kernel_rfl
@[go_sem] theorem el5 : elI Tryd.prog 5 1 1 = true := by kernel_rfl
@[go_sem] theorem agg6 : aggTy Tryd.prog 6 = some false := by kernel_rfl
@[go_sem] theorem sz6 : szTy Tryd.prog 6 = some 1 := by kernel_rfl
@[go_sem] theorem zero6 : zeroA Tryd.prog 6 = some (.base (.int .u8 (0))) := by kernel_rfl
@[go_sem] theorem el6 : elI Tryd.prog 6 1 1 = true := by kernel_rfl
@[go_sem] theorem agg7 : aggTy Tryd.prog 7 = some true := by kernel_rfl
@[go_sem] theorem sz7 : szTy Tryd.prog 7 = some 4 := by kernel_rfl
@[go_sem] theorem zero7 : zeroA Tryd.prog 7 = some (.agg [.base (.int .i64 (0)), .base (.int .i64 (0)), .base (.bool false), .base (.int .u8 (0))]) := by kernel_rfl
@[go_sem] theorem el7 : elI Tryd.prog 7 4 24 = true := by kernel_rfl
@[go_sem] theorem pl7 : placesOf Tryd.prog 7 = some [(0, 1), (1, 1), (2, 1), (3, 1)] := by kernel_rfl
@[go_sem] theorem off7_0 : fieldOff Tryd.prog 7 0 = some 0 := by kernel_rfl
@[go_sem] theorem off7_1 : fieldOff Tryd.prog 7 1 = some 1 := by kernel_rfl
@[go_sem] theorem off7_2 : fieldOff Tryd.prog 7 2 = some 2 := by kernel_rfl
@[go_sem] theorem off7_3 : fieldOff Tryd.prog 7 3 = some 3 := by kernel_rfl
@[go_sem] theorem agg8 : aggTy Tryd.prog 8 = some true := by kernel_rfl
@[go_sem] theorem sz8 : szTy Tryd.prog 8 = some 4 := by kernel_rfl
@[go_sem] theorem zero8 : zeroA Tryd.prog 8 = some (.agg [.base (.int .i64 (0)), .base (.int .i64 (0)), .base (.bool false), .base (.int .u8 (0))]) := by kernel_rfl
@[go_sem] theorem el8 : elI Tryd.prog 8 4 24 = true := by kernel_rfl
@[go_sem] theorem pl8 : placesOf Tryd.prog 8 = some [(0, 1), (1, 1), (2, 1), (3, 1)] := by kernel_rfl
@[go_sem] theorem off8_0 : fieldOff Tryd.prog 8 0 = some 0 := by kernel_rfl
@[go_sem] theorem off8_1 : fieldOff Tryd.prog 8 1 = some 1 := by kernel_rfl
@[go_sem] theorem off8_2 : fieldOff Tryd.prog 8 2 = some 2 := by kernel_rfl
@[go_sem] theorem off8_3 : fieldOff Tryd.prog 8 3 = some 3 := by kernel_rfl
@[go_sem] theorem agg9 : aggTy Tryd.prog 9 = some false := by kernel_rfl
@[go_sem] theorem sz9 : szTy Tryd.prog 9 = some 1 := by kernel_rfl
@[go_sem] theorem zero9 : zeroA Tryd.prog 9 = some (.base (.string ByteArray.empty)) := by kernel_rfl
@[go_sem] theorem el9 : elI Tryd.prog 9 1 16 = true := by kernel_rfl
@[go_sem] theorem agg10 : aggTy Tryd.prog 10 = some false := by kernel_rfl
@[go_sem] theorem sz10 : szTy Tryd.prog 10 = some 1 := by kernel_rfl
@[go_sem] theorem zero10 : zeroA Tryd.prog 10 = some (.base (.string ByteArray.empty)) := by kernel_rfl
@[go_sem] theorem el10 : elI Tryd.prog 10 1 16 = true := by kernel_rfl
@[go_sem] theorem agg11 : aggTy Tryd.prog 11 = some false := by kernel_rfl
@[go_sem] theorem sz11 : szTy Tryd.prog 11 = some 1 := by kernel_rfl
@[go_sem] theorem zero11 : zeroA Tryd.prog 11 = some (.base (.string ByteArray.empty)) := by kernel_rfl
@[go_sem] theorem el11 : elI Tryd.prog 11 1 16 = true := by kernel_rfl
@[go_sem] theorem agg12 : aggTy Tryd.prog 12 = some false := by kernel_rfl
@[go_sem] theorem sz12 : szTy Tryd.prog 12 = some 1 := by kernel_rfl
@[go_sem] theorem zero12 : zeroA Tryd.prog 12 = some (.base (.int .u64 (0))) := by kernel_rfl
@[go_sem] theorem el12 : elI Tryd.prog 12 1 8 = true := by kernel_rfl
@[go_sem] theorem agg13 : aggTy Tryd.prog 13 = some true := by kernel_rfl
@[go_sem] theorem sz13 : szTy Tryd.prog 13 = some 2 := by kernel_rfl
@[go_sem] theorem zero13 : zeroA Tryd.prog 13 = some (.agg [.base (.string ByteArray.empty), .base (.int .u64 (0))]) := by kernel_rfl
@[go_sem] theorem el13 : elI Tryd.prog 13 2 24 = true := by kernel_rfl
@[go_sem] theorem pl13 : placesOf Tryd.prog 13 = some [(0, 1), (1, 1)] := by kernel_rfl
@[go_sem] theorem off13_0 : fieldOff Tryd.prog 13 0 = some 0 := by kernel_rfl
@[go_sem] theorem off13_1 : fieldOff Tryd.prog 13 1 = some 1 := by kernel_rfl
@[go_sem] theorem agg14 : aggTy Tryd.prog 14 = some true := by kernel_rfl
@[go_sem] theorem sz14 : szTy Tryd.prog 14 = some 2 := by kernel_rfl
@[go_sem] theorem zero14 : zeroA Tryd.prog 14 = some (.agg [.base (.string ByteArray.empty), .base (.int .u64 (0))]) := by kernel_rfl
@[go_sem] theorem el14 : elI Tryd.prog 14 2 24 = true := by kernel_rfl
@[go_sem] theorem pl14 : placesOf Tryd.prog 14 = some [(0, 1), (1, 1)] := by kernel_rfl
@[go_sem] theorem off14_0 : fieldOff Tryd.prog 14 0 = some 0 := by kernel_rfl
@[go_sem] theorem off14_1 : fieldOff Tryd.prog 14 1 = some 1 := by kernel_rfl
@[go_sem] theorem agg15 : aggTy Tryd.prog 15 = some false := by kernel_rfl
@[go_sem] theorem sz15 : szTy Tryd.prog 15 = some 1 := by kernel_rfl
@[go_sem] theorem zero15 : zeroA Tryd.prog 15 = some (.base (.pointer none)) := by kernel_rfl
@[go_sem] theorem el15 : elI Tryd.prog 15 1 8 = true := by kernel_rfl
@[go_sem] theorem agg16 : aggTy Tryd.prog 16 = some false := by kernel_rfl
@[go_sem] theorem sz16 : szTy Tryd.prog 16 = some 1 := by kernel_rfl
@[go_sem] theorem zero16 : zeroA Tryd.prog 16 = some (.base (.pointer none)) := by kernel_rfl
@[go_sem] theorem el16 : elI Tryd.prog 16 1 8 = true := by kernel_rfl
@[go_sem] theorem agg17 : aggTy Tryd.prog 17 = some false := by kernel_rfl
@[go_sem] theorem sz17 : szTy Tryd.prog 17 = some 1 := by kernel_rfl
@[go_sem] theorem zero17 : zeroA Tryd.prog 17 = some (.base (.pointer none)) := by kernel_rfl
@[go_sem] theorem el17 : elI Tryd.prog 17 1 8 = true := by kernel_rfl
@[go_sem] theorem agg18 : aggTy Tryd.prog 18 = some true := by kernel_rfl
@[go_sem] theorem sz18 : szTy Tryd.prog 18 = some 1 := by kernel_rfl
@[go_sem] theorem zero18 : zeroA Tryd.prog 18 = some (.agg [.base (.pointer none)]) := by kernel_rfl
@[go_sem] theorem el18 : elI Tryd.prog 18 1 8 = true := by kernel_rfl
@[go_sem] theorem pl18 : placesOf Tryd.prog 18 = some [(0, 1)] := by kernel_rfl
@[go_sem] theorem off18_0 : fieldOff Tryd.prog 18 0 = some 0 := by kernel_rfl
@[go_sem] theorem agg19 : aggTy Tryd.prog 19 = some true := by kernel_rfl
@[go_sem] theorem sz19 : szTy Tryd.prog 19 = some 1 := by kernel_rfl
@[go_sem] theorem zero19 : zeroA Tryd.prog 19 = some (.agg [.base (.pointer none)]) := by kernel_rfl
@[go_sem] theorem el19 : elI Tryd.prog 19 1 8 = true := by kernel_rfl
@[go_sem] theorem pl19 : placesOf Tryd.prog 19 = some [(0, 1)] := by kernel_rfl
@[go_sem] theorem off19_0 : fieldOff Tryd.prog 19 0 = some 0 := by kernel_rfl
@[go_sem] theorem agg20 : aggTy Tryd.prog 20 = some false := by kernel_rfl
@[go_sem] theorem sz20 : szTy Tryd.prog 20 = some 1 := by kernel_rfl
@[go_sem] theorem zero20 : zeroA Tryd.prog 20 = some (.base .nilIface) := by kernel_rfl
@[go_sem] theorem el20 : elI Tryd.prog 20 1 16 = true := by kernel_rfl
@[go_sem] theorem agg21 : aggTy Tryd.prog 21 = some false := by kernel_rfl
@[go_sem] theorem sz21 : szTy Tryd.prog 21 = some 1 := by kernel_rfl
@[go_sem] theorem zero21 : zeroA Tryd.prog 21 = some (.base (.int .i32 (0))) := by kernel_rfl
@[go_sem] theorem el21 : elI Tryd.prog 21 1 4 = true := by kernel_rfl
@[go_sem] theorem agg22 : aggTy Tryd.prog 22 = some false := by kernel_rfl
@[go_sem] theorem sz22 : szTy Tryd.prog 22 = some 1 := by kernel_rfl
@[go_sem] theorem zero22 : zeroA Tryd.prog 22 = some (.base .nilFunc) := by kernel_rfl
@[go_sem] theorem el22 : elI Tryd.prog 22 1 8 = true := by kernel_rfl
@[go_sem] theorem agg23 : aggTy Tryd.prog 23 = some false := by kernel_rfl
@[go_sem] theorem sz23 : szTy Tryd.prog 23 = some 1 := by kernel_rfl
@[go_sem] theorem zero23 : zeroA Tryd.prog 23 = some (.base .nilFunc) := by kernel_rfl
@[go_sem] theorem el23 : elI Tryd.prog 23 1 8 = true := by kernel_rfl
@[go_sem] theorem agg24 : aggTy Tryd.prog 24 = some false := by kernel_rfl
@[go_sem] theorem sz24 : szTy Tryd.prog 24 = some 1 := by kernel_rfl
@[go_sem] theorem zero24 : zeroA Tryd.prog 24 = some (.base .nilFunc) := by kernel_rfl
@[go_sem] theorem el24 : elI Tryd.prog 24 1 8 = true := by kernel_rfl
@[go_sem] theorem agg25 : aggTy Tryd.prog 25 = some false := by kernel_rfl
@[go_sem] theorem sz25 : szTy Tryd.prog 25 = some 1 := by kernel_rfl
@[go_sem] theorem zero25 : zeroA Tryd.prog 25 = some (.base (.slice none 0 0)) := by kernel_rfl
@[go_sem] theorem el25 : elI Tryd.prog 25 1 24 = true := by kernel_rfl
@[go_sem] theorem agg26 : aggTy Tryd.prog 26 = some false := by kernel_rfl
@[go_sem] theorem sz26 : szTy Tryd.prog 26 = some 1 := by kernel_rfl
@[go_sem] theorem zero26 : zeroA Tryd.prog 26 = some (.base (.int .i64 (0))) := by kernel_rfl
@[go_sem] theorem el26 : elI Tryd.prog 26 1 8 = true := by kernel_rfl
@[go_sem] theorem agg27 : aggTy Tryd.prog 27 = some false := by kernel_rfl
@[go_sem] theorem sz27 : szTy Tryd.prog 27 = some 1 := by kernel_rfl
@[go_sem] theorem agg28 : aggTy Tryd.prog 28 = some false := by kernel_rfl
@[go_sem] theorem sz28 : szTy Tryd.prog 28 = some 1 := by kernel_rfl
@[go_sem] theorem zero28 : zeroA Tryd.prog 28 = some (.base .nilFunc) := by kernel_rfl
@[go_sem] theorem el28 : elI Tryd.prog 28 1 8 = true := by kernel_rfl
@[go_sem] theorem agg29 : aggTy Tryd.prog 29 = some false := by kernel_rfl
@[go_sem] theorem sz29 : szTy Tryd.prog 29 = some 1 := by kernel_rfl
@[go_sem] theorem agg30 : aggTy Tryd.prog 30 = some false := by kernel_rfl
@[go_sem] theorem sz30 : szTy Tryd.prog 30 = some 1 := by kernel_rfl
@[go_sem] theorem zero30 : zeroA Tryd.prog 30 = some (.base .nilFunc) := by kernel_rfl
@[go_sem] theorem el30 : elI Tryd.prog 30 1 8 = true := by kernel_rfl
@[go_sem] theorem agg31 : aggTy Tryd.prog 31 = some false := by kernel_rfl
@[go_sem] theorem sz31 : szTy Tryd.prog 31 = some 1 := by kernel_rfl
@[go_sem] theorem agg32 : aggTy Tryd.prog 32 = some false := by kernel_rfl
@[go_sem] theorem sz32 : szTy Tryd.prog 32 = some 1 := by kernel_rfl
@[go_sem] theorem zero32 : zeroA Tryd.prog 32 = some (.base .nilFunc) := by kernel_rfl
@[go_sem] theorem el32 : elI Tryd.prog 32 1 8 = true := by kernel_rfl
@[go_sem] theorem agg33 : aggTy Tryd.prog 33 = some false := by kernel_rfl
@[go_sem] theorem sz33 : szTy Tryd.prog 33 = some 1 := by kernel_rfl
@[go_sem] theorem zero33 : zeroA Tryd.prog 33 = some (.base .nilFunc) := by kernel_rfl
@[go_sem] theorem el33 : elI Tryd.prog 33 1 8 = true := by kernel_rfl
@[go_sem] theorem agg34 : aggTy Tryd.prog 34 = some false := by kernel_rfl
@[go_sem] theorem sz34 : szTy Tryd.prog 34 = some 1 := by kernel_rfl
@[go_sem] theorem agg35 : aggTy Tryd.prog 35 = some false := by kernel_rfl
@[go_sem] theorem sz35 : szTy Tryd.prog 35 = some 1 := by kernel_rfl
@[go_sem] theorem zero35 : zeroA Tryd.prog 35 = some (.base .nilFunc) := by kernel_rfl
@[go_sem] theorem el35 : elI Tryd.prog 35 1 8 = true := by kernel_rfl
@[go_sem] theorem agg36 : aggTy Tryd.prog 36 = some false := by kernel_rfl
@[go_sem] theorem sz36 : szTy Tryd.prog 36 = some 1 := by kernel_rfl
@[go_sem] theorem zero36 : zeroA Tryd.prog 36 = some (.base .nilFunc) := by kernel_rfl
@[go_sem] theorem el36 : elI Tryd.prog 36 1 8 = true := by kernel_rfl
@[go_sem] theorem agg37 : aggTy Tryd.prog 37 = some false := by kernel_rfl
@[go_sem] theorem sz37 : szTy Tryd.prog 37 = some 1 := by kernel_rfl
@[go_sem] theorem zero37 : zeroA Tryd.prog 37 = some (.base (.slice none 0 0)) := by kernel_rfl
@[go_sem] theorem el37 : elI Tryd.prog 37 1 24 = true := by kernel_rfl
@[go_sem] theorem agg38 : aggTy Tryd.prog 38 = some false := by kernel_rfl
@[go_sem] theorem sz38 : szTy Tryd.prog 38 = some 1 := by kernel_rfl
@[go_sem] theorem agg39 : aggTy Tryd.prog 39 = some false := by kernel_rfl
@[go_sem] theorem sz39 : szTy Tryd.prog 39 = some 1 := by kernel_rfl
@[go_sem] theorem zero39 : zeroA Tryd.prog 39 = some (.base .nilFunc) := by kernel_rfl
@[go_sem] theorem el39 : elI Tryd.prog 39 1 8 = true := by kernel_rfl
@[go_sem] theorem agg40 : aggTy Tryd.prog 40 = some false := by kernel_rfl
@[go_sem] theorem sz40 : szTy Tryd.prog 40 = some 1 := by kernel_rfl
@[go_sem] theorem zero40 : zeroA Tryd.prog 40 = some (.base .nilFunc) := by kernel_rfl
@[go_sem] theorem el40 : elI Tryd.prog 40 1 8 = true := by kernel_rfl
@[go_sem] theorem agg41 : aggTy Tryd.prog 41 = some false := by kernel_rfl
@[go_sem] theorem sz41 : szTy Tryd.prog 41 = some 1 := by kernel_rfl
@[go_sem] theorem zero41 : zeroA Tryd.prog 41 = some (.base .nilFunc) := by kernel_rfl
@[go_sem] theorem el41 : elI Tryd.prog 41 1 8 = true := by kernel_rfl
@[go_sem] theorem agg42 : aggTy Tryd.prog 42 = some false := by kernel_rfl
@[go_sem] theorem sz42 : szTy Tryd.prog 42 = some 1 := by kernel_rfl
@[go_sem] theorem zero42 : zeroA Tryd.prog 42 = some (.base .nilFunc) := by kernel_rfl
@[go_sem] theorem el42 : elI Tryd.prog 42 1 8 = true := by kernel_rfl
@[go_sem] theorem agg43 : aggTy Tryd.prog 43 = some false := by kernel_rfl
@[go_sem] theorem sz43 : szTy Tryd.prog 43 = some 1 := by kernel_rfl
@[go_sem] theorem zero43 : zeroA Tryd.prog 43 = some (.base .nilFunc) := by kernel_rfl
@[go_sem] theorem el43 : elI Tryd.prog 43 1 8 = true := by kernel_rfl
@[go_sem] theorem agg44 : aggTy Tryd.prog 44 = some false := by kernel_rfl
@[go_sem] theorem sz44 : szTy Tryd.prog 44 = some 1 := by kernel_rfl
@[go_sem] theorem zero44 : zeroA Tryd.prog 44 = some (.base .nilFunc) := by kernel_rfl
@[go_sem] theorem el44 : elI Tryd.prog 44 1 8 = true := by kernel_rfl
@[go_sem] theorem agg45 : aggTy Tryd.prog 45 = some false := by kernel_rfl
@[go_sem] theorem sz45 : szTy Tryd.prog 45 = some 1 := by kernel_rfl
@[go_sem] theorem zero45 : zeroA Tryd.prog 45 = some (.base (.slice none 0 0)) := by kernel_rfl
@[go_sem] theorem el45 : elI Tryd.prog 45 1 24 = true := by kernel_rfl
@[go_sem] theorem agg46 : aggTy Tryd.prog 46 = some false := by kernel_rfl
@[go_sem] theorem sz46 : szTy Tryd.prog 46 = some 1 := by kernel_rfl
@[go_sem] theorem zero46 : zeroA Tryd.prog 46 = some (.base (.int .u16 (0))) := by kernel_rfl
@[go_sem] theorem el46 : elI Tryd.prog 46 1 2 = true := by kernel_rfl
@[go_sem] theorem agg47 : aggTy Tryd.prog 47 = some false := by kernel_rfl
@[go_sem] theorem sz47 : szTy Tryd.prog 47 = some 1 := by kernel_rfl
@[go_sem] theorem zero47 : zeroA Tryd.prog 47 = some (.base .nilFunc) := by kernel_rfl
@[go_sem] theorem el47 : elI Tryd.prog 47 1 8 = true := by kernel_rfl
@[go_sem] theorem agg48 : aggTy Tryd.prog 48 = some false := by kernel_rfl
@[go_sem] theorem sz48 : szTy Tryd.prog 48 = some 1 := by kernel_rfl
@[go_sem] theorem zero48 : zeroA Tryd.prog 48 = some (.base .nilFunc) := by kernel_rfl
@[go_sem] theorem el48 : elI Tryd.prog 48 1 8 = true := by kernel_rfl
@[go_sem] theorem agg49 : aggTy Tryd.prog 49 = some false := by kernel_rfl
@[go_sem] theorem sz49 : szTy Tryd.prog 49 = some 1 := by kernel_rfl
@[go_sem] theorem zero49 : zeroA Tryd.prog 49 = some (.base .nilFunc) := by kernel_rfl
@[go_sem] theorem el49 : elI Tryd.prog 49 1 8 = true := by kernel_rfl
@[go_sem] theorem agg50 : aggTy Tryd.prog 50 = some false := by kernel_rfl
@[go_sem] theorem sz50 : szTy Tryd.prog 50 = some 1 := by kernel_rfl
@[go_sem] theorem zero50 : zeroA Tryd.prog 50 = some (.base .nilFunc) := by kernel_rfl
@[go_sem] theorem el50 : elI Tryd.prog 50 1 8 = true := by kernel_rfl
@[go_sem] theorem agg51 : aggTy Tryd.prog 51 = some false := by kernel_rfl
@[go_sem] theorem sz51 : szTy Tryd.prog 51 = some 1 := by kernel_rfl
@[go_sem] theorem zero51 : zeroA Tryd.prog 51 = some (.base .nilFunc) := by kernel_rfl
@[go_sem] theorem el51 : elI Tryd.prog 51 1 8 = true := by kernel_rfl
@[go_sem] theorem agg52 : aggTy Tryd.prog 52 = some false := by kernel_rfl
@[go_sem] theorem sz52 : szTy Tryd.prog 52 = some 1 := by kernel_rfl
@[go_sem] theorem zero52 : zeroA Tryd.prog 52 = some (.base .nilFunc) := by kernel_rfl
@[go_sem] theorem el52 : elI Tryd.prog 52 1 8 = true := by kernel_rfl
@[go_sem] theorem agg53 : aggTy Tryd.prog 53 = some false := by kernel_rfl
@[go_sem] theorem sz53 : szTy Tryd.prog 53 = some 1 := by kernel_rfl
@[go_sem] theorem zero53 : zeroA Tryd.prog 53 = some (.base .nilFunc) := by kernel_rfl
@[go_sem] theorem el53 : elI Tryd.prog 53 1 8 = true := by kernel_rfl
@[go_sem] theorem agg54 : aggTy Tryd.prog 54 = some false := by kernel_rfl
@[go_sem] theorem sz54 : szTy Tryd.prog 54 = some 1 := by kernel_rfl
@[go_sem] theorem zero54 : zeroA Tryd.prog 54 = some (.base .nilFunc) := by kernel_rfl
@[go_sem] theorem el54 : elI Tryd.prog 54 1 8 = true := by kernel_rfl
@[go_sem] theorem agg55 : aggTy Tryd.prog 55 = some false := by kernel_rfl
@[go_sem] theorem sz55 : szTy Tryd.prog 55 = some 1 := by kernel_rfl
@[go_sem] theorem zero55 : zeroA Tryd.prog 55 = some (.base .nilFunc) := by kernel_rfl
@[go_sem] theorem el55 : elI Tryd.prog 55 1 8 = true := by kernel_rfl
@[go_sem] theorem agg56 : aggTy Tryd.prog 56 = some false := by kernel_rfl
@[go_sem] theorem sz56 : szTy Tryd.prog 56 = some 1 := by kernel_rfl
@[go_sem] theorem zero56 : zeroA Tryd.prog 56 = some (.base (.slice none 0 0)) := by kernel_rfl
@[go_sem] theorem el56 : elI Tryd.prog 56 1 24 = true := by kernel_rfl
@[go_sem] theorem agg57 : aggTy Tryd.prog 57 = some false := by kernel_rfl
@[go_sem] theorem sz57 : szTy Tryd.prog 57 = some 1 := by kernel_rfl
@[go_sem] theorem zero57 : zeroA Tryd.prog 57 = some (.base .nilFunc) := by kernel_rfl
@[go_sem] theorem el57 : elI Tryd.prog 57 1 8 = true := by kernel_rfl
@[go_sem] theorem agg58 : aggTy Tryd.prog 58 = some false := by kernel_rfl
@[go_sem] theorem sz58 : szTy Tryd.prog 58 = some 1 := by kernel_rfl
@[go_sem] theorem zero58 : zeroA Tryd.prog 58 = some (.base (.slice none 0 0)) := by kernel_rfl
@[go_sem] theorem el58 : elI Tryd.prog 58 1 24 = true := by kernel_rfl
@[go_sem] theorem agg59 : aggTy Tryd.prog 59 = some true := by kernel_rfl
@[go_sem] theorem sz59 : szTy Tryd.prog 59 = some 2 := by kernel_rfl
@[go_sem] theorem zero59 : zeroA Tryd.prog 59 = some (.agg [.base (.string ByteArray.empty), .base (.slice none 0 0)]) := by kernel_rfl
@[go_sem] theorem el59 : elI Tryd.prog 59 2 40 = true := by kernel_rfl
@[go_sem] theorem pl59 : placesOf Tryd.prog 59 = some [(0, 1), (1, 1)] := by kernel_rfl
@[go_sem] theorem off59_0 : fieldOff Tryd.prog 59 0 = some 0 := by kernel_rfl
@[go_sem] theorem off59_1 : fieldOff Tryd.prog 59 1 = some 1 := by kernel_rfl
@[go_sem] theorem agg60 : aggTy Tryd.prog 60 = some true := by kernel_rfl
@[go_sem] theorem sz60 : szTy Tryd.prog 60 = some 2 := by kernel_rfl
@[go_sem] theorem zero60 : zeroA Tryd.prog 60 = some (.agg [.base (.string ByteArray.empty), .base (.slice none 0 0)]) := by kernel_rfl
@[go_sem] theorem el60 : elI Tryd.prog 60 2 40 = true := by kernel_rfl
@[go_sem] theorem pl60 : placesOf Tryd.prog 60 = some [(0, 1), (1, 1)] := by kernel_rfl
@[go_sem] theorem off60_0 : fieldOff Tryd.prog 60 0 = some 0 := by kernel_rfl
@[go_sem] theorem off60_1 : fieldOff Tryd.prog 60 1 = some 1 := by kernel_rfl
@[go_sem] theorem agg61 : aggTy Tryd.prog 61 = some false := by kernel_rfl
@[go_sem] theorem sz61 : szTy Tryd.prog 61 = some 1 := by kernel_rfl
@[go_sem] theorem zero61 : zeroA Tryd.prog 61 = some (.base .nilFunc) := by kernel_rfl
@[go_sem] theorem el61 : elI Tryd.prog 61 1 8 = true := by kernel_rfl
@[go_sem] theorem agg62 : aggTy Tryd.prog 62 = some true := by kernel_rfl
@[go_sem] theorem sz62 : szTy Tryd.prog 62 = some 2 := by kernel_rfl
@[go_sem] theorem zero62 : zeroA Tryd.prog 62 = some (.agg [.base (.int .i32 (0)), .base (.int .i32 (0))]) := by kernel_rfl
@[go_sem] theorem el62 : elI Tryd.prog 62 2 8 = true := by kernel_rfl
@[go_sem] theorem pl62 : placesOf Tryd.prog 62 = some [(0, 1), (1, 1)] := by kernel_rfl
@[go_sem] theorem off62_0 : fieldOff Tryd.prog 62 0 = some 0 := by kernel_rfl
@[go_sem] theorem off62_1 : fieldOff Tryd.prog 62 1 = some 1 := by kernel_rfl
@[go_sem] theorem agg63 : aggTy Tryd.prog 63 = some true := by kernel_rfl
@[go_sem] theorem sz63 : szTy Tryd.prog 63 = some 2 := by kernel_rfl
@[go_sem] theorem zero63 : zeroA Tryd.prog 63 = some (.agg [.base (.int .i32 (0)), .base (.int .i32 (0))]) := by kernel_rfl
@[go_sem] theorem el63 : elI Tryd.prog 63 2 8 = true := by kernel_rfl
@[go_sem] theorem pl63 : placesOf Tryd.prog 63 = some [(0, 1), (1, 1)] := by kernel_rfl
@[go_sem] theorem off63_0 : fieldOff Tryd.prog 63 0 = some 0 := by kernel_rfl
@[go_sem] theorem off63_1 : fieldOff Tryd.prog 63 1 = some 1 := by kernel_rfl
@[go_sem] theorem agg64 : aggTy Tryd.prog 64 = some false := by kernel_rfl
@[go_sem] theorem sz64 : szTy Tryd.prog 64 = some 1 := by kernel_rfl
@[go_sem] theorem zero64 : zeroA Tryd.prog 64 = some (.base .nilFunc) := by kernel_rfl
@[go_sem] theorem el64 : elI Tryd.prog 64 1 8 = true := by kernel_rfl
@[go_sem] theorem agg65 : aggTy Tryd.prog 65 = some false := by kernel_rfl
@[go_sem] theorem sz65 : szTy Tryd.prog 65 = some 1 := by kernel_rfl
@[go_sem] theorem zero65 : zeroA Tryd.prog 65 = some (.base .nilFunc) := by kernel_rfl
@[go_sem] theorem el65 : elI Tryd.prog 65 1 8 = true := by kernel_rfl
@[go_sem] theorem agg66 : aggTy Tryd.prog 66 = some false := by kernel_rfl
@[go_sem] theorem sz66 : szTy Tryd.prog 66 = some 1 := by kernel_rfl
@[go_sem] theorem zero66 : zeroA Tryd.prog 66 = some (.base .nilFunc) := by kernel_rfl
@[go_sem] theorem el66 : elI Tryd.prog 66 1 8 = true := by kernel_rfl
@[go_sem] theorem agg67 : aggTy Tryd.prog 67 = some false := by kernel_rfl
@[go_sem] theorem sz67 : szTy Tryd.prog 67 = some 1 := by kernel_rfl
@[go_sem] theorem zero67 : zeroA Tryd.prog 67 = some (.base .nilFunc) := by kernel_rfl
@[go_sem] theorem el67 : elI Tryd.prog 67 1 8 = true := by kernel_rfl
@[go_sem] theorem agg68 : aggTy Tryd.prog 68 = some false := by kernel_rfl
@[go_sem] theorem sz68 : szTy Tryd.prog 68 = some 1 := by kernel_rfl
@[go_sem] theorem zero68 : zeroA Tryd.prog 68 = some (.base .nilFunc) := by kernel_rfl
@[go_sem] theorem el68 : elI Tryd.prog 68 1 8 = true := by kernel_rfl
@[go_sem] theorem agg69 : aggTy Tryd.prog 69 = some false := by kernel_rfl
@[go_sem] theorem sz69 : szTy Tryd.prog 69 = some 1 := by kernel_rfl
@[go_sem] theorem zero69 : zeroA Tryd.prog 69 = some (.base .nilFunc) := by kernel_rfl
@[go_sem] theorem el69 : elI Tryd.prog 69 1 8 = true := by kernel_rfl
@[go_sem] theorem agg70 : aggTy Tryd.prog 70 = some false := by kernel_rfl
@[go_sem] theorem sz70 : szTy Tryd.prog 70 = some 1 := by kernel_rfl
@[go_sem] theorem zero70 : zeroA Tryd.prog 70 = some (.base .nilFunc) := by kernel_rfl
@[go_sem] theorem el70 : elI Tryd.prog 70 1 8 = true := by kernel_rfl
@[go_sem] theorem agg71 : aggTy Tryd.prog 71 = some false := by kernel_rfl
@[go_sem] theorem sz71 : szTy Tryd.prog 71 = some 1 := by kernel_rfl
@[go_sem] theorem zero71 : zeroA Tryd.prog 71 = some (.base .nilFunc) := by kernel_rfl
@[go_sem] theorem el71 : elI Tryd.prog 71 1 8 = true := by kernel_rfl
@[go_sem] theorem agg72 : aggTy Tryd.prog 72 = some false := by kernel_rfl
@[go_sem] theorem sz72 : szTy Tryd.prog 72 = some 1 := by kernel_rfl
@[go_sem] theorem zero72 : zeroA Tryd.prog 72 = some (.base .nilFunc) := by kernel_rfl
@[go_sem] theorem el72 : elI Tryd.prog 72 1 8 = true := by kernel_rfl
@[go_sem] theorem agg73 : aggTy Tryd.prog 73 = some false := by kernel_rfl
@[go_sem] theorem sz73 : szTy Tryd.prog 73 = some 1 := by kernel_rfl
@[go_sem] theorem zero73 : zeroA Tryd.prog 73 = some (.base .nilFunc) := by kernel_rfl
@[go_sem] theorem el73 : elI Tryd.prog 73 1 8 = true := by kernel_rfl
@[go_sem] theorem agg74 : aggTy Tryd.prog 74 = some false := by kernel_rfl
@[go_sem] theorem sz74 : szTy Tryd.prog 74 = some 1 := by kernel_rfl
@[go_sem] theorem zero74 : zeroA Tryd.prog 74 = some (.base (.int .u64 (0))) := by kernel_rfl
@[go_sem] theorem el74 : elI Tryd.prog 74 1 8 = true := by kernel_rfl
@[go_sem] theorem agg75 : aggTy Tryd.prog 75 = some false := by kernel_rfl
@[go_sem] theorem sz75 : szTy Tryd.prog 75 = some 1 := by kernel_rfl
@[go_sem] theorem agg76 : aggTy Tryd.prog 76 = some false := by kernel_rfl
@[go_sem] theorem sz76 : szTy Tryd.prog 76 = some 1 := by kernel_rfl
@[go_sem] theorem zero76 : zeroA Tryd.prog 76 = some (.base .nilFunc) := by kernel_rfl
@[go_sem] theorem el76 : elI Tryd.prog 76 1 8 = true := by kernel_rfl
@[go_sem] theorem agg77 : aggTy Tryd.prog 77 = some false := by kernel_rfl
@[go_sem] theorem sz77 : szTy Tryd.prog 77 = some 1 := by kernel_rfl
@[go_sem] theorem zero77 : zeroA Tryd.prog 77 = some (.base .nilFunc) := by kernel_rfl
@[go_sem] theorem el77 : elI Tryd.prog 77 1 8 = true := by kernel_rfl
@[go_sem] theorem agg78 : aggTy Tryd.prog 78 = some false := by kernel_rfl
@[go_sem] theorem sz78 : szTy Tryd.prog 78 = some 1 := by kernel_rfl
@[go_sem] theorem zero78 : zeroA Tryd.prog 78 = some (.base .nilFunc) := by kernel_rfl
@[go_sem] theorem el78 : elI Tryd.prog 78 1 8 = true := by kernel_rfl
@[go_sem] theorem agg79 : aggTy Tryd.prog 79 = some false := by kernel_rfl
@[go_sem] theorem sz79 : szTy Tryd.prog 79 = some 1 := by kernel_rfl
@[go_sem] theorem zero79 : zeroA Tryd.prog 79 = some (.base .nilFunc) := by kernel_rfl
@[go_sem] theorem el79 : elI Tryd.prog 79 1 8 = true := by kernel_rfl
@[go_sem] theorem agg80 : aggTy Tryd.prog 80 = some false := by kernel_rfl
@[go_sem] theorem sz80 : szTy Tryd.prog 80 = some 1 := by kernel_rfl
@[go_sem] theorem zero80 : zeroA Tryd.prog 80 = some (.base .nilFunc) := by kernel_rfl
@[go_sem] theorem el80 : elI Tryd.prog 80 1 8 = true := by kernel_rfl
@[go_sem] theorem agg81 : aggTy Tryd.prog 81 = some false := by kernel_rfl
@[go_sem] theorem sz81 : szTy Tryd.prog 81 = some 1 := by kernel_rfl
@[go_sem] theorem zero81 : zeroA Tryd.prog 81 = some (.base (.pointer none)) := by kernel_rfl
@[go_sem] theorem el81 : elI Tryd.prog 81 1 8 = true := by kernel_rfl
@[go_sem] theorem agg82 : aggTy Tryd.prog 82 = some false := by kernel_rfl
@[go_sem] theorem sz82 : szTy Tryd.prog 82 = some 1 := by kernel_rfl
@[go_sem] theorem zero82 : zeroA Tryd.prog 82 = some (.base (.slice none 0 0)) := by kernel_rfl
@[go_sem] theorem el82 : elI Tryd.prog 82 1 24 = true := by kernel_rfl
@[go_sem] theorem agg83 : aggTy Tryd.prog 83 = some true := by kernel_rfl
@[go_sem] theorem sz83 : szTy Tryd.prog 83 = some 2 := by kernel_rfl
@[go_sem] theorem zero83 : zeroA Tryd.prog 83 = some (.agg [.base (.pointer none), .base (.slice none 0 0)]) := by kernel_rfl
@[go_sem] theorem el83 : elI Tryd.prog 83 2 32 = true := by kernel_rfl
@[go_sem] theorem pl83 : placesOf Tryd.prog 83 = some [(0, 1), (1, 1)] := by kernel_rfl
@[go_sem] theorem off83_0 : fieldOff Tryd.prog 83 0 = some 0 := by kernel_rfl
@[go_sem] theorem off83_1 : fieldOff Tryd.prog 83 1 = some 1 := by kernel_rfl
@[go_sem] theorem agg84 : aggTy Tryd.prog 84 = some true := by kernel_rfl
@[go_sem] theorem sz84 : szTy Tryd.prog 84 = some 2 := by kernel_rfl
@[go_sem] theorem zero84 : zeroA Tryd.prog 84 = some (.agg [.base (.pointer none), .base (.slice none 0 0)]) := by kernel_rfl
@[go_sem] theorem el84 : elI Tryd.prog 84 2 32 = true := by kernel_rfl
@[go_sem] theorem pl84 : placesOf Tryd.prog 84 = some [(0, 1), (1, 1)] := by kernel_rfl
@[go_sem] theorem off84_0 : fieldOff Tryd.prog 84 0 = some 0 := by kernel_rfl
@[go_sem] theorem off84_1 : fieldOff Tryd.prog 84 1 = some 1 := by kernel_rfl
@[go_sem] theorem agg85 : aggTy Tryd.prog 85 = some false := by kernel_rfl
@[go_sem] theorem sz85 : szTy Tryd.prog 85 = some 1 := by kernel_rfl
@[go_sem] theorem zero85 : zeroA Tryd.prog 85 = some (.base .nilFunc) := by kernel_rfl
@[go_sem] theorem el85 : elI Tryd.prog 85 1 8 = true := by kernel_rfl
@[go_sem] theorem agg86 : aggTy Tryd.prog 86 = some false := by kernel_rfl
@[go_sem] theorem sz86 : szTy Tryd.prog 86 = some 1 := by kernel_rfl
@[go_sem] theorem zero86 : zeroA Tryd.prog 86 = some (.base .nilIface) := by kernel_rfl
@[go_sem] theorem el86 : elI Tryd.prog 86 1 16 = true := by kernel_rfl
@[go_sem] theorem agg87 : aggTy Tryd.prog 87 = some false := by kernel_rfl
@[go_sem] theorem sz87 : szTy Tryd.prog 87 = some 1 := by kernel_rfl
@[go_sem] theorem zero87 : zeroA Tryd.prog 87 = some (.base .nilIface) := by kernel_rfl
@[go_sem] theorem el87 : elI Tryd.prog 87 1 16 = true := by kernel_rfl
@[go_sem] theorem agg88 : aggTy Tryd.prog 88 = some false := by kernel_rfl
@[go_sem] theorem sz88 : szTy Tryd.prog 88 = some 1 := by kernel_rfl
@[go_sem] theorem agg89 : aggTy Tryd.prog 89 = some false := by kernel_rfl
@[go_sem] theorem sz89 : szTy Tryd.prog 89 = some 1 := by kernel_rfl
@[go_sem] theorem zero89 : zeroA Tryd.prog 89 = some (.base .nilFunc) := by kernel_rfl
@[go_sem] theorem el89 : elI Tryd.prog 89 1 8 = true := by kernel_rfl
@[go_sem] theorem agg90 : aggTy Tryd.prog 90 = some false := by kernel_rfl
@[go_sem] theorem sz90 : szTy Tryd.prog 90 = some 1 := by kernel_rfl
@[go_sem] theorem zero90 : zeroA Tryd.prog 90 = some (.base .nilFunc) := by kernel_rfl
@[go_sem] theorem el90 : elI Tryd.prog 90 1 8 = true := by kernel_rfl
@[go_sem] theorem agg91 : aggTy Tryd.prog 91 = some false := by kernel_rfl
@[go_sem] theorem sz91 : szTy Tryd.prog 91 = some 1 := by kernel_rfl
@[go_sem] theorem zero91 : zeroA Tryd.prog 91 = some (.base .nilFunc) := by kernel_rfl
@[go_sem] theorem el91 : elI Tryd.prog 91 1 8 = true := by kernel_rfl
@[go_sem] theorem agg92 : aggTy Tryd.prog 92 = some false := by kernel_rfl
@[go_sem] theorem sz92 : szTy Tryd.prog 92 = some 1 := by kernel_rfl
@[go_sem] theorem zero92 : zeroA Tryd.prog 92 = some (.base .nilFunc) := by kernel_rfl
@[go_sem] theorem el92 : elI Tryd.prog 92 1 8 = true := by kernel_rfl
@[go_sem] theorem agg93 : aggTy Tryd.prog 93 = some false := by kernel_rfl
@[go_sem] theorem sz93 : szTy Tryd.prog 93 = some 1 := by kernel_rfl
@[go_sem] theorem zero93 : zeroA Tryd.prog 93 = some (.base .nilFunc) := by kernel_rfl
@[go_sem] theorem el93 : elI Tryd.prog 93 1 8 = true := by kernel_rfl
@[go_sem] theorem agg94 : aggTy Tryd.prog 94 = some false := by kernel_rfl
@[go_sem] theorem sz94 : szTy Tryd.prog 94 = some 1 := by kernel_rfl
@[go_sem] theorem zero94 : zeroA Tryd.prog 94 = some (.base .nilFunc) := by kernel_rfl
@[go_sem] theorem el94 : elI Tryd.prog 94 1 8 = true := by kernel_rfl
@[go_sem] theorem agg95 : aggTy Tryd.prog 95 = some false := by kernel_rfl
@[go_sem] theorem sz95 : szTy Tryd.prog 95 = some 1 := by kernel_rfl
@[go_sem] theorem zero95 : zeroA Tryd.prog 95 = some (.base .nilFunc) := by kernel_rfl
@[go_sem] theorem el95 : elI Tryd.prog 95 1 8 = true := by kernel_rfl
@[go_sem] theorem agg96 : aggTy Tryd.prog 96 = some false := by kernel_rfl
@[go_sem] theorem sz96 : szTy Tryd.prog 96 = some 1 := by kernel_rfl
@[go_sem] theorem zero96 : zeroA Tryd.prog 96 = some (.base (.slice none 0 0)) := by kernel_rfl
@[go_sem] theorem el96 : elI Tryd.prog 96 1 24 = true := by kernel_rfl
@[go_sem] theorem agg97 : aggTy Tryd.prog 97 = some false := by kernel_rfl
@[go_sem] theorem sz97 : szTy Tryd.prog 97 = some 1 := by kernel_rfl
@[go_sem] theorem zero97 : zeroA Tryd.prog 97 = some (.base .nilFunc) := by kernel_rfl
@[go_sem] theorem el97 : elI Tryd.prog 97 1 8 = true := by kernel_rfl
@[go_sem] theorem agg98 : aggTy Tryd.prog 98 = some false := by kernel_rfl
@[go_sem] theorem sz98 : szTy Tryd.prog 98 = some 1 := by kernel_rfl
@[go_sem] theorem agg99 : aggTy Tryd.prog 99 = some false := by kernel_rfl
@[go_sem] theorem sz99 : szTy Tryd.prog 99 = some 1 := by kernel_rfl
@[go_sem] theorem zero99 : zeroA Tryd.prog 99 = some (.base .nilFunc) := by kernel_rfl
@[go_sem] theorem el99 : elI Tryd.prog 99 1 8 = true := by kernel_rfl
@[go_sem] theorem agg100 : aggTy Tryd.prog 100 = some false := by kernel_rfl
@[go_sem] theorem sz100 : szTy Tryd.prog 100 = some 1 := by kernel_rfl
@[go_sem] theorem zero100 : zeroA Tryd.prog 100 = some (.base .nilFunc) := by kernel_rfl
@[go_sem] theorem el100 : elI Tryd.prog 100 1 8 = true := by kernel_rfl
@[go_sem] theorem agg101 : aggTy Tryd.prog 101 = some false := by kernel_rfl
@[go_sem] theorem sz101 : szTy Tryd.prog 101 = some 1 := by kernel_rfl
@[go_sem] theorem zero101 : zeroA Tryd.prog 101 = some (.base .nilFunc) := by kernel_rfl
@[go_sem] theorem el101 : elI Tryd.prog 101 1 8 = true := by kernel_rfl
@[go_sem] theorem agg102 : aggTy Tryd.prog 102 = some false := by kernel_rfl
@[go_sem] theorem sz102 : szTy Tryd.prog 102 = some 1 := by kernel_rfl
@[go_sem] theorem zero102 : zeroA Tryd.prog 102 = some (.base .nilFunc) := by kernel_rfl
@[go_sem] theorem el102 : elI Tryd.prog 102 1 8 = true := by kernel_rfl
@[go_sem] theorem agg103 : aggTy Tryd.prog 103 = some false := by kernel_rfl
@[go_sem] theorem sz103 : szTy Tryd.prog 103 = some 1 := by kernel_rfl
@[go_sem] theorem zero103 : zeroA Tryd.prog 103 = some (.base .nilFunc) := by kernel_rfl
@[go_sem] theorem el103 : elI Tryd.prog 103 1 8 = true := by kernel_rfl
@[go_sem] theorem agg104 : aggTy Tryd.prog 104 = some false := by kernel_rfl
@[go_sem] theorem sz104 : szTy Tryd.prog 104 = some 1 := by kernel_rfl
@[go_sem] theorem zero104 : zeroA Tryd.prog 104 = some (.base .nilFunc) := by kernel_rfl
@[go_sem] theorem el104 : elI Tryd.prog 104 1 8 = true := by kernel_rfl
@[go_sem] theorem agg105 : aggTy Tryd.prog 105 = some false := by kernel_rfl
@[go_sem] theorem sz105 : szTy Tryd.prog 105 = some 1 := by kernel_rfl
@[go_sem] theorem zero105 : zeroA Tryd.prog 105 = some (.base .nilFunc) := by kernel_rfl
@[go_sem] theorem el105 : elI Tryd.prog 105 1 8 = true := by kernel_rfl
@[go_sem] theorem agg106 : aggTy Tryd.prog 106 = some false := by kernel_rfl
@[go_sem] theorem sz106 : szTy Tryd.prog 106 = some 1 := by kernel_rfl
@[go_sem] theorem zero106 : zeroA Tryd.prog 106 = some (.base .nilFunc) := by kernel_rfl
@[go_sem] theorem el106 : elI Tryd.prog 106 1 8 = true := by kernel_rfl
@[go_sem] theorem agg107 : aggTy Tryd.prog 107 = some true := by kernel_rfl
@[go_sem] theorem sz107 : szTy Tryd.prog 107 = some 256 := by kernel_rfl
@[go_sem] theorem zero107 : zeroA Tryd.prog 107 = some (.agg [.base (.int .u8 (0)), .base (.int .u8 (0)), .base (.int .u8 (0)), .base (.int .u8 (0)), .base (.int .u8 (0)), .base (.int .u8 (0)), .base (.int .u8 (0)), .base (.int .u8 (0)), .base (.int .u8 (0)), .base (.int .u8 (0)), .base (.int .u8 (0)), .base (.int .u8 (0)), .base (.int .u8 (0)), .base (.int .u8 (0)), .base (.int .u8 (0)), .base (.int .u8 (0)), .base (.int .u8 (0)), .base (.int .u8 (0)), .base (.int .u8 (0)), .base (.int .u8 (0)), .base (.int .u8 (0)), .base (.int .u8 (0)), .base (.int .u8 (0)), .base (.int .u8 (0)), .base (.int .u8 (0)), .base (.int .u8 (0)), .base (.int .u8 (0)), .base (.int .u8 (0)), .base (.int .u8 (0)), .base (.int .u8 (0)), .base (.int .u8 (0)), .base (.int .u8 (0)), .base (.int .u8 (0)), .base (.int .u8 (0)), .base (.int .u8 (0)), .base (.int .u8 (0)), .base (.int .u8 (0)), .base (.int .u8 (0)), .base (.int .u8 (0)), .base (.int .u8 (0)), .base (.int .u8 (0)), .base (.int .u8 (0)), .base (.int .u8 (0)), .base (.int .u8 (0)), .base (.int .u8 (0)), .base (.int .u8 (0)), .base (.int .u8 (0)), .base (.int .u8 (0)), .base (.int .u8 (0)), .base (.int .u8 (0)), .base (.int .u8 (0)), .base (.int .u8 (0)), .base (.int .u8 (0)), .base (.int .u8 (0)), .base (.int .u8 (0)), .base (.int .u8 (0)), .base (.int .u8 (0)), .base (.int .u8 (0)), .base (.int .u8 (0)), .base (.int .u8 (0)), .base (.int .u8 (0)), .base (.int .u8 (0)), .base (.int .u8 (0)), .base (.int .u8 (0)), .base (.int .u8 (0)), .base (.int .u8 (0)), .base (.int .u8 (0)), .base (.int .u8 (0)), .base (.int .u8 (0)), .base (.int .u8 (0)), .base (.int .u8 (0)), .base (.int .u8 (0)), .base (.int .u8 (0)), .base (.int .u8 (0)), .base (.int .u8 (0)), .base (.int .u8 (0)), .base (.int .u8 (0)), .base (.int .u8 (0)), .base (.int .u8 (0)), .base (.int .u8 (0)), .base (.int .u8 (0)), .base (.int .u8 (0)), .base (.int .u8 (0)), .base (.int .u8 (0)), .base (.int .u8 (0)), .base (.int .u8 (0)), .base (.int .u8 (0)), .base (.int .u8 (0)), .base (.int .u8 (0)), .base (.int .u8 (0)), .base (.int .u8 (0)), .base (.int .u8 (0)), .base (.int .u8 (0)), .base (.int .u8 (0)), .base (.int .u8 (0)), .base (.int .u8 (0)), .base (.int .u8 (0)), .base (.int .u8 (0)), .base (.int .u8 (0)), .base (.int .u8 (0)), .base (.int .u8 (0)), .base (.int .u8 (0)), .base (.int .u8 (0)), .base (.int .u8 (0)), .base (.int .u8 (0)), .base (.int .u8 (0)), .base (.int .u8 (0)), .base (.int .u8 (0)), .base (.int .u8 (0)), .base (.int .u8 (0)), .base (.int .u8 (0)), .base (.int .u8 (0)), .base (.int .u8 (0)), .base (.int .u8 (0)), .base (.int .u8 (0)), .base (.int .u8 (0)), .base (.int .u8 (0)), .base (.int .u8 (0)), .base (.int .u8 (0)), .base (.int .u8 (0)), .base (.int .u8 (0)), .base (.int .u8 (0)), .base (.int .u8 (0)), .base (.int .u8 (0)), .base (.int .u8 (0)), .base (.int .u8 (0)), .base (.int .u8 (0)), .base (.int .u8 (0)), .base (.int .u8 (0)), .base (.int .u8 (0)), .base (.int .u8 (0)), .base (.int .u8 (0)), .base (.int .u8 (0)), .base (.int .u8 (0)), .base (.int .u8 (0)), .base (.int .u8 (0)), .base (.int .u8 (0)), .base (.int .u8 (0)), .base (.int .u8 (0)), .base (.int .u8 (0)), .base (.int .u8 (0)), .base (.int .u8 (0)), .base (.int .u8 (0)), .base (.int .u8 (0)), .base (.int .u8 (0)), .base (.int .u8 (0)), .base (.int .u8 (0)), .base (.int .u8 (0)), .base (.int .u8 (0)), .base (.int .u8 (0)), .base (.int .u8 (0)), .base (.int .u8 (0)), .base (.int .u8 (0)), .base (.int .u8 (0)), .base (.int .u8 (0)), .base (.int .u8 (0)), .base (.int .u8 (0)), .base (.int .u8 (0)), .base (.int .u8 (0)), .base (.int .u8 (0)), .base (.int .u8 (0)), .base (.int .u8 (0)), .base (.int .u8 (0)), .base (.int .u8 (0)), .base (.int .u8 (0)), .base (.int .u8 (0)), .base (.int .u8 (0)), .base (.int .u8 (0)), .base (.int .u8 (0)), .base (.int .u8 (0)), .base (.int .u8 (0)), .base (.int .u8 (0)), .base (.int .u8 (0)), .base (.int .u8 (0)), .base (.int .u8 (0)), .base (.int .u8 (0)), .base (.int .u8 (0)), .base (.int .u8 (0)), .base (.int .u8 (0)), .base (.int .u8 (0)), .base (.int .u8 (0)), .base (.int .u8 (0)), .base (.int .u8 (0)), .base (.int .u8 (0)), .base (.int .u8 (0)), .base (.int .u8 (0)), .base (.int .u8 (0)), .base (.int .u8 (0)), .base (.int .u8 (0)), .base (.int .u8 (0)), .base (.int .u8 (0)), .base (.int .u8 (0)), .base (.int .u8 (0)), .base (.int .u8 (0)), .base (.int .u8 (0)), .base (.int .u8 (0)), .base (.int .u8 (0)), .base (.int .u8 (0)), .base (.int .u8 (0)), .base (.int .u8 (0)), .base (.int .u8 (0)), .base (.int .u8 (0)), .base (.int .u8 (0)), .base (.int .u8 (0)), .base (.int .u8 (0)), .base (.int .u8 (0)), .base (.int .u8 (0)), .base (.int .u8 (0)), .base (.int .u8 (0)), .base (.int .u8 (0)), .base (.int .u8 (0)), .base (.int .u8 (0)), .base (.int .u8 (0)), .base (.int .u8 (0)), .base (.int .u8 (0)), .base (.int .u8 (0)), .base (.int .u8 (0)), .base (.int .u8 (0)), .base (.int .u8 (0)), .base (.int .u8 (0)), .base (.int .u8 (0)), .base (.int .u8 (0)), .base (.int .u8 (0)), .base (.int .u8 (0)), .base (.int .u8 (0)), .base (.int .u8 (0)), .base (.int .u8 (0)), .base (.int .u8 (0)), .base (.int .u8 (0)), .base (.int .u8 (0)), .base (.int .u8 (0)), .base (.int .u8 (0)), .base (.int .u8 (0)), .base (.int .u8 (0)), .base (.int .u8 (0)), .base (.int .u8 (0)), .base (.int .u8 (0)), .base (.int .u8 (0)), .base (.int .u8 (0)), .base (.int .u8 (0)), .base (.int .u8 (0)), .base (.int .u8 (0)), .base (.int .u8 (0)), .base (.int .u8 (0)), .base (.int .u8 (0)), .base (.int .u8 (0)), .base (.int .u8 (0)), .base (.int .u8 (0)), .base (.int .u8 (0)), .base (.int .u8 (0)), .base (.int .u8 (0)), .base (.int .u8 (0)), .base (.int .u8 (0)), .base (.int .u8 (0)), .base (.int .u8 (0)), .base (.int .u8 (0))]) := by kernel_rfl
@[go_sem] theorem el107 : elI Tryd.prog 107 256 256 = true := by kernel_rfl
@[go_sem] theorem agg108 : aggTy Tryd.prog 108 = some true := by kernel_rfl
@[go_sem] theorem sz108 : szTy Tryd.prog 108 = some 2 := by kernel_rfl
@[go_sem] theorem zero108 : zeroA Tryd.prog 108 = some (.agg [.base (.int .u8 (0)), .base (.int .u8 (0))]) := by kernel_rfl
@[go_sem] theorem el108 : elI Tryd.prog 108 2 2 = true := by kernel_rfl
@[go_sem] theorem pl108 : placesOf Tryd.prog 108 = some [(0, 1), (1, 1)] := by kernel_rfl
@[go_sem] theorem off108_0 : fieldOff Tryd.prog 108 0 = some 0 := by kernel_rfl
@[go_sem] theorem off108_1 : fieldOff Tryd.prog 108 1 = some 1 := by kernel_rfl
@[go_sem] theorem agg109 : aggTy Tryd.prog 109 = some true := by kernel_rfl
@[go_sem] theorem sz109 : szTy Tryd.prog 109 = some 2 := by kernel_rfl
@[go_sem] theorem zero109 : zeroA Tryd.prog 109 = some (.agg [.base (.int .u8 (0)), .base (.int .u8 (0))]) := by kernel_rfl
@[go_sem] theorem el109 : elI Tryd.prog 109 2 2 = true := by kernel_rfl
@[go_sem] theorem pl109 : placesOf Tryd.prog 109 = some [(0, 1), (1, 1)] := by kernel_rfl
@[go_sem] theorem off109_0 : fieldOff Tryd.prog 109 0 = some 0 := by kernel_rfl
@[go_sem] theorem off109_1 : fieldOff Tryd.prog 109 1 = some 1 := by kernel_rfl
@[go_sem] theorem agg110 : aggTy Tryd.prog 110 = some true := by kernel_rfl
@[go_sem] theorem sz110 : szTy Tryd.prog 110 = some 32 := by kernel_rfl
@[go_sem] theorem zero110 : zeroA Tryd.prog 110 = some (.agg [.base (.int .u8 (0)), .base (.int .u8 (0)), .base (.int .u8 (0)), .base (.int .u8 (0)), .base (.int .u8 (0)), .base (.int .u8 (0)), .base (.int .u8 (0)), .base (.int .u8 (0)), .base (.int .u8 (0)), .base (.int .u8 (0)), .base (.int .u8 (0)), .base (.int .u8 (0)), .base (.int .u8 (0)), .base (.int .u8 (0)), .base (.int .u8 (0)), .base (.int .u8 (0)), .base (.int .u8 (0)), .base (.int .u8 (0)), .base (.int .u8 (0)), .base (.int .u8 (0)), .base (.int .u8 (0)), .base (.int .u8 (0)), .base (.int .u8 (0)), .base (.int .u8 (0)), .base (.int .u8 (0)), .base (.int .u8 (0)), .base (.int .u8 (0)), .base (.int .u8 (0)), .base (.int .u8 (0)), .base (.int .u8 (0)), .base (.int .u8 (0)), .base (.int .u8 (0))]) := by kernel_rfl
@[go_sem] theorem el110 : elI Tryd.prog 110 32 32 = true := by kernel_rfl
@[go_sem] theorem agg111 : aggTy Tryd.prog 111 = some false := by kernel_rfl
@[go_sem] theorem sz111 : szTy Tryd.prog 111 = some 1 := by kernel_rfl
@[go_sem] theorem zero111 : zeroA Tryd.prog 111 = some (.base (.pointer none)) := by kernel_rfl
@[go_sem] theorem el111 : elI Tryd.prog 111 1 8 = true := by kernel_rfl
@[go_sem] theorem agg112 : aggTy Tryd.prog 112 = some false := by kernel_rfl
@[go_sem] theorem sz112 : szTy Tryd.prog 112 = some 1 := by kernel_rfl
@[go_sem] theorem zero112 : zeroA Tryd.prog 112 = some (.base .nilFunc) := by kernel_rfl
@[go_sem] theorem el112 : elI Tryd.prog 112 1 8 = true := by kernel_rfl
@[go_sem] theorem agg113 : aggTy Tryd.prog 113 = some false := by kernel_rfl
@[go_sem] theorem sz113 : szTy Tryd.prog 113 = some 1 := by kernel_rfl
@[go_sem] theorem zero113 : zeroA Tryd.prog 113 = some (.base .nilFunc) := by kernel_rfl
@[go_sem] theorem el113 : elI Tryd.prog 113 1 8 = true := by kernel_rfl
@[go_sem] theorem agg114 : aggTy Tryd.prog 114 = some false := by kernel_rfl
@[go_sem] theorem sz114 : szTy Tryd.prog 114 = some 1 := by kernel_rfl
@[go_sem] theorem zero114 : zeroA Tryd.prog 114 = some (.base .nilFunc) := by kernel_rfl
@[go_sem] theorem el114 : elI Tryd.prog 114 1 8 = true := by kernel_rfl
@[go_sem] theorem agg115 : aggTy Tryd.prog 115 = some false := by kernel_rfl
@[go_sem] theorem sz115 : szTy Tryd.prog 115 = some 1 := by kernel_rfl
@[go_sem] theorem zero115 : zeroA Tryd.prog 115 = some (.base .nilFunc) := by kernel_rfl
@[go_sem] theorem el115 : elI Tryd.prog 115 1 8 = true := by kernel_rfl
@[go_sem] theorem agg116 : aggTy Tryd.prog 116 = some false := by kernel_rfl
@[go_sem] theorem sz116 : szTy Tryd.prog 116 = some 1 := by kernel_rfl
@[go_sem] theorem zero116 : zeroA Tryd.prog 116 = some (.base (.int .u64 (0))) := by kernel_rfl
@[go_sem] theorem el116 : elI Tryd.prog 116 1 8 = true := by kernel_rfl
@[go_sem] theorem agg117 : aggTy Tryd.prog 117 = some false := by kernel_rfl
@[go_sem] theorem sz117 : szTy Tryd.prog 117 = some 1 := by kernel_rfl
@[go_sem] theorem zero117 : zeroA Tryd.prog 117 = some (.base (.pointer none)) := by kernel_rfl
@[go_sem] theorem el117 : elI Tryd.prog 117 1 8 = true := by kernel_rfl
@[go_sem] theorem agg118 : aggTy Tryd.prog 118 = some false := by kernel_rfl
@[go_sem] theorem sz118 : szTy Tryd.prog 118 = some 1 := by kernel_rfl
@[go_sem] theorem zero118 : zeroA Tryd.prog 118 = some (.base .nilFunc) := by kernel_rfl
@[go_sem] theorem el118 : elI Tryd.prog 118 1 8 = true := by kernel_rfl
@[go_sem] theorem agg119 : aggTy Tryd.prog 119 = some false := by kernel_rfl
@[go_sem] theorem sz119 : szTy Tryd.prog 119 = some 1 := by kernel_rfl
@[go_sem] theorem zero119 : zeroA Tryd.prog 119 = some (.base .nilFunc) := by kernel_rfl
@[go_sem] theorem el119 : elI Tryd.prog 119 1 8 = true := by kernel_rfl
@[go_sem] theorem agg120 : aggTy Tryd.prog 120 = some false := by kernel_rfl
@[go_sem] theorem sz120 : szTy Tryd.prog 120 = some 1 := by kernel_rfl
@[go_sem] theorem zero120 : zeroA Tryd.prog 120 = some (.base (.int .u32 (0))) := by kernel_rfl
@[go_sem] theorem el120 : elI Tryd.prog 120 1 4 = true := by kernel_rfl
@[go_sem] theorem agg121 : aggTy Tryd.prog 121 = some false := by kernel_rfl
@[go_sem] theorem sz121 : szTy Tryd.prog 121 = some 1 := by kernel_rfl
@[go_sem] theorem zero121 : zeroA Tryd.prog 121 = some (.base .nilFunc) := by kernel_rfl
@[go_sem] theorem el121 : elI Tryd.prog 121 1 8 = true := by kernel_rfl
@[go_sem] theorem agg122 : aggTy Tryd.prog 122 = some false := by kernel_rfl
@[go_sem] theorem sz122 : szTy Tryd.prog 122 = some 1 := by kernel_rfl
@[go_sem] theorem zero122 : zeroA Tryd.prog 122 = some (.base .nilFunc) := by kernel_rfl
@[go_sem] theorem el122 : elI Tryd.prog 122 1 8 = true := by kernel_rfl
@[go_sem] theorem agg123 : aggTy Tryd.prog 123 = some true := by kernel_rfl
@[go_sem] theorem sz123 : szTy Tryd.prog 123 = some 4 := by kernel_rfl
@[go_sem] theorem zero123 : zeroA Tryd.prog 123 = some (.agg [.base (.pointer none), .base (.pointer none), .base (.pointer none), .base (.string ByteArray.empty)]) := by kernel_rfl
@[go_sem] theorem el123 : elI Tryd.prog 123 4 40 = true := by kernel_rfl
@[go_sem] theorem pl123 : placesOf Tryd.prog 123 = some [(0, 1), (1, 1), (2, 1), (3, 1)] := by kernel_rfl
@[go_sem] theorem off123_0 : fieldOff Tryd.prog 123 0 = some 0 := by kernel_rfl
@[go_sem] theorem off123_1 : fieldOff Tryd.prog 123 1 = some 1 := by kernel_rfl
@[go_sem] theorem off123_2 : fieldOff Tryd.prog 123 2 = some 2 := by kernel_rfl
@[go_sem] theorem off123_3 : fieldOff Tryd.prog 123 3 = some 3 := by kernel_rfl
@[go_sem] theorem agg124 : aggTy Tryd.prog 124 = some true := by kernel_rfl
@[go_sem] theorem sz124 : szTy Tryd.prog 124 = some 4 := by kernel_rfl
@[go_sem] theorem zero124 : zeroA Tryd.prog 124 = some (.agg [.base (.pointer none), .base (.pointer none), .base (.pointer none), .base (.string ByteArray.empty)]) := by kernel_rfl
@[go_sem] theorem el124 : elI Tryd.prog 124 4 40 = true := by kernel_rfl
@[go_sem] theorem pl124 : placesOf Tryd.prog 124 = some [(0, 1), (1, 1), (2, 1), (3, 1)] := by kernel_rfl
@[go_sem] theorem off124_0 : fieldOff Tryd.prog 124 0 = some 0 := by kernel_rfl
@[go_sem] theorem off124_1 : fieldOff Tryd.prog 124 1 = some 1 := by kernel_rfl
@[go_sem] theorem off124_2 : fieldOff Tryd.prog 124 2 = some 2 := by kernel_rfl
@[go_sem] theorem off124_3 : fieldOff Tryd.prog 124 3 = some 3 := by kernel_rfl
@[go_sem] theorem agg125 : aggTy Tryd.prog 125 = some true := by kernel_rfl
@[go_sem] theorem sz125 : szTy Tryd.prog 125 = some 0 := by kernel_rfl
@[go_sem] theorem agg126 : aggTy Tryd.prog 126 = some true := by kernel_rfl
@[go_sem] theorem sz126 : szTy Tryd.prog 126 = some 0 := by kernel_rfl
@[go_sem] theorem pl126 : placesOf Tryd.prog 126 = some [(0, 0)] := by kernel_rfl
@[go_sem] theorem agg127 : aggTy Tryd.prog 127 = some true := by kernel_rfl
@[go_sem] theorem sz127 : szTy Tryd.prog 127 = some 0 := by kernel_rfl
@[go_sem] theorem pl127 : placesOf Tryd.prog 127 = some [(0, 0)] := by kernel_rfl
@[go_sem] theorem agg128 : aggTy Tryd.prog 128 = some false := by kernel_rfl
@[go_sem] theorem sz128 : szTy Tryd.prog 128 = some 1 := by kernel_rfl
@[go_sem] theorem zero128 : zeroA Tryd.prog 128 = some (.base (.int .u8 (0))) := by kernel_rfl
@[go_sem] theorem el128 : elI Tryd.prog 128 1 1 = true := by kernel_rfl
@[go_sem] theorem agg129 : aggTy Tryd.prog 129 = some false := by kernel_rfl
@[go_sem] theorem sz129 : szTy Tryd.prog 129 = some 1 := by kernel_rfl
@[go_sem] theorem zero129 : zeroA Tryd.prog 129 = some (.base (.int .u8 (0))) := by kernel_rfl
@[go_sem] theorem el129 : elI Tryd.prog 129 1 1 = true := by kernel_rfl
@[go_sem] theorem agg130 : aggTy Tryd.prog 130 = some false := by kernel_rfl
@[go_sem] theorem sz130 : szTy Tryd.prog 130 = some 1 := by kernel_rfl
@[go_sem] theorem zero130 : zeroA Tryd.prog 130 = some (.base .nilFunc) := by kernel_rfl
@[go_sem] theorem el130 : elI Tryd.prog 130 1 8 = true := by kernel_rfl
@[go_sem] theorem agg131 : aggTy Tryd.prog 131 = some false := by kernel_rfl
@[go_sem] theorem sz131 : szTy Tryd.prog 131 = some 1 := by kernel_rfl
@[go_sem] theorem zero131 : zeroA Tryd.prog 131 = some (.base (.int .i32 (0))) := by kernel_rfl
@[go_sem] theorem el131 : elI Tryd.prog 131 1 4 = true := by kernel_rfl
@[go_sem] theorem agg132 : aggTy Tryd.prog 132 = some false := by kernel_rfl
@[go_sem] theorem sz132 : szTy Tryd.prog 132 = some 1 := by kernel_rfl
@[go_sem] theorem zero132 : zeroA Tryd.prog 132 = some (.base (.int .i32 (0))) := by kernel_rfl
@[go_sem] theorem el132 : elI Tryd.prog 132 1 4 = true := by kernel_rfl
@[go_sem] theorem agg133 : aggTy Tryd.prog 133 = some true := by kernel_rfl
@[go_sem] theorem sz133 : szTy Tryd.prog 133 = some 11 := by kernel_rfl
@[go_sem] theorem zero133 : zeroA Tryd.prog 133 = some (.agg [.base (.int .u64 (0)), .base (.int .u64 (0)), .base (.int .u32 (0)), .base (.int .u8 (0)), .base (.int .u8 (0)), .base (.int .u8 (0)), .base (.int .u8 (0)), .base .nilFunc, .base (.pointer none), .base (.int .i32 (0)), .base (.int .i32 (0))]) := by kernel_rfl
@[go_sem] theorem el133 : elI Tryd.prog 133 11 48 = true := by kernel_rfl
@[go_sem] theorem pl133 : placesOf Tryd.prog 133 = some [(0, 1), (1, 1), (2, 1), (3, 1), (4, 1), (5, 1), (6, 1), (7, 1), (8, 1), (9, 1), (10, 1)] := by kernel_rfl
@[go_sem] theorem off133_0 : fieldOff Tryd.prog 133 0 = some 0 := by kernel_rfl
@[go_sem] theorem off133_1 : fieldOff Tryd.prog 133 1 = some 1 := by kernel_rfl
@[go_sem] theorem off133_2 : fieldOff Tryd.prog 133 2 = some 2 := by kernel_rfl
@[go_sem] theorem off133_3 : fieldOff Tryd.prog 133 3 = some 3 := by kernel_rfl
@[go_sem] theorem off133_4 : fieldOff Tryd.prog 133 4 = some 4 := by kernel_rfl
@[go_sem] theorem off133_5 : fieldOff Tryd.prog 133 5 = some 5 := by kernel_rfl
@[go_sem] theorem off133_6 : fieldOff Tryd.prog 133 6 = some 6 := by kernel_rfl
@[go_sem] theorem off133_7 : fieldOff Tryd.prog 133 7 = some 7 := by kernel_rfl
@[go_sem] theorem off133_8 : fieldOff Tryd.prog 133 8 = some 8 := by kernel_rfl
@[go_sem] theorem off133_9 : fieldOff Tryd.prog 133 9 = some 9 := by kernel_rfl
@[go_sem] theorem off133_10 : fieldOff Tryd.prog 133 10 = some 10 := by kernel_rfl
@[go_sem] theorem agg134 : aggTy Tryd.prog 134 = some true := by kernel_rfl
@[go_sem] theorem sz134 : szTy Tryd.prog 134 = some 11 := by kernel_rfl
@[go_sem] theorem zero134 : zeroA Tryd.prog 134 = some (.agg [.base (.int .u64 (0)), .base (.int .u64 (0)), .base (.int .u32 (0)), .base (.int .u8 (0)), .base (.int .u8 (0)), .base (.int .u8 (0)), .base (.int .u8 (0)), .base .nilFunc, .base (.pointer none), .base (.int .i32 (0)), .base (.int .i32 (0))]) := by kernel_rfl
@[go_sem] theorem el134 : elI Tryd.prog 134 11 48 = true := by kernel_rfl
@[go_sem] theorem pl134 : placesOf Tryd.prog 134 = some [(0, 1), (1, 1), (2, 1), (3, 1), (4, 1), (5, 1), (6, 1), (7, 1), (8, 1), (9, 1), (10, 1)] := by kernel_rfl
@[go_sem] theorem off134_0 : fieldOff Tryd.prog 134 0 = some 0 := by kernel_rfl
@[go_sem] theorem off134_1 : fieldOff Tryd.prog 134 1 = some 1 := by kernel_rfl
@[go_sem] theorem off134_2 : fieldOff Tryd.prog 134 2 = some 2 := by kernel_rfl
@[go_sem] theorem off134_3 : fieldOff Tryd.prog 134 3 = some 3 := by kernel_rfl
@[go_sem] theorem off134_4 : fieldOff Tryd.prog 134 4 = some 4 := by kernel_rfl
@[go_sem] theorem off134_5 : fieldOff Tryd.prog 134 5 = some 5 := by kernel_rfl
@[go_sem] theorem off134_6 : fieldOff Tryd.prog 134 6 = some 6 := by kernel_rfl
@[go_sem] theorem off134_7 : fieldOff Tryd.prog 134 7 = some 7 := by kernel_rfl
@[go_sem] theorem off134_8 : fieldOff Tryd.prog 134 8 = some 8 := by kernel_rfl
@[go_sem] theorem off134_9 : fieldOff Tryd.prog 134 9 = some 9 := by kernel_rfl
@[go_sem] theorem off134_10 : fieldOff Tryd.prog 134 10 = some 10 := by kernel_rfl
attribute [go_sem] Tryd.underlying0 Tryd.underlying1 Tryd.underlying2 Tryd.underlying3 Tryd.underlying4 Tryd.underlying5 Tryd.underlying6 Tryd.underlying7 Tryd.underlying8 Tryd.underlying9 Tryd.underlying10 Tryd.underlying11 Tryd.underlying12 Tryd.underlying13 Tryd.underlying14 Tryd.underlying15 Tryd.underlying16 Tryd.underlying17 Tryd.underlying18 Tryd.underlying19 Tryd.underlying20 Tryd.underlying21 Tryd.underlying22 Tryd.underlying23 Tryd.underlying24 Tryd.underlying25 Tryd.underlying26 Tryd.underlying27 Tryd.underlying28 Tryd.underlying29 Tryd.underlying30 Tryd.underlying31 Tryd.underlying32 Tryd.underlying33 Tryd.underlying34 Tryd.underlying35 Tryd.underlying36 Tryd.underlying37 Tryd.underlying38 Tryd.underlying39 Tryd.underlying40 Tryd.underlying41 Tryd.underlying42 Tryd.underlying43 Tryd.underlying44 Tryd.underlying45 Tryd.underlying46 Tryd.underlying47 Tryd.underlying48 Tryd.underlying49 Tryd.underlying50 Tryd.underlying51 Tryd.underlying52 Tryd.underlying53 Tryd.underlying54 Tryd.underlying55 Tryd.underlying56 Tryd.underlying57 Tryd.underlying58 Tryd.underlying59 Tryd.underlying60 Tryd.underlying61 Tryd.underlying62 Tryd.underlying63 Tryd.underlying64 Tryd.underlying65 Tryd.underlying66 Tryd.underlying67 Tryd.underlying68 Tryd.underlying69 Tryd.underlying70 Tryd.underlying71 Tryd.underlying72 Tryd.underlying73 Tryd.underlying74 Tryd.underlying75 Tryd.underlying76 Tryd.underlying77 Tryd.underlying78 Tryd.underlying79 Tryd.underlying80 Tryd.underlying81 Tryd.underlying82 Tryd.underlying83 Tryd.underlying84 Tryd.underlying85 Tryd.underlying86 Tryd.underlying87 Tryd.underlying88 Tryd.underlying89 Tryd.underlying90 Tryd.underlying91 Tryd.underlying92 Tryd.underlying93 Tryd.underlying94 Tryd.underlying95 Tryd.underlying96 Tryd.underlying97 Tryd.underlying98 Tryd.underlying99 Tryd.underlying100 Tryd.underlying101 Tryd.underlying102 Tryd.underlying103 Tryd.underlying104 Tryd.underlying105 Tryd.underlying106 Tryd.underlying107 Tryd.underlying108 Tryd.underlying109 Tryd.underlying110 Tryd.underlying111 Tryd.underlying112 Tryd.underlying113 Tryd.underlying114 Tryd.underlying115 Tryd.underlying116 Tryd.underlying117 Tryd.underlying118 Tryd.underlying119 Tryd.underlying120 Tryd.underlying121 Tryd.underlying122 Tryd.underlying123 Tryd.underlying124 Tryd.underlying125 Tryd.underlying126 Tryd.underlying127 Tryd.underlying128 Tryd.underlying129 Tryd.underlying130 Tryd.underlying131 Tryd.underlying132 Tryd.underlying133 Tryd.underlying134
end Go.Ab.Ty
set_option maxHeartbeats 4000000
namespace Go.Ab
open Go Go.Ab

abbrev bt (s : ByteArray) (k : Nat) : Nat := (s.get! k).toNat
theorem bt_lt (s : ByteArray) (k : Nat) : bt s k < 256 := (s.get! k).toNat_lt
theorem bt_get {s : ByteArray} {k : Nat} (h : k < s.size) : s[k]? = some (s.get! k) := by
  rw [getElem?_pos s k h]
  congr 1
  simp [ByteArray.get!, getElem!_pos s.data k h]
  rfl
def wd (s : ByteArray) (i : Nat) : Nat :=
  if s.size ≤ i then 0 else
  if bt s i < 0x80 then 1 else
  if 0xC2 ≤ bt s i ∧ bt s i ≤ 0xDF then (if s.size < i + 2 ∨ bt s (i + 1) < 0x80 ∨ 0xBF < bt s (i + 1) then 0 else 2) else
  if 0xE0 ≤ bt s i ∧ bt s i ≤ 0xEF then
    (if s.size < i + 3 ∨ bt s (i + 1) < (if bt s i = 0xE0 then 0xA0 else 0x80) ∨ (if bt s i = 0xED then 0x9F else 0xBF) < bt s (i + 1) ∨ bt s (i + 2) < 0x80 ∨ 0xBF < bt s (i + 2) then 0 else 3) else
  if 0xF0 ≤ bt s i ∧ bt s i ≤ 0xF4 then
    (if s.size < i + 4 ∨ bt s (i + 1) < (if bt s i = 0xF0 then 0x90 else 0x80) ∨ (if bt s i = 0xF4 then 0x8F else 0xBF) < bt s (i + 1) ∨ bt s (i + 2) < 0x80 ∨ 0xBF < bt s (i + 2) ∨ bt s (i + 3) < 0x80 ∨ 0xBF < bt s (i + 3) then 0 else 4) else 0
def cd (s : ByteArray) (i : Nat) : Nat → Nat
  | 1 => bt s i
  | 2 => bt s i % 32 * 64 + bt s (i + 1) % 64
  | 3 => bt s i % 16 * 4096 + bt s (i + 1) % 64 * 64 + bt s (i + 2) % 64
  | _ => bt s i % 8 * 262144 + bt s (i + 1) % 64 * 4096 + bt s (i + 2) % 64 * 64 + bt s (i + 3) % 64
theorem wd_le (s : ByteArray) (i : Nat) : wd s i = 0 ∨ i + wd s i ≤ s.size := by
  unfold wd
  by_cases h : s.size ≤ i
  · simp [h]
  · rw [if_neg h]
    repeat' split
    all_goals omega
theorem wd_four (s : ByteArray) (i : Nat) : wd s i ≤ 4 := by
  unfold wd
  repeat' split
  all_goals omega
def decN (b0 b1 b2 b3 : Nat) (p1 p2 p3 : Bool) : Nat × Nat :=
  if b0 < 0x80 then (b0, 1)
  else if b0 / 32 == 6 && (p1 && b1 / 64 == 2) then (if 0x80 ≤ b0 % 32 * 64 + b1 % 64 then (b0 % 32 * 64 + b1 % 64, 2) else (65533, 1))
  else if b0 / 16 == 14 && (p1 && b1 / 64 == 2) && (p2 && b2 / 64 == 2) then
    (if decide (0x800 ≤ b0 % 16 * 4096 + b1 % 64 * 64 + b2 % 64) && Utf8.valid ((b0 % 16 * 4096 + b1 % 64 * 64 + b2 % 64 : Nat) : Int) then (b0 % 16 * 4096 + b1 % 64 * 64 + b2 % 64, 3) else (65533, 1))
  else if b0 / 8 == 30 && (p1 && b1 / 64 == 2) && (p2 && b2 / 64 == 2) && (p3 && b3 / 64 == 2) then
    (if decide (0x10000 ≤ b0 % 8 * 262144 + b1 % 64 * 4096 + b2 % 64 * 64 + b3 % 64) && Utf8.valid ((b0 % 8 * 262144 + b1 % 64 * 4096 + b2 % 64 * 64 + b3 % 64 : Nat) : Int) then (b0 % 8 * 262144 + b1 % 64 * 4096 + b2 % 64 * 64 + b3 % 64, 4) else (65533, 1))
  else (65533, 1)
theorem dec_decN (s : ByteArray) (i : Nat) : Utf8.decode s i = decN (bt s i) (bt s (i + 1)) (bt s (i + 2)) (bt s (i + 3)) (decide (i + 1 < s.size)) (decide (i + 2 < s.size)) (decide (i + 3 < s.size)) := rfl
theorem val_iff (c : Nat) : Utf8.valid (c : Int) = true ↔ c < 0xD800 ∨ (0xE000 ≤ c ∧ c ≤ 0x10FFFF) := by
  unfold Utf8.valid
  simp only [Bool.or_eq_true, Bool.and_eq_true, decide_eq_true_eq]
  omega
theorem decN_1 {b0 b1 b2 b3 : Nat} {p1 p2 p3 : Bool} (h : b0 < 0x80) : decN b0 b1 b2 b3 p1 p2 p3 = (b0, 1) := by rw [decN, if_pos h]
theorem decN_2 {b0 b1 b2 b3 : Nat} {p1 p2 p3 : Bool} (h : 0xC0 ≤ b0 ∧ b0 ≤ 0xDF) : decN b0 b1 b2 b3 p1 p2 p3 = if p1 = true ∧ 0x80 ≤ b1 ∧ b1 ≤ 0xBF ∧ 0xC2 ≤ b0 then (b0 % 32 * 64 + b1 % 64, 2) else (65533, 1) := by
  have e1 : (b0 / 32 == 6) = true := by rw [beq_iff_eq]; omega
  have e2 : (b0 / 16 == 14) = false := by rw [beq_eq_false_iff_ne]; omega
  have e3 : (b0 / 8 == 30) = false := by rw [beq_eq_false_iff_ne]; omega
  rw [decN, if_neg (by omega)]
  simp only [e1, e2, e3, Bool.true_and, Bool.false_and, Bool.false_eq_true, if_false]
  cases p1 with
  | false => simp
  | true =>
    simp only [Bool.true_and, true_and]
    by_cases k : b1 / 64 = 2
    · rw [if_pos (by simp [k])]
      by_cases k2 : 0xC2 ≤ b0
      · rw [if_pos (by omega), if_pos (by omega)]
      · rw [if_neg (by omega), if_neg (by omega)]
    · rw [if_neg (by simp [k]), if_neg (by omega)]
theorem decN_3 {b0 b1 b2 b3 : Nat} {p1 p2 p3 : Bool} (h : 0xE0 ≤ b0 ∧ b0 ≤ 0xEF) : decN b0 b1 b2 b3 p1 p2 p3 =
    if p1 = true ∧ p2 = true ∧ 0x80 ≤ b1 ∧ b1 ≤ 0xBF ∧ 0x80 ≤ b2 ∧ b2 ≤ 0xBF ∧ (b0 = 0xE0 → 0xA0 ≤ b1) ∧ (b0 = 0xED → b1 ≤ 0x9F) then (b0 % 16 * 4096 + b1 % 64 * 64 + b2 % 64, 3) else (65533, 1) := by
  have e1 : (b0 / 32 == 6) = false := by rw [beq_eq_false_iff_ne]; omega
  have e2 : (b0 / 16 == 14) = true := by rw [beq_iff_eq]; omega
  have e3 : (b0 / 8 == 30) = false := by rw [beq_eq_false_iff_ne]; omega
  rw [decN, if_neg (by omega)]
  simp only [e1, e2, e3, Bool.true_and, Bool.false_and, Bool.false_eq_true, if_false]
  cases p1 with
  | false => simp
  | true =>
    cases p2 with
    | false => simp
    | true =>
      simp only [Bool.true_and, true_and]
      by_cases k : b1 / 64 = 2 ∧ b2 / 64 = 2
      · rw [if_pos (by simp [k.1, k.2])]
        by_cases k2 : (b0 = 0xE0 → 0xA0 ≤ b1) ∧ (b0 = 0xED → b1 ≤ 0x9F)
        · rw [if_pos (by rw [Bool.and_eq_true, decide_eq_true_eq, val_iff]; omega), if_pos (by omega)]
        · rw [if_neg (by rw [Bool.and_eq_true, decide_eq_true_eq, val_iff]; omega), if_neg (by omega)]
      · rw [if_neg (by rw [Bool.and_eq_true, beq_iff_eq, beq_iff_eq]; exact k), if_neg (by omega)]
theorem decN_4 {b0 b1 b2 b3 : Nat} {p1 p2 p3 : Bool} (h : 0xF0 ≤ b0 ∧ b0 ≤ 0xF7) : decN b0 b1 b2 b3 p1 p2 p3 =
    if p1 = true ∧ p2 = true ∧ p3 = true ∧ 0x80 ≤ b1 ∧ b1 ≤ 0xBF ∧ 0x80 ≤ b2 ∧ b2 ≤ 0xBF ∧ 0x80 ≤ b3 ∧ b3 ≤ 0xBF ∧ (b0 = 0xF0 → 0x90 ≤ b1) ∧ (b0 = 0xF4 → b1 ≤ 0x8F) ∧ b0 ≤ 0xF4 then (b0 % 8 * 262144 + b1 % 64 * 4096 + b2 % 64 * 64 + b3 % 64, 4) else (65533, 1) := by
  have e1 : (b0 / 32 == 6) = false := by rw [beq_eq_false_iff_ne]; omega
  have e2 : (b0 / 16 == 14) = false := by rw [beq_eq_false_iff_ne]; omega
  have e3 : (b0 / 8 == 30) = true := by rw [beq_iff_eq]; omega
  rw [decN, if_neg (by omega)]
  simp only [e1, e2, e3, Bool.true_and, Bool.false_and, Bool.false_eq_true, if_false]
  cases p1 with
  | false => simp
  | true =>
    cases p2 with
    | false => simp
    | true =>
      cases p3 with
      | false => simp
      | true =>
        simp only [Bool.true_and, true_and]
        by_cases k : (b1 / 64 = 2 ∧ b2 / 64 = 2) ∧ b3 / 64 = 2
        · rw [if_pos (by simp [k.1.1, k.1.2, k.2])]
          by_cases k2 : (b0 = 0xF0 → 0x90 ≤ b1) ∧ (b0 = 0xF4 → b1 ≤ 0x8F) ∧ b0 ≤ 0xF4
          · rw [if_pos (by rw [Bool.and_eq_true, decide_eq_true_eq, val_iff]; omega), if_pos (by omega)]
          · rw [if_neg (by rw [Bool.and_eq_true, decide_eq_true_eq, val_iff]; omega), if_neg (by omega)]
        · rw [if_neg (by rw [Bool.and_eq_true, Bool.and_eq_true, beq_iff_eq, beq_iff_eq, beq_iff_eq]; exact k), if_neg (by omega)]
theorem decN_0 {b0 b1 b2 b3 : Nat} {p1 p2 p3 : Bool} (h : 0x80 ≤ b0) (h2 : b0 < 0xC0 ∨ 0xF8 ≤ b0) (h3 : b0 < 256) : decN b0 b1 b2 b3 p1 p2 p3 = (65533, 1) := by
  have e1 : (b0 / 32 == 6) = false := by rw [beq_eq_false_iff_ne]; omega
  have e2 : (b0 / 16 == 14) = false := by rw [beq_eq_false_iff_ne]; omega
  have e3 : (b0 / 8 == 30) = false := by rw [beq_eq_false_iff_ne]; omega
  rw [decN, if_neg (by omega)]
  simp only [e1, e2, e3, Bool.false_and, Bool.false_eq_true, if_false]
theorem wd_dec {s : ByteArray} {i : Nat} (h : i < s.size) : (wd s i = 0 ∧ Utf8.decode s i = (0xFFFD, 1)) ∨ (0 < wd s i ∧ Utf8.decode s i = (cd s i (wd s i), wd s i) ∧ (wd s i = 1 → cd s i (wd s i) < 128)) := by
  have h0 := bt_lt s i
  rw [dec_decN]
  unfold wd
  rw [if_neg (by omega)]
  by_cases c1 : bt s i < 0x80
  · rw [if_pos c1, decN_1 c1]
    exact .inr ⟨by omega, rfl, fun _ => c1⟩
  rw [if_neg c1]
  by_cases c2 : 0xC0 ≤ bt s i ∧ bt s i ≤ 0xDF
  · rw [decN_2 c2]
    simp only [decide_eq_true_eq]
    by_cases k : i + 1 < s.size ∧ 0x80 ≤ bt s (i + 1) ∧ bt s (i + 1) ≤ 0xBF ∧ 0xC2 ≤ bt s i
    · rw [if_pos k, if_pos (by omega), if_neg (by omega)]
      exact .inr ⟨by omega, rfl, by omega⟩
    · rw [if_neg k]
      left
      refine ⟨?_, rfl⟩
      split
      · rw [if_pos (by omega)]
      · rw [if_neg (by omega), if_neg (by omega)]
  by_cases c3 : 0xE0 ≤ bt s i ∧ bt s i ≤ 0xEF
  · rw [decN_3 c3, if_neg (by omega), if_pos c3]
    simp only [decide_eq_true_eq]
    have a1 : (if bt s i = 0xE0 then 0xA0 else 0x80) = (if bt s i = 0xE0 then 0xA0 else 0x80) := rfl
    generalize hlo : (if bt s i = 0xE0 then 0xA0 else 0x80) = lo
    generalize hhi : (if bt s i = 0xED then 0x9F else 0xBF) = hi
    have l1 : (bt s i = 0xE0 ∧ lo = 0xA0) ∨ (bt s i ≠ 0xE0 ∧ lo = 0x80) := by
      by_cases e : bt s i = 0xE0
      · rw [if_pos e] at hlo; omega
      · rw [if_neg e] at hlo; omega
    have l2 : (bt s i = 0xED ∧ hi = 0x9F) ∨ (bt s i ≠ 0xED ∧ hi = 0xBF) := by
      by_cases e : bt s i = 0xED
      · rw [if_pos e] at hhi; omega
      · rw [if_neg e] at hhi; omega
    by_cases k : s.size < i + 3 ∨ bt s (i + 1) < lo ∨ hi < bt s (i + 1) ∨ bt s (i + 2) < 0x80 ∨ 0xBF < bt s (i + 2)
    · rw [if_pos k, if_neg (by omega)]; exact .inl ⟨rfl, rfl⟩
    · rw [if_neg k, if_pos (by omega)]; exact .inr ⟨by omega, rfl, by omega⟩
  by_cases c4 : 0xF0 ≤ bt s i ∧ bt s i ≤ 0xF7
  · rw [decN_4 c4, if_neg (by omega), if_neg c3]
    simp only [decide_eq_true_eq]
    generalize hlo : (if bt s i = 0xF0 then 0x90 else 0x80) = lo
    generalize hhi : (if bt s i = 0xF4 then 0x8F else 0xBF) = hi
    have l1 : (bt s i = 0xF0 ∧ lo = 0x90) ∨ (bt s i ≠ 0xF0 ∧ lo = 0x80) := by
      by_cases e : bt s i = 0xF0
      · rw [if_pos e] at hlo; omega
      · rw [if_neg e] at hlo; omega
    have l2 : (bt s i = 0xF4 ∧ hi = 0x8F) ∨ (bt s i ≠ 0xF4 ∧ hi = 0xBF) := by
      by_cases e : bt s i = 0xF4
      · rw [if_pos e] at hhi; omega
      · rw [if_neg e] at hhi; omega
    by_cases k : bt s i ≤ 0xF4
    · rw [if_pos (by omega)]
      by_cases k2 : s.size < i + 4 ∨ bt s (i + 1) < lo ∨ hi < bt s (i + 1) ∨ bt s (i + 2) < 0x80 ∨ 0xBF < bt s (i + 2) ∨ bt s (i + 3) < 0x80 ∨ 0xBF < bt s (i + 3)
      · rw [if_pos k2, if_neg (by omega)]; exact .inl ⟨rfl, rfl⟩
      · rw [if_neg k2, if_pos (by omega)]; exact .inr ⟨by omega, rfl, by omega⟩
    · rw [if_neg (by omega), if_neg (by omega)]; exact .inl ⟨rfl, rfl⟩
  · rw [decN_0 (by omega) (by omega) h0, if_neg (by omega), if_neg c3, if_neg (by omega)]
    exact .inl ⟨rfl, rfl⟩
end Go.Ab
set_option maxHeartbeats 4000000
namespace Go.Ab
open Go Go.Ab Go.Proofs Go.Ab.Ty

/-! ### classes -/
abbrev str (s : ByteArray) : AV := .base (.string s)
abbrev rn (n : Int) : AV := .base (.int .i32 n)
inductive Cl
  | cr | lf | control | extend | zwj | spacing | prepend | l | v | t | lv | lvt | regional | pict | other
  deriving DecidableEq, Inhabited
def nm : Cl → ByteArray
  | .cr => ⟨#[67, 82]⟩
  | .lf => ⟨#[76, 70]⟩
  | .control => ⟨#[67, 111, 110, 116, 114, 111, 108]⟩
  | .extend => ⟨#[69, 120, 116, 101, 110, 100]⟩
  | .zwj => ⟨#[90, 87, 74]⟩
  | .spacing => ⟨#[83, 112, 97, 99, 105, 110, 103]⟩
  | .prepend => ⟨#[80, 114, 101, 112, 101, 110, 100]⟩
  | .l => ⟨#[76]⟩
  | .v => ⟨#[86]⟩
  | .t => ⟨#[84]⟩
  | .lv => ⟨#[76, 86]⟩
  | .lvt => ⟨#[76, 86, 84]⟩
  | .regional => ⟨#[82, 101, 103, 105, 111, 110, 97, 108]⟩
  | .pict => ⟨#[80, 105, 99, 116]⟩
  | .other => ⟨#[79, 116, 104, 101, 114]⟩
def spC : List (Int × Int) := [(0, 0x1F), (0x7F, 0x9F), (0x200B, 0x200B), (0x2028, 0x202E), (0xFEFF, 0xFEFF)]
def spE : List (Int × Int) := [(0x300, 0x36F), (0x483, 0x489), (0x591, 0x5BD), (0x64B, 0x65F), (0x93C, 0x93C), (0x1AB0, 0x1ACE), (0x1DC0, 0x1DFF), (0x200C, 0x200C), (0x20D0, 0x20F0), (0xFE00, 0xFE0F), (0xFE20, 0xFE2F), (0x1F3FB, 0x1F3FF)]
def spS : List (Int × Int) := [(0x903, 0x903), (0x93B, 0x93B), (0x93E, 0x940), (0x949, 0x94C)]
def spP : List (Int × Int) := [(0x600, 0x605), (0x6DD, 0x6DD), (0x70F, 0x70F)]
def spX : List (Int × Int) := [(0xA9, 0xA9), (0xAE, 0xAE), (0x2600, 0x27BF), (0x1F300, 0x1F3FA), (0x1F400, 0x1F64F), (0x1F680, 0x1F6FF), (0x1F900, 0x1F9FF)]
def tabC : List (Cl × List (Int × Int)) := [(.cr, [(0xD, 0xD)]), (.lf, [(0xA, 0xA)]), (.control, spC), (.extend, spE), (.zwj, [(0x200D, 0x200D)]), (.spacing, spS), (.prepend, spP), (.l, [(0x1100, 0x115F)]), (.v, [(0x1160, 0x11A7)]), (.t, [(0x11A8, 0x11FF)]), (.regional, [(0x1F1E6, 0x1F1FF)]), (.pict, spX)]
def inS (c : Int) (sp : List (Int × Int)) : Bool := sp.any fun p => decide (p.1 ≤ c ∧ c ≤ p.2)
def firstIn (c : Int) : List (Cl × List (Int × Int)) → Cl
  | [] => .other
  | p :: r => if inS c p.2 then p.1 else firstIn c r
def clsOf (c : Int) : Cl := if 44032 ≤ c ∧ c ≤ 55203 then (if (c - 44032).tmod 28 = 0 then .lv else .lvt) else firstIn c tabC
def encSp (p : Int × Int) : AV := .agg [rn p.1, rn p.2]
def encK (p : Cl × List (Int × Int)) : AV := .agg [str (nm p.1), .lst (p.2.map encSp)]
attribute [go_sem] encSp encK
theorem Pu_sp (p : Int × Int) : ∀ c ∈ (encSp p).cells, Pu c := fun c hc => by
  simp only [encSp, AV.cells, List.mem_cons, List.not_mem_nil, or_false] at hc
  rcases hc with rfl | rfl <;> exact .base _
theorem Pu_encSp (p : Int × Int) : Pu (encSp p) := .agg (Pu_sp p)
theorem Pu_sps (l : List (Int × Int)) : Pu (.lst (l.map encSp)) := .lst fun e he c hc => by
  obtain ⟨x, _, rfl⟩ := List.mem_map.1 he
  exact Pu_sp x c hc
theorem Pu_ck (p : Cl × List (Int × Int)) : ∀ c ∈ (encK p).cells, Pu c := fun c hc => by
  simp only [encK, AV.cells, List.mem_cons, List.not_mem_nil, or_false] at hc
  rcases hc with rfl | rfl
  · exact .base _
  · exact Pu_sps _
theorem Pu_ks (l : List (Cl × List (Int × Int))) : Pu (.lst (l.map encK)) := .lst fun e he c hc => by
  obtain ⟨x, _, rfl⟩ := List.mem_map.1 he
  exact Pu_ck x c hc
attribute [simp] Pu_sps Pu_ks Pu_encSp
theorem classes_ok : Fn Tryd.prog 64 [] (.lst (tabC.map encK)) := by
  refine Fn.intro' [] 0 64 Tryd.func64 (by kernel_rfl) rfl rfl rfl rfl rfl ?_
  repeat (first | refine goA1 ?_ | refine bldA pl63 zero63 ?_ | refine bslA Tryd.underlying58 sz63 ?_ | refine bldA pl60 zero60 ?_ | refine bslA Tryd.underlying56 sz60 ?_)
  exact Ret.data rfl rfl (Pu_ks tabC)
def okSp (l : List (Int × Int)) : Prop := l.length ≤ 100 ∧ ∀ p ∈ l, (0 ≤ p.1 ∧ p.1 ≤ 2000000) ∧ 0 ≤ p.2 ∧ p.2 ≤ 2000000
theorem class1_ok (c : Int) (p : Int × Int) (h : (0 ≤ p.1 ∧ p.1 ≤ 2000000) ∧ 0 ≤ p.2 ∧ p.2 ≤ 2000000) : Fn Tryd.prog 66 [encSp p, .iptr (.int c) 0] (.bool (decide (p.1 ≤ c ∧ c ≤ p.2))) := by
  refine Fn.intro' [(0, encSp p), (1, .iptr (.int c) 0)] 2 16 Tryd.func66 (by kernel_rfl) rfl rfl rfl rfl rfl ?_
  refine goB ?_
  exact Ret.bool rfl (by rw [wrap_id (by omega) (by omega), wrap_id (by omega) (by omega)]; simp)
end Go.Ab
