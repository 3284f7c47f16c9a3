/- Closed facts on the types of the program. Made by a program (gen_types.py). -/
import Derived.Test.YthgicbkdckpeaaaDoorProg
import Derived.Test.YthgicbkdckpeaaaDoorG09
import Derived.Test.YthgicbkdckpeaaaDoorG11
set_option linter.unusedSimpArgs false
set_option linter.unusedVariables false
namespace Go.Ab.Ty
open Go Go.Ab Go.Proofs
theorem follows:Tryd.prog.follows .mixedOrders=true:=by kernel_rfl
@[go_sem] theorem sz1:szTy Tryd.prog 1=some 1:=by kernel_rfl
@[go_sem] theorem agg3:aggTy Tryd.prog 3=some false:=by kernel_rfl
@[go_sem] theorem sz3:szTy Tryd.prog 3=some 1:=by kernel_rfl
@[go_sem] theorem zero3:zeroA Tryd.prog 3=some (.base (.int .i64 (0))):=by kernel_rfl
@[go_sem] theorem el3:elI Tryd.prog 3 1 8=true:=by kernel_rfl
@[go_sem] theorem agg4:aggTy Tryd.prog 4=some false:=by kernel_rfl
@[go_sem] theorem sz4:szTy Tryd.prog 4=some 1:=by kernel_rfl
@[go_sem] theorem agg9:aggTy Tryd.prog 9=some false:=by kernel_rfl
@[go_sem] theorem sz9:szTy Tryd.prog 9=some 1:=by kernel_rfl
@[go_sem] theorem el9:elI Tryd.prog 9 1 16=true:=by kernel_rfl
@[go_sem] theorem agg22:aggTy Tryd.prog 22=some false:=by kernel_rfl
@[go_sem] theorem sz22:szTy Tryd.prog 22=some 1:=by kernel_rfl
@[go_sem] theorem agg24:aggTy Tryd.prog 24=some true:=by kernel_rfl
@[go_sem] theorem sz24:szTy Tryd.prog 24=some 3:=by kernel_rfl
@[go_sem] theorem zero24:zeroA Tryd.prog 24=some (.agg [.base (.slice none 0 0),.base (.slice none 0 0),.base (.int .i64 (0))]):=by kernel_rfl
@[go_sem] theorem pl24:placesOf Tryd.prog 24=some [(0,1),(1,1),(2,1)]:=by kernel_rfl
@[go_sem] theorem off24_0:fieldOff Tryd.prog 24 0=some 0:=by kernel_rfl
@[go_sem] theorem off24_1:fieldOff Tryd.prog 24 1=some 1:=by kernel_rfl
@[go_sem] theorem off24_2:fieldOff Tryd.prog 24 2=some 2:=by kernel_rfl
@[go_sem] theorem agg25:aggTy Tryd.prog 25=some false:=by kernel_rfl
@[go_sem] theorem sz25:szTy Tryd.prog 25=some 1:=by kernel_rfl
@[go_sem] theorem el25:elI Tryd.prog 25 1 24=true:=by kernel_rfl
@[go_sem] theorem agg29:aggTy Tryd.prog 29=some false:=by kernel_rfl
@[go_sem] theorem sz29:szTy Tryd.prog 29=some 1:=by kernel_rfl
@[go_sem] theorem agg30:aggTy Tryd.prog 30=some false:=by kernel_rfl
@[go_sem] theorem sz30:szTy Tryd.prog 30=some 1:=by kernel_rfl
@[go_sem] theorem agg32:aggTy Tryd.prog 32=some true:=by kernel_rfl
@[go_sem] theorem sz32:szTy Tryd.prog 32=some 6:=by kernel_rfl
@[go_sem] theorem zero32:zeroA Tryd.prog 32=some (.agg [.base (.slice none 0 0),.base (.slice none 0 0),.base (.slice none 0 0),.base (.slice none 0 0),.base (.bool false),.base (.int .i64 (0))]):=by kernel_rfl
@[go_sem] theorem pl32:placesOf Tryd.prog 32=some [(0,1),(1,1),(2,1),(3,1),(4,1),(5,1)]:=by kernel_rfl
@[go_sem] theorem off32_0:fieldOff Tryd.prog 32 0=some 0:=by kernel_rfl
@[go_sem] theorem off32_2:fieldOff Tryd.prog 32 2=some 2:=by kernel_rfl
@[go_sem] theorem off32_3:fieldOff Tryd.prog 32 3=some 3:=by kernel_rfl
@[go_sem] theorem off32_4:fieldOff Tryd.prog 32 4=some 4:=by kernel_rfl
@[go_sem] theorem off32_5:fieldOff Tryd.prog 32 5=some 5:=by kernel_rfl
@[go_sem] theorem sz63:szTy Tryd.prog 63=some 2:=by kernel_rfl
@[go_sem] theorem zero63:zeroA Tryd.prog 63=some (.agg [.base (.int .i64 (0)),.base (.int .i64 (0))]):=by kernel_rfl
@[go_sem] theorem el63:elI Tryd.prog 63 2 16=true:=by kernel_rfl
@[go_sem] theorem agg66:aggTy Tryd.prog 66=some false:=by kernel_rfl
@[go_sem] theorem sz66:szTy Tryd.prog 66=some 1:=by kernel_rfl
@[go_sem] theorem agg68:aggTy Tryd.prog 68=some true:=by kernel_rfl
@[go_sem] theorem sz68:szTy Tryd.prog 68=some 3:=by kernel_rfl
@[go_sem] theorem zero68:zeroA Tryd.prog 68=some (.agg [.base (.int .i64 (0)),.base (.int .i64 (0)),.base (.slice none 0 0)]):=by kernel_rfl
@[go_sem] theorem pl68:placesOf Tryd.prog 68=some [(0,1),(1,1),(2,1)]:=by kernel_rfl
@[go_sem] theorem off68_0:fieldOff Tryd.prog 68 0=some 0:=by kernel_rfl
@[go_sem] theorem off68_1:fieldOff Tryd.prog 68 1=some 1:=by kernel_rfl
@[go_sem] theorem off68_2:fieldOff Tryd.prog 68 2=some 2:=by kernel_rfl
@[go_sem] theorem agg70:aggTy Tryd.prog 70=some true:=by kernel_rfl
@[go_sem] theorem sz70:szTy Tryd.prog 70=some 6:=by kernel_rfl
@[go_sem] theorem zero70:zeroA Tryd.prog 70=some (.agg [.base (.int .i64 (0)),.base (.int .i64 (0)),.base (.int .i64 (0)),.base (.int .i64 (0)),.base (.int .i64 (0)),.base (.slice none 0 0)]):=by kernel_rfl
@[go_sem] theorem pl70:placesOf Tryd.prog 70=some [(0,1),(1,1),(2,1),(3,1),(4,1),(5,1)]:=by kernel_rfl
@[go_sem] theorem off70_0:fieldOff Tryd.prog 70 0=some 0:=by kernel_rfl
@[go_sem] theorem off70_1:fieldOff Tryd.prog 70 1=some 1:=by kernel_rfl
@[go_sem] theorem off70_2:fieldOff Tryd.prog 70 2=some 2:=by kernel_rfl
@[go_sem] theorem off70_3:fieldOff Tryd.prog 70 3=some 3:=by kernel_rfl
@[go_sem] theorem off70_4:fieldOff Tryd.prog 70 4=some 4:=by kernel_rfl
@[go_sem] theorem off70_5:fieldOff Tryd.prog 70 5=some 5:=by kernel_rfl
@[go_sem] theorem agg73:aggTy Tryd.prog 73=some true:=by kernel_rfl
@[go_sem] theorem sz73:szTy Tryd.prog 73=some 4:=by kernel_rfl
@[go_sem] theorem zero73:zeroA Tryd.prog 73=some (.agg [.base (.int .i64 (0)),.base (.int .i64 (0)),.base (.bool false),.base (.int .i64 (0))]):=by kernel_rfl
@[go_sem] theorem el73:elI Tryd.prog 73 4 32=true:=by kernel_rfl
@[go_sem] theorem pl73:placesOf Tryd.prog 73=some [(0,1),(1,1),(2,1),(3,1)]:=by kernel_rfl
@[go_sem] theorem off73_1:fieldOff Tryd.prog 73 1=some 1:=by kernel_rfl
@[go_sem] theorem off73_2:fieldOff Tryd.prog 73 2=some 2:=by kernel_rfl
@[go_sem] theorem off73_3:fieldOff Tryd.prog 73 3=some 3:=by kernel_rfl
@[go_sem] theorem agg75:aggTy Tryd.prog 75=some true:=by kernel_rfl
@[go_sem] theorem sz75:szTy Tryd.prog 75=some 8:=by kernel_rfl
@[go_sem] theorem zero75:zeroA Tryd.prog 75=some (.agg [.base (.slice none 0 0),.base (.slice none 0 0),.base (.int .i64 (0)),.base (.int .i64 (0)),.base (.int .i64 (0)),.base (.slice none 0 0),.base (.int .i64 (0)),.base (.bool false)]):=by kernel_rfl
@[go_sem] theorem pl75:placesOf Tryd.prog 75=some [(0,3),(3,3),(6,1),(7,1)]:=by kernel_rfl
@[go_sem] theorem off75_0:fieldOff Tryd.prog 75 0=some 0:=by kernel_rfl
@[go_sem] theorem off75_1:fieldOff Tryd.prog 75 1=some 3:=by kernel_rfl
@[go_sem] theorem off75_2:fieldOff Tryd.prog 75 2=some 6:=by kernel_rfl
@[go_sem] theorem off75_3:fieldOff Tryd.prog 75 3=some 7:=by kernel_rfl
@[go_sem] theorem agg76:aggTy Tryd.prog 76=some false:=by kernel_rfl
@[go_sem] theorem sz76:szTy Tryd.prog 76=some 1:=by kernel_rfl
@[go_sem] theorem zero76:zeroA Tryd.prog 76=some (.base (.pointer none)):=by kernel_rfl
@[go_sem] theorem agg79:aggTy Tryd.prog 79=some false:=by kernel_rfl
@[go_sem] theorem sz79:szTy Tryd.prog 79=some 1:=by kernel_rfl
@[go_sem] theorem agg80:aggTy Tryd.prog 80=some false:=by kernel_rfl
@[go_sem] theorem sz80:szTy Tryd.prog 80=some 1:=by kernel_rfl
@[go_sem] theorem agg81:aggTy Tryd.prog 81=some false:=by kernel_rfl
@[go_sem] theorem sz81:szTy Tryd.prog 81=some 1:=by kernel_rfl
@[go_sem] theorem zero83:zeroA Tryd.prog 83=some (.agg [.base (.slice none 0 0),.base (.slice none 0 0),.base (.int .i64 (0)),.base (.slice none 0 0),.base (.int .i64 (0)),.base (.slice none 0 0),.base (.slice none 0 0),.base (.slice none 0 0),.base (.slice none 0 0),.base (.slice none 0 0),.base (.slice none 0 0),.base (.slice none 0 0),.base (.slice none 0 0)]):=by kernel_rfl
@[go_sem] theorem pl83:placesOf Tryd.prog 83=some [(0,3),(3,1),(4,1),(5,1),(6,1),(7,1),(8,1),(9,1),(10,1),(11,1),(12,1)]:=by kernel_rfl
@[go_sem] theorem off83_0:fieldOff Tryd.prog 83 0=some 0:=by kernel_rfl
@[go_sem] theorem off83_1:fieldOff Tryd.prog 83 1=some 3:=by kernel_rfl
@[go_sem] theorem off83_2:fieldOff Tryd.prog 83 2=some 4:=by kernel_rfl
@[go_sem] theorem off83_3:fieldOff Tryd.prog 83 3=some 5:=by kernel_rfl
@[go_sem] theorem off83_4:fieldOff Tryd.prog 83 4=some 6:=by kernel_rfl
@[go_sem] theorem off83_5:fieldOff Tryd.prog 83 5=some 7:=by kernel_rfl
@[go_sem] theorem off83_6:fieldOff Tryd.prog 83 6=some 8:=by kernel_rfl
@[go_sem] theorem off83_7:fieldOff Tryd.prog 83 7=some 9:=by kernel_rfl
@[go_sem] theorem off83_8:fieldOff Tryd.prog 83 8=some 10:=by kernel_rfl
@[go_sem] theorem off83_9:fieldOff Tryd.prog 83 9=some 11:=by kernel_rfl
@[go_sem] theorem off83_10:fieldOff Tryd.prog 83 10=some 12:=by kernel_rfl
@[go_sem] theorem agg84:aggTy Tryd.prog 84=some false:=by kernel_rfl
@[go_sem] theorem sz84:szTy Tryd.prog 84=some 1:=by kernel_rfl
@[go_sem] theorem el84:elI Tryd.prog 84 1 8=true:=by kernel_rfl
@[go_sem] theorem agg85:aggTy Tryd.prog 85=some false:=by kernel_rfl
@[go_sem] theorem sz85:szTy Tryd.prog 85=some 1:=by kernel_rfl
@[go_sem] theorem agg86:aggTy Tryd.prog 86=some false:=by kernel_rfl
@[go_sem] theorem sz86:szTy Tryd.prog 86=some 1:=by kernel_rfl
@[go_sem] theorem zero88:zeroA Tryd.prog 88=some (.agg [.base (.slice none 0 0),.base (.int .i64 (0)),.base (.bool false),.base (.int .i64 (0)),.base (.slice none 0 0),.base (.map none),.base (.int .i64 (0)),.base (.int .i64 (0)),.base (.int .i64 (0)),.base (.int .i64 (0)),.base (.slice none 0 0),.base (.slice none 0 0)]):=by kernel_rfl
@[go_sem] theorem pl88:placesOf Tryd.prog 88=some [(0,1),(1,1),(2,1),(3,1),(4,1),(5,1),(6,1),(7,1),(8,1),(9,1),(10,1),(11,1)]:=by kernel_rfl
@[go_sem] theorem off88_0:fieldOff Tryd.prog 88 0=some 0:=by kernel_rfl
@[go_sem] theorem off88_1:fieldOff Tryd.prog 88 1=some 1:=by kernel_rfl
@[go_sem] theorem off88_2:fieldOff Tryd.prog 88 2=some 2:=by kernel_rfl
@[go_sem] theorem off88_3:fieldOff Tryd.prog 88 3=some 3:=by kernel_rfl
@[go_sem] theorem off88_4:fieldOff Tryd.prog 88 4=some 4:=by kernel_rfl
@[go_sem] theorem off88_5:fieldOff Tryd.prog 88 5=some 5:=by kernel_rfl
@[go_sem] theorem off88_6:fieldOff Tryd.prog 88 6=some 6:=by kernel_rfl
@[go_sem] theorem off88_7:fieldOff Tryd.prog 88 7=some 7:=by kernel_rfl
@[go_sem] theorem off88_8:fieldOff Tryd.prog 88 8=some 8:=by kernel_rfl
@[go_sem] theorem off88_9:fieldOff Tryd.prog 88 9=some 9:=by kernel_rfl
@[go_sem] theorem off88_10:fieldOff Tryd.prog 88 10=some 10:=by kernel_rfl
@[go_sem] theorem off88_11:fieldOff Tryd.prog 88 11=some 11:=by kernel_rfl
@[go_sem] theorem agg122:aggTy Tryd.prog 122=some true:=by kernel_rfl
@[go_sem] theorem sz122:szTy Tryd.prog 122=some 8:=by kernel_rfl
@[go_sem] theorem agg124:aggTy Tryd.prog 124=some true:=by kernel_rfl
@[go_sem] theorem sz124:szTy Tryd.prog 124=some 10:=by kernel_rfl
@[go_sem] theorem zero124:zeroA Tryd.prog 124=some (.agg [.base (.int .i64 (0)),.base (.int .i64 (0)),.base (.int .i64 (0)),.base (.int .i64 (0)),.base (.int .i64 (0)),.base (.int .i64 (0)),.base (.int .i64 (0)),.base (.int .i64 (0)),.base (.int .i64 (0)),.base (.int .i64 (0))]):=by kernel_rfl
@[go_sem] theorem pl124:placesOf Tryd.prog 124=some [(0,8),(8,1),(9,1)]:=by kernel_rfl
@[go_sem] theorem off124_0:fieldOff Tryd.prog 124 0=some 0:=by kernel_rfl
@[go_sem] theorem off124_1:fieldOff Tryd.prog 124 1=some 8:=by kernel_rfl
@[go_sem] theorem off124_2:fieldOff Tryd.prog 124 2=some 9:=by kernel_rfl
@[go_sem] theorem agg135:aggTy Tryd.prog 135=some false:=by kernel_rfl
@[go_sem] theorem sz135:szTy Tryd.prog 135=some 1:=by kernel_rfl
@[go_sem] theorem el135:elI Tryd.prog 135 1 8=true:=by kernel_rfl
@[go_sem] theorem zero140:zeroA Tryd.prog 140=some (.agg [.base (.int .i64 (0)),.base (.int .i64 (0)),.base (.slice none 0 0),.base (.slice none 0 0),.base (.int .i64 (0)),.base (.int .i64 (0))]):=by kernel_rfl
@[go_sem] theorem pl140:placesOf Tryd.prog 140=some [(0,3),(3,1),(4,1),(5,1)]:=by kernel_rfl
@[go_sem] theorem off140_0:fieldOff Tryd.prog 140 0=some 0:=by kernel_rfl
@[go_sem] theorem off140_1:fieldOff Tryd.prog 140 1=some 3:=by kernel_rfl
@[go_sem] theorem off140_2:fieldOff Tryd.prog 140 2=some 4:=by kernel_rfl
@[go_sem] theorem off140_3:fieldOff Tryd.prog 140 3=some 5:=by kernel_rfl
@[go_sem] theorem sz157:szTy Tryd.prog 157=some 2:=by kernel_rfl
@[go_sem] theorem zero157:zeroA Tryd.prog 157=some (.agg [.base (.int .i64 (0)),.base (.int .i64 (0))]):=by kernel_rfl
@[go_sem] theorem el157:elI Tryd.prog 157 2 16=true:=by kernel_rfl
@[go_sem] theorem pl157:placesOf Tryd.prog 157=some [(0,1),(1,1)]:=by kernel_rfl
@[go_sem] theorem off157_0:fieldOff Tryd.prog 157 0=some 0:=by kernel_rfl
@[go_sem] theorem off157_1:fieldOff Tryd.prog 157 1=some 1:=by kernel_rfl
attribute [go_sem] Tryd.underlying0 Tryd.underlying1 Tryd.underlying2 Tryd.underlying3 Tryd.underlying4 Tryd.underlying5 Tryd.underlying6 Tryd.underlying7 Tryd.underlying8 Tryd.underlying9 Tryd.underlying10 Tryd.underlying11 Tryd.underlying12 Tryd.underlying13 Tryd.underlying14 Tryd.underlying15 Tryd.underlying16 Tryd.underlying17 Tryd.underlying18 Tryd.underlying19 Tryd.underlying20 Tryd.underlying21 Tryd.underlying22 Tryd.underlying23 Tryd.underlying24 Tryd.underlying25 Tryd.underlying26 Tryd.underlying27 Tryd.underlying28 Tryd.underlying29 Tryd.underlying30 Tryd.underlying31 Tryd.underlying32 Tryd.underlying33 Tryd.underlying34 Tryd.underlying35 Tryd.underlying36 Tryd.underlying37 Tryd.underlying38 Tryd.underlying39 Tryd.underlying40 Tryd.underlying41 Tryd.underlying42 Tryd.underlying43 Tryd.underlying44 Tryd.underlying45 Tryd.underlying46 Tryd.underlying47 Tryd.underlying48 Tryd.underlying49 Tryd.underlying50 Tryd.underlying51 Tryd.underlying52 Tryd.underlying53 Tryd.underlying54 Tryd.underlying55 Tryd.underlying56 Tryd.underlying57 Tryd.underlying58 Tryd.underlying59 Tryd.underlying60 Tryd.underlying61 Tryd.underlying62 Tryd.underlying63 Tryd.underlying64 Tryd.underlying65 Tryd.underlying66 Tryd.underlying67 Tryd.underlying68 Tryd.underlying69 Tryd.underlying70 Tryd.underlying71 Tryd.underlying72 Tryd.underlying73 Tryd.underlying74 Tryd.underlying75 Tryd.underlying76 Tryd.underlying77 Tryd.underlying78 Tryd.underlying79 Tryd.underlying80 Tryd.underlying81 Tryd.underlying82 Tryd.underlying83 Tryd.underlying84 Tryd.underlying85 Tryd.underlying86 Tryd.underlying87 Tryd.underlying88 Tryd.underlying89 Tryd.underlying90 Tryd.underlying91 Tryd.underlying92 Tryd.underlying93 Tryd.underlying94 Tryd.underlying95 Tryd.underlying96 Tryd.underlying97 Tryd.underlying98 Tryd.underlying99 Tryd.underlying100 Tryd.underlying101 Tryd.underlying102 Tryd.underlying103 Tryd.underlying104 Tryd.underlying105 Tryd.underlying106 Tryd.underlying107 Tryd.underlying108 Tryd.underlying109 Tryd.underlying110 Tryd.underlying111 Tryd.underlying112 Tryd.underlying113 Tryd.underlying114 Tryd.underlying115 Tryd.underlying116 Tryd.underlying117 Tryd.underlying118 Tryd.underlying119 Tryd.underlying120 Tryd.underlying121 Tryd.underlying122 Tryd.underlying123 Tryd.underlying124 Tryd.underlying125 Tryd.underlying126 Tryd.underlying127 Tryd.underlying128 Tryd.underlying129 Tryd.underlying130 Tryd.underlying131 Tryd.underlying132 Tryd.underlying133 Tryd.underlying134 Tryd.underlying135 Tryd.underlying136 Tryd.underlying137 Tryd.underlying138 Tryd.underlying139 Tryd.underlying140 Tryd.underlying141 Tryd.underlying142 Tryd.underlying143 Tryd.underlying144 Tryd.underlying145 Tryd.underlying146 Tryd.underlying147 Tryd.underlying148 Tryd.underlying149 Tryd.underlying150 Tryd.underlying151 Tryd.underlying152 Tryd.underlying153 Tryd.underlying154 Tryd.underlying155 Tryd.underlying156 Tryd.underlying157 Tryd.underlying158 Tryd.underlying159 Tryd.underlying160 Tryd.underlying161 Tryd.underlying162 Tryd.underlying163 Tryd.underlying164 Tryd.underlying165 Tryd.underlying166 Tryd.underlying167 Tryd.underlying168 Tryd.underlying169 Tryd.underlying170 Tryd.underlying171 Tryd.underlying172 Tryd.underlying173 Tryd.underlying174 Tryd.underlying175 Tryd.underlying176 Tryd.underlying177 Tryd.underlying178 Tryd.underlying179 Tryd.underlying180 Tryd.underlying181 Tryd.underlying182 Tryd.underlying183 Tryd.underlying184 Tryd.underlying185 Tryd.underlying186 Tryd.underlying187 Tryd.underlying188 Tryd.underlying189 Tryd.underlying190 Tryd.underlying191 Tryd.underlying192 Tryd.underlying193 Tryd.underlying194 Tryd.underlying195 Tryd.underlying196 Tryd.underlying197 Tryd.underlying198 Tryd.underlying199
end Go.Ab.Ty
set_option maxHeartbeats 4000000
namespace Go.Ab
open Go Go.Ab Go.Proofs Go.Ab.Ty
structure Stp where
 op:Int
 v:Int
 w:Int
 n:Int
 task:Int
 vars:List Int
structure Cd where
 params:Int
 vars:Int
 steps:List Stp
structure Tk where
 codes:List Cd
 methods:List Cd
 actors:Int
def encI (x:Int):AV:=.base (.int .i64 x)
@[go_sem] theorem encI_eq (x:Int):encI x=.base (.int .i64 x):=rfl
def encS (s:Stp):AV:=.agg [.int s.op,.int s.v,.int s.w,.int s.n,.int s.task,.lst (s.vars.map .int)]
def encC (c:Cd):AV:=.agg [.int c.params,.int c.vars,.lst (c.steps.map encS)]
def encT (p:Tk):AV:=.agg [.lst (p.codes.map encC),.lst (p.methods.map encC),.int p.actors]
attribute [go_sem] encS encC encT List.length_map
structure Lk where
 p:Tk
 c:Cd
 own:Int
 method:Bool
def encL (l:Lk):AV:=.agg [.lst (l.p.codes.map encC),.lst (l.p.methods.map encC),.int l.p.actors,.int l.c.params,.int l.c.vars,.lst (l.c.steps.map encS),.int l.own,.base (.bool l.method)]
attribute [go_sem] encL
theorem Pu_mapS (l:List Stp):Pu (.lst (l.map encS)):=.lst fun e he c hc=>by
 obtain ⟨x,_,rfl⟩:=List.mem_map.1 he
 simp only [encS,AV.cells,List.mem_cons,List.not_mem_nil,or_false] at hc
 rcases hc with rfl|rfl|rfl|rfl|rfl|rfl<;>first|exact .base _|exact Pu_mapInt _
theorem Pu_encS (s:Stp):Pu (encS s):=.agg fun c hc=>by
 simp only [List.mem_cons,List.not_mem_nil,or_false] at hc
 rcases hc with rfl|rfl|rfl|rfl|rfl|rfl<;>first|exact .base _|exact Pu_mapInt _
theorem Pu_encC (s:Cd):Pu (encC s):=.agg fun c hc=>by
 simp only [List.mem_cons,List.not_mem_nil,or_false] at hc
 rcases hc with rfl|rfl|rfl<;>first|exact .base _|exact Pu_mapS _
theorem Pu_mapC (l:List Cd):Pu (.lst (l.map encC)):=.lst fun e he c hc=>by
 obtain ⟨x,_,rfl⟩:=List.mem_map.1 he
 simp only [encC,AV.cells,List.mem_cons,List.not_mem_nil,or_false] at hc
 rcases hc with rfl|rfl|rfl<;>first|exact .base _|exact Pu_mapS _
theorem Pu_encT (s:Tk):Pu (encT s):=.agg fun c hc=>by
 simp only [List.mem_cons,List.not_mem_nil,or_false] at hc
 rcases hc with rfl|rfl|rfl<;>first|exact .base _|exact Pu_mapC _
theorem Pu_encL (s:Lk):Pu (encL s):=.agg fun c hc=>by
 simp only [List.mem_cons,List.not_mem_nil,or_false] at hc
 rcases hc with rfl|rfl|rfl|rfl|rfl|rfl|rfl|rfl<;>first|exact .base _|exact Pu_mapC _|exact Pu_mapS _
def Stp.Bd (s:Stp):Prop:=s.vars.length≤9223372036854775807
def Cd.Bd (c:Cd):Prop:=c.steps.length≤9223372036854775807∧∀s∈c.steps,s.Bd
def Tk.Bd (p:Tk):Prop:=p.codes.length≤9223372036854775807∧p.methods.length≤9223372036854775807∧(∀c∈p.codes,c.Bd)∧(∀c∈p.methods,c.Bd)
section
variable {w:World} {O:Nat→Prop} {ι:Nat→Option Nat} {H:List ABlk} {u:Value}
theorem VR.bdL {l:List Stp} (h:VR w O ι H (.lst (l.map encS)) u):l.length≤9223372036854775807∧∀s∈l,s.Bd:=by
 refine ⟨by simpa using h.lst_len,fun s hs=>?_⟩
 obtain ⟨v,hv⟩:=h.lst_el (List.mem_map_of_mem hs) (j:=5) rfl
 simpa [Stp.Bd] using hv.lst_len
theorem VR.bdC {c:Cd} (h:VR w O ι H (encC c) u):c.Bd:=by
 obtain ⟨v,hv⟩:=h.agg_el (j:=2) rfl
 exact hv.bdL
theorem VR.bdM {l:List Cd} (h:VR w O ι H (.lst (l.map encC)) u):l.length≤9223372036854775807∧∀c∈l,c.Bd:=by
 refine ⟨by simpa using h.lst_len,fun s hs=>?_⟩
 obtain ⟨v,hv⟩:=h.lst_el (List.mem_map_of_mem hs) (j:=2) rfl
 exact hv.bdL
theorem VR.bdT {p:Tk} (h:VR w O ι H (encT p) u):p.Bd:=by
 obtain ⟨v,hv⟩:=h.agg_el (j:=0) rfl
 obtain ⟨v2,hv2⟩:=h.agg_el (j:=1) rfl
 exact ⟨hv.bdM.1,hv2.bdM.1,hv.bdM.2,hv2.bdM.2⟩
end
attribute [simp] Pu_mapS Pu_encS Pu_encC Pu_mapC Pu_encT Pu_encL
end Go.Ab
set_option maxHeartbeats 4000000
namespace Go.Ab.Rg
open Go Go.Ab Go.Proofs Go.Ab.Ty
def idxF (l:List Int) (v:Int):Int:=match l.findIdx? (·==v) with
 | some i=>i
 | none=>-1
theorem idx_found {l:List Int} {v:Int} {k:Nat} (hk:k<l.length) (hno:∀i (h:i<k) (h':i<l.length),l[i]≠v) (hv:v=l[k]):idxF l v=k:=by
 have:l.findIdx? (·==v)=some k:=by
  rw [List.findIdx?_eq_some_iff_getElem]
  exact ⟨hk,by simp [hv],fun j hj=>by simpa using hno j hj (by omega)⟩
 simp [idxF,this]
theorem idx_none {l:List Int} {v:Int} (hno:∀i (h:i<l.length),l[i]≠v):idxF l v = -1:=by
 have:l.findIdx? (·==v)=none:=by
  rw [List.findIdx?_eq_none_iff]
  intro x hx
  obtain ⟨i,hi,rfl⟩:=List.mem_iff_getElem.1 hx
  simpa using hno i hi
 simp [idxF,this]
theorem index_ok (l:List Int) (v:Int):Fn Tryd.prog 121 [.lst (l.map .int),.int v] (.int (idxF l v)):=by
 refine Fn.intro' [(0,.lst (l.map .int)),(1,.int v)] 2 19 Tryd.func121 (by kernel_rfl) rfl rfl rfl rfl rfl ?_
 refine AWp.learn 0 rfl fun hlen=>?_
 rw [List.length_map] at hlen
 refine goA ?_
 try simp only [List.length_map]
 refine AWp.loop (J:=fun k:Nat=>k≤l.length∧∀i (h:i<k) (h':i<l.length),l[i]≠v)
  (I:=fun k=>⟨[(8,.int k),(7,.int l.length),(0,.lst (l.map .int)),(1,.int v)],[]⟩) (μ:=fun k=>l.length-k) 0 ⟨Nat.zero_le _,by omega⟩ .wk ?_
 rintro k ⟨hk,hno⟩
 refine goA ?_
 refine ifA (fun hc=>?_) (fun hc=>?_)
 ·simp at hc
  refine goA ?_
  refine ARun.q1 rfl rfl (ql_indexAddr_lst rfl rfl Tryd.underlying25 (by omega) (e:=.int l[k]) (by simp [hc]) (by kernel_rfl)) ?_
  refine goA ?_
  refine ifA (fun hd=>?_) (fun hd=>?_)
  ·refine goA ?_
   exact Ret.data rfl (by simp at hd;rw [idx_found hc hno hd];rfl) (.base _)
  ·simp at hd
   refine goA ?_
   rw [wrap_succ (by omega)]
   refine ⟨k+1,⟨by omega,fun i h h'=>?_⟩,by omega,.wk⟩
   by_cases e:i=k
   ·subst e;exact fun h=>hd h.symm
   ·exact hno i (by omega) h'
 ·simp at hc
  refine goA ?_
  exact Ret.data rfl (by rw [idx_none (fun i h=>hno i (by omega) h)];rfl) (.base _)
theorem idxF_mem (l:List Int) (v:Int):decide (0≤idxF l v)=l.contains v:=by
 unfold idxF
 cases h:l.findIdx? (·==v) with
 | none =>
   rw [List.findIdx?_eq_none_iff] at h
   have:¬v∈l:=fun hm=>by simpa using h v hm
   simp [this]
 | some i =>
   rw [List.findIdx?_eq_some_iff_getElem] at h
   obtain ⟨hi,he,_⟩:=h
   have:v∈l:=by rw [← beq_iff_eq.1 he];exact List.getElem_mem _
   simp [this]
theorem contains_ok (l:List Int) (v:Int):Fn Tryd.prog 105 [.lst (l.map .int),.int v] (.bool (l.contains v)):=by
 refine Fn.intro' [(0,.lst (l.map .int)),(1,.int v)] 2 9 Tryd.func105 (by kernel_rfl) rfl rfl rfl rfl rfl ?_
 refine goA ?_
 refine ARun.q1 rfl rfl (ql_call rfl rfl (by simp [lk,ev,Pu_mapInt,Pu.base]) (index_ok l v)) ?_
 refine goA ?_
 exact Ret.data rfl (by simp only [go_sem];rw [← idxF_mem]) (.base _)
end Go.Ab.Rg
set_option maxHeartbeats 4000000
namespace Go.Ab.Rg
open Go Go.Ab Go.Proofs Go.Ab.Ty
def okVars (cv:Int) (vs:List Int):Prop:=(∀v∈vs,0≤v∧v<cv)∧vs.Nodup
instance (cv:Int) (vs:List Int):Decidable (okVars cv vs):=by unfold okVars;infer_instance
theorem okVars_bad {cv:Int} {vs:List Int} {k:Nat} (hk:k<vs.length) (h:vs[k]<0∨cv≤vs[k]∨vs[k]∈vs.take k):¬okVars cv vs:=by
 rintro ⟨h1,h2⟩
 have:=h1 _ (List.getElem_mem hk)
 rcases h with h|h|h
 ·omega
 ·omega
 ·obtain ⟨i,hi,he⟩:=List.mem_iff_getElem.1 h
  rw [List.length_take] at hi
  rw [List.getElem_take] at he
  rw [List.nodup_iff_pairwise_ne,List.pairwise_iff_getElem] at h2
  exact h2 i k (by omega) hk (by omega) he
theorem okVars_good {cv:Int} {vs:List Int} (h:∀k (hk:k<vs.length),0≤vs[k]∧vs[k]<cv∧vs[k]∉vs.take k):okVars cv vs:=by
 refine ⟨fun v hv=>?_,?_⟩
 ·obtain ⟨i,hi,rfl⟩:=List.mem_iff_getElem.1 hv
  exact ⟨(h i hi).1,(h i hi).2.1⟩
 ·rw [List.nodup_iff_pairwise_ne,List.pairwise_iff_getElem]
  intro i j hi hj hij he
  refine (h j hj).2.2 (List.mem_iff_getElem.2 ⟨i,by rw [List.length_take];omega,?_⟩)
  rw [List.getElem_take];exact he
theorem vars_ok (l:Lk) (vs:List Int) (n:Int):Fn Tryd.prog 78 [encL l,.lst (vs.map .int),.int n] (.bool (decide (vs.length=n∧okVars l.c.vars vs))):=by
 refine Fn.intro' [(0,encL l),(1,.lst (vs.map .int)),(2,.int n)] 3 37 Tryd.func78 (by kernel_rfl) rfl rfl rfl rfl rfl ?_
 refine AWp.learn 1 rfl fun hlen=>?_
 rw [List.length_map] at hlen
 refine goA ?_
 refine ifA (fun hc=>?_) (fun hc=>?_)
 ·refine goA ?_
  exact Ret.data rfl (by simp at hc;simp [hc,packA,lk]) (.base _)
 simp at hc
 refine goA ?_
 refine AWp.loop (J:=fun k:Nat=>k≤vs.length∧∀i (h:i<k) (h':i<vs.length),0≤vs[i]∧vs[i]<l.c.vars∧vs[i]∉vs.take i)
  (I:=fun k=>⟨[(15,.int k),(14,.int vs.length),(13,.lst (vs.map .int)),(1,.lst (vs.map .int)),(3,.ptr 0 1 0 0)],[⟨75,8,[encL l]⟩]⟩) (μ:=fun k=>vs.length-k) 0 ⟨Nat.zero_le _,by omega⟩ .wk ?_
 rintro k ⟨hk,hno⟩
 refine goA ?_
 refine ifA (fun hd=>?_) (fun hd=>?_)
 ·simp at hd
  refine goA ?_
  refine ARun.q1 rfl rfl (ql_idx rfl rfl Tryd.underlying25 (by omega) (by omega) (by kernel_rfl)) ?_
  refine goA ?_
  refine gqA (h:=fun hg=>ql_slice_pre (l:=vs) (f:=.int) (by simp +decide only [go_sem]<;>rfl) (by simp +decide only [go_sem]<;>rfl) Tryd.underlying25 (by omega) (by omega) (by kernel_rfl) (fun _=>rfl)) (hr:=?_)
  refine goA ?_
  refine gcallA (i:=fun hg=>contains_ok (vs.take k) vs[k]) (hr:=?_)
  refine goA ?_
  refine ifA (fun he=>?_) (fun he=>?_)
  ·simp at he
   refine goA ?_
   have:=okVars_bad hd (or_assoc.1 he)
   exact Ret.data rfl (by simp [packA,lk,this]) (.base _)
  ·simp at he
   refine goA ?_
   rw [wrap_succ (by omega)]
   refine ⟨k+1,⟨by omega,fun i h h'=>?_⟩,by omega,.wk⟩
   by_cases e:i=k
   ·subst e;exact ⟨by omega,by omega,he.2⟩
   ·exact hno i (by omega) h'
 ·simp at hd
  refine goA ?_
  exact Ret.data rfl (by simp [packA,lk,hc];exact okVars_good fun i hi=>hno i (by omega) hi) (.base _)
end Go.Ab.Rg
set_option maxHeartbeats 4000000
namespace Go.Ab.Rg
open Go Go.Ab Go.Proofs Go.Ab.Ty
def stp0:Stp:=⟨0,0,0,0,0,[]⟩
abbrev stp (l:List Stp) (n:Int):Stp:=nth stp0 l n
theorem spawned_ok (l:Lk) (at':Int) (s:Stp) (ha:at'≤l.c.steps.length) :
 Fn Tryd.prog 79 [encL l,.int at',encS s] (.bool (decide ((0≤s.n∧s.n<at')∧(stp l.c.steps s.n).op=6))):=by
 refine Fn.intro' [(0,encL l),(1,.int at'),(2,encS s)] 3 27 Tryd.func79 (by kernel_rfl) rfl rfl rfl rfl rfl ?_
 refine goA ?_
 refine gqA (h:=fun hg=>ql_idxD (l:=l.c.steps) (f:=encS) stp0 (by simp +decide only [go_sem]<;>rfl) (by simp +decide only [go_sem]<;>rfl) Tryd.underlying66 (by simp [gc,allL] at hg;omega) (by simp [gc,allL] at hg;omega) (by kernel_rfl)) (hr:=?_)
 refine goA ?_
 exact Ret.bool rfl (by simp)
theorem step1_ok (x s:Stp):Fn Tryd.prog 81 [encS x,.iptr (encS s) 0] (.bool (decide (x.op=7∧x.n=s.n))):=by
 refine Fn.intro' [(0,encS x),(1,.iptr (encS s) 0)] 2 14 Tryd.func81 (by kernel_rfl) rfl rfl rfl rfl rfl ?_
 refine goA ?_
 exact Ret.data rfl (by simp [packA,lk]) (.base _)
def idxP (p:Stp→Bool) (l:List Stp):Int:=match l.findIdx? p with
 | some i=>i
 | none=>-1
theorem idxP_found {p:Stp→Bool} {l:List Stp} {k:Nat} (hk:k<l.length) (hno:∀i (h:i<k) (h':i<l.length),¬p l[i]) (hv:p l[k]):idxP p l=k:=by
 have:l.findIdx? p=some k:=by
  rw [List.findIdx?_eq_some_iff_getElem]
  exact ⟨hk,hv,fun j hj=>by simpa using hno j hj (by omega)⟩
 simp [idxP,this]
theorem idxP_none {p:Stp→Bool} {l:List Stp} (hno:∀i (h:i<l.length),¬p l[i]):idxP p l = -1:=by
 have:l.findIdx? p=none:=by
  rw [List.findIdx?_eq_none_iff]
  intro x hx
  obtain ⟨i,hi,rfl⟩:=List.mem_iff_getElem.1 hx
  simpa using hno i hi
 simp [idxP,this]
theorem idxP_any (p:Stp→Bool) (l:List Stp):decide (0≤idxP p l)=l.any p:=by
 unfold idxP
 cases h:l.findIdx? p with
 | none =>
   rw [List.findIdx?_eq_none_iff] at h
   have:l.any p=false:=by simpa using h
   simp [this]
 | some i =>
   rw [List.findIdx?_eq_some_iff_getElem] at h
   obtain ⟨hi,he,_⟩:=h
   have:l.any p=true:=List.any_eq_true.2 ⟨_,List.getElem_mem hi,he⟩
   simp [this]
theorem indexFunc_ok (l:List Stp) (f:FuncId) (caps:List AV) (p:Stp→Bool) (hp:∀x,Fn Tryd.prog f (encS x::caps) (.bool (p x))) (hc:∀c∈caps,Pu c) :
 Fn Tryd.prog 106 [.lst (l.map encS),.clo f caps] (.int (idxP p l)):=by
 refine Fn.intro' [(0,.lst (l.map encS)),(1,.clo f caps)] 2 19 Tryd.func106 (by kernel_rfl) rfl rfl rfl rfl rfl ?_
 refine AWp.learn 0 rfl fun hlen=>?_
 rw [List.length_map] at hlen
 refine goA ?_
 refine AWp.loop (J:=fun k:Nat=>k≤l.length∧∀i (h:i<k) (h':i<l.length),¬p l[i])
  (I:=fun k=>⟨[(8,.int k),(7,.int l.length),(0,.lst (l.map encS)),(1,.clo f caps)],[]⟩) (μ:=fun k=>l.length-k) 0 ⟨Nat.zero_le _,by omega⟩ .wk ?_
 rintro k ⟨hk,hno⟩
 refine goA ?_
 refine ifA (fun hd=>?_) (fun hd=>?_)
 ·simp at hd
  refine goA ?_
  refine ARun.q1 rfl rfl (ql_idx rfl rfl Tryd.underlying66 (by omega) (by omega) (by kernel_rfl)) ?_
  refine goA ?_
  refine ARun.q1 rfl rfl (ql_callC (hp l[k]) rfl (by simp +decide only [go_sem]<;>rfl) (by simp (decide:=true) only [go_sem,List.map]) (by simpa using hc)) ?_
  refine goA ?_
  refine ifA (fun he=>?_) (fun he=>?_)
  ·refine goA ?_
   exact Ret.data rfl (by rw [idxP_found hd hno he];rfl) (.base _)
  ·refine goA ?_
   rw [wrap_succ (by omega)]
   refine ⟨k+1,⟨by omega,fun i h h'=>?_⟩,by omega,.wk⟩
   by_cases e:i=k
   ·subst e;simp [he]
   ·exact hno i (by omega) h'
 ·simp at hd
  refine goA ?_
  exact Ret.data rfl (by rw [idxP_none fun i hi=>hno i (by omega) hi];rfl) (.base _)
theorem containsFunc_ok (l:List Stp) (f:FuncId) (caps:List AV) (p:Stp→Bool) (hp:∀x,Fn Tryd.prog f (encS x::caps) (.bool (p x))) (hc:∀c∈caps,Pu c) :
 Fn Tryd.prog 80 [.lst (l.map encS),.clo f caps] (.bool (l.any p)):=by
 refine Fn.intro' [(0,.lst (l.map encS)),(1,.clo f caps)] 2 9 Tryd.func80 (by kernel_rfl) rfl rfl rfl rfl rfl ?_
 refine goA ?_
 refine ARun.q1 rfl rfl (ql_callC (indexFunc_ok l f caps p hp hc) rfl (by simp +decide only [go_sem]<;>rfl) (by simp (decide:=true) only [go_sem,List.map]) (by simpa using Pu.clo hc)) ?_
 refine goA ?_
 exact Ret.data rfl (by simp [packA,lk,idxP_any]) (.base _)
end Go.Ab.Rg
set_option maxHeartbeats 4000000
namespace Go.Ab.Rg
open Go Go.Ab Go.Proofs Go.Ab.Ty
def cd0:Cd:=⟨0,0,[]⟩
abbrev cod (l:List Cd) (n:Int):Cd:=nth cd0 l n
abbrev plain (s:Stp):Prop:=s.v=0∧s.w=0
def noneT (s:Stp):Prop:=s.task=0∧s.vars.length=0
def spawn (l:Lk) (at':Int) (s:Stp):Prop:=(0≤s.n∧s.n<at')∧(stp l.c.steps s.n).op=6
def okStep (l:Lk) (at':Int) (s:Stp):Prop:=
 (s.op=1∨s.op=5)∧okVars l.c.vars [s.v]∧s.w=0 ∧ -1000≤s.n∧s.n≤1000∧noneT s
 ∨ (s.op=2∨s.op=3)∧okVars l.c.vars [s.v,s.w]∧s.n=0∧noneT s
 ∨ s.op=4∧okVars l.c.vars [s.v]∧s.w=0∧s.n=0∧noneT s
 ∨ s.op=6∧plain s∧0≤s.n∧s.n≤3∧0<s.task∧s.task<l.p.codes.length∧(l.method=false→l.own<s.task)∧s.vars.length=(cod l.p.codes s.task).params∧okVars l.c.vars s.vars
 ∨ (s.op=7∨s.op=10)∧plain s∧l.method=false∧noneT s∧spawn l at' s∧(s.op=7→∀x∈l.c.steps.take at'.toNat,¬(x.op=7∧x.n=s.n))
 ∨ s.op=8∧plain s∧l.method=false∧0≤s.n∧s.n<l.p.actors∧s.task=0∧(1:Int)≤s.vars.length∧(s.vars.length:Int)≤4∧okVars l.c.vars s.vars
 ∨ s.op=9∧plain s∧0≤s.n∧s.n<l.p.actors∧0≤s.task∧s.task<l.p.methods.length∧(l.method=true→s.task<l.own)∧s.vars.length=(cod l.p.methods s.task).params∧okVars l.c.vars s.vars
 ∨ (s.op=11∨s.op=12)∧plain s∧s.n=0∧noneT s
theorem Pu_cellsS (s:Stp):∀c∈(encS s).cells,Pu c:=fun c hc=>by
 simp only [encS,AV.cells,List.mem_cons,List.not_mem_nil,or_false] at hc
 rcases hc with rfl|rfl|rfl|rfl|rfl|rfl<;>first|exact .base _|exact Pu_mapInt _
theorem step_ok (l:Lk) (at':Int) (h0:0≤at') (h1:at'<l.c.steps.length) (b:Bool) (hb:b=true↔okStep l at' (stp l.c.steps at')) :
 Fn Tryd.prog 58 [encL l,.int at'] (.bool b):=by
 refine Fn.intro' [(0,encL l),(1,.int at')] 2 324 Tryd.func58 (by kernel_rfl) rfl rfl rfl rfl rfl ?_
 refine goA ?_
 refine ARun.q1 rfl rfl (ql_idxD (l:=l.c.steps) (f:=encS) stp0 rfl rfl Tryd.underlying66 h0 h1 (by kernel_rfl)) ?_
 generalize hs:nth stp0 l.c.steps at'=s
 rw [stp,hs] at hb
 refine goA ?_
 let S:=fun (t:Nat) (b:Bool)=>(⟨[(t,.bool b),(2,.ptr 0 1 0 0),(5,.ptr 1 1 0 0),(6,.bool (decide (plain s))),(22,.int s.op),(1,.int at')],[⟨75,8,[encL l]⟩,⟨70,6,[encS s]⟩]⟩:ASt)
 have hpl:(bif decide (s.v=0) then decide (s.w=0) else false)=decide (plain s):=by rw [Bool.eq_iff_iff];simp
 refine AWp.join (S 23 (decide (s.op=1∨s.op=5))) ?_ ?_
 ·refine ifA (fun ho=>?_) (fun ho=>?_)
  ·refine goA ?_
   exact .env' (by simp (decide:=true) only [go_sem,hpl];simp at ho;simp [ho,Le.refl])
  ·refine goA ?_
   exact .env' (by simp (decide:=true) only [go_sem,hpl];simp at ho;simp [ho,Le.refl])
 simp only [S]
 refine ifA (fun ho=>?_) (fun ho=>?_)
 ·simp at ho
  refine goA ?_
  refine bslA Tryd.underlying25 sz3 ?_
  refine goA ?_
  refine callA (vars_ok l [s.v] 1) ?_
  refine goA ?_
  exact Ret.bool rfl (by rw [hb];rcases ho with ho|ho<;>simp [okStep,ho,noneT,and_assoc])
 simp at ho
 refine goA ?_
 refine AWp.join (S 57 (decide (s.op=2∨s.op=3))) ?_ ?_
 ·refine ifA (fun h2=>?_) (fun h2=>?_)
  ·refine goA ?_
   exact .env' (by simp (decide:=true) only [go_sem,hpl];simp at h2;simp [h2,Le.refl])
  ·refine goA ?_
   exact .env' (by simp (decide:=true) only [go_sem,hpl];simp at h2;simp [h2,Le.refl])
 simp only [S]
 refine ifA (fun h2=>?_) (fun h2=>?_)
 ·simp at h2
  refine goA ?_
  refine bslA Tryd.underlying25 sz3 ?_
  refine goA ?_
  refine callA (vars_ok l [s.v,s.w] 2) ?_
  refine goA ?_
  exact Ret.bool rfl (by rw [hb];rcases h2 with h2|h2<;>simp [okStep,h2,noneT,and_assoc])
 simp at h2
 refine goA ?_
 refine ifA (fun h4=>?_) (fun h4=>?_)
 ·simp at h4
  refine goA ?_
  refine bslA Tryd.underlying25 sz3 ?_
  refine goA ?_
  refine callA (vars_ok l [s.v] 1) ?_
  refine goA ?_
  exact Ret.bool rfl (by rw [hb];simp [okStep,h4,noneT,and_assoc])
 simp at h4
 refine goA ?_
 refine ifA (fun h6=>?_) (fun h6=>?_)
 ·simp at h6
  refine goA ?_
  refine ifA (fun hc=>?_) (fun hc=>?_)
  ·refine goA ?_
   exact Ret.bool rfl (by rw [hb];simp [okStep,h6];simp at hc;intro e1 e2 e3 e4 e5 e6 e7 e8;rcases hc with ((((((h|h)|h)|h)|h)|h)|⟨h,h'⟩)<;>first|exact absurd e1 h|exact absurd e2 h|omega|(have:=e7 h;omega))
  simp at hc
  refine goA ?_
  refine drA (k:=12) follows (hr:=?_)
  refine goA ?_
  refine ARun.q1 rfl rfl (ql_idxD (l:=l.p.codes) (f:=encC) cd0 rfl rfl Tryd.underlying22 (by omega) (by omega) (by kernel_rfl)) ?_
  refine goA ?_
  refine callA (vars_ok l s.vars (cod l.p.codes s.task).params) ?_
  refine goA ?_
  exact Ret.bool rfl (by rw [hb];simp [okStep,h6,plain];intros;simp_all)
 simp at h6
 refine goA ?_
 refine AWp.join (S 163 (decide (s.op=7∨s.op=10))) ?_ ?_
 ·refine ifA (fun h2=>?_) (fun h2=>?_)
  ·refine goA ?_
   exact .env' (by simp (decide:=true) only [go_sem,hpl];simp at h2;simp [h2,Le.refl])
  ·refine goA ?_
   exact .env' (by simp (decide:=true) only [go_sem,hpl];simp at h2;simp [h2,Le.refl])
 simp only [S]
 refine ifA (fun h7=>?_) (fun h7=>?_)
 ·simp at h7
  refine goA ?_
  refine gcallA (i:=fun hg=>spawned_ok l at' s (by omega)) (hr:=?_)
  refine goA ?_
  refine ifA (fun hc=>?_) (fun hc=>?_)
  ·refine goA ?_
   exact Ret.bool rfl (by rw [hb];simp at hc;rcases h7 with h|h<;>simp [okStep,h,spawn,noneT,plain]<;>intro e1 e2 e3 e4 e5 e6 e7<;>rcases hc with ((((h|h)|h)|h)|h)|((h|h)|h)<;>simp_all<;>omega)
  simp at hc
  refine goA ?_
  refine gqA (h:=fun hg=>ql_slice_pre (l:=l.c.steps) (f:=encS) (by simp +decide only [go_sem]<;>rfl) (by simp +decide only [go_sem]<;>rfl) Tryd.underlying66 (by omega) (by omega) sz70 (fun _=>rfl)) (hr:=?_)
  refine goA ?_
  refine ARun.gl rfl rfl (by simp +decide only [go_sem]<;>rfl) (fun hg=>ql_callM (args:=[.lst ((l.c.steps.take at'.toNat).map encS),.clo 81 [.iptr (encS s) 0]]) rfl (by simp +decide only [go_sem]<;>rfl) (by simp (decide:=true) only [go_sem,List.map,LendL];exact ⟨.pu (Pu_mapS _),.clo' ⟨.iptr rfl rfl rfl (.pu (Pu_cellsS s)),trivial⟩⟩) (.base _) (containsFunc_ok _ 81 [.iptr (encS s) 0] (fun x=>decide (x.op=7∧x.n=s.n)) (fun x=>step1_ok x s) (by simp [Pu.iptr (Pu_cellsS s)]))) ?_
  refine goA ?_
  exact Ret.bool rfl (by rw [hb];obtain ⟨⟨⟨⟨⟨e1,e2⟩,e3⟩,e4⟩,e5⟩,e6⟩:=hc;rcases h7 with h|h<;>simp [okStep,h,spawn,noneT,plain,e1,e2,e3,e4,e5,e6])
 simp at h7
 refine goA ?_
 refine ifA (fun h8=>?_) (fun h8=>?_)
 ·simp at h8
  refine goA ?_
  refine gcallA (i:=fun hg=>vars_ok l s.vars s.vars.length) (hr:=?_)
  refine goA ?_
  exact Ret.bool rfl (by rw [hb];simp [okStep,h8,and_assoc])
 simp at h8
 refine goA ?_
 refine ifA (fun h9=>?_) (fun h9=>?_)
 ·simp at h9
  refine goA ?_
  refine ifA (fun hc=>?_) (fun hc=>?_)
  ·refine goA ?_
   exact Ret.bool rfl (by rw [hb];simp [okStep,h9];simp at hc;intro e1 e2 e3 e4 e5 e6 e7 e8;rcases hc with ((((((h|h)|h)|h)|h)|h)|⟨h,h'⟩)<;>first|exact absurd e1 h|exact absurd e2 h|omega|(have:=e7 h;omega))
  simp at hc
  refine goA ?_
  refine drA (k:=12) follows (hr:=?_)
  refine goA ?_
  refine ARun.q1 rfl rfl (ql_idxD (l:=l.p.methods) (f:=encC) cd0 rfl rfl Tryd.underlying22 (by omega) (by omega) (by kernel_rfl)) ?_
  refine goA ?_
  refine callA (vars_ok l s.vars (cod l.p.methods s.task).params) ?_
  refine goA ?_
  exact Ret.bool rfl (by rw [hb];simp [okStep,h9,plain];intros;simp_all)
 simp at h9
 refine goA ?_
 refine AWp.join (S 304 (decide (s.op=11∨s.op=12))) ?_ ?_
 ·refine ifA (fun h2=>?_) (fun h2=>?_)
  ·refine goA ?_
   exact .env' (by simp (decide:=true) only [go_sem,hpl];simp at h2;simp [h2,Le.refl])
  ·refine goA ?_
   exact .env' (by simp (decide:=true) only [go_sem,hpl];simp at h2;simp [h2,Le.refl])
 simp only [S]
 refine ifA (fun h11=>?_) (fun h11=>?_)
 ·simp at h11
  refine goA ?_
  exact Ret.bool rfl (by rw [hb];rcases h11 with h|h<;>simp [okStep,h,noneT,and_assoc])
 simp at h11
 refine goA ?_
 exact Ret.bool rfl (by rw [hb];simp [okStep, *])
end Go.Ab.Rg
