/- Part. -/
import Derived.Test.YthgicbkdckpeaaaDoorProg
import Derived.Test.YthgicbkdckpeaaaDoorG03
set_option linter.unusedSimpArgs false
set_option linter.unusedVariables false
namespace Go
open Go.Proofs
theorem dG:type_of%@Tryd.underlying25:=@Tryd.underlying25
theorem ew:type_of%@Tryd.underlying80:=@Tryd.underlying80
theorem eO:type_of%@Tryd.underlying22:=@Tryd.underlying22
theorem eX:type_of%@Tryd.func72:=@Tryd.func72
theorem fb:type_of%@Tryd.underlying81:=@Tryd.underlying81
theorem fg:type_of%@Tryd.underlying66:=@Tryd.underlying66
theorem fp:type_of%@Tryd.underlying79:=@Tryd.underlying79
theorem fX:type_of%@Tryd.func91:=@Tryd.func91
theorem gn:type_of%@Tryd.underlying85:=@Tryd.underlying85
theorem gH:type_of%@Tryd.underlying92:=@Tryd.underlying92
theorem gL:type_of%@Tryd.underlying3:=@Tryd.underlying3
theorem im:type_of%@Tryd.underlying29:=@Tryd.underlying29
end Go
namespace Go.Ab.Ty
open Go Go.Ab Go.Proofs
theorem follows:Tryd.prog.follows .mixedOrders=true:=ag
@[go_sem] theorem sz1:lW Tryd.prog 1=some 1:=ag
@[go_sem] theorem Nc:mE Tryd.prog 3=some false:=ag
@[go_sem] theorem ny:lW Tryd.prog 3=some 1:=ag
@[go_sem] theorem D5:qd Tryd.prog 3=some (.base (.int .i64 (0))):=ag
@[go_sem] theorem ug:tD Tryd.prog 3 1 8=true:=ag
@[go_sem] theorem awI:mE Tryd.prog 4=some false:=ag
@[go_sem] theorem KX:lW Tryd.prog 4=some 1:=ag
@[go_sem] theorem sz5:lW Tryd.prog 5=some 1:=ag
@[go_sem] theorem aDE:mE Tryd.prog 9=some false:=ag
@[go_sem] theorem ZP:lW Tryd.prog 9=some 1:=ag
@[go_sem] theorem ZQ:tD Tryd.prog 9 1 16=true:=ag
@[go_sem] theorem aCU:mE Tryd.prog 22=some false:=ag
@[go_sem] theorem aDF:lW Tryd.prog 22=some 1:=ag
@[go_sem] theorem arZ:mE Tryd.prog 24=some true:=ag
@[go_sem] theorem aDG:lW Tryd.prog 24=some 3:=ag
@[go_sem] theorem aoC:qd Tryd.prog 24=some (.agg [.base (.slice none 0 0),.base (.slice none 0 0),.base (.int .i64 (0))]):=ag
@[go_sem] theorem awH:placesOf Tryd.prog 24=some [(0,1),(1,1),(2,1)]:=ag
@[go_sem] theorem aBJ:lP Tryd.prog 24 0=some 0:=ag
@[go_sem] theorem aBK:lP Tryd.prog 24 1=some 1:=ag
@[go_sem] theorem aBL:lP Tryd.prog 24 2=some 2:=ag
@[go_sem] theorem asA:mE Tryd.prog 25=some false:=ag
@[go_sem] theorem Ej:lW Tryd.prog 25=some 1:=ag
@[go_sem] theorem M8:tD Tryd.prog 25 1 24=true:=ag
@[go_sem] theorem aCV:mE Tryd.prog 29=some false:=ag
@[go_sem] theorem aDH:lW Tryd.prog 29=some 1:=ag
@[go_sem] theorem aCW:mE Tryd.prog 30=some false:=ag
@[go_sem] theorem aDI:lW Tryd.prog 30=some 1:=ag
@[go_sem] theorem aCX:mE Tryd.prog 32=some true:=ag
@[go_sem] theorem aDJ:lW Tryd.prog 32=some 6:=ag
@[go_sem] theorem HP:qd Tryd.prog 32=some (.agg [.base (.slice none 0 0),.base (.slice none 0 0),.base (.slice none 0 0),.base (.slice none 0 0),.base (.bool false),.base (.int .i64 (0))]):=ag
@[go_sem] theorem M3:placesOf Tryd.prog 32=some [(0,1),(1,1),(2,1),(3,1),(4,1),(5,1)]:=ag
@[go_sem] theorem aBM:lP Tryd.prog 32 0=some 0:=ag
@[go_sem] theorem aBN:lP Tryd.prog 32 1=some 1:=ag
@[go_sem] theorem aBO:lP Tryd.prog 32 2=some 2:=ag
@[go_sem] theorem aBP:lP Tryd.prog 32 3=some 3:=ag
@[go_sem] theorem aBQ:lP Tryd.prog 32 4=some 4:=ag
@[go_sem] theorem aBR:lP Tryd.prog 32 5=some 5:=ag
@[go_sem] theorem aCY:mE Tryd.prog 48=some false:=ag
@[go_sem] theorem aDK:lW Tryd.prog 48=some 1:=ag
@[go_sem] theorem aCZ:mE Tryd.prog 49=some false:=ag
@[go_sem] theorem aDL:lW Tryd.prog 49=some 1:=ag
@[go_sem] theorem anP:qd Tryd.prog 51=some (.agg [.base (.slice none 0 0),.base (.slice none 0 0),.base (.int .i64 (0)),.base (.slice none 0 0),.base (.slice none 0 0),.base (.slice none 0 0),.base (.slice none 0 0),.base (.slice none 0 0),.base (.slice none 0 0),.base (.slice none 0 0),.base (.slice none 0 0),.base (.int .i64 (0))]):=ag
@[go_sem] theorem avN:placesOf Tryd.prog 51=some [(0,3),(3,1),(4,1),(5,1),(6,1),(7,1),(8,1),(9,1),(10,1),(11,1)]:=ag
@[go_sem] theorem aBS:lP Tryd.prog 51 0=some 0:=ag
@[go_sem] theorem aBT:lP Tryd.prog 51 1=some 3:=ag
@[go_sem] theorem aBU:lP Tryd.prog 51 2=some 4:=ag
@[go_sem] theorem aBV:lP Tryd.prog 51 3=some 5:=ag
@[go_sem] theorem aBW:lP Tryd.prog 51 4=some 6:=ag
@[go_sem] theorem aBX:lP Tryd.prog 51 5=some 7:=ag
@[go_sem] theorem aBY:lP Tryd.prog 51 6=some 8:=ag
@[go_sem] theorem aBZ:lP Tryd.prog 51 7=some 9:=ag
@[go_sem] theorem aC0:lP Tryd.prog 51 8=some 10:=ag
@[go_sem] theorem aC1:lP Tryd.prog 51 9=some 11:=ag
@[go_sem] theorem aDM:lW Tryd.prog 63=some 2:=ag
@[go_sem] theorem anC:qd Tryd.prog 63=some (.agg [.base (.int .i64 (0)),.base (.int .i64 (0))]):=ag
@[go_sem] theorem atU:tD Tryd.prog 63 2 16=true:=ag
@[go_sem] theorem aD0:mE Tryd.prog 66=some false:=ag
@[go_sem] theorem aDN:lW Tryd.prog 66=some 1:=ag
@[go_sem] theorem arX:mE Tryd.prog 68=some true:=ag
@[go_sem] theorem awG:lW Tryd.prog 68=some 3:=ag
@[go_sem] theorem WO:qd Tryd.prog 68=some (.agg [.base (.int .i64 (0)),.base (.int .i64 (0)),.base (.slice none 0 0)]):=ag
@[go_sem] theorem awF:placesOf Tryd.prog 68=some [(0,1),(1,1),(2,1)]:=ag
@[go_sem] theorem aC2:lP Tryd.prog 68 0=some 0:=ag
@[go_sem] theorem aC3:lP Tryd.prog 68 1=some 1:=ag
@[go_sem] theorem aC4:lP Tryd.prog 68 2=some 2:=ag
@[go_sem] theorem arV:mE Tryd.prog 70=some true:=ag
@[go_sem] theorem MU:lW Tryd.prog 70=some 6:=ag
@[go_sem] theorem WN:qd Tryd.prog 70=some (.agg [.base (.int .i64 (0)),.base (.int .i64 (0)),.base (.int .i64 (0)),.base (.int .i64 (0)),.base (.int .i64 (0)),.base (.slice none 0 0)]):=ag
@[go_sem] theorem YL:placesOf Tryd.prog 70=some [(0,1),(1,1),(2,1),(3,1),(4,1),(5,1)]:=ag
@[go_sem] theorem aC5:lP Tryd.prog 70 0=some 0:=ag
@[go_sem] theorem aC6:lP Tryd.prog 70 1=some 1:=ag
@[go_sem] theorem aC7:lP Tryd.prog 70 2=some 2:=ag
@[go_sem] theorem aC8:lP Tryd.prog 70 3=some 3:=ag
@[go_sem] theorem aC9:lP Tryd.prog 70 4=some 4:=ag
@[go_sem] theorem aCa:lP Tryd.prog 70 5=some 5:=ag
@[go_sem] theorem aD1:mE Tryd.prog 73=some true:=ag
@[go_sem] theorem XH:lW Tryd.prog 73=some 4:=ag
@[go_sem] theorem Wu:qd Tryd.prog 73=some (.agg [.base (.int .i64 (0)),.base (.int .i64 (0)),.base (.bool false),.base (.int .i64 (0))]):=ag
@[go_sem] theorem XI:tD Tryd.prog 73 4 32=true:=ag
@[go_sem] theorem XG:placesOf Tryd.prog 73=some [(0,1),(1,1),(2,1),(3,1)]:=ag
@[go_sem] theorem aD2:mE Tryd.prog 75=some true:=ag
@[go_sem] theorem aDO:lW Tryd.prog 75=some 8:=ag
@[go_sem] theorem WJ:qd Tryd.prog 75=some (.agg [.base (.slice none 0 0),.base (.slice none 0 0),.base (.int .i64 (0)),.base (.int .i64 (0)),.base (.int .i64 (0)),.base (.slice none 0 0),.base (.int .i64 (0)),.base (.bool false)]):=ag
@[go_sem] theorem Yq:placesOf Tryd.prog 75=some [(0,3),(3,3),(6,1),(7,1)]:=ag
@[go_sem] theorem aCb:lP Tryd.prog 75 0=some 0:=ag
@[go_sem] theorem aCc:lP Tryd.prog 75 1=some 3:=ag
@[go_sem] theorem aCd:lP Tryd.prog 75 2=some 6:=ag
@[go_sem] theorem aCe:lP Tryd.prog 75 3=some 7:=ag
@[go_sem] theorem aD3:mE Tryd.prog 76=some false:=ag
@[go_sem] theorem aDP:lW Tryd.prog 76=some 1:=ag
@[go_sem] theorem aCL:qd Tryd.prog 76=some (.base (.pointer none)):=ag
@[go_sem] theorem aD4:mE Tryd.prog 79=some false:=ag
@[go_sem] theorem aDQ:lW Tryd.prog 79=some 1:=ag
@[go_sem] theorem aD5:mE Tryd.prog 80=some false:=ag
@[go_sem] theorem aDR:lW Tryd.prog 80=some 1:=ag
@[go_sem] theorem aD6:mE Tryd.prog 81=some false:=ag
@[go_sem] theorem aDS:lW Tryd.prog 81=some 1:=ag
@[go_sem] theorem anU:qd Tryd.prog 83=some (.agg [.base (.slice none 0 0),.base (.slice none 0 0),.base (.int .i64 (0)),.base (.slice none 0 0),.base (.int .i64 (0)),.base (.slice none 0 0),.base (.slice none 0 0),.base (.slice none 0 0),.base (.slice none 0 0),.base (.slice none 0 0),.base (.slice none 0 0),.base (.slice none 0 0),.base (.slice none 0 0)]):=ag
@[go_sem] theorem avT:placesOf Tryd.prog 83=some [(0,3),(3,1),(4,1),(5,1),(6,1),(7,1),(8,1),(9,1),(10,1),(11,1),(12,1)]:=ag
@[go_sem] theorem aCf:lP Tryd.prog 83 0=some 0:=ag
@[go_sem] theorem aCg:lP Tryd.prog 83 1=some 3:=ag
@[go_sem] theorem aCh:lP Tryd.prog 83 2=some 4:=ag
@[go_sem] theorem aCi:lP Tryd.prog 83 3=some 5:=ag
@[go_sem] theorem aCj:lP Tryd.prog 83 4=some 6:=ag
@[go_sem] theorem aCk:lP Tryd.prog 83 5=some 7:=ag
@[go_sem] theorem aCl:lP Tryd.prog 83 6=some 8:=ag
@[go_sem] theorem aCm:lP Tryd.prog 83 7=some 9:=ag
@[go_sem] theorem aCn:lP Tryd.prog 83 8=some 10:=ag
@[go_sem] theorem aCo:lP Tryd.prog 83 9=some 11:=ag
@[go_sem] theorem aBq:lP Tryd.prog 83 10=some 12:=ag
@[go_sem] theorem aD7:mE Tryd.prog 84=some false:=ag
@[go_sem] theorem aDT:lW Tryd.prog 84=some 1:=ag
@[go_sem] theorem awP:tD Tryd.prog 84 1 8=true:=ag
@[go_sem] theorem aD8:mE Tryd.prog 85=some false:=ag
@[go_sem] theorem aDU:lW Tryd.prog 85=some 1:=ag
@[go_sem] theorem aD9:mE Tryd.prog 86=some false:=ag
@[go_sem] theorem aDV:lW Tryd.prog 86=some 1:=ag
@[go_sem] theorem aoF:qd Tryd.prog 88=some (.agg [.base (.slice none 0 0),.base (.int .i64 (0)),.base (.bool false),.base (.int .i64 (0)),.base (.slice none 0 0),.base (.map none),.base (.int .i64 (0)),.base (.int .i64 (0)),.base (.int .i64 (0)),.base (.int .i64 (0)),.base (.slice none 0 0),.base (.slice none 0 0)]):=ag
@[go_sem] theorem awQ:placesOf Tryd.prog 88=some [(0,1),(1,1),(2,1),(3,1),(4,1),(5,1),(6,1),(7,1),(8,1),(9,1),(10,1),(11,1)]:=ag
@[go_sem] theorem aCp:lP Tryd.prog 88 0=some 0:=ag
@[go_sem] theorem aCq:lP Tryd.prog 88 1=some 1:=ag
@[go_sem] theorem aCr:lP Tryd.prog 88 2=some 2:=ag
@[go_sem] theorem aCs:lP Tryd.prog 88 3=some 3:=ag
@[go_sem] theorem aCt:lP Tryd.prog 88 4=some 4:=ag
@[go_sem] theorem aCu:lP Tryd.prog 88 5=some 5:=ag
@[go_sem] theorem aCv:lP Tryd.prog 88 6=some 6:=ag
@[go_sem] theorem aCw:lP Tryd.prog 88 7=some 7:=ag
@[go_sem] theorem aCx:lP Tryd.prog 88 8=some 8:=ag
@[go_sem] theorem aCy:lP Tryd.prog 88 9=some 9:=ag
@[go_sem] theorem aBr:lP Tryd.prog 88 10=some 10:=ag
@[go_sem] theorem aBs:lP Tryd.prog 88 11=some 11:=ag
@[go_sem] theorem aDa:mE Tryd.prog 92=some false:=ag
@[go_sem] theorem XN:lW Tryd.prog 92=some 1:=ag
@[go_sem] theorem aDb:mE Tryd.prog 94=some true:=ag
@[go_sem] theorem MR:lW Tryd.prog 94=some 11:=ag
@[go_sem] theorem Wr:qd Tryd.prog 94=some (.agg [.base (.slice none 0 0),.base (.int .i64 (0)),.base (.int .i64 (0)),.base (.bool false),.base (.int .i64 (0)),.base (.bool false),.base (.bool false),.base (.int .i64 (0)),.base (.int .i64 (0)),.base (.slice none 0 0),.base (.slice none 0 0)]):=ag
@[go_sem] theorem atO:tD Tryd.prog 94 11 128=true:=ag
@[go_sem] theorem atP:placesOf Tryd.prog 94=some [(0,1),(1,1),(2,1),(3,1),(4,1),(5,1),(6,1),(7,1),(8,1),(9,1),(10,1)]:=ag
@[go_sem] theorem aCz:lP Tryd.prog 94 0=some 0:=ag
@[go_sem] theorem aCA:lP Tryd.prog 94 1=some 1:=ag
@[go_sem] theorem aCB:lP Tryd.prog 94 2=some 2:=ag
@[go_sem] theorem aCC:lP Tryd.prog 94 3=some 3:=ag
@[go_sem] theorem aCD:lP Tryd.prog 94 4=some 4:=ag
@[go_sem] theorem aCE:lP Tryd.prog 94 5=some 5:=ag
@[go_sem] theorem aCF:lP Tryd.prog 94 6=some 6:=ag
@[go_sem] theorem aCG:lP Tryd.prog 94 7=some 7:=ag
@[go_sem] theorem aCH:lP Tryd.prog 94 8=some 8:=ag
@[go_sem] theorem aCI:lP Tryd.prog 94 9=some 9:=ag
@[go_sem] theorem aBt:lP Tryd.prog 94 10=some 10:=ag
@[go_sem] theorem aCM:mE Tryd.prog 112=some true:=ag
@[go_sem] theorem MF:lW Tryd.prog 112=some 7:=ag
@[go_sem] theorem DV:qd Tryd.prog 112=some (.agg [.base (.int .i64 (0)),.base (.int .i64 (0)),.base (.slice none 0 0),.base (.int .i64 (0)),.base (.int .i64 (0)),.base (.slice none 0 0),.base (.slice none 0 0)]):=ag
@[go_sem] theorem Xc:tD Tryd.prog 112 7 104=true:=ag
@[go_sem] theorem WY:placesOf Tryd.prog 112=some [(0,3),(3,1),(4,1),(5,1),(6,1)]:=ag
@[go_sem] theorem aBu:lP Tryd.prog 112 0=some 0:=ag
@[go_sem] theorem aBv:lP Tryd.prog 112 1=some 3:=ag
@[go_sem] theorem aBw:lP Tryd.prog 112 2=some 4:=ag
@[go_sem] theorem aBx:lP Tryd.prog 112 3=some 5:=ag
@[go_sem] theorem aBy:lP Tryd.prog 112 4=some 6:=ag
@[go_sem] theorem aCN:mE Tryd.prog 135=some false:=ag
@[go_sem] theorem aDc:lW Tryd.prog 135=some 1:=ag
@[go_sem] theorem Xp:tD Tryd.prog 135 1 8=true:=ag
@[go_sem] theorem V2:qd Tryd.prog 140=some (.agg [.base (.int .i64 (0)),.base (.int .i64 (0)),.base (.slice none 0 0),.base (.slice none 0 0),.base (.int .i64 (0)),.base (.int .i64 (0))]):=ag
@[go_sem] theorem Xq:placesOf Tryd.prog 140=some [(0,3),(3,1),(4,1),(5,1)]:=ag
@[go_sem] theorem aBz:lP Tryd.prog 140 0=some 0:=ag
@[go_sem] theorem aBA:lP Tryd.prog 140 1=some 3:=ag
@[go_sem] theorem aBB:lP Tryd.prog 140 2=some 4:=ag
@[go_sem] theorem aBC:lP Tryd.prog 140 3=some 5:=ag
@[go_sem] theorem aDd:lW Tryd.prog 157=some 2:=ag
@[go_sem] theorem alK:qd Tryd.prog 157=some (.agg [.base (.int .i64 (0)),.base (.int .i64 (0))]):=ag
@[go_sem] theorem asB:tD Tryd.prog 157 2 16=true:=ag
@[go_sem] theorem asC:placesOf Tryd.prog 157=some [(0,1),(1,1)]:=ag
@[go_sem] theorem aBD:lP Tryd.prog 157 0=some 0:=ag
@[go_sem] theorem aBE:lP Tryd.prog 157 1=some 1:=ag
open Tryd in attribute [go_sem] underlying0 underlying1 underlying2 underlying3 underlying4 underlying5 underlying6 underlying7 underlying8 underlying9 underlying10 underlying11 underlying12 underlying13 underlying14 underlying15 underlying16 underlying17 underlying18 underlying19 underlying20 underlying21 underlying22 underlying23 underlying24 underlying25 underlying26 underlying27 underlying28 underlying29 underlying30 underlying31 underlying32 underlying33 underlying34 underlying35 underlying36 underlying37 underlying38 underlying39 underlying40 underlying41 underlying42 underlying43 underlying44 underlying45 underlying46 underlying47 underlying48 underlying49 underlying50 underlying51 underlying52 underlying53 underlying54 underlying55 underlying56 underlying57 underlying58 underlying59 underlying60 underlying61 underlying62 underlying63 underlying64 underlying65 underlying66 underlying67 underlying68 underlying69 underlying70 underlying71 underlying72 underlying73 underlying74 underlying75 underlying76 underlying77 underlying78 underlying79 underlying80 underlying81 underlying82 underlying83 underlying84 underlying85 underlying86 underlying87 underlying88 underlying89 underlying90 underlying91 underlying92 underlying93 underlying94 underlying95 underlying96 underlying97 underlying98 underlying99 underlying100 underlying101 underlying102 underlying103 underlying104 underlying105 underlying106 underlying107 underlying108 underlying109 underlying110 underlying111 underlying112 underlying113 underlying114 underlying115 underlying116 underlying117 underlying118 underlying119 underlying120 underlying121 underlying122 underlying123 underlying124 underlying125 underlying126 underlying127 underlying128 underlying129 underlying130 underlying131 underlying132 underlying133 underlying134 underlying135 underlying136 underlying137 underlying138 underlying139 underlying140 underlying141 underlying142 underlying143 underlying144 underlying145 underlying146 underlying147 underlying148 underlying149 underlying150 underlying151 underlying152 underlying153 underlying154 underlying155 underlying156 underlying157 underlying158 underlying159 underlying160 underlying161 underlying162 underlying163 underlying164 underlying165 underlying166 underlying167 underlying168 underlying169 underlying170 underlying171 underlying172 underlying173 underlying174 underlying175 underlying176 underlying177 underlying178 underlying179 underlying180 underlying181 underlying182 underlying183 underlying184 underlying185 underlying186 underlying187 underlying188 underlying189 underlying190 underlying191 underlying192 underlying193 underlying194 underlying195 underlying196 underlying197 underlying198 underlying199
end Go.Ab.Ty
set_option maxHeartbeats 4000000
namespace Go.Ab
open Go Go.Ab Go.Proofs Go.Ab.Ty
structure kG where
 op:Int
 v:Int
 w:Int
 n:Int
 task:Int
 vars:List Int
structure Cd where
 params:Int
 vars:Int
 steps:List kG
structure Tk where
 kT:List Cd
 methods:List Cd
 mb:Int
def atJ (x:Int):AV:=.base (.int .i64 x)
@[go_sem] theorem aBI (x:Int):atJ x=.base (.int .i64 x):=rfl
def ki (s:kG):AV:=.agg [.int s.op,.int s.v,.int s.w,.int s.n,.int s.task,.jA (s.vars.map .int)]
def kx (c:Cd):AV:=.agg [.int c.params,.int c.vars,.jA (c.steps.map ki)]
def kU (p:Tk):AV:=.agg [.jA (p.kT.map kx),.jA (p.methods.map kx),.int p.mb]
attribute [go_sem] ki kx kU List.length_map
structure Lk where
 p:Tk
 c:Cd
 own:Int
 method:Bool
def yc (l:Lk):AV:=.agg [.jA (l.p.kT.map kx),.jA (l.p.methods.map kx),.int l.p.mb,.int l.c.params,.int l.c.vars,.jA (l.c.steps.map ki),.int l.own,.base (.bool l.method)]
attribute [go_sem] yc
theorem zl (l:List kG):Pu (.jA (l.map ki)):=.jA fun e he c hc=>by
 obtain ⟨x,_,rfl⟩:=eI.1 he;simp only [ki,AV.cells,dC,dB,jd] at hc;rcases hc with rfl|rfl|rfl|rfl|rfl|rfl<;>first|exact .base _|exact l7 _
theorem JB (s:kG):Pu (ki s):=.agg fun c hc=>by
 simp only [dC,dB,jd] at hc;rcases hc with rfl|rfl|rfl|rfl|rfl|rfl<;>first|exact .base _|exact l7 _
theorem Cp (s:Cd):Pu (kx s):=.agg fun c hc=>by
 simp only [dC,dB,jd] at hc;rcases hc with rfl|rfl|rfl<;>first|exact .base _|exact zl _
theorem nz (l:List Cd):Pu (.jA (l.map kx)):=.jA fun e he c hc=>by
 obtain ⟨x,_,rfl⟩:=eI.1 he;simp only [kx,AV.cells,dC,dB,jd] at hc;rcases hc with rfl|rfl|rfl<;>first|exact .base _|exact zl _
theorem Bi (s:Tk):Pu (kU s):=.agg fun c hc=>by
 simp only [dC,dB,jd] at hc;rcases hc with rfl|rfl|rfl<;>first|exact .base _|exact nz _
theorem ajU (s:Lk):Pu (yc s):=.agg fun c hc=>by
 simp only [dC,dB,jd] at hc;rcases hc with rfl|rfl|rfl|rfl|rfl|rfl|rfl|rfl<;>first|exact .base _|exact nz _|exact zl _
def kG.Bd (s:kG):Prop:=s.vars.length≤9223372036854775807
def Cd.Bd (c:Cd):Prop:=c.steps.length≤9223372036854775807∧∀s∈c.steps,s.Bd
section
variable {w:World} {O:Nat→Prop} {ι:Nat→Option Nat} {H:List jy} {u:Value}
theorem VR.bdL {l:List kG} (h:VR w O ι H (.jA (l.map ki)) u):l.length≤9223372036854775807∧∀s∈l,s.Bd:=by
 refine ⟨by simpa using h.Ps,fun s hs=>?_⟩;obtain ⟨v,hv⟩:=h.amP (List.mem_map_of_mem hs) (j:=5) rfl;simpa [kG.Bd] using hv.Ps
theorem VR.bdC {c:Cd} (h:VR w O ι H (kx c) u):c.Bd:=by
 obtain ⟨v,hv⟩:=h.Wj (j:=2) rfl;exact hv.bdL
end
attribute [simp] zl JB Cp nz Bi ajU
end Go.Ab
set_option maxHeartbeats 4000000
namespace Go.Ab.Rg
open Go Go.Ab Go.Proofs Go.Ab.Ty
def Gh (l:List Int) (v:Int):Int:=match l.findIdx? (·==v) with
 | some i=>i
 | none=>-1
theorem agC {l:List Int} {v:Int} {k:Nat} (hk:k<l.length) (mU:∀i (h:i<k) (h':i<l.length),l[i]≠v) (hv:v=l[k]):Gh l v=k:=by
 have:l.findIdx? (·==v)=some k:=by
  rw [fa];exact ⟨hk,by simp [hv],fun j hj=>by simpa using mU j hj ae⟩
 simp [Gh,this]
theorem aiF {l:List Int} {v:Int} (mU:∀i (h:i<l.length),l[i]≠v):Gh l v = -1:=by
 have:l.findIdx? (·==v)=none:=by
  rw [fc];intro x hx;obtain ⟨i,hi,rfl⟩:=eF.1 hx;simpa using mU i hi
 simp [Gh,this]
theorem aiG (l:List Int) (v:Int):Fn Tryd.prog 121 [.jA (l.map .int),.int v] (.int (Gh l v)):=by
 refine Fn.nZ [(0,.jA (l.map .int)),(1,.int v)] 2 19 Tryd.func121 ag rfl rfl rfl rfl rfl ?_;refine jG.CD 0 rfl fun hlen=>?_;rw [eo] at hlen;refine jN ?_
 try simp only [eo]
 refine jG.loop (J:=fun k:Nat=>k≤l.length∧∀i (h:i<k) (h':i<l.length),l[i]≠v)
  (I:=fun k=>⟨[(8,.int k),(7,.int l.length),(0,.jA (l.map .int)),(1,.int v)],[]⟩) (μ:=fun k=>l.length-k) 0 ⟨dL _,ae⟩ .wk ?_
 rintro k ⟨hk,mU⟩;refine jN ?_;refine kL (fun hc=>?_) (fun hc=>?_)
 ·simp at hc;refine jN ?_;refine jB.q2 (wC rfl rfl dG ae (e:=.int l[k]) (by simp [hc]) ag) ?_;refine jN ?_;refine kL (fun hd=>?_) (fun hd=>?_)
  ·refine jN ?_;exact kO.data rfl (by simp at hd;rw [agC hc mU hd];rfl) (.base _)
  ·simp at hd;refine jN ?_;rw [l6 ae];refine ⟨k+1,⟨ae,fun i h h'=>?_⟩,ae,.wk⟩;by_cases e:i=k
   ·subst e;exact fun h=>hd h.symm
   ·exact mU i ae h'
 ·simp at hc;refine jN ?_;exact kO.data rfl (by rw [aiF (fun i h=>mU i ae h)];rfl) (.base _)
theorem aiH (l:List Int) (v:Int):decide (0≤Gh l v)=l.contains v:=by
 unfold Gh;cases h:l.findIdx? (·==v) with
 | none =>
   rw [fc] at h;have:¬v∈l:=fun hm=>by simpa using h v hm
   simp [this]
 | some i =>
   rw [fa] at h;obtain ⟨hi,he,_⟩:=h;have:v∈l:=by rw [← jk.1 he];exact ey _
   simp [this]
theorem aeC (l:List Int) (v:Int):Fn Tryd.prog 105 [.jA (l.map .int),.int v] (.bool (l.contains v)):=by
 refine Fn.nZ [(0,.jA (l.map .int)),(1,.int v)] 2 9 Tryd.func105 ag rfl rfl rfl rfl rfl ?_;refine jN ?_;refine jB.q2 (Vt rfl rfl (by simp [lk,ev,l7,Pu.base]) (aiG l v)) ?_;refine jN ?_;exact kO.data rfl (by simp only [go_sem];rw [← aiH]) (.base _)
def qR (cv:Int) (vs:List Int):Prop:=(∀v∈vs,0≤v∧v<cv)∧vs.Nodup
instance (cv:Int) (vs:List Int):Decidable (qR cv vs):=by unfold qR;infer_instance
theorem OK {cv:Int} {vs:List Int} {k:Nat} (hk:k<vs.length) (h:vs[k]<0∨cv≤vs[k]∨vs[k]∈vs.take k):¬qR cv vs:=by
 rintro ⟨h1,h2⟩;have:=h1 _ (ey hk);rcases h with h|h|h
 ·omega
 ·omega
 ·obtain ⟨i,hi,he⟩:=eF.1 h;rw [eQ] at hi;rw [gJ] at he;rw [List.nodup_iff_pairwise_ne,List.pairwise_iff_getElem] at h2;exact h2 i k ae hk ae he
theorem T3 {cv:Int} {vs:List Int} (h:∀k (hk:k<vs.length),0≤vs[k]∧vs[k]<cv∧vs[k]∉vs.take k):qR cv vs:=by
 refine ⟨fun v hv=>?_,?_⟩
 ·obtain ⟨i,hi,rfl⟩:=eF.1 hv;exact ⟨(h i hi).1,(h i hi).2.1⟩
 ·rw [List.nodup_iff_pairwise_ne,List.pairwise_iff_getElem];intro i j hi hj sC he;refine (h j hj).2.2 (eF.2 ⟨i,dj,?_⟩);rw [gJ];exact he
theorem HI (l:Lk) (vs:List Int) (n:Int):Fn Tryd.prog 78 [yc l,.jA (vs.map .int),.int n] (.bool (decide (vs.length=n∧qR l.c.vars vs))):=by
 refine Fn.nZ [(0,yc l),(1,.jA (vs.map .int)),(2,.int n)] 3 37 Tryd.func78 ag rfl rfl rfl rfl rfl ?_;refine jG.CD 1 rfl fun hlen=>?_;rw [eo] at hlen;refine jN ?_;refine kL (fun hc=>?_) (fun hc=>?_)
 ·refine jN ?_;exact kO.data rfl (by simp at hc;simp [hc,rG,lk]) (.base _)
 simp at hc;refine jN ?_;refine jG.loop (J:=fun k:Nat=>k≤vs.length∧∀i (h:i<k) (h':i<vs.length),0≤vs[i]∧vs[i]<l.c.vars∧vs[i]∉vs.take i)
  (I:=fun k=>⟨[(15,.int k),(14,.int vs.length),(13,.jA (vs.map .int)),(1,.jA (vs.map .int)),(3,.ptr 0 1 0 0)],[⟨75,8,[yc l]⟩]⟩) (μ:=fun k=>vs.length-k) 0 ⟨dL _,ae⟩ .wk ?_
 rintro k ⟨hk,mU⟩;refine jN ?_;refine kL (fun hd=>?_) (fun hd=>?_)
 ·simp at hd;refine jN ?_;refine jB.q2 (HM rfl rfl dG ae ae ag) ?_;refine jN ?_;refine uf (h:=fun hg=>TS (l:=vs) (f:=.int) aE aE dG ae ae ag (fun _=>rfl)) (hr:=?_);refine jN ?_;refine xe (i:=fun hg=>aeC (vs.take k) vs[k]) (hr:=?_);refine jN ?_;refine kL (fun he=>?_) (fun he=>?_)
  ·simp at he;refine jN ?_;have:=OK hd (or_assoc.1 he);exact kO.data rfl (by simp [rG,lk,this]) (.base _)
  ·simp at he;refine jN ?_;rw [l6 ae];refine ⟨k+1,⟨ae,fun i h h'=>?_⟩,ae,.wk⟩;by_cases e:i=k
   ·subst e;exact ⟨ae,ae,he.2⟩
   ·exact mU i ae h'
 ·simp at hd;refine jN ?_;exact kO.data rfl (by simp [rG,lk,hc];exact T3 fun i hi=>mU i ae hi) (.base _)
def wO:kG:=⟨0,0,0,0,0,[]⟩
abbrev pF (l:List kG) (n:Int):kG:=nth wO l n
theorem aeR (l:Lk) (at':Int) (s:kG) (ha:at'≤l.c.steps.length) :
 Fn Tryd.prog 79 [yc l,.int at',ki s] (.bool (decide ((0≤s.n∧s.n<at')∧(pF l.c.steps s.n).op=6))):=by
 refine Fn.nZ [(0,yc l),(1,.int at'),(2,ki s)] 3 27 Tryd.func79 ag rfl rfl rfl rfl rfl ?_;refine jN ?_;refine uf (h:=fun hg=>uN (l:=l.c.steps) (f:=ki) wO aE aE fg (by simp [gc,oR] at hg;omega) (by simp [gc,oR] at hg;omega) ag) (hr:=?_);refine jN ?_;exact kO.bool rfl ah
theorem Cm (x s:kG):Fn Tryd.prog 81 [ki x,.kN (ki s) 0] (.bool (decide (x.op=7∧x.n=s.n))):=by
 refine Fn.nZ [(0,ki x),(1,.kN (ki s) 0)] 2 14 Tryd.func81 ag rfl rfl rfl rfl rfl ?_;refine jN ?_;exact kO.data rfl (by simp [rG,lk]) (.base _)
def Gj (p:kG→Bool) (l:List kG):Int:=match l.findIdx? p with
 | some i=>i
 | none=>-1
theorem aeS {p:kG→Bool} {l:List kG} {k:Nat} (hk:k<l.length) (mU:∀i (h:i<k) (h':i<l.length),¬p l[i]) (hv:p l[k]):Gj p l=k:=by
 have:l.findIdx? p=some k:=by
  rw [fa];exact ⟨hk,hv,fun j hj=>by simpa using mU j hj ae⟩
 simp [Gj,this]
theorem agD {p:kG→Bool} {l:List kG} (mU:∀i (h:i<l.length),¬p l[i]):Gj p l = -1:=by
 have:l.findIdx? p=none:=by
  rw [fc];intro x hx;obtain ⟨i,hi,rfl⟩:=eF.1 hx;simpa using mU i hi
 simp [Gj,this]
theorem aiI (p:kG→Bool) (l:List kG):decide (0≤Gj p l)=l.any p:=by
 unfold Gj;cases h:l.findIdx? p with
 | none =>
   rw [fc] at h;have:l.any p=false:=cb;simp [this]
 | some i =>
   rw [fa] at h;obtain ⟨hi,he,_⟩:=h;have:l.any p=true:=eS.2 ⟨_,ey hi,he⟩;simp [this]
theorem adR (l:List kG) (f:FuncId) (caps:List AV) (p:kG→Bool) (hp:∀x,Fn Tryd.prog f (ki x::caps) (.bool (p x))) (hc:∀c∈caps,Pu c) :
 Fn Tryd.prog 106 [.jA (l.map ki),.j9 f caps] (.int (Gj p l)):=by
 refine Fn.nZ [(0,.jA (l.map ki)),(1,.j9 f caps)] 2 19 Tryd.func106 ag rfl rfl rfl rfl rfl ?_;refine jG.CD 0 rfl fun hlen=>?_;rw [eo] at hlen;refine jN ?_;refine jG.loop (J:=fun k:Nat=>k≤l.length∧∀i (h:i<k) (h':i<l.length),¬p l[i])
  (I:=fun k=>⟨[(8,.int k),(7,.int l.length),(0,.jA (l.map ki)),(1,.j9 f caps)],[]⟩) (μ:=fun k=>l.length-k) 0 ⟨dL _,ae⟩ .wk ?_
 rintro k ⟨hk,mU⟩;refine jN ?_;refine kL (fun hd=>?_) (fun hd=>?_)
 ·simp at hd;refine jN ?_;refine jB.q2 (HM rfl rfl fg ae ae ag) ?_;refine jN ?_;refine jB.q2 (DO (hp l[k]) rfl aE bf (by simpa using hc)) ?_;refine jN ?_;refine kL (fun he=>?_) (fun he=>?_)
  ·refine jN ?_;exact kO.data rfl (by rw [aeS hd mU he];rfl) (.base _)
  ·refine jN ?_;rw [l6 ae];refine ⟨k+1,⟨ae,fun i h h'=>?_⟩,ae,.wk⟩;by_cases e:i=k
   ·subst e;simp [he]
   ·exact mU i ae h'
 ·simp at hd;refine jN ?_;exact kO.data rfl (by rw [agD fun i hi=>mU i ae hi];rfl) (.base _)
theorem adE (l:List kG) (f:FuncId) (caps:List AV) (p:kG→Bool) (hp:∀x,Fn Tryd.prog f (ki x::caps) (.bool (p x))) (hc:∀c∈caps,Pu c) :
 Fn Tryd.prog 80 [.jA (l.map ki),.j9 f caps] (.bool (l.any p)):=by
 refine Fn.nZ [(0,.jA (l.map ki)),(1,.j9 f caps)] 2 9 Tryd.func80 ag rfl rfl rfl rfl rfl ?_;refine jN ?_;refine jB.q2 (DO (adR l f caps p hp hc) rfl aE bf (by simpa using Pu.j9 hc)) ?_;refine jN ?_;exact kO.data rfl (by simp [rG,lk,aiI]) (.base _)
def yr:Cd:=⟨0,0,[]⟩
abbrev mz (l:List Cd) (n:Int):Cd:=nth yr l n
abbrev plain (s:kG):Prop:=s.v=0∧s.w=0
def zB (s:kG):Prop:=s.task=0∧s.vars.length=0
def spawn (l:Lk) (at':Int) (s:kG):Prop:=(0≤s.n∧s.n<at')∧(pF l.c.steps s.n).op=6
def oP (l:Lk) (at':Int) (s:kG):Prop:=
 (s.op=1∨s.op=5)∧qR l.c.vars [s.v]∧s.w=0 ∧ -1000≤s.n∧s.n≤1000∧zB s
 ∨ (s.op=2∨s.op=3)∧qR l.c.vars [s.v,s.w]∧s.n=0∧zB s
 ∨ s.op=4∧qR l.c.vars [s.v]∧s.w=0∧s.n=0∧zB s
 ∨ s.op=6∧plain s∧0≤s.n∧s.n≤3∧0<s.task∧s.task<l.p.kT.length∧(l.method=false→l.own<s.task)∧s.vars.length=(mz l.p.kT s.task).params∧qR l.c.vars s.vars
 ∨ (s.op=7∨s.op=10)∧plain s∧l.method=false∧zB s∧spawn l at' s∧(s.op=7→∀x∈l.c.steps.take at'.toNat,¬(x.op=7∧x.n=s.n))
 ∨ s.op=8∧plain s∧l.method=false∧0≤s.n∧s.n<l.p.mb∧s.task=0∧(1:Int)≤s.vars.length∧(s.vars.length:Int)≤4∧qR l.c.vars s.vars
 ∨ s.op=9∧plain s∧0≤s.n∧s.n<l.p.mb∧0≤s.task∧s.task<l.p.methods.length∧(l.method=true→s.task<l.own)∧s.vars.length=(mz l.p.methods s.task).params∧qR l.c.vars s.vars
 ∨ (s.op=11∨s.op=12)∧plain s∧s.n=0∧zB s
theorem UE (s:kG):∀c∈(ki s).cells,Pu c:=fun c hc=>by
 simp only [ki,AV.cells,dC,dB,jd] at hc;rcases hc with rfl|rfl|rfl|rfl|rfl|rfl<;>first|exact .base _|exact l7 _
theorem HE (l:Lk) (at':Int) (h0:0≤at') (h1:at'<l.c.steps.length) (b:Bool) (hb:b=true↔oP l at' (pF l.c.steps at')) :
 Fn Tryd.prog 58 [yc l,.int at'] (.bool b):=by
 refine Fn.nZ [(0,yc l),(1,.int at')] 2 324 Tryd.func58 ag rfl rfl rfl rfl rfl ?_;refine jN ?_;refine jB.q2 (uN (l:=l.c.steps) (f:=ki) wO rfl rfl fg h0 h1 ag) ?_;generalize hs:nth wO l.c.steps at'=s;rw [pF,hs] at hb;refine jN ?_;let S:=fun (t:Nat) (b:Bool)=>(⟨[(t,.bool b),(2,.ptr 0 1 0 0),(5,.ptr 1 1 0 0),(6,.bool (decide (plain s))),(22,.int s.op),(1,.int at')],[⟨75,8,[yc l]⟩,⟨70,6,[ki s]⟩]⟩:ku)
 have nG:(bif decide (s.v=0) then decide (s.w=0) else false)=decide (plain s):=by rw [gW];simp
 refine jG.join (S 23 (decide (s.op=1∨s.op=5))) ?_ ?_
 ·refine kL (fun ho=>?_) (fun ho=>?_)
  ·refine jN ?_;exact .sr (by simp +decide only [go_sem,nG];simp at ho;simp [ho,Le.refl])
  ·refine jN ?_;exact .sr (by simp +decide only [go_sem,nG];simp at ho;simp [ho,Le.refl])
 simp only [S];refine kL (fun ho=>?_) (fun ho=>?_)
 ·simp at ho;refine jN ?_;refine QA dG ny ?_;refine jN ?_;refine oQ (HI l [s.v] 1) ?_;refine jN ?_;exact kO.bool rfl (by rw [hb];rcases ho with ho|ho<;>simp [oP,ho,zB,and_assoc])
 simp at ho;refine jN ?_;refine jG.join (S 57 (decide (s.op=2∨s.op=3))) ?_ ?_
 ·refine kL (fun h2=>?_) (fun h2=>?_)
  ·refine jN ?_;exact .sr a8
  ·refine jN ?_;exact .sr a8
 simp only [S];refine kL (fun h2=>?_) (fun h2=>?_)
 ·simp at h2;refine jN ?_;refine QA dG ny ?_;refine jN ?_;refine oQ (HI l [s.v,s.w] 2) ?_;refine jN ?_;exact kO.bool rfl (by rw [hb];rcases h2 with h2|h2<;>simp [oP,h2,zB,and_assoc])
 simp at h2;refine jN ?_;refine kL (fun h4=>?_) (fun h4=>?_)
 ·simp at h4;refine jN ?_;refine QA dG ny ?_;refine jN ?_;refine oQ (HI l [s.v] 1) ?_;refine jN ?_;exact kO.bool rfl (by rw [hb];simp [oP,h4,zB,and_assoc])
 simp at h4;refine jN ?_;refine kL (fun h6=>?_) (fun h6=>?_)
 ·simp at h6;refine jN ?_;refine kL (fun hc=>?_) (fun hc=>?_)
  ·refine jN ?_;exact kO.bool rfl (by rw [hb];simp [oP,h6];simp at hc;intro e1 e2 e3 e4 e5 e6 e7 e8;rcases hc with ((((((h|h)|h)|h)|h)|h)|⟨h,h'⟩)<;>first|exact absurd e1 h|exact absurd e2 h|omega|(have:=e7 h;omega))
  simp at hc;refine jN ?_;refine mi (k:=12) follows (hr:=?_);refine jN ?_;refine jB.q2 (uN (l:=l.p.kT) (f:=kx) yr rfl rfl eO ae ae ag) ?_;refine jN ?_;refine oQ (HI l s.vars (mz l.p.kT s.task).params) ?_;refine jN ?_;exact kO.bool rfl (by rw [hb];simp [oP,h6,plain];intros;simp_all)
 simp at h6;refine jN ?_;refine jG.join (S 163 (decide (s.op=7∨s.op=10))) ?_ ?_
 ·refine kL (fun h2=>?_) (fun h2=>?_)
  ·refine jN ?_;exact .sr a8
  ·refine jN ?_;exact .sr a8
 simp only [S];refine kL (fun h7=>?_) (fun h7=>?_)
 ·simp at h7;refine jN ?_;refine xe (i:=fun hg=>aeR l at' s ae) (hr:=?_);refine jN ?_;refine kL (fun hc=>?_) (fun hc=>?_)
  ·refine jN ?_;exact kO.bool rfl (by rw [hb];simp at hc;rcases h7 with h|h<;>simp [oP,h,spawn,zB,plain]<;>intro e1 e2 e3 e4 e5 e6 e7<;>rcases hc with ((((h|h)|h)|h)|h)|((h|h)|h)<;>simp_all<;>omega)
  simp at hc;refine jN ?_;refine uf (h:=fun hg=>TS (l:=l.c.steps) (f:=ki) aE aE fg ae ae MU (fun _=>rfl)) (hr:=?_);refine jN ?_;refine jB.gl rfl rfl aE (fun hg=>UX (args:=[.jA ((l.c.steps.take at'.toNat).map ki),.j9 81 [.kN (ki s) 0]]) rfl aE (by simp +decide only [go_sem,List.map,xi];exact ⟨.pu (zl _),.asX ⟨.kN rfl rfl rfl (.pu (UE s)),trivial⟩⟩) (.base _) (adE _ 81 [.kN (ki s) 0] (fun x=>decide (x.op=7∧x.n=s.n)) (fun x=>Cm x s) (by simp [Pu.kN (UE s)]))) ?_;refine jN ?_;exact kO.bool rfl (by rw [hb];obtain ⟨⟨⟨⟨⟨e1,e2⟩,e3⟩,e4⟩,e5⟩,e6⟩:=hc;rcases h7 with h|h<;>simp [oP,h,spawn,zB,plain,e1,e2,e3,e4,e5,e6])
 simp at h7;refine jN ?_;refine kL (fun h8=>?_) (fun h8=>?_)
 ·simp at h8;refine jN ?_;refine xe (i:=fun hg=>HI l s.vars s.vars.length) (hr:=?_);refine jN ?_;exact kO.bool rfl (by rw [hb];simp [oP,h8,and_assoc])
 simp at h8;refine jN ?_;refine kL (fun h9=>?_) (fun h9=>?_)
 ·simp at h9;refine jN ?_;refine kL (fun hc=>?_) (fun hc=>?_)
  ·refine jN ?_;exact kO.bool rfl (by rw [hb];simp [oP,h9];simp at hc;intro e1 e2 e3 e4 e5 e6 e7 e8;rcases hc with ((((((h|h)|h)|h)|h)|h)|⟨h,h'⟩)<;>first|exact absurd e1 h|exact absurd e2 h|omega|(have:=e7 h;omega))
  simp at hc;refine jN ?_;refine mi (k:=12) follows (hr:=?_);refine jN ?_;refine jB.q2 (uN (l:=l.p.methods) (f:=kx) yr rfl rfl eO ae ae ag) ?_;refine jN ?_;refine oQ (HI l s.vars (mz l.p.methods s.task).params) ?_;refine jN ?_;exact kO.bool rfl (by rw [hb];simp [oP,h9,plain];intros;simp_all)
 simp at h9;refine jN ?_;refine jG.join (S 304 (decide (s.op=11∨s.op=12))) ?_ ?_
 ·refine kL (fun h2=>?_) (fun h2=>?_)
  ·refine jN ?_;exact .sr a8
  ·refine jN ?_;exact .sr a8
 simp only [S];refine kL (fun vM=>?_) (fun vM=>?_)
 ·simp at vM;refine jN ?_;exact kO.bool rfl (by rw [hb];rcases vM with h|h<;>simp [oP,h,zB,and_assoc])
 simp at vM;refine jN ?_;exact kO.bool rfl (by rw [hb];simp [oP, *])
def D2 (l:Lk):Prop:=(0≤l.c.params∧l.c.params≤4∧(if l.method then l.c.params+1 else l.c.params)≤l.c.vars∧l.c.vars≤8∧l.c.steps.length≤20) ∧
 ∀i:Nat,i<l.c.steps.length→oP l i (pF l.c.steps i)
open Classical in
theorem VW (l:Lk) (b:Bool) (hb:b=true↔D2 l):Fn Tryd.prog 38 [yc l] (.bool b):=by
 refine Fn.nZ [(0,yc l)] 1 54 Tryd.func38 ag rfl rfl rfl rfl rfl ?_;refine jN ?_;refine jG.join ⟨[(3,.int (if l.method then IntKind.i64.wrap (l.c.params+1) else l.c.params)),(1,.ptr 0 1 0 0)],[⟨75,8,[yc l]⟩]⟩ ?_ ?_
 ·refine kL (fun hm=>?_) (fun hm=>?_)
  ·refine jN ?_;exact .sr (by simp +decide only [go_sem,hm,jb]<;>simp [Le.refl])
  ·refine jN ?_;exact .sr (by simp +decide only [go_sem,hm]<;>simp [Le.refl])
 refine jN ?_;refine kL (fun hc=>?_) (fun hc=>?_)
 ·simp at hc;refine jN ?_;refine kO.bool rfl ?_;rw [hb];simp only [eG,ji];rintro ⟨⟨e1,e2,e3,e4,e5⟩,-⟩;rw [nP ae ae] at hc;omega
 simp at hc;have hp:0≤l.c.params∧l.c.params≤4:=ae;rw [nP ae ae] at hc;refine jN ?_;refine jG.loop (J:=fun k:Nat=>k≤l.c.steps.length∧∀i:Nat,i<k→oP l i (pF l.c.steps i))
  (I:=fun k=>⟨[(46,.int k),(45,.int l.c.steps.length),(1,.ptr 0 1 0 0)],[⟨75,8,[yc l]⟩]⟩) (μ:=fun k=>l.c.steps.length-k) 0 ⟨dL _,ae⟩ .wk ?_
 rintro k ⟨hk,mU⟩;refine jN ?_;refine kL (fun hd=>?_) (fun hd=>?_)
 ·simp at hd;refine jN ?_;refine oQ (HE l k ae ae (decide (oP l k (pF l.c.steps k))) ah) ?_;refine jN ?_;refine kL (fun he=>?_) (fun he=>?_)
  ·simp at he;refine jN ?_;refine kO.bool rfl ?_;rw [hb];simp only [eG,ji];exact fun h=>he (h.2 k hd)
  ·simp at he;refine jN ?_;rw [l6 ae];refine ⟨k+1,⟨ae,fun i h=>?_⟩,ae,.wk⟩;by_cases e:i=k
   ·subst e;exact he
   ·exact mU i ae
 ·simp at hd;refine jN ?_;refine kO.bool rfl ?_;rw [hb];simp only [true_iff];exact ⟨ae,fun i hi=>mU i ae⟩
def Ap (p:Tk):Prop:=(1≤p.kT.length∧p.kT.length≤8∧p.methods.length≤6∧0≤p.mb∧p.mb≤4) ∧
 (∀i:Nat,i<p.kT.length→D2 ⟨p,mz p.kT i,i,false⟩)∧∀i:Nat,i<p.methods.length→D2 ⟨p,mz p.methods i,i,true⟩
theorem O7 (p:Tk):∀c∈(kU p).cells,Pu c:=fun c hc=>by
 simp only [kU,AV.cells,dC,dB,jd] at hc;rcases hc with rfl|rfl|rfl<;>first|exact .base _|exact nz _
theorem Ph {H:List jy} {k:Nat} (p:Tk):∀blk∈[(⟨24,3,[kU p]⟩:jy)],∀e∈blk.es,∀c∈e.cells,pX H k c c:=fun blk hb e he c hc=>by
 rw [dz] at hb;subst hb;rw [dz] at he;subst he;exact .pu (O7 p c hc)
open Classical in
theorem aiJ (p:Tk) (b:Bool) (hb:b=true↔Ap p):Fn Tryd.prog 15 [kU p] (.bool b):=by
 refine Fn.nZ [(0,kU p)] 1 63 Tryd.func15 ag rfl rfl rfl rfl rfl ?_;refine jN ?_;refine kL (fun hc=>?_) (fun hc=>?_)
 ·simp at hc;refine jN ?_;refine kO.bool rfl ?_;rw [hb];simp only [eG,ji];rintro ⟨⟨e1,e2,e3,e4,e5⟩,-⟩;omega
 simp at hc;refine jN ?_;refine jG.loop (J:=fun k:Nat=>k≤p.kT.length∧∀i:Nat,i<k→D2 ⟨p,mz p.kT i,i,false⟩)
  (I:=fun k=>⟨[(36,.int k),(35,.int p.kT.length),(34,.jA (p.kT.map kx)),(1,.ptr 0 1 0 0)],[⟨24,3,[kU p]⟩]⟩) (μ:=fun k=>p.kT.length-k) 0 ⟨dL _,ae⟩ .wk ?_
 rintro k ⟨hk,mU⟩;refine jN ?_;refine kL (fun hd=>?_) (fun hd=>?_)
 ·simp at hd;refine jN ?_;refine jB.q2 (uN (l:=p.kT) (f:=kx) yr rfl rfl eO ae ae ag) ?_;refine jN ?_;refine x9 Yq WJ ?_;refine jN ?_;refine oQ (VW ⟨p,mz p.kT k,k,false⟩ (decide (D2 ⟨p,mz p.kT k,k,false⟩)) ah) ?_;refine jN ?_;refine kL (fun he=>?_) (fun he=>?_)
  ·simp at he;refine jN ?_;refine kO.bool rfl ?_;rw [hb];simp only [eG,ji];exact fun h=>he (h.2.1 k hd)
  ·simp at he;refine jN ?_;rw [l6 ae];refine ⟨k+1,⟨ae,fun i h=>?_⟩,ae,.Qa 1 rfl cg (Ph p)⟩;by_cases e:i=k
   ·subst e;exact he
   ·exact mU i ae
 simp at hd;refine jN ?_;refine jG.loop (J:=fun k:Nat=>k≤p.methods.length∧∀i:Nat,i<k→D2 ⟨p,mz p.methods i,i,true⟩)
  (I:=fun k=>⟨[(51,.int k),(50,.int p.methods.length),(49,.jA (p.methods.map kx)),(1,.ptr 0 1 0 0)],[⟨24,3,[kU p]⟩]⟩) (μ:=fun k=>p.methods.length-k) 0 ⟨dL _,ae⟩ .wk ?_
 rintro k2 ⟨B7,Ks⟩;refine jN ?_;refine kL (fun mo=>?_) (fun mo=>?_)
 ·simp at mo;refine jN ?_;refine jB.q2 (uN (l:=p.methods) (f:=kx) yr rfl rfl eO ae ae ag) ?_;refine jN ?_;refine x9 Yq WJ ?_;refine jN ?_;refine oQ (VW ⟨p,mz p.methods k2,k2,true⟩ (decide (D2 ⟨p,mz p.methods k2,k2,true⟩)) ah) ?_;refine jN ?_;refine kL (fun he=>?_) (fun he=>?_)
  ·simp at he;refine jN ?_;refine kO.bool rfl ?_;rw [hb];simp only [eG,ji];exact fun h=>he (h.2.2 k2 mo)
  ·simp at he;refine jN ?_;rw [l6 ae];refine ⟨k2+1,⟨ae,fun i h=>?_⟩,ae,.Qa 1 rfl cg (Ph p)⟩;by_cases e:i=k2
   ·subst e;exact he
   ·exact Ks i ae
 ·simp at mo;refine jN ?_;refine kO.bool rfl ?_;rw [hb];simp only [true_iff];exact ⟨ae,fun i hi=>mU i ae,fun i hi=>Ks i ae⟩
end Go.Ab.Rg
set_option maxHeartbeats 4000000
namespace Go.Ab
open Go Go.Ab Go.Proofs Go.Ab.Ty
structure Acc where
 task:Int
 object:Int
 write:Bool
 time:Int
def oJ (x:Acc):AV:=.agg [.int x.task,.int x.object,.base (.bool x.write),.int x.time]
structure kh where
 code:Cd
 vars:List Int
 pc:Int
 jM:Int
structure jQ where
 jZ:List Nat
 jC:Nat
 prio:Int
 canc:Bool
 par:Int
 kids:List Int
 kg:List (Int×Int)
 waits:Int
 ending:Int
 state:Int
 has:Int
 jX:Nat
 lB:Option Nat
structure jv where
 p:Tk
 sched:List Int
 used:Int
 jL:List (Int×Int)
 tasks:List jQ
 lines:List ByteArray
 jT:List Acc
 turns:List Int
 kK:List Nat
 ends:List (Option Nat)
 jV:List Nat
 calls:List kh
 jE:List (List Int)
 ke:List (List Nat)
inductive Nm|rn|ob|tk|ln|ac|tn|ck|en|at'|kQ (k:Nat)|jH (k:Nat)|lU (k:Nat)|kg (k:Nat)|lg (k:Nat)|kz (k:Nat)|jX (k:Nat)|lB (k:Nat)
 deriving DecidableEq
def ix:Nm→Nat
 | .rn=>0 | .ob=>1 | .tk=>2 | .ln=>3 | .ac=>4 | .tn=>5 | .ck=>6 | .en=>7 | .at'=>8
 | .kQ k=>9+8*k | .jH k=>10+8*k | .lU k=>11+8*k | .kg k=>12+8*k | .lg k=>13+8*k | .kz k=>14+8*k | .jX k=>15+8*k | .lB k=>16+8*k
def Tg (c k:Nat):Nm:=if c=0 then .kQ k else if c=1 then .jH k else if c=2 then .lU k else if c=3 then .kg k else if c=4 then .lg k else if c=5 then .kz k else if c=6 then .jX k else .lB k
def nmR (i:Nat):Nm:=if i=0 then .rn else if i=1 then .ob else if i=2 then .tk else if i=3 then .ln else if i=4 then .ac else if i=5 then .tn else if i=6 then .ck else if i=7 then .en else .at'
def nm (i:Nat):Nm:=if i<9 then nmR i else Tg ((i-9) % 8) ((i-9) / 8)
theorem D9 {i c k:Nat} (h:i=9+8*k+c) (hc:c<8):nm i=Tg c k:=by
 unfold nm;rw [iZ ae,show (i-9) % 8=c by omega,show (i-9) / 8=k by omega]
theorem HW (a:Nm):nm (ix a)=a:=by
 cases a with
 | kQ k=>exact D9 (c:=0) cH az
 | jH k=>exact D9 (c:=1) cH az
 | lU k=>exact D9 (c:=2) cH az
 | kg k=>exact D9 (c:=3) cH az
 | lg k=>exact D9 (c:=4) cH az
 | kz k=>exact D9 (c:=5) cH az
 | jX k=>exact D9 (c:=6) cH az
 | lB k=>exact D9 (c:=7) cH az
 | _=>rfl
theorem CI (i:Nat):ix (nm i)=i:=by
 unfold nm;split
 ·unfold nmR
  (repeat' split)<;>simp only [ix]<;>omega
 ·unfold Tg
  (repeat' split)<;>simp only [ix]<;>omega
theorem sg {a b:Nm} (h:ix a=ix b):a=b:=by rw [← HW a,← HW b,h]
theorem Xr:∃n:Nat,n=100000000:=⟨_,rfl⟩
noncomputable def MM:Nat:=Xr.choose
theorem vB:MM=100000000:=Xr.choose_spec
noncomputable def NN:Nat:=9+8*MM
def Nm.zX:Nm→Prop
 | .kQ k | .jH k | .lU k | .kg k | .lg k | .kz k | .jX k | .lB k=>k<MM
 | _=>True
theorem mq {a:Nm} (h:a.zX):ix a<NN:=by cases a<;>simp only [ix,NN,Nm.zX] at*<;> omega
theorem Wt {i:Nat} (h:i<NN):(nm i).zX:=by
 have h2:=CI i;cases e:nm i<;>rw [e] at h2<;>simp only [ix,Nm.zX,NN] at*<;> omega
abbrev kD:AV:=.base (.slice none 0 0)
abbrev lS (j:Nat):AV:=.own (ix (.jX j)) 32 0 32
def zO:Option Nat→AV
 | some j=>lS j
 | none=>kD
def vJ:Option Nat→AV
 | some j=>.own (ix (.lB j)) 1 0 1
 | none=>kD
def xq (k:Nat):List Int→AV
 | []=>kD
 | _::l=>.own (ix (.lU k)) (l.length+1) 0 (l.length+1)
theorem Mg {k:Nat} {l:List Int} {i:Nat} {x:Int} (h:l[i]?=some x):xq k l=.own (ix (.lU k)) l.length 0 l.length:=by
 cases l with
 | nil=>simp at h
 | cons a l=>rfl
def tA (j:Nat):List Int→AV
 | []=>.jA []
 | v::l=>.own (ix (.kz j)) (l.length+1) 0 (l.length+1)
abbrev nW (k:Nat):AV:=.ptr (ix (.kQ k)) 1 0 0
abbrev kM (j:Nat):AV:=.ptr (ix (.lg j)) 1 0 0
abbrev jI:AV:=.ptr (ix .rn) 1 0 0
abbrev qH (x:Int×Int):AV:=.agg [.int x.1,.int x.2]
abbrev lE (s:jv):jy:=⟨83,13,[.agg [.jA (s.p.kT.map kx),.jA (s.p.methods.map kx),.int s.p.mb,.jA (s.sched.map .int),.int s.used,.own (ix .ob) s.jL.length 0 s.jL.length,.own (ix .tk) s.tasks.length 0 s.tasks.length,.own (ix .ln) s.lines.length 0 s.lines.length,.own (ix .ac) s.jT.length 0 s.jT.length,.own (ix .tn) s.turns.length 0 s.turns.length,.own (ix .ck) s.kK.length 0 s.kK.length,.own (ix .en) s.ends.length 0 s.ends.length,.own (ix .at') s.jV.length 0 s.jV.length]]⟩
abbrev mG (k:Nat) (t:jQ):jy:=⟨88,12,[.agg [.own (ix (.jH k)) t.jZ.length 0 t.jC,.int t.prio,.base (.bool t.canc),.int t.par,xq k t.kids,.n5 (ix (.kg k)),.int t.waits,.int t.ending,.int t.state,.int t.has,lS t.jX,vJ t.lB]]⟩
abbrev H0 (n:Int):Value:=.int .i64 n
abbrev Gr (m:List (Int×Int)):jy:=rA H0 AV.int m
abbrev Ew (j:Nat) (c:kh):jy:=⟨140,6,[.agg [.int c.code.params,.int c.code.vars,.jA (c.code.steps.map ki),tA j c.vars,.int c.pc,.int c.jM]]⟩
abbrev jD (l:List Int):jy:=⟨3,1,l.map AV.int⟩
def blk (s:jv):Nm→jy
 | .rn=>lE s
 | .ob=>⟨157,2,s.jL.map qH⟩
 | .tk=>⟨84,1,(List.range s.tasks.length).map nW⟩
 | .ln=>⟨9,1,s.lines.map fun x=>.base (.string x)⟩
 | .ac=>⟨73,4,s.jT.map oJ⟩
 | .tn=>jD s.turns
 | .ck=>⟨25,1,s.kK.map lS⟩
 | .en=>⟨25,1,s.ends.map zO⟩
 | .at'=>⟨25,1,s.jV.map lS⟩
 | .kQ k=>match s.tasks[k]? with
   | some t=>mG k t
   | none=>⟨88,12,[]⟩
 | .jH k=>match s.tasks[k]? with
   | some t=>⟨135,1,t.jZ.map kM⟩
   | none=>⟨135,1,[]⟩
 | .lU k=>match s.tasks[k]? with
   | some t=>jD t.kids
   | none=>jD []
 | .kg k=>match s.tasks[k]? with
   | some t=>Gr t.kg
   | none=>⟨pj,2,[]⟩
 | .lg j=>match s.calls[j]? with
   | some c=>Ew j c
   | none=>⟨140,6,[]⟩
 | .kz j=>match s.calls[j]? with
   | some c=>jD c.vars
   | none=>jD []
 | .jX j=>match s.jE[j]? with
   | some l=>jD l
   | none=>jD []
 | .lB j=>match s.ke[j]? with
   | some l=>⟨25,1,l.map lS⟩
   | none=>⟨25,1,[]⟩
noncomputable def HH (s:jv):List jy:=hp NN fun i=>blk s (nm i)
theorem kC (s:jv):(HH s).length=NN:=Wn
@[go_sem] theorem qS (s:jv) (a:Nm) (h:ix a<NN):(HH s)[ix a]?=some (blk s a):=by
 unfold HH;rw [PS h,HW]
theorem Xk {L:List jy} {s:jv} (hl:L.length=NN) (h:∀a:Nm,a.zX→L[ix a]?=some (blk s a)):L=HH s:=
 Wo hl fun i hi=>by have:=h (nm i) (Wt hi);rw [CI] at this;exact this
@[go_sem] theorem qQ {L:List jy} {a b:Nm} {X:jy} (hl:L.length=NN) (h:ix a<NN):(L.set (ix a) X)[ix b]?=if a=b then some X else L[ix b]?:=by
 rw [eN];by_cases e:a=b
 ·subst e;rw [ja rfl,ja rfl,ja (by rw [hl];exact h)]
 ·rw [iZ e,iZ fun e'=>e (sg e')]
theorem qG {L:List jy} {i:Nat} {X:jy}:(L.set i X).length=L.length:=dW
@[go_sem] theorem mZ {L T:List jy} {a:Nm} (hl:L.length=NN) (h:ix a<NN):(L++T)[ix a]?=L[ix a]?:=dA (by rw [hl];exact h)
@[go_sem] theorem o7 {L T:List jy} {a:Nm} {X:jy} (hl:L.length=NN) (h:ix a<NN):(L++T).set (ix a) X=L.set (ix a) X++T:=List.set_append_left _ _ (by rw [hl];exact h)
@[go_sem] theorem vx {L T:List jy} {i:Nat} (hl:L.length=NN):(L++T)[NN+i]?=T[i]?:=by rw [dJ ae,hl];congr 1;omega
@[go_sem] theorem Vh {L T:List jy} (hl:L.length=NN):(L++T)[NN]?=T[0]?:=by rw [dJ ae,hl];congr 1;omega
@[go_sem] theorem wE {L T:List jy} {i:Nat} {X:jy} (hl:L.length=NN):(L++T).set (NN+i) X=L++T.set i X:=by rw [eY _ _ ae,hl];congr 2;omega
@[go_sem] theorem aiW {L T:List jy} {X:jy} (hl:L.length=NN):(L++T).set NN X=L++T.set 0 X:=by rw [eY _ _ ae,hl];congr 2;omega
@[go_sem] theorem alL {L T U:List jy}:(L++T)++U=L++(T++U):=eA _ _ _
theorem mc:ix .rn<NN:=mq trivial
theorem Bp:ix .ob<NN:=mq trivial
theorem sj:ix .tk<NN:=mq trivial
theorem Aq:ix .ln<NN:=mq trivial
theorem Cz:ix .ac<NN:=mq trivial
theorem D1:ix .tn<NN:=mq trivial
theorem zo:ix .ck<NN:=mq trivial
theorem P4:ix .en<NN:=mq trivial
theorem zt:ix .at'<NN:=mq trivial
attribute [go_sem] List.length_range List.length_append List.length_cons List.length_nil Nat.zero_add kC qG blk zO vJ oJ mc Bp sj Aq Cz D1 zo P4 zt
theorem D7 {H:List jy} {k:Nat} {l:List Int} (h:H[ix (.lU k)]?=some (jD l)):wI Tryd.prog H 25 (xq k l)=some (.int l.length):=by
 cases l with
 | nil=>simp only [xq,kD,wI];rw [dG];rfl
 | cons a l=>simp only [xq,wI,fresh,h];rw [dG];simp
theorem Xs {H:List jy} {k:Nat} {l:List Int} (h:H[ix (.kz k)]?=some (jD l)):wI Tryd.prog H 25 (tA k l)=some (.int l.length):=by
 cases l with
 | nil=>simp only [tA,kD,wI];rw [dG];rfl
 | cons a l=>simp only [tA,wI,fresh,h];rw [dG];simp
structure WF (s:jv):Prop where
 nT:s.tasks.length≤32
 nC:s.calls.length≤MM
 nK:s.jE.length≤MM
 nB:s.ke.length≤MM
 pl:∀l∈s.jE,l.length=32
 kK:∀j∈s.kK,j<s.jE.length
 jV:∀j∈s.jV,j<s.jE.length
 ends:∀o∈s.ends,∀j,o=some j→j<s.jE.length
 kQ:∀t∈s.tasks,(∀j∈t.jZ,j<s.calls.length)∧t.jC≤t.jZ.length∧t.jX<s.jE.length∧∀b,t.lB=some b→b<s.ke.length
 ke:∀l∈s.ke,l.length=1∧∀j∈l,j<s.jE.length
 xu:s.ends.length=s.tasks.length
 sz:s.jL.length≤1000000∧s.lines.length≤1000000∧s.jT.length≤1000000∧s.turns.length≤1000000∧s.kK.length≤1000000∧s.jV.length≤1000∧s.sched.length≤1000000
 tF:∀t∈s.tasks,t.jZ.length≤1000∧t.kids.length≤1000
 tW:∀c∈s.calls,c.vars.length≤1000∧c.code.steps.length≤1000
def sH (s:jv):Nm→Prop
 | .kQ k | .jH k | .lU k | .kg k=>k<s.tasks.length
 | .lg j | .kz j=>j<s.calls.length
 | .jX j=>j<s.jE.length
 | .lB j=>j<s.ke.length
 | _=>True
theorem tY {s:jv} (h:WF s) {a:Nm} (hd:sH s a):a.zX:=by
 have:=h.nT;have:=h.nC;have:=h.nK;have:=h.nB;have:=vB;cases a<;>simp only [sH,Nm.zX] at*<;> omega
def Sd (s:jv) (b:Nat):Prop:=∃a,sH s a∧b=ix a
theorem Sd.of {s:jv} {a:Nm} (h:sH s a):Sd s (ix a):=⟨a,h,rfl⟩
theorem Sd.lt {s:jv} (hw:WF s) {b:Nat} (h:Sd s b):b<NN:=by
 obtain ⟨a,hd,rfl⟩:=h;exact mq (tY hw hd)
theorem kI.map {α:Type} {S:Nat→Prop} {ty sz:Nat} {l:List α} {f:α→AV} (h:∀x∈l,∀c∈(f x).cells,mR S c):kI S ⟨ty,sz,l.map f⟩:=fun e he c hc=>by
 obtain ⟨x,hx,rfl⟩:=eI.1 he;exact h x hx c hc
theorem kI.nil {S:Nat→Prop} {ty sz:Nat}:kI S ⟨ty,sz,[]⟩:=fun e he=>by cases he
theorem kI.int {S:Nat→Prop} (l:List Int):kI S (jD l):=.map fun x _ c hc=>by
 simp only [AV.cells,dz] at hc;subst hc;exact .pu (.base _)
theorem kI.one {S:Nat→Prop} {ty sz:Nat} {cs:List AV} (h:∀c∈cs,mR S c):kI S ⟨ty,sz,[.agg cs]⟩:=fun e he c hc=>by
 rw [dz] at he;subst he;exact h c hc
theorem kI.Gs {s:jv} {l:List Nat} (h:∀j∈l,j<s.jE.length):kI (Sd s) ⟨25,1,l.map lS⟩:=.map fun j hj c hc=>by
 simp only [AV.cells,dz] at hc;subst hc;exact .own (.of (a:=.jX j) (h j hj))
theorem PV {s:jv} (hw:WF s) (a:Nm):kI (Sd s) (blk s a):=by
 cases a with
 | rn =>
   refine .one fun c hc=>?_;simp only [dC,dB,jd] at hc;rcases hc with rfl|rfl|rfl|rfl|rfl|rfl|rfl|rfl|rfl|rfl|rfl|rfl|rfl
   ·exact .pu ah
   ·exact .pu ah
   ·exact .pu (.base _)
   ·exact .pu (l7 _)
   ·exact .pu (.base _)
   all_goals exact .own (.of trivial)
 | ob =>
   exact .map fun x _ c hc=>by
    simp only [AV.cells,dC,dB,jd] at hc;rcases hc with rfl|rfl<;>exact .pu (.base _)
 | tk =>
   exact .map fun k hk c hc=>by
    simp only [AV.cells,dz] at hc;subst hc;exact .ptr (.of (a:=.kQ k) (eU.1 hk))
 | ln =>
   exact .map fun x _ c hc=>bj
 | ac =>
   exact .map fun x _ c hc=>by
    simp only [oJ,AV.cells,dC,dB,jd] at hc;rcases hc with rfl|rfl|rfl|rfl<;>exact .pu (.base _)
 | tn=>exact .int _
 | ck=>exact .Gs hw.kK
 | en =>
   exact .map fun o ho c hc=>by
    cases o with
    | none=>simp only [zO,AV.cells,dz] at hc;subst hc;exact .pu (.base _)
    | some j=>simp only [zO,AV.cells,dz] at hc;subst hc;exact .own (.of (a:=.jX j) (hw.ends _ ho j rfl))
 | at'=>exact .Gs hw.jV
 | kQ k =>
   simp only [blk];split
   ·rename_i t ht;obtain ⟨h1,h2,h3,h4⟩:=hw.kQ t (dx ht);have hk:k<s.tasks.length:=(dt ht).1;refine .one fun c hc=>?_;simp only [dC,dB,jd] at hc;rcases hc with rfl|rfl|rfl|rfl|rfl|rfl|rfl|rfl|rfl|rfl|rfl|rfl
    ·exact .own (.of (a:=.jH k) hk)
    ·exact .pu (.base _)
    ·exact .pu (.base _)
    ·exact .pu (.base _)
    ·cases hb:t.kids with
     | nil=>exact .pu (.base _)
     | cons a l=>exact .own (.of (a:=.lU k) hk)
    ·exact .n5 (.of (a:=.kg k) hk)
    ·exact .pu (.base _)
    ·exact .pu (.base _)
    ·exact .pu (.base _)
    ·exact .pu (.base _)
    ·exact .own (.of (a:=.jX t.jX) h3)
    ·cases hb:t.lB with
     | none=>exact .pu (.base _)
     | some j=>exact .own (.of (a:=.lB j) (h4 j hb))
   ·exact .nil
 | jH k =>
   simp only [blk];split
   ·rename_i t ht;obtain ⟨h1,h2,h3,h4⟩:=hw.kQ t (dx ht);exact .map fun j hj c hc=>by
     simp only [AV.cells,dz] at hc;subst hc;exact .ptr (.of (a:=.lg j) (h1 j hj))
   ·exact .nil
 | lU k =>
   simp only [blk];split<;>exact .int _
 | kg k =>
   simp only [blk];split
   ·refine fun e he c hc=>?_;simp only [rA,dz] at he;subst he;simp only [AV.cells,dC,dB,jd] at hc;rcases hc with rfl|rfl
    ·exact .pu (.agg fun c hc=>by obtain ⟨x,_,rfl⟩:=eI.1 hc;exact .base _)
    ·exact .pu (.agg fun c hc=>by obtain ⟨x,_,rfl⟩:=eI.1 hc;exact .base _)
   ·exact .nil
 | lg j =>
   simp only [blk];split
   ·rename_i c l5;have hj:j<s.calls.length:=(dt l5).1;refine .one fun c' hc=>?_;simp only [dC,dB,jd] at hc;rcases hc with rfl|rfl|rfl|rfl|rfl|rfl
    ·exact .pu (.base _)
    ·exact .pu (.base _)
    ·exact .pu ah
    ·cases c.vars with
     | nil=>exact .pu (.jA ah)
     | cons v l=>exact .own (.of (a:=.kz j) hj)
    ·exact .pu (.base _)
    ·exact .pu (.base _)
   ·exact .nil
 | kz j =>
   simp only [blk];split<;>exact .int _
 | jX j =>
   simp only [blk];split<;>exact .int _
 | lB j =>
   simp only [blk];split
   ·rename_i l hl;exact .Gs (hw.ke l (dx hl)).2
   ·exact .nil
theorem H4 {s:jv} (hw:WF s):∀b∈HH s,kI (Sd s) b:=fun b hb=>by
 unfold HH hp at hb;obtain ⟨i,_,rfl⟩:=eI.1 hb;exact PV hw _
theorem vd {s:jv} (hw:WF s):∀b∈HH s,kI (·<NN) b:=fun b hb=>(H4 hw b hb).mono fun _ h=>h.lt hw
theorem sf {s s':jv} (hw:WF s) (tC:WF s') {T:List jy} {ρ:Operand→AV} {c:Call} {fx:Operand} {f:FuncId} {caps args:List AV} {d:AV} (hf:jS Tryd.prog f args (HH s) d (HH s')) (hc:c.callee=.value fx) (qL:ρ fx=.j9 f caps) (ha:c.args.toList.map ρ++caps=args) (hr:∀a∈args,mR (·<NN) a) (hd:mR (·<NN) d):PL Tryd.prog (HH s++T) ρ (.call c) d (HH s'++T):=by
 have rW:∀b,b<NN→ro (List.range NN) b=some b:=fun b hb=>bo;refine zg hf (.pre (kC s) (kC s') (vd hw) (vd tC)) hc qL ?_ (hd.mv fun b hb=>Cj hb);rw [ha];clear ha hf
 induction args with
 | nil=>trivial
 | cons a l ih=>exact ⟨(hr a ah).mv rW,ih fun x hx=>hr x (by simp [hx])⟩
theorem kY.run {rs:List ResultVar} {n:Nat} {d:AV} {s':jv} {E:Env} {H T:List jy} {vs:List AV} (hw:WF s') (hv:o6 Tryd.prog ⟨E,H⟩ rs=some vs) (hH:H=HH s'++T) (hd:mL (pre NN) H (rG vs) d):kY Tryd.prog rs ⟨n,NN⟩ d (HH s') ⟨E,H⟩:=by
 have hl:=kC s';refine ⟨_,vs,pre NN,id,.refl _,hv,.pre (by rw [hH];simp [hl]) (dD _) hl fun j b1 b2 h1 h2=>?_,hd⟩;have hj:=(dt h2).1;simp only at h1;rw [hH,dA hj,h2] at h1;injection h1 with h1;subst h1;refine ⟨rfl,rfl,rfl,fun i e e2 h3 h4=>?_⟩;rw [h3] at h4;injection h4 with h4;subst h4;refine ⟨rfl,fun k c c2 h5 h6=>?_⟩;rw [h5] at h6;injection h6 with h6;subst h6;exact (vd hw b2 (dx h2) e (dx h3) c (dx h5)).tB fun b hb=>rF hb
theorem yv {s:jv} {k:Nat} {t:jQ} (ht:s.tasks[k]?=some t) (hk:ix (.kQ k)<NN):jS Tryd.prog 40 [nW k] (HH s) (.bool (decide (3≤t.state))) (HH s):=by
 refine jS.i2 [(0,nW k)] 1 8 NN Tryd.func40 (kC s) ?_;refine jw ?_;exact kY.same (vs:=[.bool (decide (t.state≥3))]) ag rfl rfl
theorem HF {s:jv} (hw:WF s) {k j m i:Nat} {t:jQ} {c:kh} {st:kG} (ht:s.tasks[k]?=some t) (hk:ix (.kQ k)<NN) (B7:ix (.jH k)<NN) (hm:t.jC=m+1) (hj:t.jZ[m]?=some j) (hc:s.calls[j]?=some c) (lK:ix (.lg j)<NN)
 (hi:c.pc=i) (jP:c.code.steps[i]?=some st):jS Tryd.prog 86 [nW k] (HH s) (.ky [ki st,kM j]) (HH s):=by
 refine jS.i2 [(0,nW k)] 1 29 NN Tryd.func86 (kC s) ?_;refine jw ?_;refine mi (k:=12) follows (hr:=?_);refine jw ?_;have xo:(t.jZ.map kM)[m]?=some (kM j):=by rw [dE,hj];rfl
 have pG:(c.code.steps.map ki)[i]?=some (ki st):=aB;have nq:i<c.code.steps.length:=(dt jP).1;have GD:=(hw.tF t (dx ht)).1;have mh:=(hw.tW c (dx hc)).2;have qC:m<t.jZ.length:=(dt hj).1;rw [show IntKind.i64.wrap (((m+1:Nat):Int)-1)=(m:Int) by rw [nP ae ae];omega];refine jB.q2 (lu (n:=m) aa aa gn aa ah ae aa) ?_;refine jw ?_;refine qK (k:=13) [none,none,none,none,none,none,none,none,none,none,none,none,some 0] (fun c=>match c with
  | 0=>HH s++[⟨70,6,[(.agg [.base (.int .i64 (0)),.base (.int .i64 (0)),.base (.int .i64 (0)),.base (.int .i64 (0)),.base (.int .i64 (0)),.base (.slice none 0 0)])]⟩]
  | _=>HH s++[⟨70,6,[ki st]⟩]) 1 follows ?_
 refine gS ?_;refine gS ?_;refine gS ?_;refine gS ?_;refine gS ?_;refine gS ?_;refine gS ?_;refine gS ?_;refine gS ?_;refine ko.q1 rfl rfl (fun c _=>wC aa aa fg ae (e:=ki st) pG ag) ?_;refine gS ?_;refine gS ?_;refine ko.p1 (v:=.bad) rfl rfl (fun kB h=>?_) ?_
 ·have h1:=qP (P:=Tryd.prog) (ρ:=kB) (H:=HH s++[⟨70,6,[(.agg [.base (.int .i64 (0)),.base (.int .i64 (0)),.base (.int .i64 (0)),.base (.int .i64 (0)),.base (.int .i64 (0)),.base (.slice none 0 0)])]⟩]) (b:=NN) (tot:=1) (i:=0) (off:=0) (blk:=⟨70,6,[(.agg [.base (.int .i64 (0)),.base (.int .i64 (0)),.base (.int .i64 (0)),.base (.int .i64 (0)),.base (.int .i64 (0)),.base (.slice none 0 0)])]⟩) (v:=ki st) ((h (.tmp 2) au).trans aa) ((h (.tmp 27) au).trans aa) aa rfl rfl MU rfl rfl;rw [aiW (kC s)] at h1;exact h1
 refine ko.nil ?_;refine jw ?_;refine kY.run hw (vs:=[ki st,kM j]) (T:=[⟨70,6,[ki st]⟩]) (by show o6 _ _ [.cell 2 70,.tmp 3]=_;simp +decide only [o6,xV,zx,uB,go_sem, *]<;>rfl) rfl (mL.Az ⟨.pu (JB st),.ptr (rF lK),trivial⟩)
theorem tZ {s s':jv} (l:List (Nm×jy)) (hl:∀p∈l,ix p.1<NN∧p.2=blk s' p.1) (h:∀a,a∉l.map (·.1)→blk s' a=blk s a):l.foldl (fun L p=>L.set (ix p.1) p.2) (HH s)=HH s':=by
 have key:∀(l:List (Nm×jy)) (L:List jy),L.length=NN→(∀p∈l,ix p.1<NN∧p.2=blk s' p.1)→(∀a:Nm,a.zX→a∉l.map (·.1)→L[ix a]?=some (blk s' a))→l.foldl (fun L p=>L.set (ix p.1) p.2) L=HH s':=by
  intro l
  induction l with
  | nil=>intro L hL _ h2;exact Xk hL fun a ha=>h2 a ha ah
  | cons p l ih =>
    intro L hL h1 h2;refine ih _ (by rw [dW];exact hL) (fun q hq=>h1 q (by simp [hq])) fun a ha hn=>?_;rw [qQ hL (h1 p ah).1];split
    ·rename_i e;subst e;rw [(h1 p ah).2]
    ·rename_i e;exact h2 a ha (by simp only [ef,dC,jl];exact ⟨fun e'=>e e'.symm,hn⟩)
 exact key l _ (kC s) hl fun a ha hn=>by rw [qS s a (mq ha),h a hn]
theorem wM {s':jv} {a:Nm} {A:jy} (h1:ix a<NN∧A=blk s' a):∀p∈[(a,A)],ix p.1<NN∧p.2=blk s' p.1:=fun p hp=>by
 rw [dz] at hp;subst hp;exact h1
theorem vF {s':jv} {a b:Nm} {A B:jy} (h1:ix a<NN∧A=blk s' a) (h2:ix b<NN∧B=blk s' b):∀p∈[(a,A),(b,B)],ix p.1<NN∧p.2=blk s' p.1:=fun p hp=>by
 simp only [dC,dB,jd] at hp;rcases hp with rfl|rfl
 ·exact h1
 ·exact h2
def jv.jF (s:jv) (k:Nat) (t:jQ):jv:={ s with tasks:=s.tasks.set k t }
def jv.ly (s:jv) (j:Nat) (c:kh):jv:={ s with calls:=s.calls.set j c }
theorem lq {s:jv} {k:Nat} {t t':jQ} (ht:s.tasks[k]?=some t):(s.jF k t').tasks[k]?=some t':=by
 unfold jv.jF;simp only;rw [ee (dt ht).1]
theorem mw {s:jv} {k j:Nat} {t':jQ} (h:k≠j):(s.jF k t').tasks[j]?=s.tasks[j]?:=by
 unfold jv.jF;simp only;rw [dS h]
theorem yw {s:jv} {k:Nat} {t t':kh} (ht:s.calls[k]?=some t):(s.ly k t').calls[k]?=some t':=by
 unfold jv.ly;simp only;rw [ee (dt ht).1]
theorem Bk {s:jv} {k j:Nat} {t':kh} (h:k≠j):(s.ly k t').calls[j]?=s.calls[j]?:=by
 unfold jv.ly;simp only;rw [dS h]
theorem FC {s:jv} {k:Nat} {t':jQ} {a:Nm} (h1:a≠.kQ k) (h2:a≠.jH k) (h3:a≠.lU k) (h4:a≠.kg k):blk (s.jF k t') a=blk s a:=by
 cases a with
 | kQ j=>simp only [blk];rw [mw fun e=>h1 bP]
 | jH j=>simp only [blk];rw [mw fun e=>h2 bP]
 | lU j=>simp only [blk];rw [mw fun e=>h3 bP]
 | kg j=>simp only [blk];rw [mw fun e=>h4 bP]
 | rn=>simp only [blk,lE,jv.jF,dW]
 | tk=>simp only [blk,jv.jF,dW]
 | _=>rfl
theorem FM {s:jv} {k:Nat} {t t':jQ} (ht:s.tasks[k]?=some t) (hk:ix (.kQ k)<NN) (h1:t'.jZ=t.jZ) (h2:t'.kids=t.kids) (h3:t'.kg=t.kg):(HH s).set (ix (.kQ k)) (mG k t')=HH (s.jF k t'):=by
 refine tZ (s:=s) (s':=s.jF k t') [(.kQ k,mG k t')] (fun p hp=>?_) fun a ha=>?_
 ·rw [dz] at hp;subst hp;exact ⟨hk,bm⟩
 ·simp only [ef,ez,dz] at ha;by_cases e2:a=.jH k
  ·subst e2;simp only [blk];rw [lq ht,ht];simp only [h1]
  by_cases e3:a=.lU k
  ·subst e3;simp only [blk];rw [lq ht,ht];simp only [h2]
  by_cases e4:a=.kg k
  ·subst e4;simp only [blk];rw [lq ht,ht];simp only [h3]
  exact FC ha e2 e3 e4
theorem Vm {s:jv} {j:Nat} {c':kh} {a:Nm} (h1:a≠.lg j) (h2:a≠.kz j):blk (s.ly j c') a=blk s a:=by
 cases a with
 | lg i=>simp only [blk];rw [Bk fun e=>h1 bP]
 | kz i=>simp only [blk];rw [Bk fun e=>h2 bP]
 | _=>rfl
theorem PJ {s:jv} {j:Nat} {c c':kh} (hc:s.calls[j]?=some c) (hj:ix (.lg j)<NN) (h1:c'.vars=c.vars):(HH s).set (ix (.lg j)) (Ew j c')=HH (s.ly j c'):=by
 refine tZ (s:=s) (s':=s.ly j c') [(.lg j,Ew j c')] (fun p hp=>?_) fun a ha=>?_
 ·rw [dz] at hp;subst hp;exact ⟨hj,by simp only [blk];rw [yw hc]⟩
 ·simp only [ef,ez,dz] at ha;by_cases e2:a=.kz j
  ·subst e2;simp only [blk];rw [yw hc,hc];simp only [h1]
  exact Vm ha e2
theorem aiX {j:Nat}:∀ {l m:List Int},l.length=m.length→tA j l=tA j m
 | [],[],_=>rfl
 | [],_::_,h=>bQ
 | _::_,[],h=>bQ
 | a::l,b::m,h=>by simp only [ff] at h;simp only [tA];rw [show l.length=m.length by omega]
theorem FN {s:jv} {j:Nat} {c c':kh} (hc:s.calls[j]?=some c) (hj:ix (.kz j)<NN) (hl:c'.vars.length=c.vars.length) (h1:c'={ c with vars:=c'.vars }):(HH s).set (ix (.kz j)) (jD c'.vars)=HH (s.ly j c'):=by
 refine tZ (s:=s) (s':=s.ly j c') [(.kz j,jD c'.vars)] (fun p hp=>?_) fun a ha=>?_
 ·rw [dz] at hp;subst hp;exact ⟨hj,by simp only [blk];rw [yw hc]⟩
 ·simp only [ef,ez,dz] at ha;by_cases e2:a=.lg j
  ·subst e2;simp only [blk];rw [yw hc,hc];simp only;have hv:tA j c'.vars=tA j c.vars:=aiX hl;rw [Ew,Ew,hv,h1]
  exact Vm e2 ha
def jv.ll (s:jv) (n:Int):jv:={ s with jL:=s.jL++[(n,-1)] }
theorem Ck {s:jv} (hw:WF s) (n:Int) (hn:s.jL.length≤900000):jS Tryd.prog 82 [jI,.int n] (HH s) (.int s.jL.length) (HH (s.ll n)):=by
 refine jS.i2 [(0,jI),(1,.int n)] 2 22 NN Tryd.func82 (kC s) ?_;refine jw ?_;refine x9 asC alK ?_;refine jw ?_;refine jB.p2 (tX (b:=ix .ob) (tot:=s.jL.length) (es:=[qH (n,-1)]) aa aa aa ah fp asB rfl rfl ah (fun e he=>aw) aj aj) ?_;refine jw ?_;rw [show IntKind.i64.wrap (((s.jL.length+1:Nat):Int)-1)=(s.jL.length:Int) by rw [nP ae ae];omega];refine kY.same (vs:=[.int s.jL.length]) aA rfl ?_;refine tZ (s:=s) (s':=s.ll n) [(.ob,_),(.rn,_)] (vF ⟨Bp,?_⟩ ⟨mc,?_⟩) fun a ha=>?_
 ·simp [blk,jv.ll]
 ·simp [blk,jv.ll]
 ·cases a<;>first|rfl|simp at ha
def Aj {α:Type} (p:α→Prop) (l:List α) (k:Nat):Prop:=∀j,∀h:j<l.length,j<k→p l[j]
theorem Aj.zero {α:Type} (p:α→Prop) (l:List α):Aj p l 0:=fun j _ h=>absurd h (gF _)
theorem Aj.succ {α:Type} {p:α→Prop} {l:List α} {k:Nat} (h:Aj p l k) {x:α} (hx:l[k]?=some x) (h2:p x):Aj p l (k+1):=fun j hj kn=>by
 rcases eE j k with h3|h3
 ·exact h j hj h3
 ·obtain rfl:j=k:=ae;rw [dy hj] at hx;injection hx with hx;rw [hx];exact h2
theorem Aj.all {α:Type} {p:α→Prop} {l:List α} {k:Nat} (h:Aj p l k) (hk:l.length≤k):∀x∈l,p x:=fun x hx=>by
 obtain ⟨j,hj,rfl⟩:=eF.1 hx;exact h j hj ae
theorem gtM {α:Type} {l:List α} {f:α→AV} {k:Nat} (h:k<l.length):(l.map f)[k]?=some (f l[k]):=by
 rw [dE,dy h];rfl
theorem mI.CY {r:Nat→Option Nat} {H:List jy} {a:AV} (h:∀b,b<H.length→r b=some b):mI r H a a:=fun H2 w O ι jO u v hu=>hu.mono
 ⟨fun _ _ _ h=>h,fun p c h1 _=>h1,fun b blk hb=>by
  obtain ⟨blk2,e1,e2,e3,e4⟩:=v b b blk (h b (dt hb).1) hb;exact ⟨blk2,e1,Nat.le_of_eq e2.symm,fun _=>⟨e3,e4⟩⟩,
  fun b x blk kH c ty fz _ _ _ _ h=>⟨c,ty,fz,h,rfl⟩⟩
theorem xZ.CY {r:Nat→Option Nat} {H:List jy} {b:jy} (h:∀b,b<H.length→r b=some b):xZ r H b b:=
 ⟨rfl,rfl,rfl,fun i e e2 h1 h2=>by
  rw [h1] at h2;injection h2 with h2;subst h2;exact ⟨rfl,fun k c c2 h3 h4=>by
   rw [h3] at h4;injection h4 with h4;subst h4;exact .CY h⟩⟩
theorem O9 {n j:Nat}:rb (List.range n) n j=some j:=by
 unfold rb;rw [fm];split
 ·rename_i h;rw [eV h]
 ·congr 1;omega
theorem tf.all {H H':List jy} (hl:H.length≤H'.length):tf (List.range H.length) H H H' H':=
 ⟨List.nodup_range,fm,fun j b hj=>by
  obtain ⟨h1,h2⟩:=dt hj;rw [fm] at h1;rw [List.getElem_range] at h2;subst h2;exact ⟨H[j],H[j],dy h1,dy h1,.CY fun b hb=>bo⟩,hl,ae,fun b hb hn=>absurd (eU.2 hb) hn,fun j c bk hr hb=>by
  rw [O9] at hr;injection hr with hr;subst hr;exact ⟨bk,hb,.CY fun b _=>O9⟩⟩
theorem yh.CY {r:Nat→Option Nat} {H:List jy} (h:∀b,b<H.length→r b=some b):∀l:List AV,yh r H l l
 | []=>trivial
 | _::l=>⟨.CY h,yh.CY h l⟩
theorem rM {H H':List jy} {ρ:Operand→AV} {c:Call} {fx:Operand} {f:FuncId} {caps args:List AV} {d:AV} (hf:jS Tryd.prog f args H d H') (hl:H.length≤H'.length) (hc:c.callee=.value fx) (qL:ρ fx=.j9 f caps) (ha:c.args.toList.map ρ++caps=args):PL Tryd.prog H ρ (.call c) d H':=
 zg hf (.all hl) hc qL (by rw [ha];exact .CY (fun b hb=>bo) _) (.CY fun b _=>O9)
def oi:Option Nat→Int
 | some i=>i
 | none=>-1
theorem agP {α:Type} {p:α→Bool} {l:List α} {k:Nat} (h:Aj (fun x=>p x=false) l k) (hk:k<l.length) (hp:p l[k]=true):l.findIdx? p=some k:=by
 rw [fa];exact ⟨hk,hp,fun j hj=>by have:=h j ae hj;simp [this]⟩
theorem agQ {α:Type} {p:α→Bool} {l:List α} {k:Nat} (h:Aj (fun x=>p x=false) l k) (hk:l.length≤k):l.findIdx? p=none:=by
 rw [fc];exact fun x hx=>h.all hk x hx
theorem aoG {p:Int→Bool} {l:List Int}:(0≤oi (l.findIdx? p))↔l.any p=true:=by
 cases hx:l.findIdx? p with
 | none =>
   rw [fc] at hx;simp [oi];exact hx
 | some i =>
   have:=fa.1 hx;simp [oi];exact ⟨_,ey _,this.2.1⟩
theorem alM (H:List jy) (p:Int→Bool) (Fq:FuncId) (caps:List AV) (l:List Int) (hl:l.length≤1000000) (h:∀x∈l,jS Tryd.prog Fq (.int x::caps) H (.bool (p x)) H) :
 jS Tryd.prog 126 [.jA (l.map .int),.j9 Fq caps] H (.int (oi (l.findIdx? p))) H:=by
 obtain ⟨R,hR⟩:∃R,R=oi (l.findIdx? p):=⟨_,rfl⟩
 rw [← hR];refine jS.i2 [(0,.jA (l.map .int)),(1,.j9 Fq caps)] 2 19 H.length Tryd.func126 rfl ?_;refine jw ?_;refine jG.Qe (J:=fun k:Nat=>k≤l.length∧Aj (fun x=>p x=false) l k) (fun k=>[(8,.int k)]) (fun k=>l.length-k) 0 ⟨dL _,.zero _ _⟩ .wk ?_;rintro k ⟨hk,he⟩;refine jw ?_;refine kL (fun hd=>?_) (fun hd=>?_)
 ·simp at hd;have tP:nth 0 l (k:Int)=l[k]:=uP hd;have ih:=h _ (ey hd);have zQ:=fun hp=>agP (p:=p) he hd hp;have Oc:=fun hp=>he.succ (dy hd) hp;generalize l[k]=x at *;clear he h;refine jw ?_;refine jB.p2 (rM ih (dD _) rfl aa aa) ?_;refine jw ?_;refine kL (fun hp=>?_) (fun hp=>?_)
  ·refine jw ?_;rw [hR,zQ hp];exact kY.same (vs:=[.int k]) aA rfl rfl
  refine jw ?_;rw [l6 ae];exact ⟨k+1,⟨hd,Oc hp⟩,ae,.wk⟩
 simp at hd;refine jw ?_;rw [hR,agQ he ae];exact kY.same (vs:=[.int (-1)]) aA rfl rfl
theorem alN (H:List jy) (p:Int→Bool) (Fq:FuncId) (caps:List AV) (l:List Int) (hl:l.length≤1000000) (h:∀x∈l,jS Tryd.prog Fq (.int x::caps) H (.bool (p x)) H) :
 jS Tryd.prog 123 [.jA (l.map .int),.j9 Fq caps] H (.bool (l.any p)) H:=by
 have i1:=alM H p Fq caps l hl h;clear h;refine jS.i2 [(0,.jA (l.map .int)),(1,.j9 Fq caps)] 2 9 H.length Tryd.func123 rfl ?_;refine jw ?_;refine jB.p2 (rM i1 (dD _) rfl aa aa) ?_;refine jw ?_;refine kY.same (vs:=[.bool (decide (oi (l.findIdx? p)≥0))]) aA ?_ rfl;show AV.bool _=_
 congr 1
 rw [gW,decide_eq_true_iff];exact aoG
theorem zj {j:Nat} {l:List Int} {i:Nat} {x:Int} (h:l[i]?=some x):tA j l=.own (ix (.kz j)) l.length 0 l.length:=by
 cases l with
 | nil=>simp at h
 | cons a l=>rfl
abbrev qN (j:Nat):jy:=⟨135,1,[kM j]⟩
theorem alO {s:jv} {j v:Nat} {c:kh} {x:Int} (hc:s.calls[j]?=some c) (hx:c.vars[v]?=some x) (hj:ix (.lg j)<NN) (uH:ix (.kz j)<NN):jS Tryd.prog 124 [.int v,.ptr NN 1 0 0] (HH s++[qN j]) (.bool (decide (x<0))) (HH s++[qN j]):=by
 have qy:=zj (j:=j) hx;have xo:(c.vars.map AV.int)[v]?=some (.int x):=aZ;have mf:v<c.vars.length:=(dt hx).1;refine jS.i2 [(0,.int v),(1,.ptr NN 1 0 0)] 2 12 (NN+1) Tryd.func124 aP ?_;refine jw ?_;refine jB.q2 (lu (n:=v) aa aa dG aa ah mf aa) ?_;refine jw ?_;exact kY.same (vs:=[.bool (decide (x<0))]) (by show o6 _ _ [.tmp 3]=_;simp +decide only [o6,xV,zx,uB,go_sem, *]<;>rfl) rfl rfl
def n8 (c:kh) (vs:List Int):Bool:=!(vs.any fun v=>decide (c.vars.getD v.toNat 0<0))
def mW (c:kh) (v:Int):Prop:=0≤v∧v.toNat<c.vars.length
theorem aoH {s:jv} (hw:WF s) {j:Nat} {c:kh} {vs:List Int} (kV:∀v∈vs,mW c v) (hl:vs.length≤1000000) (hc:s.calls[j]?=some c) (hj:ix (.lg j)<NN) (uH:ix (.kz j)<NN):jS Tryd.prog 111 [kM j,.jA (vs.map .int)] (HH s) (.bool (n8 c vs)) (HH s):=by
 have i1:=alN (HH s++[qN j]) (fun v=>decide (c.vars.getD v.toNat 0<0)) 124 [.ptr NN 1 0 0] vs hl fun v hv=>by
  obtain ⟨h1,h2⟩:=kV v hv;have hx:c.vars[v.toNat]?=some (c.vars.getD v.toNat 0):=by rw [dI,dy h2];rfl
  have:=alO hc hx hj uH;rwa [dP h1] at this
 refine jS.i2 [(0,kM j),(1,.jA (vs.map .int))] 2 9 NN Tryd.func111 (kC s) ?_;refine jw ?_;refine jB.p2 (rM i1 (dD _) rfl aa aa) ?_;refine jw ?_;refine kY.run hw (vs:=[.bool (n8 c vs)]) (T:=[qN j]) aA rfl (.pu (.base _))
theorem sO.rf {H:List jy} {S:Nat→Prop}:∀ {L:List jy},(∀b∈L,kI S b)→sO H L L
 | [],_=>trivial
 | b::L,h=>⟨⟨rfl,rfl,rfl,fun i e e2 h1 h2=>by
    rw [h1] at h2;injection h2 with h2;subst h2;exact ⟨rfl,fun k c c2 h3 h4=>by
     rw [h3] at h4;injection h4 with h4;subst h4;exact .mv ((h b ah e (dx h1) c (dx h3)).mv fun _ _=>rfl)⟩⟩,sO.rf fun x hx=>h x (by simp [hx])⟩
def lN (c:kh) (vs:List Int):List Int:=vs.map fun v=>c.vars.getD v.toNat 0
theorem aiY {s:jv} (hw:WF s) {j:Nat} {c:kh} {vs:List Int} (kV:∀v∈vs,mW c v) (hl:vs.length≤1000000) (hc:s.calls[j]?=some c) (hj:ix (.lg j)<NN) (uH:ix (.kz j)<NN):jS Tryd.prog 115 [kM j,.jA (vs.map .int)] (HH s) (.own NN (lN c vs).length 0 (lN c vs).length) (HH s++[jD (lN c vs)]):=by
 refine jS.i2 [(0,kM j),(1,.jA (vs.map .int))] 2 26 NN Tryd.func115 (kC s) ?_;refine jw ?_;refine jG.weaken (Wk.rQ (E2:=[(0,kM j),(5,.own NN 0 0 0),(8,.jA (vs.map .int)),(9,.int vs.length),(10,.int 0)]) (H2:=HH s) 3 1 (.rf (H4 hw)) ⟨.ptr,.nil (kC s),.pu (l7 _),.pu (.base _),.pu (.base _),trivial⟩) ?_;refine jG.loop (J:=fun i:Nat=>i≤vs.length) (fun i=>⟨[(0,kM j),(5,.own NN i 0 i),(8,.jA (vs.map .int)),(9,.int vs.length),(10,.int i)],HH s++[jD (lN c (vs.take i))]⟩) (fun i=>vs.length-i) 0 (dL _) .wf ?_;rintro i hi;refine jw ?_;refine kL (fun hd=>?_) (fun hd=>?_)
 ·simp at hd;have tP:nth 0 vs (i:Int)=vs[i]:=uP hd;obtain ⟨h1,h2⟩:=kV _ (ey hd);have pg:lN c (vs.take (i+1))=lN c (vs.take i)++[c.vars.getD vs[i].toNat 0]:=by unfold lN;rw [fu hd,fY];rfl
  have tE:(lN c (vs.take i)).length=i:=by unfold lN;rw [eo,eQ];omega
  generalize lN c (vs.take i)=A at *;have hx:c.vars[vs[i].toNat]?=some (c.vars.getD vs[i].toNat 0):=by rw [dI,dy h2];rfl
  generalize c.vars.getD vs[i].toNat 0=x at *;obtain ⟨v,hv⟩:∃v:Nat,vs[i]=v:=⟨_,(dP h1).symm⟩
  rw [hv] at tP hx h2;simp only [dF] at hx h2;have qy:=zj (j:=j) hx;have xo:(c.vars.map AV.int)[v]?=some (.int x):=aZ;clear kV;refine jw ?_;refine jB.q2 (lu (n:=v) aa aa dG aa ah h2 aa) ?_;refine jw ?_;refine jB.p2 (tX (b:=NN) (tot:=i) (es:=[.int x]) aa aa aa aj dG ug rfl rfl ah (fun e he=>aw) aj aj) ?_;refine jw ?_;rw [l6 ae];refine ⟨i+1,hd,ae,?_⟩;rw [pg,show jD (A++[x])=⟨3,1,A.map AV.int++[AV.int x]⟩ by rw [jD,fY];rfl];exact .wf
 simp at hd;obtain rfl:i=vs.length:=ae;rw [fT];have tE:(lN c vs).length=vs.length:=by unfold lN;rw [eo]
 rw [tE];refine jw ?_;exact kY.same (vs:=[.own NN vs.length 0 vs.length]) aA rfl rfl
@[go_sem] theorem aCJ {H T:List jy}:(H++T)[H.length]?=T[0]?:=by rw [dJ (dD _),eT]
@[go_sem] theorem aCK {H T:List jy} {X:jy}:(H++T).set H.length X=H++T.set 0 X:=by rw [eY _ _ (dD _),eT]
theorem WR {H:List jy} {b:Nat} {X:jy} (h:H[b]?=some X) (T:List jy):(H++T)[b]?=some X:=by rw [dA (dt h).1];exact h
theorem rP.int {H:List jy} {b ty n:Nat} {l:List Int} (h:H[b]?=some ⟨ty,1,l.map AV.int⟩) (hn:l.length=n):rP H (.own b n 0 n) (.jA (l.map AV.int)):=.vE h hn fun x _ c hc=>by
 simp only [AV.cells,dz] at hc;subst hc;exact .base _
theorem Pl {H:List jy} {b n:Nat} {l:List Int} (hb:H[b]?=some (jD l)) (hn:l.length=n) (h0:0<n) (h1:n≤1000000):jS Tryd.prog 89 [.own b n 0 n] H (.own H.length n 0 n) (H++[jD l]):=by
 refine jS.i2 [(0,.own b n 0 n)] 1 8 H.length Tryd.func89 rfl ?_;refine Iw ?_;refine jB.q2 (adO (b:=b) (tot:=n) (off:=0) (len:=n) aa hb (by simp [hn]) h0 aa dG) ?_;refine Iw ?_;refine jK ?_ ?_ rfl;rotate_left
 ·rfl
 refine Iw ?_;refine jB.p2 (OB (es:=[]) az dG ny ag az aC aC rfl) ?_;refine Iw ?_;refine jB.p2 (aeM (b:=H.length) (tot:=0) (size:=1) (bytes:=8) (es:=l.map AV.int) (av:=.own b n 0 n) (blk:=⟨3,1,[]⟩) aa aa (rP.int (ty:=3) (WR hb _) hn) (fun e he=>by obtain ⟨x,_,rfl⟩:=eI.1 he;exact ⟨_,rfl⟩) aa rfl dG ug rfl rfl aj (fun e he=>by obtain ⟨x,_,rfl⟩:=eI.1 he;exact ⟨rfl,rfl⟩) aj aj) ?_;refine Iw ?_;exact kY.same (vs:=[.own H.length n 0 n]) bw rfl rfl
def oH (a b:List Int):List Int:=List.zipWith max a b
theorem DM {a b:List Int} (h:a.length=b.length):(oH a b).length=a.length:=by unfold oH;rw [List.length_zipWith,h,Nat.min_self]
def zD (a b:List Int) (k:Nat):List Int:=oH (a.take k) (b.take k)++a.drop k
theorem agR {a b:List Int} (h:a.length=b.length):zD a b a.length=oH a b:=by unfold zD;rw [fT,h,fT,← h,List.drop_length,fC]
theorem agS {a b:List Int} (h:a.length=b.length) {k:Nat} (hk:k≤a.length):(zD a b k).length=a.length:=by
 unfold zD;rw [dK,DM (by simp [h]),eQ,gb];omega
theorem aiZ {a b:List Int} (h:a.length=b.length) {k:Nat} (hk:k<a.length):(zD a b k)[k]?=some a[k]:=by
 unfold zD;have:(oH (a.take k) (b.take k)).length=k:=by rw [DM (by simp [h]),eQ];omega
 rw [dJ ae,this,eT,fU,fq,dy hk]
theorem afC {a b:List Int} (h:a.length=b.length) {k:Nat} (hk:k<a.length):zD a b (k+1)=(zD a b k).set k (max a[k] (b[k]' ae)):=by
 have B7:k<b.length:=ae;have hl:(oH (a.take k) (b.take k)).length=k:=by rw [DM (by simp [h]),eQ];omega
 have e1:oH (a.take (k+1)) (b.take (k+1))=oH (a.take k) (b.take k)++[max a[k] b[k]]:=by
  unfold oH;rw [fu hk,fu B7,List.zipWith_append aj];rfl
 unfold zD;rw [e1,eY _ _ ae,hl,eT,fS hk,fV,eA];rfl
theorem alP {H:List jy} {b c n:Nat} {l m:List Int} (hb:H[b]?=some (jD l)) (hc:H[c]?=some (jD m)) (hn:l.length=n) (hm:m.length=n) (h0:0<n) (h1:n≤1000000):jS Tryd.prog 87 [.own b n 0 n,.own c n 0 n] H (.own H.length n 0 n) (H++[jD (oH l m)]):=by
 have i1:=Pl hb hn h0 h1;have Od:l.length=m.length:=ae;have lC:=WR hc;refine jS.i2 [(0,.own b n 0 n),(1,.own c n 0 n)] 2 28 H.length Tryd.func87 rfl ?_;refine jw ?_;refine jB.p2 (rM i1 ah rfl aa aa) ?_;refine jw ?_;refine jG.loop (J:=fun k:Nat=>k≤n) (fun k=>⟨[(5,.own H.length n 0 n),(10,.own c n 0 n),(11,.int n),(12,.int k)],H++[jD (zD l m k)]⟩) (fun k=>n-k) 0 (dL _) .wf ?_;rintro k hk;have pP:=agS Od (k:=k) ae;rw [hn] at pP;refine jw ?_;refine kL (fun hd=>?_) (fun hd=>?_)
 ·simp at hd;have RL:=afC Od (k:=k) ae;have hja:=aiZ Od (k:=k) ae;have GI:k<m.length:=ae;have I4:(m.map AV.int)[k]?=some (.int m[k]):=gtM GI;generalize l[k]=x at *;generalize m[k]=y at *;generalize zD l m k=A at *;have hak:(A.map AV.int)[k]?=some (.int x):=by rw [dE,hja];rfl
  clear i1;refine jw ?_;refine jB.q2 (lu (n:=k) (b:=c) (tot:=n) (len:=n) (blk:=jD m) aa aa dG (lC _) (by simp [hm]) hd aa) ?_;refine jw ?_;refine jB.q2 (lu (n:=k) (b:=H.length) (tot:=n) (len:=n) (blk:=jD A) aa aa dG ah (by simp [pP]) hd aa) ?_;refine jw ?_;refine jB.q2 (lu (n:=k) (b:=H.length) (tot:=n) (len:=n) (blk:=jD A) aa aa dG ah (by simp [pP]) hd aa) ?_;refine jw ?_;refine jB.p2 (xc (f:=AV.int) (l:=A) (b:=H.length) (tot:=n) (i:=k) (ty:=3) (sz:=1) (max x y) aa aa ah pP ae ny rfl rfl) ?_;refine jw ?_;rw [l6 ae];refine ⟨k+1,hd,ae,?_⟩;rw [RL];exact .wf
 simp at hd;obtain rfl:k=n:=ae;rw [show zD l m k=oH l m by rw [← hn];exact agR Od];refine jw ?_;exact kY.same (vs:=[.own H.length k 0 k]) aA rfl rfl
theorem WF.k {s:jv} (hw:WF s) {k:Nat} {t:jQ} (ht:s.tasks[k]?=some t):ix (.kQ k)<NN∧ix (.jH k)<NN∧ix (.lU k)<NN∧ix (.kg k)<NN∧k<s.tasks.length∧((List.range s.tasks.length).map nW)[k]?=some (nW k):=by
 have hk:k<s.tasks.length:=(dt ht).1;refine ⟨mq (tY hw (a:=.kQ k) hk),mq (tY hw (a:=.jH k) hk),mq (tY hw (a:=.lU k) hk),mq (tY hw (a:=.kg k) hk),hk,?_⟩;rw [dE,eV hk];rfl
theorem WF.c {s:jv} (hw:WF s) {j:Nat} {c:kh} (hc:s.calls[j]?=some c):ix (.lg j)<NN∧ix (.kz j)<NN:=by
 have hj:j<s.calls.length:=(dt hc).1;exact ⟨mq (tY hw (a:=.lg j) hj),mq (tY hw (a:=.kz j) hj)⟩
theorem WF.p {s:jv} (hw:WF s) {j:Nat} {l:List Int} (hc:s.jE[j]?=some l):ix (.jX j)<NN∧l.length=32:=by
 have hj:j<s.jE.length:=(dt hc).1;exact ⟨mq (tY hw (a:=.jX j) hj),hw.pl l (dx hc)⟩
theorem ko.gl {P:Program} {n:Fr} {HS:Nat→List jy} {m:Nat} {o:lx} {l:List lx} {sl:List (Option Nat)} {E:Env} {K:Env→Prop} {t:Tmp} {want:Bool} {L:List Bool} {v:AV} (hg:o.g=some (t,want)) (hd:mB n o.dst=true) (hb:ve want (lk E t)=some L)
 (h:oR L=true→∀c,c≤m→QL P (HS c) (fun x=>stripL L (ev E x)) o.op v) (hr:ko P n HS m l sl K (mF E o.dst (wa L v))):ko P n HS m (o::l) (none::sl) K E:=
 let ⟨E',h1,h2⟩:=hr
 ⟨E',.q o l sl E (wa L v) E' (fun c hc=>.gq t want L v hg hd hb fun ha=>by rw [show wR (lk E)=ev E from funext fun x=>(HQ E x).symm];exact h ha c hc) h1,h2⟩
theorem gG {P:Program} {n:Fr} {HS:Nat→List jy} {o:lx} {l:List lx} {sl:List (Option Nat)} {E:Env} {K:Env→Prop} {t:Tmp} {want:Bool} {L:List Bool} {v:AV} (hr:ko P n HS 1 l sl K (mF E o.dst (wa L v))) (hg:o.g=some (t,want):=by rfl) (hd:mB n o.dst=true:=by rfl) (hb:ve want (lk E t)=some L:=by (simp +decide only [go_sem, *]<;>rfl))
 (h0:qe P (HS 0) (fun x=>stripL L (ev E x)) o.op=some v:=by (simp +decide only [go_sem, *]<;>rfl)) (h1:qe P (HS 1) (fun x=>stripL L (ev E x)) o.op=some v:=by (simp +decide only [go_sem, *]<;>rfl)):ko P n HS 1 (o::l) (none::sl) K E:=
 .gl hg hd hb (fun _ c hc=>HL cL) hr
theorem gX {P:Program} {n:Fr} {HS:Nat→List jy} {m:Nat} {o:lx} {l:List lx} {sl:List (Option Nat)} {E:Env} {K:Env→Prop} {t:Tmp} {want:Bool} {L:List Bool} {v:AV} (hr:ko P n HS m l sl K (mF E o.dst (wa L v))) (hg:o.g=some (t,want):=by rfl) (hd:mB n o.dst=true:=by rfl) (hb:ve want (lk E t)=some L:=by (simp +decide only [go_sem, *]<;>rfl))
 (hx:oR L=false:=by (simp +decide only [go_sem,oR,Bool.false_and,Bool.and_false, *])):ko P n HS m (o::l) (none::sl) K E:=
 .gl hg hd hb (fun h=>by rw [hx] at h;cases h) hr
abbrev j7 (st:kG):jy:=⟨70,6,[ki st]⟩
def room (s:jv):Bool:=decide ((s.jL.length:Int)<200)
def lX (s:jv) (n:Int):Int:=(s.jL.getD n.toNat (0,0)).2
def lZ (s:jv) (c:kh) (st:kG):Bool:=
 if st.op=1 then room s
 else if st.op=2 then n8 c [st.w]&&(room s||decide (0≤lX s (c.vars.getD st.w.toNat 0)))
 else if st.op=3 then n8 c [st.v,st.w]
 else if st.op=4∨st.op=5 then n8 c [st.v]
 else if st.op=6 then bif n8 c st.vars then decide ((s.tasks.length:Int)<32) else false
 else if st.op=8∨st.op=9 then n8 c st.vars
 else true
structure SE (s:jv) (c:kh) (st:kG):Prop where
 v:(st.op=1∨st.op=2∨st.op=3∨st.op=4∨st.op=5)→mW c st.v
 w:(st.op=2∨st.op=3)→mW c st.w
 vs:(st.op=6∨st.op=8∨st.op=9)→∀v∈st.vars,mW c v
 ob:∀x∈c.vars,x<s.jL.length
 vl:st.vars.length≤1000
theorem kY.nE {rs:List ResultVar} {n:Nat} {d:AV} {s':jv} {E:Env} {H:List jy} {vs:List AV} (T:List jy) (hw:WF s') (hv:o6 Tryd.prog ⟨E,H⟩ rs=some vs) (hH:H=HH s'++T) (he:rG vs=d) (hd:mR (·<NN) d):kY Tryd.prog rs ⟨n,NN⟩ d (HH s') ⟨E,H⟩:=
 .run hw hv hH (by rw [he];exact hd.tB fun b hb=>rF hb)
theorem awR (a b:Bool):(bif a then true else b)=(a||b):=by cases a<;>rfl
theorem aoI {s:jv} (hw:WF s) {j:Nat} {c:kh} {st:kG} (hc:s.calls[j]?=some c) (hv:SE s c st):jS Tryd.prog 88 [jI,ki st,kM j] (HH s) (.bool (lZ s c st)) (HH s):=by
 obtain ⟨hj,uH⟩:=hw.c hc;obtain ⟨R,hR⟩:∃R,R=lZ s c st:=⟨_,rfl⟩
 rw [← hR];have i1:∀vs:List Int,(∀v∈vs,mW c v)→vs.length≤1000→jS Tryd.prog 111 [kM j,.jA (vs.map .int)] (HH s) (.bool (n8 c vs)) (HH s):=fun vs h1 h2=>aoH hw h1 ae hc hj uH;have tG:∀vs:List Int,∀a∈[kM j,AV.jA (vs.map .int)],mR (·<NN) a:=fun vs a ha=>by
  simp only [dC,dB,jd] at ha;rcases ha with rfl|rfl
  ·exact .ptr hj
  ·exact .pu (l7 _)
 refine jS.i2 [(0,jI),(1,ki st),(2,kM j)] 3 85 NN Tryd.func88 (kC s) ?_;obtain ⟨o,v,w,n,tk,vs⟩:=st;obtain ⟨v1,v2,v3,v4,v5⟩:=hv;simp only at v1 v2 v3 v5;simp only [lZ] at hR;refine jw ?_;refine kL (fun h1=>?_) (fun h1=>?_)
 ·simp at h1;rw [ja h1] at hR;refine jw ?_;rw [hR];clear hR i1 v1 v2 v3;exact .nE [j7 ⟨1,v,w,n,tk,vs⟩] hw (vs:=[.bool (room s)]) ay rfl rfl (.pu (.base _))
 simp at h1;rw [iZ h1] at hR;refine jw ?_;refine kL (fun h2=>?_) (fun h2=>?_)
 ·simp at h2;rw [ja h2] at hR;have lj:=v2 (.inl h2);have i2:=i1 [w] (by simp [lj]) ah;obtain ⟨w0,w1⟩:=lj;obtain ⟨w',rfl⟩:∃w':Nat,w=w':=⟨_,(dP w0).symm⟩
  rw [dF] at w1;obtain ⟨x,hx⟩:∃x,c.vars[w']?=some x:=⟨_,dy w1⟩
  have qy:=zj (j:=j) hx;have xo:(c.vars.map AV.int)[w']?=some (.int x):=aZ;have hxo:=v4 x (dx hx);have pG:n8 c [(w':Int)]=!decide (x<0):=by simp [n8,dI,hx]
  have Dy:c.vars.getD (w':Int).toNat 0=x:=by rw [dF,dI,hx];rfl
  rw [pG,Dy] at hR;rw [pG] at i2;clear v1 v2 v3 pG Dy h1 i1;refine jG.seq ?_;by_cases ED:x<0
  ·have Oe:decide (x<0)=true:=by simp [ED]
   rw [Oe] at hR i2;refine qK (k:=26) [none,none,none,none,some 0,none,none,none,none,none,none,none,none,none,none,none,none,none,none,none,none,none,none,none,none,none] (fun _=>HH s++[j7 ⟨o,v,w',n,tk,vs⟩]) 1 follows ?_;refine gS ?_;refine gS ?_;refine gS ?_;refine ko.q1 (v:=.jA [.int w']) rfl rfl (fun _ _=>Al az dG ny ag az aM aM rfl) ?_;refine ko.p1 (v:=.bool (false)) rfl rfl (fun kB h=>sf hw hw i2 rfl ((h (.func 111) ai).trans rfl) (by
    have e1:=(h (.tmp 21) ai).trans (show _=kM j by simp +decide only [go_sem, *]<;>rfl);have e2:=(h (.tmp 24) ai).trans (show _=AV.jA [.int w'] by simp +decide only [go_sem, *]<;>rfl);simp only [ef,ez,e1,e2];rfl) (tG _) (.pu (.base _))) ?_
   refine gS ?_;refine gG ?_;refine gG ?_;refine gX (v:=.bad) ?_;refine gX (v:=.bad) ?_;refine gX (v:=.bad) ?_;refine gX (v:=.bad) ?_;refine gX (v:=.bad) ?_;refine gX (v:=.bad) ?_;refine gX (v:=.bad) ?_;refine gX (v:=.bad) ?_;refine gX (v:=.bad) ?_;refine gX (v:=.bad) ?_;refine gX (v:=.bad) ?_;refine gX (v:=.bad) ?_;refine gX (v:=.bad) ?_;refine gX (v:=.bad) ?_;refine gX (v:=.bad) ?_;refine gX (v:=.bad) ?_;refine gX (v:=.bool false) ?_;refine gS ?_;refine ko.nil ?_;refine jw ?_;rw [hR];clear hR tG i2;exact .nE [j7 ⟨2,v,w',n,tk,vs⟩] hw (vs:=[.bool false]) ay rfl (by simp [rG]) (.pu (.base _))
  have Oe:decide (x<0)=false:=aj;rw [Oe] at hR i2;obtain ⟨x',rfl⟩:∃x':Nat,x=x':=⟨_,(dP ae).symm⟩
  have wV:x'<s.jL.length:=ae;obtain ⟨y,hy⟩:∃y,s.jL[x']?=some y:=⟨_,dy wV⟩
  have hyo:lX s (x':Int)=y.2:=by simp [lX,dI,hy]
  have Y9:(s.jL.map qH)[x']?=some (qH y):=cy;rw [hyo] at hR;clear hyo Oe ED v4;refine qK (k:=26) [none,none,none,none,some 0,none,none,none,none,none,none,none,none,none,none,none,none,none,none,none,none,none,none,none,none,none] (fun _=>HH s++[j7 ⟨o,v,w',n,tk,vs⟩]) 1 follows ?_;refine gS ?_;refine gS ?_;refine gS ?_;refine ko.q1 (v:=.jA [.int w']) rfl rfl (fun _ _=>Al az dG ny ag az aM aM rfl) ?_;refine ko.p1 (v:=.bool (true)) rfl rfl (fun kB h=>sf hw hw i2 rfl ((h (.func 111) ai).trans rfl) (by
   have e1:=(h (.tmp 21) ai).trans (show _=kM j by simp +decide only [go_sem, *]<;>rfl);have e2:=(h (.tmp 24) ai).trans (show _=AV.jA [.int w'] by simp +decide only [go_sem, *]<;>rfl);simp only [ef,ez,e1,e2];rfl) (tG _) (.pu (.base _))) ?_
  refine gS ?_;refine gG ?_;refine gG ?_;refine gG ?_;refine gG ?_;refine gG ?_;refine gG ?_;refine gG ?_;refine gG ?_;refine gG ?_;refine gG ?_;refine gG ?_;refine gG ?_;refine ko.gl (L:=[true,!decide ((s.jL.length:Int)<200)]) (v:=.ptr (ix (.kz j)) c.vars.length w' 0) rfl rfl aE (fun _ _ _=>lu (n:=w') aa aa dG aa ah w1 aa) ?_;refine gG ?_;refine ko.gl (L:=[true,!decide ((s.jL.length:Int)<200)]) (v:=.ptr (ix .ob) s.jL.length x' 0) rfl rfl aE (fun _ _ _=>lu (n:=x') aa aa fp aa ah wV aa) ?_;refine gG ?_;refine gG ?_;refine gG ?_;refine gG ?_;refine gS ?_;refine ko.nil ?_;refine jw ?_;rw [hR];clear hR tG i2;exact .nE [j7 ⟨2,v,w',n,tk,vs⟩] hw (vs:=[.bool (bif decide ((s.jL.length:Int)<200) then true else decide (0≤y.2))]) ay rfl (by rw [awR,Bool.not_false,Bool.true_and];unfold room;rfl) (.pu (.base _))
 simp at h2;rw [iZ h2] at hR;refine jw ?_;refine kL (fun h3=>?_) (fun h3=>?_)
 ·simp at h3;rw [ja h3] at hR;have i2:=i1 [v,w] (by simp [v1 ae,v2 ae]) ah;refine jw ?_;refine jB.p2 (sf hw hw (T:=[j7 ⟨3,v,w,n,tk,vs⟩]) i2 rfl aa aa (tG _) (.pu (.base _))) ?_;refine jw ?_;rw [hR];clear hR i1 v1 v2 v3;exact .nE [j7 ⟨3,v,w,n,tk,vs⟩] hw (vs:=[.bool (n8 c [v,w])]) ay rfl rfl (.pu (.base _))
 simp at h3;rw [iZ h3] at hR;refine jw ?_;have i2:(o=4∨o=5)→jS Tryd.prog 111 [kM j,.jA ([v].map .int)] (HH s) (.bool (n8 c [v])) (HH s):=fun h=>i1 [v] (by simp [v1 ae]) ah;refine kL (fun h4=>?_) (fun h4=>?_)
 ·simp at h4;rw [ja (.inl h4)] at hR
  replace i2:=i2 (.inl h4)
  refine jw ?_;refine WU rfl ae ?_;refine jw ?_;refine jB.p2 (sf hw hw (T:=[j7 ⟨4,v,w,n,tk,vs⟩]) i2 rfl aa aa (tG _) (.pu (.base _))) ?_;refine jw ?_;rw [hR];clear hR i1 v1 v2 v3;exact .nE [j7 ⟨4,v,w,n,tk,vs⟩] hw (vs:=[.bool (n8 c [v])]) ay rfl rfl (.pu (.base _))
 simp at h4;refine jw ?_;refine kL (fun h5=>?_) (fun h5=>?_)
 ·simp at h5;rw [ja (.inr h5)] at hR
  replace i2:=i2 (.inr h5)
  refine jw ?_;refine jB.p2 (sf hw hw (T:=[j7 ⟨5,v,w,n,tk,vs⟩]) i2 rfl aa aa (tG _) (.pu (.base _))) ?_;refine jw ?_;rw [hR];clear hR i1 v1 v2 v3;exact .nE [j7 ⟨5,v,w,n,tk,vs⟩] hw (vs:=[.bool (n8 c [v])]) ay rfl rfl (.pu (.base _))
 simp at h5;rw [iZ ae] at hR;refine jw ?_;clear i2;have i2:(o=6∨o=8∨o=9)→jS Tryd.prog 111 [kM j,.jA (vs.map .int)] (HH s) (.bool (n8 c vs)) (HH s):=fun h=>i1 vs (v3 h) v5;refine kL (fun h6=>?_) (fun h6=>?_)
 ·simp at h6;rw [ja h6] at hR
  replace i2:=i2 (.inl h6)
  refine jw ?_;refine jB.p2 (sf hw hw (T:=[j7 ⟨6,v,w,n,tk,vs⟩]) i2 rfl aa aa (tG _) (.pu (.base _))) ?_;refine jw ?_;rw [hR];clear hR i1 v1 v2 v3;exact .nE [j7 ⟨6,v,w,n,tk,vs⟩] hw (vs:=[.bool (bif n8 c vs then decide ((s.tasks.length:Int)<32) else false)]) ay rfl rfl (.pu (.base _))
 simp at h6;rw [iZ h6] at hR;refine jw ?_;refine kL (fun h8=>?_) (fun h8=>?_)
 ·simp at h8;rw [ja (.inl h8)] at hR
  replace i2:=i2 (.inr (.inl h8))
  refine jw ?_;refine WU rfl ae ?_;refine jw ?_;refine jB.p2 (sf hw hw (T:=[j7 ⟨8,v,w,n,tk,vs⟩]) i2 rfl aa aa (tG _) (.pu (.base _))) ?_;refine jw ?_;rw [hR];clear hR i1 v1 v2 v3;exact .nE [j7 ⟨8,v,w,n,tk,vs⟩] hw (vs:=[.bool (n8 c vs)]) ay rfl rfl (.pu (.base _))
 simp at h8;refine jw ?_;refine kL (fun h9=>?_) (fun h9=>?_)
 ·simp at h9;rw [ja (.inr h9)] at hR
  replace i2:=i2 (.inr (.inr h9))
  refine jw ?_;refine jB.p2 (sf hw hw (T:=[j7 ⟨9,v,w,n,tk,vs⟩]) i2 rfl aa aa (tG _) (.pu (.base _))) ?_;refine jw ?_;rw [hR];clear hR i1 v1 v2 v3;exact .nE [j7 ⟨9,v,w,n,tk,vs⟩] hw (vs:=[.bool (n8 c vs)]) ay rfl rfl (.pu (.base _))
 simp at h9;rw [iZ ae] at hR;refine jw ?_;rw [hR];clear hR i1 v1 v2 v3;exact .nE [j7 ⟨o,v,w,n,tk,vs⟩] hw (vs:=[.bool true]) ay rfl rfl (.pu (.base _))
structure Nx (s:jv) (k:Nat) (t:jQ) (j:Nat) (c:kh) (st:kG):Prop where
 ht:s.tasks[k]?=some t
 hm:∃m,t.jC=m+1∧t.jZ[m]?=some j
 hc:s.calls[j]?=some c
 hi:∃i:Nat,c.pc=i∧c.code.steps[i]?=some st
theorem asD {s:jv} (hw:WF s) {k j:Nat} {t:jQ} {c:kh} {st:kG} (h:Nx s k t j c st):jS Tryd.prog 86 [nW k] (HH s) (.ky [ki st,kM j]) (HH s):=by
 obtain ⟨m,h1,h2⟩:=h.hm;obtain ⟨i,h3,h4⟩:=h.hi;have hk:=hw.k h.ht;have hc:=hw.c h.hc;exact HF hw h.ht hk.1 hk.2.1 h1 h2 h.hc hc.1 h3 h4
def sk (c:kh) (st:kG):Int:=if st.op=8 then st.n else c.jM
def AH (s:jv) (k:Nat) (a:Int) (i:Nat):Bool:=match s.tasks[i]? with
 | some t=>bif (i:Int) !=(k:Int) then decide (t.has=a) else false
 | none=>false
def BB (s:jv) (k:Nat) (a:Int):Bool:=!decide (a<0)&&(List.range s.tasks.length).any (AH s k a)
theorem afD {s:jv} (hw:WF s) {k j:Nat} {t:jQ} {c:kh} {st:kG} (h:Nx s k t j c st):jS Tryd.prog 110 [jI,.int k] (HH s) (.bool (BB s k (sk c st))) (HH s):=by
 have i1:=asD hw h;have ht:=h.ht;have hc:=h.hc;obtain ⟨K3,B7,Th,hk4,pR,hrg⟩:=hw.k ht;obtain ⟨hj,uH⟩:=hw.c hc;have tG:∀a∈[nW k],mR (·<NN) a:=fun a ha=>by rw [dz] at ha;subst ha;exact .ptr K3
 obtain ⟨R,hR⟩:∃R,R=BB s k (sk c st):=⟨_,rfl⟩
 rw [← hR];clear h;refine jS.i2 [(0,jI),(1,.int k)] 2 54 NN Tryd.func110 (kC s) ?_;refine jw ?_;refine jB.q2 (lu (n:=k) (b:=ix .tk) aa aa ew aa ah pR aa) ?_;refine jw ?_;refine jB.p2 (rM i1 (dD _) rfl aa aa) ?_;refine jw ?_;have hlen:(HH s).length=NN:=kC s;refine jG.join ⟨[(0,jI),(1,.int k),(7,.int (sk c st))],HH s++[j7 st]⟩ ?_ ?_
 ·refine kL (fun h8=>?_) (fun h8=>?_)
  ·simp at h8;refine jw ?_;rw [show sk c st=st.n by rw [sk,ja h8]];rw [← h8];exact .wf
  simp at h8;refine jw ?_;rw [show sk c st=c.jM by rw [sk,iZ h8]];exact .wf
 generalize sk c st=a at *;clear i1 ht hc hj uH;refine jw ?_;refine kL (fun ha=>?_) (fun ha=>?_)
 ·simp at ha;rw [show R=false by rw [hR,BB];simp [ha]];refine jw ?_;exact .nE [j7 st] hw (vs:=[.bool false]) aA rfl rfl (.pu (.base _))
 simp at ha;have rY:R=(List.range s.tasks.length).any (AH s k a):=by rw [hR,BB];simp;intro _ _ _;omega
 have sR:=hw.nT;refine jw ?_;refine jG.loop (J:=fun i:Nat=>i≤s.tasks.length∧Aj (fun x=>AH s k a x=false) (List.range s.tasks.length) i) (fun i=>⟨[(0,jI),(1,.int k),(7,.int a),(35,.own (ix .tk) s.tasks.length 0 s.tasks.length),(36,.int s.tasks.length),(37,.int i)],HH s++[j7 st]⟩) (fun i=>s.tasks.length-i) 0 ⟨dL _,.zero _ _⟩ .wf ?_;rintro i ⟨hi,he⟩;refine jw ?_;refine kL (fun hd=>?_) (fun hd=>?_)
 ·simp at hd;obtain ⟨ti,nh⟩:∃ti,s.tasks[i]?=some ti:=⟨_,dy hd⟩
  obtain ⟨g1,g2,g3,g4,_,g6⟩:=hw.k nh;have hh:AH s k a i=bif (i:Int) !=(k:Int) then decide (ti.has=a) else false:=by unfold AH;rw [nh]
  have Oc:AH s k a i=false→Aj (fun x=>AH s k a x=false) (List.range s.tasks.length) (i+1):=fun hp=>he.succ (by rw [eV hd]) hp;have Ti:AH s k a i=true→R=true:=fun hp=>by rw [rY,eS];exact ⟨i,eU.2 hd,hp⟩
  clear he hR rY;refine jw ?_;refine jB.q2 (lu (n:=i) (b:=ix .tk) aa aa ew aa ah hd aa) ?_;refine jw ?_;rw [← hh];refine kL (fun hb=>?_) (fun hb=>?_)
  ·rw [Ti hb];clear Ti Oc hh;refine jw ?_;exact .nE [j7 st] hw (vs:=[.bool true]) aA rfl rfl (.pu (.base _))
  clear Ti;refine jw ?_;rw [l6 ae];exact ⟨i+1,⟨hd,Oc hb⟩,ae,.wf⟩
 simp at hd;obtain rfl:i=s.tasks.length:=ae;rw [show R=false by rw [rY,List.any_eq_false];exact fun x hx=>by simp [he.all ah x hx]];refine jw ?_;exact .nE [j7 st] hw (vs:=[.bool false]) aA rfl rfl (.pu (.base _))
def oy (ts:List jQ):Nat→List Int→List Int×Bool
 | 0,L=>(L,false)
 | k+1,L=>match ts[k]? with
   | some t=>if 0≤t.waits∧(oy ts k L).1.getD t.waits.toNat 0<(oy ts k L).1.getD k 0 then ((oy ts k L).1.set t.waits.toNat ((oy ts k L).1.getD k 0),true) else oy ts k L
   | none=>oy ts k L
def yd (ts:List jQ):Nat→List Int→List Int
 | 0,L=>L
 | f+1,L=>if (oy ts ts.length L).2 then yd ts f (oy ts ts.length L).1 else (oy ts ts.length L).1
def zK (s:jv):List Int:=yd s.tasks 200 (s.tasks.map (·.prio))
def xQ (L:List Int):Nat:=(L.map fun x=>(3-x).toNat).sum
def b3 (L:List Int):Prop:=∀x∈L,x≤3
theorem V3:∀(L:List Int) (w:Nat) (x:Int),w<L.length→L.getD w 0<x→x≤3→xQ (L.set w x)<xQ L
 | [],w,x,h,_,_=>bQ
 | a::L,0,x,_,h,h3=>by
   simp only [List.getD_cons_zero] at h;simp only [xQ,fV,ef,List.sum_cons];omega
 | a::L,w+1,x,hw,h,h3=>by
   have:=V3 L w x (by simpa using hw) cb h3;simp only [xQ,List.set_cons_succ,ef,List.sum_cons] at this ⊢;omega
theorem Mk {ts:List jQ} {L:List Int} (hl:L.length=ts.length) (h3:b3 L) (mr:∀t∈ts,t.waits<ts.length):∀k,k≤ts.length→(oy ts k L).1.length=ts.length∧b3 (oy ts k L).1∧xQ (oy ts k L).1≤xQ L∧((oy ts k L).2=true→xQ (oy ts k L).1<xQ L)
 | 0,_=>⟨hl,h3,dD _,fun h=>dh⟩
 | k+1,hk=>by
   obtain ⟨a1,a2,a3,a4⟩:=Mk hl h3 mr k ae;have ht:ts[k]?=some ts[k]:=dy hk;simp only [oy,ht];split
   ·rename_i hc;have kq:=mr ts[k] (ey _);have Th:(oy ts k L).1.getD k 0≤3:=by
     rw [dI,dy ae];exact a2 _ (ey _)
    have hm:=V3 (oy ts k L).1 ts[k].waits.toNat _ ae hc.2 Th;refine ⟨by rw [dW];exact a1,fun x hx=>?_,Nat.le_of_lt (eZ hm a3),fun _=>eZ hm a3⟩;rcases eu hx with h|h
    ·exact a2 x h
    ·rw [h];exact Th
   ·exact ⟨a1,a2,a3,a4⟩
structure M5 (s:jv):Prop where
 pr:∀t∈s.tasks,0≤t.prio∧t.prio≤3
 wt:∀t∈s.tasks,t.waits<s.tasks.length
theorem WG {L:List Int} (h:∀x∈L,0≤x):xQ L≤3*L.length:=by
 induction L with
 | nil=>simp [xQ]
 | cons a L ih =>
   have h1:=ih fun x hx=>h x (by simp [hx]);have h2:=h a ah;simp only [xQ,ef,List.sum_cons,ff] at h1 ⊢;omega
def Ak (l:List Int) (i:Nat):List Int:=l.take i++List.replicate (l.length-i) 0
theorem alQ {l:List Int} {i:Nat} (h:i≤l.length):(Ak l i).length=l.length:=by unfold Ak;simp;omega
theorem ajA (l:List Int):(Ak l 0).map AV.int=List.replicate l.length (AV.int 0):=by unfold Ak;simp
theorem ajB {l:List Int} {i:Nat} (h:i<l.length):(Ak l i).set i l[i]=Ak l (i+1):=by
 unfold Ak;rw [eY _ _ aj,eQ,show i-min i l.length=0 by omega,show l.length-i=(l.length-(i+1))+1 by omega,fQ,fV,fu h,eA];rfl
theorem alR (l:List Int):Ak l l.length=l:=by unfold Ak;simp
theorem adS {s:jv} (hw:WF s) (hp:M5 s):jS Tryd.prog 109 [jI] (HH s) (.own NN s.tasks.length 0 s.tasks.length) (HH s++[jD (zK s)]):=by
 obtain ⟨R,hR⟩:∃R,R=zK s:=⟨_,rfl⟩
 rw [← hR];have sR:=hw.nT;have hlen:(HH s).length=NN:=kC s;refine jS.i2 [(0,jI)] 1 75 NN Tryd.func109 (kC s) ?_;refine jw ?_;refine jB.p2 (JA (z:=.int 0) aa aa dG ug D5 rfl ae (fy _) ae ae) ?_;refine jw ?_;obtain ⟨P,hP⟩:∃P,P=s.tasks.map (·.prio):=⟨_,rfl⟩
 have I8:P.length=s.tasks.length:=by rw [hP,eo]
 have hpg:Hid (∀(i:Nat) (t:jQ),s.tasks[i]?=some t→P[i]?=some t.prio):=⟨fun i (t:jQ) h=>by rw [hP,dE,h];rfl⟩
 replace hR:Hid (R=yd s.tasks 200 P):=⟨by rw [hR,hP];rfl⟩
 have Tj:Hid (b3 P∧xQ P≤96):=⟨by
  rw [hP];refine ⟨fun x hx=>?_,?_⟩
  ·obtain ⟨t,h,rfl⟩:=eI.1 hx;exact (hp.pr t h).2
  ·have:=WG (L:=s.tasks.map (·.prio)) fun x hx=>by obtain ⟨t,h,rfl⟩:=eI.1 hx;exact (hp.pr t h).1
   rw [eo] at this;omega⟩
 clear hP;rw [← I8,← ajA P,I8];refine jG.loop (J:=fun i:Nat=>i≤s.tasks.length) (fun i=>⟨[(0,jI),(3,.own NN s.tasks.length 0 s.tasks.length),(18,.own (ix .tk) s.tasks.length 0 s.tasks.length),(19,.int s.tasks.length),(20,.int i)],HH s++[jD (Ak P i)]⟩) (fun i=>s.tasks.length-i) 0 (dL _) .wf ?_
 ·rintro i hi;have nG:=alQ (l:=P) (i:=i) ae;rw [I8] at nG;refine jw ?_;refine kL (fun hd=>?_) (fun hd=>?_)
  ·simp at hd;obtain ⟨ti,nh⟩:∃ti,s.tasks[i]?=some ti:=⟨_,dy hd⟩
   obtain ⟨g1,g2,g3,g4,_,g6⟩:=hw.k nh;have qA:=ajB (l:=P) (i:=i) ae;have AR:P[i]' ae=ti.prio:=by
    have h1:=hpg.out i ti nh;rw [dy ae] at h1;injection h1
   rw [AR] at qA;clear AR;refine jw ?_;refine jB.q2 (lu (n:=i) (b:=ix .tk) aa aa ew aa ah hd aa) ?_;refine jw ?_;refine jB.q2 (lu (n:=i) (b:=NN) aa aa dG aa (by simp [nG]) hd aa) ?_;refine jw ?_;refine jB.p2 (xc (f:=AV.int) (l:=Ak P i) (b:=NN) (tot:=s.tasks.length) (i:=i) (ty:=3) (sz:=1) ti.prio aa aa aa nG ae ny rfl rfl) ?_;refine jw ?_;rw [l6 ae];refine ⟨i+1,hd,ae,?_⟩;rw [← qA];exact .wf
  simp at hd;obtain rfl:i=s.tasks.length:=ae;rw [show Ak P s.tasks.length=P by rw [← I8];exact alR P];refine jw ?_;refine jG.loop (J:=fun x:Nat×List Int×Bool=>x.1+xQ x.2.1≤96∧x.2.1.length=s.tasks.length∧b3 x.2.1∧(if x.2.2 then yd s.tasks (200-x.1) x.2.1=R else x.2.1=R)) (fun x=>⟨[(0,jI),(3,.own NN s.tasks.length 0 s.tasks.length),(6,.bool x.2.2)],HH s++[jD x.2.1]⟩) (fun x=>2*xQ x.2.1+(if x.2.2 then 1 else 0)) (0,P,true) ⟨by have:=Tj.out.2;simp only;omega,I8,Tj.out.1,by simp;exact hR.out.symm⟩ .wf ?_;rintro ⟨m,L,b⟩ ⟨j1,j2,j3,j4⟩;simp only at j1 j2 j3 j4;clear Tj hpg hR I8;refine jw ?_;cases b with
  | false =>
    simp at j4;subst j4;refine jK ?_ rfl rfl;refine jw ?_;exact kY.same (vs:=[.own NN s.tasks.length 0 s.tasks.length]) bw rfl rfl
  | true =>
    simp at j4;refine j8 ?_ rfl rfl;refine jw ?_;refine jG.loop (J:=fun i:Nat=>i≤s.tasks.length) (fun i=>⟨[(0,jI),(3,.own NN s.tasks.length 0 s.tasks.length),(6,.bool (oy s.tasks i L).2),(37,.own (ix .tk) s.tasks.length 0 s.tasks.length),(38,.int s.tasks.length),(39,.int i)],HH s++[jD (oy s.tasks i L).1]⟩) (fun i=>s.tasks.length-i) 0 (dL _) .wf ?_;rintro i hi;obtain ⟨a1,a2,a3,a4⟩:=Mk j2 j3 hp.wt i hi;refine jw ?_;refine kL (fun hd=>?_) (fun hd=>?_)
    ·simp at hd;obtain ⟨ti,nh⟩:∃ti,s.tasks[i]?=some ti:=⟨_,dy hd⟩
     obtain ⟨g1,g2,g3,g4,_,g6⟩:=hw.k nh;have mr:=hp.wt ti (dx nh);have qA:oy s.tasks (i+1) L=if 0≤ti.waits∧(oy s.tasks i L).1.getD ti.waits.toNat 0<(oy s.tasks i L).1.getD i 0 then ((oy s.tasks i L).1.set ti.waits.toNat ((oy s.tasks i L).1.getD i 0),true) else oy s.tasks i L:=by simp only [oy,nh]
     clear j4;obtain ⟨⟨A,b⟩,hA⟩:∃A,A=oy s.tasks i L:=⟨_,rfl⟩
     rw [← hA] at qA a1 ⊢;simp only at qA a1 ⊢;clear hA a2 a3 a4;obtain ⟨x,hx⟩:∃x,A[i]?=some x:=⟨_,dy ae⟩
     have DF:A.getD i 0=x:=by rw [dI,hx];rfl
     have yV:(A.map AV.int)[i]?=some (.int x):=aZ;rw [DF] at qA;by_cases nt:0≤ti.waits
     ·obtain ⟨v,hv⟩:∃v:Nat,ti.waits=v:=⟨_,(dP nt).symm⟩
      rw [hv,dF] at qA;rw [hv] at mr;obtain ⟨y,hy⟩:∃y,A[v]?=some y:=⟨_,dy ae⟩
      have hyg:A.getD v 0=y:=by rw [dI,hy];rfl
      have SG:(A.map AV.int)[v]?=some (.int y):=cy;rw [hyg] at qA;have RK:decide ((v:Int)≥0)=true:=ah;have mf:v<s.tasks.length:=ae;clear DF hyg nt mr;refine jw ?_;refine jB.q2 (lu (n:=i) (b:=ix .tk) aa aa ew aa ah hd aa) ?_;refine jw ?_;refine mi (k:=17) follows (hr:=?_);refine jw ?_;refine uf (h:=fun hg=>lu (n:=v) (b:=NN) aa aa dG aa (by simp [a1]) mf aa) (hr:=?_);refine jw ?_;refine uf (h:=fun hg=>lu (n:=i) (b:=NN) aa aa dG aa (by simp [a1]) hd aa) (hr:=?_);refine jw ?_;refine kL (fun Ce=>?_) (fun Ce=>?_)
      ·simp at Ce;rw [ja ⟨ae,Ce⟩] at qA;refine jw ?_;refine mi (k:=9) follows (hr:=?_);refine jw ?_;refine jB.q2 (lu (n:=i) (b:=NN) aa aa dG aa (by simp [a1]) hd aa) ?_;refine jw ?_;refine jB.q2 (lu (n:=v) (b:=NN) aa aa dG aa (by simp [a1]) mf aa) ?_;refine jw ?_;refine jB.p2 (xc (f:=AV.int) (l:=A) (b:=NN) (tot:=s.tasks.length) (i:=v) (ty:=3) (sz:=1) x aa aa aa a1 ae ny rfl rfl) ?_;refine jw ?_;rw [l6 ae];refine ⟨i+1,hd,ae,?_⟩;rw [qA];exact .wf
      simp at Ce;rw [iZ ae] at qA;refine jw ?_;rw [l6 ae];refine ⟨i+1,hd,ae,?_⟩;rw [qA];exact .wf
     rw [iZ ae] at qA;have RK:decide (ti.waits≥0)=false:=aj;clear DF mr;refine jw ?_;refine jB.q2 (lu (n:=i) (b:=ix .tk) aa aa ew aa ah hd aa) ?_;refine jw ?_;refine mi (k:=17) follows (hr:=?_);refine jw ?_;refine wu .bad ?_;refine wu (.int 0) ?_;refine jw ?_;refine wu .bad ?_;refine wu (.int 0) ?_;refine jw ?_;refine jK ?_ rfl rfl;refine jw ?_;rw [l6 ae];refine ⟨i+1,hd,ae,?_⟩;rw [qA];exact .wf
    simp at hd;obtain rfl:i=s.tasks.length:=ae;refine jw ?_;cases hb:(oy s.tasks s.tasks.length L).2 with
    | true =>
      rw [show 200-m=(199-m)+1 by omega,yd,ja hb] at j4;have:=a4 hb;refine ⟨(m+1,(oy s.tasks s.tasks.length L).1,true),⟨bp,a1,a2,?_⟩,aj,?_⟩
      ·simp only [jb];rw [show 200-(m+1)=199-m by omega];exact j4
      ·clear j4;exact .wf
    | false =>
      rw [show 200-m=(199-m)+1 by omega,yd,iZ (by simp [hb])] at j4;refine ⟨(m,(oy s.tasks s.tasks.length L).1,false),⟨bp,a1,a2,?_⟩,aj,?_⟩
      ·simp;exact j4
      ·clear j4;exact .wf
def N2 (s:jv) (k:Nat):Option (Nat×kh×kG):=match s.tasks[k]? with
 | some t=>match t.jC with
   | 0=>none
   | m+1=>match t.jZ[m]? with
     | some j=>match s.calls[j]? with
       | some c=>match c.code.steps[c.pc.toNat]? with
         | some st=>some (j,c,st)
         | none=>none
       | none=>none
     | none=>none
 | none=>none
theorem Nx.f {s:jv} {k j:Nat} {t:jQ} {c:kh} {st:kG} (h:Nx s k t j c st):N2 s k=some (j,c,st):=by
 obtain ⟨m,h1,h2⟩:=h.hm;obtain ⟨i,h3,h4⟩:=h.hi;unfold N2;rw [h.ht];simp only [h1,h2,h.hc,h3,dF,h4]
def yG (s:jv) (k:Nat):Bool:=match N2 s k with
 | some (_,c,st)=>BB s k (sk c st)
 | none=>false
def qa (s:jv) (l:List Int):Nat→Int×List Int
 | 0=>(-1,[])
 | i+1=>match s.tasks[i]? with
   | some t=>if t.state≠1∨yG s i=true then qa s l i else if (qa s l i).1<l.getD i 0 then (l.getD i 0,[(i:Int)]) else if l.getD i 0<(qa s l i).1 then qa s l i else ((qa s l i).1,(qa s l i).2++[(i:Int)])
   | none=>qa s l i
def rv (s:jv):List Int:=(qa s (zK s) s.tasks.length).2
def BC (s:jv):Int:=if s.used<s.sched.length then s.sched.getD s.used.toNat 0 else 0
def nf (s:jv):jv:=if rv s=[] then s else if s.used<s.sched.length then { s with used:=s.used+1 } else s
def xR (s:jv):Int:=(rv s).getD (((BC s).tmod (rv s).length+(rv s).length).tmod (rv s).length).toNat 0
structure Rdy (s:jv):Prop where
 nx:∀k t,s.tasks[k]?=some t→t.state=1→∃j c st,Nx s k t j c st
 us:0≤s.used∧s.used≤1000000
theorem ajC (s:jv) (hp:M5 s):(zK s).length=s.tasks.length:=by
 unfold zK;have key:∀f L,L.length=s.tasks.length→b3 L→(yd s.tasks f L).length=s.tasks.length:=by
  intro f
  induction f with
  | zero=>intro L h _;exact h
  | succ f ih =>
    intro L h h3;obtain ⟨a1,a2,_,_⟩:=Mk h h3 hp.wt s.tasks.length (dD _);simp only [yd];split
    ·exact ih _ a1 a2
    ·exact a1
 exact key _ _ ah fun x hx=>by obtain ⟨t,h,rfl⟩:=eI.1 hx;exact (hp.pr t h).2
def vD (E:List Int) (len:Nat) (v:Int):List Int:=E.take len++v::E.drop (len+1)
theorem ajD {E:List Int} {len:Nat} {v:Int} (h:len<E.length):vD E len v=E.set len v:=by
 unfold vD;rw [List.set_eq_take_append_cons_drop,ja h]
theorem ajE {E:List Int} {v:Int}:vD E E.length v=E++[v]:=by
 unfold vD;rw [fT,ga ae]
theorem UN {E:List Int} {len:Nat} {v:Int} (h:len≤E.length):len+1≤(vD E len v).length∧(vD E len v).length≤E.length+1:=by
 unfold vD;simp;omega
theorem Uh {E:List Int} {len:Nat} {v:Int} (h:len≤E.length):(vD E len v).take (len+1)=E.take len++[v]:=by
 unfold vD;rw [List.take_append,eQ,show min len E.length=len by omega,show len+1-len=1 by omega,List.take_take,show min (len+1) len=len by omega];rfl
theorem V4 {H:List jy} {ρ:Operand→AV} {s x:Operand} {b len:Nat} {E:List Int} {v:Int} (xE:ρ s=.own b E.length 0 len) (hx:ρ x=.jA [.int v]) (hb:H[b]?=some (jD E)) (hlen:len≤E.length) (hE:E.length≤1000000) :
 PL Tryd.prog H ρ (.call { callee:=.builtin .append,args:=#[s,x],argTypes:=#[25,25] }) (.own b (vD E len v).length 0 (len+1)) (H.set b (jD (vD E len v))):=by
 rcases eE len E.length with h|h
 ·rw [ajD h,dW,show jD (E.set len v)={ jD E with es:=(E.map AV.int).set len (.int v) } by simp [fJ]];exact TX xE hx rfl rfl hb ah h rfl dG ug (by show (3:Nat)<pj;decide)
 ·obtain rfl:len=E.length:=ae;rw [ajE,show jD (E++[v])={ jD E with es:=(E.map AV.int)++[.int v] } by simp];simpa using tX (P:=Tryd.prog) (b:=b) (tot:=E.length) (es:=[.int v]) xE hx hb ah dG ug rfl rfl ah (fun e he=>aw) aj aj
theorem jG.aoJ {P:Program} {n n':Fr} {s:ku} {c:Code} {rs:List ResultVar} {d:AV} {H':List jy} (h:jG P n c (CF P rs n' d H') s):jG P n (.scope c) (CF P rs n' d H') s:=
 .scope (h.mono fun e s hq=>by cases e<;>first|exact hq|exact hq.elim)
theorem Ip (i:Int):∀a∈[jI,AV.int i],mR (·<NN) a:=by
 intro a ha;simp only [dC,dB,jd] at ha;rcases ha with rfl|rfl
 ·exact .ptr mc
 ·exact .pu (.base _)
theorem Pz {s:jv} (hw:WF s) (hp:M5 s) (hr:Rdy s):jS Tryd.prog 85 [jI] (HH s) (if rv s=[] then .ky [.int 0,.bool false] else .ky [.int (xR s),.bool true]) (HH (nf s)):=by
 have i1:=adS hw hp;have mQ:=ajC s hp;have sR:=hw.nT;have hlen:(HH s).length=NN:=kC s;refine jS.i2 [(0,jI)] 1 101 NN Tryd.func85 (kC s) ?_;refine jw ?_;refine jG.aoJ ?_;refine jw ?_;refine jB.p2 (rM i1 ah rfl aa aa) ?_;refine jw ?_;refine jG.label ?_;refine jw ?_;refine jG.weaken (Wk.rQ (E2:=[(0,jI),(2,.int 0),(3,.bool false),(4,.own NN s.tasks.length 0 s.tasks.length),(5,.own (NN+1) 0 0 0),(6,.int (-1)),(16,.own (ix .tk) s.tasks.length 0 s.tasks.length),(17,.int s.tasks.length),(18,.int 0)]) (H2:=HH s++[jD (zK s)]) 3 1 (sO.rf (S:=Sd s) (fun b hb=>by
  rcases eg.1 hb with hb|hb
  ·exact H4 hw b hb
  ·rw [dz] at hb;subst hb;exact .int _)) ⟨.ptr,.pu (.base _),.pu (.base _),.own,.nil (by simp [hlen]),.pu (.base _),.own,.pu (.base _),.pu (.base _),trivial⟩) ?_
 simp only [alL,List.cons_append,gY];obtain ⟨l,hl⟩:∃l,l=zK s:=⟨_,rfl⟩
 rw [← hl] at mQ ⊢;have YM:Hid (rv s=(qa s l s.tasks.length).2):=⟨by rw [hl];rfl⟩
 clear hl i1;refine jG.loop (J:=fun x:Nat×List Int=>x.1≤s.tasks.length∧x.2.take (qa s l x.1).2.length=(qa s l x.1).2∧x.2.length≤x.1) (fun x=>⟨[(0,jI),(2,.int 0),(3,.bool false),(4,.own NN s.tasks.length 0 s.tasks.length),(5,.own (NN+1) x.2.length 0 (qa s l x.1).2.length),(6,.int (qa s l x.1).1),(16,.own (ix .tk) s.tasks.length 0 s.tasks.length),(17,.int s.tasks.length),(18,.int x.1)],HH s++[jD l,jD x.2]⟩) (fun x=>s.tasks.length-x.1) (0,[]) ⟨dL _,rfl,dL _⟩ .wf ?_;rintro ⟨i,E⟩ ⟨hi,hE,hEl⟩;simp only at hi hE hEl;have tG:(qa s l i).2.length≤E.length:=by rw [← hE,eQ];omega
 have E7:Hid (E.take (qa s l i).2.length=(qa s l i).2):=⟨hE⟩
 clear hE;refine jw ?_;refine kL (fun hd=>?_) (fun hd=>?_)
 ·simp at hd;obtain ⟨ti,nh⟩:∃ti,s.tasks[i]?=some ti:=⟨_,dy hd⟩
  obtain ⟨g1,g2,g3,g4,_,g6⟩:=hw.k nh;have uZ:Hid (qa s l (i+1)=if ti.state≠1∨yG s i=true then qa s l i else if (qa s l i).1<l.getD i 0 then (l.getD i 0,[(i:Int)]) else if l.getD i 0<(qa s l i).1 then qa s l i else ((qa s l i).1,(qa s l i).2++[(i:Int)])):=⟨by simp only [qa,nh]⟩
  obtain ⟨x,hx⟩:∃x,l[i]?=some x:=⟨_,dy ae⟩
  have DF:Hid (l.getD i 0=x):=⟨by rw [dI,hx];rfl⟩
  have yV:(l.map AV.int)[i]?=some (.int x):=aZ;obtain ⟨⟨b,r⟩,hA⟩:∃A,A=qa s l i:=⟨_,rfl⟩
  rw [← hA] at tG E7 uZ ⊢;clear hA;simp only at tG ⊢;have tP:Hid (ti.state=1→∃j c st,Nx s i ti j c st):=⟨hr.nx i ti nh⟩
  clear hr;have lF:∀X,(HH s++[jD l,jD E]).set (NN+1) X=HH s++[jD l,X]:=fun X=>by rw [eY _ _ ae,hlen,fM];rfl
  refine jw ?_;refine jB.q2 (lu (n:=i) (b:=ix .tk) aa aa ew aa ah hd aa) ?_;refine jw ?_;by_cases h1:ti.state=1
  ·obtain ⟨j,c,st,hN⟩:=tP.out h1;have ib:=afD hw hN;have zY:yG s i=BB s i (sk c st):=by unfold yG;rw [hN.f]
   rw [zY] at uZ;clear zY hN;obtain ⟨bb,BO⟩:∃bb,bb=BB s i (sk c st):=⟨_,rfl⟩
   rw [← BO] at uZ ib;clear BO;have kb:decide (ti.state≠1)=false:=by simp [h1]
   refine jw ?_;refine jB.Nl rfl rfl aa rfl (sf hw hw (T:=[jD l,jD E]) ib rfl aa aa (Ip _) (.pu (.base _))) ?_;refine jw ?_;cases bb with
   | true =>
     rw [ja (.inr rfl)] at uZ;refine jw ?_;refine j8 ?_ rfl rfl;refine jw ?_;rw [l6 ae];refine ⟨(i+1,E),⟨hd,by rw [uZ.out];exact E7.out,by show E.length≤i+1;omega⟩,cN,?_⟩;rw [uZ.out];exact .wf
   | false =>
     rw [iZ (by simp [h1])] at uZ;refine jw ?_;refine jK ?_ rfl rfl;refine jw ?_;refine jB.q2 (lu (n:=i) (b:=NN) aa aa dG aa (by simp [mQ]) hd aa) ?_;refine jw ?_;refine kL (fun BS=>?_) (fun BS=>?_)
     ·simp at BS;rw [ja (by rw [DF.out];exact BS)] at uZ;refine jw ?_;refine jB.q2 (lu (n:=i) (b:=NN) aa aa dG aa (by simp [mQ]) hd aa) ?_;refine jw ?_;refine jB.q2 (OD (b:=NN+1) (l:=0) (h:=0) (blk:=jD E) aa dG bV ah (by simp [vp,lk,go_sem]) (by simp [vp,lk,go_sem]) (dD _) (dL _) ny) ?_;refine jw ?_;refine jB.p2 (V4 (b:=NN+1) (E:=E) (len:=0) (v:=i) aa aa bV (dL _) ae) ?_;rw [lF];refine jw ?_;rw [l6 ae];refine ⟨(i+1,vD E (0) i),⟨hd,by rw [uZ.out];show (vD E (0) i).take ([(i:Int)]).length=[(i:Int)];exact Uh (len:=0) (dL _),by show (vD E (0) i).length≤i+1;have:=(UN (E:=E) (v:=(i:Int)) (dL _)).2;omega⟩,cN,?_⟩;rw [uZ.out,DF.out];exact .wf
     simp at BS;rw [iZ (by rw [DF.out];omega)] at uZ;refine jw ?_;refine jB.q2 (lu (n:=i) (b:=NN) aa aa dG aa (by simp [mQ]) hd aa) ?_;refine jw ?_;refine kL (fun kn=>?_) (fun kn=>?_)
     ·simp at kn;rw [ja (by rw [DF.out];exact kn)] at uZ;refine jw ?_;rw [l6 ae];refine ⟨(i+1,E),⟨hd,by rw [uZ.out];exact E7.out,by show E.length≤i+1;omega⟩,cN,?_⟩;rw [uZ.out];exact .wf
     simp at kn;rw [iZ (by rw [DF.out];omega)] at uZ;refine jw ?_;refine jB.p2 (V4 (b:=NN+1) (E:=E) (len:=r.length) (v:=i) aa aa bV tG ae) ?_;rw [lF];refine jw ?_;rw [l6 ae];refine ⟨(i+1,vD E (r.length) i),⟨hd,by rw [uZ.out];show (vD E (r.length) i).take (r++[(i:Int)]).length=r++[(i:Int)];rw [dK];show (vD E r.length i).take (r.length+1)=_;rw [Uh tG,E7.out],by show (vD E (r.length) i).length≤i+1;have:=(UN (E:=E) (v:=(i:Int)) tG).2;omega⟩,cN,?_⟩;rw [uZ.out];simp only [dK,ff,gR,ft];exact .wf
  have kb:(ti.state !=1)=true:=by simp [h1]
  rw [ja (.inl h1)] at uZ;refine jw ?_;refine wu (.bool false) ?_ (hx:=by simp [oR,gc,h1]);refine jw ?_;refine j8 ?_ rfl rfl;refine jw ?_;rw [l6 ae];refine ⟨(i+1,E),⟨hd,by rw [uZ.out];exact E7.out,by show E.length≤i+1;omega⟩,cN,?_⟩;rw [uZ.out];exact .wf
 simp at hd;obtain rfl:i=s.tasks.length:=ae;refine jw ?_;obtain ⟨R,hR⟩:∃R,rv s=R:=⟨_,rfl⟩
 have hRr:(qa s l s.tasks.length).2=R:=by rw [← YM.out,hR]
 rw [hRr] at tG E7 ⊢;clear hRr YM;have yN:Hid (nf s=if R=[] then s else if s.used<s.sched.length then { s with used:=s.used+1 } else s):=⟨by rw [← hR];rfl⟩
 have rT:Hid (xR s=R.getD (((BC s).tmod R.length+R.length).tmod R.length).toNat 0):=⟨by rw [← hR];rfl⟩
 rw [hR];clear hR;by_cases Of:R=[]
 ·subst Of;rw [ja rfl] at yN;refine j8 ?_ rfl rfl;refine jw ?_;rw [yN.out,ja rfl];refine kY.nE [jD l,jD E] hw (vs:=[.int 0,.bool false]) (by show o6 _ _ [.tmp 2,.tmp 3]=_;simp +decide only [o6,xV,zx,uB,go_sem, *]<;>rfl) rfl rfl (.pu (Pu.ky ah))
 have hRl:0<R.length:=List.length_pos_iff.2 Of;rw [iZ Of] at yN ⊢;refine jK ?_ rfl (by simp [Of,lk,go_sem]);refine jw ?_;obtain ⟨q0,q1⟩:=hr.us;have A6:Hid (BC s=if s.used<s.sched.length then s.sched.getD s.used.toNat 0 else 0):=⟨rfl⟩
 refine mi (k:=9) follows (hr:=?_);refine jw ?_;refine jG.join ⟨[(0,jI),(5,.own (NN+1) E.length 0 R.length),(9,.int (BC s))],HH (nf s)++[jD l,jD E]⟩ ?_ ?_
 ·refine kL (fun hu=>?_) (fun hu=>?_)
  ·simp at hu;obtain ⟨u,uD⟩:∃u:Nat,s.used=u:=⟨_,(dP q0).symm⟩
   have sT:u<s.sched.length:=ae;obtain ⟨y,hy⟩:∃y,s.sched[u]?=some y:=⟨_,dy sT⟩
   have SG:(s.sched.map AV.int)[u]?=some (.int y):=cy;rw [ja hu,dI,uD,dF,hy] at A6;rw [ja hu] at yN;refine jw ?_;refine mi (k:=8) follows (hr:=?_);refine jw ?_;have hH:(HH s).set (ix .rn) (blk { s with used:=(u:Int)+1 } .rn)=HH (nf s):=by
    rw [yN.out,uD];exact tZ (s:=s) (s':={ s with used:=(u:Int)+1 }) [(.rn,_)] (fun p hp=>by rw [dz] at hp;subst hp;exact ⟨mc,rfl⟩) fun a ha=>by cases a<;>first|rfl|simp at ha
   rw [l6 ae];rw [A6.out];rw [show nth 0 s.sched (u:Int)=y by simp [nth,hy]];show Wk _ ⟨_,(HH s++[jD l,jD E]).set (ix .rn) (blk { s with used:=(u:Int)+1 } .rn)⟩ _;rw [o7 (kC s) mc,hH];exact .wf
  ·simp at hu;rw [iZ ae] at A6 yN;refine jw ?_;rw [A6.out,yN.out];exact .wf
 have NR:WF (nf s):=by
  rw [yN.out];split
  ·exact ⟨hw.1,hw.2,hw.3,hw.4,hw.5,hw.6,hw.7,hw.8,hw.9,hw.10,hw.11,hw.12,hw.13,hw.14⟩
  ·exact hw
 have Nt:(HH (nf s)).length=NN:=kC _;rw [rT.out];clear rT yN A6;obtain ⟨s2,hS⟩:∃s2,s2=nf s:=⟨_,rfl⟩
 rw [← hS] at NR Nt ⊢;obtain ⟨cc,pO⟩:∃cc,cc=BC s:=⟨_,rfl⟩
 rw [← pO];clear hS pO;have hz:¬((R.length:Int)=0):=ae;refine jw ?_;have b1:cc.tmod R.length<R.length:=fW _ ae;have b2:-(R.length:Int)<cc.tmod R.length:=by
  have:=fW (-cc) (show (0:Int)<R.length by omega);rw [Int.neg_tmod] at this;omega
 have hlE:E.length≤32:=ae;rw [nP ae ae];obtain ⟨m,hm⟩:∃m:Nat,(cc.tmod R.length+R.length).tmod R.length=m:=⟨_,(dP (Int.tmod_nonneg _ ae)).symm⟩
 have IT:m<R.length:=by have:=fW (cc.tmod R.length+R.length) (show (0:Int)<R.length by omega);omega
 obtain ⟨z,EH⟩:∃z,R[m]?=some z:=⟨_,dy IT⟩
 have hEm:(E.map AV.int)[m]?=some (.int z):=by
  rw [dE];rw [← E7.out,List.getElem?_take_of_lt IT] at EH;rw [EH];rfl
 rw [dI,hm,dF,EH];refine jB.q2 (lu (n:=m) (b:=NN+1) aa aa dG (by rw [dJ ae,Nt,fM];rfl) ah IT aa) ?_;refine jw ?_;exact .nE [jD l,jD E] NR (vs:=[.int z,.bool true]) (by show o6 _ _ [.tmp 2,.tmp 3]=_;simp +decide only [o6,xV,zx,uB,go_sem, *]<;>rfl) rfl rfl (.pu (Pu.ky ah))
structure w9 (s:jv):Prop where
 kd:∀k t,s.tasks[k]?=some t→∀c:Int,c∈t.kids→∃j:Nat,c=j∧k<j∧j<s.tasks.length
def mx (s:jv) (l:List Nat):jv:={ s with tasks:=s.tasks.mapIdx fun k t=>if k∈l then { t with canc:=true } else t }
theorem vy {s:jv} {l:List Nat}:(mx s l).tasks.length=s.tasks.length:=by simp [mx]
theorem Bl {s:jv} {l:List Nat} {k:Nat} {t:jQ} (ht:s.tasks[k]?=some t):(mx s l).tasks[k]?=some (if k∈l then { t with canc:=true } else t):=by
 simp [mx,fh,ht]
theorem JI {s:jv} {l:List Nat} {k:Nat} {t':jQ} (ht:(mx s l).tasks[k]?=some t'):∃t,s.tasks[k]?=some t∧t'=if k∈l then { t with canc:=true } else t:=by
 have hk:k<s.tasks.length:=by rw [← vy (l:=l)];exact (dt ht).1
 obtain ⟨t,h⟩:∃t,s.tasks[k]?=some t:=⟨_,dy hk⟩
 rw [Bl h] at ht;exact ⟨t,h,by injection ht with e;exact e.symm⟩
theorem FD {s:jv}:mx s []=s:=by
 unfold mx;have:s.tasks.mapIdx (fun k t=>if k∈([]:List Nat) then { t with canc:=true } else t)=s.tasks:=by
  refine fG fun k=>?_;rw [fh];cases s.tasks[k]?<;>simp
 rw [this]
theorem Jx {s:jv} {l m:List Nat}:mx (mx s l) m=mx s (l++m):=by
 unfold mx;simp only [jv.mk.injEq,true_and,and_true];refine fG fun k=>?_;simp only [fh,Option.map_map]
 congr 1
 funext t
 simp only [Function.comp,eg];by_cases h1:k∈l<;>by_cases h2:k∈m<;>simp [h1,h2]
theorem Uu {s:jv} {l:List Nat} {k:Nat} {t:jQ} (ht:(mx s l).tasks[k]?=some t):(mx s l).jF k { t with canc:=true }=mx s (l++[k]):=by
 rw [← Jx];generalize mx s l=s' at ht;unfold mx jv.jF;simp only [jv.mk.injEq,true_and,and_true];refine fG fun i=>?_;rw [fh,eN];by_cases h:k=i
 ·subst h;rw [ja rfl,ja (dt ht).1,ht];simp
 ·rw [iZ h];cases s'.tasks[i]?<;>simp [Ne.symm h]
theorem w9.can {s:jv} (h:w9 s) (l:List Nat):w9 (mx s l):=⟨fun k t' ht c hc=>by
 obtain ⟨t,h1,rfl⟩:=JI ht;rw [vy];refine h.kd k t h1 c ?_;split at hc<;>exact hc⟩
theorem WF.can {s:jv} (hw:WF s) (l:List Nat):WF (mx s l):=by
 have key:∀ {p:jQ→Prop},(∀t b,p t→p { t with canc:=b })→(∀t∈s.tasks,p t)→∀t∈(mx s l).tasks,p t:=by
  intro p h1 h2 t ht;obtain ⟨k,hk⟩:=List.mem_iff_getElem?.1 ht;obtain ⟨t0,h3,rfl⟩:=JI hk;have:=h2 t0 (dx h3);split
  ·exact h1 _ _ this
  ·exact this
 refine ⟨by rw [vy];exact hw.nT,hw.nC,hw.nK,hw.nB,hw.pl,hw.kK,hw.jV,hw.ends,key (fun t b h=>h) hw.kQ,hw.ke,by rw [vy];exact hw.xu,hw.sz,key (fun t b h=>h) hw.tF,hw.tW⟩
def x8 (s:jv) (n:Nat):List Int:=match s.tasks[n]? with
 | some t=>t.kids
 | none=>[]
theorem agT {s:jv} {l:List Nat} {n:Nat}:x8 (mx s l) n=x8 s n:=by
 unfold x8;cases h:s.tasks[n]? with
 | some t=>rw [Bl h];simp only;split<;>rfl
 | none=>simp [mx,fh,h]
def pI (s:jv):Nat→Nat→List Nat
 | 0,_=>[]
 | f+1,n=>n::(x8 s n).flatMap fun k=>pI s f k.toNat
theorem Mp {s:jv} {l:List Nat} (f:Nat) (n:Nat):pI (mx s l) f n=pI s f n:=by
 induction f generalizing n with
 | zero=>rfl
 | succ f ih=>simp only [pI,agT,ih]
theorem Js:∀(f:Nat) {s:jv} (n:Nat),WF s→w9 s→s.tasks.length-n≤f→n<s.tasks.length→jS Tryd.prog 112 [jI,.int n] (HH s) (.ky []) (HH (mx s (pI s f n))):=by
 intro f
 induction f with
 | zero=>intro s n _ _ h1 h2;omega
 | succ f ih =>
   intro s n hw hk hf hn;obtain ⟨t,ht⟩:∃t,s.tasks[n]?=some t:=⟨_,dy hn⟩
   obtain ⟨g1,g2,g3,g4,_,g6⟩:=hw.k ht;have uX:=hk.kd n t ht;have XX:=(hw.tF t (dx ht)).2;have Sw:x8 s n=t.kids:=by unfold x8;rw [ht]
   have lF:=FM (t':={ t with canc:=true }) ht g1 rfl rfl rfl;have jP:=Uu (l:=[]) (s:=s) (k:=n) (t:=t) (by rw [FD];exact ht);rw [FD,gY] at jP;rw [jP] at lF;clear jP;obtain ⟨s1,j6⟩:∃s1,s1=mx s [n]:=⟨_,rfl⟩
   have kq:WF s1:=by rw [j6];exact hw.can _
   have lr:s1.tasks[n]?=some { t with canc:=true }:=by rw [j6,Bl ht];simp
   have zU:n<s1.tasks.length:=by rw [j6,vy];exact hn
   obtain ⟨e1,e2,e3,e4,_,e6⟩:=kq.k lr;rw [← j6] at lF;have oL:Hid (s1=mx s [n]):=⟨j6⟩
   clear j6;simp only [mG,vJ] at lF;have oY:=D7 (H:=HH s1) (k:=n) (l:=t.kids) cY;simp +decide only [go_sem] at oY;refine jS.i2 [(0,jI),(1,.int n)] 2 34 NN Tryd.func112 (kC s) ?_;refine jw ?_;refine jB.q2 (lu (n:=n) (b:=ix .tk) aa aa ew aa ah hn aa) ?_;refine jw ?_;refine jB.q2 (lu (n:=n) (b:=ix .tk) aa aa ew aa ah zU aa) ?_;refine jw ?_;rw [oL.out];refine jG.loop (J:=fun i:Nat=>i≤t.kids.length) (fun i=>⟨[(0,jI),(24,xq n t.kids),(25,.int t.kids.length),(26,.int i)],HH (mx s (n::(t.kids.take i).flatMap fun k=>pI s f k.toNat))⟩) (fun i=>t.kids.length-i) 0 (dL _) .wf ?_;intro i hi;obtain ⟨l,hl⟩:∃l,l=n::(t.kids.take i).flatMap fun k=>pI s f k.toNat:=⟨_,rfl⟩
   have vU:n∈l:=by rw [hl];simp
   obtain ⟨s2,jW⟩:∃s2,s2=mx s l:=⟨_,rfl⟩
   have lj:WF s2:=by rw [jW];exact hw.can _
   have ov:s2.tasks[n]?=some { t with canc:=true }:=by rw [jW,Bl ht,ja vU]
   obtain ⟨f1,f2,f3,f4,_,f6⟩:=lj.k ov;have qz:Hid (l=n::(t.kids.take i).flatMap fun k=>pI s f k.toNat):=⟨hl⟩
   have pz:Hid (s2=mx s l):=⟨jW⟩
   rw [← hl,← jW];clear hl jW;refine jw ?_;refine kL (fun hd=>?_) (fun hd=>?_)
   ·simp at hd;obtain ⟨k,o0⟩:∃k,t.kids[i]?=some k:=⟨_,dy hd⟩
    obtain ⟨j,rfl,tQ,uH⟩:=uX k (dx o0);have EA:(t.kids.map AV.int)[i]?=some (.int j):=by rw [dE,o0];rfl
    have Dj:=ih (s:=s2) j lj (by rw [pz.out];exact hk.can l) (by rw [pz.out,vy];omega) (by rw [pz.out,vy];exact uH);have hR:Hid (mx s2 (pI s2 f j)=mx s (n::(t.kids.take (i+1)).flatMap fun k=>pI s f k.toNat)):=⟨by
     rw [pz.out,Mp,Jx,qz.out,fH,o0,List.flatMap_append];simp⟩
    have LF:=Mg (k:=n) o0;clear o0;refine jw ?_;refine jB.q2 (lu (n:=i) (b:=ix (.lU n)) aa aa dG aa ah hd aa) ?_;refine jw ?_;refine jB.p2 (rM Dj aP rfl aa aa) ?_;refine jw ?_;rw [l6 ae];refine ⟨i+1,hd,ae,?_⟩;rw [hR.out,LF];exact .wf
   simp at hd;obtain rfl:i=t.kids.length:=ae;have hR:Hid (s2=mx s (pI s (f+1) n)):=⟨by rw [pz.out,qz.out,fT];simp only [pI,Sw]⟩
   refine jw ?_;rw [← hR.out];exact .nE [] lj (vs:=[]) ar ah rfl (.pu (Pu.ky ah))
def lQ (c:Cd) (vs:List Int) (a:Int):kh:=⟨c,vs++List.replicate (c.vars.toNat-vs.length) (-1),0,a⟩
def jv.kF (s:jv) (c:kh):jv:={ s with calls:=s.calls++[c] }
theorem zm {s:jv} {c:kh}:(s.kF c).calls[s.calls.length]?=some c:=by simp [jv.kF]
theorem Cw {s:jv} {c:kh} {j:Nat} (h:j≠s.calls.length):(s.kF c).calls[j]?=s.calls[j]?:=by
 unfold jv.kF;simp only;rcases eE j s.calls.length with h1|h1
 ·exact dA h1
 ·rw [dT aj,dT h1]
theorem V5 {s:jv} {c:kh} {j:Nat} (hj:j=s.calls.length) (h1:ix (.lg j)<NN) (h2:ix (.kz j)<NN):((HH s).set (ix (.kz j)) (jD c.vars)).set (ix (.lg j)) (Ew j c)=HH (s.kF c):=by
 subst hj;refine tZ (s:=s) (s':=s.kF c) [(.kz s.calls.length,jD c.vars),(.lg s.calls.length,Ew s.calls.length c)] (vF ⟨h2,by simp only [blk];rw [zm]⟩ ⟨h1,by simp only [blk];rw [zm]⟩) fun a ha=>?_;simp only [ef,ez,dC,dB,jd,jl] at ha;cases a with
 | lg j=>simp only [blk];rw [Cw fun e=>ha.2 bP]
 | kz j=>simp only [blk];rw [Cw fun e=>ha.1 bP]
 | _=>rfl
theorem WF.kF {s:jv} (hw:WF s) {c:kh} (h1:s.calls.length<MM) (h2:c.vars.length≤1000) (h3:c.code.steps.length≤1000):WF (s.kF c):=by
 refine ⟨hw.nT,by simp [jv.kF];omega,hw.nK,hw.nB,hw.pl,hw.kK,hw.jV,hw.ends,fun t ht=>?_,hw.ke,hw.xu,hw.sz,hw.tF,fun x hx=>?_⟩
 ·obtain ⟨a1,a2⟩:=hw.kQ t ht;exact ⟨fun j hj=>by have:=a1 j hj;simp [jv.kF];omega,a2⟩
 ·simp only [jv.kF,eg,dz] at hx;rcases hx with hx|rfl
  ·exact hw.tW x hx
  ·exact ⟨h2,h3⟩
theorem Ea {s:jv} (hw:WF s) {a:Nm} (ha:¬sH s a) {q:Nat} (hq:NN≤q):∀b∈HH s,kI (Nb q (ix a)) b:=fun b hb =>
 (H4 hw b hb).mono fun i hi=>⟨fun e=>by obtain ⟨a',h1,h2⟩:=hi;rw [e] at h2;rw [sg h2] at ha;exact ha h1,by have:=hi.lt hw;omega⟩
abbrev kP (c:Cd):jy:=⟨68,3,[kx c]⟩
theorem DY {c:Cd} {S:Nat→Prop}:kI S (kP c):=fun e he d hd=>by
 rw [dz] at he;subst he;simp only [kx,AV.cells,dC,dB,jd] at hd;rcases hd with rfl|rfl|rfl
 ·exact .pu (.base _)
 ·exact .pu (.base _)
 ·exact .pu (zl _)
theorem FB {L:List jy} {i:Nat} {X:jy} (h:L[i]?=some X):L.set i X=L:=by
 obtain ⟨h1,h2⟩:=dt h;rw [← h2];exact gh h1
theorem rE {l:List Int} {S:Nat→Prop}:kI S (jD l):=fun e he c hc=>by
 obtain ⟨x,_,rfl⟩:=eI.1 he;simp only [AV.cells,dz] at hc;subst hc;exact .pu (.base _)
theorem yx {L:List jy} {i:Nat} {X:jy} {S:Nat→Prop} (h:∀b∈L,kI S b) (hX:kI S X):∀b∈L.set i X,kI S b:=fun b hb=>by
 rcases eu hb with hb|rfl
 ·exact h b hb
 ·exact hX
theorem vZ {L T:List jy} {S:Nat→Prop} (h:∀b∈L,kI S b) (hX:∀b∈T,kI S b):∀b∈L++T,kI S b:=fun b hb=>by
 rcases eg.1 hb with hb|hb
 ·exact h b hb
 ·exact hX b hb
theorem JP {X:jy} {S:Nat→Prop} (h:kI S X):∀b∈[X],kI S b:=fun b hb=>by
 rw [dz] at hb;subst hb;exact h
theorem Mb {s:jv} {c c':kh} {j:Nat} (hj:j=s.calls.length):(s.kF c).ly j c'=s.kF c':=by
 subst hj;simp [jv.kF,jv.ly]
theorem afE {s:jv} (hw:WF s) {c:Cd} {vs:List Int} {a:Int} (nH:0≤c.vars) (lI:c.vars≤1000) (kV:vs.length≤c.vars) (hM:s.calls.length<MM) (mh:c.steps.length≤1000) :
 jS Tryd.prog 107 [kx c,.jA (vs.map .int),.int a] (HH s) (kM s.calls.length) (HH (s.kF (lQ c vs a))):=by
 obtain ⟨cp,cv,cs⟩:=c;simp only at nH lI kV mh;obtain ⟨nv,rfl⟩:∃nv:Nat,cv=nv:=⟨_,(dP nH).symm⟩
 obtain ⟨j,hj⟩:∃j,j=s.calls.length:=⟨_,rfl⟩
 have Hk:j<MM:=ae;have pY:ix (.lg j)<NN:=mq Hk;have pE:ix (.kz j)<NN:=mq Hk;refine jS.i2 [(0,kx ⟨cp,nv,cs⟩),(1,.jA (vs.map .int)),(2,.int a)] 3 38 NN Tryd.func107 (kC s) ?_;refine jw ?_;refine qK (k:=5) [none,none,none,some 0,none] (fun k=>match k with
  | 0=>HH s++[kP ⟨cp,nv,cs⟩]
  | _=>(HH s).set (ix (.kz j)) (jD (List.replicate nv 0))++[kP ⟨cp,nv,cs⟩]) 1 follows ?_
 refine gS ?_;refine gS ?_;refine gS ?_;refine ko.p1 (v:=tA j (List.replicate nv 0)) rfl rfl (fun kB h=>?_) ?_
 ·show PL Tryd.prog (HH s++[kP ⟨cp,nv,cs⟩]) kB _ (tA j (List.replicate nv 0)) ((HH s).set (ix (.kz j)) (jD (List.replicate nv 0))++[kP ⟨cp,nv,cs⟩]);have hl:kB (.tmp 11)=.int nv:=(h (.tmp 11) au).trans aa;have h1:=JA (P:=Tryd.prog) (H:=HH s++[kP ⟨cp,nv,cs⟩]) (ρ:=kB) (n:=nv) (m:=nv) hl hl dG ug D5 ag ae (fy _) ae ae;rw [dF] at h1;have hz:List.replicate nv (AV.int 0)=(List.replicate nv (0:Int)).map AV.int:=ah;rw [hz] at h1;have Tl:∀q,NN≤q→∀b∈HH s++[kP ⟨cp,nv,cs⟩],kI (Nb q (ix (.kz j))) b:=fun q hq b hb=>by
   rcases eg.1 hb with hb|hb
   ·exact Ea hw (a:=.kz j) (by show ¬j<_;omega) hq b hb
   ·rw [dz] at hb;subst hb;exact DY
  have C0:(HH s)[ix (.kz j)]?=some (jD []):=by
   rw [qS s _ pE];simp only [blk];rw [dT ae]
  cases nv with
  | zero =>
    have h2:=PL.Kf h1 rfl fun b hb=>by
     rcases eg.1 hb with hb|hb
     ·exact (H4 hw b hb).mono fun i hi=>by have:=hi.lt hw;simp [kC];omega
     ·rw [dz] at hb;subst hb;exact DY
    show PL _ _ _ _ _ ((HH s).set (ix (.kz j)) (jD [])++_);rw [FB C0];exact h2
  | succ m =>
    have h2:=PL.xX h1 (p:=ix (.kz j)) (blk0:=jD []) (by rw [mZ (kC s) pE];exact C0) rfl ah rE (Tl _ aP) mI.Bv;rw [o7 (kC s) pE] at h2;have hv:tA j (List.replicate (m+1) 0)=.own (ix (.kz j)) (m+1) 0 (m+1):=by simp [tA,fQ]
    rw [hv];exact h2
 refine gS ?_;refine ko.nil ?_;refine jw ?_;refine x9 (cs:=[.int cp,.int nv,.jA (cs.map ki),tA j (List.replicate nv 0),.int 0,.int a]) Xq V2 ?_ (h:=by cases nv<;>(simp +decide only [List.map,go_sem,tA,List.replicate];try rfl));obtain ⟨c0,l5⟩:∃c0,c0=kh.mk ⟨cp,nv,cs⟩ (List.replicate nv 0) 0 a:=⟨_,rfl⟩
 have zf:∀(ρ:Operand→AV) (x:Operand),ρ x=.agg [.int cp,.int nv,.jA (cs.map ki),tA j (List.replicate nv 0),.int 0,.int a]→PL Tryd.prog ((HH s).set (ix (.kz j)) (jD (List.replicate nv 0))++[kP ⟨cp,nv,cs⟩]) ρ (.box 140 x) (kM j) (HH (s.kF c0)++[kP ⟨cp,nv,cs⟩]):=by
  obtain ⟨L,hL⟩:∃L,L=(HH s).set (ix (.kz j)) (jD (List.replicate nv 0)):=⟨_,rfl⟩
  have xP:L.length=NN:=by rw [hL,qG,kC]
  have Fj:∀q,NN≤q→∀b∈L++[kP ⟨cp,nv,cs⟩],kI (Nb q (ix (.lg j))) b:=fun q hq=>by
   rw [hL];exact vZ (yx (Ea hw (a:=.lg j) (by show ¬j<_;omega) hq) rE) (JP DY)
  have BW:L[ix (.lg j)]?=some ⟨140,6,[]⟩:=by
   rw [hL,qQ (kC s) pE,iZ ah,qS s _ pY];simp only [blk];rw [dT ae]
  intro ρ x hx;have h1:=PL.xX (p:=ix (.lg j)) (xW (P:=Tryd.prog) (H:=L++[kP ⟨cp,nv,cs⟩]) (el:=140) hx (by cases nv<;>rfl)) (by rw [mZ xP pY];exact BW) rfl ah (fun e he d hd=>by
   rw [dz] at he;subst he;simp only [AV.cells,dC,dB,jd] at hd;rcases hd with rfl|rfl|rfl|rfl|rfl|rfl
   ·exact .pu (.base _)
   ·exact .pu (.base _)
   ·exact .pu (zl _)
   ·cases nv with
    | zero=>exact .pu (.jA fun e he=>by cases he)
    | succ m=>exact .own ⟨fun e=>(by have:=sg e;cases this),by simp only [dK,xP];omega⟩
   ·exact .pu (.base _)
   ·exact .pu (.base _)) (Fj _ (by simp [xP])) mI.QG
  rw [o7 xP pY,hL] at h1;rw [← V5 hj pY pE,l5];exact h1
 refine jB.p2 (zf _ _ aE) ?_;obtain ⟨cI,Hl⟩:∃cI:Nat→kh,∀i,cI i=kh.mk ⟨cp,nv,cs⟩ (List.replicate i (-1)++List.replicate (nv-i) 0) 0 a:=⟨_,fun _=>rfl⟩
 have KC:Hid (c0=cI 0):=⟨by rw [Hl,l5];simp⟩
 have Hm:∀c:kh,c.vars.length≤1000→c.code=⟨cp,nv,cs⟩→WF (s.kF c):=fun c h1 h2=>hw.kF hM h1 (by rw [h2];exact mh);have Tm:WF (s.kF c0):=Hm c0 (by rw [l5];simp;omega) (by rw [l5]);have nU:(s.kF c0).calls[j]?=some ⟨⟨cp,nv,cs⟩,List.replicate nv 0,0,a⟩:=by rw [← l5,hj];exact zm
 have AJ:Hid (∀i,cI i=kh.mk ⟨cp,nv,cs⟩ (List.replicate i (-1)++List.replicate (nv-i) 0) 0 a):=⟨Hl⟩
 have mC:Hid (j=s.calls.length):=⟨hj⟩
 clear Hl l5 hj zf;have uJ:=Xs (H:=HH (s.kF c0)++[kP ⟨cp,nv,cs⟩]) (k:=j) (l:=List.replicate nv 0) cY;simp +decide only [go_sem] at uJ;refine jw ?_;have tG:(List.replicate nv (0:Int)).length=nv:=eB;rw [tG,KC.out];refine jG.loop (J:=fun i:Nat=>i≤nv) (fun i=>⟨[(7,kM j),(1,.jA (vs.map .int)),(20,.int nv),(21,.int i)],HH (s.kF (cI i))++[kP ⟨cp,nv,cs⟩]⟩) (fun i=>nv-i) 0 (dL _) .wf ?_;intro i hi;have DG:(List.replicate i (-1:Int)++List.replicate (nv-i) 0).length=nv:=aj;have Tn:WF (s.kF (cI i)):=Hm _ (by rw [AJ.out];simp;omega) (by rw [AJ.out]);obtain ⟨ci,vQ⟩:∃ci,ci=cI i:=⟨_,rfl⟩
 obtain ⟨l,hl⟩:∃l,l=List.replicate i (-1:Int)++List.replicate (nv-i) 0:=⟨_,rfl⟩
 have Iq:(s.kF ci).calls[j]?=some ⟨⟨cp,nv,cs⟩,l,0,a⟩:=by rw [vQ,AJ.out,mC.out,hl];exact zm
 rw [← hl] at DG;rw [← vQ];rw [← vQ] at Tn;have qz:Hid (l=List.replicate i (-1:Int)++List.replicate (nv-i) 0):=⟨hl⟩
 have Rq:Hid (ci=cI i):=⟨vQ⟩
 clear hl vQ uJ tG nU Tm;refine jw ?_;refine kL (fun hd=>?_) (fun hd=>?_)
 ·simp at hd;obtain ⟨x,hx⟩:∃x,l[i]?=some x:=⟨_,dy ae⟩
  have qy:=zj (j:=j) hx;have yV:(l.map AV.int)[i]?=some (.int x):=aZ;refine jw ?_;refine jB.q2 (lu (n:=i) (b:=ix (.kz j)) aa aa dG aa (by simp [DG]) ae aa) ?_;refine jw ?_;refine jB.p2 (xc (f:=AV.int) (l:=l) (b:=ix (.kz j)) (tot:=nv) (i:=i) (ty:=3) (sz:=1) (-1) aa aa aa DG ae ny rfl rfl) ?_;have jP:(HH (s.kF ci)).set (ix (.kz j)) (jD (l.set i (-1)))=HH (s.kF (cI (i+1))):=by
   have h1:=FN (s:=s.kF ci) (j:=j) (c':=⟨⟨cp,nv,cs⟩,l.set i (-1),0,a⟩) Iq pE ah rfl;rw [Mb mC.out] at h1;rw [h1,AJ.out]
   congr 3
   rw [qz.out,eY _ _ ah];obtain ⟨m,hm⟩:∃m,nv-i=m+1:=⟨nv-i-1,ae⟩
   rw [hm,show nv-(i+1)=m by omega,eB,eT,fQ,fV,fF,eA];rfl
  refine jw ?_;rw [l6 ae];exact ⟨i+1,hd,ae,.wf⟩
 simp at hd;obtain rfl:i=nv:=ae;refine jw ?_;have hle:l=List.replicate i (-1):=by rw [qz.out];simp
 have sQ:(HH (s.kF ci)).set (ix (.kz j)) (jD (vs++l.drop vs.length))=HH (s.kF (lQ ⟨cp,i,cs⟩ vs a)):=by
  have h1:=FN (s:=s.kF ci) (j:=j) (c':=⟨⟨cp,i,cs⟩,vs++l.drop vs.length,0,a⟩) Iq pE aj rfl;rw [Mb mC.out] at h1;rw [h1,hle,List.drop_replicate];rfl
 have LG:WF (s.kF (lQ ⟨cp,i,cs⟩ vs a)):=Hm _ (by simp [lQ];omega) rfl;have sI:mR (·<NN) (kM j):=.ptr pY;rw [← mC.out];clear hle qz Rq KC AJ mC;cases l with
 | nil =>
   have Rr:vs=[]:=dQ (by simp at DG;omega);have pB:(HH (s.kF ci)).set (ix (.kz j)) (jD [])=HH (s.kF ci):=FB (by rw [qS _ _ pE];simp only [blk];rw [Iq]);rw [Rr,List.drop_nil,fC,pB] at sQ;rw [Rr] at LG;rw [Rr];refine jB.p2 (ahC (es:=([]:List Int).map .int) aa aa dG ug) ?_;refine jw ?_;exact .nE [_] LG (vs:=[kM j]) ay rfl rfl sI
 | cons x l' =>
   refine jB.p2 (Pa (k:=.i64) (b:=ix (.kz j)) (n:=l'.length+1) (d:=x::l') (l:=vs) (av:=.jA (vs.map .int)) (ty:=3) aa aa rfl aa (.pu ah) ae dG ug) ?_;refine jw ?_;exact .nE [_] LG (vs:=[kM j]) ay rfl rfl sI
end Go.Ab
