/- Part. -/
import Derived.RangeFuncIn
import Derived.RangeFuncLeaves
import Derived.RangeFuncCalls
import Derived.WalkKit
import Derived.TacticsInMore
import Derived.Test.YthgicbkdckpeaaaDoorG07
set_option linter.unusedSimpArgs false
set_option linter.unusedVariables false
set_option maxHeartbeats 4000000
namespace Go.Ab
open Go Go.Ab Go.Proofs Go.RowKit
attribute [local go_sem] Oper.semAt_some
def BD:Code:=.region 6 #[{ dst:=some 8,op:=.assign (.tmp 20),type:=3,pos:="tasks.go:440",after:=#[],guard:=none }] false
def BE:Code:=.block 1 (.region 7 #[{ dst:=some 21,op:=.load 76 (.tmp 7),type:=76,pos:="tasks.go:441",after:=#[],guard:=none },
 { dst:=some 22,op:=.move (.tmp 8),type:=3,pos:="tasks.go:441",after:=#[],guard:=none },
 { dst:=some 23,op:=.call { callee:=.value (.func 62),args:=#[.tmp 21,.tmp 22],argTypes:=#[76,3] },type:=0,pos:="tasks.go:441",after:=#[{ on:=0,ground:=.data },{ on:=1,ground:=.data }],guard:=none }] false)
theorem Xi {α:Type} {T:Array α} (h:T.size=25):∃v0 v1 v2 v3 v4 v5 v6 v7 v8 v9 v10 v11 v12 E8 E9 Fa Fb Fc Fe Aa v20 v21 Ff Fg v24:α,T=#[v0,v1,v2,v3,v4,v5,v6,v7,v8,v9,v10,v11,v12,E8,E9,Fa,Fb,Fc,Fe,Aa,v20,v21,Ff,Fg,v24]:=by
 obtain ⟨l⟩:=T
 match l,h with
 | [v0,v1,v2,v3,v4,v5,v6,v7,v8,v9,v10,v11,v12,E8,E9,Fa,Fb,Fc,Fe,Aa,v20,v21,Ff,Fg,v24],_=>exact ⟨_,_,_,_,_,_,_,_,_,_,_,_,_,_,_,_,_,_,_,_,_,_,_,_,_,rfl⟩
theorem arO {α:Type} {T:Array α} (h:T.size=24):∃v0 v1 v2 v3 v4 v5 v6 v7 v8 v9 v10 v11 v12 E8 E9 Fa Fb Fc Fe Aa v20 v21 Ff Fg:α,T=#[v0,v1,v2,v3,v4,v5,v6,v7,v8,v9,v10,v11,v12,E8,E9,Fa,Fb,Fc,Fe,Aa,v20,v21,Ff,Fg]:=by
 obtain ⟨l⟩:=T
 match l,h with
 | [v0,v1,v2,v3,v4,v5,v6,v7,v8,v9,v10,v11,v12,E8,E9,Fa,Fb,Fc,Fe,Aa,v20,v21,Ff,Fg],_=>exact ⟨_,_,_,_,_,_,_,_,_,_,_,_,_,_,_,_,_,_,_,_,_,_,_,_,rfl⟩
theorem aiL {m:Nat} {fn:FuncId} {l x7:Nat} {k:Int} {vR:Value} {W W1:World} {R:World→Prop} {T0:Array Value} (Fh:T0.size=25) (h7:T0[7]?=some (.pointer (some ⟨x7,0,none⟩)))
 (hb:(Instr.beginRound l).run Tryd.prog W=.ok () W1) (hx:W1.cell? ⟨x7,0,none⟩=some vR) (hc:Calls Tryd.prog 62 #[vR,.int .i64 k] W1 fun e w'=>∃v,e=.returned v∧∃w2,(Instr.endRound l none).run Tryd.prog w'=.ok (.bool true) w2∧R w2) :
 RoundIn Fence.wide m Tryd.prog l fn (T0.setIfInBounds 20 (.int .i64 k)) BD BE W fun e w'=>e=.returned (.bool true)∧R w':=by
 obtain ⟨v0,v1,v2,v3,v4,v5,v6,v7,v8,v9,v10,v11,v12,E8,E9,Fa,Fb,Fc,Fe,Aa,v20,v21,Ff,Fg,v24,rfl⟩:=Xi Fh;simp at h7;subst h7;refine roundIn_of_wpIn trivial ?_;unfold BD BE
 gi_wp2
 refine ⟨W1,hb,?_⟩
 gi_wp2
 rename_i K hK;refine ⟨trivial,fun h=>dh,(CallsIn.inRound l (callsIn_wide.2 hc)).mono ?_⟩;rintro e w' ⟨v,rfl,w2,he,hR⟩;refine hK _ _ ?_;exact ⟨_,_,he,rfl,hR⟩
end Go.Ab
