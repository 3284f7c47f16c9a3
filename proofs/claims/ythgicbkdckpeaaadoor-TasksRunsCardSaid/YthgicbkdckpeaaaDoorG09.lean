/- Part. -/
import Derived.Test.YthgicbkdckpeaaaDoorG08
set_option linter.unusedSimpArgs false
set_option linter.unusedVariables false
set_option maxHeartbeats 4000000
namespace Go.Ab
open Go Go.Ab Go.Proofs Go.RowKit
attribute [local go_sem] Oper.semAt_some
def M4:Code:=.region 2 #[{ dst:=some 16,op:=.move (.tmp 4),type:=4,pos:="tasks.go:191",after:=#[],guard:=none },
 { dst:=some 17,op:=.unOp .not 4 (.tmp 16),type:=4,pos:="tasks.go:191",after:=#[{ on:=0,ground:=.data }],guard:=none },
 { dst:=some 18,op:=.move (.tmp 17),type:=4,pos:="tasks.go:191",after:=#[{ on:=1,ground:=.data }],guard:=none },
 { dst:=some 19,op:=.move (.tmp 0),type:=95,pos:="tasks.go:191",after:=#[{ on:=2,ground:=.guard }],guard:=some (2,false) },
 { dst:=some 20,op:=.move (.tmp 3),type:=3,pos:="tasks.go:191",after:=#[{ on:=2,ground:=.guard }],guard:=some (2,false) },
 { dst:=some 21,op:=.call { callee:=.value (.tmp 19),args:=#[.tmp 20],argTypes:=#[3] },type:=4,pos:="tasks.go:191",after:=#[{ on:=3,ground:=.data },{ on:=4,ground:=.data },{ on:=2,ground:=.chain },{ on:=2,ground:=.guard }],guard:=some (2,false) },
 { dst:=some 22,op:=.unOp .not 4 (.tmp 21),type:=4,pos:="tasks.go:191",after:=#[{ on:=5,ground:=.data },{ on:=2,ground:=.guard }],guard:=some (2,false) },
 { dst:=some 23,op:=.pick (.tmp 18) (.const (.bool true)) (.tmp 22),type:=4,pos:="tasks.go:191",after:=#[{ on:=2,ground:=.data },{ on:=6,ground:=.data }],guard:=none }] false
theorem aiM {fn:FuncId} {a:Act} {W:World} {l:Nat} {k:Int} {rec:Loop} {R:World→Prop} {Q:Exit→Act→World→Prop} (h24:a.tmps.size=24) (hd:a.defers=[]) (h0:a.tmps[0]?=some (.func (.yield l) #[] #[])) (h3:a.tmps[3]?=some (.int .i64 k)) (h4:a.tmps[4]?=some (.bool true))
 (hl:W.heap[l]?=some (.loop rec)) (r1:rec.params=#[20]) (r2:rec.fn=fn) (r3:rec.assign=BD) (r4:rec.body=BE)
 (hR:RoundIn Fence.wide 0 Tryd.prog l fn (rec.tmps.setIfInBounds 20 (.int .i64 k)) BD BE W fun e w'=>e=.returned (.bool true)∧R w')
 (hQ:∀a' w',a'.tmps.size=24→a'.defers=[]→a'.tmps[0]?=some (.func (.yield l) #[] #[])→a'.tmps[1]?=a.tmps[1]?→a'.tmps[23]?=some (.bool false)→R w'→Q .normal a' w') :
 M4.wp Tryd.prog Q a W:=by
 obtain ⟨T,D⟩:=a;simp only at hd h24 h0 h3 h4 hQ;subst hd;obtain ⟨v0,v1,v2,v3,v4,v5,v6,v7,v8,v9,v10,v11,v12,E8,E9,Fa,Fb,Fc,Fe,Aa,v20,v21,Ff,Fg,rfl⟩:=arO h24;simp at h0 h3 h4;subst h0 h3 h4;refine (wpIn_wide (n:=1)).1 ?_;unfold M4
 gi_wp2
 rename_i K hK;have hy:(Instr.yield l #[Value.int IntKind.i64 k]).run Tryd.prog W=.ok (.round l fn (rec.tmps.setIfInBounds 20 (.int .i64 k)) BD BE) W:=by
  have hz:(#[20]:Array Tmp).zip #[Value.int IntKind.i64 k]=#[(20,Value.int IntKind.i64 k)]:=ah;rw [run_yield hl (by rw [r1];rfl),r1,r2,r3,r4,hz];simp
 rw [hy,Oper.uponIn_round];refine ⟨fun h=>dh,hR.mono ?_⟩;rintro e w' ⟨rfl,hw⟩;refine hK _ _ ?_
 gi_wp2
 exact hQ _ _ rfl rfl rfl rfl rfl hw
end Go.Ab
