/- Part. -/
import Derived.Test.YthgicbkdckpeaaaDoorG16
set_option linter.unusedSimpArgs false
set_option linter.unusedVariables false
set_option maxHeartbeats 4000000
namespace Go.Ab
open Go Go.Ab Go.Proofs Go.Ab.Ty
theorem asP {mm:List (Nat×Obj)} (pD:xp mm) (xs:List AV) (hlen:xs.length=Tryd.f9.params.size) (h:∀(j:Nat) t a,Tryd.f9.params[j]?=some t→xs[j]?=some a→EI Tryd.prog t a):qY Tryd.prog mm 9 xs (.bool true):=by
 rw [Tryd.params9] at hlen h
 match xs,hlen,h with
 | [a0,a1],_,h =>
   obtain ⟨p0,rfl⟩:=arY (h 0 24 a0 rfl rfl);obtain ⟨l1,rfl⟩:=aoE (h 1 25 a1 rfl rfl);exact ahM pD p0 l1
end Go.Ab
namespace Go.Proofs.YthgicbkdckpeaaaDoor.tasksRuns
open Go.ChangeShapes Go.WideShapes Go.ChangeAt Go.RowKit Go.Lib Go.Ab
theorem laid_met (os:Os):laidMet Tryd.prog Rows.tasksRunsRow.laid ((laidWorld os).forCall (fun _ _=>0) ⟨#[],#[.agg #[.slice none 0 0,.slice none 0 0,.int .i64 0],.slice none 0 0],[]⟩).memory:=
 laidMet_of_run' 8 ag ag
theorem reads (os:Os) {H:Type} (enc:TypeId×Value→H):∃places,DataW.whole enc Tryd.prog ((laidWorld os).forCall (fun _ _=>0) ⟨#[],#[.agg #[.slice none 0 0,.slice none 0 0,.int .i64 0],.slice none 0 0],[]⟩).memory Tryd.f9.params.toList Rows.tasksRunsSpec.vars false #[.agg #[.slice none 0 0,.slice none 0 0,.int .i64 0],.slice none 0 0].toList 8=some ([.agg [.nil,.nil,.lit (.int .i64 0)],.nil],[],places):=
 ⟨[],ag⟩
set_option maxRecDepth 100000 in
theorem lifted (os:Os) (started:os.Started) (H:Type) (enc:TypeId×Value→H) (F:Stop.Interp) :
 ReturnsInHanded {} Tryd.checked os 9 .any ((OpenSpec.ofChange Rows.tasksRunsSpec).preRow enc Tryd.prog Tryd.f9 Rows.tasksRunsRow.domain false Rows.tasksRunsRow.laid) (((OpenSpec.ofChange Rows.tasksRunsSpec).at F).post enc Tryd.prog Tryd.f9 false true false false):=by
 obtain ⟨places,hx⟩:=reads os enc;refine returnsInHanded_of_row (C:=Tryd.checked) (s:=OpenSpec.ofChange Rows.tasksRunsSpec) own started ag Tryd.func9
  (witness_row_at (enc:=enc) (C:=Tryd.checked) false (laidWorld os) #[.agg #[.slice none 0 0,.slice none 0 0,.int .i64 0],.slice none 0 0] rfl ag ag ag
    (OpenSpec.preRow_of_cond 8 hx ag (fun k hk=>by cases hk) ag (laid_met os))) ?_
 intro W base args ds gs before Ay hW _ _ _ hL _ _;obtain ⟨mm,pD,rJ⟩:=awL hL;exact Go.Ab.adH (S:=[24,22,68,66,70,25,3]) (tb:=4) ag ag ag ag Tryd.underlying4 rfl
  (fun ds h=>by match ds,h with | [d0,d1],_=>rfl) (Go.Ab.asP pD) W base args ds gs before Ay hW rJ
theorem said:Rows.TasksRunsSaid:=
 OpenClaim.holds_of_cond 9 Tryd.f9 rfl rfl rfl rfl rfl rfl rfl ⟨rfl,rfl,rfl,rfl,rfl⟩ rfl rfl rfl rfl rfl ag Tryd.func9 ag
  (jm ag) (by unfold Func.isWrapper;first|(rw [ja (by decide +kernel)];kernel_rfl)|(rw [iZ (by decide +kernel)];exact ⟨rfl,rfl⟩))
  (fun os started H enc _ F=>by rw [OpenClaim.pre_eq_preRow];exact lifted os started H enc F)
theorem plain (f:FuncId) (fn:Func) (hf:Tryd.pinned.checked.prog.funcNamed "covalent/covalentlaw23.TasksRuns" = some f) (K2:Tryd.pinned.checked.prog.funcs[f]?=some fn) :
 false=Tryd.pinned.checked.prog.looks []∧∀(j:Nat) t,fn.params[j]?=some t→Tryd.pinned.checked.prog.wantsStandIn t=false:=by
 obtain rfl:f=9:=Option.some.inj ((show Tryd.prog.funcNamed "covalent/covalentlaw23.TasksRuns" = some 9 by kernel_rfl).symm.trans hf) |>.symm;obtain rfl:fn=Tryd.f9:=(Option.some.inj (Tryd.func9.symm.trans K2)).symm;refine ⟨ag,fun j t ht=>?_⟩;rw [Tryd.params9] at ht;have hm:t=24∨t=25:=by simpa using fw ht
 rcases hm with rfl|rfl
 ·exact (show Tryd.prog.wantsStandIn 24=false by kernel_rfl)
 ·exact (show Tryd.prog.wantsStandIn 25=false by kernel_rfl)
theorem card:Rows.TasksRunsCardSaid:=
 Claim7.holds_tied_plain_at .later [] _ _ _ _ said (fun _ h=>dh) ag (fun _ h=>dh) tasksRuns_row_tie rfl ⟨rfl,rfl⟩ ag rfl plain ag
end Go.Proofs.YthgicbkdckpeaaaDoor.tasksRuns
namespace Go.Proofs.YthgicbkdckpeaaaDoor
theorem tasksRunsHolds:Rows.TasksRunsCardSaid:=tasksRuns.card
end Go.Proofs.YthgicbkdckpeaaaDoor
