/- Part of the proof. -/
import Derived.Test.YthgicbkdckpeaaaDoorG35
import Derived.Test.YthgicbkdckpeaaaDoorG45
set_option linter.unusedSimpArgs false
set_option linter.unusedVariables false
set_option maxHeartbeats 4000000
namespace Go.Ab
open Go Go.Ab Go.Proofs Go.Ab.Ty
theorem lawF11 {mm:List (Nat × Obj)} (hmm:TabM mm) (xs:List AV) (hlen:xs.length=Tryd.f11.params.size) (h:∀(j:Nat) t a,Tryd.f11.params[j]?=some t→xs[j]?=some a→ShV Tryd.prog t a):FnM Tryd.prog mm 11 xs (.bool true):=by
 rw [Tryd.params11] at hlen h
 match xs,hlen,h with
 | [a0,a1],_,h =>
   obtain ⟨p0,rfl⟩:=shT24 (h 0 24 a0 rfl rfl)
   obtain ⟨l1,rfl⟩:=shL25V (h 1 25 a1 rfl rfl)
   exact law_safe hmm p0 l1
end Go.Ab
namespace Go.Proofs.YthgicbkdckpeaaaDoor.tasksSafe
open Go.ChangeShapes Go.WideShapes Go.ChangeAt Go.RowKit Go.Lib Go.Ab
theorem laid_met (os:Os):laidMet Tryd.prog Rows.tasksSafeRow.laid ((laidWorld os).forCall (fun _ _=>0) ⟨#[],#[.agg #[.slice none 0 0,.slice none 0 0,.int .i64 0],.slice none 0 0],[]⟩).memory:=
 laidMet_of_run' 8 (by kernel_rfl) (by kernel_rfl)
theorem reads (os:Os) {H:Type} (enc:TypeId × Value→H):∃places,DataW.whole enc Tryd.prog ((laidWorld os).forCall (fun _ _=>0) ⟨#[],#[.agg #[.slice none 0 0,.slice none 0 0,.int .i64 0],.slice none 0 0],[]⟩).memory Tryd.f11.params.toList Rows.tasksSafeSpec.vars false #[.agg #[.slice none 0 0,.slice none 0 0,.int .i64 0],.slice none 0 0].toList 8=some ([.agg [.nil,.nil,.lit (.int .i64 0)],.nil],[],places):=
 ⟨[],by kernel_rfl⟩
set_option maxRecDepth 100000 in
theorem lifted (os:Os) (started:os.Started) (H:Type) (enc:TypeId × Value→H) (F:Stop.Interp) :
 ReturnsInHanded {} Tryd.checked os 11 .any ((OpenSpec.ofChange Rows.tasksSafeSpec).preRow enc Tryd.prog Tryd.f11 Rows.tasksSafeRow.domain false Rows.tasksSafeRow.laid) (((OpenSpec.ofChange Rows.tasksSafeSpec).at F).post enc Tryd.prog Tryd.f11 false true false false):=by
 obtain ⟨places,hx⟩:=reads os enc
 refine returnsInHanded_of_row (C:=Tryd.checked) (s:=OpenSpec.ofChange Rows.tasksSafeSpec) own started (by kernel_rfl) Tryd.func11
  (witness_row_at (enc:=enc) (C:=Tryd.checked) false (laidWorld os) #[.agg #[.slice none 0 0,.slice none 0 0,.int .i64 0],.slice none 0 0] rfl (by kernel_rfl) (by kernel_rfl) (by kernel_rfl)
    (OpenSpec.preRow_of_cond 8 hx (by kernel_rfl) (fun k hk=>by cases hk) (by kernel_rfl) (laid_met os))) ?_
 intro W base args ds gs before hval hW _ _ _ hL _ _
 obtain ⟨mm,hmm,hmem⟩:=tabs hL
 exact Go.Ab.law_contractM (S:=[24,22,68,66,70,25,3]) (tb:=4) (by kernel_rfl) (by kernel_rfl) (by kernel_rfl) (by kernel_rfl) Tryd.underlying4 rfl
  (fun ds h=>by match ds,h with | [d0,d1],_=>rfl) (Go.Ab.lawF11 hmm) W base args ds gs before hval hW hmem
theorem said:Rows.TasksSafeSaid:=
 OpenClaim.holds_of_cond 11 Tryd.f11 rfl rfl rfl rfl rfl rfl rfl ⟨rfl,rfl,rfl,rfl,rfl⟩ rfl rfl rfl rfl rfl (by kernel_rfl) Tryd.func11 (by kernel_rfl)
  (of_decide_eq_true (by kernel_rfl)) (by unfold Func.isWrapper;first|(rw [if_pos (by decide +kernel)];kernel_rfl)|(rw [if_neg (by decide +kernel)];exact ⟨rfl,rfl⟩))
  (fun os started H enc _ F=>by rw [OpenClaim.pre_eq_preRow];exact lifted os started H enc F)
theorem plain (f:FuncId) (fn:Func) (hf:Tryd.pinned.checked.prog.funcNamed "covalent/covalentlaw23.TasksSafe" = some f) (hfn:Tryd.pinned.checked.prog.funcs[f]?=some fn) :
 false=Tryd.pinned.checked.prog.looks []∧∀(j:Nat) t,fn.params[j]?=some t→Tryd.pinned.checked.prog.wantsStandIn t=false:=by
 obtain rfl:f=11:=Option.some.inj ((show Tryd.prog.funcNamed "covalent/covalentlaw23.TasksSafe" = some 11 by kernel_rfl).symm.trans hf) |>.symm
 obtain rfl:fn=Tryd.f11:=(Option.some.inj (Tryd.func11.symm.trans hfn)).symm
 refine ⟨by kernel_rfl,fun j t ht=>?_⟩
 rw [Tryd.params11] at ht
 have hm:t=24∨t=25:=by simpa using Array.mem_of_getElem? ht
 rcases hm with rfl|rfl
 ·exact (show Tryd.prog.wantsStandIn 24=false by kernel_rfl)
 ·exact (show Tryd.prog.wantsStandIn 25=false by kernel_rfl)
theorem card:Rows.TasksSafeCardSaid:=
 Claim7.holds_tied_plain_at .later [] _ _ _ _ said (fun _ h=>by cases h) (by kernel_rfl) (fun _ h=>by cases h) tasksSafe_row_tie rfl ⟨rfl,rfl⟩ (by kernel_rfl) rfl plain (by kernel_rfl)
end Go.Proofs.YthgicbkdckpeaaaDoor.tasksSafe
namespace Go.Proofs.YthgicbkdckpeaaaDoor
theorem tasksSafeHolds:Rows.TasksSafeCardSaid:=tasksSafe.card
end Go.Proofs.YthgicbkdckpeaaaDoor
