/- Part of the proof. -/
import Derived.Test.YthgicbkdckpeaaaDoorG44
import Derived.Test.YthgicbkdckpeaaaDoorG42
set_option linter.unusedSimpArgs false
set_option linter.unusedVariables false
set_option maxHeartbeats 4000000
namespace Go.Ab.Rg
open Go Go.Ab Go.Proofs Go.Ab.Ty
structure Rel (n:Nat) (m:Bool) (k:Nat) (r:Rg) (l:List Int):Prop where
 len:l.length=n
 n8:n≤8
 cnt:0≤r.count∧r.count≤5+k
 val:∀i:Int,0≤i→i<n→(r.of i=0∧nth 0 l i = -1)∨(r.of i = -1∧nth 0 l i = -2)∨(1≤r.of i∧r.of i≤r.count∧0≤nth 0 l i∧nth 0 l i<100+k)
 same:∀i j:Int,0≤i→i<n→0≤j→j<n→1≤r.of i→1≤r.of j→(r.of i=r.of j↔nth 0 l i=nth 0 l j)
 act:∀i:Int,0≤i→i<n→1≤r.of i→(r.of i=r.actor↔(m=true∧nth 0 l i=0))
 actor:r.actor≠0 ∧ -1≤r.actor∧r.actor≤r.count
section
variable {n:Nat} {m:Bool} {k:Nat} {r:Rg} {l:List Int}
theorem Rel.need (h:Rel n m k r l) {v:Int} (h0:0≤v) (h1:v<n):needF l v=mustF r [v]:=by
 have:=h.val v h0 h1
 unfold needF
 simp only [mustF]
 rcases this with ⟨a,b⟩|⟨a,b⟩|⟨a,b,c,d⟩
 ·rw [if_pos b,if_pos a]
 ·rw [if_neg (by omega),if_pos b,if_neg (by omega),if_pos a]
 ·rw [if_neg (by omega),if_neg (by omega),if_neg (by omega),if_neg (by omega)]
theorem must_cons (r:Rg) (v:Int) (vs:List Int):mustF r (v::vs)=if mustF r [v]=0 then mustF r vs else mustF r [v]:=by
 simp only [mustF]
 split
 ·simp
 ·split<;>simp
theorem Rel.needAll (h:Rel n m k r l):∀ {vs:List Int},(∀v∈vs,0≤v∧v<n)→needAll l vs=mustF r vs
 | [],_=>rfl
 | v::vs,hv=>by
   have h1:=hv v (by simp)
   rw [must_cons,Rg.needAll,h.need h1.1 h1.2,Rel.needAll h fun x hx=>hv x (by simp [hx])]
theorem Rel.set (h:Rel n m k r l) {v:Int} (h0:0≤v) (h1:v<n) (hm:mustF r [v]=0):1≤r.of v:=by
 simp only [mustF] at hm
 have:=h.val v h0 h1
 split at hm
 ·omega
 ·split at hm
  ·omega
  ·omega
theorem must_all {r:Rg}:∀ {vs:List Int},mustF r vs=0→∀v∈vs,mustF r [v]=0
 | [],_,v,hv=>by cases hv
 | w::vs,h,v,hv=>by
   rw [must_cons] at h
   split at h
   ·rename_i e
    rcases List.mem_cons.1 hv with rfl|hv
    ·exact e
    ·exact must_all h v hv
   ·rename_i e;exact absurd h e
theorem nth_set {l:List Int} {v i x:Int} (h0:0≤v) (h1:v<l.length) (hi:0≤i):nth 0 (l.set v.toNat x) i=if i=v then x else nth 0 l i:=by
 unfold nth
 rw [List.getElem?_set]
 by_cases e:i=v
 ·rw [if_pos (by omega),if_pos (by omega),if_pos e];rfl
 ·rw [if_neg (by omega),if_neg e]
theorem Rel.fresh (h:Rel n m k r l) (hk:k≤1000) {v:Int} (h0:0≤v) (h1:v<n):Rel n m (k+1) (freshR r v) (l.set v.toNat (100+k)):=by
 obtain ⟨hl,n8,hc,hv,hs,ha,hA⟩:=h
 have hw:IntKind.i64.wrap (r.count+1)=r.count+1:=wrap_id (by omega) (by omega)
 have hof:∀i,(freshR r v).of i=if i=v then r.count+1 else r.of i:=fun i=>by simp only [freshR,updI,hw]
 have hcn:(freshR r v).count=r.count+1:=by simp only [freshR,hw]
 have hac:(freshR r v).actor=r.actor:=rfl
 have hn:∀i:Int,0≤i→nth 0 (l.set v.toNat (100+k)) i=if i=v then 100+(k:Int) else nth 0 l i:=fun i hi=>nth_set h0 (by omega) hi
 refine ⟨by simp [hl],n8,by omega,fun i hi hin=>?_,fun i j hi hin hj hjn hsi hsj=>?_,fun i hi hin hsi=>?_,by rw [hcn,hac];omega⟩
 ·rw [hof,hn i hi,hcn]
  split
  ·omega
  ·have:=hv i hi hin;omega
 ·simp only [hof] at hsi hsj ⊢
  rw [hn i hi,hn j hj]
  have vi:=hv i hi hin
  have vj:=hv j hj hjn
  by_cases ei:i=v<;>by_cases ej:j=v
  ·simp [ei,ej]
  ·simp only [ei,ej,if_true,if_false] at *
   constructor<;>intro<;>omega
  ·simp only [ei,ej,if_true,if_false] at *
   constructor<;>intro<;>omega
  ·simp only [ei,ej,if_false] at *
   exact hs i j hi hin hj hjn hsi hsj
 ·simp only [hof] at hsi ⊢
  rw [hn i hi,hac]
  by_cases ei:i=v
  ·simp only [ei,if_true] at *
   constructor
   ·intro;omega
   ·rintro ⟨_,h⟩;omega
  ·simp only [ei,if_false] at *
   exact ha i hi hin hsi
theorem Rel.up (h:Rel n m k r l):Rel n m (k+1) r l:=
 ⟨h.len,h.n8,by have:=h.cnt;omega,fun i hi hin=>by have:=h.val i hi hin;omega,h.same,h.act,h.actor⟩
theorem Rel.get (h:Rel n m k r l) {v w:Int} (h0:0≤v) (h1:v<n) (w0:0≤w) (w1:w<n) (hw:1≤r.of w):Rel n m (k+1) ⟨updI r.of v (r.of w),r.count,r.actor⟩ (l.set v.toNat (nth 0 l w)):=by
 obtain ⟨hl,n8,hc,hv,hs,ha,hA⟩:=h
 have hn:∀i:Int,0≤i→nth 0 (l.set v.toNat (nth 0 l w)) i=nth 0 l (if i=v then w else i):=fun i hi=>by
  rw [nth_set h0 (by omega) hi];split<;>rfl
 have hof:∀i,updI r.of v (r.of w) i=r.of (if i=v then w else i):=fun i=>by unfold updI;split<;>rfl
 have hr:∀i:Int,0≤i→i<n→0≤(if i=v then w else i)∧(if i=v then w else i)<n:=fun i hi hin=>by split<;>omega
 refine ⟨by simp [hl],n8,by simp only;omega,fun i hi hin=>?_,fun i j hi hin hj hjn hsi hsj=>?_,fun i hi hin hsi=>?_,hA⟩
 ·simp only [hof,hn i hi]
  have:=hv _ (hr i hi hin).1 (hr i hi hin).2
  omega
 ·simp only [hof] at *
  rw [hn i hi,hn j hj]
  exact hs _ _ (hr i hi hin).1 (hr i hi hin).2 (hr j hj hjn).1 (hr j hj hjn).2 hsi hsj
 ·simp only [hof] at *
  rw [hn i hi]
  exact ha _ (hr i hi hin).1 (hr i hi hin).2 hsi
theorem nth_linkJ {l:List Int} {a b i:Int} (hi:0≤i) (hin:i<l.length):nth 0 (linkJ l a b l.length) i=if nth 0 l i=b then a else nth 0 l i:=by
 have e:i.toNat<l.length:=by omega
 rw [nth_eqI (by simpa [linkJ_len] using e)]
 simp [linkJ,show max i 0=i by omega,e]
theorem Rel.link (h:Rel n m k r l) {v w:Int} (h0:0≤v) (h1:v<n) (w0:0≤w) (w1:w<n) (hsv:1≤r.of v) (hsw:1≤r.of w) :
 Rel n m (k+1) (joinF r v w) (linkJ l (min (nth 0 l v) (nth 0 l w)) (max (nth 0 l v) (nth 0 l w)) l.length):=by
 obtain ⟨hl,n8,hc,hv,hs,ha,hA⟩:=h
 have hof:∀i:Int,i<n→(joinF r v w).of i=if r.of i=joinO r v w then joinN r v w else r.of i:=fun i hi=>by
  simp only [joinF,repl];simp [show i<8 by omega]
 have hn:∀i:Int,0≤i→i<n→_:=fun i hi hin=>nth_linkJ (l:=l) (a:=min (nth 0 l v) (nth 0 l w)) (b:=max (nth 0 l v) (nth 0 l w)) hi (by omega)
 have vv:=hv v h0 h1
 have vw:=hv w w0 w1
 have av:=ha v h0 h1 hsv
 have aw:=ha w w0 w1 hsw
 have svw:=hs v w h0 h1 w0 w1 hsv hsw
 -- a set variable is of the joined ones on both sides, or on none
 have key:∀i:Int,0≤i→i<n→1≤r.of i→((r.of i=r.of v∨r.of i=r.of w)↔(nth 0 l i=nth 0 l v∨nth 0 l i=nth 0 l w)):=fun i hi hin hsi=>by
  rw [hs i v hi hin h0 h1 hsi hsv,hs i w hi hin w0 w1 hsi hsw]
 have hO:(joinO r v w=r.of v∧joinN r v w=r.of w)∨(joinO r v w=r.of w∧joinN r v w=r.of v):=by
  unfold joinO joinN;split
  ·exact .inr ⟨rfl,rfl⟩
  ·exact .inl ⟨rfl,rfl⟩
 have hN:∀i:Int,i<n→(joinF r v w).of i=if r.of i=r.of v∨r.of i=r.of w then joinN r v w else r.of i:=fun i hi=>by
  rw [hof i hi]
  rcases hO with ⟨a,b⟩|⟨a,b⟩<;>rw [a,b]
  ·by_cases e:r.of i=r.of v
   ·simp [e]
   ·by_cases e2:r.of i=r.of w
    ·simp [e2]
    ·simp [e,e2]
  ·by_cases e:r.of i=r.of w
   ·simp [e]
   ·by_cases e2:r.of i=r.of v
    ·simp [e2]
    ·simp [e,e2]
 have hM:∀i:Int,0≤i→i<n→nth 0 (linkJ l (min (nth 0 l v) (nth 0 l w)) (max (nth 0 l v) (nth 0 l w)) l.length) i=if nth 0 l i=nth 0 l v∨nth 0 l i=nth 0 l w then min (nth 0 l v) (nth 0 l w) else nth 0 l i:=fun i hi hin=>by
  rw [hn i hi hin]
  by_cases e:nth 0 l i=max (nth 0 l v) (nth 0 l w)
  ·rw [if_pos e,if_pos (by omega)]
  ·rw [if_neg e]
   by_cases e2:nth 0 l i=nth 0 l v∨nth 0 l i=nth 0 l w
   ·rw [if_pos e2];omega
   ·rw [if_neg e2]
 have hNs:1≤joinN r v w∧joinN r v w≤r.count:=by rcases hO with ⟨a,b⟩|⟨a,b⟩<;>rw [b]<;>omega
 have hset:∀i:Int,0≤i→i<n→1≤(joinF r v w).of i→1≤r.of i:=fun i hi hin h=>by
  rw [hN i hin] at h
  split at h
  ·omega
  ·exact h
 refine ⟨by rw [linkJ_len,hl],n8,by simp only [joinF];omega,fun i hi hin=>?_,fun i j hi hin hj hjn hsi hsj=>?_,fun i hi hin hsi=>?_,hA⟩
 ·rw [hN i hin,hM i hi hin]
  have vi:=hv i hi hin
  by_cases e:1≤r.of i
  ·have:=key i hi hin e
   by_cases e2:r.of i=r.of v∨r.of i=r.of w
   ·rw [if_pos e2,if_pos (this.1 e2)]
    simp only [joinF]
    omega
   ·rw [if_neg e2,if_neg fun h=>e2 (this.2 h)]
    simp only [joinF]
    omega
  ·rw [if_neg (by omega),if_neg (by omega)]
   simp only [joinF]
   omega
 ·have si:=hset i hi hin hsi
  have sj:=hset j hj hjn hsj
  have ki:=key i hi hin si
  have kj:=key j hj hjn sj
  rw [hN i hin,hN j hjn,hM i hi hin,hM j hj hjn]
  by_cases ei:r.of i=r.of v∨r.of i=r.of w<;>by_cases ej:r.of j=r.of v∨r.of j=r.of w
  ·rw [if_pos ei,if_pos ej,if_pos (ki.1 ei),if_pos (kj.1 ej)];simp
  ·rw [if_pos ei,if_neg ej,if_pos (ki.1 ei),if_neg fun h=>ej (kj.2 h)]
   have:¬(nth 0 l j=nth 0 l v∨nth 0 l j=nth 0 l w):=fun h=>ej (kj.2 h)
   constructor
   ·intro h;exfalso;rcases hO with ⟨a,b⟩|⟨a,b⟩<;>rw [b] at h<;>omega
   ·intro h;exfalso;omega
  ·rw [if_neg ei,if_pos ej,if_neg fun h=>ei (ki.2 h),if_pos (kj.1 ej)]
   have:¬(nth 0 l i=nth 0 l v∨nth 0 l i=nth 0 l w):=fun h=>ei (ki.2 h)
   constructor
   ·intro h;exfalso;rcases hO with ⟨a,b⟩|⟨a,b⟩<;>rw [b] at h<;>omega
   ·intro h;exfalso;omega
  ·rw [if_neg ei,if_neg ej,if_neg fun h=>ei (ki.2 h),if_neg fun h=>ej (kj.2 h)]
   exact hs i j hi hin hj hjn si sj
 ·have si:=hset i hi hin hsi
  have ki:=key i hi hin si
  rw [hN i hin,hM i hi hin]
  have hact:(joinF r v w).actor=r.actor:=rfl
  rw [hact]
  by_cases ei:r.of i=r.of v∨r.of i=r.of w
  ·rw [if_pos ei,if_pos (ki.1 ei)]
   unfold joinN
   by_cases e:r.of v=r.actor
   ·rw [if_pos e]
    have:=av.1 e
    simp only [e,true_iff]
    exact ⟨this.1,by omega⟩
   ·rw [if_neg e]
    constructor
    ·intro h
     have:=aw.1 h
     exact ⟨this.1,by omega⟩
    ·rintro ⟨hm,h⟩
     refine aw.2 ⟨hm,?_⟩
     have:¬nth 0 l v=0:=fun h=>e (av.2 ⟨hm,h⟩)
     omega
  ·rw [if_neg ei,if_neg fun h=>ei (ki.2 h)]
   exact ha i hi hin si
theorem nth_goneJ {l g:List Int} {i:Int} (hi:0≤i) (hin:i<l.length):nth 0 (goneJ l g 0 0) i=if nth 0 l i∈g then -2 else nth 0 l i:=by
 have e:i.toNat<l.length:=by omega
 rw [nth_eqI (by simpa [goneJ_len] using e)]
 simp [goneJ,show (i.toNat:Int)=i by omega,show max i 0=i by omega]
theorem Rel.sendE (h:Rel n m k r l) {s:Stp} (hvs:∀v∈s.vars,0≤v∧v<n) {d:Bool} (hd:d=true↔s.op≠8):sentE l s m=Rg.sendE r s.vars d:=by
 unfold sentE Rg.sendE
 rw [h.needAll hvs]
 by_cases hm:mustF r s.vars=0
 ·have hset:∀v∈s.vars,1≤r.of v:=fun v hv=>h.set (hvs v hv).1 (hvs v hv).2 (must_all hm v hv)
  have hdup:dupL l s.vars s.vars.length↔dupl r s.vars:=by
   constructor
   ·rintro ⟨i,j,hj,hi,e⟩
    rw [nth_eq hi,nth_eq (by omega)] at e
    have vi:=List.getElem_mem hi
    have vj:=List.getElem_mem (show j<s.vars.length by omega)
    exact ⟨i,j,hi,hj,(h.same _ _ (hvs _ vi).1 (hvs _ vi).2 (hvs _ vj).1 (hvs _ vj).2 (hset _ vi) (hset _ vj)).2 e⟩
   ·rintro ⟨i,j,hi,hj,e⟩
    have vi:=List.getElem_mem hi
    have vj:=List.getElem_mem (show j<s.vars.length by omega)
    refine ⟨i,j,hj,hi,?_⟩
    rw [nth_eq hi,nth_eq (by omega)]
    exact (h.same _ _ (hvs _ vi).1 (hvs _ vi).2 (hvs _ vj).1 (hvs _ vj).2 (hset _ vi) (hset _ vj)).1 e
  have hact:(m=true∧∃k:Nat,k<s.vars.length∧nth 0 l (nth 0 s.vars k)=0)↔r.actor∈s.vars.map r.of:=by
   constructor
   ·rintro ⟨h1,i,hi,e⟩
    rw [nth_eq hi] at e
    have vi:=List.getElem_mem hi
    exact List.mem_map.2 ⟨_,vi,(h.act _ (hvs _ vi).1 (hvs _ vi).2 (hset _ vi)).2 ⟨h1,e⟩⟩
   ·intro hx
    obtain ⟨v,hv,e⟩:=List.mem_map.1 hx
    obtain ⟨h1,h2⟩:=(h.act _ (hvs _ hv).1 (hvs _ hv).2 (hset _ hv)).1 e
    obtain ⟨i,hi,rfl⟩:=List.mem_iff_getElem.1 hv
    exact ⟨h1,i,hi,by rw [nth_eq hi];exact h2⟩
  have hA:(s.op≠8∧dupL l s.vars s.vars.length)↔(d=true∧dupl r s.vars):=by rw [hd,hdup]
  have hn:¬mustF r s.vars≠0:=by simp [hm]
  rw [if_neg hn,if_neg hn]
  by_cases hx:d=true∧dupl r s.vars
  ·rw [if_pos (hA.2 hx),if_pos hx]
  ·rw [if_neg fun h=>hx (hA.1 h),if_neg hx]
   by_cases hy:r.actor∈s.vars.map r.of
   ·rw [if_pos (hact.2 hy),if_pos hy]
   ·rw [if_neg fun h=>hy (hact.1 h),if_neg hy]
 ·rw [if_pos hm,if_pos hm]
theorem Rel.send (h:Rel n m k r l) {s:Stp} (hvs:∀v∈s.vars,0≤v∧v<n) {d:Bool} (hd:d=true↔s.op≠8) (h0:Rg.sendE r s.vars d=0):Rel n m (k+1) (sendR r s.vars d) (sentL l s m):=by
 have e0:=h.sendE hvs hd
 have hm:mustF r s.vars=0:=by
  unfold Rg.sendE at h0
  split at h0
  ·exact h0
  ·rename_i h;simpa using h
 have hset:∀v∈s.vars,1≤r.of v:=fun v hv=>h.set (hvs v hv).1 (hvs v hv).2 (must_all hm v hv)
 rw [show sentL l s m=goneJ l (s.vars.map (nth 0 l)) 0 0 by simp [sentL,e0,h0],show sendR r s.vars d=⟨goneF r.of (s.vars.map r.of) 8,r.count,r.actor⟩ by simp [sendR,h0]]
 obtain ⟨hl,n8,hc,hv,hs,ha,hA⟩:=h
 have hmem:∀i:Int,0≤i→i<n→(r.of i∈s.vars.map r.of↔nth 0 l i∈s.vars.map (nth 0 l)):=fun i hi hin=>by
  constructor
  ·intro hx
   obtain ⟨v,hv',e⟩:=List.mem_map.1 hx
   have:=hset v hv'
   exact List.mem_map.2 ⟨v,hv',((hs v i (hvs _ hv').1 (hvs _ hv').2 hi hin this (by omega)).1 e)⟩
  ·intro hx
   obtain ⟨v,hv',e⟩:=List.mem_map.1 hx
   have h1:=hset v hv'
   have h2:=hv v (hvs _ hv').1 (hvs _ hv').2
   have h3:=hv i hi hin
   exact List.mem_map.2 ⟨v,hv',((hs v i (hvs _ hv').1 (hvs _ hv').2 hi hin h1 (by omega)).2 e)⟩
 have hof:∀i:Int,i<n→goneF r.of (s.vars.map r.of) 8 i=if r.of i∈s.vars.map r.of then -1 else r.of i:=fun i hi=>by
  unfold goneF;simp only [show i<8 by omega,true_and]
 have hn:∀i:Int,0≤i→i<n→_:=fun i hi hin=>nth_goneJ (l:=l) (g:=s.vars.map (nth 0 l)) hi (by omega)
 refine ⟨by rw [goneJ_len,hl],n8,by simp only;omega,fun i hi hin=>?_,fun i j hi hin hj hjn hsi hsj=>?_,fun i hi hin hsi=>?_,hA⟩
 ·simp only [hof i hin,hn i hi hin]
  by_cases e:r.of i∈s.vars.map r.of
  ·rw [if_pos e,if_pos ((hmem i hi hin).1 e)];omega
  ·rw [if_neg e,if_neg fun h=>e ((hmem i hi hin).2 h)]
   have:=hv i hi hin;omega
 ·simp only [hof i hin] at hsi ⊢
  simp only [hof j hjn] at hsj ⊢
  rw [hn i hi hin,hn j hj hjn]
  by_cases ei:r.of i∈s.vars.map r.of
  ·rw [if_pos ei] at hsi;omega
  by_cases ej:r.of j∈s.vars.map r.of
  ·rw [if_pos ej] at hsj;omega
  rw [if_neg ei] at hsi ⊢;rw [if_neg ej] at hsj ⊢
  rw [if_neg fun h=>ei ((hmem i hi hin).2 h),if_neg fun h=>ej ((hmem j hj hjn).2 h)]
  exact hs i j hi hin hj hjn hsi hsj
 ·simp only [hof i hin] at hsi ⊢
  rw [hn i hi hin]
  by_cases ei:r.of i∈s.vars.map r.of
  ·rw [if_pos ei] at hsi;omega
  rw [if_neg ei] at hsi ⊢
  rw [if_neg fun h=>ei ((hmem i hi hin).2 h)]
  exact ha i hi hin hsi
theorem Rel.stepE (h:Rel n m k r l) {s:Stp} (hi:inL n s):stepE l s m=afterE r s:=by
 obtain ⟨hv,hw,hvs⟩:=hi
 unfold Rg.stepE afterE
 by_cases h1:s.op=1
 ·simp [h1]
 by_cases h2:s.op=2
 ·have w:=hw (by unfold u2;omega)
  simp [h2,h.need w.1 w.2]
 by_cases h3:s.op=3
 ·have v:=hv (by unfold u1;omega)
  have w:=hw (by unfold u2;omega)
  simp only [h3,h.need w.1 w.2,h.need v.1 v.2,must_cons r s.v [s.w]]
  by_cases e:mustF r [s.v]=0<;>simp [e]
 by_cases h4:s.op=4∨s.op=5
 ·have v:=hv (by unfold u1;omega)
  simp [h1,h2,h3,h4,h.need v.1 v.2]
 by_cases h6:s.op=6∨s.op=9
 ·have v:=hvs (by unfold u5;omega)
  have:=h.sendE v.2 (d:=true) (by simp;omega)
  rcases h6 with h|h<;>simp [h,this]
 by_cases h8:s.op=8
 ·have v:=hvs (by unfold u5;omega)
  have:=h.sendE v.2 (d:=false) (by simp;omega)
  simp [h8,this]
 ·rw [not_or] at h6 h4
  simp [h1,h2,h3,h4,h6,h8]
theorem Rel.step (h:Rel n m k r l) (hk:k≤1000) {s:Stp} (hi:inL n s) (h0:afterE r s=0):Rel n m (k+1) (afterR r s) (stepL l s m (100+k)):=by
 have e0:=h.stepE hi
 obtain ⟨hv,hw,hvs⟩:=hi
 unfold stepL afterR
 have hz:Rg.stepE l s m=0:=e0.trans h0
 rw [if_neg (show ¬Rg.stepE l s m≠0 by simp [hz])]
 unfold afterE at h0
 by_cases h1:s.op=1
 ·have v:=hv (by unfold u1;omega)
  rw [if_pos h1,if_pos h1]
  exact h.fresh hk v.1 v.2
 by_cases h2:s.op=2
 ·have v:=hv (by unfold u1;omega)
  have w:=hw (by unfold u2;omega)
  simp [h2] at h0
  simp [h2,h0]
  exact h.get v.1 v.2 w.1 w.2 (h.set w.1 w.2 h0)
 by_cases h3:s.op=3
 ·have v:=hv (by unfold u1;omega)
  have w:=hw (by unfold u2;omega)
  simp [h3] at h0
  simp [h3,h0]
  exact h.link v.1 v.2 w.1 w.2 (h.set v.1 v.2 (must_all h0 _ (by simp))) (h.set w.1 w.2 (must_all h0 _ (by simp)))
 by_cases h4:s.op=4∨s.op=5
 ·simp [h1,h2,h3,h4]
  exact h.up
 by_cases h6:s.op=6∨s.op=9
 ·have v:=hvs (by unfold u5;omega)
  have h0':Rg.sendE r s.vars true=0:=by rcases h6 with h|h<;>simpa [h] using h0
  have:=h.send v.2 (d:=true) (by simp;omega) h0'
  rcases h6 with h|h<;>simpa [h] using this
 by_cases h8:s.op=8
 ·have v:=hvs (by unfold u5;omega)
  have h0':Rg.sendE r s.vars false=0:=by simpa [h8] using h0
  have:=h.send v.2 (d:=false) (by simp;omega) h0'
  simpa [h8] using this
 ·rw [not_or] at h6 h4
  simp [h1,h2,h3,h4,h6,h8]
  exact h.up
end
end Go.Ab.Rg
set_option maxHeartbeats 4000000
namespace Go.Ab.Rg
open Go Go.Ab Go.Proofs Go.Ab.Ty
theorem stepsF_ne {l:List Stp}:∀ {r:Rg} {i k e:Int},stepsF r l i=some (k,e)→e≠0:=by
 induction l with
 | nil=>intro r i k e h;cases h
 | cons s l ih =>
   intro r i k e h
   simp only [stepsF] at h
   split at h
   ·exact ih h
   ·rename_i hne;injection h with h;injection h with h1 h2;subst h2;exact hne
theorem startN_of (k:Nat) (hk:k≤100):(startN start0 k).count=k∧(startN start0 k).actor = -1∧∀i:Int,0≤i→(startN start0 k).of i=if i<k then i+1 else 0:=by
 induction k with
 | zero=>exact ⟨rfl,rfl,fun i hi=>by rw [if_neg (by omega)];rfl⟩
 | succ k ih =>
   obtain ⟨h1,h2,h3⟩:=ih (by omega)
   have hw:IntKind.i64.wrap ((startN start0 k).count+1)=(k:Int)+1:=by rw [h1];exact wrap_id (by omega) (by omega)
   refine ⟨by simp only [startN,freshR,hw];rfl,h2,fun i hi=>?_⟩
   simp only [startN,freshR,updI,hw]
   by_cases e:i=k
   ·rw [if_pos e,if_pos (by omega)];omega
   ·rw [if_neg e,h3 i hi]
    by_cases e2:i<k
    ·rw [if_pos e2,if_pos (by omega)]
    ·rw [if_neg e2,if_neg (by omega)]
theorem nth_begin {c:Cd} {m:Bool} {i:Int} (h0:0≤i) (h1:i<c.vars.toNat):nth 0 (begin0 c m) i=if i<c.params then i+1 else if m=true∧i=c.params then 0 else -1:=by
 have e:i.toNat<(begin0 c m).length:=by rw [begin0_len];omega
 rw [nth_eqI e]
 simp only [begin0,begunF,List.getElem_map,List.getElem_range]
 rw [if_pos (by omega)]
 simp only [begunE,Int.toNat_of_nonneg h0]
theorem rel_start {c:Cd} {m:Bool} (hp:0≤c.params∧c.params≤4) (hv:c.vars≤8) (hle:c.params≤c.vars) (hm:m=true→c.params+1≤c.vars):Rel c.vars.toNat m 0 (startF c m) (begin0 c m):=by
 obtain ⟨h1,h2,h3⟩:=startN_of c.params.toNat (by omega)
 have hw:IntKind.i64.wrap ((startN start0 c.params.toNat).count+1)=c.params+1:=by rw [h1,Int.toNat_of_nonneg hp.1];exact wrap_id (by omega) (by omega)
 rw [Int.toNat_of_nonneg hp.1] at h1 h3
 have hof:∀i:Int,0≤i→(startF c m).of i=if i<c.params then i+1 else if m=true∧i=c.params then i+1 else 0:=fun i hi=>by
  unfold startF
  cases m with
  | false =>
    simp only [Bool.false_eq_true,if_false,false_and];rw [h3 i hi]
  | true =>
    simp only [if_true,freshR,updI,hw,true_and]
    by_cases e:i=c.params
    ·rw [if_pos e,if_neg (by omega),if_pos e];omega
    ·rw [if_neg e,if_neg e,h3 i hi]
 have hc:(startF c m).count=if m then c.params+1 else c.params:=by
  unfold startF
  cases m
  ·simpa using h1
  ·simp only [if_true,freshR,hw]
 have ha:(startF c m).actor=if m then c.params+1 else -1:=by
  unfold startF
  cases m
  ·simpa using h2
  ·simp only [if_true,freshR,updI,hw]
 have hn:∀i:Int,0≤i→i<c.vars.toNat→_:=fun i hi hin=>nth_begin (m:=m) hi hin
 cases m with
 | false =>
   have hof:∀i:Int,0≤i→(startF c false).of i=if i<c.params then i+1 else 0:=fun i hi=>by simpa using hof i hi
   have hn:∀i:Int,0≤i→i<c.vars.toNat→nth 0 (begin0 c false) i=if i<c.params then i+1 else -1:=fun i hi hin=>by simpa using hn i hi hin
   simp only [Bool.false_eq_true,if_false] at hc ha
   refine ⟨begin0_len ..,by omega,by omega,fun i hi hin=>?_,fun i j hi hin hj hjn hsi hsj=>?_,fun i hi hin hsi=>?_,by omega⟩
   ·rw [hof i hi,hn i hi hin,hc];split<;>omega
   ·rw [hof i hi] at hsi ⊢;rw [hof j hj] at hsj ⊢;rw [hn i hi hin,hn j hj hjn]
    split at hsi<;>split at hsj<;>simp only [*,if_true,if_false]<;>omega
   ·rw [hof i hi] at hsi ⊢;rw [hn i hi hin,ha]
    simp only [Bool.false_eq_true,false_and,iff_false]
    split at hsi<;>simp only [*,if_true,if_false]<;>omega
 | true =>
   have hof:∀i:Int,0≤i→(startF c true).of i=if i≤c.params then i+1 else 0:=fun i hi=>by
    rw [hof i hi];simp only [true_and]
    by_cases e:i<c.params
    ·rw [if_pos e,if_pos (by omega)]
    ·by_cases e2:i=c.params
     ·rw [if_neg e,if_pos e2,if_pos (by omega)]
     ·rw [if_neg e,if_neg e2,if_neg (by omega)]
   have hn:∀i:Int,0≤i→i<c.vars.toNat→nth 0 (begin0 c true) i=if i<c.params then i+1 else if i=c.params then 0 else -1:=fun i hi hin=>by simpa using hn i hi hin
   simp only [if_true] at hc ha
   have hm:=hm rfl
   have hl:∀i:Int,i≤c.params→(if i<c.params then i+1 else if i=c.params then 0 else -1)=if i<c.params then i+1 else 0:=fun i hi=>by
    by_cases e:i<c.params
    ·rw [if_pos e,if_pos e]
    ·rw [if_neg e,if_neg e,if_pos (by omega)]
   refine ⟨begin0_len ..,by omega,by omega,fun i hi hin=>?_,fun i j hi hin hj hjn hsi hsj=>?_,fun i hi hin hsi=>?_,by omega⟩
   ·rw [hof i hi,hn i hi hin,hc]
    split<;>split<;>first|omega|(split<;>omega)
   ·rw [hof i hi] at hsi ⊢;rw [hof j hj] at hsj ⊢;rw [hn i hi hin,hn j hj hjn]
    by_cases e:i≤c.params
    ·by_cases e':j≤c.params
     ·rw [if_pos e,if_pos e',hl i e,hl j e']
      split<;>split<;>omega
     ·rw [if_neg e'] at hsj;omega
    ·rw [if_neg e] at hsi;omega
   ·rw [hof i hi] at hsi ⊢;rw [hn i hi hin,ha]
    simp only [true_and]
    by_cases e:i≤c.params
    ·rw [if_pos e,hl i e];split<;>omega
    ·rw [if_neg e] at hsi;omega
theorem rel_steps {n:Nat} {m:Bool}:∀ {ss:List Stp} {k:Nat} {r:Rg} {l:List Int},Rel n m k r l→(∀s∈ss,inL n s)→k+ss.length≤1000 →
 (stepsF r ss k=none→(rsteps m l ss k).2=(0,0)∧Rel n m (k+ss.length) (regAt r ss) (rsteps m l ss k).1)∧∀x,stepsF r ss k=some x→rsteps m l ss k=([],x.1,x.2)
 | [],k,r,l,h,_,_=>⟨fun _=>⟨rfl,h⟩,fun x hx=>by cases hx⟩
 | s::ss,k,r,l,h,hi,hk=>by
   have hs:=hi s (by simp)
   have e:=h.stepE hs
   simp only [List.length_cons] at hk
   simp only [stepsF,rsteps,e,regAt]
   by_cases h0:afterE r s=0
   ·have:=rel_steps (ss:=ss) (k:=k+1) (h.step (by omega) hs h0) (fun x hx=>hi x (List.mem_cons_of_mem _ hx)) (by omega)
    simp only [h0,if_true,List.length_cons]
    rw [show k+(ss.length+1)=k+1+ss.length by omega]
    exact this
   ·simp only [h0,if_false]
    exact ⟨(fun h=>by cases h),fun x hx=>by injection hx with hx;subst hx;rfl⟩
theorem codes_eq {p:Tk} (h:okValid p) {n:Int} (hn:numOk p n):(codeF p n=none→(codeR p n).2=(0,0))∧∀x,codeF p n=some x→codeR p n=([],x.1,x.2)∧x.2≠0:=by
 have hc:=codeOk_of h hn
 have:=rel_steps (rel_start (m:=decide (n<0)) hc.params hc.vars.2 hc.le (fun h=>hc.less (by simpa using h))) hc.inl (by have:=hc.steps;omega)
 exact ⟨fun h=>(this.1 h).1,fun x hx=>⟨this.2 x hx,stepsF_ne hx⟩⟩
theorem nums_eq {p:Tk} (h:okValid p):∀ {l:List Int},(∀n∈l,numOk p n)→numsF p l=numsR p l
 | [],_=>rfl
 | n::l,hl=>by
   have ih:=nums_eq h (l:=l) fun x hx=>hl x (by simp [hx])
   obtain ⟨h1,h2⟩:=codes_eq h (hl n (by simp))
   simp only [numsF,numsR]
   cases hx:codeF p n with
   | none=>rw [show (codeR p n).2.2=0 by rw [h1 hx]];simp [ih]
   | some x =>
     obtain ⟨e,hne⟩:=h2 x hx
     simp [e,hne]
end Go.Ab.Rg
set_option maxHeartbeats 4000000
namespace Go.Ab
open Go Go.Ab Go.Proofs Go.Ab.Ty
open Classical in
theorem accd_ok (p:Tk):Fn Tryd.prog 35 [encT p] (.bool (decide (Rg.okValid p∧Acc1 p))):=by
 refine Fn.intro' [(0,encT p)] 1 17 Tryd.func35 (by kernel_rfl) rfl rfl rfl rfl rfl ?_
 have iv:Fn Tryd.prog 28 [encT p] (.bool (decide (Rg.okValid p))):=Rg.refValid_ok p _ (by rw [decide_eq_true_iff];exact Rg.valid_iff p)
 refine goB ?_
 refine callA (iv) ?_
 refine goB ?_
 by_cases h:Rg.okValid p
 ·refine iff_ ?_ (by simp [h]) rfl
  have ic:=Rg.refCheck_ok p h
  have e:Rg.numsR p (Rg.nums p)=Rg.numsF p (Rg.nums p):=(Rg.nums_eq h fun n hn=>Rg.nums_ok hn).symm
  rw [e] at ic
  refine goB ?_
  refine callA (ic) ?_
  simp only [Rg.encRes]
  refine goB ?_
  exact Ret.bool rfl (by simp [h,Acc1])
 ·refine ift_ ?_ (by simp [h]) rfl
  refine goB ?_
  exact Ret.bool rfl (by simp [h])
open Classical in
theorem law_safe {mm:List (Nat × Obj)} (hmm:TabM mm) (p:Tk) (sched:List Int):FnM Tryd.prog mm 11 [encT p,.lst (sched.map .int)] (.bool true):=by
 refine FnM.intro' [(0,encT p),(1,.lst (sched.map .int))] 2 41 Tryd.func11 (by kernel_rfl) rfl rfl rfl rfl rfl ?_
 have hPu:∀(r:Nat→Option Nat) (H:List ABlk),PubRL r H (encT p).cells (encT p).cells:=fun r H=>⟨.pu (Pu_mapC _),.pu (Pu_mapC _),.pu (.base _),trivial⟩
 have hp1:∀a∈[encT p],Pu a:=fun a ha=>by rw [List.mem_singleton] at ha;subst ha;exact Pu_encT p
 have iam:=awake_ok hmm
 refine AWp.seq ?_
 refine AWp.join ⟨[(1,.lst (sched.map .int)),(2,.iptr (encT p) 0),(memSlot,.mem mm)],[]⟩ ?_ ?_
 ·refine goB ?_
  exact Wk.selB [] List.nodup_nil (fun b hb=>absurd hb (Nat.not_lt_zero _)) trivial (WkR.all ⟨.pu (Pu_mapInt _),.iptr rfl rfl rfl rfl (hPu _ _),.pu (.mem _),trivial⟩)
 refine goB ?_
 refine callA (heavy_ok p sched) ?_
 refine goB ?_
 refine gcallA (i:=fun hg=>accd_ok p) (hp:=hp1) (hr:=?_)
 refine goB ?_
 refine AWp.cond rfl (fun hc=>?_) (fun hc=>?_)
 ·clear hc
  refine goB ?_
  refine callA (iam) ?_
  refine goB ?_
  exact Ret.data (vs:=[.bool true]) rfl rfl (.base _)
 refine AWp.skip ?_
 have hok:okRun p sched∧Acc1 p:=by
  cases hv:hvy p sched.length with
  | true=>rw [hv] at hc;cases hc
  | false =>
    rw [hv] at hc
    by_cases hl:sched.length>200
    ·have:decide ((sched.length:Int)>200)=true:=decide_eq_true (by omega)
     rw [this] at hc;cases hc
    ·by_cases hp:Rg.okValid p∧Acc1 p
     ·exact ⟨⟨hp.1,by omega⟩,hp.2⟩
     ·have h1:decide ((sched.length:Int)>200)=false:=decide_eq_false (by omega)
      rw [h1,decide_eq_false hp] at hc;cases hc
 clear hc
 obtain ⟨hok,hacc⟩:=hok
 refine AWp.weaken (s2:=⟨[(1,.lst (sched.map .int)),(2,.iptr (encT p) 0),(memSlot,.mem mm)],[]⟩) .wf ?_
 have irc:=races_ok hmm hok
 rw [races_none hok hacc] at irc
 have iac:=accT_ok p
 rw [decide_eq_true (⟨hok.1,hacc⟩:Rg.okValid p∧Acc1 p)] at iac
 refine goB ?_
 refine callA irc ?_ (hp:=Pu_args _ _)
 refine goB ?_
 refine gcallA (i:=fun hg=>iac) (hp:=hp1) (hr:=?_)
 refine goB ?_
 refine gcallA (i:=fun hg=>iam) (hr:=?_)
 refine goB ?_
 exact Ret.data (vs:=[.bool true]) rfl rfl (.base _)
end Go.Ab
