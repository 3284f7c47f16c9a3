/- Operations that leave the function's own memory as it is: what they yield. -/
import Derived.Deep.MidRow
import Derived.WalkLawsBesides
import Derived.Test.YthgicbkdckpeaaaDoorG01
set_option linter.unusedSimpArgs false
set_option linter.unusedVariables false
namespace Go.Ab
open Go Go.RowKit
abbrev AV.int (n:Int):AV:=.base (.int .i64 n)
abbrev AV.bool (b:Bool):AV:=.base (.bool b)
def stripA (c:Bool):AV→AV
 | .under d a=>if c = d then a else .under d a
 | a=>a
def stripL:List Bool→AV→AV
 | [],a=>a
 | c :: l,a=>stripL l (stripA c a)
def wrapL:List Bool→AV→AV
 | [],a=>a
 | c :: l,a=>.under c (wrapL l a)
def allL:List Bool→Bool
 | []=>true
 | c :: l=>c && allL l
def aggTy (P:Program) (t:TypeId):Option Bool:=
 match P.underlying t with
 | some (.struct _) | some (.array _ _)=>some true
 | some _=>some false
 | none=>none
def szTy (P:Program) (t:TypeId):Option Nat:=(P.info? t).map (·.size)
def isAggA:AV→Bool
 | .agg _=>true
 | _=>false
def ldE (agg:Option Bool) (sz:Option Nat) (e:AV) (off:Nat):Option AV:=
 match agg,sz with
 | some true,some n=>if off + n ≤ e.cells.length then some (.agg ((e.cells.drop off).take n)) else none
 | some false,_=>e.cells[off]?
 | _,_=>none
def fieldOff (P:Program) (s:TypeId) (f:Nat):Option Nat:=
 match P.underlying s with
 | some (.struct fs)=>match fs[f]? with
   | some fd=>match szTy P fd.type with
     | some (_ + 1)=>some fd.offset
     | _=>none
   | none=>none
 | _=>none
def intBin (op:BinOp) (k:IntKind) (a b:Int):Option AV:=
 match op with
 | .add=>some (.base (.int k (k.wrap (a + b))))
 | .sub=>some (.base (.int k (k.wrap (a - b))))
 | .mul=>some (.base (.int k (k.wrap (a * b))))
 | .quo=>if b = 0 then none else some (.base (.int k (k.wrap (a.tdiv b))))
 | .rem=>if b = 0 then none else some (.base (.int k (a.tmod b)))
 | .and=>some (.base (.int k (k.wrap (BitVec.ofInt k.bits a &&& BitVec.ofInt k.bits b).toNat)))
 | .or=>some (.base (.int k (k.wrap (BitVec.ofInt k.bits a ||| BitVec.ofInt k.bits b).toNat)))
 | .eql=>some (.bool (a == b))
 | .neq=>some (.bool (a != b))
 | .lss=>some (.bool (decide (a < b)))
 | .leq=>some (.bool (decide (a ≤ b)))
 | .gtr=>some (.bool (decide (a > b)))
 | .geq=>some (.bool (decide (a ≥ b)))
 | _=>none
def strBin (op:BinOp) (x y:ByteArray):Option AV:=
 match op with
 | .eql=>some (.bool (x.toList == y.toList))
 | .neq=>some (.bool !(x.toList == y.toList))
 | .lss=>some (.bool (Op.bytesLess x.toList y.toList))
 | _=>none
def boolBin (P:Program) (t:TypeId) (op:BinOp) (x y:Bool):Option AV:=
 match P.underlying t with
 | some .bool=>match op with
   | .eql=>some (.bool (x == y))
   | .neq=>some (.bool (!(x == y)))
   | _=>none
 | _=>none
def binF (P:Program) (t:TypeId) (op:BinOp):AV→AV→Option AV
 | .base (.int k a),.base (.int k' b)=>match op with
   | .shl=>if b < 0 then none else some (.base (.int k (k.wrap (a * 2 ^ (min b.toNat k.bits)))))
   | .shr=>if b < 0 then none else some (.base (.int k (a.fdiv (2 ^ (min b.toNat k.bits)))))
   | _=>if k = k' then intBin op k a b else none
 | .base (.string a),.base (.string b)=>strBin op a b
 | .base (.bool a),.base (.bool b)=>boolBin P t op a b
 | _,_=>none
def fresh (H:List ABlk) (b tot:Nat):Bool:=
 match H[b]? with
 | some blk=>blk.es.length == tot
 | none=>false
def lenF (P:Program) (H:List ABlk) (t:TypeId):AV→Option AV
 | .lst es=>match P.underlying t with | some (.slice _)=>some (.int es.length) | _=>none
 | .own b tot _ n=>if fresh H b tot = true then match P.underlying t with | some (.slice _)=>some (.int n) | _=>none else none
 | .base (.slice none 0 0)=>match P.underlying t with | some (.slice _)=>some (.int 0) | _=>none
 | .base (.string s)=>match P.underlying t with | some .string=>some (.int s.size) | _=>none
 | _=>none
def pickF (t:Bool) (A B:AV):Option AV:=
 match stripA t A,stripA (!t) B with
 | .base (.bool x),.base (.bool y)=>some (.bool (bif t then x else y))
 | _,_=>none
def fieldF (P:Program) (t:TypeId) (f:Nat) (cs:List AV):Option AV:=
 match P.underlying t with
 | some (.struct fs)=>match fs[f]? with
   | some fd=>ldE (aggTy P fd.type) (szTy P fd.type) (.agg cs) fd.offset
   | none=>none
 | _=>none
def qfun (P:Program) (H:List ABlk) (ρ:Operand→AV):Op→Option AV
 | .move x | .assign x=>some (ρ x)
 | .pick c a b=>match ρ c with
   | .base (.bool t)=>pickF t (ρ a) (ρ b)
   | _=>none
 | .load t x=>match ρ x with
   | .iptr e off=>ldE (aggTy P t) (szTy P t) e off
   | .ptr b tot i off=>match H[b]? with
     | some blk=>if blk.es.length = tot then match blk.es[i]? with
       | some e=>ldE (aggTy P t) (szTy P t) e off
       | none=>none else none
     | none=>none
   | _=>none
 | .fieldAddr s x f=>match fieldOff P s f,ρ x with
   | some n,.iptr e off=>some (.iptr e (off + n))
   | some n,.ptr b tot i off=>if fresh H b tot = true then some (.ptr b tot i (off + n)) else none
   | _,_=>none
 | .field t x f=>match ρ x with
   | .agg cs=>fieldF P t f cs
   | _=>none
 | .binOp op t x y _=>binF P t op (ρ x) (ρ y)
 | .unOp .not _ x=>match ρ x with
   | .base (.bool b)=>some (.bool !b)
   | _=>none
 | .unOp .neg _ x=>match ρ x with
   | .base (.int k n)=>some (.base (.int k (k.wrap (0 - n))))
   | _=>none
 | .extract x i=>match ρ x with
   | .tup vs=>vs[i]?
   | _=>none
 | .nilCheck x=>match ρ x with
   | .ptr b tot i off=>if fresh H b tot = true then some (.ptr b tot i off) else none
   | .iptr e off=>some (.iptr e off)
   | _=>none
 | .convert s d x=>match ρ x with
   | .base (.int _ n)=>match P.underlying s,P.underlying d with
     | some _,some (.int k)=>some (.base (.int k (k.wrap n)))
     | _,_=>none
   | _=>none
 | .makeFunc (.func f) first caps=>match first.toList with
   | []=>some (.clo f (caps.toList.map ρ))
   | _=>none
 | .call c=>match c.callee,c.args.toList,c.argTypes.toList with
   | .builtin .len,[x],[t]=>lenF P H t (ρ x)
   | _,_,_=>none
 | _=>none
def QOp (P:Program) (H:List ABlk) (ρ:Operand→AV) (o:Oper) (v:AV):Prop:=
 ∀ (w0:Base) (O:Nat→Prop) (ι:Nat→Option Nat) (a:Act) (w:World),Sit w0 O ι H w →
  (∀ x,x ∈ o.op.operands ∨ x = .tmp memSlot→VR w (OO O ι H) ι H (ρ x) (a.eval x)) →
  ∀ (K:Act→World→Prop) (Q:Exit→Act→World→Prop),
   (∀ u w',VR w' (OO O ι H) ι H v u→Below w.heap.size w w'→K (a.put o.dst u) w')→o.wp P a w K Q
theorem QOp.of_run {P:Program} {H:List ABlk} {ρ:Operand→AV} {o:Oper} {v:AV}
 (h:∀ (w0:Base) (O:Nat→Prop) (ι:Nat→Option Nat) (a:Act) (w:World),Sit w0 O ι H w →
   (∀ x,x ∈ o.op.operands→VR w (OO O ι H) ι H (ρ x) (a.eval x))→∃ u,(execOp a.eval o).run P w = .ok (.value u) w ∧ VR w (OO O ι H) ι H v u):QOp P H ρ o v:=by
 intro w0 O ι a w hs hv K Q hK
 obtain ⟨u,hr,hu⟩:=h w0 O ι a w hs fun x hx=>hv x (.inl hx)
 unfold Oper.wp
 rw [hr]
 exact hK u w hu (Below.refl _ _)
section
variable {w:World} {O:Nat→Prop} {ι:Nat→Option Nat} {H:List ABlk} {u:Value}
theorem VR.base_inv {v:Value} (h:VR w O ι H (.base v) u):u = v:=by cases h;rfl
theorem VR.agg_inv {cs:List AV} (h:VR w O ι H (.agg cs) u):∃ arr:Array Value,u = .agg arr ∧ arr.size = cs.length ∧
 ∀ (j:Nat) (c:AV) (u:Value),cs[j]? = some c→arr[j]? = some u→VR w O ι H c u:=by
 cases h with
 | agg cs arr hlen h=>exact ⟨arr,rfl,hlen,h⟩
theorem VR.tup_inv {cs:List AV} (h:VR w O ι H (.tup cs) u):∃ arr:Array Value,u = .tuple arr ∧ arr.size = cs.length ∧
 ∀ (j:Nat) (c:AV) (u:Value),cs[j]? = some c→arr[j]? = some u→VR w O ι H c u:=by
 cases h with
 | tup cs arr hlen h=>exact ⟨arr,rfl,hlen,h⟩
theorem VR.under_inv {c:Bool} {a:AV} (h:VR w O ι H (.under c a) u) (hc:c = true):VR w O ι H a u:=by
 cases h with
 | under c a v h0 h=>exact h hc
theorem VR.strip {c:Bool} {a:AV} (hc:c = true) (h:VR w O ι H a u):VR w O ι H (stripA c a) u:=by
 cases a with
 | under d a' =>
   show VR w O ι H (if c = d then a' else .under d a') u
   split
   ·rename_i e;subst e;exact h.under_inv hc
   ·exact h
 | _=>exact h
theorem VR.strips:∀ {l:List Bool} {a:AV},allL l = true→VR w O ι H a u→VR w O ι H (stripL l a) u
 | [],a,_,h=>h
 | c :: l,a,hl,h=>by
   simp only [allL,Bool.and_eq_true] at hl
   exact VR.strips (l:=l) (a:=stripA c a) hl.2 (h.strip hl.1)
theorem VR.wraps:∀ {l:List Bool} {a:AV},VR w O ι H a u→allL l = true→VR w O ι H (wrapL l a) u
 | [],a,h,_=>h
 | c :: l,a,h,hl=>by
   simp only [allL,Bool.and_eq_true] at hl
   exact .under _ _ _ (fun e=>by rw [hl.1] at e;cases e) fun _=>VR.wraps h hl.2
theorem VR.wrapsN:∀ {l:List Bool} {a:AV},allL l = false→VR w O ι H (wrapL l a) undef
 | [],a,h=>by cases h
 | c :: l,a,hl=>by
   refine .under _ _ _ (fun _=>rfl) fun hc=>VR.wrapsN ?_
   simpa [allL,hc] using hl
def EL (w:World) (O:Nat→Prop) (ι:Nat→Option Nat) (H:List ABlk) (e:AV) (blk off:Nat):Prop:=
 ∀ (j:Nat) (c:AV),e.cells[j]? = some c→∃ u,w.cell? ⟨blk,off + j,none⟩ = some u ∧ VR w O ι H c u
theorem VR.iptr_inv {e:AV} {off:Nat} (h:VR w O ι H (.iptr e off) u):∃ a:Addr,u = .pointer (some a) ∧ a.spot = none ∧ off ≤ a.off ∧ EL w O ι H e a.block (a.off - off):=by
 cases h with
 | iptr e off a val hs hoff hc hv=>exact ⟨a,rfl,hs,hoff,fun j c hj=>⟨val j,(hc j c hj).2,hv j c hj⟩⟩
theorem VR.ptr_inv {w0:Base} {O:Nat→Prop} (hs:Sit w0 O ι H w) {O':Nat→Prop} {b tot i off:Nat} {blk:ABlk} {e:AV} (h:VR w O' ι H (.ptr b tot i off) u) (hb:H[b]? = some blk) (ht:blk.es.length = tot) (he:blk.es[i]? = some e) :
 ∃ x,ι b = some x ∧ u = .pointer (some ⟨x,i * blk.sz + off,none⟩) ∧ EL w (OO O ι H) ι H e x (i * blk.sz):=by
 cases h with
 | stalePtr b tot i off blk' a hb' h=>rw [hb] at hb';cases hb';omega
 | ptr b tot i off blk' x hb' ht' hi hcx =>
   rw [hb] at hb';cases hb'
   obtain ⟨_,c,hc,_,_,hel⟩:=hs.heap b blk x hb hi
   refine ⟨x,hi,rfl,fun j d hj=>?_⟩
   obtain ⟨u,hu,hv⟩:=hel i j e d he hj
   obtain ⟨ty3,fz3,hc⟩:=rowAt_el hc hcx
   exact ⟨u,by simpa [World.cell?,hc] using hu,hv⟩
theorem ldE_run {P:Program} {t:TypeId} {e v:AV} {off blk base:Nat} (h:ldE (aggTy P t) (szTy P t) e off = some v) (hel:EL w O ι H e blk base) :
 ∃ u,(loadVar t ⟨blk,base + off,none⟩).run P w = .ok u w ∧ VR w O ι H v u:=by
 unfold ldE at h
 split at h
 ·rename_i n ha hn
  split at h
  ·rename_i hle
   injection h with h;subst h
   have hex:∃ us:List Value,us.length = n ∧ ∀ j c u,((e.cells.drop off).take n)[j]? = some c→us[j]? = some u→w.cell? ⟨blk,base + off + j,none⟩ = some u ∧ VR w O ι H c u:=by
    refine ⟨(List.range n).map fun j=>(w.cell? ⟨blk,base + off + j,none⟩).getD undef,by simp,fun j c u hc hu=>?_⟩
    rw [List.getElem?_take] at hc
    split at hc
    ·rename_i hj
     rw [List.getElem?_drop] at hc
     obtain ⟨u',hu',hv⟩:=hel _ _ hc
     rw [← Nat.add_assoc] at hu'
     rw [List.getElem?_map,List.getElem?_range hj] at hu
     simp [hu'] at hu
     subst hu
     exact ⟨hu',hv⟩
    ·cases hc
   obtain ⟨us,hul,hus⟩:=hex
   have hcl:((e.cells.drop off).take n).length = n:=by simp;omega
   have hrange:w.rangeAt blk (base + off) us:=by
    intro j v hj
    have hjl:j < n:=by rw [← hul];exact (List.getElem?_eq_some_iff.1 hj).1
    have hc:((e.cells.drop off).take n)[j]? = some (((e.cells.drop off).take n)[j]'(by omega)):=List.getElem?_eq_getElem (by omega)
    exact (hus j _ v hc hj).1
   unfold aggTy at ha
   have hd:∃ d,P.underlying t = some d ∧ d.isRow = true:=by
    split at ha <;> simp_all
   obtain ⟨d,hd1,hd2⟩:=hd
   unfold szTy at hn
   refine ⟨.agg us.toArray,run_loadVar_mid w blk (base + off) t us d hrange hd1 hd2 (by rw [hn,hul]),?_⟩
   refine .agg _ _ (by simp [hul];omega) fun j c u hc hu=>?_
   exact (hus j c u hc (by simpa using hu)).2
  ·cases h
 ·rename_i ha
  obtain ⟨u,hu,hv⟩:=hel off v h
  refine ⟨u,?_,hv⟩
  unfold aggTy at ha
  have hagg:(isAgg t).run P w = .ok false w:=by
   unfold isAgg
   split at ha
   ·cases ha
   ·cases ha
   ·rename_i d _ _ hd
    rw [Sem.run_bind,run_underlying hd w]
    cases d <;> simp_all
   ·cases ha
  simp [loadVar,Sem.run_bind,hagg,hu]
 ·cases h
theorem eqGuard_run {P:Program} {op:BinOp} {t:TypeId} {x y:Operand} {a b:Value} (ha:a ≠ .nilIface) (hag:∀ cs,a ≠ .agg cs):(eqGuard op t x y a b).run P w = .ok () w:=by
 unfold eqGuard
 cases op <;> simp only [Bool.not_true,Bool.not_false,if_true] <;> first
  | rfl
  | (cases a <;> first | (exact absurd rfl ha) | (exact absurd rfl (hag _)) | (cases b <;> rfl))
theorem binF_run {P:Program} {t:TypeId} {op:BinOp} {A B v:AV} {x y:Value} {X Y:Operand} (h:binF P t op A B = some v) (hx:VR w O ι H A x) (hy:VR w O ι H B y) :
 ∃ u,(eqGuard op t X Y x y).run P w = .ok () w ∧ (binOp op t x y).run P w = .ok u w ∧ VR w O ι H v u:=by
 unfold binF at h
 split at h
 ·rename_i k a k' b
  have:=hx.base_inv;subst this
  have:=hy.base_inv;subst this
  have hg:(eqGuard op t X Y (.int k a) (.int k' b)).run P w = .ok () w:=eqGuard_run (by simp) (by simp)
  split at h
  ·split at h
   ·cases h
   ·rename_i hb
    injection h with h;subst h
    exact ⟨_,hg,by simp [binOp,Op.shift,hb],.base _⟩
  ·split at h
   ·cases h
   ·rename_i hb
    injection h with h;subst h
    exact ⟨_,hg,by simp [binOp,Op.shift,hb],.base _⟩
  ·rename_i h1 h2
   split at h
   ·rename_i hk;subst hk
    unfold intBin at h
    cases op <;> simp only at h <;> first
     | (cases h;done)
     | (exact absurd rfl h1)
     | (exact absurd rfl h2)
     | (injection h with h;subst h;exact ⟨_,hg,by simp [binOp,Op.intArith,Op.intBits,Op.intCmp],.base _⟩)
     | (split at h
        ·cases h
        ·rename_i hb
         injection h with h;subst h;exact ⟨_,hg,by simp [binOp,Op.intDiv,hb],.base _⟩)
   ·cases h
 ·rename_i a b
  have:=hx.base_inv;subst this
  have:=hy.base_inv;subst this
  have hg:(eqGuard op t X Y (.string a) (.string b)).run P w = .ok () w:=eqGuard_run (by simp) (by simp)
  unfold strBin at h
  cases op <;> simp only at h <;> first
   | (cases h;done)
   | (injection h with h;subst h;exact ⟨_,hg,by simp [binOp,Op.stringOp],.base _⟩)
 ·rename_i a b
  have:=hx.base_inv;subst this
  have:=hy.base_inv;subst this
  have hg:(eqGuard op t X Y (.bool a) (.bool b)).run P w = .ok () w:=eqGuard_run (by simp) (by simp)
  unfold boolBin at h
  split at h
  ·rename_i ht
   cases op <;> simp only at h <;> first
    | (cases h;done)
    | (injection h with h;subst h;refine ⟨_,hg,?_,.base _⟩;have he:(Op.equal t (.bool a) (.bool b)).run P w = .ok (a == b) w:=run_equalIn_bool' w 9999 t a b ht;simp only [binOp,Sem.run_bind,he,Result.andThen_ok,Sem.run_pure])
  ·cases h
 ·cases h
theorem lenF_run {P:Program} {t ty:TypeId} {A v:AV} {x:Value} (h:lenF P H t A = some v) (hx:VR w O ι H A x) :
 ∃ u,(Builtin.len_ #[t] ty #[x]).run P w = .ok u w ∧ VR w O ι H v u:=by
 unfold lenF at h
 split at h
 ·split at h
  ·rename_i es _ e ht
   injection h with h;subst h
   cases hx with
   | lnil=>exact ⟨_,by simp [Builtin.len_,run_underlying ht,goInt],.base _⟩
   | lst es a n cap s val hn hcap hmax hlen hspot hc hv=>exact ⟨.int .i64 n,by simp [Builtin.len_,run_underlying ht,goInt],by subst hn;exact .base _⟩
  ·cases h
 ·split at h
  ·rename_i b tot off n hf
   split at h
   ·rename_i e ht
    injection h with h;subst h
    cases hx with
    | staleOwn b tot off n blk a n' c hb hlt=>simp [fresh,hb] at hf;omega
    | ownNil b blk hb he hi=>exact ⟨_,by simp [Builtin.len_,run_underlying ht,goInt],.base _⟩
    | own b tot off n blk x n' cap a hb ht' hi hn hl hcap ha=>exact ⟨.int .i64 n',by simp [Builtin.len_,run_underlying ht,goInt],by subst hn;exact .base _⟩
   ·cases h
  ·cases h
 ·split at h
  ·rename_i _ e ht
   injection h with h;subst h
   have:=hx.base_inv;subst this
   exact ⟨_,by simp [Builtin.len_,run_underlying ht,goInt],.base _⟩
  ·cases h
 ·split at h
  ·rename_i _ ht
   injection h with h;subst h
   have:=hx.base_inv;subst this
   exact ⟨_,by simp [Builtin.len_,run_underlying ht,goInt],.base _⟩
  ·cases h
 ·cases h
theorem cells_getD {arr:Array Value} {cs:List AV} (hl:arr.size = cs.length) {i:Nat} (hi:i < cs.length):∃ u,arr[i]? = some u:=⟨_,Array.getElem?_eq_getElem (by omega)⟩
theorem fieldPlace_run {P:Program} {s:TypeId} {f n:Nat} (h:fieldOff P s f = some n) (a:Addr) (hs:a.spot = none) :
 (Instr.fieldAt s (.pointer (some a)) f).run P w = .ok (.pointer (some ⟨a.block,a.off + n,none⟩)) w:=by
 unfold fieldOff at h
 split at h
 ·rename_i fs hu
  split at h
  ·rename_i fd hf
   split at h
   ·rename_i k hz
    injection h with h
    unfold szTy at hz
    cases hi:P.info? fd.type with
    | none=>simp [hi] at hz
    | some i =>
      simp [hi] at hz
      have hadd:a.add fd.offset = ⟨a.block,a.off + n,none⟩:=by
       subst h
       unfold Addr.add
       split
       ·rename_i h0;cases a;simp_all
       ·rfl
      simp [Instr.fieldAt,run_underlying hu,hf,Instr.sureAddr,fieldPlace,sizeOf,typeInfo,hi,hz,hadd]
   ·cases h
  ·cases h
 ·cases h
theorem part_run {P:Program} {t:TypeId} {cs:List AV} {arr:Array Value} {off:Nat} {v:AV} (hl:arr.size = cs.length)
 (hc:∀ (j:Nat) (c:AV) (u:Value),cs[j]? = some c→arr[j]? = some u→VR w O ι H c u)
 (h:ldE (aggTy P t) (szTy P t) (.agg cs) off = some v):∃ u,(part t arr off).run P w = .ok u w ∧ VR w O ι H v u:=by
 unfold ldE at h
 split at h
 ·rename_i n ha hn
  split at h
  ·rename_i hle
   injection h with h;subst h
   have hle':off + n ≤ arr.size:=by rw [hl];exact hle
   have hsz:(sizeOf t).run P w = .ok n w:=by
    unfold szTy at hn
    cases hi:P.info? t with
    | none=>simp [hi] at hn
    | some i=>simp [hi] at hn;simp [sizeOf,typeInfo,hi,hn]
   have hagg:(isAgg t).run P w = .ok true w:=by
    unfold aggTy at ha
    unfold isAgg
    split at ha
    ·rename_i d hd;rw [Sem.run_bind,run_underlying hd w];rfl
    ·rename_i d hd;rw [Sem.run_bind,run_underlying hd w];rfl
    ·cases ha
    ·cases ha
   refine ⟨.agg (arr.extract off (off + n)),by simp [part,hagg,hsz],.agg _ _ (by simp only [Array.size_extract,AV.cells,List.length_take,List.length_drop];omega) fun j c u hj hu=>?_⟩
   simp only [AV.cells] at hj
   rw [List.getElem?_take] at hj
   split at hj
   ·rename_i hjn
    rw [List.getElem?_drop] at hj
    rw [Array.getElem?_extract] at hu
    split at hu
    ·exact hc _ _ _ hj hu
    ·cases hu
   ·cases hj
  ·cases h
 ·rename_i ha
  have hagg:(isAgg t).run P w = .ok false w:=by
   unfold aggTy at ha
   unfold isAgg
   split at ha
   ·cases ha
   ·cases ha
   ·rename_i d _ _ hd
    rw [Sem.run_bind,run_underlying hd w]
    cases d <;> simp_all
   ·cases ha
  simp only [AV.cells] at h
  obtain ⟨u,hu⟩:=cells_getD hl (List.getElem?_eq_some_iff.1 h).1
  exact ⟨u,by simp [part,hagg,hu],hc _ _ _ h hu⟩
 ·cases h
theorem fresh_inv {b tot:Nat} (h:fresh H b tot = true):∃ blk,H[b]? = some blk ∧ blk.es.length = tot:=by
 unfold fresh at h
 split at h
 ·rename_i blk hb;exact ⟨blk,hb,by simpa using h⟩
 ·cases h
theorem VR.ptr_fresh {b tot i off:Nat} (hf:fresh H b tot = true) (h:VR w O ι H (.ptr b tot i off) u) :
 ∃ x blk,ι b = some x ∧ H[b]? = some blk ∧ blk.es.length = tot ∧ u = .pointer (some ⟨x,i * blk.sz + off,none⟩) ∧ ∃ c ty fz,w.heap[x]? = some (.cells c ty fz):=by
 obtain ⟨blk,hb,ht⟩:=fresh_inv hf
 cases h with
 | stalePtr b tot i off blk' a hb' h=>rw [hb] at hb';cases hb';omega
 | ptr b tot i off blk' x hb' ht' hi hcx=>rw [hb] at hb';cases hb';exact ⟨x,blk,hi,hb,ht,rfl,hcx⟩
end
end Go.Ab
namespace Go.Ab
open Go Go.RowKit
theorem asIntOf_run {P:Program} {w:World} {k:IntKind} {n:Int}:(asIntOf (.int k n)).run P w = .ok (k,n) w:=rfl
set_option maxHeartbeats 1000000 in
theorem qfun_sound {P:Program} {H:List ABlk} {ρ:Operand→AV} {o:Oper} {v:AV} (h:qfun P H ρ o.op = some v):QOp P H ρ o v:=by
 refine QOp.of_run fun w0 O ι a w hs hv=>?_
 obtain ⟨dst,op,ty,pos,after,guard⟩:=o
 simp only at h hv
 unfold qfun at h
 split at h
 ·rename_i x
  injection h with h;subst h
  exact ⟨_,rfl,hv x (by simp [Op.operands])⟩
 ·rename_i x
  injection h with h;subst h
  exact ⟨_,rfl,hv x (by simp [Op.operands])⟩
 · -- pick
   rename_i c x y
   split at h
   ·rename_i t hc
    have h1:=hv c (by simp [Op.operands]);rw [hc] at h1
    have h1:=h1.base_inv
    unfold pickF at h
    split at h
    ·rename_i p q hp hq
     injection h with h;subst h
     cases t with
     | true =>
       have h2:=(hv x (by simp [Op.operands])).strip (c:=true) rfl
       rw [hp] at h2
       have h2:=h2.base_inv
       exact ⟨.bool p,by simp [execOp,h1,asBool,h2],.base _⟩
     | false =>
       have h2:=(hv y (by simp [Op.operands])).strip (c:=!false) rfl
       rw [hq] at h2
       have h2:=h2.base_inv
       exact ⟨.bool q,by simp [execOp,h1,asBool,h2],.base _⟩
    ·cases h
   ·cases h
 · -- load
   rename_i t x
   split at h
   ·rename_i e off hx
    have h1:=hv x (by simp [Op.operands]);rw [hx] at h1
    obtain ⟨ad,h2,h3,h4,h5⟩:=h1.iptr_inv
    obtain ⟨u,hu,hvu⟩:=ldE_run (P:=P) h h5
    have hadd:(⟨ad.block,ad.off - off + off,none⟩:Addr) = ad:=by cases ad;simp_all
    rw [hadd] at hu
    exact ⟨u,by simp [execOp,h2,Instr.loadAt,Instr.sureAddr,hu],hvu⟩
   ·rename_i b tot i off hx
    have h1:=hv x (by simp [Op.operands]);rw [hx] at h1
    split at h
    ·rename_i blk hb
     split at h
     ·rename_i ht
      split at h
      ·rename_i e he
       obtain ⟨y,hy,h2,h3⟩:=h1.ptr_inv hs hb ht he
       obtain ⟨u,hu,hvu⟩:=ldE_run (P:=P) h h3
       exact ⟨u,by simp [execOp,h2,Instr.loadAt,Instr.sureAddr,hu],hvu⟩
      ·cases h
     ·cases h
    ·cases h
   ·cases h
 · -- fieldAddr
   rename_i s x f
   split at h
   ·rename_i n e off hn hx
    injection h with h;subst h
    have h1:=hv x (by simp [Op.operands]);rw [hx] at h1
    generalize hx':a.eval x = X at h1
    cases h1 with
    | iptr e off ad val hsp hoff hc hvv =>
    refine ⟨.pointer (some ⟨ad.block,ad.off + n,none⟩),?_,?_⟩
    ·have hr:=fieldPlace_run hn ad hsp (w:=w)
     simp only [execOp,hx',Sem.run_bind,hr,Result.andThen_ok,Sem.run_pure]
    ·exact .iptr e (off + n) _ val rfl (by simp;omega) (fun j c hj=>by have:=hc j c hj;rw [show ad.off + n - (off + n) = ad.off - off by omega];exact this) hvv
   ·rename_i n b tot i off hn hx
    split at h
    ·rename_i hf
     injection h with h;subst h
     have h1:=hv x (by simp [Op.operands]);rw [hx] at h1
     obtain ⟨y,blk,hi,hb,ht,h2,hcx⟩:=h1.ptr_fresh hf
     refine ⟨.pointer (some ⟨y,i * blk.sz + off + n,none⟩),by have hr:=fieldPlace_run hn ⟨y,i * blk.sz + off,none⟩ rfl (w:=w);simp only [execOp,h2,Sem.run_bind,hr,Result.andThen_ok,Sem.run_pure],?_⟩
     rw [Nat.add_assoc]
     exact .ptr b tot i (off + n) blk y hb ht hi hcx
    ·cases h
   ·cases h
 · -- field
   rename_i t x f
   split at h
   ·rename_i cs hx
    have h1:=hv x (by simp [Op.operands]);rw [hx] at h1
    obtain ⟨arr,h2,h3,h4⟩:=h1.agg_inv
    unfold fieldF at h
    split at h
    ·rename_i fs hu
     split at h
     ·rename_i fd hf
      obtain ⟨u,hr,hvu⟩:=part_run (P:=P) h3 h4 h
      exact ⟨u,by simp [execOp,h2,Instr.field,run_underlying hu,hf,asAgg,hr],hvu⟩
     ·cases h
    ·cases h
   ·cases h
 · -- binOp
   rename_i op t x y yt
   obtain ⟨u,h1,h2,h3⟩:=binF_run (X:=x) (Y:=y) h (hv x (by simp [Op.operands])) (hv y (by simp [Op.operands]))
   exact ⟨u,by simp [execOp,h1,h2],h3⟩
 ·rename_i t x
  split at h
  ·rename_i b hx
   injection h with h;subst h
   have h1:=hv x (by simp [Op.operands]);rw [hx] at h1
   have h1:=h1.base_inv
   exact ⟨_,by simp [execOp,h1,Op.unary],.base _⟩
  ·cases h
 ·rename_i t x
  split at h
  ·rename_i k n hx
   injection h with h;subst h
   have h1:=hv x (by simp [Op.operands]);rw [hx] at h1
   have h1:=h1.base_inv
   exact ⟨_,by simp only [execOp,h1,Op.unary,Op.intArith,Sem.run_bind,Sem.run_pure,Result.andThen_ok],.base _⟩
  ·cases h
 · -- extract
   rename_i x i
   split at h
   ·rename_i vs hx
    have h1:=hv x (by simp [Op.operands]);rw [hx] at h1
    obtain ⟨arr,h2,h3,h4⟩:=h1.tup_inv
    obtain ⟨u,hu⟩:=cells_getD h3 (List.getElem?_eq_some_iff.1 h).1
    exact ⟨u,by simp [execOp,h2,Instr.extract,hu],h4 _ _ _ h hu⟩
   ·cases h
 · -- nilCheck
   rename_i x
   split at h
   ·rename_i b tot i off hx
    split at h
    ·rename_i hf
     injection h with h;subst h
     have h1:=hv x (by simp [Op.operands]);rw [hx] at h1
     obtain ⟨y,blk,hi,hb,ht,h2⟩:=h1.ptr_fresh hf
     exact ⟨a.eval x,by simp [execOp,h2],h1⟩
    ·cases h
   ·rename_i e off hx
    injection h with h;subst h
    have h1:=hv x (by simp [Op.operands]);rw [hx] at h1
    obtain ⟨ad,h2,h3,h4,h5⟩:=h1.iptr_inv
    exact ⟨a.eval x,by simp [execOp,h2],h1⟩
   ·cases h
 · -- convert
   rename_i s d x
   split at h
   ·rename_i k n hx
    split at h
    ·rename_i sd k' hsd hd
     injection h with h;subst h
     have h1:=hv x (by simp [Op.operands]);rw [hx] at h1
     have h1:=h1.base_inv
     exact ⟨_,by simp [execOp,h1,convert,run_underlying hsd,run_underlying hd,Conv.intToInt],.base _⟩
    ·cases h
   ·cases h
 · -- makeFunc
   rename_i f first caps
   split at h
   case h_2=>cases h
   rename_i hfirst
   injection h with h;subst h
   have hfirst:first = #[]:=by cases first;simp_all
   subst hfirst
   refine ⟨.func (.func f) #[] (caps.map a.eval),by simp only [execOp,Instr.makeFunc,Sem.run_bind,Sem.run_pure,Result.andThen_ok,List.map_toArray,List.map_nil],?_⟩
   refine .clo _ _ _ (by simp) fun j c u hj hu=>?_
   simp only [List.getElem?_map,Array.getElem?_map,Array.getElem?_toList,Option.map_eq_some_iff] at hj hu
   obtain ⟨x,hx,rfl⟩:=hj
   obtain ⟨y,hy,rfl⟩:=hu
   rw [hx] at hy;cases hy
   exact hv x (by simp only [Op.operands,Array.empty_append];exact Array.mem_of_getElem? hx)
 · -- len
   rename_i cl
   split at h
   case h_2=>cases h
   rename_i x t h5 h6 h7
   obtain ⟨ce,as,ts⟩:=cl
   simp only at h5 h6 h7
   subst h5
   have h6:as = #[x]:=by cases as;simp_all
   have h7:ts = #[t]:=by cases ts;simp_all
   subst h6;subst h7
   obtain ⟨u,h1,h2⟩:=lenF_run (P:=P) (ty:=ty) h (hv x (by simp [Op.operands,Call.operands]))
   refine ⟨u,?_,h2⟩
   simp only [execOp,resolve,invoke,builtin,Sem.run_bind,Sem.run_pure,Result.andThen_ok,List.map_toArray,List.map_cons,List.map_nil,h1]
 ·cases h
end Go.Ab
namespace Go.Ab
open Go Go.RowKit
abbrev noB:Nat→Option Nat:=fun _=>none
def Pu (a:AV):Prop:=∀ (w:World) (O:Nat→Prop) (ι:Nat→Option Nat) (H:List ABlk) (u:Value),VR w O ι H a u→VR w O noB [] a u
theorem VR.back {w:World} {O:Nat→Prop} {ι:Nat→Option Nat} {H:List ABlk} {a:AV} {u:Value} (h:VR w O noB [] a u):VR w O ι H a u:=
 h.mono ⟨fun _ _ _ h=>h,fun _ _ h _=>h,fun b blk h=>by simp at h,fun b x blk blk' c ty fz h=>by simp at h⟩
theorem VR.lessO {w:World} {O O':Nat→Prop} {ι:Nat→Option Nat} {H:List ABlk} {a:AV} {u:Value} (h:VR w O ι H a u) (hO:∀ x,O' x→O x):VR w O' ι H a u:=
 h.mono ⟨fun _ _ _ h=>h,fun _ _ h _ h'=>h (hO _ h'),fun b blk h=>⟨blk,h,Nat.le_refl _,fun _=>⟨rfl,rfl⟩⟩,
  fun b x blk blk' c ty fz _ _ _ _ h=>⟨c,ty,fz,h,rfl⟩⟩
theorem Pu.base (v:Value):Pu (.base v):=fun w O ι H u h=>by cases h;exact .base _
theorem Pu.mem (cs:List (Nat × Obj)):Pu (.mem cs):=fun w O ι H u h=>by
 cases h with
 | mem _ _ h=>exact .mem cs u h
theorem Pu.lst {es:List AV} (h:∀ e ∈ es,∀ c ∈ e.cells,Pu c):Pu (.lst es):=fun w O ι H u hu=>by
 cases hu with
 | lnil=>exact .lnil
 | lst es a n cap s val hn hcap hmax hlen hspot hc hv =>
   exact .lst es a n cap s val hn hcap hmax hlen hspot hc fun i j e c he hj=>h e (List.mem_of_getElem? he) c (List.mem_of_getElem? hj) _ _ _ _ _ (hv i j e c he hj)
theorem Pu.agg {cs:List AV} (h:∀ c ∈ cs,Pu c):Pu (.agg cs):=fun w O ι H u hu=>by
 cases hu with
 | agg cs arr hlen hh=>exact .agg cs arr hlen fun j c u hc hu=>h c (List.mem_of_getElem? hc) _ _ _ _ _ (hh j c u hc hu)
theorem Pu.tup {cs:List AV} (h:∀ c ∈ cs,Pu c):Pu (.tup cs):=fun w O ι H u hu=>by
 cases hu with
 | tup cs arr hlen hh=>exact .tup cs arr hlen fun j c u hc hu=>h c (List.mem_of_getElem? hc) _ _ _ _ _ (hh j c u hc hu)
theorem Pu.clo {f:FuncId} {cs:List AV} (h:∀ c ∈ cs,Pu c):Pu (.clo f cs):=fun w O ι H u hu=>by
 cases hu with
 | clo f cs arr hlen hh=>exact .clo f cs arr hlen fun j c u hc hu=>h c (List.mem_of_getElem? hc) _ _ _ _ _ (hh j c u hc hu)
theorem Pu.iptr {e:AV} {off:Nat} (h:∀ c ∈ e.cells,Pu c):Pu (.iptr e off):=fun w O ι H u hu=>by
 cases hu with
 | iptr e off a val hs hoff hc hv=>exact .iptr e off a val hs hoff hc fun j c hj=>h c (List.mem_of_getElem? hj) _ _ _ _ _ (hv j c hj)
def FnM (P:Program) (m:List (Nat × Obj)) (f:FuncId) (args:List AV) (d:AV):Prop:=
 (∃ fn,P.funcs[f]? = some fn ∧ (fn.name == "runtime.NumGoroutine") = false ∧ fn.body.isNone = false) ∧
 ∀ (w:World) (O:Nat→Prop) (vs:Array Value),(∀ p ∈ m,¬ O p.1 ∧ w.heap[p.1]? = some p.2)→(∀ x,O x→x < w.heap.size)→vs.size = args.length →
  (∀ (j:Nat) (a:AV) (u:Value),args[j]? = some a→vs[j]? = some u→VR w O noB [] a u) →
  Calls P f vs w fun e w'=>∃ v,e = .returned v ∧ VR w' O noB [] d v ∧ Below w.heap.size w w'
abbrev Fn (P:Program) (f:FuncId) (args:List AV) (d:AV):Prop:=FnM P [] f args d
def MemIn (m:List (Nat × Obj)) (ρ:Operand→AV):Prop:=m = [] ∨ ρ (.tmp memSlot) = .mem m
theorem MemIn.get {m:List (Nat × Obj)} {ρ:Operand→AV} (h:MemIn m ρ) {w:World} {O:Nat→Prop} {ι:Nat→Option Nat} {H:List ABlk} {u:Value} (hv:VR w O ι H (ρ (.tmp memSlot)) u):∀ p ∈ m,¬ O p.1 ∧ w.heap[p.1]? = some p.2:=by
 rcases h with rfl | h
 ·intro p hp;cases hp
 ·rw [h] at hv
  cases hv with
  | mem cs v h=>exact h
section
variable {P:Program} {w w':World} {w0:Base} {O:Nat→Prop} {ι:Nat→Option Nat} {H:List ABlk} {u:Value}
theorem Goes.quiet (hs:Sit w0 O ι H w) (hb:Below w.heap.size w w'):Goes w (OO O ι H) ι H w' (OO O ι H) ι H:=
 ⟨fun p u _ h=>by rw [hb.block p (heap_lt h)];exact h,fun _ _ h _=>h,
  fun b blk h=>⟨blk,h,Nat.le_refl _,fun _=>⟨rfl,rfl⟩⟩,
  fun b x blk blk' c ty fz h1 h2 _ hi h=>by
   have hlt:x < w.heap.size:=by
    rcases Nat.lt_or_ge x w.heap.size with h' | h'
    ·exact h'
    ·rw [Array.getElem?_eq_none h'] at h;cases h
   exact ⟨c,ty,fz,by rw [hb.block x hlt];exact h,rfl⟩⟩
theorem BR.mono {O':Nat→Prop} {ι':Nat→Option Nat} {H':List ABlk} {blk:ABlk} {x:Nat} (h:BR w O ι H blk x) (g:Goes w O ι H w' O' ι' H') (hx:w'.heap[x]? = w.heap[x]?):BR w' O' ι' H' blk x:=by
 obtain ⟨c,h1,h2,h3,h4⟩:=h.row
 exact ⟨c,(rowAt_same hx).trans h1,h2,h3,fun i j e d he hd=>by
  obtain ⟨u,hu,hv⟩:=h4 i j e d he hd
  exact ⟨u,hu,hv.mono g⟩⟩
theorem BR.lt {blk:ABlk} {x:Nat} (h:BR w O ι H blk x):x < w.heap.size:=by
 obtain ⟨c,h1,_⟩:=h.row
 exact rowAt_lt h1
theorem Sit.quiet (hs:Sit w0 O ι H w) (hb:Below w.heap.size w w'):Sit w0 O ι H w':=
 ⟨fun b blk x h1 h2=>by
  obtain ⟨h3,h4⟩:=hs.heap b blk x h1 h2
  exact ⟨h3,h4.mono (Goes.quiet hs hb) (hb.block x h4.lt)⟩,
  hs.empt,hs.inj,hs.below.step hb,fun x hx=>Nat.lt_of_lt_of_le (hs.old x hx) hb.size,hs.disj,hs.hist.trans (Goes.quiet hs hb).grow⟩
theorem callFunc_run {f:FuncId} {fn:Func} (hf:P.funcs[f]? = some fn) (hn:(fn.name == "runtime.NumGoroutine") = false) (hb:fn.body.isNone = false) (args:Array Value) :
 (callFunc f args).run P w = .ok (.enter f args) w:=by
 simp only [callFunc,Sem.run_bind,run_program,Result.andThen_ok,hf,hn,hb,Bool.false_eq_true,if_false,Sem.run_pure]
theorem q_call {ρ:Operand→AV} {o:Oper} {c:Call} {fx:Operand} {f:FuncId} {caps:List AV} {d:AV} (ho:o.op = .call c) (hc:c.callee = .value fx)
 (hf:ρ fx = .clo f caps) (hp:∀ a ∈ c.args.toList.map ρ ++ caps,Pu a) {m:List (Nat × Obj)} (h:FnM P m f (c.args.toList.map ρ ++ caps) d) (hm:MemIn m ρ):QOp P H ρ o d:=by
 intro w0 O ι a w hs hv K Q hK
 obtain ⟨⟨fn,h1,h2,h3⟩,h4⟩:=h
 have hmem:∀ y,y = fx ∨ y ∈ c.args→y ∈ o.op.operands:=by
  intro y hy
  rw [ho]
  simp only [Op.operands,Call.operands,hc,Array.mem_append,List.mem_toArray,List.mem_singleton]
  exact hy
 have h5:=hv fx (.inl (hmem _ (.inl rfl)))
 rw [hf] at h5
 generalize hX:a.eval fx = X at h5
 cases h5 with
 | clo f caps arr hlen hcap =>
 have hargs:∀ (j:Nat) (x:AV) (u:Value),(c.args.toList.map ρ ++ caps)[j]? = some x→(c.args.map a.eval ++ arr)[j]? = some u→VR w (OO O ι H) ι H x u:=by
  intro j x u hx hu
  rw [List.getElem?_append] at hx
  rw [Array.getElem?_append] at hu
  simp only [List.length_map,Array.length_toList,Array.size_map] at hx hu
  split at hx
  ·rename_i hj
   rw [if_pos hj] at hu
   simp only [List.getElem?_map,Array.getElem?_map,Array.getElem?_toList,Option.map_eq_some_iff] at hx hu
   obtain ⟨y,hy,rfl⟩:=hx
   obtain ⟨z,hz,rfl⟩:=hu
   rw [hy] at hz;cases hz
   exact hv y (.inl (hmem _ (.inr (Array.mem_of_getElem? hy))))
  ·rename_i hj
   rw [if_neg hj] at hu
   exact hcap _ _ _ hx hu
 have hrun:(execOp a.eval o).run P w = .ok (.enter f (c.args.map a.eval ++ arr)) w:=by
  unfold execOp
  rw [ho]
  simp only [resolve,hc,Deferred.ofValue,hX,Sem.run_bind,Sem.run_pure,Result.andThen_ok,invoke,Array.empty_append,callFunc_run h1 h2 h3]
 unfold Oper.wp
 rw [hrun,Oper.upon_enter]
 refine (h4 w (OO O ι H) (c.args.map a.eval ++ arr) (hm.get (hv _ (.inr rfl))) ?_ (by simp [hlen]) fun j x u hx hu=>hp x (List.mem_of_getElem? hx) _ _ _ _ _ (hargs j x u hx hu)).mono ?_
 ·rintro x (hx | ⟨b,hb,hx⟩)
  ·exact hs.old x hx
  ·have hbk:H[b]? = some H[b]:=List.getElem?_eq_getElem hb
   exact (hs.heap b _ x hbk hx).2.lt
 ·rintro e w' ⟨v,rfl,hv',hb'⟩
  exact hK v w' hv'.back hb'
end
end Go.Ab
