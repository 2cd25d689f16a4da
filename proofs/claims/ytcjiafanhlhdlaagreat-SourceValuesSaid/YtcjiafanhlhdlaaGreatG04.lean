/-
  The abstract machine, part L: one step of a region, calls of functions on data, and the steps of a region one behind the other.
-/
import Derived.Test.YtcjiafanhlhdlaaGreatG03
import Derived.OrdersIn
import Derived.RangeFuncCalls
import Derived.Laws.StandIn
import Derived.Orders
set_option linter.unusedVariables false
set_option linter.unusedSimpArgs false
set_option linter.unusedSectionVars false
namespace Go.Avm
open Go.RowKit
variable[ap]
def ch(P:Program)(f:Nat):Prop:=∃fn,P.funcs[f]? =some fn∧fn.body.isNone=false∧(fn.name== "runtime.NumGoroutine")=false
def wX(P:Program)(g:Nat)(k:vG):Prop:=∃fn,P.funcs[g]? =some fn∧(fn.name== "runtime.NumGoroutine")=false∧fn.body.isNone=true∧Extern.findNext fn=none∧match k with
 | .indexByte=>Extern.find fn=some Extern.BytealgIndexByte.indexByte
 | .same=>Extern.find fn=some Extern.AbiNoEscape.same
def eu(P:Program):Prop:=∀g k,ap.ext g=some k→wX P g k
structure d4(P:Program):Prop where
 mixed:P.follows .mixedOrders=true
 ext:eu P
def nR(I:Nat→Nat→Prop)(w:World)(a:List D)(v:Value):Prop:=
 (∃x,a=[x]∧DRep I w x v)∨(a.length≠1∧∃vs,v= .tuple vs∧vs.size=a.length∧∀(i:Nat)(x:D)(u:Value),a[i]? =some x→vs[i]? =some u→DRep I w x u)
def dt(P:Program)(f:Nat)(c g:List D):Prop:=
 ch P f∧∀(w:World)(I:Nat→Nat→Prop)(a:Array Value),(∀b o,I b o→b<w.heap.size)→a.size=c.length→
  (∀(i:Nat)(x:D)(u:Value),c[i]? =some x→a[i]? =some u→DRep I w x u)→Globs I w→
  Calls P f a w fun e d=>∃v I',e= .returned v∧Below w.heap.size w d∧(∀b o,I b o→I' b o)∧(∀b o,I' b o→I b o∨w.heap.size≤b)∧
   (∀b o,I' b o→b<d.heap.size)∧nR I' d g v
def az(P:Program)(f:Nat)(b:List AV)(h:aa)(g:List AV)(h':aa):Prop:=
 ch P f∧∀(G:Gh)(B:Nat)(w0:World)(I0:Nat→Nat→Prop)(w:World)(a:Array Value),HR G B w0 I0 h w→a.size=b.length→
  (∀(i:Nat)(x:AV)(u:Value),b[i]? =some x→a[i]? =some u→Rep G w x u)→
  Calls P f a w fun e c=>∃v d,e= .returned v∧Ext G w d c∧HR d B w0 I0 h' c∧Rep d c (dW g) v
def FF(r:Option Nat):Fence:={fn:=fun _=>True,depth:=none,alive:=false,round:=r}
def o7(P:Program)(k v:Nat)(c:List AV)(h:aa)(m:List AV)(h':aa):Prop:=
 ∀(G:Gh)(B:Nat)(w0:World)(I0:Nat→Nat→Prop)(w:World)(a:Array Value),HR G B w0 I0 h w→a.size=c.length→
  (∀(i:Nat)(x:AV)(u:Value),c[i]? =some x→a[i]? =some u→Rep G w x u)→∀b,G.mloc k v=some b→
  ∃(f:Nat)(d:Array Value)(Fx l:Code),(Instr.yield b a).run P w= .ok (.round b f d Fx l) w∧
   ∀r,RoundIn (FF r) 0 P b f d Fx l w fun e g=>∃x j,e= .returned x∧Ext G w j g∧HR j B w0 I0 h' g∧Rep j g (dW m) x
theorem lD:∀(l m:List (Nat×aI))(h:aa),af (l ++m) h=af l (af m h)
 |[],_,_=>rfl
 |(k,e)::r,m,h=>by simp only[yB,af,lD r m h]
theorem lE:∀(l:List (Nat×aI))(h:aa),ae h l=af l.reverse h
 |[],_=>rfl
 |(k,e)::r,h=>by
  rw[ae,lE r,List.reverse_cons,lD];rfl
theorem qk(l:List (Nat×aI))(h:aa):ae h l.reverse=af l h:=by rw[lE,List.reverse_reverse]
theorem eP(h:aa):∀(l:List (Nat×aI)),(∀p∈l,p.2.ver=(h p.1).ver∧(p.2.ob=none∨p.2.ob=(h p.1).ob))→∀k,(af l h k).ver=(h k).ver∧((af l h k).ob=none∨(af l h k).ob=(h k).ob)
 |[],_,_=>⟨rfl, .inr rfl⟩
 |(b,e)::r,hp,k=>by
  simp only[af,aq];split
  ·rename_i a;subst a;exact hp (k,e) (by simp)
  ·exact eP h r (fun p hm=>hp p (by simp[hm])) k
theorem HR.forget{G:Gh}{B:Nat}{w0 w:World}{I0:Nat→Nat→Prop}{h h':aa}(e:HR G B w0 I0 h w)(d:∀k,(h' k).ver=(h k).ver∧((h' k).ob=none∨(h' k).ob=(h k).ob)):HR G B w0 I0 h' w:=
 ⟨e.below,e.bsz,e.immlt,e.i0,e.immlow,fun k v L g=>by rw[(d k).1];exact e.fresh k v L g,fun k L g=>by rw[(d k).1]at g;exact e.own k L g,
  fun k i L r g j=>by rw[(d k).1]at g;rw[(d i).1]at j;exact e.dis k i L r g j,fun k ob m=>by
   rw[(d k).1];rcases(d k).2 with a|a
   ·rw[a]at m;cases m
   ·rw[a]at m;exact e.objs k ob m,fun k=>by rw[(d k).1];exact e.lim k,⟨fun k v b x=>by rw[(d k).1];exact e.maps.low k v b x,fun k i b l l' x o=>by
   have p:∀k,fa (h' k).ob=true→fa (h k).ob=true:=fun k l=>by
    rcases(d k).2 with a|a
    ·rw[a]at l;cases l
    ·rw[←a];exact l
   rw[(d k).1]at x;rw[(d i).1]at o;exact e.maps.inj k i b (p k l) (p i l') x o,fun k es c x=>by
   rw[(d k).1];rcases(d k).2 with a|a
   ·rw[a]at x;cases x
   ·rw[a]at x;exact e.maps.obj k es c x,fun k n N env u Fx s q x=>by
   rw[(d k).1];rcases(d k).2 with a|a
   ·rw[a]at x;cases x
   ·rw[a]at x;exact e.maps.loops k n N env u Fx s q x,fun k y t f seen x=>by
   rw[(d k).1];rcases(d k).2 with a|a
   ·rw[a]at x;cases x
   ·rw[a]at x;exact e.maps.iters k y t f seen x,e.maps.glob⟩⟩
theorem nS{P:Program}{g:Nat}{a e:List AV}{h d h2:aa}(f:az P g a d e h2)(l:∀k,(d k).ver=(h k).ver∧((d k).ob=none∨(d k).ob=(h k).ob)):az P g a h e h2:=
 ⟨f.1,fun G B w0 I0 w c i j b=>f.2 G B w0 I0 w c (i.forget l) j b⟩
def tv(P:Program)(ob:List (Nat×List D×List D)):Prop:=∀c∈ob,dt P c.1 c.2.1 c.2.2
def Obl.holds(P:Program):Obl→Prop
 | .data c=>dt P c.1 c.2.1 c.2.2
 | .heap f a h e h'=>az P f a h e h'
 | .frame f a d e b=>∀h,gS h d→az P f a h e (af b h)
 | .exact f a d i e b g=>∀h,(∀k∈d,h k=i k)→az P f a h e (ae h (dL b g))
 | .yield k v a h e h'=>o7 P k v a h e h'
def dg(P:Program)(ob:List Obl):Prop:=∀c∈ob,c.holds P
section
variable{P:Program}{G:Gh}{B:Nat}{w0 w:World}{I0:Nat→Nat→Prop}{h:aa}
theorem lF{w c:World}(d:Below w.heap.size w c){b o:Nat}(a:b<w.heap.size):c.cell? ⟨b,o,none⟩=w.cell? ⟨b,o,none⟩:=d.cell (p:=⟨b,o,none⟩) a
theorem HR.behind(a:HR G B w0 I0 h w){d:World}(c:Below w.heap.size w d){I':Nat→Nat→Prop}(j:∀b o,I' b o→G.imm b o∨w.heap.size≤b)(g:∀b o,I' b o→b<d.heap.size):
    HR (G.more I') B w0 I0 h d∧Ext G w (G.more I') d:=by
 have hex:Ext G w (G.more I') d:=⟨fun _ _ x=> .inl x,fun _ _ _ x=>x,fun b i x=>lF c (a.immlt b i x),c.size,fun _=>xO _,fun _ _ _ x=>x,fun _ _ _ x=>x,fun b o _ x=>⟨o,by rw[c.block b (xG.1 x).1];exact x,cn o⟩⟩
 refine⟨⟨a.below.trans (c.mono a.bsz),y8 a.bsz c.size, ?_,fun b o x=> .inl (a.i0 b o x), ?_,a.fresh, ?_,a.dis, ?_,a.lim,a.maps.step hex rfl (fun b o _ x=>(c.block b (xG.1 x).1).trans x) (fun _=>xO _) (fun _ _ _ _=>rfl)⟩,hex⟩
 ·rintro b o (x|x)
  ·exact yP (a.immlt b o x) c.size
  ·exact g b o x
 ·rintro b o (x|x) hbB
  ·exact a.immlow b o x hbB
  ·rcases j b o x with x|x
   ·exact a.immlow b o x hbB
   ·have:=a.bsz;omega
 ·intro k L f
  obtain⟨n,⟨arr,e,h2,m⟩,l⟩:=a.own k L f;have iM:=a.blt f;refine⟨n,⟨arr,e,(c.block L.b iM).trans h2,m⟩, ?_⟩;rintro o (x|x)
  ·exact l o x
  ·rcases j _ o x with x|x
   ·exact l o x
   ·omega
 ·intro k ob p
  exact(a.objs k ob p).mono (a.le k) hex (fun L f t=>lF c (a.blt f))
theorem o8{x:D}(d:x.scal=true){I:Nat→Nat→Prop}{w:World}{v:Value}(a:DRep I w x v)(c:Nat→Nat→Prop)(b:World):DRep c b x v:=by
 cases x<;>first|(cases a;first|exact .bool _|exact .int _ _|exact .str _ _ ‹_›|exact .nilp|exact .nili|exact .ifc _ _)|(simp[D.scal]at d)
theorem m8{a:List D}{v:Value}(j:nR G.imm w a v):Rep G w (fc a) v:=by
 rcases j with ⟨x,rfl,b⟩|⟨f,vs,rfl,l,b⟩
 ·exact .d b
 ·have:fc a= .tup (a.map .d):=by
    unfold fc;split
    ·simp at f
    ·rfl
  rw[this];refine .tup _ vs (by simpa using l) (fun i c u e k=> ?_);simp only[xK,xB]at e;obtain⟨x,g,rfl⟩:=e;exact .d (b i x u g k)
theorem b9{f:Nat}(e:ch P f)(a:Array Value)(w:World):(callFunc f a).run P w= .ok (.enter f a) w:=by
 obtain⟨fn,c,d,b⟩:=e;simp only[callFunc,Sem.run_bind,run_program,Result.andThen_ok,c,b,d,yQ,ya,Sem.run_pure]
theorem nT(m:HR G B w0 I0 h w){cfg:d0}{i f:Nat}{xs:List AV}{vs:Array Value}(S:vs.size=xs.length)(j:∀(i:Nat)(x:AV)(u:Value),xs[i]? =some x→vs[i]? =some u→Rep G w x u){out:Out}
    (g:dz cfg i f xs h=some out) (s:tv P out.ob):
    ch P f∧Calls P f vs w fun e q=>∃v F,e= .returned v∧Ext G w F q∧HR F B w0 I0 (ae h out.wr) q∧Rep F q out.val v:=by
 unfold dz at g;split at g
 ·rename_i ds O
  simp only[xA]at g;subst g;obtain⟨Q,h2⟩:=lm O S j;obtain⟨N,c⟩:=s (f,ds,cfg.ret i) (by simp);refine⟨N,(c w G.imm vs m.immlt Q h2 m.maps.glob).mono ?_⟩;rintro e q ⟨v,I',rfl,R,C,y,t,d⟩;obtain⟨K,E⟩:=m.behind R y t;refine⟨v,_,rfl,E,K,m8 ?_⟩;have up:∀{x:D}{u:Value},DRep I' q x u→DRep (G.more I').imm q x u:=fun l=>l.mono (fun _ _ x=> .inr x) (fun _ _ _=>rfl)
  rcases d with ⟨x,j,l⟩|⟨A,H,M,I,l⟩
  ·exact .inl ⟨x,j,up l⟩
  ·exact .inr ⟨A,H,M,I,fun i x u a b=>up (l i x u a b)⟩
 ·split at g
  ·rename_i r p
   split at g
   ·rename_i n
    simp only[xA]at g;subst g;obtain⟨ds,ks⟩:=r;obtain⟨Q,h2⟩:=oU m p S j;obtain⟨N,c⟩:=s (f,ds,cfg.ret i) (by simp)
    have z:∀b o,bR G h ks b o→b<w.heap.size:=by
     rintro b o (x|⟨k,_,L,U,rfl⟩)
     ·exact m.immlt b o x
     ·exact m.blt U
    refine⟨N,(c w (bR G h ks) vs z Q h2 (m.maps.glob.mono (fun _ _ x=> .inl x) (fun _ _ _=>rfl))).mono ?_⟩;rintro e q ⟨v,I',rfl,R,C,y,t,d⟩;obtain⟨K,E⟩:=m.behind R (I':=fun _ _=>False) (fun _ _ x=>x.elim) (fun _ _ x=>x.elim);refine⟨v,_,rfl,E,K,m8 ?_⟩;have T:∀x∈cfg.ret i,x.scal=true:=fun x j=>xY.1 n x j
    rcases d with ⟨x,j,l⟩|⟨A,H,M,I,l⟩
    ·exact .inl ⟨x,j,o8 (T x (by have J:cfg.ret i=[x]:=j;rw[J];simp)) l _ _⟩
    ·exact .inr ⟨A,H,M,I,fun i x u a b=>o8 (T x (xS a)) (l i x u a b) _ _⟩
   ·cases g
  ·cases g
def rD(P:Program)(B:Nat)(w0:World)(I0:Nat→Nat→Prop)(G:Gh)(h:aa)(w:World)(out:Out)(r:Result Next):Prop:=
 Good P B w0 I0 G h w r out∨∃f a,r= .ok (.enter f a) w∧Calls P f a w fun e b=>∃v c,e= .returned v∧Ext G w c b∧HR c B w0 I0 (ae h out.wr) b∧Rep c b out.val v
theorem aA(b:HR G B w0 I0 h w){s:Sem Value}{out:Out}{v:Value}(a:s.run P w= .ok v w)(c:out.wr=[])(d:Rep G w out.val v):rD P B w0 I0 G h w out ((do pure (.value (←s)):Sem Next).run P w):=
 .inl (Good.pure b (by simp[a]) c d)
theorem bW{s:Sem Value}{out:Out}(f:∃v a b,s.run P w= .ok v a∧Ext G w b a∧HR b B w0 I0 (ae h out.wr) a∧Rep b a out.val v):rD P B w0 I0 G h w out ((do pure (.value (←s)):Sem Next).run P w):=by
 obtain⟨v,a,b,c,e,h2,d⟩:=f;exact .inl ⟨v,a,b, .inl (by simp[c]),e,h2,d⟩
theorem b4(c:Call)(b:Builtin)(ty:TypeId)(ρ:Operand→Value)(a:c.callee= .builtin b):(do let d ←resolve ρ c ty;invoke d.target d.args:Sem Next).run P w=
    (builtin b c.argTypes ty (c.args.map fun| .const _=>true|_=>false) (c.args.map ρ)).run P w:=by
 simp only[resolve,a,pure_bind,invoke];rfl
theorem ff{c:Call}{ty:TypeId}{j:Operand→AV}{ρ:Operand→Value}(o:∀x,Rep G w (j x) (ρ x)){f:Operand}(p:c.callee= .value f){g:Nat}{e:List AV}(z:j f= .fn g e):
    ∃vs:Array Value,(c.args.map ρ ++vs).size=(c.args.toList.map j ++e).length∧
     (∀(i:Nat)(x:AV)(u:Value),(c.args.toList.map j ++e)[i]? =some x→(c.args.map ρ ++vs)[i]? =some u→Rep G w x u)∧
     (do let d ←resolve ρ c ty;invoke d.target d.args:Sem Next).run P w=(callFunc g (c.args.map ρ ++vs)).run P w:=by
 have k:=o f;rw[z]at k
 obtain⟨vs,q,r,t⟩:∃vs:Array Value,ρ f= .func (.func g) #[] vs∧vs.size=e.length∧∀(i:Nat)(x:AV)(u:Value),e[i]? =some x→vs[i]? =some u→Rep G w x u:=by
  generalize ρ f=E at k;cases k with
  |fn _ _ vs r D=>exact⟨vs,rfl,r,D⟩
 have s:(c.args.map ρ ++vs).size=(c.args.toList.map j ++e).length:=by simp[r]
 have n:∀(i:Nat)(x:AV)(u:Value),(c.args.toList.map j ++e)[i]? =some x→(c.args.map ρ ++vs)[i]? =some u→Rep G w x u:=by
  intro i x u l m;by_cases y:i<c.args.size
  ·rw[xL (by simpa using y)]at l
   rw[yA (by simpa using y)]at m;simp only[xK,xX,xB]at l;simp only[yb,xB]at m;obtain⟨a,C,rfl⟩:=l;obtain⟨b,v,rfl⟩:=m;rw[C]at v;simp only[xA]at v;subst v;exact o a
  ·rw[xN (by simp;omega)]at l
   rw[Array.getElem?_append_right (by simp;omega)]at m;simp only[xV,x5]at l;simp only[Array.size_map]at m;exact t _ x u l m
 refine⟨vs,s,n, ?_⟩
 have A:resolve ρ c ty=pure {target:= .fn (.func g) vs,args:= #[] ++c.args.map ρ}:=by
  simp only[resolve,p,q,Deferred.ofValue]
 rw[A,pure_bind];simp only[invoke,Array.empty_append]
theorem i8(s:List UInt8)(c:UInt8):∀(n i:Nat),s.length-i=n→i≤s.length→((List.range' i n).find? fun j=>s[j]! ==c)=k0 c (s.drop i) i
 |0,i,h,d=>by
  rw[List.drop_eq_nil_of_le (by omega)];rfl
 |n+1,i,h,d=>by
  have a:i<s.length:=by omega
  rw[y5,List.find?_cons,xq a];simp only[k0];have e:s[i]! =s[i]:=getElem!_pos s i a;rw[e];by_cases b:s[i]==c
  ·simp[b]
  ·simp only[b,yQ,ya]
   exact i8 s c n (i+1) (by omega) (by omega)
theorem ql{k:vG}{g:Nat}(C:wX P g k){ds:List D}{a:Array Value}(e:a.size=ds.length){imm:Nat→Nat→Prop}(r:∀(i:Nat)(x:D)(u:Value),ds[i]? =some x→a[i]? =some u→DRep imm w x u){d:D}(f:zs k ds=some d):
    ∃v,(callFunc g a).run P w= .ok (.value v) w∧DRep imm w d v:=by
 obtain⟨fn,H,h2,z,A,F⟩:=C;unfold zs at f;split at f
 ·rename_i s c
  simp only[xA]at f;subst f;have y:a[0]? =some (a[0]'(by simp at e;omega)):=xF _;have J:a[1]? =some (a[1]'(by simp at e;omega)):=xF _;have p:=r 0 _ _ rfl y;have t:=r 1 _ _ rfl J
  have n:a= #[a[0]'(by simp at e;omega),a[1]'(by simp at e;omega)]:=by
   apply Array.ext
   ·simpa using e
   ·intro i I m
    match i with
    |0=>rfl
    |1=>rfl
    |i+2=>simp at m;omega
  generalize a[0]'(by simp at e;omega)=L at n p;generalize a[1]'(by simp at e;omega)=K at n t;subst n;cases p with
  |str _ b o=>
  subst o;cases t;refine⟨_, ?_, .int .i64 _⟩;rw[run_callFunc_indexByte H h2 z A F,run_indexByte_string];simp only[Result.andThen_ok];congr 3;unfold firstIdx;have:=i8 b.data.toList c.toNat.toUInt8 b.size 0 (by simp) (by simp);rw[yX]at this;rw[←this,ye]
  have E:(fun i:Nat=>b[i]! ==c.toNat.toUInt8)=(fun j:Nat=>b.data.toList[j]! ==c.toNat.toUInt8):=by
   funext j
   have:b[j]! =b.data.toList[j]! :=by
    by_cases l:j<b.size
    ·rw[getElem!_pos b j l,getElem!_pos b.data.toList j (by simpa using l)]
     simp only[yM];rfl
    ·rw[getElem!_neg b j l,getElem!_neg b.data.toList j (by simpa using l)]
   rw[this]
  rw[E];generalize List.find? _ _=q;cases q<;>rfl
 ·cases f
theorem lG(W:eu P)(u:HR G B w0 I0 h w){cfg:d0}{i k:Nat}{c:Call}{ty:TypeId}{J:Operand→AV}{ρ:Operand→Value}(o:∀x,Rep G w (J x) (ρ x)){out:Out}(j:aK P cfg i c J h k=some out)(M:tv P out.ob):
    rD P B w0 I0 G h w out ((do let d ←resolve ρ c ty;invoke d.target d.args:Sem Next).run P w):=by
 have arr:∀{U:Type}(a:Array U)(l:List U),a.toList=l→a=l.toArray:=fun a l e=>by rw[←e]
 unfold aK at j;split at j
 ·rename_i m
  rw[b4 c .len ty ρ m];split at j
  ·rename_i x t b z
   rw[arr _ _ b,arr _ _ z,show Array.map ρ [x].toArray= #[ρ x]from by simp];split at j
   ·rename_i X v0 Q
    obtain⟨_,F,v,p,A⟩:=lC (P:=P) u (by rw[←Q];exact o x) j;exact aA u (s:=Builtin.len_ #[t] ty #[ρ x]) (p ty) F A
   ·obtain⟨_,F,v,p,A⟩:=o0 (P:=P) (o x) j
    exact aA u (s:=Builtin.len_ #[t] ty #[ρ x]) (p ty) F A
  ·cases j
 ·rename_i m
  rw[b4 c .min ty ρ m];split at j
  ·rename_i x y b
   obtain⟨_,F,v,p,A⟩:=gg (P:=P) (o x) (o y) j;rw[arr _ _ b,show Array.map ρ [x,y].toArray= #[ρ x,ρ y]from by simp];exact aA u (s:=Builtin.min_ c.argTypes ty #[ρ x,ρ y]) (by simpa using p c.argTypes ty) F A
  ·cases j
 ·rename_i m
  rw[b4 c .max ty ρ m];split at j
  ·rename_i x y b
   obtain⟨_,F,v,p,A⟩:=gg (P:=P) (o x) (o y) j;rw[arr _ _ b,show Array.map ρ [x,y].toArray= #[ρ x,ρ y]from by simp];exact aA u (s:=Builtin.max_ c.argTypes ty #[ρ x,ρ y]) (by simpa using p c.argTypes ty) F A
  ·cases j
 ·rename_i m
  rw[b4 c .append ty ρ m];split at j
  ·rename_i s x t N b z
   split at j
   ·rename_i E
    rw[arr _ _ b,arr _ _ z,show Array.map ρ [s,x].toArray= #[ρ s,ρ x]from by simp];split at j
    ·rename_i I K
     simp only[xA]at j;subst j;exact bW (s:=Builtin.append_ #[t,N] ty #[ρ s,ρ x]) (kH u E (o s) (o x) K).2
    ·split at j
     ·rename_i I K
      simp only[xA]at j;subst j;exact bW (s:=Builtin.append_ #[t,N] ty #[ρ s,ρ x]) (kI u E (o s) (o x) K).2
     ·exact bW (s:=Builtin.append_ #[t,N] ty #[ρ s,ρ x]) (kJ u E (o s) (o x) j).2
   ·cases j
  ·cases j
 ·rename_i m
  rw[b4 c .unsafeSliceData ty ρ m];split at j
  ·rename_i x b
   simp only[xB]at j;obtain⟨y,Y,rfl⟩:=j;rw[arr _ _ b,show Array.map ρ [x].toArray= #[ρ x]from by simp];obtain⟨v,p,A⟩:=i5 (P:=P) (o x) Y c.argTypes ty;exact aA u (s:=Builtin.unsafeSliceData_ c.argTypes ty #[ρ x]) p rfl A
  ·cases j
 ·rename_i m
  rw[b4 c .unsafeString ty ρ m];split at j
  ·rename_i x n pt it b z
   rw[arr _ _ b,arr _ _ z,show Array.map ρ [x,n].toArray= #[ρ x,ρ n]from by simp];exact bW (s:=Builtin.unsafeString_ #[pt,it] ty #[ρ x,ρ n]) (gh u (o x) (o n) j).2
  ·cases j
 ·rename_i f m
  split at j
  ·rename_i g V Z
   obtain⟨vs,C,r,q⟩:=ff (P:=P) (w:=w) (ty:=ty) o m Z;split at j
   ·rename_i D
    split at j
    ·rename_i x R
     simp only[xA]at j;subst j;rw[R]at C r;obtain⟨fn,h1,h2,h3,h4,h5⟩:=W g _ D
     have b:∃v,c.args.map ρ ++vs= #[v]:=by
      have:(c.args.map ρ ++vs).size=1:=C
      exact⟨(c.args.map ρ ++vs)[0],by apply Array.ext; · simpa using this
                                      ·intro i hi1 O
                                       have:i=0:=by simp at O;omega
                                       subst this;rfl⟩
     obtain⟨v,A⟩:=b;rw[A]at r q;refine .inl (Good.pure u (v:=v) ?_ rfl (r 0 x v rfl rfl));rw[q,run_callFunc_extern h1 h2 h3 h4 h5];rfl
    ·cases j
   ·rename_i X _ D
    split at j
    ·rename_i ds S
     simp only[xB]at j;obtain⟨d,hd,rfl⟩:=j;obtain⟨t1,t2⟩:=lm S C r;obtain⟨v,L,T⟩:=ql (W g X D) t1 t2 hd;refine .inl (Good.pure u (v:=v) ?_ rfl (.d T));rw[q];exact L
    ·cases j
   ·obtain⟨hc,H⟩:=nT u C r j M
    exact .inr ⟨g,c.args.map ρ ++vs,by rw[q];exact b9 hc _ w,H⟩
  ·cases j
 ·cases j
theorem qm(U:eu P)(z:HR G B w0 I0 h w){cfg:d0}{i:Nat}{o:Oper}{I:Operand→AV}{ρ:Operand→Value}(n:∀x,Rep G w (I x) (ρ x)){out:Out}(s:aX P cfg i o I h=some out)(hob:tv P out.ob):
    rD P B w0 I0 G h w out ((execOp ρ o).run P w):=by
 have J:∀(M:Array (Nat×Operand)),(M.map fun p=>(p.1,ρ p.2)).size=(M.toList.map fun p=>(p.1,I p.2)).length∧
     ∀(i:Nat)(p:Nat×AV)(q:Nat×Value),(M.toList.map fun p=>(p.1,I p.2))[i]? =some p→(M.map fun p=>(p.1,ρ p.2))[i]? =some q→p.1=q.1∧Rep G w p.2 q.2:=by
  intro M;refine⟨by simp,fun i p q hp hq=> ?_⟩;simp only[xK,xX,xB]at hp;simp only[yb,xB]at hq;obtain⟨a,R,rfl⟩:=hp;obtain⟨b,E,rfl⟩:=hq;rw[R]at E;simp only[xA]at E;subst E;exact⟨rfl,n _⟩
 have C:∀(x:Option Operand),(∀y,x.map I=some y→∃v,x.map ρ=some v∧Rep G w y v)∧(x.map I=none→x.map ρ=none):=by
  intro x;cases x with
  |none=>exact⟨fun y O=>by simp at O,fun _=>rfl⟩
  |some x=>exact⟨fun y O=>by simp at O;subst O;exact⟨_,rfl,n x⟩,fun hn=>by simp at hn⟩
 unfold aX at s;unfold execOp;split at s
 ·rename_i x g;rw[g]
  simp only[xA]at s;subst s;exact .inl (Good.pure z rfl rfl (n x))
 ·rename_i x g;rw[g]
  simp only[xA]at s;subst s;exact .inl (Good.pure z rfl rfl (n x))
 ·rename_i c a b g;rw[g]
  split at s
  ·rename_i t hc
   simp only[xA]at s;subst s;have V:=n c;rw[hc]at V;cases V with
   |d Z=>
    generalize hvc:ρ c=vc at Z;cases Z;refine .inl (Good.pure z (v:=if t=true then ρ a else ρ b) (by simp[hvc,asBool]) rfl ?_);cases t
    ·exact n b
    ·exact n a
  ·cases s
 ·rename_i t g;rw[g]
  exact bW (lr z _ s).2
 ·rename_i t x g;rw[g]
  exact bW (nM z _ (n x) s).2
 ·rename_i t x g;rw[g]
  simp only[xB]at s;obtain⟨y,O,rfl⟩:=s;obtain⟨v,e,A⟩:=i6 (P:=P) (n x) O;exact aA z e rfl A
 ·rename_i x xT t ok g;rw[g]
  simp only[xB]at s;obtain⟨y,O,rfl⟩:=s;obtain⟨v,e,A⟩:=ly (P:=P) (xT:=xT) (n x) O;exact aA z e rfl A
 ·rename_i t M g;rw[g]
  obtain⟨N,h2⟩:=J M
  obtain⟨_,H,v,e,A⟩:=mO s (by rw[xV];exact N) (fun i p q hp hq=>by
   simp only[xK,xB]at hp;obtain⟨p',hp',rfl⟩:=hp;have:=h2 i p' q (by simpa only[xK,xB]using hp') hq;exact⟨this.1,this.2.frz⟩)
  exact aA z e H A
 ·rename_i t len M g;rw[g]
  obtain⟨N,h2⟩:=J M;exact bW (ip z s N h2).2
 ·rename_i t a g;rw[g]
  obtain⟨v,e,H,_,A⟩:=fw z (n a) s;exact aA z e H A
 ·rename_i t a x g;rw[g]
  obtain⟨_,F,W,e,N,h2⟩:=mP z (n a) (n x) s;exact .inl ⟨undef,W,G, .inr ⟨by simp[e],rfl⟩,N,h2,by rw[F];exact .junk _⟩
 ·rename_i x g;rw[g]
  split at s
  ·rename_i k v j off sz0 U
   simp only[xA]at s;subst s;have D:=n x;rw[U]at D
   obtain⟨a,R⟩:∃a,ρ x= .pointer (some a):=by
    generalize ρ x=vx at D;cases D;exact⟨_,rfl⟩
   exact .inl (Good.pure z (v:=ρ x) (by simp[R]) rfl D)
  ·rename_i cs U
   simp only[xA]at s;subst s;have D:=n x;rw[U]at D
   obtain⟨a,R⟩:∃a,ρ x= .pointer (some a):=by
    generalize ρ x=vx at D;cases D with|d Z=>cases Z;exact⟨_,rfl⟩
   exact .inl (Good.pure z (v:=ρ x) (by simp[R]) rfl D)
  ·cases s
 ·rename_i op t x y yt g;rw[g]
  split at s
  ·rename_i r E
   simp only[xA]at s;subst s;obtain⟨v,Y,e,A⟩:=oX (P:=P) (t:=t) (n x) (n y) E;exact .inl (Good.pure z (v:=v) (by simp[Y x y,e]) rfl A)
  ·split at s
   ·simp only[xB]at s
    obtain⟨b,E,rfl⟩:=s;obtain⟨Y,e⟩:=kk (op:= .eql) (n x) (n y) E (.inl rfl);exact .inl (Good.pure z (v:= .bool b) (by simp[Y,e]) rfl (.d (.bool _)))
   ·simp only[xB]at s
    obtain⟨b,E,rfl⟩:=s;obtain⟨Y,e⟩:=kk (op:= .neq) (n x) (n y) E (.inr rfl);exact .inl (Good.pure z (v:= .bool (!b)) (by simp[Y,e]) rfl (.d (.bool _)))
   ·cases s
 ·rename_i op t x g;rw[g]
  simp only[xB]at s;obtain⟨r,E,rfl⟩:=s;obtain⟨v,e,A⟩:=qh (P:=P) (n x) E;exact aA z e rfl A
 ·rename_i src dst x g;rw[g]
  unfold lh at s;split at s
  ·rename_i T K
   simp only[xA]at s;subst s;exact bW (i7 z (n x) K).2
  split at s
  ·rename_i v0 hv0
   simp only[xA]at s;subst s;obtain⟨v,e,A⟩:=kM (n x) hv0;exact aA z e rfl A
  split at s
  ·rename_i r E
   simp only[xA]at s;subst s;obtain⟨v,e,A⟩:=kG (P:=P) (n x) E;exact aA z e rfl A
  split at s
  ·rename_i T K
   simp only[xA]at s;subst s;exact bW (jN z (n x) K).2
  ·obtain⟨H,v,e,A⟩:=kL z (n x) s
   exact aA z e H A
 ·rename_i f first S g;rw[g]
  split at s
  ·rename_i hfe
   simp only[xA]at s;subst s;have hf0:first= #[]:=by simpa using hfe
   subst hf0;refine aA z (v:= .func (.func f) #[] (S.map ρ)) (by simp[Instr.makeFunc]) rfl (.fn f _ _ (by simp) (fun i c u hc X=> ?_));simp only[xK,xX,xB]at hc;simp only[yb,xB]at X;obtain⟨a,R,rfl⟩:=hc;obtain⟨b,E,rfl⟩:=X;rw[R]at E;simp only[xA]at E;subst E;exact n a
  ·cases s
 ·rename_i t l c g;rw[g]
  exact bW (i4 z (n l) (n c) s).2
 ·rename_i t x lo hi mx g;rw[g]
  obtain⟨_,H,v,e,A⟩:=mR (n x) (C lo).1 (C lo).2 (C hi).1 (C hi).2 (C mx).1 (C mx).2 s;exact aA z e H A
 ·rename_i t x f g;rw[g]
  obtain⟨_,H,v,e,A⟩:=i3 z (n x) s;exact aA z e H A
 ·rename_i t x f g;rw[g]
  obtain⟨_,H,v,e,A⟩:=mQ (P:=P) (n x) s;exact aA z e H A
 ·rename_i t x L g;rw[g]
  obtain⟨_,H,v,e,A⟩:=iY z (n x) (n L) s;exact aA z e H A
 ·rename_i t g;rw[g]
  exact bW (kK z s).2
 ·rename_i t m k x g;rw[g]
  obtain⟨_,F,W,e,N,h2⟩:=eO z (n m) (n k) (n x) s;exact .inl ⟨undef,W,G, .inr ⟨by simp[e],rfl⟩,N,h2,by rw[F];exact .junk _⟩
 ·rename_i t m k x g;rw[g]
  obtain⟨_,F,W,e,N,h2⟩:=eO z (n m) (n k) (n x) s;exact .inl ⟨undef,W,G, .inr ⟨by simp[e],rfl⟩,N,h2,by rw[F];exact .junk _⟩
 ·rename_i t m k ok g;rw[g]
  obtain⟨_,H,v,e,A⟩:=lB z (n m) (n k) s;exact aA z e H A
 ·rename_i t x L g;rw[g]
  simp only[xB]at s;obtain⟨r,E,rfl⟩:=s;obtain⟨v,e,A⟩:=mS (P:=P) (n x) (n L) E;exact aA z e rfl A
 ·rename_i t L g;rw[g]
  split at s
  ·rename_i vs ht
   simp only[xB]at s;obtain⟨v,A,rfl⟩:=s;have Q:=n t;rw[ht]at Q;generalize hvt:ρ t=vt at Q;cases Q with
   |tup _ us hl hh=>
    have hlt:L<us.size:=by rw[hl];exact(xD.1 A).1
    have X:us[L]? =some us[L]:=xF hlt;exact aA z (v:=us[L]) (by simp[Instr.extract,hvt,X]) rfl (hh L v _ A X)
  ·cases s
 ·rename_i c g;rw[g]
  exact lG U z n s hob
 ·cases s
theorem k3{N:Nat}{D:List Deferred}{n:Array Oper}{o:Oper}{S:Nat→AV}{a:Act}(m:FR G w N D S a){b:Bool}(c:bK n o S=some b):Region.wanted o (yielded n a.tmps)=b:=by
 unfold bK at c;unfold Region.wanted;split at c
 ·simp only[xA]at c;rename_i q;rw[q];exact c
 ·rename_i j i q
  rw[q];split at c
  ·rename_i t r
   split at c
   ·rename_i s l
    simp only[xA]at c
    have f:t<N:=by
     rcases y9 t N with k|k
     ·exact k
     ·have:=m.out t k;rw[this]at l;cases l
    have g:=m.rep t f;rw[l]at g
    have p:a.tmps[t]? =some (.bool s):=by
     have e:t<a.tmps.size:=by rw[m.size];exact f
     rw[xb,xF e,yj]at g;rw[xF e];generalize a.tmps[t]=v at g;cases g with|d x=>cases x;rfl
    simp only[yielded,r,xh,p];rw[←c];cases s<;>cases i<;>rfl
   ·rename_i l
    simp only[xA]at c
    have f:t<N:=by
     rcases y9 t N with k|k
     ·exact k
     ·have:=m.out t k;rw[this]at l;cases l
    have g:=m.rep t f;rw[l]at g
    have p:a.tmps[t]? =some (.tuple #[]):=by
     have e:t<a.tmps.size:=by rw[m.size];exact f
     rw[xb,xF e,yj]at g;rw[xF e];generalize a.tmps[t]=v at g;cases g with
     |tup _ vs u _=>
      have:vs= #[]:=by simpa using u
      rw[this]
    simp only[yielded,r,xh,p];rw[←c];cases i<;>rfl
   ·cases c
  ·cases c
theorem nU{f:FuncId}{a:Array Value}{R:Ending→World→Prop}(r:Option Nat)(n:Nat)(h:Calls P f a w R):CallsIn (FF r) n P f a w R:=by
 have h':=(callsIn_wide (n:=n)).2 h;cases r with
 |none=>exact h'
 |some l=>exact CallsIn.inRound l h'
theorem lH{cfg:d0}{i:Nat}{o:Oper}{ρ:Operand→AV}{out:Out}(a:aX P cfg i o ρ h=some out):∀c,o.op≠ .defer c:=fun c e=>by
 unfold aX at a;rw[e]at a;cases a
theorem lI{o:Oper}{a:Act}{v:Value}{d:World}{next:Act→World→Prop}{Q:Exit→Act→World→Prop}(r:Option Nat)(n:Nat)(f:∀c,o.op≠ .defer c)(b:(execOp a.eval o).run P w= .ok (.value v) d)(e:next (a.put o.dst v) d):o.wpIn (FF r) n P a w next Q:=
 ⟨fun _ _=>trivial,by rw[Oper.semAt_eq _ _ _ f,b];exact e⟩
theorem qn{o:Oper}{a:Act}{d:World}{next:Act→World→Prop}{Q:Exit→Act→World→Prop}(r:Option Nat)(n:Nat)(f:∀c,o.op≠ .defer c)(b:(execOp a.eval o).run P w= .ok .skip d)(e:next (a.put o.dst undef) d):o.wpIn (FF r) n P a w next Q:=
 ⟨fun _ _=>trivial,by rw[Oper.semAt_eq _ _ _ f,b];exact e⟩
theorem fy{o:Oper}{a:Act}{f:FuncId}{b:Array Value}{j:World}{next:Act→World→Prop}{Q:Exit→Act→World→Prop}{R:Ending→World→Prop}(r:Option Nat)(n:Nat)(m:∀c,o.op≠ .defer c)(g:(execOp a.eval o).run P w= .ok (.enter f b) j)
    (d:Calls P f b j R) (k:∀e i,R e i→∃v,e= .returned v∧next (a.put o.dst v) i):o.wpIn (FF r) n P a w next Q:=
 ⟨fun _ _=>trivial,by
  rw[Oper.semAt_eq _ _ _ m,g,Oper.uponIn_enter];refine⟨fun x=>(by cases x),(nU r (n-1) d).mono ?_⟩;intro e i l;obtain⟨v,rfl,h⟩:=k e i l;exact h⟩
theorem qo{o:Oper}{a:Act}{l f:Nat}{b:Array Value}{Fx m:Code}{k:World}{next:Act→World→Prop}{Q:Exit→Act→World→Prop}{R:Ending→World→Prop}(r:Option Nat)(n:Nat)(p:∀c,o.op≠ .defer c)(i:(execOp a.eval o).run P w= .ok (.round l f b Fx m) k)
    (g:RoundIn (FF r) 0 P l f b Fx m k R) (q:∀e j,R e j→∃v,e= .returned v∧next (a.put o.dst v) j):o.wpIn (FF r) n P a w next Q:=
 ⟨fun _ _=>trivial,by
  rw[Oper.semAt_eq _ _ _ p,i,Oper.uponIn_round];refine⟨fun x=>(by cases x), ?_⟩;have h2:RoundIn (FF r) (n-1) P l f b Fx m k R:=⟨g.1,fun c cs _=>g.2 c cs (fun d p=>by cases p)⟩
  refine h2.mono ?_;intro e j s;obtain⟨v,rfl,h⟩:=q e j s;exact h⟩
theorem qp{c:Call}{ty:TypeId}{e:Operand→AV}{ρ:Operand→Value}(l:∀x,Rep G w (e x) (ρ x)){f:Operand}(m:c.callee= .value f){k v:Nat}(s:e f= .yld k v):
    ∃b,G.mloc k v=some b∧(c.args.map ρ).size=(c.args.toList.map e).length∧
     (∀(i:Nat)(x:AV)(u:Value),(c.args.toList.map e)[i]? =some x→(c.args.map ρ)[i]? =some u→Rep G w x u)∧
     (do let d ←resolve ρ c ty;invoke d.target d.args:Sem Next).run P w=(Instr.yield b (c.args.map ρ)).run P w:=by
 have g:=l f;rw[s]at g
 obtain⟨b,n,j⟩:∃b,ρ f= .func (.yield b) #[] #[]∧G.mloc k v=some b:=by
  generalize ρ f=t at g;cases g with
  |yld _ _ b j=>exact⟨b,rfl,j⟩
 refine⟨b,j,by simp,fun i x u o p=> ?_, ?_⟩
 ·simp only[xK,xX,xB]at o
  simp only[yb,xB]at p;obtain⟨a,r,rfl⟩:=o;obtain⟨b,j,rfl⟩:=p;rw[r]at j;simp only[xA]at j;subst j;exact l a
 ·have q:resolve ρ c ty=pure {target:= .fn (.yield b) #[],args:= #[] ++c.args.map ρ}:=by
    simp only[resolve,m,n,Deferred.ofValue]
  rw[q,pure_bind];simp[invoke]
theorem c8{S S':St}{D:List Deferred}(hx:eu P)(I:HR G B w0 I0 S.heap w){cfg:d0}{N i:Nat}{X:Array Oper}{o:Oper}{a:Act}(C:FR G w N D S.env a){ob:List Obl}{ft:Foot}
    (q:aV P cfg N X i o S=some (S',ob,ft)) (H:dg P ob) {next:Act→World→Prop} {Q:Exit→Act→World→Prop} (r:Option Nat) (n:Nat)
    (p:∀a' M R,Ext G w R M→HR R B w0 I0 S'.heap M→FR R M N D S'.env a'→next a' M):
    if Region.wanted o (yielded X a.tmps)then o.wpIn (FF r) n P a w next Q else (∀f,o.about P w a.eval=some f→(FF r).fn f)∧next (a.put o.dst undef) w:=by
 unfold aV at q;split at q
 ·rename_i hw
  rw[xW (k3 C hw)];split at q
  ·rename_i W h' tk V
   split at q;case isFalse=>cases q
   split at q
   ·rename_i g u d
    simp only[xB,xC]at q;obtain⟨env,hp,rfl,rfl,rfl⟩:=q;obtain⟨K,j⟩:=H _ (xH.2 rfl);unfold bV at d;split at d
    ·rename_i c y
     split at d
     ·rename_i f t
      split at d
      ·rename_i Z T E
       simp only[xA,xC]at d;obtain⟨rfl,rfl⟩:=d;obtain⟨vs,A,s,m⟩:=ff (P:=P) (ty:=o.type) (ρ:=a.eval) (fun x=>C.opd I.maps.glob x) t E
       have l:(execOp a.eval o).run P w= .ok (.enter Z (c.args.map a.eval ++vs)) w:=by
        unfold execOp;rw[y];exact m.trans (b9 K _ w)
       refine fy r n (fun c e=>by rw[y]at e;cases e) l (j G B w0 I0 w _ I A s) ?_;rintro e M ⟨v,R,rfl,z,h2,L⟩;exact⟨v,rfl,p _ _ _ z h2 ((C.mono z).put hp L)⟩
      ·cases d
     ·cases d
    ·cases d
   ·split at q
    ·rename_i k v u d
     simp only[xB,xC]at q;obtain⟨env,hp,rfl,rfl,rfl⟩:=q;have j:o7 P k v u S.heap W h':=H _ (xH.2 rfl);unfold iU at d;split at d
     ·rename_i c y
      split at d
      ·rename_i f t
       split at d
       ·rename_i k' v' E
        simp only[xA,xC]at d;obtain⟨rfl,rfl,rfl⟩:=d;obtain⟨b,hb,A,s,m⟩:=qp (P:=P) (ty:=o.type) (ρ:=a.eval) (fun x=>C.opd I.maps.glob x) t E;obtain⟨f',Y,Fx,bd,hy,O⟩:=j G B w0 I0 w _ I A s b hb
        have l:(execOp a.eval o).run P w= .ok (.round b f' Y Fx bd) w:=by
         unfold execOp;rw[y];exact m.trans hy
        refine qo r n (fun c e=>by rw[y]at e;cases e) l (O r) ?_;rintro e M ⟨v,R,rfl,z,h2,L⟩;exact⟨v,rfl,p _ _ _ z h2 ((C.mono z).put hp L)⟩
       ·cases d
      ·cases d
     ·cases d
    ·cases q
  ·rename_i U W J V
   split at q
   ·rename_i g u d
    split at q;case isFalse=>cases q
    rename_i F;simp only[xB,xC]at q;obtain⟨env,hp,rfl,rfl,rfl⟩:=q;obtain⟨K,j⟩:=(show ∀h,gS h U→az P g u h W (af J h)from H _ (xH.2 rfl)) S.heap F;rw[←qk]at j;unfold bV at d;split at d
    ·rename_i c y
     split at d
     ·rename_i f t
      split at d
      ·rename_i Z T E
       simp only[xA,xC]at d;obtain⟨rfl,rfl⟩:=d;obtain⟨vs,A,s,m⟩:=ff (P:=P) (ty:=o.type) (ρ:=a.eval) (fun x=>C.opd I.maps.glob x) t E
       have l:(execOp a.eval o).run P w= .ok (.enter Z (c.args.map a.eval ++vs)) w:=by
        unfold execOp;rw[y];exact m.trans (b9 K _ w)
       refine fy r n (fun c e=>by rw[y]at e;cases e) l (j G B w0 I0 w _ I A s) ?_;rintro e M ⟨v,R,rfl,z,h2,L⟩;exact⟨v,rfl,p _ _ _ z h2 ((C.mono z).put hp L)⟩
      ·cases d
     ·cases d
    ·cases d
   ·cases q
  ·rename_i U h0 W J z V
   split at q
   ·rename_i g u d
    split at q;case isFalse=>cases q
    rename_i F;simp only[xB,xC]at q;obtain⟨env,hp,rfl,rfl,rfl⟩:=q;obtain⟨K,j⟩:=(show ∀h,(∀k∈U,h k=h0 k)→az P g u h W (ae h (dL J z))from H _ (xH.2 rfl)) S.heap F;unfold bV at d;split at d
    ·rename_i c y
     split at d
     ·rename_i f t
      split at d
      ·rename_i Z T E
       simp only[xA,xC]at d;obtain⟨rfl,rfl⟩:=d;obtain⟨vs,A,s,m⟩:=ff (P:=P) (ty:=o.type) (ρ:=a.eval) (fun x=>C.opd I.maps.glob x) t E
       have l:(execOp a.eval o).run P w= .ok (.enter Z (c.args.map a.eval ++vs)) w:=by
        unfold execOp;rw[y];exact m.trans (b9 K _ w)
       refine fy r n (fun c e=>by rw[y]at e;cases e) l (j G B w0 I0 w _ I A s) ?_;rintro e M ⟨v,R,rfl,e1,e2,e3⟩;exact⟨v,rfl,p _ _ _ e1 e2 ((C.mono e1).put hp e3)⟩
      ·cases d
     ·cases d
    ·cases d
   ·cases q
  split at q
  ·rename_i out hc
   simp only[xB,xC]at q;obtain⟨env,hp,rfl,rfl,rfl⟩:=q;have hl:=qm hx I (fun x=>C.opd I.maps.glob x) hc (fun c hc=>H _ (y7 hc));have hd:=lH hc;rcases hl with ⟨v,M,R,l|⟨l,rfl⟩,z,h2,L⟩|⟨f,u,l,j⟩
   ·exact lI r n hd l (p _ _ _ z h2 ((C.mono z).put hp L))
   ·exact qn r n hd l (p _ _ _ z h2 ((C.mono z).put hp L))
   ·refine fy r n hd l j ?_
    rintro e M ⟨v,R,rfl,z,h2,L⟩;exact⟨v,rfl,p _ _ _ z h2 ((C.mono z).put hp L)⟩
  ·cases q
 ·rename_i hw
  rw[xi (by rw[k3 C hw];simp)];simp only[xB,xC]at q;obtain⟨env,hp,rfl,rfl,rfl⟩:=q;exact⟨fun _ _=>trivial,p _ _ _ (Ext.refl G w) I (C.put hp (.tup [] #[] rfl (by simp)))⟩
 ·cases q
theorem iw{D:List Deferred}(u:eu P)(r:Option Nat)(n:Nat){cfg:d0}{N:Nat}{f:Array Oper}{Q:Exit→Act→World→Prop}:∀(l:List Nat){G:Gh}{w:World}{S S':St}{a:Act}{ob:List Obl}{fts:List Foot},
    HR G B w0 I0 S.heap w→FR G w N D S.env a→bP P cfg N f l S=some (S',ob,fts)→dg P ob→
    (∀m e g,Ext G w g e→HR g B w0 I0 S'.heap e→FR g e N D S'.env m→Q .normal m e)→wpOpsIn (FF r) n P f Q l a w
 |[],G,w,S,S',a,ob,fts,q,j,b,d,p=>by
  simp only[bP,xA,xC]at b;obtain⟨rfl,_,_⟩:=b;exact p a w G (Ext.refl G w) q j
 |i::I,G,w,S,S',a,ob,fts,q,j,b,d,p=>by
  simp only[bP]at b;split at b
  ·cases b
  ·rename_i o H
   split at b
   ·cases b
   ·rename_i v k
    split at b
    ·cases b
    ·rename_i L t
     simp only[xA,xC]at b;obtain⟨rfl,rfl,rfl⟩:=b;obtain⟨S1,M,J⟩:=v;obtain⟨T,E,x⟩:=L;rw[wpOpsIn_cons];unfold wpOpIn;simp only[H]
     exact c8 u q j k (fun c s=>d c (x0 _ s)) r n (fun m e g K h2 A=>
      iw u r n I h2 A t (fun c s=>d c (xc _ s)) (fun z C O F y R=>p z C O (K.trans F) y R))
end
end Go.Avm
namespace Go.Avm
open Go.RowKit
variable[ap]
section
variable{P:Program}{h h':aa}
theorem gj{f g:AV→Option (D×List Nat)}:∀{l:List AV}{r:List D×List Nat},cN f l=some r→(∀x y,f x=some y→(∀k∈y.2,h' k=h k)→g x=some y)→(∀k∈r.2,h' k=h k)→cN g l=some r
 |[],r,d,_,_=>by simpa [cN]using d
 |x::l,r,d,i,e=>by
  simp only[cN]at d ⊢;split at d
  ·rename_i a b m n
   simp only[xA]at d;subst d;have j:=i x a m (fun k c=>e k (x0 _ c));have h2:=gj (g:=g) n i (fun k c=>e k (xc _ c));simp only[j,h2]
  ·cases d
theorem lJ:∀(n:Nat)(x:AV)(r:D×List Nat),view n h x=some r→(∀k∈r.2,h' k=h k)→view n h' x=some r
 |0,x,r,e,_=>by simp[view]at e
 |n+1,x,r,e,g=>by
  have A:=lJ n;have go:∀{l:List AV}{q:List D×List Nat},cN (view n h) l=some q→(∀k∈q.2,h' k=h k)→cN (view n h') l=some q:=fun f g=>gj f (fun x y w u=>A x y w u) g
  cases x with
  |sl k v p z o=>
   simp only[view]at e ⊢;split at e
   ·rename_i sz es s
    split at e
    ·rename_i t
     simp only[xB]at e;obtain⟨q,f,rfl⟩:=e;have m:h' k=h k:=g k (by simp);have:=go f (fun k j=>g k (by simp[j]));simp[m,s,t,this]
    ·cases e
   ·cases e
  |ptr k v i p o=>
   simp only[view]at e ⊢;split at e
   ·rename_i sz es s
    split at e
    ·rename_i t
     simp only[xB]at e;obtain⟨q,f,rfl⟩:=e;have m:h' k=h k:=g k (by simp);have:=go f (fun k j=>g k (by simp[j]));simp[m,s,t,this]
    ·cases e
   ·cases e
  |agg cs=>
   simp only[view,xB]at e ⊢;obtain⟨q,f,rfl⟩:=e;exact⟨q,go f g,rfl⟩
  |d y=>simp only[view]at e ⊢;exact e
  |nils=>simp only[view]at e ⊢;exact e
  |es=>simp only[view]at e ⊢;exact e
  |vec a b c l=>simp only[view]at e ⊢;exact e
  |_=>simp[view]at e
theorem lK{n:Nat}{l:List AV}{q:List D×List Nat}(d:view.go n h l=some q)(c:∀k∈q.2,h' k=h k):view.go n h' l=some q:=
 gj d (fun x y a b=>lJ n x y a b) c
theorem qq{ks:List Nat}(b:∀k∈ks,h' k=h k):kill h' ks=kill h ks:=by
 unfold kill;exact yI fun k a=>by rw[b k a]
theorem mT{a:AV}{n:Nat}{r:List AV×List Nat}(b:d7 h a n=some r)(e:∀k∈r.2,h' k=h k):d7 h' a n=some r:=by
 unfold d7 at b ⊢;cases a with
 |ptr k v i f j=>
  simp only at b ⊢;split at b
  ·rename_i sz es g
   have c:h' k=h k:=by
    split at b
    ·split at b
     ·split at b
      ·simp only[xA]at b;subst b;exact e k (by simp)
      ·cases b
     ·split at b
      ·split at b
       ·simp only[xA]at b;subst b;exact e k (by simp)
       ·cases b
      ·cases b
    ·cases b
   rw[c,g];exact b
  ·cases b
 |d y=>cases y<;>first|exact b|(rename_i l;cases l<;>exact b)
 |_=>exact b
theorem i9{t:TypeId}{a:AV}{out:Out}(b:cV P t a h=some out)(c:∀k∈out.rd,h' k=h k):cV P t a h'=some out:=by
 unfold cV at b ⊢;split at b
 ·rename_i g
  simp only[xB]at b ⊢;obtain⟨r,j,rfl⟩:=b;exact⟨r,mT j c,rfl⟩
 ·rename_i g
  cases a with
  |ptr k v i f n=>
   simp only at b ⊢;split at b
   ·rename_i sz es m
    have e:h' k=h k:=by
     split at b
     ·split at b
      ·split at b
       ·simp only[xB]at b;obtain⟨x,_,rfl⟩:=b;exact c k (by simp)
       ·cases b
      ·split at b
       ·simp only[xB]at b;obtain⟨x,_,rfl⟩:=b;exact c k (by simp)
       ·cases b
     ·cases b
    rw[e,m];exact b
   ·cases b
  |d y=>cases y<;>first|exact b|(rename_i l;cases l<;>exact b)
  |_=>exact b
 ·cases b
theorem da{f:aa→Option Out}{k:Nat}{out:Out}(b:∀h h':aa,h' k=h k→f h'=f h)(a:k∈out.rd)(c:f h=some out)(d:∀k∈out.rd,h' k=h k):f h'=some out:=by
 rw[b h h' (d k a)];exact c
theorem mU{t:TypeId}{a x:AV}{out:Out}(b:cw P t a x h=some out)(l:∀k∈out.rd,h' k=h k):cw P t a x h'=some out:=by
 have d:=b;unfold cw at b;cases a with
 |ptr k v i c j=>
  have g:k∈out.rd:=by
   simp only at b;repeat' split at b
   all_goals first|(cases b;done)|(simp only[xA]at b;subst b;simp)
  refine da (f:=fun h=>cw P t (.ptr k v i c j) x h) (k:=k) (fun h h' e=> ?_) g d l;simp only[cw,e]
 |_=>simp at b
theorem mV{t:TypeId}{k:Nat}{out:Out}(a:di P t k h=some out)(c:∀k∈out.rd,h' k=h k):di P t k h'=some out:=by
 have b:k∈out.rd:=by
  unfold di at a;split at a
  ·simp only[xA]at a;subst a;simp
  ·cases a
 exact da (f:=fun h=>di P t k h) (fun h h' e=>by simp only[di,newOb,e]) b a c
theorem o9{x:AV}{k:Nat}{out:Out}(a:fT x k h=some out)(c:∀k∈out.rd,h' k=h k):fT x k h'=some out:=by
 have b:k∈out.rd:=by
  unfold fT at a;split at a
  ·simp only[xA]at a;subst a;simp
  ·cases a
 exact da (f:=fun h=>fT x k h) (fun h h' e=>by simp only[fT,newOb,e]) b a c
theorem ja{t:TypeId}{l c:AV}{k:Nat}{out:Out}(a:bI P t l c k h=some out)(d:∀k∈out.rd,h' k=h k):bI P t l c k h'=some out:=by
 have b:k∈out.rd:=by
  unfold bI at a;split at a
  ·split at a
   ·split at a
    ·simp only[xA]at a;subst a;simp
    ·cases a
   ·cases a
  ·cases a
 exact da (f:=fun h=>bI P t l c k h) (fun h h' e=>by simp only[bI,newOb,e]) b a d
theorem kN{k:Nat}{out:Out}(b:c6 k h=some out)(c:∀k∈out.rd,h' k=h k):c6 k h'=some out:=by
 have a:k∈out.rd:=by
  simp only[c6,xA]at b;subst b;simp
 exact da (f:=fun h=>c6 k h) (fun h h' e=>by simp only[c6,e]) a b c
theorem jb{t:TypeId}{m b x:AV}{out:Out}(a:ba P t m b x h=some out)(i:∀k∈out.rd,h' k=h k):ba P t m b x h'=some out:=by
 have c:=a;unfold ba at a;split at a;case h_2=>cases a
 rename_i kt et k v kd l j
 have g:k∈out.rd:=by
  repeat' split at a
  all_goals first|(cases a;done)|(simp only[xA]at a;subst a;simp)
 exact da (f:=fun h=>ba P t (.mp k v) (.d kd) (.d l) h) (k:=k) (fun h h' e=>by simp only[ba,j,e]) g c i
theorem lL{t:TypeId}{m b:AV}{ok:Bool}{out:Out}(a:cO P t m b ok h=some out)(i:∀k∈out.rd,h' k=h k):cO P t m b ok h'=some out:=by
 have c:=a;unfold cO at a;split at a;case h_2=>cases a
 rename_i kt et k v kd j
 have g:k∈out.rd:=by
  repeat' split at a
  all_goals first|(cases a;done)|(simp only[xA]at a;subst a;simp)
 exact da (f:=fun h=>cO P t (.mp k v) (.d kd) ok h) (k:=k) (fun h h' e=>by simp only[cO,j,e]) g c i
theorem lM{t:TypeId}{k v:Nat}{out:Out}(a:dj P t k v h=some out)(d:∀k∈out.rd,h' k=h k):dj P t k v h'=some out:=by
 have c:=a
 have b:k∈out.rd:=by
  unfold dj at a;repeat' split at a
  all_goals first|(cases a;done)|(simp only[xA]at a;subst a;simp)
 exact da (f:=fun h=>dj P t k v h) (k:=k) (fun h h' e=>by simp only[dj,e]) b c d
theorem jO{b dst:TypeId}{x:AV}{out:Out}(a:b7 P b dst x h=some out)(d:∀k∈out.rd,h' k=h k):b7 P b dst x h'=some out:=by
 unfold b7 at a ⊢;split at a;case h_2=>cases a
 split at a;case isFalse=>cases a
 rename_i e;split at a;case h_2=>cases a
 simp only[xA]at a;subst a;have c:=d _ (xH.2 rfl);rw[xW (by rw[c];exact e)];simp only[kill,xI,xg,c]
theorem dS{k v:Nat}(a:h' (fO k)=h (fO k)):iS h' k v=iS h k v:=by
 unfold iS;rw[a]
theorem lN{a dst:TypeId}{x:AV}{out:Out}(c:c4 P a dst x h=some out):∃k v i b sz,x= .ptr k v i b sz:=by
 unfold c4 at c;split at c
 ·exact⟨_,_,_,_,_,rfl⟩
 ·exact⟨_,_,_,_,_,rfl⟩
 ·cases c
theorem kO{b dst:TypeId}{x:AV}(d:∃k v i a sz,x= .ptr k v i a sz):b7 P b dst x h'=none:=by
 obtain⟨k,v,i,a,sz,rfl⟩:=d;unfold b7;split
 ·rename_i c;cases c
 ·rfl
theorem kP{c dst:TypeId}{x:AV}{out:Out}(a:c4 P c dst x h=some out)(d:∀k∈out.rd,h' k=h k):c4 P c dst x h'=some out:=by
 unfold c4 at a ⊢;split at a
 ·split at a
  ·rename_i b
   split at a
   ·rename_i f
    simp only[xA]at a;subst a;have e:=d _ (xx ..);have h2:=d _ (xt _ (xx ..));rw[dS h2,b];simp only[e,xW f]
   ·cases a
  ·cases a
 ·split at a
  ·rename_i b
   split at a
   ·rename_i f
    simp only[xA]at a;subst a;have e:=d _ (xx ..);have h2:=d _ (xt _ (xx ..));rw[dS h2,b];simp only[e,xW f]
   ·cases a
  ·cases a
 ·cases a
theorem gk{d:TypeId}{x n:AV}{out:Out}(a:bT P d x n h=some out)(c:∀k∈out.rd,h' k=h k):bT P d x n h'=some out:=by
 unfold bT at a ⊢;split at a;case h_2=>cases a
 split at a;case h_2=>cases a
 rename_i b f;split at a;case isFalse=>cases a
 rename_i g;simp only[xA]at a;subst a;have e:=c _ (xx ..);have h2:=c _ (xt _ (xx ..));rw[dS h2,b,f];simp only[e,xW g,kill,xI,xg]
theorem ev{typ:Bool}{T:TypeId}{n:Option Nat}{k v:Nat}{b:Out}:∀j∈b.rd,j∈(bk typ T n k v h b).rd:=by
 intro j a;unfold bk;split
 ·exact xt _ a
 ·exact a
theorem eX{typ:Bool}{T:TypeId}{n:Option Nat}{k v:Nat}{a:Out}(b:∀j∈(bk typ T n k v h a).rd,h' j=h j):bk typ T n k v h' a=bk typ T n k v h a:=by
 unfold bk at b ⊢;split
 ·rename_i c
  rw[xW c]at b;rw[b _ (xx ..)]
 ·rfl
theorem lP{typ:Bool}{T t:TypeId}{n:Option Nat}{k:Nat}{out:Out}(e:(di P t k h).map (bk typ T n k ((h k).ver+1) h)=some out)(b:∀k∈out.rd,h' k=h k):(di P t k h').map (bk typ T n k ((h' k).ver+1) h')=some out:=by
 rw[xB]at e ⊢;obtain⟨d,a,rfl⟩:=e
 have c:k∈d.rd:=by
  unfold di at a;split at a
  ·simp only[xA]at a;subst a;simp
  ·cases a
 refine⟨d,mV a (fun j f=>b j (ev j f)), ?_⟩;rw[b k (ev k c)];exact eX b
theorem nV{typ:Bool}{T:TypeId}{n:Option Nat}{x:AV}{k:Nat}{out:Out}(e:(fT x k h).map (bk typ T n k ((h k).ver+1) h)=some out)(b:∀k∈out.rd,h' k=h k):(fT x k h').map (bk typ T n k ((h' k).ver+1) h')=some out:=by
 rw[xB]at e ⊢;obtain⟨d,a,rfl⟩:=e
 have c:k∈d.rd:=by
  unfold fT at a;split at a
  ·simp only[xA]at a;subst a;simp
  ·cases a
 refine⟨d,o9 a (fun j f=>b j (ev j f)), ?_⟩;rw[b k (ev k c)];exact eX b
theorem nW{b dst:TypeId}{x:AV}{out:Out}(a:lh P b dst x h=some out)(d:∀k∈out.rd,h' k=h k):lh P b dst x h'=some out:=by
 unfold lh at a ⊢;split at a
 ·exact a
 split at a
 ·exact a
 split at a
 ·exact a
 split at a
 ·rename_i f c
  simp only[xA]at a;subst a;rw[jO c d]
 ·rename_i e
  have hp:=lN a;rw[show b7 P b dst x h'=none from kO hp,kP a d]
theorem iy{obm:Bool}{t:TypeId}{c:Nat}{j:List (Nat×AV)}{k:Nat}{out:Out}(a:cy P obm t c j k h=some out)(f:∀k∈out.rd,h' k=h k):cy P obm t c j k h'=some out:=by
 unfold cy at a ⊢;split at a
 ·rename_i e q
  split at a
  ·rename_i xs p
   split at a
   ·rename_i n
    split at a
    ·split at a
     ·cases a
     ·rename_i o
      simp only[xA]at a;subst a;have d:h' k=h k:=f k (by simp);simp_all [newOb]
    ·rename_i i
     split at a
     ·rename_i r m
      split at a
      ·cases a
      ·rename_i g
       simp only[xA]at a;subst a;have d:h' k=h k:=f k (by simp);have l:=lK m (fun k b=>f k (by simp[b]));have h2:=qq (h:=h) (h':=h') (ks:=r.2) (fun k b=>f k (by simp[b]));simp only[xW n,l,h2,d,xi i,xi g]
     ·cases a
   ·cases a
  ·cases a
 ·cases a
theorem pa{x:AV}{r:List D×List Nat}(a:en h x=some r)(i:∀k∈r.2,h' k=h k):en h' x=some r:=by
 unfold en at a ⊢;cases x with
 |sl k v g j o=>
  simp only at a ⊢;split at a
  ·rename_i sz es m
   split at a
   ·rename_i n
    simp only[y0]at a;obtain⟨q,f,b⟩:=a;split at b
    ·rename_i e
     simp only[xA]at b;subst b;have c:h' k=h k:=i k (by simp);have:=lK (h':=h') f (by rw[e];simp);simp[c,m,n,this,e]
    ·cases b
   ·cases a
  ·cases a
 |d y=>cases y<;>first|exact a|(rename_i l;cases l<;>exact a)
 |_=>exact a
theorem ew{obm:Bool}{t:TypeId}{s x:AV}{k:Nat}{out:Out}(a:aZ P obm t s x k h=some out)(g:∀k∈out.rd,h' k=h k):aZ P obm t s x k h'=some out:=by
 unfold aZ at a ⊢;split at a
 ·rename_i e B
  split at a
  ·rename_i news r z q p
   split at a
   ·rename_i o
    have f:(∀k∈r,h' k=h k)→en h' x=some (news,r):=fun y=>pa q y
    cases s with
    |nils=>
     simp only at a;split at a
     ·cases a
     ·rename_i d
      split at a
      ·rename_i j
       split at a
       ·cases a
       ·rename_i m
        simp only[xA]at a;subst a;have c:h' k=h k:=g k (by simp);have i:=f (fun k b=>g k (by simp[b]));simp only[i,p,xW o,xi d,xW j,xi m,c,newOb]
      ·rename_i j
       simp only[xA]at a;subst a;have c:h' k=h k:=g k (by simp);have i:=f (fun k b=>g k (by simp[b]));simp only[i,p,xW o,xi d,xi j,c]
    |es=>
     simp only at a;split at a
     ·cases a
     ·rename_i d
      split at a
      ·rename_i j
       split at a
       ·cases a
       ·rename_i m
        simp only[xA]at a;subst a;have c:h' k=h k:=g k (by simp);have i:=f (fun k b=>g k (by simp[b]));simp only[i,p,xW o,xi d,xW j,xi m,c,newOb]
      ·rename_i j
       simp only[xA]at a;subst a;have i:=f g;simp only[i,p,xW o,xi d,xi j]
    |vec n v sz l=>
     simp only at a;split at a
     ·rename_i d
      simp only[xA]at a;subst a;have c:h' n=h n:=g n (by simp);have i:=f (fun k b=>g k (by simp[b]));simp only[i,p,xW o,c,xW d]
     ·cases a
    |sl n v A u w=>
     simp only at a;split at a
     ·rename_i sz es j
      split at a
      ·rename_i d
       simp only[xA]at a;subst a;have c:h' n=h n:=g n (by simp);have i:=f (fun k b=>g k (by simp[b]));simp only[i,p,xW o,c,j,xW d]
      ·cases a
     ·cases a
    |_=>simp at a
   ·cases a
  ·cases a
 ·cases a
theorem kQ{obm:Bool}{t:TypeId}{s x:AV}{k:Nat}{out:Out}(b:bG P obm t s x k h=some out)(i:∀k∈out.rd,h' k=h k):bG P obm t s x k h'=some out:=by
 unfold bG at b ⊢;cases g:aZ P obm t s x k h with
 |none=>simp[g]at b
 |some u=>
  simp only[g]at b;obtain⟨val,w,o,ob⟩:=u;split at b
  ·rename_i e c v sz l f p q
   simp only at q;subst q;split at b
   ·rename_i n
    simp only[xA]at b;subst b;have a:∀j∈c::fO c::o,h' j=h j:=fun j d=>i j (ev j d)
    rw[ew g (fun j d=>a j (by simp[d]))];have m:=a c (by simp);have h2:=eX i;simp only[p,f];rw[xW (by rw[m,dS (a (fO c) (by simp))];exact n),h2]
   ·rename_i n
    simp only[xA]at b;subst b;have a:∀j∈c::fO c::o,h' j=h j:=i;rw[ew g (fun j d=>a j (by simp[d]))];have m:=a c (by simp);simp only[p,f];rw[xi (by rw[m,dS (a (fO c) (by simp))];exact n)]
  ·rename_i r
   simp only[xA]at b;subst b;rw[ew g i];simp only
theorem kR{obm:Bool}{t:TypeId}{s x:AV}{k:Nat}{out:Out}(a:cj P t s x h=some out)(n:∀k∈out.rd,h' k=h k):bG P obm t s x k h'=none∧cj P t s x h'=some out:=by
 have l:=a;unfold cj at a;split at a;case h_2=>cases a
 rename_i e q;split at a;case h_2=>cases a
 rename_i z j v u p A i B b g r C;split at a;case h_2=>cases a
 rename_i sz es y D o c;split at a;case isFalse=>cases a
 rename_i m;simp only[xA]at a;subst a;have w:h' j=h j:=n j (by simp);have h2:h' i=h i:=n i (by simp);have d:b=0:=m.2.2.2.2.2.1;have f:g=1:=m.2.2.2.2.2.2.1;subst d;subst f;refine⟨eo m.2.2.2.2.2.2.2.2.2.2.2.2 (by rw[h2];exact c), ?_⟩;rw[←l];simp only[cj,q,C,w,h2]
theorem kS{obm:Bool}{t:TypeId}{s x:AV}{k:Nat}{out:Out}(a:dy P t s x k h=some out)(m:∀k∈out.rd,h' k=h k):bG P obm t s x k h'=none∧cj P t s x h'=none∧dy P t s x k h'=some out:=by
 have i:=a;unfold dy at a;split at a;case h_2=>cases a
 rename_i e n;split at a;case h_2=>cases a
 rename_i z j u g f r o;split at a;case h_2=>cases a
 rename_i q v d;split at a;case isFalse=>cases a
 rename_i l;simp only[xA]at a;subst a;have p:h' k=h k:=m k (by simp);have h2:h' j=h j:=m j (by simp);have c:g=0:=l.2.1;have b:f=1:=l.2.2.1;subst c;subst b;refine⟨eo l.2.2.2.2.2.2.2 (by rw[h2];exact d),by simp only[cj,n,o], ?_⟩;rw[←i];simp only[dy,n,o,p,h2]
theorem lQ{cfg:d0}{i k:Nat}{c:Call}{ρ:Operand→AV}{out:Out}(a:aK P cfg i c ρ h k=some out)(b:∀k∈out.rd,h' k=h k):aK P cfg i c ρ h' k=some out:=by
 unfold aK at a ⊢;split at a
 ·split at a
  ·split at a
   ·exact lM a b
   ·exact a
  ·exact a
 ·exact a
 ·exact a
 ·split at a
  ·split at a
   ·rename_i f
    rw[xW f];split at a
    ·rename_i d e
     simp only[xA]at a;subst a;rw[kQ e b]
    ·split at a
     ·rename_i d e
      simp only[xA]at a;subst a;have:=kR (obm:=cfg.obm i) (k:=k) e b;rw[this.1,this.2]
     ·have:=kS (obm:=cfg.obm i) a b
      rw[this.1,this.2.1];exact this.2.2
   ·cases a
  ·cases a
 ·exact a
 ·split at a
  ·exact gk a b
  ·cases a
 ·split at a
  ·split at a
   ·exact a
   ·exact a
   ·unfold dz at a ⊢
    split at a
    ·exact a
    ·split at a
     ·rename_i r g
      split at a
      ·rename_i j
       simp only[xA]at a;subst a;have:=lK g b;simp only[this,xW j]
      ·cases a
     ·cases a
  ·cases a
 ·cases a
theorem lR{cfg:d0}{i:Nat}{o:Oper}{ρ:Operand→AV}{out:Out}(a:aX P cfg i o ρ h=some out)(b:∀k∈out.rd,h' k=h k):aX P cfg i o ρ h'=some out:=by
 unfold aX at a ⊢;split at a
 all_goals first
  |exact a
  |exact lP a b
  |exact nV a b
  |exact iy a b
  |exact i9 a b
  |exact mU a b
  |exact ja a b
  |exact kN a b
  |exact nW a b
  |exact jb a b
  |exact lL a b
  |exact lQ a b
theorem qr{cfg:d0}{i:Nat}{o:Oper}{ρ d:Operand→AV}(a:∀x∈o.op.operands,d x=ρ x):aX P cfg i o d h=aX P cfg i o ρ h:=by
 obtain⟨dst,op,w,z,v,u⟩:=o
 have g:∀j:Array (Nat×Operand),(∀x∈(j.toList.map (·.2)).toArray,d x=ρ x)→(j.toList.map fun p=>(p.1,d p.2))=(j.toList.map fun p=>(p.1,ρ p.2)):=fun j hp=>
  yI fun p hm=>by
   obtain⟨i,x⟩:=p;have:=hp x (by simpa using ⟨i,xa.1 hm⟩);simp only[this]
 cases op<;>simp only[Op.operands]at a<;>simp only[aX]
 case build t j=>rw[g j a]
 case buildSlice t n j=>rw[g j a]
 case makeFunc fn first captured=>
  cases fn with
  |func f=>
   simp only;split
   ·rw[yI (l:=captured.toList) fun x q=>a x (by simp[xa.1 q])]
   ·rfl
  |_=>rfl
 case call c=>
  have k:c.args.toList.map d=c.args.toList.map ρ:=yI fun x q=>a x (by simp[Call.operands,xa.1 q])
  have e:∀x,x∈c.args.toList→d x=ρ x:=fun x q=>a x (by simp[Call.operands,xa.1 q])
  unfold aK;cases A:c.callee with
  |value f=>
   have y:d f=ρ f:=a f (by simp[Call.operands,A]);simp only[y,k]
  |invoke r m=>rfl
  |builtin b=>
   cases b<;>simp only
   all_goals first
    |rfl
    |(split
      ·rename_i s;simp only[s,xR,yD,or_false,forall_eq_or_imp,forall_eq]at e;simp only[e]
      ·rfl)
    |(split
      ·rename_i s h2;simp only[s,xR,yD,or_false,forall_eq_or_imp,forall_eq]at e;simp only[e]
      ·rfl)
 case makeMap t r=>cases r<;>rfl
 case slice t x lo hi mx=>cases lo<;>cases hi<;>cases mx<;>simp_all
 all_goals (first|rfl|(simp_all;done))
end
end Go.Avm
namespace Go.Avm
open Go.RowKit
variable[ap]
theorem a8:∀(c:List (Nat×aI))(h:aa){k:Nat},k∉c.map (·.1)→ae h c k=h k
 |[],_,_,_=>rfl
 |(a,e)::r,h,k,b=>by
  simp only[xI,xR,yS]at b;simp only[ae];rw[a8 r _ b.2,ab _ _ b.1]
theorem gM:∀(d:List (Nat×aI))(h h2:aa){k:Nat},k∈d.map (·.1)→ae h d k=ae h2 d k
 |[],_,_,_,c=>by simp at c
 |(a,e)::r,h,h2,k,c=>by
  simp only[ae];by_cases b:k∈r.map (·.1)
  ·exact gM r _ _ b
  ·rw[a8 r _ b,a8 r _ b]
   simp only[xI,xR,b,or_false]at c;subst c;rw[ad,ad]
theorem pb{a b:List (Nat×aI)}(h:aa)(e:∀k,k∈a.map (·.1)→k∉b.map (·.1)):ae (ae h a) b=ae (ae h b) a:=by
 funext k;by_cases c:k∈a.map (·.1)
 ·rw[a8 b _ (e k c)]
  exact gM a _ _ c
 ·rw[a8 a _ c]
  by_cases d:k∈b.map (·.1)
  ·exact gM b _ _ d
  ·rw[a8 b _ d,a8 b _ d,a8 a _ c]
theorem eQ{N:Nat}{env env':Nat→AV}{dst:Option Nat}{x:AV}(h:bX N env dst x=some env'){t:Nat}(a:dst≠some t):env' t=env t:=by
 cases dst with
 |none=>simp only[bX,xA]at h;rw[h]
 |some d=>
  simp only[bX]at h;split at h
  ·simp only[xA]at h
   subst h;exact ab _ _ (fun e=>a (by rw[e]))
  ·cases h
theorem sE{N:Nat}{env j i:Nat→AV}{d g:Option Nat}{x y:AV}(h:∀t,d=some t→g≠some t)(c:bX N env d x=some j)(h2:bX N j g y=some i):
    ∃f,bX N env g y=some f∧bX N f d x=some i:=by
 cases d with
 |none=>simp only[bX,xA]at c;subst c;exact⟨i,h2,rfl⟩
 |some a=>
  cases g with
  |none=>simp only[bX,xA]at h2;subst h2;exact⟨env,rfl,c⟩
  |some b=>
   simp only[bX]at c h2 ⊢;split at c
   ·rename_i k
    split at h2
    ·rename_i l
     simp only[xA]at c h2;subst c;subst h2;refine⟨aq env b y,by rw[xW l], ?_⟩;rw[xW k,tn _ _ _ (fun e=>h b (by rw[e]) rfl)]
    ·cases h2
   ·cases c
section
variable{P:Program}{cfg:d0}{N:Nat}{b:Array Oper}
def tw(b:Array Oper)(o:Oper)(a:Foot)(S S':St):Prop:=
 (∀t∈o.looksAt b,S'.env t=S.env t)∧(a.all=true→S'.heap=S.heap)∧(a.all=false→∀k∈a.rd,S'.heap k=S.heap k)
theorem bu{o:Oper}{env env':Nat→AV}(h:∀t∈o.looksAt b,env' t=env t):bK b o env'=bK b o env:=by
 unfold bK;cases d:o.guard with
 |none=>rfl
 |some c=>
  obtain⟨j,a⟩:=c;simp only;cases e:(b[j]?).bind (·.dst)with
  |none=>rfl
  |some t=>
   simp only;rw[h t (by simp[Oper.looksAt,d,e])]
theorem fg{o:Oper}{env env':Nat→AV}(h:∀t∈o.looksAt b,env' t=env t):∀x∈o.op.operands,opd env' x=opd env x:=by
 intro x a;cases x with
 |tmp t=>exact h t (x0 _ (List.mem_filterMap.2 ⟨.tmp t,by simpa using a,rfl⟩))
 |_=>rfl
theorem cz{o:Oper}{env env':Nat→AV}(h:∀t∈o.looksAt b,env' t=env t):bV o env'=bV o env:=by
 have d:=fg h;unfold bV;cases e:o.op with
 |call c=>
  simp only;rw[e]at d;simp only[Op.operands]at d;cases i:c.callee with
  |value f=>
   simp only;have a:c.args.toList.map (opd env')=c.args.toList.map (opd env):=yI fun x g=>d x (by simp[Call.operands,xa.1 g])
   rw[d f (by simp[Call.operands,i]),a]
  |_=>rfl
 |_=>rfl
theorem pc{o:Oper}{env env':Nat→AV}(h:∀t∈o.looksAt b,env' t=env t):iU o env'=iU o env:=by
 have d:=fg h;unfold iU;cases e:o.op with
 |call c=>
  simp only;rw[e]at d;simp only[Op.operands]at d;cases i:c.callee with
  |value f=>
   simp only;have a:c.args.toList.map (opd env')=c.args.toList.map (opd env):=yI fun x g=>d x (by simp[Call.operands,xa.1 g])
   rw[d f (by simp[Call.operands,i]),a]
  |_=>rfl
 |_=>rfl
theorem nX(a:List Nat)(c:aa):(dL a c).map (·.1)=a:=by
 unfold dL;rw[List.map_map];exact List.map_id' _
theorem cp{i:Nat}{o:Oper}{S S1:St}{ob:List Obl}{t:Foot}(a:aV P cfg N b i o S=some (S1,ob,t)):
    ∃(v:AV)(m:aa→aa),bX N S.env o.dst v=some S1.env∧S1.heap=m S.heap∧(t.all=false→∃B,m=(fun l=>ae l B)∧t.wr=B.map (·.1))∧(t.all=true→(∃h',m=fun _=>h')∧∀k,k∉t.wr→m S.heap k=S.heap k)∧
     ∀S' env',tw b o t S S'→bX N S'.env o.dst v=some env'→aV P cfg N b i o S'=some (⟨env',m S'.heap⟩,ob,t):=by
 unfold aV at a;split at a
 ·rename_i w
  split at a
  ·rename_i x h' tk f
   split at a;case isFalse=>cases a
   rename_i r;split at a
   ·rename_i g q h
    simp only[xB,xC]at a;obtain⟨env,hp,rfl,rfl,rfl⟩:=a;refine⟨dW x,fun _=>h',hp,rfl,fun n=>(by simp at n),fun _=>⟨⟨h',rfl⟩,r⟩,fun S' env' d c=> ?_⟩;have l:S'.heap=S.heap:=d.2.1 rfl;unfold aV;rw[bu d.1,w];simp only[f];rw[cz d.1,h,l,xW r];simp only[c,xP]
   ·rename_i y
    split at a
    ·rename_i k v q h
     simp only[xB,xC]at a;obtain⟨env,hp,rfl,rfl,rfl⟩:=a;refine⟨dW x,fun _=>h',hp,rfl,fun n=>(by simp at n),fun _=>⟨⟨h',rfl⟩,r⟩,fun S' env' d c=> ?_⟩;have l:S'.heap=S.heap:=d.2.1 rfl;unfold aV;rw[bu d.1,w];simp only[f];rw[cz d.1,y,pc d.1,h,l,xW r];simp only[c,xP]
    ·cases a
  ·rename_i s x e f
   split at a
   ·rename_i g q h
    split at a;case isFalse=>cases a
    rename_i j;simp only[xB,xC]at a;obtain⟨env,hp,rfl,rfl,rfl⟩:=a;refine⟨dW x,fun l=>ae l e.reverse,hp,rfl,fun _=>⟨e.reverse,rfl,rfl⟩,fun n=>(by simp at n),fun S' env' d c=> ?_⟩;unfold aV;rw[bu d.1,w];simp only[f];rw[cz d.1,h]
    have u:gS S'.heap s:=fun p hp=>by
     rw[d.2.2 rfl p.1 (y7 hp)];exact j p hp
    simp only[c,xP];rw[xW u]
   ·cases a
  ·rename_i s D x e z f
   split at a
   ·rename_i g q h
    split at a;case isFalse=>cases a
    rename_i j;simp only[xB,xC]at a;obtain⟨env,hp,rfl,rfl,rfl⟩:=a;refine⟨dW x,fun l=>ae l (dL e z),hp,rfl,fun _=>⟨dL e z,rfl,(nX e z).symm⟩,fun n=>(by simp at n),fun S' env' d c=> ?_⟩;unfold aV;rw[bu d.1,w];simp only[f];rw[cz d.1,h]
    have u:∀k∈s,S'.heap k=D k:=fun k C=>by
     rw[d.2.2 rfl k C];exact j k C
    simp only[c,xP];rw[xW u]
   ·cases a
  ·rename_i f
   split at a
   ·rename_i out E
    simp only[xB,xC]at a;obtain⟨env,hp,rfl,rfl,rfl⟩:=a;refine⟨out.val,fun l=>ae l out.wr,hp,rfl,fun _=>⟨out.wr,rfl,rfl⟩,fun n=>(by simp at n),fun S' env' d c=> ?_⟩;unfold aV;rw[bu d.1,w];simp only[f]
    have A:aX P cfg i o (opd S'.env) S'.heap=some out:=by
     rw[qr (fg d.1)];exact lR E (d.2.2 rfl)
    simp only[A,c,xP]
   ·cases a
 ·rename_i w
  simp only[xB,xC]at a;obtain⟨env,hp,rfl,rfl,rfl⟩:=a;refine⟨.tup [],fun l=>ae l [],hp,rfl,fun _=>⟨[],rfl,rfl⟩,fun n=>(by simp at n),fun S' env' d c=> ?_⟩;unfold aV;rw[bu d.1,w];simp only[c,xP,ae]
 ·cases a
def Foot.apart(x y:Foot):Bool:=
 if x.all then !y.all&&y.wr.isEmpty&&y.rd.all (fun k=> !x.wr.contains k)
 else if y.all then x.wr.isEmpty&&x.rd.all (fun k=> !y.wr.contains k)
 else x.wr.all (fun k=> !y.rd.contains k&& !y.wr.contains k)&&y.wr.all (fun k=> !x.rd.contains k)
theorem iz{i j:Nat}{H G:Oper}{S S1 F:St}{C A:List Obl}{s v:Foot}(J:H.apart b G=true)(g:s.apart v=true)(hi:aV P cfg N b i H S=some (S1,C,s))
    (hj:aV P cfg N b j G S1=some (F,A,v)):∃w,aV P cfg N b j G S=some (w,A,v)∧aV P cfg N b i H w=some (F,C,s):=by
 obtain⟨g1,g2,g3⟩:=Oper.apart_spec J;obtain⟨vi,ai,E,r,m,O,I⟩:=cp hi;obtain⟨vj,aj,W,M,o,U,hlj⟩:=cp hj;obtain⟨B,z,Y⟩:=sE g2 E W
 have l:∀{f:Foot}{a:aa→aa},(f.all=false→∃q,a=(fun p=>ae p q)∧f.wr=q.map (·.1))→f.all=false→f.wr=[]→∀p,a p=p:=by
  intro f a Q c D p;obtain⟨q,rfl,n⟩:=Q c;rw[D]at n;have:q=[]:=List.map_eq_nil_iff.1 n.symm;rw[this];rfl
 have y:∀{f:Foot}{a:aa→aa},(f.all=false→∃q,a=(fun p=>ae p q)∧f.wr=q.map (·.1))→f.all=false→∀p k,k∉f.wr→a p k=p k:=by
  intro f a Q c p k n;obtain⟨q,rfl,L⟩:=Q c;exact a8 q _ (by rw[←L];exact n)
 have R:tw b G v S1 S:=by
  refine⟨fun t T=>(eQ E (fun e=>g1 t e T)).symm,fun c=> ?_,fun c k n=> ?_⟩
  ·rw[r]
   cases d:s.all with
   |true=>simp[Foot.apart,d,c]at g
   |false=>
    simp[Foot.apart,d,c]at g;exact(l m d g.1 _).symm
  ·rw[r]
   cases d:s.all with
   |true=>
    simp[Foot.apart,d,c]at g;exact((O d).2 k (g.2 k n)).symm
   |false=>
    simp[Foot.apart,d,c]at g;exact(y m d _ k (fun x=>(g.1 k x).1 n)).symm
 have h1:=hlj S B R z;refine⟨_,h1, ?_⟩
 have K:tw b H s S ⟨B,aj S.heap⟩:=by
  refine⟨fun t T=>eQ z (fun e=>g3 t e T),fun c=> ?_,fun c k n=> ?_⟩
  ·simp[Foot.apart,c]at g
   exact l o g.1.1 g.1.2 _
  ·cases h:v.all with
   |true=>
    simp[Foot.apart,c,h]at g;obtain⟨⟨h',rfl⟩,u⟩:=U h;have V:S1.heap=S.heap:=by rw[r];exact l m c g.1 _
    have:=u k (g.2 k n);rw[V]at this;exact this
   |false=>
    simp[Foot.apart,c,h]at g;exact y o h _ k (fun x=>g.2 k x n)
 have h2:=I _ F.env K Y;rw[h2]
 have:ai (aj S.heap)=F.heap:=by
  rw[M,r];cases d:s.all with
  |true=>
   simp[Foot.apart,d]at g;rw[l o g.1.1 g.1.2,l o g.1.1 g.1.2]
  |false=>
   cases h:v.all with
   |true=>
    simp[Foot.apart,d,h]at g;rw[l m d g.1,l m d g.1]
   |false=>
    simp[Foot.apart,d,h]at g;obtain⟨wi,rfl,Z⟩:=m d;obtain⟨wj,rfl,X⟩:=o h;exact pb _ (fun k n x=>(g.1 k (by rw[Z];exact x)).2 (by rw[X];exact n))
 rw[this]
def tx(P:Program)(cfg:d0)(N:Nat)(b:Array Oper)(F:Nat→Foot):Nat→Array Bool→St→St→Prop
 |0,a,S,d=>Region.ready .any b a=[]∧S=d
 |c+1,a,S,d=>(Region.ready .any b a=[]→S=d)∧
  ∀i∈Region.ready .any b a,∃o S1 ob,b[i]? =some o∧aV P cfg N b i o S=some (S1,ob,F i)∧dg P ob∧tx P cfg N b F c (a.setIfInBounds i true) S1 d
def rE(b:Array Oper)(F:Nat→Foot)(a:Array Bool)(i:Nat):Bool:=
 match b[i]? with
 |none=>false
 |some d=>(List.range b.size).all fun j=>j==i||a.getD j true||match b[j]? with
     |some c=>c.after.any (fun e=>Region.binds .any e&&e.on==i)||(d.apart b c&&(F i).apart (F j))
     |none=>true
theorem qt{F:Nat→Foot}{i:Nat}{n:Oper}{a:Array Bool}(o:b[i]? =some n)(h:rE b F a i=true)(j:Nat)(d:Oper)
    (m:b[j]? =some d) (f:j≠i) (k:a.getD j true=false) (g:∀e∈d.after,Region.binds .any e=true→e.on≠i):
    n.apart b d=true∧(F i).apart (F j)=true:=by
 simp only[rE,o,xY,List.mem_range]at h;have c:=h j (xG.1 m).1;simp only[m,yC,yL,f,false_or,k,yQ]at c;rcases c with c|c
 ·obtain⟨e,p,l⟩:=Array.any_eq_true'.1 c
  simp only[xU,yL]at l;exact absurd l.2 (g e p l.1)
 ·simpa using c
def wY(b:Array Oper)(a:Array Bool)(i:Nat):Nat→Nat→Array Bool→Array Bool
 |0,_,d=>d
 |c+1,k,d=>wY b a i c (k+1) (d.push (match b[k]? with
   |some ok=> !(k==i)&&(!(a.getD k true)&&ok.after.any fun e=>Region.binds .any e&&(e.on==i||d.getD e.on false))
   |none=>false))
def wZ(b:Array Oper)(a:Array Bool)(i:Nat)(d:Array Bool)(j:Nat)(c:Oper):Bool:=
 !(j==i)&&(!(a.getD j true)&&c.after.any fun e=>Region.binds .any e&&(e.on==i||(decide (e.on<b.size)&&d.getD e.on false)))
def tz(b:Array Oper)(F:Nat→Foot)(a:Array Bool)(i:Nat)(d:Array Bool):Bool:=
 match b[i]? with
 |none=>false
 |some e=>(List.range b.size).all fun j=>match b[j]? with
     |some c=>match d.getD j false with
      |true=>wZ b a i d j c
      |false=>j==i||a.getD j true||(e.apart b c&&(F i).apart (F j))
     |none=>true
def vJ(b:Array Oper)(F:Nat→Foot)(d:Oper)(i:Nat)(a:Array Bool):Prop:=
 ∃B:Nat→Bool,(∀j c,b[j]? =some c→B j=true→j≠i∧a.getD j true=false∧∃e∈c.after,Region.binds .any e=true∧(e.on=i∨((∃ok,b[e.on]? =some ok)∧B e.on=true)))∧
  ∀j c,b[j]? =some c→j≠i→a.getD j true=false→B j=false→(∀e∈c.after,Region.binds .any e=true→e.on≠i)→d.apart b c=true∧(F i).apart (F j)=true
theorem qu{F:Nat→Foot}{i:Nat}{c:Oper}{a:Array Bool}(k:b[i]? =some c)(h:rE b F a i=true):vJ b F c i a:=
 ⟨fun _=>false,fun _ _ _ h=>(by cases h),fun j d f h2 e _ g=>qt k h j d f h2 e g⟩
theorem qv{F:Nat→Foot}{i:Nat}{o:Oper}{a:Array Bool}{l:Array Bool}(s:b[i]? =some o)(h:tz b F a i l=true):vJ b F o i a:=by
 simp only[tz,s,xY,List.mem_range]at h;refine⟨fun j=>l.getD j false,fun j q g f=> ?_,fun j q g m n f _=> ?_⟩
 ·have f:l.getD j false=true:=f
  have c:=h j (xG.1 g).1;rw[g]at c;simp only[f]at c;unfold wZ at c;simp only[xU,xu,yh,ne_eq]at c;obtain⟨h2,p,r⟩:=c;obtain⟨e,t,d⟩:=Array.any_eq_true'.1 r;simp only[xU,yC,yL,y6]at d;refine⟨h2,p,e,t,d.1, ?_⟩;rcases d.2 with k|k
  ·exact .inl k
  ·exact .inr ⟨⟨b[e.on]'k.1,xF k.1⟩,k.2⟩
 ·have f:l.getD j false=false:=f
  have c:=h j (xG.1 g).1;rw[g]at c;simp only[f,yC,yL,m,false_or,n,yQ,xU]at c;exact c
theorem qw{F:Nat→Foot}{i:Nat}{A:Oper}(X:b[i]? =some A){ob:List Obl}(E:dg P ob):
    ∀(f:Nat)(a:Array Bool)(S S1 I:St),vJ b F A i a→
     i∈Region.ready .any b a→aV P cfg N b i A S=some (S1,ob,F i)→
     tx P cfg N b F f (a.setIfInBounds i true) S1 I→tx P cfg N b F (f+1) a S I:=by
 intro f;induction f with
 |zero=>
  intro a S S1 I _ x M H;refine⟨fun h=>(by rw[h]at x;cases x),fun j Q=> ?_⟩;by_cases c:j=i
  ·subst c;exact⟨A,S1,ob,X,M,E,H⟩
  ·have:=ready_mono Q c
   rw[H.1]at this;cases this
 |succ f ih=>
  intro a S S1 I w x M H;refine⟨fun h=>(by rw[h]at x;cases x),fun j Q=> ?_⟩;by_cases c:j=i
  ·subst c;exact⟨A,S1,ob,X,M,E,H⟩
  ·obtain⟨g,Z,V,r,L,G,H2⟩:=H.2 j (ready_mono Q c)
   obtain⟨p,oj,o,D⟩:=mem_ready.1 Q;have y:g=oj:=by rw[o]at r;exact(Option.some.inj r).symm
   subst y
   have d:∀t,a.getD t true=false→∀e∈g.after,Region.binds .any e=true→e.on≠t:=fun t Y e O u y=>by
    have q:=D e O u;rw[y]at q;rcases y9 t a.size with h'|h'
    ·simp[h']at Y q;rw[Y]at q;cases q
    ·simp[Array.getElem?_eq_none h']at q
   have s:=d i (mem_ready.1 x).1;obtain⟨B,z,J⟩:=w
   have v:B j=false:=by
    cases u:B j with
    |false=>rfl
    |true=>
     obtain⟨_,_,e,O,q,h2⟩:=z j g o u;rcases h2 with h2|⟨⟨ok,R⟩,h2⟩
     ·exact absurd h2 (s e O q)
     ·exact absurd rfl (d e.on (z e.on ok R h2).2.1 e O q)
   obtain⟨a1,a2⟩:=J j g o c p v s;obtain⟨C,k1,k2⟩:=iz a1 a2 M L
   have K:∀k,(a.setIfInBounds j true).getD k true=false→a.getD k true=false:=fun k n=>by
    by_cases m:j=k
    ·subst m;exact p
    ·rw[getD_set_ne true m]at n;exact n
   have l:vJ b F A i (a.setIfInBounds j true):=⟨B,fun k ok T u=>by
    obtain⟨g1,g2,g3⟩:=z k ok T u;have m:j≠k:=fun e=>by rw[e,u]at v;cases v
    exact⟨g1,by rw[getD_set_ne true m];exact g2,g3⟩,fun k ok T W n u U=>J k ok T W (K k n) u U⟩
   refine⟨g,C,V,o,k1,G,ih (a.setIfInBounds j true) C Z I l (ready_mono x (Ne.symm c)) k2 ?_⟩;rw[Array.setIfInBounds_comm _ _ c];exact H2
def tA(b:Array Oper)(F:Nat→Foot):Nat→Nat→Array Bool→Bool
 |0,_,a=>(Region.ready .any b a).isEmpty
 |c+1,k,a=>(Region.ready .any b a).contains k&&(rE b F a k||tz b F a k (wY b a k b.size 0 #[]))&&tA b F c (k+1) (a.setIfInBounds k true)
def lS(b:Array Oper)(fts:List Foot):Bool:=tA b (fun i=>(fts[i]?).getD ⟨0,[],[],false⟩) b.size 0 (Array.replicate b.size false)
theorem pd{F:Nat→Foot}:∀(n k:Nat)(a:Array Bool)(S i:St)(ob:List Obl)(fts:List Foot),bP P cfg N b (List.range' k n) S=some (i,ob,fts)→dg P ob→
    (∀j f,fts[j]? =some f→F (k+j)=f)→tA b F n k a=true→tx P cfg N b F n a S i
 |0,k,a,S,i,ob,fts,d,_,_,h=>by
  simp only[List.range'_zero,bP,xA,xC]at d;exact⟨by simpa [tA]using h,d.1⟩
 |n+1,k,a,S,i,ob,fts,d,e,v,h=>by
  rw[y5]at d;simp only[bP]at d;split at d
  ·cases d
  ·rename_i o r
   split at d
   ·cases d
   ·rename_i w p
    split at d
    ·cases d
    ·rename_i A t
     simp only[xA,xC]at d;obtain⟨rfl,rfl,rfl⟩:=d;obtain⟨S1,B,g⟩:=w;obtain⟨u,q,l⟩:=A;simp only[tA,xU]at h;obtain⟨⟨z,h2⟩,x⟩:=h;have m:F k=g:=by simpa using v 0 g (by simp)
     refine qw r (fun c s=>e c (x0 _ s)) n a S S1 u ((yC _ _▸h2).elim (qu r) (qv r)) (by simpa using z) (by rw[m];exact p)
      (pd n (k+1) _ S1 u q l t (fun c s=>e c (xc _ s)) (fun j f y=> ?_) x)
     have:=v (j+1) f (by simpa using y);rw[←this];congr 1;omega
variable{G:Gh}{B:Nat}{w0 w:World}{I0:Nat→Nat→Prop}
theorem g0{D:List Deferred}(s:eu P)(r:Option Nat)(n:Nat){F:Nat→Foot}{Q:Exit→Act→World→Prop}{q:St}:∀(d:Nat)(c:Array Bool)(G:Gh)(w:World)(S:St)(a:Act),HR G B w0 I0 S.heap w→FR G w N D S.env a→tx P cfg N b F d c S q→
    (∀j e f,Ext G w f e→HR f B w0 I0 q.heap e→FR f e N D q.env j→Q .normal j e)→wpAnyIn (FF r) n P .any b Q d c a w
 |0,c,G,w,S,a,l,g,h,k=>by
  obtain⟨I,rfl⟩:=h;exact⟨I,k a w G (Ext.refl G w) l g⟩
 |d+1,c,G,w,S,a,l,g,h,k=>by
  refine⟨fun t=> ?_,fun i u=> ?_⟩
  ·have:=h.1 t
   subst this;exact k a w G (Ext.refl G w) l g
  ·obtain⟨o,S1,ob,H,p,m,h2⟩:=h.2 i u
   unfold wpOpIn;simp only[H];exact c8 s l g p m r n (fun j e f C y A=>g0 s r n d _ f e S1 j y A h2 (fun x z J E v K=>k x z J (C.trans E) v K))
theorem jP{D:List Deferred}(hm:d4 P)(r:Option Nat)(n:Nat){id:Nat}{S i:St}{a:Act}{ob:List Obl}{fts:List Foot}{Q:Exit→Act→World→Prop}(q:HR G B w0 I0 S.heap w)(s:FR G w N D S.env a)
    (c:bP P cfg N b (List.range b.size) S=some (i,ob,fts)) (m:lS b fts=true) (k:dg P ob)
    (l:∀h d e,Ext G w e d→HR e B w0 I0 i.heap d→FR e d N D i.env h→Q .normal h d):(Code.region id b true).wpIn (FF r) n P Q a w:=by
 refine wpIn_region_any hm.mixed ?_;rw[ye]at c;have g:=pd b.size 0 (Array.replicate b.size false) S i ob fts c k (fun j f p=>by simp[p]) m;exact g0 hm.ext r n b.size _ G w.drew S a q.drew (s.mono (Ext.drew G w)) g (fun h d e t o h2=>l h d e ((Ext.drew G w).trans t) o h2)
end
end Go.Avm
namespace Go.Avm
open Go.RowKit
variable[ap]
def eY(P:Program)(f:Nat)(b:List AV)(h:aa)(x:AV)(h':aa):Prop:=
 ch P f∧∀(G:Gh)(B:Nat)(w0:World)(I0:Nat→Nat→Prop)(w:World)(a:Array Value),HR G B w0 I0 h w→a.size=b.length→
  (∀(i:Nat)(x:AV)(u:Value),b[i]? =some x→a[i]? =some u→Rep G w x u)→
  Calls P f a w fun e c=>∃v d,e= .panicked [{v,recovered:=false}]∧Ext G w d c∧HR d B w0 I0 h' c∧Rep d c x v
def sF(P:Program)(o:Oper)(S:St)(x:AV)(h':aa):Prop:=
 (∃u t y,o.op= .panic u∧opd S.env u=x∧x= .iv t y∧h'=S.heap)∨(∃g a,bV o S.env=some (g,a)∧eY P g a S.heap x h')
def iA(a:Array Oper):List Nat:=a.toList.filterMap (·.dst)
def gl(a:Array Oper)(env:Nat→AV):Nat→AV:=fun t=>if (iA a).contains t=true then .junk else env t
section
variable{P:Program}{cfg:d0}{N:Nat}{b:Array Oper}{G:Gh}{B:Nat}{w0 w:World}{I0:Nat→Nat→Prop}
theorem jc{p:Nat}{o:Oper}(c:b[p]? =some o){t:Nat}(a:(iA b).contains t=false):o.dst≠some t:=fun e=>by
 have:t∈iA b:=List.mem_filterMap.2 ⟨o,by rw[xa];exact Array.mem_of_getElem? c,e⟩;rw[List.contains_iff_mem.2 this]at a;cases a
theorem qx{D:List Deferred}{o:Oper}{S:St}{x:AV}{h':aa}(r:Option Nat)(n:Nat){a:Act}{next:Act→World→Prop}{Q:Exit→Act→World→Prop}(C:HR G B w0 I0 S.heap w)(A:FR G w N D S.env a)
    (hp:sF P o S x h') (K:∀v l q,Ext G w q l→HR q B w0 I0 h' l→FR q l N D S.env a→Rep q l x v→Q (.panic [{v,recovered:=false}]) a l):o.wpIn (FF r) n P a w next Q:=by
 rcases hp with ⟨u,t,y,i,R,rfl,rfl⟩|⟨g,L,d,I,m⟩
 ·have p:=A.opd C.maps.glob u
  rw[R]at p
  obtain⟨v,T,F⟩:∃v,a.eval u= .iface t v∧Rep G w (.iv t y) (.iface t v):=by
   generalize a.eval u=V at p;cases p with
   |iv _ v h=>exact⟨v,rfl, .iv _ v h⟩
  have j:(execOp a.eval o).run P w= .halt (.panic (.iface t v)) w:=by
   unfold execOp;rw[i];simp only[T];rfl
  exact⟨fun _ _=>trivial,by
   rw[Oper.semAt_eq _ _ _ (fun c e=>by rw[i]at e;cases e),j,Oper.uponIn_panic];exact K _ w G (Ext.refl G w) C A F⟩
 ·unfold bV at d
  split at d
  ·rename_i c i
   split at d
   ·rename_i f z
    split at d
    ·rename_i U J H
     simp only[xA,xC]at d;obtain⟨rfl,rfl⟩:=d;obtain⟨vs,E,s,k⟩:=ff (P:=P) (ty:=o.type) (ρ:=a.eval) (fun x=>A.opd C.maps.glob x) z H
     have j:(execOp a.eval o).run P w= .ok (.enter U (c.args.map a.eval ++vs)) w:=by
      unfold execOp;rw[i];exact k.trans (b9 I _ w)
     refine⟨fun _ _=>trivial, ?_⟩;rw[Oper.semAt_eq _ _ _ (fun c e=>by rw[i]at e;cases e),j,Oper.uponIn_enter];refine⟨fun x=>(by cases x),(nU r (n-1) (m G B w0 I0 w _ C E s)).mono ?_⟩;rintro e l ⟨v,q,rfl,M,h2,O⟩;exact K v l q M h2 (A.mono M) O
    ·cases d
   ·cases d
  ·cases d
theorem FR.junk{D:List Deferred}{env env':Nat→AV}{a:Act}(c:FR G w N D env a)(h:∀t,env' t=env t∨env' t= .junk):FR G w N D env' a:=
 ⟨c.size,c.nod,fun t d=>by
  rcases h t with e|e
  ·rw[e];exact c.rep t d
  ·rw[e];exact .junk _,fun t d=>by
  rcases h t with e|e
  ·rw[e];exact c.out t d
  ·exact e⟩
def jd(P:Program)(b:Array Oper)(p:Nat)(env0:Nat→AV)(x:AV)(h':aa)(S:St):Prop:=
 (∃o,b[p]? =some o∧bK b o S.env=some true∧sF P o S x h')∧∀t,(iA b).contains t=false→S.env t=env0 t
theorem nY{D:List Deferred}{p:Nat}{env0:Nat→AV}{x:AV}{h':aa}{S:St}(r:Option Nat)(n:Nat){a:Act}{K:Act→World→Prop}{Q:Exit→Act→World→Prop}(k:HR G B w0 I0 S.heap w)(e:FR G w N D S.env a)
    (h:jd P b p env0 x h' S) (g:∀v c d,Ext G w d c→HR d B w0 I0 h' c→FR d c N D (gl b env0) a→Rep d c x v→Q (.panic [{v,recovered:=false}]) a c):wpOpIn (FF r) n P b Q p K a w:=by
 obtain⟨⟨o,l,m,hp⟩,j⟩:=h;unfold wpOpIn;simp only[l];rw[xW (k3 e m)];refine qx r n k e hp (fun v c d i h2 f q=>g v c d i h2 (f.junk fun t=> ?_) q);unfold gl;split
 ·exact .inr rfl
 ·rename_i s
  exact .inl (j t (by simpa using s)).symm
theorem sG{p k:Nat}{ok op:Oper}{env0:Nat→AV}{x:AV}{h':aa}{S S1:St}{ob:List Obl}{f:Foot}(M:b[k]? =some ok)(l:b[p]? =some op)(K:aV P cfg N b k ok S=some (S1,ob,f))(r:ok.apart b op=true)
    (d:f.all=false) (s:f.wr=[]) (h:jd P b p env0 x h' S1):jd P b p env0 x h' S:=by
 obtain⟨⟨o,D,O,hp⟩,I⟩:=h;rw[l]at D;cases D;obtain⟨L,_,_⟩:=Oper.apart_spec r;obtain⟨v,E,i,Q,A,_,_⟩:=cp K;obtain⟨J,rfl,z⟩:=A d;have m:J=[]:=List.map_eq_nil_iff.1 (z.symm.trans s);subst m;have a:S1.heap=S.heap:=Q;have c:∀t∈op.looksAt b,S.env t=S1.env t:=fun t q=>(eQ i (fun e=>L t e q)).symm
 refine⟨⟨op,l,by rw[bu (o:=op) (env:=S1.env) (env':=S.env) c];exact O, ?_⟩,fun t q=>by rw[←I t q,eQ i (jc M q)]⟩;rcases hp with ⟨u,t,y,n,C,F,H⟩|⟨g,j,n,C⟩
 ·refine .inl ⟨u,t,y,n, ?_,F,H.trans a⟩
  rw[fg c u (by rw[n];simp[Op.operands])];exact C
 ·refine .inr ⟨g,j, ?_,by rw[←a];exact C⟩
  rw[cz c];exact n
def tB(P:Program)(cfg:d0)(N:Nat)(b:Array Oper)(F:Nat→Foot)(p:Nat)(L:St→Prop):Nat→Array Bool→St→Prop
 |0,_,_=>False
 |c+1,a,S=>Region.ready .any b a≠[]∧
  ∀i∈Region.ready .any b a,(i=p∧L S)∨(i<p∧∃o S1 ob,b[i]? =some o∧aV P cfg N b i o S=some (S1,ob,F i)∧dg P ob∧tB P cfg N b F p L c (a.setIfInBounds i true) S1)
def tD(b:Array Oper)(F:Nat→Foot)(p:Nat)(a:Array Bool)(k:Nat):Bool:=
 match b[k]?,b[p]? with
 |some ok,some op=>((List.range p).all fun j=>j==k||a.getD j true||match b[j]? with
     |some c=>c.after.any (fun e=>Region.binds .any e&&e.on==k)||(ok.apart b c&&(F k).apart (F j))
     |none=>true)&&(op.after.any (fun e=>Region.binds .any e&&e.on==k)||(ok.apart b op&& !(F k).all&&(F k).wr.isEmpty))
 |_,_=>false
theorem qy{F:Nat→Foot}{p k:Nat}{ok op:Oper}{env0:Nat→AV}{x:AV}{h':aa}(U:b[k]? =some ok)(hp:b[p]? =some op)(K:k<p){ob:List Obl}(J:dg P ob):
    ∀(c:Nat)(a:Array Bool)(S S1:St),
     (∀j o,j<p→b[j]? =some o→j≠k→a.getD j true=false→(∀e∈o.after,Region.binds .any e=true→e.on≠k)→ok.apart b o=true∧(F k).apart (F j)=true)→
     ((∀e∈op.after,Region.binds .any e=true→e.on≠k)→ok.apart b op=true∧(F k).all=false∧(F k).wr=[])→
     k∈Region.ready .any b a→aV P cfg N b k ok S=some (S1,ob,F k)→
     tB P cfg N b F p (jd P b p env0 x h') c (a.setIfInBounds k true) S1→tB P cfg N b F p (jd P b p env0 x h') (c+1) a S:=by
 intro c;induction c with
 |zero=>intro a S S1 _ _ _ _ H;exact H.elim
 |succ c ih=>
  intro a S S1 f A E I H;refine⟨fun h=>(by rw[h]at E;cases E),fun j T=> ?_⟩;by_cases d:j=k
  ·subst d;exact .inr ⟨K,ok,S1,ob,U,I,J,H⟩
  ·obtain⟨l,o,g,t⟩:=mem_ready.1 T
   have n:∀e∈o.after,Region.binds .any e=true→e.on≠k:=fun e he hb q=>by
    have C:=t e he hb;have R:=(mem_ready.1 E).1;rw[q]at C;rcases y9 k a.size with h'|h'
    ·simp[h']at R C;rw[R]at C;cases C
    ·simp[Array.getElem?_eq_none h']at C
   rcases H.2 j (ready_mono T d)with ⟨rfl,W⟩|⟨z,r,X,O,m,D,u,H2⟩
   ·left
    have e:o=op:=by rw[hp]at g;exact(Option.some.inj g).symm
    subst e;obtain⟨V,q2,q3⟩:=A n;exact⟨rfl,sG U hp I V q2 q3 W⟩
   ·right
    have q:r=o:=by rw[g]at m;exact(Option.some.inj m).symm
    subst q;obtain⟨a1,a2⟩:=f j r z g d l n;obtain⟨s,Z,k2⟩:=iz a1 a2 I D;refine⟨z,r,s,O,g,Z,u,ih (a.setIfInBounds j true) s X (fun i oi L Y M y Q=> ?_) A (ready_mono E (Ne.symm d)) k2 ?_⟩
    ·refine f i oi L Y M ?_ Q
     by_cases v:j=i
     ·subst v;exact l
     ·rw[getD_set_ne true v]at y;exact y
    ·rw[Array.setIfInBounds_comm _ _ d]
     exact H2
theorem qz{F:Nat→Foot}{p k:Nat}{ok op:Oper}{a:Array Bool}(o:b[k]? =some ok)(hp:b[p]? =some op)(h:tD b F p a k=true):
    (∀j g,j<p→b[j]? =some g→j≠k→a.getD j true=false→(∀e∈g.after,Region.binds .any e=true→e.on≠k)→ok.apart b g=true∧(F k).apart (F j)=true)∧
    ((∀e∈op.after,Region.binds .any e=true→e.on≠k)→ok.apart b op=true∧(F k).all=false∧(F k).wr=[]):=by
 simp only[tD,o,hp,xU]at h;obtain⟨c,h2⟩:=h;refine⟨fun j g m q i l d=> ?_,fun d=> ?_⟩
 ·simp only[xY,List.mem_range]at c
  have c:=c j m;simp only[q,yC,yL,i,false_or,l,yQ]at c;rcases c with c|c
  ·obtain⟨e,n,f⟩:=Array.any_eq_true'.1 c
   simp only[xU,yL]at f;exact absurd f.2 (d e n f.1)
  ·simpa using c
 ·rw[yC]at h2
  rcases h2 with h2|h2
  ·obtain⟨e,n,f⟩:=Array.any_eq_true'.1 h2
   simp only[xU,yL]at f;exact absurd f.2 (d e n f.1)
  ·simp only[xU,xu,List.isEmpty_iff]at h2
   exact⟨h2.1.1,h2.1.2,h2.2⟩
def pe(b:Array Oper)(F:Nat→Foot)(p:Nat):Nat→Nat→Array Bool→Bool
 |0,_,a=>match Region.ready .any b a with
  |[i]=>i==p
  |_=>false
 |n+1,k,a=>(Region.ready .any b a).contains k&&tD b F p a k&&pe b F p n (k+1) (a.setIfInBounds k true)
def jQ(b:Array Oper)(fts:List Foot)(p:Nat):Bool:=pe b (fun i=>(fts[i]?).getD ⟨0,[],[],false⟩) p p 0 (Array.replicate b.size false)
theorem pf{F:Nat→Foot}{p:Nat}{op:Oper}{env0:Nat→AV}{x:AV}{h':aa}(hp:b[p]? =some op):∀(n k:Nat)(a:Array Bool)(S q:St)(ob:List Obl)(fts:List Foot),k+n=p→bP P cfg N b (List.range' k n) S=some (q,ob,fts)→dg P ob→
    (∀j f,fts[j]? =some f→F (k+j)=f)→pe b F p n k a=true→jd P b p env0 x h' q→tB P cfg N b F p (jd P b p env0 x h') (n+1) a S
 |0,k,a,S,q,ob,fts,A,d,_,_,e,v=>by
  simp only[List.range'_zero,bP,xA,xC]at d;obtain⟨rfl,_,_⟩:=d;simp only[pe]at e;split at e
  ·rename_i i h
   rw[yL]at e;subst e
   exact⟨by rw[h];simp,fun j l=>by
    rw[h]at l;simp only[xH]at l;exact .inl ⟨l,v⟩⟩
  ·cases e
 |n+1,k,a,S,q,ob,fts,A,d,g,C,e,v=>by
  rw[y5]at d;simp only[bP]at d;split at d
  ·cases d
  ·rename_i o D
   split at d
   ·cases d
   ·rename_i E t
    split at d
    ·cases d
    ·rename_i M z
     simp only[xA,xC]at d;obtain⟨rfl,rfl,rfl⟩:=d;obtain⟨S1,O,m⟩:=E;obtain⟨H,u,r⟩:=M;simp only[pe,xU]at e;obtain⟨⟨L,h2⟩,I⟩:=e;have s:F k=m:=by simpa using C 0 m (by simp)
     obtain⟨J,K⟩:=qz D hp h2
     refine qy D hp (by omega) (fun c y=>g c (x0 _ y)) (n+1) a S S1 J K (by simpa using L) (by rw[s];exact t)
      (pf hp n (k+1) _ S1 H u r (by omega) z (fun c y=>g c (xc _ y)) (fun j f l=> ?_) I v)
     have:=C (j+1) f (by simpa using l);rw[←this];congr 1;omega
theorem g8{D:List Deferred}(C:eu P)(r:Option Nat)(n:Nat){F:Nat→Foot}{p:Nat}{env0:Nat→AV}{x:AV}{h':aa}{Q:Exit→Act→World→Prop}:∀(e:Nat)(c:Array Bool)(G:Gh)(w:World)(S:St)(a:Act),HR G B w0 I0 S.heap w→FR G w N D S.env a→
    tB P cfg N b F p (jd P b p env0 x h') e c S→
    (∀v l f g,Ext G w g f→HR g B w0 I0 h' f→FR g f N D (gl b env0) l→Rep g f x v→Q (.panic [{v,recovered:=false}]) l f)→∀d,e≤d→wpAnyIn (FF r) n P .any b Q d c a w
 |0,c,G,w,S,a,q,k,h,m,d,_=>h.elim
 |e+1,c,G,w,S,a,q,k,h,m,0,j=>absurd j (by omega)
 |e+1,c,G,w,S,a,q,k,h,m,d+1,j=>by
  refine⟨fun E=>absurd E h.1,fun i H=> ?_⟩;rcases h.2 i H with ⟨rfl,O⟩|⟨_,o,S1,ob,R,y,t,h2⟩
  ·exact nY r n q k O (fun v f g z s A u=>m v a f g z s A u)
  ·unfold wpOpIn
   simp only[R];exact c8 C q k y t r n (fun l f g M J L=>g8 C r n e _ g f S1 l J L h2 (fun v I K T z s A u=>m v I K T (M.trans z) s A u) d (by omega))
theorem lT{D:List Deferred}(hm:d4 P)(r:Option Nat)(n:Nat){id p:Nat}{op:Oper}{S i:St}{a:Act}{ob:List Obl}{fts:List Foot}{x:AV}{h':aa}{Q:Exit→Act→World→Prop}(t:HR G B w0 I0 S.heap w)(u:FR G w N D S.env a)
    (hp:b[p]? =some op) (e:bP P cfg N b (List.range' 0 p) S=some (i,ob,fts)) (o:jQ b fts p=true) (k:dg P ob) (z:jd P b p S.env x h' i)
    (m:∀v h c d,Ext G w d c→HR d B w0 I0 h' c→FR d c N D (gl b S.env) h→Rep d c x v→Q (.panic [{v,recovered:=false}]) h c):(Code.region id b true).wpIn (FF r) n P Q a w:=by
 refine wpIn_region_any hm.mixed ?_;have g:=pf hp p 0 (Array.replicate b.size false) S i ob fts (by omega) e k (fun j f s=>by simp[s]) o z;exact g8 hm.ext r n (p+1) _ G w.drew S a t.drew (u.mono (Ext.drew G w)) g (fun v h c d y q h2 l=>m v h c d ((Ext.drew G w).trans y) q h2 l) b.size (xG.1 hp).1
theorem pg{D:List Deferred}(F:eu P)(r:Option Nat)(n:Nat){Q:Exit→Act→World→Prop}{p:Nat}{h:List Nat}{env0:Nat→AV}{x:AV}{h':aa}:∀(l:List Nat){G:Gh}{w:World}{S S':St}{a:Act}{ob:List Obl}{fts:List Foot},
    HR G B w0 I0 S.heap w→FR G w N D S.env a→bP P cfg N b l S=some (S',ob,fts)→dg P ob→jd P b p env0 x h' S'→
    (∀v s e g,Ext G w g e→HR g B w0 I0 h' e→FR g e N D (gl b env0) s→Rep g e x v→Q (.panic [{v,recovered:=false}]) s e)→wpOpsIn (FF r) n P b Q (l ++p::h) a w
 |[],G,w,S,S',a,ob,fts,z,j,d,f,t,u=>by
  simp only[bP,xA,xC]at d;obtain⟨rfl,_,_⟩:=d;rw[yg,wpOpsIn_cons];exact nY r n z j t (fun v e g y k E m=>u v a e g y k E m)
 |i::R,G,w,S,S',a,ob,fts,z,j,d,f,t,u=>by
  simp only[bP]at d;split at d
  ·cases d
  ·rename_i o O
   split at d
   ·cases d
   ·rename_i H q
    split at d
    ·cases d
    ·rename_i V C
     simp only[xA,xC]at d;obtain⟨rfl,rfl,rfl⟩:=d;obtain⟨S1,W,T⟩:=H;obtain⟨Y,M,I⟩:=V;rw[yB,wpOpsIn_cons];unfold wpOpIn;simp only[O]
     exact c8 F z j q (fun c A=>f c (x0 _ A)) r n (fun s e g U h2 K=>
      pg F r n R h2 K C (fun c A=>f c (xc _ A)) t (fun v J L X y k E m=>u v J L X (U.trans y) k E m))
theorem ku{p m:Nat}(h:p<m):List.range m=List.range' 0 p ++p::List.range' (p+1) (m-p-1):=by
 rw[ye,show m=p+(m-p) by omega,←List.range'_append_1,show(p+(m-p))-p-1=m-p-1 by omega];congr 1;rw[show m-p=(m-p-1)+1 by omega,y5];simp
theorem qA{D:List Deferred}(hm:d4 P)(r:Option Nat)(n:Nat){id p:Nat}{op:Oper}{S h:St}{a:Act}{ob:List Obl}{fts:List Foot}{x:AV}{h':aa}{Q:Exit→Act→World→Prop}(j:HR G B w0 I0 S.heap w)(k:FR G w N D S.env a)
    (hp:b[p]? =some op) (d:bP P cfg N b (List.range' 0 p) S=some (h,ob,fts)) (f:dg P ob) (l:jd P b p S.env x h' h)
    (i:∀v g c e,Ext G w e c→HR e B w0 I0 h' c→FR e c N D (gl b S.env) g→Rep e c x v→Q (.panic [{v,recovered:=false}]) g c):(Code.region id b false).wpIn (FF r) n P Q a w:=by
 refine wpIn_region ?_;rw[ku (xG.1 hp).1];exact pg hm.ext r n _ j k d f l i
end
end Go.Avm
