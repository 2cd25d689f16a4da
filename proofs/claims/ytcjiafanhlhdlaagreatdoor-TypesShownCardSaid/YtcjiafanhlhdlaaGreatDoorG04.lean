/-
  The abstract machine, part L: one step of a region, calls of functions on data, and the steps of a region one behind the other.
-/
import Derived.Test.YtcjiafanhlhdlaaGreatDoorG03
import Derived.OrdersIn
import Derived.RangeFuncCalls
import Derived.Laws.StandIn
import Derived.Orders
set_option linter.unusedVariables false
set_option linter.unusedSimpArgs false
set_option linter.unusedSectionVars false
namespace Go.Avm
open Go.RowKit
variable[aG]
def ct(P:Program)(f:Nat):Prop:=∃fn,P.funcs[f]? =some fn∧fn.body.isNone=false∧(fn.name== "runtime.NumGoroutine")=false
def MO(P:Program)(g:Nat)(k:Ez):Prop:=∃fn,P.funcs[g]? =some fn∧(fn.name== "runtime.NumGoroutine")=false∧fn.body.isNone=true∧Extern.findNext fn=none∧match k with
 | .indexByte=>Extern.find fn=some Extern.BytealgIndexByte.indexByte
 | .same=>Extern.find fn=some Extern.AbiNoEscape.same
def iB(P:Program):Prop:=∀g k,aG.ext g=some k→MO P g k
structure jP(P:Program):Prop where
 mixed:P.follows .mixedOrders=true
 ext:iB P
def mE(I:Nat→Nat→Prop)(w:World)(a:List D)(v:Value):Prop:=
 (∃x,a=[x]∧DRep I w x v)∨(a.length≠1∧∃vs,v= .tuple vs∧vs.size=a.length∧∀(i:Nat)(x:D)(u:Value),a[i]? =some x→vs[i]? =some u→DRep I w x u)
def al(P:Program)(f:Nat)(args d:List D):Prop:=
 ct P f∧∀(w:World)(I:Nat→Nat→Prop)(a:Array Value),(∀b o,I b o→b<w.heap.size)→a.size=args.length→
  (∀(i:Nat)(x:D)(u:Value),args[i]? =some x→a[i]? =some u→DRep I w x u)→Globs I w→
  Calls P f a w fun e c=>∃v I',e= .returned v∧Below w.heap.size w c∧(∀b o,I b o→I' b o)∧(∀b o,I' b o→I b o∨w.heap.size≤b)∧
   (∀b o,I' b o→b<c.heap.size)∧mE I' c d v
def ax(P:Program)(f:Nat)(args:List AV)(h:aa)(d:List AV)(h':aa):Prop:=
 ct P f∧∀(G:Gh)(B:Nat)(w0:World)(I0:Nat→Nat→Prop)(w:World)(a:Array Value),HR G B w0 I0 h w→a.size=args.length→
  (∀(i:Nat)(x:AV)(u:Value),args[i]? =some x→a[i]? =some u→Rep G w x u)→
  Calls P f a w fun e c=>∃v b,e= .returned v∧Ext G w b c∧HR b B w0 I0 h' c∧Rep b c (iV d) v
def FF(r:Option Nat):Fence:={fn:=fun _=>True,depth:=none,alive:=false,round:=r}
def CP(P:Program)(k v:Nat)(args:List AV)(h:aa)(l:List AV)(h':aa):Prop:=
 ∀(G:Gh)(B:Nat)(w0:World)(I0:Nat→Nat→Prop)(w:World)(a:Array Value),HR G B w0 I0 h w→a.size=args.length→
  (∀(i:Nat)(x:AV)(u:Value),args[i]? =some x→a[i]? =some u→Rep G w x u)→∀b,G.mloc k v=some b→
  ∃(f:Nat)(c:Array Value)(Y0 j:Code),(Instr.yield b a).run P w= .ok (.round b f c Y0 j) w∧
   ∀r,RoundIn (FF r) 0 P b f c Y0 j w fun e d=>∃x g,e= .returned x∧Ext G w g d∧HR g B w0 I0 h' d∧Rep g d (iV l) x
theorem qP:∀(l m:List (Nat×aK))(h:aa),ag (l ++m) h=ag l (ag m h)
 |[],_,_=>rfl
 |(k,e)::r,m,h=>by simp only[x8,ag,qP r m h]
theorem qQ:∀(l:List (Nat×aK))(h:aa),ap h l=ag l.reverse h
 |[],_=>rfl
 |(k,e)::r,h=>by
  rw[ap,qQ r,List.reverse_cons,qP];rfl
theorem Bf(l:List (Nat×aK))(h:aa):ap h l.reverse=ag l h:=by rw[qQ,List.reverse_reverse]
theorem i6(h:aa):∀(l:List (Nat×aK)),(∀p∈l,p.2.ver=(h p.1).ver∧(p.2.ob=none∨p.2.ob=(h p.1).ob))→∀k,(ag l h k).ver=(h k).ver∧((ag l h k).ob=none∨(ag l h k).ob=(h k).ob)
 |[],_,_=>⟨rfl, .inr rfl⟩
 |(b,e)::r,hp,k=>by
  simp only[ag,aJ];split
  ·rename_i a;subst a;exact hp (k,e) (by simp)
  ·exact i6 h r (fun p hm=>hp p (by simp[hm])) k
theorem HR.forget{G:Gh}{B:Nat}{w0 w:World}{I0:Nat→Nat→Prop}{h h':aa}(e:HR G B w0 I0 h w)(d:∀k,(h' k).ver=(h k).ver∧((h' k).ob=none∨(h' k).ob=(h k).ob)):HR G B w0 I0 h' w:=
 ⟨e.below,e.bsz,e.immlt,e.i0,e.immlow,fun k v L f=>by rw[(d k).1];exact e.fresh k v L f,fun k L f=>by rw[(d k).1]at f;exact e.own k L f,
  fun k i L u f j=>by rw[(d k).1]at f;rw[(d i).1]at j;exact e.dis k i L u f j,fun k ob m=>by
   rw[(d k).1];rcases(d k).2 with a|a
   ·rw[a]at m;cases m
   ·rw[a]at m;exact e.objs k ob m,fun k=>by rw[(d k).1];exact e.lim k,⟨fun k v b x=>by rw[(d k).1];exact e.maps.low k v b x,fun k i b l l' x p=>by
   have o:∀k,jm (h' k).ob=true→jm (h k).ob=true:=fun k l=>by
    rcases(d k).2 with a|a
    ·rw[a]at l;cases l
    ·rw[←a];exact l
   rw[(d k).1]at x;rw[(d i).1]at p;exact e.maps.inj k i b (o k l) (o i l') x p,fun k es c x=>by
   rw[(d k).1];rcases(d k).2 with a|a
   ·rw[a]at x;cases x
   ·rw[a]at x;exact e.maps.obj k es c x,fun k n N env ps Y0 q s x=>by
   rw[(d k).1];rcases(d k).2 with a|a
   ·rw[a]at x;cases x
   ·rw[a]at x;exact e.maps.loops k n N env ps Y0 q s x,fun k t r g seen x=>by
   rw[(d k).1];rcases(d k).2 with a|a
   ·rw[a]at x;cases x
   ·rw[a]at x;exact e.maps.iters k t r g seen x,e.maps.glob⟩⟩
theorem uJ{P:Program}{g:Nat}{args e:List AV}{h c h2:aa}(d:ax P g args c e h2)(f:∀k,(c k).ver=(h k).ver∧((c k).ob=none∨(c k).ob=(h k).ob)):ax P g args h e h2:=
 ⟨d.1,fun G B w0 I0 w a j i b=>d.2 G B w0 I0 w a (j.forget f) i b⟩
def F3(P:Program)(ob:List (Nat×List D×List D)):Prop:=∀c∈ob,al P c.1 c.2.1 c.2.2
def Obl.holds(P:Program):Obl→Prop
 | .data c=>al P c.1 c.2.1 c.2.2
 | .heap f args h d h'=>ax P f args h d h'
 | .frame f args b d a=>∀h,lV h b→ax P f args h d (ag a h)
 | .exact f args b g d a e=>∀h,(∀k∈b,h k=g k)→ax P f args h d (ap h (jJ a e))
 | .yield k v args h d h'=>CP P k v args h d h'
def gz(P:Program)(ob:List Obl):Prop:=∀c∈ob,c.holds P
section
variable{P:Program}{G:Gh}{B:Nat}{w0 w:World}{I0:Nat→Nat→Prop}{h:aa}
theorem qR{w c:World}(d:Below w.heap.size w c){b o:Nat}(a:b<w.heap.size):c.cell? ⟨b,o,none⟩=w.cell? ⟨b,o,none⟩:=d.cell (p:=⟨b,o,none⟩) a
theorem HR.behind(a:HR G B w0 I0 h w){d:World}(c:Below w.heap.size w d){I':Nat→Nat→Prop}(l:∀b o,I' b o→G.imm b o∨w.heap.size≤b)(g:∀b o,I' b o→b<d.heap.size):
    HR (G.more I') B w0 I0 h d∧Ext G w (G.more I') d:=by
 have hex:Ext G w (G.more I') d:=⟨fun _ _ x=> .inl x,fun _ _ _ x=>x,fun b i x=>qR c (a.immlt b i x),c.size,fun _=>xS _,fun _ _ _ x=>x,fun _ _ _ x=>x,fun b o _ x=>⟨o,by rw[c.block b (xQ.1 x).1];exact x,eC o⟩⟩
 refine⟨⟨a.below.trans (c.mono a.bsz),yX a.bsz c.size, ?_,fun b o x=> .inl (a.i0 b o x), ?_,a.fresh, ?_,a.dis, ?_,a.lim,a.maps.step hex rfl (fun b o _ x=>(c.block b (xQ.1 x).1).trans x) (fun _=>xS _) (fun _ _ _ _=>rfl)⟩,hex⟩
 ·rintro b o (x|x)
  ·exact yK (a.immlt b o x) c.size
  ·exact g b o x
 ·rintro b o (x|x) hbB
  ·exact a.immlow b o x hbB
  ·rcases l b o x with x|x
   ·exact a.immlow b o x hbB
   ·have:=a.bsz;omega
 ·intro k L f
  obtain⟨m,⟨arr,e,h2,n⟩,j⟩:=a.own k L f;have gn:=a.blt f;refine⟨m,⟨arr,e,(c.block L.b gn).trans h2,n⟩, ?_⟩;rintro o (x|x)
  ·exact j o x
  ·rcases l _ o x with x|x
   ·exact j o x
   ·omega
 ·intro k ob p
  exact(a.objs k ob p).mono (a.le k) hex (fun L f t=>qR c (a.blt f))
theorem wM{x:D}(b:x.scal=true){I:Nat→Nat→Prop}{w:World}{v:Value}(d:DRep I w x v)(c:Nat→Nat→Prop)(a:World):DRep c a x v:=by
 cases x<;>first|(cases d;first|exact .bool _|exact .int _ _|exact .str _ _ ‹_›|exact .nilp|exact .nili|exact .ifc _ _)|(simp[D.scal]at b)
theorem tx{a:List D}{v:Value}(j:mE G.imm w a v):Rep G w (kB a) v:=by
 rcases j with ⟨x,rfl,b⟩|⟨g,vs,rfl,f,b⟩
 ·exact .d b
 ·have:kB a= .tup (a.map .d):=by
    unfold kB;split
    ·simp at g
    ·rfl
  rw[this];refine .tup _ vs (by simpa using f) (fun i c u e k=> ?_);simp only[xP,xB]at e;obtain⟨x,l,rfl⟩:=e;exact .d (b i x u l k)
theorem dq{f:Nat}(d:ct P f)(args:Array Value)(w:World):(callFunc f args).run P w= .ok (.enter f args) w:=by
 obtain⟨fn,c,a,b⟩:=d;simp only[callFunc,Sem.run_bind,run_program,Result.andThen_ok,c,b,a,yz,zS,Sem.run_pure]
theorem uK(m:HR G B w0 I0 h w){cfg:hQ}{i f:Nat}{xs:List AV}{vs:Array Value}(S:vs.size=xs.length)(l:∀(i:Nat)(x:AV)(u:Value),xs[i]? =some x→vs[i]? =some u→Rep G w x u){out:Out}
    (g:hA cfg i f xs h=some out) (s:F3 P out.ob):
    ct P f∧Calls P f vs w fun e n=>∃v R,e= .returned v∧Ext G w R n∧HR R B w0 I0 (ap h out.wr) n∧Rep R n out.val v:=by
 unfold hA at g;split at g
 ·rename_i ds E
  simp only[xA]at g;subst g;obtain⟨K,h2⟩:=qy E S l;obtain⟨Q,c⟩:=s (f,ds,cfg.ret i) (by simp);refine⟨Q,(c w G.imm vs m.immlt K h2 m.maps.glob).mono ?_⟩;rintro e n ⟨v,I',rfl,F,I,z,t,d⟩;obtain⟨H,J⟩:=m.behind F z t;refine⟨v,_,rfl,J,H,tx ?_⟩;have up:∀{x:D}{u:Value},DRep I' n x u→DRep (G.more I').imm n x u:=fun j=>j.mono (fun _ _ x=> .inr x) (fun _ _ _=>rfl)
  rcases d with ⟨x,l,j⟩|⟨O,C,N,M,j⟩
  ·exact .inl ⟨x,l,up j⟩
  ·exact .inr ⟨O,C,N,M,fun i x u a b=>up (j i x u a b)⟩
 ·split at g
  ·rename_i r p
   split at g
   ·rename_i q
    simp only[xA]at g;subst g;obtain⟨ds,ks⟩:=r;obtain⟨K,h2⟩:=wy m p S l;obtain⟨Q,c⟩:=s (f,ds,cfg.ret i) (by simp)
    have y:∀b o,dD G h ks b o→b<w.heap.size:=by
     rintro b o (x|⟨k,_,L,T,rfl⟩)
     ·exact m.immlt b o x
     ·exact m.blt T
    refine⟨Q,(c w (dD G h ks) vs y K h2 (m.maps.glob.mono (fun _ _ x=> .inl x) (fun _ _ _=>rfl))).mono ?_⟩;rintro e n ⟨v,I',rfl,F,I,z,t,d⟩;obtain⟨H,J⟩:=m.behind F (I':=fun _ _=>False) (fun _ _ x=>x.elim) (fun _ _ x=>x.elim);refine⟨v,_,rfl,J,H,tx ?_⟩;have sc:∀x∈cfg.ret i,x.scal=true:=fun x l=>xa.1 q x l
    rcases d with ⟨x,l,j⟩|⟨O,C,N,M,j⟩
    ·exact .inl ⟨x,l,wM (sc x (by have A:cfg.ret i=[x]:=l;rw[A];simp)) j _ _⟩
    ·exact .inr ⟨O,C,N,M,fun i x u a b=>wM (sc x (x5 a)) (j i x u a b) _ _⟩
   ·cases g
  ·cases g
def CQ(P:Program)(B:Nat)(w0:World)(I0:Nat→Nat→Prop)(G:Gh)(h:aa)(w:World)(out:Out)(r:Result Next):Prop:=
 Good P B w0 I0 G h w r out∨∃f args,r= .ok (.enter f args) w∧Calls P f args w fun e b=>∃v a,e= .returned v∧Ext G w a b∧HR a B w0 I0 (ap h out.wr) b∧Rep a b out.val v
theorem aW(d:HR G B w0 I0 h w){s:Sem Value}{out:Out}{v:Value}(a:s.run P w= .ok v w)(b:out.wr=[])(c:Rep G w out.val v):CQ P B w0 I0 G h w out ((do pure (.value (←s)):Sem Next).run P w):=
 .inl (Good.pure d (by simp[a]) b c)
theorem dG{s:Sem Value}{out:Out}(e:∃v a c,s.run P w= .ok v a∧Ext G w c a∧HR c B w0 I0 (ap h out.wr) a∧Rep c a out.val v):CQ P B w0 I0 G h w out ((do pure (.value (←s)):Sem Next).run P w):=by
 obtain⟨v,a,c,b,d,h2,f⟩:=e;exact .inl ⟨v,a,c, .inl (by simp[b]),d,h2,f⟩
theorem dT(c:Call)(b:Builtin)(ty:TypeId)(ρ:Operand→Value)(a:c.callee= .builtin b):(do let d ←resolve ρ c ty;invoke d.target d.args:Sem Next).run P w=
    (builtin b c.argTypes ty (c.args.map fun| .const _=>true|_=>false) (c.args.map ρ)).run P w:=by
 simp only[resolve,a,pure_bind,invoke];rfl
theorem jr{c:Call}{ty:TypeId}{j:Operand→AV}{ρ:Operand→Value}(o:∀x,Rep G w (j x) (ρ x)){f:Operand}(p:c.callee= .value f){g:Nat}{e:List AV}(D:j f= .fn g e):
    ∃vs:Array Value,(c.args.map ρ ++vs).size=(c.args.toList.map j ++e).length∧
     (∀(i:Nat)(x:AV)(u:Value),(c.args.toList.map j ++e)[i]? =some x→(c.args.map ρ ++vs)[i]? =some u→Rep G w x u)∧
     (do let d ←resolve ρ c ty;invoke d.target d.args:Sem Next).run P w=(callFunc g (c.args.map ρ ++vs)).run P w:=by
 have k:=o f;rw[D]at k
 obtain⟨vs,v,t,s⟩:∃vs:Array Value,ρ f= .func (.func g) #[] vs∧vs.size=e.length∧∀(i:Nat)(x:AV)(u:Value),e[i]? =some x→vs[i]? =some u→Rep G w x u:=by
  generalize ρ f=E at k;cases k with
  |fn _ _ vs t z=>exact⟨vs,rfl,t,z⟩
 have r:(c.args.map ρ ++vs).size=(c.args.toList.map j ++e).length:=by simp[t]
 have n:∀(i:Nat)(x:AV)(u:Value),(c.args.toList.map j ++e)[i]? =some x→(c.args.map ρ ++vs)[i]? =some u→Rep G w x u:=by
  intro i x u l m;by_cases y:i<c.args.size
  ·rw[xU (by simpa using y)]at l
   rw[yT (by simpa using y)]at m;simp only[xP,xe,xB]at l;simp only[yy,xB]at m;obtain⟨a,A,rfl⟩:=l;obtain⟨b,q,rfl⟩:=m;rw[A]at q;simp only[xA]at q;subst q;exact o a
  ·rw[xV (by simp;omega)]at l
   rw[Array.getElem?_append_right (by simp;omega)]at m;simp only[xO,xg]at l;simp only[Array.size_map]at m;exact s _ x u l m
 refine⟨vs,r,n, ?_⟩
 have C:resolve ρ c ty=pure {target:= .fn (.func g) vs,args:= #[] ++c.args.map ρ}:=by
  simp only[resolve,p,v,Deferred.ofValue]
 rw[C,pure_bind];simp only[invoke,Array.empty_append]
theorem nl(s:List UInt8)(c:UInt8):∀(n i:Nat),s.length-i=n→i≤s.length→((List.range' i n).find? fun j=>s[j]! ==c)=m8 c (s.drop i) i
 |0,i,h,d=>by
  rw[List.drop_eq_nil_of_le (by omega)];rfl
 |n+1,i,h,d=>by
  have a:i<s.length:=by omega
  rw[zP,List.find?_cons,yL a];simp only[m8];have e:s[i]! =s[i]:=getElem!_pos s i a;rw[e];by_cases b:s[i]==c
  ·simp[b]
  ·simp only[b,yz,zS]
   exact nl s c n (i+1) (by omega) (by omega)
theorem Bg{k:Ez}{g:Nat}(A:MO P g k){ds:List D}{args:Array Value}(b:args.size=ds.length){imm:Nat→Nat→Prop}(r:∀(i:Nat)(x:D)(u:Value),ds[i]? =some x→args[i]? =some u→DRep imm w x u){d:D}(e:NU k ds=some d):
    ∃v,(callFunc g args).run P w= .ok (.value v) w∧DRep imm w d v:=by
 obtain⟨fn,E,h2,H,t,I⟩:=A;unfold NU at e;split at e
 ·rename_i s c
  simp only[xA]at e;subst e;have C:args[0]? =some (args[0]'(by simp at b;omega)):=xJ _;have F:args[1]? =some (args[1]'(by simp at b;omega)):=xJ _;have o:=r 0 _ _ rfl C;have p:=r 1 _ _ rfl F
  have l:args= #[args[0]'(by simp at b;omega),args[1]'(by simp at b;omega)]:=by
   apply Array.ext
   ·simpa using b
   ·intro i y m
    match i with
    |0=>rfl
    |1=>rfl
    |i+2=>simp at m;omega
  generalize args[0]'(by simp at b;omega)=K at l o;generalize args[1]'(by simp at b;omega)=J at l p;subst l;cases o with
  |str _ a n=>
  subst n;cases p;refine⟨_, ?_, .int .i64 _⟩;rw[run_callFunc_indexByte E h2 H t I,run_indexByte_string];simp only[Result.andThen_ok];congr 3;unfold firstIdx;have:=nl a.data.toList c.toNat.toUInt8 a.size 0 (by simp) (by simp);rw[yM]at this;rw[←this,List.range_eq_range']
  have z:(fun i:Nat=>a[i]! ==c.toNat.toUInt8)=(fun j:Nat=>a.data.toList[j]! ==c.toNat.toUInt8):=by
   funext j
   have:a[j]! =a.data.toList[j]! :=by
    by_cases f:j<a.size
    ·rw[getElem!_pos a j f,getElem!_pos a.data.toList j (by simpa using f)]
     simp only[ye];rfl
    ·rw[getElem!_neg a j f,getElem!_neg a.data.toList j (by simpa using f)]
   rw[this]
  rw[z];generalize List.find? _ _=q;cases q<;>rfl
 ·cases e
theorem qS(V:iB P)(u:HR G B w0 I0 h w){cfg:hQ}{i k:Nat}{c:Call}{ty:TypeId}{J:Operand→AV}{ρ:Operand→Value}(o:∀x,Rep G w (J x) (ρ x)){out:Out}(j:a7 P cfg i c J h k=some out)(L:F3 P out.ob):
    CQ P B w0 I0 G h w out ((do let d ←resolve ρ c ty;invoke d.target d.args:Sem Next).run P w):=by
 have arr:∀{W:Type}(a:Array W)(l:List W),a.toList=l→a=l.toArray:=fun a l e=>by rw[←e]
 unfold a7 at j;split at j
 ·rename_i m
  rw[dT c .len ty ρ m];split at j
  ·rename_i x t b z
   rw[arr _ _ b,arr _ _ z,show Array.map ρ [x].toArray= #[ρ x]from by simp];split at j
   ·rename_i X v0 Q
    obtain⟨_,E,v,p,A⟩:=qO (P:=P) u (by rw[←Q];exact o x) j;exact aW u (s:=Builtin.len_ #[t] ty #[ρ x]) (p ty) E A
   ·obtain⟨_,E,v,p,A⟩:=wG (P:=P) (o x) j
    exact aW u (s:=Builtin.len_ #[t] ty #[ρ x]) (p ty) E A
  ·cases j
 ·rename_i m
  rw[dT c .min ty ρ m];split at j
  ·rename_i x y b
   obtain⟨_,E,v,p,A⟩:=kQ (P:=P) (o x) (o y) j;rw[arr _ _ b,show Array.map ρ [x,y].toArray= #[ρ x,ρ y]from by simp];exact aW u (s:=Builtin.min_ c.argTypes ty #[ρ x,ρ y]) (by simpa using p c.argTypes ty) E A
  ·cases j
 ·rename_i m
  rw[dT c .max ty ρ m];split at j
  ·rename_i x y b
   obtain⟨_,E,v,p,A⟩:=kQ (P:=P) (o x) (o y) j;rw[arr _ _ b,show Array.map ρ [x,y].toArray= #[ρ x,ρ y]from by simp];exact aW u (s:=Builtin.max_ c.argTypes ty #[ρ x,ρ y]) (by simpa using p c.argTypes ty) E A
  ·cases j
 ·rename_i m
  rw[dT c .append ty ρ m];split at j
  ·rename_i s x t R b z
   split at j
   ·rename_i D
    rw[arr _ _ b,arr _ _ z,show Array.map ρ [s,x].toArray= #[ρ s,ρ x]from by simp];split at j
    ·rename_i I K
     simp only[xA]at j;subst j;exact dG (s:=Builtin.append_ #[t,R] ty #[ρ s,ρ x]) (pJ u D (o s) (o x) K).2
    ·split at j
     ·rename_i I K
      simp only[xA]at j;subst j;exact dG (s:=Builtin.append_ #[t,R] ty #[ρ s,ρ x]) (pK u D (o s) (o x) K).2
     ·exact dG (s:=Builtin.append_ #[t,R] ty #[ρ s,ρ x]) (pL u D (o s) (o x) j).2
   ·cases j
  ·cases j
 ·rename_i m
  rw[dT c .unsafeSliceData ty ρ m];split at j
  ·rename_i x b
   simp only[xB]at j;obtain⟨y,hy,rfl⟩:=j;rw[arr _ _ b,show Array.map ρ [x].toArray= #[ρ x]from by simp];obtain⟨v,p,A⟩:=ni (P:=P) (o x) hy c.argTypes ty;exact aW u (s:=Builtin.unsafeSliceData_ c.argTypes ty #[ρ x]) p rfl A
  ·cases j
 ·rename_i m
  rw[dT c .unsafeString ty ρ m];split at j
  ·rename_i x n pt it b z
   rw[arr _ _ b,arr _ _ z,show Array.map ρ [x,n].toArray= #[ρ x,ρ n]from by simp];exact dG (s:=Builtin.unsafeString_ #[pt,it] ty #[ρ x,ρ n]) (kR u (o x) (o n) j).2
  ·cases j
 ·rename_i f m
  split at j
  ·rename_i g U hf
   obtain⟨vs,C,r,q⟩:=jr (P:=P) (w:=w) (ty:=ty) o m hf;split at j
   ·rename_i F
    split at j
    ·rename_i x T
     simp only[xA]at j;subst j;rw[T]at C r;obtain⟨fn,h1,h2,h3,Y,h5⟩:=V g _ F
     have b:∃v,c.args.map ρ ++vs= #[v]:=by
      have:(c.args.map ρ ++vs).size=1:=C
      exact⟨(c.args.map ρ ++vs)[0],by apply Array.ext; · simpa using this
                                      ·intro i Z S
                                       have:i=0:=by simp at S;omega
                                       subst this;rfl⟩
     obtain⟨v,A⟩:=b;rw[A]at r q;refine .inl (Good.pure u (v:=v) ?_ rfl (r 0 x v rfl rfl));rw[q,run_callFunc_extern h1 h2 h3 Y h5];rfl
    ·cases j
   ·rename_i X _ F
    split at j
    ·rename_i ds N
     simp only[xB]at j;obtain⟨d,hd,rfl⟩:=j;obtain⟨t1,t2⟩:=qy N C r;obtain⟨v,O,M⟩:=Bg (V g X F) t1 t2 hd;refine .inl (Good.pure u (v:=v) ?_ rfl (.d M));rw[q];exact O
    ·cases j
   ·obtain⟨hc,H⟩:=uK u C r j L
    exact .inr ⟨g,c.args.map ρ ++vs,by rw[q];exact dq hc _ w,H⟩
  ·cases j
 ·cases j
theorem Bh(V:iB P)(z:HR G B w0 I0 h w){cfg:hQ}{i:Nat}{o:Oper}{I:Operand→AV}{ρ:Operand→Value}(n:∀x,Rep G w (I x) (ρ x)){out:Out}(s:bU P cfg i o I h=some out)(hob:F3 P out.ob):
    CQ P B w0 I0 G h w out ((execOp ρ o).run P w):=by
 have K:∀(ps:Array (Nat×Operand)),(ps.map fun p=>(p.1,ρ p.2)).size=(ps.toList.map fun p=>(p.1,I p.2)).length∧
     ∀(i:Nat)(p:Nat×AV)(q:Nat×Value),(ps.toList.map fun p=>(p.1,I p.2))[i]? =some p→(ps.map fun p=>(p.1,ρ p.2))[i]? =some q→p.1=q.1∧Rep G w p.2 q.2:=by
  intro ps;refine⟨by simp,fun i p q hp hq=> ?_⟩;simp only[xP,xe,xB]at hp;simp only[yy,xB]at hq;obtain⟨a,O,rfl⟩:=hp;obtain⟨b,D,rfl⟩:=hq;rw[O]at D;simp only[xA]at D;subst D;exact⟨rfl,n _⟩
 have C:∀(x:Option Operand),(∀y,x.map I=some y→∃v,x.map ρ=some v∧Rep G w y v)∧(x.map I=none→x.map ρ=none):=by
  intro x;cases x with
  |none=>exact⟨fun y N=>by simp at N,fun _=>rfl⟩
  |some x=>exact⟨fun y N=>by simp at N;subst N;exact⟨_,rfl,n x⟩,fun hn=>by simp at hn⟩
 unfold bU at s;unfold execOp;split at s
 ·rename_i x g;rw[g]
  simp only[xA]at s;subst s;exact .inl (Good.pure z rfl rfl (n x))
 ·rename_i x g;rw[g]
  simp only[xA]at s;subst s;exact .inl (Good.pure z rfl rfl (n x))
 ·rename_i c a b g;rw[g]
  split at s
  ·rename_i t hc
   simp only[xA]at s;subst s;have U:=n c;rw[hc]at U;cases U with
   |d Z=>
    generalize hvc:ρ c=vc at Z;cases Z;refine .inl (Good.pure z (v:=if t=true then ρ a else ρ b) (by simp[hvc,asBool]) rfl ?_);cases t
    ·exact n b
    ·exact n a
  ·cases s
 ·rename_i t g;rw[g]
  exact dG (qA z _ s).2
 ·rename_i t x g;rw[g]
  exact dG (uE z _ (n x) s).2
 ·rename_i t x g;rw[g]
  simp only[xB]at s;obtain⟨y,N,rfl⟩:=s;obtain⟨v,e,A⟩:=nj (P:=P) (n x) N;exact aW z e rfl A
 ·rename_i x xT t ok g;rw[g]
  simp only[xB]at s;obtain⟨y,N,rfl⟩:=s;obtain⟨v,e,A⟩:=qH (P:=P) (xT:=xT) (n x) N;exact aW z e rfl A
 ·rename_i t ps g;rw[g]
  obtain⟨M,h2⟩:=K ps
  obtain⟨_,H,v,e,A⟩:=sU s (by rw[xO];exact M) (fun i p q hp hq=>by
   simp only[xP,xB]at hp;obtain⟨p',hp',rfl⟩:=hp;have:=h2 i p' q (by simpa only[xP,xB]using hp') hq;exact⟨this.1,this.2.frz⟩)
  exact aW z e H A
 ·rename_i t len ps g;rw[g]
  obtain⟨M,h2⟩:=K ps;exact dG (mA z s M h2).2
 ·rename_i t a g;rw[g]
  obtain⟨v,e,H,_,A⟩:=jN z (n a) s;exact aW z e H A
 ·rename_i t a x g;rw[g]
  obtain⟨_,F,T,e,M,h2⟩:=sV z (n a) (n x) s;exact .inl ⟨undef,T,G, .inr ⟨by simp[e],rfl⟩,M,h2,by rw[F];exact .junk _⟩
 ·rename_i x g;rw[g]
  split at s
  ·rename_i k v j off sz0 V
   simp only[xA]at s;subst s;have E:=n x;rw[V]at E
   obtain⟨a,O⟩:∃a,ρ x= .pointer (some a):=by
    generalize ρ x=vx at E;cases E;exact⟨_,rfl⟩
   exact .inl (Good.pure z (v:=ρ x) (by simp[O]) rfl E)
  ·rename_i cs V
   simp only[xA]at s;subst s;have E:=n x;rw[V]at E
   obtain⟨a,O⟩:∃a,ρ x= .pointer (some a):=by
    generalize ρ x=vx at E;cases E with|d Z=>cases Z;exact⟨_,rfl⟩
   exact .inl (Good.pure z (v:=ρ x) (by simp[O]) rfl E)
  ·cases s
 ·rename_i op t x y yt g;rw[g]
  split at s
  ·rename_i r D
   simp only[xA]at s;subst s;obtain⟨v,R,e,A⟩:=wC (P:=P) (t:=t) (n x) (n y) D;exact .inl (Good.pure z (v:=v) (by simp[R x y,e]) rfl A)
  ·split at s
   ·simp only[xB]at s
    obtain⟨b,D,rfl⟩:=s;obtain⟨R,e⟩:=pf (op:= .eql) (n x) (n y) D (.inl rfl);exact .inl (Good.pure z (v:= .bool b) (by simp[R,e]) rfl (.d (.bool _)))
   ·simp only[xB]at s
    obtain⟨b,D,rfl⟩:=s;obtain⟨R,e⟩:=pf (op:= .neq) (n x) (n y) D (.inr rfl);exact .inl (Good.pure z (v:= .bool (!b)) (by simp[R,e]) rfl (.d (.bool _)))
   ·cases s
 ·rename_i op t x g;rw[g]
  simp only[xB]at s;obtain⟨r,D,rfl⟩:=s;obtain⟨v,e,A⟩:=Bc (P:=P) (n x) D;exact aW z e rfl A
 ·rename_i src dst x g;rw[g]
  unfold qv at s;split at s
  ·rename_i X J
   simp only[xA]at s;subst s;exact dG (nk z (n x) J).2
  split at s
  ·rename_i v0 hv0
   simp only[xA]at s;subst s;obtain⟨v,e,A⟩:=pO (n x) hv0;exact aW z e rfl A
  split at s
  ·rename_i r D
   simp only[xA]at s;subst s;obtain⟨v,e,A⟩:=pI (P:=P) (n x) D;exact aW z e rfl A
  split at s
  ·rename_i X J
   simp only[xA]at s;subst s;exact dG (oq z (n x) J).2
  ·obtain⟨H,v,e,A⟩:=pN z (n x) s
   exact aW z e H A
 ·rename_i f first S g;rw[g]
  split at s
  ·rename_i hfe
   simp only[xA]at s;subst s;have hf0:first= #[]:=by simpa using hfe
   subst hf0;refine aW z (v:= .func (.func f) #[] (S.map ρ)) (by simp[Instr.makeFunc]) rfl (.fn f _ _ (by simp) (fun i c u hc W=> ?_));simp only[xP,xe,xB]at hc;simp only[yy,xB]at W;obtain⟨a,O,rfl⟩:=hc;obtain⟨b,D,rfl⟩:=W;rw[O]at D;simp only[xA]at D;subst D;exact n a
  ·cases s
 ·rename_i t l c g;rw[g]
  exact dG (nh z (n l) (n c) s).2
 ·rename_i t x lo hi mx g;rw[g]
  obtain⟨_,H,v,e,A⟩:=sX (n x) (C lo).1 (C lo).2 (C hi).1 (C hi).2 (C mx).1 (C mx).2 s;exact aW z e H A
 ·rename_i t x f g;rw[g]
  obtain⟨_,H,v,e,A⟩:=ng z (n x) s;exact aW z e H A
 ·rename_i t x f g;rw[g]
  obtain⟨_,H,v,e,A⟩:=sW (P:=P) (n x) s;exact aW z e H A
 ·rename_i t x L g;rw[g]
  obtain⟨_,H,v,e,A⟩:=nc z (n x) (n L) s;exact aW z e H A
 ·rename_i t g;rw[g]
  exact dG (pM z s).2
 ·rename_i t m k x g;rw[g]
  obtain⟨_,F,T,e,M,h2⟩:=i5 z (n m) (n k) (n x) s;exact .inl ⟨undef,T,G, .inr ⟨by simp[e],rfl⟩,M,h2,by rw[F];exact .junk _⟩
 ·rename_i t m k x g;rw[g]
  obtain⟨_,F,T,e,M,h2⟩:=i5 z (n m) (n k) (n x) s;exact .inl ⟨undef,T,G, .inr ⟨by simp[e],rfl⟩,M,h2,by rw[F];exact .junk _⟩
 ·rename_i t m k ok g;rw[g]
  obtain⟨_,H,v,e,A⟩:=qM z (n m) (n k) s;exact aW z e H A
 ·rename_i t x L g;rw[g]
  simp only[xB]at s;obtain⟨r,D,rfl⟩:=s;obtain⟨v,e,A⟩:=sY (P:=P) (n x) (n L) D;exact aW z e rfl A
 ·rename_i t L g;rw[g]
  split at s
  ·rename_i vs ht
   simp only[xB]at s;obtain⟨v,A,rfl⟩:=s;have Q:=n t;rw[ht]at Q;generalize hvt:ρ t=vt at Q;cases Q with
   |tup _ Y hl hh=>
    have hlt:L<Y.size:=by rw[hl];exact(xE.1 A).1
    have W:Y[L]? =some Y[L]:=xJ hlt;exact aW z (v:=Y[L]) (by simp[Instr.extract,hvt,W]) rfl (hh L v _ A W)
  ·cases s
 ·rename_i c g;rw[g]
  exact qS V z n s hob
 ·cases s
theorem p6{N:Nat}{D:List Deferred}{n:Array Oper}{o:Oper}{S:Nat→AV}{a:Act}(m:FR G w N D S a){b:Bool}(c:er n o S=some b):Region.wanted o (yielded n a.tmps)=b:=by
 unfold er at c;unfold Region.wanted;split at c
 ·simp only[xA]at c;rename_i q;rw[q];exact c
 ·rename_i j i q
  rw[q];split at c
  ·rename_i t s
   split at c
   ·rename_i r k
    simp only[xA]at c
    have f:t<N:=by
     rcases yJ t N with l|l
     ·exact l
     ·have:=m.out t l;rw[this]at k;cases k
    have g:=m.rep t f;rw[k]at g
    have p:a.tmps[t]? =some (.bool r):=by
     have e:t<a.tmps.size:=by rw[m.size];exact f
     rw[xq,xJ e,zN]at g;rw[xJ e];generalize a.tmps[t]=v at g;cases g with|d u=>cases u;rfl
    simp only[yielded,s,yA,p];rw[←c];cases r<;>cases i<;>rfl
   ·rename_i k
    simp only[xA]at c
    have f:t<N:=by
     rcases yJ t N with l|l
     ·exact l
     ·have:=m.out t l;rw[this]at k;cases k
    have g:=m.rep t f;rw[k]at g
    have p:a.tmps[t]? =some (.tuple #[]):=by
     have e:t<a.tmps.size:=by rw[m.size];exact f
     rw[xq,xJ e,zN]at g;rw[xJ e];generalize a.tmps[t]=v at g;cases g with
     |tup _ vs x _=>
      have:vs= #[]:=by simpa using x
      rw[this]
    simp only[yielded,s,yA,p];rw[←c];cases i<;>rfl
   ·cases c
  ·cases c
theorem uL{f:FuncId}{args:Array Value}{R:Ending→World→Prop}(r:Option Nat)(n:Nat)(h:Calls P f args w R):CallsIn (FF r) n P f args w R:=by
 have h':=(callsIn_wide (n:=n)).2 h;cases r with
 |none=>exact h'
 |some l=>exact CallsIn.inRound l h'
theorem qU{cfg:hQ}{i:Nat}{o:Oper}{ρ:Operand→AV}{out:Out}(a:bU P cfg i o ρ h=some out):∀c,o.op≠ .defer c:=fun c e=>by
 unfold bU at a;rw[e]at a;cases a
theorem qW{o:Oper}{a:Act}{v:Value}{d:World}{next:Act→World→Prop}{Q:Exit→Act→World→Prop}(r:Option Nat)(n:Nat)(f:∀c,o.op≠ .defer c)(b:(execOp a.eval o).run P w= .ok (.value v) d)(e:next (a.put o.dst v) d):o.wpIn (FF r) n P a w next Q:=
 ⟨fun _ _=>trivial,by rw[Oper.semAt_eq _ _ _ f,b];exact e⟩
theorem Bi{o:Oper}{a:Act}{d:World}{next:Act→World→Prop}{Q:Exit→Act→World→Prop}(r:Option Nat)(n:Nat)(f:∀c,o.op≠ .defer c)(b:(execOp a.eval o).run P w= .ok .skip d)(e:next (a.put o.dst undef) d):o.wpIn (FF r) n P a w next Q:=
 ⟨fun _ _=>trivial,by rw[Oper.semAt_eq _ _ _ f,b];exact e⟩
theorem jQ{o:Oper}{a:Act}{f:FuncId}{args:Array Value}{i:World}{next:Act→World→Prop}{Q:Exit→Act→World→Prop}{R:Ending→World→Prop}(r:Option Nat)(n:Nat)(l:∀c,o.op≠ .defer c)(d:(execOp a.eval o).run P w= .ok (.enter f args) i)
    (b:Calls P f args i R) (j:∀e g,R e g→∃v,e= .returned v∧next (a.put o.dst v) g):o.wpIn (FF r) n P a w next Q:=
 ⟨fun _ _=>trivial,by
  rw[Oper.semAt_eq _ _ _ l,d,Oper.uponIn_enter];refine⟨fun x=>(by cases x),(uL r (n-1) b).mono ?_⟩;intro e g k;obtain⟨v,rfl,h⟩:=j e g k;exact h⟩
theorem Bj{o:Oper}{a:Act}{l f:Nat}{b:Array Value}{Y0 m:Code}{k:World}{next:Act→World→Prop}{Q:Exit→Act→World→Prop}{R:Ending→World→Prop}(r:Option Nat)(n:Nat)(p:∀c,o.op≠ .defer c)(i:(execOp a.eval o).run P w= .ok (.round l f b Y0 m) k)
    (g:RoundIn (FF r) 0 P l f b Y0 m k R) (q:∀e j,R e j→∃v,e= .returned v∧next (a.put o.dst v) j):o.wpIn (FF r) n P a w next Q:=
 ⟨fun _ _=>trivial,by
  rw[Oper.semAt_eq _ _ _ p,i,Oper.uponIn_round];refine⟨fun x=>(by cases x), ?_⟩;have h2:RoundIn (FF r) (n-1) P l f b Y0 m k R:=⟨g.1,fun c cs _=>g.2 c cs (fun d p=>by cases p)⟩
  refine h2.mono ?_;intro e j s;obtain⟨v,rfl,h⟩:=q e j s;exact h⟩
theorem Bk{c:Call}{ty:TypeId}{e:Operand→AV}{ρ:Operand→Value}(m:∀x,Rep G w (e x) (ρ x)){f:Operand}(l:c.callee= .value f){k v:Nat}(s:e f= .yld k v):
    ∃b,G.mloc k v=some b∧(c.args.map ρ).size=(c.args.toList.map e).length∧
     (∀(i:Nat)(x:AV)(u:Value),(c.args.toList.map e)[i]? =some x→(c.args.map ρ)[i]? =some u→Rep G w x u)∧
     (do let d ←resolve ρ c ty;invoke d.target d.args:Sem Next).run P w=(Instr.yield b (c.args.map ρ)).run P w:=by
 have g:=m f;rw[s]at g
 obtain⟨b,n,j⟩:∃b,ρ f= .func (.yield b) #[] #[]∧G.mloc k v=some b:=by
  generalize ρ f=t at g;cases g with
  |yld _ _ b j=>exact⟨b,rfl,j⟩
 refine⟨b,j,by simp,fun i x u p o=> ?_, ?_⟩
 ·simp only[xP,xe,xB]at p
  simp only[yy,xB]at o;obtain⟨a,q,rfl⟩:=p;obtain⟨b,j,rfl⟩:=o;rw[q]at j;simp only[xA]at j;subst j;exact m a
 ·have r:resolve ρ c ty=pure {target:= .fn (.yield b) #[],args:= #[] ++c.args.map ρ}:=by
    simp only[resolve,l,n,Deferred.ofValue]
  rw[r,pure_bind];simp[invoke]
theorem fH{S S':St}{D:List Deferred}(hx:iB P)(J:HR G B w0 I0 S.heap w){cfg:hQ}{N i:Nat}{U:Array Oper}{o:Oper}{a:Act}(A:FR G w N D S.env a){ob:List Obl}{ft:Foot}
    (q:cd P cfg N U i o S=some (S',ob,ft)) (H:gz P ob) {next:Act→World→Prop} {Q:Exit→Act→World→Prop} (r:Option Nat) (n:Nat)
    (p:∀a' K M,Ext G w M K→HR M B w0 I0 S'.heap K→FR M K N D S'.env a'→next a' K):
    if Region.wanted o (yielded U a.tmps)then o.wpIn (FF r) n P a w next Q else (∀f,o.about P w a.eval=some f→(FF r).fn f)∧next (a.put o.dst undef) w:=by
 unfold cd at q;split at q
 ·rename_i hw
  rw[x9 (p6 A hw)];split at q
  ·rename_i V h' tk X
   split at q;case isFalse=>cases q
   split at q
   ·rename_i g args d
    simp only[xB,xG]at q;obtain⟨env,hp,rfl,rfl,rfl⟩:=q;obtain⟨F,j⟩:=H _ (xK.2 rfl);unfold dZ at d;split at d
    ·rename_i c t
     split at d
     ·rename_i f u
      split at d
      ·rename_i Y R C
       simp only[xA,xG]at d;obtain⟨rfl,rfl⟩:=d;obtain⟨vs,z,s,m⟩:=jr (P:=P) (ty:=o.type) (ρ:=a.eval) (fun x=>A.opd J.maps.glob x) u C
       have l:(execOp a.eval o).run P w= .ok (.enter Y (c.args.map a.eval ++vs)) w:=by
        unfold execOp;rw[t];exact m.trans (dq F _ w)
       refine jQ r n (fun c e=>by rw[t]at e;cases e) l (j G B w0 I0 w _ J z s) ?_;rintro e K ⟨v,M,rfl,y,h2,L⟩;exact⟨v,rfl,p _ _ _ y h2 ((A.mono y).put hp L)⟩
      ·cases d
     ·cases d
    ·cases d
   ·split at q
    ·rename_i k v args d
     simp only[xB,xG]at q;obtain⟨env,hp,rfl,rfl,rfl⟩:=q;have j:CP P k v args S.heap V h':=H _ (xK.2 rfl);unfold pb at d;split at d
     ·rename_i c t
      split at d
      ·rename_i f u
       split at d
       ·rename_i k' v' C
        simp only[xA,xG]at d;obtain⟨rfl,rfl,rfl⟩:=d;obtain⟨b,hb,z,s,m⟩:=Bk (P:=P) (ty:=o.type) (ρ:=a.eval) (fun x=>A.opd J.maps.glob x) u C;obtain⟨f',W,Y0,bd,hy,O⟩:=j G B w0 I0 w _ J z s b hb
        have l:(execOp a.eval o).run P w= .ok (.round b f' W Y0 bd) w:=by
         unfold execOp;rw[t];exact m.trans hy
        refine Bj r n (fun c e=>by rw[t]at e;cases e) l (O r) ?_;rintro e K ⟨v,M,rfl,y,h2,L⟩;exact⟨v,rfl,p _ _ _ y h2 ((A.mono y).put hp L)⟩
       ·cases d
      ·cases d
     ·cases d
    ·cases q
  ·rename_i T V I X
   split at q
   ·rename_i g args d
    split at q;case isFalse=>cases q
    rename_i E;simp only[xB,xG]at q;obtain⟨env,hp,rfl,rfl,rfl⟩:=q;obtain⟨F,j⟩:=(show ∀h,lV h T→ax P g args h V (ag I h)from H _ (xK.2 rfl)) S.heap E;rw[←Bf]at j;unfold dZ at d;split at d
    ·rename_i c t
     split at d
     ·rename_i f u
      split at d
      ·rename_i Y R C
       simp only[xA,xG]at d;obtain⟨rfl,rfl⟩:=d;obtain⟨vs,z,s,m⟩:=jr (P:=P) (ty:=o.type) (ρ:=a.eval) (fun x=>A.opd J.maps.glob x) u C
       have l:(execOp a.eval o).run P w= .ok (.enter Y (c.args.map a.eval ++vs)) w:=by
        unfold execOp;rw[t];exact m.trans (dq F _ w)
       refine jQ r n (fun c e=>by rw[t]at e;cases e) l (j G B w0 I0 w _ J z s) ?_;rintro e K ⟨v,M,rfl,y,h2,L⟩;exact⟨v,rfl,p _ _ _ y h2 ((A.mono y).put hp L)⟩
      ·cases d
     ·cases d
    ·cases d
   ·cases q
  ·rename_i T h0 V I y X
   split at q
   ·rename_i g args d
    split at q;case isFalse=>cases q
    rename_i E;simp only[xB,xG]at q;obtain⟨env,hp,rfl,rfl,rfl⟩:=q;obtain⟨F,j⟩:=(show ∀h,(∀k∈T,h k=h0 k)→ax P g args h V (ap h (jJ I y))from H _ (xK.2 rfl)) S.heap E;unfold dZ at d;split at d
    ·rename_i c t
     split at d
     ·rename_i f u
      split at d
      ·rename_i Y R C
       simp only[xA,xG]at d;obtain⟨rfl,rfl⟩:=d;obtain⟨vs,z,s,m⟩:=jr (P:=P) (ty:=o.type) (ρ:=a.eval) (fun x=>A.opd J.maps.glob x) u C
       have l:(execOp a.eval o).run P w= .ok (.enter Y (c.args.map a.eval ++vs)) w:=by
        unfold execOp;rw[t];exact m.trans (dq F _ w)
       refine jQ r n (fun c e=>by rw[t]at e;cases e) l (j G B w0 I0 w _ J z s) ?_;rintro e K ⟨v,M,rfl,e1,e2,e3⟩;exact⟨v,rfl,p _ _ _ e1 e2 ((A.mono e1).put hp e3)⟩
      ·cases d
     ·cases d
    ·cases d
   ·cases q
  split at q
  ·rename_i out Z
   simp only[xB,xG]at q;obtain⟨env,hp,rfl,rfl,rfl⟩:=q;have hl:=Bh hx J (fun x=>A.opd J.maps.glob x) Z (fun c Z=>H _ (zI Z));have hd:=qU Z;rcases hl with ⟨v,K,M,l|⟨l,rfl⟩,y,h2,L⟩|⟨f,args,l,j⟩
   ·exact qW r n hd l (p _ _ _ y h2 ((A.mono y).put hp L))
   ·exact Bi r n hd l (p _ _ _ y h2 ((A.mono y).put hp L))
   ·refine jQ r n hd l j ?_
    rintro e K ⟨v,M,rfl,y,h2,L⟩;exact⟨v,rfl,p _ _ _ y h2 ((A.mono y).put hp L)⟩
  ·cases q
 ·rename_i hw
  rw[xj (by rw[p6 A hw];simp)];simp only[xB,xG]at q;obtain⟨env,hp,rfl,rfl,rfl⟩:=q;exact⟨fun _ _=>trivial,p _ _ _ (Ext.refl G w) J (A.put hp (.tup [] #[] rfl (by simp)))⟩
 ·cases q
theorem mF{D:List Deferred}(u:iB P)(r:Option Nat)(n:Nat){cfg:hQ}{N:Nat}{f:Array Oper}{Q:Exit→Act→World→Prop}:∀(l:List Nat){G:Gh}{w:World}{S S':St}{a:Act}{ob:List Obl}{fts:List Foot},
    HR G B w0 I0 S.heap w→FR G w N D S.env a→em P cfg N f l S=some (S',ob,fts)→gz P ob→
    (∀t e g,Ext G w g e→HR g B w0 I0 S'.heap e→FR g e N D S'.env t→Q .normal t e)→wpOpsIn (FF r) n P f Q l a w
 |[],G,w,S,S',a,ob,fts,p,m,b,d,q=>by
  simp only[em,xA,xG]at b;obtain⟨rfl,_,_⟩:=b;exact q a w G (Ext.refl G w) p m
 |i::L,G,w,S,S',a,ob,fts,p,m,b,d,q=>by
  simp only[em]at b;split at b
  ·cases b
  ·rename_i o I
   split at b
   ·cases b
   ·rename_i K k
    split at b
    ·cases b
    ·rename_i O j
     simp only[xA,xG]at b;obtain⟨rfl,rfl,rfl⟩:=b;obtain⟨S1,x,A⟩:=K;obtain⟨T,v,R⟩:=O;rw[wpOpsIn_cons];unfold wpOpIn;simp only[I]
     exact fH u p m k (fun c s=>d c (yP _ s)) r n (fun t e g J h2 M=>
      mF u r n L h2 M j (fun c s=>d c (yj _ s)) (fun E H z C F y=>q E H z (J.trans C) F y))
end
end Go.Avm
namespace Go.Avm
open Go.RowKit
variable[aG]
section
variable{P:Program}{h h':aa}
theorem kU{f g:AV→Option (D×List Nat)}:∀{l:List AV}{r:List D×List Nat},eD f l=some r→(∀x y,f x=some y→(∀k∈y.2,h' k=h k)→g x=some y)→(∀k∈r.2,h' k=h k)→eD g l=some r
 |[],r,d,_,_=>by simpa [eD]using d
 |x::l,r,d,i,e=>by
  simp only[eD]at d ⊢;split at d
  ·rename_i a b j n
   simp only[xA]at d;subst d;have m:=i x a j (fun k c=>e k (yP _ c));have h2:=kU (g:=g) n i (fun k c=>e k (yj _ c));simp only[m,h2]
  ·cases d
theorem qY:∀(n:Nat)(x:AV)(r:D×List Nat),view n h x=some r→(∀k∈r.2,h' k=h k)→view n h' x=some r
 |0,x,r,e,_=>by simp[view]at e
 |n+1,x,r,e,f=>by
  have u:=qY n;have go:∀{l:List AV}{q:List D×List Nat},eD (view n h) l=some q→(∀k∈q.2,h' k=h k)→eD (view n h') l=some q:=fun m f=>kU m (fun x y A z=>u x y A z) f
  cases x with
  |sl k v o w s=>
   simp only[view]at e ⊢;split at e
   ·rename_i sz es t
    split at e
    ·rename_i p
     simp only[xB]at e;obtain⟨q,m,rfl⟩:=e;have g:h' k=h k:=f k (by simp);have:=go m (fun k j=>f k (by simp[j]));simp[g,t,p,this]
    ·cases e
   ·cases e
  |ptr k v i o s=>
   simp only[view]at e ⊢;split at e
   ·rename_i sz es t
    split at e
    ·rename_i p
     simp only[xB]at e;obtain⟨q,m,rfl⟩:=e;have g:h' k=h k:=f k (by simp);have:=go m (fun k j=>f k (by simp[j]));simp[g,t,p,this]
    ·cases e
   ·cases e
  |agg cs=>
   simp only[view,xB]at e ⊢;obtain⟨q,m,rfl⟩:=e;exact⟨q,go m f,rfl⟩
  |d y=>simp only[view]at e ⊢;exact e
  |nils=>simp only[view]at e ⊢;exact e
  |es=>simp only[view]at e ⊢;exact e
  |vec a b c l=>simp only[view]at e ⊢;exact e
  |_=>simp[view]at e
theorem qZ{n:Nat}{l:List AV}{q:List D×List Nat}(d:view.go n h l=some q)(b:∀k∈q.2,h' k=h k):view.go n h' l=some q:=
 kU d (fun x y c a=>qY n x y c a) b
theorem Bl{ks:List Nat}(b:∀k∈ks,h' k=h k):kill h' ks=kill h ks:=by
 unfold kill;exact yc fun k a=>by rw[b k a]
theorem sZ{a:AV}{n:Nat}{r:List AV×List Nat}(b:iZ h a n=some r)(e:∀k∈r.2,h' k=h k):iZ h' a n=some r:=by
 unfold iZ at b ⊢;cases a with
 |ptr k v i f g=>
  simp only at b ⊢;split at b
  ·rename_i sz es j
   have c:h' k=h k:=by
    split at b
    ·split at b
     ·split at b
      ·simp only[xA]at b;subst b;exact e k (by simp)
      ·cases b
     ·split at b
      ·split at b
       ·simp only[xA]at b;subst b;exact e k (by simp)
       ·cases b
      ·cases b
    ·cases b
   rw[c,j];exact b
  ·cases b
 |d y=>cases y<;>first|exact b|(rename_i l;cases l<;>exact b)
 |_=>exact b
theorem uM{t:TypeId}{a:AV}{out:Out}(b:gu P t a h=some out)(c:∀k∈out.rd,h' k=h k):gu P t a h'=some out:=by
 unfold gu at b ⊢;split at b
 ·rename_i f
  simp only[xB]at b ⊢;obtain⟨r,g,rfl⟩:=b;exact⟨r,sZ g c,rfl⟩
 ·rename_i f
  cases a with
  |ptr k v i j m=>
   simp only at b ⊢;split at b
   ·rename_i sz es n
    have e:h' k=h k:=by
     split at b
     ·split at b
      ·split at b
       ·simp only[xB]at b;obtain⟨x,_,rfl⟩:=b;exact c k (by simp)
       ·cases b
      ·split at b
       ·simp only[xB]at b;obtain⟨x,_,rfl⟩:=b;exact c k (by simp)
       ·cases b
     ·cases b
    rw[e,n];exact b
   ·cases b
  |d y=>cases y<;>first|exact b|(rename_i l;cases l<;>exact b)
  |_=>exact b
 ·cases b
theorem fI{f:aa→Option Out}{k:Nat}{out:Out}(c:∀h h':aa,h' k=h k→f h'=f h)(b:k∈out.rd)(d:f h=some out)(a:∀k∈out.rd,h' k=h k):f h'=some out:=by
 rw[c h h' (a k b)];exact d
theorem ta{t:TypeId}{a x:AV}{out:Out}(b:eM P t a x h=some out)(l:∀k∈out.rd,h' k=h k):eM P t a x h'=some out:=by
 have c:=b;unfold eM at b;cases a with
 |ptr k v i d j=>
  have g:k∈out.rd:=by
   simp only at b;repeat' split at b
   all_goals first|(cases b;done)|(simp only[xA]at b;subst b;simp)
  refine fI (f:=fun h=>eM P t (.ptr k v i d j) x h) (k:=k) (fun h h' e=> ?_) g c l;simp only[eM,e]
 |_=>simp at b
theorem tc{t:TypeId}{k:Nat}{out:Out}(a:fW P t k h=some out)(c:∀k∈out.rd,h' k=h k):fW P t k h'=some out:=by
 have b:k∈out.rd:=by
  unfold fW at a;split at a
  ·simp only[xA]at a;subst a;simp
  ·cases a
 exact fI (f:=fun h=>fW P t k h) (fun h h' e=>by simp only[fW,newOb,e]) b a c
theorem wN{x:AV}{k:Nat}{out:Out}(a:kC x k h=some out)(c:∀k∈out.rd,h' k=h k):kC x k h'=some out:=by
 have b:k∈out.rd:=by
  unfold kC at a;split at a
  ·simp only[xA]at a;subst a;simp
  ·cases a
 exact fI (f:=fun h=>kC x k h) (fun h h' e=>by simp only[kC,newOb,e]) b a c
theorem no{t:TypeId}{l c:AV}{k:Nat}{out:Out}(a:dm P t l c k h=some out)(d:∀k∈out.rd,h' k=h k):dm P t l c k h'=some out:=by
 have b:k∈out.rd:=by
  unfold dm at a;split at a
  ·split at a
   ·split at a
    ·simp only[xA]at a;subst a;simp
    ·cases a
   ·cases a
  ·cases a
 exact fI (f:=fun h=>dm P t l c k h) (fun h h' e=>by simp only[dm,newOb,e]) b a d
theorem pQ{k:Nat}{out:Out}(b:fD k h=some out)(c:∀k∈out.rd,h' k=h k):fD k h'=some out:=by
 have a:k∈out.rd:=by
  simp only[fD,xA]at b;subst b;simp
 exact fI (f:=fun h=>fD k h) (fun h h' e=>by simp only[fD,e]) a b c
theorem np{t:TypeId}{m b x:AV}{out:Out}(a:b9 P t m b x h=some out)(i:∀k∈out.rd,h' k=h k):b9 P t m b x h'=some out:=by
 have c:=a;unfold b9 at a;split at a;case h_2=>cases a
 rename_i kt et k v kd j l
 have g:k∈out.rd:=by
  repeat' split at a
  all_goals first|(cases a;done)|(simp only[xA]at a;subst a;simp)
 exact fI (f:=fun h=>b9 P t (.mp k v) (.d kd) (.d j) h) (k:=k) (fun h h' e=>by simp only[b9,l,e]) g c i
theorem q0{t:TypeId}{m b:AV}{ok:Bool}{out:Out}(a:fc P t m b ok h=some out)(i:∀k∈out.rd,h' k=h k):fc P t m b ok h'=some out:=by
 have c:=a;unfold fc at a;split at a;case h_2=>cases a
 rename_i kt et k v kd j
 have g:k∈out.rd:=by
  repeat' split at a
  all_goals first|(cases a;done)|(simp only[xA]at a;subst a;simp)
 exact fI (f:=fun h=>fc P t (.mp k v) (.d kd) ok h) (k:=k) (fun h h' e=>by simp only[fc,j,e]) g c i
theorem q7{t:TypeId}{k v:Nat}{out:Out}(a:fX P t k v h=some out)(d:∀k∈out.rd,h' k=h k):fX P t k v h'=some out:=by
 have c:=a
 have b:k∈out.rd:=by
  unfold fX at a;repeat' split at a
  all_goals first|(cases a;done)|(simp only[xA]at a;subst a;simp)
 exact fI (f:=fun h=>fX P t k v h) (k:=k) (fun h h' e=>by simp only[fX,e]) b c d
theorem ot{src dst:TypeId}{x:AV}{out:Out}(a:dY P src dst x h=some out)(c:∀k∈out.rd,h' k=h k):dY P src dst x h'=some out:=by
 unfold dY at a ⊢;split at a;case h_2=>cases a
 split at a;case isFalse=>cases a
 rename_i d;split at a;case h_2=>cases a
 simp only[xA]at a;subst a;have b:=c _ (xK.2 rfl);rw[x9 (by rw[b];exact d)];simp only[kill,xN,xk,b]
theorem gR{k v:Nat}(a:h' (fQ k)=h (fQ k)):kg h' k v=kg h k v:=by
 unfold kg;rw[a]
theorem q8{src dst:TypeId}{x:AV}{out:Out}(b:fC P src dst x h=some out):∃k v i a sz,x= .ptr k v i a sz:=by
 unfold fC at b;split at b
 ·exact⟨_,_,_,_,_,rfl⟩
 ·exact⟨_,_,_,_,_,rfl⟩
 ·cases b
theorem pR{src dst:TypeId}{x:AV}(c:∃k v i a sz,x= .ptr k v i a sz):dY P src dst x h'=none:=by
 obtain⟨k,v,i,a,sz,rfl⟩:=c;unfold dY;split
 ·rename_i b;cases b
 ·rfl
theorem pS{src dst:TypeId}{x:AV}{out:Out}(a:fC P src dst x h=some out)(c:∀k∈out.rd,h' k=h k):fC P src dst x h'=some out:=by
 unfold fC at a ⊢;split at a
 ·split at a
  ·rename_i b
   split at a
   ·rename_i e
    simp only[xA]at a;subst a;have d:=c _ (x0 ..);have h2:=c _ (xW _ (x0 ..));rw[gR h2,b];simp only[d,x9 e]
   ·cases a
  ·cases a
 ·split at a
  ·rename_i b
   split at a
   ·rename_i e
    simp only[xA]at a;subst a;have d:=c _ (x0 ..);have h2:=c _ (xW _ (x0 ..));rw[gR h2,b];simp only[d,x9 e]
   ·cases a
  ·cases a
 ·cases a
theorem kW{d:TypeId}{x n:AV}{out:Out}(a:dc P d x n h=some out)(c:∀k∈out.rd,h' k=h k):dc P d x n h'=some out:=by
 unfold dc at a ⊢;split at a;case h_2=>cases a
 split at a;case h_2=>cases a
 rename_i b f;split at a;case isFalse=>cases a
 rename_i g;simp only[xA]at a;subst a;have e:=c _ (x0 ..);have h2:=c _ (xW _ (x0 ..));rw[gR h2,b,f];simp only[e,x9 g,kill,xN,xk]
theorem iC{typ:Bool}{T:TypeId}{n:Option Nat}{k v:Nat}{a:Out}:∀j∈a.rd,j∈(cC typ T n k v h a).rd:=by
 intro j b;unfold cC;split
 ·exact xW _ b
 ·exact b
theorem jd{typ:Bool}{T:TypeId}{n:Option Nat}{k v:Nat}{b:Out}(a:∀j∈(cC typ T n k v h b).rd,h' j=h j):cC typ T n k v h' b=cC typ T n k v h b:=by
 unfold cC at a ⊢;split
 ·rename_i c
  rw[x9 c]at a;rw[a _ (x0 ..)]
 ·rfl
theorem q9{typ:Bool}{T t:TypeId}{n:Option Nat}{k:Nat}{out:Out}(d:(fW P t k h).map (cC typ T n k ((h k).ver+1) h)=some out)(b:∀k∈out.rd,h' k=h k):(fW P t k h').map (cC typ T n k ((h' k).ver+1) h')=some out:=by
 rw[xB]at d ⊢;obtain⟨e,a,rfl⟩:=d
 have c:k∈e.rd:=by
  unfold fW at a;split at a
  ·simp only[xA]at a;subst a;simp
  ·cases a
 refine⟨e,tc a (fun j f=>b j (iC j f)), ?_⟩;rw[b k (iC k c)];exact jd b
theorem uN{typ:Bool}{T:TypeId}{n:Option Nat}{x:AV}{k:Nat}{out:Out}(d:(kC x k h).map (cC typ T n k ((h k).ver+1) h)=some out)(b:∀k∈out.rd,h' k=h k):(kC x k h').map (cC typ T n k ((h' k).ver+1) h')=some out:=by
 rw[xB]at d ⊢;obtain⟨e,a,rfl⟩:=d
 have c:k∈e.rd:=by
  unfold kC at a;split at a
  ·simp only[xA]at a;subst a;simp
  ·cases a
 refine⟨e,wN a (fun j f=>b j (iC j f)), ?_⟩;rw[b k (iC k c)];exact jd b
theorem uO{src dst:TypeId}{x:AV}{out:Out}(a:qv P src dst x h=some out)(c:∀k∈out.rd,h' k=h k):qv P src dst x h'=some out:=by
 unfold qv at a ⊢;split at a
 ·exact a
 split at a
 ·exact a
 split at a
 ·exact a
 split at a
 ·rename_i e b
  simp only[xA]at a;subst a;rw[ot b c]
 ·rename_i d
  have hp:=q8 a;rw[show dY P src dst x h'=none from pR hp,pS a c]
theorem mG{obm:Bool}{t:TypeId}{d:Nat}{ps:List (Nat×AV)}{k:Nat}{out:Out}(a:eN P obm t d ps k h=some out)(f:∀k∈out.rd,h' k=h k):eN P obm t d ps k h'=some out:=by
 unfold eN at a ⊢;split at a
 ·rename_i e p
  split at a
  ·rename_i xs j
   split at a
   ·rename_i o
    split at a
    ·split at a
     ·cases a
     ·rename_i m
      simp only[xA]at a;subst a;have c:h' k=h k:=f k (by simp);simp_all [newOb]
    ·rename_i i
     split at a
     ·rename_i r n
      split at a
      ·cases a
      ·rename_i g
       simp only[xA]at a;subst a;have c:h' k=h k:=f k (by simp);have l:=qZ n (fun k b=>f k (by simp[b]));have h2:=Bl (h:=h) (h':=h') (ks:=r.2) (fun k b=>f k (by simp[b]));simp only[x9 o,l,h2,c,xj i,xj g]
     ·cases a
   ·cases a
  ·cases a
 ·cases a
theorem wR{x:AV}{r:List D×List Nat}(a:hK h x=some r)(f:∀k∈r.2,h' k=h k):hK h' x=some r:=by
 unfold hK at a ⊢;cases x with
 |sl k v j g n=>
  simp only at a ⊢;split at a
  ·rename_i sz es o
   split at a
   ·rename_i m
    simp only[yn]at a;obtain⟨q,i,b⟩:=a;split at b
    ·rename_i e
     simp only[xA]at b;subst b;have c:h' k=h k:=f k (by simp);have:=qZ (h':=h') i (by rw[e];simp);simp[c,o,m,this,e]
    ·cases b
   ·cases a
  ·cases a
 |d y=>cases y<;>first|exact a|(rename_i l;cases l<;>exact a)
 |_=>exact a
theorem iD{obm:Bool}{t:TypeId}{s x:AV}{k:Nat}{out:Out}(a:bH P obm t s x k h=some out)(g:∀k∈out.rd,h' k=h k):bH P obm t s x k h'=some out:=by
 unfold bH at a ⊢;split at a
 ·rename_i e B
  split at a
  ·rename_i news r z q p
   split at a
   ·rename_i o
    have f:(∀k∈r,h' k=h k)→hK h' x=some (news,r):=fun u=>wR q u
    cases s with
    |nils=>
     simp only at a;split at a
     ·cases a
     ·rename_i d
      split at a
      ·rename_i j
       split at a
       ·cases a
       ·rename_i n
        simp only[xA]at a;subst a;have b:h' k=h k:=g k (by simp);have i:=f (fun k c=>g k (by simp[c]));simp only[i,p,x9 o,xj d,x9 j,xj n,b,newOb]
      ·rename_i j
       simp only[xA]at a;subst a;have b:h' k=h k:=g k (by simp);have i:=f (fun k c=>g k (by simp[c]));simp only[i,p,x9 o,xj d,xj j,b]
    |es=>
     simp only at a;split at a
     ·cases a
     ·rename_i d
      split at a
      ·rename_i j
       split at a
       ·cases a
       ·rename_i n
        simp only[xA]at a;subst a;have b:h' k=h k:=g k (by simp);have i:=f (fun k c=>g k (by simp[c]));simp only[i,p,x9 o,xj d,x9 j,xj n,b,newOb]
      ·rename_i j
       simp only[xA]at a;subst a;have i:=f g;simp only[i,p,x9 o,xj d,xj j]
    |vec m v sz l=>
     simp only at a;split at a
     ·rename_i d
      simp only[xA]at a;subst a;have b:h' m=h m:=g m (by simp);have i:=f (fun k c=>g k (by simp[c]));simp only[i,p,x9 o,b,x9 d]
     ·cases a
    |sl m v y w A=>
     simp only at a;split at a
     ·rename_i sz es j
      split at a
      ·rename_i d
       simp only[xA]at a;subst a;have b:h' m=h m:=g m (by simp);have i:=f (fun k c=>g k (by simp[c]));simp only[i,p,x9 o,b,j,x9 d]
      ·cases a
     ·cases a
    |_=>simp at a
   ·cases a
  ·cases a
 ·cases a
theorem pT{obm:Bool}{t:TypeId}{s x:AV}{k:Nat}{out:Out}(b:cN P obm t s x k h=some out)(i:∀k∈out.rd,h' k=h k):cN P obm t s x k h'=some out:=by
 unfold cN at b ⊢;cases g:bH P obm t s x k h with
 |none=>simp[g]at b
 |some r=>
  simp only[g]at b;obtain⟨val,v,rd,ob⟩:=r;split at b
  ·rename_i e c u sz l d p o
   simp only at o;subst o;split at b
   ·rename_i n
    simp only[xA]at b;subst b;have a:∀j∈c::fQ c::rd,h' j=h j:=fun j f=>i j (iC j f)
    rw[iD g (fun j f=>a j (by simp[f]))];have m:=a c (by simp);have h2:=jd i;simp only[p,d];rw[x9 (by rw[m,gR (a (fQ c) (by simp))];exact n),h2]
   ·rename_i n
    simp only[xA]at b;subst b;have a:∀j∈c::fQ c::rd,h' j=h j:=i;rw[iD g (fun j f=>a j (by simp[f]))];have m:=a c (by simp);simp only[p,d];rw[xj (by rw[m,gR (a (fQ c) (by simp))];exact n)]
  ·rename_i q
   simp only[xA]at b;subst b;rw[iD g i];simp only
theorem pU{obm:Bool}{t:TypeId}{s x:AV}{k:Nat}{out:Out}(a:ei P t s x h=some out)(n:∀k∈out.rd,h' k=h k):cN P obm t s x k h'=none∧ei P t s x h'=some out:=by
 have i:=a;unfold ei at a;split at a;case h_2=>cases a
 rename_i e y;split at a;case h_2=>cases a
 rename_i z m v u r p j q g f A C;split at a;case h_2=>cases a
 rename_i sz es B D o b;split at a;case isFalse=>cases a
 rename_i l;simp only[xA]at a;subst a;have w:h' m=h m:=n m (by simp);have h2:h' j=h j:=n j (by simp);have d:g=0:=l.2.2.2.2.2.1;have c:f=1:=l.2.2.2.2.2.2.1;subst d;subst c;refine⟨iy l.2.2.2.2.2.2.2.2.2.2.2.2 (by rw[h2];exact b), ?_⟩;rw[←i];simp only[ei,y,C,w,h2]
theorem pV{obm:Bool}{t:TypeId}{s x:AV}{k:Nat}{out:Out}(a:gw P t s x k h=some out)(m:∀k∈out.rd,h' k=h k):cN P obm t s x k h'=none∧ei P t s x h'=none∧gw P t s x k h'=some out:=by
 have j:=a;unfold gw at a;split at a;case h_2=>cases a
 rename_i e o;split at a;case h_2=>cases a
 rename_i z i u g f q n;split at a;case h_2=>cases a
 rename_i r v b;split at a;case isFalse=>cases a
 rename_i l;simp only[xA]at a;subst a;have p:h' k=h k:=m k (by simp);have h2:h' i=h i:=m i (by simp);have d:g=0:=l.2.1;have c:f=1:=l.2.2.1;subst d;subst c;refine⟨iy l.2.2.2.2.2.2.2 (by rw[h2];exact b),by simp only[ei,o,n], ?_⟩;rw[←j];simp only[gw,o,n,p,h2]
theorem rb{cfg:hQ}{i k:Nat}{c:Call}{ρ:Operand→AV}{out:Out}(a:a7 P cfg i c ρ h k=some out)(b:∀k∈out.rd,h' k=h k):a7 P cfg i c ρ h' k=some out:=by
 unfold a7 at a ⊢;split at a
 ·split at a
  ·split at a
   ·exact q7 a b
   ·exact a
  ·exact a
 ·exact a
 ·exact a
 ·split at a
  ·split at a
   ·rename_i j
    rw[x9 j];split at a
    ·rename_i d e
     simp only[xA]at a;subst a;rw[pT e b]
    ·split at a
     ·rename_i d e
      simp only[xA]at a;subst a;have:=pU (obm:=cfg.obm i) (k:=k) e b;rw[this.1,this.2]
     ·have:=pV (obm:=cfg.obm i) a b
      rw[this.1,this.2.1];exact this.2.2
   ·cases a
  ·cases a
 ·exact a
 ·split at a
  ·exact kW a b
  ·cases a
 ·split at a
  ·split at a
   ·exact a
   ·exact a
   ·unfold hA at a ⊢
    split at a
    ·exact a
    ·split at a
     ·rename_i r g
      split at a
      ·rename_i f
       simp only[xA]at a;subst a;have:=qZ g b;simp only[this,x9 f]
      ·cases a
     ·cases a
  ·cases a
 ·cases a
theorem Bn{cfg:hQ}{i:Nat}{o:Oper}{ρ:Operand→AV}{out:Out}(a:bU P cfg i o ρ h=some out)(b:∀k∈out.rd,h' k=h k):bU P cfg i o ρ h'=some out:=by
 unfold bU at a ⊢;split at a
 all_goals first
  |exact a
  |exact q9 a b
  |exact uN a b
  |exact mG a b
  |exact uM a b
  |exact ta a b
  |exact no a b
  |exact pQ a b
  |exact uO a b
  |exact np a b
  |exact q0 a b
  |exact rb a b
theorem Bo{cfg:hQ}{i:Nat}{o:Oper}{ρ a:Operand→AV}(d:∀x∈o.op.operands,a x=ρ x):bU P cfg i o a h=bU P cfg i o ρ h:=by
 obtain⟨dst,op,v,y,s,u⟩:=o
 have g:∀ps:Array (Nat×Operand),(∀x∈(ps.toList.map (·.2)).toArray,a x=ρ x)→(ps.toList.map fun p=>(p.1,a p.2))=(ps.toList.map fun p=>(p.1,ρ p.2)):=fun ps hp=>
  yc fun p hm=>by
   obtain⟨i,x⟩:=p;have:=hp x (by simpa using ⟨i,xp.1 hm⟩);simp only[this]
 cases op<;>simp only[Op.operands]at d<;>simp only[bU]
 case build t ps=>rw[g ps d]
 case buildSlice t n ps=>rw[g ps d]
 case makeFunc fn first captured=>
  cases fn with
  |func f=>
   simp only;split
   ·rw[yc (l:=captured.toList) fun x k=>d x (by simp[xp.1 k])]
   ·rfl
  |_=>rfl
 case call c=>
  have j:c.args.toList.map a=c.args.toList.map ρ:=yc fun x k=>d x (by simp[Call.operands,xp.1 k])
  have e:∀x,x∈c.args.toList→a x=ρ x:=fun x k=>d x (by simp[Call.operands,xp.1 k])
  unfold a7;cases w:c.callee with
  |value f=>
   have z:a f=ρ f:=d f (by simp[Call.operands,w]);simp only[z,j]
  |invoke r m=>rfl
  |builtin b=>
   cases b<;>simp only
   all_goals first
    |rfl
    |(split
      ·rename_i q;simp only[q,xX,yD,zG,forall_eq_or_imp,forall_eq]at e;simp only[e]
      ·rfl)
    |(split
      ·rename_i q h2;simp only[q,xX,yD,zG,forall_eq_or_imp,forall_eq]at e;simp only[e]
      ·rfl)
 case makeMap t r=>cases r<;>rfl
 case slice t x lo hi mx=>cases lo<;>cases hi<;>cases mx<;>simp_all
 all_goals (first|rfl|(simp_all;done))
end
end Go.Avm
namespace Go.Avm
open Go.RowKit
variable[aG]
theorem dk:∀(c:List (Nat×aK))(h:aa){k:Nat},k∉c.map (·.1)→ap h c k=h k
 |[],_,_,_=>rfl
 |(a,e)::r,h,k,b=>by
  simp only[xN,xX,zM]at b;simp only[ap];rw[dk r _ b.2,ae _ _ b.1]
theorem ou:∀(d:List (Nat×aK))(h h2:aa){k:Nat},k∈d.map (·.1)→ap h d k=ap h2 d k
 |[],_,_,_,b=>by simp at b
 |(a,e)::r,h,h2,k,b=>by
  simp only[ap];by_cases c:k∈r.map (·.1)
  ·exact ou r _ _ c
  ·rw[dk r _ c,dk r _ c]
   simp only[xN,xX,c,zG]at b;subst b;rw[ad,ad]
theorem wS{a b:List (Nat×aK)}(h:aa)(e:∀k,k∈a.map (·.1)→k∉b.map (·.1)):ap (ap h a) b=ap (ap h b) a:=by
 funext k;by_cases c:k∈a.map (·.1)
 ·rw[dk b _ (e k c)]
  exact ou a _ _ c
 ·rw[dk a _ c]
  by_cases d:k∈b.map (·.1)
  ·exact ou b _ _ d
  ·rw[dk b _ d,dk b _ d,dk a _ c]
theorem i7{N:Nat}{env env':Nat→AV}{dst:Option Nat}{x:AV}(h:eO N env dst x=some env'){t:Nat}(a:dst≠some t):env' t=env t:=by
 cases dst with
 |none=>simp only[eO,xA]at h;rw[h]
 |some d=>
  simp only[eO]at h;split at h
  ·simp only[xA]at h
   subst h;exact ae _ _ (fun e=>a (by rw[e]))
  ·cases h
theorem EF{N:Nat}{env j i:Nat→AV}{d g:Option Nat}{x y:AV}(h:∀t,d=some t→g≠some t)(c:eO N env d x=some j)(h2:eO N j g y=some i):
    ∃f,eO N env g y=some f∧eO N f d x=some i:=by
 cases d with
 |none=>simp only[eO,xA]at c;subst c;exact⟨i,h2,rfl⟩
 |some a=>
  cases g with
  |none=>simp only[eO,xA]at h2;subst h2;exact⟨env,rfl,c⟩
  |some b=>
   simp only[eO]at c h2 ⊢;split at c
   ·rename_i k
    split at h2
    ·rename_i l
     simp only[xA]at c h2;subst c;subst h2;refine⟨aJ env b y,by rw[x9 l], ?_⟩;rw[x9 k,FW _ _ _ (fun e=>h b (by rw[e]) rfl)]
    ·cases h2
   ·cases c
section
variable{P:Program}{cfg:hQ}{N:Nat}{b:Array Oper}
def F4(b:Array Oper)(o:Oper)(a:Foot)(S S':St):Prop:=
 (∀t∈o.looksAt b,S'.env t=S.env t)∧(a.all=true→S'.heap=S.heap)∧(a.all=false→∀k∈a.rd,S'.heap k=S.heap k)
theorem cY{o:Oper}{env env':Nat→AV}(h:∀t∈o.looksAt b,env' t=env t):er b o env'=er b o env:=by
 unfold er;cases e:o.guard with
 |none=>rfl
 |some d=>
  obtain⟨j,a⟩:=d;simp only;cases c:(b[j]?).bind (·.dst)with
  |none=>rfl
  |some t=>
   simp only;rw[h t (by simp[Oper.looksAt,e,c])]
theorem js{o:Oper}{env env':Nat→AV}(h:∀t∈o.looksAt b,env' t=env t):∀x∈o.op.operands,opd env' x=opd env x:=by
 intro x a;cases x with
 |tmp t=>exact h t (yP _ (List.mem_filterMap.2 ⟨.tmp t,by simpa using a,rfl⟩))
 |_=>rfl
theorem eP{o:Oper}{env env':Nat→AV}(h:∀t∈o.looksAt b,env' t=env t):dZ o env'=dZ o env:=by
 have d:=js h;unfold dZ;cases e:o.op with
 |call c=>
  simp only;rw[e]at d;simp only[Op.operands]at d;cases g:c.callee with
  |value f=>
   simp only;have a:c.args.toList.map (opd env')=c.args.toList.map (opd env):=yc fun x i=>d x (by simp[Call.operands,xp.1 i])
   rw[d f (by simp[Call.operands,g]),a]
  |_=>rfl
 |_=>rfl
theorem wU{o:Oper}{env env':Nat→AV}(h:∀t∈o.looksAt b,env' t=env t):pb o env'=pb o env:=by
 have d:=js h;unfold pb;cases e:o.op with
 |call c=>
  simp only;rw[e]at d;simp only[Op.operands]at d;cases g:c.callee with
  |value f=>
   simp only;have a:c.args.toList.map (opd env')=c.args.toList.map (opd env):=yc fun x i=>d x (by simp[Call.operands,xp.1 i])
   rw[d f (by simp[Call.operands,g]),a]
  |_=>rfl
 |_=>rfl
theorem uP(a:List Nat)(c:aa):(jJ a c).map (·.1)=a:=by
 unfold jJ;rw[yq];exact List.map_id' _
theorem eF{i:Nat}{o:Oper}{S S1:St}{ob:List Obl}{u:Foot}(a:cd P cfg N b i o S=some (S1,ob,u)):
    ∃(v:AV)(n:aa→aa),eO N S.env o.dst v=some S1.env∧S1.heap=n S.heap∧(u.all=false→∃A,n=(fun l=>ap l A)∧u.wr=A.map (·.1))∧(u.all=true→(∃h',n=fun _=>h')∧∀k,k∉u.wr→n S.heap k=S.heap k)∧
     ∀S' env',F4 b o u S S'→eO N S'.env o.dst v=some env'→cd P cfg N b i o S'=some (⟨env',n S'.heap⟩,ob,u):=by
 unfold cd at a;split at a
 ·rename_i s
  split at a
  ·rename_i w h' tk f
   split at a;case isFalse=>cases a
   rename_i q;split at a
   ·rename_i g args h
    simp only[xB,xG]at a;obtain⟨env,hp,rfl,rfl,rfl⟩:=a;refine⟨iV w,fun _=>h',hp,rfl,fun m=>(by simp at m),fun _=>⟨⟨h',rfl⟩,q⟩,fun S' env' d c=> ?_⟩;have l:S'.heap=S.heap:=d.2.1 rfl;unfold cd;rw[cY d.1,s];simp only[f];rw[eP d.1,h,l,x9 q];simp only[c,xc]
   ·rename_i y
    split at a
    ·rename_i k v args h
     simp only[xB,xG]at a;obtain⟨env,hp,rfl,rfl,rfl⟩:=a;refine⟨iV w,fun _=>h',hp,rfl,fun m=>(by simp at m),fun _=>⟨⟨h',rfl⟩,q⟩,fun S' env' d c=> ?_⟩;have l:S'.heap=S.heap:=d.2.1 rfl;unfold cd;rw[cY d.1,s];simp only[f];rw[eP d.1,y,wU d.1,h,l,x9 q];simp only[c,xc]
    ·cases a
  ·rename_i t w e f
   split at a
   ·rename_i g args h
    split at a;case isFalse=>cases a
    rename_i j;simp only[xB,xG]at a;obtain⟨env,hp,rfl,rfl,rfl⟩:=a;refine⟨iV w,fun l=>ap l e.reverse,hp,rfl,fun _=>⟨e.reverse,rfl,rfl⟩,fun m=>(by simp at m),fun S' env' d c=> ?_⟩;unfold cd;rw[cY d.1,s];simp only[f];rw[eP d.1,h]
    have r:lV S'.heap t:=fun p hp=>by
     rw[d.2.2 rfl p.1 (zI hp)];exact j p hp
    simp only[c,xc];rw[x9 r]
   ·cases a
  ·rename_i t C w e z f
   split at a
   ·rename_i g args h
    split at a;case isFalse=>cases a
    rename_i j;simp only[xB,xG]at a;obtain⟨env,hp,rfl,rfl,rfl⟩:=a;refine⟨iV w,fun l=>ap l (jJ e z),hp,rfl,fun _=>⟨jJ e z,rfl,(uP e z).symm⟩,fun m=>(by simp at m),fun S' env' d c=> ?_⟩;unfold cd;rw[cY d.1,s];simp only[f];rw[eP d.1,h]
    have r:∀k∈t,S'.heap k=C k:=fun k B=>by
     rw[d.2.2 rfl k B];exact j k B
    simp only[c,xc];rw[x9 r]
   ·cases a
  ·rename_i f
   split at a
   ·rename_i out D
    simp only[xB,xG]at a;obtain⟨env,hp,rfl,rfl,rfl⟩:=a;refine⟨out.val,fun l=>ap l out.wr,hp,rfl,fun _=>⟨out.wr,rfl,rfl⟩,fun m=>(by simp at m),fun S' env' d c=> ?_⟩;unfold cd;rw[cY d.1,s];simp only[f]
    have x:bU P cfg i o (opd S'.env) S'.heap=some out:=by
     rw[Bo (js d.1)];exact Bn D (d.2.2 rfl)
    simp only[x,c,xc]
   ·cases a
 ·rename_i s
  simp only[xB,xG]at a;obtain⟨env,hp,rfl,rfl,rfl⟩:=a;refine⟨.tup [],fun l=>ap l [],hp,rfl,fun _=>⟨[],rfl,rfl⟩,fun m=>(by simp at m),fun S' env' d c=> ?_⟩;unfold cd;rw[cY d.1,s];simp only[c,xc,ap]
 ·cases a
def Foot.apart(x y:Foot):Bool:=
 if x.all then !y.all&&y.wr.isEmpty&&y.rd.all (fun k=> !x.wr.contains k)
 else if y.all then x.wr.isEmpty&&x.rd.all (fun k=> !y.wr.contains k)
 else x.wr.all (fun k=> !y.rd.contains k&& !y.wr.contains k)&&y.wr.all (fun k=> !x.rd.contains k)
theorem mH{i j:Nat}{H F:Oper}{S S1 G:St}{x C:List Obl}{u v:Foot}(X:H.apart b F=true)(g:u.apart v=true)(hi:cd P cfg N b i H S=some (S1,x,u))
    (hj:cd P cfg N b j F S1=some (G,C,v)):∃D,cd P cfg N b j F S=some (D,C,v)∧cd P cfg N b i H D=some (G,x,u):=by
 obtain⟨g1,g2,g3⟩:=Oper.apart_spec X;obtain⟨vi,ai,w,r,m,V,K⟩:=eF hi;obtain⟨vj,aj,R,W,p,Y,J⟩:=eF hj;obtain⟨z,E,I⟩:=EF g2 w R
 have l:∀{f:Foot}{a:aa→aa},(f.all=false→∃q,a=(fun o=>ap o q)∧f.wr=q.map (·.1))→f.all=false→f.wr=[]→∀o,a o=o:=by
  intro f a M c y o;obtain⟨q,rfl,n⟩:=M c;rw[y]at n;have:q=[]:=List.map_eq_nil_iff.1 n.symm;rw[this];rfl
 have B:∀{f:Foot}{a:aa→aa},(f.all=false→∃q,a=(fun o=>ap o q)∧f.wr=q.map (·.1))→f.all=false→∀o k,k∉f.wr→a o k=o k:=by
  intro f a M c o k n;obtain⟨q,rfl,O⟩:=M c;exact dk q _ (by rw[←O];exact n)
 have Q:F4 b F v S1 S:=by
  refine⟨fun t ht=>(i7 w (fun e=>g1 t e ht)).symm,fun c=> ?_,fun c k n=> ?_⟩
  ·rw[r]
   cases d:u.all with
   |true=>simp[Foot.apart,d,c]at g
   |false=>
    simp[Foot.apart,d,c]at g;exact(l m d g.1 _).symm
  ·rw[r]
   cases d:u.all with
   |true=>
    simp[Foot.apart,d,c]at g;exact((V d).2 k (g.2 k n)).symm
   |false=>
    simp[Foot.apart,d,c]at g;exact(B m d _ k (fun A=>(g.1 k A).1 n)).symm
 have h1:=J S z Q E;refine⟨_,h1, ?_⟩
 have T:F4 b H u S ⟨z,aj S.heap⟩:=by
  refine⟨fun t ht=>i7 E (fun e=>g3 t e ht),fun c=> ?_,fun c k n=> ?_⟩
  ·simp[Foot.apart,c]at g
   exact l p g.1.1 g.1.2 _
  ·cases h:v.all with
   |true=>
    simp[Foot.apart,c,h]at g;obtain⟨⟨h',rfl⟩,s⟩:=Y h;have L:S1.heap=S.heap:=by rw[r];exact l m c g.1 _
    have:=s k (g.2 k n);rw[L]at this;exact this
   |false=>
    simp[Foot.apart,c,h]at g;exact B p h _ k (fun A=>g.2 k A n)
 have h2:=K _ G.env T I;rw[h2]
 have:ai (aj S.heap)=G.heap:=by
  rw[W,r];cases d:u.all with
  |true=>
   simp[Foot.apart,d]at g;rw[l p g.1.1 g.1.2,l p g.1.1 g.1.2]
  |false=>
   cases h:v.all with
   |true=>
    simp[Foot.apart,d,h]at g;rw[l m d g.1,l m d g.1]
   |false=>
    simp[Foot.apart,d,h]at g;obtain⟨wi,rfl,Z⟩:=m d;obtain⟨wj,rfl,U⟩:=p h;exact wS _ (fun k n A=>(g.1 k (by rw[Z];exact A)).2 (by rw[U];exact n))
 rw[this]
def F5(P:Program)(cfg:hQ)(N:Nat)(b:Array Oper)(F:Nat→Foot):Nat→Array Bool→St→St→Prop
 |0,a,S,c=>Region.ready .any b a=[]∧S=c
 |fuel+1,a,S,c=>(Region.ready .any b a=[]→S=c)∧
  ∀i∈Region.ready .any b a,∃o S1 ob,b[i]? =some o∧cd P cfg N b i o S=some (S1,ob,F i)∧gz P ob∧F5 P cfg N b F fuel (a.setIfInBounds i true) S1 c
def CT(b:Array Oper)(F:Nat→Foot)(a:Array Bool)(i:Nat):Bool:=
 match b[i]? with
 |none=>false
 |some d=>(List.range b.size).all fun j=>j==i||a.getD j true||match b[j]? with
     |some c=>c.after.any (fun e=>Region.binds .any e&&e.on==i)||(d.apart b c&&(F i).apart (F j))
     |none=>true
theorem Bp{F:Nat→Foot}{i:Nat}{m:Oper}{a:Array Bool}(o:b[i]? =some m)(h:CT b F a i=true)(j:Nat)(d:Oper)
    (n:b[j]? =some d) (f:j≠i) (l:a.getD j true=false) (k:∀e∈d.after,Region.binds .any e=true→e.on≠i):
    m.apart b d=true∧(F i).apart (F j)=true:=by
 simp only[CT,o,xa,List.mem_range]at h;have c:=h j (xQ.1 n).1;simp only[n,xy,xm,f,false_or,l,yz]at c;rcases c with c|c
 ·obtain⟨e,p,g⟩:=Array.any_eq_true'.1 c
  simp only[xL,xm]at g;exact absurd g.2 (k e p g.1)
 ·simpa using c
def MP(b:Array Oper)(a:Array Bool)(i:Nat):Nat→Nat→Array Bool→Array Bool
 |0,_,c=>c
 |fuel+1,k,c=>MP b a i fuel (k+1) (c.push (match b[k]? with
     |some ok=> !(k==i)&&(!(a.getD k true)&&ok.after.any fun e=>Region.binds .any e&&(e.on==i||c.getD e.on false))
     |none=>false))
def MQ(b:Array Oper)(a:Array Bool)(i:Nat)(d:Array Bool)(j:Nat)(c:Oper):Bool:=
 !(j==i)&&(!(a.getD j true)&&c.after.any fun e=>Region.binds .any e&&(e.on==i||(decide (e.on<b.size)&&d.getD e.on false)))
def F6(b:Array Oper)(F:Nat→Foot)(a:Array Bool)(i:Nat)(d:Array Bool):Bool:=
 match b[i]? with
 |none=>false
 |some e=>(List.range b.size).all fun j=>match b[j]? with
     |some c=>match d.getD j false with
      |true=>MQ b a i d j c
      |false=>j==i||a.getD j true||(e.apart b c&&(F i).apart (F j))
     |none=>true
def Kd(b:Array Oper)(F:Nat→Foot)(d:Oper)(i:Nat)(a:Array Bool):Prop:=
 ∃B:Nat→Bool,(∀j c,b[j]? =some c→B j=true→j≠i∧a.getD j true=false∧∃e∈c.after,Region.binds .any e=true∧(e.on=i∨((∃ok,b[e.on]? =some ok)∧B e.on=true)))∧
  ∀j c,b[j]? =some c→j≠i→a.getD j true=false→B j=false→(∀e∈c.after,Region.binds .any e=true→e.on≠i)→d.apart b c=true∧(F i).apart (F j)=true
theorem Bq{F:Nat→Foot}{i:Nat}{c:Oper}{a:Array Bool}(e:b[i]? =some c)(h:CT b F a i=true):Kd b F c i a:=
 ⟨fun _=>false,fun _ _ _ h=>(by cases h),fun j d f h2 k _ g=>Bp e h j d f h2 k g⟩
theorem Br{F:Nat→Foot}{i:Nat}{o:Oper}{a:Array Bool}{l:Array Bool}(r:b[i]? =some o)(h:F6 b F a i l=true):Kd b F o i a:=by
 simp only[F6,r,xa,List.mem_range]at h;refine⟨fun j=>l.getD j false,fun j p k f=> ?_,fun j p k m n f _=> ?_⟩
 ·have f:l.getD j false=true:=f
  have c:=h j (xQ.1 k).1;rw[k]at c;simp only[f]at c;unfold MQ at c;simp only[xL,yH,yZ,ne_eq]at c;obtain⟨h2,t,q⟩:=c;obtain⟨e,s,d⟩:=Array.any_eq_true'.1 q;simp only[xL,xy,xm,x6]at d;refine⟨h2,t,e,s,d.1, ?_⟩;rcases d.2 with g|g
  ·exact .inl g
  ·exact .inr ⟨⟨b[e.on]'g.1,xJ g.1⟩,g.2⟩
 ·have f:l.getD j false=false:=f
  have c:=h j (xQ.1 k).1;rw[k]at c;simp only[f,xy,xm,m,false_or,n,yz,xL]at c;exact c
theorem Bs{F:Nat→Foot}{i:Nat}{z:Oper}(X:b[i]? =some z){ob:List Obl}(A:gz P ob):
    ∀(fuel:Nat)(a:Array Bool)(S S1 C:St),Kd b F z i a→
     i∈Region.ready .any b a→cd P cfg N b i z S=some (S1,ob,F i)→
     F5 P cfg N b F fuel (a.setIfInBounds i true) S1 C→F5 P cfg N b F (fuel+1) a S C:=by
 intro fuel;induction fuel with
 |zero=>
  intro a S S1 C _ y O H;refine⟨fun h=>(by rw[h]at y;cases y),fun j M=> ?_⟩;by_cases d:j=i
  ·subst d;exact⟨z,S1,ob,X,O,A,H⟩
  ·have:=ready_mono M d
   rw[H.1]at this;cases this
 |succ fuel ih=>
  intro a S S1 C w y O H;refine⟨fun h=>(by rw[h]at y;cases y),fun j M=> ?_⟩;by_cases d:j=i
  ·subst d;exact⟨z,S1,ob,X,O,A,H⟩
  ·obtain⟨f,S2,U,q,D,K,H2⟩:=H.2 j (ready_mono M d)
   obtain⟨o,Y,l,G⟩:=mem_ready.1 M;have v:f=Y:=by rw[l]at q;exact(Option.some.inj q).symm
   subst v
   have c:∀t,a.getD t true=false→∀e∈f.after,Region.binds .any e=true→e.on≠t:=fun t W e L p v=>by
    have r:=G e L p;rw[v]at r;rcases yJ t a.size with h'|h'
    ·simp[h']at W r;rw[W]at r;cases r
    ·simp[Array.getElem?_eq_none h']at r
   have s:=c i (mem_ready.1 y).1;obtain⟨B,u,J⟩:=w
   have x:B j=false:=by
    cases p:B j with
    |false=>rfl
    |true=>
     obtain⟨_,_,e,L,r,h2⟩:=u j f l p;rcases h2 with h2|⟨⟨ok,Q⟩,h2⟩
     ·exact absurd h2 (s e L r)
     ·exact absurd rfl (c e.on (u e.on ok Q h2).2.1 e L r)
   obtain⟨a1,a2⟩:=J j f l d o x s;obtain⟨I,k1,k2⟩:=mH a1 a2 O D
   have E:∀k,(a.setIfInBounds j true).getD k true=false→a.getD k true=false:=fun k m=>by
    by_cases g:j=k
    ·subst g;exact o
    ·rw[getD_set_ne true g]at m;exact m
   have n:Kd b F z i (a.setIfInBounds j true):=⟨B,fun k ok T p=>by
    obtain⟨g1,g2,Z⟩:=u k ok T p;have g:j≠k:=fun e=>by rw[e,p]at x;cases x
    exact⟨g1,by rw[getD_set_ne true g];exact g2,Z⟩,fun k ok T V m p R=>J k ok T V (E k m) p R⟩
   refine⟨f,I,U,l,k1,K,ih (a.setIfInBounds j true) I S2 C n (ready_mono y (Ne.symm d)) k2 ?_⟩;rw[Array.setIfInBounds_comm _ _ d];exact H2
def F7(b:Array Oper)(F:Nat→Foot):Nat→Nat→Array Bool→Bool
 |0,_,a=>(Region.ready .any b a).isEmpty
 |fuel+1,k,a=>(Region.ready .any b a).contains k&&(CT b F a k||F6 b F a k (MP b a k b.size 0 #[]))&&F7 b F fuel (k+1) (a.setIfInBounds k true)
def CU(b:Array Oper)(fts:List Foot):Bool:=F7 b (fun i=>(fts[i]?).getD ⟨0,[],[],false⟩) b.size 0 (Array.replicate b.size false)
theorem wV{F:Nat→Foot}:∀(n k:Nat)(a:Array Bool)(S h:St)(ob:List Obl)(fts:List Foot),em P cfg N b (List.range' k n) S=some (h,ob,fts)→gz P ob→
    (∀j f,fts[j]? =some f→F (k+j)=f)→F7 b F n k a=true→F5 P cfg N b F n a S h
 |0,k,a,S,h,ob,fts,d,_,_,i=>by
  simp only[List.range'_zero,em,xA,xG]at d;exact⟨by simpa [F7]using i,d.1⟩
 |n+1,k,a,S,h,ob,fts,d,e,u,i=>by
  rw[zP]at d;simp only[em]at d;split at d
  ·cases d
  ·rename_i o q
   split at d
   ·cases d
   ·rename_i z p
    split at d
    ·cases d
    ·rename_i B m
     simp only[xA,xG]at d;obtain⟨rfl,rfl,rfl⟩:=d;obtain⟨S1,w,g⟩:=z;obtain⟨v,l,t⟩:=B;simp only[F7,xL]at i;obtain⟨⟨y,h2⟩,A⟩:=i;have s:F k=g:=by simpa using u 0 g (by simp)
     refine Bs q (fun c r=>e c (yP _ r)) n a S S1 v ((xy _ _▸h2).elim (Bq q) (Br q)) (by simpa using y) (by rw[s];exact p)
      (wV n (k+1) _ S1 v l t m (fun c r=>e c (yj _ r)) (fun j f x=> ?_) A)
     have:=u (j+1) f (by simpa using x);rw[←this];congr 1;omega
variable{G:Gh}{B:Nat}{w0 w:World}{I0:Nat→Nat→Prop}
theorem me{D:List Deferred}(q:iB P)(r:Option Nat)(n:Nat){F:Nat→Foot}{Q:Exit→Act→World→Prop}{m:St}:∀(fuel:Nat)(c:Array Bool)(G:Gh)(w:World)(S:St)(a:Act),HR G B w0 I0 S.heap w→FR G w N D S.env a→F5 P cfg N b F fuel c S m→
    (∀k d e,Ext G w e d→HR e B w0 I0 m.heap d→FR e d N D m.env k→Q .normal k d)→wpAnyIn (FF r) n P .any b Q fuel c a w
 |0,c,G,w,S,a,g,f,h,j=>by
  obtain⟨H,rfl⟩:=h;exact⟨H,j a w G (Ext.refl G w) g f⟩
 |fuel+1,c,G,w,S,a,g,f,h,j=>by
  refine⟨fun I=> ?_,fun i E=> ?_⟩
  ·have:=h.1 I
   subst this;exact j a w G (Ext.refl G w) g f
  ·obtain⟨o,S1,ob,C,p,l,h2⟩:=h.2 i E
   unfold wpOpIn;simp only[C];exact fH q g f p l r n (fun k d e z J s=>me q r n fuel _ e d S1 k J s h2 (fun x A u v y t=>j x A u (z.trans v) y t))
theorem ov{D:List Deferred}(hm:jP P)(r:Option Nat)(n:Nat){id:Nat}{S i:St}{a:Act}{ob:List Obl}{fts:List Foot}{Q:Exit→Act→World→Prop}(m:HR G B w0 I0 S.heap w)(t:FR G w N D S.env a)
    (c:em P cfg N b (List.range b.size) S=some (i,ob,fts)) (s:CU b fts=true) (k:gz P ob)
    (o:∀h d g,Ext G w g d→HR g B w0 I0 i.heap d→FR g d N D i.env h→Q .normal h d):(Code.region id b true).wpIn (FF r) n P Q a w:=by
 refine wpIn_region_any hm.mixed ?_;rw[List.range_eq_range']at c;have e:=wV b.size 0 (Array.replicate b.size false) S i ob fts c k (fun j f p=>by simp[p]) s;exact me hm.ext r n b.size _ G w.drew S a m.drew (t.mono (Ext.drew G w)) e (fun h d g q l h2=>o h d g ((Ext.drew G w).trans q) l h2)
end
end Go.Avm
namespace Go.Avm
open Go.RowKit
variable[aG]
def iW(P:Program)(f:Nat)(args:List AV)(h:aa)(x:AV)(h':aa):Prop:=
 ct P f∧∀(G:Gh)(B:Nat)(w0:World)(I0:Nat→Nat→Prop)(w:World)(a:Array Value),HR G B w0 I0 h w→a.size=args.length→
  (∀(i:Nat)(x:AV)(u:Value),args[i]? =some x→a[i]? =some u→Rep G w x u)→
  Calls P f a w fun e c=>∃v b,e= .panicked [{v,recovered:=false}]∧Ext G w b c∧HR b B w0 I0 h' c∧Rep b c x v
def Ke(P:Program)(o:Oper)(S:St)(x:AV)(h':aa):Prop:=
 (∃u t y,o.op= .panic u∧opd S.env u=x∧x= .iv t y∧h'=S.heap)∨(∃g args,dZ o S.env=some (g,args)∧iW P g args S.heap x h')
def mI(a:Array Oper):List Nat:=a.toList.filterMap (·.dst)
def ow(a:Array Oper)(env:Nat→AV):Nat→AV:=fun t=>if (mI a).contains t=true then .junk else env t
section
variable{P:Program}{cfg:hQ}{N:Nat}{b:Array Oper}{G:Gh}{B:Nat}{w0 w:World}{I0:Nat→Nat→Prop}
theorem nq{p:Nat}{o:Oper}(c:b[p]? =some o){t:Nat}(a:(mI b).contains t=false):o.dst≠some t:=fun e=>by
 have:t∈mI b:=List.mem_filterMap.2 ⟨o,by rw[xp];exact yx c,e⟩;rw[List.contains_iff_mem.2 this]at a;cases a
theorem Bt{D:List Deferred}{o:Oper}{S:St}{x:AV}{h':aa}(r:Option Nat)(n:Nat){a:Act}{next:Act→World→Prop}{Q:Exit→Act→World→Prop}(C:HR G B w0 I0 S.heap w)(A:FR G w N D S.env a)
    (hp:Ke P o S x h') (L:∀v m q,Ext G w q m→HR q B w0 I0 h' m→FR q m N D S.env a→Rep q m x v→Q (.panic [{v,recovered:=false}]) a m):o.wpIn (FF r) n P a w next Q:=by
 rcases hp with ⟨u,t,y,j,M,rfl,rfl⟩|⟨g,args,d,E,p⟩
 ·have l:=A.opd C.maps.glob u
  rw[M]at l
  obtain⟨v,O,H⟩:∃v,a.eval u= .iface t v∧Rep G w (.iv t y) (.iface t v):=by
   generalize a.eval u=U at l;cases l with
   |iv _ v h=>exact⟨v,rfl, .iv _ v h⟩
  have i:(execOp a.eval o).run P w= .halt (.panic (.iface t v)) w:=by
   unfold execOp;rw[j];simp only[O];rfl
  exact⟨fun _ _=>trivial,by
   rw[Oper.semAt_eq _ _ _ (fun c e=>by rw[j]at e;cases e),i,Oper.uponIn_panic];exact L _ w G (Ext.refl G w) C A H⟩
 ·unfold dZ at d
  split at d
  ·rename_i c j
   split at d
   ·rename_i f z
    split at d
    ·rename_i T J I
     simp only[xA,xG]at d;obtain⟨rfl,rfl⟩:=d;obtain⟨vs,F,s,k⟩:=jr (P:=P) (ty:=o.type) (ρ:=a.eval) (fun x=>A.opd C.maps.glob x) z I
     have i:(execOp a.eval o).run P w= .ok (.enter T (c.args.map a.eval ++vs)) w:=by
      unfold execOp;rw[j];exact k.trans (dq E _ w)
     refine⟨fun _ _=>trivial, ?_⟩;rw[Oper.semAt_eq _ _ _ (fun c e=>by rw[j]at e;cases e),i,Oper.uponIn_enter];refine⟨fun x=>(by cases x),(uL r (n-1) (p G B w0 I0 w _ C F s)).mono ?_⟩;rintro e m ⟨v,q,rfl,K,h2,R⟩;exact L v m q K h2 (A.mono K) R
    ·cases d
   ·cases d
  ·cases d
theorem FR.junk{D:List Deferred}{env env':Nat→AV}{a:Act}(c:FR G w N D env a)(h:∀t,env' t=env t∨env' t= .junk):FR G w N D env' a:=
 ⟨c.size,c.nod,fun t d=>by
  rcases h t with e|e
  ·rw[e];exact c.rep t d
  ·rw[e];exact .junk _,fun t d=>by
  rcases h t with e|e
  ·rw[e];exact c.out t d
  ·exact e⟩
def ox(P:Program)(b:Array Oper)(p:Nat)(env0:Nat→AV)(x:AV)(h':aa)(S:St):Prop:=
 (∃o,b[p]? =some o∧er b o S.env=some true∧Ke P o S x h')∧∀t,(mI b).contains t=false→S.env t=env0 t
theorem uQ{D:List Deferred}{p:Nat}{env0:Nat→AV}{x:AV}{h':aa}{S:St}(r:Option Nat)(n:Nat){a:Act}{K:Act→World→Prop}{Q:Exit→Act→World→Prop}(k:HR G B w0 I0 S.heap w)(e:FR G w N D S.env a)
    (h:ox P b p env0 x h' S) (l:∀v c d,Ext G w d c→HR d B w0 I0 h' c→FR d c N D (ow b env0) a→Rep d c x v→Q (.panic [{v,recovered:=false}]) a c):wpOpIn (FF r) n P b Q p K a w:=by
 obtain⟨⟨o,s,j,hp⟩,m⟩:=h;unfold wpOpIn;simp only[s];rw[x9 (p6 e j)];refine Bt r n k e hp (fun v c d g h2 q f=>l v c d g h2 (q.junk fun t=> ?_) f);unfold ow;split
 ·exact .inr rfl
 ·rename_i i
  exact .inl (m t (by simpa using i)).symm
theorem EG{p k:Nat}{ok op:Oper}{env0:Nat→AV}{x:AV}{h':aa}{S S1:St}{ob:List Obl}{f:Foot}(K:b[k]? =some ok)(i:b[p]? =some op)(L:cd P cfg N b k ok S=some (S1,ob,f))(z:ok.apart b op=true)
    (j:f.all=false) (q:f.wr=[]) (h:ox P b p env0 x h' S1):ox P b p env0 x h' S:=by
 obtain⟨⟨o,C,H,hp⟩,F⟩:=h;rw[i]at C;cases C;obtain⟨I,_,_⟩:=Oper.apart_spec z;obtain⟨v,O,l,D,A,_,_⟩:=eF L;obtain⟨E,rfl,r⟩:=A j;have d:E=[]:=List.map_eq_nil_iff.1 (r.symm.trans q);subst d;have a:S1.heap=S.heap:=D;have c:∀t∈op.looksAt b,S.env t=S1.env t:=fun t n=>(i7 l (fun e=>I t e n)).symm
 refine⟨⟨op,i,by rw[cY (o:=op) (env:=S1.env) (env':=S.env) c];exact H, ?_⟩,fun t n=>by rw[←F t n,i7 l (nq K n)]⟩;rcases hp with ⟨u,t,y,m,s,J,M⟩|⟨g,args,m,s⟩
 ·refine .inl ⟨u,t,y,m, ?_,J,M.trans a⟩
  rw[js c u (by rw[m];simp[Op.operands])];exact s
 ·refine .inr ⟨g,args, ?_,by rw[←a];exact s⟩
  rw[eP c];exact m
def F8(P:Program)(cfg:hQ)(N:Nat)(b:Array Oper)(F:Nat→Foot)(p:Nat)(L:St→Prop):Nat→Array Bool→St→Prop
 |0,_,_=>False
 |fuel+1,a,S=>Region.ready .any b a≠[]∧
  ∀i∈Region.ready .any b a,(i=p∧L S)∨(i<p∧∃o S1 ob,b[i]? =some o∧cd P cfg N b i o S=some (S1,ob,F i)∧gz P ob∧F8 P cfg N b F p L fuel (a.setIfInBounds i true) S1)
def F9(b:Array Oper)(F:Nat→Foot)(p:Nat)(a:Array Bool)(k:Nat):Bool:=
 match b[k]?,b[p]? with
 |some ok,some op=>((List.range p).all fun j=>j==k||a.getD j true||match b[j]? with
     |some c=>c.after.any (fun e=>Region.binds .any e&&e.on==k)||(ok.apart b c&&(F k).apart (F j))
     |none=>true)&&(op.after.any (fun e=>Region.binds .any e&&e.on==k)||(ok.apart b op&& !(F k).all&&(F k).wr.isEmpty))
 |_,_=>false
theorem Bu{F:Nat→Foot}{p k:Nat}{ok op:Oper}{env0:Nat→AV}{x:AV}{h':aa}(T:b[k]? =some ok)(hp:b[p]? =some op)(O:k<p){ob:List Obl}(E:gz P ob):
    ∀(fuel:Nat)(a:Array Bool)(S S1:St),
     (∀j n,j<p→b[j]? =some n→j≠k→a.getD j true=false→(∀e∈n.after,Region.binds .any e=true→e.on≠k)→ok.apart b n=true∧(F k).apart (F j)=true)→
     ((∀e∈op.after,Region.binds .any e=true→e.on≠k)→ok.apart b op=true∧(F k).all=false∧(F k).wr=[])→
     k∈Region.ready .any b a→cd P cfg N b k ok S=some (S1,ob,F k)→
     F8 P cfg N b F p (ox P b p env0 x h') fuel (a.setIfInBounds k true) S1→F8 P cfg N b F p (ox P b p env0 x h') (fuel+1) a S:=by
 intro fuel;induction fuel with
 |zero=>intro a S S1 _ _ _ _ H;exact H.elim
 |succ fuel ih=>
  intro a S S1 f r D M H;refine⟨fun h=>(by rw[h]at D;cases D),fun j Q=> ?_⟩;by_cases c:j=k
  ·subst c;exact .inr ⟨O,ok,S1,ob,T,M,E,H⟩
  ·obtain⟨g,n,d,z⟩:=mem_ready.1 Q
   have m:∀e∈n.after,Region.binds .any e=true→e.on≠k:=fun e U W o=>by
    have y:=z e U W;have R:=(mem_ready.1 D).1;rw[o]at y;rcases yJ k a.size with h'|h'
    ·simp[h']at R y;rw[R]at y;cases y
    ·simp[Array.getElem?_eq_none h']at y
   rcases H.2 j (ready_mono Q c)with ⟨rfl,Z⟩|⟨t,q,Y,L,l,s,C,H2⟩
   ·left
    have e:n=op:=by rw[hp]at d;exact(Option.some.inj d).symm
    subst e;obtain⟨V,q2,q3⟩:=r m;exact⟨rfl,EG T hp M V q2 q3 Z⟩
   ·right
    have o:q=n:=by rw[d]at l;exact(Option.some.inj l).symm
    subst o;obtain⟨a1,X⟩:=f j q t d c g m;obtain⟨A,k1,k2⟩:=mH a1 X M s;refine⟨t,q,A,L,d,k1,C,ih (a.setIfInBounds j true) A Y (fun i oi I hi J u K=> ?_) r (ready_mono D (Ne.symm c)) k2 ?_⟩
    ·refine f i oi I hi J ?_ K
     by_cases v:j=i
     ·subst v;exact g
     ·rw[getD_set_ne true v]at u;exact u
    ·rw[Array.setIfInBounds_comm _ _ c]
     exact H2
theorem Bv{F:Nat→Foot}{p k:Nat}{ok op:Oper}{a:Array Bool}(o:b[k]? =some ok)(hp:b[p]? =some op)(h:F9 b F p a k=true):
    (∀j g,j<p→b[j]? =some g→j≠k→a.getD j true=false→(∀e∈g.after,Region.binds .any e=true→e.on≠k)→ok.apart b g=true∧(F k).apart (F j)=true)∧
    ((∀e∈op.after,Region.binds .any e=true→e.on≠k)→ok.apart b op=true∧(F k).all=false∧(F k).wr=[]):=by
 simp only[F9,o,hp,xL]at h;obtain⟨c,h2⟩:=h;refine⟨fun j g m q i n f=> ?_,fun f=> ?_⟩
 ·simp only[xa,List.mem_range]at c
  have c:=c j m;simp only[q,xy,xm,i,false_or,n,yz]at c;rcases c with c|c
  ·obtain⟨e,l,d⟩:=Array.any_eq_true'.1 c
   simp only[xL,xm]at d;exact absurd d.2 (f e l d.1)
  ·simpa using c
 ·rw[xy]at h2
  rcases h2 with h2|h2
  ·obtain⟨e,l,d⟩:=Array.any_eq_true'.1 h2
   simp only[xL,xm]at d;exact absurd d.2 (f e l d.1)
  ·simp only[xL,yH,zB]at h2
   exact⟨h2.1.1,h2.1.2,h2.2⟩
def wW(b:Array Oper)(F:Nat→Foot)(p:Nat):Nat→Nat→Array Bool→Bool
 |0,_,a=>match Region.ready .any b a with
  |[i]=>i==p
  |_=>false
 |n+1,k,a=>(Region.ready .any b a).contains k&&F9 b F p a k&&wW b F p n (k+1) (a.setIfInBounds k true)
def Bw(b:Array Oper)(fts:List Foot)(p:Nat):Bool:=wW b (fun i=>(fts[i]?).getD ⟨0,[],[],false⟩) p p 0 (Array.replicate b.size false)
theorem wX{F:Nat→Foot}{p:Nat}{op:Oper}{env0:Nat→AV}{x:AV}{h':aa}(hp:b[p]? =some op):∀(n k:Nat)(a:Array Bool)(S q:St)(ob:List Obl)(fts:List Foot),k+n=p→em P cfg N b (List.range' k n) S=some (q,ob,fts)→gz P ob→
    (∀j f,fts[j]? =some f→F (k+j)=f)→wW b F p n k a=true→ox P b p env0 x h' q→F8 P cfg N b F p (ox P b p env0 x h') (n+1) a S
 |0,k,a,S,q,ob,fts,v,d,_,_,e,u=>by
  simp only[List.range'_zero,em,xA,xG]at d;obtain⟨rfl,_,_⟩:=d;simp only[wW]at e;split at e
  ·rename_i i m
   rw[xm]at e;subst e
   exact⟨by rw[m];simp,fun j h=>by
    rw[m]at h;simp only[xK]at h;exact .inl ⟨h,u⟩⟩
  ·cases e
 |n+1,k,a,S,q,ob,fts,v,d,g,C,e,u=>by
  rw[zP]at d;simp only[em]at d;split at d
  ·cases d
  ·rename_i o D
   split at d
   ·cases d
   ·rename_i L t
    split at d
    ·cases d
    ·rename_i O s
     simp only[xA,xG]at d;obtain⟨rfl,rfl,rfl⟩:=d;obtain⟨S1,H,l⟩:=L;obtain⟨I,r,A⟩:=O;simp only[wW,xL]at e;obtain⟨⟨J,h2⟩,M⟩:=e;have z:F k=l:=by simpa using C 0 l (by simp)
     obtain⟨E,K⟩:=Bv D hp h2
     refine Bu D hp (by omega) (fun c y=>g c (yP _ y)) (n+1) a S S1 E K (by simpa using J) (by rw[z];exact t)
      (wX hp n (k+1) _ S1 I r A (by omega) s (fun c y=>g c (yj _ y)) (fun j f h=> ?_) M u)
     have:=C (j+1) f (by simpa using h);rw[←this];congr 1;omega
theorem mf{D:List Deferred}(A:iB P)(r:Option Nat)(n:Nat){F:Nat→Foot}{p:Nat}{env0:Nat→AV}{x:AV}{h':aa}{Q:Exit→Act→World→Prop}:∀(fuel:Nat)(c:Array Bool)(G:Gh)(w:World)(S:St)(a:Act),HR G B w0 I0 S.heap w→FR G w N D S.env a→
    F8 P cfg N b F p (ox P b p env0 x h') fuel c S→
    (∀v m e f,Ext G w f e→HR f B w0 I0 h' e→FR f e N D (ow b env0) m→Rep f e x v→Q (.panic [{v,recovered:=false}]) m e)→∀d,fuel≤d→wpAnyIn (FF r) n P .any b Q d c a w
 |0,c,G,w,S,a,k,j,h,l,d,_=>h.elim
 |fuel+1,c,G,w,S,a,k,j,h,l,0,g=>absurd g (by omega)
 |fuel+1,c,G,w,S,a,k,j,h,l,d+1,g=>by
  refine⟨fun O=>absurd O h.1,fun i M=> ?_⟩;rcases h.2 i M with ⟨rfl,H⟩|⟨_,o,S1,ob,L,t,q,h2⟩
  ·exact uQ r n k j H (fun v e f u y s z=>l v a e f u y s z)
  ·unfold wpOpIn
   simp only[L];exact fH A k j t q r n (fun m e f J R C=>mf A r n fuel _ f e S1 m R C h2 (fun v I K E u y s z=>l v I K E (J.trans u) y s z) d (by omega))
theorem rc{D:List Deferred}(hm:jP P)(r:Option Nat)(n:Nat){id p:Nat}{op:Oper}{S k:St}{a:Act}{ob:List Obl}{fts:List Foot}{x:AV}{h':aa}{Q:Exit→Act→World→Prop}(o:HR G B w0 I0 S.heap w)(z:FR G w N D S.env a)
    (hp:b[p]? =some op) (e:em P cfg N b (List.range' 0 p) S=some (k,ob,fts)) (y:Bw b fts p=true) (i:gz P ob) (l:ox P b p S.env x h' k)
    (q:∀v h c d,Ext G w d c→HR d B w0 I0 h' c→FR d c N D (ow b S.env) h→Rep d c x v→Q (.panic [{v,recovered:=false}]) h c):(Code.region id b true).wpIn (FF r) n P Q a w:=by
 refine wpIn_region_any hm.mixed ?_;have g:=wX hp p 0 (Array.replicate b.size false) S k ob fts (by omega) e i (fun j f s=>by simp[s]) y l;exact mf hm.ext r n (p+1) _ G w.drew S a o.drew (z.mono (Ext.drew G w)) g (fun v h c d t m h2 u=>q v h c d ((Ext.drew G w).trans t) m h2 u) b.size (xQ.1 hp).1
theorem wY{D:List Deferred}(F:iB P)(r:Option Nat)(n:Nat){Q:Exit→Act→World→Prop}{p:Nat}{h:List Nat}{env0:Nat→AV}{x:AV}{h':aa}:∀(l:List Nat){G:Gh}{w:World}{S S':St}{a:Act}{ob:List Obl}{fts:List Foot},
    HR G B w0 I0 S.heap w→FR G w N D S.env a→em P cfg N b l S=some (S',ob,fts)→gz P ob→ox P b p env0 x h' S'→
    (∀v E e g,Ext G w g e→HR g B w0 I0 h' e→FR g e N D (ow b env0) E→Rep g e x v→Q (.panic [{v,recovered:=false}]) E e)→wpOpsIn (FF r) n P b Q (l ++p::h) a w
 |[],G,w,S,S',a,ob,fts,z,u,d,f,q,A=>by
  simp only[em,xA,xG]at d;obtain⟨rfl,_,_⟩:=d;rw[xn,wpOpsIn_cons];exact uQ r n z u q (fun v e g s t j y=>A v a e g s t j y)
 |i::U,G,w,S,S',a,ob,fts,z,u,d,f,q,A=>by
  simp only[em]at d;split at d
  ·cases d
  ·rename_i o O
   split at d
   ·cases d
   ·rename_i T m
    split at d
    ·cases d
    ·rename_i W k
     simp only[xA,xG]at d;obtain⟨rfl,rfl,rfl⟩:=d;obtain⟨S1,I,K⟩:=T;obtain⟨Y,H,X⟩:=W;rw[x8,wpOpsIn_cons];unfold wpOpIn;simp only[O]
     exact fH F z u m (fun c C=>f c (yP _ C)) r n (fun E e g R h2 V=>
      wY F r n U h2 V k (fun c C=>f c (yj _ C)) q (fun v L M J s t j y=>A v L M J (R.trans s) t j y))
theorem pm{p m:Nat}(h:p<m):List.range m=List.range' 0 p ++p::List.range' (p+1) (m-p-1):=by
 rw[List.range_eq_range',show m=p+(m-p) by omega,←List.range'_append_1,show(p+(m-p))-p-1=m-p-1 by omega];congr 1;rw[show m-p=(m-p-1)+1 by omega,zP];simp
theorem Bx{D:List Deferred}(hm:jP P)(r:Option Nat)(n:Nat){id p:Nat}{op:Oper}{S h:St}{a:Act}{ob:List Obl}{fts:List Foot}{x:AV}{h':aa}{Q:Exit→Act→World→Prop}(j:HR G B w0 I0 S.heap w)(l:FR G w N D S.env a)
    (hp:b[p]? =some op) (d:em P cfg N b (List.range' 0 p) S=some (h,ob,fts)) (f:gz P ob) (i:ox P b p S.env x h' h)
    (k:∀v g c e,Ext G w e c→HR e B w0 I0 h' c→FR e c N D (ow b S.env) g→Rep e c x v→Q (.panic [{v,recovered:=false}]) g c):(Code.region id b false).wpIn (FF r) n P Q a w:=by
 refine wpIn_region ?_;rw[pm (xQ.1 hp).1];exact wY hm.ext r n _ j l d f i k
end
end Go.Avm
