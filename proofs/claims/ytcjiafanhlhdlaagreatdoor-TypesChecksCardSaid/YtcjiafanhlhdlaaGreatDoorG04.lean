/-
  The abstract machine, part L: one step of a region, calls of functions on data, and the steps of a region one behind the other.
-/
import Derived.Test.YtcjiafanhlhdlaaGreatDoorG03
import Derived.OrdersIn
import Derived.RangeFuncCalls
import Derived.Laws.StandIn
import Derived.Orders
set_option linter.unusedVariables false
set_option linter.unusedSimpArgs false
set_option linter.unusedSectionVars false
namespace Go.Avm
open Go.RowKit
variable[aH]
def da(P:Program)(f:Nat):Prop:=∃fn,P.funcs[f]? =some fn∧fn.body.isNone=false∧(fn.name== "runtime.NumGoroutine")=false
def Ls(P:Program)(g:Nat)(k:DU):Prop:=∃fn,P.funcs[g]? =some fn∧(fn.name== "runtime.NumGoroutine")=false∧fn.body.isNone=true∧Extern.findNext fn=none∧match k with
 | .indexByte=>Extern.find fn=some Extern.BytealgIndexByte.indexByte
 | .same=>Extern.find fn=some Extern.AbiNoEscape.same
def io(P:Program):Prop:=∀g k,aH.ext g=some k→Ls P g k
structure jF(P:Program):Prop where
 mixed:P.follows .mixedOrders=true
 ext:io P
def qR(I:Nat→Nat→Prop)(w:World)(a:List D)(v:Value):Prop:=
 (∃x,a=[x]∧DRep I w x v)∨(a.length≠1∧∃vs,v= .tuple vs∧vs.size=a.length∧∀(i:Nat)(x:D)(u:Value),a[i]? =some x→vs[i]? =some u→DRep I w x u)
def aF(P:Program)(f:Nat)(args d:List D):Prop:=
 da P f∧∀(w:World)(I:Nat→Nat→Prop)(a:Array Value),(∀b o,I b o→b<w.heap.size)→a.size=args.length→
  (∀(i:Nat)(x:D)(u:Value),args[i]? =some x→a[i]? =some u→DRep I w x u)→Globs I w→
  Calls P f a w fun e c=>∃v I',e= .returned v∧Below w.heap.size w c∧(∀b o,I b o→I' b o)∧(∀b o,I' b o→I b o∨w.heap.size≤b)∧
   (∀b o,I' b o→b<c.heap.size)∧qR I' c d v
def am(P:Program)(f:Nat)(args:List AV)(h:aa)(d:List AV)(h':aa):Prop:=
 da P f∧∀(G:Gh)(B:Nat)(w0:World)(I0:Nat→Nat→Prop)(w:World)(a:Array Value),HR G B w0 I0 h w→a.size=args.length→
  (∀(i:Nat)(x:AV)(u:Value),args[i]? =some x→a[i]? =some u→Rep G w x u)→
  Calls P f a w fun e c=>∃v b,e= .returned v∧Ext G w b c∧HR b B w0 I0 h' c∧Rep b c (iG d) v
def FF(r:Option Nat):Fence:={fn:=fun _=>True,depth:=none,alive:=false,round:=r}
def Cv(P:Program)(k v:Nat)(args:List AV)(h:aa)(j:List AV)(h':aa):Prop:=
 ∀(G:Gh)(B:Nat)(w0:World)(I0:Nat→Nat→Prop)(w:World)(a:Array Value),HR G B w0 I0 h w→a.size=args.length→
  (∀(i:Nat)(x:AV)(u:Value),args[i]? =some x→a[i]? =some u→Rep G w x u)→∀b,G.mloc k v=some b→
  ∃(f:Nat)(c:Array Value)(YU bd:Code),(Instr.yield b a).run P w= .ok (.round b f c YU bd) w∧
   ∀r,RoundIn (FF r) 0 P b f c YU bd w fun e d=>∃x g,e= .returned x∧Ext G w g d∧HR g B w0 I0 h' d∧Rep g d (iG j) x
theorem qS:∀(l m:List (Nat×aE))(h:aa),ae (l ++m) h=ae l (ae m h)
 |[],_,_=>rfl
 |(k,e)::r,m,h=>by simp only[xk,ae,qS r m h]
theorem qU:∀(l:List (Nat×aE))(h:aa),ap h l=ae l.reverse h
 |[],_=>rfl
 |(k,e)::r,h=>by
  rw[ap,qU r,List.reverse_cons,qS];rfl
theorem A2(l:List (Nat×aE))(h:aa):ap h l.reverse=ae l h:=by rw[qU,List.reverse_reverse]
theorem hG(h:aa):∀(l:List (Nat×aE)),(∀p∈l,p.2.ver=(h p.1).ver∧(p.2.ob=none∨p.2.ob=(h p.1).ob))→∀k,(ae l h k).ver=(h k).ver∧((ae l h k).ob=none∨(ae l h k).ob=(h k).ob)
 |[],_,_=>⟨rfl, .inr rfl⟩
 |(b,e)::r,hp,k=>by
  simp only[ae,aG];split
  ·rename_i a;subst a;exact hp (k,e) (by simp)
  ·exact hG h r (fun p hm=>hp p (by simp[hm])) k
theorem HR.forget{G:Gh}{B:Nat}{w0 w:World}{I0:Nat→Nat→Prop}{h h':aa}(e:HR G B w0 I0 h w)(d:∀k,(h' k).ver=(h k).ver∧((h' k).ob=none∨(h' k).ob=(h k).ob)):HR G B w0 I0 h' w:=
 ⟨e.below,e.bsz,e.immlt,e.i0,e.immlow,fun k v L g=>by rw[(d k).1];exact e.fresh k v L g,fun k L g=>by rw[(d k).1]at g;exact e.own k L g,
  fun k i L s g j=>by rw[(d k).1]at g;rw[(d i).1]at j;exact e.dis k i L s g j,fun k ob m=>by
   rw[(d k).1];rcases(d k).2 with a|a
   ·rw[a]at m;cases m
   ·rw[a]at m;exact e.objs k ob m,fun k=>by rw[(d k).1];exact e.lim k,⟨fun k v b x=>by rw[(d k).1];exact e.maps.low k v b x,fun k i b l l' x p=>by
   have o:∀k,je (h' k).ob=true→je (h k).ob=true:=fun k l=>by
    rcases(d k).2 with a|a
    ·rw[a]at l;cases l
    ·rw[←a];exact l
   rw[(d k).1]at x;rw[(d i).1]at p;exact e.maps.inj k i b (o k l) (o i l') x p,fun k es c x=>by
   rw[(d k).1];rcases(d k).2 with a|a
   ·rw[a]at x;cases x
   ·rw[a]at x;exact e.maps.obj k es c x,fun k n N env ps YU bd t x=>by
   rw[(d k).1];rcases(d k).2 with a|a
   ·rw[a]at x;cases x
   ·rw[a]at x;exact e.maps.loops k n N env ps YU bd t x,fun k q r f seen x=>by
   rw[(d k).1];rcases(d k).2 with a|a
   ·rw[a]at x;cases x
   ·rw[a]at x;exact e.maps.iters k q r f seen x,e.maps.glob⟩⟩
theorem uE{P:Program}{g:Nat}{args e:List AV}{h c h2:aa}(d:am P g args c e h2)(j:∀k,(c k).ver=(h k).ver∧((c k).ob=none∨(c k).ob=(h k).ob)):am P g args h e h2:=
 ⟨d.1,fun G B w0 I0 w a f i b=>d.2 G B w0 I0 w a (f.forget j) i b⟩
def Fg(P:Program)(ob:List (Nat×List D×List D)):Prop:=∀c∈ob,aF P c.1 c.2.1 c.2.2
def Obl.holds(P:Program):Obl→Prop
 | .data c=>aF P c.1 c.2.1 c.2.2
 | .heap f args h d h'=>am P f args h d h'
 | .frame f args b d a=>∀h,lT h b→am P f args h d (ae a h)
 | .exact f args b e d a g=>∀h,(∀k∈b,h k=e k)→am P f args h d (ap h (jI a g))
 | .yield k v args h d h'=>Cv P k v args h d h'
def gy(P:Program)(ob:List Obl):Prop:=∀c∈ob,c.holds P
section
variable{P:Program}{G:Gh}{B:Nat}{w0 w:World}{I0:Nat→Nat→Prop}{h:aa}
theorem qW{w c:World}(d:Below w.heap.size w c){b o:Nat}(a:b<w.heap.size):c.cell? ⟨b,o,none⟩=w.cell? ⟨b,o,none⟩:=d.cell (p:=⟨b,o,none⟩) a
theorem HR.behind(a:HR G B w0 I0 h w){d:World}(c:Below w.heap.size w d){I':Nat→Nat→Prop}(j:∀b o,I' b o→G.imm b o∨w.heap.size≤b)(g:∀b o,I' b o→b<d.heap.size):
    HR (G.more I') B w0 I0 h d∧Ext G w (G.more I') d:=by
 have hex:Ext G w (G.more I') d:=⟨fun _ _ x=> .inl x,fun _ _ _ x=>x,fun b i x=>qW c (a.immlt b i x),c.size,fun _=>xL _,fun _ _ _ x=>x,fun _ _ _ x=>x,fun b o _ x=>⟨o,by rw[c.block b (xR.1 x).1];exact x,ei o⟩⟩
 refine⟨⟨a.below.trans (c.mono a.bsz),yH a.bsz c.size, ?_,fun b o x=> .inl (a.i0 b o x), ?_,a.fresh, ?_,a.dis, ?_,a.lim,a.maps.step hex rfl (fun b o _ x=>(c.block b (xR.1 x).1).trans x) (fun _=>xL _) (fun _ _ _ _=>rfl)⟩,hex⟩
 ·rintro b o (x|x)
  ·exact xy (a.immlt b o x) c.size
  ·exact g b o x
 ·rintro b o (x|x) hbB
  ·exact a.immlow b o x hbB
  ·rcases j b o x with x|x
   ·exact a.immlow b o x hbB
   ·have:=a.bsz;omega
 ·intro k L f
  obtain⟨p,⟨arr,e,h2,n⟩,l⟩:=a.own k L f;have dk:=a.blt f;refine⟨p,⟨arr,e,(c.block L.b dk).trans h2,n⟩, ?_⟩;rintro o (x|x)
  ·exact l o x
  ·rcases j _ o x with x|x
   ·exact l o x
   ·omega
 ·intro k ob m
  exact(a.objs k ob m).mono (a.le k) hex (fun L f t=>qW c (a.blt f))
theorem wI{x:D}(c:x.scal=true){I:Nat→Nat→Prop}{w:World}{v:Value}(b:DRep I w x v)(a:Nat→Nat→Prop)(d:World):DRep a d x v:=by
 cases x<;>first|(cases b;first|exact .bool _|exact .int _ _|exact .str _ _ ‹_›|exact .nilp|exact .nili|exact .ifc _ _)|(simp[D.scal]at c)
theorem tx{a:List D}{v:Value}(j:qR G.imm w a v):Rep G w (kA a) v:=by
 rcases j with ⟨x,rfl,b⟩|⟨k,vs,rfl,l,b⟩
 ·exact .d b
 ·have:kA a= .tup (a.map .d):=by
    unfold kA;split
    ·simp at k
    ·rfl
  rw[this];refine .tup _ vs (by simpa using l) (fun i c u e f=> ?_);simp only[xN,xB]at e;obtain⟨x,g,rfl⟩:=e;exact .d (b i x u g f)
theorem db{f:Nat}(d:da P f)(args:Array Value)(w:World):(callFunc f args).run P w= .ok (.enter f args) w:=by
 obtain⟨fn,a,b,c⟩:=d;simp only[callFunc,Sem.run_bind,run_program,Result.andThen_ok,a,c,b,yl,yi,Sem.run_pure]
theorem uF(m:HR G B w0 I0 h w){cfg:ic}{i f:Nat}{xs:List AV}{vs:Array Value}(S:vs.size=xs.length)(j:∀(i:Nat)(x:AV)(u:Value),xs[i]? =some x→vs[i]? =some u→Rep G w x u){out:Out}
    (g:gX cfg i f xs h=some out) (y:Fg P out.ob):
    da P f∧Calls P f vs w fun e p=>∃v O,e= .returned v∧Ext G w O p∧HR O B w0 I0 (ap h out.wr) p∧Rep O p out.val v:=by
 unfold gX at g;split at g
 ·rename_i ds E
  simp only[xA]at g;subst g;obtain⟨R,h2⟩:=qz E S j;obtain⟨C,c⟩:=y (f,ds,cfg.ret i) (by simp);refine⟨C,(c w G.imm vs m.immlt R h2 m.maps.glob).mono ?_⟩;rintro e p ⟨v,I',rfl,F,A,t,s,d⟩;obtain⟨N,M⟩:=m.behind F t s;refine⟨v,_,rfl,M,N,tx ?_⟩;have up:∀{x:D}{u:Value},DRep I' p x u→DRep (G.more I').imm p x u:=fun l=>l.mono (fun _ _ x=> .inr x) (fun _ _ _=>rfl)
  rcases d with ⟨x,j,l⟩|⟨H,I,Q,K,l⟩
  ·exact .inl ⟨x,j,up l⟩
  ·exact .inr ⟨H,I,Q,K,fun i x u a b=>up (l i x u a b)⟩
 ·split at g
  ·rename_i r q
   split at g
   ·rename_i n
    simp only[xA]at g;subst g;obtain⟨ds,ks⟩:=r;obtain⟨R,h2⟩:=ww m q S j;obtain⟨C,c⟩:=y (f,ds,cfg.ret i) (by simp)
    have z:∀b o,dp G h ks b o→b<w.heap.size:=by
     rintro b o (x|⟨k,_,L,U,rfl⟩)
     ·exact m.immlt b o x
     ·exact m.blt U
    refine⟨C,(c w (dp G h ks) vs z R h2 (m.maps.glob.mono (fun _ _ x=> .inl x) (fun _ _ _=>rfl))).mono ?_⟩;rintro e p ⟨v,I',rfl,F,A,t,s,d⟩;obtain⟨N,M⟩:=m.behind F (I':=fun _ _=>False) (fun _ _ x=>x.elim) (fun _ _ x=>x.elim);refine⟨v,_,rfl,M,N,tx ?_⟩;have T:∀x∈cfg.ret i,x.scal=true:=fun x j=>xc.1 n x j
    rcases d with ⟨x,j,l⟩|⟨H,I,Q,K,l⟩
    ·exact .inl ⟨x,j,wI (T x (by have J:cfg.ret i=[x]:=j;rw[J];simp)) l _ _⟩
    ·exact .inr ⟨H,I,Q,K,fun i x u a b=>wI (T x (xX a)) (l i x u a b) _ _⟩
   ·cases g
  ·cases g
def Cw(P:Program)(B:Nat)(w0:World)(I0:Nat→Nat→Prop)(G:Gh)(h:aa)(w:World)(out:Out)(r:Result Next):Prop:=
 Good P B w0 I0 G h w r out∨∃f args,r= .ok (.enter f args) w∧Calls P f args w fun e b=>∃v a,e= .returned v∧Ext G w a b∧HR a B w0 I0 (ap h out.wr) b∧Rep a b out.val v
theorem aV(c:HR G B w0 I0 h w){s:Sem Value}{out:Out}{v:Value}(a:s.run P w= .ok v w)(hw:out.wr=[])(b:Rep G w out.val v):Cw P B w0 I0 G h w out ((do pure (.value (←s)):Sem Next).run P w):=
 .inl (Good.pure c (by simp[a]) hw b)
theorem d6{s:Sem Value}{out:Out}(d:∃v a b,s.run P w= .ok v a∧Ext G w b a∧HR b B w0 I0 (ap h out.wr) a∧Rep b a out.val v):Cw P B w0 I0 G h w out ((do pure (.value (←s)):Sem Next).run P w):=by
 obtain⟨v,a,b,c,f,h2,e⟩:=d;exact .inl ⟨v,a,b, .inl (by simp[c]),f,h2,e⟩
theorem dH(c:Call)(b:Builtin)(ty:TypeId)(ρ:Operand→Value)(a:c.callee= .builtin b):(do let d ←resolve ρ c ty;invoke d.target d.args:Sem Next).run P w=
    (builtin b c.argTypes ty (c.args.map fun| .const _=>true|_=>false) (c.args.map ρ)).run P w:=by
 simp only[resolve,a,pure_bind,invoke];rfl
theorem jj{c:Call}{ty:TypeId}{j:Operand→AV}{ρ:Operand→Value}(o:∀x,Rep G w (j x) (ρ x)){f:Operand}(p:c.callee= .value f){g:Nat}{e:List AV}(C:j f= .fn g e):
    ∃vs:Array Value,(c.args.map ρ ++vs).size=(c.args.toList.map j ++e).length∧
     (∀(i:Nat)(x:AV)(u:Value),(c.args.toList.map j ++e)[i]? =some x→(c.args.map ρ ++vs)[i]? =some u→Rep G w x u)∧
     (do let d ←resolve ρ c ty;invoke d.target d.args:Sem Next).run P w=(callFunc g (c.args.map ρ ++vs)).run P w:=by
 have k:=o f;rw[C]at k
 obtain⟨vs,v,s,t⟩:∃vs:Array Value,ρ f= .func (.func g) #[] vs∧vs.size=e.length∧∀(i:Nat)(x:AV)(u:Value),e[i]? =some x→vs[i]? =some u→Rep G w x u:=by
  generalize ρ f=E at k;cases k with
  |fn _ _ vs s A=>exact⟨vs,rfl,s,A⟩
 have r:(c.args.map ρ ++vs).size=(c.args.toList.map j ++e).length:=by simp[s]
 have n:∀(i:Nat)(x:AV)(u:Value),(c.args.toList.map j ++e)[i]? =some x→(c.args.map ρ ++vs)[i]? =some u→Rep G w x u:=by
  intro i x u l m;by_cases y:i<c.args.size
  ·rw[xQ (by simpa using y)]at l
   rw[yW (by simpa using y)]at m;simp only[xN,xi,xB]at l;simp only[zA,xB]at m;obtain⟨a,z,rfl⟩:=l;obtain⟨b,q,rfl⟩:=m;rw[z]at q;simp only[xA]at q;subst q;exact o a
  ·rw[xV (by simp;omega)]at l
   rw[Array.getElem?_append_right (by simp;omega)]at m;simp only[xO,xh]at l;simp only[Array.size_map]at m;exact t _ x u l m
 refine⟨vs,r,n, ?_⟩
 have D:resolve ρ c ty=pure {target:= .fn (.func g) vs,args:= #[] ++c.args.map ρ}:=by
  simp only[resolve,p,v,Deferred.ofValue]
 rw[D,pure_bind];simp only[invoke,Array.empty_append]
theorem nj(s:List UInt8)(c:UInt8):∀(n i:Nat),s.length-i=n→i≤s.length→((List.range' i n).find? fun j=>s[j]! ==c)=m6 c (s.drop i) i
 |0,i,h,d=>by
  rw[List.drop_eq_nil_of_le (by omega)];rfl
 |n+1,i,h,d=>by
  have a:i<s.length:=by omega
  rw[zI,List.find?_cons,xZ a];simp only[m6];have e:s[i]! =s[i]:=getElem!_pos s i a;rw[e];by_cases b:s[i]==c
  ·simp[b]
  ·simp only[b,yl,yi]
   exact nj s c n (i+1) (by omega) (by omega)
theorem A3{k:DU}{g:Nat}(t:Ls P g k){ds:List D}{args:Array Value}(b:args.size=ds.length){imm:Nat→Nat→Prop}(o:∀(i:Nat)(x:D)(u:Value),ds[i]? =some x→args[i]? =some u→DRep imm w x u){d:D}(e:Mr k ds=some d):
    ∃v,(callFunc g args).run P w= .ok (.value v) w∧DRep imm w d v:=by
 obtain⟨fn,I,h2,A,y,F⟩:=t;unfold Mr at e;split at e
 ·rename_i s c
  simp only[xA]at e;subst e;have H:args[0]? =some (args[0]'(by simp at b;omega)):=xI _;have z:args[1]? =some (args[1]'(by simp at b;omega)):=xI _;have r:=o 0 _ _ rfl H;have p:=o 1 _ _ rfl z
  have l:args= #[args[0]'(by simp at b;omega),args[1]'(by simp at b;omega)]:=by
   apply Array.ext
   ·simpa using b
   ·intro i E m
    match i with
    |0=>rfl
    |1=>rfl
    |i+2=>simp at m;omega
  generalize args[0]'(by simp at b;omega)=K at l r;generalize args[1]'(by simp at b;omega)=J at l p;subst l;cases r with
  |str _ a n=>
  subst n;cases p;refine⟨_, ?_, .int .i64 _⟩;rw[run_callFunc_indexByte I h2 A y F,run_indexByte_string];simp only[Result.andThen_ok];congr 3;unfold firstIdx;have:=nj a.data.toList c.toNat.toUInt8 a.size 0 (by simp) (by simp);rw[xn]at this;rw[←this,List.range_eq_range']
  have C:(fun i:Nat=>a[i]! ==c.toNat.toUInt8)=(fun j:Nat=>a.data.toList[j]! ==c.toNat.toUInt8):=by
   funext j
   have:a[j]! =a.data.toList[j]! :=by
    by_cases f:j<a.size
    ·rw[getElem!_pos a j f,getElem!_pos a.data.toList j (by simpa using f)]
     simp only[y7];rfl
    ·rw[getElem!_neg a j f,getElem!_neg a.data.toList j (by simpa using f)]
   rw[this]
  rw[C];generalize List.find? _ _=q;cases q<;>rfl
 ·cases e
theorem qY(T:io P)(u:HR G B w0 I0 h w){cfg:ic}{i k:Nat}{c:Call}{ty:TypeId}{F:Operand→AV}{ρ:Operand→Value}(o:∀x,Rep G w (F x) (ρ x)){out:Out}(m:br P cfg i c F h k=some out)(N:Fg P out.ob):
    Cw P B w0 I0 G h w out ((do let d ←resolve ρ c ty;invoke d.target d.args:Sem Next).run P w):=by
 have arr:∀{V:Type}(a:Array V)(l:List V),a.toList=l→a=l.toArray:=fun a l e=>by rw[←e]
 unfold br at m;split at m
 ·rename_i j
  rw[dH c .len ty ρ j];split at m
  ·rename_i x t b A
   rw[arr _ _ b,arr _ _ A,show Array.map ρ [x].toArray= #[ρ x]from by simp];split at m
   ·rename_i U v0 L
    obtain⟨_,hw,v,p,z⟩:=qQ (P:=P) u (by rw[←L];exact o x) m;exact aV u (s:=Builtin.len_ #[t] ty #[ρ x]) (p ty) hw z
   ·obtain⟨_,hw,v,p,z⟩:=wC (P:=P) (o x) m
    exact aV u (s:=Builtin.len_ #[t] ty #[ρ x]) (p ty) hw z
  ·cases m
 ·rename_i j
  rw[dH c .min ty ρ j];split at m
  ·rename_i x y b
   obtain⟨_,hw,v,p,z⟩:=kQ (P:=P) (o x) (o y) m;rw[arr _ _ b,show Array.map ρ [x,y].toArray= #[ρ x,ρ y]from by simp];exact aV u (s:=Builtin.min_ c.argTypes ty #[ρ x,ρ y]) (by simpa using p c.argTypes ty) hw z
  ·cases m
 ·rename_i j
  rw[dH c .max ty ρ j];split at m
  ·rename_i x y b
   obtain⟨_,hw,v,p,z⟩:=kQ (P:=P) (o x) (o y) m;rw[arr _ _ b,show Array.map ρ [x,y].toArray= #[ρ x,ρ y]from by simp];exact aV u (s:=Builtin.max_ c.argTypes ty #[ρ x,ρ y]) (by simpa using p c.argTypes ty) hw z
  ·cases m
 ·rename_i j
  rw[dH c .append ty ρ j];split at m
  ·rename_i s x t R b A
   split at m
   ·rename_i H
    rw[arr _ _ b,arr _ _ A,show Array.map ρ [s,x].toArray= #[ρ s,ρ x]from by simp];split at m
    ·rename_i S hT
     simp only[xA]at m;subst m;exact d6 (s:=Builtin.append_ #[t,R] ty #[ρ s,ρ x]) (pI u H (o s) (o x) hT).2
    ·exact d6 (s:=Builtin.append_ #[t,R] ty #[ρ s,ρ x]) (pJ u H (o s) (o x) m).2
   ·cases m
  ·cases m
 ·rename_i j
  rw[dH c .unsafeSliceData ty ρ j];split at m
  ·rename_i x b
   simp only[xB]at m;obtain⟨y,hy,rfl⟩:=m;rw[arr _ _ b,show Array.map ρ [x].toArray= #[ρ x]from by simp];obtain⟨v,p,z⟩:=ng (P:=P) (o x) hy c.argTypes ty;exact aV u (s:=Builtin.unsafeSliceData_ c.argTypes ty #[ρ x]) p rfl z
  ·cases m
 ·rename_i j
  rw[dH c .unsafeString ty ρ j];split at m
  ·rename_i x n pt it b A
   rw[arr _ _ b,arr _ _ A,show Array.map ρ [x,n].toArray= #[ρ x,ρ n]from by simp];exact d6 (s:=Builtin.unsafeString_ #[pt,it] ty #[ρ x,ρ n]) (kR u (o x) (o n) m).2
  ·cases m
 ·rename_i f j
  split at m
  ·rename_i g Q hf
   obtain⟨vs,C,r,q⟩:=jj (P:=P) (w:=w) (ty:=ty) o j hf;split at m
   ·rename_i D
    split at m
    ·rename_i x J
     simp only[xA]at m;subst m;rw[J]at C r;obtain⟨fn,h1,h2,Z,Y,h5⟩:=T g _ D
     have b:∃v,c.args.map ρ ++vs= #[v]:=by
      have:(c.args.map ρ ++vs).size=1:=C
      exact⟨(c.args.map ρ ++vs)[0],by apply Array.ext; · simpa using this
                                      ·intro i hi1 K
                                       have:i=0:=by simp at K;omega
                                       subst this;rfl⟩
     obtain⟨v,z⟩:=b;rw[z]at r q;refine .inl (Good.pure u (v:=v) ?_ rfl (r 0 x v rfl rfl));rw[q,run_callFunc_extern h1 h2 Z Y h5];rfl
    ·cases m
   ·rename_i U _ D
    split at m
    ·rename_i ds I
     simp only[xB]at m;obtain⟨d,hd,rfl⟩:=m;obtain⟨X,t2⟩:=qz I C r;obtain⟨v,M,O⟩:=A3 (T g U D) X t2 hd;refine .inl (Good.pure u (v:=v) ?_ rfl (.d O));rw[q];exact M
    ·cases m
   ·obtain⟨W,E⟩:=uF u C r m N
    exact .inr ⟨g,c.args.map ρ ++vs,by rw[q];exact db W _ w,E⟩
  ·cases m
 ·cases m
theorem A4(S:io P)(z:HR G B w0 I0 h w){cfg:ic}{i:Nat}{o:Oper}{H:Operand→AV}{ρ:Operand→Value}(n:∀x,Rep G w (H x) (ρ x)){out:Out}(s:b6 P cfg i o H h=some out)(hob:Fg P out.ob):
    Cw P B w0 I0 G h w out ((execOp ρ o).run P w):=by
 have I:∀(ps:Array (Nat×Operand)),(ps.map fun p=>(p.1,ρ p.2)).size=(ps.toList.map fun p=>(p.1,H p.2)).length∧
     ∀(i:Nat)(p:Nat×AV)(q:Nat×Value),(ps.toList.map fun p=>(p.1,H p.2))[i]? =some p→(ps.map fun p=>(p.1,ρ p.2))[i]? =some q→p.1=q.1∧Rep G w p.2 q.2:=by
  intro ps;refine⟨by simp,fun i p q hp Z=> ?_⟩;simp only[xN,xi,xB]at hp;simp only[zA,xB]at Z;obtain⟨a,N,rfl⟩:=hp;obtain⟨b,D,rfl⟩:=Z;rw[N]at D;simp only[xA]at D;subst D;exact⟨rfl,n _⟩
 have C:∀(x:Option Operand),(∀y,x.map H=some y→∃v,x.map ρ=some v∧Rep G w y v)∧(x.map H=none→x.map ρ=none):=by
  intro x;cases x with
  |none=>exact⟨fun y M=>by simp at M,fun _=>rfl⟩
  |some x=>exact⟨fun y M=>by simp at M;subst M;exact⟨_,rfl,n x⟩,fun hn=>by simp at hn⟩
 unfold b6 at s;unfold execOp;split at s
 ·rename_i x g;rw[g]
  simp only[xA]at s;subst s;exact .inl (Good.pure z rfl rfl (n x))
 ·rename_i x g;rw[g]
  simp only[xA]at s;subst s;exact .inl (Good.pure z rfl rfl (n x))
 ·rename_i c a b g;rw[g]
  split at s
  ·rename_i t X
   simp only[xA]at s;subst s;have W:=n c;rw[X]at W;cases W with
   |d hd=>
    generalize hvc:ρ c=vc at hd;cases hd;refine .inl (Good.pure z (v:=if t=true then ρ a else ρ b) (by simp[hvc,asBool]) rfl ?_);cases t
    ·exact n b
    ·exact n a
  ·cases s
 ·rename_i t g;rw[g]
  exact d6 (qD z _ s).2
 ·rename_i t x g;rw[g]
  exact d6 (uA z _ (n x) s).2
 ·rename_i t x g;rw[g]
  simp only[xB]at s;obtain⟨y,M,rfl⟩:=s;obtain⟨v,e,A⟩:=nh (P:=P) (n x) M;exact aV z e rfl A
 ·rename_i x xT t ok g;rw[g]
  simp only[xB]at s;obtain⟨y,M,rfl⟩:=s;obtain⟨v,e,A⟩:=qJ (P:=P) (xT:=xT) (n x) M;exact aV z e rfl A
 ·rename_i t ps g;rw[g]
  obtain⟨L,h2⟩:=I ps
  obtain⟨_,hw,v,e,A⟩:=sM s (by rw[xO];exact L) (fun i p q hp Z=>by
   simp only[xN,xB]at hp;obtain⟨p',hp',rfl⟩:=hp;have:=h2 i p' q (by simpa only[xN,xB]using hp') Z;exact⟨this.1,this.2.frz⟩)
  exact aV z e hw A
 ·rename_i t len ps g;rw[g]
  obtain⟨L,h2⟩:=I ps;exact d6 (mA z s L h2).2
 ·rename_i t a g;rw[g]
  obtain⟨v,e,hw,_,A⟩:=jM z (n a) s;exact aV z e hw A
 ·rename_i t a x g;rw[g]
  obtain⟨_,F,U,e,L,h2⟩:=sN z (n a) (n x) s;exact .inl ⟨undef,U,G, .inr ⟨by simp[e],rfl⟩,L,h2,by rw[F];exact .junk _⟩
 ·rename_i x g;rw[g]
  split at s
  ·rename_i k v j off sz0 S
   simp only[xA]at s;subst s;have E:=n x;rw[S]at E
   obtain⟨a,N⟩:∃a,ρ x= .pointer (some a):=by
    generalize ρ x=vx at E;cases E;exact⟨_,rfl⟩
   exact .inl (Good.pure z (v:=ρ x) (by simp[N]) rfl E)
  ·rename_i cs S
   simp only[xA]at s;subst s;have E:=n x;rw[S]at E
   obtain⟨a,N⟩:∃a,ρ x= .pointer (some a):=by
    generalize ρ x=vx at E;cases E with|d hd=>cases hd;exact⟨_,rfl⟩
   exact .inl (Good.pure z (v:=ρ x) (by simp[N]) rfl E)
  ·cases s
 ·rename_i op t x y yt g;rw[g]
  split at s
  ·rename_i r D
   simp only[xA]at s;subst s;obtain⟨v,T,e,A⟩:=wz (P:=P) (t:=t) (n x) (n y) D;exact .inl (Good.pure z (v:=v) (by simp[T x y,e]) rfl A)
  ·split at s
   ·simp only[xB]at s
    obtain⟨b,D,rfl⟩:=s;obtain⟨T,e⟩:=pf (op:= .eql) (n x) (n y) D (.inl rfl);exact .inl (Good.pure z (v:= .bool b) (by simp[T,e]) rfl (.d (.bool _)))
   ·simp only[xB]at s
    obtain⟨b,D,rfl⟩:=s;obtain⟨T,e⟩:=pf (op:= .neq) (n x) (n y) D (.inr rfl);exact .inl (Good.pure z (v:= .bool (!b)) (by simp[T,e]) rfl (.d (.bool _)))
   ·cases s
 ·rename_i op t x g;rw[g]
  simp only[xB]at s;obtain⟨r,D,rfl⟩:=s;obtain⟨v,e,A⟩:=A0 (P:=P) (n x) D;exact aV z e rfl A
 ·rename_i src dst x g;rw[g]
  unfold qv at s;split at s
  ·rename_i R J
   simp only[xA]at s;subst s;exact d6 (ni z (n x) J).2
  split at s
  ·rename_i v0 hv0
   simp only[xA]at s;subst s;obtain⟨v,e,A⟩:=pM (n x) hv0;exact aV z e rfl A
  split at s
  ·rename_i r D
   simp only[xA]at s;subst s;obtain⟨v,e,A⟩:=pH (P:=P) (n x) D;exact aV z e rfl A
  split at s
  ·rename_i R J
   simp only[xA]at s;subst s;exact d6 (ov z (n x) J).2
  ·obtain⟨hw,v,e,A⟩:=pL z (n x) s
   exact aV z e hw A
 ·rename_i f first Q g;rw[g]
  split at s
  ·rename_i hfe
   simp only[xA]at s;subst s;have hf0:first= #[]:=by simpa using hfe
   subst hf0;refine aV z (v:= .func (.func f) #[] (Q.map ρ)) (by simp[Instr.makeFunc]) rfl (.fn f _ _ (by simp) (fun i c u X V=> ?_));simp only[xN,xi,xB]at X;simp only[zA,xB]at V;obtain⟨a,N,rfl⟩:=X;obtain⟨b,D,rfl⟩:=V;rw[N]at D;simp only[xA]at D;subst D;exact n a
  ·cases s
 ·rename_i t l c g;rw[g]
  exact d6 (nf z (n l) (n c) s).2
 ·rename_i t x lo hi mx g;rw[g]
  obtain⟨_,hw,v,e,A⟩:=sP (n x) (C lo).1 (C lo).2 (C hi).1 (C hi).2 (C mx).1 (C mx).2 s;exact aV z e hw A
 ·rename_i t x f g;rw[g]
  obtain⟨_,hw,v,e,A⟩:=nc z (n x) s;exact aV z e hw A
 ·rename_i t x f g;rw[g]
  obtain⟨_,hw,v,e,A⟩:=sO (P:=P) (n x) s;exact aV z e hw A
 ·rename_i t x K g;rw[g]
  obtain⟨_,hw,v,e,A⟩:=na z (n x) (n K) s;exact aV z e hw A
 ·rename_i t g;rw[g]
  exact d6 (pK z s).2
 ·rename_i t m k x g;rw[g]
  obtain⟨_,F,U,e,L,h2⟩:=iQ z (n m) (n k) (n x) s;exact .inl ⟨undef,U,G, .inr ⟨by simp[e],rfl⟩,L,h2,by rw[F];exact .junk _⟩
 ·rename_i t m k x g;rw[g]
  obtain⟨_,F,U,e,L,h2⟩:=iQ z (n m) (n k) (n x) s;exact .inl ⟨undef,U,G, .inr ⟨by simp[e],rfl⟩,L,h2,by rw[F];exact .junk _⟩
 ·rename_i t m k ok g;rw[g]
  obtain⟨_,hw,v,e,A⟩:=qP z (n m) (n k) s;exact aV z e hw A
 ·rename_i t x K g;rw[g]
  simp only[xB]at s;obtain⟨r,D,rfl⟩:=s;obtain⟨v,e,A⟩:=sQ (P:=P) (n x) (n K) D;exact aV z e rfl A
 ·rename_i t K g;rw[g]
  split at s
  ·rename_i vs ht
   simp only[xB]at s;obtain⟨v,A,rfl⟩:=s;have O:=n t;rw[ht]at O;generalize hvt:ρ t=vt at O;cases O with
   |tup _ Y hl hh=>
    have hlt:K<Y.size:=by rw[hl];exact(xC.1 A).1
    have V:Y[K]? =some Y[K]:=xI hlt;exact aV z (v:=Y[K]) (by simp[Instr.extract,hvt,V]) rfl (hh K v _ A V)
  ·cases s
 ·rename_i c g;rw[g]
  exact qY S z n s hob
 ·cases s
theorem p3{N:Nat}{D:List Deferred}{m:Array Oper}{o:Oper}{S:Nat→AV}{a:Act}(l:FR G w N D S a){b:Bool}(hw:ea m o S=some b):Region.wanted o (yielded m a.tmps)=b:=by
 unfold ea at hw;unfold Region.wanted;split at hw
 ·simp only[xA]at hw;rename_i p;rw[p];exact hw
 ·rename_i j g p
  rw[p];split at hw
  ·rename_i t q
   split at hw
   ·rename_i r k
    simp only[xA]at hw
    have c:t<N:=by
     rcases yR t N with i|i
     ·exact i
     ·have:=l.out t i;rw[this]at k;cases k
    have f:=l.rep t c;rw[k]at f
    have n:a.tmps[t]? =some (.bool r):=by
     have e:t<a.tmps.size:=by rw[l.size];exact c
     rw[xq,xI e,zH]at f;rw[xI e];generalize a.tmps[t]=v at f;cases f with|d s=>cases s;rfl
    simp only[yielded,q,yA,n];rw[←hw];cases r<;>cases g<;>rfl
   ·rename_i k
    simp only[xA]at hw
    have c:t<N:=by
     rcases yR t N with i|i
     ·exact i
     ·have:=l.out t i;rw[this]at k;cases k
    have f:=l.rep t c;rw[k]at f
    have n:a.tmps[t]? =some (.tuple #[]):=by
     have e:t<a.tmps.size:=by rw[l.size];exact c
     rw[xq,xI e,zH]at f;rw[xI e];generalize a.tmps[t]=v at f;cases f with
     |tup _ vs u _=>
      have:vs= #[]:=by simpa using u
      rw[this]
    simp only[yielded,q,yA,n];rw[←hw];cases g<;>rfl
   ·cases hw
  ·cases hw
theorem uG{f:FuncId}{args:Array Value}{R:Ending→World→Prop}(r:Option Nat)(n:Nat)(h:Calls P f args w R):CallsIn (FF r) n P f args w R:=by
 have h':=(callsIn_wide (n:=n)).2 h;cases r with
 |none=>exact h'
 |some l=>exact CallsIn.inRound l h'
theorem qZ{cfg:ic}{i:Nat}{o:Oper}{ρ:Operand→AV}{out:Out}(a:b6 P cfg i o ρ h=some out):∀c,o.op≠ .defer c:=fun c e=>by
 unfold b6 at a;rw[e]at a;cases a
theorem q0{o:Oper}{a:Act}{v:Value}{d:World}{next:Act→World→Prop}{Q:Exit→Act→World→Prop}(r:Option Nat)(n:Nat)(e:∀c,o.op≠ .defer c)(b:(execOp a.eval o).run P w= .ok (.value v) d)(f:next (a.put o.dst v) d):o.wpIn (FF r) n P a w next Q:=
 ⟨fun _ _=>trivial,by rw[Oper.semAt_eq _ _ _ e,b];exact f⟩
theorem A5{o:Oper}{a:Act}{d:World}{next:Act→World→Prop}{Q:Exit→Act→World→Prop}(r:Option Nat)(n:Nat)(e:∀c,o.op≠ .defer c)(b:(execOp a.eval o).run P w= .ok .skip d)(f:next (a.put o.dst undef) d):o.wpIn (FF r) n P a w next Q:=
 ⟨fun _ _=>trivial,by rw[Oper.semAt_eq _ _ _ e,b];exact f⟩
theorem jO{o:Oper}{a:Act}{f:FuncId}{args:Array Value}{i:World}{next:Act→World→Prop}{Q:Exit→Act→World→Prop}{R:Ending→World→Prop}(r:Option Nat)(n:Nat)(j:∀c,o.op≠ .defer c)(d:(execOp a.eval o).run P w= .ok (.enter f args) i)
    (b:Calls P f args i R) (l:∀e g,R e g→∃v,e= .returned v∧next (a.put o.dst v) g):o.wpIn (FF r) n P a w next Q:=
 ⟨fun _ _=>trivial,by
  rw[Oper.semAt_eq _ _ _ j,d,Oper.uponIn_enter];refine⟨fun x=>(by cases x),(uG r (n-1) b).mono ?_⟩;intro e g k;obtain⟨v,rfl,h⟩:=l e g k;exact h⟩
theorem A6{o:Oper}{a:Act}{l f:Nat}{g:Array Value}{YU bd:Code}{m:World}{next:Act→World→Prop}{Q:Exit→Act→World→Prop}{R:Ending→World→Prop}(r:Option Nat)(n:Nat)(k:∀c,o.op≠ .defer c)(i:(execOp a.eval o).run P w= .ok (.round l f g YU bd) m)
    (b:RoundIn (FF r) 0 P l f g YU bd m R) (q:∀e j,R e j→∃v,e= .returned v∧next (a.put o.dst v) j):o.wpIn (FF r) n P a w next Q:=
 ⟨fun _ _=>trivial,by
  rw[Oper.semAt_eq _ _ _ k,i,Oper.uponIn_round];refine⟨fun x=>(by cases x), ?_⟩;have h2:RoundIn (FF r) (n-1) P l f g YU bd m R:=⟨b.1,fun c cs _=>b.2 c cs (fun d k=>by cases k)⟩
  refine h2.mono ?_;intro e j p;obtain⟨v,rfl,h⟩:=q e j p;exact h⟩
theorem A7{c:Call}{ty:TypeId}{e:Operand→AV}{ρ:Operand→Value}(m:∀x,Rep G w (e x) (ρ x)){f:Operand}(l:c.callee= .value f){k v:Nat}(s:e f= .yld k v):
    ∃b,G.mloc k v=some b∧(c.args.map ρ).size=(c.args.toList.map e).length∧
     (∀(i:Nat)(x:AV)(u:Value),(c.args.toList.map e)[i]? =some x→(c.args.map ρ)[i]? =some u→Rep G w x u)∧
     (do let d ←resolve ρ c ty;invoke d.target d.args:Sem Next).run P w=(Instr.yield b (c.args.map ρ)).run P w:=by
 have j:=m f;rw[s]at j
 obtain⟨b,n,g⟩:∃b,ρ f= .func (.yield b) #[] #[]∧G.mloc k v=some b:=by
  generalize ρ f=t at j;cases j with
  |yld _ _ b g=>exact⟨b,rfl,g⟩
 refine⟨b,g,by simp,fun i x u p o=> ?_, ?_⟩
 ·simp only[xN,xi,xB]at p
  simp only[zA,xB]at o;obtain⟨a,r,rfl⟩:=p;obtain⟨b,g,rfl⟩:=o;rw[r]at g;simp only[xA]at g;subst g;exact m a
 ·have q:resolve ρ c ty=pure {target:= .fn (.yield b) #[],args:= #[] ++c.args.map ρ}:=by
    simp only[resolve,l,n,Deferred.ofValue]
  rw[q,pure_bind];simp[invoke]
theorem fy{S S':St}{D:List Deferred}(hx:io P)(H:HR G B w0 I0 S.heap w){cfg:ic}{N i:Nat}{U:Array Oper}{o:Oper}{a:Act}(A:FR G w N D S.env a){ob:List Obl}{ft:Foot}
    (q:cf P cfg N U i o S=some (S',ob,ft)) (I:gy P ob) {next:Act→World→Prop} {Q:Exit→Act→World→Prop} (r:Option Nat) (n:Nat)
    (p:∀a' L M,Ext G w M L→HR M B w0 I0 S'.heap L→FR M L N D S'.env a'→next a' L):
    if Region.wanted o (yielded U a.tmps)then o.wpIn (FF r) n P a w next Q else (∀f,o.about P w a.eval=some f→(FF r).fn f)∧next (a.put o.dst undef) w:=by
 unfold cf at q;split at q
 ·rename_i hw
  rw[xf (p3 A hw)];split at q
  ·rename_i X h' tk V
   split at q;case isFalse=>cases q
   split at q
   ·rename_i g args d
    simp only[xB,xE]at q;obtain⟨env,hp,rfl,rfl,rfl⟩:=q;obtain⟨J,j⟩:=I _ (xM.2 rfl);unfold dL at d;split at d
    ·rename_i c u
     split at d
     ·rename_i f t
      split at d
      ·rename_i Y R C
       simp only[xA,xE]at d;obtain⟨rfl,rfl⟩:=d;obtain⟨vs,z,s,m⟩:=jj (P:=P) (ty:=o.type) (ρ:=a.eval) (fun x=>A.opd H.maps.glob x) t C
       have l:(execOp a.eval o).run P w= .ok (.enter Y (c.args.map a.eval ++vs)) w:=by
        unfold execOp;rw[u];exact m.trans (db J _ w)
       refine jO r n (fun c e=>by rw[u]at e;cases e) l (j G B w0 I0 w _ H z s) ?_;rintro e L ⟨v,M,rfl,y,h2,K⟩;exact⟨v,rfl,p _ _ _ y h2 ((A.mono y).put hp K)⟩
      ·cases d
     ·cases d
    ·cases d
   ·split at q
    ·rename_i k v args d
     simp only[xB,xE]at q;obtain⟨env,hp,rfl,rfl,rfl⟩:=q;have j:Cv P k v args S.heap X h':=I _ (xM.2 rfl);unfold o9 at d;split at d
     ·rename_i c u
      split at d
      ·rename_i f t
       split at d
       ·rename_i k' v' C
        simp only[xA,xE]at d;obtain⟨rfl,rfl,rfl⟩:=d;obtain⟨b,hb,z,s,m⟩:=A7 (P:=P) (ty:=o.type) (ρ:=a.eval) (fun x=>A.opd H.maps.glob x) t C;obtain⟨f',W,YU,bd,hy,O⟩:=j G B w0 I0 w _ H z s b hb
        have l:(execOp a.eval o).run P w= .ok (.round b f' W YU bd) w:=by
         unfold execOp;rw[u];exact m.trans hy
        refine A6 r n (fun c e=>by rw[u]at e;cases e) l (O r) ?_;rintro e L ⟨v,M,rfl,y,h2,K⟩;exact⟨v,rfl,p _ _ _ y h2 ((A.mono y).put hp K)⟩
       ·cases d
      ·cases d
     ·cases d
    ·cases q
  ·rename_i T X F V
   split at q
   ·rename_i g args d
    split at q;case isFalse=>cases q
    rename_i E;simp only[xB,xE]at q;obtain⟨env,hp,rfl,rfl,rfl⟩:=q;obtain⟨J,j⟩:=(show ∀h,lT h T→am P g args h X (ae F h)from I _ (xM.2 rfl)) S.heap E;rw[←A2]at j;unfold dL at d;split at d
    ·rename_i c u
     split at d
     ·rename_i f t
      split at d
      ·rename_i Y R C
       simp only[xA,xE]at d;obtain⟨rfl,rfl⟩:=d;obtain⟨vs,z,s,m⟩:=jj (P:=P) (ty:=o.type) (ρ:=a.eval) (fun x=>A.opd H.maps.glob x) t C
       have l:(execOp a.eval o).run P w= .ok (.enter Y (c.args.map a.eval ++vs)) w:=by
        unfold execOp;rw[u];exact m.trans (db J _ w)
       refine jO r n (fun c e=>by rw[u]at e;cases e) l (j G B w0 I0 w _ H z s) ?_;rintro e L ⟨v,M,rfl,y,h2,K⟩;exact⟨v,rfl,p _ _ _ y h2 ((A.mono y).put hp K)⟩
      ·cases d
     ·cases d
    ·cases d
   ·cases q
  ·rename_i T h0 X F y V
   split at q
   ·rename_i g args d
    split at q;case isFalse=>cases q
    rename_i E;simp only[xB,xE]at q;obtain⟨env,hp,rfl,rfl,rfl⟩:=q;obtain⟨J,j⟩:=(show ∀h,(∀k∈T,h k=h0 k)→am P g args h X (ap h (jI F y))from I _ (xM.2 rfl)) S.heap E;unfold dL at d;split at d
    ·rename_i c u
     split at d
     ·rename_i f t
      split at d
      ·rename_i Y R C
       simp only[xA,xE]at d;obtain⟨rfl,rfl⟩:=d;obtain⟨vs,z,s,m⟩:=jj (P:=P) (ty:=o.type) (ρ:=a.eval) (fun x=>A.opd H.maps.glob x) t C
       have l:(execOp a.eval o).run P w= .ok (.enter Y (c.args.map a.eval ++vs)) w:=by
        unfold execOp;rw[u];exact m.trans (db J _ w)
       refine jO r n (fun c e=>by rw[u]at e;cases e) l (j G B w0 I0 w _ H z s) ?_;rintro e L ⟨v,M,rfl,e1,e2,e3⟩;exact⟨v,rfl,p _ _ _ e1 e2 ((A.mono e1).put hp e3)⟩
      ·cases d
     ·cases d
    ·cases d
   ·cases q
  split at q
  ·rename_i out Z
   simp only[xB,xE]at q;obtain⟨env,hp,rfl,rfl,rfl⟩:=q;have hl:=A4 hx H (fun x=>A.opd H.maps.glob x) Z (fun c Z=>I _ (yr Z));have hd:=qZ Z;rcases hl with ⟨v,L,M,l|⟨l,rfl⟩,y,h2,K⟩|⟨f,args,l,j⟩
   ·exact q0 r n hd l (p _ _ _ y h2 ((A.mono y).put hp K))
   ·exact A5 r n hd l (p _ _ _ y h2 ((A.mono y).put hp K))
   ·refine jO r n hd l j ?_
    rintro e L ⟨v,M,rfl,y,h2,K⟩;exact⟨v,rfl,p _ _ _ y h2 ((A.mono y).put hp K)⟩
  ·cases q
 ·rename_i hw
  rw[xo (by rw[p3 A hw];simp)];simp only[xB,xE]at q;obtain⟨env,hp,rfl,rfl,rfl⟩:=q;exact⟨fun _ _=>trivial,p _ _ _ (Ext.refl G w) H (A.put hp (.tup [] #[] rfl (by simp)))⟩
 ·cases q
theorem mE{D:List Deferred}(u:io P)(r:Option Nat)(n:Nat){cfg:ic}{N:Nat}{e:Array Oper}{Q:Exit→Act→World→Prop}:∀(l:List Nat){G:Gh}{w:World}{S S':St}{a:Act}{ob:List Obl}{fts:List Foot},
    HR G B w0 I0 S.heap w→FR G w N D S.env a→d7 P cfg N e l S=some (S',ob,fts)→gy P ob→
    (∀t f g,Ext G w g f→HR g B w0 I0 S'.heap f→FR g f N D S'.env t→Q .normal t f)→wpOpsIn (FF r) n P e Q l a w
 |[],G,w,S,S',a,ob,fts,k,s,b,d,p=>by
  simp only[d7,xA,xE]at b;obtain⟨rfl,_,_⟩:=b;exact p a w G (Ext.refl G w) k s
 |i::O,G,w,S,S',a,ob,fts,k,s,b,d,p=>by
  simp only[d7]at b;split at b
  ·cases b
  ·rename_i o K
   split at b
   ·cases b
   ·rename_i I m
    split at b
    ·cases b
    ·rename_i M q
     simp only[xA,xE]at b;obtain⟨rfl,rfl,rfl⟩:=b;obtain⟨S1,x,v⟩:=I;obtain⟨T,L,F⟩:=M;rw[wpOpsIn_cons];unfold wpOpIn;simp only[K]
     exact fy u k s m (fun c j=>d c (yK _ j)) r n (fun t f g R h2 A=>
      mE u r n O h2 A q (fun c j=>d c (ye _ j)) (fun C E J z y H=>p C E J (R.trans z) y H))
end
end Go.Avm
namespace Go.Avm
open Go.RowKit
variable[aH]
section
variable{P:Program}{h h':aa}
theorem kU{f g:AV→Option (D×List Nat)}:∀{l:List AV}{r:List D×List Nat},ej f l=some r→(∀x y,f x=some y→(∀k∈y.2,h' k=h k)→g x=some y)→(∀k∈r.2,h' k=h k)→ej g l=some r
 |[],r,c,_,_=>by simpa [ej]using c
 |x::l,r,c,i,e=>by
  simp only[ej]at c ⊢;split at c
  ·rename_i a b m j
   simp only[xA]at c;subst c;have n:=i x a m (fun k d=>e k (yK _ d));have h2:=kU (g:=g) j i (fun k d=>e k (ye _ d));simp only[n,h2]
  ·cases c
theorem q7:∀(n:Nat)(x:AV)(r:D×List Nat),view n h x=some r→(∀k∈r.2,h' k=h k)→view n h' x=some r
 |0,x,r,e,_=>by simp[view]at e
 |n+1,x,r,e,m=>by
  have w:=q7 n;have go:∀{l:List AV}{q:List D×List Nat},ej (view n h) l=some q→(∀k∈q.2,h' k=h k)→ej (view n h') l=some q:=fun g m=>kU g (fun x y u z=>w x y u z) m
  cases x with
  |sl k v p A s=>
   simp only[view]at e ⊢;split at e
   ·rename_i sz es t
    split at e
    ·rename_i o
     simp only[xB]at e;obtain⟨q,g,rfl⟩:=e;have f:h' k=h k:=m k (by simp);have:=go g (fun k j=>m k (by simp[j]));simp[f,t,o,this]
    ·cases e
   ·cases e
  |ptr k v i p s=>
   simp only[view]at e ⊢;split at e
   ·rename_i sz es t
    split at e
    ·rename_i o
     simp only[xB]at e;obtain⟨q,g,rfl⟩:=e;have f:h' k=h k:=m k (by simp);have:=go g (fun k j=>m k (by simp[j]));simp[f,t,o,this]
    ·cases e
   ·cases e
  |agg cs=>
   simp only[view,xB]at e ⊢;obtain⟨q,g,rfl⟩:=e;exact⟨q,go g m,rfl⟩
  |d y=>simp only[view]at e ⊢;exact e
  |nils=>simp only[view]at e ⊢;exact e
  |es=>simp only[view]at e ⊢;exact e
  |vec a b c l=>simp only[view]at e ⊢;exact e
  |_=>simp[view]at e
theorem q8{n:Nat}{l:List AV}{q:List D×List Nat}(b:view.go n h l=some q)(d:∀k∈q.2,h' k=h k):view.go n h' l=some q:=
 kU b (fun x y c a=>q7 n x y c a) d
theorem A8{ks:List Nat}(b:∀k∈ks,h' k=h k):kill h' ks=kill h ks:=by
 unfold kill;exact y5 fun k a=>by rw[b k a]
theorem sS{a:AV}{n:Nat}{r:List AV×List Nat}(b:iM h a n=some r)(e:∀k∈r.2,h' k=h k):iM h' a n=some r:=by
 unfold iM at b ⊢;cases a with
 |ptr k v i f g=>
  simp only at b ⊢;split at b
  ·rename_i sz es j
   have c:h' k=h k:=by
    split at b
    ·split at b
     ·split at b
      ·simp only[xA]at b;subst b;exact e k (by simp)
      ·cases b
     ·split at b
      ·split at b
       ·simp only[xA]at b;subst b;exact e k (by simp)
       ·cases b
      ·cases b
    ·cases b
   rw[c,j];exact b
  ·cases b
 |d y=>cases y<;>first|exact b|(rename_i l;cases l<;>exact b)
 |_=>exact b
theorem uH{t:TypeId}{a:AV}{out:Out}(b:gr P t a h=some out)(e:∀k∈out.rd,h' k=h k):gr P t a h'=some out:=by
 unfold gr at b ⊢;split at b
 ·rename_i f
  simp only[xB]at b ⊢;obtain⟨r,g,rfl⟩:=b;exact⟨r,sS g e,rfl⟩
 ·rename_i f
  cases a with
  |ptr k v i j m=>
   simp only at b ⊢;split at b
   ·rename_i sz es n
    have c:h' k=h k:=by
     split at b
     ·split at b
      ·split at b
       ·simp only[xB]at b;obtain⟨x,_,rfl⟩:=b;exact e k (by simp)
       ·cases b
      ·split at b
       ·simp only[xB]at b;obtain⟨x,_,rfl⟩:=b;exact e k (by simp)
       ·cases b
     ·cases b
    rw[c,n];exact b
   ·cases b
  |d y=>cases y<;>first|exact b|(rename_i l;cases l<;>exact b)
  |_=>exact b
 ·cases b
theorem fA{f:aa→Option Out}{k:Nat}{out:Out}(a:∀h h':aa,h' k=h k→f h'=f h)(c:k∈out.rd)(b:f h=some out)(d:∀k∈out.rd,h' k=h k):f h'=some out:=by
 rw[a h h' (d k c)];exact b
theorem sT{t:TypeId}{a x:AV}{out:Out}(b:ey P t a x h=some out)(l:∀k∈out.rd,h' k=h k):ey P t a x h'=some out:=by
 have j:=b;unfold ey at b;cases a with
 |ptr k v i d g=>
  have c:k∈out.rd:=by
   simp only at b;repeat' split at b
   all_goals first|(cases b;done)|(simp only[xA]at b;subst b;simp)
  refine fA (f:=fun h=>ey P t (.ptr k v i d g) x h) (k:=k) (fun h h' e=> ?_) c j l;simp only[ey,e]
 |_=>simp at b
theorem sU{t:TypeId}{k:Nat}{out:Out}(a:fL P t k h=some out)(c:∀k∈out.rd,h' k=h k):fL P t k h'=some out:=by
 have b:k∈out.rd:=by
  unfold fL at a;split at a
  ·simp only[xA]at a;subst a;simp
  ·cases a
 exact fA (f:=fun h=>fL P t k h) (fun h h' e=>by simp only[fL,newOb,e]) b a c
theorem wJ{x:AV}{k:Nat}{out:Out}(a:kB x k h=some out)(c:∀k∈out.rd,h' k=h k):kB x k h'=some out:=by
 have b:k∈out.rd:=by
  unfold kB at a;split at a
  ·simp only[xA]at a;subst a;simp
  ·cases a
 exact fA (f:=fun h=>kB x k h) (fun h h' e=>by simp only[kB,newOb,e]) b a c
theorem nk{t:TypeId}{l c:AV}{k:Nat}{out:Out}(a:c8 P t l c k h=some out)(d:∀k∈out.rd,h' k=h k):c8 P t l c k h'=some out:=by
 have b:k∈out.rd:=by
  unfold c8 at a;split at a
  ·split at a
   ·split at a
    ·simp only[xA]at a;subst a;simp
    ·cases a
   ·cases a
  ·cases a
 exact fA (f:=fun h=>c8 P t l c k h) (fun h h' e=>by simp only[c8,newOb,e]) b a d
theorem pN{k:Nat}{out:Out}(a:fw k h=some out)(c:∀k∈out.rd,h' k=h k):fw k h'=some out:=by
 have b:k∈out.rd:=by
  simp only[fw,xA]at a;subst a;simp
 exact fA (f:=fun h=>fw k h) (fun h h' e=>by simp only[fw,e]) b a c
theorem nl{t:TypeId}{m b x:AV}{out:Out}(a:ce P t m b x h=some out)(l:∀k∈out.rd,h' k=h k):ce P t m b x h'=some out:=by
 have g:=a;unfold ce at a;split at a;case h_2=>cases a
 rename_i kt et k v kd j i
 have c:k∈out.rd:=by
  repeat' split at a
  all_goals first|(cases a;done)|(simp only[xA]at a;subst a;simp)
 exact fA (f:=fun h=>ce P t (.mp k v) (.d kd) (.d j) h) (k:=k) (fun h h' e=>by simp only[ce,i,e]) c g l
theorem q9{t:TypeId}{m b:AV}{ok:Bool}{out:Out}(a:eY P t m b ok h=some out)(j:∀k∈out.rd,h' k=h k):eY P t m b ok h'=some out:=by
 have g:=a;unfold eY at a;split at a;case h_2=>cases a
 rename_i kt et k v kd i
 have c:k∈out.rd:=by
  repeat' split at a
  all_goals first|(cases a;done)|(simp only[xA]at a;subst a;simp)
 exact fA (f:=fun h=>eY P t (.mp k v) (.d kd) ok h) (k:=k) (fun h h' e=>by simp only[eY,i,e]) c g j
theorem rc{t:TypeId}{k v:Nat}{out:Out}(a:fM P t k v h=some out)(d:∀k∈out.rd,h' k=h k):fM P t k v h'=some out:=by
 have c:=a
 have b:k∈out.rd:=by
  unfold fM at a;repeat' split at a
  all_goals first|(cases a;done)|(simp only[xA]at a;subst a;simp)
 exact fA (f:=fun h=>fM P t k v h) (k:=k) (fun h h' e=>by simp only[fM,e]) b c d
theorem ow{src dst:TypeId}{x:AV}{out:Out}(a:dK P src dst x h=some out)(c:∀k∈out.rd,h' k=h k):dK P src dst x h'=some out:=by
 unfold dK at a ⊢;split at a;case h_2=>cases a
 split at a;case isFalse=>cases a
 rename_i d;split at a;case h_2=>cases a
 simp only[xA]at a;subst a;have b:=c _ (xM.2 rfl);rw[xf (by rw[b];exact d)];simp only[kill,xH,xY,b]
theorem gP{k v:Nat}(a:h' (kl k)=h (kl k)):m5 h' k v=m5 h k v:=by
 unfold m5;rw[a]
theorem re{src dst:TypeId}{x:AV}{out:Out}(b:fv P src dst x h=some out):∃k v i a sz,x= .ptr k v i a sz:=by
 unfold fv at b;split at b
 ·exact⟨_,_,_,_,_,rfl⟩
 ·exact⟨_,_,_,_,_,rfl⟩
 ·cases b
theorem pO{src dst:TypeId}{x:AV}(b:∃k v i a sz,x= .ptr k v i a sz):dK P src dst x h'=none:=by
 obtain⟨k,v,i,a,sz,rfl⟩:=b;unfold dK;split
 ·rename_i c;cases c
 ·rfl
theorem pQ{src dst:TypeId}{x:AV}{out:Out}(a:fv P src dst x h=some out)(c:∀k∈out.rd,h' k=h k):fv P src dst x h'=some out:=by
 unfold fv at a ⊢;split at a
 ·split at a
  ·rename_i b
   split at a
   ·rename_i d
    simp only[xA]at a;subst a;have e:=c _ (yE ..);have h2:=c _ (xp _ (yE ..));rw[gP h2,b];simp only[e,xf d]
   ·cases a
  ·cases a
 ·split at a
  ·rename_i b
   split at a
   ·rename_i d
    simp only[xA]at a;subst a;have e:=c _ (yE ..);have h2:=c _ (xp _ (yE ..));rw[gP h2,b];simp only[e,xf d]
   ·cases a
  ·cases a
 ·cases a
theorem kW{c:TypeId}{x n:AV}{out:Out}(a:dr P c x n h=some out)(d:∀k∈out.rd,h' k=h k):dr P c x n h'=some out:=by
 unfold dr at a ⊢;split at a;case h_2=>cases a
 split at a;case h_2=>cases a
 rename_i b f;split at a;case isFalse=>cases a
 rename_i e;simp only[xA]at a;subst a;have g:=d _ (yE ..);have h2:=d _ (xp _ (yE ..));rw[gP h2,b,f];simp only[g,xf e,kill,xH,xY]
theorem ip{typ:Bool}{T:TypeId}{n:Option Nat}{k v:Nat}{a:Out}:∀j∈a.rd,j∈(cr typ T n k v h a).rd:=by
 intro j b;unfold cr;split
 ·exact xp _ b
 ·exact b
theorem iX{typ:Bool}{T:TypeId}{n:Option Nat}{k v:Nat}{a:Out}(b:∀j∈(cr typ T n k v h a).rd,h' j=h j):cr typ T n k v h' a=cr typ T n k v h a:=by
 unfold cr at b ⊢;split
 ·rename_i c
  rw[xf c]at b;rw[b _ (yE ..)]
 ·rfl
theorem rh{typ:Bool}{T t:TypeId}{n:Option Nat}{k:Nat}{out:Out}(e:(fL P t k h).map (cr typ T n k ((h k).ver+1) h)=some out)(c:∀k∈out.rd,h' k=h k):(fL P t k h').map (cr typ T n k ((h' k).ver+1) h')=some out:=by
 rw[xB]at e ⊢;obtain⟨d,a,rfl⟩:=e
 have b:k∈d.rd:=by
  unfold fL at a;split at a
  ·simp only[xA]at a;subst a;simp
  ·cases a
 refine⟨d,sU a (fun j f=>c j (ip j f)), ?_⟩;rw[c k (ip k b)];exact iX c
theorem uI{typ:Bool}{T:TypeId}{n:Option Nat}{x:AV}{k:Nat}{out:Out}(e:(kB x k h).map (cr typ T n k ((h k).ver+1) h)=some out)(c:∀k∈out.rd,h' k=h k):(kB x k h').map (cr typ T n k ((h' k).ver+1) h')=some out:=by
 rw[xB]at e ⊢;obtain⟨d,a,rfl⟩:=e
 have b:k∈d.rd:=by
  unfold kB at a;split at a
  ·simp only[xA]at a;subst a;simp
  ·cases a
 refine⟨d,wJ a (fun j f=>c j (ip j f)), ?_⟩;rw[c k (ip k b)];exact iX c
theorem uJ{src dst:TypeId}{x:AV}{out:Out}(a:qv P src dst x h=some out)(c:∀k∈out.rd,h' k=h k):qv P src dst x h'=some out:=by
 unfold qv at a ⊢;split at a
 ·exact a
 split at a
 ·exact a
 split at a
 ·exact a
 split at a
 ·rename_i d b
  simp only[xA]at a;subst a;rw[ow b c]
 ·rename_i e
  have hp:=re a;rw[show dK P src dst x h'=none from pO hp,pQ a c]
theorem mF{d:Bool}{t:TypeId}{f:Nat}{ps:List (Nat×AV)}{k:Nat}{out:Out}(a:ez P d t f ps k h=some out)(g:∀k∈out.rd,h' k=h k):ez P d t f ps k h'=some out:=by
 unfold ez at a ⊢;split at a
 ·rename_i e q
  split at a
  ·rename_i xs m
   split at a
   ·rename_i l
    split at a
    ·split at a
     ·cases a
     ·rename_i o
      simp only[xA]at a;subst a;have c:h' k=h k:=g k (by simp);simp_all [newOb]
    ·rename_i i
     split at a
     ·rename_i r n
      split at a
      ·cases a
      ·rename_i j
       simp only[xA]at a;subst a;have c:h' k=h k:=g k (by simp);have p:=q8 n (fun k b=>g k (by simp[b]));have h2:=A8 (h:=h) (h':=h') (ks:=r.2) (fun k b=>g k (by simp[b]));simp only[xf l,p,h2,c,xo i,xo j]
     ·cases a
   ·cases a
  ·cases a
 ·cases a
theorem wK{x:AV}{r:List D×List Nat}(a:ij h x=some r)(i:∀k∈r.2,h' k=h k):ij h' x=some r:=by
 unfold ij at a ⊢;cases x with
 |sl k v j o m=>
  simp only at a ⊢;split at a
  ·rename_i sz es n
   split at a
   ·rename_i f
    simp only[yj]at a;obtain⟨q,g,b⟩:=a;split at b
    ·rename_i e
     simp only[xA]at b;subst b;have c:h' k=h k:=i k (by simp);have:=q8 (h':=h') g (by rw[e];simp);simp[c,n,f,this,e]
    ·cases b
   ·cases a
  ·cases a
 |d y=>cases y<;>first|exact a|(rename_i l;cases l<;>exact a)
 |_=>exact a
theorem iq{r:Bool}{t:TypeId}{s x:AV}{k:Nat}{out:Out}(a:bW P r t s x k h=some out)(g:∀k∈out.rd,h' k=h k):bW P r t s x k h'=some out:=by
 unfold bW at a ⊢;split at a
 ·rename_i e C
  split at a
  ·rename_i news u z q p
   split at a
   ·rename_i o
    have f:(∀k∈u,h' k=h k)→ij h' x=some (news,u):=fun w=>wK q w
    cases s with
    |nils=>
     simp only at a;split at a
     ·cases a
     ·rename_i d
      split at a
      ·rename_i j
       split at a
       ·cases a
       ·rename_i m
        simp only[xA]at a;subst a;have c:h' k=h k:=g k (by simp);have i:=f (fun k b=>g k (by simp[b]));simp only[i,p,xf o,xo d,xf j,xo m,c,newOb]
      ·rename_i j
       simp only[xA]at a;subst a;have c:h' k=h k:=g k (by simp);have i:=f (fun k b=>g k (by simp[b]));simp only[i,p,xf o,xo d,xo j,c]
    |es=>
     simp only at a;split at a
     ·cases a
     ·rename_i d
      split at a
      ·rename_i j
       split at a
       ·cases a
       ·rename_i m
        simp only[xA]at a;subst a;have c:h' k=h k:=g k (by simp);have i:=f (fun k b=>g k (by simp[b]));simp only[i,p,xf o,xo d,xf j,xo m,c,newOb]
      ·rename_i j
       simp only[xA]at a;subst a;have i:=f g;simp only[i,p,xf o,xo d,xo j]
    |vec n v sz l=>
     simp only at a;split at a
     ·rename_i d
      simp only[xA]at a;subst a;have c:h' n=h n:=g n (by simp);have i:=f (fun k b=>g k (by simp[b]));simp only[i,p,xf o,c,xf d]
     ·cases a
    |sl n v y B A=>
     simp only at a;split at a
     ·rename_i sz es j
      split at a
      ·rename_i d
       simp only[xA]at a;subst a;have c:h' n=h n:=g n (by simp);have i:=f (fun k b=>g k (by simp[b]));simp only[i,p,xf o,c,j,xf d]
      ·cases a
     ·cases a
    |_=>simp at a
   ·cases a
  ·cases a
 ·cases a
theorem pR{d:Bool}{t:TypeId}{s x:AV}{k:Nat}{out:Out}(b:dq P d t s x k h=some out)(m:∀k∈out.rd,h' k=h k):dq P d t s x k h'=some out:=by
 unfold dq at b ⊢;cases i:bW P d t s x k h with
 |none=>simp[i]at b
 |some r=>
  simp only[i]at b;obtain⟨val,v,rd,ob⟩:=r;split at b
  ·rename_i e c v' sz l g q p
   simp only at p;subst p;split at b
   ·rename_i n
    simp only[xA]at b;subst b;have a:∀j∈c::kl c::rd,h' j=h j:=fun j f=>m j (ip j f)
    rw[iq i (fun j f=>a j (by simp[f]))];have o:=a c (by simp);have h2:=iX m;simp only[q,g];rw[xf (by rw[o,gP (a (kl c) (by simp))];exact n),h2]
   ·rename_i n
    simp only[xA]at b;subst b;have a:∀j∈c::kl c::rd,h' j=h j:=m;rw[iq i (fun j f=>a j (by simp[f]))];have o:=a c (by simp);simp only[q,g];rw[xo (by rw[o,gP (a (kl c) (by simp))];exact n)]
  ·rename_i u
   simp only[xA]at b;subst b;rw[iq i m];simp only
theorem pS{l:Bool}{t:TypeId}{s x:AV}{k:Nat}{out:Out}(a:fu P t s x h=some out)(p:∀k∈out.rd,h' k=h k):(match dq P l t s x k h' with
    |some o=>some o
    |none=>fu P t s x h')=some out:=by
 have m:=a;unfold fu at a;split at a;case h_2=>cases a
 rename_i e y;split at a;case h_2=>cases a
 rename_i z j v B D r i u f b A q;split at a;case h_2=>cases a
 rename_i sz es C G va F la H w d;split at a;case isFalse=>cases a
 rename_i n;simp only[xA]at a;subst a;have E:h' j=h j:=p j (by simp);have h2:h' i=h i:=p i (by simp);have g:f=0:=n.2.2.2.2.2.1;have c:b=1:=n.2.2.2.2.2.2.1;subst g;subst c;rw[kJ (by rw[h2];exact d)];simp only;rw[←m];simp only[fu,y,q,E,h2]
theorem ri{cfg:ic}{i k:Nat}{c:Call}{ρ:Operand→AV}{out:Out}(a:br P cfg i c ρ h k=some out)(b:∀k∈out.rd,h' k=h k):br P cfg i c ρ h' k=some out:=by
 unfold br at a ⊢;split at a
 ·split at a
  ·split at a
   ·exact rc a b
   ·exact a
  ·exact a
 ·exact a
 ·exact a
 ·split at a
  ·split at a
   ·rename_i e
    rw[xf e];split at a
    ·rename_i d g
     simp only[xA]at a;subst a;rw[pR g b]
    ·exact pS a b
   ·cases a
  ·cases a
 ·exact a
 ·split at a
  ·exact kW a b
  ·cases a
 ·split at a
  ·split at a
   ·exact a
   ·exact a
   ·unfold gX at a ⊢
    split at a
    ·exact a
    ·split at a
     ·rename_i r f
      split at a
      ·rename_i j
       simp only[xA]at a;subst a;have:=q8 f b;simp only[this,xf j]
      ·cases a
     ·cases a
  ·cases a
 ·cases a
theorem A9{cfg:ic}{i:Nat}{o:Oper}{ρ:Operand→AV}{out:Out}(a:b6 P cfg i o ρ h=some out)(b:∀k∈out.rd,h' k=h k):b6 P cfg i o ρ h'=some out:=by
 unfold b6 at a ⊢;split at a
 all_goals first
  |exact a
  |exact rh a b
  |exact uI a b
  |exact mF a b
  |exact uH a b
  |exact sT a b
  |exact nk a b
  |exact pN a b
  |exact uJ a b
  |exact nl a b
  |exact q9 a b
  |exact ri a b
theorem Ba{cfg:ic}{i:Nat}{o:Oper}{ρ a:Operand→AV}(d:∀x∈o.op.operands,a x=ρ x):b6 P cfg i o a h=b6 P cfg i o ρ h:=by
 obtain⟨dst,op,v,y,q,s⟩:=o
 have g:∀ps:Array (Nat×Operand),(∀x∈(ps.toList.map (·.2)).toArray,a x=ρ x)→(ps.toList.map fun p=>(p.1,a p.2))=(ps.toList.map fun p=>(p.1,ρ p.2)):=fun ps hp=>
  y5 fun p hm=>by
   obtain⟨i,x⟩:=p;have:=hp x (by simpa using ⟨i,xm.1 hm⟩);simp only[this]
 cases op<;>simp only[Op.operands]at d<;>simp only[b6]
 case build t ps=>rw[g ps d]
 case buildSlice t n ps=>rw[g ps d]
 case makeFunc fn first captured=>
  cases fn with
  |func f=>
   simp only;split
   ·rw[y5 (l:=captured.toList) fun x k=>d x (by simp[xm.1 k])]
   ·rfl
  |_=>rfl
 case call c=>
  have j:c.args.toList.map a=c.args.toList.map ρ:=y5 fun x k=>d x (by simp[Call.operands,xm.1 k])
  have e:∀x,x∈c.args.toList→a x=ρ x:=fun x k=>d x (by simp[Call.operands,xm.1 k])
  unfold br;cases w:c.callee with
  |value f=>
   have z:a f=ρ f:=d f (by simp[Call.operands,w]);simp only[z,j]
  |invoke r m=>rfl
  |builtin b=>
   cases b<;>simp only
   all_goals first
    |rfl
    |(split
      ·rename_i u;simp only[u,x0,yU,zR,forall_eq_or_imp,forall_eq]at e;simp only[e]
      ·rfl)
    |(split
      ·rename_i u h2;simp only[u,x0,yU,zR,forall_eq_or_imp,forall_eq]at e;simp only[e]
      ·rfl)
 case makeMap t r=>cases r<;>rfl
 case slice t x lo hi mx=>cases lo<;>cases hi<;>cases mx<;>simp_all
 all_goals (first|rfl|(simp_all;done))
end
end Go.Avm
namespace Go.Avm
open Go.RowKit
variable[aH]
theorem cZ:∀(c:List (Nat×aE))(h:aa){k:Nat},k∉c.map (·.1)→ap h c k=h k
 |[],_,_,_=>rfl
 |(a,e)::r,h,k,b=>by
  simp only[xH,x0,zG]at b;simp only[ap];rw[cZ r _ b.2,ag _ _ b.1]
theorem ox:∀(d:List (Nat×aE))(h h2:aa){k:Nat},k∈d.map (·.1)→ap h d k=ap h2 d k
 |[],_,_,_,c=>by simp at c
 |(a,e)::r,h,h2,k,c=>by
  simp only[ap];by_cases b:k∈r.map (·.1)
  ·exact ox r _ _ b
  ·rw[cZ r _ b,cZ r _ b]
   simp only[xH,x0,b,zR]at c;subst c;rw[af,af]
theorem wL{a b:List (Nat×aE)}(h:aa)(e:∀k,k∈a.map (·.1)→k∉b.map (·.1)):ap (ap h a) b=ap (ap h b) a:=by
 funext k;by_cases c:k∈a.map (·.1)
 ·rw[cZ b _ (e k c)]
  exact ox a _ _ c
 ·rw[cZ a _ c]
  by_cases d:k∈b.map (·.1)
  ·exact ox b _ _ d
  ·rw[cZ b _ d,cZ b _ d,cZ a _ c]
theorem iR{N:Nat}{env env':Nat→AV}{dst:Option Nat}{x:AV}(h:eO N env dst x=some env'){t:Nat}(a:dst≠some t):env' t=env t:=by
 cases dst with
 |none=>simp only[eO,xA]at h;rw[h]
 |some d=>
  simp only[eO]at h;split at h
  ·simp only[xA]at h
   subst h;exact ag _ _ (fun e=>a (by rw[e]))
  ·cases h
theorem D0{N:Nat}{env j h:Nat→AV}{d g:Option Nat}{x y:AV}(i:∀t,d=some t→g≠some t)(c:eO N env d x=some j)(h2:eO N j g y=some h):
    ∃f,eO N env g y=some f∧eO N f d x=some h:=by
 cases d with
 |none=>simp only[eO,xA]at c;subst c;exact⟨h,h2,rfl⟩
 |some a=>
  cases g with
  |none=>simp only[eO,xA]at h2;subst h2;exact⟨env,rfl,c⟩
  |some b=>
   simp only[eO]at c h2 ⊢;split at c
   ·rename_i k
    split at h2
    ·rename_i l
     simp only[xA]at c h2;subst c;subst h2;refine⟨aG env b y,by rw[xf l], ?_⟩;rw[xf k,Fa _ _ _ (fun e=>i b (by rw[e]) rfl)]
    ·cases h2
   ·cases c
section
variable{P:Program}{cfg:ic}{N:Nat}{b:Array Oper}
def Fh(b:Array Oper)(o:Oper)(a:Foot)(S S':St):Prop:=
 (∀t∈o.looksAt b,S'.env t=S.env t)∧(a.all=true→S'.heap=S.heap)∧(a.all=false→∀k∈a.rd,S'.heap k=S.heap k)
theorem cH{o:Oper}{env env':Nat→AV}(h:∀t∈o.looksAt b,env' t=env t):ea b o env'=ea b o env:=by
 unfold ea;cases d:o.guard with
 |none=>rfl
 |some e=>
  obtain⟨j,a⟩:=e;simp only;cases c:(b[j]?).bind (·.dst)with
  |none=>rfl
  |some t=>
   simp only;rw[h t (by simp[Oper.looksAt,d,c])]
theorem jk{o:Oper}{env env':Nat→AV}(h:∀t∈o.looksAt b,env' t=env t):∀x∈o.op.operands,opd env' x=opd env x:=by
 intro x a;cases x with
 |tmp t=>exact h t (yK _ (List.mem_filterMap.2 ⟨.tmp t,by simpa using a,rfl⟩))
 |_=>rfl
theorem eC{o:Oper}{env env':Nat→AV}(h:∀t∈o.looksAt b,env' t=env t):dL o env'=dL o env:=by
 have d:=jk h;unfold dL;cases e:o.op with
 |call c=>
  simp only;rw[e]at d;simp only[Op.operands]at d;cases g:c.callee with
  |value f=>
   simp only;have a:c.args.toList.map (opd env')=c.args.toList.map (opd env):=y5 fun x i=>d x (by simp[Call.operands,xm.1 i])
   rw[d f (by simp[Call.operands,g]),a]
  |_=>rfl
 |_=>rfl
theorem wM{o:Oper}{env env':Nat→AV}(h:∀t∈o.looksAt b,env' t=env t):o9 o env'=o9 o env:=by
 have d:=jk h;unfold o9;cases e:o.op with
 |call c=>
  simp only;rw[e]at d;simp only[Op.operands]at d;cases g:c.callee with
  |value f=>
   simp only;have a:c.args.toList.map (opd env')=c.args.toList.map (opd env):=y5 fun x i=>d x (by simp[Call.operands,xm.1 i])
   rw[d f (by simp[Call.operands,g]),a]
  |_=>rfl
 |_=>rfl
theorem uK(a:List Nat)(c:aa):(jI a c).map (·.1)=a:=by
 unfold jI;rw[yx];exact List.map_id' _
theorem em{i:Nat}{o:Oper}{S S1:St}{ob:List Obl}{t:Foot}(a:cf P cfg N b i o S=some (S1,ob,t)):
    ∃(v:AV)(m:aa→aa),eO N S.env o.dst v=some S1.env∧S1.heap=m S.heap∧(t.all=false→∃A,m=(fun l=>ap l A)∧t.wr=A.map (·.1))∧(t.all=true→(∃h',m=fun _=>h')∧∀k,k∉t.wr→m S.heap k=S.heap k)∧
     ∀S' env',Fh b o t S S'→eO N S'.env o.dst v=some env'→cf P cfg N b i o S'=some (⟨env',m S'.heap⟩,ob,t):=by
 unfold cf at a;split at a
 ·rename_i hw
  split at a
  ·rename_i u h' D f
   split at a;case isFalse=>cases a
   rename_i q;split at a
   ·rename_i g args h
    simp only[xB,xE]at a;obtain⟨env,hp,rfl,rfl,rfl⟩:=a;refine⟨iG u,fun _=>h',hp,rfl,fun n=>(by simp at n),fun _=>⟨⟨h',rfl⟩,q⟩,fun S' env' d c=> ?_⟩;have l:S'.heap=S.heap:=d.2.1 rfl;unfold cf;rw[cH d.1,hw];simp only[f];rw[eC d.1,h,l,xf q];simp only[c,x5]
   ·rename_i w
    split at a
    ·rename_i k v args h
     simp only[xB,xE]at a;obtain⟨env,hp,rfl,rfl,rfl⟩:=a;refine⟨iG u,fun _=>h',hp,rfl,fun n=>(by simp at n),fun _=>⟨⟨h',rfl⟩,q⟩,fun S' env' d c=> ?_⟩;have l:S'.heap=S.heap:=d.2.1 rfl;unfold cf;rw[cH d.1,hw];simp only[f];rw[eC d.1,w,wM d.1,h,l,xf q];simp only[c,x5]
    ·cases a
  ·rename_i s u e f
   split at a
   ·rename_i g args h
    split at a;case isFalse=>cases a
    rename_i j;simp only[xB,xE]at a;obtain⟨env,hp,rfl,rfl,rfl⟩:=a;refine⟨iG u,fun l=>ap l e.reverse,hp,rfl,fun _=>⟨e.reverse,rfl,rfl⟩,fun n=>(by simp at n),fun S' env' d c=> ?_⟩;unfold cf;rw[cH d.1,hw];simp only[f];rw[eC d.1,h]
    have r:lT S'.heap s:=fun p hp=>by
     rw[d.2.2 rfl p.1 (yr hp)];exact j p hp
    simp only[c,x5];rw[xf r]
   ·cases a
  ·rename_i s C u e y f
   split at a
   ·rename_i g args h
    split at a;case isFalse=>cases a
    rename_i j;simp only[xB,xE]at a;obtain⟨env,hp,rfl,rfl,rfl⟩:=a;refine⟨iG u,fun l=>ap l (jI e y),hp,rfl,fun _=>⟨jI e y,rfl,(uK e y).symm⟩,fun n=>(by simp at n),fun S' env' d c=> ?_⟩;unfold cf;rw[cH d.1,hw];simp only[f];rw[eC d.1,h]
    have r:∀k∈s,S'.heap k=C k:=fun k z=>by
     rw[d.2.2 rfl k z];exact j k z
    simp only[c,x5];rw[xf r]
   ·cases a
  ·rename_i f
   split at a
   ·rename_i out B
    simp only[xB,xE]at a;obtain⟨env,hp,rfl,rfl,rfl⟩:=a;refine⟨out.val,fun l=>ap l out.wr,hp,rfl,fun _=>⟨out.wr,rfl,rfl⟩,fun n=>(by simp at n),fun S' env' d c=> ?_⟩;unfold cf;rw[cH d.1,hw];simp only[f]
    have x:b6 P cfg i o (opd S'.env) S'.heap=some out:=by
     rw[Ba (jk d.1)];exact A9 B (d.2.2 rfl)
    simp only[x,c,x5]
   ·cases a
 ·rename_i hw
  simp only[xB,xE]at a;obtain⟨env,hp,rfl,rfl,rfl⟩:=a;refine⟨.tup [],fun l=>ap l [],hp,rfl,fun _=>⟨[],rfl,rfl⟩,fun n=>(by simp at n),fun S' env' d c=> ?_⟩;unfold cf;rw[cH d.1,hw];simp only[c,x5,ap]
 ·cases a
def Foot.apart(x y:Foot):Bool:=
 if x.all then !y.all&&y.wr.isEmpty&&y.rd.all (fun k=> !x.wr.contains k)
 else if y.all then x.wr.isEmpty&&x.rd.all (fun k=> !y.wr.contains k)
 else x.wr.all (fun k=> !y.rd.contains k&& !y.wr.contains k)&&y.wr.all (fun k=> !x.rd.contains k)
theorem mG{i j:Nat}{G H:Oper}{S S1 F:St}{C w:List Obl}{s v:Foot}(I:G.apart b H=true)(g:s.apart v=true)(hi:cf P cfg N b i G S=some (S1,C,s))
    (hj:cf P cfg N b j H S1=some (F,w,v)):∃A,cf P cfg N b j H S=some (A,w,v)∧cf P cfg N b i G A=some (F,C,s):=by
 obtain⟨g1,g2,g3⟩:=Oper.apart_spec I;obtain⟨vi,ai,D,q,m,Y,W⟩:=em hi;obtain⟨vj,aj,U,M,p,T,Z⟩:=em hj;obtain⟨z,B,V⟩:=D0 g2 D U
 have l:∀{f:Foot}{a:aa→aa},(f.all=false→∃r,a=(fun o=>ap o r)∧f.wr=r.map (·.1))→f.all=false→f.wr=[]→∀o,a o=o:=by
  intro f a hw c E o;obtain⟨r,rfl,n⟩:=hw c;rw[E]at n;have:r=[]:=List.map_eq_nil_iff.1 n.symm;rw[this];rfl
 have x:∀{f:Foot}{a:aa→aa},(f.all=false→∃r,a=(fun o=>ap o r)∧f.wr=r.map (·.1))→f.all=false→∀o k,k∉f.wr→a o k=o k:=by
  intro f a hw c o k n;obtain⟨r,rfl,L⟩:=hw c;exact cZ r _ (by rw[←L];exact n)
 have K:Fh b H v S1 S:=by
  refine⟨fun t O=>(iR D (fun e=>g1 t e O)).symm,fun c=> ?_,fun c k n=> ?_⟩
  ·rw[q]
   cases d:s.all with
   |true=>simp[Foot.apart,d,c]at g
   |false=>
    simp[Foot.apart,d,c]at g;exact(l m d g.1 _).symm
  ·rw[q]
   cases d:s.all with
   |true=>
    simp[Foot.apart,d,c]at g;exact((Y d).2 k (g.2 k n)).symm
   |false=>
    simp[Foot.apart,d,c]at g;exact(x m d _ k (fun y=>(g.1 k y).1 n)).symm
 have h1:=Z S z K B;refine⟨_,h1, ?_⟩
 have R:Fh b G s S ⟨z,aj S.heap⟩:=by
  refine⟨fun t O=>iR B (fun e=>g3 t e O),fun c=> ?_,fun c k n=> ?_⟩
  ·simp[Foot.apart,c]at g
   exact l p g.1.1 g.1.2 _
  ·cases h:v.all with
   |true=>
    simp[Foot.apart,c,h]at g;obtain⟨⟨h',rfl⟩,u⟩:=T h;have J:S1.heap=S.heap:=by rw[q];exact l m c g.1 _
    have:=u k (g.2 k n);rw[J]at this;exact this
   |false=>
    simp[Foot.apart,c,h]at g;exact x p h _ k (fun y=>g.2 k y n)
 have h2:=W _ F.env R V;rw[h2]
 have:ai (aj S.heap)=F.heap:=by
  rw[M,q];cases d:s.all with
  |true=>
   simp[Foot.apart,d]at g;rw[l p g.1.1 g.1.2,l p g.1.1 g.1.2]
  |false=>
   cases h:v.all with
   |true=>
    simp[Foot.apart,d,h]at g;rw[l m d g.1,l m d g.1]
   |false=>
    simp[Foot.apart,d,h]at g;obtain⟨wi,rfl,X⟩:=m d;obtain⟨wj,rfl,Q⟩:=p h;exact wL _ (fun k n y=>(g.1 k (by rw[X];exact y)).2 (by rw[Q];exact n))
 rw[this]
def Fi(P:Program)(cfg:ic)(N:Nat)(b:Array Oper)(F:Nat→Foot):Nat→Array Bool→St→St→Prop
 |0,a,S,c=>Region.ready .any b a=[]∧S=c
 |fuel+1,a,S,c=>(Region.ready .any b a=[]→S=c)∧
  ∀i∈Region.ready .any b a,∃o S1 ob,b[i]? =some o∧cf P cfg N b i o S=some (S1,ob,F i)∧gy P ob∧Fi P cfg N b F fuel (a.setIfInBounds i true) S1 c
def Cx(b:Array Oper)(F:Nat→Foot)(a:Array Bool)(i:Nat):Bool:=
 match b[i]? with
 |none=>false
 |some d=>(List.range b.size).all fun j=>j==i||a.getD j true||match b[j]? with
     |some c=>c.after.any (fun e=>Region.binds .any e&&e.on==i)||(d.apart b c&&(F i).apart (F j))
     |none=>true
theorem Bb{F:Nat→Foot}{i:Nat}{m:Oper}{a:Array Bool}(p:b[i]? =some m)(h:Cx b F a i=true)(j:Nat)(k:Oper)
    (n:b[j]? =some k) (g:j≠i) (d:a.getD j true=false) (l:∀e∈k.after,Region.binds .any e=true→e.on≠i):
    m.apart b k=true∧(F i).apart (F j)=true:=by
 simp only[Cx,p,xc,List.mem_range]at h;have c:=h j (xR.1 n).1;simp only[n,yQ,yI,g,false_or,d,yl]at c;rcases c with c|c
 ·obtain⟨e,o,f⟩:=Array.any_eq_true'.1 c
  simp only[xJ,yI]at f;exact absurd f.2 (l e o f.1)
 ·simpa using c
def Lt(b:Array Oper)(a:Array Bool)(i:Nat):Nat→Nat→Array Bool→Array Bool
 |0,_,c=>c
 |fuel+1,k,c=>Lt b a i fuel (k+1) (c.push (match b[k]? with
     |some ok=> !(k==i)&&(!(a.getD k true)&&ok.after.any fun e=>Region.binds .any e&&(e.on==i||c.getD e.on false))
     |none=>false))
def Lu(b:Array Oper)(a:Array Bool)(i:Nat)(c:Array Bool)(j:Nat)(d:Oper):Bool:=
 !(j==i)&&(!(a.getD j true)&&d.after.any fun e=>Region.binds .any e&&(e.on==i||(decide (e.on<b.size)&&c.getD e.on false)))
def Fj(b:Array Oper)(F:Nat→Foot)(a:Array Bool)(i:Nat)(c:Array Bool):Bool:=
 match b[i]? with
 |none=>false
 |some e=>(List.range b.size).all fun j=>match b[j]? with
     |some d=>match c.getD j false with
      |true=>Lu b a i c j d
      |false=>j==i||a.getD j true||(e.apart b d&&(F i).apart (F j))
     |none=>true
def Jd(b:Array Oper)(F:Nat→Foot)(d:Oper)(i:Nat)(a:Array Bool):Prop:=
 ∃B:Nat→Bool,(∀j c,b[j]? =some c→B j=true→j≠i∧a.getD j true=false∧∃e∈c.after,Region.binds .any e=true∧(e.on=i∨((∃ok,b[e.on]? =some ok)∧B e.on=true)))∧
  ∀j c,b[j]? =some c→j≠i→a.getD j true=false→B j=false→(∀e∈c.after,Region.binds .any e=true→e.on≠i)→d.apart b c=true∧(F i).apart (F j)=true
theorem Bc{F:Nat→Foot}{i:Nat}{c:Oper}{a:Array Bool}(d:b[i]? =some c)(h:Cx b F a i=true):Jd b F c i a:=
 ⟨fun _=>false,fun _ _ _ h=>(by cases h),fun j e k h2 g _ f=>Bb d h j e k h2 g f⟩
theorem Be{F:Nat→Foot}{i:Nat}{o:Oper}{a:Array Bool}{l:Array Bool}(p:b[i]? =some o)(h:Fj b F a i l=true):Jd b F o i a:=by
 simp only[Fj,p,xc,List.mem_range]at h;refine⟨fun j=>l.getD j false,fun j r k f=> ?_,fun j r k n m f _=> ?_⟩
 ·have f:l.getD j false=true:=f
  have c:=h j (xR.1 k).1;rw[k]at c;simp only[f]at c;unfold Lu at c;simp only[xJ,yN,y6,ne_eq]at c;obtain⟨h2,t,s⟩:=c;obtain⟨e,q,d⟩:=Array.any_eq_true'.1 s;simp only[xJ,yQ,yI,xw]at d;refine⟨h2,t,e,q,d.1, ?_⟩;rcases d.2 with g|g
  ·exact .inl g
  ·exact .inr ⟨⟨b[e.on]'g.1,xI g.1⟩,g.2⟩
 ·have f:l.getD j false=false:=f
  have c:=h j (xR.1 k).1;rw[k]at c;simp only[f,yQ,yI,n,false_or,m,yl,xJ]at c;exact c
theorem Bf{F:Nat→Foot}{i:Nat}{z:Oper}(W:b[i]? =some z){ob:List Obl}(G:gy P ob):
    ∀(fuel:Nat)(a:Array Bool)(S S1 C:St),Jd b F z i a→
     i∈Region.ready .any b a→cf P cfg N b i z S=some (S1,ob,F i)→
     Fi P cfg N b F fuel (a.setIfInBounds i true) S1 C→Fi P cfg N b F (fuel+1) a S C:=by
 intro fuel;induction fuel with
 |zero=>
  intro a S S1 C _ v M H;refine⟨fun h=>(by rw[h]at v;cases v),fun j L=> ?_⟩;by_cases c:j=i
  ·subst c;exact⟨z,S1,ob,W,M,G,H⟩
  ·have:=ready_mono L c
   rw[H.1]at this;cases this
 |succ fuel Y=>
  intro a S S1 C y v M H;refine⟨fun h=>(by rw[h]at v;cases v),fun j L=> ?_⟩;by_cases c:j=i
  ·subst c;exact⟨z,S1,ob,W,M,G,H⟩
  ·obtain⟨f,S2,Q,p,D,I,H2⟩:=H.2 j (ready_mono L c)
   obtain⟨r,oj,m,A⟩:=mem_ready.1 L;have u:f=oj:=by rw[m]at p;exact(Option.some.inj p).symm
   subst u
   have d:∀t,a.getD t true=false→∀e∈f.after,Region.binds .any e=true→e.on≠t:=fun t X e O o u=>by
    have s:=A e O o;rw[u]at s;rcases yR t a.size with h'|h'
    ·simp[h']at X s;rw[X]at s;cases s
    ·simp[Array.getElem?_eq_none h']at s
   have q:=d i (mem_ready.1 v).1;obtain⟨B,w,K⟩:=y
   have x:B j=false:=by
    cases o:B j with
    |false=>rfl
    |true=>
     obtain⟨_,_,e,O,s,h2⟩:=w j f m o;rcases h2 with h2|⟨⟨ok,T⟩,h2⟩
     ·exact absurd h2 (q e O s)
     ·exact absurd rfl (d e.on (w e.on ok T h2).2.1 e O s)
   obtain⟨a1,a2⟩:=K j f m c r x q;obtain⟨E,k1,Z⟩:=mG a1 a2 M D
   have J:∀k,(a.setIfInBounds j true).getD k true=false→a.getD k true=false:=fun k l=>by
    by_cases n:j=k
    ·subst n;exact r
    ·rw[getD_set_ne true n]at l;exact l
   have g:Jd b F z i (a.setIfInBounds j true):=⟨B,fun k ok R o=>by
    obtain⟨g1,g2,g3⟩:=w k ok R o;have n:j≠k:=fun e=>by rw[e,o]at x;cases x
    exact⟨g1,by rw[getD_set_ne true n];exact g2,g3⟩,fun k ok R U l o V=>K k ok R U (J k l) o V⟩
   refine⟨f,E,Q,m,k1,I,Y (a.setIfInBounds j true) E S2 C g (ready_mono v (Ne.symm c)) Z ?_⟩;rw[Array.setIfInBounds_comm _ _ c];exact H2
def Fk(b:Array Oper)(F:Nat→Foot):Nat→Nat→Array Bool→Bool
 |0,_,a=>(Region.ready .any b a).isEmpty
 |fuel+1,k,a=>(Region.ready .any b a).contains k&&(Cx b F a k||Fj b F a k (Lt b a k b.size 0 #[]))&&Fk b F fuel (k+1) (a.setIfInBounds k true)
def Cy(b:Array Oper)(fts:List Foot):Bool:=Fk b (fun i=>(fts[i]?).getD ⟨0,[],[],false⟩) b.size 0 (Array.replicate b.size false)
theorem wN{F:Nat→Foot}:∀(n k:Nat)(a:Array Bool)(S h:St)(ob:List Obl)(fts:List Foot),d7 P cfg N b (List.range' k n) S=some (h,ob,fts)→gy P ob→
    (∀j f,fts[j]? =some f→F (k+j)=f)→Fk b F n k a=true→Fi P cfg N b F n a S h
 |0,k,a,S,h,ob,fts,d,_,_,i=>by
  simp only[List.range'_zero,d7,xA,xE]at d;exact⟨by simpa [Fk]using i,d.1⟩
 |n+1,k,a,S,h,ob,fts,d,g,v,i=>by
  rw[zI]at d;simp only[d7]at d;split at d
  ·cases d
  ·rename_i o q
   split at d
   ·cases d
   ·rename_i z m
    split at d
    ·cases d
    ·rename_i A r
     simp only[xA,xE]at d;obtain⟨rfl,rfl,rfl⟩:=d;obtain⟨S1,w,e⟩:=z;obtain⟨u,s,p⟩:=A;simp only[Fk,xJ]at i;obtain⟨⟨B,h2⟩,x⟩:=i;have t:F k=e:=by simpa using v 0 e (by simp)
     refine Bf q (fun c l=>g c (yK _ l)) n a S S1 u ((yQ _ _▸h2).elim (Bc q) (Be q)) (by simpa using B) (by rw[t];exact m)
      (wN n (k+1) _ S1 u s p r (fun c l=>g c (ye _ l)) (fun j f y=> ?_) x)
     have:=v (j+1) f (by simpa using y);rw[←this];congr 1;omega
variable{G:Gh}{B:Nat}{w0 w:World}{I0:Nat→Nat→Prop}
theorem md{D:List Deferred}(q:io P)(r:Option Nat)(n:Nat){F:Nat→Foot}{Q:Exit→Act→World→Prop}{l:St}:∀(fuel:Nat)(c:Array Bool)(G:Gh)(w:World)(S:St)(a:Act),HR G B w0 I0 S.heap w→FR G w N D S.env a→Fi P cfg N b F fuel c S l→
    (∀k d e,Ext G w e d→HR e B w0 I0 l.heap d→FR e d N D l.env k→Q .normal k d)→wpAnyIn (FF r) n P .any b Q fuel c a w
 |0,c,G,w,S,a,f,j,h,g=>by
  obtain⟨J,rfl⟩:=h;exact⟨J,g a w G (Ext.refl G w) f j⟩
 |fuel+1,c,G,w,S,a,f,j,h,g=>by
  refine⟨fun s=> ?_,fun i z=> ?_⟩
  ·have:=h.1 s
   subst this;exact g a w G (Ext.refl G w) f j
  ·obtain⟨o,S1,ob,H,p,m,h2⟩:=h.2 i z
   unfold wpOpIn;simp only[H];exact fy q f j p m r n (fun k d e I x t=>md q r n fuel _ e d S1 k x t h2 (fun y A E v u C=>g y A E (I.trans v) u C))
theorem oy{D:List Deferred}(hm:jF P)(r:Option Nat)(n:Nat){id:Nat}{S h:St}{a:Act}{ob:List Obl}{fts:List Foot}{Q:Exit→Act→World→Prop}(l:HR G B w0 I0 S.heap w)(s:FR G w N D S.env a)
    (c:d7 P cfg N b (List.range b.size) S=some (h,ob,fts)) (q:Cy b fts=true) (k:gy P ob)
    (p:∀i d g,Ext G w g d→HR g B w0 I0 h.heap d→FR g d N D h.env i→Q .normal i d):(Code.region id b true).wpIn (FF r) n P Q a w:=by
 refine wpIn_region_any hm.mixed ?_;rw[List.range_eq_range']at c;have e:=wN b.size 0 (Array.replicate b.size false) S h ob fts c k (fun j f m=>by simp[m]) q;exact md hm.ext r n b.size _ G w.drew S a l.drew (s.mono (Ext.drew G w)) e (fun i d g o t h2=>p i d g ((Ext.drew G w).trans o) t h2)
end
end Go.Avm
namespace Go.Avm
open Go.RowKit
variable[aH]
def iH(P:Program)(f:Nat)(args:List AV)(h:aa)(x:AV)(h':aa):Prop:=
 da P f∧∀(G:Gh)(B:Nat)(w0:World)(I0:Nat→Nat→Prop)(w:World)(a:Array Value),HR G B w0 I0 h w→a.size=args.length→
  (∀(i:Nat)(x:AV)(u:Value),args[i]? =some x→a[i]? =some u→Rep G w x u)→
  Calls P f a w fun e c=>∃v b,e= .panicked [{v,recovered:=false}]∧Ext G w b c∧HR b B w0 I0 h' c∧Rep b c x v
def Je(P:Program)(o:Oper)(S:St)(x:AV)(h':aa):Prop:=
 (∃u t y,o.op= .panic u∧opd S.env u=x∧x= .iv t y∧h'=S.heap)∨(∃g args,dL o S.env=some (g,args)∧iH P g args S.heap x h')
def mH(a:Array Oper):List Nat:=a.toList.filterMap (·.dst)
def oz(a:Array Oper)(env:Nat→AV):Nat→AV:=fun t=>if (mH a).contains t=true then .junk else env t
section
variable{P:Program}{cfg:ic}{N:Nat}{b:Array Oper}{G:Gh}{B:Nat}{w0 w:World}{I0:Nat→Nat→Prop}
theorem no{p:Nat}{o:Oper}(c:b[p]? =some o){t:Nat}(a:(mH b).contains t=false):o.dst≠some t:=fun e=>by
 have:t∈mH b:=List.mem_filterMap.2 ⟨o,by rw[xm];exact yv c,e⟩;rw[List.contains_iff_mem.2 this]at a;cases a
theorem Bg{D:List Deferred}{o:Oper}{S:St}{x:AV}{h':aa}(r:Option Nat)(n:Nat){a:Act}{next:Act→World→Prop}{Q:Exit→Act→World→Prop}(A:HR G B w0 I0 S.heap w)(C:FR G w N D S.env a)
    (hp:Je P o S x h') (K:∀v m q,Ext G w q m→HR q B w0 I0 h' m→FR q m N D S.env a→Rep q m x v→Q (.panic [{v,recovered:=false}]) a m):o.wpIn (FF r) n P a w next Q:=by
 rcases hp with ⟨u,t,y,i,O,rfl,rfl⟩|⟨g,args,d,H,p⟩
 ·have l:=C.opd A.maps.glob u
  rw[O]at l
  obtain⟨v,R,I⟩:∃v,a.eval u= .iface t v∧Rep G w (.iv t y) (.iface t v):=by
   generalize a.eval u=U at l;cases l with
   |iv _ v h=>exact⟨v,rfl, .iv _ v h⟩
  have j:(execOp a.eval o).run P w= .halt (.panic (.iface t v)) w:=by
   unfold execOp;rw[i];simp only[R];rfl
  exact⟨fun _ _=>trivial,by
   rw[Oper.semAt_eq _ _ _ (fun c e=>by rw[i]at e;cases e),j,Oper.uponIn_panic];exact K _ w G (Ext.refl G w) A C I⟩
 ·unfold dL at d
  split at d
  ·rename_i c i
   split at d
   ·rename_i f z
    split at d
    ·rename_i T J F
     simp only[xA,xE]at d;obtain⟨rfl,rfl⟩:=d;obtain⟨vs,E,s,k⟩:=jj (P:=P) (ty:=o.type) (ρ:=a.eval) (fun x=>C.opd A.maps.glob x) z F
     have j:(execOp a.eval o).run P w= .ok (.enter T (c.args.map a.eval ++vs)) w:=by
      unfold execOp;rw[i];exact k.trans (db H _ w)
     refine⟨fun _ _=>trivial, ?_⟩;rw[Oper.semAt_eq _ _ _ (fun c e=>by rw[i]at e;cases e),j,Oper.uponIn_enter];refine⟨fun x=>(by cases x),(uG r (n-1) (p G B w0 I0 w _ A E s)).mono ?_⟩;rintro e m ⟨v,q,rfl,L,h2,M⟩;exact K v m q L h2 (C.mono L) M
    ·cases d
   ·cases d
  ·cases d
theorem FR.junk{D:List Deferred}{env env':Nat→AV}{a:Act}(c:FR G w N D env a)(h:∀t,env' t=env t∨env' t= .junk):FR G w N D env' a:=
 ⟨c.size,c.nod,fun t d=>by
  rcases h t with e|e
  ·rw[e];exact c.rep t d
  ·rw[e];exact .junk _,fun t d=>by
  rcases h t with e|e
  ·rw[e];exact c.out t d
  ·exact e⟩
def oA(P:Program)(b:Array Oper)(p:Nat)(env0:Nat→AV)(x:AV)(h':aa)(S:St):Prop:=
 (∃o,b[p]? =some o∧ea b o S.env=some true∧Je P o S x h')∧∀t,(mH b).contains t=false→S.env t=env0 t
theorem uL{D:List Deferred}{p:Nat}{env0:Nat→AV}{x:AV}{h':aa}{S:St}(r:Option Nat)(n:Nat){a:Act}{K:Act→World→Prop}{Q:Exit→Act→World→Prop}(g:HR G B w0 I0 S.heap w)(e:FR G w N D S.env a)
    (h:oA P b p env0 x h' S) (k:∀v c d,Ext G w d c→HR d B w0 I0 h' c→FR d c N D (oz b env0) a→Rep d c x v→Q (.panic [{v,recovered:=false}]) a c):wpOpIn (FF r) n P b Q p K a w:=by
 obtain⟨⟨o,j,hw,hp⟩,i⟩:=h;unfold wpOpIn;simp only[j];rw[xf (p3 e hw)];refine Bg r n g e hp (fun v c d q h2 m l=>k v c d q h2 (m.junk fun t=> ?_) l);unfold oz;split
 ·exact .inr rfl
 ·rename_i f
  exact .inl (i t (by simpa using f)).symm
theorem D1{p k:Nat}{ok op:Oper}{env0:Nat→AV}{x:AV}{h':aa}{S S1:St}{ob:List Obl}{f:Foot}(D:b[k]? =some ok)(l:b[p]? =some op)(F:cf P cfg N b k ok S=some (S1,ob,f))(q:ok.apart b op=true)
    (d:f.all=false) (A:f.wr=[]) (h:oA P b p env0 x h' S1):oA P b p env0 x h' S:=by
 obtain⟨⟨o,C,hw,hp⟩,L⟩:=h;rw[l]at C;cases C;obtain⟨H,_,_⟩:=Oper.apart_spec q;obtain⟨v,E,i,J,s,_,_⟩:=em F;obtain⟨M,rfl,z⟩:=s d;have j:M=[]:=List.map_eq_nil_iff.1 (z.symm.trans A);subst j;have a:S1.heap=S.heap:=J;have c:∀t∈op.looksAt b,S.env t=S1.env t:=fun t m=>(iR i (fun e=>H t e m)).symm
 refine⟨⟨op,l,by rw[cH (o:=op) (env:=S1.env) (env':=S.env) c];exact hw, ?_⟩,fun t m=>by rw[←L t m,iR i (no D m)]⟩;rcases hp with ⟨u,t,y,n,r,K,I⟩|⟨g,args,n,r⟩
 ·refine .inl ⟨u,t,y,n, ?_,K,I.trans a⟩
  rw[jk c u (by rw[n];simp[Op.operands])];exact r
 ·refine .inr ⟨g,args, ?_,by rw[←a];exact r⟩
  rw[eC c];exact n
def Fl(P:Program)(cfg:ic)(N:Nat)(b:Array Oper)(F:Nat→Foot)(p:Nat)(L:St→Prop):Nat→Array Bool→St→Prop
 |0,_,_=>False
 |fuel+1,a,S=>Region.ready .any b a≠[]∧
  ∀i∈Region.ready .any b a,(i=p∧L S)∨(i<p∧∃o S1 ob,b[i]? =some o∧cf P cfg N b i o S=some (S1,ob,F i)∧gy P ob∧Fl P cfg N b F p L fuel (a.setIfInBounds i true) S1)
def Fm(b:Array Oper)(F:Nat→Foot)(p:Nat)(a:Array Bool)(k:Nat):Bool:=
 match b[k]?,b[p]? with
 |some ok,some op=>((List.range p).all fun j=>j==k||a.getD j true||match b[j]? with
     |some c=>c.after.any (fun e=>Region.binds .any e&&e.on==k)||(ok.apart b c&&(F k).apart (F j))
     |none=>true)&&(op.after.any (fun e=>Region.binds .any e&&e.on==k)||(ok.apart b op&& !(F k).all&&(F k).wr.isEmpty))
 |_,_=>false
theorem Bh{F:Nat→Foot}{p k:Nat}{ok op:Oper}{env0:Nat→AV}{x:AV}{h':aa}(Q:b[k]? =some ok)(hp:b[p]? =some op)(I:k<p){ob:List Obl}(L:gy P ob):
    ∀(fuel:Nat)(a:Array Bool)(S S1:St),
     (∀j q,j<p→b[j]? =some q→j≠k→a.getD j true=false→(∀e∈q.after,Region.binds .any e=true→e.on≠k)→ok.apart b q=true∧(F k).apart (F j)=true)→
     ((∀e∈op.after,Region.binds .any e=true→e.on≠k)→ok.apart b op=true∧(F k).all=false∧(F k).wr=[])→
     k∈Region.ready .any b a→cf P cfg N b k ok S=some (S1,ob,F k)→
     Fl P cfg N b F p (oA P b p env0 x h') fuel (a.setIfInBounds k true) S1→Fl P cfg N b F p (oA P b p env0 x h') (fuel+1) a S:=by
 intro fuel;induction fuel with
 |zero=>intro a S S1 _ _ _ _ H;exact H.elim
 |succ fuel U=>
  intro a S S1 f z D J H;refine⟨fun h=>(by rw[h]at D;cases D),fun j R=> ?_⟩;by_cases d:j=k
  ·subst d;exact .inr ⟨I,ok,S1,ob,Q,J,L,H⟩
  ·obtain⟨m,q,c,s⟩:=mem_ready.1 R
   have l:∀e∈q.after,Region.binds .any e=true→e.on≠k:=fun e he V n=>by
    have C:=s e he V;have T:=(mem_ready.1 D).1;rw[n]at C;rcases yR k a.size with h'|h'
    ·simp[h']at T C;rw[T]at C;cases C
    ·simp[Array.getElem?_eq_none h']at C
   rcases H.2 j (ready_mono R d)with ⟨rfl,hl⟩|⟨A,o,S2,E,g,t,y,H2⟩
   ·left
    have e:q=op:=by rw[hp]at c;exact(Option.some.inj c).symm
    subst e;obtain⟨q1,q2,q3⟩:=z l;exact⟨rfl,D1 Q hp J q1 q2 q3 hl⟩
   ·right
    have n:o=q:=by rw[c]at g;exact(Option.some.inj g).symm
    subst n;obtain⟨X,Y⟩:=f j o A c d m l;obtain⟨u,Z,W⟩:=mG X Y J t;refine⟨A,o,u,E,c,Z,y,U (a.setIfInBounds j true) u S2 (fun i oi K hi M v O=> ?_) z (ready_mono D (Ne.symm d)) W ?_⟩
    ·refine f i oi K hi M ?_ O
     by_cases r:j=i
     ·subst r;exact m
     ·rw[getD_set_ne true r]at v;exact v
    ·rw[Array.setIfInBounds_comm _ _ d]
     exact H2
theorem Bi{F:Nat→Foot}{p k:Nat}{ok op:Oper}{a:Array Bool}(q:b[k]? =some ok)(hp:b[p]? =some op)(h:Fm b F p a k=true):
    (∀j g,j<p→b[j]? =some g→j≠k→a.getD j true=false→(∀e∈g.after,Region.binds .any e=true→e.on≠k)→ok.apart b g=true∧(F k).apart (F j)=true)∧
    ((∀e∈op.after,Region.binds .any e=true→e.on≠k)→ok.apart b op=true∧(F k).all=false∧(F k).wr=[]):=by
 simp only[Fm,q,hp,xJ]at h;obtain⟨c,h2⟩:=h;refine⟨fun j g m o n l f=> ?_,fun f=> ?_⟩
 ·simp only[xc,List.mem_range]at c
  have c:=c j m;simp only[o,yQ,yI,n,false_or,l,yl]at c;rcases c with c|c
  ·obtain⟨e,i,d⟩:=Array.any_eq_true'.1 c
   simp only[xJ,yI]at d;exact absurd d.2 (f e i d.1)
  ·simpa using c
 ·rw[yQ]at h2
  rcases h2 with h2|h2
  ·obtain⟨e,i,d⟩:=Array.any_eq_true'.1 h2
   simp only[xJ,yI]at d;exact absurd d.2 (f e i d.1)
  ·simp only[xJ,yN,List.isEmpty_iff]at h2
   exact⟨h2.1.1,h2.1.2,h2.2⟩
def wR(b:Array Oper)(F:Nat→Foot)(p:Nat):Nat→Nat→Array Bool→Bool
 |0,_,a=>match Region.ready .any b a with
  |[i]=>i==p
  |_=>false
 |n+1,k,a=>(Region.ready .any b a).contains k&&Fm b F p a k&&wR b F p n (k+1) (a.setIfInBounds k true)
def Bj(b:Array Oper)(fts:List Foot)(p:Nat):Bool:=wR b (fun i=>(fts[i]?).getD ⟨0,[],[],false⟩) p p 0 (Array.replicate b.size false)
theorem wS{F:Nat→Foot}{p:Nat}{op:Oper}{env0:Nat→AV}{x:AV}{h':aa}(hp:b[p]? =some op):∀(n k:Nat)(a:Array Bool)(S q:St)(ob:List Obl)(fts:List Foot),k+n=p→d7 P cfg N b (List.range' k n) S=some (q,ob,fts)→gy P ob→
    (∀j f,fts[j]? =some f→F (k+j)=f)→wR b F p n k a=true→oA P b p env0 x h' q→Fl P cfg N b F p (oA P b p env0 x h') (n+1) a S
 |0,k,a,S,q,ob,fts,s,d,_,_,e,y=>by
  simp only[List.range'_zero,d7,xA,xE]at d;obtain⟨rfl,_,_⟩:=d;simp only[wR]at e;split at e
  ·rename_i i m
   rw[yI]at e;subst e
   exact⟨by rw[m];simp,fun j h=>by
    rw[m]at h;simp only[xM]at h;exact .inl ⟨h,y⟩⟩
  ·cases e
 |n+1,k,a,S,q,ob,fts,s,d,l,D,e,y=>by
  rw[zI]at d;simp only[d7]at d;split at d
  ·cases d
  ·rename_i o C
   split at d
   ·cases d
   ·rename_i L t
    split at d
    ·cases d
    ·rename_i M v
     simp only[xA,xE]at d;obtain⟨rfl,rfl,rfl⟩:=d;obtain⟨S1,E,g⟩:=L;obtain⟨J,z,u⟩:=M;simp only[wR,xJ]at e;obtain⟨⟨O,h2⟩,I⟩:=e;have A:F k=g:=by simpa using D 0 g (by simp)
     obtain⟨H,K⟩:=Bi C hp h2
     refine Bh C hp (by omega) (fun c r=>l c (yK _ r)) (n+1) a S S1 H K (by simpa using O) (by rw[A];exact t)
      (wS hp n (k+1) _ S1 J z u (by omega) v (fun c r=>l c (ye _ r)) (fun j f h=> ?_) I y)
     have:=D (j+1) f (by simpa using h);rw[←this];congr 1;omega
theorem me{D:List Deferred}(A:io P)(r:Option Nat)(n:Nat){F:Nat→Foot}{p:Nat}{env0:Nat→AV}{x:AV}{h':aa}{Q:Exit→Act→World→Prop}:∀(fuel:Nat)(c:Array Bool)(G:Gh)(w:World)(S:St)(a:Act),HR G B w0 I0 S.heap w→FR G w N D S.env a→
    Fl P cfg N b F p (oA P b p env0 x h') fuel c S→
    (∀v m e f,Ext G w f e→HR f B w0 I0 h' e→FR f e N D (oz b env0) m→Rep f e x v→Q (.panic [{v,recovered:=false}]) m e)→∀d,fuel≤d→wpAnyIn (FF r) n P .any b Q d c a w
 |0,c,G,w,S,a,j,l,h,k,d,_=>h.elim
 |fuel+1,c,G,w,S,a,j,l,h,k,0,g=>absurd g (by omega)
 |fuel+1,c,G,w,S,a,j,l,h,k,d+1,g=>by
  refine⟨fun C=>absurd C h.1,fun i J=> ?_⟩;rcases h.2 i J with ⟨rfl,O⟩|⟨_,o,S1,ob,M,y,u,h2⟩
  ·exact uL r n j l O (fun v e f t s z q=>k v a e f t s z q)
  ·unfold wpOpIn
   simp only[M];exact fy A j l y u r n (fun m e f R H E=>me A r n fuel _ f e S1 m H E h2 (fun v I K L t s z q=>k v I K L (R.trans t) s z q) d (by omega))
theorem rj{D:List Deferred}(hm:jF P)(r:Option Nat)(n:Nat){id p:Nat}{op:Oper}{S k:St}{a:Act}{ob:List Obl}{fts:List Foot}{x:AV}{h':aa}{Q:Exit→Act→World→Prop}(m:HR G B w0 I0 S.heap w)(q:FR G w N D S.env a)
    (hp:b[p]? =some op) (g:d7 P cfg N b (List.range' 0 p) S=some (k,ob,fts)) (u:Bj b fts p=true) (i:gy P ob) (l:oA P b p S.env x h' k)
    (t:∀v h c d,Ext G w d c→HR d B w0 I0 h' c→FR d c N D (oz b S.env) h→Rep d c x v→Q (.panic [{v,recovered:=false}]) h c):(Code.region id b true).wpIn (FF r) n P Q a w:=by
 refine wpIn_region_any hm.mixed ?_;have e:=wS hp p 0 (Array.replicate b.size false) S k ob fts (by omega) g i (fun j f o=>by simp[o]) u l;exact me hm.ext r n (p+1) _ G w.drew S a m.drew (q.mono (Ext.drew G w)) e (fun v h c d s z h2 y=>t v h c d ((Ext.drew G w).trans s) z h2 y) b.size (xR.1 hp).1
theorem wT{D:List Deferred}(F:io P)(r:Option Nat)(n:Nat){Q:Exit→Act→World→Prop}{p:Nat}{h:List Nat}{env0:Nat→AV}{x:AV}{h':aa}:∀(l:List Nat){G:Gh}{w:World}{S S':St}{a:Act}{ob:List Obl}{fts:List Foot},
    HR G B w0 I0 S.heap w→FR G w N D S.env a→d7 P cfg N b l S=some (S',ob,fts)→gy P ob→oA P b p env0 x h' S'→
    (∀v E e f,Ext G w f e→HR f B w0 I0 h' e→FR f e N D (oz b env0) E→Rep f e x v→Q (.panic [{v,recovered:=false}]) E e)→wpOpsIn (FF r) n P b Q (l ++p::h) a w
 |[],G,w,S,S',a,ob,fts,s,A,d,g,C,u=>by
  simp only[d7,xA,xE]at d;obtain⟨rfl,_,_⟩:=d;rw[yG,wpOpsIn_cons];exact uL r n s A C (fun v e f q m y j=>u v a e f q m y j)
 |i::W,G,w,S,S',a,ob,fts,s,A,d,g,C,u=>by
  simp only[d7]at d;split at d
  ·cases d
  ·rename_i o T
   split at d
   ·cases d
   ·rename_i O t
    split at d
    ·cases d
    ·rename_i V z
     simp only[xA,xE]at d;obtain⟨rfl,rfl,rfl⟩:=d;obtain⟨S1,I,H⟩:=O;obtain⟨Y,U,M⟩:=V;rw[xk,wpOpsIn_cons];unfold wpOpIn;simp only[T]
     exact fy F s A t (fun c k=>g c (yK _ k)) r n (fun E e f X h2 J=>
      wT F r n W h2 J z (fun c k=>g c (ye _ k)) C (fun v K L R q m y j=>u v K L R (X.trans q) m y j))
theorem pn{p m:Nat}(h:p<m):List.range m=List.range' 0 p ++p::List.range' (p+1) (m-p-1):=by
 rw[List.range_eq_range',show m=p+(m-p) by omega,←List.range'_append_1,show(p+(m-p))-p-1=m-p-1 by omega];congr 1;rw[show m-p=(m-p-1)+1 by omega,zI];simp
theorem Bk{D:List Deferred}(hm:jF P)(r:Option Nat)(n:Nat){id p:Nat}{op:Oper}{S g:St}{a:Act}{ob:List Obl}{fts:List Foot}{x:AV}{h':aa}{Q:Exit→Act→World→Prop}(j:HR G B w0 I0 S.heap w)(l:FR G w N D S.env a)
    (hp:b[p]? =some op) (d:d7 P cfg N b (List.range' 0 p) S=some (g,ob,fts)) (f:gy P ob) (i:oA P b p S.env x h' g)
    (k:∀v h c e,Ext G w e c→HR e B w0 I0 h' c→FR e c N D (oz b S.env) h→Rep e c x v→Q (.panic [{v,recovered:=false}]) h c):(Code.region id b false).wpIn (FF r) n P Q a w:=by
 refine wpIn_region ?_;rw[pn (xR.1 hp).1];exact wT hm.ext r n _ j l d f i k
end
end Go.Avm
