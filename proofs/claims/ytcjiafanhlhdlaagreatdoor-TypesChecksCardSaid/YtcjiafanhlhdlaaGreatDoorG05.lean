/-
  The abstract machine, part N: code on abstract states, rule by rule; the contract of a function out of its body.
-/
import Derived.Test.YtcjiafanhlhdlaaGreatDoorG04
import Derived.RangeFuncNested
import Derived.RangeFuncRecord
import Derived.RangeFuncLeaves
import Derived.RecoverIn
import Derived.ProofKit
import Derived.OpenShut
import Derived.Carry
set_option linter.unusedVariables false
set_option linter.unusedSimpArgs false
set_option linter.unusedSectionVars false
namespace Go.Avm
open Go.RowKit
variable[aH]
structure b4 where
 P:Program
 B:Nat
 w0:World
 I0:Nat→Nat→Prop
 N:Nat
 mixed:jF P
 rnd:Option Nat:=none
 s0:Nat:=0
 dl:List Deferred:=[]
def gj(a:List Nat):List Deferred:=a.map fun b=>{target:= .collected b,args:= #[]}
structure Side0(X:b4)(w:World)(bs:List Nat):Prop where
 nd:bs.Nodup
 low:∀b∈bs,X.s0≤b
 live:∀b∈bs,w.heap[b]? =some (.deferred (some []))
 book:∀l,X.rnd=some l→∃r,w.heap[l]? =some (.loop r)
 s0:X.s0≤w.heap.size
theorem Side0.mono{X:b4}{G j:Gh}{w d:World}{c:List Nat}(h:Side0 X w c)(e:Ext G w j d):Side0 X d c:=
 ⟨h.nd,h.low,fun b i=>by
  obtain⟨o,a,h2⟩:=e.kept b _ rfl (h.live b i);cases h2;exact a,fun l k=>by
  obtain⟨r,g⟩:=h.book l k;obtain⟨o,a,f,rfl⟩:=e.kept l _ rfl g;exact⟨f,a⟩,yH h.s0 e.size⟩
def e6(X:b4)(G:Gh)(S:St)(a:Act)(w:World):Prop:=HR G X.B X.w0 X.I0 S.heap w∧∃b,FR G w X.N (gj b ++X.dl) S.env a∧Side0 X w b
inductive aB where
 |normal
 |exit (id:Nat)
 |ret
 |panic (x:AV)
def XRep(G:Gh)(w:World):aB→Exit→Prop
 | .normal, .normal=>True
 | .exit i, .exit j=>i=j
 | .ret, .ret=>True
 | .panic x, .panic a=>∃v,a=[{v,recovered:=false}]∧Rep G w x v
 |_,_=>False
theorem XRep.normal{G:Gh}{w:World}{e:Exit}(h:XRep G w .normal e):e= .normal:=by cases e<;>first|rfl|exact h.elim
theorem XRep.exit{G:Gh}{w:World}{i:Nat}{e:Exit}(h:XRep G w (.exit i) e):e= .exit i:=by cases e<;>first|exact h.elim|(cases h;rfl)
theorem XRep.ret{G:Gh}{w:World}{e:Exit}(h:XRep G w .ret e):e= .ret:=by cases e<;>first|rfl|exact h.elim
theorem XRep.panic{G:Gh}{w:World}{x:AV}{e:Exit}(h:XRep G w (.panic x) e):∃v,e= .panic [{v,recovered:=false}]∧Rep G w x v:=by
 cases e<;>first|exact h.elim|(obtain⟨v,rfl,a⟩:=h;exact⟨v,rfl,a⟩)
theorem XRep.mono{G b:Gh}{w c:World}{a:aB}{e:Exit}(h:XRep G w a e)(x:Ext G w b c):XRep b c a e:=by
 cases a<;>cases e<;>first|exact h|(obtain⟨v,d,h2⟩:=h;exact⟨v,d,h2.mono x⟩)
def AW(X:b4)(c:Code)(S:St)(Q:aB→St→Prop):Prop:=
 ∀G a w,e6 X G S a w→c.wpIn (FF X.rnd) 0 X.P (fun e g d=>∃f S' b,XRep b d f e∧Q f S'∧Ext G w b d∧e6 X b S' g d) a w
def Weak(X:b4)(S S':St):Prop:=∀G a w,e6 X G S a w→∃b,Ext G w b w∧e6 X b S' a w
def Cz(K:St→Prop)(Q:aB→St→Prop):aB→St→Prop
 | .normal,S=>K S
 |e,S=>Q e S
def uM(id:Nat)(Q:aB→St→Prop):aB→St→Prop
 | .exit i,S=>if i=id then Q .normal S else Q (.exit i) S
 |e,S=>Q e S
theorem jP{p:Nat→Prop}(h:∃n,p n):∃n,p n∧∀m,p m→n≤m:=by
 obtain⟨n,e⟩:=h;induction n using Nat.strongRecOn with
 |_ n d=>
  by_cases c:∃m,m<n∧p m
  ·obtain⟨m,hm,hp⟩:=c
   exact d m hm hp
  ·refine⟨n,e,fun m hm=> ?_⟩
   rcases yR m n with a|b
   ·exact absurd ⟨m,a,hm⟩ c
   ·exact b
noncomputable def ab(p:Nat→Prop):Nat:=by
 classical
 exact if h:∃n,p n then (jP h).choose else 0
theorem Bl{p:Nat→Prop}(h:∃n,p n):p (ab p):=by
 unfold ab;rw[dif_pos h];exact(jP h).choose_spec.1
theorem Fo{p:Nat→Prop}{m:Nat}(h:p m):ab p≤m:=by
 unfold ab;rw[dif_pos ⟨m,h⟩];exact(jP ⟨m,h⟩).choose_spec.2 m h
section
variable{X:b4}{S S':St}{Q f:aB→St→Prop}
theorem Weak.refl(S:St):Weak X S S:=fun G a w h=>⟨G,Ext.refl G w,h⟩
theorem Weak.trans{b:St}(h:Weak X S S')(k:Weak X S' b):Weak X S b:=fun G a w c=>by
 obtain⟨G1,g,i⟩:=h G a w c;obtain⟨e,d,h2⟩:=k G1 a w i;exact⟨e,g.trans d,h2⟩
theorem AW.mono{c:Code}(h:AW X c S Q)(d:∀e S,Q e S→f e S):AW X c S f:=fun G a w i=>
 wpIn_mono (h G a w i) fun e k j ⟨b,S',g,x,q,r⟩=>⟨b,S',g,x,d b S' q,r⟩
theorem AW.weak{c:Code}(hw:Weak X S S')(h:AW X c S' Q):AW X c S Q:=fun G a w k=>by
 obtain⟨G1,j,b⟩:=hw G a w k;exact wpIn_mono (h G1 a w b) fun e m l ⟨d,S',i,x,q,g,r⟩=>⟨d,S',i,x,q,j.trans g,r⟩
theorem en{x y:Code}(h:AW X x S (Cz (fun S'=>AW X y S' Q) Q)):AW X (.seq x y) S Q:=fun G a w u=>by
 refine wpIn_seq (wpIn_mono (h G a w u) ?_);rintro e g m ⟨n,S',b,x,q,c,r⟩;cases n with
 |normal=>
  obtain rfl:=x.normal;exact wpIn_mono (q b g m r) fun e A B ⟨k,p,s,l,t,o,j⟩=>⟨k,p,s,l,t,c.trans o,j⟩
 |exit i=>obtain rfl:=x.exit;exact⟨_,S',b,x,q,c,r⟩
 |ret=>obtain rfl:=x.ret;exact⟨_,S',b,x,q,c,r⟩
 |panic d=>obtain⟨v,rfl,z⟩:=x.panic;exact⟨_,S',b,x,q,c,r⟩
theorem kX{id:Nat}{c:Code}(h:AW X c S (uM id Q)):AW X (.block id c) S Q:=fun G a w l=>by
 refine wpIn_block (wpIn_mono (h G a w l) ?_);rintro e o n ⟨k,S',b,x,q,g,r⟩;cases k with
 |exit i=>
  obtain rfl:=x.exit;simp only[uM]at q;simp only[Exit.inBlock];split at q
  ·rename_i j;rw[xf j];exact⟨.normal,S',b,trivial,q,g,r⟩
  ·rename_i j;rw[xo j];exact⟨_,S',b,x,q,g,r⟩
 |normal=>obtain rfl:=x.normal;exact⟨_,S',b,x,q,g,r⟩
 |ret=>obtain rfl:=x.ret;exact⟨_,S',b,x,q,g,r⟩
 |panic d=>obtain⟨v,rfl,m⟩:=x.panic;exact⟨_,S',b,x,q,g,r⟩
theorem p4(h:Q .normal S):AW X .skip S Q:=fun G a w b=>wpIn_skip ⟨.normal,S,G,trivial,h,Ext.refl G w,b⟩
theorem uN{id:Nat}(h:Q (.exit id) S):AW X (.exit id) S Q:=fun G a w b=>wpIn_exit ⟨.exit _,S,G,rfl,h,Ext.refl G w,b⟩
theorem Ms(h:Q .ret S):AW X .ret S Q:=fun G a w b=>wpIn_ret ⟨.ret,S,G,trivial,h,Ext.refl G w,b⟩
theorem iS{c:Operand}{x y:Code}{b:Bool}(m:opd S.env c= .d (.bool b))(n:b=true→AW X x S Q)(o:b=false→AW X y S Q):AW X (.cond c x y) S Q:=fun G a w e=>by
 obtain⟨p,i,j⟩:=e.2;have g:=i.opd e.1.maps.glob c;rw[m]at g
 have k:a.eval c= .bool b:=by
  generalize a.eval c=v at g;cases g with|d l=>cases l;rfl
 exact wpIn_cond_split k (fun h=>n h G a w e) (fun h=>o h G a w e)
theorem D2{id:Nat}{b:Array Oper}{cfg:ic}{ob:List Obl}{fts:List Foot}(k:d7 X.P cfg X.N b (List.range b.size) S=some (S',ob,fts))(c:gy X.P ob)(h:Q .normal S'):
    AW X (.region id b false) S Q:=fun G a w g=>
 g.2.elim fun i e=>wpIn_region (mE X.mixed.ext X.rnd 0 _ g.1 e.1 k c fun n m l d j h2=>⟨.normal,S',l,trivial,h,d,j,i,h2,e.2.mono d⟩)
theorem sV{id:Nat}{b:Array Oper}{cfg:ic}{ob:List Obl}{fts:List Foot}(k:d7 X.P cfg X.N b (List.range b.size) S=some (S',ob,fts))(m:Cy b fts=true)(c:gy X.P ob)(h:Q .normal S'):
    AW X (.region id b true) S Q:=fun G a w g=>
 g.2.elim fun i e=>oy X.mixed X.rnd 0 g.1 e.1 k m c fun o n l d j h2=>⟨.normal,S',l,trivial,h,d,j,i,h2,e.2.mono d⟩
theorem sW{id p:Nat}{c:Bool}{b:Array Oper}{cfg:ic}{ob:List Obl}{fts:List Foot}{op:Oper}{o:St}{x:AV}{h':aa}(hp:b[p]? =some op)(n:d7 X.P cfg X.N b (List.range' 0 p) S=some (o,ob,fts))(j:gy X.P ob)
    (r:oA X.P b p S.env x h' o) (y:c=false∨Bj b fts p=true) (h:Q (.panic x) ⟨oz b S.env,h'⟩):AW X (.region id b c) S Q:=fun G a w k=>by
 obtain⟨q,l⟩:=k.2
 have i:∀v m d g,Ext G w g d→HR g X.B X.w0 X.I0 h' d→FR g d X.N (gj q ++X.dl) (oz b S.env) m→Rep g d x v→∃s S' e,XRep e d s (.panic [{v,recovered:=false}])∧Q s S'∧Ext G w e d∧e6 X e S' m d:=
  fun v m d g t z h2 u=>⟨.panic x,_,g,⟨v,rfl,u⟩,h,t,z,q,h2,l.2.mono t⟩
 cases c with
 |false=>exact Bk X.mixed X.rnd 0 k.1 l.1 hp n j r i
 |true=>exact rj X.mixed X.rnd 0 k.1 l.1 hp n (y.resolve_left (by simp)) j r i
theorem Fp{c:Code}{l:Type}(F:l→St)(J:l→Prop)(j:l→Nat)(o:l)(N:Weak X S (F o))(L:J o)
    (I:∀x,J x→AW X c (F x) (Cz (fun S'=>∃y,Weak X S' (F y)∧J y∧j y<j x) Q)):AW X (.loop c) S Q:=by
 refine AW.weak N (fun G a w B=> ?_)
 let p:Act→World→Nat→Prop:=fun g b n=>∃y h,Ext G w h b∧e6 X h (F y) g b∧J y∧j y=n
 refine wpIn_loop (fun g b=>∃n,p g b n) (fun g b=>ab (p g b)) ⟨j o,o,G,Ext.refl G w,B,L,rfl⟩ ?_;intro C H hp;obtain⟨t,G1,s,O,E,R⟩:=Bl hp;refine wpIn_mono (I t E G1 C H O) ?_;rintro e g b ⟨M,S',h,x,q,m,r⟩;cases M with
 |normal=>
  obtain rfl:=x.normal;obtain⟨y,hw,u,z⟩:=q;obtain⟨K,D,A⟩:=hw h g b r;have k:p g b (j y):=⟨y,K,(s.trans m).trans D,A,u,rfl⟩
  refine⟨⟨_,k⟩, ?_⟩;have:=Fo k;omega
 |exit i=>obtain rfl:=x.exit;exact⟨_,S',h,x,q,s.trans m,r⟩
 |ret=>obtain rfl:=x.ret;exact⟨_,S',h,x,q,s.trans m,r⟩
 |panic d=>obtain⟨v,rfl,P⟩:=x.panic;exact⟨_,S',h,x,q,s.trans m,r⟩
theorem Fq{env env':Nat→AV}{heap:aa}(h:∀t,env' t=env t∨env' t= .junk):Weak X ⟨env,heap⟩ ⟨env',heap⟩:=fun G a w j=>by
 obtain⟨g,d,b,i⟩:=j
 exact⟨G,Ext.refl G w,g,d,⟨b.size,b.nod,fun t c=>by
  rcases h t with e|e
  ·show Rep G w (env' t) _;rw[e];exact b.rep t c
  ·show Rep G w (env' t) _;rw[e];exact .junk _,fun t c=>by
  rcases h t with e|e
  ·show env' t=_;rw[e];exact b.out t c
  ·exact e⟩,i⟩
theorem mI{env:Nat→AV}{heap:aa}{l:List (Nat×AV)}(h:∀p∈l,p.2=env p.1):Weak X ⟨env,heap⟩ ⟨ah l,heap⟩:=Fq (mY env l h)
end
def wU:Obj→Bool
 | .deferred _=>true
 |_=>false
structure Shut(B:Nat)(w w':World):Prop where
 os:w'.os=w.os
 tape:w'.tape=w.tape
 output:w'.output=w.output
 size:w'.heap.size=w.heap.size
 oth:∀(b:Nat)(o:Obj),wU o=false→w.heap[b]? =some o→w'.heap[b]? =some o
 low:∀b,b<B→w'.heap[b]? =w.heap[b]?
 cell:∀p:Addr,w'.cell? p=w.cell? p
theorem Shut.refl(B:Nat)(w:World):Shut B w w:=⟨rfl,rfl,rfl,rfl,fun _ _ _ h=>h,fun _ _=>rfl,fun _=>rfl⟩
theorem Shut.trans{B:Nat}{w d a:World}(h:Shut B w d)(k:Shut B d a):Shut B w a:=
 ⟨k.os.trans h.os,k.tape.trans h.tape,k.output.trans h.output,k.size.trans h.size,fun b o c x=>k.oth b o c (h.oth b o c x),fun b c=>(k.low b c).trans (h.low b c),fun p=>(k.cell p).trans (h.cell p)⟩
theorem Shut.put{B b:Nat}{w:World}{o o':Obj}(c:w.heap[b]? =some o)(f:wU o=true)(e:wU o'=true)(hB:B≤b):Shut B w (w.putObj b o'):=by
 have a:=(xR.1 c).1;refine⟨rfl,rfl,rfl,by simp,fun h j g x=> ?_,fun h i=>World.putObj_heap_other (by omega),fun p=> ?_⟩
 ·have d:h≠b:=by
    rintro rfl;rw[c]at x;simp only[xA]at x;subst x;rw[f]at g;cases g
  rw[World.putObj_heap_other d];exact x
 ·unfold World.cell?
  by_cases hp:p.block=b
  ·rw[hp,World.putObj_heap_same a,c]
   cases o<;>cases o'<;>first|rfl|(simp[wU]at f;done)|(simp[wU]at e;done)
  ·rw[World.putObj_heap_other hp]
theorem Rep.shut{G:Gh}{B:Nat}{w z:World}{x:AV}{v:Value}(h:Rep G w x v)(e:Shut B w z):Rep G z x v:=by
 induction h with
 |junk v=>exact .junk v
 |d h=>exact .d (h.mono (fun _ _ x=>x) (fun _ _ _=>e.cell _))
 |nils=>exact .nils
 |es q=>exact .es q
 |vecNil k a sz=>exact .vecNil k a sz
 |vec k a l L j s g r h=>exact .vec k a l L j s g r (h.mono (fun _ _ x=>x) (fun _ _ _=>e.cell _))
 |slNil k a sz q=>exact .slNil k a sz q
 |sl k a n u c L j A g=>exact .sl k a n u c L j A g
 |ptr k a i n L j=>exact .ptr k a i n L j
 |agg cs vs p y _ m=>exact .agg cs vs p y m
 |tup cs vs p _ m=>exact .tup cs vs p m
 |fn f o vs p _ m=>exact .fn f o vs p m
 |mp k a b j=>exact .mp k a b j
 |yld k a b j=>exact .yld k a b j
 |itr k a b j=>exact .itr k a b j
 |iv t v _ m=>exact .iv t v m
 |vp k a l L j y g h=>exact .vp k a l L j y g (h.mono (fun _ _ x=>x) (fun _ _ _=>e.cell _))
theorem HR.shut{G:Gh}{B:Nat}{w0 w E:World}{I0:Nat→Nat→Prop}{h:aa}(a:HR G B w0 I0 h w)(e:Shut B w E):HR G B w0 I0 h E:=by
 refine⟨a.below.trans ⟨e.os,e.tape,e.output,by rw[e.size];exact xL _,e.low⟩,by rw[e.size];exact a.bsz,fun b o x=>by rw[e.size];exact a.immlt b o x,a.i0,a.immlow,a.fresh,fun k L W=> ?_,a.dis,fun k ob T=> ?_,a.lim,⟨fun k v b x=> ?_,fun k U b l l' x X=>a.maps.inj k U b l l' x X,fun k es c x=> ?_,fun k y N env ps YU bd S x=> ?_,fun k J O j seen x=> ?_,a.maps.glob.mono (fun _ _ x=>x) (fun _ _ _=>e.cell _)⟩⟩
 ·obtain⟨n,⟨arr,Y,h2,I⟩,H⟩:=a.own k L W
  exact⟨n,⟨arr,Y,e.oth _ _ rfl h2,I⟩,H⟩
 ·have n:=a.objs k ob T
  cases ob with
  |map _ _=>trivial
  |lp _ _ _ _ _ _ _=>trivial
  |itr _ _ _ _=>trivial
  |typ _ _ _ _=>exact n
  |arr sz es=>
   rcases n with n|⟨L,g,f,d,p,K,P,F⟩
   ·exact .inl n
   ·exact .inr ⟨L,g,f,d,p,K,P,fun t c A=>by
      obtain⟨u,z,s,C⟩:=F t c A;exact⟨u,(e.cell _).trans z,s,C.shut e⟩⟩
 ·obtain⟨g,⟨o,f,D⟩,d⟩:=a.maps.low k v b x
  exact⟨g,⟨o,f,e.oth _ _ (by cases o<;>first|rfl|cases f) D⟩,d⟩
 ·obtain⟨b,g,M,f,d,p⟩:=a.maps.obj k es c x
  exact⟨b,g,M,e.oth _ _ rfl f,d,fun i q m R hm=>by
   obtain⟨z,s,C⟩:=p i q m R hm;exact⟨z.mono (fun _ _ x=>x) (fun _ _ _=>e.cell _),s.mono (fun _ _ x=>x) (fun _ _ _=>e.cell _),C⟩⟩
 ·obtain⟨b,r,g,f,d⟩:=a.maps.loops k y N env ps YU bd S x
  exact⟨b,r,g,e.oth _ _ rfl f,d.size,fun t A=>(d.rep t A).shut e,d.out,d.ps,d.YU,d.bd,d.state,d.pending⟩
 ·obtain⟨b,Z,V,Q,g,f,d,p⟩:=a.maps.iters k J O j seen x
  exact⟨b,Z,V,Q,g,f,e.oth _ _ rfl d,p⟩
theorem FR.shut{G:Gh}{B N:Nat}{c:List Deferred}{w d:World}{env:Nat→AV}{a:Act}(b:FR G w N c env a)(e:Shut B w d):FR G d N c env a:=⟨b.size,b.nod,fun t f=>(b.rep t f).shut e,b.out⟩
theorem dP{P:Program}{F:Fence}{n B:Nat}{fn:Func}{g:Array Value}{R:Ending→World→Prop}{c:List Deferred}{u:FrameMode}(m:u≠ .run):∀(i:List Nat)(w:World),i.Nodup→(∀b∈i,B≤b)→(∀b∈i,w.heap[b]? =some (.deferred (some [])))→
    (∀k,Shut B w k→(∀b,b∉i→k.heap[b]? =w.heap[b]?)→LeavesInM F n P fn g R c u k)→LeavesInM F n P fn g R (gj i ++c) u w
 |[],w,_,_,_,h=>h w (Shut.refl B w) (fun _ _=>rfl)
 |b::i,w,j,f,a,h=>by
  have o:=a b (by simp);rw[yy]at j;refine⟨m, .inl ⟨b,_,rfl,run_takeDeferred o,dP m i _ j.2 (fun x d=>f x (by simp[d])) (fun x d=> ?_) (fun k q p=> ?_)⟩⟩
  ·have l:x≠b:=fun e=>j.1 (e▸d)
   rw[World.putObj_heap_other l];exact a x (by simp[d])
  ·refine h k ((Shut.put o rfl rfl (f b (by simp))).trans q) (fun x d=> ?_)
   simp only[x0,zG]at d;rw[p x d.2,World.putObj_heap_other d.1]
def Jf(P:Program)(S:St):ResultVar→Option D
 | .tmp t=>(view 12 S.heap (S.env t)).map (·.1)
 | .cell t ty=>match gr P ty (S.env t) S.heap with
  |some out=>(view 12 S.heap out.val).map (·.1)
  |none=>none
def po(P:Program)(S:St):List ResultVar→Option (List D)
 |[]=>some []
 |r::l=>match Jf P S r,po P S l with
  |some x,some xs=>some (x::xs)
  |_,_=>none
def mJ(G:Gh)(h:aa):Nat→Nat→Prop:=fun b o=>G.imm b o∨∃k L,G.loc k (h k).ver=some L∧L.b=b
def sX(b:Array Value):ResultVar→Sem Value
 | .tmp t=>pure (b.getD t undef)
 | .cell a t=>do loadVar t (←asAddr (b.getD a undef))
theorem Bn{n:List Deferred}{P:Program}{G:Gh}{B:Nat}{w0 w:World}{I0:Nat→Nat→Prop}{N:Nat}{S:St}{a:Act}(f:HR G B w0 I0 S.heap w)(i:FR G w N n S.env a){h:ResultVar}{x:D}(d:Jf P S h=some x):
    ∃v,(sX a.tmps h).run P w= .ok v w∧DRep (mJ G S.heap) w x v:=by
 have up:∀{ks:List Nat}{y:D}{v:Value},DRep (dp G S.heap ks) w y v→DRep (mJ G S.heap) w y v:=fun l=>l.mono (by
  rintro b o (x|⟨k,_,L,m,p⟩)
  ·exact .inl x
  ·exact .inr ⟨k,L,m,p⟩) (fun _ _ _=>rfl)
 cases h with
 |tmp t=>
  simp only[Jf,xB]at d;obtain⟨⟨y,ks⟩,g,rfl⟩:=d;exact⟨_,rfl,up (dM f 12 _ _ _ _ g (i.opd f.maps.glob (.tmp t)))⟩
 |cell t ty=>
  simp only[Jf]at d;split at d
  ·rename_i out q
   simp only[xB]at d;obtain⟨⟨y,ks⟩,g,rfl⟩:=d;obtain⟨v,c,_,_,e⟩:=jM f (i.opd f.maps.glob (.tmp t)) q;refine⟨v, ?_,up (dM f 12 _ _ _ _ g e)⟩;simp only[Instr.loadAt,Instr.sureAddr,Act.eval]at c;simp only[sX];generalize a.tmps.getD t undef=u at c;cases u with
   |pointer j=>
    cases j with
    |some r=>simpa [asAddr]using c
    |none=>simp at c
   |_=>simp at c
  ·cases d
theorem sY{z:List Deferred}{P:Program}{G:Gh}{B:Nat}{w0 w:World}{I0:Nat→Nat→Prop}{N:Nat}{S:St}{a:Act}(t:HR G B w0 I0 S.heap w)(A:FR G w N z S.env a){fn:Func}{c:List D}(m:po P S fn.results.toList=some c):
    ∃v,(results fn a.tmps).run P w= .ok v w∧qR (mJ G S.heap) w c v:=by
 have o:∀(l:List ResultVar)(c:List D),po P S l=some c→∃vs:List Value,vs.length=c.length∧
     (l.mapM (sX a.tmps)).run P w= .ok vs w∧
     ∀(i:Nat)(x:D)(u:Value),c[i]? =some x→vs[i]? =some u→DRep (mJ G S.heap) w x u:=by
  intro l;induction l with
  |nil=>intro c h;simp[po]at h;subst h;exact⟨[],rfl,rfl,by simp⟩
  |cons r l C=>
   intro c h;simp only[po]at h;split at h
   ·rename_i x xs m k
    simp only[xA]at h;subst h;obtain⟨vs,q,h2,e⟩:=C xs k;obtain⟨v,s,E⟩:=Bn t A m;refine⟨v::vs,by simp[q], ?_,fun i y u p n=> ?_⟩
    ·rw[List.mapM_cons,Sem.run_bind]
     rw[s,Result.andThen_ok,Sem.run_bind,h2,Result.andThen_ok];rfl
    ·cases i with
     |zero=>simp at p n;subst p;subst n;exact E
     |succ i=>exact e i y u (by simpa using p) (by simpa using n)
   ·cases h
 obtain⟨vs,q,h2,e⟩:=o _ _ m
 have hm:(fn.results.mapM (sX a.tmps)).run P w= .ok vs.toArray w:=by
  rw[Array.mapM_eq_mapM_toList,Sem.run_map,h2];rfl
 refine⟨if h:vs.toArray.size=1 then vs.toArray[0]else .tuple vs.toArray, ?_, ?_⟩
 ·have f:results fn a.tmps=(do let vs ←fn.results.mapM (sX a.tmps);pure (if h:vs.size=1 then vs[0]else .tuple vs)):=by
    unfold results;congr 1
  rw[f,Sem.run_bind,hm];rfl
 ·by_cases d:c.length=1
  ·obtain⟨x,j⟩:=yJ.1 d
   have g:vs.length=1:=by omega
   obtain⟨v,f⟩:=yJ.1 g;subst j;subst f;exact .inl ⟨x,rfl,e 0 x v rfl rfl⟩
  ·have:¬(vs.toArray.size=1):=by simp;omega
   rw[dif_neg this];exact .inr ⟨d,_,rfl,by simp[q],fun i x u a b=>e i x u a (by simpa using b)⟩
def jQ(args:List D):St:=⟨fun t=>match args[t]? with|some x=> .d x|none=> .junk,fun _=>⟨0,none⟩⟩
theorem Bo{P:Program}(hm:jF P){f:Nat}{fn:Func}{c:Code}{args O:List D}(hf:P.funcs[f]? =some fn)(U:fn.body=some c)(hn:(fn.name== "runtime.NumGoroutine")=false)(hl:args.length≤fn.ntmps)
    (h:∀X:b4,X.P=P→X.N=fn.ntmps→AW X c (jQ args) fun e S'=>(e= .normal∨e= .ret)∧po P S' fn.results.toList=some O):aF P f args O:=by
 refine⟨⟨fn,hf,by rw[U];rfl,hn⟩,fun w I a hI V q r=>callsIn_wide.1 (callsIn_of_wp_marks (F:=FF none) (n:=0) hf U trivial ?_)⟩
 let X:b4:=⟨P,w.heap.size,w,I,fn.ntmps,hm,none,w.heap.size,[]⟩
 have p:e6 X ⟨I,fun _ _=>none,fun _=>0,fun _ _=>none⟩ (jQ args) {tmps:=a ++Array.replicate (fn.ntmps-a.size) undef,defers:=[]} w:=by
  refine⟨⟨Below.refl _ _,xL _,hI,fun _ _ x=>x,fun _ _ x _=>x,fun k v L x=>by simp at x,fun k L x=>by simp at x,fun k k' L L' x=>by simp at x,fun k ob x=>by simp[jQ]at x,fun _=>rfl,⟨fun k v b x=>by simp at x,fun k k' b l l' x=>by simp at x,fun k es c x=>by simp[jQ]at x,fun k fno N env ps YU bd st x=>by simp[jQ]at x,fun k km vm E seen x=>by simp[jQ]at x,r⟩⟩,[],⟨?_,rfl, ?_, ?_⟩,yV,fun _ h=>(by cases h),fun _ h=>(by cases h),fun _ h=>(by cases h),xL _⟩
  ·show(a ++Array.replicate (fn.ntmps-a.size) undef).size=fn.ntmps
   simp[V];omega
  ·intro t _
   show Rep _ _ (match args[t]? with|some x=>AV.d x|none=> .junk) ((a ++Array.replicate (fn.ntmps-a.size) undef).getD t undef);cases T:args[t]? with
   |none=>exact .junk _
   |some x=>
    have j:t<a.size:=by rw[V];exact(xC.1 T).1
    have Z:a[t]? =some a[t]:=xI j;rw[xq,yW j,Z];exact .d (q t x _ T Z)
  ·intro t ht
   show(match args[t]? with|some x=>AV.d x|none=> .junk)= .junk;rw[yg (by have:X.N=fn.ntmps:=rfl;omega)]
 refine wpIn_mono (h X rfl rfl _ _ _ p) ?_;rintro e S Y ⟨e',S',G',W,⟨he,A⟩,hex,C,bs,z,g⟩
 have y:∀R:Ending→World→Prop,(∀v i I',Below w.heap.size w i→(∀b o,I b o→I' b o)→(∀b o,I' b o→I b o∨w.heap.size≤b)→(∀b o,I' b o→b<i.heap.size)→qR I' i O v→R (.returned v) i)→
     LeavesInM (FF none) 0 P fn S.tmps R S.defers .returning Y:=fun R hR=>by
  rw[z.nod];refine dP (B:=w.heap.size) (by simp) bs Y g.nd g.low g.live (fun i u _=> ?_);have m:=C.shut u;obtain⟨v,hv,s⟩:=sY m (z.shut u) A;show ∃v,(results fn S.tmps).run P i= .ok v i∧R (.returned v) i;refine⟨v,hv,hR v i (mJ G' S'.heap) m.below (fun b o x=> .inl (C.i0 b o x)) ?_ ?_ s⟩
  ·rintro b o (x|⟨k,L,M,rfl⟩)
   ·rcases yR b w.heap.size with j|K
    ·exact .inl (C.immlow b o x j)
    ·exact .inr K
   ·exact .inr (C.own k L M).1
  ·rintro b o (x|⟨k,L,M,rfl⟩)
   ·exact m.immlt b o x
   ·exact m.blt M
 rcases he with rfl|rfl
 ·obtain rfl:=W.normal
  exact y _ fun v i I' c1 J Q H G=>⟨v,I',rfl,c1,J,Q,H,G⟩
 ·obtain rfl:=W.ret
  exact y _ fun v i I' c1 J Q H G=>⟨v,I',rfl,c1,J,Q,H,G⟩
def ki(N:Nat):(Nat→AV)→List Nat→List AV→Option (Nat→AV)
 |env,[],[]=>some env
 |env,p::ps,x::xs=>if p<N then ki N (aG env p x) ps xs else none
 |_,_,_=>none
theorem tz{N:Nat}:∀{ps:List Nat}{xs:List AV}{env a:Nat→AV},ki N env ps xs=some a→ps.length=xs.length
 |[],[],_,_,_=>rfl
 |p::ps,x::xs,env,a,h=>by
  simp only[ki]at h;split at h
  ·simp[tz h]
  ·cases h
 |[],_::_,_,_,h=>by simp[ki]at h
 |_::_,[],_,_,h=>by simp[ki]at h
theorem tA{G:Gh}{w:World}{N:Nat}:∀{ps:List Nat}{xs:List AV}{env b:Nat→AV}(vs:List Value)(a:Array Value),ki N env ps xs=some b→vs.length=xs.length→a.size=N→
    (∀(i:Nat)(x:AV)(u:Value),xs[i]? =some x→vs[i]? =some u→Rep G w x u)→(∀t,t<N→Rep G w (env t) (a.getD t undef))→(∀t,N≤t→env t= .junk)→
    ((ps.zip vs).foldl (fun a (p:Nat×Value)=>a.setIfInBounds p.1 p.2) a).size=N∧
    (∀t,t<N→Rep G w (b t) (((ps.zip vs).foldl (fun a (p:Nat×Value)=>a.setIfInBounds p.1 p.2) a).getD t undef))∧(∀t,N≤t→b t= .junk)
 |[],[],env,b,vs,a,h,j,d,f,g,k=>by
  simp only[ki,xA]at h;subst h;exact⟨d,g,k⟩
 |p::ps,x::xs,env,b,[],a,h,j,d,f,g,k=>by simp at j
 |p::ps,x::xs,env,b,v::vs,a,h,j,d,f,g,k=>by
  simp only[ki]at h;split at h
  ·rename_i hp
   simp only[List.zip_cons_cons,List.foldl_cons];refine tA vs _ h (by simpa using j) (by simpa using d) (fun i y u n m=>f (i+1) y u (by simpa using n) (by simpa using m)) (fun t l=> ?_) (fun t l=> ?_)
   ·simp only[xq,Array.getElem?_setIfInBounds]
    by_cases c:p=t
    ·subst c
     simp only[af,yS,d,hp,zH];exact f 0 x v rfl rfl
    ·rw[xo c,ag _ _ (fun e=>c e.symm)]
     have:=g t l;rwa [xq]at this
   ·rw[ag _ _ (by omega)];exact k t l
  ·cases h
 |[],_::_,_,_,_,_,h,_,_,_,_,_=>by simp[ki]at h
 |_::_,[],_,_,_,_,h,_,_,_,_,_=>by simp[ki]at h
def Fr(Q:aB→St→Prop)(S:St):LSt→Prop
 | .ready=>Q .normal S
 | .done .ret=>Q .ret S
 | .done (.exit id)=>Q (.exit id) S
 |_=>False
theorem uO{X:b4}{S:St}{Q:aB→St→Prop}{g:Operand}{ps:Array Nat}{YU bd:Code}{gf k fno:Nat}{m rs:List AV}{h2:aa}{f2 N2:Nat}{M:List (Nat×AV)}{ps2:Array Nat}{as2 bd2:Code}{st:LSt}
    (hg:opd S.env g= .fn gf m) {el:List (Nat×AV)} (hel:∀p∈el,p.2=S.env p.1)
    (hc:am X.P gf (.yld k ((S.heap k).ver+1)::m) (aG S.heap k ⟨(S.heap k).ver+1,some (.lp fno X.N el ps YU bd .ready)⟩) rs h2)
    (hk:(h2 k).ver=(S.heap k).ver+1) (hl:(h2 k).ob=some (.lp f2 N2 M ps2 as2 bd2 st))
    (hq:Fr Q ⟨S.env,aG h2 k ⟨(h2 k).ver,none⟩⟩ st):AW X (.rangeFunc g ps YU bd) S Q:=fun G a w ⟨L,bs,K,Y⟩=>by
 refine wpIn_rangeFunc (fun fn _=> ?_);have V:=K.opd L.maps.glob g;rw[hg]at V
 obtain⟨vs,hfv,hvl,hcr⟩:∃vs:Array Value,a.eval g= .func (.func gf) #[] vs∧vs.size=m.length∧∀(i:Nat)(x:AV)(u:Value),m[i]? =some x→vs[i]? =some u→Rep G w x u:=by
  generalize a.eval g=vf at V;cases V with
  |fn _ _ vs hl hh=>exact⟨vs,rfl,hl,hh⟩
 obtain⟨hcb,Z⟩:=hc
 have b6:∀(l:Nat)(h:List Deferred)(y:World)(rec:Loop)(I:List Nat),(Instr.enterLoop fn a.tmps ps YU bd (FF X.rnd).round).run X.P w= .ok (l,h) y→HR G X.B X.w0 X.I0 S.heap y→Ext G w G y→y.heap[l]? =some (.loop rec)→
     rec.tmps=a.tmps→rec.params=ps→rec.assign=YU→rec.body=bd→rec.state= .ready→rec.pending=none→X.B≤l→(∀k v,G.mloc k v≠some l)→h ++gj bs=gj I→Side0 X y I→
     ∃(l:Nat)(h:List Deferred)(R:World)(d:Deferred)(q:World)(f:FuncId)(args:Array Value)(J:World),
      (Instr.enterLoop fn a.tmps ps YU bd (FF X.rnd).round).run X.P w= .ok (l,h) R∧(resolve a.eval (rangeCall g l) 0).run X.P R= .ok d q∧(∀f',Target.leads X.P q d.target d.args=some f'→(FF X.rnd).fn f')∧
      (invoke d.target d.args).run X.P q= .ok (.enter f args) J∧((FF X.rnd).depth.isSome=true→1≤0)∧
      CallsIn (FF X.rnd) (0-1) X.P f args J (rangePost (FF X.rnd) 0 X.P l (fun e a' w'=>∃e' S' E,XRep E w' e' e∧Q e' S'∧Ext G w E w'∧e6 X E S' a' w') {a with defers:=h ++a.defers}):=by
  intro l h y rec I he s C O r1 r2 r3 r4 r5 r6 hB hnew hmk j
  obtain⟨T,e2⟩:=s.newFix k (b:=l) (ob:= .lp fno X.N el ps YU bd .ready) (o:= .loop rec) rfl (fun _ _ _ _ e=>by cases e) hB hnew rfl O (fun _ _ e=>by cases e) (fun fno' N' env' ps' as' bd' st' e=>by
   cases e
   exact⟨rec,O,by rw[r1];exact K.size,fun t ht=>by
    rw[r1];rcases mY S.env el hel t with e|e
    ·rw[e];exact(K.rep t ht).mono C
    ·rw[e];exact .junk _,fun t ht=>by
    rcases mY S.env el hel t with e|e
    ·rw[e];exact K.out t ht
    ·exact e,r2,r3,r4,r5,r6⟩)
  have hml:(G.atMap k ((S.heap k).ver+1) l).mloc k ((S.heap k).ver+1)=some l:=by simp[Gh.atMap]
  refine⟨l,h,y,{target:= .fn (.func gf) vs,args:= #[.func (.yield l) #[] #[]]},y,gf, #[.func (.yield l) #[] #[]] ++vs,y,he, ?_,fun _ _=>trivial, ?_,fun x=>(by cases x), ?_⟩
  ·simp only[resolve,hfv]
   simp[go_sem]
  ·have:=db hcb (#[.func (.yield l) #[] #[]] ++vs) y
   simpa [invoke]using this
  ·have hsz2:(#[Value.func (.yield l) #[] #[]] ++vs).size=(AV.yld k ((S.heap k).ver+1)::m).length:=by simp[hvl];omega
   have U:∀(i:Nat)(x:AV)(u:Value),(AV.yld k ((S.heap k).ver+1)::m)[i]? =some x→(#[Value.func (.yield l) #[] #[]] ++vs)[i]? =some u→Rep (G.atMap k ((S.heap k).ver+1) l) y x u:=by
    intro i x u hx hu;cases i with
    |zero=>
     rw[yW (by simp)]at hu;simp at hx hu;subst hx;subst hu;exact .yld _ _ _ hml
    |succ i=>
     rw[Array.getElem?_append_right (by simp)]at hu;simp at hx hu;exact(hcr i x u hx hu).mono (C.trans e2)
   have H:=Z _ X.B X.w0 X.I0 y _ T hsz2 U;have F:=uG X.rnd (0-1) H;refine F.mono ?_
   ·rintro e w' ⟨v,E,rfl,e3,hr3,_⟩
    obtain⟨b,r,g1,g2,g3⟩:=hr3.maps.loops k f2 N2 M ps2 as2 bd2 st hl
    have D:b=l:=by
     rw[hk,e3.mloc _ _ _ hml]at g1;exact(Option.some.inj g1).symm
    subst D
    have hnb:r.state≠ .busy:=by
     rw[g3.state];cases st with
     |busy=>exact absurd hq (by simp[Fr])
     |_=>simp[LSt.state]
    have z:=run_endLoop (P:=X.P) g2 hnb;have W:=g3.pending;obtain⟨hr4,e4⟩:=hr3.setFix (k:=k) (o':= .loop {r with state:= .exhausted}) (ob':=none) (by rw[hl];rfl) g1 g2 rfl rfl (fun _=>⟨_,rfl⟩) (fun x e=>by cases e) (fun _ _ e=>by cases e) (fun _ _ _ _ _ _ _ e=>by cases e);obtain⟨w4,hw4⟩:∃w4,w'.putObj b (.loop {r with state:= .exhausted})=w4:=⟨_,rfl⟩
    rw[hw4]at z hr4 e4;rw[W]at z;have ex:Ext G w E w4:=((C.trans e2).trans e3).trans e4
    have hh:e6 X E ⟨S.env,aG h2 k ⟨(h2 k).ver,none⟩⟩ {a with defers:=h ++a.defers} w4:=
     ⟨hr4,I,⟨K.size,by show h ++a.defers=_;rw[K.nod,←xa,hmk],fun t ht=>(K.rep t ht).mono ex,K.out⟩,j.mono ((e2.trans e3).trans e4)⟩
    refine⟨st.pending,_,z, ?_⟩;cases st with
    |ready=>exact⟨.normal,_,E,trivial,hq,ex,hh⟩
    |busy=>exact absurd hq (by simp[Fr])
    |done c=>
     cases c with
     |ret=>exact wpIn_ret ⟨.ret,_,E,trivial,hq,ex,hh⟩
     |exit id=>exact wpIn_exit ⟨.exit id,_,E,rfl,hq,ex,hh⟩
     |_=>exact absurd hq (by simp[Fr])
 have hmb:∀k v,∀b,G.mloc k v=some b→b<w.heap.size:=fun k v b x=>by
  obtain⟨_,⟨o,_,h2⟩,_⟩:=L.maps.low _ _ _ x;exact(xR.1 h2).1
 cases n:X.rnd with
 |none=>
  have ho:=run_enterLoop_outer (P:=X.P) (w:=w) fn a.tmps ps YU bd;have s:=L.allocAny (.deferred (some []));have C:=Ext.alloc L (.deferred (some []));have T:=s.allocAny (.loop {state:= .ready,pending:=none,fn,tmps:=a.tmps,params:=ps,assign:=YU,body:=bd,defers:=w.heap.size});have e2:=Ext.alloc s (.loop {state:= .ready,pending:=none,fn,tmps:=a.tmps,params:=ps,assign:=YU,body:=bd,defers:=w.heap.size});have A:=World.alloc_heap_new (w.alloc (.deferred (some []))) (.loop {state:= .ready,pending:=none,fn,tmps:=a.tmps,params:=ps,assign:=YU,body:=bd,defers:=w.heap.size});rw[World.size_alloc]at A
  have hdef:((w.alloc (.deferred (some []))).alloc (.loop {state:= .ready,pending:=none,fn,tmps:=a.tmps,params:=ps,assign:=YU,body:=bd,defers:=w.heap.size})).heap[w.heap.size]? =some (.deferred (some [])):=
   (dg (by simp)).trans (World.alloc_heap_new w _)
  have j:=Y.mono (C.trans e2);rw[←n]
  refine b6 _ _ _ _ (w.heap.size::bs) (by rw[show(FF X.rnd).round=none from n];exact ho) T (C.trans e2) A rfl rfl rfl rfl rfl rfl (by have:=L.bsz;omega) (fun k v x=>by have:=hmb _ _ _ x;omega) rfl
   ⟨yy.2 ⟨fun hx=> ?_,Y.nd⟩,fun b D=> ?_,fun b D=> ?_,j.book,j.s0⟩
  ·have:=(xR.1 (Y.live _ hx)).1
   omega
  ·rcases x0.1 D with rfl|D
   ·exact Y.s0
   ·exact Y.low b D
  ·rcases x0.1 D with rfl|D
   ·exact hdef
   ·exact j.live b D
 |some l0=>
  obtain⟨r0,hr0⟩:=Y.book l0 n;have ho:=run_enterLoop_inner (P:=X.P) (w:=w) hr0 fn a.tmps ps YU bd;have s:=L.allocAny (.loop {state:= .ready,pending:=none,fn,tmps:=a.tmps,params:=ps,assign:=YU,body:=bd,defers:=r0.defers});have C:=Ext.alloc L (.loop {state:= .ready,pending:=none,fn,tmps:=a.tmps,params:=ps,assign:=YU,body:=bd,defers:=r0.defers});rw[←n];exact b6 _ _ _ _ bs (by rw[show(FF X.rnd).round=some l0 from n];exact ho) s C (World.alloc_heap_new w _) rfl rfl rfl rfl rfl rfl L.bsz (fun k v x=>by have:=hmb _ _ _ x;omega) rfl (Y.mono C)
def wV:aB→Option (Bool×LSt)
 | .normal=>some (true, .ready)
 | .ret=>some (false, .done .ret)
 | .exit id=>some (false, .done (.exit id))
 |_=>none
set_option maxHeartbeats 1000000 in
theorem wW{P:Program}(hm:jF P){k v:Nat}{args:List AV}{h:aa}{Y N:Nat}{env:List (Nat×AV)}{j:Nat→AV}{ps:Array Nat}{YU bd:Code}(hv:(h k).ver=v)(hob:(h k).ob=some (.lp Y N env ps YU bd .ready))
    (H:ki N (ah env) ps.toList args=some j) {S1:St} (h1:∀X:b4,X.P=P→X.N=N→AW X YU ⟨j,h⟩ fun e S'=>e= .normal∧S'=S1)
    {f1 N1:Nat} {e1:List (Nat×AV)} {y:Array Nat} {s A:Code} (T:(S1.heap k).ver=v) (E:(S1.heap k).ob=some (.lp f1 N1 e1 y s A .ready)) {e:aB} {S2:St}
    (h2:∀X:b4,X.P=P→X.N=N→AW X bd ⟨S1.env,aG S1.heap k ⟨v,some (.lp f1 N1 e1 y s A .busy)⟩⟩ fun e' S'=>e'=e∧S'=S2)
    {f2 W:Nat} {Z:List (Nat×AV)} {m:Array Nat} {q o:Code} {st2 R:LSt} {b:Bool} (hv2:(S2.heap k).ver=v) (I:(S2.heap k).ob=some (.lp f2 W Z m q o st2)) (ho:wV e=some (b,R)):
    Cv P k v args h [.d (.bool b)] (aG S2.heap k ⟨v,some (.lp f2 W Z m q o R)⟩):=fun G B w0 I0 w f hr U J l V=>by
 obtain⟨l',r,g1,g2,O⟩:=hr.maps.loops k Y N env ps YU bd .ready hob
 have n:l'=l:=by
  rw[hv,V]at g1;exact(Option.some.inj g1).symm
 subst n;have K:=tz H;obtain⟨q1,q2,q3⟩:=tA (G:=G) (w:=w) f.toList r.tmps H (by simpa using U) O.size (fun i x u hx hu=>J i x u hx (by simpa using hu)) O.rep O.out
 have Q:((r.params.zip f).foldl (fun c (p:Nat×Value)=>c.setIfInBounds p.1 p.2) r.tmps)=((ps.toList.zip f.toList).foldl (fun c (p:Nat×Value)=>c.setIfInBounds p.1 p.2) r.tmps):=by
  rw[O.ps,←Array.foldl_toList,Array.toList_zip]
 refine⟨r.fn,_,r.assign,r.body,run_yield g2 (by rw[O.ps,U,←K];simp),fun rr=> ?_⟩;rw[O.YU,O.bd];have z:(Array.foldl (fun c x=>match x with|(t,a)=>c.setIfInBounds t a) r.tmps (r.params.zip f))=((ps.toList.zip f.toList).foldl (fun c (p:Nat×Value)=>c.setIfInBounds p.1 p.2) r.tmps):=Q;rw[z];refine roundIn_of_wpIn (F:=FF rr) trivial ?_
 let X:b4:=⟨P,B,w0,I0,N,hm,some l',w.heap.size,[]⟩
 have C:e6 X G ⟨j,h⟩ {tmps:=((ps.toList.zip f.toList).foldl (fun c (p:Nat×Value)=>c.setIfInBounds p.1 p.2) r.tmps),defers:=[]} w:=
  ⟨hr,[],⟨q1,rfl,q2,q3⟩,yV,fun _ h=>(by cases h),fun _ h=>(by cases h),fun l V=>by cases V;exact⟨r,g2⟩,xL _⟩
 refine wpIn_mono (h1 X rfl rfl G _ w C) ?_;rintro e' a' w' ⟨_,S',G',xr1,⟨rfl,rfl⟩,x1,y1,bs1,z1,s1⟩;obtain rfl:=xr1.normal;obtain⟨l2,r2,k1,k2,D⟩:=y1.maps.loops k f1 N1 e1 y s A .ready E
 have n:l2=l':=by
  rw[T,x1.mloc _ _ _ V]at k1;exact(Option.some.inj k1).symm
 subst n;refine⟨_,run_beginRound k2 D.state, ?_⟩
 obtain⟨y2,x2⟩:=y1.setFix (k:=k) (o':= .loop {r2 with state:= .busy}) (ob':=some (.lp f1 N1 e1 y s A .busy)) (by rw[E];rfl) k1 k2 rfl rfl (fun _=>⟨_,rfl⟩) (fun x e=>by cases e;rfl) (fun _ _ e=>by cases e) (fun _ _ _ _ _ _ _ e=>by
  cases e;exact⟨_,World.putObj_heap_same (xR.1 k2).1,D.size,D.rep,D.out,D.ps,D.YU,D.bd,rfl,D.pending⟩)
 rw[T]at y2;refine wpIn_mono (h2 X rfl rfl G' _ _ ⟨y2,bs1,z1.mono x2,s1.mono x2⟩) ?_;rintro e' a'' w'' ⟨e9,S'',G'',L,⟨rfl,rfl⟩,x3,y3,-⟩;obtain⟨l3,r3,m1,m2,S⟩:=y3.maps.loops k f2 W Z m q o st2 I
 have n:l3=l2:=by
  rw[hv2,x3.mloc _ _ _ (x2.mloc _ _ _ (x1.mloc _ _ _ V))]at m1;exact(Option.some.inj m1).symm
 subst n
 have M:∀(g:Option Code),g.isNone=b→(if g.isNone=true then LoopState.ready else .done)=R.state→g=R.pending→∃vv w3,(Instr.endRound l3 g).run P w''= .ok vv w3∧∃x G',Ending.returned vv= .returned x∧Ext G w G' w3∧HR G' B w0 I0 (aG S''.heap k ⟨v,some (.lp f2 W Z m q o R)⟩) w3∧Rep G' w3 (iG [.d (.bool b)]) x:=by
  intro g j1 j2 j3
  obtain⟨y4,x4⟩:=y3.setFix (k:=k) (o':= .loop {r3 with state:=if g.isNone then .ready else .done,pending:=g}) (ob':=some (.lp f2 W Z m q o R)) (by rw[I];rfl) m1 m2 rfl rfl (fun _=>⟨_,rfl⟩) (fun x e=>by cases e;rfl) (fun _ _ e=>by cases e) (fun _ _ _ _ _ _ _ e=>by
   cases e;exact⟨_,World.putObj_heap_same (xR.1 m2).1,S.size,S.rep,S.out,S.ps,S.YU,S.bd,j2,j3⟩)
  rw[hv2]at y4;exact⟨_,_,run_endRound g m2,_,G'',rfl,(x1.trans x2).trans (x3.trans x4),y4,by rw[j1];exact .d (.bool b)⟩
 cases e9 with
 |normal=>obtain rfl:=L.normal;cases ho;exact M none rfl rfl rfl
 |ret=>obtain rfl:=L.ret;cases ho;exact M (some .ret) rfl rfl rfl
 |exit id=>obtain rfl:=L.exit;cases ho;exact M (some (.exit id)) rfl rfl rfl
 |panic x=>cases ho
end Go.Avm
namespace Go.Avm
open Go.RowKit
variable[aH]
def fO(args:List AV):Nat→AV:=fun t=>(args[t]?).getD .junk
def lU(P:Program)(S:St):List ResultVar→Option (List AV)
 |[]=>some []
 | .tmp t::r=>(lU P S r).map (S.env t:: ·)
 | .cell t ty::r=>match gr P ty (S.env t) S.heap,lU P S r with
  |some o,some l=>some (o.val::l)
  |_,_=>none
def oB(h:aa)(a:AV):Option (Nat×Nat×Nat×List AV×Int×Int):=
 match a with
 | .ptr k v i b _=>if b=0 then match (h k).ob with
     |some (.arr sz es)=>if sz=1∧(h k).ver=v then match es[i]?,es[i+1]? with
         |some (.d (.int .u32 n)),some (.d (.int .i32 m))=>some (k,v,i,es,n,m)
         |_,_=>none
      else none
     |_=>none
  else none
 |_=>none
def wX(h:aa)(k v i:Nat)(es:List AV):aa:=aG h k ⟨v,some (.arr 1 (es.set (i+1) (.d (.int .i32 1))))⟩
def wY(h:aa)(k v i:Nat)(es:List AV):aa:=aG h k ⟨v,some (.arr 1 ((es.set i (.d (.int .u32 1))).set (i+1) (.d (.int .i32 0))))⟩
def Fs(P:Program)(g:Nat):Prop:=∀(h:aa)(a:AV)(f:Nat)(b:List AV)(k v i:Nat)(es:List AV)(n m:Int),oB h a=some (k,v,i,es,n,m)→
 (n≠0→am P g [a, .fn f b] h [] h)∧
 (n=0→m=0→∀(d:List AV)(h2:aa)(c:List AV),am P f b (wX h k v i es) d h2→oB h2 a=some (k,v,i,c,0,1)→am P g [a, .fn f b] h [] (wY h2 k v i c))
def uP(P:Program):Prop:=∀g,aH.once=some g→Fs P g
abbrev wZ:=Nat→Nat→Nat→Code→St→Option (aB×St×Nat×List Nat)
def XB(k:Nat):Nat:=k+9223372036854775808
def TO(c:List Nat)(a b:aa):aa:=fun k=>if k∈c then a k else b k
def Bp(env:Nat→AV):List ResultVar→List Nat
 |[]=>[]
 | .tmp _::r=>Bp env r
 | .cell t _::r=>match env t with
  | .ptr k _ _ _ _=>XB k::Bp env r
  |_=>Bp env r
inductive Bq where
 |ret (rs:List AV)
 |pan (x:AV)
def iY(P:Program)(c:List ResultVar):Option (aB×St×Nat×List Nat)→Option (Bq×aa×Nat×List Nat)
 |some (.normal,S',a,b)=>(lU P S' c).map fun l=>(.ret l,S'.heap,a,b ++Bp S'.env c)
 |some (.ret,S',a,b)=>(lU P S' c).map fun l=>(.ret l,S'.heap,a,b ++Bp S'.env c)
 |some (.panic x,S',a,b)=>some (.pan x,S'.heap,a,b)
 |_=>none
def p5:Code→Option (Operand×List Operand)
 | .region _ a false=>match a.toList with
  |[o]=>match o.guard,o.dst,o.op with
   |none,none, .defer c=>match c.callee with
    | .value f=>some (f,c.args.toList)
    |_=>none
   |_,_,_=>none
  |_=>none
 |_=>none
def lK:Code→Option Nat
 | .region _ a false=>match a.toList with
  |[o]=>match o.guard,o.dst,o.op with
   |none,some d, .call c=>match c.callee with
    | .builtin .recover=>some d
    |_=>none
   |_,_,_=>none
  |_=>none
 |_=>none
def Ft(P:Program)(f:wZ)(a:Nat)(g:Nat)(args:List AV)(x:Option AV)(h:aa):Option (aa×Nat×List Nat):=
 match P.funcs[g]? with
 |none=>none
 |some fn=>match fn.body with
  |some (.seq r c)=>match lK r with
   |some d=>if args.length≤fn.ntmps∧d<fn.ntmps∧fn.results.isEmpty=true then match f g a fn.ntmps c ⟨aG (fO args) d (x.getD (.d .nili)),h⟩with
       |some (.normal,S',b,e)=>some (S'.heap,b,e)
       |some (.ret,S',b,e)=>some (S'.heap,b,e)
       |_=>none
    else none
   |none=>none
  |_=>none
def Lv:aB→Option (Option AV)
 | .normal| .ret=>some none
 | .panic x=>some (some x)
 |_=>none
def tB(P:Program)(h:wZ)(b N:Nat)(i:List ResultVar):Code→Nat→St→Option (Bq×aa×Nat×List Nat)
 | .seq x y,a,S=>match p5 x with
  |some (f,YU)=>match opd S.env f with
   | .fn g d=>match h b a N y S with
    |some (e,k,m,j)=>match Lv e with
     |some n=>match Ft P h m g (YU.map (opd S.env) ++d) n k.heap with
      |some r=>(lU P ⟨k.env,r.1⟩ i).map fun l=>(.ret l,r.1,r.2.1,j ++(r.2.2 ++Bp k.env i))
      |none=>none
     |none=>none
    |none=>none
   |_=>none
  |none=>match h b a N x S with
   |some (.normal,S',o,j)=>match tB P h b N i y o S' with
    |some r=>some (r.1,r.2.1,r.2.2.1,j ++r.2.2.2)
    |none=>none
   |r=>iY P i r
 |c,a,S=>iY P i (h b a N c S)
def uQ(P:Program)(c:wZ)(a:Nat)(g:Nat)(args:List AV)(h:aa):Option (Bq×aa×Nat×List Nat):=
 match P.funcs[g]? with
 |none=>none
 |some fn=>match fn.body with
  |none=>none
  |some b=>if args.length≤fn.ntmps then tB P c g fn.ntmps fn.results.toList b a ⟨fO args,h⟩else none
def Br(o:Oper)(env:Nat→AV):Option (Nat×List AV):=match dL o env with
 |some (g,args)=>match aH.ext g with
  |some _=>none
  |none=>some (g,args)
 |none=>none
theorem w5{o:Oper}{env:Nat→AV}{g:Nat}{args:List AV}(h:Br o env=some (g,args)):dL o env=some (g,args)∧aH.ext g=none:=by
 unfold Br at h;split at h
 ·rename_i c d b
  split at h
  ·cases h
  ·rename_i a
   simp only[xA,xE]at h;obtain⟨rfl,rfl⟩:=h;exact⟨b,a⟩
 ·cases h
def Qi(N:Nat)(env:Nat→AV):List (Nat×AV):=(List.range N).filterMap fun t=>match env t with
 | .junk=>none
 |x=>some (t,x)
theorem D3(N:Nat)(env:Nat→AV):∀p∈Qi N env,p.2=env p.1:=fun p hp=>by
 obtain⟨t,_,h⟩:=List.mem_filterMap.1 hp;split at h
 ·cases h
 ·cases h;rfl
theorem uR{o:Oper}{env:Nat→AV}{x:Nat×Nat×List AV}(h:o9 o env=some x):dL o env=none:=by
 unfold o9 at h;unfold dL;cases a:o.op with
 |call c=>
  rw[a]at h;simp only at h ⊢;cases d:c.callee with
  |value f=>
   rw[d]at h;simp only at h ⊢;cases b:opd env f with
   |yld k v=>rfl
   |_=>simp[b]at h
  |_=>rfl
 |_=>rfl
def Mt:LSt→Option aB
 | .ready=>some .normal
 | .done .ret=>some .ret
 | .done (.exit id)=>some (.exit id)
 |_=>none
theorem D4{a:LSt}{e:aB}{S:St}(h:Mt a=some e):Fr (fun b S'=>b=e∧S'=S) S a:=by
 unfold Mt at h;split at h<;>first|(cases h;exact⟨rfl,rfl⟩)|(cases h;done)
def uS(g:Nat):Bool:=match aH.once with
 |some a=>Nat.beq a g
 |none=>false
inductive StepR where
 |go (S:St) (ft:Foot) (b:Nat) (tk:List Nat)
 |pan (x:AV) (h:aa) (b:Nat) (tk:List Nat)
inductive OpsR where
 |go (S:St) (fts:List Foot) (b:Nat) (tk:List Nat)
 |pan (p:Nat) (fts:List Foot) (x:AV) (h:aa) (b:Nat) (tk:List Nat)
structure Memo(P:Program) where
 at':Nat→List D→Option (List D)
 ok:∀g ds rs,at' g ds=some rs→aF P g ds rs
def Memo.none{P:Program}:Memo P:=⟨fun _ _=> .none,fun _ _ _ h=>by cases h⟩
def jl(r:Option Nat)(P:Program)(c:Code)(Q:Exit→Act→World→Prop)(a:Act)(w:World):Prop:=
 ∀(b:Frame) k cs,b.roundOf=r→∃e d f,Q e d f∧ArrivesIn (Machine.fenced P (FF r)) P (lone (b.atR a (.code c:: .inLoop c::k)) cs w) b k cs e d f
theorem Mu(r:Option Nat)(n:Nat):(FF r).room n:=fun d h=>by cases h
theorem w6{r:Option Nat}{P:Program}{c:Code}{Q:Exit→Act→World→Prop}{a:Act}{w:World}(h:jl r P c Q a w):(Code.loop c).wpIn (FF r) 0 P Q a w:=by
 intro b k cs f j i;obtain⟨e,m,g,l,d⟩:=h b k cs f;exact⟨e,m,g,l, .of_steps (.one (fenced_calm j i rfl) stepR_loop) d⟩
theorem rm{r:Option Nat}{P:Program}{c:Code}{Q:Exit→Act→World→Prop}{a:Act}{w:World}(h:c.wpIn (FF r) 0 P (Exit.then (jl r P c Q) Q) a w):jl r P c Q a w:=by
 intro b k cs n;have s:(FF r).room (cs.length+1+0):=Mu r _;obtain⟨e,g,f,m,d⟩:=h b (.inLoop c::k) cs n trivial s;cases e with
 |normal=>
  obtain⟨q,p,o,j,i⟩:=m b k cs n;exact⟨q,p,o,j, .of_steps (StepsIn.trans d (.one (fenced_calm trivial s rfl) stepR_inLoop)) i⟩
 |exit id=>exact⟨_,g,f,m, .pass (x:= .inLoop c) rfl (fun _ _=> .inl (by simp)) d⟩
 |goto l=>exact⟨_,g,f,m, .pass (x:= .inLoop c) rfl (fun _ _=> .inl (by simp)) d⟩
 |ret=>exact⟨_,g,f,m, .pass (x:= .inLoop c) rfl (fun _ _=> .inl (by simp)) d⟩
 |panic t=>exact⟨_,g,f,m, .pass (x:= .inLoop c) rfl (fun _ _=> .inl (by simp)) d⟩
 |outgrown=>exact⟨_,g,f,m, .pass (x:= .inLoop c) rfl (fun _ _=> .inl (by simp)) d⟩
theorem mf{r:Option Nat}{P:Program}{c:Code}{Q f:Exit→Act→World→Prop}{a:Act}{w:World}(h:jl r P c Q a w)(i:∀e a w,Q e a w→f e a w):jl r P c f a w:=fun b k cs d=>by
 obtain⟨e,j,g,l,h2⟩:=h b k cs d;exact⟨e,j,g,i _ _ _ l,h2⟩
def LW(X:b4)(c:Code)(S:St)(Q:aB→St→Prop):Prop:=
 ∀G a w,e6 X G S a w→jl X.rnd X.P c (fun e g d=>∃f S' b,XRep b d f e∧Q f S'∧Ext G w b d∧e6 X b S' g d) a w
theorem LW.aw{X:b4}{c:Code}{S:St}{Q:aB→St→Prop}(h:LW X c S Q):AW X (.loop c) S Q:=fun G a w b=>w6 (h G a w b)
theorem kY{X:b4}{c:Code}{S:St}{Q:aB→St→Prop}(h:AW X c S (Cz (fun S'=>LW X c S' Q) Q)):LW X c S Q:=fun G a w u=>by
 refine rm (wpIn_mono (h G a w u) ?_);rintro e g m ⟨n,S',b,x,q,f,r⟩;cases n with
 |normal=>
  obtain rfl:=x.normal;exact mf (q b g m r) fun e z A ⟨k,p,s,l,t,o,j⟩=>⟨k,p,s,l,t,f.trans o,j⟩
 |exit i=>obtain rfl:=x.exit;exact⟨_,S',b,x,q,f,r⟩
 |ret=>obtain rfl:=x.ret;exact⟨_,S',b,x,q,f,r⟩
 |panic d=>obtain⟨v,rfl,y⟩:=x.panic;exact⟨_,S',b,x,q,f,r⟩
theorem Fu{P:Program}{cfg cfg':ic}{i:Nat}{o:Oper}{ρ:Operand→AV}{h:aa}(b:cfg'.ret i=cfg.ret i)(h2:cfg'.obm i=cfg.obm i)(a:cfg'.base i=cfg.base i):b6 P cfg' i o ρ h=b6 P cfg i o ρ h:=by
 unfold b6 br gX;simp only[b,h2,a]
structure uT where
 ret:List D
 hc:Option W7
 base:Nat
section
variable{P:Program}{j:Nat→Nat→Bool}{hp:Nat→Bool}{m:Memo P}
def CA(P:Program)(g:wZ):Prop:=∀d a N c S e S' i f,g d a N c S=some (e,S',i,f)→(∀X:b4,X.P=P→X.N=N→AW X c S fun h b=>h=e∧b=S')∧∀k,k∉f→S'.heap k=S.heap k
def dX(P:Program):Prop:=(∀(g:Nat)(fn:Func),P.funcs[g]? =some fn→(fn.name== "runtime.NumGoroutine")=false)∧uP P
theorem mK{M:List Deferred}{G:Gh}{B:Nat}{w0 w:World}{I0:Nat→Nat→Prop}{N:Nat}{S:St}{a:Act}(q:HR G B w0 I0 S.heap w)(F:FR G w N M S.env a){fn:Func}{d:List AV}(L:lU P S fn.results.toList=some d):
    ∃v,(results fn a.tmps).run P w= .ok v w∧Rep G w (iG d) v:=by
 have E:∀(l:List ResultVar)(d:List AV),lU P S l=some d→∃vs:List Value,vs.length=d.length∧
     (l.mapM (sX a.tmps)).run P w= .ok vs w∧
     ∀(i:Nat)(x:AV)(u:Value),d[i]? =some x→vs[i]? =some u→Rep G w x u:=by
  intro l;induction l with
  |nil=>intro d h;simp[lU]at h;subst h;exact⟨[],rfl,rfl,by simp⟩
  |cons r l H=>
   intro d h
   have o:∃x xs,d=x::xs∧lU P S l=some xs∧∃v,(sX a.tmps r).run P w= .ok v w∧Rep G w x v:=by
    cases r with
    |tmp t=>
     simp only[lU,xB]at h;obtain⟨xs,k,rfl⟩:=h;exact⟨_,xs,rfl,k,_,rfl,F.opd q.maps.glob (.tmp t)⟩
    |cell t ty=>
     simp only[lU]at h;split at h
     ·rename_i out xs O f
      simp only[xA]at h;subst h;obtain⟨v,c,_,_,g⟩:=jM q (F.opd q.maps.glob (.tmp t)) O;refine⟨_,xs,rfl,f,v, ?_,g⟩;simp only[Instr.loadAt,Instr.sureAddr,Act.eval]at c;simp only[sX];generalize a.tmps.getD t undef=u at c;cases u with
      |pointer K=>
       cases K with
       |some Q=>simpa [asAddr]using c
       |none=>simp at c
      |_=>simp at c
     ·cases h
   obtain⟨x,xs,rfl,f,v,J,I⟩:=o;obtain⟨vs,k,h2,n⟩:=H xs f;refine⟨v::vs,by simp[k], ?_,fun i y u s A=> ?_⟩
   ·rw[List.mapM_cons,Sem.run_bind]
    rw[J,Result.andThen_ok,Sem.run_bind,h2,Result.andThen_ok];rfl
   ·cases i with
    |zero=>simp at s A;subst s;subst A;exact I
    |succ i=>exact n i y u (by simpa using s) (by simpa using A)
 obtain⟨vs,k,h2,n⟩:=E _ _ L
 have hm:(fn.results.mapM (sX a.tmps)).run P w= .ok vs.toArray w:=by
  rw[Array.mapM_eq_mapM_toList,Sem.run_map,h2];rfl
 refine⟨if h:vs.toArray.size=1 then vs.toArray[0]else .tuple vs.toArray, ?_, ?_⟩
 ·have z:results fn a.tmps=(do let vs ←fn.results.mapM (sX a.tmps);pure (if h:vs.size=1 then vs[0]else .tuple vs)):=by
    unfold results;congr 1
  rw[z,Sem.run_bind,hm];rfl
 ·by_cases e:d.length=1
  ·obtain⟨x,D⟩:=yJ.1 e
   have C:vs.length=1:=by omega
   obtain⟨v,z⟩:=yJ.1 C;subst D;subst z;exact n 0 x v rfl rfl
  ·have p:¬(vs.toArray.size=1):=by simp;omega
   rw[dif_neg p]
   have:iG d= .tup d:=by
    unfold iG;split
    ·simp at e
    ·rfl
   rw[this];exact .tup _ _ (by simp[k]) (fun i x u a b=>n i x u a (by simpa using b))
theorem Ext.ends{G f:Gh}{w c d:World}(e:Ext G w f c)(a:Shut w.heap.size c d):Ext G w f d:=
 ⟨e.imm,e.loc,fun b o x=>(a.cell _).trans (e.cell b o x),by rw[a.size];exact e.size,e.lim,e.nloc,e.mloc,fun b o g x=>by
  rw[a.low b (xR.1 x).1];exact e.kept b o g x⟩
theorem kZ{hm:jF P}{G:Gh}{B:Nat}{w0 w:World}{I0:Nat→Nat→Prop}{fn:Func}{args:List AV}{h:aa}{a:Array Value}(k:HR G B w0 I0 h w)(g:a.size=args.length)(l:args.length≤fn.ntmps)
    (b:∀(i:Nat)(x:AV)(u:Value),args[i]? =some x→a[i]? =some u→Rep G w x u):
    e6 ⟨P,B,w0,I0,fn.ntmps,hm,none,w.heap.size,[]⟩ G ⟨fO args,h⟩ {tmps:=a ++Array.replicate (fn.ntmps-a.size) undef,defers:=[]} w:=by
 refine⟨k,[],⟨?_,rfl, ?_, ?_⟩,yV,fun _ h=>(by cases h),fun _ h=>(by cases h),fun _ h=>(by cases h),xL _⟩
 ·show(a ++Array.replicate (fn.ntmps-a.size) undef).size=fn.ntmps
  simp[g];omega
 ·intro t _
  show Rep _ _ ((args[t]?).getD .junk) ((a ++Array.replicate (fn.ntmps-a.size) undef).getD t undef);cases f:args[t]? with
  |none=>exact .junk _
  |some x=>
   have c:t<a.size:=by rw[g];exact(xC.1 f).1
   have e:a[t]? =some a[t]:=xI c;rw[xq,yW c,e];exact b t x _ f e
 ·intro t d
  show(args[t]?).getD .junk= .junk;rw[yg (by have d:fn.ntmps≤t:=d;omega)];rfl
theorem k0(hm:jF P){f:Nat}{fn:Func}{c:Code}{args C:List AV}{h h':aa}(J:P.funcs[f]? =some fn)(t:fn.body=some c)(K:(fn.name== "runtime.NumGoroutine")=false)(S:args.length≤fn.ntmps)
    (u:∀X:b4,X.P=P→X.N=fn.ntmps→AW X c ⟨fO args,h⟩ fun e S'=>(e= .normal∨e= .ret)∧lU P S' fn.results.toList=some C∧S'.heap=h'):am P f args h C h':=by
 refine⟨⟨fn,J,by rw[t];rfl,K⟩,fun G B w0 I0 w A H L i=>callsIn_wide.1 (callsIn_of_wp_marks (F:=FF none) (n:=0) J t trivial ?_)⟩
 let X:b4:=⟨P,B,w0,I0,fn.ntmps,hm,none,w.heap.size,[]⟩
 refine wpIn_mono (u X rfl rfl _ _ _ (kZ (hm:=hm) H L S i)) ?_;rintro e E y ⟨U,S',p,I,⟨O,s,rfl⟩,hex,z,Q,o,d⟩
 have l:∀R:Ending→World→Prop,(∀v g,Ext G w p g→HR p B w0 I0 S'.heap g→Rep p g (iG C) v→R (.returned v) g)→LeavesInM (FF none) 0 P fn E.tmps R E.defers .returning y:=fun R T=>by
  rw[o.nod];refine dP (B:=w.heap.size) (by simp) Q y d.nd d.low d.live (fun g a _=> ?_);have r:Shut B y g:=⟨a.os,a.tape,a.output,a.size,a.oth,fun b t=>a.low b (xy t H.bsz),a.cell⟩
  have q:=z.shut r;obtain⟨v,M,k⟩:=mK q (o.shut r) s;show ∃v,(results fn E.tmps).run P g= .ok v g∧R (.returned v) g;exact⟨v,M,T v g (hex.ends a) q k⟩
 rcases O with rfl|rfl
 ·obtain rfl:=I.normal
  exact l _ fun v g c1 x D=>⟨v,p,rfl,c1,x,D⟩
 ·obtain rfl:=I.ret
  exact l _ fun v g c1 x D=>⟨v,p,rfl,c1,x,D⟩
theorem Bs(hm:jF P){f:Nat}{fn:Func}{c:Code}{args:List AV}{x:AV}{h h':aa}(t:P.funcs[f]? =some fn)(k:fn.body=some c)(y:(fn.name== "runtime.NumGoroutine")=false)(I:args.length≤fn.ntmps)
    (o:∀X:b4,X.P=P→X.N=fn.ntmps→AW X c ⟨fO args,h⟩ fun e S'=>e= .panic x∧S'.heap=h'):iH P f args h x h':=by
 refine⟨⟨fn,t,by rw[k];rfl,y⟩,fun G B w0 I0 w r s z g=>callsIn_wide.1 (callsIn_of_wp_marks (F:=FF none) (n:=0) t k trivial ?_)⟩
 let X:b4:=⟨P,B,w0,I0,fn.ntmps,hm,none,w.heap.size,[]⟩
 refine wpIn_mono (o X rfl rfl _ _ _ (kZ (hm:=hm) s z I g)) ?_;rintro e u p ⟨J,S',A,C,⟨rfl,rfl⟩,hex,q,E,l,d⟩;obtain⟨v,rfl,D⟩:=C.panic;show LeavesInM (FF none) 0 P fn u.tmps _ u.defers (.panicking _) p;rw[l.nod];refine dP (B:=w.heap.size) (by simp) E p d.nd d.low d.live (fun H a _=> ?_);have i:Shut B p H:=⟨a.os,a.tape,a.output,a.size,a.oth,fun b k=>a.low b (xy k s.bsz),a.cell⟩
 exact⟨v,A,rfl,hex.ends a,q.shut i,D.shut i⟩
theorem pq{F:Fence}{n:Nat}{cs:List Frame}:∀(c:List Nat)(fr:Frame)(w:World),fr.mode≠ .run→fr.defers=gj c→c.Nodup→(∀b∈c,w.heap[b]? =some (.deferred (some [])))→∀B,(∀b∈c,B≤b)→F.fn fr.fn→F.room (cs.length+1+n)→
    ∃l,Shut B w l∧StepsIn (Machine.fenced P F) P (lone fr cs w) (lone {fr with defers:=[]} cs l)
 |[],fr,w,_,k,_,_,B,_,_,_=>⟨w,Shut.refl B w,by
  have:({fr with defers:=[]}:Frame)=fr:=by cases fr;cases k;rfl
  rw[this];exact StepsIn.refl _⟩
 |b::c,fr,w,hm,k,i,a,B,f,s,r=>by
  have t:=a b (by simp);rw[yy]at i;have h:=run_takeDeferred (P:=P) t;have z:=step_collected (P:=P) (cs:=cs) (d:={target:= .collected b,args:= #[]}) (ds:=gj c) hm k rfl h;have u:(lone fr cs w).fenced P F:=fenced_out (n:=n) s r hm k (fun g v=>by simp[Target.leads]at v)
  obtain⟨l,y,p⟩:=pq c {fr with defers:=[] ++gj c} (w.putObj b (.deferred none)) hm rfl i.2 (fun x o=>by
   have q:x≠b:=fun e=>i.1 (e▸o)
   rw[World.putObj_heap_other q];exact a x (by simp[o])) B (fun x o=>f x (by simp[o])) s r
  exact⟨l,(Shut.put t rfl rfl (f b (by simp))).trans y, .head u z p⟩
def Qj(P:Program)(g:Nat)(args:List AV)(x:Option AV)(h h':aa):Prop:=
 da P g∧∀(G:Gh)(B:Nat)(w0:World)(I0:Nat→Nat→Prop)(w:World)(a:Array Value)(u:FrameMode),HR G B w0 I0 h w→a.size=args.length→
  (∀(i:Nat)(x:AV)(u:Value),args[i]? =some x→a[i]? =some u→Rep G w x u)→
  (match x with|none=>u= .returning|some x=>∃v,u= .panicking [{v,recovered:=false}]∧Rep G w x v)→
  CallsDIn (FF none) 0 P g a u w fun e f b=>∃d c,e= .returned d∧settle f= .returning∧Ext G w c b∧HR c B w0 I0 h' b
theorem rn{r:Code}{d:Nat}(h:lK r=some d):∃id o c,r= .region id #[o] false∧o.guard=none∧o.dst=some d∧o.op= .call c∧c.callee= .builtin .recover:=by
 unfold lK at h;split at h
 ·rename_i id b
  split at h
  ·rename_i o i
   split at h
   ·rename_i k c g e a
    split at h
    ·rename_i f
     simp only[xA]at h;subst h;exact⟨id,o,c,by rw[show b= #[o]from by rw[←Array.toList_inj];exact i],g,e,a,f⟩
    ·cases h
   ·cases h
  ·cases h
 ·cases h
theorem uU{r:Code}{f:Operand}{YU:List Operand}(h:p5 r=some (f,YU)):∃id o c,r= .region id #[o] false∧o.guard=none∧o.dst=none∧o.op= .defer c∧c.callee= .value f∧c.args.toList=YU:=by
 unfold p5 at h;split at h
 ·rename_i id b
  split at h
  ·rename_i o i
   split at h
   ·rename_i c g d a
    split at h
    ·rename_i k e
     simp only[xA,xE]at h;obtain⟨rfl,rfl⟩:=h;exact⟨id,o,c,by rw[show b= #[o]from by rw[←Array.toList_inj];exact i],g,d,a,e,rfl⟩
    ·cases h
   ·cases h
  ·cases h
 ·cases h
theorem w7{fn:Func}{args:List AV}{G:Gh}{w:World}{a:Array Value}(f:a.size=args.length)(h:args.length≤fn.ntmps)(b:∀(i:Nat)(x:AV)(u:Value),args[i]? =some x→a[i]? =some u→Rep G w x u):
    FR G w fn.ntmps [] (fO args) {tmps:=a ++Array.replicate (fn.ntmps-a.size) undef,defers:=[]}:=by
 refine⟨?_,rfl, ?_, ?_⟩
 ·show(a ++Array.replicate (fn.ntmps-a.size) undef).size=fn.ntmps
  simp[f];omega
 ·intro t _
  show Rep _ _ ((args[t]?).getD .junk) ((a ++Array.replicate (fn.ntmps-a.size) undef).getD t undef);cases e:args[t]? with
  |none=>exact .junk _
  |some x=>
   have c:t<a.size:=by rw[f];exact(xC.1 e).1
   have d:a[t]? =some a[t]:=xI c;rw[xq,yW c,d];exact b t x _ e d
 ·intro t g
  show(args[t]?).getD .junk= .junk;rw[yg (by omega)];rfl
theorem jm{b:Array Oper}{o:Oper}{d:Nat}{a:Act}{cs:List Frame}{w:World}{Q:Exit→Act→List Frame→World→Prop}(k:b[0]? =some o)(l:o.guard=none)(f:o.dst=some d)(e:∀ρ:Operand→Value,(execOp ρ o).run P w= .ok .recover w)
    (g:match recoverD cs with
     |some (v,h)=>Q .normal (a.put (some d) v) h w
     |none=>Q .normal (a.put (some d) .nilIface) cs w):wpOpsSIn (FF none) 0 P b Q [0] a cs w:=by
 unfold wpOpsSIn;simp only[k];refine⟨fun _ _=>trivial, ?_⟩;have c:Region.wanted o (yielded b a.tmps)=true:=by simp[Region.wanted,l]
 rw[xf c,e,f];cases i:recoverD cs with
 |none=>rw[i]at g;exact g
 |some p=>rw[i]at g;exact g
theorem Bt(hm:jF P)(hn:dX P){ex:wZ}(hex:CA P ex){O g:Nat}{args:List AV}{x:Option AV}{h h':aa}{b2:Nat}{tk:List Nat}(t:Ft P ex O g args x h=some (h',b2,tk)):
    Qj P g args x h h'∧∀k,k∉tk→h' k=h k:=by
 unfold Ft at t;split at t
 ·cases t
 rename_i fn hf;split at t;case h_2=>cases t
 rename_i r c hb;split at t;case h_2=>cases t
 rename_i d hd;split at t;case isFalse=>cases t
 rename_i U;obtain⟨hl,hdn,hres⟩:=U;obtain⟨id,o,cc,rfl,hg,R,hop,hcal⟩:=rn hd
 have key:∃e S',ex g O fn.ntmps c ⟨aG (fO args) d (x.getD (.d .nili)),h⟩=some (e,S',b2,tk)∧(e= .normal∨e= .ret)∧S'.heap=h':=by
  split at t
  ·rename_i S' b' tk' he
   simp only[xA,xE]at t;obtain⟨rfl,rfl,rfl⟩:=t;exact⟨_,S',he, .inl rfl,rfl⟩
  ·rename_i S' b' tk' he
   simp only[xA,xE]at t;obtain⟨rfl,rfl,rfl⟩:=t;exact⟨_,S',he, .inr rfl,rfl⟩
  ·cases t
 obtain⟨e,S',he,hee,rfl⟩:=key;obtain⟨q1,q2⟩:=hex _ _ _ _ _ _ _ _ _ he;refine⟨⟨⟨fn,hf,by rw[hb];rfl,hn.1 g fn hf⟩,fun G B w0 I0 w i u hr hs T hu=> ?_⟩,q2⟩;have hfr0:=w7 hs hl T
 let X:b4:=⟨P,B,w0,I0,fn.ntmps,hm,none,w.heap.size,[]⟩
 have C:∀tm l,∃v,(results fn tm).run P l= .ok v l:=fun tm l=>by
  have hr0:fn.results= #[]:=Array.isEmpty_iff.1 hres;refine⟨.tuple #[], ?_⟩;simp[results,hr0]
 have Q:∀(v:Value)(E:FrameMode)(Y:AV),Rep G w Y v→x.getD (.d .nili)=Y→settle E= .returning→∀(f:Frame)(cs:List Frame),
     c.wpIn (FF none) 0 P (fun e a s=>∃I p A,XRep A s I e∧(I= .normal∨I= .ret)∧p.heap=S'.heap∧Ext G w A s∧e6 X A p a s) (({tmps:=i ++Array.replicate (fn.ntmps-i.size) undef,defers:=[]}:Act).put (some d) v) w:=by
  intro v E Y hv hx N f cs
  have hH:e6 X G ⟨aG (fO args) d (x.getD (.d .nili)),h⟩ (({tmps:=i ++Array.replicate (fn.ntmps-i.size) undef,defers:=[]}:Act).put (some d) v) w:=by
   refine⟨hr,[], ?_,yV,fun _ h=>(by cases h),fun _ h=>(by cases h),fun _ h=>(by cases h),xL _⟩;have:=hfr0.put (dst:=some d) (x:=Y) (v:=v) (env':=aG (fO args) d Y) (by simp only[eO];rw[xf hdn]) hv;rw[hx];exact this
  refine wpIn_mono (q1 X rfl rfl G _ w hH) ?_;rintro e W s ⟨I,p,A,xr,⟨rfl,rfl⟩,e1,hh⟩;exact⟨I,p,A,xr,hee,rfl,e1,hh⟩
 refine⟨trivial,fun f cs S y=> ?_⟩
 let b:Frame:={(default:Frame)with fn:=g,kind:= .deferred,roundOf:=none}
 have J:Frame.enter P g i .deferred=
     b.atR {tmps:=i ++Array.replicate (fn.ntmps-i.size) undef,defers:=[]} [.code (.seq (.region id #[o] false) c)]:=by
  simp[Frame.enter,Frame.atR,hf,hb,b]
 have Z:∃(E:FrameMode),settle E= .returning∧(Code.seq (.region id #[o] false) c).wpSIn (FF none) 0 P (fun e a cs' s=>cs'={f with mode:=E}::cs∧∃I p A,XRep A s I e∧(I= .normal∨I= .ret)∧p.heap=S'.heap∧Ext G w A s∧e6 X A p a s)
     {tmps:=i ++Array.replicate (fn.ntmps-i.size) undef,defers:=[]} (f::cs) w:=by
  have L:∀ρ:Operand→Value,(execOp ρ o).run P w= .ok .recover w:=fun ρ=>by
   unfold execOp;rw[hop];exact(dH cc _ o.type ρ hcal).trans rfl
  have hr1:List.range (#[o]:Array Oper).size=[0]:=rfl;cases x with
  |none=>
   obtain rfl:u= .returning:=hu;refine⟨.returning,rfl,wpSIn_seq (wpSIn_region ?_)⟩;rw[hr1];refine jm (o:=o) rfl hg R L ?_;have hnone:recoverD (f::cs)=none:=by simp[recoverD,S]
   rw[hnone];have hc0:({f with mode:= .returning}:Frame)=f:=by cases f;cases S;rfl
   rw[hc0];exact wpSIn_of_wpIn rfl (wpIn_mono (Q .nilIface .returning (.d .nili) (.d .nili) rfl rfl f cs) fun e a s hh=>⟨rfl,hh⟩)
  |some Y=>
   obtain⟨v,rfl,hv⟩:=hu;refine⟨.panicking [{v,recovered:=true}],rfl,wpSIn_seq (wpSIn_region ?_)⟩;rw[hr1];refine jm (o:=o) rfl hg R L ?_;have hsome:recoverD (f::cs)=some (v,{f with mode:= .panicking [{v,recovered:=true}]}::cs):=by simp[recoverD,S]
   rw[hsome];exact wpSIn_of_wpIn rfl (wpIn_mono (Q v (.panicking [{v,recovered:=true}]) Y hv rfl rfl f cs) fun e a s hh=>⟨rfl,hh⟩)
 obtain⟨E,N,Z⟩:=Z;obtain⟨e,W,cs',s,hlen,⟨rfl,I,p,A,xr,he',V,e1,hr2,bs,hfr,z⟩,H⟩:=Z b [] rfl rfl trivial y;rw[←J]at H
 have fin:∀fr:Frame,fr.mode= .returning→fr.defers=gj bs→fr.kind= .deferred→fr.fn=g→fr.tmps=W.tmps→
     ∃l D,Shut w.heap.size s l∧StepsIn (Machine.fenced P (FF none)) P (lone fr ({f with mode:=E}::cs) s) (lone {fr with defers:=[]} ({f with mode:=E}::cs) l)∧({fr with defers:=[]}:Frame).going P l (.returned D):=by
  intro fr h1 h2 h3 h4 h5;obtain⟨l,g1,g2⟩:=pq (P:=P) (F:=FF none) (n:=0) (cs:={f with mode:=E}::cs) bs fr s (by rw[h1];simp) h2 z.nd z.live w.heap.size z.low trivial y;obtain⟨D,hvv⟩:=C W.tmps l;exact⟨l,D,g1,g2,h1,rfl,fn,by rw[←hf,←h4],by rw[←hvv,←h5]⟩
 have K:∀l,Shut w.heap.size s l→∀D:Value,∃vv' A,Ending.returned D= .returned vv'∧settle E= .returning∧Ext G w A l∧HR A B w0 I0 S'.heap l:=fun l q D=>by
  have hsB:Shut B s l:=⟨q.os,q.tape,q.output,q.size,q.oth,fun b hb=>q.low b (xy hb hr.bsz),q.cell⟩
  exact⟨D,A,rfl,N,e1.ends q,V▸hr2.shut hsB⟩
 have M:W.defers=gj bs:=by rw[hfr.nod];exact yC _
 rcases he' with rfl|rfl
 ·obtain rfl:=xr.normal
  obtain⟨l,D,g1,g2,g3⟩:=fin {b.atR W []with mode:= .returning} rfl M rfl rfl rfl;exact⟨.returned D,E,l,_,K l g1 D,StepsIn.trans (StepsIn.trans H (.one (fenced_calm (fr:=b.atR W []) trivial (hlen▸y) rfl) (stepR_end rfl))) g2,rfl,rfl,g3⟩
 ·obtain rfl:=xr.ret
  obtain⟨todo,hs⟩:=H.1 rfl;obtain⟨l,D,g1,g2,g3⟩:=fin {b.atR W todo with mode:= .returning} rfl M rfl rfl rfl;exact⟨.returned D,E,l,_,K l g1 D,StepsIn.trans hs g2,rfl,rfl,g3⟩
def mg(P:Program)(B:Nat)(w0:World)(I0:Nat→Nat→Prop)(G:Gh)(w:World)(y:Bq)(h':aa)(e:Ending)(b:World):Prop:=
 match y with
 | .ret c=>∃v a,e= .returned v∧Ext G w a b∧HR a B w0 I0 h' b∧Rep a b (iG c) v
 | .pan x=>∃v a,e= .panicked [{v,recovered:=false}]∧Ext G w a b∧HR a B w0 I0 h' b∧Rep a b x v
theorem rq{X:b4}{fn:Func}{G0:Gh}{w0:World}(r:w0.heap.size=X.s0)(hB:X.B≤X.s0)(w:X.dl=[]){e:aB}{S':St}{S:Nat}{J:List Nat}{y:Bq}{h':aa}{N:Nat}{E:List Nat}
    (n:iY X.P fn.results.toList (some (e,S',S,J))=some (y,h',N,E)) {q:Gh} {g:World} {G:Exit} {k:Act} (C:XRep q g e G) (I:Ext G0 w0 q g) (M:e6 X q S' k g):
    bodyPostM (FF none) 0 X.P fn (mg X.P X.B X.w0 X.I0 G0 w0 y h') G k g:=by
 obtain⟨H,O,l,c⟩:=M;rw[w]at l
 have p:∀{R:Ending→World→Prop}{u:FrameMode},u≠ .run→(∀f,Shut X.s0 g f→LeavesInM (FF none) 0 X.P fn k.tmps R [] u f)→LeavesInM (FF none) 0 X.P fn k.tmps R k.defers u g:=fun Q K=>by
  rw[l.nod];exact dP (B:=X.s0) Q O g c.nd c.low c.live (fun f a _=>K f a)
 have h:∀i,lU X.P S' fn.results.toList=some i→h'=S'.heap→y= .ret i→LeavesInM (FF none) 0 X.P fn k.tmps (mg X.P X.B X.w0 X.I0 G0 w0 y h') k.defers .returning g:=by
  rintro i t rfl rfl;refine p (by simp) (fun f a=> ?_);have d:Shut X.B g f:=⟨a.os,a.tape,a.output,a.size,a.oth,fun b z=>a.low b (xy z hB),a.cell⟩
  have s:=H.shut d;obtain⟨v,D,o⟩:=mK s (l.shut d) t;show ∃v,(results fn k.tmps).run X.P f= .ok v f∧mg X.P X.B X.w0 X.I0 G0 w0 (.ret i) S'.heap (.returned v) f;exact⟨v,D,v,q,rfl,I.ends (r.symm▸a),s,o⟩
 cases e with
 |normal=>
  obtain rfl:=C.normal;simp only[iY,xB,xE]at n;obtain⟨i,F,h2,A,L,T⟩:=n;exact h i F A.symm h2.symm
 |ret=>
  obtain rfl:=C.ret;simp only[iY,xB,xE]at n;obtain⟨i,F,h2,A,L,T⟩:=n;exact h i F A.symm h2.symm
 |panic x=>
  obtain⟨v,rfl,D⟩:=C.panic;simp only[iY,xA,xE]at n;obtain⟨rfl,rfl,rfl,rfl⟩:=n;refine p (by simp) (fun f a=> ?_);have d:Shut X.B g f:=⟨a.os,a.tape,a.output,a.size,a.oth,fun b z=>a.low b (xy z hB),a.cell⟩
  exact⟨v,q,rfl,I.ends (r.symm▸a),H.shut d,D.shut d⟩
 |exit id=>simp[iY]at n
theorem pr(hm:jF P)(hn:dX P){ex:wZ}(hex:CA P ex){Q:Nat}{fn:Func}{B:Nat}{w0:World}{I0:Nat→Nat→Prop}{G0:Gh}{w00:World}(hBs:B≤w00.heap.size):∀(c:Code)(z:Nat)(S:St)(y:Bq)(h':aa)(b2:Nat)(Z:List Nat),
    tB P ex Q fn.ntmps fn.results.toList c z S=some (y,h',b2,Z)→(∀k,k∉Z→h' k=S.heap k)∧
    ∀G a w,Ext G0 w00 G w→e6 ⟨P,B,w0,I0,fn.ntmps,hm,none,w00.heap.size,[]⟩ G S a w→c.wpIn (FF none) 0 P (bodyPostM (FF none) 0 P fn (mg P B w0 I0 G0 w00 y h')) a w:=by
 intro c
 have hD:∀(c:Code)(z:Nat)(S:St)(y:Bq)(h':aa)(b2:Nat)(Z:List Nat),iY P fn.results.toList (ex Q z fn.ntmps c S)=some (y,h',b2,Z)→(∀k,k∉Z→h' k=S.heap k)∧
     ∀G a w,Ext G0 w00 G w→e6 ⟨P,B,w0,I0,fn.ntmps,hm,none,w00.heap.size,[]⟩ G S a w→c.wpIn (FF none) 0 P (bodyPostM (FF none) 0 P fn (mg P B w0 I0 G0 w00 y h')) a w:=by
  intro c z S y h' b2 Z h;cases n:ex Q z fn.ntmps c S with
  |none=>rw[n]at h;simp[iY]at h
  |some r=>
   obtain⟨e,S',b',E⟩:=r;rw[n]at h;obtain⟨q1,q2⟩:=hex _ _ _ _ _ _ _ _ _ n
   have A:h'=S'.heap∧∀k,k∉Z→k∉E:=by
    cases e with
    |normal=>simp only[iY,xB,xE]at h;obtain⟨rs,h1,h2,C,h4,Y⟩:=h;exact⟨C.symm,fun k A n=>A (by rw[←Y];exact yK _ n)⟩
    |ret=>simp only[iY,xB,xE]at h;obtain⟨rs,h1,h2,C,h4,Y⟩:=h;exact⟨C.symm,fun k A n=>A (by rw[←Y];exact yK _ n)⟩
    |panic x=>simp only[iY,xA,xE]at h;obtain⟨h2,C,h4,Y⟩:=h;exact⟨C.symm,fun k A=>Y▸A⟩
    |exit id=>simp[iY]at h
   refine⟨fun k hkk=>by rw[A.1];exact q2 k (A.2 k hkk),fun G a w e0 T=>wpIn_mono (q1 _ rfl rfl G a w T) ?_⟩;rintro ec U O ⟨e',J,G',I,⟨rfl,rfl⟩,V,L⟩;exact(rq (X:=⟨P,B,w0,I0,fn.ntmps,hm,none,w00.heap.size,[]⟩) rfl hBs rfl h I (e0.trans V) L)
 induction c with
 |seq x y _ ihy=>
  intro z S yw h' b2 Z h;simp only[tB]at h;split at h
  ·rename_i f YU hdef
   split at h;case h_2=>cases h
   rename_i g caps hf;split at h;case h_2=>cases h
   rename_i e S2 b2' E n;split at h;case h_2=>cases h
   rename_i pv R;split at h;case h_2=>cases h
   rename_i r hr;obtain⟨C,b3,tk3⟩:=r;simp only[xB,xE]at h;obtain⟨rs,hres,rfl,rfl,rfl,rfl⟩:=h;obtain⟨q1,q2⟩:=hex _ _ _ _ _ _ _ _ _ n;obtain⟨⟨hcb,d1⟩,d2⟩:=Bt hm hn hex hr
   refine⟨fun k A=>by
    simp only[xU,zG]at A;exact(d2 k A.2.1).trans (q2 k A.1),fun G a w e0 T=> ?_⟩
   obtain⟨id,o,c,rfl,hg,hdst,hop,hcal,rfl⟩:=uU hdef;obtain⟨hr0,bs,F,D⟩:=T;have hnil:a.defers=gj bs:=by rw[F.nod];exact yC _
   obtain⟨vs,hfv,hvl,hcr⟩:∃vs:Array Value,a.eval f= .func (.func g) #[] vs∧vs.size=caps.length∧∀(i:Nat)(x:AV)(u:Value),caps[i]? =some x→vs[i]? =some u→Rep G w x u:=by
    have H:=F.opd hr0.maps.glob f;rw[hf]at H;generalize a.eval f=vf at H;cases H with
    |fn _ _ vs hl T=>exact⟨vs,rfl,hl,T⟩
   let d:Deferred:={target:= .fn (.func g) vs,args:=c.args.map a.eval}
   have hrun:(execOp a.eval o).run P w= .ok (.defer d) w:=by
    unfold execOp;rw[hop];simp only[resolve,hcal,hfv];simp[go_sem,d]
   refine wpIn_seq (wpIn_region ?_);have hr1:List.range (#[o]:Array Oper).size=[0]:=rfl;rw[hr1,wpOpsIn_cons];unfold wpOpIn;have ho0:(#[o]:Array Oper)[0]? =some o:=rfl;simp only[ho0];have hwant:Region.wanted o (yielded #[o] a.tmps)=true:=by simp[Region.wanted,hg]
   rw[xf hwant];refine⟨fun _ _=>trivial, ?_⟩;rw[show(FF none).round=none from rfl,Oper.semAt_none,hrun,Oper.uponIn_defer,hdst];show y.wpIn (FF none) 0 P (bodyPostM (FF none) 0 P fn (mg P B w0 I0 G0 w00 (.ret rs) C)) {a with defers:=d::a.defers} w
   let X2:b4:=⟨P,B,w0,I0,fn.ntmps,hm,none,w.heap.size,d::gj bs⟩
   have hH2:e6 X2 G S {a with defers:=d::a.defers} w:=⟨hr0,[],⟨F.size,by show d::a.defers=gj [] ++(d::gj bs);rw[hnil];rfl,F.rep,F.out⟩,yV,fun _ h=>(by cases h),fun _ h=>(by cases h),fun _ h=>(by cases h),xL _⟩
   refine wpIn_mono (q1 X2 rfl rfl G _ w hH2) ?_;rintro ec U O ⟨e',J,G',I,⟨rfl,rfl⟩,V,hr2,bs2,hfr2,t⟩;have hsz:w00.heap.size≤w.heap.size:=e0.size
   have K:∀u:FrameMode,u≠ .run→(match pv with|none=>u= .returning|some x=>∃v,u= .panicking [{v,recovered:=false}]∧Rep G' O x v)→
       LeavesInM (FF none) 0 P fn U.tmps (mg P B w0 I0 G0 w00 (.ret rs) C) U.defers u O:=by
    intro u hu M;rw[show U.defers=gj bs2 ++(d::gj bs)from hfr2.nod];refine dP (B:=w.heap.size) hu bs2 O t.nd t.low t.live (fun w2 l hoth=> ?_);have W:Shut B O w2:=⟨l.os,l.tape,l.output,l.size,l.oth,fun b hb=>l.low b (by omega),l.cell⟩
    have hs00:Shut w00.heap.size O w2:=⟨l.os,l.tape,l.output,l.size,l.oth,fun b hb=>l.low b (by omega),l.cell⟩
    have hinv:(invoke d.target d.args).run P w2= .ok (.enter g (c.args.map a.eval ++vs)) w2:=by
     have:=db hcb (c.args.map a.eval ++vs) w2;simpa [invoke,d]using this
    refine⟨hu, .inr ⟨fun x=>(by cases x), .func g,vs,g,c.args.map a.eval ++vs,rfl,hinv,fun _ _=>trivial, ?_⟩⟩
    have hcall:=d1 G' B w0 I0 w2 (c.args.map a.eval ++vs) u (hr2.shut W) (by simp[hvl]) (fun i x v n N=>by
     have h0:Rep G w x v:=by
      rcases yR i c.args.size with hlt|hge
      ·rw[xQ (by simpa using hlt)]at n
       rw[yW (by simpa using hlt)]at N;simp only[xN,xi,xB]at n;simp only[zA,xB]at N;obtain⟨p,hp,rfl⟩:=n;obtain⟨q,hq,rfl⟩:=N;rw[hp]at hq;cases hq;exact F.opd hr0.maps.glob p
      ·rw[xV (by simpa using hge)]at n
       rw[Array.getElem?_append_right (by simpa using hge)]at N;simp only[xO,xh]at n;simp only[Array.size_map]at N;exact hcr _ x v n N
     exact(h0.mono V).shut W) (by
      cases pv with
      |none=>exact M
      |some xv=>
       obtain⟨v,h1,h2⟩:=M;exact⟨v,h1,h2.shut W⟩)
    refine hcall.mono ?_;rintro e3 u' w3 ⟨vv,G3,rfl,hset,e3,hr3⟩;show LeavesInM (FF none) 0 P fn U.tmps (mg P B w0 I0 G0 w00 (.ret rs) C) (gj bs) (settle u') w3;rw[hset,←yC (gj bs)];refine dP (B:=w00.heap.size) (by simp) bs w3 D.nd D.low (fun b hb=> ?_) (fun w4 s _=> ?_)
    ·have l0:=D.live b hb
     have hlt:=(xR.1 l0).1
     have l1:O.heap[b]? =some (.deferred (some [])):=by
      obtain⟨o,h1,h2⟩:=V.kept b _ rfl l0;cases h2;exact h1
     have l2:w2.heap[b]? =some (.deferred (some [])):=by
      rw[hoth b (fun n=>by have:=t.low b n;have h2:X2.s0=w.heap.size:=rfl;omega)];exact l1
     obtain⟨o,h1,h2⟩:=e3.kept b _ rfl l2;cases h2;exact h1
    ·have hsB4:Shut B w3 w4:=⟨s.os,s.tape,s.output,s.size,s.oth,fun b hb=>s.low b (by omega),s.cell⟩
     have hr4:=hr3.shut hsB4;have hfr4:=((hfr2.shut W).mono e3).shut hsB4;obtain⟨v,N,hret⟩:=mK (S:=⟨J.env,C⟩) hr4 hfr4 hres;show ∃v,(results fn U.tmps).run P w4= .ok v w4∧mg P B w0 I0 G0 w00 (.ret rs) C (.returned v) w4;exact⟨v,N,v,G3,rfl,((((e0.trans V).ends hs00).trans e3).ends s),hr4,hret⟩
   cases e' with
   |normal=>obtain rfl:=I.normal;cases R;exact K .returning (by simp) rfl
   |ret=>obtain rfl:=I.ret;cases R;exact K .returning (by simp) rfl
   |panic x=>obtain⟨v,rfl,N⟩:=I.panic;cases R;exact K _ (by simp) ⟨v,rfl,N⟩
   |exit id=>cases R
  ·split at h
   ·rename_i S1 b1 tk1 n
    split at h;case h_2=>cases h
    rename_i r hr;obtain⟨r1,r2,r3,r4⟩:=r;simp only[xA,xE]at h;obtain⟨rfl,rfl,rfl,rfl⟩:=h;obtain⟨q1,q2⟩:=hex _ _ _ _ _ _ _ _ _ n;obtain⟨p1,p2⟩:=ihy _ _ _ _ _ _ hr
    refine⟨fun k A=>by
     simp only[xU,zG]at A;exact(p1 k A.2).trans (q2 k A.1),fun G a w e0 T=>wpIn_seq (wpIn_mono (q1 _ rfl rfl G a w T) ?_)⟩
    rintro ec U O ⟨e',J,G',I,⟨rfl,rfl⟩,V,L⟩;obtain rfl:=I.normal;exact p2 G' U O (e0.trans V) L
   ·rename_i hne
    cases n:ex Q z fn.ntmps x S with
    |none=>rw[n]at h;simp[iY]at h
    |some r=>
     obtain⟨e,S',b',E⟩:=r;rw[n]at h;obtain⟨q1,q2⟩:=hex _ _ _ _ _ _ _ _ _ n
     have A:h'=S'.heap∧∀k,k∉Z→k∉E:=by
      cases e with
      |normal=>exact absurd n (hne S' b' E)
      |ret=>simp only[iY,xB,xE]at h;obtain⟨rs,h1,h2,C,h4,Y⟩:=h;exact⟨C.symm,fun k A n=>A (by rw[←Y];exact yK _ n)⟩
      |panic x=>simp only[iY,xA,xE]at h;obtain⟨h2,C,h4,Y⟩:=h;exact⟨C.symm,fun k A=>Y▸A⟩
      |exit id=>simp[iY]at h
     refine⟨fun k hkk=>by rw[A.1];exact q2 k (A.2 k hkk),fun G a w e0 T=>wpIn_seq (wpIn_mono (q1 _ rfl rfl G a w T) ?_)⟩;rintro ec U O ⟨e',J,G',I,⟨rfl,rfl⟩,V,L⟩;have fin:=(rq (X:=⟨P,B,w0,I0,fn.ntmps,hm,none,w00.heap.size,[]⟩) rfl hBs rfl h I (e0.trans V) L)
     cases e' with
     |normal=>exact absurd n (hne J b' E)
     |ret=>obtain rfl:=I.ret;exact fin
     |panic x=>obtain⟨v,rfl,N⟩:=I.panic;exact fin
     |exit id=>simp[iY]at h
 |_=>exact hD _
theorem uV(hm:jF P)(t:dX P){z:wZ}(hex:CA P z){d g:Nat}{args:List AV}{h h':aa}{y:Bq}{s:Nat}{r:List Nat}(e:uQ P z d g args h=some (y,h',s,r)):
    (match y with| .ret C=>am P g args h C h'| .pan x=>iH P g args h x h')∧∀k,k∉r→h' k=h k:=by
 unfold uQ at e;split at e
 ·cases e
 rename_i fn v;split at e
 ·cases e
 rename_i b A;split at e;case isFalse=>cases e
 rename_i D;have o:da P g:=⟨fn,v,by rw[A];rfl,t.1 g fn v⟩
 have p:∀(G:Gh)(B:Nat)(w0:World)(I0:Nat→Nat→Prop)(w:World)(a:Array Value),HR G B w0 I0 h w→a.size=args.length→
     (∀(i:Nat)(x:AV)(u:Value),args[i]? =some x→a[i]? =some u→Rep G w x u)→Calls P g a w (mg P B w0 I0 G w y h'):=fun G B w0 I0 w a l q c=>by
  refine callsIn_wide.1 (callsIn_of_wp_marks (F:=FF none) (n:=0) v A trivial ?_);exact(pr hm t hex (B:=B) (w0:=w0) (I0:=I0) (G0:=G) (w00:=w) l.bsz b d _ y h' s r e).2 G _ w (Ext.refl G w) (kZ (hm:=hm) l q D c)
 have f:=(pr hm t hex (B:=0) (w0:=default) (I0:=fun _ _=>False) (G0:=⟨fun _ _=>False,fun _ _=>none,fun _=>0,fun _ _=>none⟩) (w00:=default) (xz _) b d _ y h' s r e).1;refine⟨?_,f⟩;cases y with
 |ret C=>exact⟨o,fun G B w0 I0 w a l q c=>p G B w0 I0 w a l q c⟩
 |pan x=>exact⟨o,fun G B w0 I0 w a l q c=>p G B w0 I0 w a l q c⟩
theorem w8{g:Nat}(h:uS g=true):aH.once=some g:=by
 unfold uS at h;split at h
 ·rename_i b a;rw[a,yF h]
 ·cases h
def StepR.tk:StepR→List Nat
 | .go _ _ _ a=>a
 | .pan _ _ _ a=>a
def StepR.heap:StepR→aa
 | .go S _ _ _=>S.heap
 | .pan _ h _ _=>h
def StepR.at(h2:aa):StepR→StepR
 | .go S c b a=> .go ⟨S.env,TO a S.heap h2⟩ c b a
 | .pan x h b a=> .pan x (TO a h h2) b a
def OpsR.tk:OpsR→List Nat
 | .go _ _ _ a=>a
 | .pan _ _ _ _ _ a=>a
def OpsR.heap:OpsR→aa
 | .go S _ _ _=>S.heap
 | .pan _ _ _ h _ _=>h
def OpsR.at(h2:aa):OpsR→OpsR
 | .go S c b a=> .go ⟨S.env,TO a S.heap h2⟩ c b a
 | .pan p fts x h b a=> .pan p fts x (TO a h h2) b a
theorem w9{cfg:ic}{N:Nat}{a:Array Oper}:∀(l:List Nat)(S S':St)(ob:List Obl)(fts:List Foot),d7 P cfg N a l S=some (S',ob,fts)→∀t,(mH a).contains t=false→S'.env t=S.env t
 |[],S,S',ob,fts,h,t,_=>by
  simp only[d7,xA,xE]at h;rw[h.1]
 |i::l,S,S',ob,fts,h,t,e=>by
  simp only[d7]at h;split at h
  ·cases h
  ·rename_i o g
   split at h
   ·cases h
   ·rename_i n c
    split at h
    ·cases h
    ·rename_i k d
     simp only[xA,xE]at h;obtain⟨rfl,rfl,rfl⟩:=h;obtain⟨v,f,b,_⟩:=em c;rw[w9 l _ _ _ _ d t e,iR b (no g e)]
end
end Go.Avm
namespace Go.Avm
variable[aH]
def Mv:Option (List D)→Bool
 |some [.bool b]=>b
 |_=>false
def Mw(P:Program):Bool:=P.funcs.all fun fn=> !(fn.name== "runtime.NumGoroutine")
theorem Fv{P:Program}(h:Mw P=true)(a:uP P):dX P:=⟨fun g fn b=>by
 have:=Array.all_eq_true_iff_forall_mem.1 h fn (yv b);simpa using this,a⟩
end Go.Avm
namespace Go.Avm
open Go.ChangeShapes Go.WideShapes Go.ChangeAt Go.RowKit
variable[aH]
theorem sZ{P:Program}{f:Nat}{ds:List D}(hp:aF P f ds [.bool true]){w:World}{I:Nat→Nat→Prop}{a:Array Value}(n:Globs I w)(k:∀b o,I b o→b<w.heap.size)(p:a.size=ds.length)
    (c:∀(i:Nat)(x:D)(u:Value),ds[i]? =some x→a[i]? =some u→DRep I w x u):
    Calls P f a w fun e g=>e= .returned (.bool true)∧Below w.heap.size w g:=by
 refine(hp.2 w I a k p c n).mono ?_;rintro e g ⟨v,I',rfl,l,_,_,_,d⟩;rcases d with ⟨x,h,j⟩|⟨m,_⟩
 ·simp only[List.cons.injEq,zB]at h
  subst h;cases j;exact⟨rfl,l⟩
 ·simp at m
section
variable{H:Type}{enc:TypeId×Value→H}{P:Program}
theorem mh(k:laidOutB P=true){W g:World}(j:Below W.heap.size W g):∀{ts:List TypeId}{vs:List Value}{ds:List (DataW H)}{p:List MemPlace},(∀t∈ts,P.readableRec t=true∧t<P.types.size)→
    DataW.TrodAll enc P W 0 (fun _=>true) true ts vs ds p→(∀x∈p,x.block<W.heap.size)→DataW.TrodAll enc P g 0 (fun b=>decide (b<W.heap.size)) true ts vs ds p
 |[],vs,ds,p,_,h,_=>by
  obtain⟨rfl,rfl,rfl⟩:=trodAll_nil h;exact trodAll_mk0
 |t::ts,vs,ds,p,i,h,a=>by
  obtain⟨v,n,d,l,q,r,rfl,rfl,rfl,o,h2⟩:=trodAll_cons h;obtain⟨f,c⟩:=i t (by simp);exact trodAll_cons_mk (Below.trod k f c o j (fun x e=>a x (by simp[e]))) (mh k j (fun t m=>i t (by simp[m])) h2 (fun x e=>a x (by simp[e])))
theorem Fw{f:Func}{s:ChangeSpec}{W u:World}{args:Array Value}{ds y:List (DataW H)}{a:List MemPlace}{tb:TypeId}(z:laidOutB P=true)(r:s.vars=[])(n:s.fn H ds={results:=[.lit (.bool true)],args:=ds})
    (c:f.resultTypes.toList=[tb]) (e:P.underlying tb=some .bool) (d:∀t∈f.params.toList,P.readableRec t=true∧t<P.types.size)
    (i:DataW.Whole enc P f.params.toList s.vars false W args.toList ds y a) (o:Below W.heap.size W u):s.post enc P f false true false false W args (.bool true) u:=by
 have g:∀x∈a,x.block<W.heap.size:=fun x k=>by simpa using i.lt x k
 have l:=i;obtain⟨p,q,w,v,j,_,_⟩:=i;rw[r]at v;obtain⟨rfl,rfl⟩:=trodVars_none v;subst j;have b:s.fn H (ds ++[])={results:=[.lit (.bool true)],args:=ds}:=by rw[yC];exact n
 refine⟨ds,[],p ++[],[],p,[],l, ?_, ?_, ?_, ?_,fun h=>by cases h⟩
 ·rw[b,c]
  have m:f.resultTypes.size=1:=by rw[←xh,c];rfl
  rw[m];exact trodAll_mk1 (shut_bool e true)
 ·rw[b]
  exact mh z o d w (fun x k=>g x (by simp[k]))
 ·rw[b,r]
  rfl
 ·exact o.frame _
end
end Go.Avm
namespace Go.Avm
variable[aH]
inductive aN where
 |av (x:AV)
 |nat (n:Nat)
 |ds (l:List D)
 |code (c:Code)
 |mp (es:List (D×D×Nat))
 |ob (o:Ob)
 |hp (h:aa)
abbrev aq:=List (aN×aN)
def Alike(ps:aq):Prop:=∀p∈ps,p.1=p.2
theorem Alike.head{p:aN×aN}{ps:aq}(h:Alike (p::ps)):p.1=p.2:=h p (by simp)
theorem Alike.tail{p:aN×aN}{ps:aq}(h:Alike (p::ps)):Alike ps:=fun q a=>h q (by simp[a])
theorem Alike.left{ps b:aq}(h:Alike (ps ++b)):Alike ps:=fun q a=>h q (by simp[a])
theorem Alike.right{ps a:aq}(h:Alike (ps ++a)):Alike a:=fun q b=>h q (by simp[b])
inductive bX(P:Program) where
 |val (a b:AV) (h:a=b)
 |idx (l:List D) (i:Int) (y:D) (h0:0≤i) (h:l[i.toNat]? =some y)
 |inb (i:Int) (n:Nat) (h0:0≤i) (h:i.toNat<n)
 |elt (es:List AV) (i:Nat) (e:AV) (h:es[i]? =some e)
 |look (x:D) (es:List (D×D×Nat)) (r:Option (Nat×D)) (h:cj x es 0=some r)
 |sidx (s:List UInt8) (i:Int) (b:UInt8) (h0:0≤i) (h:s[i.toNat]? =some b)
 |sub (s:List UInt8) (a b:Nat) (h:a≤b∧b≤s.length)
 |cat (a b:List UInt8) (h:a.length+b.length≤9223372036854775807)
 |cutl (l:List D) (b:Nat) (h:b≤l.length)
 |cuts (ln b:Nat) (h:b≤ln)
 |cutr (l:List D) (a b cs:Nat) (h:a≤b∧b≤l.length∧(l.all fun y=>y.cells.length==cs)=true)
 |mk (l:Int) (h0:0≤l) (h1:l≤1099511627776)
 |app (l:List D) (n:Nat) (h:l.length+n≤549755813888)
 |apps (es:List AV) (ln n:Nat) (h:ln≤es.length∧ln+n≤549755813888)
 |appl (l news:List D) (c:Nat) (h:l.length+news.length≤549755813888∧news.all (fun y=>y.cells.length==c)=true)
 |appsl (es:List AV) (ln:Nat) (nw:List D) (cs:Nat) (h:ln≤es.length∧ln+nw.length≤549755813888∧nw.all (fun y=>y.cells.length==cs)=true∧nw.all D.one=true)
 |appc (ds:List D) (n cs:Nat) (h:ds.length=n∧ds.length≤549755813888∧ds.all (fun y=>y.cells.length==cs)=true∧ds.all D.one=true)
 |call (g:Nat) (ds rs:List D) (h:aF P g ds rs)
def tE{P:Program}(a:Option (bX P))(es:List AV)(j:Nat):Option (AV×aq):=
 match a with
 |some (.elt es' b e _)=>some (e,[(.av (.tup es), .av (.tup es')),(.nat j, .nat b)])
 |_=>(es[j]?).map fun e=>(e,[])
theorem gz{P:Program}{a:Option (bX P)}{es:List AV}{j:Nat}{r:AV×aq}(h:tE a es j=some r)(c:Alike r.2):es[j]? =some r.1:=by
 unfold tE at h;split at h
 ·rename_i es' f e b
  simp only[xA]at h;subst h;have d:=c.head;have h2:=c.tail.head;simp only[aN.av.injEq,AV.tup.injEq,aN.nat.injEq]at d h2;subst d;subst h2;exact b
 ·simp only[xB]at h
  obtain⟨e,b,rfl⟩:=h;exact b
def Fx(P:Program)(b:Option (bX P))(t:TypeId)(k v j a:Nat)(h:aa):Option (Out×aq):=
 match (h k).ob with
 |some (.arr sz es)=>
  if sz=1 then
   if a=0 then
    match lS P t with
    |some true=>if j+P.cellsOf t≤es.length then some ({val:=ig ((es.drop j).take (P.cellsOf t)),rd:=[k]},[(.nat (h k).ver, .nat v)])else none
    |some false=>(tE b es j).map fun r=>({val:=r.1,rd:=[k]},(.nat (h k).ver, .nat v)::r.2)
    |none=>none
   else none
  else match tE b es j with
   |some r=>match lS P t with
    |some true=>if a+P.cellsOf t≤sz then some ({val:=ig ((r.1.cells.drop a).take (P.cellsOf t)),rd:=[k]},(.nat (h k).ver, .nat v)::r.2)else none
    |some false=>(r.1.cells[a]?).map fun x=>({val:=x,rd:=[k]},(.nat (h k).ver, .nat v)::r.2)
    |none=>none
   |none=>none
 |_=>none
theorem Bu{P:Program}{i:Option (bX P)}{t:TypeId}{k v j l z:Nat}{h:aa}{r:Out×aq}(a:Fx P i t k v j l h=some r)(f:Alike r.2):gr P t (.ptr k v j l z) h=some r.1:=by
 unfold Fx at a;split at a
 ·rename_i sz es d
  split at a
  ·rename_i m
   split at a
   ·rename_i o
    split at a
    ·rename_i b
     split at a
     ·rename_i e
      simp only[xA]at a;subst a;have c:=f.head;simp only[aN.nat.injEq]at c;simp[gr,b,iM,d,c,m,o,e]
     ·cases a
    ·rename_i b
     simp only[xB]at a;obtain⟨q,n,rfl⟩:=a;have c:=f.head;simp only[aN.nat.injEq]at c;have g:=gz n f.tail;simp[gr,b,d,c,m,o,g]
    ·cases a
   ·cases a
  ·rename_i m
   split at a
   ·rename_i q n
    split at a
    ·rename_i b
     split at a
     ·rename_i e
      simp only[xA]at a;subst a;have c:=f.head;simp only[aN.nat.injEq]at c;have g:=gz n f.tail;simp[gr,b,iM,d,c,m,g,e]
     ·cases a
    ·rename_i b
     simp only[xB]at a;obtain⟨x,p,rfl⟩:=a;have c:=f.head;simp only[aN.nat.injEq]at c;have g:=gz n f.tail;simp[gr,b,d,c,m,g,p]
    ·cases a
   ·cases a
 ·cases a
def Bv(P:Program)(b:Option (bX P))(t:TypeId)(k v j a:Nat)(x:AV)(h:aa):Option (Out×aq):=
 match (h k).ob with
 |some (.arr sz es)=>
  if x.stor=true∧x.cells.length=P.cellsOf t∧cy P t=true then
   if sz=1 then
    if a=0 then
     (if x.one then match tE b es j with
      |some r=>some ({val:= .junk,rd:=[k],wr:=[(k,⟨v,some (.arr sz (es.set j x))⟩)]},(.nat (h k).ver, .nat v)::r.2)
      |none=>none
      else if j+x.cells.length≤es.length then some ({val:= .junk,rd:=[k],wr:=[(k,⟨v,some (.arr sz (es.take j ++x.cells ++es.drop (j+x.cells.length)))⟩)]},[(.nat (h k).ver, .nat v)])else none)
    else none
   else match tE b es j with
    |some r=>
     if a=0∧x.cells.length=sz then some ({val:= .junk,rd:=[k],wr:=[(k,⟨v,some (.arr sz (es.set j x))⟩)]},(.nat (h k).ver, .nat v)::r.2)
     else if a+x.cells.length≤sz then some ({val:= .junk,rd:=[k],wr:=[(k,⟨v,some (.arr sz (es.set j (ig (r.1.cells.take a ++x.cells ++r.1.cells.drop (a+x.cells.length)))))⟩)]},(.nat (h k).ver, .nat v)::r.2)else none
    |none=>none
  else none
 |_=>none
theorem za{P:Program}{n:Option (bX P)}{t:TypeId}{k v j o z:Nat}{x:AV}{h:aa}{r:Out×aq}(a:Bv P n t k v j o x h=some r)(i:Alike r.2):ey P t (.ptr k v j o z) x h=some r.1:=by
 unfold Bv at a;split at a
 ·rename_i sz es f
  split at a
  ·rename_i y
   obtain⟨c1,g,s⟩:=y;split at a
   ·rename_i m
    split at a
    ·rename_i w
     split at a
     ·rename_i d
      split at a
      ·rename_i q p
       simp only[xA]at a;subst a;have b:=i.head;simp only[aN.nat.injEq]at b;have l:=gz p i.tail;have u:j<es.length:=(xC.1 l).1;simp[ey,f,b,c1,g,s,m,w,d,u]
      ·cases a
     ·rename_i d
      split at a
      ·rename_i e
       simp only[xA]at a;subst a;have b:=i.head;simp only[aN.nat.injEq]at b;rw[g]at e;simp[ey,f,b,c1,g,s,m,w,d,e]
      ·cases a
    ·cases a
   ·rename_i m
    split at a
    ·rename_i q p
     split at a
     ·rename_i c
      simp only[xA]at a;subst a;have b:=i.head;simp only[aN.nat.injEq]at b;have l:=gz p i.tail;rw[g]at c;simp[ey,f,b,c1,g,s,m,l,c]
     ·rename_i c
      split at a
      ·rename_i e
       simp only[xA]at a;subst a;have b:=i.head;simp only[aN.nat.injEq]at b;have l:=gz p i.tail;rw[g]at c e;simp only[ey,f,b,c1,g,s,m,l];simp[c,e]
      ·cases a
    ·cases a
  ·cases a
 ·cases a
theorem fC(P:Program)(t:TypeId):sK P t t=true:=by simp[sK]
theorem cz{P:Program}{a:Bool}{t:TypeId}{s x:AV}{k:Nat}{h:aa}(b:my P t=false):dq P a t s x k h=bW P a t s x k h:=by
 unfold dq;cases bW P a t s x k h with
 |none=>rfl
 |some o=>simp[b]
def Mx(P:Program)(c:Call)(ρ:Operand→AV)(h:aa)(l:List D)(n:Nat):Option (Out×aq):=
 match c.callee,c.args.toList,c.argTypes.toList with
 | .builtin .append,[s,x],[t,b]=>
  if t=b∧my P t=false then match P.underlying t with
   |some (.slice e)=>match ij h (ρ x),df P e,ρ s with
    |some (news,a),some z, .vec k v sz l'=>
     if news.all (fun y=>y.cells.length==P.cellsOf e)=true∧0<P.cellsOf e∧P.bytesOf e≤256∧z.cells.size=P.cellsOf e then
      if (h k).ob.isNone=true∧k∉a∧sz=P.cellsOf e then
       some ({val:= .vec k (v+1) sz (l' ++news),rd:=k::a,wr:=[(k,⟨v+1,none⟩)]},[(.nat (h k).ver, .nat v),(.ds l', .ds l),(.nat news.length, .nat n)])
      else none
     else none
    |_,_,_=>none
   |_=>none
  else none
 |_,_,_=>none
theorem D5{P:Program}{cfg:ic}{i:Nat}{c:Call}{ρ:Operand→AV}{h:aa}{l:List D}{n k:Nat}{r:Out×aq}(a:Mx P c ρ h l n=some r)(m:Alike r.2)(A:l.length+n≤549755813888):br P cfg i c ρ h k=some r.1:=by
 unfold Mx at a;split at a;case h_2=>cases a
 rename_i s x t F g b o;split at a;case isFalse=>cases a
 rename_i d;obtain⟨d,p⟩:=d;subst d;split at a;case h_2=>cases a
 rename_i e E;split at a;case h_2=>cases a
 rename_i news H z G v sz l' j B C;split at a;case isFalse=>cases a
 rename_i y;split at a;case isFalse=>cases a
 rename_i f;simp only[xA]at a;subst a;have u:=m.head;have q:=m.tail.head;have w:=m.tail.tail.head;simp only[aN.nat.injEq,aN.ds.injEq]at u q w;subst q;subst w;simp only[br,g,b,o,fC,cz p,bW,E,j,B,C,yS];rw[xf y,xf ⟨u,f.1,f.2.1,f.2.2,A⟩]
def Fy(P:Program)(c:Call)(ρ:Operand→AV)(h:aa)(l b:List D)(cs:Nat):Option (Out×aq):=
 match c.callee,c.args.toList,c.argTypes.toList with
 | .builtin .append,[s,x],[t,d]=>
  if t=d∧my P t=false then match P.underlying t with
   |some (.slice e)=>match ij h (ρ x),df P e,ρ s with
    |some (news,a),some z, .vec k v sz l'=>
     if 0<P.cellsOf e∧P.bytesOf e≤256∧z.cells.size=P.cellsOf e then
      if (h k).ob.isNone=true∧k∉a∧sz=P.cellsOf e then
       some ({val:= .vec k (v+1) sz (l' ++b),rd:=k::a,wr:=[(k,⟨v+1,none⟩)]},[(.nat (h k).ver, .nat v),(.ds l', .ds l),(.ds news, .ds b),(.nat (P.cellsOf e), .nat cs)])
      else none
     else none
    |_,_,_=>none
   |_=>none
  else none
 |_,_,_=>none
theorem Bw{P:Program}{cfg:ic}{i:Nat}{c:Call}{ρ:Operand→AV}{h:aa}{l o:List D}{cs k:Nat}{r:Out×aq}(a:Fy P c ρ h l o cs=some r)(n:Alike r.2)(w:l.length+o.length≤549755813888∧o.all (fun y=>y.cells.length==cs)=true):br P cfg i c ρ h k=some r.1:=by
 unfold Fy at a;split at a;case h_2=>cases a
 rename_i s x t I g b p;split at a;case isFalse=>cases a
 rename_i d;obtain⟨d,q⟩:=d;subst d;split at a;case h_2=>cases a
 rename_i e H;split at a;case h_2=>cases a
 rename_i news K z J v sz l' m F G;split at a;case isFalse=>cases a
 rename_i E;split at a;case isFalse=>cases a
 rename_i f;simp only[xA]at a;subst a;have B:=n.head;have A:=n.tail.head;have C:=n.tail.tail.head;have u:=n.tail.tail.tail.head;simp only[aN.nat.injEq,aN.ds.injEq]at B A C u;subst A;subst C;have j:news.all (fun y=>y.cells.length==P.cellsOf e)=true:=by rw[u];exact w.2
 simp only[br,g,b,p,fC,cz q,bW,H,m,F,G,yS];rw[xf ⟨j,E⟩,xf ⟨B,f.1,f.2.1,f.2.2,w.1⟩]
def My(P:Program)(c:Call)(ρ:Operand→AV)(h:aa)(es:List AV)(f n:Nat):Option (Out×aq):=
 match c.callee,c.args.toList,c.argTypes.toList with
 | .builtin .append,[s,x],[t,i]=>
  if t=i∧my P t=false then match P.underlying t with
   |some (.slice e)=>match ij h (ρ x),df P e,ρ s with
    |some (news,g),some z, .sl k v b a _=>match (h k).ob with
     |some (.arr sz es')=>
      if news.all (fun y=>y.cells.length==P.cellsOf e)=true∧0<P.cellsOf e∧P.bytesOf e≤256∧z.cells.size=P.cellsOf e then
       if b=0∧sz=P.cellsOf e∧(sz=1→news.all D.one=true)then
        some ({val:= .sl k (v+1) 0 (a+news.length) sz,rd:=k::g,wr:=[(k,⟨v+1,some (.arr sz (es'.take a ++news.map .d))⟩)]},[(.nat (h k).ver, .nat v),(.av (.tup es'), .av (.tup es)),(.nat a, .nat f),(.nat news.length, .nat n)])
       else none
      else none
     |_=>none
    |_,_,_=>none
   |_=>none
  else none
 |_,_,_=>none
theorem D6{P:Program}{cfg:ic}{i:Nat}{c:Call}{ρ:Operand→AV}{h:aa}{es:List AV}{p n k:Nat}{r:Out×aq}(a:My P c ρ h es p n=some r)(l:Alike r.2)(w:p≤es.length∧p+n≤549755813888):br P cfg i c ρ h k=some r.1:=by
 unfold My at a;split at a;case h_2=>cases a
 rename_i s x t I g b m;split at a;case isFalse=>cases a
 rename_i d;obtain⟨d,q⟩:=d;subst d;split at a;case h_2=>cases a
 rename_i e F;split at a;case h_2=>cases a
 rename_i news L z J v G H K j D E;split at a;case h_2=>cases a
 rename_i sz es' o;split at a;case isFalse=>cases a
 rename_i C;split at a;case isFalse=>cases a
 rename_i f;simp only[xA]at a;subst a;have A:=l.head;have y:=l.tail.head;have B:=l.tail.tail.head;have u:=l.tail.tail.tail.head;simp only[aN.nat.injEq,aN.av.injEq,AV.tup.injEq]at A y B u;subst y;subst B;subst u;simp only[br,g,b,m,fC,cz q,bW,F,j,D,E,yS,o];rw[xf C,xf ⟨A,f.1,w.1,f.2.1,w.2,f.2.2⟩]
def Mz(P:Program)(c:Call)(ρ:Operand→AV)(h:aa)(es:List AV)(j n:Nat):Option (Out×aq):=
 match c.callee,c.args.toList,c.argTypes.toList with
 | .builtin .append,[s,x],[t,q]=>
  if t=q then match P.underlying t with
   |some (.slice e)=>match df P e,ρ s,ρ x with
    |some z, .sl k v f a _, .sl i p d b _=>match (h k).ob,(h i).ob with
     |some (.arr sz es'),some (.arr g [.sl o va m la l])=>
      if f=0∧sz=1∧d=0∧b=1∧g=1∧P.cellsOf e=1∧P.bytesOf e≤256∧z.cells.size=1 then
       some ({val:= .sl k (v+1) 0 (a+1) 1,rd:=[k,i],wr:=[(k,⟨v+1,some (.arr 1 (es'.take a ++[.sl o va m la l]))⟩)]},[(.nat (h k).ver, .nat v),(.av (.tup es'), .av (.tup es)),(.nat a, .nat j),(.nat 1, .nat n),(.nat (h i).ver, .nat p)])
      else none
     |_,_=>none
    |_,_,_=>none
   |_=>none
  else none
 |_,_,_=>none
theorem D7{P:Program}{cfg:ic}{i:Nat}{c:Call}{ρ:Operand→AV}{h:aa}{es:List AV}{u n k:Nat}{r:Out×aq}(a:Mz P c ρ h es u n=some r)(f:Alike r.2)(A:u≤es.length∧u+n≤549755813888):br P cfg i c ρ h k=some r.1:=by
 unfold Mz at a;split at a;case h_2=>cases a
 rename_i s x t R g d m;split at a;case isFalse=>cases a
 rename_i p;subst p;split at a;case h_2=>cases a
 rename_i e K;split at a;case h_2=>cases a
 rename_i z V v L N S T U F y X H J I;split at a;case h_2=>cases a
 rename_i sz es' M Q va O la W o b;split at a;case isFalse=>cases a
 rename_i G;obtain⟨rfl,rfl,rfl,rfl,rfl,l,q,j⟩:=G;simp only[xA]at a;subst a;have B:=f.head;have C:=f.tail.head;have E:=f.tail.tail.head;have w:=f.tail.tail.tail.head;have D:=f.tail.tail.tail.tail.head;simp only[aN.nat.injEq,aN.av.injEq,AV.tup.injEq]at B C E w D;subst C;subst E;subst w;simp only[br,g,d,m,fC,yS,J,I];rw[kJ b];simp only[fu,K,H,o,b];rw[xf ⟨B,trivial,A.1,trivial,D,trivial,trivial,trivial,l,q,j,A.2⟩]
def Fz(P:Program)(c:Call)(ρ:Operand→AV)(h:aa)(es:List AV)(g:Nat)(f:List D)(cs:Nat):Option (Out×aq):=
 match c.callee,c.args.toList,c.argTypes.toList with
 | .builtin .append,[s,x],[t,j]=>
  if t=j∧my P t=false then match P.underlying t with
   |some (.slice e)=>match ij h (ρ x),df P e,ρ s with
    |some (news,i),some z, .sl k v b a _=>match (h k).ob with
     |some (.arr sz es')=>
      if 0<P.cellsOf e∧P.bytesOf e≤256∧z.cells.size=P.cellsOf e then
       if b=0∧sz=P.cellsOf e then
        some ({val:= .sl k (v+1) 0 (a+f.length) sz,rd:=k::i,wr:=[(k,⟨v+1,some (.arr sz (es'.take a ++f.map .d))⟩)]},[(.nat (h k).ver, .nat v),(.av (.tup es'), .av (.tup es)),(.nat a, .nat g),(.ds news, .ds f),(.nat (P.cellsOf e), .nat cs)])
       else none
      else none
     |_=>none
    |_,_,_=>none
   |_=>none
  else none
 |_,_,_=>none
theorem Bx{P:Program}{cfg:ic}{i:Nat}{c:Call}{ρ:Operand→AV}{h:aa}{es:List AV}{q cs k:Nat}{n:List D}{r:Out×aq}(a:Fz P c ρ h es q n cs=some r)(f:Alike r.2)(m:q≤es.length∧q+n.length≤549755813888∧n.all (fun y=>y.cells.length==cs)=true∧n.all D.one=true):br P cfg i c ρ h k=some r.1:=by
 unfold Fz at a;split at a;case h_2=>cases a
 rename_i s x t L g b o;split at a;case isFalse=>cases a
 rename_i d;obtain⟨d,u⟩:=d;subst d;split at a;case h_2=>cases a
 rename_i e I;split at a;case h_2=>cases a
 rename_i news O z M v J K N j G H;split at a;case h_2=>cases a
 rename_i sz es' p;split at a;case isFalse=>cases a
 rename_i F;split at a;case isFalse=>cases a
 rename_i l;simp only[xA]at a;subst a;have B:=f.head;have A:=f.tail.head;have E:=f.tail.tail.head;have w:=f.tail.tail.tail.head;have C:=f.tail.tail.tail.tail.head;simp only[aN.nat.injEq,aN.av.injEq,AV.tup.injEq,aN.ds.injEq]at B A E w C;subst A;subst E;subst w;simp only[br,g,b,o,fC,cz u,bW,I,j,G,H,yS,p];rw[xf ⟨by rw[C];exact m.2.2.1,F⟩,xf ⟨B,l.1,m.1,l.2,m.2.1,fun _=>m.2.2.2⟩]
def MA(P:Program)(cfg:ic)(i:Nat)(c:Call)(ρ:Operand→AV)(h:aa)(ds:List D)(n cs k:Nat):Option (Out×aq):=
 match c.callee,c.args.toList,c.argTypes.toList with
 | .builtin .append,[s,x],[t,p]=>
  if t=p∧my P t=false then match P.underlying t with
   |some (.slice e)=>match ρ x,df P e with
    | .sl b v' o g _,some z=>match (h b).ob with
     |some (.arr _ es')=>
      if 0<P.cellsOf e∧P.bytesOf e≤256∧z.cells.size=P.cellsOf e∧o=0 then
       match ρ s with
       | .es=>
        if k≠b then
         some (if cfg.obm i then {val:= .sl k ((h k).ver+1) 0 n (P.cellsOf e),rd:=[k,b],wr:=[newOb h k (P.cellsOf e) (ds.map .d)]}else {val:= .d (.ro ds),rd:=[b]},[(.nat (h b).ver, .nat v'),(.av (.tup es'), .av (.tup (ds.map .d))),(.nat g, .nat n),(.nat (P.cellsOf e), .nat cs)])
        else none
       | .vec a f sz []=>
        if (h a).ob.isNone=true∧a≠b∧sz=P.cellsOf e then
         some ({val:= .vec a (f+1) sz ([] ++ds),rd:=[a,b],wr:=[(a,⟨f+1,none⟩)]},[(.nat (h b).ver, .nat v'),(.av (.tup es'), .av (.tup (ds.map .d))),(.nat g, .nat n),(.nat (P.cellsOf e), .nat cs),(.nat (h a).ver, .nat f)])
        else none
       | .sl a f j l _=>match (h a).ob with
        |some (.arr sz m)=>
         if j=0∧l=0∧sz=P.cellsOf e then
          some ({val:= .sl a (f+1) 0 n sz,rd:=[a,b],wr:=[(a,⟨f+1,some (.arr sz (m.take 0 ++ds.map .d))⟩)]},[(.nat (h b).ver, .nat v'),(.av (.tup es'), .av (.tup (ds.map .d))),(.nat g, .nat n),(.nat (P.cellsOf e), .nat cs),(.nat (h a).ver, .nat f)])
         else none
        |_=>none
       |_=>none
      else none
     |_=>none
    |_,_=>none
   |_=>none
  else none
 |_,_,_=>none
theorem CB(n:Nat)(h:aa):∀ds:List D,view.go (n+1) h (ds.map .d)=some (ds,[])
 |[]=>rfl
 |d::r=>by
  have:=CB n h r;simp only[xH,view.go,ej,view]at this ⊢;rw[this];rfl
theorem D8{P:Program}{cfg:ic}{i:Nat}{c:Call}{ρ:Operand→AV}{h:aa}{n cs k:Nat}{ds:List D}{r:Out×aq}(a:MA P cfg i c ρ h ds n cs k=some r)(l:Alike r.2)(hN:ds.length=n∧ds.length≤549755813888∧ds.all (fun y=>y.cells.length==cs)=true∧ds.all D.one=true):br P cfg i c ρ h k=some r.1:=by
 obtain⟨B,G⟩:=hN;unfold MA at a;split at a;case h_2=>cases a
 rename_i s x t t' o j A;split at a;case isFalse=>cases a
 rename_i C;obtain⟨C,F⟩:=C;subst C;split at a;case h_2=>cases a
 rename_i e S;split at a;case h_2=>cases a
 rename_i T v' off U sz z hx M;split at a;case h_2=>cases a
 rename_i sz2 es' R;split at a;case isFalse=>cases a
 rename_i X;obtain⟨w,E,v,rfl⟩:=X
 have src:∀(m:(h T).ver=v')(p:es'=ds.map .d)(q:U=n),ij h (ρ x)=some (ds,[T]):=by
  rintro m rfl rfl;subst B;rw[hx];simp only[ij,R];rw[xf ⟨m,by simp⟩,xn,←(show(ds.map AV.d).length=ds.length from xO ..),List.take_length,CB];rfl
 split at a
 ·rename_i K
  split at a;case isFalse=>cases a
  rename_i g;simp only[xA]at a;subst a;have m:=l.head;have p:=l.tail.head;have q:=l.tail.tail.head;have u:=l.tail.tail.tail.head;simp only[aN.nat.injEq,aN.av.injEq,AV.tup.injEq]at m p q u;have f:=src m p q;have b:ds.all (fun y=>y.cells.length==P.cellsOf e)=true:=by rw[u];exact G.2.1
  have N:¬(k∈[T]∨549755813888<ds.length):=by
   rintro(H|H)
   ·exact g (by simpa using H)
   ·omega
  have J:¬(P.cellsOf e=1∧ds.all D.one=false):=fun H=>by rw[G.2.2]at H;exact absurd H.2 (by simp)
  simp only[br,o,j,A,fC,cz F,bW,S,f,M,K,yS];rw[xf ⟨b,w,E,v⟩,xo N];rw[←B];cases cfg.obm i with
  |true=>simp only[yS];rw[xo J]
  |false=>simp
 ·rename_i Y v1 O K
  split at a;case isFalse=>cases a
  rename_i g;simp only[xA]at a;subst a;have m:=l.head;have p:=l.tail.head;have q:=l.tail.tail.head;have u:=l.tail.tail.tail.head;have I:=l.tail.tail.tail.tail.head;simp only[aN.nat.injEq,aN.av.injEq,AV.tup.injEq]at m p q u I;have f:=src m p q;have b:ds.all (fun y=>y.cells.length==P.cellsOf e)=true:=by rw[u];exact G.2.1
  simp only[br,o,j,A,fC,cz F,bW,S,f,M,K,yS];rw[xf ⟨b,w,E,v⟩,xf ⟨I,g.1,by simpa using g.2.1,g.2.2,by simpa using G.1⟩]
 ·rename_i Y v1 W V O K
  split at a;case h_2=>cases a
  rename_i Z es1 L;split at a;case isFalse=>cases a
  rename_i g;simp only[xA]at a;subst a;obtain⟨rfl,rfl,Q⟩:=g;have m:=l.head;have p:=l.tail.head;have q:=l.tail.tail.head;have u:=l.tail.tail.tail.head;have I:=l.tail.tail.tail.tail.head;simp only[aN.nat.injEq,aN.av.injEq,AV.tup.injEq]at m p q u I;have f:=src m p q;have b:ds.all (fun y=>y.cells.length==P.cellsOf e)=true:=by rw[u];exact G.2.1
  simp only[br,o,j,A,fC,cz F,bW,S,f,M,K,yS,L];rw[xf ⟨b,w,E,v⟩,xf ⟨I,trivial,xz _,Q,by omega,fun _=>G.2.2⟩,←B,x8]
 ·cases a
def MB(P:Program)(c:Call)(ρ:Operand→AV)(h:aa):Option (Out×aq):=
 match c.callee,c.args.toList,c.argTypes.toList with
 | .builtin .len,[x],[t]=>match ρ x with
  | .mp k v=>match P.underlying t with
   |some (.map _ _)=>match (h k).ob with
    |some (.map es _)=>some ({val:= .d (.int .i64 (es.length:Int)),rd:=[k]},[(.nat (h k).ver, .nat v)])
    |_=>none
   |_=>none
  |_=>none
 |_,_,_=>none
theorem D9{P:Program}{cfg:ic}{i:Nat}{c:Call}{ρ:Operand→AV}{h:aa}{k:Nat}{r:Out×aq}(d:MB P c ρ h=some r)(p:Alike r.2):br P cfg i c ρ h k=some r.1:=by
 unfold MB at d;split at d;case h_2=>cases d
 rename_i x t f e g;split at d;case h_2=>cases d
 rename_i q v m;split at d;case h_2=>cases d
 rename_i a b o;split at d;case h_2=>cases d
 rename_i es n j;simp only[xA]at d;subst d;have l:=p.head;simp only[aN.nat.injEq]at l;simp only[br,f,e,g,m,fM,o,j];rw[xf l]
def Qk:AV→Option (List D)
 | .d (.ro l)| .vec _ _ _ l=>some l
 |_=>none
def CC(P:Program)(f:Option (bX P))(cfg:ic)(i:Nat)(o:Oper)(ρ:Operand→AV)(h:aa):Option (Out×aq):=
 match o.op with
 | .load t a=>match ρ a with
  | .ptr k v j g _=>Fx P f t k v j g h
  |_=>(b6 P cfg i o ρ h).map fun r=>(r,[])
 | .store t a x=>match ρ a with
  | .ptr k v j g _=>Bv P f t k v j g (ρ x) h
  |_=>(b6 P cfg i o ρ h).map fun r=>(r,[])
 | .indexAddr t x C=>match f with
  |some (.idx l i y _ _)=>match P.underlying t,ρ C,Qk (ρ x)with
   |some (.slice e), .d (.int _ A),some l'=>if y.cells.length=P.cellsOf e∧cy P e=true then some ({val:= .d (.rp y.cells)},[(.ds l', .ds l),(.av (.d (.int .i64 A)), .av (.d (.int .i64 i)))])else none
   |_,_,_=>none
  |some (.inb i n _ _)=>match P.underlying t,ρ C,ρ x with
   |some (.slice e), .d (.int _ A), .sl k v g w sz=>if sz=P.cellsOf e∧cy P e=true then some ({val:= .ptr k v (g+A.toNat) 0 sz},[(.av (.d (.int .i64 A)), .av (.d (.int .i64 i))),(.nat w, .nat n)])else none
   |some (.array K e), .d (.int _ A), .ptr k v j g sz=>if sz=1∧g=0∧cy P e=true then some ({val:= .ptr k v (j+A.toNat*P.cellsOf e) 0 sz},[(.av (.d (.int .i64 A)), .av (.d (.int .i64 i))),(.nat K, .nat n)])else none
   |_,_,_=>none
  |_=>(b6 P cfg i o ρ h).map fun r=>(r,[])
 | .call c=>match f with
  |some (.app l n _)=>Mx P c ρ h l n
  |some (.apps es F n _)=>match Mz P c ρ h es F n with
   |some r=>some r
   |none=>My P c ρ h es F n
  |some (.appl l J cs _)=>Fy P c ρ h l J cs
  |some (.appsl es F J cs _)=>Fz P c ρ h es F J cs
  |some (.appc ds n cs _)=>MA P cfg i c ρ h ds n cs (cfg.base i+o.dst.getD 0)
  |_=>match MB P c ρ h with
   |some r=>some r
   |none=>(b6 P cfg i o ρ h).map fun r=>(r,[])
 | .lookup t m q ok=>match f with
  |some (.look x es r _)=>match P.underlying t,ρ m,ρ q with
   |some (.map kt et), .mp k v, .d kd=>match (h k).ob with
    |some (.map es' _)=>
     if jh P kt kd=true then
      match r with
      |some (_,y)=>some ({val:=if ok=true then .tup [.d y, .d (.bool true)]else .d y,rd:=[k]},[(.nat (h k).ver, .nat v),(.mp es', .mp es),(.ds [kd], .ds [x])])
      |none=>match df P et with
       |some z=>some ({val:=if ok=true then .tup [I1 z, .d (.bool false)]else I1 z,rd:=[k]},[(.nat (h k).ver, .nat v),(.mp es', .mp es),(.ds [kd], .ds [x])])
       |none=>none
     else none
    |_=>none
   |_,_,_=>none
  |_=>(b6 P cfg i o ρ h).map fun r=>(r,[])
 | .mapUpdate t m q x=>match f with
  |some (.look D p none _)=>match P.underlying t,ρ m,ρ q,ρ x with
   |some (.map kt _), .mp k v, .d kd, .d E=>match (h k).ob with
    |some (.map es' c)=>
     if jh P kt kd=true then some ({val:= .junk,rd:=[k],wr:=[(k,⟨v,some (.map (es' ++[(kd,E,c)]) (c+1))⟩)]},[(.nat (h k).ver, .nat v),(.mp es', .mp p),(.ds [kd], .ds [D])])
     else none
    |_=>none
   |_,_,_,_=>none
  |some (.look D p (some (C,_)) _)=>match P.underlying t,ρ m,ρ q,ρ x with
   |some (.map kt _), .mp k v, .d kd, .d E=>match (h k).ob with
    |some (.map es' c)=>
     if jh P kt kd=true then some ({val:= .junk,rd:=[k],wr:=[(k,⟨v,some (.map (ek kd E C es') c)⟩)]},[(.nat (h k).ver, .nat v),(.mp es', .mp p),(.ds [kd], .ds [D])])
     else none
    |_=>none
   |_,_,_,_=>none
  |_=>(b6 P cfg i o ρ h).map fun r=>(r,[])
 | .insert t m q x=>match f with
  |some (.look D p none _)=>match P.underlying t,ρ m,ρ q,ρ x with
   |some (.map kt _), .mp k v, .d kd, .d E=>match (h k).ob with
    |some (.map es' c)=>
     if jh P kt kd=true then some ({val:= .junk,rd:=[k],wr:=[(k,⟨v,some (.map (es' ++[(kd,E,c)]) (c+1))⟩)]},[(.nat (h k).ver, .nat v),(.mp es', .mp p),(.ds [kd], .ds [D])])
     else none
    |_=>none
   |_,_,_,_=>none
  |some (.look D p (some (C,_)) _)=>match P.underlying t,ρ m,ρ q,ρ x with
   |some (.map kt _), .mp k v, .d kd, .d E=>match (h k).ob with
    |some (.map es' c)=>
     if jh P kt kd=true then some ({val:= .junk,rd:=[k],wr:=[(k,⟨v,some (.map (ek kd E C es') c)⟩)]},[(.nat (h k).ver, .nat v),(.mp es', .mp p),(.ds [kd], .ds [D])])
     else none
    |_=>none
   |_,_,_,_=>none
  |_=>(b6 P cfg i o ρ h).map fun r=>(r,[])
 | .index t x C=>match f with
  |some (.sidx s i b _ _)=>match P.underlying t,ρ x,ρ C with
   |some .string, .d (.str G), .d (.int _ A)=>some ({val:= .d (.int .u8 (b.toNat:Int))},[(.av (.d (.str G)), .av (.d (.str s))),(.av (.d (.int .i64 A)), .av (.d (.int .i64 i)))])
   |_,_,_=>none
  |_=>(b6 P cfg i o ρ h).map fun r=>(r,[])
 | .slice t x I H L=>match f,L with
  |some (.sub s a b _),none=>match P.underlying t,ρ x,dF (I.map ρ) 0 with
   |some .string, .d (.str G),some B=>match dF (H.map ρ) G.length with
    |some u=>some ({val:= .d (.str ((G.take u).drop B))},[(.av (.d (.str G)), .av (.d (.str s))),(.nat B, .nat a),(.nat u, .nat b)])
    |none=>none
   |_,_,_=>none
  |some (.cutl l b _),none=>match P.underlying t,ρ x,dF (I.map ρ) 0 with
   |some (.slice e), .d (.ro l'),some 0=>if cy P e=false then none else match dF (H.map ρ) l'.length with
    |some u=>some ({val:= .d (.ro ((l'.take u).drop 0))},[(.ds l', .ds l),(.nat u, .nat b)])
    |none=>none
   |_,_,_=>none
  |some (.cutr l a b cs _),none=>match P.underlying t,ρ x,dF (I.map ρ) 0 with
   |some (.slice e), .d (.ro l'),some B=>if cy P e=false then none else match dF (H.map ρ) l'.length with
    |some u=>some ({val:= .d (.ro ((l'.take u).drop B))},[(.ds l', .ds l),(.nat B, .nat a),(.nat u, .nat b),(.nat (P.cellsOf e), .nat cs)])
    |none=>none
   |_,_,_=>none
  |some (.cuts F b _),none=>match P.underlying t,ρ x,dF (I.map ρ) 0 with
   |some (.slice e), .sl k v g w sz,some 0=>if cy P e=false then none else match dF (H.map ρ) w with
    |some u=>some ({val:= .sl k v g u sz},[(.nat w, .nat F),(.nat u, .nat b)])
    |none=>none
   |_,_,_=>none
  |_,_=>(b6 P cfg i o ρ h).map fun r=>(r,[])
 | .binOp .add t x y _=>match f with
  |some (.cat a b _)=>match ρ x,ρ y with
   | .d (.str B), .d (.str u)=>some ({val:= .d (.str (B ++u))},[(.av (.d (.str B)), .av (.d (.str a))),(.av (.d (.str u)), .av (.d (.str b)))])
   |_,_=>none
  |_=>(b6 P cfg i o ρ h).map fun r=>(r,[])
 | .makeSlice t l c=>match f with
  |some (.mk n _ _)=>match P.underlying t,ρ l,ρ c with
   |some (.slice e), .d (.int .i64 l'), .d (.int .i64 c')=>match uz P e with
    |some z=>
     if P.bytesOf e≤256∧z.cells.length=P.cellsOf e∧0<P.cellsOf e∧(P.cellsOf e=1→z.lone=true)then
      some ({val:= .sl (cfg.base i+o.dst.getD 0) ((h (cfg.base i+o.dst.getD 0)).ver+1) 0 l'.toNat (P.cellsOf e),rd:=[cfg.base i+o.dst.getD 0],wr:=[newOb h (cfg.base i+o.dst.getD 0) (P.cellsOf e) (List.replicate l'.toNat z)]},[(.av (.d (.int .i64 l')), .av (.d (.int .i64 n))),(.av (.d (.int .i64 c')), .av (.d (.int .i64 n)))])
     else none
    |none=>none
   |_,_,_=>none
  |_=>(b6 P cfg i o ρ h).map fun r=>(r,[])
 |_=>(b6 P cfg i o ρ h).map fun r=>(r,[])
theorem rt{P:Program}{X:Option (bX P)}{cfg:ic}{i:Nat}{o:Oper}{ρ:Operand→AV}{h:aa}{r:Out×aq}(f:CC P X cfg i o ρ h=some r)(p:Alike r.2):b6 P cfg i o ρ h=some r.1:=by
 have hD:(b6 P cfg i o ρ h).map (fun r=>((r,[]):Out×aq))=some r→b6 P cfg i o ρ h=some r.1:=fun hh=>by
  simp only[xB]at hh;obtain⟨q,hq,rfl⟩:=hh;exact hq
 unfold CC at f;split at f
 ·rename_i t a g
  split at f
  ·rename_i k v j S z ha
   have:=Bu (z:=z) f p;simp only[b6,g,ha,this]
  ·exact hD f
 ·rename_i t a x g
  split at f
  ·rename_i k v j S z ha
   have:=za (z:=z) f p;simp only[b6,g,ha,this]
  ·exact hD f
 ·rename_i t x ix g
  split at f
  ·rename_i l i' y T U
   split at f
   ·rename_i e kd i2 l2 A K J
    split at f
    ·rename_i L
     simp only[xA]at f;subst f;have Q:=p.head;have h2:=p.tail.head;simp only[aN.ds.injEq,aN.av.injEq,AV.d.injEq,D.int.injEq,zQ]at Q h2;subst Q;subst h2;simp only[b6,g,fq,A,K];unfold Qk at J;split at J
     ·rename_i l3 B
      simp only[xA]at J;subst J;simp only[B,T,U,yS];rw[xf L]
     ·rename_i l3 B
      simp only[xA]at J;subst J;simp only[B,T,U,yS];rw[xf L]
     ·cases J
    ·cases f
   ·cases f
  ·rename_i i' n T U
   split at f
   ·rename_i e kd i2 k v S len sz A K B
    split at f
    ·rename_i L
     simp only[xA]at f;subst f;have Q:=p.head;have h2:=p.tail.head;simp only[aN.nat.injEq,aN.av.injEq,AV.d.injEq,D.int.injEq,zQ]at Q h2;subst Q;subst h2;simp only[b6,g,fq,A,K,B];rw[xf ⟨L.1,L.2,T,U⟩]
    ·cases f
   ·rename_i n' e kd i2 k v j S sz A K B
    split at f
    ·rename_i L
     simp only[xA]at f;subst f;have Q:=p.head;have h2:=p.tail.head;simp only[aN.nat.injEq,aN.av.injEq,AV.d.injEq,D.int.injEq,zQ]at Q h2;subst Q;subst h2;simp only[b6,g,fq,A,K,B];rw[xf ⟨L.1,L.2.1,L.2.2,T,U⟩]
    ·cases f
   ·cases f
  ·exact hD f
 ·rename_i c g
  split at f
  ·rename_i l n F
   have:=D5 (cfg:=cfg) (i:=i) (k:=cfg.base i+o.dst.getD 0) f p F;simp only[b6,g,this]
  ·rename_i es ln n F
   split at f
   ·rename_i r0 hS
    simp only[xA]at f;subst f;have:=D7 (cfg:=cfg) (i:=i) (k:=cfg.base i+o.dst.getD 0) hS p F;simp only[b6,g,this]
   ·have:=D6 (cfg:=cfg) (i:=i) (k:=cfg.base i+o.dst.getD 0) f p F
    simp only[b6,g,this]
  ·rename_i l nw cs F
   have:=Bw (cfg:=cfg) (i:=i) (k:=cfg.base i+o.dst.getD 0) f p F;simp only[b6,g,this]
  ·rename_i es ln nw cs F
   have:=Bx (cfg:=cfg) (i:=i) (k:=cfg.base i+o.dst.getD 0) f p F;simp only[b6,g,this]
  ·rename_i ds n cs F
   have:=D8 (cfg:=cfg) (i:=i) (k:=cfg.base i+o.dst.getD 0) f p F;simp only[b6,g,this]
  ·split at f
   ·rename_i r' hr'
    simp only[xA]at f;subst f;have:=D9 (cfg:=cfg) (i:=i) (k:=cfg.base i+o.dst.getD 0) hr' p;simp only[b6,g,this]
   ·exact hD f
 ·rename_i t m Y ok g
  split at f
  ·rename_i x es r0 O
   split at f
   ·rename_i kt et k v kd A hm N
    split at f
    ·rename_i es' c G
     split at f
     ·rename_i E
      cases r0 with
      |some jy=>
       obtain⟨j,y⟩:=jy;simp only[xA]at f;subst f;have w:=p.head;have u:=p.tail.head;have C:=p.tail.tail.head;simp only[aN.nat.injEq,aN.mp.injEq,aN.ds.injEq,List.cons.injEq,zB]at w u C;subst u;subst C;simp only[b6,g,eY,A,hm,N,G,w,E,O,and_self,yS]
      |none=>
       simp only at f;split at f
       ·rename_i z hz
        simp only[xA]at f;subst f;have w:=p.head;have u:=p.tail.head;have C:=p.tail.tail.head;simp only[aN.nat.injEq,aN.mp.injEq,aN.ds.injEq,List.cons.injEq,zB]at w u C;subst u;subst C;simp only[b6,g,eY,A,hm,N,G,w,E,O,and_self,yS,hz]
       ·cases f
     ·cases f
    ·cases f
   ·cases f
  ·exact hD f
 ·rename_i t m Y x g
  split at f
  ·rename_i lx W O
   split at f
   ·rename_i kt et k v kd xd A hm N B
    split at f
    ·rename_i es' c G
     split at f
     ·rename_i E
      simp only[xA]at f;subst f;have w:=p.head;have u:=p.tail.head;have C:=p.tail.tail.head;simp only[aN.nat.injEq,aN.mp.injEq,aN.ds.injEq,List.cons.injEq,zB]at w u C;subst u;subst C;simp only[b6,g,ce,A,hm,N,B,G,w,E,O,and_self,yS]
     ·cases f
    ·cases f
   ·cases f
  ·rename_i lx W jx jy O
   split at f
   ·rename_i kt et k v kd xd A hm N B
    split at f
    ·rename_i es' c G
     split at f
     ·rename_i E
      simp only[xA]at f;subst f;have w:=p.head;have u:=p.tail.head;have C:=p.tail.tail.head;simp only[aN.nat.injEq,aN.mp.injEq,aN.ds.injEq,List.cons.injEq,zB]at w u C;subst u;subst C;simp only[b6,g,ce,A,hm,N,B,G,w,E,O,and_self,yS]
     ·cases f
    ·cases f
   ·cases f
  ·exact hD f
 ·rename_i t m Y x g
  split at f
  ·rename_i lx W O
   split at f
   ·rename_i kt et k v kd xd A hm N B
    split at f
    ·rename_i es' c G
     split at f
     ·rename_i E
      simp only[xA]at f;subst f;have w:=p.head;have u:=p.tail.head;have C:=p.tail.tail.head;simp only[aN.nat.injEq,aN.mp.injEq,aN.ds.injEq,List.cons.injEq,zB]at w u C;subst u;subst C;simp only[b6,g,ce,A,hm,N,B,G,w,E,O,and_self,yS]
     ·cases f
    ·cases f
   ·cases f
  ·rename_i lx W jx jy O
   split at f
   ·rename_i kt et k v kd xd A hm N B
    split at f
    ·rename_i es' c G
     split at f
     ·rename_i E
      simp only[xA]at f;subst f;have w:=p.head;have u:=p.tail.head;have C:=p.tail.tail.head;simp only[aN.nat.injEq,aN.mp.injEq,aN.ds.injEq,List.cons.injEq,zB]at w u C;subst u;subst C;simp only[b6,g,ce,A,hm,N,B,G,w,E,O,and_self,yS]
     ·cases f
    ·cases f
   ·cases f
  ·exact hD f
 ·rename_i t x ix g
  split at f
  ·rename_i s i0 b T R
   split at f
   ·rename_i s' kd i' A B K
    simp only[xA]at f;subst f;have w:=p.head;have u:=p.tail.head;simp only[aN.av.injEq,AV.d.injEq,D.str.injEq,D.int.injEq,zQ]at w u;subst w;subst u;simp only[b6,g,p0,A,B,K,T,yS,R,x5]
   ·cases f
  ·exact hD f
 ·rename_i t x lo hi mx g
  split at f
  ·rename_i s a b V
   split at f
   ·rename_i s' a' A B H
    split at f
    ·rename_i Z I
     simp only[xA]at f;subst f;have w:=p.head;have u:=p.tail.head;have C:=p.tail.tail.head;simp only[aN.av.injEq,AV.d.injEq,D.str.injEq,aN.nat.injEq]at w u C;subst w;subst u;subst C;simp only[b6,g,jH,A,B,H,I,yz];rw[xf V]
    ·cases f
   ·cases f
  ·rename_i l0 b R
   split at f
   ·rename_i e l' A B H
    split at f
    ·cases f
    ·rename_i M
     split at f
     ·rename_i Z I
      simp only[xA]at f;subst f;have w:=p.head;have u:=p.tail.head;simp only[aN.ds.injEq,aN.nat.injEq]at w u;subst w;subst u;simp only[b6,g,jH,A,B,H,I,yz];rw[xo M,xf ⟨xz _,R, .inl trivial⟩]
     ·cases f
   ·cases f
  ·rename_i l0 a b cs R
   split at f
   ·rename_i e l' a' A B H
    split at f
    ·cases f
    ·rename_i M
     split at f
     ·rename_i Z I
      simp only[xA]at f;subst f;have w:=p.head;have u:=p.tail.head;have C:=p.tail.tail.head;have g4:=p.tail.tail.tail.head;simp only[aN.ds.injEq,aN.nat.injEq]at w u C g4;subst w;subst u;subst C;subst g4;simp only[b6,g,jH,A,B,H,I,yz];rw[xo M,xf ⟨R.1,R.2.1, .inr R.2.2⟩]
     ·cases f
   ·cases f
  ·rename_i ln b R
   split at f
   ·rename_i e k v S len sz A B H
    split at f
    ·cases f
    ·rename_i M
     split at f
     ·rename_i Z I
      simp only[xA]at f;subst f;have w:=p.head;have u:=p.tail.head;simp only[aN.nat.injEq]at w u;subst w;subst u;simp only[b6,g,jH,A,B,H,I,yz];rw[xo M,xf ⟨trivial,R⟩]
     ·cases f
   ·cases f
  ·exact hD f
 ·rename_i t x y yt g
  split at f
  ·rename_i a b V
   split at f
   ·rename_i a' Z B U
    simp only[xA]at f;subst f;have w:=p.head;have u:=p.tail.head;simp only[aN.av.injEq,AV.d.injEq,D.str.injEq]at w u;subst w;subst u;simp only[b6,g,B,U,Cr];rw[xf V]
   ·cases f
  ·exact hD f
 ·rename_i t l c g
  split at f
  ·rename_i n T Q
   split at f
   ·rename_i e l' c' A hll hcc
    split at f
    ·rename_i z hz
     split at f
     ·rename_i L
      simp only[xA]at f;subst f;have w:=p.head;have u:=p.tail.head;simp only[aN.av.injEq,AV.d.injEq,D.int.injEq,zQ]at w u;subst w;subst u;simp only[b6,g,c8,A,hll,hcc,hz];rw[xf ⟨T,Int.le_refl _,Q,L.1,L.2.1,L.2.2.1,L.2.2.2⟩]
     ·cases f
    ·cases f
   ·cases f
  ·exact hD f
 ·exact hD f
def FA(P:Program)(c:Option (bX P))(cfg:ic)(i:Nat)(o:Oper)(ρ:Operand→AV)(h:aa):Option (Out×aq):=
 match c with
 |some (.val a b _)=>(CC P none cfg i o ρ h).map fun r=>({r.1 with val:=b},(.av r.1.val, .av a)::r.2)
 |_=>CC P c cfg i o ρ h
theorem Bz{P:Program}{c:Option (bX P)}{cfg:ic}{i:Nat}{o:Oper}{ρ:Operand→AV}{h:aa}{r:Out×aq}(d:FA P c cfg i o ρ h=some r)(f:Alike r.2):b6 P cfg i o ρ h=some r.1:=by
 unfold FA at d;split at d
 ·rename_i a b e
  simp only[xB]at d;obtain⟨q,j,rfl⟩:=d;have g:=f.head;simp only[aN.av.injEq]at g;have:=rt j f.tail;rw[this];subst e;rw[←g]
 ·exact rt d f
end Go.Avm
