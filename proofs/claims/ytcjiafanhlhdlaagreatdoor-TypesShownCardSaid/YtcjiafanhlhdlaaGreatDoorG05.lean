/-
  The abstract machine, part N: code on abstract states, rule by rule; the contract of a function out of its body.
-/
import Derived.Test.YtcjiafanhlhdlaaGreatDoorG04
import Derived.RangeFuncNested
import Derived.RangeFuncRecord
import Derived.RangeFuncLeaves
import Derived.RecoverIn
import Derived.ProofKit
import Derived.OpenShut
import Derived.Carry
set_option linter.unusedVariables false
set_option linter.unusedSimpArgs false
set_option linter.unusedSectionVars false
namespace Go.Avm
open Go.RowKit
variable[aG]
structure cA where
 P:Program
 B:Nat
 w0:World
 I0:Nat→Nat→Prop
 N:Nat
 mixed:jP P
 rnd:Option Nat:=none
 s0:Nat:=0
 dl:List Deferred:=[]
def gm(a:List Nat):List Deferred:=a.map fun b=>{target:= .collected b,args:= #[]}
structure Side0(X:cA)(w:World)(bs:List Nat):Prop where
 nd:bs.Nodup
 low:∀b∈bs,X.s0≤b
 live:∀b∈bs,w.heap[b]? =some (.deferred (some []))
 book:∀l,X.rnd=some l→∃r,w.heap[l]? =some (.loop r)
 s0:X.s0≤w.heap.size
theorem Side0.mono{X:cA}{G j:Gh}{w c:World}{d:List Nat}(h:Side0 X w d)(e:Ext G w j c):Side0 X c d:=
 ⟨h.nd,h.low,fun b f=>by
  obtain⟨o,a,h2⟩:=e.kept b _ rfl (h.live b f);cases h2;exact a,fun l k=>by
  obtain⟨r,g⟩:=h.book l k;obtain⟨o,a,i,rfl⟩:=e.kept l _ rfl g;exact⟨i,a⟩,yX h.s0 e.size⟩
def ff(X:cA)(G:Gh)(S:St)(a:Act)(w:World):Prop:=HR G X.B X.w0 X.I0 S.heap w∧∃b,FR G w X.N (gm b ++X.dl) S.env a∧Side0 X w b
inductive aA where
 |normal
 |exit (id:Nat)
 |ret
 |panic (x:AV)
def XRep(G:Gh)(w:World):aA→Exit→Prop
 | .normal, .normal=>True
 | .exit i, .exit j=>i=j
 | .ret, .ret=>True
 | .panic x, .panic a=>∃v,a=[{v,recovered:=false}]∧Rep G w x v
 |_,_=>False
theorem XRep.normal{G:Gh}{w:World}{e:Exit}(h:XRep G w .normal e):e= .normal:=by cases e<;>first|rfl|exact h.elim
theorem XRep.exit{G:Gh}{w:World}{i:Nat}{e:Exit}(h:XRep G w (.exit i) e):e= .exit i:=by cases e<;>first|exact h.elim|(cases h;rfl)
theorem XRep.ret{G:Gh}{w:World}{e:Exit}(h:XRep G w .ret e):e= .ret:=by cases e<;>first|rfl|exact h.elim
theorem XRep.panic{G:Gh}{w:World}{x:AV}{e:Exit}(h:XRep G w (.panic x) e):∃v,e= .panic [{v,recovered:=false}]∧Rep G w x v:=by
 cases e<;>first|exact h.elim|(obtain⟨v,rfl,a⟩:=h;exact⟨v,rfl,a⟩)
theorem XRep.mono{G b:Gh}{w c:World}{a:aA}{e:Exit}(h:XRep G w a e)(x:Ext G w b c):XRep b c a e:=by
 cases a<;>cases e<;>first|exact h|(obtain⟨v,d,h2⟩:=h;exact⟨v,d,h2.mono x⟩)
def AW(X:cA)(c:Code)(S:St)(Q:aA→St→Prop):Prop:=
 ∀G a w,ff X G S a w→c.wpIn (FF X.rnd) 0 X.P (fun e g b=>∃f S' d,XRep d b f e∧Q f S'∧Ext G w d b∧ff X d S' g b) a w
def Weak(X:cA)(S S':St):Prop:=∀G a w,ff X G S a w→∃b,Ext G w b w∧ff X b S' a w
def CV(K:St→Prop)(Q:aA→St→Prop):aA→St→Prop
 | .normal,S=>K S
 |e,S=>Q e S
def uR(id:Nat)(Q:aA→St→Prop):aA→St→Prop
 | .exit i,S=>if i=id then Q .normal S else Q (.exit i) S
 |e,S=>Q e S
theorem jR{p:Nat→Prop}(h:∃n,p n):∃n,p n∧∀m,p m→n≤m:=by
 obtain⟨n,e⟩:=h;induction n using Nat.strongRecOn with
 |_ n d=>
  by_cases c:∃m,m<n∧p m
  ·obtain⟨m,hm,hp⟩:=c
   exact d m hm hp
  ·refine⟨n,e,fun m hm=> ?_⟩
   rcases yJ m n with a|b
   ·exact absurd ⟨m,a,hm⟩ c
   ·exact b
noncomputable def least(p:Nat→Prop):Nat:=by
 classical
 exact if h:∃n,p n then (jR h).choose else 0
theorem Bz{p:Nat→Prop}(h:∃n,p n):p (least p):=by
 unfold least;rw[dif_pos h];exact(jR h).choose_spec.1
theorem Ga{p:Nat→Prop}{m:Nat}(h:p m):least p≤m:=by
 unfold least;rw[dif_pos ⟨m,h⟩];exact(jR ⟨m,h⟩).choose_spec.2 m h
section
variable{X:cA}{S S':St}{Q f:aA→St→Prop}
theorem Weak.refl(S:St):Weak X S S:=fun G a w h=>⟨G,Ext.refl G w,h⟩
theorem Weak.trans{b:St}(h:Weak X S S')(k:Weak X S' b):Weak X S b:=fun G a w d=>by
 obtain⟨G1,g,c⟩:=h G a w d;obtain⟨i,e,h2⟩:=k G1 a w c;exact⟨i,g.trans e,h2⟩
theorem AW.mono{c:Code}(h:AW X c S Q)(g:∀e S,Q e S→f e S):AW X c S f:=fun G a w d=>
 wpIn_mono (h G a w d) fun e k j ⟨b,S',i,x,q,r⟩=>⟨b,S',i,x,g b S' q,r⟩
theorem AW.weak{c:Code}(i:Weak X S S')(h:AW X c S' Q):AW X c S Q:=fun G a w g=>by
 obtain⟨G1,k,d⟩:=i G a w g;exact wpIn_mono (h G1 a w d) fun e n m ⟨b,S',l,x,q,j,r⟩=>⟨b,S',l,x,q,k.trans j,r⟩
theorem eG{x y:Code}(h:AW X x S (CV (fun S'=>AW X y S' Q) Q)):AW X (.seq x y) S Q:=fun G a w l=>by
 refine wpIn_seq (wpIn_mono (h G a w l) ?_);rintro e n j ⟨k,S',c,x,q,b,r⟩;cases k with
 |normal=>
  obtain rfl:=x.normal;exact wpIn_mono (q c n j r) fun e B z ⟨g,p,u,t,s,o,m⟩=>⟨g,p,u,t,s,b.trans o,m⟩
 |exit i=>obtain rfl:=x.exit;exact⟨_,S',c,x,q,b,r⟩
 |ret=>obtain rfl:=x.ret;exact⟨_,S',c,x,q,b,r⟩
 |panic d=>obtain⟨v,rfl,A⟩:=x.panic;exact⟨_,S',c,x,q,b,r⟩
theorem kX{id:Nat}{c:Code}(h:AW X c S (uR id Q)):AW X (.block id c) S Q:=fun G a w l=>by
 refine wpIn_block (wpIn_mono (h G a w l) ?_);rintro e n m ⟨k,S',g,x,q,b,r⟩;cases k with
 |exit i=>
  obtain rfl:=x.exit;simp only[uR]at q;simp only[Exit.inBlock];split at q
  ·rename_i j;rw[x9 j];exact⟨.normal,S',g,trivial,q,b,r⟩
  ·rename_i j;rw[xj j];exact⟨_,S',g,x,q,b,r⟩
 |normal=>obtain rfl:=x.normal;exact⟨_,S',g,x,q,b,r⟩
 |ret=>obtain rfl:=x.ret;exact⟨_,S',g,x,q,b,r⟩
 |panic d=>obtain⟨v,rfl,o⟩:=x.panic;exact⟨_,S',g,x,q,b,r⟩
theorem p7(h:Q .normal S):AW X .skip S Q:=fun G a w b=>wpIn_skip ⟨.normal,S,G,trivial,h,Ext.refl G w,b⟩
theorem uS{id:Nat}(h:Q (.exit id) S):AW X (.exit id) S Q:=fun G a w b=>wpIn_exit ⟨.exit _,S,G,rfl,h,Ext.refl G w,b⟩
theorem NV(h:Q .ret S):AW X .ret S Q:=fun G a w b=>wpIn_ret ⟨.ret,S,G,trivial,h,Ext.refl G w,b⟩
theorem i8{c:Operand}{x y:Code}{b:Bool}(l:opd S.env c= .d (.bool b))(n:b=true→AW X x S Q)(o:b=false→AW X y S Q):AW X (.cond c x y) S Q:=fun G a w e=>by
 obtain⟨p,g,j⟩:=e.2;have i:=g.opd e.1.maps.glob c;rw[l]at i
 have k:a.eval c= .bool b:=by
  generalize a.eval c=v at i;cases i with|d m=>cases m;rfl
 exact wpIn_cond_split k (fun h=>n h G a w e) (fun h=>o h G a w e)
theorem EH{id:Nat}{b:Array Oper}{cfg:hQ}{ob:List Obl}{fts:List Foot}(j:em X.P cfg X.N b (List.range b.size) S=some (S',ob,fts))(c:gz X.P ob)(h:Q .normal S'):
    AW X (.region id b false) S Q:=fun G a w d=>
 d.2.elim fun k g=>wpIn_region (mF X.mixed.ext X.rnd 0 _ d.1 g.1 j c fun n m l e i h2=>⟨.normal,S',l,trivial,h,e,i,k,h2,g.2.mono e⟩)
theorem td{id:Nat}{b:Array Oper}{cfg:hQ}{ob:List Obl}{fts:List Foot}(j:em X.P cfg X.N b (List.range b.size) S=some (S',ob,fts))(m:CU b fts=true)(c:gz X.P ob)(h:Q .normal S'):
    AW X (.region id b true) S Q:=fun G a w d=>
 d.2.elim fun k g=>ov X.mixed X.rnd 0 d.1 g.1 j m c fun o n l e i h2=>⟨.normal,S',l,trivial,h,e,i,k,h2,g.2.mono e⟩
theorem tf{id p:Nat}{c:Bool}{b:Array Oper}{cfg:hQ}{ob:List Obl}{fts:List Foot}{op:Oper}{t:St}{x:AV}{h':aa}(hp:b[p]? =some op)(s:em X.P cfg X.N b (List.range' 0 p) S=some (t,ob,fts))(i:gz X.P ob)
    (o:ox X.P b p S.env x h' t) (u:c=false∨Bw b fts p=true) (h:Q (.panic x) ⟨ow b S.env,h'⟩):AW X (.region id b c) S Q:=fun G a w k=>by
 obtain⟨q,l⟩:=k.2
 have j:∀v m d g,Ext G w g d→HR g X.B X.w0 X.I0 h' d→FR g d X.N (gm q ++X.dl) (ow b S.env) m→Rep g d x v→∃n S' e,XRep e d n (.panic [{v,recovered:=false}])∧Q n S'∧Ext G w e d∧ff X e S' m d:=
  fun v m d g r y h2 z=>⟨.panic x,_,g,⟨v,rfl,z⟩,h,r,y,q,h2,l.2.mono r⟩
 cases c with
 |false=>exact Bx X.mixed X.rnd 0 k.1 l.1 hp s i o j
 |true=>exact rc X.mixed X.rnd 0 k.1 l.1 hp s (u.resolve_left (by simp)) i o j
theorem Gb{c:Code}{s:Type}(F:s→St)(J:s→Prop)(k:s→Nat)(o:s)(D:Weak X S (F o))(P:J o)
    (A:∀x,J x→AW X c (F x) (CV (fun S'=>∃y,Weak X S' (F y)∧J y∧k y<k x) Q)):AW X (.loop c) S Q:=by
 refine AW.weak D (fun G a w u=> ?_)
 let p:Act→World→Nat→Prop:=fun g b n=>∃y h,Ext G w h b∧ff X h (F y) g b∧J y∧k y=n
 refine wpIn_loop (fun g b=>∃n,p g b n) (fun g b=>least (p g b)) ⟨k o,o,G,Ext.refl G w,u,P,rfl⟩ ?_;intro N O hp;obtain⟨C,G1,l,I,L,R⟩:=Bz hp;refine wpIn_mono (A C L G1 N O I) ?_;rintro e g b ⟨t,S',h,x,q,m,r⟩;cases t with
 |normal=>
  obtain rfl:=x.normal;obtain⟨y,B,E,K⟩:=q;obtain⟨z,H,M⟩:=B h g b r;have j:p g b (k y):=⟨y,z,(l.trans m).trans H,M,E,rfl⟩
  refine⟨⟨_,j⟩, ?_⟩;have:=Ga j;omega
 |exit i=>obtain rfl:=x.exit;exact⟨_,S',h,x,q,l.trans m,r⟩
 |ret=>obtain rfl:=x.ret;exact⟨_,S',h,x,q,l.trans m,r⟩
 |panic d=>obtain⟨v,rfl,T⟩:=x.panic;exact⟨_,S',h,x,q,l.trans m,r⟩
theorem Gc{env env':Nat→AV}{heap:aa}(h:∀t,env' t=env t∨env' t= .junk):Weak X ⟨env,heap⟩ ⟨env',heap⟩:=fun G a w g=>by
 obtain⟨i,j,b,d⟩:=g
 exact⟨G,Ext.refl G w,i,j,⟨b.size,b.nod,fun t c=>by
  rcases h t with e|e
  ·show Rep G w (env' t) _;rw[e];exact b.rep t c
  ·show Rep G w (env' t) _;rw[e];exact .junk _,fun t c=>by
  rcases h t with e|e
  ·show env' t=_;rw[e];exact b.out t c
  ·exact e⟩,d⟩
theorem mJ{env:Nat→AV}{heap:aa}{l:List (Nat×AV)}(h:∀p∈l,p.2=env p.1):Weak X ⟨env,heap⟩ ⟨ak l,heap⟩:=Gc (m4 env l h)
end
def w5:Obj→Bool
 | .deferred _=>true
 |_=>false
structure Shut(B:Nat)(w w':World):Prop where
 os:w'.os=w.os
 tape:w'.tape=w.tape
 output:w'.output=w.output
 size:w'.heap.size=w.heap.size
 oth:∀(b:Nat)(o:Obj),w5 o=false→w.heap[b]? =some o→w'.heap[b]? =some o
 low:∀b,b<B→w'.heap[b]? =w.heap[b]?
 cell:∀p:Addr,w'.cell? p=w.cell? p
theorem Shut.refl(B:Nat)(w:World):Shut B w w:=⟨rfl,rfl,rfl,rfl,fun _ _ _ h=>h,fun _ _=>rfl,fun _=>rfl⟩
theorem Shut.trans{B:Nat}{w d c:World}(h:Shut B w d)(k:Shut B d c):Shut B w c:=
 ⟨k.os.trans h.os,k.tape.trans h.tape,k.output.trans h.output,k.size.trans h.size,fun b o a x=>k.oth b o a (h.oth b o a x),fun b a=>(k.low b a).trans (h.low b a),fun p=>(k.cell p).trans (h.cell p)⟩
theorem Shut.put{B b:Nat}{w:World}{o o':Obj}(d:w.heap[b]? =some o)(f:w5 o=true)(e:w5 o'=true)(hB:B≤b):Shut B w (w.putObj b o'):=by
 have c:=(xQ.1 d).1;refine⟨rfl,rfl,rfl,by simp,fun g j h x=> ?_,fun g i=>World.putObj_heap_other (by omega),fun p=> ?_⟩
 ·have a:g≠b:=by
    rintro rfl;rw[d]at x;simp only[xA]at x;subst x;rw[f]at h;cases h
  rw[World.putObj_heap_other a];exact x
 ·unfold World.cell?
  by_cases hp:p.block=b
  ·rw[hp,World.putObj_heap_same c,d]
   cases o<;>cases o'<;>first|rfl|(simp[w5]at f;done)|(simp[w5]at e;done)
  ·rw[World.putObj_heap_other hp]
theorem Rep.shut{G:Gh}{B:Nat}{w z:World}{x:AV}{v:Value}(h:Rep G w x v)(e:Shut B w z):Rep G z x v:=by
 induction h with
 |junk v=>exact .junk v
 |d h=>exact .d (h.mono (fun _ _ x=>x) (fun _ _ _=>e.cell _))
 |nils=>exact .nils
 |es u=>exact .es u
 |vecNil k a sz=>exact .vecNil k a sz
 |vec k a l L j r g s h=>exact .vec k a l L j r g s (h.mono (fun _ _ x=>x) (fun _ _ _=>e.cell _))
 |slNil k a sz u=>exact .slNil k a sz u
 |sl k a n y c L j A g=>exact .sl k a n y c L j A g
 |ptr k a i n L j=>exact .ptr k a i n L j
 |agg cs vs p q _ m=>exact .agg cs vs p q m
 |tup cs vs p _ m=>exact .tup cs vs p m
 |fn f o vs p _ m=>exact .fn f o vs p m
 |mp k a b j=>exact .mp k a b j
 |yld k a b j=>exact .yld k a b j
 |itr k a b j=>exact .itr k a b j
 |iv t v _ m=>exact .iv t v m
 |vp k a l L j q g h=>exact .vp k a l L j q g (h.mono (fun _ _ x=>x) (fun _ _ _=>e.cell _))
theorem HR.shut{G:Gh}{B:Nat}{w0 w E:World}{I0:Nat→Nat→Prop}{h:aa}(d:HR G B w0 I0 h w)(e:Shut B w E):HR G B w0 I0 h E:=by
 refine⟨d.below.trans ⟨e.os,e.tape,e.output,by rw[e.size];exact xS _,e.low⟩,by rw[e.size];exact d.bsz,fun b o x=>by rw[e.size];exact d.immlt b o x,d.i0,d.immlow,d.fresh,fun k L K=> ?_,d.dis,fun k ob Q=> ?_,d.lim,⟨fun k v b x=> ?_,fun k k' b l l' x I=>d.maps.inj k k' b l l' x I,fun k es c x=> ?_,fun k z N env ps Y0 M T x=> ?_,fun k Y X j seen x=> ?_,d.maps.glob.mono (fun _ _ x=>x) (fun _ _ _=>e.cell _)⟩⟩
 ·obtain⟨n,⟨arr,F,h2,V⟩,H⟩:=d.own k L K
  exact⟨n,⟨arr,F,e.oth _ _ rfl h2,V⟩,H⟩
 ·have n:=d.objs k ob Q
  cases ob with
  |map _ _=>trivial
  |lp _ _ _ _ _ _ _=>trivial
  |itr _ _ _ _=>trivial
  |typ _ _ _ _=>exact n
  |arr sz es=>
   rcases n with n|⟨L,g,f,a,p,P,O,W⟩
   ·exact .inl n
   ·exact .inr ⟨L,g,f,a,p,P,O,fun t c C=>by
      obtain⟨u,D,A,s⟩:=W t c C;exact⟨u,(e.cell _).trans D,A,s.shut e⟩⟩
 ·obtain⟨g,⟨o,f,y⟩,a⟩:=d.maps.low k v b x
  exact⟨g,⟨o,f,e.oth _ _ (by cases o<;>first|rfl|cases f) y⟩,a⟩
 ·obtain⟨b,g,J,f,a,p⟩:=d.maps.obj k es c x
  exact⟨b,g,J,e.oth _ _ rfl f,a,fun i q m U hm=>by
   obtain⟨D,A,s⟩:=p i q m U hm;exact⟨D.mono (fun _ _ x=>x) (fun _ _ _=>e.cell _),A.mono (fun _ _ x=>x) (fun _ _ _=>e.cell _),s⟩⟩
 ·obtain⟨b,r,g,f,a⟩:=d.maps.loops k z N env ps Y0 M T x
  exact⟨b,r,g,e.oth _ _ rfl f,a.size,fun t C=>(a.rep t C).shut e,a.out,a.ps,a.Y0,a.bd,a.state,a.pending⟩
 ·obtain⟨b,R,S,Z,g,f,a,p⟩:=d.maps.iters k Y X j seen x
  exact⟨b,R,S,Z,g,f,e.oth _ _ rfl a,p⟩
theorem FR.shut{G:Gh}{B N:Nat}{d:List Deferred}{w c:World}{env:Nat→AV}{a:Act}(b:FR G w N d env a)(e:Shut B w c):FR G c N d env a:=⟨b.size,b.nod,fun t f=>(b.rep t f).shut e,b.out⟩
theorem d6{P:Program}{F:Fence}{n B:Nat}{fn:Func}{f:Array Value}{R:Ending→World→Prop}{d:List Deferred}{u:FrameMode}(o:u≠ .run):∀(i:List Nat)(w:World),i.Nodup→(∀b∈i,B≤b)→(∀b∈i,w.heap[b]? =some (.deferred (some [])))→
    (∀k,Shut B w k→(∀b,b∉i→k.heap[b]? =w.heap[b]?)→LeavesInM F n P fn f R d u k)→LeavesInM F n P fn f R (gm i ++d) u w
 |[],w,_,_,_,h=>h w (Shut.refl B w) (fun _ _=>rfl)
 |b::i,w,j,c,a,h=>by
  have m:=a b (by simp);rw[zJ]at j;refine⟨o, .inl ⟨b,_,rfl,run_takeDeferred m,d6 o i _ j.2 (fun x g=>c x (by simp[g])) (fun x g=> ?_) (fun k p q=> ?_)⟩⟩
  ·have l:x≠b:=fun e=>j.1 (e▸g)
   rw[World.putObj_heap_other l];exact a x (by simp[g])
  ·refine h k ((Shut.put m rfl rfl (c b (by simp))).trans p) (fun x g=> ?_)
   simp only[xX,zM]at g;rw[q x g.2,World.putObj_heap_other g.1]
def Kf(P:Program)(S:St):ResultVar→Option D
 | .tmp t=>(view 12 S.heap (S.env t)).map (·.1)
 | .cell t ty=>match gu P ty (S.env t) S.heap with
  |some out=>(view 12 S.heap out.val).map (·.1)
  |none=>none
def pn(P:Program)(S:St):List ResultVar→Option (List D)
 |[]=>some []
 |r::l=>match Kf P S r,pn P S l with
  |some x,some xs=>some (x::xs)
  |_,_=>none
def mK(G:Gh)(h:aa):Nat→Nat→Prop:=fun b o=>G.imm b o∨∃k L,G.loc k (h k).ver=some L∧L.b=b
def tg(b:Array Value):ResultVar→Sem Value
 | .tmp t=>pure (b.getD t undef)
 | .cell a t=>do loadVar t (←asAddr (b.getD a undef))
theorem BA{q:List Deferred}{P:Program}{G:Gh}{B:Nat}{w0 w:World}{I0:Nat→Nat→Prop}{N:Nat}{S:St}{a:Act}(e:HR G B w0 I0 S.heap w)(i:FR G w N q S.env a){g:ResultVar}{x:D}(d:Kf P S g=some x):
    ∃v,(tg a.tmps g).run P w= .ok v w∧DRep (mK G S.heap) w x v:=by
 have up:∀{ks:List Nat}{y:D}{v:Value},DRep (dD G S.heap ks) w y v→DRep (mK G S.heap) w y v:=fun n=>n.mono (by
  rintro b o (x|⟨k,_,L,j,l⟩)
  ·exact .inl x
  ·exact .inr ⟨k,L,j,l⟩) (fun _ _ _=>rfl)
 cases g with
 |tmp t=>
  simp only[Kf,xB]at d;obtain⟨⟨y,ks⟩,h,rfl⟩:=d;exact⟨_,rfl,up (d5 e 12 _ _ _ _ h (i.opd e.maps.glob (.tmp t)))⟩
 |cell t ty=>
  simp only[Kf]at d;split at d
  ·rename_i out p
   simp only[xB]at d;obtain⟨⟨y,ks⟩,h,rfl⟩:=d;obtain⟨v,c,_,_,f⟩:=jN e (i.opd e.maps.glob (.tmp t)) p;refine⟨v, ?_,up (d5 e 12 _ _ _ _ h f)⟩;simp only[Instr.loadAt,Instr.sureAddr,Act.eval]at c;simp only[tg];generalize a.tmps.getD t undef=u at c;cases u with
   |pointer m=>
    cases m with
    |some r=>simpa [asAddr]using c
    |none=>simp at c
   |_=>simp at c
  ·cases d
theorem th{C:List Deferred}{P:Program}{G:Gh}{B:Nat}{w0 w:World}{I0:Nat→Nat→Prop}{N:Nat}{S:St}{a:Act}(t:HR G B w0 I0 S.heap w)(E:FR G w N C S.env a){fn:Func}{c:List D}(q:pn P S fn.results.toList=some c):
    ∃v,(results fn a.tmps).run P w= .ok v w∧mE (mK G S.heap) w c v:=by
 have m:∀(l:List ResultVar)(c:List D),pn P S l=some c→∃vs:List Value,vs.length=c.length∧
     (l.mapM (tg a.tmps)).run P w= .ok vs w∧
     ∀(i:Nat)(x:D)(u:Value),c[i]? =some x→vs[i]? =some u→DRep (mK G S.heap) w x u:=by
  intro l;induction l with
  |nil=>intro c h;simp[pn]at h;subst h;exact⟨[],rfl,rfl,by simp⟩
  |cons r l s=>
   intro c h;simp only[pn]at h;split at h
   ·rename_i x xs q j
    simp only[xA]at h;subst h;obtain⟨vs,g,h2,e⟩:=s xs j;obtain⟨v,z,A⟩:=BA t E q;refine⟨v::vs,by simp[g], ?_,fun i y u o n=> ?_⟩
    ·rw[List.mapM_cons,Sem.run_bind]
     rw[z,Result.andThen_ok,Sem.run_bind,h2,Result.andThen_ok];rfl
    ·cases i with
     |zero=>simp at o n;subst o;subst n;exact A
     |succ i=>exact e i y u (by simpa using o) (by simpa using n)
   ·cases h
 obtain⟨vs,g,h2,e⟩:=m _ _ q
 have hm:(fn.results.mapM (tg a.tmps)).run P w= .ok vs.toArray w:=by
  rw[Array.mapM_eq_mapM_toList,Sem.run_map,h2];rfl
 refine⟨if h:vs.toArray.size=1 then vs.toArray[0]else .tuple vs.toArray, ?_, ?_⟩
 ·have k:results fn a.tmps=(do let vs ←fn.results.mapM (tg a.tmps);pure (if h:vs.size=1 then vs[0]else .tuple vs)):=by
    unfold results;congr 1
  rw[k,Sem.run_bind,hm];rfl
 ·by_cases d:c.length=1
  ·obtain⟨x,p⟩:=yE.1 d
   have f:vs.length=1:=by omega
   obtain⟨v,k⟩:=yE.1 f;subst p;subst k;exact .inl ⟨x,rfl,e 0 x v rfl rfl⟩
  ·have:¬(vs.toArray.size=1):=by simp;omega
   rw[dif_neg this];exact .inr ⟨d,_,rfl,by simp[g],fun i x u a b=>e i x u a (by simpa using b)⟩
def jS(args:List D):St:=⟨fun t=>match args[t]? with|some x=> .d x|none=> .junk,fun _=>⟨0,none⟩⟩
theorem BB{P:Program}(hm:jP P){f:Nat}{fn:Func}{c:Code}{args O:List D}(W:P.funcs[f]? =some fn)(V:fn.body=some c)(hn:(fn.name== "runtime.NumGoroutine")=false)(hl:args.length≤fn.ntmps)
    (h:∀X:cA,X.P=P→X.N=fn.ntmps→AW X c (jS args) fun e S'=>(e= .normal∨e= .ret)∧pn P S' fn.results.toList=some O):al P f args O:=by
 refine⟨⟨fn,W,by rw[V];rfl,hn⟩,fun w I a hI Y r q=>callsIn_wide.1 (callsIn_of_wp_marks (F:=FF none) (n:=0) W V trivial ?_)⟩
 let X:cA:=⟨P,w.heap.size,w,I,fn.ntmps,hm,none,w.heap.size,[]⟩
 have p:ff X ⟨I,fun _ _=>none,fun _=>0,fun _ _=>none⟩ (jS args) {tmps:=a ++Array.replicate (fn.ntmps-a.size) undef,defers:=[]} w:=by
  refine⟨⟨Below.refl _ _,xS _,hI,fun _ _ x=>x,fun _ _ x _=>x,fun k v L x=>by simp at x,fun k L x=>by simp at x,fun k k' L L' x=>by simp at x,fun k ob x=>by simp[jS]at x,fun _=>rfl,⟨fun k v b x=>by simp at x,fun k k' b l l' x=>by simp at x,fun k es c x=>by simp[jS]at x,fun k fno N env ps Y0 bd st x=>by simp[jS]at x,fun k km vm K seen x=>by simp[jS]at x,q⟩⟩,[],⟨?_,rfl, ?_, ?_⟩,y8,fun _ h=>(by cases h),fun _ h=>(by cases h),fun _ h=>(by cases h),xS _⟩
  ·show(a ++Array.replicate (fn.ntmps-a.size) undef).size=fn.ntmps
   simp[Y];omega
  ·intro t _
   show Rep _ _ (match args[t]? with|some x=>AV.d x|none=> .junk) ((a ++Array.replicate (fn.ntmps-a.size) undef).getD t undef);cases T:args[t]? with
   |none=>exact .junk _
   |some x=>
    have m:t<a.size:=by rw[Y];exact(xE.1 T).1
    have Z:a[t]? =some a[t]:=xJ m;rw[xq,yT m,Z];exact .d (r t x _ T Z)
  ·intro t ht
   show(match args[t]? with|some x=>AV.d x|none=> .junk)= .junk;rw[yk (by have:X.N=fn.ntmps:=rfl;omega)]
 refine wpIn_mono (h X rfl rfl _ _ _ p) ?_;rintro e Q U ⟨e',S',G',xr,⟨he,A⟩,hex,C,bs,z,g⟩
 have y:∀R:Ending→World→Prop,(∀v i I',Below w.heap.size w i→(∀b o,I b o→I' b o)→(∀b o,I' b o→I b o∨w.heap.size≤b)→(∀b o,I' b o→b<i.heap.size)→mE I' i O v→R (.returned v) i)→
     LeavesInM (FF none) 0 P fn Q.tmps R Q.defers .returning U:=fun R hR=>by
  rw[z.nod];refine d6 (B:=w.heap.size) (by simp) bs U g.nd g.low g.live (fun i s _=> ?_);have j:=C.shut s;obtain⟨v,hv,u⟩:=th j (z.shut s) A;show ∃v,(results fn Q.tmps).run P i= .ok v i∧R (.returned v) i;refine⟨v,hv,hR v i (mK G' S'.heap) j.below (fun b o x=> .inl (C.i0 b o x)) ?_ ?_ u⟩
  ·rintro b o (x|⟨k,L,H,rfl⟩)
   ·rcases yJ b w.heap.size with m|G
    ·exact .inl (C.immlow b o x m)
    ·exact .inr G
   ·exact .inr (C.own k L H).1
  ·rintro b o (x|⟨k,L,H,rfl⟩)
   ·exact j.immlt b o x
   ·exact j.blt H
 rcases he with rfl|rfl
 ·obtain rfl:=xr.normal
  exact y _ fun v i I' c1 E M S J=>⟨v,I',rfl,c1,E,M,S,J⟩
 ·obtain rfl:=xr.ret
  exact y _ fun v i I' c1 E M S J=>⟨v,I',rfl,c1,E,M,S,J⟩
def ki(N:Nat):(Nat→AV)→List Nat→List AV→Option (Nat→AV)
 |env,[],[]=>some env
 |env,p::ps,x::xs=>if p<N then ki N (aJ env p x) ps xs else none
 |_,_,_=>none
theorem tz{N:Nat}:∀{ps:List Nat}{xs:List AV}{env a:Nat→AV},ki N env ps xs=some a→ps.length=xs.length
 |[],[],_,_,_=>rfl
 |p::ps,x::xs,env,a,h=>by
  simp only[ki]at h;split at h
  ·simp[tz h]
  ·cases h
 |[],_::_,_,_,h=>by simp[ki]at h
 |_::_,[],_,_,h=>by simp[ki]at h
theorem tA{G:Gh}{w:World}{N:Nat}:∀{ps:List Nat}{xs:List AV}{env b:Nat→AV}(vs:List Value)(a:Array Value),ki N env ps xs=some b→vs.length=xs.length→a.size=N→
    (∀(i:Nat)(x:AV)(u:Value),xs[i]? =some x→vs[i]? =some u→Rep G w x u)→(∀t,t<N→Rep G w (env t) (a.getD t undef))→(∀t,N≤t→env t= .junk)→
    ((ps.zip vs).foldl (fun a (p:Nat×Value)=>a.setIfInBounds p.1 p.2) a).size=N∧
    (∀t,t<N→Rep G w (b t) (((ps.zip vs).foldl (fun a (p:Nat×Value)=>a.setIfInBounds p.1 p.2) a).getD t undef))∧(∀t,N≤t→b t= .junk)
 |[],[],env,b,vs,a,h,j,d,f,g,k=>by
  simp only[ki,xA]at h;subst h;exact⟨d,g,k⟩
 |p::ps,x::xs,env,b,[],a,h,j,d,f,g,k=>by simp at j
 |p::ps,x::xs,env,b,v::vs,a,h,j,d,f,g,k=>by
  simp only[ki]at h;split at h
  ·rename_i hp
   simp only[List.zip_cons_cons,List.foldl_cons];refine tA vs _ h (by simpa using j) (by simpa using d) (fun i y u n m=>f (i+1) y u (by simpa using n) (by simpa using m)) (fun t l=> ?_) (fun t l=> ?_)
   ·simp only[xq,Array.getElem?_setIfInBounds]
    by_cases c:p=t
    ·subst c
     simp only[ad,yS,d,hp,zN];exact f 0 x v rfl rfl
    ·rw[xj c,ae _ _ (fun e=>c e.symm)]
     have:=g t l;rwa [xq]at this
   ·rw[ae _ _ (by omega)];exact k t l
  ·cases h
 |[],_::_,_,_,_,_,h,_,_,_,_,_=>by simp[ki]at h
 |_::_,[],_,_,_,_,h,_,_,_,_,_=>by simp[ki]at h
def Gd(Q:aA→St→Prop)(S:St):LSt→Prop
 | .ready=>Q .normal S
 | .done .ret=>Q .ret S
 | .done (.exit id)=>Q (.exit id) S
 |_=>False
theorem uT{X:cA}{S:St}{Q:aA→St→Prop}{g:Operand}{ps:Array Nat}{Y0 s:Code}{gf k fno:Nat}{m rs:List AV}{h2:aa}{f2 N2:Nat}{O:List (Nat×AV)}{ps2:Array Nat}{as2 bd2:Code}{st:LSt}
    (hg:opd S.env g= .fn gf m) {el:List (Nat×AV)} (hel:∀p∈el,p.2=S.env p.1)
    (hc:ax X.P gf (.yld k ((S.heap k).ver+1)::m) (aJ S.heap k ⟨(S.heap k).ver+1,some (.lp fno X.N el ps Y0 s .ready)⟩) rs h2)
    (hk:(h2 k).ver=(S.heap k).ver+1) (hl:(h2 k).ob=some (.lp f2 N2 O ps2 as2 bd2 st))
    (hq:Gd Q ⟨S.env,aJ h2 k ⟨(h2 k).ver,none⟩⟩ st):AW X (.rangeFunc g ps Y0 s) S Q:=fun G a w ⟨L,bs,K,V⟩=>by
 refine wpIn_rangeFunc (fun fn _=> ?_);have hfr:=K.opd L.maps.glob g;rw[hg]at hfr
 obtain⟨vs,hfv,hvl,hcr⟩:∃vs:Array Value,a.eval g= .func (.func gf) #[] vs∧vs.size=m.length∧∀(i:Nat)(x:AV)(u:Value),m[i]? =some x→vs[i]? =some u→Rep G w x u:=by
  generalize a.eval g=vf at hfr;cases hfr with
  |fn _ _ vs hl hh=>exact⟨vs,rfl,hl,hh⟩
 obtain⟨hcb,Y⟩:=hc
 have bU:∀(l:Nat)(h:List Deferred)(z:World)(rec:Loop)(D:List Nat),(Instr.enterLoop fn a.tmps ps Y0 s (FF X.rnd).round).run X.P w= .ok (l,h) z→HR G X.B X.w0 X.I0 S.heap z→Ext G w G z→z.heap[l]? =some (.loop rec)→
     rec.tmps=a.tmps→rec.params=ps→rec.assign=Y0→rec.body=s→rec.state= .ready→rec.pending=none→X.B≤l→(∀k v,G.mloc k v≠some l)→h ++gm bs=gm D→Side0 X z D→
     ∃(l:Nat)(h:List Deferred)(M:World)(d:Deferred)(q:World)(f:FuncId)(args:Array Value)(R:World),
      (Instr.enterLoop fn a.tmps ps Y0 s (FF X.rnd).round).run X.P w= .ok (l,h) M∧(resolve a.eval (rangeCall g l) 0).run X.P M= .ok d q∧(∀f',Target.leads X.P q d.target d.args=some f'→(FF X.rnd).fn f')∧
      (invoke d.target d.args).run X.P q= .ok (.enter f args) R∧((FF X.rnd).depth.isSome=true→1≤0)∧
      CallsIn (FF X.rnd) (0-1) X.P f args R (rangePost (FF X.rnd) 0 X.P l (fun e a' w'=>∃e' S' E,XRep E w' e' e∧Q e' S'∧Ext G w E w'∧ff X E S' a' w') {a with defers:=h ++a.defers}):=by
  intro l h z rec D he y I T r1 r2 r3 r4 r5 r6 hB hnew hmk j
  obtain⟨Z,e2⟩:=y.newFix k (b:=l) (ob:= .lp fno X.N el ps Y0 s .ready) (o:= .loop rec) rfl (fun _ _ _ _ e=>by cases e) hB hnew rfl T (fun _ _ e=>by cases e) (fun fno' N' env' ps' as' bd' st' e=>by
   cases e
   exact⟨rec,T,by rw[r1];exact K.size,fun t ht=>by
    rw[r1];rcases m4 S.env el hel t with e|e
    ·rw[e];exact(K.rep t ht).mono I
    ·rw[e];exact .junk _,fun t ht=>by
    rcases m4 S.env el hel t with e|e
    ·rw[e];exact K.out t ht
    ·exact e,r2,r3,r4,r5,r6⟩)
  have hml:(G.atMap k ((S.heap k).ver+1) l).mloc k ((S.heap k).ver+1)=some l:=by simp[Gh.atMap]
  refine⟨l,h,z,{target:= .fn (.func gf) vs,args:= #[.func (.yield l) #[] #[]]},z,gf, #[.func (.yield l) #[] #[]] ++vs,z,he, ?_,fun _ _=>trivial, ?_,fun x=>(by cases x), ?_⟩
  ·simp only[resolve,hfv]
   simp[go_sem]
  ·have:=dq hcb (#[.func (.yield l) #[] #[]] ++vs) z
   simpa [invoke]using this
  ·have hsz2:(#[Value.func (.yield l) #[] #[]] ++vs).size=(AV.yld k ((S.heap k).ver+1)::m).length:=by simp[hvl];omega
   have W:∀(i:Nat)(x:AV)(u:Value),(AV.yld k ((S.heap k).ver+1)::m)[i]? =some x→(#[Value.func (.yield l) #[] #[]] ++vs)[i]? =some u→Rep (G.atMap k ((S.heap k).ver+1) l) z x u:=by
    intro i x u hx hu;cases i with
    |zero=>
     rw[yT (by simp)]at hu;simp at hx hu;subst hx;subst hu;exact .yld _ _ _ hml
    |succ i=>
     rw[Array.getElem?_append_right (by simp)]at hu;simp at hx hu;exact(hcr i x u hx hu).mono (I.trans e2)
   have H:=Y _ X.B X.w0 X.I0 z _ Z hsz2 W;have F:=uL X.rnd (0-1) H;refine F.mono ?_
   ·rintro e w' ⟨v,E,rfl,e3,hr3,_⟩
    obtain⟨b,r,g1,g2,g3⟩:=hr3.maps.loops k f2 N2 O ps2 as2 bd2 st hl
    have J:b=l:=by
     rw[hk,e3.mloc _ _ _ hml]at g1;exact(Option.some.inj g1).symm
    subst J
    have hnb:r.state≠ .busy:=by
     rw[g3.state];cases st with
     |busy=>exact absurd hq (by simp[Gd])
     |_=>simp[LSt.state]
    have A:=run_endLoop (P:=X.P) g2 hnb;have U:=g3.pending;obtain⟨hr4,e4⟩:=hr3.setFix (k:=k) (o':= .loop {r with state:= .exhausted}) (ob':=none) (by rw[hl];rfl) g1 g2 rfl rfl (fun _=>⟨_,rfl⟩) (fun x e=>by cases e) (fun _ _ e=>by cases e) (fun _ _ _ _ _ _ _ e=>by cases e);obtain⟨w4,hw4⟩:∃w4,w'.putObj b (.loop {r with state:= .exhausted})=w4:=⟨_,rfl⟩
    rw[hw4]at A hr4 e4;rw[U]at A;have ex:Ext G w E w4:=((I.trans e2).trans e3).trans e4
    have hh:ff X E ⟨S.env,aJ h2 k ⟨(h2 k).ver,none⟩⟩ {a with defers:=h ++a.defers} w4:=
     ⟨hr4,D,⟨K.size,by show h ++a.defers=_;rw[K.nod,←xM,hmk],fun t ht=>(K.rep t ht).mono ex,K.out⟩,j.mono ((e2.trans e3).trans e4)⟩
    refine⟨st.pending,_,A, ?_⟩;cases st with
    |ready=>exact⟨.normal,_,E,trivial,hq,ex,hh⟩
    |busy=>exact absurd hq (by simp[Gd])
    |done c=>
     cases c with
     |ret=>exact wpIn_ret ⟨.ret,_,E,trivial,hq,ex,hh⟩
     |exit id=>exact wpIn_exit ⟨.exit id,_,E,rfl,hq,ex,hh⟩
     |_=>exact absurd hq (by simp[Gd])
 have hmb:∀k v,∀b,G.mloc k v=some b→b<w.heap.size:=fun k v b x=>by
  obtain⟨_,⟨o,_,h2⟩,_⟩:=L.maps.low _ _ _ x;exact(xQ.1 h2).1
 cases n:X.rnd with
 |none=>
  have ho:=run_enterLoop_outer (P:=X.P) (w:=w) fn a.tmps ps Y0 s;have y:=L.allocAny (.deferred (some []));have I:=Ext.alloc L (.deferred (some []));have Z:=y.allocAny (.loop {state:= .ready,pending:=none,fn,tmps:=a.tmps,params:=ps,assign:=Y0,body:=s,defers:=w.heap.size});have e2:=Ext.alloc y (.loop {state:= .ready,pending:=none,fn,tmps:=a.tmps,params:=ps,assign:=Y0,body:=s,defers:=w.heap.size});have C:=World.alloc_heap_new (w.alloc (.deferred (some []))) (.loop {state:= .ready,pending:=none,fn,tmps:=a.tmps,params:=ps,assign:=Y0,body:=s,defers:=w.heap.size});rw[World.size_alloc]at C
  have hdef:((w.alloc (.deferred (some []))).alloc (.loop {state:= .ready,pending:=none,fn,tmps:=a.tmps,params:=ps,assign:=Y0,body:=s,defers:=w.heap.size})).heap[w.heap.size]? =some (.deferred (some [])):=
   (dw (by simp)).trans (World.alloc_heap_new w _)
  have j:=V.mono (I.trans e2);rw[←n]
  refine bU _ _ _ _ (w.heap.size::bs) (by rw[show(FF X.rnd).round=none from n];exact ho) Z (I.trans e2) C rfl rfl rfl rfl rfl rfl (by have:=L.bsz;omega) (fun k v x=>by have:=hmb _ _ _ x;omega) rfl
   ⟨zJ.2 ⟨fun hx=> ?_,V.nd⟩,fun b J=> ?_,fun b J=> ?_,j.book,j.s0⟩
  ·have:=(xQ.1 (V.live _ hx)).1
   omega
  ·rcases xX.1 J with rfl|J
   ·exact V.s0
   ·exact V.low b J
  ·rcases xX.1 J with rfl|J
   ·exact hdef
   ·exact j.live b J
 |some l0=>
  obtain⟨r0,hr0⟩:=V.book l0 n;have ho:=run_enterLoop_inner (P:=X.P) (w:=w) hr0 fn a.tmps ps Y0 s;have y:=L.allocAny (.loop {state:= .ready,pending:=none,fn,tmps:=a.tmps,params:=ps,assign:=Y0,body:=s,defers:=r0.defers});have I:=Ext.alloc L (.loop {state:= .ready,pending:=none,fn,tmps:=a.tmps,params:=ps,assign:=Y0,body:=s,defers:=r0.defers});rw[←n];exact bU _ _ _ _ bs (by rw[show(FF X.rnd).round=some l0 from n];exact ho) y I (World.alloc_heap_new w _) rfl rfl rfl rfl rfl rfl L.bsz (fun k v x=>by have:=hmb _ _ _ x;omega) rfl (V.mono I)
def w6:aA→Option (Bool×LSt)
 | .normal=>some (true, .ready)
 | .ret=>some (false, .done .ret)
 | .exit id=>some (false, .done (.exit id))
 |_=>none
set_option maxHeartbeats 1000000 in
theorem w7{P:Program}(hm:jP P){k v:Nat}{args:List AV}{h:aa}{Z N:Nat}{env:List (Nat×AV)}{n:Nat→AV}{ps:Array Nat}{Y0 bd:Code}(hv:(h k).ver=v)(hob:(h k).ob=some (.lp Z N env ps Y0 bd .ready))
    (I:ki N (ak env) ps.toList args=some n) {S1:St} (h1:∀X:cA,X.P=P→X.N=N→AW X Y0 ⟨n,h⟩ fun e S'=>e= .normal∧S'=S1)
    {f1 N1:Nat} {e1:List (Nat×AV)} {C:Array Nat} {y A:Code} (T:(S1.heap k).ver=v) (E:(S1.heap k).ob=some (.lp f1 N1 e1 C y A .ready)) {e:aA} {S2:St}
    (h2:∀X:cA,X.P=P→X.N=N→AW X bd ⟨S1.env,aJ S1.heap k ⟨v,some (.lp f1 N1 e1 C y A .busy)⟩⟩ fun e' S'=>e'=e∧S'=S2)
    {f2 V:Nat} {e2:List (Nat×AV)} {q:Array Nat} {j m:Code} {Y R:LSt} {b:Bool} (hv2:(S2.heap k).ver=v) (D:(S2.heap k).ob=some (.lp f2 V e2 q j m Y)) (ho:w6 e=some (b,R)):
    CP P k v args h [.d (.bool b)] (aJ S2.heap k ⟨v,some (.lp f2 V e2 q j m R)⟩):=fun G B w0 I0 w f hr hsz O l U=>by
 obtain⟨l',r,g1,g2,Q⟩:=hr.maps.loops k Z N env ps Y0 bd .ready hob
 have o:l'=l:=by
  rw[hv,U]at g1;exact(Option.some.inj g1).symm
 subst o;have J:=tz I;obtain⟨q1,q2,q3⟩:=tA (G:=G) (w:=w) f.toList r.tmps I (by simpa using hsz) Q.size (fun i x u hx hu=>O i x u hx (by simpa using hu)) Q.rep Q.out
 have M:((r.params.zip f).foldl (fun c (p:Nat×Value)=>c.setIfInBounds p.1 p.2) r.tmps)=((ps.toList.zip f.toList).foldl (fun c (p:Nat×Value)=>c.setIfInBounds p.1 p.2) r.tmps):=by
  rw[Q.ps,←Array.foldl_toList,Array.toList_zip]
 refine⟨r.fn,_,r.assign,r.body,run_yield g2 (by rw[Q.ps,hsz,←J];simp),fun rr=> ?_⟩;rw[Q.Y0,Q.bd];have z:(Array.foldl (fun c x=>match x with|(t,a)=>c.setIfInBounds t a) r.tmps (r.params.zip f))=((ps.toList.zip f.toList).foldl (fun c (p:Nat×Value)=>c.setIfInBounds p.1 p.2) r.tmps):=M;rw[z];refine roundIn_of_wpIn (F:=FF rr) trivial ?_
 let X:cA:=⟨P,B,w0,I0,N,hm,some l',w.heap.size,[]⟩
 have s:ff X G ⟨n,h⟩ {tmps:=((ps.toList.zip f.toList).foldl (fun c (p:Nat×Value)=>c.setIfInBounds p.1 p.2) r.tmps),defers:=[]} w:=
  ⟨hr,[],⟨q1,rfl,q2,q3⟩,y8,fun _ h=>(by cases h),fun _ h=>(by cases h),fun l U=>by cases U;exact⟨r,g2⟩,xS _⟩
 refine wpIn_mono (h1 X rfl rfl G _ w s) ?_;rintro e' a' w' ⟨_,S',W,xr1,⟨rfl,rfl⟩,x1,y1,bs1,z1,s1⟩;obtain rfl:=xr1.normal;obtain⟨l2,r2,k1,k2,H⟩:=y1.maps.loops k f1 N1 e1 C y A .ready E
 have o:l2=l':=by
  rw[T,x1.mloc _ _ _ U]at k1;exact(Option.some.inj k1).symm
 subst o;refine⟨_,run_beginRound k2 H.state, ?_⟩
 obtain⟨y2,x2⟩:=y1.setFix (k:=k) (o':= .loop {r2 with state:= .busy}) (ob':=some (.lp f1 N1 e1 C y A .busy)) (by rw[E];rfl) k1 k2 rfl rfl (fun _=>⟨_,rfl⟩) (fun x e=>by cases e;rfl) (fun _ _ e=>by cases e) (fun _ _ _ _ _ _ _ e=>by
  cases e;exact⟨_,World.putObj_heap_same (xQ.1 k2).1,H.size,H.rep,H.out,H.ps,H.Y0,H.bd,rfl,H.pending⟩)
 rw[T]at y2;refine wpIn_mono (h2 X rfl rfl W _ _ ⟨y2,bs1,z1.mono x2,s1.mono x2⟩) ?_;rintro e' a'' w'' ⟨e9,S'',G'',L,⟨rfl,rfl⟩,x3,y3,-⟩;obtain⟨l3,r3,m1,m2,S⟩:=y3.maps.loops k f2 V e2 q j m Y D
 have o:l3=l2:=by
  rw[hv2,x3.mloc _ _ _ (x2.mloc _ _ _ (x1.mloc _ _ _ U))]at m1;exact(Option.some.inj m1).symm
 subst o
 have K:∀(g:Option Code),g.isNone=b→(if g.isNone=true then LoopState.ready else .done)=R.state→g=R.pending→∃vv w3,(Instr.endRound l3 g).run P w''= .ok vv w3∧∃x W,Ending.returned vv= .returned x∧Ext G w W w3∧HR W B w0 I0 (aJ S''.heap k ⟨v,some (.lp f2 V e2 q j m R)⟩) w3∧Rep W w3 (iV [.d (.bool b)]) x:=by
  intro g j1 j2 j3
  obtain⟨y4,x4⟩:=y3.setFix (k:=k) (o':= .loop {r3 with state:=if g.isNone then .ready else .done,pending:=g}) (ob':=some (.lp f2 V e2 q j m R)) (by rw[D];rfl) m1 m2 rfl rfl (fun _=>⟨_,rfl⟩) (fun x e=>by cases e;rfl) (fun _ _ e=>by cases e) (fun _ _ _ _ _ _ _ e=>by
   cases e;exact⟨_,World.putObj_heap_same (xQ.1 m2).1,S.size,S.rep,S.out,S.ps,S.Y0,S.bd,j2,j3⟩)
  rw[hv2]at y4;exact⟨_,_,run_endRound g m2,_,G'',rfl,(x1.trans x2).trans (x3.trans x4),y4,by rw[j1];exact .d (.bool b)⟩
 cases e9 with
 |normal=>obtain rfl:=L.normal;cases ho;exact K none rfl rfl rfl
 |ret=>obtain rfl:=L.ret;cases ho;exact K (some .ret) rfl rfl rfl
 |exit id=>obtain rfl:=L.exit;cases ho;exact K (some (.exit id)) rfl rfl rfl
 |panic x=>cases ho
end Go.Avm
namespace Go.Avm
open Go.RowKit
variable[aG]
def hE(args:List AV):Nat→AV:=fun t=>(args[t]?).getD .junk
def lW(P:Program)(S:St):List ResultVar→Option (List AV)
 |[]=>some []
 | .tmp t::r=>(lW P S r).map (S.env t:: ·)
 | .cell t ty::r=>match gu P ty (S.env t) S.heap,lW P S r with
  |some o,some l=>some (o.val::l)
  |_,_=>none
def oy(h:aa)(a:AV):Option (Nat×Nat×Nat×List AV×Int×Int):=
 match a with
 | .ptr k v i b _=>if b=0 then match (h k).ob with
     |some (.arr sz es)=>if sz=1∧(h k).ver=v then match es[i]?,es[i+1]? with
         |some (.d (.int .u32 n)),some (.d (.int .i32 m))=>some (k,v,i,es,n,m)
         |_,_=>none
      else none
     |_=>none
  else none
 |_=>none
def w8(h:aa)(k v i:Nat)(es:List AV):aa:=aJ h k ⟨v,some (.arr 1 (es.set (i+1) (.d (.int .i32 1))))⟩
def w9(h:aa)(k v i:Nat)(es:List AV):aa:=aJ h k ⟨v,some (.arr 1 ((es.set i (.d (.int .u32 1))).set (i+1) (.d (.int .i32 0))))⟩
def Ge(P:Program)(g:Nat):Prop:=∀(h:aa)(a:AV)(f:Nat)(b:List AV)(k v i:Nat)(es:List AV)(n m:Int),oy h a=some (k,v,i,es,n,m)→
 (n≠0→ax P g [a, .fn f b] h [] h)∧
 (n=0→m=0→∀(d:List AV)(h2:aa)(c:List AV),ax P f b (w8 h k v i es) d h2→oy h2 a=some (k,v,i,c,0,1)→ax P g [a, .fn f b] h [] (w9 h2 k v i c))
def uU(P:Program):Prop:=∀g,aG.once=some g→Ge P g
abbrev za:=Nat→Nat→Nat→Code→St→Option (aA×St×Nat×List Nat)
def Ye(k:Nat):Nat:=k+9223372036854775808
def UJ(tk:List Nat)(a b:aa):aa:=fun k=>if k∈tk then a k else b k
def BC(env:Nat→AV):List ResultVar→List Nat
 |[]=>[]
 | .tmp _::r=>BC env r
 | .cell t _::r=>match env t with
  | .ptr k _ _ _ _=>Ye k::BC env r
  |_=>BC env r
inductive BD where
 |ret (rs:List AV)
 |pan (x:AV)
def je(P:Program)(b:List ResultVar):Option (aA×St×Nat×List Nat)→Option (BD×aa×Nat×List Nat)
 |some (.normal,S',a,tk)=>(lW P S' b).map fun l=>(.ret l,S'.heap,a,tk ++BC S'.env b)
 |some (.ret,S',a,tk)=>(lW P S' b).map fun l=>(.ret l,S'.heap,a,tk ++BC S'.env b)
 |some (.panic x,S',a,tk)=>some (.pan x,S'.heap,a,tk)
 |_=>none
def Kg(o:Oper):Option (Nat×Operand):=match o.guard,o.dst,o.op with
 |none,some d, .move u=>some (d,u)
 |none,some d, .assign u=>some (d,u)
 |_,_,_=>none
def Rf(N:Nat)(a:Option (Nat×Operand))(env:Nat→AV):Option (Nat→AV):=match a with
 |none=>some env
 |some (d,u)=>eO N env (some d) (opd env u)
def po(b:Option (Nat×Operand))(a:Act):Act:=match b with
 |none=>a
 |some (d,u)=>a.put (some d) (a.eval u)
def Kh(o:Oper):Option (Operand×List Operand):=match o.guard,o.dst,o.op with
 |none,none, .defer c=>match c.callee with
  | .value f=>some (f,c.args.toList)
  |_=>none
 |_,_,_=>none
def Gf(o:Oper):Option Nat:=match o.guard,o.dst,o.op with
 |none,some d, .call c=>match c.callee with
  | .builtin .recover=>some d
  |_=>none
 |_,_,_=>none
def p8:Code→Option (Option (Nat×Operand)×Operand×List Operand)
 | .region _ a false=>match a.toList with
  |[o]=>(Kh o).map fun r=>(none,r)
  |[m,o]=>match Kg m,Kh o with
   |some b,some r=>some (some b,r)
   |_,_=>none
  |_=>none
 |_=>none
def lI:Code→Option (Nat×Option (Nat×Operand))
 | .region _ a false=>match a.toList with
  |[o]=>(Gf o).map fun d=>(d,none)
  |[o,m]=>match Gf o,Kg m with
   |some d,some b=>some (d,some b)
   |_,_=>none
  |_=>none
 |_=>none
def Gg(P:Program)(e:za)(a:Nat)(g:Nat)(args:List AV)(x:Option AV)(h:aa):Option (aa×Nat×List Nat):=
 match P.funcs[g]? with
 |none=>none
 |some fn=>match fn.body with
  |some (.seq r c)=>match lI r with
   |some (d,f)=>if args.length≤fn.ntmps∧d<fn.ntmps∧fn.results.isEmpty=true then match Rf fn.ntmps f (aJ (hE args) d (x.getD (.d .nili)))with
       |some env=>match e g a fn.ntmps c ⟨env,h⟩with
        |some (.normal,S',b,tk)=>some (S'.heap,b,tk)
        |some (.ret,S',b,tk)=>some (S'.heap,b,tk)
        |_=>none
       |none=>none
    else none
   |none=>none
  |_=>none
def MS:aA→Option (Option AV)
 | .normal| .ret=>some none
 | .panic x=>some (some x)
 |_=>none
def tB(P:Program)(d:za)(b N:Nat)(h:List ResultVar):Code→Nat→St→Option (BD×aa×Nat×List Nat)
 | .seq x y,a,S=>match p8 x with
  |some (k,f,Y0)=>match Rf N k S.env with
   |some env=>match opd env f with
    | .fn g i=>match d b a N y ⟨env,S.heap⟩with
     |some (e,j,o,tk)=>match MS e with
      |some n=>match Gg P d o g (Y0.map (opd env) ++i) n j.heap with
       |some r=>(lW P ⟨j.env,r.1⟩ h).map fun l=>(.ret l,r.1,r.2.1,tk ++(r.2.2 ++BC j.env h))
       |none=>none
      |none=>none
     |none=>none
    |_=>none
   |none=>none
  |none=>match d b a N x S with
   |some (.normal,S',m,tk)=>match tB P d b N h y m S' with
    |some r=>some (r.1,r.2.1,r.2.2.1,tk ++r.2.2.2)
    |none=>none
   |r=>je P h r
 |c,a,S=>je P h (d b a N c S)
def uV(P:Program)(c:za)(a:Nat)(g:Nat)(args:List AV)(h:aa):Option (BD×aa×Nat×List Nat):=
 match P.funcs[g]? with
 |none=>none
 |some fn=>match fn.body with
  |none=>none
  |some b=>if args.length≤fn.ntmps then tB P c g fn.ntmps fn.results.toList b a ⟨hE args,h⟩else none
def BE(o:Oper)(env:Nat→AV):Option (Nat×List AV):=match dZ o env with
 |some (g,args)=>match aG.ext g with
  |some _=>none
  |none=>some (g,args)
 |none=>none
theorem zb{o:Oper}{env:Nat→AV}{g:Nat}{args:List AV}(h:BE o env=some (g,args)):dZ o env=some (g,args)∧aG.ext g=none:=by
 unfold BE at h;split at h
 ·rename_i d c a
  split at h
  ·cases h
  ·rename_i b
   simp only[xA,xG]at h;obtain⟨rfl,rfl⟩:=h;exact⟨a,b⟩
 ·cases h
def Rg(N:Nat)(env:Nat→AV):List (Nat×AV):=(List.range N).filterMap fun t=>match env t with
 | .junk=>none
 |x=>some (t,x)
theorem EI(N:Nat)(env:Nat→AV):∀p∈Rg N env,p.2=env p.1:=fun p hp=>by
 obtain⟨t,_,h⟩:=List.mem_filterMap.1 hp;split at h
 ·cases h
 ·cases h;rfl
theorem uW{o:Oper}{env:Nat→AV}{x:Nat×Nat×List AV}(h:pb o env=some x):dZ o env=none:=by
 unfold pb at h;unfold dZ;cases a:o.op with
 |call c=>
  rw[a]at h;simp only at h ⊢;cases d:c.callee with
  |value f=>
   rw[d]at h;simp only at h ⊢;cases b:opd env f with
   |yld k v=>rfl
   |_=>simp[b]at h
  |_=>rfl
 |_=>rfl
def NW:LSt→Option aA
 | .ready=>some .normal
 | .done .ret=>some .ret
 | .done (.exit id)=>some (.exit id)
 |_=>none
theorem EJ{a:LSt}{e:aA}{S:St}(h:NW a=some e):Gd (fun b S'=>b=e∧S'=S) S a:=by
 unfold NW at h;split at h<;>first|(cases h;exact⟨rfl,rfl⟩)|(cases h;done)
def uX(g:Nat):Bool:=match aG.once with
 |some a=>Nat.beq a g
 |none=>false
inductive StepR where
 |go (S:St) (ft:Foot) (b:Nat) (tk:List Nat)
 |pan (x:AV) (h:aa) (b:Nat) (tk:List Nat)
inductive OpsR where
 |go (S:St) (fts:List Foot) (b:Nat) (tk:List Nat)
 |pan (p:Nat) (fts:List Foot) (x:AV) (h:aa) (b:Nat) (tk:List Nat)
structure Memo(P:Program) where
 at':Nat→List D→Option (List D)
 ok:∀g ds rs,at' g ds=some rs→al P g ds rs
def Memo.none{P:Program}:Memo P:=⟨fun _ _=> .none,fun _ _ _ h=>by cases h⟩
def jt(r:Option Nat)(P:Program)(c:Code)(Q:Exit→Act→World→Prop)(a:Act)(w:World):Prop:=
 ∀(b:Frame) k cs,b.roundOf=r→∃e d f,Q e d f∧ArrivesIn (Machine.fenced P (FF r)) P (lone (b.atR a (.code c:: .inLoop c::k)) cs w) b k cs e d f
theorem NX(r:Option Nat)(n:Nat):(FF r).room n:=fun d h=>by cases h
theorem zc{r:Option Nat}{P:Program}{c:Code}{Q:Exit→Act→World→Prop}{a:Act}{w:World}(h:jt r P c Q a w):(Code.loop c).wpIn (FF r) 0 P Q a w:=by
 intro b k cs f j l;obtain⟨e,i,g,m,d⟩:=h b k cs f;exact⟨e,i,g,m, .of_steps (.one (fenced_calm j l rfl) stepR_loop) d⟩
theorem re{r:Option Nat}{P:Program}{c:Code}{Q:Exit→Act→World→Prop}{a:Act}{w:World}(h:c.wpIn (FF r) 0 P (Exit.then (jt r P c Q) Q) a w):jt r P c Q a w:=by
 intro b k cs q;have s:(FF r).room (cs.length+1+0):=NX r _;obtain⟨e,f,g,m,d⟩:=h b (.inLoop c::k) cs q trivial s;cases e with
 |normal=>
  obtain⟨o,p,n,j,i⟩:=m b k cs q;exact⟨o,p,n,j, .of_steps (StepsIn.trans d (.one (fenced_calm trivial s rfl) stepR_inLoop)) i⟩
 |exit id=>exact⟨_,f,g,m, .pass (x:= .inLoop c) rfl (fun _ _=> .inl (by simp)) d⟩
 |goto l=>exact⟨_,f,g,m, .pass (x:= .inLoop c) rfl (fun _ _=> .inl (by simp)) d⟩
 |ret=>exact⟨_,f,g,m, .pass (x:= .inLoop c) rfl (fun _ _=> .inl (by simp)) d⟩
 |panic t=>exact⟨_,f,g,m, .pass (x:= .inLoop c) rfl (fun _ _=> .inl (by simp)) d⟩
 |outgrown=>exact⟨_,f,g,m, .pass (x:= .inLoop c) rfl (fun _ _=> .inl (by simp)) d⟩
theorem mg{r:Option Nat}{P:Program}{c:Code}{Q f:Exit→Act→World→Prop}{a:Act}{w:World}(h:jt r P c Q a w)(l:∀e a w,Q e a w→f e a w):jt r P c f a w:=fun b k cs d=>by
 obtain⟨e,j,g,i,h2⟩:=h b k cs d;exact⟨e,j,g,l _ _ _ i,h2⟩
def LW(X:cA)(c:Code)(S:St)(Q:aA→St→Prop):Prop:=
 ∀G a w,ff X G S a w→jt X.rnd X.P c (fun e g b=>∃f S' d,XRep d b f e∧Q f S'∧Ext G w d b∧ff X d S' g b) a w
theorem LW.aw{X:cA}{c:Code}{S:St}{Q:aA→St→Prop}(h:LW X c S Q):AW X (.loop c) S Q:=fun G a w b=>zc (h G a w b)
theorem kY{X:cA}{c:Code}{S:St}{Q:aA→St→Prop}(h:AW X c S (CV (fun S'=>LW X c S' Q) Q)):LW X c S Q:=fun G a w l=>by
 refine re (wpIn_mono (h G a w l) ?_);rintro e n j ⟨k,S',f,x,q,b,r⟩;cases k with
 |normal=>
  obtain rfl:=x.normal;exact mg (q f n j r) fun e A y ⟨g,p,u,t,s,o,m⟩=>⟨g,p,u,t,s,b.trans o,m⟩
 |exit i=>obtain rfl:=x.exit;exact⟨_,S',f,x,q,b,r⟩
 |ret=>obtain rfl:=x.ret;exact⟨_,S',f,x,q,b,r⟩
 |panic d=>obtain⟨v,rfl,z⟩:=x.panic;exact⟨_,S',f,x,q,b,r⟩
theorem Gi{P:Program}{cfg cfg':hQ}{i:Nat}{o:Oper}{ρ:Operand→AV}{h:aa}(a:cfg'.ret i=cfg.ret i)(h2:cfg'.obm i=cfg.obm i)(b:cfg'.base i=cfg.base i):bU P cfg' i o ρ h=bU P cfg i o ρ h:=by
 unfold bU a7 hA;simp only[a,h2,b]
structure uY where
 ret:List D
 hc:Option XI
 base:Nat
section
variable{P:Program}{obm:Nat→Nat→Bool}{hp:Nat→Bool}{j:Memo P}
def CW(P:Program)(h:za):Prop:=∀d a N c S e S' g tk,h d a N c S=some (e,S',g,tk)→(∀X:cA,X.P=P→X.N=N→AW X c S fun f b=>f=e∧b=S')∧∀k,k∉tk→S'.heap k=S.heap k
def eu(P:Program):Prop:=(∀(g:Nat)(fn:Func),P.funcs[g]? =some fn→(fn.name== "runtime.NumGoroutine")=false)∧uU P
theorem mL{K:List Deferred}{G:Gh}{B:Nat}{w0 w:World}{I0:Nat→Nat→Prop}{N:Nat}{S:St}{a:Act}(z:HR G B w0 I0 S.heap w)(E:FR G w N K S.env a){fn:Func}{d:List AV}(L:lW P S fn.results.toList=some d):
    ∃v,(results fn a.tmps).run P w= .ok v w∧Rep G w (iV d) v:=by
 have o:∀(l:List ResultVar)(d:List AV),lW P S l=some d→∃vs:List Value,vs.length=d.length∧
     (l.mapM (tg a.tmps)).run P w= .ok vs w∧
     ∀(i:Nat)(x:AV)(u:Value),d[i]? =some x→vs[i]? =some u→Rep G w x u:=by
  intro l;induction l with
  |nil=>intro d h;simp[lW]at h;subst h;exact⟨[],rfl,rfl,by simp⟩
  |cons r l M=>
   intro d h
   have p:∃x xs,d=x::xs∧lW P S l=some xs∧∃v,(tg a.tmps r).run P w= .ok v w∧Rep G w x v:=by
    cases r with
    |tmp t=>
     simp only[lW,xB]at h;obtain⟨xs,k,rfl⟩:=h;exact⟨_,xs,rfl,k,_,rfl,E.opd z.maps.glob (.tmp t)⟩
    |cell t ty=>
     simp only[lW]at h;split at h
     ·rename_i out xs J f
      simp only[xA]at h;subst h;obtain⟨v,c,_,_,g⟩:=jN z (E.opd z.maps.glob (.tmp t)) J;refine⟨_,xs,rfl,f,v, ?_,g⟩;simp only[Instr.loadAt,Instr.sureAddr,Act.eval]at c;simp only[tg];generalize a.tmps.getD t undef=u at c;cases u with
      |pointer F=>
       cases F with
       |some O=>simpa [asAddr]using c
       |none=>simp at c
      |_=>simp at c
     ·cases h
   obtain⟨x,xs,rfl,f,v,H,I⟩:=p;obtain⟨vs,k,h2,m⟩:=M xs f;refine⟨v::vs,by simp[k], ?_,fun i y u C A=> ?_⟩
   ·rw[List.mapM_cons,Sem.run_bind]
    rw[H,Result.andThen_ok,Sem.run_bind,h2,Result.andThen_ok];rfl
   ·cases i with
    |zero=>simp at C A;subst C;subst A;exact I
    |succ i=>exact m i y u (by simpa using C) (by simpa using A)
 obtain⟨vs,k,h2,m⟩:=o _ _ L
 have hm:(fn.results.mapM (tg a.tmps)).run P w= .ok vs.toArray w:=by
  rw[Array.mapM_eq_mapM_toList,Sem.run_map,h2];rfl
 refine⟨if h:vs.toArray.size=1 then vs.toArray[0]else .tuple vs.toArray, ?_, ?_⟩
 ·have s:results fn a.tmps=(do let vs ←fn.results.mapM (tg a.tmps);pure (if h:vs.size=1 then vs[0]else .tuple vs)):=by
    unfold results;congr 1
  rw[s,Sem.run_bind,hm];rfl
 ·by_cases e:d.length=1
  ·obtain⟨x,D⟩:=yE.1 e
   have n:vs.length=1:=by omega
   obtain⟨v,s⟩:=yE.1 n;subst D;subst s;exact m 0 x v rfl rfl
  ·have q:¬(vs.toArray.size=1):=by simp;omega
   rw[dif_neg q]
   have:iV d= .tup d:=by
    unfold iV;split
    ·simp at e
    ·rfl
   rw[this];exact .tup _ _ (by simp[k]) (fun i x u a b=>m i x u a (by simpa using b))
theorem Ext.ends{G d:Gh}{w c f:World}(e:Ext G w d c)(a:Shut w.heap.size c f):Ext G w d f:=
 ⟨e.imm,e.loc,fun b o x=>(a.cell _).trans (e.cell b o x),by rw[a.size];exact e.size,e.lim,e.nloc,e.mloc,fun b o g x=>by
  rw[a.low b (xQ.1 x).1];exact e.kept b o g x⟩
theorem kZ{hm:jP P}{G:Gh}{B:Nat}{w0 w:World}{I0:Nat→Nat→Prop}{fn:Func}{args:List AV}{h:aa}{a:Array Value}(k:HR G B w0 I0 h w)(e:a.size=args.length)(l:args.length≤fn.ntmps)
    (b:∀(i:Nat)(x:AV)(u:Value),args[i]? =some x→a[i]? =some u→Rep G w x u):
    ff ⟨P,B,w0,I0,fn.ntmps,hm,none,w.heap.size,[]⟩ G ⟨hE args,h⟩ {tmps:=a ++Array.replicate (fn.ntmps-a.size) undef,defers:=[]} w:=by
 refine⟨k,[],⟨?_,rfl, ?_, ?_⟩,y8,fun _ h=>(by cases h),fun _ h=>(by cases h),fun _ h=>(by cases h),xS _⟩
 ·show(a ++Array.replicate (fn.ntmps-a.size) undef).size=fn.ntmps
  simp[e];omega
 ·intro t _
  show Rep _ _ ((args[t]?).getD .junk) ((a ++Array.replicate (fn.ntmps-a.size) undef).getD t undef);cases d:args[t]? with
  |none=>exact .junk _
  |some x=>
   have c:t<a.size:=by rw[e];exact(xE.1 d).1
   have f:a[t]? =some a[t]:=xJ c;rw[xq,yT c,f];exact b t x _ d f
 ·intro t g
  show(args[t]?).getD .junk= .junk;rw[yk (by have g:fn.ntmps≤t:=g;omega)];rfl
theorem k0(hm:jP P){f:Nat}{fn:Func}{c:Code}{args A:List AV}{h h':aa}(E:P.funcs[f]? =some fn)(s:fn.body=some c)(S:(fn.name== "runtime.NumGoroutine")=false)(M:args.length≤fn.ntmps)
    (y:∀X:cA,X.P=P→X.N=fn.ntmps→AW X c ⟨hE args,h⟩ fun e S'=>(e= .normal∨e= .ret)∧lW P S' fn.results.toList=some A∧S'.heap=h'):ax P f args h A h':=by
 refine⟨⟨fn,E,by rw[s];rfl,S⟩,fun G B w0 I0 w u H O i=>callsIn_wide.1 (callsIn_of_wp_marks (F:=FF none) (n:=0) E s trivial ?_)⟩
 let X:cA:=⟨P,B,w0,I0,fn.ntmps,hm,none,w.heap.size,[]⟩
 refine wpIn_mono (y X rfl rfl _ _ _ (kZ (hm:=hm) H O M i)) ?_;rintro e C x ⟨T,S',p,I,⟨K,r,rfl⟩,hex,D,L,q,d⟩
 have o:∀R:Ending→World→Prop,(∀v g,Ext G w p g→HR p B w0 I0 S'.heap g→Rep p g (iV A) v→R (.returned v) g)→LeavesInM (FF none) 0 P fn C.tmps R C.defers .returning x:=fun R J=>by
  rw[q.nod];refine d6 (B:=w.heap.size) (by simp) L x d.nd d.low d.live (fun g a _=> ?_);have m:Shut B x g:=⟨a.os,a.tape,a.output,a.size,a.oth,fun b s=>a.low b (yK s H.bsz),a.cell⟩
  have k:=D.shut m;obtain⟨v,Q,l⟩:=mL k (q.shut m) r;show ∃v,(results fn C.tmps).run P g= .ok v g∧R (.returned v) g;exact⟨v,Q,J v g (hex.ends a) k l⟩
 rcases K with rfl|rfl
 ·obtain rfl:=I.normal
  exact o _ fun v g c1 t z=>⟨v,p,rfl,c1,t,z⟩
 ·obtain rfl:=I.ret
  exact o _ fun v g c1 t z=>⟨v,p,rfl,c1,t,z⟩
theorem BF(hm:jP P){f:Nat}{fn:Func}{c:Code}{args:List AV}{x:AV}{h h':aa}(r:P.funcs[f]? =some fn)(k:fn.body=some c)(D:(fn.name== "runtime.NumGoroutine")=false)(z:args.length≤fn.ntmps)
    (o:∀X:cA,X.P=P→X.N=fn.ntmps→AW X c ⟨hE args,h⟩ fun e S'=>e= .panic x∧S'.heap=h'):iW P f args h x h':=by
 refine⟨⟨fn,r,by rw[k];rfl,D⟩,fun G B w0 I0 w l s A g=>callsIn_wide.1 (callsIn_of_wp_marks (F:=FF none) (n:=0) r k trivial ?_)⟩
 let X:cA:=⟨P,B,w0,I0,fn.ntmps,hm,none,w.heap.size,[]⟩
 refine wpIn_mono (o X rfl rfl _ _ _ (kZ (hm:=hm) s A z g)) ?_;rintro e t m ⟨I,S',E,H,⟨rfl,rfl⟩,hex,q,u,p,d⟩;obtain⟨v,rfl,C⟩:=H.panic;show LeavesInM (FF none) 0 P fn t.tmps _ t.defers (.panicking _) m;rw[p.nod];refine d6 (B:=w.heap.size) (by simp) u m d.nd d.low d.live (fun y a _=> ?_);have i:Shut B m y:=⟨a.os,a.tape,a.output,a.size,a.oth,fun b k=>a.low b (yK k s.bsz),a.cell⟩
 exact⟨v,E,rfl,hex.ends a,q.shut i,C.shut i⟩
theorem pq{F:Fence}{n:Nat}{cs:List Frame}:∀(f:List Nat)(fr:Frame)(w:World),fr.mode≠ .run→fr.defers=gm f→f.Nodup→(∀b∈f,w.heap[b]? =some (.deferred (some [])))→∀B,(∀b∈f,B≤b)→F.fn fr.fn→F.room (cs.length+1+n)→
    ∃k,Shut B w k∧StepsIn (Machine.fenced P F) P (lone fr cs w) (lone {fr with defers:=[]} cs k)
 |[],fr,w,_,l,_,_,B,_,_,_=>⟨w,Shut.refl B w,by
  have:({fr with defers:=[]}:Frame)=fr:=by cases fr;cases l;rfl
  rw[this];exact StepsIn.refl _⟩
 |b::f,fr,w,hm,l,i,a,B,c,r,s=>by
  have q:=a b (by simp);rw[zJ]at i;have h:=run_takeDeferred (P:=P) q;have t:=step_collected (P:=P) (cs:=cs) (d:={target:= .collected b,args:= #[]}) (ds:=gm f) hm l rfl h;have y:(lone fr cs w).fenced P F:=fenced_out (n:=n) r s hm l (fun g v=>by simp[Target.leads]at v)
  obtain⟨k,u,p⟩:=pq f {fr with defers:=[] ++gm f} (w.putObj b (.deferred none)) hm rfl i.2 (fun x m=>by
   have o:x≠b:=fun e=>i.1 (e▸m)
   rw[World.putObj_heap_other o];exact a x (by simp[m])) B (fun x m=>c x (by simp[m])) r s
  exact⟨k,(Shut.put q rfl rfl (c b (by simp))).trans u, .head y t p⟩
def Rh(P:Program)(g:Nat)(args:List AV)(x:Option AV)(h h':aa):Prop:=
 ct P g∧∀(G:Gh)(B:Nat)(w0:World)(I0:Nat→Nat→Prop)(w:World)(a:Array Value)(u:FrameMode),HR G B w0 I0 h w→a.size=args.length→
  (∀(i:Nat)(x:AV)(u:Value),args[i]? =some x→a[i]? =some u→Rep G w x u)→
  (match x with|none=>u= .returning|some x=>∃v,u= .panicking [{v,recovered:=false}]∧Rep G w x v)→
  CallsDIn (FF none) 0 P g a u w fun e d b=>∃f c,e= .returned f∧settle d= .returning∧Ext G w c b∧HR c B w0 I0 h' b
theorem tE{o:Oper}{d:Nat}{u:Operand}(h:Kg o=some (d,u)):o.guard=none∧o.dst=some d∧∀(P:Program)(ρ:Operand→Value)(w:World),(execOp ρ o).run P w= .ok (.value (ρ u)) w:=by
 unfold Kg at h;split at h
 ·rename_i b c a
  simp only[xA,xG]at h;obtain⟨rfl,rfl⟩:=h;exact⟨b,c,fun P ρ w=>by unfold execOp;rw[a];rfl⟩
 ·rename_i b c a
  simp only[xA,xG]at h;obtain⟨rfl,rfl⟩:=h;exact⟨b,c,fun P ρ w=>by unfold execOp;rw[a];rfl⟩
 ·cases h
theorem EK{o:Oper}{d:Nat}(h:Gf o=some d):∃c,o.guard=none∧o.dst=some d∧o.op= .call c∧c.callee= .builtin .recover:=by
 unfold Gf at h;split at h
 ·rename_i g c b f a
  split at h
  ·rename_i e
   simp only[xA]at h;subst h;exact⟨c,b,f,a,e⟩
  ·cases h
 ·cases h
theorem tF{o:Oper}{f:Operand}{Y0:List Operand}(h:Kh o=some (f,Y0)):∃c,o.guard=none∧o.dst=none∧o.op= .defer c∧c.callee= .value f∧c.args.toList=Y0:=by
 unfold Kh at h;split at h
 ·rename_i c d b a
  split at h
  ·rename_i f' e
   simp only[xA,xG]at h;obtain⟨rfl,rfl⟩:=h;exact⟨c,d,b,a,e,rfl⟩
  ·cases h
 ·cases h
theorem CX{G:Gh}{w:World}{N:Nat}{f:List Deferred}{env b:Nat→AV}{a:Act}{e:Option (Nat×Operand)}(c:FR G w N f env a)(g:Globs G.imm w)(hm:Rf N e env=some b):FR G w N f b (po e a):=by
 cases e with
 |none=>cases hm;exact c
 |some p=>
  obtain⟨d,u⟩:=p;exact c.put (dst:=some d) (x:=opd env u) hm (c.opd g u)
theorem Gj{x:Code}{q:Option (Nat×Operand)}{f:Operand}{Y0:List Operand}(h:p8 x=some (q,f,Y0)):∃(o:Oper)(c:Call),o.op= .defer c∧c.callee= .value f∧c.args.toList=Y0∧
    ∀(P:Program)(a:Act)(w:World)(Q:Exit→Act→World→Prop)(d:Deferred),(execOp (po q a).eval o).run P w= .ok (.defer d) w→Q .normal {po q a with defers:=d::(po q a).defers} w→x.wpIn (FF none) 0 P Q a w:=by
 unfold p8 at h;split at h
 ·rename_i id p
  split at h
  ·rename_i o A
   simp only[xB,xG]at h;obtain⟨r,H,rfl,rfl⟩:=h;obtain⟨c,s,y,l,E,i⟩:=tF (f:=f) (Y0:=Y0) H;refine⟨o,c,l,E,i,fun P a w Q d e D=> ?_⟩;rw[show p= #[o]from by rw[←zQ];exact A];refine wpIn_region ?_;have n:List.range (#[o]:Array Oper).size=[0]:=rfl;rw[n,wpOpsIn_cons];unfold wpOpIn;have k:(#[o]:Array Oper)[0]? =some o:=rfl;simp only[k];have b:Region.wanted o (yielded #[o] a.tmps)=true:=by simp[Region.wanted,s]
   rw[x9 b];refine⟨fun _ _=>trivial, ?_⟩;rw[show(FF none).round=none from rfl,Oper.semAt_none];rw[show(execOp a.eval o).run P w= .ok (.defer d) w from e,Oper.uponIn_defer,y];exact D
  ·rename_i m o A
   split at h;case h_2=>cases h
   rename_i C r hm t;simp only[xA,xG]at h;obtain⟨rfl,rfl⟩:=h;obtain⟨c,s,y,l,E,i⟩:=tF (f:=f) (Y0:=Y0) t;obtain⟨G,u⟩:=C;obtain⟨v,B,F⟩:=tE hm;refine⟨o,c,l,E,i,fun P a w Q d e D=> ?_⟩;rw[show p= #[m,o]from by rw[←zQ];exact A];refine wpIn_region ?_;have n:List.range (#[m,o]:Array Oper).size=[0,1]:=rfl;rw[n,wpOpsIn_cons];unfold wpOpIn;have k:(#[m,o]:Array Oper)[0]? =some m:=rfl;simp only[k];have b:Region.wanted m (yielded #[m,o] a.tmps)=true:=by simp[Region.wanted,v]
   rw[x9 b];refine⟨fun _ _=>trivial, ?_⟩;rw[show(FF none).round=none from rfl,Oper.semAt_none,F,Oper.uponIn_value,B,wpOpsIn_cons];unfold wpOpIn;have z:(#[m,o]:Array Oper)[1]? =some o:=rfl;simp only[z];have g:Region.wanted o (yielded #[m,o] (a.put (some G) (a.eval u)).tmps)=true:=by simp[Region.wanted,s]
   rw[x9 g];refine⟨fun _ _=>trivial, ?_⟩;rw[show(FF none).round=none from rfl,Oper.semAt_none];rw[show(execOp (a.put (some G) (a.eval u)).eval o).run P w= .ok (.defer d) w from e,Oper.uponIn_defer,y];exact D
  ·cases h
 ·cases h
theorem zd{fn:Func}{args:List AV}{G:Gh}{w:World}{a:Array Value}(e:a.size=args.length)(h:args.length≤fn.ntmps)(b:∀(i:Nat)(x:AV)(u:Value),args[i]? =some x→a[i]? =some u→Rep G w x u):
    FR G w fn.ntmps [] (hE args) {tmps:=a ++Array.replicate (fn.ntmps-a.size) undef,defers:=[]}:=by
 refine⟨?_,rfl, ?_, ?_⟩
 ·show(a ++Array.replicate (fn.ntmps-a.size) undef).size=fn.ntmps
  simp[e];omega
 ·intro t _
  show Rep _ _ ((args[t]?).getD .junk) ((a ++Array.replicate (fn.ntmps-a.size) undef).getD t undef);cases d:args[t]? with
  |none=>exact .junk _
  |some x=>
   have c:t<a.size:=by rw[e];exact(xE.1 d).1
   have f:a[t]? =some a[t]:=xJ c;rw[xq,yT c,f];exact b t x _ d f
 ·intro t g
  show(args[t]?).getD .junk= .junk;rw[yk (by omega)];rfl
theorem rh{x:Code}{d:Nat}{C:Option (Nat×Operand)}(h:lI x=some (d,C)){a:Act}{cs cs':List Frame}{w:World}{v:Value}{Q:Exit→Act→List Frame→World→Prop}(p:recoverD cs=some (v,cs')∨(recoverD cs=none∧v= .nilIface∧cs'=cs))(F:Q .normal (po C (a.put (some d) v)) cs' w):x.wpSIn (FF none) 0 P Q a cs w:=by
 have g:∀{o:Oper},Gf o=some d→∀(b:Array Oper)(f:List Nat)(i:Nat),b[i]? =some o→wpOpsSIn (FF none) 0 P b Q f (a.put (some d) v) cs' w→wpOpsSIn (FF none) 0 P b Q (i::f) a cs w:=by
  intro o n b f i H E;obtain⟨c,G,l,A,q⟩:=EK n
  have k:(execOp a.eval o).run P w= .ok .recover w:=by
   unfold execOp;rw[A];exact(dT c _ o.type a.eval q).trans rfl
  unfold wpOpsSIn;simp only[H];refine⟨fun _ _=>trivial, ?_⟩;have e:Region.wanted o (yielded b a.tmps)=true:=by simp[Region.wanted,G]
  rw[x9 e,k,l];rcases p with p|⟨p,rfl,rfl⟩
  ·rw[p];exact E
  ·rw[p];exact E
 unfold lI at h;split at h
 ·rename_i id b
  split at h
  ·rename_i o n
   simp only[xB,xG]at h;obtain⟨D,y,rfl,rfl⟩:=h;rw[show b= #[o]from by rw[←zQ];exact n];refine wpSIn_region ?_;rw[show List.range (#[o]:Array Oper).size=[0]from rfl];exact g y _ _ 0 rfl (by unfold wpOpsSIn;exact F)
  ·rename_i o m n
   split at h;case h_2=>cases h
   rename_i D z y hm;simp only[xA,xG]at h;obtain⟨rfl,rfl⟩:=h;obtain⟨I,u⟩:=z;obtain⟨r,t,B⟩:=tE hm;rw[show b= #[o,m]from by rw[←zQ];exact n];refine wpSIn_region ?_;rw[show List.range (#[o,m]:Array Oper).size=[0,1]from rfl];refine g y _ _ 0 rfl ?_;unfold wpOpsSIn;have s:(#[o,m]:Array Oper)[1]? =some m:=rfl;simp only[s];refine⟨fun _ _=>trivial, ?_⟩;have e:Region.wanted m (yielded #[o,m] (a.put (some D) v).tmps)=true:=by simp[Region.wanted,r]
   rw[x9 e,B,t];unfold wpOpsSIn;exact F
  ·cases h
 ·cases h
theorem BG(hm:jP P)(hn:eu P){ex:za}(hex:CW P ex){M g:Nat}{args:List AV}{x:Option AV}{h h':aa}{b2:Nat}{tk:List Nat}(p:Gg P ex M g args x h=some (h',b2,tk)):
    Rh P g args x h h'∧∀k,k∉tk→h' k=h k:=by
 unfold Gg at p;split at p
 ·cases p
 rename_i fn hf;split at p;case h_2=>cases p
 rename_i r c hb;split at p;case h_2=>cases p
 rename_i d mv hd;split at p;case isFalse=>cases p
 rename_i O;obtain⟨hl,hdn,hres⟩:=O;split at p;case h_2=>cases p
 rename_i I hmv
 have key:∃e S',ex g M fn.ntmps c ⟨I,h⟩=some (e,S',b2,tk)∧(e= .normal∨e= .ret)∧S'.heap=h':=by
  split at p
  ·rename_i S' b' tk' he
   simp only[xA,xG]at p;obtain⟨rfl,rfl,rfl⟩:=p;exact⟨_,S',he, .inl rfl,rfl⟩
  ·rename_i S' b' tk' he
   simp only[xA,xG]at p;obtain⟨rfl,rfl,rfl⟩:=p;exact⟨_,S',he, .inr rfl,rfl⟩
  ·cases p
 obtain⟨e,S',he,hee,rfl⟩:=key;obtain⟨q1,q2⟩:=hex _ _ _ _ _ _ _ _ _ he;refine⟨⟨⟨fn,hf,by rw[hb];rfl,hn.1 g fn hf⟩,fun G B w0 I0 w i u hr hs S hu=> ?_⟩,q2⟩;have hfr0:=zd hs hl S
 let X:cA:=⟨P,B,w0,I0,fn.ntmps,hm,none,w.heap.size,[]⟩
 have A:∀tm l,∃v,(results fn tm).run P l= .ok v l:=fun tm l=>by
  have hr0:fn.results= #[]:=Array.isEmpty_iff.1 hres;refine⟨.tuple #[], ?_⟩;simp[results,hr0]
 have J:∀(v:Value)(C:FrameMode)(Q:AV),Rep G w Q v→x.getD (.d .nili)=Q→settle C= .returning→∀(f:Frame)(cs:List Frame),
     c.wpIn (FF none) 0 P (fun e a q=>∃E o y,XRep y q E e∧(E= .normal∨E= .ret)∧o.heap=S'.heap∧Ext G w y q∧ff X y o a q) (po mv (({tmps:=i ++Array.replicate (fn.ntmps-i.size) undef,defers:=[]}:Act).put (some d) v)) w:=by
  intro v C Q hv hx K f cs
  have hH:ff X G ⟨I,h⟩ (po mv (({tmps:=i ++Array.replicate (fn.ntmps-i.size) undef,defers:=[]}:Act).put (some d) v)) w:=by
   refine⟨hr,[], ?_,y8,fun _ h=>(by cases h),fun _ h=>(by cases h),fun _ h=>(by cases h),xS _⟩;have:=hfr0.put (dst:=some d) (x:=Q) (v:=v) (env':=aJ (hE args) d Q) (by simp only[eO];rw[x9 hdn]) hv;exact CX this hr.maps.glob (by rw[←hx];exact hmv)
  refine wpIn_mono (q1 X rfl rfl G _ w hH) ?_;rintro e U q ⟨E,o,y,xr,⟨rfl,rfl⟩,e1,W⟩;exact⟨E,o,y,xr,hee,rfl,e1,W⟩
 refine⟨trivial,fun f cs T s=> ?_⟩
 let b:Frame:={(default:Frame)with fn:=g,kind:= .deferred,roundOf:=none}
 have H:Frame.enter P g i .deferred=
     b.atR {tmps:=i ++Array.replicate (fn.ntmps-i.size) undef,defers:=[]} [.code (.seq r c)]:=by
  simp[Frame.enter,Frame.atR,hf,hb,b]
 have V:∃(C:FrameMode),settle C= .returning∧(Code.seq r c).wpSIn (FF none) 0 P (fun e a cs' q=>cs'={f with mode:=C}::cs∧∃E o y,XRep y q E e∧(E= .normal∨E= .ret)∧o.heap=S'.heap∧Ext G w y q∧ff X y o a q)
     {tmps:=i ++Array.replicate (fn.ntmps-i.size) undef,defers:=[]} (f::cs) w:=by
  cases x with
  |none=>
   obtain rfl:u= .returning:=hu;refine⟨.returning,rfl,wpSIn_seq (rh hd (.inr ⟨by simp[recoverD,T],rfl,rfl⟩) ?_)⟩;have hc0:({f with mode:= .returning}:Frame)=f:=by cases f;cases T;rfl
   rw[hc0];exact wpSIn_of_wpIn rfl (wpIn_mono (J .nilIface .returning (.d .nili) (.d .nili) rfl rfl f cs) fun e a q W=>⟨rfl,W⟩)
  |some Q=>
   obtain⟨v,rfl,hv⟩:=hu;refine⟨.panicking [{v,recovered:=true}],rfl,wpSIn_seq (rh hd (cs':={f with mode:= .panicking [{v,recovered:=true}]}::cs) (v:=v) (.inl (by simp[recoverD,T])) ?_)⟩;exact wpSIn_of_wpIn rfl (wpIn_mono (J v (.panicking [{v,recovered:=true}]) Q hv rfl rfl f cs) fun e a q W=>⟨rfl,W⟩)
 obtain⟨C,K,V⟩:=V;obtain⟨e,U,cs',q,hlen,⟨rfl,E,o,y,xr,he',R,e1,hr2,bs,hfr,t⟩,D⟩:=V b [] rfl rfl trivial s;rw[←H]at D
 have Z:∀fr:Frame,fr.mode= .returning→fr.defers=gm bs→fr.kind= .deferred→fr.fn=g→fr.tmps=U.tmps→
     ∃l z,Shut w.heap.size q l∧StepsIn (Machine.fenced P (FF none)) P (lone fr ({f with mode:=C}::cs) q) (lone {fr with defers:=[]} ({f with mode:=C}::cs) l)∧({fr with defers:=[]}:Frame).going P l (.returned z):=by
  intro fr h1 h2 h3 h4 h5;obtain⟨l,g1,Y⟩:=pq (P:=P) (F:=FF none) (n:=0) (cs:={f with mode:=C}::cs) bs fr q (by rw[h1];simp) h2 t.nd t.live w.heap.size t.low trivial s;obtain⟨z,hvv⟩:=A U.tmps l;exact⟨l,z,g1,Y,h1,rfl,fn,by rw[←hf,←h4],by rw[←hvv,←h5]⟩
 have N:∀l,Shut w.heap.size q l→∀z:Value,∃vv' y,Ending.returned z= .returned vv'∧settle C= .returning∧Ext G w y l∧HR y B w0 I0 S'.heap l:=fun l m z=>by
  have hsB:Shut B q l:=⟨m.os,m.tape,m.output,m.size,m.oth,fun b hb=>m.low b (yK hb hr.bsz),m.cell⟩
  exact⟨z,y,rfl,K,e1.ends m,R▸hr2.shut hsB⟩
 have L:U.defers=gm bs:=by rw[hfr.nod];exact yF _
 rcases he' with rfl|rfl
 ·obtain rfl:=xr.normal
  obtain⟨l,z,g1,Y,g3⟩:=Z {b.atR U []with mode:= .returning} rfl L rfl rfl rfl;exact⟨.returned z,C,l,_,N l g1 z,StepsIn.trans (StepsIn.trans D (.one (fenced_calm (fr:=b.atR U []) trivial (hlen▸s) rfl) (stepR_end rfl))) Y,rfl,rfl,g3⟩
 ·obtain rfl:=xr.ret
  obtain⟨todo,hs⟩:=D.1 rfl;obtain⟨l,z,g1,Y,g3⟩:=Z {b.atR U todo with mode:= .returning} rfl L rfl rfl rfl;exact⟨.returned z,C,l,_,N l g1 z,StepsIn.trans hs Y,rfl,rfl,g3⟩
def mh(P:Program)(B:Nat)(w0:World)(I0:Nat→Nat→Prop)(G:Gh)(w:World)(y:BD)(h':aa)(e:Ending)(b:World):Prop:=
 match y with
 | .ret c=>∃v a,e= .returned v∧Ext G w a b∧HR a B w0 I0 h' b∧Rep a b (iV c) v
 | .pan x=>∃v a,e= .panicked [{v,recovered:=false}]∧Ext G w a b∧HR a B w0 I0 h' b∧Rep a b x v
theorem ri{X:cA}{fn:Func}{G0:Gh}{w0:World}(n:w0.heap.size=X.s0)(hB:X.B≤X.s0)(t:X.dl=[]){e:aA}{S':St}{N:Nat}{tk:List Nat}{y:BD}{h':aa}{K:Nat}{w:List Nat}
    (l:je X.P fn.results.toList (some (e,S',N,tk))=some (y,h',K,w)) {r:Gh} {g:World} {H:Exit} {k:Act} (E:XRep r g e H) (F:Ext G0 w0 r g) (J:ff X r S' k g):
    bodyPostM (FF none) 0 X.P fn (mh X.P X.B X.w0 X.I0 G0 w0 y h') H k g:=by
 obtain⟨G,L,m,c⟩:=J;rw[t]at m
 have q:∀{R:Ending→World→Prop}{u:FrameMode},u≠ .run→(∀d,Shut X.s0 g d→LeavesInM (FF none) 0 X.P fn k.tmps R [] u d)→LeavesInM (FF none) 0 X.P fn k.tmps R k.defers u g:=fun O M=>by
  rw[m.nod];exact d6 (B:=X.s0) O L g c.nd c.low c.live (fun d a _=>M d a)
 have h:∀i,lW X.P S' fn.results.toList=some i→h'=S'.heap→y= .ret i→LeavesInM (FF none) 0 X.P fn k.tmps (mh X.P X.B X.w0 X.I0 G0 w0 y h') k.defers .returning g:=by
  rintro i s rfl rfl;refine q (by simp) (fun d a=> ?_);have f:Shut X.B g d:=⟨a.os,a.tape,a.output,a.size,a.oth,fun b z=>a.low b (yK z hB),a.cell⟩
  have o:=G.shut f;obtain⟨v,C,p⟩:=mL o (m.shut f) s;show ∃v,(results fn k.tmps).run X.P d= .ok v d∧mh X.P X.B X.w0 X.I0 G0 w0 (.ret i) S'.heap (.returned v) d;exact⟨v,C,v,r,rfl,F.ends (n.symm▸a),o,p⟩
 cases e with
 |normal=>
  obtain rfl:=E.normal;simp only[je,xB,xG]at l;obtain⟨i,A,h2,D,I,Q⟩:=l;exact h i A D.symm h2.symm
 |ret=>
  obtain rfl:=E.ret;simp only[je,xB,xG]at l;obtain⟨i,A,h2,D,I,Q⟩:=l;exact h i A D.symm h2.symm
 |panic x=>
  obtain⟨v,rfl,C⟩:=E.panic;simp only[je,xA,xG]at l;obtain⟨rfl,rfl,rfl,rfl⟩:=l;refine q (by simp) (fun d a=> ?_);have f:Shut X.B g d:=⟨a.os,a.tape,a.output,a.size,a.oth,fun b z=>a.low b (yK z hB),a.cell⟩
  exact⟨v,r,rfl,F.ends (n.symm▸a),G.shut f,C.shut f⟩
 |exit id=>simp[je]at l
theorem pr(hm:jP P)(hn:eu P){ex:za}(hex:CW P ex){T:Nat}{fn:Func}{B:Nat}{w0:World}{I0:Nat→Nat→Prop}{G0:Gh}{w00:World}(hBs:B≤w00.heap.size):∀(c:Code)(z:Nat)(S:St)(y:BD)(h':aa)(b2:Nat)(tk:List Nat),
    tB P ex T fn.ntmps fn.results.toList c z S=some (y,h',b2,tk)→(∀k,k∉tk→h' k=S.heap k)∧
    ∀G a w,Ext G0 w00 G w→ff ⟨P,B,w0,I0,fn.ntmps,hm,none,w00.heap.size,[]⟩ G S a w→c.wpIn (FF none) 0 P (bodyPostM (FF none) 0 P fn (mh P B w0 I0 G0 w00 y h')) a w:=by
 intro c
 have hP:∀(c:Code)(z:Nat)(S:St)(y:BD)(h':aa)(b2:Nat)(tk:List Nat),je P fn.results.toList (ex T z fn.ntmps c S)=some (y,h',b2,tk)→(∀k,k∉tk→h' k=S.heap k)∧
     ∀G a w,Ext G0 w00 G w→ff ⟨P,B,w0,I0,fn.ntmps,hm,none,w00.heap.size,[]⟩ G S a w→c.wpIn (FF none) 0 P (bodyPostM (FF none) 0 P fn (mh P B w0 I0 G0 w00 y h')) a w:=by
  intro c z S y h' b2 tk h;cases m:ex T z fn.ntmps c S with
  |none=>rw[m]at h;simp[je]at h
  |some r=>
   obtain⟨e,S',b',F⟩:=r;rw[m]at h;obtain⟨q1,q2⟩:=hex _ _ _ _ _ _ _ _ _ m
   have t:h'=S'.heap∧∀k,k∉tk→k∉F:=by
    cases e with
    |normal=>simp only[je,xB,xG]at h;obtain⟨rs,h1,h2,D,h4,U⟩:=h;exact⟨D.symm,fun k t m=>t (by rw[←U];exact yP _ m)⟩
    |ret=>simp only[je,xB,xG]at h;obtain⟨rs,h1,h2,D,h4,U⟩:=h;exact⟨D.symm,fun k t m=>t (by rw[←U];exact yP _ m)⟩
    |panic x=>simp only[je,xA,xG]at h;obtain⟨h2,D,h4,U⟩:=h;exact⟨D.symm,fun k t=>U▸t⟩
    |exit id=>simp[je]at h
   refine⟨fun k hkk=>by rw[t.1];exact q2 k (t.2 k hkk),fun G a w e0 Q=>wpIn_mono (q1 _ rfl rfl G a w Q) ?_⟩;rintro ec Z O ⟨e',I,G',N,⟨rfl,rfl⟩,V,K⟩;exact(ri (X:=⟨P,B,w0,I0,fn.ntmps,hm,none,w00.heap.size,[]⟩) rfl hBs rfl h N (e0.trans V) K)
 induction c with
 |seq x y _ ihy=>
  intro z S yw h' b2 tk h;simp only[tB]at h;split at h
  ·rename_i mv f Y0 hdef
   split at h;case h_2=>cases h
   rename_i env1 hmv;split at h;case h_2=>cases h
   rename_i g caps hf;split at h;case h_2=>cases h
   rename_i e S2 b2' F m;split at h;case h_2=>cases h
   rename_i pv W;split at h;case h_2=>cases h
   rename_i r hr;obtain⟨D,b3,tk3⟩:=r;simp only[xB,xG]at h;obtain⟨rs,hres,rfl,rfl,rfl,rfl⟩:=h;obtain⟨q1,q2⟩:=hex _ _ _ _ _ _ _ _ _ m;obtain⟨⟨hcb,d1⟩,d2⟩:=BG hm hn hex hr
   refine⟨fun k t=>by
    simp only[xZ,zM]at t;exact(d2 k t.2.1).trans (q2 k t.1),fun G a w e0 Q=> ?_⟩
   obtain⟨o,c,hop,hcal,rfl,hwp⟩:=Gj hdef;obtain⟨Y,bs,A,C⟩:=Q;have A:=CX A Y.maps.glob hmv;have hwp:=hwp P a w;generalize po mv a=E at A hwp;have hnil:E.defers=gm bs:=by rw[A.nod];exact yF _
   obtain⟨vs,hfv,hvl,hcr⟩:∃vs:Array Value,E.eval f= .func (.func g) #[] vs∧vs.size=caps.length∧∀(i:Nat)(x:AV)(u:Value),caps[i]? =some x→vs[i]? =some u→Rep G w x u:=by
    have L:=A.opd Y.maps.glob f;rw[hf]at L;generalize E.eval f=vf at L;cases L with
    |fn _ _ vs hl Q=>exact⟨vs,rfl,hl,Q⟩
   let d:Deferred:={target:= .fn (.func g) vs,args:=c.args.map E.eval}
   have hrun:(execOp E.eval o).run P w= .ok (.defer d) w:=by
    unfold execOp;rw[hop];simp only[resolve,hcal,hfv];simp[go_sem,d]
   refine wpIn_seq (hwp _ d hrun ?_);show y.wpIn (FF none) 0 P (bodyPostM (FF none) 0 P fn (mh P B w0 I0 G0 w00 (.ret rs) D)) {E with defers:=d::E.defers} w
   let X2:cA:=⟨P,B,w0,I0,fn.ntmps,hm,none,w.heap.size,d::gm bs⟩
   have hH2:ff X2 G ⟨env1,S.heap⟩ {E with defers:=d::E.defers} w:=⟨Y,[],⟨A.size,by show d::E.defers=gm [] ++(d::gm bs);rw[hnil];rfl,A.rep,A.out⟩,y8,fun _ h=>(by cases h),fun _ h=>(by cases h),fun _ h=>(by cases h),xS _⟩
   refine wpIn_mono (q1 X2 rfl rfl G _ w hH2) ?_;rintro ec Z O ⟨e',I,G',N,⟨rfl,rfl⟩,V,hr2,bs2,hfr2,s⟩;have hsz:w00.heap.size≤w.heap.size:=e0.size
   have H:∀u:FrameMode,u≠ .run→(match pv with|none=>u= .returning|some x=>∃v,u= .panicking [{v,recovered:=false}]∧Rep G' O x v)→
       LeavesInM (FF none) 0 P fn Z.tmps (mh P B w0 I0 G0 w00 (.ret rs) D) Z.defers u O:=by
    intro u hu J;rw[show Z.defers=gm bs2 ++(d::gm bs)from hfr2.nod];refine d6 (B:=w.heap.size) hu bs2 O s.nd s.low s.live (fun w2 l hoth=> ?_);have R:Shut B O w2:=⟨l.os,l.tape,l.output,l.size,l.oth,fun b hb=>l.low b (by omega),l.cell⟩
    have hs00:Shut w00.heap.size O w2:=⟨l.os,l.tape,l.output,l.size,l.oth,fun b hb=>l.low b (by omega),l.cell⟩
    have hinv:(invoke d.target d.args).run P w2= .ok (.enter g (c.args.map E.eval ++vs)) w2:=by
     have:=dq hcb (c.args.map E.eval ++vs) w2;simpa [invoke,d]using this
    refine⟨hu, .inr ⟨fun x=>(by cases x), .func g,vs,g,c.args.map E.eval ++vs,rfl,hinv,fun _ _=>trivial, ?_⟩⟩
    have hcall:=d1 G' B w0 I0 w2 (c.args.map E.eval ++vs) u (hr2.shut R) (by simp[hvl]) (fun i x v m M=>by
     have h0:Rep G w x v:=by
      rcases yJ i c.args.size with hlt|hge
      ·rw[xU (by simpa using hlt)]at m
       rw[yT (by simpa using hlt)]at M;simp only[xP,xe,xB]at m;simp only[yy,xB]at M;obtain⟨p,hp,rfl⟩:=m;obtain⟨q,hq,rfl⟩:=M;rw[hp]at hq;cases hq;exact A.opd Y.maps.glob p
      ·rw[xV (by simpa using hge)]at m
       rw[Array.getElem?_append_right (by simpa using hge)]at M;simp only[xO,xg]at m;simp only[Array.size_map]at M;exact hcr _ x v m M
     exact(h0.mono V).shut R) (by
      cases pv with
      |none=>exact J
      |some xv=>
       obtain⟨v,h1,h2⟩:=J;exact⟨v,h1,h2.shut R⟩)
    refine hcall.mono ?_;rintro e3 u' w3 ⟨vv,G3,rfl,hset,e3,hr3⟩;show LeavesInM (FF none) 0 P fn Z.tmps (mh P B w0 I0 G0 w00 (.ret rs) D) (gm bs) (settle u') w3;rw[hset,←yF (gm bs)];refine d6 (B:=w00.heap.size) (by simp) bs w3 C.nd C.low (fun b hb=> ?_) (fun w4 n _=> ?_)
    ·have l0:=C.live b hb
     have hlt:=(xQ.1 l0).1
     have l1:O.heap[b]? =some (.deferred (some [])):=by
      obtain⟨o,h1,h2⟩:=V.kept b _ rfl l0;cases h2;exact h1
     have l2:w2.heap[b]? =some (.deferred (some [])):=by
      rw[hoth b (fun m=>by have:=s.low b m;have h2:X2.s0=w.heap.size:=rfl;omega)];exact l1
     obtain⟨o,h1,h2⟩:=e3.kept b _ rfl l2;cases h2;exact h1
    ·have hsB4:Shut B w3 w4:=⟨n.os,n.tape,n.output,n.size,n.oth,fun b hb=>n.low b (by omega),n.cell⟩
     have hr4:=hr3.shut hsB4;have hfr4:=((hfr2.shut R).mono e3).shut hsB4;obtain⟨v,M,hret⟩:=mL (S:=⟨I.env,D⟩) hr4 hfr4 hres;show ∃v,(results fn Z.tmps).run P w4= .ok v w4∧mh P B w0 I0 G0 w00 (.ret rs) D (.returned v) w4;exact⟨v,M,v,G3,rfl,((((e0.trans V).ends hs00).trans e3).ends n),hr4,hret⟩
   cases e' with
   |normal=>obtain rfl:=N.normal;cases W;exact H .returning (by simp) rfl
   |ret=>obtain rfl:=N.ret;cases W;exact H .returning (by simp) rfl
   |panic x=>obtain⟨v,rfl,M⟩:=N.panic;cases W;exact H _ (by simp) ⟨v,rfl,M⟩
   |exit id=>cases W
  ·split at h
   ·rename_i S1 b1 tk1 m
    split at h;case h_2=>cases h
    rename_i r hr;obtain⟨r1,r2,r3,r4⟩:=r;simp only[xA,xG]at h;obtain⟨rfl,rfl,rfl,rfl⟩:=h;obtain⟨q1,q2⟩:=hex _ _ _ _ _ _ _ _ _ m;obtain⟨p1,p2⟩:=ihy _ _ _ _ _ _ hr
    refine⟨fun k t=>by
     simp only[xZ,zM]at t;exact(p1 k t.2).trans (q2 k t.1),fun G a w e0 Q=>wpIn_seq (wpIn_mono (q1 _ rfl rfl G a w Q) ?_)⟩
    rintro ec Z O ⟨e',I,G',N,⟨rfl,rfl⟩,V,K⟩;obtain rfl:=N.normal;exact p2 G' Z O (e0.trans V) K
   ·rename_i hne
    cases m:ex T z fn.ntmps x S with
    |none=>rw[m]at h;simp[je]at h
    |some r=>
     obtain⟨e,S',b',F⟩:=r;rw[m]at h;obtain⟨q1,q2⟩:=hex _ _ _ _ _ _ _ _ _ m
     have t:h'=S'.heap∧∀k,k∉tk→k∉F:=by
      cases e with
      |normal=>exact absurd m (hne S' b' F)
      |ret=>simp only[je,xB,xG]at h;obtain⟨rs,h1,h2,D,h4,U⟩:=h;exact⟨D.symm,fun k t m=>t (by rw[←U];exact yP _ m)⟩
      |panic x=>simp only[je,xA,xG]at h;obtain⟨h2,D,h4,U⟩:=h;exact⟨D.symm,fun k t=>U▸t⟩
      |exit id=>simp[je]at h
     refine⟨fun k hkk=>by rw[t.1];exact q2 k (t.2 k hkk),fun G a w e0 Q=>wpIn_seq (wpIn_mono (q1 _ rfl rfl G a w Q) ?_)⟩;rintro ec Z O ⟨e',I,G',N,⟨rfl,rfl⟩,V,K⟩;have fin:=(ri (X:=⟨P,B,w0,I0,fn.ntmps,hm,none,w00.heap.size,[]⟩) rfl hBs rfl h N (e0.trans V) K)
     cases e' with
     |normal=>exact absurd m (hne I b' F)
     |ret=>obtain rfl:=N.ret;exact fin
     |panic x=>obtain⟨v,rfl,M⟩:=N.panic;exact fin
     |exit id=>simp[je]at h
 |_=>exact hP _
theorem uZ(hm:jP P)(q:eu P){t:za}(hex:CW P t){d g:Nat}{args:List AV}{h h':aa}{y:BD}{r:Nat}{tk:List Nat}(e:uV P t d g args h=some (y,h',r,tk)):
    (match y with| .ret z=>ax P g args h z h'| .pan x=>iW P g args h x h')∧∀k,k∉tk→h' k=h k:=by
 unfold uV at e;split at e
 ·cases e
 rename_i fn s;split at e
 ·cases e
 rename_i b v;split at e;case isFalse=>cases e
 rename_i A;have o:ct P g:=⟨fn,s,by rw[v];rfl,q.1 g fn s⟩
 have p:∀(G:Gh)(B:Nat)(w0:World)(I0:Nat→Nat→Prop)(w:World)(a:Array Value),HR G B w0 I0 h w→a.size=args.length→
     (∀(i:Nat)(x:AV)(u:Value),args[i]? =some x→a[i]? =some u→Rep G w x u)→Calls P g a w (mh P B w0 I0 G w y h'):=fun G B w0 I0 w a l m c=>by
  refine callsIn_wide.1 (callsIn_of_wp_marks (F:=FF none) (n:=0) s v trivial ?_);exact(pr hm q hex (B:=B) (w0:=w0) (I0:=I0) (G0:=G) (w00:=w) l.bsz b d _ y h' r tk e).2 G _ w (Ext.refl G w) (kZ (hm:=hm) l m A c)
 have f:=(pr hm q hex (B:=0) (w0:=default) (I0:=fun _ _=>False) (G0:=⟨fun _ _=>False,fun _ _=>none,fun _=>0,fun _ _=>none⟩) (w00:=default) (xz _) b d _ y h' r tk e).1;refine⟨?_,f⟩;cases y with
 |ret z=>exact⟨o,fun G B w0 I0 w a l m c=>p G B w0 I0 w a l m c⟩
 |pan x=>exact⟨o,fun G B w0 I0 w a l m c=>p G B w0 I0 w a l m c⟩
theorem ze{g:Nat}(h:uX g=true):aG.once=some g:=by
 unfold uX at h;split at h
 ·rename_i b a;rw[a,yN h]
 ·cases h
def StepR.tk:StepR→List Nat
 | .go _ _ _ tk=>tk
 | .pan _ _ _ tk=>tk
def StepR.heap:StepR→aa
 | .go S _ _ _=>S.heap
 | .pan _ h _ _=>h
def StepR.at(h2:aa):StepR→StepR
 | .go S a b tk=> .go ⟨S.env,UJ tk S.heap h2⟩ a b tk
 | .pan x h b tk=> .pan x (UJ tk h h2) b tk
def OpsR.tk:OpsR→List Nat
 | .go _ _ _ tk=>tk
 | .pan _ _ _ _ _ tk=>tk
def OpsR.heap:OpsR→aa
 | .go S _ _ _=>S.heap
 | .pan _ _ _ h _ _=>h
def OpsR.at(h2:aa):OpsR→OpsR
 | .go S a b tk=> .go ⟨S.env,UJ tk S.heap h2⟩ a b tk
 | .pan p fts x h b tk=> .pan p fts x (UJ tk h h2) b tk
theorem zf{cfg:hQ}{N:Nat}{a:Array Oper}:∀(l:List Nat)(S S':St)(ob:List Obl)(fts:List Foot),em P cfg N a l S=some (S',ob,fts)→∀t,(mI a).contains t=false→S'.env t=S.env t
 |[],S,S',ob,fts,h,t,_=>by
  simp only[em,xA,xG]at h;rw[h.1]
 |i::l,S,S',ob,fts,h,t,e=>by
  simp only[em]at h;split at h
  ·cases h
  ·rename_i o g
   split at h
   ·cases h
   ·rename_i k d
    split at h
    ·cases h
    ·rename_i m c
     simp only[xA,xG]at h;obtain⟨rfl,rfl,rfl⟩:=h;obtain⟨v,f,b,_⟩:=eF d;rw[zf l _ _ _ _ c t e,i7 b (nq g e)]
end
end Go.Avm
namespace Go.Avm
variable[aG]
def NY:Option (List D)→Bool
 |some [.bool b]=>b
 |_=>false
def N0(P:Program):Bool:=P.funcs.all fun fn=> !(fn.name== "runtime.NumGoroutine")
theorem Gk{P:Program}(h:N0 P=true)(a:uU P):eu P:=⟨fun g fn b=>by
 have:=Array.all_eq_true_iff_forall_mem.1 h fn (yx b);simpa using this,a⟩
end Go.Avm
namespace Go.Avm
open Go.ChangeShapes Go.WideShapes Go.ChangeAt Go.RowKit
variable[aG]
theorem ti{P:Program}{f:Nat}{ds:List D}(hp:al P f ds [.bool true]){w:World}{I:Nat→Nat→Prop}{a:Array Value}(n:Globs I w)(k:∀b o,I b o→b<w.heap.size)(j:a.size=ds.length)
    (c:∀(i:Nat)(x:D)(u:Value),ds[i]? =some x→a[i]? =some u→DRep I w x u):
    Calls P f a w fun e g=>e= .returned (.bool true)∧Below w.heap.size w g:=by
 refine(hp.2 w I a k j c n).mono ?_;rintro e g ⟨v,I',rfl,l,_,_,_,d⟩;rcases d with ⟨x,h,p⟩|⟨m,_⟩
 ·simp only[List.cons.injEq,yr]at h
  subst h;cases p;exact⟨rfl,l⟩
 ·simp at m
section
variable{H:Type}{enc:TypeId×Value→H}{P:Program}
theorem mi(k:laidOutB P=true){W j:World}(g:Below W.heap.size W j):∀{ts:List TypeId}{vs:List Value}{ds:List (DataW H)}{p:List MemPlace},(∀t∈ts,P.readableRec t=true∧t<P.types.size)→
    DataW.TrodAll enc P W 0 (fun _=>true) true ts vs ds p→(∀x∈p,x.block<W.heap.size)→DataW.TrodAll enc P j 0 (fun b=>decide (b<W.heap.size)) true ts vs ds p
 |[],vs,ds,p,_,h,_=>by
  obtain⟨rfl,rfl,rfl⟩:=trodAll_nil h;exact trodAll_mk0
 |t::ts,vs,ds,p,i,h,a=>by
  obtain⟨v,l,d,n,q,r,rfl,rfl,rfl,m,h2⟩:=trodAll_cons h;obtain⟨e,c⟩:=i t (by simp);exact trodAll_cons_mk (Below.trod k e c m g (fun x f=>a x (by simp[f]))) (mi k g (fun t o=>i t (by simp[o])) h2 (fun x f=>a x (by simp[f])))
theorem Gl{f:Func}{s:ChangeSpec}{W v:World}{args:Array Value}{ds z:List (DataW H)}{a:List MemPlace}{tb:TypeId}(w:laidOutB P=true)(r:s.vars=[])(n:s.fn H ds={results:=[.lit (.bool true)],args:=ds})
    (c:f.resultTypes.toList=[tb]) (d:P.underlying tb=some .bool) (e:∀t∈f.params.toList,P.readableRec t=true∧t<P.types.size)
    (g:DataW.Whole enc P f.params.toList s.vars false W args.toList ds z a) (o:Below W.heap.size W v):s.post enc P f false true false false W args (.bool true) v:=by
 have m:∀x∈a,x.block<W.heap.size:=fun x l=>by simpa using g.lt x l
 have k:=g;obtain⟨p,q,y,u,i,_,_⟩:=g;rw[r]at u;obtain⟨rfl,rfl⟩:=trodVars_none u;subst i;have b:s.fn H (ds ++[])={results:=[.lit (.bool true)],args:=ds}:=by rw[yF];exact n
 refine⟨ds,[],p ++[],[],p,[],k, ?_, ?_, ?_, ?_,fun h=>by cases h⟩
 ·rw[b,c]
  have j:f.resultTypes.size=1:=by rw[←xg,c];rfl
  rw[j];exact trodAll_mk1 (shut_bool d true)
 ·rw[b]
  exact mi w o e y (fun x l=>m x (by simp[l]))
 ·rw[b,r]
  rfl
 ·exact o.frame _
end
end Go.Avm
