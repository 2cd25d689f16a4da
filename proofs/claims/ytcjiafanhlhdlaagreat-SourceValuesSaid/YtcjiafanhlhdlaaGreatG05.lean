/-
  The abstract machine, part N: code on abstract states, rule by rule; the contract of a function out of its body.
-/
import Derived.Test.YtcjiafanhlhdlaaGreatG04
import Derived.RangeFuncNested
import Derived.RangeFuncRecord
import Derived.RangeFuncLeaves
set_option linter.unusedVariables false
set_option linter.unusedSimpArgs false
set_option linter.unusedSectionVars false
namespace Go.Avm
open Go.RowKit
variable[ap]
structure bD where
 P:Program
 B:Nat
 w0:World
 I0:Nat→Nat→Prop
 N:Nat
 mixed:d4 P
 rnd:Option Nat:=none
 s0:Nat:=0
 dl:List Deferred:=[]
def dw(a:List Nat):List Deferred:=a.map fun b=>{target:= .collected b,args:= #[]}
structure Side0(X:bD)(w:World)(bs:List Nat):Prop where
 nd:bs.Nodup
 low:∀b∈bs,X.s0≤b
 live:∀b∈bs,w.heap[b]? =some (.deferred (some []))
 book:∀l,X.rnd=some l→∃r,w.heap[l]? =some (.loop r)
 s0:X.s0≤w.heap.size
theorem Side0.mono{X:bD}{G i:Gh}{w c:World}{d:List Nat}(h:Side0 X w d)(e:Ext G w i c):Side0 X c d:=
 ⟨h.nd,h.low,fun b j=>by
  obtain⟨o,a,h2⟩:=e.kept b _ rfl (h.live b j);cases h2;exact a,fun l f=>by
  obtain⟨r,g⟩:=h.book l f;obtain⟨o,a,k,rfl⟩:=e.kept l _ rfl g;exact⟨k,a⟩,y8 h.s0 e.size⟩
def db(X:bD)(G:Gh)(S:St)(a:Act)(w:World):Prop:=HR G X.B X.w0 X.I0 S.heap w∧∃b,FR G w X.N (dw b ++X.dl) S.env a∧Side0 X w b
inductive au where
 |normal
 |exit (id:Nat)
 |ret
 |panic (x:AV)
def XRep(G:Gh)(w:World):au→Exit→Prop
 | .normal, .normal=>True
 | .exit i, .exit j=>i=j
 | .ret, .ret=>True
 | .panic x, .panic a=>∃v,a=[{v,recovered:=false}]∧Rep G w x v
 |_,_=>False
theorem XRep.normal{G:Gh}{w:World}{e:Exit}(h:XRep G w .normal e):e= .normal:=by cases e<;>first|rfl|exact h.elim
theorem XRep.exit{G:Gh}{w:World}{i:Nat}{e:Exit}(h:XRep G w (.exit i) e):e= .exit i:=by cases e<;>first|exact h.elim|(cases h;rfl)
theorem XRep.ret{G:Gh}{w:World}{e:Exit}(h:XRep G w .ret e):e= .ret:=by cases e<;>first|rfl|exact h.elim
theorem XRep.panic{G:Gh}{w:World}{x:AV}{e:Exit}(h:XRep G w (.panic x) e):∃v,e= .panic [{v,recovered:=false}]∧Rep G w x v:=by
 cases e<;>first|exact h.elim|(obtain⟨v,rfl,a⟩:=h;exact⟨v,rfl,a⟩)
theorem XRep.mono{G c:Gh}{w b:World}{a:au}{e:Exit}(h:XRep G w a e)(x:Ext G w c b):XRep c b a e:=by
 cases a<;>cases e<;>first|exact h|(obtain⟨v,d,h2⟩:=h;exact⟨v,d,h2.mono x⟩)
def AW(X:bD)(c:Code)(S:St)(Q:au→St→Prop):Prop:=
 ∀G a w,db X G S a w→c.wpIn (FF X.rnd) 0 X.P (fun e g b=>∃f S' d,XRep d b f e∧Q f S'∧Ext G w d b∧db X d S' g b) a w
def Weak(X:bD)(S S':St):Prop:=∀G a w,db X G S a w→∃b,Ext G w b w∧db X b S' a w
def tE(K:St→Prop)(Q:au→St→Prop):au→St→Prop
 | .normal,S=>K S
 |e,S=>Q e S
def lU(id:Nat)(Q:au→St→Prop):au→St→Prop
 | .exit i,S=>if i=id then Q .normal S else Q (.exit i) S
 |e,S=>Q e S
section
variable{X:bD}{S S':St}{Q f:au→St→Prop}
theorem Weak.refl(S:St):Weak X S S:=fun G a w h=>⟨G,Ext.refl G w,h⟩
theorem Weak.trans{b:St}(h:Weak X S S')(k:Weak X S' b):Weak X S b:=fun G a w e=>by
 obtain⟨c,g,d⟩:=h G a w e;obtain⟨i,j,h2⟩:=k c a w d;exact⟨i,g.trans j,h2⟩
theorem AW.mono{c:Code}(h:AW X c S Q)(d:∀e S,Q e S→f e S):AW X c S f:=fun G a w i=>
 wpIn_mono (h G a w i) fun e k j ⟨b,S',g,x,q,r⟩=>⟨b,S',g,x,d b S' q,r⟩
theorem AW.weak{c:Code}(g:Weak X S S')(h:AW X c S' Q):AW X c S Q:=fun G a w m=>by
 obtain⟨b,k,d⟩:=g G a w m;exact wpIn_mono (h b a w d) fun e o n ⟨j,S',i,x,q,l,r⟩=>⟨j,S',i,x,q,k.trans l,r⟩
theorem cd{x y:Code}(h:AW X x S (tE (fun S'=>AW X y S' Q) Q)):AW X (.seq x y) S Q:=fun G a w t=>by
 refine wpIn_seq (wpIn_mono (h G a w t) ?_);rintro e o g ⟨n,S',b,x,q,c,r⟩;cases n with
 |normal=>
  obtain rfl:=x.normal;exact wpIn_mono (q b o g r) fun e B z ⟨u,k,p,m,j,s,l⟩=>⟨u,k,p,m,j,c.trans s,l⟩
 |exit i=>obtain rfl:=x.exit;exact⟨_,S',b,x,q,c,r⟩
 |ret=>obtain rfl:=x.ret;exact⟨_,S',b,x,q,c,r⟩
 |panic d=>obtain⟨v,rfl,A⟩:=x.panic;exact⟨_,S',b,x,q,c,r⟩
theorem ey{id:Nat}{c:Code}(h:AW X c S (lU id Q)):AW X (.block id c) S Q:=fun G a w l=>by
 refine wpIn_block (wpIn_mono (h G a w l) ?_);rintro e o m ⟨k,S',b,x,q,g,r⟩;cases k with
 |exit i=>
  obtain rfl:=x.exit;simp only[lU]at q;simp only[Exit.inBlock];split at q
  ·rename_i j;rw[xW j];exact⟨.normal,S',b,trivial,q,g,r⟩
  ·rename_i j;rw[xi j];exact⟨_,S',b,x,q,g,r⟩
 |normal=>obtain rfl:=x.normal;exact⟨_,S',b,x,q,g,r⟩
 |ret=>obtain rfl:=x.ret;exact⟨_,S',b,x,q,g,r⟩
 |panic d=>obtain⟨v,rfl,n⟩:=x.panic;exact⟨_,S',b,x,q,g,r⟩
theorem je(h:Q .normal S):AW X .skip S Q:=fun G a w b=>wpIn_skip ⟨.normal,S,G,trivial,h,Ext.refl G w,b⟩
theorem k4{id:Nat}(h:Q (.exit id) S):AW X (.exit id) S Q:=fun G a w b=>wpIn_exit ⟨.exit _,S,G,rfl,h,Ext.refl G w,b⟩
theorem tF(h:Q .ret S):AW X .ret S Q:=fun G a w b=>wpIn_ret ⟨.ret,S,G,trivial,h,Ext.refl G w,b⟩
theorem dM{c:Operand}{x y:Code}{b:Bool}(n:opd S.env c= .d (.bool b))(m:b=true→AW X x S Q)(l:b=false→AW X y S Q):AW X (.cond c x y) S Q:=fun G a w e=>by
 obtain⟨p,i,o⟩:=e.2;have g:=i.opd e.1.maps.glob c;rw[n]at g
 have j:a.eval c= .bool b:=by
  generalize a.eval c=v at g;cases g with|d k=>cases k;rfl
 exact wpIn_cond_split j (fun h=>m h G a w e) (fun h=>l h G a w e)
theorem m9{id:Nat}{b:Array Oper}{cfg:d0}{ob:List Obl}{fts:List Foot}(j:bP X.P cfg X.N b (List.range b.size) S=some (S',ob,fts))(c:dg X.P ob)(h:Q .normal S'):
    AW X (.region id b false) S Q:=fun G a w g=>
 g.2.elim fun l d=>wpIn_region (iw X.mixed.ext X.rnd 0 _ g.1 d.1 j c fun n m k e i h2=>⟨.normal,S',k,trivial,h,e,i,l,h2,d.2.mono e⟩)
theorem hA{id:Nat}{b:Array Oper}{cfg:d0}{ob:List Obl}{fts:List Foot}(k:bP X.P cfg X.N b (List.range b.size) S=some (S',ob,fts))(i:lS b fts=true)(c:dg X.P ob)(h:Q .normal S'):
    AW X (.region id b true) S Q:=fun G a w g=>
 g.2.elim fun m d=>jP X.mixed X.rnd 0 g.1 d.1 k i c fun o n l e j h2=>⟨.normal,S',l,trivial,h,e,j,m,h2,d.2.mono e⟩
theorem hD{id p:Nat}{c:Bool}{b:Array Oper}{cfg:d0}{ob:List Obl}{fts:List Foot}{op:Oper}{n:St}{x:AV}{h':aa}(hp:b[p]? =some op)(r:bP X.P cfg X.N b (List.range' 0 p) S=some (n,ob,fts))(j:dg X.P ob)
    (q:jd X.P b p S.env x h' n) (y:c=false∨jQ b fts p=true) (h:Q (.panic x) ⟨gl b S.env,h'⟩):AW X (.region id b c) S Q:=fun G a w m=>by
 obtain⟨t,k⟩:=m.2
 have i:∀v l d g,Ext G w g d→HR g X.B X.w0 X.I0 h' d→FR g d X.N (dw t ++X.dl) (gl b S.env) l→Rep g d x v→∃s S' e,XRep e d s (.panic [{v,recovered:=false}])∧Q s S'∧Ext G w e d∧db X e S' l d:=
  fun v l d g o z h2 u=>⟨.panic x,_,g,⟨v,rfl,u⟩,h,o,z,t,h2,k.2.mono o⟩
 cases c with
 |false=>exact qA X.mixed X.rnd 0 m.1 k.1 hp r j q i
 |true=>exact lT X.mixed X.rnd 0 m.1 k.1 hp r (y.resolve_left (by simp)) j q i
theorem tG{env env':Nat→AV}{heap:aa}(h:∀t,env' t=env t∨env' t= .junk):Weak X ⟨env,heap⟩ ⟨env',heap⟩:=fun G a w j=>by
 obtain⟨d,g,b,i⟩:=j
 exact⟨G,Ext.refl G w,d,g,⟨b.size,b.nod,fun t c=>by
  rcases h t with e|e
  ·show Rep G w (env' t) _;rw[e];exact b.rep t c
  ·show Rep G w (env' t) _;rw[e];exact .junk _,fun t c=>by
  rcases h t with e|e
  ·show env' t=_;rw[e];exact b.out t c
  ·exact e⟩,i⟩
theorem iB{env:Nat→AV}{heap:aa}{l:List (Nat×AV)}(h:∀p∈l,p.2=env p.1):Weak X ⟨env,heap⟩ ⟨ag l,heap⟩:=tG (iO env l h)
end
def ph:Obj→Bool
 | .deferred _=>true
 |_=>false
structure Shut(B:Nat)(w w':World):Prop where
 os:w'.os=w.os
 tape:w'.tape=w.tape
 output:w'.output=w.output
 size:w'.heap.size=w.heap.size
 oth:∀(b:Nat)(o:Obj),ph o=false→w.heap[b]? =some o→w'.heap[b]? =some o
 low:∀b,b<B→w'.heap[b]? =w.heap[b]?
 cell:∀p:Addr,w'.cell? p=w.cell? p
theorem Shut.refl(B:Nat)(w:World):Shut B w w:=⟨rfl,rfl,rfl,rfl,fun _ _ _ h=>h,fun _ _=>rfl,fun _=>rfl⟩
theorem Shut.trans{B:Nat}{w d a:World}(h:Shut B w d)(k:Shut B d a):Shut B w a:=
 ⟨k.os.trans h.os,k.tape.trans h.tape,k.output.trans h.output,k.size.trans h.size,fun b o c x=>k.oth b o c (h.oth b o c x),fun b c=>(k.low b c).trans (h.low b c),fun p=>(k.cell p).trans (h.cell p)⟩
theorem Shut.put{B b:Nat}{w:World}{o o':Obj}(e:w.heap[b]? =some o)(g:ph o=true)(c:ph o'=true)(hB:B≤b):Shut B w (w.putObj b o'):=by
 have d:=(xG.1 e).1;refine⟨rfl,rfl,rfl,by simp,fun h j f x=> ?_,fun h i=>World.putObj_heap_other (by omega),fun p=> ?_⟩
 ·have a:h≠b:=by
    rintro rfl;rw[e]at x;simp only[xA]at x;subst x;rw[g]at f;cases f
  rw[World.putObj_heap_other a];exact x
 ·unfold World.cell?
  by_cases hp:p.block=b
  ·rw[hp,World.putObj_heap_same d,e]
   cases o<;>cases o'<;>first|rfl|(simp[ph]at g;done)|(simp[ph]at c;done)
  ·rw[World.putObj_heap_other hp]
theorem Rep.shut{G:Gh}{B:Nat}{w z:World}{x:AV}{v:Value}(h:Rep G w x v)(e:Shut B w z):Rep G z x v:=by
 induction h with
 |junk v=>exact .junk v
 |d h=>exact .d (h.mono (fun _ _ x=>x) (fun _ _ _=>e.cell _))
 |nils=>exact .nils
 |es y=>exact .es y
 |vecNil k a sz=>exact .vecNil k a sz
 |vec k a l L j u g s h=>exact .vec k a l L j u g s (h.mono (fun _ _ x=>x) (fun _ _ _=>e.cell _))
 |slNil k a sz y=>exact .slNil k a sz y
 |sl k a m q c L j A g=>exact .sl k a m q c L j A g
 |ptr k a i m L j=>exact .ptr k a i m L j
 |agg cs vs p r _ n=>exact .agg cs vs p r n
 |tup cs vs p _ n=>exact .tup cs vs p n
 |fn f o vs p _ n=>exact .fn f o vs p n
 |mp k a b j=>exact .mp k a b j
 |yld k a b j=>exact .yld k a b j
 |itr k a b j=>exact .itr k a b j
 |iv t v _ n=>exact .iv t v n
 |vp k a l L j r g h=>exact .vp k a l L j r g (h.mono (fun _ _ x=>x) (fun _ _ _=>e.cell _))
theorem HR.shut{G:Gh}{B:Nat}{w0 w E:World}{I0:Nat→Nat→Prop}{h:aa}(a:HR G B w0 I0 h w)(e:Shut B w E):HR G B w0 I0 h E:=by
 refine⟨a.below.trans ⟨e.os,e.tape,e.output,by rw[e.size];exact xO _,e.low⟩,by rw[e.size];exact a.bsz,fun b o x=>by rw[e.size];exact a.immlt b o x,a.i0,a.immlow,a.fresh,fun k L R=> ?_,a.dis,fun k ob V=> ?_,a.lim,⟨fun k v b x=> ?_,fun k Q b l l' x S=>a.maps.inj k Q b l l' x S,fun k es c x=> ?_,fun k C N env Y Fx U H x=> ?_,fun k Z J j seen x=> ?_,a.maps.glob.mono (fun _ _ x=>x) (fun _ _ _=>e.cell _)⟩⟩
 ·obtain⟨n,⟨arr,W,h2,K⟩,P⟩:=a.own k L R
  exact⟨n,⟨arr,W,e.oth _ _ rfl h2,K⟩,P⟩
 ·have n:=a.objs k ob V
  cases ob with
  |map _ _=>trivial
  |lp _ _ _ _ _ _ _=>trivial
  |itr _ _ _ _=>trivial
  |typ _ _ _ _=>exact n
  |arr sz es=>
   rcases n with n|⟨L,g,f,d,p,g5,X,g7⟩
   ·exact .inl n
   ·exact .inr ⟨L,g,f,d,p,g5,X,fun t c D=>by
      obtain⟨u,y,A,s⟩:=g7 t c D;exact⟨u,(e.cell _).trans y,A,s.shut e⟩⟩
 ·obtain⟨g,⟨o,f,z⟩,d⟩:=a.maps.low k v b x
  exact⟨g,⟨o,f,e.oth _ _ (by cases o<;>first|rfl|cases f) z⟩,d⟩
 ·obtain⟨b,g,I,f,d,p⟩:=a.maps.obj k es c x
  exact⟨b,g,I,e.oth _ _ rfl f,d,fun i q m T hm=>by
   obtain⟨y,A,s⟩:=p i q m T hm;exact⟨y.mono (fun _ _ x=>x) (fun _ _ _=>e.cell _),A.mono (fun _ _ x=>x) (fun _ _ _=>e.cell _),s⟩⟩
 ·obtain⟨b,r,g,f,d⟩:=a.maps.loops k C N env Y Fx U H x
  exact⟨b,r,g,e.oth _ _ rfl f,d.size,fun t D=>(d.rep t D).shut e,d.out,d.ps,d.Fx,d.bd,d.state,d.pending⟩
 ·obtain⟨b,M,F,O,g,f,d,p⟩:=a.maps.iters k Z J j seen x
  exact⟨b,M,F,O,g,f,e.oth _ _ rfl d,p⟩
theorem FR.shut{G:Gh}{B N:Nat}{d:List Deferred}{w c:World}{env:Nat→AV}{a:Act}(b:FR G w N d env a)(e:Shut B w c):FR G c N d env a:=⟨b.size,b.nod,fun t f=>(b.rep t f).shut e,b.out⟩
theorem ce{P:Program}{F:Fence}{n B:Nat}{fn:Func}{g:Array Value}{R:Ending→World→Prop}{f:List Deferred}{u:FrameMode}(m:u≠ .run):∀(i:List Nat)(w:World),i.Nodup→(∀b∈i,B≤b)→(∀b∈i,w.heap[b]? =some (.deferred (some [])))→
    (∀k,Shut B w k→(∀b,b∉i→k.heap[b]? =w.heap[b]?)→LeavesInM F n P fn g R f u k)→LeavesInM F n P fn g R (dw i ++f) u w
 |[],w,_,_,_,h=>h w (Shut.refl B w) (fun _ _=>rfl)
 |b::i,w,j,d,a,h=>by
  have o:=a b (by simp);rw[yn]at j;refine⟨m, .inl ⟨b,_,rfl,run_takeDeferred o,ce m i _ j.2 (fun x c=>d x (by simp[c])) (fun x c=> ?_) (fun k q p=> ?_)⟩⟩
  ·have l:x≠b:=fun e=>j.1 (e▸c)
   rw[World.putObj_heap_other l];exact a x (by simp[c])
  ·refine h k ((Shut.put o rfl rfl (d b (by simp))).trans q) (fun x c=> ?_)
   simp only[xR,yS]at c;rw[p x c.2,World.putObj_heap_other c.1]
def vK(P:Program)(S:St):ResultVar→Option D
 | .tmp t=>(view 12 S.heap (S.env t)).map (·.1)
 | .cell t ty=>match cV P ty (S.env t) S.heap with
  |some out=>(view 12 S.heap out.val).map (·.1)
  |none=>none
def hE(P:Program)(S:St):List ResultVar→Option (List D)
 |[]=>some []
 |r::l=>match vK P S r,hE P S l with
  |some x,some xs=>some (x::xs)
  |_,_=>none
def iC(G:Gh)(h:aa):Nat→Nat→Prop:=fun b o=>G.imm b o∨∃k L,G.loc k (h k).ver=some L∧L.b=b
def mW(b:Array Value):ResultVar→Sem Value
 | .tmp t=>pure (b.getD t undef)
 | .cell a t=>do loadVar t (←asAddr (b.getD a undef))
theorem qC{p:List Deferred}{P:Program}{G:Gh}{B:Nat}{w0 w:World}{I0:Nat→Nat→Prop}{N:Nat}{S:St}{a:Act}(f:HR G B w0 I0 S.heap w)(i:FR G w N p S.env a){h:ResultVar}{x:D}(d:vK P S h=some x):
    ∃v,(mW a.tmps h).run P w= .ok v w∧DRep (iC G S.heap) w x v:=by
 have up:∀{ks:List Nat}{y:D}{v:Value},DRep (bR G S.heap ks) w y v→DRep (iC G S.heap) w y v:=fun l=>l.mono (by
  rintro b o (x|⟨k,_,L,q,n⟩)
  ·exact .inl x
  ·exact .inr ⟨k,L,q,n⟩) (fun _ _ _=>rfl)
 cases h with
 |tmp t=>
  simp only[vK,xB]at d;obtain⟨⟨y,ks⟩,g,rfl⟩:=d;exact⟨_,rfl,up (b8 f 12 _ _ _ _ g (i.opd f.maps.glob (.tmp t)))⟩
 |cell t ty=>
  simp only[vK]at d;split at d
  ·rename_i out j
   simp only[xB]at d;obtain⟨⟨y,ks⟩,g,rfl⟩:=d;obtain⟨v,c,_,_,e⟩:=fw f (i.opd f.maps.glob (.tmp t)) j;refine⟨v, ?_,up (b8 f 12 _ _ _ _ g e)⟩;simp only[Instr.loadAt,Instr.sureAddr,Act.eval]at c;simp only[mW];generalize a.tmps.getD t undef=u at c;cases u with
   |pointer m=>
    cases m with
    |some r=>simpa [asAddr]using c
    |none=>simp at c
   |_=>simp at c
  ·cases d
theorem mX{E:List Deferred}{P:Program}{G:Gh}{B:Nat}{w0 w:World}{I0:Nat→Nat→Prop}{N:Nat}{S:St}{a:Act}(z:HR G B w0 I0 S.heap w)(A:FR G w N E S.env a){fn:Func}{c:List D}(j:hE P S fn.results.toList=some c):
    ∃v,(results fn a.tmps).run P w= .ok v w∧nR (iC G S.heap) w c v:=by
 have q:∀(l:List ResultVar)(c:List D),hE P S l=some c→∃vs:List Value,vs.length=c.length∧
     (l.mapM (mW a.tmps)).run P w= .ok vs w∧
     ∀(i:Nat)(x:D)(u:Value),c[i]? =some x→vs[i]? =some u→DRep (iC G S.heap) w x u:=by
  intro l;induction l with
  |nil=>intro c h;simp[hE]at h;subst h;exact⟨[],rfl,rfl,by simp⟩
  |cons r l s=>
   intro c h;simp only[hE]at h;split at h
   ·rename_i x xs j f
    simp only[xA]at h;subst h;obtain⟨vs,m,h2,e⟩:=s xs f;obtain⟨v,t,C⟩:=qC z A j;refine⟨v::vs,by simp[m], ?_,fun i y u g o=> ?_⟩
    ·rw[List.mapM_cons,Sem.run_bind]
     rw[t,Result.andThen_ok,Sem.run_bind,h2,Result.andThen_ok];rfl
    ·cases i with
     |zero=>simp at g o;subst g;subst o;exact C
     |succ i=>exact e i y u (by simpa using g) (by simpa using o)
   ·cases h
 obtain⟨vs,m,h2,e⟩:=q _ _ j
 have hm:(fn.results.mapM (mW a.tmps)).run P w= .ok vs.toArray w:=by
  rw[Array.mapM_eq_mapM_toList,Sem.run_map,h2];rfl
 refine⟨if h:vs.toArray.size=1 then vs.toArray[0]else .tuple vs.toArray, ?_, ?_⟩
 ·have p:results fn a.tmps=(do let vs ←fn.results.mapM (mW a.tmps);pure (if h:vs.size=1 then vs[0]else .tuple vs)):=by
    unfold results;congr 1
  rw[p,Sem.run_bind,hm];rfl
 ·by_cases d:c.length=1
  ·obtain⟨x,k⟩:=yG.1 d
   have n:vs.length=1:=by omega
   obtain⟨v,p⟩:=yG.1 n;subst k;subst p;exact .inl ⟨x,rfl,e 0 x v rfl rfl⟩
  ·have:¬(vs.toArray.size=1):=by simp;omega
   rw[dif_neg this];exact .inr ⟨d,_,rfl,by simp[m],fun i x u a b=>e i x u a (by simpa using b)⟩
def eR(a:List D):St:=⟨fun t=>match a[t]? with|some x=> .d x|none=> .junk,fun _=>⟨0,none⟩⟩
theorem lV{P:Program}(hm:d4 P){f:Nat}{fn:Func}{c:Code}{g S:List D}(U:P.funcs[f]? =some fn)(hb:fn.body=some c)(hn:(fn.name== "runtime.NumGoroutine")=false)(hl:g.length≤fn.ntmps)
    (h:∀X:bD,X.P=P→X.N=fn.ntmps→AW X c (eR g) fun e S'=>(e= .normal∨e= .ret)∧hE P S' fn.results.toList=some S):dt P f g S:=by
 refine⟨⟨fn,U,by rw[hb];rfl,hn⟩,fun w I a hI W s r=>callsIn_wide.1 (callsIn_of_wp_marks (F:=FF none) (n:=0) U hb trivial ?_)⟩
 let X:bD:=⟨P,w.heap.size,w,I,fn.ntmps,hm,none,w.heap.size,[]⟩
 have q:db X ⟨I,fun _ _=>none,fun _=>0,fun _ _=>none⟩ (eR g) {tmps:=a ++Array.replicate (fn.ntmps-a.size) undef,defers:=[]} w:=by
  refine⟨⟨Below.refl _ _,xO _,hI,fun _ _ x=>x,fun _ _ x _=>x,fun k v L x=>by simp at x,fun k L x=>by simp at x,fun k k' L L' x=>by simp at x,fun k ob x=>by simp[eR]at x,fun _=>rfl,⟨fun k v b x=>by simp at x,fun k k' b l l' x=>by simp at x,fun k es c x=>by simp[eR]at x,fun k fno N env ps Fx bd st x=>by simp[eR]at x,fun k km vm T seen x=>by simp[eR]at x,r⟩⟩,[],⟨?_,rfl, ?_, ?_⟩,yE,fun _ h=>(by cases h),fun _ h=>(by cases h),fun _ h=>(by cases h),xO _⟩
  ·show(a ++Array.replicate (fn.ntmps-a.size) undef).size=fn.ntmps
   simp[W];omega
  ·intro t _
   show Rep _ _ (match g[t]? with|some x=>AV.d x|none=> .junk) ((a ++Array.replicate (fn.ntmps-a.size) undef).getD t undef);cases ha:g[t]? with
   |none=>exact .junk _
   |some x=>
    have m:t<a.size:=by rw[W];exact(xD.1 ha).1
    have Z:a[t]? =some a[t]:=xF m;rw[xb,yA m,Z];exact .d (s t x _ ha Z)
  ·intro t ht
   show(match g[t]? with|some x=>AV.d x|none=> .junk)= .junk;rw[yV (by have:X.N=fn.ntmps:=rfl;omega)]
 refine wpIn_mono (h X rfl rfl _ _ _ q) ?_;rintro e K Y ⟨e',S',G',V,⟨he,u⟩,hex,E,bs,z,i⟩
 have y:∀R:Ending→World→Prop,(∀v j I',Below w.heap.size w j→(∀b o,I b o→I' b o)→(∀b o,I' b o→I b o∨w.heap.size≤b)→(∀b o,I' b o→b<j.heap.size)→nR I' j S v→R (.returned v) j)→
     LeavesInM (FF none) 0 P fn K.tmps R K.defers .returning Y:=fun R hR=>by
  rw[z.nod];refine ce (B:=w.heap.size) (by simp) bs Y i.nd i.low i.live (fun j A _=> ?_);have p:=E.shut A;obtain⟨v,hv,C⟩:=mX p (z.shut A) u;show ∃v,(results fn K.tmps).run P j= .ok v j∧R (.returned v) j;refine⟨v,hv,hR v j (iC G' S'.heap) p.below (fun b o x=> .inl (E.i0 b o x)) ?_ ?_ C⟩
  ·rintro b o (x|⟨k,L,O,rfl⟩)
   ·rcases y9 b w.heap.size with m|J
    ·exact .inl (E.immlow b o x m)
    ·exact .inr J
   ·exact .inr (E.own k L O).1
  ·rintro b o (x|⟨k,L,O,rfl⟩)
   ·exact p.immlt b o x
   ·exact p.blt O
 rcases he with rfl|rfl
 ·obtain rfl:=V.normal
  exact y _ fun v j I' c1 G Q H M=>⟨v,I',rfl,c1,G,Q,H,M⟩
 ·obtain rfl:=V.ret
  exact y _ fun v j I' c1 G Q H M=>⟨v,I',rfl,c1,G,Q,H,M⟩
def fh(N:Nat):(Nat→AV)→List Nat→List AV→Option (Nat→AV)
 |env,[],[]=>some env
 |env,p::a,x::xs=>if p<N then fh N (aq env p x) a xs else none
 |_,_,_=>none
theorem na{N:Nat}:∀{b:List Nat}{xs:List AV}{env a:Nat→AV},fh N env b xs=some a→b.length=xs.length
 |[],[],_,_,_=>rfl
 |p::b,x::xs,env,a,h=>by
  simp only[fh]at h;split at h
  ·simp[na h]
  ·cases h
 |[],_::_,_,_,h=>by simp[fh]at h
 |_::_,[],_,_,h=>by simp[fh]at h
theorem nb{G:Gh}{w:World}{N:Nat}:∀{f:List Nat}{xs:List AV}{env b:Nat→AV}(vs:List Value)(a:Array Value),fh N env f xs=some b→vs.length=xs.length→a.size=N→
    (∀(i:Nat)(x:AV)(u:Value),xs[i]? =some x→vs[i]? =some u→Rep G w x u)→(∀t,t<N→Rep G w (env t) (a.getD t undef))→(∀t,N≤t→env t= .junk)→
    ((f.zip vs).foldl (fun a (p:Nat×Value)=>a.setIfInBounds p.1 p.2) a).size=N∧
    (∀t,t<N→Rep G w (b t) (((f.zip vs).foldl (fun a (p:Nat×Value)=>a.setIfInBounds p.1 p.2) a).getD t undef))∧(∀t,N≤t→b t= .junk)
 |[],[],env,b,vs,a,h,g,d,l,j,k=>by
  simp only[fh,xA]at h;subst h;exact⟨d,j,k⟩
 |p::f,x::xs,env,b,[],a,h,g,d,l,j,k=>by simp at g
 |p::f,x::xs,env,b,v::vs,a,h,g,d,l,j,k=>by
  simp only[fh]at h;split at h
  ·rename_i hp
   simp only[List.zip_cons_cons,List.foldl_cons];refine nb vs _ h (by simpa using g) (by simpa using d) (fun i y u n o=>l (i+1) y u (by simpa using n) (by simpa using o)) (fun t m=> ?_) (fun t m=> ?_)
   ·simp only[xb,Array.getElem?_setIfInBounds]
    by_cases c:p=t
    ·subst c
     simp only[ad,xz,d,hp,yj];exact l 0 x v rfl rfl
    ·rw[xi c,ab _ _ (fun e=>c e.symm)]
     have:=j t m;rwa [xb]at this
   ·rw[ab _ _ (by omega)];exact k t m
  ·cases h
 |[],_::_,_,_,_,_,h,_,_,_,_,_=>by simp[fh]at h
 |_::_,[],_,_,_,_,h,_,_,_,_,_=>by simp[fh]at h
def tI(Q:au→St→Prop)(S:St):LSt→Prop
 | .ready=>Q .normal S
 | .done .ret=>Q .ret S
 | .done (.exit id)=>Q (.exit id) S
 |_=>False
theorem jf{X:bD}{S:St}{Q:au→St→Prop}{g:Operand}{s:Array Nat}{Fx y:Code}{gf k fno:Nat}{m rs:List AV}{h2:aa}{f2 N2:Nat}{O:List (Nat×AV)}{ps2:Array Nat}{as2 bd2:Code}{st:LSt}
    (hg:opd S.env g= .fn gf m) {el:List (Nat×AV)} (hel:∀p∈el,p.2=S.env p.1)
    (hc:az X.P gf (.yld k ((S.heap k).ver+1)::m) (aq S.heap k ⟨(S.heap k).ver+1,some (.lp fno X.N el s Fx y .ready)⟩) rs h2)
    (hk:(h2 k).ver=(S.heap k).ver+1) (hl:(h2 k).ob=some (.lp f2 N2 O ps2 as2 bd2 st))
    (hq:tI Q ⟨S.env,aq h2 k ⟨(h2 k).ver,none⟩⟩ st):AW X (.rangeFunc g s Fx y) S Q:=fun G a w ⟨V,bs,T,hs⟩=>by
 refine wpIn_rangeFunc (fun fn _=> ?_);have Z:=T.opd V.maps.glob g;rw[hg]at Z
 obtain⟨vs,hfv,hvl,hcr⟩:∃vs:Array Value,a.eval g= .func (.func gf) #[] vs∧vs.size=m.length∧∀(i:Nat)(x:AV)(u:Value),m[i]? =some x→vs[i]? =some u→Rep G w x u:=by
  generalize a.eval g=vf at Z;cases Z with
  |fn _ _ vs hl hh=>exact⟨vs,rfl,hl,hh⟩
 obtain⟨hcb,hcall⟩:=hc
 have aX:∀(l:Nat)(h:List Deferred)(A:World)(rec:Loop)(I:List Nat),(Instr.enterLoop fn a.tmps s Fx y (FF X.rnd).round).run X.P w= .ok (l,h) A→HR G X.B X.w0 X.I0 S.heap A→Ext G w G A→A.heap[l]? =some (.loop rec)→
     rec.tmps=a.tmps→rec.params=s→rec.assign=Fx→rec.body=y→rec.state= .ready→rec.pending=none→X.B≤l→(∀k v,G.mloc k v≠some l)→h ++dw bs=dw I→Side0 X A I→
     ∃(l:Nat)(h:List Deferred)(M:World)(d:Deferred)(q:World)(f:FuncId)(U:Array Value)(L:World),
      (Instr.enterLoop fn a.tmps s Fx y (FF X.rnd).round).run X.P w= .ok (l,h) M∧(resolve a.eval (rangeCall g l) 0).run X.P M= .ok d q∧(∀f',Target.leads X.P q d.target d.args=some f'→(FF X.rnd).fn f')∧
      (invoke d.target d.args).run X.P q= .ok (.enter f U) L∧((FF X.rnd).depth.isSome=true→1≤0)∧
      CallsIn (FF X.rnd) (0-1) X.P f U L (rangePost (FF X.rnd) 0 X.P l (fun e a' w'=>∃e' S' K,XRep K w' e' e∧Q e' S'∧Ext G w K w'∧db X K S' a' w') {a with defers:=h ++a.defers}):=by
  intro l h A rec I he z E R r1 r2 r3 r4 r5 r6 hB hnew hmk j
  obtain⟨Y,e2⟩:=z.newFix k (b:=l) (ob:= .lp fno X.N el s Fx y .ready) (o:= .loop rec) rfl (fun _ _ _ _ e=>by cases e) hB hnew rfl R (fun _ _ e=>by cases e) (fun fno' N' env' ps' as' bd' st' e=>by
   cases e
   exact⟨rec,R,by rw[r1];exact T.size,fun t ht=>by
    rw[r1];rcases iO S.env el hel t with e|e
    ·rw[e];exact(T.rep t ht).mono E
    ·rw[e];exact .junk _,fun t ht=>by
    rcases iO S.env el hel t with e|e
    ·rw[e];exact T.out t ht
    ·exact e,r2,r3,r4,r5,r6⟩)
  have hml:(G.atMap k ((S.heap k).ver+1) l).mloc k ((S.heap k).ver+1)=some l:=by simp[Gh.atMap]
  refine⟨l,h,A,{target:= .fn (.func gf) vs,args:= #[.func (.yield l) #[] #[]]},A,gf, #[.func (.yield l) #[] #[]] ++vs,A,he, ?_,fun _ _=>trivial, ?_,fun x=>(by cases x), ?_⟩
  ·simp only[resolve,hfv]
   simp[go_sem]
  ·have:=b9 hcb (#[.func (.yield l) #[] #[]] ++vs) A
   simpa [invoke]using this
  ·have hsz2:(#[Value.func (.yield l) #[] #[]] ++vs).size=(AV.yld k ((S.heap k).ver+1)::m).length:=by simp[hvl];omega
   have W:∀(i:Nat)(x:AV)(u:Value),(AV.yld k ((S.heap k).ver+1)::m)[i]? =some x→(#[Value.func (.yield l) #[] #[]] ++vs)[i]? =some u→Rep (G.atMap k ((S.heap k).ver+1) l) A x u:=by
    intro i x u hx hu;cases i with
    |zero=>
     rw[yA (by simp)]at hu;simp at hx hu;subst hx;subst hu;exact .yld _ _ _ hml
    |succ i=>
     rw[Array.getElem?_append_right (by simp)]at hu;simp at hx hu;exact(hcr i x u hx hu).mono (E.trans e2)
   have H:=hcall _ X.B X.w0 X.I0 A _ Y hsz2 W;have J:=nU X.rnd (0-1) H;refine J.mono ?_
   ·rintro e w' ⟨v,K,rfl,e3,hr3,_⟩
    obtain⟨b,r,g1,g2,g3⟩:=hr3.maps.loops k f2 N2 O ps2 as2 bd2 st hl
    have F:b=l:=by
     rw[hk,e3.mloc _ _ _ hml]at g1;exact(Option.some.inj g1).symm
    subst F
    have hnb:r.state≠ .busy:=by
     rw[g3.state];cases st with
     |busy=>exact absurd hq (by simp[tI])
     |_=>simp[LSt.state]
    have C:=run_endLoop (P:=X.P) g2 hnb;have hpend:=g3.pending;obtain⟨hr4,e4⟩:=hr3.setFix (k:=k) (o':= .loop {r with state:= .exhausted}) (ob':=none) (by rw[hl];rfl) g1 g2 rfl rfl (fun _=>⟨_,rfl⟩) (fun x e=>by cases e) (fun _ _ e=>by cases e) (fun _ _ _ _ _ _ _ e=>by cases e);obtain⟨w4,hw4⟩:∃w4,w'.putObj b (.loop {r with state:= .exhausted})=w4:=⟨_,rfl⟩
    rw[hw4]at C hr4 e4;rw[hpend]at C;have ex:Ext G w K w4:=((E.trans e2).trans e3).trans e4
    have hh:db X K ⟨S.env,aq h2 k ⟨(h2 k).ver,none⟩⟩ {a with defers:=h ++a.defers} w4:=
     ⟨hr4,I,⟨T.size,by show h ++a.defers=_;rw[T.nod,←x8,hmk],fun t ht=>(T.rep t ht).mono ex,T.out⟩,j.mono ((e2.trans e3).trans e4)⟩
    refine⟨st.pending,_,C, ?_⟩;cases st with
    |ready=>exact⟨.normal,_,K,trivial,hq,ex,hh⟩
    |busy=>exact absurd hq (by simp[tI])
    |done c=>
     cases c with
     |ret=>exact wpIn_ret ⟨.ret,_,K,trivial,hq,ex,hh⟩
     |exit id=>exact wpIn_exit ⟨.exit id,_,K,rfl,hq,ex,hh⟩
     |_=>exact absurd hq (by simp[tI])
 have hmb:∀k v,∀b,G.mloc k v=some b→b<w.heap.size:=fun k v b x=>by
  obtain⟨_,⟨o,_,h2⟩,_⟩:=V.maps.low _ _ _ x;exact(xG.1 h2).1
 cases n:X.rnd with
 |none=>
  have ho:=run_enterLoop_outer (P:=X.P) (w:=w) fn a.tmps s Fx y;have z:=V.allocAny (.deferred (some []));have E:=Ext.alloc V (.deferred (some []));have Y:=z.allocAny (.loop {state:= .ready,pending:=none,fn,tmps:=a.tmps,params:=s,assign:=Fx,body:=y,defers:=w.heap.size});have e2:=Ext.alloc z (.loop {state:= .ready,pending:=none,fn,tmps:=a.tmps,params:=s,assign:=Fx,body:=y,defers:=w.heap.size});have D:=World.alloc_heap_new (w.alloc (.deferred (some []))) (.loop {state:= .ready,pending:=none,fn,tmps:=a.tmps,params:=s,assign:=Fx,body:=y,defers:=w.heap.size});rw[World.size_alloc]at D
  have hdef:((w.alloc (.deferred (some []))).alloc (.loop {state:= .ready,pending:=none,fn,tmps:=a.tmps,params:=s,assign:=Fx,body:=y,defers:=w.heap.size})).heap[w.heap.size]? =some (.deferred (some [])):=
   (bN (by simp)).trans (World.alloc_heap_new w _)
  have j:=hs.mono (E.trans e2);rw[←n]
  refine aX _ _ _ _ (w.heap.size::bs) (by rw[show(FF X.rnd).round=none from n];exact ho) Y (E.trans e2) D rfl rfl rfl rfl rfl rfl (by have:=V.bsz;omega) (fun k v x=>by have:=hmb _ _ _ x;omega) rfl
   ⟨yn.2 ⟨fun hx=> ?_,hs.nd⟩,fun b F=> ?_,fun b F=> ?_,j.book,j.s0⟩
  ·have:=(xG.1 (hs.live _ hx)).1
   omega
  ·rcases xR.1 F with rfl|F
   ·exact hs.s0
   ·exact hs.low b F
  ·rcases xR.1 F with rfl|F
   ·exact hdef
   ·exact j.live b F
 |some l0=>
  obtain⟨r0,hr0⟩:=hs.book l0 n;have ho:=run_enterLoop_inner (P:=X.P) (w:=w) hr0 fn a.tmps s Fx y;have z:=V.allocAny (.loop {state:= .ready,pending:=none,fn,tmps:=a.tmps,params:=s,assign:=Fx,body:=y,defers:=r0.defers});have E:=Ext.alloc V (.loop {state:= .ready,pending:=none,fn,tmps:=a.tmps,params:=s,assign:=Fx,body:=y,defers:=r0.defers});rw[←n];exact aX _ _ _ _ bs (by rw[show(FF X.rnd).round=some l0 from n];exact ho) z E (World.alloc_heap_new w _) rfl rfl rfl rfl rfl rfl V.bsz (fun k v x=>by have:=hmb _ _ _ x;omega) rfl (hs.mono E)
def lW:au→Option (Bool×LSt)
 | .normal=>some (true, .ready)
 | .ret=>some (false, .done .ret)
 | .exit id=>some (false, .done (.exit id))
 |_=>none
set_option maxHeartbeats 1000000 in
theorem kv{P:Program}(hm:d4 P){k v:Nat}{E:List AV}{h:aa}{fno N:Nat}{env:List (Nat×AV)}{n:Nat→AV}{T:Array Nat}{Fx bd:Code}(hv:(h k).ver=v)(hob:(h k).ob=some (.lp fno N env T Fx bd .ready))
    (H:fh N (ag env) T.toList E=some n) {S1:St} (h1:∀X:bD,X.P=P→X.N=N→AW X Fx ⟨n,h⟩ fun e S'=>e= .normal∧S'=S1)
    {f1 N1:Nat} {e1:List (Nat×AV)} {A:Array Nat} {z s:Code} (Z:(S1.heap k).ver=v) (D:(S1.heap k).ob=some (.lp f1 N1 e1 A z s .ready)) {e:au} {S2:St}
    (h2:∀X:bD,X.P=P→X.N=N→AW X bd ⟨S1.env,aq S1.heap k ⟨v,some (.lp f1 N1 e1 A z s .busy)⟩⟩ fun e' S'=>e'=e∧S'=S2)
    {f2 Y:Nat} {e2:List (Nat×AV)} {m:Array Nat} {q o:Code} {st2 U:LSt} {b:Bool} (W:(S2.heap k).ver=v) (I:(S2.heap k).ob=some (.lp f2 Y e2 m q o st2)) (ho:lW e=some (b,U)):
    o7 P k v E h [.d (.bool b)] (aq S2.heap k ⟨v,some (.lp f2 Y e2 m q o U)⟩):=fun G B w0 I0 w f hr hsz M l V=>by
 obtain⟨l',r,g1,g2,R⟩:=hr.maps.loops k fno N env T Fx bd .ready hob
 have j:l'=l:=by
  rw[hv,V]at g1;exact(Option.some.inj g1).symm
 subst j;have Q:=na H;obtain⟨q1,q2,q3⟩:=nb (G:=G) (w:=w) f.toList r.tmps H (by simpa using hsz) R.size (fun i x u hx hu=>M i x u hx (by simpa using hu)) R.rep R.out
 have L:((r.params.zip f).foldl (fun c (p:Nat×Value)=>c.setIfInBounds p.1 p.2) r.tmps)=((T.toList.zip f.toList).foldl (fun c (p:Nat×Value)=>c.setIfInBounds p.1 p.2) r.tmps):=by
  rw[R.ps,←Array.foldl_toList,Array.toList_zip]
 refine⟨r.fn,_,r.assign,r.body,run_yield g2 (by rw[R.ps,hsz,←Q];simp),fun rr=> ?_⟩;rw[R.Fx,R.bd];have C:(Array.foldl (fun c x=>match x with|(t,a)=>c.setIfInBounds t a) r.tmps (r.params.zip f))=((T.toList.zip f.toList).foldl (fun c (p:Nat×Value)=>c.setIfInBounds p.1 p.2) r.tmps):=L;rw[C];refine roundIn_of_wpIn (F:=FF rr) trivial ?_
 let X:bD:=⟨P,B,w0,I0,N,hm,some l',w.heap.size,[]⟩
 have y:db X G ⟨n,h⟩ {tmps:=((T.toList.zip f.toList).foldl (fun c (p:Nat×Value)=>c.setIfInBounds p.1 p.2) r.tmps),defers:=[]} w:=
  ⟨hr,[],⟨q1,rfl,q2,q3⟩,yE,fun _ h=>(by cases h),fun _ h=>(by cases h),fun l V=>by cases V;exact⟨r,g2⟩,xO _⟩
 refine wpIn_mono (h1 X rfl rfl G _ w y) ?_;rintro e' a' w' ⟨_,S',G',xr1,⟨rfl,rfl⟩,x1,y1,bs1,z1,s1⟩;obtain rfl:=xr1.normal;obtain⟨l2,r2,k1,k2,J⟩:=y1.maps.loops k f1 N1 e1 A z s .ready D
 have j:l2=l':=by
  rw[Z,x1.mloc _ _ _ V]at k1;exact(Option.some.inj k1).symm
 subst j;refine⟨_,run_beginRound k2 J.state, ?_⟩
 obtain⟨y2,x2⟩:=y1.setFix (k:=k) (o':= .loop {r2 with state:= .busy}) (ob':=some (.lp f1 N1 e1 A z s .busy)) (by rw[D];rfl) k1 k2 rfl rfl (fun _=>⟨_,rfl⟩) (fun x e=>by cases e;rfl) (fun _ _ e=>by cases e) (fun _ _ _ _ _ _ _ e=>by
  cases e;exact⟨_,World.putObj_heap_same (xG.1 k2).1,J.size,J.rep,J.out,J.ps,J.Fx,J.bd,rfl,J.pending⟩)
 rw[Z]at y2;refine wpIn_mono (h2 X rfl rfl G' _ _ ⟨y2,bs1,z1.mono x2,s1.mono x2⟩) ?_;rintro e' a'' w'' ⟨e9,S'',G'',O,⟨rfl,rfl⟩,x3,y3,-⟩;obtain⟨l3,r3,m1,m2,S⟩:=y3.maps.loops k f2 Y e2 m q o st2 I
 have j:l3=l2:=by
  rw[W,x3.mloc _ _ _ (x2.mloc _ _ _ (x1.mloc _ _ _ V))]at m1;exact(Option.some.inj m1).symm
 subst j
 have K:∀(g:Option Code),g.isNone=b→(if g.isNone=true then LoopState.ready else .done)=U.state→g=U.pending→∃vv w3,(Instr.endRound l3 g).run P w''= .ok vv w3∧∃x G',Ending.returned vv= .returned x∧Ext G w G' w3∧HR G' B w0 I0 (aq S''.heap k ⟨v,some (.lp f2 Y e2 m q o U)⟩) w3∧Rep G' w3 (dW [.d (.bool b)]) x:=by
  intro g j1 j2 j3
  obtain⟨y4,x4⟩:=y3.setFix (k:=k) (o':= .loop {r3 with state:=if g.isNone then .ready else .done,pending:=g}) (ob':=some (.lp f2 Y e2 m q o U)) (by rw[I];rfl) m1 m2 rfl rfl (fun _=>⟨_,rfl⟩) (fun x e=>by cases e;rfl) (fun _ _ e=>by cases e) (fun _ _ _ _ _ _ _ e=>by
   cases e;exact⟨_,World.putObj_heap_same (xG.1 m2).1,S.size,S.rep,S.out,S.ps,S.Fx,S.bd,j2,j3⟩)
  rw[W]at y4;exact⟨_,_,run_endRound g m2,_,G'',rfl,(x1.trans x2).trans (x3.trans x4),y4,by rw[j1];exact .d (.bool b)⟩
 cases e9 with
 |normal=>obtain rfl:=O.normal;cases ho;exact K none rfl rfl rfl
 |ret=>obtain rfl:=O.ret;cases ho;exact K (some .ret) rfl rfl rfl
 |exit id=>obtain rfl:=O.exit;cases ho;exact K (some (.exit id)) rfl rfl rfl
 |panic x=>cases ho
end Go.Avm
