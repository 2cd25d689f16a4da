/-
  Types: the shape of what the reader reads (plain).
-/
import Derived.Test.YtcjiafanhlhdlaaGreatDoorG14
import Derived.Test.YtcjiafanhlhdlaaGreatDoorG13
import Derived.Test.YtcjiafanhlhdlaaGreatDoorG11
import Derived.Test.YtcjiafanhlhdlaaGreatDoorG08
set_option linter.unusedVariables false
set_option linter.unusedSimpArgs false
set_option linter.unusedSectionVars false
namespace Go.Avm
open Go.Proofs
theorem Ps.bindQ{d g:Type}{Q:d→Prop}{R:g→Prop}{r:Res d}{f:d→RS→Res g}(h:Ps Q r)(j:∀a k,Q a→Ps R (f a k)):Ps R (r.bind f):=fun b i e=>by
 cases r with
 |ok a c=>exact j a c (h a c rfl) b i e
 |bad p q c=>cases e
 |out=>cases e
theorem Ps.out{a:Type}{Q:a→Prop}:Ps Q (Res.out:Res a):=fun _ _ e=>by cases e
theorem Ps.imp{b:Type}{Q R:b→Prop}{r:Res b}(h:Ps Q r)(c:∀a,Q a→R a):Ps R r:=fun a d e=>c a (h a d e)
theorem AI:∀l m:List Ex,fm (l ++m)=(fm l&&fm m)
 |[],m=>by simp[fm]
 |x::l,m=>by simp only[x8,fm,AI l m,Bool.and_assoc]
theorem um:∀l m:List aP,ew (l ++m)=(ew l&&ew m)
 |[],m=>by simp[ew]
 |x::l,m=>by simp only[x8,ew,um l m,Bool.and_assoc]
abbrev wE(a:Ex):Prop:=MV a=true
abbrev Un(a:List Ex):Prop:=fm a=true
abbrev gS(a:aP):Prop:=iS a=true
abbrev gL(a:List aP):Prop:=ew a=true
section
variable(L:List T)
theorem Jz:∀n,(∀s,Ps wE (dC L n s))∧(∀s,Ps wE (ch L n s))∧(∀nm p s,Ps wE (dz L n nm p s))∧(∀s,Ps Un (dU L n s))∧(∀l s,Un l→Ps Un (du L n l s))∧(∀k s,Ps wE (aQ L n k s))∧(∀k e s,wE e→Ps wE (c3 L n k e s))
 |0=>⟨fun _=>Ps.out,fun _=>Ps.out,fun _ _ _=>Ps.out,fun _=>Ps.out,fun _ _ _=>Ps.out,fun _ _=>Ps.out,fun _ _ _ _=>Ps.out⟩
 |n+1=>by
  obtain⟨m,h2,v,u,t,f,q⟩:=Jz n;refine⟨fun s=> ?_,fun s=> ?_,fun nm p s=> ?_,fun s=> ?_,fun l s g=> ?_,fun k s=> ?_,fun k e s r=> ?_⟩
  ·simp only[dC]
   have h:∀(o p:Int) j,Ps wE ((dC L n j).bind fun e c=> .ok (.mk 8 o [] 0 p [e]) c):=fun o p j=>(m j).bindQ fun a _ b=>Ps.ok (by simp[wE,MV,fm,b])
   refine Ps.bind fun _ d=>Ps.ite (h _ _ d) (Ps.bind fun _ d=>Ps.ite (h _ _ d) (Ps.bind fun _ d=>Ps.ite (h _ _ d) (Ps.ite (Ps.ok rfl) ?_)))
   refine Ps.bind fun _ d=>Ps.ite (Ps.ok rfl) (Ps.bind fun _ d=>Ps.ite (Ps.ok rfl) ?_)
   refine Ps.bind fun _ d=>Ps.ite (Ps.bind fun _ c=>Ps.bind fun _ _=>Ps.ok rfl) ?_
   refine Ps.bind fun _ d=>Ps.ite (Ps.bind fun _ c=>Ps.bind fun _ i=>Ps.bind fun _ _=>Ps.ok rfl) ?_
   refine Ps.ite (Ps.bind fun _ c=>(f _ c).bindQ fun a i b=>Ps.bind fun _ _=>Ps.ok b) ?_;exact Ps.bind fun _ c=>Ps.ite ((h2 c).bindQ fun a _ b=>Ps.ok (by simp[wE,MV,fm,b])) (Ps.ite ((v _ _ c).bindQ fun a _ b=>Ps.ok b) (Ps.ok rfl))
  ·simp only[ch]
   exact Ps.bind fun _ c=>(f _ c).bindQ fun a i b=>Ps.bind fun _ _=>Ps.ok b
  ·simp only[dz]
   exact(u s).bindQ fun a _ b=>Ps.ok (by simp[wE,MV,b])
  ·simp only[dU]
   exact Ps.bind fun _ d=>Ps.ite (Ps.bind fun _ _=>Ps.ok rfl) ((f _ d).bindQ fun a c b=>(t _ c (by simp[Un,fm,b])).bindQ fun l i g=>Ps.bind fun _ _=>Ps.ok g)
  ·simp only[du]
   exact Ps.bind fun _ d=>Ps.ite ((f _ d).bindQ fun a c b=>t _ c (by rw[Un,AI,g];simp[fm,b])) (Ps.ok g)
  ·simp only[aQ]
   exact(m s).bindQ fun a d b=>q _ _ d b
  ·simp only[c3]
   exact Ps.ite (Ps.ok r) ((f _ s.nx).bindQ fun a c b=>q _ _ c (by simp[wE,MV,fm,r,b]))
theorem ql(n:Nat)(k:Int)(s:RS):Ps wE (aQ L n k s):=(Jz L n).2.2.2.2.2.1 k s
def NL:Prop:=∀s:RS,(aD L s).t.length≤20000
variable{L}(d:NL L)
include d
theorem qm(k:Int)(s:RS):Ps (fun t:T=>t.t.length≤20000) (b0 L k s):=fun a b e=>by
 unfold b0 at e;cases h:((aD L s).k==k)<;>rw[h]at e<;>cases e
 exact d s
omit d in
theorem wd:∀(l:List Int)(s:RS),Ps (fun t:Int=>t∈l) (cL L l s)
 |[],s=>fun _ _ e=>by cases e
 |k::r,s=>by
  simp only[cL];exact Ps.bind fun b a=>Ps.ite (Ps.ok (x0 ..)) ((wd r a).imp fun _ h=>xW _ h)
theorem Qu(n:Nat)(id p:Int)(s:RS):Ps gS (gE L n id p s):=by
 unfold gE;refine(qm d 1 s).bindQ fun t g i=>Ps.bind fun _ j=>Ps.bind fun _ f=>Ps.ite ?_ ?_
 ·exact Ps.bind fun _ b=>Ps.bind fun _ e=>Ps.bind fun _ h=>Ps.bind fun _ _=>Ps.ok (by simp[gS,iS,fm,ed,ew];omega)
 ·exact Ps.bind fun _ b=>Ps.ite ((ql L n 1 b).bindQ fun a e c=>Ps.bind fun _ _=>Ps.ok (by simp[gS,iS,fm,ed,ew,c];omega)) (Ps.bind fun _ _=>Ps.ok (by simp[gS,iS,fm,ed,ew];omega))
theorem JA(n:Nat)(id p:Int)(s:RS):Ps gS (ci L n id p s):=by
 obtain⟨_,h2,i,_⟩:=Jz L n;unfold ci;refine(qm d 1 s).bindQ fun t g k=>Ps.ite ?_ (Ps.ite ?_ ?_)
 ·exact(i _ _ g).bindQ fun a e c=>Ps.bind fun _ _=>Ps.ok (by simp[gS,iS,fm,ed,ew,c])
 ·exact(h2 g).bindQ fun a e c=>Ps.bind fun _ f=>(ql L n 1 f).bindQ fun b j h=>Ps.bind fun _ _=>Ps.ok (by simp[gS,iS,fm,ed,ew,c,h];omega)
 ·exact Ps.bind fun _ e=>(ql L n 1 e).bindQ fun a f c=>Ps.bind fun _ _=>Ps.ok (by simp[gS,iS,fm,ed,ew,c];omega)
theorem Ej:∀n,(∀s,Ps gL (bg L n s))∧(∀l s,gL l→Ps gL (cj L n l s))∧(∀s,Ps gS (b6 L n s))
 |0=>⟨fun _=>Ps.out,fun _ _ _=>Ps.out,fun _=>Ps.out⟩
 |n+1=>by
  obtain⟨i,h2,o⟩:=Ej n;refine⟨fun s=> ?_,fun l s k=> ?_,fun s=> ?_⟩
  ·simp only[bg]
   exact Ps.bind fun _ j=>(h2 _ j rfl).bindQ fun a g e=>Ps.bind fun _ _=>Ps.ok e
  ·simp only[cj]
   exact Ps.ite (Ps.ok k) ((o s).bindQ fun a j e=>h2 _ j (by rw[gL,um,k];simp[ew,e]))
  ·simp only[b6]
   have X:=ql L n 1;refine Ps.bind fun _ f=>Ps.ite ((Qu d n _ _ f).bindQ fun a _ e=>Ps.ok e) (Ps.bind fun _ f=>Ps.ite ?_ (Ps.bind fun _ f=>Ps.ite ?_ (Ps.bind fun _ f=>Ps.ite ?_ (Ps.bind fun _ f=>Ps.ite ?_ ?_))))
   ·exact(X f).bindQ fun a g e=>(i g).bindQ fun b q h=>Ps.bind fun _ m=>Ps.ite ((i m).bindQ fun c _ p=>Ps.ok (by simp[gS,iS,fm,ed,e,h,p])) (Ps.ok (by simp[gS,iS,fm,ed,e,h,ew]))
   ·exact(X f).bindQ fun a g e=>(i g).bindQ fun b q h=>Ps.ok (by simp[gS,iS,fm,ed,e,h,ew])
   ·exact Ps.ite (Ps.bind fun _ _=>Ps.ok rfl) ((X f).bindQ fun a g e=>Ps.bind fun _ _=>Ps.ok (by simp[gS,iS,fm,ed,e,ew]))
   ·exact(X f).bindQ fun a g e=>Ps.bind fun _ _=>Ps.ok (by simp[gS,iS,fm,ed,e,ew])
   ·exact(JA d n _ _ _).bindQ fun a _ e=>Ps.ok e
def sH(p:Pm):Prop:=p.nm.length≤20000∧p.ty∈[1,2,3]
structure m0(f:Fn):Prop where
 bd:ew f.bd=true
 ps:∀p∈f.ps,sH p
 res:f.res∈[0,1,2]
 nm:f.nm.length≤20000
theorem AJ(s:RS):Ps sH (eH L s):=(qm d 1 s).bindQ fun _ _ a=>Ps.bind fun _ _=>(wd _ _).bindQ fun _ _ b=>Ps.ok ⟨a,b⟩
theorem AK:∀(n:Nat)(l:List Pm)(s:RS),(∀p∈l,sH p)→Ps (fun l=>∀p∈l,sH p) (cl L n l s)
 |0,_,_,_=>Ps.out
 |n+1,l,s,b=>by
  simp only[cl]
  exact Ps.bind fun _ f=>Ps.ite ((AJ d f).bindQ fun a e c=>AK n _ e fun p hp=>by
   rcases xZ.1 hp with hp|hp
   ·exact b p hp
   ·rw[xK.1 hp];exact c) (Ps.ok b)
theorem FI(n:Nat)(s:RS):Ps (fun l=>∀p∈l,sH p) (cE L n s):=by
 unfold cE;exact Ps.bind fun _ f=>Ps.ite (Ps.bind fun _ _=>Ps.ok fun _ h=>by cases h) ((AJ d f).bindQ fun a c b=>(AK d n _ c fun p hp=>by rw[xK.1 hp];exact b).bindQ fun l g e=>Ps.bind fun _ _=>Ps.ok e)
theorem NM(n:Nat)(s:RS):Ps m0 (oF L n s):=by
 have B:=(Ej d n).1;unfold oF;refine Ps.bind fun _ g=>(qm d 1 g).bindQ fun u i e=>(FI d n i).bindQ fun ps j a=>Ps.bind fun _ c=>Ps.ite ?_ ?_
 ·exact(wd _ c).bindQ fun k h f=>(B h).bindQ fun l _ b=>Ps.ok ⟨b,a,xW _ f,e⟩
 ·exact(B c).bindQ fun l _ b=>Ps.ok ⟨b,a,x0 ..,e⟩
theorem JB(N:Nat):∀(n:Nat)(l:List Fn)(s:RS),(∀f∈l,m0 f)→Ps (fun l=>∀f∈l,m0 f) (gF L N n l s)
 |0,_,_,_=>Ps.out
 |n+1,l,s,c=>by
  simp only[gF]
  exact Ps.ite (Ps.ok c) ((NM d N s).bindQ fun a g e=>JB N n _ g fun f b=>by
   rcases xZ.1 b with b|b
   ·exact c f b
   ·rw[xK.1 b];exact e)
theorem MA(n:Nat):Ps (fun l=>∀f∈l,m0 f) (dA L n):=by
 unfold dA;exact(NM d n ⟨0,0,0⟩).bindQ fun a e c=>JB d n n _ e fun f b=>by rw[xK.1 b];exact c
end
end Go.Avm
namespace Go.Avm
open Go.Proofs
theorem bind_ok{g e:Type}{r:Res g}{f:g→RS→Res e}{b:e}{d:RS}(h:r.bind f= .ok b d):∃a c,r= .ok a c∧f a c= .ok b d:=by
 cases r with
 |ok a c=>exact⟨a,c,rfl,h⟩
 |bad p q c=>cases h
 |out=>cases h
def ko(s:RS):Int:=b5 (s.n+1)
def un(L:List T)(s:RS)(a:Int):Prop:=a<(aD L s).p
structure On(L:List T)(s s':RS):Prop where
 lt:s.i<s'.i
 len:s'.i<L.length
 n:s'.n=s.n
section
variable{L:List T}(d:dM L)(f:Xm L)
include d
theorem fj{x:List UInt8}{s a:RS}{t:T}(l:s.i<L.length)(h:ah L x s= .ok t a):On L s a:=⟨((jh d x s l).2 t a h).1,((jh d x s l).2 t a h).2,oe L x s t a h⟩
theorem Ek{k:Int}(b:k≠0){s a:RS}{t:T}(l:s.i<L.length)(h:b0 L k s= .ok t a):On L s a:=⟨((j4 d k b s l).2 t a h).1,((j4 d k b s l).2 t a h).2,lS L k s t a h⟩
theorem qn{n:Nat}{k:Int}{s a:RS}{e:Ex}(l:s.i<L.length)(h:aQ L n k s= .ok e a):On L s a:=by
 have c:=(lu d n).expr k s l;rw[h]at c;exact⟨ja L n k s e a h,c.1,qk L n k s e a h⟩
theorem kc{j:Type}{x:List UInt8}{s e:RS}(l:s.i<L.length){X Y:RS→Res j}{a:j}(h:((aM L x s).bind fun b c=>bif b then X c else Y c)= .ok a e):(∃c,On L s c∧X c= .ok a e)∨Y s= .ok a e:=by
 unfold aM at h;cases k:isT L s x<;>rw[k]at h
 ·exact .inr h
 ·simp only[xR]at h
  cases g:ah L x s<;>rw[g]at h
  ·exact .inl ⟨_,fj d l g,h⟩
  ·cases h
  ·cases h
theorem Qv{n:Nat}{id p:Int}{s a:RS}{x:aP}(l:s.i<L.length)(h:gE L n id p s= .ok x a):On L s a:=by
 have c:=Ts d n id p s l;rw[h]at c;exact⟨GL L n id p s x a h,c.1,Qt L n id p s x a h⟩
theorem JC{n:Nat}{id p:Int}{s a:RS}{x:aP}(l:s.i<L.length)(h:ci L n id p s= .ok x a):On L s a:=by
 have c:=Ia d n id p s l;rw[h]at c;exact⟨zr L n id p s x a h,c.1,Jy L n id p s x a h⟩
theorem o9{n:Nat}{s a:RS}{b:List aP}(l:s.i<L.length)(h:bg L n s= .ok b a):s.i<a.i∧a.i<L.length:=by
 have c:=(Af d n).block s l;rw[h]at c;exact⟨(lL L n).1 s b a h,c.1⟩
theorem JD{n:Nat}{s a:RS}{x:aP}(l:s.i<L.length)(h:b6 L n s= .ok x a):s.i<a.i∧a.i<L.length:=by
 have c:=(Af d n).stmt s l;rw[h]at c;exact⟨(lL L n).2.2 s x a h,c.1⟩
omit d
include f
theorem qo{s b:RS}{a:Int}(g:s.i≤b.i)(c:b.i<L.length)(h:un L s a):un L b a:=by
 rcases yJ s.i b.i with e|e
 ·exact Int.lt_trans h (f _ _ e c)
 ·have:s.i=b.i:=by omega
  unfold un aD at h ⊢;rw[←this];exact h
theorem JE{s c:RS}(b:s.i<c.i)(a:c.i<L.length):un L c (aD L s).p:=f _ _ b a
include d
theorem og{s0 n:RS}{k id:Int}{nm:List UInt8}{ty v p:Int}{es:List Ex}{g h:List aP}{a:Int}(e:id=ko s0)(hp:p=(aD L s0).p)(o:un L s0 a)(lb:g.length<1000000)(w:h.length<1000000){j m l i:Int}(q:dx g (b5 (ko s0+1)) (aD L s0).p j m)(u:dx h j m l i)(s:l=ko n):
    ∀r b c,dx r (ko n) i b c→dx (.mk k id nm ty v p es g h::r) (ko s0) a b c:=fun r b c t=>by
 subst e hp s;exact dx.cons o lb w q u t
theorem El:∀n,(∀(s c:RS)(l:List aP),s.i<L.length→bg L n s= .ok l c→l.length<1000000∧∀a,un L s a→∃M,dx l (ko s) a (ko c) M∧un L c M)∧
    (∀(r:List aP)(s c:RS)(l:List aP),s.i<L.length→r.length≤s.i→cj L n r s= .ok l c→(l.length≤c.i∧c.i<L.length)∧∃O,l=r ++O∧∀a,un L s a→∃M,dx O (ko s) a (ko c) M∧un L c M)∧
    (∀(s c:RS)(x:aP),s.i<L.length→b6 L n s= .ok x c→∀a,un L s a→∃q,(∀r H E,dx r (ko c) q H E→dx (x::r) (ko s) a H E)∧un L c q)
 |0=>⟨fun _ _ _ _ h=>by simp[bg]at h,fun _ _ _ _ _ _ h=>by simp[cj]at h,fun _ _ _ _ h=>by simp[b6]at h⟩
 |n+1=>by
  obtain⟨P,R,ihT⟩:=El n;refine⟨fun s c l J h=> ?_,fun r s c l J hr h=> ?_,fun s0 c x J h a A=> ?_⟩
  ·simp only[bg]at h
   obtain⟨t,u,U,h⟩:=bind_ok h;obtain⟨l1,j,h2,h⟩:=bind_ok h;obtain⟨t3,y,D,h⟩:=bind_ok h;cases h;have g:=fj d J U;obtain⟨⟨C,B⟩,O,rfl,F⟩:=R [] u j _ g.len (xz _) h2;have W:=fj d B D;refine⟨by have:=d.len;omega,fun a A=> ?_⟩;obtain⟨M,K,G⟩:=F a (qo f (zT g.lt) g.len A);refine⟨M, ?_,qo f (zT W.lt) W.len G⟩;have e1:ko u=ko s:=by simp only[ko,g.n]
   have e2:ko c=ko j:=by simp only[ko,W.n]
   rw[e2,←e1];exact K
  ·simp only[cj]at h
   cases Z:isT L s [125]<;>rw[Z]at h
   ·simp only[xI]at h
    obtain⟨x,u,U,h⟩:=bind_ok h;have C:=JD d J U;obtain⟨B,O,rfl,F⟩:=R (r ++[x]) u c l C.2 (by simp only[xC,xt];omega) h;refine⟨B,x::O,by simp,fun a A=> ?_⟩;obtain⟨q,K,G⟩:=ihT s u x J U a A;obtain⟨Y,X,g7⟩:=F q G;exact⟨Y,K _ _ _ X,g7⟩
   ·cases h
    exact⟨⟨hr,J⟩,[],by simp,fun a A=>⟨a, .nil _ _,A⟩⟩
  ·simp only[b6]at h
   have N:s0.st.i<L.length:=J;have hc:aD L s0.st=aD L s0:=rfl;have V:([]:List aP).length<1000000:=by decide
   have w:∀{k:Int}{nm:List UInt8}{ty v:Int}{es:List Ex}{c:RS},On L s0.st c→∃q,(∀r H E,dx r (ko c) q H E→dx (.mk k s0.st.n nm ty v (aD L s0.st).p es [] []::r) (ko s0) a H E)∧un L c q:=fun {k nm ty v es c} o=>
    ⟨_,og d f (s0:=s0) rfl rfl A V V (.nil _ _) (.nil _ _) (by simp only[ko,o.n];rfl),JE f o.lt o.len⟩
   have Q:∀{x:aP}{c:RS},Qr s0.st.n (aD L s0.st).p x→On L s0.st c→∃q,(∀r H E,dx r (ko c) q H E→dx (x::r) (ko s0) a H E)∧un L c q:=fun {x c} hx o=>by
    obtain⟨k,id,nm,ty,v,p,es,bd,el⟩:=x;obtain⟨rfl,rfl,rfl,rfl⟩:=hx;exact w o
   have I:∀{u j:RS},On L s0.st u→On L u j→On L s0.st j:=fun g z=>⟨Nat.lt_trans g.lt z.lt,z.len,z.n.trans g.n⟩
   have S:∀{j y:RS}{b:List aP},On L s0.st j→bg L n j= .ok b y→b.length<1000000∧j.i<y.i∧y.i<L.length∧∃q,dx b (b5 (ko s0+1)) (aD L s0).p (ko y) q∧un L y q:=fun {j y b} o hb=>by
    obtain⟨C,B⟩:=P j y b o.len hb;have F:=o9 d o.len hb;obtain⟨q,K,G⟩:=B _ (JE f (s:=s0) o.lt o.len)
    have e:ko j=b5 (ko s0+1):=by
     have:ko j=b5 (j.n+1):=rfl;rw[this,o.n];rfl
    rw[e]at K;exact⟨C,F.1,F.2,q,K,G⟩
   rcases kc d N h with ⟨u,g,h⟩|h
   ·obtain⟨x1,j,h2,h⟩:=bind_ok h
    cases h;exact Q (Qs L n _ _ u x c h2) (I g (Qv d g.len h2))
   rcases kc d N h with ⟨u,g,h⟩|h
   ·obtain⟨e,j,h2,h⟩:=bind_ok h
    obtain⟨b,y,D,h⟩:=bind_ok h;have z:=I g (qn d g.len h2);obtain⟨lb,p1,p2,q,C,B⟩:=S z D;rcases kc d p2 h with ⟨s4,T,h⟩|h
    ·obtain⟨m,s5,h5,h⟩:=bind_ok h
     cases h;obtain⟨lm,F⟩:=P s4 c m T.len h5;have K:=o9 d T.len h5;obtain⟨Y,G,X⟩:=F q (qo f (zT T.lt) T.len B);have e4:ko s4=ko y:=by simp only[ko,T.n]
     rw[e4]at G;exact⟨Y,og d f (s0:=s0) rfl rfl A lb lm C G rfl,X⟩
    ·cases h
     exact⟨q,og d f (s0:=s0) rfl rfl A lb V C (.nil _ _) rfl,B⟩
   rcases kc d N h with ⟨u,g,h⟩|h
   ·obtain⟨e,j,h2,h⟩:=bind_ok h
    obtain⟨b,y,D,h⟩:=bind_ok h;cases h;obtain⟨lb,p1,p2,q,C,B⟩:=S (I g (qn d g.len h2)) D;exact⟨q,og d f (s0:=s0) rfl rfl A lb V C (.nil _ _) rfl,B⟩
   rcases kc d N h with ⟨u,g,h⟩|h
   ·cases Z:isT L u [59]<;>rw[Z]at h
    ·obtain⟨e,j,h2,h⟩:=bind_ok h
     obtain⟨t,y,D,h⟩:=bind_ok h;cases h;have z:=I g (qn d g.len h2);exact w (I z (fj d z.len D))
    ·obtain⟨t,j,h2,h⟩:=bind_ok h
     cases h;exact w (I g (fj d g.len h2))
   rcases kc d N h with ⟨u,g,h⟩|h
   ·obtain⟨e,j,h2,h⟩:=bind_ok h
    obtain⟨t,y,D,h⟩:=bind_ok h;cases h;have z:=I g (qn d g.len h2);exact w (I z (fj d z.len D))
   ·obtain⟨x1,j,h2,h⟩:=bind_ok h
    cases h;exact Q (Jx L n _ _ s0.st x c h2) (JC d N h2)
end
end Go.Avm
namespace Go.Avm
open Go.Proofs
def FJ:Nat→List (Nat×l9)→Nat→Prop
 |b,[],a=>b≤a
 |b,x::r,a=>b≤x.1∧FJ (x.1+1) r a
theorem uo:∀{ts:List (Nat×l9)}{d a c:Nat},d≤a→FJ a ts c→FJ d ts c
 |[],_,_,_,h,b=>yX h b
 |_::_,_,_,_,h,b=>⟨yX h b.1,b.2⟩
theorem sI:∀(n:Nat)(r:List UInt8)(a:Nat)(ts:List (Nat×l9)),dX n r a= .ok ts→FJ a ts (a+r.length)
 |0,r,a,ts,h=>by
  simp only[dX,Except.ok.injEq]at h;subst h;exact Nat.le_add_right _ _
 |n+1,[],a,ts,h=>by
  simp only[dX,Except.ok.injEq]at h;subst h;exact Nat.le_add_right _ _
 |n+1,b::r,a,ts,h=>by
  rw[fq]at h;split at h
  ·cases h
  rename_i t l;split at h
  ·cases h
  rename_i i g;cases h;obtain⟨kd,c,k⟩:=t;obtain⟨hp,f⟩:=n0 l;have m:0<c.length:=List.length_pos_iff.2 f;have h2:c.length≤(b::r).length:=hp.length_le;have d:=sI n _ _ _ g;have j:=gV false ((b::r).drop c.length);simp only[yW]at d j;refine⟨xS _, ?_⟩;have e:a+c.length+bl false (List.drop c.length (b::r))+((b::r).length-c.length-bl false (List.drop c.length (b::r)))=a+(b::r).length:=by omega
  rw[e]at d;exact uo (show a+1≤a+c.length+bl false (List.drop c.length (b::r)) by omega) d
theorem Cy{s:List UInt8}{ts:List (Nat×l9)}(h:gp s= .ok ts):FJ 0 ts s.length:=by
 have a:=sI _ _ _ _ h;have h2:=gV false s;rw[yW,Nat.add_sub_cancel' h2]at a;exact uo (xz _) a
theorem AL(n:Nat):∀{ts:List (Nat×l9)}{a:Nat},FJ a ts n→(∀i,i<(bp ts n).length→(a:Int)≤((bp ts n).getD i default).p)∧Xm (bp ts n)
 |[],a,h=>by
  have h':a≤n:=h;refine⟨fun i b=> ?_,fun i j e d=> ?_⟩
  ·have:i=0:=by simp[bp]at b;exact b
   subst this;show(a:Int)≤(n:Int);omega
  ·simp[bp]at d;omega
 |x::r,a,⟨l,h2⟩=>by
  obtain⟨f,k⟩:=AL n h2;have g:bp (x::r) n=TU x::bp r n:=rfl;refine⟨fun i b=> ?_,fun i j e d=> ?_⟩
  ·rw[g]at b ⊢
   cases i with
   |zero=>show(a:Int)≤(x.1:Int);omega
   |succ i=>
    have:=f i (by simpa using b);rw[List.getD_cons_succ];omega
  ·rw[g]at d ⊢
   cases j with
   |zero=>omega
   |succ j=>
    have c:j<(bp r n).length:=by simpa using d
    rw[List.getD_cons_succ];cases i with
    |zero=>
     have:=f j c;show(x.1:Int)<_;omega
    |succ i=>
     rw[List.getD_cons_succ];exact k i j (by omega) c
section
variable{L:List T}(c:dM L)(d:Xm L)
include c
theorem jG{g e f:RS}(a:On L g e)(b:On L e f):On L g f:=⟨Nat.lt_trans a.lt b.lt,b.len,b.n.trans a.n⟩
theorem we:∀{k:List Int}{s a:RS}{t:Int},s.i<L.length→cL L k s= .ok t a→On L s a
 |[],_,_,_,_,h=>by cases h
 |k::r,s,a,t,l,h=>by
  simp only[cL]at h;rcases kc c l h with ⟨b,o,h⟩|h
  ·cases h;exact o
  ·exact we l h
theorem AM{s e:RS}{x:Pm}(l:s.i<L.length)(h:eH L s= .ok x e):On L s e:=by
 unfold eH at h;obtain⟨t,j,f,h⟩:=bind_ok h;obtain⟨u,m,h2,h⟩:=bind_ok h;obtain⟨k,n,g,h⟩:=bind_ok h;cases h;have b:=Ek c (by decide) l f;have a:=fj c b.len h2;exact jG c (jG c b a) (we c a.len g)
theorem AN:∀{n:Nat}{r:List Pm}{s a:RS}{e:List Pm},s.i<L.length→cl L n r s= .ok e a→a=s∨On L s a
 |0,_,_,_,_,_,h=>by simp[cl]at h
 |n+1,r,s,a,e,l,h=>by
  simp only[cl]at h;rcases kc c l h with ⟨g,o,h⟩|h
  ·obtain⟨x,j,h2,h⟩:=bind_ok h
   have b:=jG c o (AM c o.len h2);rcases AN b.len h with rfl|f
   ·exact .inr b
   ·exact .inr (jG c b f)
  ·cases h;exact .inl rfl
theorem FK{n:Nat}{s g:RS}{k:List Pm}(l:s.i<L.length)(h:cE L n s= .ok k g):On L s g:=by
 unfold cE at h;obtain⟨t,o,m,h⟩:=bind_ok h;have b:=fj c l m;cases j:isT L o [41]<;>rw[j]at h
 ·obtain⟨x,p,h2,h⟩:=bind_ok h
  obtain⟨y,u,q,h⟩:=bind_ok h;obtain⟨z,r,e,h⟩:=bind_ok h;cases h;have a:=jG c b (AM c b.len h2);rcases AN c a.len q with rfl|f
  ·exact jG c a (fj c a.len e)
  ·exact jG c (jG c a f) (fj c f.len e)
 ·obtain⟨x,p,h2,h⟩:=bind_ok h
  cases h;exact jG c b (fj c b.len h2)
include d
theorem JF{n:Nat}{s g:RS}{f:Fn}(l:s.i<L.length)(h:oF L n s= .ok f g):(s.i<g.i∧g.i<L.length)∧f.bd.length<1000000∧∀a,un L s a→∃j,dx f.bd (ko s) a (ko g) j∧un L g j:=by
 unfold oF at h;obtain⟨t,M,G,h⟩:=bind_ok h;obtain⟨u,J,h2,h⟩:=bind_ok h;obtain⟨ps,N,H,h⟩:=bind_ok h;have v:=fj c l G;have z:=jG c v (Ek c (by decide) v.len h2);have r:=jG c z (FK c z.len H)
 have p:∀{m:RS}{b:List aP},On L s m→bg L n m= .ok b g→(s.i<g.i∧g.i<L.length)∧b.length<1000000∧∀a,un L s a→∃j,dx b (ko s) a (ko g) j∧un L g j:=fun {m b} o w=>by
  have x:=o9 c o.len w;obtain⟨F,B⟩:=(El c d n).1 m g b o.len w;refine⟨⟨Nat.lt_trans o.lt x.1,x.2⟩,F,fun a C=> ?_⟩;obtain⟨j,y,E⟩:=B a (qo d (zT o.lt) o.len C);have e:ko m=ko s:=by simp only[ko,o.n]
  rw[e]at y;exact⟨j,y,E⟩
 rcases kc c r.len h with ⟨m,A,h⟩|h
 ·obtain⟨k,K,I,h⟩:=bind_ok h
  obtain⟨b,D,q,h⟩:=bind_ok h;cases h;exact p (jG c (jG c r A) (we c A.len I)) q
 ·obtain⟨b,D,q,h⟩:=bind_ok h
  cases h;exact p r q
theorem Em(N:Nat):∀(n:Nat)(r:List Fn)(s e:RS)(l:List Fn),s.i<L.length→r.length≤s.i→gF L N n r s= .ok l e→l.length<1000000∧∃b,l=r ++b∧∀a,un L s a→mV b (ko s) a
 |0,_,_,_,_,_,_,h=>by simp[gF]at h
 |n+1,r,s,e,l,z,A,h=>by
  simp only[gF]at h;cases j:((aD L s).k==0)<;>rw[j]at h
  ·simp only[xI]at h
   obtain⟨f,p,o,h⟩:=bind_ok h;obtain⟨u,x,w⟩:=JF c d z o;obtain⟨m,b,rfl,v⟩:=Em N n (r ++[f]) p e l u.2 (by simp only[xC,xt];omega) h;refine⟨m,f::b,by simp,fun a g=> ?_⟩;obtain⟨q,t,y⟩:=w a g;exact mV.cons x t (v q y)
  ·cases h
   exact⟨by have:=c.len;omega,[],by simp,fun a _=> .nil _ _⟩
theorem JG{n:Nat}{l:List Fn}{b:RS}(q:0<L.length)(hp:0≤(aD L ⟨0,0,0⟩).p)(h:dA L n= .ok l b):l.length<1000000∧mV l 1 (-1):=by
 unfold dA at h;obtain⟨f,i,g,h⟩:=bind_ok h;obtain⟨a,r,o⟩:=JF c d (s:=⟨0,0,0⟩) q g;obtain⟨e,u,rfl,m⟩:=Em c d n n [f] i b l a.2 (by have:=a.1;simp only[xt];omega) h;obtain⟨j,k,t⟩:=o (-1) (by unfold un;omega);exact⟨e,mV.cons r k (m j t)⟩
end
end Go.Avm
namespace Go.Avm
open Go.Proofs
def Bd{a:Type}(r:Res a):Prop:=∀p e s,r= .bad p e s→e≠0
section
variable{b d:Type}{r:Res b}{f:b→RS→Res d}{s:RS}{L:List T}
theorem Bd.bind(h:Bd r)(i:∀a j,Bd (f a j)):Bd (r.bind f):=fun p e g q=>by
 cases r with
 |ok a c=>exact i a c p e g q
 |bad p k c=>cases q;exact h _ _ _ rfl
 |out=>cases q
theorem Bd.ok{a:b}:Bd (.ok a s):=fun _ _ _ q=>by cases q
theorem Bd.out:Bd (Res.out:Res b):=fun _ _ _ q=>by cases q
theorem Bd.fail:Bd (fail L s:Res b):=fun _ _ _ q=>by cases q;decide
theorem Bd.ite{c:Bool}{X Y:Res b}(e:Bd X)(a:Bd Y):Bd (bif c then X else Y):=by cases c<;>assumption
theorem bj(x:List UInt8):Bd (ah L x s):=by
 unfold ah;refine Bd.ite (Bd.ite (Bd.ite (fun _ _ _ q=>by cases q;decide) .ok) (Bd.ite .ok .ok)) .fail
theorem ke(k:Int):Bd (b0 L k s):=by unfold b0;exact Bd.ite .ok .fail
theorem ep(x:List UInt8):Bd (aM L x s):=by unfold aM;exact Bd.ite ((bj x).bind fun _ _=> .ok) .ok
theorem qp:∀(l:List Int)(s:RS),Bd (cL L l s)
 |[],s=> .fail
 |k::r,s=>by unfold cL;exact(ep _).bind fun _ a=>Bd.ite .ok (qp r a)
end
section
variable(L:List T)
theorem JH:∀n,(∀s,Bd (dC L n s))∧(∀s,Bd (ch L n s))∧(∀nm p s,Bd (dz L n nm p s))∧(∀s,Bd (dU L n s))∧(∀l s,Bd (du L n l s))∧(∀k s,Bd (aQ L n k s))∧(∀k e s,Bd (c3 L n k e s))
 |0=>⟨fun _=> .out,fun _=> .out,fun _ _ _=> .out,fun _=> .out,fun _ _=> .out,fun _ _=> .out,fun _ _ _=> .out⟩
 |n+1=>by
  obtain⟨b,h2,i,g,f,a,d⟩:=JH n;refine⟨fun s=> ?_,fun s=> ?_,fun nm p s=> ?_,fun s=> ?_,fun l s=> ?_,fun k s=> ?_,fun k e s=> ?_⟩
  ·simp only[dC]
   refine(ep _).bind fun _ c=>Bd.ite ((b _).bind fun _ _=> .ok) ((ep _).bind fun _ h=>Bd.ite ((b _).bind fun _ _=> .ok) ((ep _).bind fun _ j=>Bd.ite ((b _).bind fun _ _=> .ok) (Bd.ite .ok ?_)))
   refine(ep _).bind fun _ c=>Bd.ite .ok ((ep _).bind fun _ h=>Bd.ite .ok ((ep _).bind fun _ j=>Bd.ite ((bj _).bind fun _ _=>(bj _).bind fun _ _=> .ok) ?_))
   refine(ep _).bind fun _ c=>Bd.ite ((bj _).bind fun _ _=>(ke _).bind fun _ _=>(bj _).bind fun _ _=> .ok) (Bd.ite ((bj _).bind fun _ _=>(a _ _).bind fun _ _=>(bj _).bind fun _ _=> .ok) ?_)
   exact(ke _).bind fun _ _=>Bd.ite ((h2 _).bind fun _ _=> .ok) (Bd.ite ((i _ _ _).bind fun _ _=> .ok) .ok)
  ·simp only[ch]
   exact(bj _).bind fun _ _=>(a _ _).bind fun _ _=>(bj _).bind fun _ _=> .ok
  ·simp only[dz]
   exact(g _).bind fun _ _=> .ok
  ·simp only[dU]
   exact(bj _).bind fun _ _=>Bd.ite ((bj _).bind fun _ _=> .ok) ((a _ _).bind fun _ _=>(f _ _).bind fun _ _=>(bj _).bind fun _ _=> .ok)
  ·simp only[du]
   exact(ep _).bind fun _ _=>Bd.ite ((a _ _).bind fun _ _=>f _ _) .ok
  ·simp only[aQ]
   exact(b _).bind fun _ _=>d _ _ _
  ·simp only[c3]
   exact Bd.ite .ok ((a _ _).bind fun _ _=>d _ _ _)
theorem kf(n:Nat)(k:Int)(s:RS):Bd (aQ L n k s):=(JH L n).2.2.2.2.2.1 k s
theorem Qw(n:Nat)(id p:Int)(s:RS):Bd (gE L n id p s):=by
 unfold gE;exact(ke _).bind fun _ _=>(bj _).bind fun _ _=>(qp _ _).bind fun _ _=>Bd.ite ((bj _).bind fun _ _=>(ke _).bind fun _ _=>(bj _).bind fun _ _=>(bj _).bind fun _ _=> .ok) ((ep _).bind fun _ _=>Bd.ite ((kf L _ _ _).bind fun _ _=>(bj _).bind fun _ _=> .ok) ((bj _).bind fun _ _=> .ok))
theorem JI(n:Nat)(id p:Int)(s:RS):Bd (ci L n id p s):=by
 obtain⟨_,h2,a,_⟩:=JH L n;unfold ci;exact(ke _).bind fun _ _=>Bd.ite ((a _ _ _).bind fun _ _=>(bj _).bind fun _ _=> .ok) (Bd.ite ((h2 _).bind fun _ _=>(bj _).bind fun _ _=>(kf L _ _ _).bind fun _ _=>(bj _).bind fun _ _=> .ok) ((bj _).bind fun _ _=>(kf L _ _ _).bind fun _ _=>(bj _).bind fun _ _=> .ok))
theorem En:∀n,(∀s,Bd (bg L n s))∧(∀l s,Bd (cj L n l s))∧(∀s,Bd (b6 L n s))
 |0=>⟨fun _=> .out,fun _ _=> .out,fun _=> .out⟩
 |n+1=>by
  obtain⟨a,h2,b⟩:=En n;refine⟨fun s=> ?_,fun l s=> ?_,fun s=> ?_⟩
  ·simp only[bg]
   exact(bj _).bind fun _ _=>(h2 _ _).bind fun _ _=>(bj _).bind fun _ _=> .ok
  ·simp only[cj]
   exact Bd.ite .ok ((b _).bind fun _ _=>h2 _ _)
  ·simp only[b6]
   refine(ep _).bind fun _ _=>Bd.ite ((Qw L _ _ _ _).bind fun _ _=> .ok) ((ep _).bind fun _ _=>Bd.ite ((kf L _ _ _).bind fun _ _=>(a _).bind fun _ _=>(ep _).bind fun _ _=>Bd.ite ((a _).bind fun _ _=> .ok) .ok) ?_)
   refine(ep _).bind fun _ _=>Bd.ite ((kf L _ _ _).bind fun _ _=>(a _).bind fun _ _=> .ok) ((ep _).bind fun _ _=>Bd.ite (Bd.ite ((bj _).bind fun _ _=> .ok) ((kf L _ _ _).bind fun _ _=>(bj _).bind fun _ _=> .ok)) ?_)
   exact(ep _).bind fun _ _=>Bd.ite ((kf L _ _ _).bind fun _ _=>(bj _).bind fun _ _=> .ok) ((JI L _ _ _ _).bind fun _ _=> .ok)
theorem AO(s:RS):Bd (eH L s):=(ke _).bind fun _ _=>(bj _).bind fun _ _=>(qp _ _).bind fun _ _=> .ok
theorem AP:∀(n:Nat)(l:List Pm)(s:RS),Bd (cl L n l s)
 |0,_,_=> .out
 |n+1,l,s=>by
  simp only[cl];exact(ep _).bind fun _ _=>Bd.ite ((AO L _).bind fun _ _=>AP n _ _) .ok
theorem NN(n:Nat)(s:RS):Bd (oF L n s):=by
 have B:=(En L n).1;unfold oF cE;exact(bj _).bind fun _ _=>(ke _).bind fun _ _=>Bd.bind ((bj _).bind fun _ _=>Bd.ite ((bj _).bind fun _ _=> .ok) ((AO L _).bind fun _ _=>(AP L _ _ _).bind fun _ _=>(bj _).bind fun _ _=> .ok)) fun _ _=>(ep _).bind fun _ _=>Bd.ite ((qp _ _).bind fun _ _=>(B _).bind fun _ _=> .ok) ((B _).bind fun _ _=> .ok)
theorem JJ(N:Nat):∀(n:Nat)(l:List Fn)(s:RS),Bd (gF L N n l s)
 |0,_,_=> .out
 |n+1,l,s=>by
  simp only[gF];exact Bd.ite .ok ((NN L N s).bind fun _ _=>JJ N n _ _)
theorem MB(n:Nat):Bd (dA L n):=by
 unfold dA;exact(NN L n _).bind fun _ _=>JJ L n n _ _
end
end Go.Avm
namespace Go.Avm
open Go.Proofs
theorem Eo:∀(ps:List Pm)(k:Nat)(a:List (List UInt8))(u:Unit),mS k a ps= .ok u→(k≤6→k+ps.length≤6)∧(ps.map (·.nm)).Nodup∧∀p∈ps,p.nm∉a
 |[],k,a,u,_=>⟨fun h=>h,y8,fun _ h=>by cases h⟩
 |p::r,k,a,u,h=>by
  simp only[mS]at h;cases c:decide (6≤k)with
  |true=>rw[c]at h;cases h
  |false=>
   rw[c]at h;have c:=yQ c;cases d:a.any (· ==p.nm)with
   |true=>rw[d]at h;cases h
   |false=>
    rw[d]at h;obtain⟨f,i,e⟩:=Eo r (k+1) (a ++[p.nm]) u h;refine⟨fun _=>by have:=f (by omega);simp only[xD];omega, ?_, ?_⟩
    ·rw[xN,zJ]
     refine⟨fun hm=> ?_,i⟩;obtain⟨q,b,g⟩:=xi.1 hm;exact e q b (by rw[g];simp)
    ·intro q b
     rcases xX.1 b with rfl|b
     ·intro hm
      have:a.any (· ==q.nm)=true:=yd.2 ⟨_,hm,by simp⟩;rw[d]at this;cases this
     ·exact fun hm=>e q b (yP _ hm)
theorem Ep:∀(ps:List Pm)(k:Nat)(a:List (List UInt8)),mS k a ps≠ .out
 |[],_,_=>by simp[mS]
 |p::r,k,a=>by
  simp only[mS];exact fw fx (fw fx (Ep r _ _))
theorem uq:∀(fs a:List Fn)(u:Unit),fo a fs= .ok u→∀f∈fs,f.ps.length≤6∧(f.ps.map (·.nm)).Nodup
 |[],_,_,_,_,h=>by cases h
 |f::r,a,u,h,g,b=>by
  simp only[fo]at h;cases c:(cv f.nm a 0).isSome with
  |true=>rw[c]at h;cases h
  |false=>
   rw[c]at h;simp only[xI]at h;cases hp:mS 0 [] f.ps with
   |out=>rw[hp]at h;cases h
   |bad p e=>rw[hp]at h;cases h
   |ok v=>
    rw[hp]at h;rcases xX.1 b with rfl|b
    ·obtain⟨d,i,_⟩:=Eo _ _ _ _ hp
     exact⟨by have:=d (by omega);omega,i⟩
    ·exact uq r _ u h g b
theorem ur:∀(fs a:List Fn),fo a fs≠ .out
 |[],_=>by simp[fo]
 |f::r,a=>by
  simp only[fo];exact fw fx (TR.bind_ne (Ep _ _ _) fun _=>ur r _)
theorem us(fs:List Fn):gI fs≠ .out:=by
 unfold gI;refine TR.bind_ne (ur _ _) fun _=> ?_
 split
 ·exact fx
 ·exact fw gs fx
theorem lT{fs:List Fn}{u:Unit}(h:gI fs= .ok u):∀f∈fs,f.ps.length≤6∧(f.ps.map (·.nm)).Nodup:=by
 unfold gI at h;cases a:fo [] fs with
 |out=>rw[a]at h;cases h
 |bad p e=>rw[a]at h;cases h
 |ok v=>exact uq fs [] v a
theorem sJ:∀(m:Nat)(l:List aP),bN l<m→m≤1000000→jf m l
 |0,_,h,_=>absurd h (Nat.not_lt_zero _)
 |m+1,l,h,hm=>by
  have g:=sx l;refine⟨by omega,fun s b=> ?_⟩;obtain⟨i,a,d⟩:=yv b;have e:=Ao (show l[i]? =some s by rw[xH a,d]);obtain⟨k,id,nm,ty,n,p,es,c,f⟩:=s;simp only[kl]at e;exact⟨sJ m c (by omega) (by omega),sJ m f (by omega) (by omega)⟩
structure PG(fs:List Fn):Prop where
 z:fh fs<1000000
 g:∀f∈fs,m0 f
 num:mV fs 1 (-1)
theorem PG.fsOk{fs:List Fn}(h:PG fs){u:Unit}(b:gI fs= .ok u):Jq fs 999999 where
 len:=yo (jC fs) h.z
 par:=fun f a=>(lT b f a).1
 nod:=fun f a=>(lT b f a).2
 nml:=fun f a p hp=>by have:=((h.g f a).ps p hp).1;omega
 sh:=fun f a=>by
  obtain⟨i,c,d⟩:=yv a;have e:=Ap (show fs[i]? =some f by rw[xH c,d]);have:=h.z;unfold Co at e;exact sJ _ _ (by omega) (by omega)
 m:=by decide
theorem wg(c:CS):∀ps:List Pm,(ps.foldl CS.par c).pts=c.pts
 |[]=>rfl
 |p::r=>wg (c.par p) r
theorem Er{fs:List Fn}{i:Nat}(l:i<fs.length){f:Fn}(r:ew f.bd=true){b:List Pt}{n a d j:Int}(t:n=(b.length:Int))(m:dx f.bd n a d j)(o:b.length+bN f.bd<900000000):
    iJ fs i f b≠ .out∧∀q,iJ fs i f b= .ok q→(q.2.length:Int)=d∧q.2.length≤b.length+bN f.bd:=by
 have hp:=wg ⟨[],[],⟨[],0⟩,b⟩ f.ps;unfold iJ e5;generalize f.ps.foldl CS.par ⟨[],[],⟨[],0⟩,b⟩=c at hp;have hp:c.pts=b:=hp;have g:=lD fs i l f.bd 0 false c n a d j r (by rw[hp];exact t) m (by rw[hp];exact o);revert g;show NO d (c.pts.length+bN f.bd) (bQ fs i 0 false f.bd c)→_;dsimp only;cases bQ fs i 0 false f.bd c with
 |out=>exact fun h=>h.elim
 |bad p e=>exact fun _=>⟨fx,fun _ h=>by cases h⟩
 |ok u=>
  rintro⟨s,k⟩;rw[hp]at k;simp only[TR.bind];cases (f.res==0||dV f.bd)with
  |false=>exact⟨fx,fun _ h=>by cases h⟩
  |true=>exact⟨gs,fun q h=>by cases h;exact⟨s,k⟩⟩
theorem ut{fs:List Fn}:∀(mR:List Fn)(i:Nat)(c:List (List Vr))(b:List Pt)(n a:Int),i+mR.length≤fs.length→(∀f∈mR,m0 f)→mV mR n a→n=(b.length:Int)→b.length+fh mR<900000000→cF fs i mR c b≠ .out
 |[],_,_,_,_,_,_,_,_,_,_=>by simp[cF]
 |f::r,i,c,b,n,a,t,s,u,v,g=>by
  simp only[xD]at t;simp only[fh,Co]at g;cases u with
  | @cons nm ps k d p _ _ _ y z lb j m=>
  have g:b.length+(1+ps.length+bN d+fh r)<900000000:=g;obtain⟨w,l⟩:=Er (fs:=fs) (i:=i) (by omega) (f:=⟨nm,ps,k,d,p⟩) (s _ (x0 ..)).bd v j (by show b.length+bN d<_;omega);simp only[cF];revert w l;cases iJ fs i ⟨nm,ps,k,d,p⟩ b with
  |out=>exact fun h _=>absurd rfl h
  |bad p e=>exact fun _ _=>fx
  |ok q=>
   intro _ l;obtain⟨x,o⟩:=l q rfl;have o:q.2.length≤b.length+bN d:=o;simp only[TR.bind];exact ut r (i+1) _ _ y z (by omega) (fun f A=>s f (xW _ A)) m x.symm (by omega)
theorem sK{fs:List Fn}(h:PG fs):cT fs≠ .out:=by
 unfold cT;exact TR.bind_ne (us fs) fun _=>ut fs 0 [] [ey] 1 (-1) (by omega) h.g h.num rfl (by have:=h.z;simp only[xD,xF];omega)
theorem Qx{fs:List Fn}(h:PG fs):al Pg 13 [.agg [.ro (fs.map c2)]] (Jw (cT fs)):=by
 cases d:gI fs with
 |ok u=>exact Qp (h.fsOk d) (sK h)
 |out=>exact absurd d (us fs)
 |bad p e=>
  have b:=yo (jC fs) h.z;have c:=HH (fs:=fs) (nn:= .junk) (fun _=>rfl) b;unfold cT;rw[d]at c ⊢;simp only[UU]at c;exact Yb b p e fun a=>AH bv (c a) (sG fs a)
theorem AQ:∀(n:Nat)(r:List UInt8)(a:Nat)(ts:List (Nat×l9)),dX n r a= .ok ts→∀x∈ts,x.2.2.1.length≤r.length
 |0,r,a,ts,h,x,c=>by
  simp only[dX,Except.ok.injEq]at h;subst h;cases c
 |n+1,[],a,ts,h,x,c=>by
  simp only[dX,Except.ok.injEq]at h;subst h;cases c
 |n+1,b::r,a,ts,h,x,c=>by
  rw[fq]at h;split at h
  ·cases h
  rename_i t f;split at h
  ·cases h
  rename_i e d;cases h;obtain⟨kd,g,k⟩:=t;obtain⟨hp,_⟩:=n0 f;rcases xX.1 c with rfl|c
  ·exact hp.length_le
  ·have:=AQ n _ _ _ d x c
   simp only[yW]at this;omega
theorem Cz{s:List UInt8}(h:s.length≤20000){ts:List (Nat×l9)}(c:gp s= .ok ts):NL (bp ts s.length):=fun r=>by
 unfold aD;rw[List.getD_eq_getElem?_getD];cases b:(bp ts s.length)[r.i]? with
 |none=>exact xz _
 |some x=>
  have hm:=x5 b;rcases xZ.1 hm with hm|hm
  ·obtain⟨y,a,rfl⟩:=xi.1 hm
   have:=AQ _ _ _ _ c y a;simp only[yW]at this;show y.2.2.1.length≤20000;omega
  ·rw[xK.1 hm]
   exact xz _
end Go.Avm
namespace Go.Avm
open Go.Proofs
def lE(s:List UInt8):Except (Int×Int) (List Fn):=
 if 20000<s.length then .error (0,2)else match gp s with
  | .error (p,k)=> .error ((p:Int),k)
  | .ok ts=>match dA (bp ts s.length) (fuel (bp ts s.length))with
   | .ok l _=> .ok l
   | .bad p e _=> .error (p,e)
   | .out=> .error (0,1)
def CB(s:List UInt8):Except (Int×Int) (List Fn)→Prop
 | .error (q,e)=>iM s=[.agg [.ro []], .int .i64 q, .int .i64 e]∧e≠0
 | .ok l=>iM s=[.agg [.ro (l.map c2)], .int .i64 0, .int .i64 0]∧PG l
theorem Es(s:List UInt8):CB s (lE s):=by
 unfold lE;have j:∀x:Except (Int×Int) (List Fn),CB s x=CB s x:=fun _=>rfl
 by_cases h:20000<s.length
 ·rw[x9 h]
  exact⟨by unfold iM;rw[x9 h],by decide⟩
 ·rw[xj h]
  have hp:iM s=match gp s with
   | .error (p,k)=>[.agg [.ro []], .int .i64 (p:Int), .int .i64 k]
   | .ok ts=>Ig (Cm ts s.length):=by unfold iM;rw[xj h];try rfl
  cases c:gp s with
  |error e=>
   obtain⟨p,k⟩:=e;rw[c]at hp;exact⟨hp,o2 _ _ _ _ _ c⟩
  |ok ts=>
   rw[c]at hp;have m:=o4 c;have a:=o3 (ts:=ts) (n:=s.length) (by omega);obtain⟨g,i⟩:=AL s.length (Cy c);have d:=vP a (fu ts s.length);dsimp only at hp ⊢;unfold Cm at hp;cases b:dA (bp ts s.length) (fuel (bp ts s.length))with
   |ok l f=>
    rw[b]at hp;exact⟨hp,Cq a (fu _ _) b,MA (Cz (by omega) c) _ l f b,(JG a i (fu _ _) (g 0 (fu _ _)) b).2⟩
   |bad p e f=>
    rw[b]at hp;exact⟨hp,MB _ _ _ _ _ b⟩
   |out=>exact absurd b d
def iU(s:List UInt8):List D:=match lE s with
 | .error (q,e)=>[.agg [.ro []], .agg [.ro [], .ro []], .int .i64 q, .int .i64 e]
 | .ok l=> .agg [.ro (l.map c2)]::Jw (cT l)
section
variable{s:List UInt8}
theorem Xn{q e:Int}(hp:al Pg 12 [.str s] [.agg [.ro []], .int .i64 q, .int .i64 e])(a:(e !=0)=true):al Pg 9 [.str s] [.agg [.ro []], .agg [.ro [], .ro []], .int .i64 q, .int .i64 e]:=
 qV {hint:=qT 9 [(12, .call 12 _ _ hp),(17,qB a)]} 709297
theorem Uo{l:List Fn}{a b:List D}{q e:Int}(hp:al Pg 12 [.str s] [.agg [.ro (l.map c2)], .int .i64 0, .int .i64 0])(c:al Pg 13 [.agg [.ro (l.map c2)]] [.agg [.ro a, .ro b], .int .i64 q, .int .i64 e]):al Pg 9 [.str s] [.agg [.ro (l.map c2)], .agg [.ro a, .ro b], .int .i64 q, .int .i64 e]:=
 qV {hint:=qT 9 [(12, .call 12 _ _ hp),(24, .call 13 _ _ c)]} 709297
end
theorem sL(s:List UInt8):al Pg 9 [.str s] (iU s):=by
 have hp:=Fq s;have b:=Es s;unfold iU;cases h:lE s with
 |error x=>
  obtain⟨q,e⟩:=x;rw[h]at b;obtain⟨c,h2⟩:=b;rw[c]at hp;exact Xn hp (by simpa using h2)
 |ok l=>
  rw[h]at b;obtain⟨c,h2⟩:=b;rw[c]at hp;have a:=Qx h2;have d:=sK h2;dsimp only;revert a d;cases cT l with
  |out=>exact fun _ h=>absurd rfl h
  |ok q=>exact fun a _=>Uo hp a
  |bad p e=>exact fun a _=>Uo hp a
end Go.Avm
namespace Go.Avm
open Go.Proofs
set_option maxRecDepth 100000 in
theorem Xo:al Pg 9 [.str [102,110,32,109,97,105,110,40,41,58,32,105,110,116,32,123,32,108,101,116,32,120,58,32,105,110,116,59,32,105,102,32,116,114,117,101,32,123,32,120,32,61,32,49,59,32,125,32,114,101,116,117,114,110,32,120,59,32,125]] [.agg [.ro [.agg [.str [109,97,105,110], .ro [], .int .u8 1, .ro [.agg [.int .u8 1, .int .i64 1, .str [120], .int .u8 1, .int .i64 0, .int .i64 17, .ro [], .ro [], .ro []], .agg [.int .u8 4, .int .i64 2, .str [], .int .u8 0, .int .i64 0, .int .i64 29, .ro [.agg [.int .u8 2, .int .u8 0, .str [], .int .i64 1, .int .i64 32, .ro []]], .ro [.agg [.int .u8 2, .int .i64 3, .str [120], .int .u8 0, .int .i64 0, .int .i64 39, .ro [.agg [.int .u8 1, .int .u8 0, .str [], .int .i64 1, .int .i64 43, .ro []]], .ro [], .ro []]], .ro []], .agg [.int .u8 6, .int .i64 4, .str [], .int .u8 0, .int .i64 0, .int .i64 48, .ro [.agg [.int .u8 3, .int .u8 0, .str [120], .int .i64 0, .int .i64 55, .ro []]], .ro [], .ro []]], .int .i64 0]]], .agg [.ro [], .ro []], .int .i64 55, .int .i64 10]:=by
 have h:=sL [102,110,32,109,97,105,110,40,41,58,32,105,110,116,32,123,32,108,101,116,32,120,58,32,105,110,116,59,32,105,102,32,116,114,117,101,32,123,32,120,32,61,32,49,59,32,125,32,114,101,116,117,114,110,32,120,59,32,125];rw[show iU [102,110,32,109,97,105,110,40,41,58,32,105,110,116,32,123,32,108,101,116,32,120,58,32,105,110,116,59,32,105,102,32,116,114,117,101,32,123,32,120,32,61,32,49,59,32,125,32,114,101,116,117,114,110,32,120,59,32,125]=[.agg [.ro [.agg [.str [109,97,105,110], .ro [], .int .u8 1, .ro [.agg [.int .u8 1, .int .i64 1, .str [120], .int .u8 1, .int .i64 0, .int .i64 17, .ro [], .ro [], .ro []], .agg [.int .u8 4, .int .i64 2, .str [], .int .u8 0, .int .i64 0, .int .i64 29, .ro [.agg [.int .u8 2, .int .u8 0, .str [], .int .i64 1, .int .i64 32, .ro []]], .ro [.agg [.int .u8 2, .int .i64 3, .str [120], .int .u8 0, .int .i64 0, .int .i64 39, .ro [.agg [.int .u8 1, .int .u8 0, .str [], .int .i64 1, .int .i64 43, .ro []]], .ro [], .ro []]], .ro []], .agg [.int .u8 6, .int .i64 4, .str [], .int .u8 0, .int .i64 0, .int .i64 48, .ro [.agg [.int .u8 3, .int .u8 0, .str [120], .int .i64 0, .int .i64 55, .ro []]], .ro [], .ro []]], .int .i64 0]]], .agg [.ro [], .ro []], .int .i64 55, .int .i64 10] by kernel_rfl]at h;exact h
set_option maxRecDepth 100000 in
theorem Xp:al Pg 9 [.str [102,110,32,109,97,105,110,40,41,58,32,105,110,116,32,123,32,108,101,116,32,120,58,32,105,110,116,59,32,105,102,32,116,114,117,101,32,123,32,120,32,61,32,49,59,32,125,32,101,108,115,101,32,123,32,120,32,61,32,50,59,32,125,32,114,101,116,117,114,110,32,120,59,32,125]] [.agg [.ro [.agg [.str [109,97,105,110], .ro [], .int .u8 1, .ro [.agg [.int .u8 1, .int .i64 1, .str [120], .int .u8 1, .int .i64 0, .int .i64 17, .ro [], .ro [], .ro []], .agg [.int .u8 4, .int .i64 2, .str [], .int .u8 0, .int .i64 0, .int .i64 29, .ro [.agg [.int .u8 2, .int .u8 0, .str [], .int .i64 1, .int .i64 32, .ro []]], .ro [.agg [.int .u8 2, .int .i64 3, .str [120], .int .u8 0, .int .i64 0, .int .i64 39, .ro [.agg [.int .u8 1, .int .u8 0, .str [], .int .i64 1, .int .i64 43, .ro []]], .ro [], .ro []]], .ro [.agg [.int .u8 2, .int .i64 4, .str [120], .int .u8 0, .int .i64 0, .int .i64 55, .ro [.agg [.int .u8 1, .int .u8 0, .str [], .int .i64 2, .int .i64 59, .ro []]], .ro [], .ro []]]], .agg [.int .u8 6, .int .i64 5, .str [], .int .u8 0, .int .i64 0, .int .i64 64, .ro [.agg [.int .u8 3, .int .u8 0, .str [120], .int .i64 0, .int .i64 71, .ro []]], .ro [], .ro []]], .int .i64 0]]], .agg [.ro [.ro [.agg [.str [120], .int .u8 1, .int .i64 0, .int .i64 1]]], .ro [.agg [.int .i64 0, .ro [], .ro []], .agg [.int .i64 0, .ro [], .ro []], .agg [.int .i64 0, .ro [.int .i64 0], .ro []], .agg [.int .i64 0, .ro [.int .i64 0], .ro []], .agg [.int .i64 0, .ro [.int .i64 0], .ro []], .agg [.int .i64 0, .ro [.int .i64 0], .ro [.int .i64 0]]]], .int .i64 0, .int .i64 0]:=by
 have h:=sL [102,110,32,109,97,105,110,40,41,58,32,105,110,116,32,123,32,108,101,116,32,120,58,32,105,110,116,59,32,105,102,32,116,114,117,101,32,123,32,120,32,61,32,49,59,32,125,32,101,108,115,101,32,123,32,120,32,61,32,50,59,32,125,32,114,101,116,117,114,110,32,120,59,32,125];rw[show iU [102,110,32,109,97,105,110,40,41,58,32,105,110,116,32,123,32,108,101,116,32,120,58,32,105,110,116,59,32,105,102,32,116,114,117,101,32,123,32,120,32,61,32,49,59,32,125,32,101,108,115,101,32,123,32,120,32,61,32,50,59,32,125,32,114,101,116,117,114,110,32,120,59,32,125]=[.agg [.ro [.agg [.str [109,97,105,110], .ro [], .int .u8 1, .ro [.agg [.int .u8 1, .int .i64 1, .str [120], .int .u8 1, .int .i64 0, .int .i64 17, .ro [], .ro [], .ro []], .agg [.int .u8 4, .int .i64 2, .str [], .int .u8 0, .int .i64 0, .int .i64 29, .ro [.agg [.int .u8 2, .int .u8 0, .str [], .int .i64 1, .int .i64 32, .ro []]], .ro [.agg [.int .u8 2, .int .i64 3, .str [120], .int .u8 0, .int .i64 0, .int .i64 39, .ro [.agg [.int .u8 1, .int .u8 0, .str [], .int .i64 1, .int .i64 43, .ro []]], .ro [], .ro []]], .ro [.agg [.int .u8 2, .int .i64 4, .str [120], .int .u8 0, .int .i64 0, .int .i64 55, .ro [.agg [.int .u8 1, .int .u8 0, .str [], .int .i64 2, .int .i64 59, .ro []]], .ro [], .ro []]]], .agg [.int .u8 6, .int .i64 5, .str [], .int .u8 0, .int .i64 0, .int .i64 64, .ro [.agg [.int .u8 3, .int .u8 0, .str [120], .int .i64 0, .int .i64 71, .ro []]], .ro [], .ro []]], .int .i64 0]]], .agg [.ro [.ro [.agg [.str [120], .int .u8 1, .int .i64 0, .int .i64 1]]], .ro [.agg [.int .i64 0, .ro [], .ro []], .agg [.int .i64 0, .ro [], .ro []], .agg [.int .i64 0, .ro [.int .i64 0], .ro []], .agg [.int .i64 0, .ro [.int .i64 0], .ro []], .agg [.int .i64 0, .ro [.int .i64 0], .ro []], .agg [.int .i64 0, .ro [.int .i64 0], .ro [.int .i64 0]]]], .int .i64 0, .int .i64 0] by kernel_rfl]at h;exact h
set_option maxRecDepth 100000 in
theorem Xq:al Pg 9 [.str [102,110,32,109,97,105,110,40,41,58,32,105,110,116,32,123,32,114,101,116,117,114,110,32,49,59,32,112,114,105,110,116,32,50,59,32,125]] [.agg [.ro [.agg [.str [109,97,105,110], .ro [], .int .u8 1, .ro [.agg [.int .u8 6, .int .i64 1, .str [], .int .u8 0, .int .i64 0, .int .i64 17, .ro [.agg [.int .u8 1, .int .u8 0, .str [], .int .i64 1, .int .i64 24, .ro []]], .ro [], .ro []], .agg [.int .u8 7, .int .i64 2, .str [], .int .u8 0, .int .i64 0, .int .i64 27, .ro [.agg [.int .u8 1, .int .u8 0, .str [], .int .i64 2, .int .i64 33, .ro []]], .ro [], .ro []]], .int .i64 0]]], .agg [.ro [], .ro []], .int .i64 27, .int .i64 11]:=by
 have h:=sL [102,110,32,109,97,105,110,40,41,58,32,105,110,116,32,123,32,114,101,116,117,114,110,32,49,59,32,112,114,105,110,116,32,50,59,32,125];rw[show iU [102,110,32,109,97,105,110,40,41,58,32,105,110,116,32,123,32,114,101,116,117,114,110,32,49,59,32,112,114,105,110,116,32,50,59,32,125]=[.agg [.ro [.agg [.str [109,97,105,110], .ro [], .int .u8 1, .ro [.agg [.int .u8 6, .int .i64 1, .str [], .int .u8 0, .int .i64 0, .int .i64 17, .ro [.agg [.int .u8 1, .int .u8 0, .str [], .int .i64 1, .int .i64 24, .ro []]], .ro [], .ro []], .agg [.int .u8 7, .int .i64 2, .str [], .int .u8 0, .int .i64 0, .int .i64 27, .ro [.agg [.int .u8 1, .int .u8 0, .str [], .int .i64 2, .int .i64 33, .ro []]], .ro [], .ro []]], .int .i64 0]]], .agg [.ro [], .ro []], .int .i64 27, .int .i64 11] by kernel_rfl]at h;exact h
set_option maxRecDepth 100000 in
theorem wh:al Pg 8 [] [.bool true]:=
 bq bv named {hint:=qT 8 [(14, .call 9 _ _ Xo),(20, .call 9 _ _ Xp),(26, .call 9 _ _ Xq)]} 2000 (by kernel_rfl)
end Go.Avm
namespace Go.Avm
open Go.Proofs
abbrev wB(v:Nat)(l:List D)(d:Nat):List (Nat×aK):=
 [(500000,⟨1,some (.arr 1 [.ptr 500000 1 0 0 1, .vec 400000 v 1 l,dN d])⟩),(4611686018427887904,⟨0,some (.typ 500000 1 62 (some 3))⟩),(400000,⟨v,none⟩),(4611686018427787904,⟨0,some (.typ 400000 v 5 none)⟩)]
abbrev wZ(d:Nat):List (Nat×aK):=
 [(500000,⟨1,some (.arr 1 [.d .nilp, .nils,dN d])⟩),(4611686018427887904,⟨0,some (.typ 500000 1 62 (some 3))⟩),(400000,⟨0,none⟩),(4611686018427787904,⟨0,none⟩)]
abbrev wK(v:Nat)(l:List D)(d:Nat):List (Nat×aK):=
 [(500000,⟨1,some (.arr 1 [.ptr 500000 1 0 0 1, .vec 400000 v 1 l,dN d])⟩),(4611686018427887904,⟨0,some (.typ 500000 1 62 (some 3))⟩),(400000,⟨v+1,none⟩),(4611686018427787904,⟨0,some (.typ 400000 v 5 none)⟩)]
abbrev bP:AV:= .ptr 500000 1 0 0 1
theorem Yc(v d:Nat)(l:List D)(s:List UInt8)(h:l.length+s.length≤549755813888):HC 33 [bP, .d (.str s)] (wB v l d) [.int .i64 (s.length:Int), .nili] (wB (v+1) (l ++s.map bx) d):=
 aH bv named {hint:=qT 33 [(14, .appb l s h)]} 2000 1000 _ 10000000000000000000 ⟨rfl,rfl,rfl,by kernel_rfl,by kernel_rfl,by kernel_rfl⟩ (fun _=>by kernel_rfl)
theorem Yd(v d:Nat)(l:List D)(h:l.length+1≤549755813888):HC 35 [bP, .d (.int .u8 10)] (wB v l d) [.nili] (wB (v+1) (l ++[10].map bx) d):=
 aH bv named {hint:=qT 35 [(14, .appb l [10] h)]} 2000 1000 _ 10000000000000000000 ⟨rfl,rfl,rfl,by kernel_rfl,by kernel_rfl,by kernel_rfl⟩ (fun _=>by kernel_rfl)
theorem YY(d:Nat):HC 33 [bP, .d (.str [])] (wZ d) [.int .i64 0, .nili] (wB 1 [] d):=
 aH bv named {} 2000 399555 _ 10000000000000000000 ⟨rfl,rfl,rfl,by kernel_rfl,by kernel_rfl,by kernel_rfl⟩ (fun _=>by kernel_rfl)
theorem YZ(v d:Nat)(c:UInt8)(t:List UInt8)(h:(c::t).length≤9223372036854775807):HC 20 [bP] (wB v ((c::t).map bx) d) [.str (c::t)] (wK v ((c::t).map bx) d):=
 aH bv named {hint:=qT 20 [(13, .ustr (c::t) ⟨by simp,h⟩)]} 2000 1000 _ 10000000000000000000 ⟨rfl,rfl,rfl,by kernel_rfl,by kernel_rfl,by kernel_rfl⟩ (fun _=>by kernel_rfl)
abbrev NP(ps:List D)(i:Nat):List (Nat×AV):=[(0,bP),(15, .d (.ro ps)),(16,dN ps.length),(17,dN i)]
section
variable(ps:List D)(i v d:Nat)(l:List D)
theorem Qy(h:decide (i<ps.length)=false):RE 31 (lO 18 2) (NP ps i) (wB v l d) (.exit 0) [(0,bP)] (wB v l d):=
 lY bv named {hint:=qT 18 [(18,gn Pg i ps.length false h)]} 2000 18 600000 31 10000000000000000000 ([]) ⟨rfl,rfl,rfl,by kernel_rfl,by kernel_rfl,by kernel_rfl⟩ (by kernel_rfl) (by kernel_rfl) (fun _=>by kernel_rfl)
theorem Xr(h:decide (i<ps.length)=true)(x:List UInt8)(b:ps[((i:Nat):Int).toNat]? =some (.str x))(c:i<1000000)(a:l.length+x.length≤549755813888):RE 31 (lO 18 2) (NP ps i) (wB v l d) .normal (NP ps (i+1)) (wB (v+1) (l ++x.map bx) d):=
 lY bv named {hint:=qT 18 [(18,gn Pg i ps.length true h),(19, .idx ps ((i:Nat):Int) _ (by omega) b),(26,cy Pg i (by omega))],calls:=tC [(18,25,600248,ab (Yc v d l x a))]} 2000 18 600000 31 10000000000000000000 ([]) ⟨rfl,rfl,rfl,by kernel_rfl,by kernel_rfl,by kernel_rfl⟩ (by kernel_rfl) (by kernel_rfl) (fun _=>by kernel_rfl)
end
theorem Qz(ps:List (List UInt8))(hp:ps.length<1000000)(d:Nat):∀(r:List (List UInt8))(i v:Nat)(l:List D),ps.drop i=r→l.length+r.flatten.length≤549755813888→RL 31 (lO 18 2) (NP (ps.map .str) i) (wB v l d) (.exit 0) [(0,bP)] (wB (v+r.length) (l ++r.flatten.map bx) d)
 |[],i,v,l,b,g,a,X,e,c=>by
  have j:ps.length≤i:=yI.1 b;have:=aU (Qy (ps.map .str) i v d l (by simp only[xO,xh];omega) a X e c) (by simp);simpa using this
 |x::r,i,v,l,b,g,a,X,e,c=>by
  have j:i<ps.length:=by
   rcases yJ i ps.length with h|h
   ·exact h
   ·rw[yI.2 h]at b;cases b
  have o:ps[i]? =some x:=by
   have:=congrArg (fun q=>q[0]?) b;simpa using this
  have f:ps.drop (i+1)=r:=by
   have:=congrArg List.tail b;simpa using this
  simp only[yO,xC]at g;have h2:=Qz ps hp d r (i+1) (v+1) (l ++x.map bx) f (by simp only[xC,xO];omega) a X e c;have k:=Xr (ps.map .str) i v d l (by simp only[xO,x6];omega) x (by rw[xo,xP,o];rfl) (by omega) (by omega) a X e c;have n:v+1+r.length=v+(x::r).length:=by simp only[xD];omega
  have m:l ++x.map bx ++r.flatten.map bx=l ++(x::r).flatten.map bx:=by simp
  rw[n,m]at h2;exact aR k h2
noncomputable def Up{ps:List D}{v d b:Nat}{l l':List D}(h:RL 31 (lO 18 2) (NP ps 0) (wB v l d) (.exit 0) [(0,bP)] (wB b l' d)):dy Pg:=
 ⟨31,bG Pg 18 2,NP ps 0,fun _=>wB v l d, .exit 0,[(0,bP)],fun _=>wB b l' d,fun a X c e=>(h a X c e).aw⟩
theorem Xs{ps:List D}{v d a:Nat}{l l':List D}(c:d≤1000)(b:l.length+(ind d).length≤549755813888)(h2:l'.length+1≤549755813888)
    (h:RL 31 (lO 18 2) (NP ps 0) (wB (v+1) (l ++(ind d).map bx) d) (.exit 0) [(0,bP)] (wB a l' d)):HC 18 [bP, .d (.ro ps)] (wB v l d) [] (wB (a+1) (l' ++[10].map bx) d):=
 aH bv named {loops:=fun g q=>if g=18 then (if q=2 then some (Up h)else none)else none,hint:=qT 18 [(13, .call 34 _ _ (D8 d c))],calls:=tC [(18,14,1217,ab (Yc v d l (ind d) b)),(18,30,1403,ab (Yd a d l' h2))]} 2000 1000 _ 10000000000000000000 ⟨rfl,rfl,rfl,by kernel_rfl,by kernel_rfl,by kernel_rfl⟩ (fun _=>by kernel_rfl)
theorem Xt{ps:List D}{a:Nat}{l':List D}(h2:l'.length+1≤549755813888)
    (h:RL 31 (lO 18 2) (NP ps 0) (wB 1 [] 0) (.exit 0) [(0,bP)] (wB a l' 0)):HC 18 [bP, .d (.ro ps)] (wZ 0) [] (wB (a+1) (l' ++[10].map bx) 0):=
 aH bv named {loops:=fun g q=>if g=18 then (if q=2 then some (Up h)else none)else none,hint:=qT 18 [(13, .call 34 _ _ (D8 0 (by decide)))],calls:=tC [(18,14,1217,ab (YY 0)),(18,30,1403,ab (Yd a 0 l' h2))]} 2000 1000 _ 10000000000000000000 ⟨rfl,rfl,rfl,by kernel_rfl,by kernel_rfl,by kernel_rfl⟩ (fun _=>by kernel_rfl)
abbrev bK(P:List (List UInt8))(d:Nat):List (Nat×aK):=wB P.length (P.flatten.map bx) d
abbrev CC:Nat:=500000000000
theorem gg(P:List (List UInt8)){d:Nat}(ps:List (List UInt8))(e:d≤1000)(hp:ps.length<1000000)(a:(P ++fV d ps).flatten.length≤CC):HC 18 [bP, .d (.ro (ps.map .str))] (bK P d) [] (bK (P ++fV d ps) d):=by
 have c:P.flatten.length+(2*d+ps.flatten.length+1)≤500000000000:=by
  rw[zL,xC,n9,fv]at a;exact a
 have f:P.length+1+ps.length+1=(P ++fV d ps).length:=by simp only[fV,xC,xD,xF];omega
 have b:P.flatten.map bx ++(ind d).map bx ++ps.flatten.map bx ++[10].map bx=(P ++fV d ps).flatten.map bx:=by simp[fV]
 have k:=Xs (ps:=ps.map .str) (v:=P.length) (l:=P.flatten.map bx) e (by rw[xO,oa];omega) (by simp only[xC,xO,oa];omega) (Qz ps hp d ps 0 (P.length+1) (P.flatten.map bx ++(ind d).map bx) yM (by simp only[xC,xO,oa];omega));rw[f,b]at k;exact k
theorem Uq(ps:List (List UInt8))(hp:ps.length<1000000)(a:(fV 0 ps).flatten.length≤CC):HC 18 [bP, .d (.ro (ps.map .str))] (wZ 0) [] (bK (fV 0 ps) 0):=by
 have e:2*0+ps.flatten.length+1≤500000000000:=by
  rw[n9,fv]at a;exact a
 have b:1+ps.length+1=(fV 0 ps).length:=by simp only[fV,xC,xD,xF];omega
 have c:[] ++ps.flatten.map bx ++[10].map bx=(fV 0 ps).flatten.map bx:=by simp[fV,ind]
 have k:=Xt (ps:=ps.map .str) (by simp only[xC,xO,xF];omega) (Qz ps hp 0 ps 0 1 [] yM (by simp only[xF];omega));rw[b,c]at k;exact k
end Go.Avm
namespace Go.Avm
open Go.Proofs
theorem io{P:Program}{f:Nat}{a:AV}{l:List D}{p:List AV}{j e:List (Nat×aK)}(k:Nat)(h:∀b:aa,ax P f [a, .d (.ro l)] (ag j b) p (ag e b)):∀b:aa,ax P f [a, .vec k 1 1 l] (ag j b) p (ag e b):=fun b=>by
 refine⟨(h b).1,fun G B w0 I0 w g t r c=>(h b).2 G B w0 I0 w g t r fun i x u m n=> ?_⟩;match i with
 |0=>exact c 0 x u m n
 |1=>
  cases m;have:=c 1 _ u rfl n;generalize y:(1:Nat)=z at this;cases this with
  |vecNil=>exact .d (.roNil none 0)
  |vec _ _ _ L v q o s h=>exact .d h
 |i+2=>cases m
theorem QA:al Pg 16 [.int .u8 1] [.str (aN 1)]:=qV {} 709297
theorem QB:al Pg 16 [.int .u8 2] [.str (aN 2)]:=qV {} 709297
theorem QC:al Pg 16 [.int .u8 3] [.str (aN 3)]:=qV {} 709297
theorem AR{ty:Int}(h:ty=1∨ty=2∨ty=3):al Pg 16 [.int .u8 ty] [.str (aN ty)]:=by
 rcases h with rfl|rfl|rfl
 ·exact QA
 ·exact QB
 ·exact QC
section
variable{P Q R S T:List (List UInt8)}{d:Nat}{id p n ty:Int}{nm t u v w h j:List UInt8}{e f b a o s l r:Int}{g q:List UInt8}{c m i k:List D}
theorem QD(B:nm.length≤100)(C:j.length≤100)(D:h.length≤100)(x:al Pg 58 [.ro []] [.str []])(y:al Pg 16 [.int .u8 3] [.str h])(A:al Pg 60 [.int .i64 n, .int .i64 10] [.str j])(z:HC 18 [bP, .d (.ro [.str (((([108,101,116,32] ++nm) ++[58,32]) ++h) ++(([91] ++j) ++[93])), .str [59]])] (bK P d) [] (bK Q d)):HC 36 [bP, .d (.agg [.int .u8 1, .int .i64 id, .str nm, .int .u8 3, .int .i64 n, .int .i64 p, .ro [], .ro [], .ro []])] (bK P d) [] (bK Q d):=
 aH bv named {hint:=qT 36 [(9, .call 58 _ _ x),(25, .cat ([108,101,116,32]) (nm) (by simp only[xC,xD,xF];omega)),(26, .cat ([108,101,116,32] ++nm) ([58,32]) (by simp only[xC,xD,xF];omega)),(29, .call 16 _ _ y),(30, .cat (([108,101,116,32] ++nm) ++[58,32]) (h) (by simp only[xC,xD,xF];omega)),(38, .call 60 _ _ A),(39, .cat ([91]) (j) (by simp only[xC,xD,xF];omega)),(40, .cat ([91] ++j) ([93]) (by simp only[xC,xD,xF];omega)),(41, .cat ((([108,101,116,32] ++nm) ++[58,32]) ++h) (([91] ++j) ++[93]) (by simp only[xC,xD,xF];omega))],calls:=tC [(36,52,5725,ab (io 5641 z))]} 2000 1000 _ 10000000000000000000 ⟨rfl,rfl,rfl,by kernel_rfl,by kernel_rfl,by kernel_rfl⟩ (fun _=>by kernel_rfl)
theorem QF(B:nm.length≤100)(C:h.length≤100)(z:(ty==3)=false)(x:al Pg 58 [.ro []] [.str []])(y:al Pg 16 [.int .u8 ty] [.str h])(A:HC 18 [bP, .d (.ro [.str ((([108,101,116,32] ++nm) ++[58,32]) ++h), .str [59]])] (bK P d) [] (bK Q d)):HC 36 [bP, .d (.agg [.int .u8 1, .int .i64 id, .str nm, .int .u8 ty, .int .i64 0, .int .i64 p, .ro [], .ro [], .ro []])] (bK P d) [] (bK Q d):=
 aH bv named {hint:=qT 36 [(9, .call 58 _ _ x),(25, .cat ([108,101,116,32]) (nm) (by simp only[xC,xD,xF];omega)),(26, .cat ([108,101,116,32] ++nm) ([58,32]) (by simp only[xC,xD,xF];omega)),(29, .call 16 _ _ y),(30, .cat (([108,101,116,32] ++nm) ++[58,32]) (h) (by simp only[xC,xD,xF];omega)),(34,Kb Pg (ty==3) false z)],calls:=tC [(36,52,5185,ab (io 5101 A))]} 2000 1000 _ 10000000000000000000 ⟨rfl,rfl,rfl,by kernel_rfl,by kernel_rfl,by kernel_rfl⟩ (fun _=>by kernel_rfl)
theorem QG(E:nm.length≤100)(F:h.length≤100)(B:(ty==3)=false)(z:t.length≤100000000)(C:(t !=[])=true)(x:al Pg 58 [.ro [.agg [.int .u8 e, .int .u8 f, .str g, .int .i64 b, .int .i64 a, .ro c]]] [.str u])(A:al Pg 59 [.agg [.int .u8 e, .int .u8 f, .str g, .int .i64 b, .int .i64 a, .ro c]] [.str t])(y:al Pg 16 [.int .u8 ty] [.str h])(D:HC 18 [bP, .d (.ro [.str (((([108,101,116,32] ++nm) ++[58,32]) ++h) ++([32,61,32] ++t)), .str [59]])] (bK P d) [] (bK Q d)):HC 36 [bP, .d (.agg [.int .u8 1, .int .i64 id, .str nm, .int .u8 ty, .int .i64 0, .int .i64 p, .ro [.agg [.int .u8 e, .int .u8 f, .str g, .int .i64 b, .int .i64 a, .ro c]], .ro [], .ro []])] (bK P d) [] (bK Q d):=
 aH bv named {hint:=qT 36 [(9, .call 58 _ _ x),(18, .call 59 _ _ A),(25, .cat ([108,101,116,32]) (nm) (by simp only[xC,xD,xF];omega)),(26, .cat ([108,101,116,32] ++nm) ([58,32]) (by simp only[xC,xD,xF];omega)),(29, .call 16 _ _ y),(30, .cat (([108,101,116,32] ++nm) ++[58,32]) (h) (by simp only[xC,xD,xF];omega)),(34,Kb Pg (ty==3) false B),(44,Kb Pg (t !=[]) true C),(47, .cat ([32,61,32]) (t) (by simp only[xC,xD,xF];omega)),(48, .cat ((([108,101,116,32] ++nm) ++[58,32]) ++h) ([32,61,32] ++t) (by simp only[xC,xD,xF];omega))],calls:=tC [(36,52,6535,ab (io 6451 D))]} 2000 1000 _ 10000000000000000000 ⟨rfl,rfl,rfl,by kernel_rfl,by kernel_rfl,by kernel_rfl⟩ (fun _=>by kernel_rfl)
theorem Ur(x:al Pg 58 [.ro [.agg [.int .u8 e, .int .u8 f, .str g, .int .i64 b, .int .i64 a, .ro c]]] [.str u])(z:al Pg 59 [.agg [.int .u8 e, .int .u8 f, .str g, .int .i64 b, .int .i64 a, .ro c]] [.str t])(y:HC 18 [bP, .d (.ro [.str nm, .str [32,61,32], .str t, .str [59]])] (bK P d) [] (bK Q d)):HC 36 [bP, .d (.agg [.int .u8 2, .int .i64 id, .str nm, .int .u8 0, .int .i64 0, .int .i64 p, .ro [.agg [.int .u8 e, .int .u8 f, .str g, .int .i64 b, .int .i64 a, .ro c]], .ro [], .ro []])] (bK P d) [] (bK Q d):=
 aH bv named {hint:=qT 36 [(9, .call 58 _ _ x),(18, .call 59 _ _ z)],calls:=tC [(36,60,4375,ab (io 4299 y))]} 2000 1000 _ 10000000000000000000 ⟨rfl,rfl,rfl,by kernel_rfl,by kernel_rfl,by kernel_rfl⟩ (fun _=>by kernel_rfl)
theorem Us(y:al Pg 58 [.ro [.agg [.int .u8 e, .int .u8 f, .str g, .int .i64 b, .int .i64 a, .ro c], .agg [.int .u8 o, .int .u8 s, .str q, .int .i64 l, .int .i64 r, .ro m]]] [.str u])(A:al Pg 59 [.agg [.int .u8 e, .int .u8 f, .str g, .int .i64 b, .int .i64 a, .ro c]] [.str t])(x:al Pg 59 [.agg [.int .u8 o, .int .u8 s, .str q, .int .i64 l, .int .i64 r, .ro m]] [.str v])(z:HC 18 [bP, .d (.ro [.str nm, .str [91], .str t, .str [93,32,61,32], .str v, .str [59]])] (bK P d) [] (bK Q d)):HC 36 [bP, .d (.agg [.int .u8 3, .int .i64 id, .str nm, .int .u8 0, .int .i64 0, .int .i64 p, .ro [.agg [.int .u8 e, .int .u8 f, .str g, .int .i64 b, .int .i64 a, .ro c], .agg [.int .u8 o, .int .u8 s, .str q, .int .i64 l, .int .i64 r, .ro m]], .ro [], .ro []])] (bK P d) [] (bK Q d):=
 aH bv named {hint:=qT 36 [(9, .call 58 _ _ y),(18, .call 59 _ _ A),(75, .call 59 _ _ x)],calls:=tC [(36,77,5725,ab (io 5666 z))]} 2000 1000 _ 10000000000000000000 ⟨rfl,rfl,rfl,by kernel_rfl,by kernel_rfl,by kernel_rfl⟩ (fun _=>by kernel_rfl)
theorem Ut(y:al Pg 58 [.ro [.agg [.int .u8 e, .int .u8 f, .str g, .int .i64 b, .int .i64 a, .ro c]]] [.str u])(A:al Pg 59 [.agg [.int .u8 e, .int .u8 f, .str g, .int .i64 b, .int .i64 a, .ro c]] [.str t])(B:HC 18 [bP, .d (.ro [.str [105,102,32], .str t, .str [32,123]])] (bK P d) [] (bK Q d))(z:HC 19 [bP, .d (.ro i)] (bK Q d) [] (bK R d))(x:HC 18 [bP, .d (.ro [.str [125]])] (bK R d) [] (bK S d)):HC 36 [bP, .d (.agg [.int .u8 4, .int .i64 id, .str [], .int .u8 0, .int .i64 0, .int .i64 p, .ro [.agg [.int .u8 e, .int .u8 f, .str g, .int .i64 b, .int .i64 a, .ro c]], .ro i, .ro []])] (bK P d) [] (bK S d):=
 aH bv named {hint:=qT 36 [(9, .call 58 _ _ y),(18, .call 59 _ _ A)],calls:=tC [(36,83,4645,ab (io 4592 B)),(36,87,5050,ab z),(36,101,5860,ab (io 5825 x))]} 2000 1000 _ 10000000000000000000 ⟨rfl,rfl,rfl,by kernel_rfl,by kernel_rfl,by kernel_rfl⟩ (fun _=>by kernel_rfl)
variable{V W:List (List UInt8)}
section
variable(x:al Pg 58 [.ro [.agg [.int .u8 e, .int .u8 f, .str g, .int .i64 b, .int .i64 a, .ro c]]] [.str u])(y:al Pg 59 [.agg [.int .u8 e, .int .u8 f, .str g, .int .i64 b, .int .i64 a, .ro c]] [.str t])
include x y
theorem Uu(D:decide (0<k.length)=true)(E:HC 18 [bP, .d (.ro [.str [105,102,32], .str t, .str [32,123]])] (bK P d) [] (bK Q d))(C:HC 19 [bP, .d (.ro i)] (bK Q d) [] (bK R d))(B:HC 18 [bP, .d (.ro [.str [125,32,101,108,115,101,32,123]])] (bK R d) [] (bK S d))(z:HC 19 [bP, .d (.ro k)] (bK S d) [] (bK V d))(A:HC 18 [bP, .d (.ro [.str [125]])] (bK V d) [] (bK W d)):HC 36 [bP, .d (.agg [.int .u8 4, .int .i64 id, .str [], .int .u8 0, .int .i64 0, .int .i64 p, .ro [.agg [.int .u8 e, .int .u8 f, .str g, .int .i64 b, .int .i64 a, .ro c]], .ro i, .ro k])] (bK P d) [] (bK W d):=
 aH bv named {hint:=qT 36 [(9, .call 58 _ _ x),(18, .call 59 _ _ y),(91,gn Pg 0 k.length true D)],calls:=tC [(36,83,4645,ab (io 4592 E)),(36,87,5050,ab C),(36,94,5860,ab (io 5818 B)),(36,98,6265,ab z),(36,101,6535,ab (io 6500 A))]} 2000 1000 _ 10000000000000000000 ⟨rfl,rfl,rfl,by kernel_rfl,by kernel_rfl,by kernel_rfl⟩ (fun _=>by kernel_rfl)
theorem QH(B:HC 18 [bP, .d (.ro [.str [119,104,105,108,101,32], .str t, .str [32,123]])] (bK P d) [] (bK Q d))(A:HC 19 [bP, .d (.ro i)] (bK Q d) [] (bK R d))(z:HC 18 [bP, .d (.ro [.str [125]])] (bK R d) [] (bK S d)):HC 36 [bP, .d (.agg [.int .u8 5, .int .i64 id, .str [], .int .u8 0, .int .i64 0, .int .i64 p, .ro [.agg [.int .u8 e, .int .u8 f, .str g, .int .i64 b, .int .i64 a, .ro c]], .ro i, .ro []])] (bK P d) [] (bK S d):=
 aH bv named {hint:=qT 36 [(9, .call 58 _ _ x),(18, .call 59 _ _ y)],calls:=tC [(36,107,4915,ab (io 4886 B)),(36,111,5320,ab A),(36,114,5590,ab (io 5568 z))]} 2000 1000 _ 10000000000000000000 ⟨rfl,rfl,rfl,by kernel_rfl,by kernel_rfl,by kernel_rfl⟩ (fun _=>by kernel_rfl)
end
theorem QI(x:al Pg 58 [.ro []] [.str []])(z:al Pg 61 [.str ([114,101,116,117,114,110,32] ++[]), .str [32]] [.str w])(y:HC 18 [bP, .d (.ro [.str w, .str [59]])] (bK P d) [] (bK Q d)):HC 36 [bP, .d (.agg [.int .u8 6, .int .i64 id, .str [], .int .u8 0, .int .i64 0, .int .i64 p, .ro [], .ro [], .ro []])] (bK P d) [] (bK Q d):=
 aH bv named {hint:=qT 36 [(9, .call 58 _ _ x),(120, .call 61 _ _ z)],calls:=tC [(36,122,4645,ab (io 4631 y))]} 2000 1000 _ 10000000000000000000 ⟨rfl,rfl,rfl,by kernel_rfl,by kernel_rfl,by kernel_rfl⟩ (fun _=>by kernel_rfl)
theorem QJ(B:u.length≤100000000)(x:al Pg 58 [.ro [.agg [.int .u8 e, .int .u8 f, .str g, .int .i64 b, .int .i64 a, .ro c]]] [.str u])(z:al Pg 59 [.agg [.int .u8 e, .int .u8 f, .str g, .int .i64 b, .int .i64 a, .ro c]] [.str t])(y:al Pg 61 [.str ([114,101,116,117,114,110,32] ++u), .str [32]] [.str w])(A:HC 18 [bP, .d (.ro [.str w, .str [59]])] (bK P d) [] (bK Q d)):HC 36 [bP, .d (.agg [.int .u8 6, .int .i64 id, .str [], .int .u8 0, .int .i64 0, .int .i64 p, .ro [.agg [.int .u8 e, .int .u8 f, .str g, .int .i64 b, .int .i64 a, .ro c]], .ro [], .ro []])] (bK P d) [] (bK Q d):=
 aH bv named {hint:=qT 36 [(9, .call 58 _ _ x),(18, .call 59 _ _ z),(119, .cat ([114,101,116,117,114,110,32]) (u) (by simp only[xC,xD,xF];omega)),(120, .call 61 _ _ y)],calls:=tC [(36,122,5320,ab (io 5306 A))]} 2000 1000 _ 10000000000000000000 ⟨rfl,rfl,rfl,by kernel_rfl,by kernel_rfl,by kernel_rfl⟩ (fun _=>by kernel_rfl)
section
variable(x:al Pg 58 [.ro [.agg [.int .u8 e, .int .u8 f, .str g, .int .i64 b, .int .i64 a, .ro c]]] [.str u])(y:al Pg 59 [.agg [.int .u8 e, .int .u8 f, .str g, .int .i64 b, .int .i64 a, .ro c]] [.str t])
include x y
theorem Uv(z:HC 18 [bP, .d (.ro [.str [112,114,105,110,116,32], .str t, .str [59]])] (bK P d) [] (bK Q d)):HC 36 [bP, .d (.agg [.int .u8 7, .int .i64 id, .str [], .int .u8 0, .int .i64 0, .int .i64 p, .ro [.agg [.int .u8 e, .int .u8 f, .str g, .int .i64 b, .int .i64 a, .ro c]], .ro [], .ro []])] (bK P d) [] (bK Q d):=
 aH bv named {hint:=qT 36 [(9, .call 58 _ _ x),(18, .call 59 _ _ y)],calls:=tC [(36,128,5455,ab (io 5447 z))]} 2000 1000 _ 10000000000000000000 ⟨rfl,rfl,rfl,by kernel_rfl,by kernel_rfl,by kernel_rfl⟩ (fun _=>by kernel_rfl)
theorem QK(z:HC 18 [bP, .d (.ro [.str t, .str [59]])] (bK P d) [] (bK Q d)):HC 36 [bP, .d (.agg [.int .u8 8, .int .i64 id, .str [], .int .u8 0, .int .i64 0, .int .i64 p, .ro [.agg [.int .u8 e, .int .u8 f, .str g, .int .i64 b, .int .i64 a, .ro c]], .ro [], .ro []])] (bK P d) [] (bK Q d):=
 aH bv named {hint:=qT 36 [(9, .call 58 _ _ x),(18, .call 59 _ _ y)],calls:=tC [(36,134,5725,ab (io 5723 z))]} 2000 1000 _ 10000000000000000000 ⟨rfl,rfl,rfl,by kernel_rfl,by kernel_rfl,by kernel_rfl⟩ (fun _=>by kernel_rfl)
end
end
abbrev CD(a:List D)(i:Nat):List (Nat×AV):=[(0,bP),(13, .d (.ro a)),(14,dN a.length),(15,dN i)]
section
variable(a:List D)(i d:Nat)(P Q:List (List UInt8))
theorem QL(h:decide (i<a.length)=false):RE 30 (lO 19 2) (CD a i) (bK P d) (.exit 0) ([(0,bP)]) (bK P d):=
 lY bv named {hint:=qT 19 [(16,gn Pg i a.length false h)]} 2000 19 600000 30 10000000000000000000 ([]) ⟨rfl,rfl,rfl,by kernel_rfl,by kernel_rfl,by kernel_rfl⟩ (by kernel_rfl) (by kernel_rfl) (fun _=>by kernel_rfl)
theorem Xu(h:decide (i<a.length)=true)(g:i<1000000){k id ty n p:Int}{nm:List UInt8}{es b c:List D}(f:a[((i:Nat):Int).toNat]? =some (.agg [.int .u8 k, .int .i64 id, .str nm, .int .u8 ty, .int .i64 n, .int .i64 p, .ro es, .ro b, .ro c]))(e:HC 36 [bP, .d (.agg [.int .u8 k, .int .i64 id, .str nm, .int .u8 ty, .int .i64 n, .int .i64 p, .ro es, .ro b, .ro c])] (bK P d) [] (bK Q d)):RE 30 (lO 19 2) (CD a i) (bK P d) .normal (CD a (i+1)) (bK Q d):=
 lY bv named {hint:=qT 19 [(16,gn Pg i a.length true h),(17, .idx a ((i:Nat):Int) _ (by omega) f),(22,cy Pg i (by omega))],calls:=tC [(19,21,600210,ab e)]} 2000 19 600000 30 10000000000000000000 ([]) ⟨rfl,rfl,rfl,by kernel_rfl,by kernel_rfl,by kernel_rfl⟩ (by kernel_rfl) (by kernel_rfl) (fun _=>by kernel_rfl)
end
theorem ef{A B:List (List UInt8)}(h:(A ++B).flatten.length≤CC):A.flatten.length≤CC:=by
 rw[zL,xC]at h;omega
theorem Uw(xs:List aP)(u:xs.length<1000000)(d:Nat):∀(r:List aP)(i:Nat)(P:List (List UInt8)),xs.drop i=r→(P ++dK d r).flatten.length≤CC→(∀x∈r,∀P:List (List UInt8),(P ++eo d x).flatten.length≤CC→HC 36 [bP, .d (sP x)] (bK P d) [] (bK (P ++eo d x) d))→
    RL 30 (lO 19 2) (CD (dH xs) i) (bK P d) (.exit 0) [(0,bP)] (bK (P ++dK d r) d)
 |[],i,P,b,c,o,a,X,g,f=>by
  have s:xs.length≤i:=yI.1 b;have:=aU (QL (dH xs) i d P (by rw[i9];simp only[xO,xh];omega) a X g f) (by simp);rw[dK,yF];exact this
 |x::r,i,P,b,c,o,a,X,g,f=>by
  have s:i<xs.length:=by
   rcases yJ i xs.length with h|h
   ·exact h
   ·rw[yI.2 h]at b;cases b
  have v:xs[i]? =some x:=by
   have:=congrArg (fun q=>q[0]?) b;simpa using this
  have m:xs.drop (i+1)=r:=by
   have:=congrArg List.tail b;simpa using this
  rw[dK,←xM]at c;rw[dK,←xM];have h2:=Uw xs u d r (i+1) (P ++eo d x) m c (fun y t=>o y (xW _ t)) a X g f;have e:=o x (x0 ..) P (ef c);have j:decide (i<(dH xs).length)=true:=by rw[i9];simp only[xO,x6];omega
  have l:(dH xs)[((i:Nat):Int).toNat]? =some (sP x):=by rw[xo,i9,xP,v];rfl
  generalize P ++eo d x=Q at e h2 c ⊢;obtain⟨k,id,nm,ty,n,p,es,w,z⟩:=x;exact aR (Xu (dH xs) i d P Q j (by omega) l e a X g f) h2
noncomputable def Xv{b:List D}{P Q:List (List UInt8)}{d:Nat}(h:RL 30 (lO 19 2) (CD b 0) (bK P d) (.exit 0) [(0,bP)] (bK Q d)):dy Pg:=
 ⟨30,bG Pg 19 2,CD b 0,fun _=>bK P d, .exit 0,[(0,bP)],fun _=>bK Q d,fun a X c e=>(h a X c e).aw⟩
theorem Ux{a:List D}{P Q:List (List UInt8)}{d:Nat}(b:d≤1000)(h:RL 30 (lO 19 2) (CD a 0) (bK P (d+1)) (.exit 0) [(0,bP)] (bK Q (d+1))):HC 19 [bP, .d (.ro a)] (bK P d) [] (bK Q d):=
 aH bv named {loops:=fun g q=>if g=19 then (if q=2 then some (Xv h)else none)else none,hint:=qT 19 [(10,cy Pg d (by omega)),(27, .val (dI (IntKind.i64.wrap (((d+1:Nat):Int)-1))) (dN d) (by congr 2;rw[IntWalk.i64_in _ (by omega)];omega))]} 2000 1000 _ 10000000000000000000 ⟨rfl,rfl,rfl,by kernel_rfl,by kernel_rfl,by kernel_rfl⟩ (fun _=>by kernel_rfl)
end Go.Avm
namespace Go.Avm
open Go.Proofs
theorem wm:al Pg 58 [.ro []] [.str []]:=Ee [] (by decide) (fun _ h=>by cases h) (by decide)
theorem eY{x:Ex}(a:CE x)(f:ly x<1000000):al Pg 59 [ez x] [.str (cG x)]∧al Pg 58 [.ro [ez x]] [.str (bw [x])]∧(cG x).length≤100000000∧(cG x !=[])=true:=by
 have b:=Uj x a.1 a.2 f;have h2:=hJ a;obtain⟨c,t,e,_⟩:=(uj x a.1 a.2).hd;exact⟨b,Ee [x] (by simp) (fun y d=>by rw[xK.1 d];exact b) (by rw[a0];omega),by omega,by rw[e];rfl⟩
section
variable{d:Nat}(a:d≤1000)
include a
theorem qq{l:List aP}(c:bN l<1000000)(h:∀x∈l,∀P:List (List UInt8),(P ++eo (d+1) x).flatten.length≤CC→HC 36 [bP, .d (sP x)] (bK P (d+1)) [] (bK (P ++eo (d+1) x) (d+1)))(P:List (List UInt8))(b:(P ++dK (d+1) l).flatten.length≤CC):
    HC 19 [bP, .d (.ro (dH l))] (bK P d) [] (bK (P ++dK (d+1) l) d):=
 Ux a (Uw l (yo (sx l) c) (d+1) l 0 P yM b h)
end
mutual
theorem Xw:∀(x:aP)(d:Nat)(P:List (List UInt8)),j5 cw x→kl x<1000000→(d:Int)+dS x≤210→(P ++eo d x).flatten.length≤CC→HC 36 [bP, .d (sP x)] (bK P d) [] (bK (P ++eo d x) d)
 | .mk k id nm ty n p es i D,d,P,h,m,M,b=>by
  have B:=Et i (d+1);have E:=Et D (d+1);have hq:=IP (.mk k id nm ty n p es i D);have z1:=ji i;have z2:=ji D;have a:d≤1000:=by omega
  rw[kl]at m;cases h with
  |letA _ _ j h=>
   have j:=fa (show jj nm from j);have hg:=vZ (show sB n from h);have U:=iR 3;have et:eo d (.mk 1 id nm 3 n p [] [] [])=fV d [fP nm 3 n [],[59]]:=by rw[eo];rfl
   rw[et]at b ⊢;exact QD (by omega) (by omega) (by omega) wm (AR (by simp)) (Ub h) (gg P [fP nm 3 n [],[59]] a (by simp) b)
  |letN _ _ j h=>
   have j:=fa (show jj nm from j);have U:=iR ty;have I:(ty==3)=false:=by rcases h with rfl|rfl<;>rfl
   have et:eo d (.mk 1 id nm ty 0 p [] [] [])=fV d [(([108,101,116,32] ++nm) ++[58,32]) ++aN ty,[59]]:=by
    rw[eo];show fV d [fP nm ty 0 [],[59]]=_;simp only[fP,I,xI,zR,xR,yF]
   rw[et]at b ⊢;exact QF (by omega) (by omega) I wm (AR (by omega)) (gg P [(([108,101,116,32] ++nm) ++[58,32]) ++aN ty,[59]] a (by simp) b)
  | @letV _ _ _ _ x j h e=>
   have j:=fa (show jj nm from j);have U:=iR ty;have I:(ty==3)=false:=by rcases h with rfl|rfl<;>rfl
   have et:eo d (.mk 1 id nm ty 0 p [x] [] [])=fV d [((([108,101,116,32] ++nm) ++[58,32]) ++aN ty) ++([32,61,32] ++cG x),[59]]:=by
    rw[eo];show fV d [fP nm ty 0 [x],[59]]=_;simp only[fP,I,xI,yl,a0]
   rw[et]at b ⊢;obtain⟨c,g,l,r⟩:=eY (show CE x from e) (by rw[bn,bn]at m;omega);have L:=gg P [((([108,101,116,32] ++nm) ++[58,32]) ++aN ty) ++([32,61,32] ++cG x),[59]] a (by simp) b;obtain⟨C,v,w,t,s,u⟩:=x;exact QG (by omega) (by omega) I l r g c (AR (by omega)) L
  | @set _ _ _ x j e=>
   have et:eo d (.mk 2 id nm 0 0 p [x] [] [])=fV d [nm,[32,61,32],cG x,[59]]:=by
    rw[eo];show fV d [nm,[32,61,32],bw [x],[59]]=_;rw[a0]
   rw[et]at b ⊢;obtain⟨c,g,l,r⟩:=eY (show CE x from e) (by rw[bn,bn]at m;omega);have L:=gg P [nm,[32,61,32],cG x,[59]] a (by simp) b;obtain⟨C,v,w,t,s,u⟩:=x;exact Ur g c L
  | @put _ _ _ x y j e R=>
   have et:eo d (.mk 3 id nm 0 0 p [x,y] [] [])=fV d [nm,[91],cG x,[93,32,61,32],cG y,[59]]:=by
    rw[eo];show fV d [nm,[91],bw [x],[93,32,61,32],bw [y],[59]]=_;rw[a0,a0]
   rw[et]at b ⊢;rw[bn,bn,bn]at m;obtain⟨c,g,l,r⟩:=eY (show CE x from e) (by omega);obtain⟨Q,g2,g3,g4⟩:=eY (show CE y from R) (by omega)
   have A:=Ee [x,y] (by simp) (fun z hm=>by
    rcases xX.1 hm with rfl|hm
    ·exact c
    ·rw[xK.1 hm];exact Q) (by
    have:=hJ (show CE x from e);have:=hJ (show CE y from R);rw[gJ,xC];simp only[Ji,a0,xD];omega)
   have L:=gg P [nm,[91],cG x,[93,32,61,32],cG y,[59]] a (by simp) b;obtain⟨C,v,w,t,s,u⟩:=x;obtain⟨y1,y2,y3,Z,y5,y6⟩:=y;exact Us A c Q L
  | @ifs _ _ x _ _ e N h2=>
   have G:(d:Int)+max (g8 [x]) (max (1+iO i) (bif D.isEmpty then 0 else 1+iO D))≤210:=by rw[dS]at M;exact M
   have B:=qq a (by omega) (B N (by omega) (by omega));obtain⟨c,g,l,r⟩:=eY (show CE x from e) (by rw[bn,bn]at m;omega);cases D with
   |nil=>
    have et:P ++eo d (.mk 4 id [] 0 0 p [x] i [])=((P ++fV d [[105,102,32],cG x,[32,123]]) ++dK (d+1) i) ++fV d [[125]]:=by
     rw[eo];show P ++(fV d [[105,102,32],bw [x],[32,123]] ++(dK (d+1) i ++([] ++fV d [[125]])))=_;rw[a0];simp only[xn,xM]
    rw[et]at b ⊢;have o:=ef b;have F:=ef o;have H:=gg P [[105,102,32],cG x,[32,123]] a (by simp) F;have K:=B _ o;have J:=gg _ [[125]] a (by simp) b;obtain⟨C,v,w,t,s,u⟩:=x;exact Ut g c H K J
   |cons y q=>
    simp only[yl,xI]at G;have E:=qq a (by omega) (E h2 (by omega) (by omega))
    have et:P ++eo d (.mk 4 id [] 0 0 p [x] i (y::q))=((((P ++fV d [[105,102,32],cG x,[32,123]]) ++dK (d+1) i) ++fV d [[125,32,101,108,115,101,32,123]]) ++dK (d+1) (y::q)) ++fV d [[125]]:=by
     rw[eo];show P ++(fV d [[105,102,32],bw [x],[32,123]] ++(dK (d+1) i ++((fV d [[125,32,101,108,115,101,32,123]] ++dK (d+1) (y::q)) ++fV d [[125]])))=_;rw[a0];simp only[xM]
    rw[et]at b ⊢;have S:=ef b;have O:=ef S;have o:=ef O;have F:=ef o;have H:=gg P [[105,102,32],cG x,[32,123]] a (by simp) F;have K:=B _ o;have J:=gg _ [[125,32,101,108,115,101,32,123]] a (by simp) O;have Y:=E _ S;have V:=gg _ [[125]] a (by simp) b;have W:decide (0<(dH (y::q)).length)=true:=by rw[jW];simp
    obtain⟨C,v,w,t,s,u⟩:=x;exact Uu g c W H K J Y V
  | @loop _ _ x _ e N=>
   have G:(d:Int)+max (g8 [x]) (1+iO i)≤210:=by rw[dS]at M;exact M
   have B:=qq a (by omega) (B N (by omega) (by omega));obtain⟨c,g,l,r⟩:=eY (show CE x from e) (by rw[bn,bn]at m;omega)
   have et:P ++eo d (.mk 5 id [] 0 0 p [x] i [])=((P ++fV d [[119,104,105,108,101,32],cG x,[32,123]]) ++dK (d+1) i) ++fV d [[125]]:=by
    rw[eo];show P ++(fV d [[119,104,105,108,101,32],bw [x],[32,123]] ++(dK (d+1) i ++fV d [[125]]))=_;rw[a0];simp only[xM]
   rw[et]at b ⊢;have o:=ef b;have F:=ef o;have H:=gg P [[119,104,105,108,101,32],cG x,[32,123]] a (by simp) F;have K:=B _ o;have J:=gg _ [[125]] a (by simp) b;obtain⟨C,v,w,t,s,u⟩:=x;exact QH g c H K J
  |ret0=>
   have et:eo d (.mk 6 id [] 0 0 p [] [] [])=fV d [gX [],[59]]:=by rw[eo];rfl
   rw[et]at b ⊢;have T:=NF ([114,101,116,117,114,110,32] ++[]) [32] (by decide);rw[Fz]at T;exact QI wm T (gg P [gX [],[59]] a (by simp) b)
  | @ret1 _ _ x e=>
   have et:eo d (.mk 6 id [] 0 0 p [x] [] [])=fV d [gX [x],[59]]:=by rw[eo];rfl
   rw[et]at b ⊢;obtain⟨c,g,l,r⟩:=eY (show CE x from e) (by rw[bn,bn]at m;omega);have X:(bw [x]).length≤100000000:=by rw[a0];exact l
   have T:=NF ([114,101,116,117,114,110,32] ++bw [x]) [32] (by simp only[xC,xD,xF];omega);rw[FA (show CE x from e)]at T;have L:=gg P [gX [x],[59]] a (by simp) b;obtain⟨C,v,w,t,s,u⟩:=x;exact QJ X g c T L
  | @prt _ _ x e=>
   have et:eo d (.mk 7 id [] 0 0 p [x] [] [])=fV d [[112,114,105,110,116,32],cG x,[59]]:=by
    rw[eo];show fV d [[112,114,105,110,116,32],bw [x],[59]]=_;rw[a0]
   rw[et]at b ⊢;obtain⟨c,g,l,r⟩:=eY (show CE x from e) (by rw[bn,bn]at m;omega);have L:=gg P [[112,114,105,110,116,32],cG x,[59]] a (by simp) b;obtain⟨C,v,w,t,s,u⟩:=x;exact Uv g c L
  | @call _ _ f q xs j e=>
   have et:eo d (.mk 8 id [] 0 0 p [.mk 5 0 f 0 q xs] [] [])=fV d [cG (.mk 5 0 f 0 q xs),[59]]:=by
    rw[eo];show fV d [bw [.mk 5 0 f 0 q xs],[59]]=_;rw[a0]
   rw[et]at b ⊢;obtain⟨c,g,l,r⟩:=eY (show CE (.mk 5 0 f 0 q xs)from e) (by rw[bn,bn]at m;omega);exact QK g c (gg P [cG (.mk 5 0 f 0 q xs),[59]] a (by simp) b)
theorem Et:∀(l:List aP)(d:Nat),CanL cw l→bN l<1000000→(d:Int)+iO l≤210→∀x∈l,∀P:List (List UInt8),(P ++eo d x).flatten.length≤CC→HC 36 [bP, .d (sP x)] (bK P d) [] (bK (P ++eo d x) d)
 |[],_,_,_,_,_,hm,_,_,_=>by cases hm
 |y::l,d,h,i,f,x,hm,P,b,a=>by
  have c:=Xw y d;have h2:=Et l d;rw[bN]at i;rw[iO]at f;cases h with
  |cons g j=>
   rcases xX.1 hm with e|hm
   ·rw[e]at b ⊢
    exact c P g (by omega) (by omega) b a
   ·exact h2 j (by omega) (by omega) x hm P b a
end
end Go.Avm
namespace Go.Avm
open Go.Proofs
abbrev AU(fs ps a:List D)(k i:Nat):List (Nat×AV):=[(3,bP),(5, .ptr 600215 1 0 0 1),(6, .vec 410000 i 1 a),(13, .d (.ro fs)),(14,dN fs.length),(15,dN k),(20, .d (.ro ps)),(21,dN ps.length),(22,dN i)]
abbrev JK(fs a:List D)(k i:Nat):List (Nat×AV):=[(3,bP),(5, .ptr 600215 1 0 0 1),(6, .vec 410000 i 1 a),(13, .d (.ro fs)),(14,dN fs.length),(15,dN k)]
abbrev fO(nm:List UInt8)(ps:List D)(a:Int)(b:List D)(p:Int):aK:=⟨1,some (.arr 1 [.d (.str nm), .d (.ro ps), .d (.int .u8 a), .d (.ro b), .d (.int .i64 p)])⟩
abbrev oh(W:List (Nat×aK))(nm:List UInt8)(ps:List D)(a:Int)(b:List D)(p:Int)(i:Nat):List (Nat×aK):=W ++[(600215,fO nm ps a b p),(410000,⟨i,none⟩)]
section
variable(fs ps a:List D)(k i:Nat)(nm:List UInt8)(b:Int)(c:List D)(p:Int)
theorem MC(h:decide (i<ps.length)=false):RE 70 (lO 10 7) (AU fs ps a k i) (oh (wZ 0) nm ps b c p i) (.exit 2) (JK fs a k i) (oh (wZ 0) nm ps b c p i):=
 lY bv named {hint:=qT 10 [(23,gn Pg i ps.length false h)]} 2000 10 700000 70 10000000000000000000 ([]) ⟨rfl,rfl,rfl,by kernel_rfl,by kernel_rfl,by kernel_rfl⟩ (by kernel_rfl) (by kernel_rfl) (fun _=>by kernel_rfl)
theorem Uy(h:decide (i<ps.length)=true)(l:i<1000000)(o:a.length=i){ty g:Int}{d e:List UInt8}(j:ps[((i:Nat):Int).toNat]? =some (.agg [.str d, .int .u8 ty, .int .i64 g]))(m:d.length≤100)(n:e.length≤100)(f:al Pg 16 [.int .u8 ty] [.str e]):RE 70 (lO 10 7) (AU fs ps a k i) (oh (wZ 0) nm ps b c p i) .normal (AU fs ps (a ++[.str ((d ++[58,32]) ++e)]) k (i+1)) (oh (wZ 0) nm ps b c p (i+1)):=
 lY bv named {hint:=qT 10 [(23,gn Pg i ps.length true h),(24, .idx ps ((i:Nat):Int) _ (by omega) j),(29, .cat (d) ([58,32]) (by simp only[xC,xD,xF];omega)),(32, .call 16 _ _ f),(33, .cat (d ++[58,32]) (e) (by simp only[xC,xD,xF];omega)),(35, .app a 1 (by omega)),(36,cy Pg i (by omega))]} 2000 10 700000 70 10000000000000000000 ([]) ⟨rfl,rfl,rfl,by kernel_rfl,by kernel_rfl,by kernel_rfl⟩ (by kernel_rfl) (by kernel_rfl) (fun _=>by kernel_rfl)
theorem MD(v:Nat)(l:List D)(h:decide (i<ps.length)=false):RE 70 (lO 10 7) (AU fs ps a k i) (oh (wB v l 0) nm ps b c p i) (.exit 2) (JK fs a k i) (oh (wB v l 0) nm ps b c p i):=
 lY bv named {hint:=qT 10 [(23,gn Pg i ps.length false h)]} 2000 10 700000 70 10000000000000000000 ([]) ⟨rfl,rfl,rfl,by kernel_rfl,by kernel_rfl,by kernel_rfl⟩ (by kernel_rfl) (by kernel_rfl) (fun _=>by kernel_rfl)
theorem Uz(v:Nat)(l:List D)(h:decide (i<ps.length)=true)(m:i<1000000)(q:a.length=i){ty g:Int}{d e:List UInt8}(j:ps[((i:Nat):Int).toNat]? =some (.agg [.str d, .int .u8 ty, .int .i64 g]))(n:d.length≤100)(o:e.length≤100)(f:al Pg 16 [.int .u8 ty] [.str e]):RE 70 (lO 10 7) (AU fs ps a k i) (oh (wB v l 0) nm ps b c p i) .normal (AU fs ps (a ++[.str ((d ++[58,32]) ++e)]) k (i+1)) (oh (wB v l 0) nm ps b c p (i+1)):=
 lY bv named {hint:=qT 10 [(23,gn Pg i ps.length true h),(24, .idx ps ((i:Nat):Int) _ (by omega) j),(29, .cat (d) ([58,32]) (by simp only[xC,xD,xF];omega)),(32, .call 16 _ _ f),(33, .cat (d ++[58,32]) (e) (by simp only[xC,xD,xF];omega)),(35, .app a 1 (by omega)),(36,cy Pg i (by omega))]} 2000 10 700000 70 10000000000000000000 ([]) ⟨rfl,rfl,rfl,by kernel_rfl,by kernel_rfl,by kernel_rfl⟩ (by kernel_rfl) (by kernel_rfl) (fun _=>by kernel_rfl)
variable{W:List (Nat×aK)}(d:W=wZ 0∨∃v l,W=wB v l 0)
include d
theorem QM(h:decide (i<ps.length)=false):RE 70 (lO 10 7) (AU fs ps a k i) (oh (W) nm ps b c p i) (.exit 2) (JK fs a k i) (oh (W) nm ps b c p i):=
 by
  rcases d with rfl|⟨v,l,rfl⟩
  ·exact MC fs ps a k i nm b c p h
  ·exact MD fs ps a k i nm b c p v l h
theorem Xx(h:decide (i<ps.length)=true)(g:i<1000000)(o:a.length=i){ty r:Int}{e f:List UInt8}(q:ps[((i:Nat):Int).toNat]? =some (.agg [.str e, .int .u8 ty, .int .i64 r]))(m:e.length≤100)(n:f.length≤100)(j:al Pg 16 [.int .u8 ty] [.str f]):RE 70 (lO 10 7) (AU fs ps a k i) (oh (W) nm ps b c p i) .normal (AU fs ps (a ++[.str ((e ++[58,32]) ++f)]) k (i+1)) (oh (W) nm ps b c p (i+1)):=by
    rcases d with rfl|⟨v,l,rfl⟩
    ·exact Uy fs ps a k i nm b c p h g o q m n j
    ·exact Uz fs ps a k i nm b c p v l h g o q m n j
end
theorem UA(fs:List D)(k:Nat)(nm:List UInt8)(c:Int)(e:List D)(p:Int){W:List (Nat×aK)}(j:W=wZ 0∨∃v l,W=wB v l 0)(xs:List Pm)(z:xs.length<1000000):∀(r:List Pm)(i:Nat)(a:List D),xs.drop i=r→a.length=i→(∀x∈r,sD x)→RL 70 (lO 10 7) (AU fs (xs.map g0) a k i) (oh W nm (xs.map g0) c e p i) (.exit 2) (JK fs (a ++r.map fun x=> .str (kv x)) k (i+r.length)) (oh W nm (xs.map g0) c e p (i+r.length))
 |[],i,a,d,t,o,b,X,g,f=>by
  have B:xs.length≤i:=yI.1 d;have:=aU (QM fs (xs.map g0) a k i nm c e p j (by simp only[xO,xh];omega) b X g f) (by simp);simpa using this
 |x::r,i,a,d,t,o,b,X,g,f=>by
  have B:i<xs.length:=by
   rcases yJ i xs.length with h|h
   ·exact h
   ·rw[yI.2 h]at d;cases d
  have A:xs[i]? =some x:=by
   have:=congrArg (fun q=>q[0]?) d;simpa using this
  have s:xs.drop (i+1)=r:=by
   have:=congrArg List.tail d;simpa using this
  have h2:=UA fs k nm c e p j xs z r (i+1) (a ++[.str (kv x)]) s (by simp;omega) (fun y E=>o y (xW _ E)) b X g f;obtain⟨u,F⟩:=o x (x0 ..);have u:=fa (show jj x.nm from u);have G:=iR x.ty;have m:decide (i<(xs.map g0).length)=true:=by simp only[xO,x6];omega
  have n:(xs.map g0)[((i:Nat):Int).toNat]? =some (g0 x):=by rw[xo,xP,A];rfl
  have w:i+1+r.length=i+(x::r).length:=by simp only[xD];omega
  have C:a ++[.str (kv x)] ++(r.map fun x=>D.str (kv x))=a ++((x::r).map fun x=>D.str (kv x)):=by simp
  rw[w,C]at h2;exact aR (Xx fs (xs.map g0) a k i nm c e p j m (by omega) t n (by omega) (by omega) (AR F) b X g f) h2
noncomputable def ME{fs ps b d:List D}{k n:Nat}{nm:List UInt8}{a p:Int}{W:List (Nat×aK)}(h:RL 70 (lO 10 7) (AU fs ps [] k 0) (oh W nm ps a d p 0) (.exit 2) (JK fs b k n) (oh W nm ps a d p n)):dy Pg:=
 ⟨70,bG Pg 10 7,AU fs ps [] k 0,fun _=>oh W nm ps a d p 0, .exit 2,JK fs b k n,fun _=>oh W nm ps a d p n,fun c X f e=>(h c X f e).aw⟩
abbrev wv(fs:List D)(k:Nat):List (Nat×AV):=[(3,bP),(13, .d (.ro fs)),(14,dN fs.length),(15,dN k)]
section
variable(fs:List D)(k:Nat)
theorem QN(P:List (List UInt8))(h:decide (k<fs.length)=false):RE 70 (lO 10 3) (wv fs k) (bK P 0) (.exit 0) ([(3,bP)]) (bK P 0):=
 lY bv named {hint:=qT 10 [(16,gn Pg k fs.length false h)]} 2000 10 600000 70 10000000000000000000 ([]) ⟨rfl,rfl,rfl,by kernel_rfl,by kernel_rfl,by kernel_rfl⟩ (by kernel_rfl) (by kernel_rfl) (fun _=>by kernel_rfl)
variable{ps b c:List D}{f:Nat}{nm j e:List UInt8}{a p:Int}{P Q R S:List (List UInt8)}
section
variable(h:decide (k<fs.length)=true)(m:k<1000000)(l:fs[((k:Nat):Int).toNat]? =some (.agg [.str nm, .ro ps, .int .u8 a, .ro c, .int .i64 p]))(n:nm.length≤100)(o:j.length≤100000000)
include h m l n o
theorem QO(r:RL 70 (lO 10 7) (AU fs ps [] k 0) (oh (wZ 0) nm ps a c p 0) (.exit 2) (JK fs b k f) (oh (wZ 0) nm ps a c p f))(v:al Pg 17 [.ro b, .str [44,32]] [.str j])(u:(a !=0)=false)(w:HC 18 [bP, .d (.ro [.str (((([102,110,32] ++nm) ++[40]) ++j) ++[41]), .str [32,123]])] (wZ 0) [] (bK Q 0))(t:HC 19 [bP, .d (.ro c)] (bK Q 0) [] (bK R 0))(s:HC 18 [bP, .d (.ro [.str [125]])] (bK R 0) [] (bK S 0)):RE 70 (lO 10 3) (wv fs k) (wZ 0) .normal (wv fs (k+1)) (bK S 0):=
 lY bv named {nils2:=fun g q=>if g=10 then (if q=6 then [{k:=0,i:=6,K:=410000,sz:=1,slot:=true}]else [])else [],loops:=fun g q=>if g=10 then (if q=7 then some (ME r)else none)else none,hint:=qT 10 [(16,gn Pg k fs.length true h),(17, .idx fs ((k:Nat):Int) _ (by omega) l),(39, .cat ([102,110,32]) (nm) (by simp only[xC,xD,xF];omega)),(40, .cat ([102,110,32] ++nm) ([40]) (by simp only[xC,xD,xF];omega)),(42, .call 17 _ _ v),(43, .cat (([102,110,32] ++nm) ++[40]) (j) (by simp only[xC,xD,xF];omega)),(44, .cat ((([102,110,32] ++nm) ++[40]) ++j) ([41]) (by simp only[xC,xD,xF];omega)),(47,Kb Pg (a !=0) false u),(65,cy Pg k (by omega))],calls:=tC [(10,57,601680,ab (io 601666 w)),(10,61,601890,ab t),(10,64,602030,ab (io 602023 s))]} 2000 10 600000 70 10000000000000000000 ([]) ⟨rfl,rfl,rfl,by kernel_rfl,by kernel_rfl,by kernel_rfl⟩ (by kernel_rfl) (by kernel_rfl) (fun _=>by kernel_rfl)
theorem QP(r:RL 70 (lO 10 7) (AU fs ps [] k 0) (oh (wZ 0) nm ps a c p 0) (.exit 2) (JK fs b k f) (oh (wZ 0) nm ps a c p f))(w:al Pg 17 [.ro b, .str [44,32]] [.str j])(v:(a !=0)=true)(y:e.length≤100)(t:al Pg 16 [.int .u8 a] [.str e])(x:HC 18 [bP, .d (.ro [.str ((((([102,110,32] ++nm) ++[40]) ++j) ++[41]) ++([58,32] ++e)), .str [32,123]])] (wZ 0) [] (bK Q 0))(u:HC 19 [bP, .d (.ro c)] (bK Q 0) [] (bK R 0))(s:HC 18 [bP, .d (.ro [.str [125]])] (bK R 0) [] (bK S 0)):RE 70 (lO 10 3) (wv fs k) (wZ 0) .normal (wv fs (k+1)) (bK S 0):=
 lY bv named {nils2:=fun g q=>if g=10 then (if q=6 then [{k:=0,i:=6,K:=410000,sz:=1,slot:=true}]else [])else [],loops:=fun g q=>if g=10 then (if q=7 then some (ME r)else none)else none,hint:=qT 10 [(16,gn Pg k fs.length true h),(17, .idx fs ((k:Nat):Int) _ (by omega) l),(39, .cat ([102,110,32]) (nm) (by simp only[xC,xD,xF];omega)),(40, .cat ([102,110,32] ++nm) ([40]) (by simp only[xC,xD,xF];omega)),(42, .call 17 _ _ w),(43, .cat (([102,110,32] ++nm) ++[40]) (j) (by simp only[xC,xD,xF];omega)),(44, .cat ((([102,110,32] ++nm) ++[40]) ++j) ([41]) (by simp only[xC,xD,xF];omega)),(47,Kb Pg (a !=0) true v),(51, .call 16 _ _ t),(52, .cat ([58,32]) (e) (by simp only[xC,xD,xF];omega)),(53, .cat ((((([102,110,32] ++nm) ++[40]) ++j) ++[41])) ([58,32] ++e) (by simp only[xC,xD,xF];omega)),(65,cy Pg k (by omega))],calls:=tC [(10,57,602100,ab (io 602086 x)),(10,61,602310,ab u),(10,64,602450,ab (io 602443 s))]} 2000 10 600000 70 10000000000000000000 ([]) ⟨rfl,rfl,rfl,by kernel_rfl,by kernel_rfl,by kernel_rfl⟩ (by kernel_rfl) (by kernel_rfl) (fun _=>by kernel_rfl)
theorem QQ(r:RL 70 (lO 10 7) (AU fs ps [] k 0) (oh (bK P 0) nm ps a c p 0) (.exit 2) (JK fs b k f) (oh (bK P 0) nm ps a c p f))(v:al Pg 17 [.ro b, .str [44,32]] [.str j])(u:(a !=0)=false)(w:HC 18 [bP, .d (.ro [.str (((([102,110,32] ++nm) ++[40]) ++j) ++[41]), .str [32,123]])] (bK P 0) [] (bK Q 0))(t:HC 19 [bP, .d (.ro c)] (bK Q 0) [] (bK R 0))(s:HC 18 [bP, .d (.ro [.str [125]])] (bK R 0) [] (bK S 0)):RE 70 (lO 10 3) (wv fs k) (bK P 0) .normal (wv fs (k+1)) (bK S 0):=
 lY bv named {nils2:=fun g q=>if g=10 then (if q=6 then [{k:=0,i:=6,K:=410000,sz:=1,slot:=true}]else [])else [],loops:=fun g q=>if g=10 then (if q=7 then some (ME r)else none)else none,hint:=qT 10 [(16,gn Pg k fs.length true h),(17, .idx fs ((k:Nat):Int) _ (by omega) l),(39, .cat ([102,110,32]) (nm) (by simp only[xC,xD,xF];omega)),(40, .cat ([102,110,32] ++nm) ([40]) (by simp only[xC,xD,xF];omega)),(42, .call 17 _ _ v),(43, .cat (([102,110,32] ++nm) ++[40]) (j) (by simp only[xC,xD,xF];omega)),(44, .cat ((([102,110,32] ++nm) ++[40]) ++j) ([41]) (by simp only[xC,xD,xF];omega)),(47,Kb Pg (a !=0) false u),(65,cy Pg k (by omega))],calls:=tC [(10,57,601680,ab (io 601666 w)),(10,61,601890,ab t),(10,64,602030,ab (io 602023 s))]} 2000 10 600000 70 10000000000000000000 ([]) ⟨rfl,rfl,rfl,by kernel_rfl,by kernel_rfl,by kernel_rfl⟩ (by kernel_rfl) (by kernel_rfl) (fun _=>by kernel_rfl)
theorem QR(r:RL 70 (lO 10 7) (AU fs ps [] k 0) (oh (bK P 0) nm ps a c p 0) (.exit 2) (JK fs b k f) (oh (bK P 0) nm ps a c p f))(w:al Pg 17 [.ro b, .str [44,32]] [.str j])(v:(a !=0)=true)(y:e.length≤100)(t:al Pg 16 [.int .u8 a] [.str e])(x:HC 18 [bP, .d (.ro [.str ((((([102,110,32] ++nm) ++[40]) ++j) ++[41]) ++([58,32] ++e)), .str [32,123]])] (bK P 0) [] (bK Q 0))(u:HC 19 [bP, .d (.ro c)] (bK Q 0) [] (bK R 0))(s:HC 18 [bP, .d (.ro [.str [125]])] (bK R 0) [] (bK S 0)):RE 70 (lO 10 3) (wv fs k) (bK P 0) .normal (wv fs (k+1)) (bK S 0):=
 lY bv named {nils2:=fun g q=>if g=10 then (if q=6 then [{k:=0,i:=6,K:=410000,sz:=1,slot:=true}]else [])else [],loops:=fun g q=>if g=10 then (if q=7 then some (ME r)else none)else none,hint:=qT 10 [(16,gn Pg k fs.length true h),(17, .idx fs ((k:Nat):Int) _ (by omega) l),(39, .cat ([102,110,32]) (nm) (by simp only[xC,xD,xF];omega)),(40, .cat ([102,110,32] ++nm) ([40]) (by simp only[xC,xD,xF];omega)),(42, .call 17 _ _ w),(43, .cat (([102,110,32] ++nm) ++[40]) (j) (by simp only[xC,xD,xF];omega)),(44, .cat ((([102,110,32] ++nm) ++[40]) ++j) ([41]) (by simp only[xC,xD,xF];omega)),(47,Kb Pg (a !=0) true v),(51, .call 16 _ _ t),(52, .cat ([58,32]) (e) (by simp only[xC,xD,xF];omega)),(53, .cat ((((([102,110,32] ++nm) ++[40]) ++j) ++[41])) ([58,32] ++e) (by simp only[xC,xD,xF];omega)),(65,cy Pg k (by omega))],calls:=tC [(10,57,602100,ab (io 602086 x)),(10,61,602310,ab u),(10,64,602450,ab (io 602443 s))]} 2000 10 600000 70 10000000000000000000 ([]) ⟨rfl,rfl,rfl,by kernel_rfl,by kernel_rfl,by kernel_rfl⟩ (by kernel_rfl) (by kernel_rfl) (fun _=>by kernel_rfl)
end
end
noncomputable def Xy{fs:List D}{v:Nat}{l:List D}(h:RL 70 (lO 10 3) (wv fs 0) (wZ 0) (.exit 0) [(3,bP)] (wB v l 0)):dy Pg:=
 ⟨70,bG Pg 10 3,wv fs 0,fun _=>wZ 0, .exit 0,[(3,bP)],fun _=>wB v l 0,fun a X b c=>(h a X b c).aw⟩
theorem UB{fs:List D}{v:Nat}{c:UInt8}{t:List UInt8}(a:(c::t).length≤9223372036854775807)(h:RL 70 (lO 10 3) (wv fs 0) (wZ 0) (.exit 0) [(3,bP)] (wB v ((c::t).map bx) 0)):al Pg 10 [.agg [.ro fs]] [.str (c::t)]:=
 qV {loops:=fun g q=>if g=10 then (if q=3 then some (Xy h)else none)else none,calls:=tC [(10,69,500619,ab (YZ v 0 c t a))]} 499779
end Go.Avm
namespace Go.Avm
open Go.Proofs
theorem AX{f:Fn}(h:(f.res !=0)=false):gd f=(((([102,110,32] ++f.nm) ++[40]) ++iQ f.ps) ++[41]):=by
 have e:(f.res==0)=true:=by cases a:(f.res==0)<;>simp_all [bne]
 simp only[gd,e,xR,yF]
theorem AY{f:Fn}(h:(f.res !=0)=true):gd f=(((([102,110,32] ++f.nm) ++[40]) ++iQ f.ps) ++[41]) ++([58,32] ++aN f.res):=by
 have e:(f.res==0)=false:=by cases a:(f.res==0)<;>simp_all [bne]
 simp only[gd,e,xI]
theorem AZ{f:Fn}(h:ku cw f)(g:Co f<1000000)(fs:List D)(k:Nat){W:List (Nat×aK)}(e:W=wZ 0∨∃v l,W=wB v l 0):
    f.nm.length≤100∧(iQ f.ps).length≤100000000∧(RL 70 (lO 10 7) (AU fs (f.ps.map g0) [] k 0) (oh W f.nm (f.ps.map g0) f.res (dH f.bd) f.p 0) (.exit 2) (JK fs ((f.ps.map kv).map .str) k (0+f.ps.length)) (oh W f.nm (f.ps.map g0) f.res (dH f.bd) f.p (0+f.ps.length)))∧
    al Pg 17 [.ro ((f.ps.map kv).map .str), .str [44,32]] [.str (iQ f.ps)]∧(aN f.res).length≤100∧
    (∀P:List (List UInt8),(P ++dK 1 f.bd).flatten.length≤CC→HC 19 [bP, .d (.ro (dH f.bd))] (bK P 0) [] (bK (P ++dK 1 f.bd) 0)):=by
 have i:=fa (show jj f.nm from h.nm);unfold Co at g;have hp:=uk f.ps fun p hp=>h.ps p hp
 have j:=iR f.res;have b:=NG (f.ps.map kv) [44,32] (by rw[xO];omega) (by rw[Ec];omega);rw[Ec]at b;have a:=UA fs k f.nm f.res (dH f.bd) f.p e f.ps (by omega) f.ps 0 [] yM rfl fun p hp=>h.ps p hp
 simp only[xn]at a;refine⟨by omega,by omega, ?_,b,by omega,fun P c=> ?_⟩
 ·rw[yq]
  exact a
 ·exact qq (d:=0) (by omega) (by omega) (Et f.bd 1 h.bd (by omega) (by have:=h.dp;omega)) P c
theorem A0{f:Fn}(h:ku cw f)(a:(f.res !=0)=true):al Pg 16 [.int .u8 f.res] [.str (aN f.res)]:=by
 have b:=h.res;have h2:f.res≠0:=by simpa using a
 exact AR (by omega)
section
variable{fs:List Fn}{k:Nat}{f:Fn}(a:fs[k]? =some f)(c:fs.length<1000000)(h:ku cw f)(b:Co f<1000000)
include a c h b
theorem uv:decide (k<(fs.map c2).length)=true∧k<1000000∧(fs.map c2)[((k:Nat):Int).toNat]? =some (c2 f):=by
 have:=(xE.1 a).1;exact⟨by simp only[xO,x6];exact this,by omega,by rw[xo,xP,a];rfl⟩
theorem Xz(P:List (List UInt8))(j:(P ++lB f).flatten.length≤CC):RE 70 (lO 10 3) (wv (fs.map c2) k) (bK P 0) .normal (wv (fs.map c2) (k+1)) (bK (P ++lB f) 0):=by
 obtain⟨n,o,l⟩:=uv a c h b;obtain⟨p,r,q,m,u,t⟩:=AZ h b (fs.map c2) k (W:=bK P 0) (.inr ⟨_,_,rfl⟩);have e:P ++lB f=((P ++fV 0 [gd f,[32,123]]) ++dK 1 f.bd) ++fV 0 [[125]]:=by simp only[lB,xM]
 rw[e]at j ⊢;have s:=ef j;have v:=ef s;have i:=gg P [gd f,[32,123]] (xz _) (by simp) v;have B:=t _ s;have g:=gg _ [[125]] (xz _) (by simp) j;cases d:(f.res !=0)with
 |false=>
  rw[AX d]at i B g ⊢;exact QQ _ _ n o l p r q m d i B g
 |true=>
  rw[AY d]at i B g ⊢;exact QR _ _ n o l p r q m d u (A0 h d) i B g
theorem XA(j:(lB f).flatten.length≤CC):RE 70 (lO 10 3) (wv (fs.map c2) k) (wZ 0) .normal (wv (fs.map c2) (k+1)) (bK (lB f) 0):=by
 obtain⟨n,o,l⟩:=uv a c h b;obtain⟨p,r,q,m,u,t⟩:=AZ h b (fs.map c2) k (W:=wZ 0) (.inl rfl);have e:lB f=((fV 0 [gd f,[32,123]]) ++dK 1 f.bd) ++fV 0 [[125]]:=by simp only[lB,xM]
 rw[e]at j ⊢;have s:=ef j;have v:=ef s;have i:=Uq [gd f,[32,123]] (by simp) v;have B:=t _ s;have g:=gg _ [[125]] (xz _) (by simp) j;cases d:(f.res !=0)with
 |false=>
  rw[AX d]at i B g ⊢;exact QO _ _ n o l p r q m d i B g
 |true=>
  rw[AY d]at i B g ⊢;exact QP _ _ n o l p r q m d u (A0 h d) i B g
end
theorem wn:∀{l:List Fn}{f:Fn},f∈l→Co f≤fh l
 |[],_,h=>by cases h
 |g::l,f,h=>by
  rw[fh];rcases xX.1 h with rfl|h
  ·omega
  ·have:=wn h;omega
theorem UC(fs:List Fn)(h:fh fs<1000000)(i:∀f∈fs,ku cw f):∀(r:List Fn)(k:Nat)(P:List (List UInt8)),fs.drop k=r→(P ++jE r).flatten.length≤CC→RL 70 (lO 10 3) (wv (fs.map c2) k) (bK P 0) (.exit 0) [(3,bP)] (bK (P ++jE r) 0)
 |[],k,P,d,c,a,X,e,b=>by
  have l:fs.length≤k:=yI.1 d;have:=aU (QN (fs.map c2) k P (by simp only[xO,xh];omega) a X e b) (by simp);rw[jE,yF];exact this
 |f::r,k,P,d,c,a,X,e,b=>by
  have j:fs[k]? =some f:=by
   have:=congrArg (fun q=>q[0]?) d;simpa using this
  have hm:=x5 j
  have g:fs.drop (k+1)=r:=by
   have:=congrArg List.tail d;simpa using this
  rw[jE,←xM]at c;rw[jE,←xM];have h2:=UC fs h i r (k+1) (P ++lB f) g c a X e b;exact aR (Xz j (yo (jC fs) h) (i f hm) (yo (wn hm) h) P (ef c) a X e b) h2
theorem UD{fs:List Fn}(e:fs≠[])(h:fh fs<1000000)(g:∀f∈fs,ku cw f):al Pg 10 [.agg [.ro (fs.map c2)]] [.str (fi fs)]:=by
 cases fs with
 |nil=>exact absurd rfl e
 |cons f r=>
  have c:=ul (f::r) g
  have j:(lB f ++jE r).flatten.length≤CC:=by
   have:jE (f::r)=lB f ++jE r:=rfl;rw[←this,mZ];show _≤500000000000;omega
  have hm:=x0 (a:=f) (l:=r)
  have d:RL 70 (lO 10 3) (wv ((f::r).map c2) 0) (wZ 0) (.exit 0) [(3,bP)] (bK (lB f ++jE r) 0):=fun b X m i=>
   aR (XA (k:=0) rfl (yo (jC _) h) (g f hm) (yo (wn hm) h) (ef j) b X m i) (UC (f::r) h g r 1 (lB f) rfl j b X m i)
  have n:(lB f ++jE r).flatten=fi (f::r):=mZ (f::r);have o:∃t,fi (f::r)=102::t:=⟨_,by simp only[fi,sE,ln,ind,gd,yO,x8,xn];rfl⟩
  obtain⟨t,et⟩:=o;unfold bK at d;rw[n]at d;rw[et]at d c ⊢;exact UB (by omega) d
end Go.Avm
namespace Go.Avm
open Go.Proofs
def TQ{e d:Type}(Q:e→d→Prop)(r:TR e)(c:TR d):Prop:=∀a,r= .ok a→c= .out∨∃b,c= .ok b∧Q a b
section
variable{g d l j:Type}{Q:g→d→Prop}{m:l→j→Prop}{r X Y:TR g}{i n k:TR d}{f:g→TR l}{f':d→TR j}
theorem TQ.bind(h:TQ Q r i)(o:∀a c,Q a c→TQ m (f a) (f' c)):TQ m (r.bind f) (i.bind f'):=fun b e=>by
 cases r with
 |ok a=>
  rcases h a rfl with rfl|⟨c,rfl,s⟩
  ·exact .inl rfl
  ·exact o a c s b e
 |bad p q=>cases e
 |out=>cases e
theorem TQ.ok{a:g}{c:d}(h:Q a c):TQ Q (.ok a) (.ok c):=fun b e=>by cases e;exact .inr ⟨c,rfl,h⟩
theorem TQ.bad{p e:Int}:TQ Q (.bad p e) i:=fun b e=>by cases e
theorem TQ.outR:TQ Q r .out:=fun _ _=> .inl rfl
theorem TQ.bif{c:Bool}(b:TQ Q X n)(a:TQ Q Y k):TQ Q (bif c then X else Y) (bif c then n else k):=by cases c<;>assumption
end
def UY(fs a:List Fn):Prop:=∀nm i f,cv nm fs 0=some (i,f)→∃b f',cv nm a 0=some (b,f')∧f'.ps.map (·.ty)=f.ps.map (·.ty)∧f'.res=f.res
def vK(a:Bool)(v:Vr):List UInt8×Int×Int×Int:=(v.nm,v.ty,v.n,bif a then v.st else 0)
structure ER(ex:Bool)(E E':TE):Prop where
 fr:UY E.fs E'.fs
 vars:E'.vars.map (vK ex)=E.vars.map (vK ex)
 seen:E'.seen=E.seen
 sure:E'.sure=E.sure
section
variable{b:Bool}{E a:TE}(H:ER b E a)
include H
end
structure CR(ex:Bool)(A:List Pt)(e:Nat)(c c':CS):Prop where
 vars:c'.vars.map (vK ex)=c.vars.map (vK ex)
 seen:c'.seen=c.seen
 sure:c'.sure=c.sure
 pts:c'.pts.length=c.pts.length+e
 pre:∃Z,c'.pts=A ++Z
 exa:ex=true→c'.pts=c.pts
section
variable{a:Bool}{A:List Pt}{e:Nat}{fs b:List Fn}(fr:UY fs b){fn g:Nat}(j:∀f,fs[fn]? =some f→∃f',b[g]? =some f'∧f'.res=f.res)(k:e≤100000000)(hex:a=true→e=0∧g=fn)
theorem CR.te{c c':CS}(h:CR a A e c c')(fr:UY fs b):ER a (c.te fs) (c'.te b):=⟨fr,h.vars,h.seen,h.sure⟩
theorem CR.len{c c':CS}(h:CR a A e c c'):c'.vars.length=c.vars.length:=by simpa using congrArg List.length h.vars
theorem CR.any{c c':CS}(h:CR a A e c c')(nm:List UInt8):(c'.vars.any fun v=>v.nm==nm)=c.vars.any fun v=>v.nm==nm:=by
 have:=congrArg (fun l=>l.any fun q=>q.1==nm) h.vars;simpa [List.any_map,Function.comp_def,vK]using this
theorem CR.put{c c':CS}(h:CR a A e c c')(i:Nat):CR a A e {c with sure:=c.sure.put i} {c' with sure:=c'.sure.put i}:=⟨h.vars,h.seen,by dsimp only;rw[h.sure],h.pts,h.pre,h.exa⟩
theorem CR.set{c c' d i:CS}(h:CR a A e c c')(m:i.seen=d.seen){q l:SureL}(n:l=q):CR a A e {c with seen:=d.seen,sure:=q} {c' with seen:=i.seen,sure:=l}:=⟨h.vars,m,n,h.pts,h.pre,h.exa⟩
theorem CR.add{c c':CS}(h:CR a A e c c'){v d:Vr}(i:vK a d=vK a v):CR a A e (c.add v) (c'.add d):=by
 refine⟨?_, ?_,h.sure,h.pts,h.pre,h.exa⟩
 ·simp only[CS.add,xY,xN,xk,h.vars,i]
 ·have:d.nm=v.nm:=congrArg (·.1) i
  simp only[CS.add,h.seen,h.len,this]
include fr k hex in
include fr j in
include fr j k hex
end
section
variable{c:Bool}{A:List Pt}{e:Nat}{fs a:List Fn}(fr:UY fs a)(b:e≤100000000)
include fr b in
end
end Go.Avm
namespace Go.Avm
open Go.Proofs
theorem Eu{s:List UInt8}:∀(ts:List (Nat×l9))(a:Nat),Mk s a ts→∀x∈ts,x.2.1≠0
 |[],_,_,x,b=>by cases b
 |y::ts,a,h,x,b=>by
  obtain⟨_,_,_,c,_,d⟩:=h;rcases xX.1 b with rfl|b
  ·exact c
  ·exact Eu ts _ d x b
theorem CF{s:List UInt8}{l:List Fn}(h:lE s= .ok l):s.length≤20000∧∃ts a,gp s= .ok ts∧(∀x∈ts,x.2.1≠0)∧dA (bp ts s.length) (fuel (bp ts s.length))= .ok l a:=by
 unfold lE at h;by_cases c:20000<s.length
 ·rw[x9 c]at h;cases h
 ·rw[xj c]at h
  refine⟨by omega, ?_⟩;cases b:gp s with
  |error q=>rw[b]at h;cases h
  |ok ts=>
   rw[b]at h;dsimp only at h;cases hp:dA (bp ts s.length) (fuel (bp ts s.length))with
   |bad p e a=>rw[hp]at h;cases h
   |out=>rw[hp]at h;cases h
   |ok d a=>
    rw[hp]at h;cases h;exact⟨ts,a,rfl,Eu ts 0 (Cr b),hp⟩
theorem MF{s:List UInt8}{ts:List (Nat×l9)}{l:List Fn}{a:RS}(b:s.length≤20000)(h:gp s= .ok ts)(hp:dA (bp ts s.length) (fuel (bp ts s.length))= .ok l a):lE s= .ok l:=by
 unfold lE;rw[xj (by omega),h];dsimp only;rw[hp]
end Go.Avm
namespace Go.Avm
open Go.Proofs
theorem JL{s:List UInt8}{l:List Fn}(h:lE s= .ok l):(l≠[]∧∀f∈l,ku cw f)∧PG l:=by
 obtain⟨_,ts,e,c,_,d⟩:=CF h;have a:=Qd (T4 (n:=s.length) (sC _ _ _ _ c)) (fuel (bp ts s.length));rw[d]at a;have b:=Es s;rw[h]at b;exact⟨a _ _ rfl,b.2⟩
theorem FL{l:List Fn}(g:l≠[]∧∀f∈l,ku cw f)(m:mV l 1 (-1))(o:(fi l).length≤20000):∃l',lE (fi l)= .ok l'∧l'.map lr=l.map lr:=by
 obtain⟨a,h,j⟩:=Fw (Jl l g.2);have b:a.length=(su l).length:=by simpa using congrArg List.length j
 have d:bZ (bp a (fi l).length) 0 (su l):=D2 [] _ j;have i:=Jd a (fi l).length;rw[b]at i;have q:=o4 h;have c:=o3 (ts:=a) (n:=(fi l).length) (by omega);obtain⟨l',p,e,k⟩:=Mf T0 g.1 g.2 m d i (F:=fuel (bp a (fi l).length)) (vP c (fu ..));exact⟨l',MF o h k,e⟩
theorem TRq.symm{b:Type}{r a:TR b}(h:TRq r a):TRq a r:=by
 cases r<;>cases a<;>simp_all [TRq]
theorem TRq.trans{b:Type}{r a q:TR b}(h:TRq r a)(k:TRq a q):TRq r q:=by
 cases r<;>cases a<;>cases q<;>simp_all [TRq]
theorem CG{l l':List Fn}(e:l'.map lr=l.map lr):TRq (cT l) (cT l'):=
 (Dv l).trans (e▸(Dv l').symm)
end Go.Avm
namespace Go.Avm
open Go.Proofs
abbrev UE(l:List Nat)(i:Nat):List (Nat×AV):=[(0, .d (.ro (cm l))),(1, .d (.ro (cm l))),(12,dN (cm l).length),(13,dN i)]
section
variable(l:List Nat)(i:Nat)
theorem QS(h:decide (i<(cm l).length)=false):RE 26 (lO 15 4) (UE l i) ([]) (.exit 0) [] ([]):=
 qE {hint:=qT 15 [(14,gn Pg i (cm l).length false h)]} 15 600000
theorem XB(h:decide (i<(cm l).length)=true)(v:Nat)(a:(cm l)[((i:Nat):Int).toNat]? =some (.int .i64 (v:Int)))(b:i<1000000):RE 26 (lO 15 4) (UE l i) ([]) .normal (UE l (i+1)) ([]):=
 qE {hint:=qT 15 [(14,gn Pg i (cm l).length true h),(18, .idx (cm l) ((i:Nat):Int) _ (by omega) a),(22, .idx (cm l) ((i:Nat):Int) _ (by omega) a),(24,hB Pg ((v:Int) !=(v:Int)) false (by simp)),(25,cy Pg i (by omega))]} 15 600000
end
theorem JM(l:List Nat)(d:l.length<1000000):∀m i:Nat,i+m=l.length→RL 26 (lO 15 4) (UE l i) ([]) (.exit 0) [] ([])
 |0,i,h=>fun a X b c=>aU (QS l i (by simp only[cm,xO,xh];omega) a X b c) (by simp)
 |m+1,i,h=>fun a X b c=>aR (XB l i (by simp only[cm,xO,x6];omega) (l[i]'(by omega)) (by rw[xo];simp[cm,xH (show i<l.length by omega)]) (by omega) a X b c) (JM l d m (i+1) (by omega) a X b c)
noncomputable def XC(l:List Nat)(d:l.length<1000000):dy Pg:=
 ⟨26,bG Pg 15 4,UE l 0,fun _=>[], .exit 0,[],fun _=>[],fun a X b c=>(JM l d l.length 0 (by omega) a X b c).aw⟩
theorem JN(l:List Nat)(a:l.length<1000000):al Pg 15 [.ro (cm l), .ro (cm l)] [.bool true]:=
 qV {loops:=fun g q=>if g=15 then (if q=4 then some (XC l a)else none)else none,hint:=qT 15 [(10,hB Pg (((cm l).length:Int) !=((cm l).length:Int)) false (by simp))]} 709297
abbrev fT(a b:List D):List (Nat×aK):=[(600156,⟨1,some (.arr 1 [.d (.ro a), .d (.ro b)])⟩),(600268,⟨1,some (.arr 1 [.d (.ro a), .d (.ro b)])⟩)]
abbrev tu(n i:Nat):List (Nat×AV):=[(2, .ptr 600156 1 0 0 1),(3, .ptr 600268 1 0 0 1),(28,dN n),(29,dN i)]
abbrev FM(n i m k:Nat):List (Nat×AV):=[(2, .ptr 600156 1 0 0 1),(3, .ptr 600268 1 0 0 1),(5,dN i),(28,dN n),(29,dN i),(50,dN m),(51,dN k)]
section
variable(a b:List D)
theorem JO(n i m k:Nat)(h:decide (k<m)=false):RE 111 (lO 11 9) (FM n i m k) (fT a b) (.exit 2) (tu n i) (fT a b):=
 qE {hint:=qT 11 [(52,gn Pg k m false h)]} 11 600000
theorem QT(n i m k:Nat)(r:List D)(h:decide (k<m)=true)(g:a[((i:Nat):Int).toNat]? =some (.ro r))(d:List UInt8)(c e f:Int)(j:r[((k:Nat):Int).toNat]? =some (.agg [.str d, .int .u8 c, .int .i64 e, .int .i64 f]))(l:k<1000000):RE 111 (lO 11 9) (FM n i m k) (fT a b) .normal (FM n i m (k+1)) (fT a b):=
 qE {hint:=qT 11 [(52,gn Pg k m true h),(57, .idx a ((i:Nat):Int) _ (by omega) g),(60, .idx r ((k:Nat):Int) _ (by omega) j),(65, .idx a ((i:Nat):Int) _ (by omega) g),(68, .idx r ((k:Nat):Int) _ (by omega) j),(70,hB Pg (!(d==d&&(c==c&&(e==e&&(f==f&&true))))) false (by simp)),(71,cy Pg k (by omega))]} 11 600000
theorem JP(n i:Nat)(h:decide (i<n)=false):RE 111 (lO 11 4) (tu n i) (fT a b) (.exit 0) [(2, .ptr 600156 1 0 0 1),(3, .ptr 600268 1 0 0 1)] (fT a b):=
 qE {hint:=qT 11 [(30,gn Pg i n false h)]} 11 600000
theorem QU(n i:Nat)(r:List D)(h:decide (i<n)=true)(d:a[((i:Nat):Int).toNat]? =some (.ro r))(k:i<1000000)(f:RL 111 (lO 11 9) (FM n i r.length 0) (fT a b) (.exit 2) (tu n i) (fT a b)):RE 111 (lO 11 4) (tu n i) (fT a b) .normal (tu n (i+1)) (fT a b):=
 qE {loops:=fun g q=>if g=11 then (if q=9 then some ⟨111,bG Pg 11 9,FM n i r.length 0,fun _=>fT a b, .exit 2,tu n i,fun _=>fT a b,fun c X j e=>(f c X j e).aw⟩else none)else none,hint:=qT 11 [(30,gn Pg i n true h),(35, .idx a ((i:Nat):Int) _ (by omega) d),(41, .idx a ((i:Nat):Int) _ (by omega) d),(44,hB Pg ((r.length:Int) !=(r.length:Int)) false (by simp)),(48, .idx a ((i:Nat):Int) _ (by omega) d),(72,cy Pg i (by omega))]} 11 600000
abbrev uw(n i:Nat):List (Nat×AV):=[(2, .ptr 600156 1 0 0 1),(3, .ptr 600268 1 0 0 1),(75,dN n),(76,dN i)]
theorem JQ(n i:Nat)(h:decide (i<n)=false):RE 111 (lO 11 16) (uw n i) (fT a b) (.exit 4) [] (fT a b):=
 qE {hint:=qT 11 [(77,gn Pg i n false h)]} 11 600000
theorem QV(n i:Nat)(fn:Int)(S U:List Nat)(h:decide (i<n)=true)(c:b[((i:Nat):Int).toNat]? =some (.agg [.int .i64 fn, .ro (cm S), .ro (cm U)]))(f:i<1000000000)(e:al Pg 15 [.ro (cm S), .ro (cm S)] [.bool true])(d:al Pg 15 [.ro (cm U), .ro (cm U)] [.bool true]):RE 111 (lO 11 16) (uw n i) (fT a b) .normal (uw n (i+1)) (fT a b):=
 qE {hint:=qT 11 [(77,gn Pg i n true h),(82, .idx b ((i:Nat):Int) _ (by omega) c),(87, .idx b ((i:Nat):Int) _ (by omega) c),(93,hB Pg (fn !=fn) false (by simp)),(99, .call 15 _ _ e),(107, .call 15 _ _ d),(110,cy Pg i (by omega))]} 11 600000
theorem XD(f:RL 111 (lO 11 4) (tu a.length 0) (fT a b) (.exit 0) [(2, .ptr 600156 1 0 0 1),(3, .ptr 600268 1 0 0 1)] (fT a b))
    (h2:RL 111 (lO 11 16) (uw b.length 0) (fT a b) (.exit 4) [] (fT a b)):al Pg 11 [.agg [.ro a, .ro b], .agg [.ro a, .ro b]] [.bool true]:=
 qV {loops:=fun g q=>if g=11 then (if q=4 then some ⟨111,bG Pg 11 4,tu a.length 0,fun _=>fT a b, .exit 0,[(2, .ptr 600156 1 0 0 1),(3, .ptr 600268 1 0 0 1)],fun _=>fT a b,fun c X d e=>(f c X d e).aw⟩else if q=16 then some ⟨111,bG Pg 11 16,uw b.length 0,fun _=>fT a b, .exit 4,[],fun _=>fT a b,fun c X d e=>(h2 c X d e).aw⟩else none)else none,hint:=qT 11 [(16,hB Pg ((a.length:Int) !=(a.length:Int)) false (by simp)),(24,hB Pg ((b.length:Int) !=(b.length:Int)) false (by simp))]} 600154
end
end Go.Avm
