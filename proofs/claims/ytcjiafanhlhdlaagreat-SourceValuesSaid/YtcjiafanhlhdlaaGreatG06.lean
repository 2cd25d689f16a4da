/-
  The abstract machine, part O: whole runs on abstract states, calls and all; what such a run says of the program.
-/
import Derived.Test.YtcjiafanhlhdlaaGreatG05
import Derived.RecoverIn
import Derived.ProofKit
import Derived.OpenShut
import Derived.Carry
set_option linter.unusedVariables false
set_option linter.unusedSimpArgs false
set_option linter.unusedSectionVars false
namespace Go.Avm
open Go.RowKit
variable[ap]
def dY(a:List AV):Nat→AV:=fun t=>(a[t]?).getD .junk
def eJ(P:Program)(S:St):List ResultVar→Option (List AV)
 |[]=>some []
 | .tmp t::r=>(eJ P S r).map (S.env t:: ·)
 | .cell t ty::r=>match cV P ty (S.env t) S.heap,eJ P S r with
  |some o,some l=>some (o.val::l)
  |_,_=>none
def jR(h:aa)(a:AV):Option (Nat×Nat×Nat×List AV×Int×Int):=
 match a with
 | .ptr k v i b _=>if b=0 then match (h k).ob with
     |some (.arr sz es)=>if sz=1∧(h k).ver=v then match es[i]?,es[i+1]? with
         |some (.d (.int .u32 n)),some (.d (.int .i32 m))=>some (k,v,i,es,n,m)
         |_,_=>none
      else none
     |_=>none
  else none
 |_=>none
def lX(h:aa)(k v i:Nat)(es:List AV):aa:=aq h k ⟨v,some (.arr 1 (es.set (i+1) (.d (.int .i32 1))))⟩
def lY(h:aa)(k v i:Nat)(es:List AV):aa:=aq h k ⟨v,some (.arr 1 ((es.set i (.d (.int .u32 1))).set (i+1) (.d (.int .i32 0))))⟩
def zt(P:Program)(g:Nat):Prop:=∀(h:aa)(a:AV)(f:Nat)(b:List AV)(k v i:Nat)(es:List AV)(n m:Int),jR h a=some (k,v,i,es,n,m)→
 (n≠0→az P g [a, .fn f b] h [] h)∧
 (n=0→m=0→∀(d:List AV)(h2:aa)(c:List AV),az P f b (lX h k v i es) d h2→jR h2 a=some (k,v,i,c,0,1)→az P g [a, .fn f b] h [] (lY h2 k v i c))
def nZ(P:Program):Prop:=∀g,ap.once=some g→zt P g
abbrev cA:=Nat→Nat→Nat→Code→St→Option (au×St×Nat×List Nat)
def qD(P:Program)(a:cA)(g:Nat)(ds:List D):Option (List D):=
 match P.funcs[g]? with
 |none=>none
 |some fn=>match fn.body with
  |none=>none
  |some b=>if ds.length≤fn.ntmps then match a g 0 fn.ntmps b (eR ds)with
      |some (.normal,S',_,_)=>hE P S' fn.results.toList
      |some (.ret,S',_,_)=>hE P S' fn.results.toList
      |_=>none
   else none
def w5(k:Nat):Nat:=k+9223372036854775808
def n0:Nat:=18446744073709551615
def tJ(tk:List Nat):List Nat:=tk.filterMap fun k=>bif Nat.ble 9223372036854775808 k then some (k-9223372036854775808)else none
def gm(tk:List Nat)(k:Nat):Prop:=k∈tk∨w5 k∈tk
def eK(tk:List Nat)(a b:aa):aa:=fun k=>if k∈tk then a k else b k
def gn(env:Nat→AV):List ResultVar→List Nat
 |[]=>[]
 | .tmp _::r=>gn env r
 | .cell t _::r=>match env t with
  | .ptr k _ _ _ _=>w5 k::gn env r
  |_=>gn env r
inductive oQ where
 |ret (rs:List AV)
 |pan (x:AV)
def cB(P:Program)(b:List ResultVar):Option (au×St×Nat×List Nat)→Option (oQ×aa×Nat×List Nat)
 |some (.normal,S',a,tk)=>(eJ P S' b).map fun l=>(.ret l,S'.heap,a,tk ++gn S'.env b)
 |some (.ret,S',a,tk)=>(eJ P S' b).map fun l=>(.ret l,S'.heap,a,tk ++gn S'.env b)
 |some (.panic x,S',a,tk)=>some (.pan x,S'.heap,a,tk)
 |_=>none
def vL(o:Oper):Option (Nat×Operand):=match o.guard,o.dst,o.op with
 |none,some d, .move u=>some (d,u)
 |none,some d, .assign u=>some (d,u)
 |_,_,_=>none
def BB(N:Nat)(a:Option (Nat×Operand))(env:Nat→AV):Option (Nat→AV):=match a with
 |none=>some env
 |some (d,u)=>bX N env (some d) (opd env u)
def kw(b:Option (Nat×Operand))(a:Act):Act:=match b with
 |none=>a
 |some (d,u)=>a.put (some d) (a.eval u)
def vM(o:Oper):Option (Operand×List Operand):=match o.guard,o.dst,o.op with
 |none,none, .defer c=>match c.callee with
  | .value f=>some (f,c.args.toList)
  |_=>none
 |_,_,_=>none
def tK(o:Oper):Option Nat:=match o.guard,o.dst,o.op with
 |none,some d, .call c=>match c.callee with
  | .builtin .recover=>some d
  |_=>none
 |_,_,_=>none
def k5:Code→Option (Option (Nat×Operand)×Operand×List Operand)
 | .region _ a false=>match a.toList with
  |[o]=>(vM o).map fun r=>(none,r)
  |[m,o]=>match vL m,vM o with
   |some b,some r=>some (some b,r)
   |_,_=>none
  |_=>none
 |_=>none
def gN:Code→Option (Nat×Option (Nat×Operand))
 | .region _ a false=>match a.toList with
  |[o]=>(tK o).map fun d=>(d,none)
  |[o,m]=>match tK o,vL m with
   |some d,some b=>some (d,some b)
   |_,_=>none
  |_=>none
 |_=>none
def mY(P:Program)(i:cA)(b:Nat)(g:Nat)(a:List AV)(x:Option AV)(h:aa):Option (aa×Nat×List Nat):=
 match P.funcs[g]? with
 |none=>none
 |some fn=>match fn.body with
  |some (.seq r c)=>match gN r with
   |some (d,f)=>if a.length≤fn.ntmps∧d<fn.ntmps∧fn.results.isEmpty=true then match BB fn.ntmps f (aq (dY a) d (x.getD (.d .nili)))with
       |some env=>match i g b fn.ntmps c ⟨env,h⟩with
        |some (.normal,S',e,tk)=>some (S'.heap,e,tk)
        |some (.ret,S',e,tk)=>some (S'.heap,e,tk)
        |_=>none
       |none=>none
    else none
   |none=>none
  |_=>none
def w6:au→Option (Option AV)
 | .normal| .ret=>some none
 | .panic x=>some (some x)
 |_=>none
def fM(P:Program)(h:cA)(b N:Nat)(i:List ResultVar):Code→Nat→St→Option (oQ×aa×Nat×List Nat)
 | .seq x y,a,S=>match k5 x with
  |some (k,f,Fx)=>match BB N k S.env with
   |some env=>match opd env f with
    | .fn g d=>match h b a N y ⟨env,S.heap⟩with
     |some (e,j,m,tk)=>match w6 e with
      |some n=>match mY P h m g (Fx.map (opd env) ++d) n j.heap with
       |some r=>(eJ P ⟨j.env,r.1⟩ i).map fun l=>(.ret l,r.1,r.2.1,tk ++(r.2.2 ++gn j.env i))
       |none=>none
      |none=>none
     |none=>none
    |_=>none
   |none=>none
  |none=>match h b a N x S with
   |some (.normal,S',o,tk)=>match fM P h b N i y o S' with
    |some r=>some (r.1,r.2.1,r.2.2.1,tk ++r.2.2.2)
    |none=>none
   |r=>cB P i r
 |c,a,S=>cB P i (h b a N c S)
def eZ(P:Program)(d:cA)(c:Nat)(g:Nat)(a:List AV)(h:aa):Option (oQ×aa×Nat×List Nat):=
 match P.funcs[g]? with
 |none=>none
 |some fn=>match fn.body with
  |none=>none
  |some b=>if a.length≤fn.ntmps then fM P d g fn.ntmps fn.results.toList b c ⟨dY a,h⟩else none
def n8(P:Program)(c:cA)(b:Nat)(g:Nat)(a:List AV)(h:aa):Option (List AV×aa×Nat×List Nat):=
 match eZ P c b g a h with
 |some (.ret d,h',e,tk)=>some (d,h',e,tk)
 |_=>none
def jS(P:Program)(g:cA)(b:Nat)(d:List AV)(h:aa):Option (aa×Nat×List Nat):=
 match d with
 |[a, .fn f c]=>match jR h a with
  |some (k,v,i,es,n,m)=>
   if n=0 then
    if m=0 then match n8 P g b f c (lX h k v i es)with
     |some r=>match jR r.2.1 a with
      |some (q,p,l,e,o,j)=>if q=k∧p=v∧l=i∧o=0∧j=1 then some (lY r.2.1 k v i e,r.2.2.1,k::r.2.2.2)else none
      |none=>none
     |none=>none
    else none
   else some (h,b,[])
  |none=>none
 |_=>none
def n9(o:Oper)(env:Nat→AV):Option (Nat×List AV):=match bV o env with
 |some (g,a)=>match ap.ext g with
  |some _=>none
  |none=>some (g,a)
 |none=>none
theorem gp{o:Oper}{env:Nat→AV}{g:Nat}{a:List AV}(h:n9 o env=some (g,a)):bV o env=some (g,a)∧ap.ext g=none:=by
 unfold n9 at h;split at h
 ·rename_i d e c
  split at h
  ·cases h
  ·rename_i b
   simp only[xA,xC]at h;obtain⟨rfl,rfl⟩:=h;exact⟨c,b⟩
 ·cases h
def zu(N:Nat)(env:Nat→AV):List (Nat×AV):=(List.range N).filterMap fun t=>match env t with
 | .junk=>none
 |x=>some (t,x)
theorem nc(N:Nat)(env:Nat→AV):∀p∈zu N env,p.2=env p.1:=fun p hp=>by
 obtain⟨t,_,h⟩:=List.mem_filterMap.1 hp;split at h
 ·cases h
 ·cases h;rfl
def qF(n:cA)(d k v:Nat)(c:List AV)(h:aa):Option (Bool×aa×Nat×List Nat):=
 match (h k).ob with
 |some (.lp b N env x Fx w .ready)=>if (h k).ver=v then match fh N (ag env) x.toList c with
     |some a=>match n b d N Fx ⟨a,h⟩with
      |some (.normal,S1,t,j)=>match (S1.heap k).ob with
       |some (.lp p y s l g f .ready)=>if (S1.heap k).ver=v then match n b t N w ⟨S1.env,aq S1.heap k ⟨v,some (.lp p y s l g f .busy)⟩⟩with
           |some r=>match (r.2.1.heap k).ob,lW r.1 with
            |some (.lp u o z m i e _),some q=>if (r.2.1.heap k).ver=v then some (q.1,aq r.2.1.heap k ⟨v,some (.lp u o z m i e q.2)⟩,r.2.2.1,k::(j ++r.2.2.2))else none
            |_,_=>none
           |none=>none
        else none
       |_=>none
      |_=>none
     |none=>none
  else none
 |_=>none
theorem jg{o:Oper}{env:Nat→AV}{x:Nat×Nat×List AV}(h:iU o env=some x):bV o env=none:=by
 unfold iU at h;unfold bV;cases a:o.op with
 |call c=>
  rw[a]at h;simp only at h ⊢;cases d:c.callee with
  |value f=>
   rw[d]at h;simp only at h ⊢;cases b:opd env f with
   |yld k v=>rfl
   |_=>simp[b]at h
  |_=>rfl
 |_=>rfl
def vN:LSt→Option au
 | .ready=>some .normal
 | .done .ret=>some .ret
 | .done (.exit id)=>some (.exit id)
 |_=>none
theorem nf{a:LSt}{e:au}{S:St}(h:vN a=some e):tI (fun b S'=>b=e∧S'=S) S a:=by
 unfold vN at h;split at h<;>first|(cases h;exact⟨rfl,rfl⟩)|(cases h;done)
def jT(g:Nat):Bool:=match ap.once with
 |some a=>Nat.beq a g
 |none=>false
inductive StepR where
 |go (S:St) (ft:Foot) (b:Nat) (tk:List Nat)
 |pan (x:AV) (h:aa) (b:Nat) (tk:List Nat)
inductive OpsR where
 |go (S:St) (fts:List Foot) (b:Nat) (tk:List Nat)
 |pan (p:Nat) (fts:List Foot) (x:AV) (h:aa) (b:Nat) (tk:List Nat)
def lZ(i:Nat)(tk:List Nat):Foot:=if tk.contains n0=true then ⟨i,[],tk,true⟩else ⟨i,tk ++tJ tk,tk,false⟩
def pi(o:Oper)(S:St)(a:Nat):Option StepR:=match o.op with
 | .panic u=>match opd S.env u with
  | .iv t y=>some (.pan (.iv t y) S.heap a [])
  |_=>none
 |_=>none
structure Memo(P:Program) where
 at':Nat→List D→Option (List D)
 ok:∀g ds rs,at' g ds=some rs→dt P g ds rs
def Memo.none{P:Program}:Memo P:=⟨fun _ _=> .none,fun _ _ _ h=>by cases h⟩
def qH{P:Program}(c:Memo P)(a:cA)(g:Nat)(ds:List D):Option (List D):=match c.at' g ds with
 |some b=>some b
 |none=>qD P a g ds
def ez(P:Program)(obm:Nat→Nat→Bool)(hp:Nat→Bool)(k:Memo P)(c:cA)(e a N:Nat)(h:Array Oper)(i:Nat)(o:Oper)(S:St):Option StepR:=
 match bK h o S.env with
 |some true=>match n9 o S.env with
  |some (g,b)=>if jT g=true then match jS P c a b S.heap with
      |some r=>(bX N S.env o.dst (.tup [])).map fun env=> .go ⟨env,r.1⟩ ⟨i,[],r.2.2,true⟩ r.2.1 (n0::r.2.2)
      |none=>none
   else match (if hp g=true then none else kF b)with
   |some ds=>match qH k c g ds with
    |some f=>(bX N S.env o.dst (fc f)).map fun env=> .go ⟨env,S.heap⟩ ⟨i,[],[],false⟩ a []
    |none=>none
   |none=>match eZ P c a g b S.heap with
    |some (.ret f,h',j,tk)=>(bX N S.env o.dst (dW f)).map fun env=> .go ⟨env,h'⟩ (lZ i tk) j tk
    |some (.pan x,h',j,tk)=>some (.pan x h' j tk)
    |none=>none
  |none=>match iU o S.env with
   |some y=>match qF c a y.1 y.2.1 y.2.2 S.heap with
    |some r=>(bX N S.env o.dst (.d (.bool r.1))).map fun env=> .go ⟨env,r.2.1⟩ ⟨i,[],r.2.2.2,true⟩ r.2.2.1 (n0::r.2.2.2)
    |none=>none
   |none=>match aX P {obm:=fun _=>obm e (o.dst.getD 0),base:=fun _=>a} i o (opd S.env) S.heap with
   |some out=>match out.ob with
    |[]=>(bX N S.env o.dst out.val).map fun env=> .go ⟨env,ae S.heap out.wr⟩ ⟨i,out.rd,out.wr.map (·.1),false⟩ (a+N) (out.rd.map w5 ++out.wr.map (·.1))
    |_=>none
   |none=>pi o S a
 |some false=>(bX N S.env o.dst (.tup [])).map fun env=> .go ⟨env,S.heap⟩ ⟨i,[],[],false⟩ a []
 |none=>none
def fP(P:Program)(obm:Nat→Nat→Bool)(hp:Nat→Bool)(k:Memo P)(g:cA)(c N:Nat)(e:Array Oper):List Oper→Nat→Nat→St→Option OpsR
 |[],_,a,S=>some (.go S [] a [])
 |o::r,i,a,S=>match ez P obm hp k g c a N e i o S with
  |none=>none
  |some (.pan x h b tk)=>some (.pan i [] x h b tk)
  |some (.go S1 j l d)=>match fP P obm hp k g c N e r (i+1) l S1 with
   |none=>none
   |some (.go m fts f tk)=>some (.go m (j::fts) f (d ++tk))
   |some (.pan p fts x h f tk)=>some (.pan p (j::fts) x h f (d ++tk))
def aY(P:Program)(obm:Nat→Nat→Bool)(hp:Nat→Bool)(k:Memo P):Nat→cA
 |0,_,_,_,_,_=>none
 |n+1,f,a,N,c,S=>
  match c with
  | .region _ j l=>match fP P obm hp k (aY P obm hp k n) f N j j.toList 0 a S with
   |some (.go S' fts b tk)=>match l with
    |false=>some (.normal,S',b,tk)
    |true=>match lS j fts with
     |true=>some (.normal,S',b,tk)
     |false=>none
   |some (.pan p fts x h b tk)=>match l with
    |false=>some (.panic x,⟨gl j S.env,h⟩,b,tk)
    |true=>match jQ j fts p with
     |true=>some (.panic x,⟨gl j S.env,h⟩,b,tk)
     |false=>none
   |none=>none
  | .seq x y=>match aY P obm hp k n f a N x S with
   |some (.normal,S',o,tk)=>match aY P obm hp k n f o N y S' with
    |some (e,t,s,m)=>some (e,t,s,tk ++m)
    |none=>none
   |r=>r
  | .block id x=>match aY P obm hp k n f a N x S with
   |some (.exit i,S',o,tk)=>if i=id then some (.normal,S',o,tk)else some (.exit i,S',o,tk)
   |r=>r
  | .loop x=>match aY P obm hp k n f a N x S with
   |some (.normal,S',o,tk)=>match aY P obm hp k n f o N (.loop x) S' with
    |some (e,t,s,m)=>some (e,t,s,tk ++m)
    |none=>none
   |r=>r
  | .skip=>some (.normal,S,a,[])
  | .exit i=>some (.exit i,S,a,[])
  | .ret=>some (.ret,S,a,[])
  | .cond c x y=>match opd S.env c with
   | .d (.bool b)=>match b with
    |true=>aY P obm hp k n f a N x S
    |false=>aY P obm hp k n f a N y S
   |_=>none
  | .rangeFunc g z Fx v=>match opd S.env g with
   | .fn w q=>match n8 P (aY P obm hp k n) (a+N) w (.yld a ((S.heap a).ver+1)::q) (aq S.heap a ⟨(S.heap a).ver+1,some (.lp f N (zu N S.env) z Fx v .ready)⟩)with
    |some r=>match (r.2.1 a).ob with
     |some (.lp _ _ _ _ _ _ u)=>if (r.2.1 a).ver=(S.heap a).ver+1 then match vN u with
         |some e=>some (e,⟨S.env,aq r.2.1 a ⟨(r.2.1 a).ver,none⟩⟩,r.2.2.1,n0::a::r.2.2.2)
         |none=>none
      else none
     |_=>none
    |none=>none
   |_=>none
  |_=>none
def fi(r:Option Nat)(P:Program)(c:Code)(Q:Exit→Act→World→Prop)(a:Act)(w:World):Prop:=
 ∀(b:Frame) k cs,b.roundOf=r→∃e f d,Q e f d∧ArrivesIn (Machine.fenced P (FF r)) P (lone (b.atR a (.code c:: .inLoop c::k)) cs w) b k cs e f d
theorem zv(r:Option Nat)(n:Nat):(FF r).room n:=fun d h=>by cases h
theorem pj{r:Option Nat}{P:Program}{c:Code}{Q:Exit→Act→World→Prop}{a:Act}{w:World}(h:fi r P c Q a w):(Code.loop c).wpIn (FF r) 0 P Q a w:=by
 intro b k cs f m j;obtain⟨e,l,g,i,d⟩:=h b k cs f;exact⟨e,l,g,i, .of_steps (.one (fenced_calm m j rfl) stepR_loop) d⟩
theorem l4{r:Option Nat}{P:Program}{c:Code}{Q:Exit→Act→World→Prop}{a:Act}{w:World}(h:c.wpIn (FF r) 0 P (Exit.then (fi r P c Q) Q) a w):fi r P c Q a w:=by
 intro b k cs n;have s:(FF r).room (cs.length+1+0):=zv r _;obtain⟨e,g,f,m,d⟩:=h b (.inLoop c::k) cs n trivial s;cases e with
 |normal=>
  obtain⟨p,q,o,j,i⟩:=m b k cs n;exact⟨p,q,o,j, .of_steps (StepsIn.trans d (.one (fenced_calm trivial s rfl) stepR_inLoop)) i⟩
 |exit id=>exact⟨_,g,f,m, .pass (x:= .inLoop c) rfl (fun _ _=> .inl (by simp)) d⟩
 |goto l=>exact⟨_,g,f,m, .pass (x:= .inLoop c) rfl (fun _ _=> .inl (by simp)) d⟩
 |ret=>exact⟨_,g,f,m, .pass (x:= .inLoop c) rfl (fun _ _=> .inl (by simp)) d⟩
 |panic t=>exact⟨_,g,f,m, .pass (x:= .inLoop c) rfl (fun _ _=> .inl (by simp)) d⟩
 |outgrown=>exact⟨_,g,f,m, .pass (x:= .inLoop c) rfl (fun _ _=> .inl (by simp)) d⟩
theorem hF{r:Option Nat}{P:Program}{c:Code}{Q f:Exit→Act→World→Prop}{a:Act}{w:World}(h:fi r P c Q a w)(i:∀e a w,Q e a w→f e a w):fi r P c f a w:=fun b k cs d=>by
 obtain⟨e,l,g,j,h2⟩:=h b k cs d;exact⟨e,l,g,i _ _ _ j,h2⟩
def LW(X:bD)(c:Code)(S:St)(Q:au→St→Prop):Prop:=
 ∀G a w,db X G S a w→fi X.rnd X.P c (fun e g b=>∃f S' d,XRep d b f e∧Q f S'∧Ext G w d b∧db X d S' g b) a w
theorem LW.aw{X:bD}{c:Code}{S:St}{Q:au→St→Prop}(h:LW X c S Q):AW X (.loop c) S Q:=fun G a w b=>pj (h G a w b)
theorem eB{X:bD}{c:Code}{S:St}{Q:au→St→Prop}(h:AW X c S (tE (fun S'=>LW X c S' Q) Q)):LW X c S Q:=fun G a w t=>by
 refine l4 (wpIn_mono (h G a w t) ?_);rintro e o g ⟨n,S',b,x,q,f,r⟩;cases n with
 |normal=>
  obtain rfl:=x.normal;exact hF (q b o g r) fun e A y ⟨u,k,p,m,j,s,l⟩=>⟨u,k,p,m,j,f.trans s,l⟩
 |exit i=>obtain rfl:=x.exit;exact⟨_,S',b,x,q,f,r⟩
 |ret=>obtain rfl:=x.ret;exact⟨_,S',b,x,q,f,r⟩
 |panic d=>obtain⟨v,rfl,z⟩:=x.panic;exact⟨_,S',b,x,q,f,r⟩
theorem pk{P:Program}{cfg cfg':d0}{i:Nat}{o:Oper}{ρ:Operand→AV}{h:aa}(b:cfg'.ret i=cfg.ret i)(h2:cfg'.obm i=cfg.obm i)(a:cfg'.base i=cfg.base i):aX P cfg' i o ρ h=aX P cfg i o ρ h:=by
 unfold aX aK dz;simp only[b,h2,a]
structure gO where
 ret:List D
 hc:Option EH
 base:Nat
section
variable{P:Program}{obm:Nat→Nat→Bool}{hp:Nat→Bool}{A:Memo P}
def d5(P:Program)(f:cA):Prop:=∀d a N c S e S' h tk,f d a N c S=some (e,S',h,tk)→(∀X:bD,X.P=P→X.N=N→AW X c S fun g b=>g=e∧b=S')∧∀k,k∉tk→S'.heap k=S.heap k
def bl(P:Program):Prop:=(∀(g:Nat)(fn:Func),P.funcs[g]? =some fn→(fn.name== "runtime.NumGoroutine")=false)∧nZ P
theorem oa(hm:d4 P)(l:bl P){d:cA}(hex:d5 P d){g:Nat}{ds f:List D}(h:qD P d g ds=some f):dt P g ds f:=by
 unfold qD at h;split at h
 ·cases h
 ·rename_i fn i
  split at h
  ·cases h
  ·rename_i b n
   split at h
   ·rename_i m
    refine lV hm i n (l.1 g fn i) m (fun X k j=> ?_);split at h
    ·rename_i S' o tk c
     refine((hex _ _ _ _ _ _ _ _ _ c).1 X k j).mono ?_;rintro e a ⟨rfl,rfl⟩;exact⟨.inl rfl,h⟩
    ·rename_i S' o tk c
     refine((hex _ _ _ _ _ _ _ _ _ c).1 X k j).mono ?_;rintro e a ⟨rfl,rfl⟩;exact⟨.inr rfl,h⟩
    ·cases h
   ·cases h
theorem oc(hm:d4 P)(c:bl P){b:cA}(hex:d5 P b){g:Nat}{ds a:List D}(h:qH A b g ds=some a):dt P g ds a:=by
 unfold qH at h;split at h
 ·rename_i d h'
  exact A.ok _ _ _ (h▸h')
 ·exact oa hm c hex h
theorem iD{M:List Deferred}{G:Gh}{B:Nat}{w0 w:World}{I0:Nat→Nat→Prop}{N:Nat}{S:St}{a:Act}(s:HR G B w0 I0 S.heap w)(E:FR G w N M S.env a){fn:Func}{d:List AV}(H:eJ P S fn.results.toList=some d):
    ∃v,(results fn a.tmps).run P w= .ok v w∧Rep G w (dW d) v:=by
 have o:∀(l:List ResultVar)(d:List AV),eJ P S l=some d→∃vs:List Value,vs.length=d.length∧
     (l.mapM (mW a.tmps)).run P w= .ok vs w∧
     ∀(i:Nat)(x:AV)(u:Value),d[i]? =some x→vs[i]? =some u→Rep G w x u:=by
  intro l;induction l with
  |nil=>intro d h;simp[eJ]at h;subst h;exact⟨[],rfl,rfl,by simp⟩
  |cons r l J=>
   intro d h
   have D:∃x xs,d=x::xs∧eJ P S l=some xs∧∃v,(mW a.tmps r).run P w= .ok v w∧Rep G w x v:=by
    cases r with
    |tmp t=>
     simp only[eJ,xB]at h;obtain⟨xs,j,rfl⟩:=h;exact⟨_,xs,rfl,j,_,rfl,E.opd s.maps.glob (.tmp t)⟩
    |cell t ty=>
     simp only[eJ]at h;split at h
     ·rename_i out xs L f
      simp only[xA]at h;subst h;obtain⟨v,c,_,_,g⟩:=fw s (E.opd s.maps.glob (.tmp t)) L;refine⟨_,xs,rfl,f,v, ?_,g⟩;simp only[Instr.loadAt,Instr.sureAddr,Act.eval]at c;simp only[mW];generalize a.tmps.getD t undef=u at c;cases u with
      |pointer I=>
       cases I with
       |some O=>simpa [asAddr]using c
       |none=>simp at c
      |_=>simp at c
     ·cases h
   obtain⟨x,xs,rfl,f,v,K,F⟩:=D;obtain⟨vs,j,h2,k⟩:=J xs f;refine⟨v::vs,by simp[j], ?_,fun i y u m z=> ?_⟩
   ·rw[List.mapM_cons,Sem.run_bind]
    rw[K,Result.andThen_ok,Sem.run_bind,h2,Result.andThen_ok];rfl
   ·cases i with
    |zero=>simp at m z;subst m;subst z;exact F
    |succ i=>exact k i y u (by simpa using m) (by simpa using z)
 obtain⟨vs,j,h2,k⟩:=o _ _ H
 have hm:(fn.results.mapM (mW a.tmps)).run P w= .ok vs.toArray w:=by
  rw[Array.mapM_eq_mapM_toList,Sem.run_map,h2];rfl
 refine⟨if h:vs.toArray.size=1 then vs.toArray[0]else .tuple vs.toArray, ?_, ?_⟩
 ·have C:results fn a.tmps=(do let vs ←fn.results.mapM (mW a.tmps);pure (if h:vs.size=1 then vs[0]else .tuple vs)):=by
    unfold results;congr 1
  rw[C,Sem.run_bind,hm];rfl
 ·by_cases e:d.length=1
  ·obtain⟨x,p⟩:=yG.1 e
   have q:vs.length=1:=by omega
   obtain⟨v,C⟩:=yG.1 q;subst p;subst C;exact k 0 x v rfl rfl
  ·have n:¬(vs.toArray.size=1):=by simp;omega
   rw[dif_neg n]
   have:dW d= .tup d:=by
    unfold dW;split
    ·simp at e
    ·rfl
   rw[this];exact .tup _ _ (by simp[j]) (fun i x u a b=>k i x u a (by simpa using b))
theorem Ext.ends{G f:Gh}{w c d:World}(e:Ext G w f c)(a:Shut w.heap.size c d):Ext G w f d:=
 ⟨e.imm,e.loc,fun b o x=>(a.cell _).trans (e.cell b o x),by rw[a.size];exact e.size,e.lim,e.nloc,e.mloc,fun b o g x=>by
  rw[a.low b (xG.1 x).1];exact e.kept b o g x⟩
theorem gq{hm:d4 P}{G:Gh}{B:Nat}{w0 w:World}{I0:Nat→Nat→Prop}{fn:Func}{b:List AV}{h:aa}{a:Array Value}(k:HR G B w0 I0 h w)(j:a.size=b.length)(l:b.length≤fn.ntmps)
    (c:∀(i:Nat)(x:AV)(u:Value),b[i]? =some x→a[i]? =some u→Rep G w x u):
    db ⟨P,B,w0,I0,fn.ntmps,hm,none,w.heap.size,[]⟩ G ⟨dY b,h⟩ {tmps:=a ++Array.replicate (fn.ntmps-a.size) undef,defers:=[]} w:=by
 refine⟨k,[],⟨?_,rfl, ?_, ?_⟩,yE,fun _ h=>(by cases h),fun _ h=>(by cases h),fun _ h=>(by cases h),xO _⟩
 ·show(a ++Array.replicate (fn.ntmps-a.size) undef).size=fn.ntmps
  simp[j];omega
 ·intro t _
  show Rep _ _ ((b[t]?).getD .junk) ((a ++Array.replicate (fn.ntmps-a.size) undef).getD t undef);cases g:b[t]? with
  |none=>exact .junk _
  |some x=>
   have d:t<a.size:=by rw[j];exact(xD.1 g).1
   have f:a[t]? =some a[t]:=xF d;rw[xb,yA d,f];exact c t x _ g f
 ·intro t e
  show(b[t]?).getD .junk= .junk;rw[yV (by have e:fn.ntmps≤t:=e;omega)];rfl
theorem gr(hm:d4 P){f:Nat}{fn:Func}{c:Code}{i D:List AV}{h h':aa}(H:P.funcs[f]? =some fn)(s:fn.body=some c)(K:(fn.name== "runtime.NumGoroutine")=false)(L:i.length≤fn.ntmps)
    (E:∀X:bD,X.P=P→X.N=fn.ntmps→AW X c ⟨dY i,h⟩ fun e S'=>(e= .normal∨e= .ret)∧eJ P S' fn.results.toList=some D∧S'.heap=h'):az P f i h D h':=by
 refine⟨⟨fn,H,by rw[s];rfl,K⟩,fun G B w0 I0 w u J O j=>callsIn_wide.1 (callsIn_of_wp_marks (F:=FF none) (n:=0) H s trivial ?_)⟩
 let X:bD:=⟨P,B,w0,I0,fn.ntmps,hm,none,w.heap.size,[]⟩
 refine wpIn_mono (E X rfl rfl _ _ _ (gq (hm:=hm) J O L j)) ?_;rintro e x y ⟨U,S',p,I,⟨M,k,rfl⟩,hex,z,T,m,d⟩
 have l:∀R:Ending→World→Prop,(∀v g,Ext G w p g→HR p B w0 I0 S'.heap g→Rep p g (dW D) v→R (.returned v) g)→LeavesInM (FF none) 0 P fn x.tmps R x.defers .returning y:=fun R Q=>by
  rw[m.nod];refine ce (B:=w.heap.size) (by simp) T y d.nd d.low d.live (fun g a _=> ?_);have q:Shut B y g:=⟨a.os,a.tape,a.output,a.size,a.oth,fun b s=>a.low b (yP s J.bsz),a.cell⟩
  have o:=z.shut q;obtain⟨v,S,r⟩:=iD o (m.shut q) k;show ∃v,(results fn x.tmps).run P g= .ok v g∧R (.returned v) g;exact⟨v,S,Q v g (hex.ends a) o r⟩
 rcases M with rfl|rfl
 ·obtain rfl:=I.normal
  exact l _ fun v g c1 t C=>⟨v,p,rfl,c1,t,C⟩
 ·obtain rfl:=I.ret
  exact l _ fun v g c1 t C=>⟨v,p,rfl,c1,t,C⟩
theorem qI(hm:d4 P){f:Nat}{fn:Func}{c:Code}{g:List AV}{x:AV}{h h':aa}(r:P.funcs[f]? =some fn)(k:fn.body=some c)(u:(fn.name== "runtime.NumGoroutine")=false)(y:g.length≤fn.ntmps)
    (q:∀X:bD,X.P=P→X.N=fn.ntmps→AW X c ⟨dY g,h⟩ fun e S'=>e= .panic x∧S'.heap=h'):eY P f g h x h':=by
 refine⟨⟨fn,r,by rw[k];rfl,u⟩,fun G B w0 I0 w m t E i=>callsIn_wide.1 (callsIn_of_wp_marks (F:=FF none) (n:=0) r k trivial ?_)⟩
 let X:bD:=⟨P,B,w0,I0,fn.ntmps,hm,none,w.heap.size,[]⟩
 refine wpIn_mono (q X rfl rfl _ _ _ (gq (hm:=hm) t E y i)) ?_;rintro e s o ⟨J,S',D,z,⟨rfl,rfl⟩,hex,p,I,l,d⟩;obtain⟨v,rfl,H⟩:=z.panic;show LeavesInM (FF none) 0 P fn s.tmps _ s.defers (.panicking _) o;rw[l.nod];refine ce (B:=w.heap.size) (by simp) I o d.nd d.low d.live (fun C a _=> ?_);have j:Shut B o C:=⟨a.os,a.tape,a.output,a.size,a.oth,fun b k=>a.low b (yP k t.bsz),a.cell⟩
 exact⟨v,D,rfl,hex.ends a,p.shut j,H.shut j⟩
theorem ky{F:Fence}{n:Nat}{cs:List Frame}:∀(f:List Nat)(fr:Frame)(w:World),fr.mode≠ .run→fr.defers=dw f→f.Nodup→(∀b∈f,w.heap[b]? =some (.deferred (some [])))→∀B,(∀b∈f,B≤b)→F.fn fr.fn→F.room (cs.length+1+n)→
    ∃j,Shut B w j∧StepsIn (Machine.fenced P F) P (lone fr cs w) (lone {fr with defers:=[]} cs j)
 |[],fr,w,_,l,_,_,B,_,_,_=>⟨w,Shut.refl B w,by
  have:({fr with defers:=[]}:Frame)=fr:=by cases fr;cases l;rfl
  rw[this];exact StepsIn.refl _⟩
 |b::f,fr,w,hm,l,i,a,B,c,p,q=>by
  have r:=a b (by simp);rw[yn]at i;have h:=run_takeDeferred (P:=P) r;have s:=step_collected (P:=P) (cs:=cs) (d:={target:= .collected b,args:= #[]}) (ds:=dw f) hm l rfl h;have t:(lone fr cs w).fenced P F:=fenced_out (n:=n) p q hm l (fun g v=>by simp[Target.leads]at v)
  obtain⟨j,u,o⟩:=ky f {fr with defers:=[] ++dw f} (w.putObj b (.deferred none)) hm rfl i.2 (fun x k=>by
   have m:x≠b:=fun e=>i.1 (e▸k)
   rw[World.putObj_heap_other m];exact a x (by simp[k])) B (fun x k=>c x (by simp[k])) p q
  exact⟨j,(Shut.put r rfl rfl (c b (by simp))).trans u, .head t s o⟩
def BC(P:Program)(g:Nat)(b:List AV)(x:Option AV)(h h':aa):Prop:=
 ch P g∧∀(G:Gh)(B:Nat)(w0:World)(I0:Nat→Nat→Prop)(w:World)(a:Array Value)(u:FrameMode),HR G B w0 I0 h w→a.size=b.length→
  (∀(i:Nat)(x:AV)(u:Value),b[i]? =some x→a[i]? =some u→Rep G w x u)→
  (match x with|none=>u= .returning|some x=>∃v,u= .panicking [{v,recovered:=false}]∧Rep G w x v)→
  CallsDIn (FF none) 0 P g a u w fun e j c=>∃f d,e= .returned f∧settle j= .returning∧Ext G w d c∧HR d B w0 I0 h' c
theorem ng{o:Oper}{d:Nat}{u:Operand}(h:vL o=some (d,u)):o.guard=none∧o.dst=some d∧∀(P:Program)(ρ:Operand→Value)(w:World),(execOp ρ o).run P w= .ok (.value (ρ u)) w:=by
 unfold vL at h;split at h
 ·rename_i c b a
  simp only[xA,xC]at h;obtain⟨rfl,rfl⟩:=h;exact⟨c,b,fun P ρ w=>by unfold execOp;rw[a];rfl⟩
 ·rename_i c b a
  simp only[xA,xC]at h;obtain⟨rfl,rfl⟩:=h;exact⟨c,b,fun P ρ w=>by unfold execOp;rw[a];rfl⟩
 ·cases h
theorem sH{o:Oper}{d:Nat}(h:tK o=some d):∃c,o.guard=none∧o.dst=some d∧o.op= .call c∧c.callee= .builtin .recover:=by
 unfold tK at h;split at h
 ·rename_i g c f b a
  split at h
  ·rename_i e
   simp only[xA]at h;subst h;exact⟨c,f,b,a,e⟩
  ·cases h
 ·cases h
theorem nh{o:Oper}{f:Operand}{Fx:List Operand}(h:vM o=some (f,Fx)):∃c,o.guard=none∧o.dst=none∧o.op= .defer c∧c.callee= .value f∧c.args.toList=Fx:=by
 unfold vM at h;split at h
 ·rename_i c e b a
  split at h
  ·rename_i g d
   simp only[xA,xC]at h;obtain⟨rfl,rfl⟩:=h;exact⟨c,e,b,a,d,rfl⟩
  ·cases h
 ·cases h
theorem rF{G:Gh}{w:World}{N:Nat}{f:List Deferred}{env b:Nat→AV}{a:Act}{e:Option (Nat×Operand)}(c:FR G w N f env a)(g:Globs G.imm w)(hm:BB N e env=some b):FR G w N f b (kw e a):=by
 cases e with
 |none=>cases hm;exact c
 |some p=>
  obtain⟨d,u⟩:=p;exact c.put (dst:=some d) (x:=opd env u) hm (c.opd g u)
theorem tL{x:Code}{p:Option (Nat×Operand)}{f:Operand}{Fx:List Operand}(h:k5 x=some (p,f,Fx)):∃(o:Oper)(c:Call),o.op= .defer c∧c.callee= .value f∧c.args.toList=Fx∧
    ∀(P:Program)(a:Act)(w:World)(Q:Exit→Act→World→Prop)(d:Deferred),(execOp (kw p a).eval o).run P w= .ok (.defer d) w→Q .normal {kw p a with defers:=d::(kw p a).defers} w→x.wpIn (FF none) 0 P Q a w:=by
 unfold k5 at h;split at h
 ·rename_i id n
  split at h
  ·rename_i o v
   simp only[xB,xC]at h;obtain⟨r,H,rfl,rfl⟩:=h;obtain⟨c,D,q,k,C,l⟩:=nh (f:=f) (Fx:=Fx) H;refine⟨o,c,k,C,l,fun P a w Q d e s=> ?_⟩;rw[show n= #[o]from by rw[←yk];exact v];refine wpIn_region ?_;have i:List.range (#[o]:Array Oper).size=[0]:=rfl;rw[i,wpOpsIn_cons];unfold wpOpIn;have j:(#[o]:Array Oper)[0]? =some o:=rfl;simp only[j];have b:Region.wanted o (yielded #[o] a.tmps)=true:=by simp[Region.wanted,D]
   rw[xW b];refine⟨fun _ _=>trivial, ?_⟩;rw[show(FF none).round=none from rfl,Oper.semAt_none];rw[show(execOp a.eval o).run P w= .ok (.defer d) w from e,Oper.uponIn_defer,q];exact s
  ·rename_i m o v
   split at h;case h_2=>cases h
   rename_i E r hm y;simp only[xA,xC]at h;obtain⟨rfl,rfl⟩:=h;obtain⟨c,D,q,k,C,l⟩:=nh (f:=f) (Fx:=Fx) y;obtain⟨G,u⟩:=E;obtain⟨t,z,F⟩:=ng hm;refine⟨o,c,k,C,l,fun P a w Q d e s=> ?_⟩;rw[show n= #[m,o]from by rw[←yk];exact v];refine wpIn_region ?_;have i:List.range (#[m,o]:Array Oper).size=[0,1]:=rfl;rw[i,wpOpsIn_cons];unfold wpOpIn;have j:(#[m,o]:Array Oper)[0]? =some m:=rfl;simp only[j];have b:Region.wanted m (yielded #[m,o] a.tmps)=true:=by simp[Region.wanted,t]
   rw[xW b];refine⟨fun _ _=>trivial, ?_⟩;rw[show(FF none).round=none from rfl,Oper.semAt_none,F,Oper.uponIn_value,z,wpOpsIn_cons];unfold wpOpIn;have B:(#[m,o]:Array Oper)[1]? =some o:=rfl;simp only[B];have g:Region.wanted o (yielded #[m,o] (a.put (some G) (a.eval u)).tmps)=true:=by simp[Region.wanted,D]
   rw[xW g];refine⟨fun _ _=>trivial, ?_⟩;rw[show(FF none).round=none from rfl,Oper.semAt_none];rw[show(execOp (a.put (some G) (a.eval u)).eval o).run P w= .ok (.defer d) w from e,Oper.uponIn_defer,q];exact s
  ·cases h
 ·cases h
theorem pl{fn:Func}{b:List AV}{G:Gh}{w:World}{a:Array Value}(g:a.size=b.length)(h:b.length≤fn.ntmps)(c:∀(i:Nat)(x:AV)(u:Value),b[i]? =some x→a[i]? =some u→Rep G w x u):
    FR G w fn.ntmps [] (dY b) {tmps:=a ++Array.replicate (fn.ntmps-a.size) undef,defers:=[]}:=by
 refine⟨?_,rfl, ?_, ?_⟩
 ·show(a ++Array.replicate (fn.ntmps-a.size) undef).size=fn.ntmps
  simp[g];omega
 ·intro t _
  show Rep _ _ ((b[t]?).getD .junk) ((a ++Array.replicate (fn.ntmps-a.size) undef).getD t undef);cases f:b[t]? with
  |none=>exact .junk _
  |some x=>
   have d:t<a.size:=by rw[g];exact(xD.1 f).1
   have e:a[t]? =some a[t]:=xF d;rw[xb,yA d,e];exact c t x _ f e
 ·intro t j
  show(b[t]?).getD .junk= .junk;rw[yV (by omega)];rfl
theorem l5{x:Code}{d:Nat}{C:Option (Nat×Operand)}(h:gN x=some (d,C)){a:Act}{cs cs':List Frame}{w:World}{v:Value}{Q:Exit→Act→List Frame→World→Prop}(l:recoverD cs=some (v,cs')∨(recoverD cs=none∧v= .nilIface∧cs'=cs))(F:Q .normal (kw C (a.put (some d) v)) cs' w):x.wpSIn (FF none) 0 P Q a cs w:=by
 have g:∀{o:Oper},tK o=some d→∀(b:Array Oper)(f:List Nat)(i:Nat),b[i]? =some o→wpOpsSIn (FF none) 0 P b Q f (a.put (some d) v) cs' w→wpOpsSIn (FF none) 0 P b Q (i::f) a cs w:=by
  intro o k b f i G D;obtain⟨c,H,p,s,j⟩:=sH k
  have n:(execOp a.eval o).run P w= .ok .recover w:=by
   unfold execOp;rw[s];exact(b4 c _ o.type a.eval j).trans rfl
  unfold wpOpsSIn;simp only[G];refine⟨fun _ _=>trivial, ?_⟩;have e:Region.wanted o (yielded b a.tmps)=true:=by simp[Region.wanted,H]
  rw[xW e,n,p];rcases l with l|⟨l,rfl,rfl⟩
  ·rw[l];exact D
  ·rw[l];exact D
 unfold gN at h;split at h
 ·rename_i id b
  split at h
  ·rename_i o k
   simp only[xB,xC]at h;obtain⟨E,y,rfl,rfl⟩:=h;rw[show b= #[o]from by rw[←yk];exact k];refine wpSIn_region ?_;rw[show List.range (#[o]:Array Oper).size=[0]from rfl];exact g y _ _ 0 rfl (by unfold wpOpsSIn;exact F)
  ·rename_i o m k
   split at h;case h_2=>cases h
   rename_i E z y hm;simp only[xA,xC]at h;obtain⟨rfl,rfl⟩:=h;obtain⟨I,u⟩:=z;obtain⟨q,r,B⟩:=ng hm;rw[show b= #[o,m]from by rw[←yk];exact k];refine wpSIn_region ?_;rw[show List.range (#[o,m]:Array Oper).size=[0,1]from rfl];refine g y _ _ 0 rfl ?_;unfold wpOpsSIn;have t:(#[o,m]:Array Oper)[1]? =some m:=rfl;simp only[t];refine⟨fun _ _=>trivial, ?_⟩;have e:Region.wanted m (yielded #[o,m] (a.put (some E) v).tmps)=true:=by simp[Region.wanted,q]
   rw[xW e,B,r];unfold wpOpsSIn;exact F
  ·cases h
 ·cases h
theorem qJ(hm:d4 P)(hn:bl P){ex:cA}(hex:d5 P ex){N g:Nat}{D:List AV}{x:Option AV}{h h':aa}{b2:Nat}{tk:List Nat}(o:mY P ex N g D x h=some (h',b2,tk)):
    BC P g D x h h'∧∀k,k∉tk→h' k=h k:=by
 unfold mY at o;split at o
 ·cases o
 rename_i fn hf;split at o;case h_2=>cases o
 rename_i r c hb;split at o;case h_2=>cases o
 rename_i d mv hd;split at o;case isFalse=>cases o
 rename_i U;obtain⟨hl,hdn,hres⟩:=U;split at o;case h_2=>cases o
 rename_i L hmv
 have key:∃e S',ex g N fn.ntmps c ⟨L,h⟩=some (e,S',b2,tk)∧(e= .normal∨e= .ret)∧S'.heap=h':=by
  split at o
  ·rename_i S' b' tk' Z
   simp only[xA,xC]at o;obtain⟨rfl,rfl,rfl⟩:=o;exact⟨_,S',Z, .inl rfl,rfl⟩
  ·rename_i S' b' tk' Z
   simp only[xA,xC]at o;obtain⟨rfl,rfl,rfl⟩:=o;exact⟨_,S',Z, .inr rfl,rfl⟩
  ·cases o
 obtain⟨e,S',Z,hee,rfl⟩:=key;obtain⟨q1,q2⟩:=hex _ _ _ _ _ _ _ _ _ Z;refine⟨⟨⟨fn,hf,by rw[hb];rfl,hn.1 g fn hf⟩,fun G B w0 I0 w i u hr hs R hu=> ?_⟩,q2⟩;have hfr0:=pl hs hl R
 let X:bD:=⟨P,B,w0,I0,fn.ntmps,hm,none,w.heap.size,[]⟩
 have z:∀tm j,∃v,(results fn tm).run P j= .ok v j:=fun tm j=>by
  have hr0:fn.results= #[]:=Array.isEmpty_iff.1 hres;refine⟨.tuple #[], ?_⟩;simp[results,hr0]
 have M:∀(v:Value)(C:FrameMode)(S:AV),Rep G w S v→x.getD (.d .nili)=S→settle C= .returning→∀(f:Frame)(cs:List Frame),
     c.wpIn (FF none) 0 P (fun e a p=>∃H l t,XRep t p H e∧(H= .normal∨H= .ret)∧l.heap=S'.heap∧Ext G w t p∧db X t l a p) (kw mv (({tmps:=i ++Array.replicate (fn.ntmps-i.size) undef,defers:=[]}:Act).put (some d) v)) w:=by
  intro v C S hv hx J f cs
  have hH:db X G ⟨L,h⟩ (kw mv (({tmps:=i ++Array.replicate (fn.ntmps-i.size) undef,defers:=[]}:Act).put (some d) v)) w:=by
   refine⟨hr,[], ?_,yE,fun _ h=>(by cases h),fun _ h=>(by cases h),fun _ h=>(by cases h),xO _⟩;have:=hfr0.put (dst:=some d) (x:=S) (v:=v) (env':=aq (dY D) d S) (by simp only[bX];rw[xW hdn]) hv;exact rF this hr.maps.glob (by rw[←hx];exact hmv)
  refine wpIn_mono (q1 X rfl rfl G _ w hH) ?_;rintro e Q p ⟨H,l,t,xr,⟨rfl,rfl⟩,e1,hh⟩;exact⟨H,l,t,xr,hee,rfl,e1,hh⟩
 refine⟨trivial,fun f cs V s=> ?_⟩
 let b:Frame:={(default:Frame)with fn:=g,kind:= .deferred,roundOf:=none}
 have I:Frame.enter P g i .deferred=
     b.atR {tmps:=i ++Array.replicate (fn.ntmps-i.size) undef,defers:=[]} [.code (.seq r c)]:=by
  simp[Frame.enter,Frame.atR,hf,hb,b]
 have W:∃(C:FrameMode),settle C= .returning∧(Code.seq r c).wpSIn (FF none) 0 P (fun e a cs' p=>cs'={f with mode:=C}::cs∧∃H l t,XRep t p H e∧(H= .normal∨H= .ret)∧l.heap=S'.heap∧Ext G w t p∧db X t l a p)
     {tmps:=i ++Array.replicate (fn.ntmps-i.size) undef,defers:=[]} (f::cs) w:=by
  cases x with
  |none=>
   obtain rfl:u= .returning:=hu;refine⟨.returning,rfl,wpSIn_seq (l5 hd (.inr ⟨by simp[recoverD,V],rfl,rfl⟩) ?_)⟩;have hc0:({f with mode:= .returning}:Frame)=f:=by cases f;cases V;rfl
   rw[hc0];exact wpSIn_of_wpIn rfl (wpIn_mono (M .nilIface .returning (.d .nili) (.d .nili) rfl rfl f cs) fun e a p hh=>⟨rfl,hh⟩)
  |some S=>
   obtain⟨v,rfl,hv⟩:=hu;refine⟨.panicking [{v,recovered:=true}],rfl,wpSIn_seq (l5 hd (cs':={f with mode:= .panicking [{v,recovered:=true}]}::cs) (v:=v) (.inl (by simp[recoverD,V])) ?_)⟩;exact wpSIn_of_wpIn rfl (wpIn_mono (M v (.panicking [{v,recovered:=true}]) S hv rfl rfl f cs) fun e a p hh=>⟨rfl,hh⟩)
 obtain⟨C,J,W⟩:=W;obtain⟨e,Q,cs',p,hlen,⟨rfl,H,l,t,xr,he',T,e1,hr2,bs,hfr,q⟩,E⟩:=W b [] rfl rfl trivial s;rw[←I]at E
 have Y:∀fr:Frame,fr.mode= .returning→fr.defers=dw bs→fr.kind= .deferred→fr.fn=g→fr.tmps=Q.tmps→
     ∃j y,Shut w.heap.size p j∧StepsIn (Machine.fenced P (FF none)) P (lone fr ({f with mode:=C}::cs) p) (lone {fr with defers:=[]} ({f with mode:=C}::cs) j)∧({fr with defers:=[]}:Frame).going P j (.returned y):=by
  intro fr h1 h2 h3 h4 h5;obtain⟨j,g1,g2⟩:=ky (P:=P) (F:=FF none) (n:=0) (cs:={f with mode:=C}::cs) bs fr p (by rw[h1];simp) h2 q.nd q.live w.heap.size q.low trivial s;obtain⟨y,hvv⟩:=z Q.tmps j;exact⟨j,y,g1,g2,h1,rfl,fn,by rw[←hf,←h4],by rw[←hvv,←h5]⟩
 have O:∀j,Shut w.heap.size p j→∀y:Value,∃vv' t,Ending.returned y= .returned vv'∧settle C= .returning∧Ext G w t j∧HR t B w0 I0 S'.heap j:=fun j m y=>by
  have hsB:Shut B p j:=⟨m.os,m.tape,m.output,m.size,m.oth,fun b hb=>m.low b (yP hb hr.bsz),m.cell⟩
  exact⟨y,t,rfl,J,e1.ends m,T▸hr2.shut hsB⟩
 have K:Q.defers=dw bs:=by rw[hfr.nod];exact yY _
 rcases he' with rfl|rfl
 ·obtain rfl:=xr.normal
  obtain⟨j,y,g1,g2,g3⟩:=Y {b.atR Q []with mode:= .returning} rfl K rfl rfl rfl;exact⟨.returned y,C,j,_,O j g1 y,StepsIn.trans (StepsIn.trans E (.one (fenced_calm (fr:=b.atR Q []) trivial (hlen▸s) rfl) (stepR_end rfl))) g2,rfl,rfl,g3⟩
 ·obtain rfl:=xr.ret
  obtain⟨todo,hs⟩:=E.1 rfl;obtain⟨j,y,g1,g2,g3⟩:=Y {b.atR Q todo with mode:= .returning} rfl K rfl rfl rfl;exact⟨.returned y,C,j,_,O j g1 y,StepsIn.trans hs g2,rfl,rfl,g3⟩
def hG(P:Program)(B:Nat)(w0:World)(I0:Nat→Nat→Prop)(G:Gh)(w:World)(y:oQ)(h':aa)(e:Ending)(b:World):Prop:=
 match y with
 | .ret c=>∃v a,e= .returned v∧Ext G w a b∧HR a B w0 I0 h' b∧Rep a b (dW c) v
 | .pan x=>∃v a,e= .panicked [{v,recovered:=false}]∧Ext G w a b∧HR a B w0 I0 h' b∧Rep a b x v
theorem l6{X:bD}{fn:Func}{G0:Gh}{w0:World}(r:w0.heap.size=X.s0)(hB:X.B≤X.s0)(C:X.dl=[]){e:au}{S':St}{I:Nat}{tk:List Nat}{y:oQ}{h':aa}{K:Nat}{t:List Nat}
    (l:cB X.P fn.results.toList (some (e,S',I,tk))=some (y,h',K,t)) {p:Gh} {g:World} {G:Exit} {h:Act} (s:XRep p g e G) (F:Ext G0 w0 p g) (O:db X p S' h g):
    bodyPostM (FF none) 0 X.P fn (hG X.P X.B X.w0 X.I0 G0 w0 y h') G h g:=by
 obtain⟨H,N,k,c⟩:=O;rw[C]at k
 have n:∀{R:Ending→World→Prop}{u:FrameMode},u≠ .run→(∀d,Shut X.s0 g d→LeavesInM (FF none) 0 X.P fn h.tmps R [] u d)→LeavesInM (FF none) 0 X.P fn h.tmps R h.defers u g:=fun M L=>by
  rw[k.nod];exact ce (B:=X.s0) M N g c.nd c.low c.live (fun d a _=>L d a)
 have i:∀j,eJ X.P S' fn.results.toList=some j→h'=S'.heap→y= .ret j→LeavesInM (FF none) 0 X.P fn h.tmps (hG X.P X.B X.w0 X.I0 G0 w0 y h') h.defers .returning g:=by
  rintro j m rfl rfl;refine n (by simp) (fun d a=> ?_);have f:Shut X.B g d:=⟨a.os,a.tape,a.output,a.size,a.oth,fun b E=>a.low b (yP E hB),a.cell⟩
  have o:=H.shut f;obtain⟨v,z,q⟩:=iD o (k.shut f) m;show ∃v,(results fn h.tmps).run X.P d= .ok v d∧hG X.P X.B X.w0 X.I0 G0 w0 (.ret j) S'.heap (.returned v) d;exact⟨v,z,v,p,rfl,F.ends (r.symm▸a),o,q⟩
 cases e with
 |normal=>
  obtain rfl:=s.normal;simp only[cB,xB,xC]at l;obtain⟨j,D,h2,w,J,Q⟩:=l;exact i j D w.symm h2.symm
 |ret=>
  obtain rfl:=s.ret;simp only[cB,xB,xC]at l;obtain⟨j,D,h2,w,J,Q⟩:=l;exact i j D w.symm h2.symm
 |panic x=>
  obtain⟨v,rfl,z⟩:=s.panic;simp only[cB,xA,xC]at l;obtain⟨rfl,rfl,rfl,rfl⟩:=l;refine n (by simp) (fun d a=> ?_);have f:Shut X.B g d:=⟨a.os,a.tape,a.output,a.size,a.oth,fun b E=>a.low b (yP E hB),a.cell⟩
  exact⟨v,p,rfl,F.ends (r.symm▸a),H.shut f,z.shut f⟩
 |exit id=>simp[cB]at l
theorem kz(hm:d4 P)(hn:bl P){ex:cA}(hex:d5 P ex){U:Nat}{fn:Func}{B:Nat}{w0:World}{I0:Nat→Nat→Prop}{G0:Gh}{w00:World}(hBs:B≤w00.heap.size):∀(c:Code)(t:Nat)(S:St)(y:oQ)(h':aa)(b2:Nat)(tk:List Nat),
    fM P ex U fn.ntmps fn.results.toList c t S=some (y,h',b2,tk)→(∀k,k∉tk→h' k=S.heap k)∧
    ∀G a w,Ext G0 w00 G w→db ⟨P,B,w0,I0,fn.ntmps,hm,none,w00.heap.size,[]⟩ G S a w→c.wpIn (FF none) 0 P (bodyPostM (FF none) 0 P fn (hG P B w0 I0 G0 w00 y h')) a w:=by
 intro c
 have plain:∀(c:Code)(t:Nat)(S:St)(y:oQ)(h':aa)(b2:Nat)(tk:List Nat),cB P fn.results.toList (ex U t fn.ntmps c S)=some (y,h',b2,tk)→(∀k,k∉tk→h' k=S.heap k)∧
     ∀G a w,Ext G0 w00 G w→db ⟨P,B,w0,I0,fn.ntmps,hm,none,w00.heap.size,[]⟩ G S a w→c.wpIn (FF none) 0 P (bodyPostM (FF none) 0 P fn (hG P B w0 I0 G0 w00 y h')) a w:=by
  intro c t S y h' b2 tk h;cases l:ex U t fn.ntmps c S with
  |none=>rw[l]at h;simp[cB]at h
  |some r=>
   obtain⟨e,S',b',F⟩:=r;rw[l]at h;obtain⟨q1,q2⟩:=hex _ _ _ _ _ _ _ _ _ l
   have s:h'=S'.heap∧∀k,k∉tk→k∉F:=by
    cases e with
    |normal=>simp only[cB,xB,xC]at h;obtain⟨rs,h1,h2,D,h4,W⟩:=h;exact⟨D.symm,fun k s l=>s (by rw[←W];exact x0 _ l)⟩
    |ret=>simp only[cB,xB,xC]at h;obtain⟨rs,h1,h2,D,h4,W⟩:=h;exact⟨D.symm,fun k s l=>s (by rw[←W];exact x0 _ l)⟩
    |panic x=>simp only[cB,xA,xC]at h;obtain⟨h2,D,h4,W⟩:=h;exact⟨D.symm,fun k s=>W▸s⟩
    |exit id=>simp[cB]at h
   refine⟨fun k hkk=>by rw[s.1];exact q2 k (s.2 k hkk),fun G a w e0 V=>wpIn_mono (q1 _ rfl rfl G a w V) ?_⟩;rintro ec Q O ⟨e',K,G',M,⟨rfl,rfl⟩,T,L⟩;exact(l6 (X:=⟨P,B,w0,I0,fn.ntmps,hm,none,w00.heap.size,[]⟩) rfl hBs rfl h M (e0.trans T) L)
 induction c with
 |seq x y _ ihy=>
  intro t S yw h' b2 tk h;simp only[fM]at h;split at h
  ·rename_i mv f Fx hdef
   split at h;case h_2=>cases h
   rename_i env1 hmv;split at h;case h_2=>cases h
   rename_i g caps hf;split at h;case h_2=>cases h
   rename_i e S2 b2' F l;split at h;case h_2=>cases h
   rename_i pv Y;split at h;case h_2=>cases h
   rename_i r hr;obtain⟨D,b3,tk3⟩:=r;simp only[xB,xC]at h;obtain⟨rs,hres,rfl,rfl,rfl,rfl⟩:=h;obtain⟨q1,q2⟩:=hex _ _ _ _ _ _ _ _ _ l;obtain⟨⟨hcb,d1⟩,d2⟩:=qJ hm hn hex hr
   refine⟨fun k s=>by
    simp only[xJ,yS]at s;exact(d2 k s.2.1).trans (q2 k s.1),fun G a w e0 V=> ?_⟩
   obtain⟨o,c,hop,hcal,rfl,hwp⟩:=tL hdef;obtain⟨R,bs,z,C⟩:=V;have z:=rF z R.maps.glob hmv;have hwp:=hwp P a w;generalize kw mv a=E at z hwp;have hnil:E.defers=dw bs:=by rw[z.nod];exact yY _
   obtain⟨vs,hfv,hvl,hcr⟩:∃vs:Array Value,E.eval f= .func (.func g) #[] vs∧vs.size=caps.length∧∀(i:Nat)(x:AV)(u:Value),caps[i]? =some x→vs[i]? =some u→Rep G w x u:=by
    have I:=z.opd R.maps.glob f;rw[hf]at I;generalize E.eval f=vf at I;cases I with
    |fn _ _ vs hl V=>exact⟨vs,rfl,hl,V⟩
   let d:Deferred:={target:= .fn (.func g) vs,args:=c.args.map E.eval}
   have hrun:(execOp E.eval o).run P w= .ok (.defer d) w:=by
    unfold execOp;rw[hop];simp only[resolve,hcal,hfv];simp[go_sem,d]
   refine wpIn_seq (hwp _ d hrun ?_);show y.wpIn (FF none) 0 P (bodyPostM (FF none) 0 P fn (hG P B w0 I0 G0 w00 (.ret rs) D)) {E with defers:=d::E.defers} w
   let X2:bD:=⟨P,B,w0,I0,fn.ntmps,hm,none,w.heap.size,d::dw bs⟩
   have hH2:db X2 G ⟨env1,S.heap⟩ {E with defers:=d::E.defers} w:=⟨R,[],⟨z.size,by show d::E.defers=dw [] ++(d::dw bs);rw[hnil];rfl,z.rep,z.out⟩,yE,fun _ h=>(by cases h),fun _ h=>(by cases h),fun _ h=>(by cases h),xO _⟩
   refine wpIn_mono (q1 X2 rfl rfl G _ w hH2) ?_;rintro ec Q O ⟨e',K,G',M,⟨rfl,rfl⟩,T,hr2,bs2,hfr2,n⟩;have hsz:w00.heap.size≤w.heap.size:=e0.size
   have J:∀u:FrameMode,u≠ .run→(match pv with|none=>u= .returning|some x=>∃v,u= .panicking [{v,recovered:=false}]∧Rep G' O x v)→
       LeavesInM (FF none) 0 P fn Q.tmps (hG P B w0 I0 G0 w00 (.ret rs) D) Q.defers u O:=by
    intro u hu H;rw[show Q.defers=dw bs2 ++(d::dw bs)from hfr2.nod];refine ce (B:=w.heap.size) hu bs2 O n.nd n.low n.live (fun w2 j hoth=> ?_);have Z:Shut B O w2:=⟨j.os,j.tape,j.output,j.size,j.oth,fun b hb=>j.low b (by omega),j.cell⟩
    have hs00:Shut w00.heap.size O w2:=⟨j.os,j.tape,j.output,j.size,j.oth,fun b hb=>j.low b (by omega),j.cell⟩
    have hinv:(invoke d.target d.args).run P w2= .ok (.enter g (c.args.map E.eval ++vs)) w2:=by
     have:=b9 hcb (c.args.map E.eval ++vs) w2;simpa [invoke,d]using this
    refine⟨hu, .inr ⟨fun x=>(by cases x), .func g,vs,g,c.args.map E.eval ++vs,rfl,hinv,fun _ _=>trivial, ?_⟩⟩
    have hcall:=d1 G' B w0 I0 w2 (c.args.map E.eval ++vs) u (hr2.shut Z) (by simp[hvl]) (fun i x v l N=>by
     have h0:Rep G w x v:=by
      rcases y9 i c.args.size with hlt|hge
      ·rw[xL (by simpa using hlt)]at l
       rw[yA (by simpa using hlt)]at N;simp only[xK,xX,xB]at l;simp only[yb,xB]at N;obtain⟨p,hp,rfl⟩:=l;obtain⟨q,hq,rfl⟩:=N;rw[hp]at hq;cases hq;exact z.opd R.maps.glob p
      ·rw[xN (by simpa using hge)]at l
       rw[Array.getElem?_append_right (by simpa using hge)]at N;simp only[xV,x5]at l;simp only[Array.size_map]at N;exact hcr _ x v l N
     exact(h0.mono T).shut Z) (by
      cases pv with
      |none=>exact H
      |some xv=>
       obtain⟨v,h1,h2⟩:=H;exact⟨v,h1,h2.shut Z⟩)
    refine hcall.mono ?_;rintro e3 u' w3 ⟨vv,G3,rfl,hset,e3,hr3⟩;show LeavesInM (FF none) 0 P fn Q.tmps (hG P B w0 I0 G0 w00 (.ret rs) D) (dw bs) (settle u') w3;rw[hset,←yY (dw bs)];refine ce (B:=w00.heap.size) (by simp) bs w3 C.nd C.low (fun b hb=> ?_) (fun w4 m _=> ?_)
    ·have l0:=C.live b hb
     have hlt:=(xG.1 l0).1
     have l1:O.heap[b]? =some (.deferred (some [])):=by
      obtain⟨o,h1,h2⟩:=T.kept b _ rfl l0;cases h2;exact h1
     have l2:w2.heap[b]? =some (.deferred (some [])):=by
      rw[hoth b (fun l=>by have:=n.low b l;have h2:X2.s0=w.heap.size:=rfl;omega)];exact l1
     obtain⟨o,h1,h2⟩:=e3.kept b _ rfl l2;cases h2;exact h1
    ·have hsB4:Shut B w3 w4:=⟨m.os,m.tape,m.output,m.size,m.oth,fun b hb=>m.low b (by omega),m.cell⟩
     have hr4:=hr3.shut hsB4;have hfr4:=((hfr2.shut Z).mono e3).shut hsB4;obtain⟨v,N,hret⟩:=iD (S:=⟨K.env,D⟩) hr4 hfr4 hres;show ∃v,(results fn Q.tmps).run P w4= .ok v w4∧hG P B w0 I0 G0 w00 (.ret rs) D (.returned v) w4;exact⟨v,N,v,G3,rfl,((((e0.trans T).ends hs00).trans e3).ends m),hr4,hret⟩
   cases e' with
   |normal=>obtain rfl:=M.normal;cases Y;exact J .returning (by simp) rfl
   |ret=>obtain rfl:=M.ret;cases Y;exact J .returning (by simp) rfl
   |panic x=>obtain⟨v,rfl,N⟩:=M.panic;cases Y;exact J _ (by simp) ⟨v,rfl,N⟩
   |exit id=>cases Y
  ·split at h
   ·rename_i S1 b1 tk1 l
    split at h;case h_2=>cases h
    rename_i r hr;obtain⟨r1,r2,r3,r4⟩:=r;simp only[xA,xC]at h;obtain⟨rfl,rfl,rfl,rfl⟩:=h;obtain⟨q1,q2⟩:=hex _ _ _ _ _ _ _ _ _ l;obtain⟨p1,p2⟩:=ihy _ _ _ _ _ _ hr
    refine⟨fun k s=>by
     simp only[xJ,yS]at s;exact(p1 k s.2).trans (q2 k s.1),fun G a w e0 V=>wpIn_seq (wpIn_mono (q1 _ rfl rfl G a w V) ?_)⟩
    rintro ec Q O ⟨e',K,G',M,⟨rfl,rfl⟩,T,L⟩;obtain rfl:=M.normal;exact p2 G' Q O (e0.trans T) L
   ·rename_i hne
    cases l:ex U t fn.ntmps x S with
    |none=>rw[l]at h;simp[cB]at h
    |some r=>
     obtain⟨e,S',b',F⟩:=r;rw[l]at h;obtain⟨q1,q2⟩:=hex _ _ _ _ _ _ _ _ _ l
     have s:h'=S'.heap∧∀k,k∉tk→k∉F:=by
      cases e with
      |normal=>exact absurd l (hne S' b' F)
      |ret=>simp only[cB,xB,xC]at h;obtain⟨rs,h1,h2,D,h4,W⟩:=h;exact⟨D.symm,fun k s l=>s (by rw[←W];exact x0 _ l)⟩
      |panic x=>simp only[cB,xA,xC]at h;obtain⟨h2,D,h4,W⟩:=h;exact⟨D.symm,fun k s=>W▸s⟩
      |exit id=>simp[cB]at h
     refine⟨fun k hkk=>by rw[s.1];exact q2 k (s.2 k hkk),fun G a w e0 V=>wpIn_seq (wpIn_mono (q1 _ rfl rfl G a w V) ?_)⟩;rintro ec Q O ⟨e',K,G',M,⟨rfl,rfl⟩,T,L⟩;have fin:=(l6 (X:=⟨P,B,w0,I0,fn.ntmps,hm,none,w00.heap.size,[]⟩) rfl hBs rfl h M (e0.trans T) L)
     cases e' with
     |normal=>exact absurd l (hne K b' F)
     |ret=>obtain rfl:=M.ret;exact fin
     |panic x=>obtain⟨v,rfl,N⟩:=M.panic;exact fin
     |exit id=>simp[cB]at h
 |_=>exact plain _
theorem cC(hm:d4 P)(q:bl P){t:cA}(hex:d5 P t){e g:Nat}{d:List AV}{h h':aa}{y:oQ}{r:Nat}{tk:List Nat}(f:eZ P t e g d h=some (y,h',r,tk)):
    (match y with| .ret v=>az P g d h v h'| .pan x=>eY P g d h x h')∧∀k,k∉tk→h' k=h k:=by
 unfold eZ at f;split at f
 ·cases f
 rename_i fn s;split at f
 ·cases f
 rename_i b z;split at f;case isFalse=>cases f
 rename_i C;have m:ch P g:=⟨fn,s,by rw[z];rfl,q.1 g fn s⟩
 have p:∀(G:Gh)(B:Nat)(w0:World)(I0:Nat→Nat→Prop)(w:World)(a:Array Value),HR G B w0 I0 h w→a.size=d.length→
     (∀(i:Nat)(x:AV)(u:Value),d[i]? =some x→a[i]? =some u→Rep G w x u)→Calls P g a w (hG P B w0 I0 G w y h'):=fun G B w0 I0 w a l o c=>by
  refine callsIn_wide.1 (callsIn_of_wp_marks (F:=FF none) (n:=0) s z trivial ?_);exact(kz hm q hex (B:=B) (w0:=w0) (I0:=I0) (G0:=G) (w00:=w) l.bsz b e _ y h' r tk f).2 G _ w (Ext.refl G w) (gq (hm:=hm) l o C c)
 have j:=(kz hm q hex (B:=0) (w0:=default) (I0:=fun _ _=>False) (G0:=⟨fun _ _=>False,fun _ _=>none,fun _=>0,fun _ _=>none⟩) (w00:=default) (yd _) b e _ y h' r tk f).1;refine⟨?_,j⟩;cases y with
 |ret v=>exact⟨m,fun G B w0 I0 w a l o c=>p G B w0 I0 w a l o c⟩
 |pan x=>exact⟨m,fun G B w0 I0 w a l o c=>p G B w0 I0 w a l o c⟩
theorem jh(hm:d4 P)(f:bl P){d:cA}(hex:d5 P d){b g:Nat}{a e:List AV}{h h':aa}{i:Nat}{tk:List Nat}(c:n8 P d b g a h=some (e,h',i,tk)):az P g a h e h'∧∀k,k∉tk→h' k=h k:=by
 unfold n8 at c;split at c
 ·rename_i m h2 n l j
  simp only[xA,xC]at c;obtain⟨rfl,rfl,rfl,rfl⟩:=c;exact cC hm f hex j
 ·cases c
theorem kA{g:Nat}(h:jT g=true):ap.once=some g:=by
 unfold jT at h;split at h
 ·rename_i b a;rw[a,xn h]
 ·cases h
theorem kU(hm:d4 P)(u:bl P){w:cA}(hex:d5 P w){l g:Nat}{d:List AV}{h h':aa}{C:Nat}{tk:List Nat}(F:jT g=true)(b:jS P w l d h=some (h',C,tk)):az P g d h [] h'∧∀k,k∉tk→h' k=h k:=by
 have o:=u.2 g (kA F);unfold jS at b;split at b;case h_2=>cases b
 rename_i a f j;split at b;case h_2=>cases b
 rename_i k v i es n m E;obtain⟨B,y⟩:=o h a f j k v i es n m E;split at b
 ·rename_i e
  split at b
  ·rename_i s
   split at b
   ·rename_i r D
    split at b
    ·rename_i I L J q K N p
     split at b
     ·rename_i t
      obtain⟨rfl,rfl,rfl,rfl,rfl⟩:=t;simp only[xA,xC]at b;obtain⟨rfl,rfl,rfl⟩:=b;obtain⟨G,z,O,M⟩:=r;obtain⟨c1,x⟩:=jh hm u hex D;refine⟨y e s G z q c1 p,fun H c=> ?_⟩;simp only[xR,yS]at c;exact(ab _ _ c.1).trans ((x H c.2).trans (ab _ _ c.1))
     ·cases b
    ·cases b
   ·cases b
  ·cases b
 ·rename_i e
  simp only[xA,xC]at b;obtain⟨rfl,rfl,rfl⟩:=b;exact⟨B e,fun _ _=>rfl⟩
theorem od(hm:d4 P){w:cA}(hex:d5 P w){l k v:Nat}{c:List AV}{h:aa}{r:Bool×aa×Nat×List Nat}(a:qF w l k v c h=some r):o7 P k v c h [.d (.bool r.1)] r.2.1∧∀f,f∉r.2.2.2→r.2.1 f=h f:=by
 unfold qF at a;split at a;case h_2=>cases a
 rename_i G N env Z Fx W n;split at a;case isFalse=>cases a
 rename_i I;split at a;case h_2=>cases a
 rename_i t i;split at a;case h_2=>cases a
 rename_i S1 U J K;split at a;case h_2=>cases a
 rename_i S N1 T L D B g;split at a;case isFalse=>cases a
 rename_i m;split at a;case h_2=>cases a
 rename_i q F;obtain⟨e,Q,V,C⟩:=q;split at a;case h_2=>cases a
 rename_i Y R e2 M H y E z j O;split at a;case isFalse=>cases a
 rename_i s;simp only[xA]at a;subst a;have x:=hex _ _ _ _ _ _ _ _ _ K;have u:=hex _ _ _ _ _ _ _ _ _ F;refine⟨kv hm I n i (fun X o p=>x.1 X o p) m g (fun X o p=>u.1 X o p) s j O,fun f b=> ?_⟩;simp only[xR,xJ,yS]at b;exact(ab _ _ b.1).trans ((u.2 f b.2.2).trans ((ab _ _ b.1).trans (x.2 f b.2.1)))
def hJ(d:cA):Prop:=∀b a N c S e S' f tk,d b a N c S=some (e,S',f,tk)→n0∉tk→
 (∀k,k∉tk→S'.heap k=S.heap k)∧∀h2:aa,(∀k,gm tk k→h2 k=S.heap k)→d b a N c ⟨S.env,h2⟩=some (e,⟨S'.env,eK tk S'.heap h2⟩,f,tk)
theorem eS(a b:aa):eK [] a b=b:=by
 funext k;simp[eK]
theorem tM{tk:List Nat}{k:Nat}:k∈tJ tk↔w5 k∈tk:=by
 unfold tJ w5;rw[List.mem_filterMap];constructor
 ·rintro⟨j,b,h⟩
  cases a:Nat.ble 9223372036854775808 j with
  |false=>rw[a]at h;cases h
  |true=>
   rw[a]at h;simp only[yJ,xA]at h;have:=Nat.le_of_ble_eq_true a;subst h;rw[Nat.sub_add_cancel this];exact b
 ·intro h
  refine⟨_,h, ?_⟩;have a:Nat.ble 9223372036854775808 (k+9223372036854775808)=true:=Nat.ble_eq_true_of_le (by omega);rw[a];simp
theorem eC:∀(tk:List Nat)(b h2:aa),ae h2 (dL tk b)=eK tk b h2
 |[],b,h2=>(eS b h2).symm
 |a::r,b,h2=>by
  show ae (aq h2 a (b a)) (dL r b)=_;rw[eC r b];funext k;unfold eK;by_cases c:k∈r
  ·rw[xW c,xW (xt _ c)]
  ·rw[xi c]
   by_cases d:k=a
   ·subst d;rw[ad,xW (xx ..)]
   ·rw[ab _ _ d,xi (by simp[d,c])]
theorem ji{f d:aa}{e c:List Nat}(g:∀k,k∉c→d k=f k)(h2:aa):eK c d (eK e f h2)=eK (e ++c) d h2:=by
 funext k;unfold eK;by_cases a:k∈c
 ·rw[xW a,xW (xc _ a)]
 ·rw[xi a]
  by_cases b:k∈e
  ·rw[xW b,xW (x0 _ b),g k a]
  ·rw[xi b,xi (by simp[a,b])]
theorem pm{h d h2:aa}{c e:List Nat}(g:∀k,k∉c→d k=h k)(f:∀k,gm (c ++e) k→h2 k=h k):eK c d h2=eK (c ++e) d h2:=by
 funext k;unfold eK;by_cases b:k∈c
 ·rw[xW b,xW (x0 _ b)]
 ·rw[xi b]
  by_cases a:k∈e
  ·rw[xW (xc _ a),g k b,f k (.inl (xc _ a))]
  ·rw[xi (by simp[a,b])]
theorem dD{h h2:aa}{a b:List Nat}(c:∀k,gm (a ++b) k→h2 k=h k):∀k,gm a k→h2 k=h k:=fun k d=>c k (d.imp (x0 _) (x0 _))
theorem cY{h a h2:aa}{c d:List Nat}(f:∀k,k∉c→a k=h k)(e:∀k,gm (c ++d) k→h2 k=h k):∀k,gm d k→eK c a h2 k=a k:=fun k g=>by
 unfold eK;split
 ·rfl
 ·rename_i b
  rw[f k b,e k (g.imp (xc _) (xc _))]
theorem gu{a b:List Nat}(h:n0∉a ++b):n0∉a∧n0∉b:=by simpa [xJ,yS]using h
theorem sI{ty:TypeId}{a:AV}{h:aa}{out:Out}(b:cV P ty a h=some out):∀k∈out.rd,∃v i e sz,a= .ptr k v i e sz:=by
 intro k d;unfold cV at b;split at b
 ·simp only[xB]at b
  obtain⟨r,c,rfl⟩:=b;unfold d7 at c;repeat' split at c
  all_goals first
   |(cases c;done)
   |(simp only[xA]at c;subst c;simp at d;done)
   |(simp only[xA]at c;subst c;simp at d;subst d;exact⟨_,_,_,_,rfl⟩)
 ·repeat' split at b
  all_goals first
   |(cases b;done)
   |(simp only[xA]at b;subst b;simp at d;done)
   |(simp only[xB]at b;obtain⟨_,_,rfl⟩:=b;simp at d;subst d;exact⟨_,_,_,_,rfl⟩)
 ·cases b
theorem fA:∀{g:List ResultVar}{env:Nat→AV}{h h2:aa}{l:List AV},eJ P ⟨env,h⟩ g=some l→(∀k,w5 k∈gn env g→h2 k=h k)→eJ P ⟨env,h2⟩ g=some l
 |[],_,_,_,_,a,_=>a
 | .tmp t::r,env,h,h2,l,a,d=>by
  simp only[eJ,xB]at a ⊢;obtain⟨x,b,rfl⟩:=a;exact⟨x,fA b d,rfl⟩
 | .cell t ty::r,env,h,h2,l,a,d=>by
  simp only[eJ]at a ⊢;split at a
  ·rename_i o xs m j
   have c:∀k,w5 k∈gn env r→w5 k∈gn env (.cell t ty::r):=fun k b=>by
    simp only[gn];split
    ·exact xt _ b
    ·exact b
   have n:=i9 (h':=h2) m (fun k b=>by
    obtain⟨v,i,e,sz,p⟩:=sI m k b;refine d k ?_;have f:env t= .ptr k v i e sz:=p;simp only[gn,f];exact xx ..)
   rw[n,fA j (fun k b=>d k (c k b))];exact a
  ·cases a
theorem qM{o:cA}(t:hJ o){f g:Nat}{e:List AV}{x:Option AV}{h h':aa}{w:Nat}{tk:List Nat}(j:n0∉tk)(a:mY P o f g e x h=some (h',w,tk)):
    (∀k,k∉tk→h' k=h k)∧∀h2,(∀k,gm tk k→h2 k=h k)→mY P o f g e x h2=some (eK tk h' h2,w,tk):=by
 unfold mY at a;split at a
 ·cases a
 rename_i fn u;split at a;case h_2=>cases a
 rename_i r c z;split at a;case h_2=>cases a
 rename_i d C v;split at a;case isFalse=>cases a
 rename_i b;split at a;case h_2=>cases a
 rename_i y l;split at a
 ·rename_i S' B p m
  simp only[xA,xC]at a;obtain⟨rfl,rfl,rfl⟩:=a;obtain⟨q,s⟩:=t _ _ _ _ _ _ _ _ _ m j;refine⟨q,fun h2 n=> ?_⟩;have i:=s h2 n;unfold mY;simp only[u,z,v,xW b,l];simp only at i;rw[i]
 ·rename_i S' B p m
  simp only[xA,xC]at a;obtain⟨rfl,rfl,rfl⟩:=a;obtain⟨q,s⟩:=t _ _ _ _ _ _ _ _ _ m j;refine⟨q,fun h2 n=> ?_⟩;have i:=s h2 n;unfold mY;simp only[u,z,v,xW b,l];simp only at i;rw[i]
 ·cases a
theorem l7{n:cA}(D:hJ n){f b N:Nat}{g:List ResultVar}{c:Code}{S:St}{y:oQ}{h':aa}{E:Nat}{tk:List Nat}(i:n0∉tk)(h:cB P g (n f b N c S)=some (y,h',E,tk)):
    (∀k,k∉tk→h' k=S.heap k)∧∀h2,(∀k,gm tk k→h2 k=S.heap k)→cB P g (n f b N c ⟨S.env,h2⟩)=some (y,eK tk h' h2,E,tk):=by
 cases j:n f b N c S with
 |none=>rw[j]at h;simp[cB]at h
 |some r=>
  obtain⟨e,S',F,a⟩:=r;rw[j]at h
  have m:∀(l:List AV),eJ P S' g=some l→n0∉a ++gn S'.env g→(∀k,k∉a ++gn S'.env g→S'.heap k=S.heap k)∧
      ∀h2,(∀k,gm (a ++gn S'.env g) k→h2 k=S.heap k)→n f b N c ⟨S.env,h2⟩=some (e,⟨S'.env,eK a S'.heap h2⟩,F,a)∧eJ P ⟨S'.env,eK a S'.heap h2⟩ g=some l∧eK a S'.heap h2=eK (a ++gn S'.env g) S'.heap h2:=by
   intro l w o;obtain⟨p,B⟩:=D _ _ _ _ _ _ _ _ _ j (gu o).1;refine⟨fun k d=>p k (fun j=>d (x0 _ j)),fun h2 d=>⟨B h2 (dD d),fA (h:=S'.heap) w (fun k s=> ?_),pm p d⟩⟩;exact cY p d k (.inr s)
  cases e with
  |normal=>
   simp only[cB,xB,xC]at h;obtain⟨l,z,rfl,rfl,rfl,rfl⟩:=h;obtain⟨t,u⟩:=m l z i;refine⟨t,fun h2 d=> ?_⟩;obtain⟨v,q,C⟩:=u h2 d;rw[v];simp only[cB,q,xP];rw[C]
  |ret=>
   simp only[cB,xB,xC]at h;obtain⟨l,z,rfl,rfl,rfl,rfl⟩:=h;obtain⟨t,u⟩:=m l z i;refine⟨t,fun h2 d=> ?_⟩;obtain⟨v,q,C⟩:=u h2 d;rw[v];simp only[cB,q,xP];rw[C]
  |panic x=>
   simp only[cB,xA,xC]at h;obtain⟨rfl,rfl,rfl,rfl⟩:=h;obtain⟨p,B⟩:=D _ _ _ _ _ _ _ _ _ j i;refine⟨p,fun h2 d=> ?_⟩;rw[B h2 d];rfl
  |exit id=>simp[cB]at h
theorem pn{G:cA}(t:hJ G){s N:Nat}{T:List ResultVar}:∀(c:Code)(b:Nat)(S:St)(y:oQ)(h':aa)(E:Nat)(tk:List Nat),n0∉tk→
    fM P G s N T c b S=some (y,h',E,tk)→(∀k,k∉tk→h' k=S.heap k)∧∀h2,(∀k,gm tk k→h2 k=S.heap k)→fM P G s N T c b ⟨S.env,h2⟩=some (y,eK tk h' h2,E,tk):=by
 intro c;induction c with
 |seq x y _ R=>
  intro b S yw h' E tk d h;simp only[fM]at h;split at h
  ·rename_i mv f asg j
   split at h;case h_2=>cases h
   rename_i env1 V;split at h;case h_2=>cases h
   rename_i g W hf;split at h;case h_2=>cases h
   rename_i e X b2' i n;split at h;case h_2=>cases h
   rename_i pv I;split at h;case h_2=>cases h
   rename_i r M;obtain⟨J,b3,o⟩:=r;simp only[xB,xC]at h;obtain⟨l,u,rfl,rfl,rfl,rfl⟩:=h;obtain⟨H,L⟩:=gu d;obtain⟨n3,n4⟩:=gu L;obtain⟨D,U⟩:=t _ _ _ _ _ _ _ _ _ n H;obtain⟨Z,d2⟩:=qM t n3 M
   have q:∀k,k∉i ++o→J k=S.heap k:=fun k a=>by
    simp only[xJ,yS]at a;exact(Z k a.2).trans (D k a.1)
   refine⟨fun k a=>q k (fun n=>a (by rw[←x8];exact x0 _ n)),fun h2 a=> ?_⟩;have O:=dD a;have p:∀k,gm ((i ++o) ++gn X.env T) k→h2 k=S.heap k:=by rw[x8];exact a
   have z:=dD p;have F:=U h2 O;have v:=d2 (eK i X.heap h2) (cY D z);rw[ji Z]at v;have g3:=fA (h:=J) (h2:=eK (i ++o) J h2) u (fun k K=>cY q p k (.inr K));simp only at F;simp only[fM,j,V,hf,F,I];rw[v];simp only[g3,xP];rw[pm q p,x8]
  ·rename_i j
   split at h
   ·rename_i S1 b1 Q n
    split at h;case h_2=>cases h
    rename_i r M;obtain⟨r1,r2,r3,r4⟩:=r;simp only[xA,xC]at h;obtain⟨rfl,rfl,rfl,rfl⟩:=h;obtain⟨H,L⟩:=gu d;obtain⟨D,U⟩:=t _ _ _ _ _ _ _ _ _ n H;obtain⟨Y,p2⟩:=R _ _ _ _ _ _ L M
    refine⟨fun k a=>by
     simp only[xJ,yS]at a;exact(Y k a.2).trans (D k a.1),fun h2 a=> ?_⟩
    have F:=U h2 (dD a);have v:=p2 (eK Q S1.heap h2) (cY D a);rw[ji Y]at v;simp only[fM,j,F];rw[v]
   ·rename_i w
    obtain⟨o1,o2⟩:=l7 t d h;refine⟨o1,fun h2 a=> ?_⟩;have g:=o2 h2 a;simp only[fM,j];split
    ·rename_i S3 b3 o he
     cases n:G s b N x S with
     |none=>rw[n]at h;simp[cB]at h
     |some r=>
      obtain⟨e,S',b',i⟩:=r;have m:=n;rw[n]at h
      have C:n0∉i∧∀k,gm i k→gm tk k:=by
       cases e with
       |normal=>exact absurd m (w _ _ _)
       |ret=>simp only[cB,xB,xC]at h;obtain⟨l,_,_,_,_,rfl⟩:=h;exact⟨(gu d).1,fun k B=>B.imp (x0 _) (x0 _)⟩
       |panic x=>simp only[cB,xA,xC]at h;obtain⟨_,_,_,rfl⟩:=h;exact⟨d,fun k B=>B⟩
       |exit id=>simp[cB]at h
      have:=(t _ _ _ _ _ _ _ _ _ m C.1).2 h2 (fun k B=>a k (C.2 k B));rw[he]at this;simp only[xA,xC]at this;rw[←this.1]at m;exact absurd m (w _ _ _)
    ·exact g
 |_=>intro b S y h' E tk d h;exact l7 t d h
theorem fC{f:cA}(m:hJ f){c g:Nat}{a:List AV}{h h':aa}{y:oQ}{e:Nat}{tk:List Nat}(i:n0∉tk)(d:eZ P f c g a h=some (y,h',e,tk)):
    (∀k,k∉tk→h' k=h k)∧∀h2,(∀k,gm tk k→h2 k=h k)→eZ P f c g a h2=some (y,eK tk h' h2,e,tk):=by
 unfold eZ at d ⊢;split at d
 ·cases d
 split at d
 ·cases d
 split at d;case isFalse=>cases d
 rename_i fn o _ b p j;obtain⟨l,e⟩:=pn m _ _ _ _ _ _ _ i d;refine⟨l,fun h2 n=> ?_⟩;simp only[o,p,xW j];exact e h2 n
def StepR.tk:StepR→List Nat
 | .go _ _ _ tk=>tk
 | .pan _ _ _ tk=>tk
def StepR.heap:StepR→aa
 | .go S _ _ _=>S.heap
 | .pan _ h _ _=>h
def StepR.at(h2:aa):StepR→StepR
 | .go S a b tk=> .go ⟨S.env,eK tk S.heap h2⟩ a b tk
 | .pan x h b tk=> .pan x (eK tk h h2) b tk
def OpsR.tk:OpsR→List Nat
 | .go _ _ _ tk=>tk
 | .pan _ _ _ _ _ tk=>tk
def OpsR.heap:OpsR→aa
 | .go S _ _ _=>S.heap
 | .pan _ _ _ h _ _=>h
def OpsR.at(h2:aa):OpsR→OpsR
 | .go S a b tk=> .go ⟨S.env,eK tk S.heap h2⟩ a b tk
 | .pan p fts x h b tk=> .pan p fts x (eK tk h h2) b tk
theorem kB{G:cA}(K:hJ G){q d N i:Nat}{z:Array Oper}{o:Oper}{S:St}{r:StepR}(n:n0∉r.tk)(h:ez P obm hp A G q d N z i o S=some r):
    (∀k,k∉r.tk→r.heap k=S.heap k)∧∀h2,(∀k,gm r.tk k→h2 k=S.heap k)→ez P obm hp A G q d N z i o ⟨S.env,h2⟩=some (r.at h2):=by
 unfold ez at h;split at h
 ·rename_i s
  split at h
  ·rename_i g L f
   split at h
   ·rename_i e
    split at h
    ·simp only[xB]at h
     obtain⟨env,_,rfl⟩:=h;exact absurd (xx ..) n
    ·cases h
   rename_i e;split at h
   ·rename_i ds p
    split at h
    ·rename_i T F
     simp only[xB]at h;obtain⟨env,c,rfl⟩:=h;refine⟨fun _ _=>rfl,fun h2 j=> ?_⟩;unfold ez;simp only[s,f,e,yQ,ya,p,F,c,xP,StepR.at,eS]
    ·cases h
   ·rename_i p
    split at h
    ·rename_i R O Q C D
     simp only[xB]at h;obtain⟨env,c,rfl⟩:=h;obtain⟨H,I⟩:=fC K (tk:=C) n D;refine⟨H,fun h2 j=> ?_⟩;have g:=I h2 j;unfold ez;simp only[s,f,e,yQ,ya,p,g,c,xP,StepR.at]
    ·rename_i R O Q C D
     simp only[xA]at h;subst h;obtain⟨H,I⟩:=fC K (tk:=C) n D;refine⟨H,fun h2 j=> ?_⟩;have g:=I h2 j;unfold ez;simp only[s,f,e,yQ,ya,p,g,StepR.at]
    ·cases h
  ·rename_i f
   split at h
   ·split at h
    ·simp only[xB]at h
     obtain⟨env,_,rfl⟩:=h;exact absurd (xx ..) n
    ·cases h
   rename_i x;split at h
   ·rename_i out l
    split at h;case h_2=>cases h
    rename_i w;simp only[xB]at h;obtain⟨env,c,rfl⟩:=h;refine⟨fun k j=>a8 _ _ (fun M=>j (xc _ M)),fun h2 j=> ?_⟩;have g:=lR (h':=h2) l (fun k B=>j k (.inr (x0 _ (y7 B))));unfold ez;simp only[s,f,x,g,w,c,xP,StepR.at];congr 3;funext k;unfold eK;by_cases a:k∈out.wr.map (·.1)
    ·rw[xW (xc _ a)]
     exact gM _ _ _ a
    ·rw[a8 _ _ a]
     split
     ·rename_i b
      rw[a8 _ _ a];exact j k (.inl b)
     ·rfl
   ·rename_i l
    have v:∃u t y,o.op= .panic u∧opd S.env u= .iv t y∧r= .pan (.iv t y) S.heap d []:=by
     unfold pi at h;split at h
     ·rename_i u m
      split at h
      ·rename_i t y E
       simp only[xA]at h;exact⟨u,t,y,m,E,h.symm⟩
      ·cases h
     ·cases h
    obtain⟨u,t,y,m,E,rfl⟩:=v;refine⟨fun _ _=>rfl,fun h2 j=> ?_⟩;unfold ez
    have J:aX P {obm:=fun _=>obm q (o.dst.getD 0),base:=fun _=>d} i o (opd S.env) h2=none:=by
     unfold aX;rw[m]
    simp only[s,f,x,J,pi,m,E,StepR.at,eS]
 ·rename_i s
  simp only[xB]at h;obtain⟨env,c,rfl⟩:=h;refine⟨fun _ _=>rfl,fun h2 j=> ?_⟩;unfold ez;simp only[s,c,xP,StepR.at,eS]
 ·cases h
theorem iE{s:cA}(y:hJ s){j N:Nat}{m:Array Oper}:∀(l:List Oper)(i c:Nat)(S:St)(r:OpsR),n0∉r.tk→fP P obm hp A s j N m l i c S=some r→
    (∀k,k∉r.tk→r.heap k=S.heap k)∧∀h2,(∀k,gm r.tk k→h2 k=S.heap k)→fP P obm hp A s j N m l i c ⟨S.env,h2⟩=some (r.at h2)
 |[],i,c,S,r,_,h=>by
  simp only[fP,xA]at h;subst h;exact⟨fun _ _=>rfl,fun h2 _=>by simp only[fP,OpsR.at,eS]⟩
 |o::l,i,c,S,r,q,h=>by
  simp only[fP]at h;split at h
  ·cases h
  ·rename_i x w b tk F
   simp only[xA]at h;subst h;obtain⟨v,I⟩:=kB y (r:= .pan x w b tk) q F;refine⟨v,fun h2 e=> ?_⟩;have g:=I h2 e;simp only[fP,g,StepR.at,OpsR.at]
  ·rename_i S1 L u a F
   have t:∀d:OpsR,fP P obm hp A s j N m l (i+1) u S1=some d→n0∉a ++d.tk→(∀k,k∉a ++d.tk→d.heap k=S.heap k)∧
       ∀h2,(∀k,gm (a ++d.tk) k→h2 k=S.heap k)→ez P obm hp A s j c N m i o ⟨S.env,h2⟩=some (.go ⟨S1.env,eK a S1.heap h2⟩ L u a)∧fP P obm hp A s j N m l (i+1) u ⟨S1.env,eK a S1.heap h2⟩=some (d.at (eK a S1.heap h2))∧eK d.tk d.heap (eK a S1.heap h2)=eK (a ++d.tk) d.heap h2:=by
    intro d E z;obtain⟨O,R⟩:=gu z;obtain⟨v,I⟩:=kB y (r:= .go S1 L u a) O F;obtain⟨M,Q⟩:=iE y l (i+1) u S1 d R E;refine⟨fun k e=> ?_,fun h2 e=>⟨I h2 (dD e),Q _ (cY v e),ji M h2⟩⟩;simp only[xJ,yS]at e;exact(M k e.2).trans (v k e.1)
   split at h
   ·cases h
   ·rename_i K fts T f H
    simp only[xA]at h;subst h;obtain⟨C,D⟩:=t _ H q;refine⟨C,fun h2 e=> ?_⟩;obtain⟨G,B,J⟩:=D h2 e;have n:eK f K.heap (eK a S1.heap h2)=eK (a ++f) K.heap h2:=J;simp only[fP,G,B,OpsR.at,n]
   ·rename_i p fts x w T f H
    simp only[xA]at h;subst h;obtain⟨C,D⟩:=t _ H q;refine⟨C,fun h2 e=> ?_⟩;obtain⟨G,B,J⟩:=D h2 e;have n:eK f w (eK a S1.heap h2)=eK (a ++f) w h2:=J;simp only[fP,G,B,OpsR.at,n]
theorem gw:∀n,hJ (aY P obm hp A n)
 |0=>fun L D N c S e S' w tk h=>by simp[aY]at h
 |n+1=>fun L D N c S e S' w tk h d=>by
  have o:=gw n;cases c with
  |region id u m=>
   simp only[aY]at h ⊢;split at h
   ·rename_i S1 fts t f O
    have C:S'=S1∧e= .normal∧tk=f∧w=t∧(m=false∨lS u fts=true):=by
     split at h
     ·simp only[xA,xC]at h
      obtain⟨rfl,rfl,rfl,rfl⟩:=h;exact⟨rfl,rfl,rfl,rfl, .inl rfl⟩
     ·split at h
      ·rename_i q
       simp only[xA,xC]at h;obtain⟨rfl,rfl,rfl,rfl⟩:=h;exact⟨rfl,rfl,rfl,rfl, .inr q⟩
      ·cases h
    obtain⟨rfl,rfl,rfl,rfl,J⟩:=C;obtain⟨K,G⟩:=iE o _ _ _ _ (.go S' fts w tk) d O;refine⟨K,fun h2 a=> ?_⟩;have g:=G h2 a;rw[g];simp only[OpsR.at];cases m with
    |false=>rfl
    |true=>rw[J.resolve_left (by simp)]
   ·rename_i p fts x s t f O
    have C:S'=⟨gl u S.env,s⟩∧e= .panic x∧tk=f∧w=t∧(m=false∨jQ u fts p=true):=by
     split at h
     ·simp only[xA,xC]at h
      obtain⟨rfl,rfl,rfl,rfl⟩:=h;exact⟨rfl,rfl,rfl,rfl, .inl rfl⟩
     ·split at h
      ·rename_i q
       simp only[xA,xC]at h;obtain⟨rfl,rfl,rfl,rfl⟩:=h;exact⟨rfl,rfl,rfl,rfl, .inr q⟩
      ·cases h
    obtain⟨rfl,rfl,rfl,rfl,J⟩:=C;obtain⟨K,G⟩:=iE o _ _ _ _ (.pan p fts x s w tk) d O;refine⟨K,fun h2 a=> ?_⟩;have g:=G h2 a;rw[g];simp only[OpsR.at];cases m with
    |false=>rfl
    |true=>rw[J.resolve_left (by simp)]
   ·cases h
  |seq x y=>
   simp only[aY]at h ⊢;split at h
   ·rename_i S1 t f s
    split at h
    ·rename_i V R T H v
     simp only[xA,xC]at h;obtain⟨rfl,rfl,rfl,rfl⟩:=h;obtain⟨E,I⟩:=gu d;obtain⟨j,l⟩:=o _ _ _ _ _ _ _ _ _ s E;obtain⟨c1,F⟩:=o _ _ _ _ _ _ _ _ _ v I
     refine⟨fun k a=>by
      simp only[xJ,yS]at a;exact(c1 k a.2).trans (j k a.1),fun h2 a=> ?_⟩
     have M:=l h2 (dD a);have B:=F (eK f S1.heap h2) (cY j a);rw[ji c1]at B;simp only[M,B]
    ·cases h
   ·rename_i r
    obtain⟨j,l⟩:=o _ _ _ _ _ _ _ _ _ h d;refine⟨j,fun h2 a=> ?_⟩;rw[l h2 a];cases e with
    |normal=>exact absurd h (r _ _ _)
    |_=>rfl
  |block id x=>
   simp only[aY]at h ⊢;split at h
   ·rename_i i S1 t f s
    have C:S'=S1∧tk=f∧w=t∧e=(if i=id then .normal else .exit i):=by
     split at h
     ·rename_i z;rw[xW z];simp only[xA,xC]at h;obtain⟨rfl,rfl,rfl,rfl⟩:=h;exact⟨rfl,rfl,rfl,rfl⟩
     ·rename_i z;rw[xi z];simp only[xA,xC]at h;obtain⟨rfl,rfl,rfl,rfl⟩:=h;exact⟨rfl,rfl,rfl,rfl⟩
    obtain⟨rfl,rfl,rfl,rfl⟩:=C;obtain⟨j,l⟩:=o _ _ _ _ _ _ _ _ _ s d;refine⟨j,fun h2 a=> ?_⟩;rw[l h2 a];by_cases z:i=id<;>simp[z]
   ·rename_i r
    obtain⟨j,l⟩:=o _ _ _ _ _ _ _ _ _ h d;refine⟨j,fun h2 a=> ?_⟩;rw[l h2 a];cases e with
    |exit i=>exact absurd h (r _ _ _ _)
    |_=>rfl
  |loop x=>
   simp only[aY]at h ⊢;split at h
   ·rename_i S1 t f s
    split at h
    ·rename_i V R T H v
     simp only[xA,xC]at h;obtain⟨rfl,rfl,rfl,rfl⟩:=h;obtain⟨E,I⟩:=gu d;obtain⟨j,l⟩:=o _ _ _ _ _ _ _ _ _ s E;obtain⟨c1,F⟩:=o _ _ _ _ _ _ _ _ _ v I
     refine⟨fun k a=>by
      simp only[xJ,yS]at a;exact(c1 k a.2).trans (j k a.1),fun h2 a=> ?_⟩
     have M:=l h2 (dD a);have B:=F (eK f S1.heap h2) (cY j a);rw[ji c1]at B;simp only[M,B]
    ·cases h
   ·rename_i r
    obtain⟨j,l⟩:=o _ _ _ _ _ _ _ _ _ h d;refine⟨j,fun h2 a=> ?_⟩;rw[l h2 a];cases e with
    |normal=>exact absurd h (r _ _ _)
    |_=>rfl
  |skip=>simp only[aY,xA,xC]at h;obtain⟨rfl,rfl,rfl,rfl⟩:=h;exact⟨fun _ _=>rfl,fun h2 _=>by simp only[aY,eS]⟩
  |exit i=>simp only[aY,xA,xC]at h;obtain⟨rfl,rfl,rfl,rfl⟩:=h;exact⟨fun _ _=>rfl,fun h2 _=>by simp only[aY,eS]⟩
  |ret=>simp only[aY,xA,xC]at h;obtain⟨rfl,rfl,rfl,rfl⟩:=h;exact⟨fun _ _=>rfl,fun h2 _=>by simp only[aY,eS]⟩
  |cond c x y=>
   simp only[aY]at h ⊢;split at h
   ·rename_i b Q
    cases b with
    |true=>
     obtain⟨j,l⟩:=o _ _ _ _ _ _ _ _ _ h d;exact⟨j,fun h2 a=>by simp only[Q];exact l h2 a⟩
    |false=>
     obtain⟨j,l⟩:=o _ _ _ _ _ _ _ _ _ h d;exact⟨j,fun h2 a=>by simp only[Q];exact l h2 a⟩
   ·cases h
  |rangeFunc g X U W=>
   simp only[aY]at h;split at h;case h_2=>cases h
   split at h;case h_2=>cases h
   split at h;case h_2=>cases h
   split at h;case isFalse=>cases h
   split at h;case h_2=>cases h
   simp only[xA,xC]at h;obtain⟨_,_,_,rfl⟩:=h;exact absurd (xx ..) d
  |_=>simp[aY]at h
theorem l8(hm:d4 P)(O:bl P){X:cA}(hex:d5 P X)(U:hJ X){C a N i:Nat}{L:Array Oper}{o:Oper}{S S':St}{Z:Foot}{b2:Nat}{tk:List Nat}(h:ez P obm hp A X C a N L i o S=some (.go S' Z b2 tk)):
    (∃r:gO,∀cfg:d0,cfg.ret i=r.ret→cfg.hc i=r.hc→cfg.obm i=obm C (o.dst.getD 0)→cfg.base i=r.base→∃ob,aV P cfg N L i o S=some (S',ob,Z)∧dg P ob)∧∀k,k∉tk→S'.heap k=S.heap k:=by
 unfold ez at h;split at h
 ·rename_i t
  split at h
  ·rename_i g j R
   obtain⟨e,I⟩:=gp R;split at h
   ·rename_i M
    split at h
    ·rename_i r F
     simp only[xB,StepR.go.injEq]at h;obtain⟨env,b,rfl,rfl,rfl,rfl⟩:=h;obtain⟨w,s,r3⟩:=r;obtain⟨c1,p⟩:=kU hm O hex M F;refine⟨⟨⟨[],some (.heap [] w r3),a⟩,fun cfg u h2 x B=>⟨[.heap g j S.heap [] w], ?_, ?_⟩⟩,fun k n=>p k (fun z=>n (xt _ z))⟩
     ·unfold aV
      rw[t];simp only[h2,e,dW,b,xP];rw[xW p]
     ·intro c l
      simp only[xH]at l;subst l;exact c1
    ·cases h
   split at h
   ·rename_i ds E
    split at h
    ·rename_i Q W
     simp only[xB,StepR.go.injEq]at h;obtain⟨env,b,rfl,rfl,rfl,rfl⟩:=h
     have T:kF j=some ds:=by
      split at E
      ·cases E
      ·exact E
     refine⟨⟨⟨Q,none,a⟩,fun cfg u h2 x B=>⟨[.data (g,ds,Q)], ?_, ?_⟩⟩,fun _ _=>rfl⟩
     ·unfold aV
      rw[t];simp only[h2]
      have m:aX P cfg i o (opd S.env) S.heap=some {val:=fc Q,ob:=[(g,ds,Q)]}:=by
       unfold bV at e;split at e
       ·rename_i c V
        split at e
        ·rename_i f K
         split at e
         ·rename_i g' Y hf
          simp only[xA,xC]at e;obtain⟨rfl,rfl⟩:=e;simp only[aX,V,aK,K,hf,I,dz,T,u]
         ·cases e
        ·cases e
       ·cases e
      simp only[m,b,xP,ae,xI,xg]
     ·intro c l
      simp only[xH]at l;subst l;exact oc hm O hex W
    ·cases h
   ·split at h
    ·rename_i w s r3 q F
     simp only[xB,StepR.go.injEq]at h;obtain⟨env,b,rfl,rfl,rfl,rfl⟩:=h;obtain⟨c1,p⟩:=cC hm O hex F
     replace c1:az P g j S.heap w s:=c1
     by_cases D:q.contains n0=true
     ·refine⟨⟨⟨[],some (.heap w s q),a⟩,fun cfg u h2 x B=>⟨[.heap g j S.heap w s], ?_, ?_⟩⟩,p⟩
      ·unfold aV lZ
       rw[t,xW D];simp only[h2,e,b,xP];rw[xW p]
      ·intro c l
       simp only[xH]at l;subst l;exact c1
     ·have J:n0∉q:=fun z=>D (by simpa using z)
      obtain⟨l1,l2⟩:=fC U J F;refine⟨⟨⟨[],some (.exact (q ++tJ q) S.heap w q s),a⟩,fun cfg u h2 x B=>⟨[.exact g j (q ++tJ q) S.heap w q s], ?_, ?_⟩⟩,p⟩
      ·unfold aV lZ
       rw[t,xi D];simp only[h2,e,b,xP];rw[xW (fun _ _=>trivial)]
       have:ae S.heap (dL q s)=s:=by
        rw[eC];funext k;unfold eK;split
        ·rfl
        ·rename_i n;exact(p k n).symm
       rw[this]
      ·intro c l
       simp only[xH]at l;subst l;intro h5 h6
       have h7:=l2 h5 (fun k n=>h6 k (by
        rcases n with n|n
        ·exact x0 _ n
        ·exact xc _ (tM.2 n)))
       rw[eC];exact(cC hm O hex h7).1
    ·cases h
    ·cases h
  ·split at h
   ·rename_i y H
    split at h
    ·rename_i r F
     simp only[xB,StepR.go.injEq]at h;obtain⟨env,b,rfl,rfl,rfl,rfl⟩:=h;obtain⟨k,v,j⟩:=y;obtain⟨c1,p⟩:=od hm hex F;refine⟨⟨⟨[],some (.heap [.d (.bool r.1)] r.2.1 r.2.2.2),a⟩,fun cfg u h2 x B=>⟨[.yield k v j S.heap [.d (.bool r.1)] r.2.1], ?_, ?_⟩⟩,fun k n=>p k (fun z=>n (xt _ z))⟩
     ·unfold aV
      rw[t];simp only[h2,jg H,H,dW,b,xP];rw[xW p]
     ·intro c l
      simp only[xH]at l;subst l;exact c1
    ·cases h
   split at h
   ·rename_i out m
    split at h;case h_2=>cases h
    rename_i G;simp only[xB,StepR.go.injEq]at h;obtain⟨env,b,rfl,rfl,rfl,rfl⟩:=h;refine⟨⟨⟨[],none,a⟩,fun cfg u h2 x B=>⟨out.ob.map .data, ?_, ?_⟩⟩,fun k n=>a8 _ _ (fun z=>n (xc _ z))⟩
    ·unfold aV
     rw[t];simp only[h2];rw[pk (cfg':=cfg) (cfg:={obm:=fun _=>obm C (o.dst.getD 0),base:=fun _=>a}) u x B,m];simp only[b,xP]
    ·rw[G]
     intro c l;cases l
   ·unfold pi at h
    split at h
    ·split at h<;>cases h
    ·cases h
 ·rename_i t
  simp only[xB,StepR.go.injEq]at h;obtain⟨env,b,rfl,rfl,rfl,rfl⟩:=h;refine⟨⟨⟨[],none,a⟩,fun cfg u h2 x B=>⟨[], ?_,fun c l=>by cases l⟩⟩,fun _ _=>rfl⟩;unfold aV;rw[t];simp only[b,xP]
 ·cases h
theorem sJ(hm:d4 P)(n:bl P){m:cA}(hex:d5 P m){f b N i:Nat}{c:Array Oper}{o:Oper}{S:St}{x:AV}{h':aa}{q:Nat}{tk:List Nat}(h:ez P obm hp A m f b N c i o S=some (.pan x h' q tk)):
    bK c o S.env=some true∧sF P o S x h'∧∀k,k∉tk→h' k=S.heap k:=by
 unfold ez at h;split at h
 ·rename_i s
  refine⟨s, ?_⟩;split at h
  ·rename_i g a d
   obtain⟨e,l⟩:=gp d;split at h
   ·split at h
    ·simp only[xB]at h
     obtain⟨env,_,h⟩:=h;cases h
    ·cases h
   split at h
   ·split at h
    ·simp only[xB]at h
     obtain⟨env,_,h⟩:=h;cases h
    ·cases h
   ·split at h
    ·simp only[xB]at h
     obtain⟨env,_,h⟩:=h;cases h
    ·rename_i C w B z r
     simp only[xA,StepR.pan.injEq]at h;obtain⟨rfl,rfl,rfl,rfl⟩:=h;obtain⟨c1,p⟩:=cC hm n hex r;exact⟨.inr ⟨g,a,e,c1⟩,p⟩
    ·cases h
  ·split at h
   ·split at h
    ·simp only[xB]at h
     obtain⟨env,_,h⟩:=h;cases h
    ·cases h
   split at h
   ·split at h
    case h_2=>cases h
    simp only[xB]at h;obtain⟨env,_,h⟩:=h;cases h
   ·unfold pi at h
    split at h
    ·rename_i u j
     split at h
     ·rename_i t y v
      simp only[xA,StepR.pan.injEq]at h;obtain⟨rfl,rfl,rfl,rfl⟩:=h;exact⟨.inl ⟨u,t,y,j,v,rfl,rfl⟩,fun _ _=>rfl⟩
     ·cases h
    ·cases h
 ·simp only[xB]at h
  obtain⟨env,_,h⟩:=h;cases h
 ·cases h
theorem l9{cfg:d0}{N:Nat}{a:Array Oper}:∀(l:List Nat)(S S':St)(ob:List Obl)(fts:List Foot),bP P cfg N a l S=some (S',ob,fts)→∀t,(iA a).contains t=false→S'.env t=S.env t
 |[],S,S',ob,fts,h,t,_=>by
  simp only[bP,xA,xC]at h;rw[h.1]
 |i::l,S,S',ob,fts,h,t,e=>by
  simp only[bP]at h;split at h
  ·cases h
  ·rename_i o f
   split at h
   ·cases h
   ·rename_i j b
    split at h
    ·cases h
    ·rename_i k d
     simp only[xA,xC]at h;obtain⟨rfl,rfl,rfl⟩:=h;obtain⟨v,g,c,_⟩:=cp b;rw[l9 l _ _ _ _ d t e,eQ c (jc f e)]
theorem po(hm:d4 P)(v:bl P){t:cA}(hex:d5 P t)(f:hJ t){e N:Nat}{a:Array Oper}:∀(l:List Oper)(k b:Nat)(S S':St)(fts:List Foot)(p:Nat)(tk:List Nat),(∀j,l[j]? =a[k+j]?)→
    fP P obm hp A t e N a l k b S=some (.go S' fts p tk)→
    (∃T:Nat→gO,∀cfg:d0,(∀j,k≤j→cfg.ret j=(T j).ret∧cfg.hc j=(T j).hc∧cfg.base j=(T j).base)→(∀j,cfg.obm j=obm e (((a[j]?).bind (·.dst)).getD 0))→
     ∃ob,bP P cfg N a (List.range' k l.length) S=some (S',ob,fts)∧dg P ob)∧∀k,k∉tk→S'.heap k=S.heap k
 |[],k,b,S,S',fts,p,tk,_,h=>by
  simp only[fP,xA,OpsR.go.injEq]at h;obtain⟨rfl,rfl,_⟩:=h;exact⟨⟨fun _=>⟨[],none,0⟩,fun cfg _ _=>⟨[],rfl,fun c q=>by cases q⟩⟩,fun _ _=>rfl⟩
 |o::r,k,b,S,S',fts,p,tk,w,h=>by
  have x:a[k]? =some o:=by simpa using (w 0).symm
  simp only[fP]at h;split at h
  ·cases h
  ·cases h
  ·rename_i M R C V L
   split at h
   ·cases h
   ·rename_i H E J D O
    simp only[xA,OpsR.go.injEq]at h;obtain⟨rfl,rfl,rfl,rfl⟩:=h;obtain⟨⟨K,I⟩,m⟩:=l8 hm v hex f L;obtain⟨⟨T,z⟩,g⟩:=po hm v hex f r (k+1) C M H E J D (fun j=>by have:=w (j+1);simpa [yK,Nat.add_comm 1 j]using this) O
    refine⟨⟨fun j=>if j=k then K else T j,fun cfg y h2=> ?_⟩,fun s n=>by
     simp only[xJ,yS]at n;exact(g s n.2).trans (m s n.1)⟩
    have d:=y k (xO k);simp only[xz]at d;obtain⟨u,F,G⟩:=I cfg d.1 d.2.1 (by rw[h2 k,x];rfl) d.2.2;obtain⟨i,Q,B⟩:=z cfg (fun j U=>by have:=y j (by omega);simp only[xi (show ¬j=k by omega)]at this;exact this) h2;refine⟨u ++i, ?_,fun c q=>(xJ.1 q).elim (G c) (B c)⟩;simp only[x6,y5,bP,x,F,Q]
   ·cases h
theorem pq(hm:d4 P)(m:bl P){D:cA}(hex:d5 P D)(g:hJ D){f N:Nat}{a:Array Oper}:∀(l:List Oper)(k b:Nat)(S:St)(p:Nat)(fts:List Foot)(x:AV)(h':aa)(w:Nat)(tk:List Nat),(∀j,l[j]? =a[k+j]?)→
    fP P obm hp A D f N a l k b S=some (.pan p fts x h' w tk)→k≤p∧
    (∃T:Nat→gO,∀cfg:d0,(∀j,k≤j→cfg.ret j=(T j).ret∧cfg.hc j=(T j).hc∧cfg.base j=(T j).base)→(∀j,cfg.obm j=obm f (((a[j]?).bind (·.dst)).getD 0))→
     ∃e ob,bP P cfg N a (List.range' k (p-k)) S=some (e,ob,fts)∧dg P ob∧∃o,a[p]? =some o∧bK a o e.env=some true∧sF P o e x h')∧∀k,k∉tk→h' k=S.heap k
 |[],k,b,S,p,fts,x,h',w,tk,_,h=>by
  simp only[fP,xA]at h;cases h
 |o::r,k,b,S,p,fts,x,h',w,tk,F,h=>by
  have y:a[k]? =some o:=by simpa using (F 0).symm
  simp only[fP]at h;split at h
  ·cases h
  ·rename_i G i b1 Z z
   simp only[xA,OpsR.pan.injEq]at h;obtain⟨rfl,rfl,rfl,rfl,rfl,rfl⟩:=h;obtain⟨I,L,Y⟩:=sJ hm m hex z;refine⟨xO _,⟨fun _=>⟨[],none,0⟩,fun cfg _ _=>⟨S,[], ?_,fun c C=>by (cases C),o,y,I,L⟩⟩,Y⟩;simp[bP]
  ·rename_i a1 a2 K a4 z
   split at h
   ·cases h
   ·cases h
   ·rename_i B O G i W M hb
    simp only[xA,OpsR.pan.injEq]at h;obtain⟨rfl,rfl,rfl,rfl,rfl,rfl⟩:=h;obtain⟨⟨X,V⟩,u⟩:=l8 hm m hex g z;obtain⟨Q,⟨T,H⟩,n⟩:=pq hm m hex g r (k+1) K a1 B O G i W M (fun j=>by have:=F (j+1);simpa [yK,Nat.add_comm 1 j]using this) hb
    refine⟨by omega,⟨fun j=>if j=k then X else T j,fun cfg i h2=> ?_⟩,fun s v=>by
     simp only[xJ,yS]at v;exact(n s v.2).trans (u s v.1)⟩
    have d:=i k (xO k);simp only[xz]at d;obtain⟨E,R,U⟩:=V cfg d.1 d.2.1 (by rw[h2 k,y];rfl) d.2.2;obtain⟨e,t,e2,J,q⟩:=H cfg (fun j hj=>by have:=i j (by omega);simp only[xi (show ¬j=k by omega)]at this;exact this) h2;refine⟨e,E ++t, ?_,fun c C=>(xJ.1 C).elim (U c) (J c),q⟩;rw[show B-k=(B-(k+1))+1 by omega,y5];simp only[bP,y,R,e2]
def qO(P:Program)(f:cA):Prop:=∀d a N c S e S' h tk,f d a N (.loop c) S=some (e,S',h,tk)→(∀X:bD,X.P=P→X.N=N→LW X c S fun g b=>g=e∧b=S')∧∀k,k∉tk→S'.heap k=S.heap k
theorem pr{n:Nat}(m:d5 P (aY P obm hp A n))(g:qO P (aY P obm hp A n)):qO P (aY P obm hp A (n+1)):=fun q o N x S e S' t tk h=>by
 simp only[aY]at h;split at h
 ·rename_i S1 u r s
  split at h
  ·rename_i y i v p h2
   simp only[xA,xC]at h;obtain⟨rfl,rfl,rfl,rfl⟩:=h;have a:=m _ _ _ _ _ _ _ _ _ s;have j:=g _ _ _ _ _ _ _ _ _ h2;refine⟨fun X b c=>eB ((a.1 X b c).mono ?_),fun k d=> ?_⟩
   ·rintro l w ⟨rfl,rfl⟩
    exact j.1 X b c
   ·simp only[xJ,yS]at d
    exact(j.2 k d.2).trans (a.2 k d.1)
  ·cases h
 ·rename_i f
  have a:=m _ _ _ _ _ _ _ _ _ h;refine⟨fun X b c=>eB ((a.1 X b c).mono ?_),a.2⟩;rintro l i ⟨rfl,rfl⟩;cases l with
  |normal=>exact absurd h (f i _ _)
  |_=>exact⟨rfl,rfl⟩
theorem jj(hm:d4 P)(O:bl P):∀n,d5 P (aY P obm hp A n)∧qO P (aY P obm hp A n)
 |0=>⟨fun D s N c S e S' b' tk h=>by simp[aY]at h,fun D s N c S e S' b' tk h=>by simp[aY]at h⟩
 |n+1=>by
  obtain⟨w,Y⟩:=jj hm O n;have hl:=pr w Y;refine⟨fun D s N c S e S' b' tk h=> ?_,hl⟩;cases c with
  |region id q z=>
   simp only[aY]at h;split at h
   ·rename_i S1 fts L u M
    have m:S'=S1∧e= .normal∧tk=u∧(z=false∨lS q fts=true):=by
     split at h
     ·simp only[xA,xC]at h
      obtain⟨rfl,rfl,_,rfl⟩:=h;exact⟨rfl,rfl,rfl, .inl rfl⟩
     ·split at h
      ·rename_i v
       simp only[xA,xC]at h;obtain⟨rfl,rfl,_,rfl⟩:=h;exact⟨rfl,rfl,rfl, .inr v⟩
      ·cases h
    obtain⟨rfl,rfl,rfl,U⟩:=m;obtain⟨⟨T,Q⟩,E⟩:=po hm O w (gw n) q.toList 0 s S S' fts L tk (fun j=>by simp) M;refine⟨fun X d f=> ?_,E⟩;obtain⟨ob,a,C⟩:=Q {ret:=fun j=>(T j).ret,hc:=fun j=>(T j).hc,obm:=fun j=>obm D (((q[j]?).bind (·.dst)).getD 0),base:=fun j=>(T j).base} (fun j _=>⟨rfl,rfl,rfl⟩) (fun j=>rfl);rw[x5,←ye]at a;subst d;subst f;cases z with
    |false=>exact m9 a C ⟨rfl,rfl⟩
    |true=>exact hA a (U.resolve_left (by simp)) C ⟨rfl,rfl⟩
   ·rename_i p fts x G L u M
    have m:S'=⟨gl q S.env,G⟩∧e= .panic x∧tk=u∧(z=false∨jQ q fts p=true):=by
     split at h
     ·simp only[xA,xC]at h
      obtain⟨rfl,rfl,_,rfl⟩:=h;exact⟨rfl,rfl,rfl, .inl rfl⟩
     ·split at h
      ·rename_i v
       simp only[xA,xC]at h;obtain⟨rfl,rfl,_,rfl⟩:=h;exact⟨rfl,rfl,rfl, .inr v⟩
      ·cases h
    obtain⟨rfl,rfl,rfl,U⟩:=m;obtain⟨-,⟨T,Q⟩,E⟩:=pq hm O w (gw n) q.toList 0 s S p fts x G L tk (fun j=>by simp) M;refine⟨fun X d f=> ?_,E⟩;obtain⟨Sp,ob,a,C,o,ho,hw,I⟩:=Q {ret:=fun j=>(T j).ret,hc:=fun j=>(T j).hc,obm:=fun j=>obm D (((q[j]?).bind (·.dst)).getD 0),base:=fun j=>(T j).base} (fun j _=>⟨rfl,rfl,rfl⟩) (fun j=>rfl);rw[Nat.sub_zero]at a;subst d;subst f;have hL:jd X.P q p S.env x G Sp:=⟨⟨o,ho,hw,I⟩,fun t ht=>l9 _ _ _ _ _ a t ht⟩
    exact hD ho a C hL U ⟨rfl,rfl⟩
   ·cases h
  |seq x y=>
   simp only[aY]at h;split at h
   ·rename_i S1 L u G
    split at h
    ·rename_i e2 H b2 tk2 h2
     simp only[xA,xC]at h;obtain⟨rfl,rfl,rfl,rfl⟩:=h;have l:=w _ _ _ _ _ _ _ _ _ G;have a2:=w _ _ _ _ _ _ _ _ _ h2;refine⟨fun X d f=>cd ((l.1 X d f).mono ?_),fun k B=> ?_⟩
     ·rintro K S3 ⟨rfl,rfl⟩
      exact a2.1 X d f
     ·simp only[xJ,yS]at B
      exact(a2.2 k B.2).trans (l.2 k B.1)
    ·cases h
   ·rename_i F
    have l:=w _ _ _ _ _ _ _ _ _ h;refine⟨fun X d f=>cd ((l.1 X d f).mono ?_),l.2⟩;rintro K H ⟨rfl,rfl⟩;cases K with
    |normal=>exact absurd h (F H _ _)
    |_=>exact⟨rfl,rfl⟩
  |block id x=>
   simp only[aY]at h;split at h
   ·rename_i i S1 L u G
    have hh:S'=S1∧tk=u∧e=(if i=id then .normal else .exit i):=by
     split at h
     ·rename_i J;rw[xW J];simp only[xA,xC]at h;obtain⟨rfl,rfl,_,rfl⟩:=h;exact⟨rfl,rfl,rfl⟩
     ·rename_i J;rw[xi J];simp only[xA,xC]at h;obtain⟨rfl,rfl,_,rfl⟩:=h;exact⟨rfl,rfl,rfl⟩
    obtain⟨rfl,rfl,rfl⟩:=hh;have l:=w _ _ _ _ _ _ _ _ _ G;refine⟨fun X d f=>ey ((l.1 X d f).mono ?_),l.2⟩;rintro K H ⟨rfl,rfl⟩;simp only[lU];by_cases J:i=id<;>simp[J]
   ·rename_i F
    have l:=w _ _ _ _ _ _ _ _ _ h;refine⟨fun X d f=>ey ((l.1 X d f).mono ?_),l.2⟩;rintro K H ⟨rfl,rfl⟩;cases K with
    |exit i=>exact absurd h (F i H _ _)
    |_=>exact⟨rfl,rfl⟩
  |loop x=>
   have l:=hl _ _ _ _ _ _ _ _ _ h;exact⟨fun X d f=>(l.1 X d f).aw,l.2⟩
  |skip=>simp only[aY,xA,xC]at h;obtain⟨rfl,rfl,_⟩:=h;exact⟨fun X _ _=>je ⟨rfl,rfl⟩,fun _ _=>rfl⟩
  |exit i=>simp only[aY,xA,xC]at h;obtain⟨rfl,rfl,_⟩:=h;exact⟨fun X _ _=>k4 ⟨rfl,rfl⟩,fun _ _=>rfl⟩
  |ret=>simp only[aY,xA,xC]at h;obtain⟨rfl,rfl,_⟩:=h;exact⟨fun X _ _=>tF ⟨rfl,rfl⟩,fun _ _=>rfl⟩
  |cond c x y=>
   simp only[aY]at h;split at h
   ·rename_i b hb
    cases b with
    |true=>
     have l:=w _ _ _ _ _ _ _ _ _ h;exact⟨fun X d f=>dM hb (fun _=>l.1 X d f) (fun R=>by cases R),l.2⟩
    |false=>
     have l:=w _ _ _ _ _ _ _ _ _ h;exact⟨fun X d f=>dM hb (fun R=>by cases R) (fun _=>l.1 X d f),l.2⟩
   ·cases h
  |rangeFunc g ps Fx bd=>
   simp only[aY]at h;split at h;case h_2=>cases h
   rename_i gf Z hg;split at h;case h_2=>cases h
   rename_i r M;split at h;case h_2=>cases h
   rename_i f2 N2 env2 ps2 as2 bd2 st V;split at h;case isFalse=>cases h
   rename_i B;split at h;case h_2=>cases h
   rename_i e' W;simp only[xA,xC]at h;obtain⟨rfl,rfl,_,rfl⟩:=h;obtain⟨c1,c2⟩:=jh hm O w M;refine⟨fun X d f=> ?_,fun k B=> ?_⟩
   ·subst d;subst f
    exact jf hg (nc _ _) c1 B V (nf W)
   ·simp only[xR,yS]at B
    exact(ab _ _ B.2.1).trans ((c2 k B.2.2).trans (ab _ _ B.2.1))
  |_=>simp[aY]at h
theorem pu(hm:d4 P)(a:bl P)(n:Nat):d5 P (aY P obm hp A n):=(jj hm a n).1
end
end Go.Avm
namespace Go.Avm
variable[ap]
def zw(P:Program):Bool:=P.funcs.all fun fn=> !(fn.name== "runtime.NumGoroutine")
theorem tN{P:Program}(h:zw P=true)(a:nZ P):bl P:=⟨fun g fn b=>by
 have:=Array.all_eq_true_iff_forall_mem.1 h fn (Array.mem_of_getElem? b);simpa using this,a⟩
end Go.Avm
namespace Go.Avm
open Go.ChangeShapes Go.WideShapes Go.ChangeAt Go.RowKit
variable[ap]
theorem mZ{P:Program}{f:Nat}{ds:List D}(hp:dt P f ds [.bool true]){w:World}{I:Nat→Nat→Prop}{a:Array Value}(p:Globs I w)(k:∀b o,I b o→b<w.heap.size)(n:a.size=ds.length)
    (c:∀(i:Nat)(x:D)(u:Value),ds[i]? =some x→a[i]? =some u→DRep I w x u):
    Calls P f a w fun e g=>e= .returned (.bool true)∧Below w.heap.size w g:=by
 refine(hp.2 w I a k n c p).mono ?_;rintro e g ⟨v,I',rfl,m,_,_,_,d⟩;rcases d with ⟨x,h,l⟩|⟨j,_⟩
 ·simp only[List.cons.injEq,yp]at h
  subst h;cases l;exact⟨rfl,m⟩
 ·simp at j
section
variable{H:Type}{enc:TypeId×Value→H}{P:Program}
theorem hK(i:laidOutB P=true){W k:World}(l:Below W.heap.size W k):∀{c:List TypeId}{vs:List Value}{ds:List (DataW H)}{p:List MemPlace},(∀t∈c,P.readableRec t=true∧t<P.types.size)→
    DataW.TrodAll enc P W 0 (fun _=>true) true c vs ds p→(∀x∈p,x.block<W.heap.size)→DataW.TrodAll enc P k 0 (fun b=>decide (b<W.heap.size)) true c vs ds p
 |[],vs,ds,p,_,h,_=>by
  obtain⟨rfl,rfl,rfl⟩:=trodAll_nil h;exact trodAll_mk0
 |t::c,vs,ds,p,j,h,a=>by
  obtain⟨v,n,d,q,r,s,rfl,rfl,rfl,m,h2⟩:=trodAll_cons h;obtain⟨g,f⟩:=j t (by simp);exact trodAll_cons_mk (Below.trod i g f m l (fun x e=>a x (by simp[e]))) (hK i l (fun t o=>j t (by simp[o])) h2 (fun x e=>a x (by simp[e])))
theorem tO{f:Func}{s:ChangeSpec}{W v:World}{d:Array Value}{ds z:List (DataW H)}{a:List MemPlace}{tb:TypeId}(y:laidOutB P=true)(u:s.vars=[])(o:s.fn H ds={results:=[.lit (.bool true)],args:=ds})
    (c:f.resultTypes.toList=[tb]) (g:P.underlying tb=some .bool) (e:∀t∈f.params.toList,P.readableRec t=true∧t<P.types.size)
    (n:DataW.Whole enc P f.params.toList s.vars false W d.toList ds z a) (w:Below W.heap.size W v):s.post enc P f false true false false W d (.bool true) v:=by
 have j:∀x∈a,x.block<W.heap.size:=fun x l=>by simpa using n.lt x l
 have m:=n;obtain⟨p,q,A,r,k,_,_⟩:=n;rw[u]at r;obtain⟨rfl,rfl⟩:=trodVars_none r;subst k;have b:s.fn H (ds ++[])={results:=[.lit (.bool true)],args:=ds}:=by rw[yY];exact o
 refine⟨ds,[],p ++[],[],p,[],m, ?_, ?_, ?_, ?_,fun h=>by cases h⟩
 ·rw[b,c]
  have i:f.resultTypes.size=1:=by rw[←x5,c];rfl
  rw[i];exact trodAll_mk1 (shut_bool g true)
 ·rw[b]
  exact hK y w e A (fun x l=>j x (by simp[l]))
 ·rw[b,u]
  rfl
 ·exact w.frame _
end
end Go.Avm
