/-
  The abstract machine, part O: whole runs on abstract states, calls and all; what such a run says of the program.
-/
import Derived.Test.YtcjiafanhlhdlaaGreatDoorG04
import Derived.RecoverIn
import Derived.ProofKit
import Derived.OpenShut
import Derived.Carry
set_option linter.unusedVariables false
set_option linter.unusedSimpArgs false
set_option linter.unusedSectionVars false
namespace Go.Avm
open Go.RowKit
variable[aJ]
def ga(args:List AV):Nat→AV:=fun t=>(args[t]?).getD .junk
def iZ(P:Program)(S:St):List ResultVar→Option (List AV)
 |[]=>some []
 | .tmp t::r=>(iZ P S r).map (S.env t:: ·)
 | .cell t ty::r=>match fq P ty (S.env t) S.heap,iZ P S r with
  |some o,some l=>some (o.val::l)
  |_,_=>none
def ld(h:ab)(a:AV):Option (Nat×Nat×Nat×List AV×Int×Int):=
 match a with
 | .ptr k v i off _=>if off=0 then match (h k).ob with
     |some (.arr sz es)=>if sz=1∧(h k).ver=v then match es[i]?,es[i+1]? with
         |some (.d (.int .u32 n)),some (.d (.int .i32 m))=>some (k,v,i,es,n,m)
         |_,_=>none
      else none
     |_=>none
  else none
 |_=>none
def sx(h:ab)(k v i:Nat)(es:List AV):ab:=aM h k ⟨v,some (.arr 1 (es.set (i+1) (.d (.int .i32 1))))⟩
def sy(h:ab)(k v i:Nat)(es:List AV):ab:=aM h k ⟨v,some (.arr 1 ((es.set i (.d (.int .u32 1))).set (i+1) (.d (.int .i32 0))))⟩
def Ec(P:Program)(g:Nat):Prop:=∀(h:ab)(a:AV)(f:Nat)(caps:List AV)(k v i:Nat)(es:List AV)(n m:Int),ld h a=some (k,v,i,es,n,m)→
 (n≠0→ay P g [a, .fn f caps] h [] h)∧
 (n=0→m=0→∀(rs:List AV)(h2:ab)(es2:List AV),ay P f caps (sx h k v i es) rs h2→ld h2 a=some (k,v,i,es2,0,1)→ay P g [a, .fn f caps] h [] (sy h2 k v i es2))
def wb(P:Program):Prop:=∀g,aJ.once=some g→Ec P g
abbrev eU:=Nat→Nat→Nat→Code→St→Option (aG×St×Nat×List Nat)
def wc(P:Program)(ex:eU)(g:Nat)(ds:List D):Option (List D):=
 match P.funcs[g]? with
 |none=>none
 |some fn=>match fn.body with
  |none=>none
  |some b=>if ds.length≤fn.ntmps then match ex g 0 fn.ntmps b (ji ds)with
      |some (.normal,S',_,_)=>mF P S' fn.results.toList
      |some (.ret,S',_,_)=>mF P S' fn.results.toList
      |_=>none
   else none
def JT(k:Nat):Nat:=k+9223372036854775808
def wd:Nat:=18446744073709551615
def Ed(tk:List Nat):List Nat:=tk.filterMap fun k=>bif Nat.ble 9223372036854775808 k then some (k-9223372036854775808)else none
def lf(tk:List Nat)(k:Nat):Prop:=k∈tk∨JT k∈tk
def i6(tk:List Nat)(a b:ab):ab:=fun k=>if k∈tk then a k else b k
def lg(env:Nat→AV):List ResultVar→List Nat
 |[]=>[]
 | .tmp _::r=>lg env r
 | .cell t _::r=>match env t with
  | .ptr k _ _ _ _=>JT k::lg env r
  |_=>lg env r
inductive xo where
 |ret (rs:List AV)
 |pan (x:AV)
def eK(P:Program)(rs:List ResultVar):Option (aG×St×Nat×List Nat)→Option (xo×ab×Nat×List Nat)
 |some (.normal,S',b',tk)=>(iZ P S' rs).map fun l=>(.ret l,S'.heap,b',tk ++lg S'.env rs)
 |some (.ret,S',b',tk)=>(iZ P S' rs).map fun l=>(.ret l,S'.heap,b',tk ++lg S'.env rs)
 |some (.panic x,S',b',tk)=>some (.pan x,S'.heap,b',tk)
 |_=>none
def qW:Code→Option (Operand×List Operand)
 | .region _ ops false=>match ops.toList with
  |[o]=>match o.guard,o.dst,o.op with
   |none,none, .defer c=>match c.callee with
    | .value f=>some (f,c.args.toList)
    |_=>none
   |_,_,_=>none
  |_=>none
 |_=>none
def lX:Code→Option Nat
 | .region _ ops false=>match ops.toList with
  |[o]=>match o.guard,o.dst,o.op with
   |none,some d, .call c=>match c.callee with
    | .builtin .recover=>some d
    |_=>none
   |_,_,_=>none
  |_=>none
 |_=>none
def uk(P:Program)(ex:eU)(base:Nat)(g:Nat)(args:List AV)(x:Option AV)(h:ab):Option (ab×Nat×List Nat):=
 match P.funcs[g]? with
 |none=>none
 |some fn=>match fn.body with
  |some (.seq r c)=>match lX r with
   |some d=>if args.length≤fn.ntmps∧d<fn.ntmps∧fn.results.isEmpty=true then match ex g base fn.ntmps c ⟨aM (ga args) d (x.getD (.d .nili)),h⟩with
       |some (.normal,S',b',tk)=>some (S'.heap,b',tk)
       |some (.ret,S',b',tk)=>some (S'.heap,b',tk)
       |_=>none
    else none
   |none=>none
  |_=>none
def JU:aG→Option (Option AV)
 | .normal| .ret=>some none
 | .panic x=>some (some x)
 |_=>none
def kz(P:Program)(ex:eU)(fno N:Nat)(rs:List ResultVar):Code→Nat→St→Option (xo×ab×Nat×List Nat)
 | .seq x y,base,S=>match qW x with
  |some (f,Ua)=>match opd S.env f with
   | .fn g caps=>match ex fno base N y S with
    |some (e,S2,b2,tk)=>match JU e with
     |some pv=>match uk P ex b2 g (Ua.map (opd S.env) ++caps) pv S2.heap with
      |some r=>(iZ P ⟨S2.env,r.1⟩ rs).map fun l=>(.ret l,r.1,r.2.1,tk ++(r.2.2 ++lg S2.env rs))
      |none=>none
     |none=>none
    |none=>none
   |_=>none
  |none=>match ex fno base N x S with
   |some (.normal,S',b',tk)=>match kz P ex fno N rs y b' S' with
    |some r=>some (r.1,r.2.1,r.2.2.1,tk ++r.2.2.2)
    |none=>none
   |r=>eK P rs r
 |c,base,S=>eK P rs (ex fno base N c S)
def j6(P:Program)(ex:eU)(base:Nat)(g:Nat)(args:List AV)(h:ab):Option (xo×ab×Nat×List Nat):=
 match P.funcs[g]? with
 |none=>none
 |some fn=>match fn.body with
  |none=>none
  |some b=>if args.length≤fn.ntmps then kz P ex g fn.ntmps fn.results.toList b base ⟨ga args,h⟩else none
def we(P:Program)(ex:eU)(base:Nat)(g:Nat)(args:List AV)(h:ab):Option (List AV×ab×Nat×List Nat):=
 match j6 P ex base g args h with
 |some (.ret rs,h',b',tk)=>some (rs,h',b',tk)
 |_=>none
def o9(P:Program)(ex:eU)(base:Nat)(args:List AV)(h:ab):Option (ab×Nat×List Nat):=
 match args with
 |[a, .fn f caps]=>match ld h a with
  |some (k,v,i,es,n,m)=>
   if n=0 then
    if m=0 then match we P ex base f caps (sx h k v i es)with
     |some r=>match ld r.2.1 a with
      |some (k2,v2,i2,es2,n2,m2)=>if k2=k∧v2=v∧i2=i∧n2=0∧m2=1 then some (sy r.2.1 k v i es2,r.2.2.1,k::r.2.2.2)else none
      |none=>none
     |none=>none
    else none
   else some (h,base,[])
  |none=>none
 |_=>none
def wg(o:Oper)(env:Nat→AV):Option (Nat×List AV):=match dr o env with
 |some (g,args)=>match aJ.ext g with
  |some _=>none
  |none=>some (g,args)
 |none=>none
theorem lh{o:Oper}{env:Nat→AV}{g:Nat}{args:List AV}(h:wg o env=some (g,args)):dr o env=some (g,args)∧aJ.ext g=none:=by
 unfold wg at h;split at h
 ·rename_i g' a' hc
  split at h
  ·cases h
  ·rename_i he
   simp only[Option.some.injEq,Prod.mk.injEq]at h;obtain⟨rfl,rfl⟩:=h;exact⟨hc,he⟩
 ·cases h
def KJ(N:Nat)(env:Nat→AV):List (Nat×AV):=(List.range N).filterMap fun t=>match env t with
 | .junk=>none
 |x=>some (t,x)
theorem uE(N:Nat)(env:Nat→AV):∀p∈KJ N env,p.2=env p.1:=fun p hp=>by
 obtain⟨t,_,h⟩:=List.mem_filterMap.1 hp;split at h
 ·cases h
 ·cases h;rfl
def zX(ex:eU)(base k v:Nat)(args:List AV)(h:ab):Option (Bool×ab×Nat×List Nat):=
 match (h k).ob with
 |some (.lp fno N env ps Ua bd .ready)=>if (h k).ver=v then match jH N (an env) ps.toList args with
     |some env1=>match ex fno base N Ua ⟨env1,h⟩with
      |some (.normal,S1,b1,tk1)=>match (S1.heap k).ob with
       |some (.lp f1 N1 e1 ps1 as1 bd1 .ready)=>if (S1.heap k).ver=v then match ex fno b1 N bd ⟨S1.env,aM S1.heap k ⟨v,some (.lp f1 N1 e1 ps1 as1 bd1 .busy)⟩⟩with
           |some r=>match (r.2.1.heap k).ob,su r.1 with
            |some (.lp f2 N2 e2 ps2 as2 bd2 _),some q=>if (r.2.1.heap k).ver=v then some (q.1,aM r.2.1.heap k ⟨v,some (.lp f2 N2 e2 ps2 as2 bd2 q.2)⟩,r.2.2.1,k::(tk1 ++r.2.2.2))else none
            |_,_=>none
           |none=>none
        else none
       |_=>none
      |_=>none
     |none=>none
  else none
 |_=>none
theorem nW{o:Oper}{env:Nat→AV}{x:Nat×Nat×List AV}(h:nC o env=some x):dr o env=none:=by
 unfold nC at h;unfold dr;cases hop:o.op with
 |call c=>
  rw[hop]at h;simp only at h ⊢;cases hc:c.callee with
  |value f=>
   rw[hc]at h;simp only at h ⊢;cases hf:opd env f with
   |yld k v=>rfl
   |_=>simp[hf]at h
  |_=>rfl
 |_=>rfl
def HU:LSt→Option aG
 | .ready=>some .normal
 | .done .ret=>some .ret
 | .done (.exit id)=>some (.exit id)
 |_=>none
theorem uF{st:LSt}{e:aG}{S:St}(h:HU st=some e):Eb (fun e' S'=>e'=e∧S'=S) S st:=by
 unfold HU at h;split at h<;>first|(cases h;exact⟨rfl,rfl⟩)|(cases h;done)
def pa(g:Nat):Bool:=match aJ.once with
 |some g'=>Nat.beq g' g
 |none=>false
inductive StepR where
 |go (S:St) (ft:Foot) (b:Nat) (tk:List Nat)
 |pan (x:AV) (h:ab) (b:Nat) (tk:List Nat)
inductive OpsR where
 |go (S:St) (fts:List Foot) (b:Nat) (tk:List Nat)
 |pan (p:Nat) (fts:List Foot) (x:AV) (h:ab) (b:Nat) (tk:List Nat)
def sA(i:Nat)(tk:List Nat):Foot:=if tk.contains wd=true then ⟨i,[],tk,true⟩else ⟨i,tk ++Ed tk,tk,false⟩
def xW(o:Oper)(S:St)(base:Nat):Option StepR:=match o.op with
 | .panic u=>match opd S.env u with
  | .iv t y=>some (.pan (.iv t y) S.heap base [])
  |_=>none
 |_=>none
structure Memo(P:Program) where
 at':Nat→List D→Option (List D)
 ok:∀g ds rs,at' g ds=some rs→aK P g ds rs
def Memo.none{P:Program}:Memo P:=⟨fun _ _=> .none,fun _ _ _ h=>by cases h⟩
def zY{P:Program}(mm:Memo P)(ex:eU)(g:Nat)(ds:List D):Option (List D):=match mm.at' g ds with
 |some rs=>some rs
 |none=>wc P ex g ds
def iK(P:Program)(obm:Nat→Nat→Bool)(hp:Nat→Bool)(mm:Memo P)(ex:eU)(fno base N:Nat)(ops:Array Oper)(i:Nat)(o:Oper)(S:St):Option StepR:=
 match db ops o S.env with
 |some true=>match wg o S.env with
  |some (g,args)=>if pa g=true then match o9 P ex base args S.heap with
      |some r=>(dS N S.env o.dst (.tup [])).map fun env=> .go ⟨env,r.1⟩ ⟨i,[],r.2.2,true⟩ r.2.1 (wd::r.2.2)
      |none=>none
   else match (if hp g=true then none else qu args)with
   |some ds=>match zY mm ex g ds with
    |some rs=>(dS N S.env o.dst (jA rs)).map fun env=> .go ⟨env,S.heap⟩ ⟨i,[],[],false⟩ base []
    |none=>none
   |none=>match j6 P ex base g args S.heap with
    |some (.ret rs,h',b',tk)=>(dS N S.env o.dst (gY rs)).map fun env=> .go ⟨env,h'⟩ (sA i tk) b' tk
    |some (.pan x,h',b',tk)=>some (.pan x h' b' tk)
    |none=>none
  |none=>match nC o S.env with
   |some y=>match zX ex base y.1 y.2.1 y.2.2 S.heap with
    |some r=>(dS N S.env o.dst (.d (.bool r.1))).map fun env=> .go ⟨env,r.2.1⟩ ⟨i,[],r.2.2.2,true⟩ r.2.2.1 (wd::r.2.2.2)
    |none=>none
   |none=>match bN P {obm:=fun _=>obm fno (o.dst.getD 0),base:=fun _=>base} i o (opd S.env) S.heap with
   |some out=>match out.ob with
    |[]=>(dS N S.env o.dst out.val).map fun env=> .go ⟨env,aq S.heap out.wr⟩ ⟨i,out.rd,out.wr.map (·.1),false⟩ (base+N) (out.rd.map JT ++out.wr.map (·.1))
    |_=>none
   |none=>xW o S base
 |some false=>(dS N S.env o.dst (.tup [])).map fun env=> .go ⟨env,S.heap⟩ ⟨i,[],[],false⟩ base []
 |none=>none
def kC(P:Program)(obm:Nat→Nat→Bool)(hp:Nat→Bool)(mm:Memo P)(ex:eU)(fno N:Nat)(ops:Array Oper):List Oper→Nat→Nat→St→Option OpsR
 |[],_,base,S=>some (.go S [] base [])
 |o::r,i,base,S=>match iK P obm hp mm ex fno base N ops i o S with
  |none=>none
  |some (.pan x h b tk)=>some (.pan i [] x h b tk)
  |some (.go S1 ft b1 tk1)=>match kC P obm hp mm ex fno N ops r (i+1) b1 S1 with
   |none=>none
   |some (.go S2 fts b2 tk)=>some (.go S2 (ft::fts) b2 (tk1 ++tk))
   |some (.pan p fts x h b2 tk)=>some (.pan p (ft::fts) x h b2 (tk1 ++tk))
def bL(P:Program)(obm:Nat→Nat→Bool)(hp:Nat→Bool)(mm:Memo P):Nat→eU
 |0,_,_,_,_,_=>none
 |n+1,fno,base,N,c,S=>
  match c with
  | .region _ ops draw=>match kC P obm hp mm (bL P obm hp mm n) fno N ops ops.toList 0 base S with
   |some (.go S' fts b tk)=>match draw with
    |false=>some (.normal,S',b,tk)
    |true=>match so ops fts with
     |true=>some (.normal,S',b,tk)
     |false=>none
   |some (.pan p fts x h b tk)=>match draw with
    |false=>some (.panic x,⟨lc ops S.env,h⟩,b,tk)
    |true=>match o8 ops fts p with
     |true=>some (.panic x,⟨lc ops S.env,h⟩,b,tk)
     |false=>none
   |none=>none
  | .seq x y=>match bL P obm hp mm n fno base N x S with
   |some (.normal,S',b',tk)=>match bL P obm hp mm n fno b' N y S' with
    |some (e,S2,b2,tk2)=>some (e,S2,b2,tk ++tk2)
    |none=>none
   |r=>r
  | .block id x=>match bL P obm hp mm n fno base N x S with
   |some (.exit i,S',b',tk)=>if i=id then some (.normal,S',b',tk)else some (.exit i,S',b',tk)
   |r=>r
  | .loop x=>match bL P obm hp mm n fno base N x S with
   |some (.normal,S',b',tk)=>match bL P obm hp mm n fno b' N (.loop x) S' with
    |some (e,S2,b2,tk2)=>some (e,S2,b2,tk ++tk2)
    |none=>none
   |r=>r
  | .skip=>some (.normal,S,base,[])
  | .exit i=>some (.exit i,S,base,[])
  | .ret=>some (.ret,S,base,[])
  | .cond c x y=>match opd S.env c with
   | .d (.bool b)=>match b with
    |true=>bL P obm hp mm n fno base N x S
    |false=>bL P obm hp mm n fno base N y S
   |_=>none
  | .rangeFunc g ps Ua bd=>match opd S.env g with
   | .fn gf caps=>match we P (bL P obm hp mm n) (base+N) gf (.yld base ((S.heap base).ver+1)::caps) (aM S.heap base ⟨(S.heap base).ver+1,some (.lp fno N (KJ N S.env) ps Ua bd .ready)⟩)with
    |some r=>match (r.2.1 base).ob with
     |some (.lp _ _ _ _ _ _ st)=>if (r.2.1 base).ver=(S.heap base).ver+1 then match HU st with
         |some e=>some (e,⟨S.env,aM r.2.1 base ⟨(r.2.1 base).ver,none⟩⟩,r.2.2.1,wd::base::r.2.2.2)
         |none=>none
      else none
     |_=>none
    |none=>none
   |_=>none
  |_=>none
def jI(r:Option Nat)(P:Program)(c:Code)(Q:Exit→Act→World→Prop)(a:Act)(w:World):Prop:=
 ∀(b:Frame) k cs,b.roundOf=r→∃e a' w',Q e a' w'∧ArrivesIn (Machine.fenced P (FF r)) P (lone (b.atR a (.code c:: .inLoop c::k)) cs w) b k cs e a' w'
theorem KK(r:Option Nat)(n:Nat):(FF r).room n:=fun d h=>by cases h
theorem xX{r:Option Nat}{P:Program}{c:Code}{Q:Exit→Act→World→Prop}{a:Act}{w:World}(h:jI r P c Q a w):(Code.loop c).wpIn (FF r) 0 P Q a w:=by
 intro b k cs hro hb hr;obtain⟨e,a',w',hq,harr⟩:=h b k cs hro;exact⟨e,a',w',hq, .of_steps (.one (fenced_calm hb hr rfl) stepR_loop) harr⟩
theorem sB{r:Option Nat}{P:Program}{c:Code}{Q:Exit→Act→World→Prop}{a:Act}{w:World}(h:c.wpIn (FF r) 0 P (Exit.then (jI r P c Q) Q) a w):jI r P c Q a w:=by
 intro b k cs hro;have hr:(FF r).room (cs.length+1+0):=KK r _;obtain⟨e,a₁,w₁,hq,harr⟩:=h b (.inLoop c::k) cs hro trivial hr;cases e with
 |normal=>
  obtain⟨e₂,a₂,w₂,hq₂,harr₂⟩:=hq b k cs hro;exact⟨e₂,a₂,w₂,hq₂, .of_steps (StepsIn.trans harr (.one (fenced_calm trivial hr rfl) stepR_inLoop)) harr₂⟩
 |exit id=>exact⟨_,a₁,w₁,hq, .pass (x:= .inLoop c) rfl (fun _ _=> .inl (by simp)) harr⟩
 |goto l=>exact⟨_,a₁,w₁,hq, .pass (x:= .inLoop c) rfl (fun _ _=> .inl (by simp)) harr⟩
 |ret=>exact⟨_,a₁,w₁,hq, .pass (x:= .inLoop c) rfl (fun _ _=> .inl (by simp)) harr⟩
 |panic ch=>exact⟨_,a₁,w₁,hq, .pass (x:= .inLoop c) rfl (fun _ _=> .inl (by simp)) harr⟩
 |outgrown=>exact⟨_,a₁,w₁,hq, .pass (x:= .inLoop c) rfl (fun _ _=> .inl (by simp)) harr⟩
theorem mG{r:Option Nat}{P:Program}{c:Code}{Q Q':Exit→Act→World→Prop}{a:Act}{w:World}(h:jI r P c Q a w)(hq:∀e a w,Q e a w→Q' e a w):jI r P c Q' a w:=fun b k cs hro=>by
 obtain⟨e,a',w',h1,h2⟩:=h b k cs hro;exact⟨e,a',w',hq _ _ _ h1,h2⟩
def LW(X:ce)(c:Code)(S:St)(Q:aG→St→Prop):Prop:=
 ∀G a w,fc X G S a w→jI X.rnd X.P c (fun e a' w'=>∃e' S' G',XRep G' w' e' e∧Q e' S'∧Ext G w G' w'∧fc X G' S' a' w') a w
theorem LW.aw{X:ce}{c:Code}{S:St}{Q:aG→St→Prop}(h:LW X c S Q):AW X (.loop c) S Q:=fun G a w hh=>xX (h G a w hh)
theorem iL{X:ce}{c:Code}{S:St}{Q:aG→St→Prop}(h:AW X c S (Bl (fun S'=>LW X c S' Q) Q)):LW X c S Q:=fun G a w hh=>by
 refine sB (wpIn_mono (h G a w hh) ?_);rintro e a' w' ⟨e',S',G',x,q,e1,r⟩;cases e' with
 |normal=>
  obtain rfl:=x.normal;exact mG (q G' a' w' r) fun e a2 w2 ⟨e3,S2,G2,x2,q2,e2,r2⟩=>⟨e3,S2,G2,x2,q2,e1.trans e2,r2⟩
 |exit i=>obtain rfl:=x.exit;exact⟨_,S',G',x,q,e1,r⟩
 |ret=>obtain rfl:=x.ret;exact⟨_,S',G',x,q,e1,r⟩
 |panic d=>obtain⟨v,rfl,hv⟩:=x.panic;exact⟨_,S',G',x,q,e1,r⟩
theorem xY{P:Program}{cfg cfg':iA}{i:Nat}{o:Oper}{ρ:Operand→AV}{h:ab}(h1:cfg'.ret i=cfg.ret i)(h2:cfg'.obm i=cfg.obm i)(h3:cfg'.base i=cfg.base i):bN P cfg' i o ρ h=bN P cfg i o ρ h:=by
 unfold bN bP gu;simp only[h1,h2,h3]
structure lY where
 ret:List D
 hc:Option SS
 base:Nat
section
variable{P:Program}{obm:Nat→Nat→Bool}{hp:Nat→Bool}{mm:Memo P}
def hG(P:Program)(ex:eU):Prop:=∀fno base N c S e S' b' tk,ex fno base N c S=some (e,S',b',tk)→(∀X:ce,X.P=P→X.N=N→AW X c S fun e' S''=>e'=e∧S''=S')∧∀k,k∉tk→S'.heap k=S.heap k
def co(P:Program):Prop:=(∀(g:Nat)(fn:Func),P.funcs[g]? =some fn→(fn.name== "runtime.NumGoroutine")=false)∧wb P
theorem nX(hm:g0 P)(hn:co P){ex:eU}(hex:hG P ex){g:Nat}{ds rs:List D}(h:wc P ex g ds=some rs):aK P g ds rs:=by
 unfold wc at h;split at h
 ·cases h
 ·rename_i fn hf
  split at h
  ·cases h
  ·rename_i b hb
   split at h
   ·rename_i hl
    refine sr hm hf hb (hn.1 g fn hf) hl (fun X hP hN=> ?_);split at h
    ·rename_i S' b' tk he
     refine((hex _ _ _ _ _ _ _ _ _ he).1 X hP hN).mono ?_;rintro e S'' ⟨rfl,rfl⟩;exact⟨.inl rfl,h⟩
    ·rename_i S' b' tk he
     refine((hex _ _ _ _ _ _ _ _ _ he).1 X hP hN).mono ?_;rintro e S'' ⟨rfl,rfl⟩;exact⟨.inr rfl,h⟩
    ·cases h
   ·cases h
theorem wh(hm:g0 P)(hn:co P){ex:eU}(hex:hG P ex){g:Nat}{ds rs:List D}(h:zY mm ex g ds=some rs):aK P g ds rs:=by
 unfold zY at h;split at h
 ·rename_i rs' h'
  exact mm.ok _ _ _ (h▸h')
 ·exact nX hm hn hex h
theorem m8{DL:List Deferred}{G:Gh}{B:Nat}{w0 w:World}{I0:Nat→Nat→Prop}{N:Nat}{S:St}{a:Act}(hr:HR G B w0 I0 S.heap w)(hf:FR G w N DL S.env a){fn:Func}{rs:List AV}(hx:iZ P S fn.results.toList=some rs):
    ∃v,(results fn a.tmps).run P w= .ok v w∧Rep G w (gY rs) v:=by
 have key:∀(l:List ResultVar)(rs:List AV),iZ P S l=some rs→∃vs:List Value,vs.length=rs.length∧
     (l.mapM (ui a.tmps)).run P w= .ok vs w∧
     ∀(i:Nat)(x:AV)(u:Value),rs[i]? =some x→vs[i]? =some u→Rep G w x u:=by
  intro l;induction l with
  |nil=>intro rs h;simp[iZ]at h;subst h;exact⟨[],rfl,rfl,by simp⟩
  |cons r l ih=>
   intro rs h
   have one:∃x xs,rs=x::xs∧iZ P S l=some xs∧∃v,(ui a.tmps r).run P w= .ok v w∧Rep G w x v:=by
    cases r with
    |tmp t=>
     simp only[iZ,Option.map_eq_some_iff]at h;obtain⟨xs,h1,rfl⟩:=h;exact⟨_,xs,rfl,h1,_,rfl,hf.opd hr.maps.glob (.tmp t)⟩
    |cell t ty=>
     simp only[iZ]at h;split at h
     ·rename_i out xs ho hxs
      simp only[Option.some.injEq]at h;subst h;obtain⟨v,hrun,_,_,hrep⟩:=jY hr (hf.opd hr.maps.glob (.tmp t)) ho;refine⟨_,xs,rfl,hxs,v, ?_,hrep⟩;simp only[Instr.loadAt,Instr.sureAddr,Act.eval]at hrun;simp only[ui];generalize a.tmps.getD t undef=u at hrun;cases u with
      |pointer ao=>
       cases ao with
       |some ad=>simpa [asAddr]using hrun
       |none=>simp at hrun
      |_=>simp at hrun
     ·cases h
   obtain⟨x,xs,rfl,hxs,v,g1,g2⟩:=one;obtain⟨vs,h1,h2,h3⟩:=ih xs hxs;refine⟨v::vs,by simp[h1], ?_,fun i y u hy hu=> ?_⟩
   ·rw[List.mapM_cons,Sem.run_bind]
    rw[g1,Result.andThen_ok,Sem.run_bind,h2,Result.andThen_ok];rfl
   ·cases i with
    |zero=>simp at hy hu;subst hy;subst hu;exact g2
    |succ i=>exact h3 i y u (by simpa using hy) (by simpa using hu)
 obtain⟨vs,h1,h2,h3⟩:=key _ _ hx
 have hm:(fn.results.mapM (ui a.tmps)).run P w= .ok vs.toArray w:=by
  rw[Array.mapM_eq_mapM_toList,Sem.run_map,h2];rfl
 refine⟨if h:vs.toArray.size=1 then vs.toArray[0]else .tuple vs.toArray, ?_, ?_⟩
 ·have hv:results fn a.tmps=(do let vs ←fn.results.mapM (ui a.tmps);pure (if h:vs.size=1 then vs[0]else .tuple vs)):=by
    unfold results;congr 1
  rw[hv,Sem.run_bind,hm];rfl
 ·by_cases hone:rs.length=1
  ·obtain⟨x,hx1⟩:=List.length_eq_one_iff.1 hone
   have hvs:vs.length=1:=by omega
   obtain⟨v,hv⟩:=List.length_eq_one_iff.1 hvs;subst hx1;subst hv;exact h3 0 x v rfl rfl
  ·have hne:¬(vs.toArray.size=1):=by simp;omega
   rw[dif_neg hne]
   have:gY rs= .tup rs:=by
    unfold gY;split
    ·simp at hone
    ·rfl
   rw[this];exact .tup _ _ (by simp[h1]) (fun i x u a b=>h3 i x u a (by simpa using b))
theorem Ext.ends{G G':Gh}{w w' w2:World}(e:Ext G w G' w')(hs:Shut w.heap.size w' w2):Ext G w G' w2:=
 ⟨e.imm,e.loc,fun b o x=>(hs.cell _).trans (e.cell b o x),by rw[hs.size];exact e.size,e.lim,e.nloc,e.mloc,fun b o hb x=>by
  rw[hs.low b (Array.getElem?_eq_some_iff.1 x).1];exact e.kept b o hb x⟩
theorem li{hm:g0 P}{G:Gh}{B:Nat}{w0 w:World}{I0:Nat→Nat→Prop}{fn:Func}{args:List AV}{h:ab}{cargs:Array Value}(hr:HR G B w0 I0 h w)(hs:cargs.size=args.length)(hl:args.length≤fn.ntmps)
    (hargs:∀(i:Nat)(x:AV)(u:Value),args[i]? =some x→cargs[i]? =some u→Rep G w x u):
    fc ⟨P,B,w0,I0,fn.ntmps,hm,none,w.heap.size,[]⟩ G ⟨ga args,h⟩ {tmps:=cargs ++Array.replicate (fn.ntmps-cargs.size) undef,defers:=[]} w:=by
 refine⟨hr,[],⟨?_,rfl, ?_, ?_⟩,List.nodup_nil,fun _ h=>(by cases h),fun _ h=>(by cases h),fun _ h=>(by cases h),Nat.le_refl _⟩
 ·show(cargs ++Array.replicate (fn.ntmps-cargs.size) undef).size=fn.ntmps
  simp[hs];omega
 ·intro t _
  show Rep _ _ ((args[t]?).getD .junk) ((cargs ++Array.replicate (fn.ntmps-cargs.size) undef).getD t undef);cases ha:args[t]? with
  |none=>exact .junk _
  |some x=>
   have hlt:t<cargs.size:=by rw[hs];exact(List.getElem?_eq_some_iff.1 ha).1
   have hu:cargs[t]? =some cargs[t]:=Array.getElem?_eq_getElem hlt;rw[Array.getD_eq_getD_getElem?,Array.getElem?_append_left hlt,hu];exact hargs t x _ ha hu
 ·intro t ht
  show(args[t]?).getD .junk= .junk;rw[List.getElem?_eq_none (by have ht:fn.ntmps≤t:=ht;omega)];rfl
theorem lj(hm:g0 P){f:Nat}{fn:Func}{c:Code}{args rs:List AV}{h h':ab}(hf:P.funcs[f]? =some fn)(hb:fn.body=some c)(hn:(fn.name== "runtime.NumGoroutine")=false)(hl:args.length≤fn.ntmps)
    (haw:∀X:ce,X.P=P→X.N=fn.ntmps→AW X c ⟨ga args,h⟩ fun e S'=>(e= .normal∨e= .ret)∧iZ P S' fn.results.toList=some rs∧S'.heap=h'):ay P f args h rs h':=by
 refine⟨⟨fn,hf,by rw[hb];rfl,hn⟩,fun G B w0 I0 w cargs hr hs hargs=>callsIn_wide.1 (callsIn_of_wp_marks (F:=FF none) (n:=0) hf hb trivial ?_)⟩
 let X:ce:=⟨P,B,w0,I0,fn.ntmps,hm,none,w.heap.size,[]⟩
 refine wpIn_mono (haw X rfl rfl _ _ _ (li (hm:=hm) hr hs hl hargs)) ?_;rintro e a' w' ⟨e',S',G',xr,⟨he,hres,rfl⟩,hex,hr',bs,hfr,hside⟩
 have fin:∀R:Ending→World→Prop,(∀v w2,Ext G w G' w2→HR G' B w0 I0 S'.heap w2→Rep G' w2 (gY rs) v→R (.returned v) w2)→LeavesInM (FF none) 0 P fn a'.tmps R a'.defers .returning w':=fun R hR=>by
  rw[hfr.nod];refine dV (B:=w.heap.size) (by simp) bs w' hside.nd hside.low hside.live (fun w2 hsh _=> ?_);have hsB:Shut B w' w2:=⟨hsh.os,hsh.tape,hsh.output,hsh.size,hsh.oth,fun b hb=>hsh.low b (Nat.lt_of_lt_of_le hb hr.bsz),hsh.cell⟩
  have hr2:=hr'.shut hsB;obtain⟨v,hv,hret⟩:=m8 hr2 (hfr.shut hsB) hres;show ∃v,(results fn a'.tmps).run P w2= .ok v w2∧R (.returned v) w2;exact⟨v,hv,hR v w2 (hex.ends hsh) hr2 hret⟩
 rcases he with rfl|rfl
 ·obtain rfl:=xr.normal
  exact fin _ fun v w2 c1 c2 c3=>⟨v,G',rfl,c1,c2,c3⟩
 ·obtain rfl:=xr.ret
  exact fin _ fun v w2 c1 c2 c3=>⟨v,G',rfl,c1,c2,c3⟩
theorem zZ(hm:g0 P){f:Nat}{fn:Func}{c:Code}{args:List AV}{x:AV}{h h':ab}(hf:P.funcs[f]? =some fn)(hb:fn.body=some c)(hn:(fn.name== "runtime.NumGoroutine")=false)(hl:args.length≤fn.ntmps)
    (haw:∀X:ce,X.P=P→X.N=fn.ntmps→AW X c ⟨ga args,h⟩ fun e S'=>e= .panic x∧S'.heap=h'):iY P f args h x h':=by
 refine⟨⟨fn,hf,by rw[hb];rfl,hn⟩,fun G B w0 I0 w cargs hr hs hargs=>callsIn_wide.1 (callsIn_of_wp_marks (F:=FF none) (n:=0) hf hb trivial ?_)⟩
 let X:ce:=⟨P,B,w0,I0,fn.ntmps,hm,none,w.heap.size,[]⟩
 refine wpIn_mono (haw X rfl rfl _ _ _ (li (hm:=hm) hr hs hl hargs)) ?_;rintro e a' w' ⟨e',S',G',xr,⟨rfl,rfl⟩,hex,hr',bs,hfr,hside⟩;obtain⟨v,rfl,hv⟩:=xr.panic;show LeavesInM (FF none) 0 P fn a'.tmps _ a'.defers (.panicking _) w';rw[hfr.nod];refine dV (B:=w.heap.size) (by simp) bs w' hside.nd hside.low hside.live (fun w2 hsh _=> ?_);have hsB:Shut B w' w2:=⟨hsh.os,hsh.tape,hsh.output,hsh.size,hsh.oth,fun b hb=>hsh.low b (Nat.lt_of_lt_of_le hb hr.bsz),hsh.cell⟩
 exact⟨v,G',rfl,hex.ends hsh,hr'.shut hsB,hv.shut hsB⟩
theorem p8{F:Fence}{n:Nat}{cs:List Frame}:∀(bs:List Nat)(fr:Frame)(w:World),fr.mode≠ .run→fr.defers=gn bs→bs.Nodup→(∀b∈bs,w.heap[b]? =some (.deferred (some [])))→∀B,(∀b∈bs,B≤b)→F.fn fr.fn→F.room (cs.length+1+n)→
    ∃w',Shut B w w'∧StepsIn (Machine.fenced P F) P (lone fr cs w) (lone {fr with defers:=[]} cs w')
 |[],fr,w,_,hd,_,_,B,_,_,_=>⟨w,Shut.refl B w,by
  have:({fr with defers:=[]}:Frame)=fr:=by cases fr;cases hd;rfl
  rw[this];exact StepsIn.refl _⟩
 |b::bs,fr,w,hm,hd,hnd,hlive,B,hlow,hF,hr=>by
  have hb:=hlive b (by simp);rw[List.nodup_cons]at hnd;have htake:=run_takeDeferred (P:=P) hb;have h1:=step_collected (P:=P) (cs:=cs) (d:={target:= .collected b,args:= #[]}) (ds:=gn bs) hm hd rfl htake;have i1:(lone fr cs w).fenced P F:=fenced_out (n:=n) hF hr hm hd (fun g hg=>by simp[Target.leads]at hg)
  obtain⟨w',hs,hst⟩:=p8 bs {fr with defers:=[] ++gn bs} (w.putObj b (.deferred none)) hm rfl hnd.2 (fun x hx=>by
   have hne:x≠b:=fun e=>hnd.1 (e▸hx)
   rw[World.putObj_heap_other hne];exact hlive x (by simp[hx])) B (fun x hx=>hlow x (by simp[hx])) hF hr
  exact⟨w',(Shut.put hb rfl rfl (hlow b (by simp))).trans hs, .head i1 h1 hst⟩
def Nv(P:Program)(g:Nat)(args:List AV)(x:Option AV)(h h':ab):Prop:=
 dc P g∧∀(G:Gh)(B:Nat)(w0:World)(I0:Nat→Nat→Prop)(w:World)(cargs:Array Value)(u:FrameMode),HR G B w0 I0 h w→cargs.size=args.length→
  (∀(i:Nat)(x:AV)(u:Value),args[i]? =some x→cargs[i]? =some u→Rep G w x u)→
  (match x with|none=>u= .returning|some x=>∃v,u= .panicking [{v,recovered:=false}]∧Rep G w x v)→
  CallsDIn (FF none) 0 P g cargs u w fun e u' w'=>∃vv G',e= .returned vv∧settle u'= .returning∧Ext G w G' w'∧HR G' B w0 I0 h' w'
theorem sC{r:Code}{d:Nat}(h:lX r=some d):∃id o c,r= .region id #[o] false∧o.guard=none∧o.dst=some d∧o.op= .call c∧c.callee= .builtin .recover:=by
 unfold lX at h;split at h
 ·rename_i id ops
  split at h
  ·rename_i o ho
   split at h
   ·rename_i d' c hg hd hop
    split at h
    ·rename_i hc
     simp only[Option.some.injEq]at h;subst h;exact⟨id,o,c,by rw[show ops= #[o]from by rw[←Array.toList_inj];exact ho],hg,hd,hop,hc⟩
    ·cases h
   ·cases h
  ·cases h
 ·cases h
theorem wm{r:Code}{f:Operand}{Ua:List Operand}(h:qW r=some (f,Ua)):∃id o c,r= .region id #[o] false∧o.guard=none∧o.dst=none∧o.op= .defer c∧c.callee= .value f∧c.args.toList=Ua:=by
 unfold qW at h;split at h
 ·rename_i id ops
  split at h
  ·rename_i o ho
   split at h
   ·rename_i c hg hd hop
    split at h
    ·rename_i f' hc
     simp only[Option.some.injEq,Prod.mk.injEq]at h;obtain⟨rfl,rfl⟩:=h;exact⟨id,o,c,by rw[show ops= #[o]from by rw[←Array.toList_inj];exact ho],hg,hd,hop,hc,rfl⟩
    ·cases h
   ·cases h
  ·cases h
 ·cases h
theorem xZ{fn:Func}{args:List AV}{G:Gh}{w:World}{cargs:Array Value}(hs:cargs.size=args.length)(hl:args.length≤fn.ntmps)(hargs:∀(i:Nat)(x:AV)(u:Value),args[i]? =some x→cargs[i]? =some u→Rep G w x u):
    FR G w fn.ntmps [] (ga args) {tmps:=cargs ++Array.replicate (fn.ntmps-cargs.size) undef,defers:=[]}:=by
 refine⟨?_,rfl, ?_, ?_⟩
 ·show(cargs ++Array.replicate (fn.ntmps-cargs.size) undef).size=fn.ntmps
  simp[hs];omega
 ·intro t _
  show Rep _ _ ((args[t]?).getD .junk) ((cargs ++Array.replicate (fn.ntmps-cargs.size) undef).getD t undef);cases ha:args[t]? with
  |none=>exact .junk _
  |some x=>
   have hlt:t<cargs.size:=by rw[hs];exact(List.getElem?_eq_some_iff.1 ha).1
   have hu:cargs[t]? =some cargs[t]:=Array.getElem?_eq_getElem hlt;rw[Array.getD_eq_getD_getElem?,Array.getElem?_append_left hlt,hu];exact hargs t x _ ha hu
 ·intro t ht
  show(args[t]?).getD .junk= .junk;rw[List.getElem?_eq_none (by omega)];rfl
theorem jJ{ops:Array Oper}{o:Oper}{d:Nat}{a:Act}{cs:List Frame}{w:World}{Q:Exit→Act→List Frame→World→Prop}(h0:ops[0]? =some o)(hg:o.guard=none)(hdst:o.dst=some d)(hrun:∀ρ:Operand→Value,(execOp ρ o).run P w= .ok .recover w)
    (hq:match recoverD cs with
     |some (v,cs')=>Q .normal (a.put (some d) v) cs' w
     |none=>Q .normal (a.put (some d) .nilIface) cs w):wpOpsSIn (FF none) 0 P ops Q [0] a cs w:=by
 unfold wpOpsSIn;simp only[h0];refine⟨fun _ _=>trivial, ?_⟩;have hwant:Region.wanted o (yielded ops a.tmps)=true:=by simp[Region.wanted,hg]
 rw[if_pos hwant,hrun,hdst];cases hr:recoverD cs with
 |none=>rw[hr]at hq;exact hq
 |some p=>rw[hr]at hq;exact hq
theorem z8(hm:g0 P)(hn:co P){ex:eU}(hex:hG P ex){base g:Nat}{args:List AV}{x:Option AV}{h h':ab}{b2:Nat}{tk:List Nat}(hc:uk P ex base g args x h=some (h',b2,tk)):
    Nv P g args x h h'∧∀k,k∉tk→h' k=h k:=by
 unfold uk at hc;split at hc
 ·cases hc
 rename_i fn hf;split at hc;case h_2=>cases hc
 rename_i r c hb;split at hc;case h_2=>cases hc
 rename_i d hd;split at hc;case isFalse=>cases hc
 rename_i hcond;obtain⟨hl,hdn,hres⟩:=hcond;obtain⟨id,o,cc,rfl,hg,hdst,hop,hcal⟩:=sC hd
 have key:∃e S',ex g base fn.ntmps c ⟨aM (ga args) d (x.getD (.d .nili)),h⟩=some (e,S',b2,tk)∧(e= .normal∨e= .ret)∧S'.heap=h':=by
  split at hc
  ·rename_i S' b' tk' he
   simp only[Option.some.injEq,Prod.mk.injEq]at hc;obtain⟨rfl,rfl,rfl⟩:=hc;exact⟨_,S',he, .inl rfl,rfl⟩
  ·rename_i S' b' tk' he
   simp only[Option.some.injEq,Prod.mk.injEq]at hc;obtain⟨rfl,rfl,rfl⟩:=hc;exact⟨_,S',he, .inr rfl,rfl⟩
  ·cases hc
 obtain⟨e,S',he,hee,rfl⟩:=key;obtain⟨q1,q2⟩:=hex _ _ _ _ _ _ _ _ _ he;refine⟨⟨⟨fn,hf,by rw[hb];rfl,hn.1 g fn hf⟩,fun G B w0 I0 w cargs u hr hs hargs hu=> ?_⟩,q2⟩;have hfr0:=xZ hs hl hargs
 let X:ce:=⟨P,B,w0,I0,fn.ntmps,hm,none,w.heap.size,[]⟩
 have hresults:∀tm w2,∃v,(results fn tm).run P w2= .ok v w2:=fun tm w2=>by
  have hr0:fn.results= #[]:=Array.isEmpty_iff.1 hres;refine⟨.tuple #[], ?_⟩;simp[results,hr0]
 have hrec:∀(v:Value)(u':FrameMode)(xv:AV),Rep G w xv v→x.getD (.d .nili)=xv→settle u'= .returning→∀(c₀:Frame)(cs:List Frame),
     c.wpIn (FF none) 0 P (fun e a w'=>∃e' S'' G',XRep G' w' e' e∧(e'= .normal∨e'= .ret)∧S''.heap=S'.heap∧Ext G w G' w'∧fc X G' S'' a w') (({tmps:=cargs ++Array.replicate (fn.ntmps-cargs.size) undef,defers:=[]}:Act).put (some d) v) w:=by
  intro v u' xv hv hx hset c₀ cs
  have hH:fc X G ⟨aM (ga args) d (x.getD (.d .nili)),h⟩ (({tmps:=cargs ++Array.replicate (fn.ntmps-cargs.size) undef,defers:=[]}:Act).put (some d) v) w:=by
   refine⟨hr,[], ?_,List.nodup_nil,fun _ h=>(by cases h),fun _ h=>(by cases h),fun _ h=>(by cases h),Nat.le_refl _⟩;have:=hfr0.put (dst:=some d) (x:=xv) (v:=v) (env':=aM (ga args) d xv) (by simp only[dS];rw[if_pos hdn]) hv;rw[hx];exact this
  refine wpIn_mono (q1 X rfl rfl G _ w hH) ?_;rintro e a' w' ⟨e',S'',G',xr,⟨rfl,rfl⟩,e1,hh⟩;exact⟨e',S'',G',xr,hee,rfl,e1,hh⟩
 refine⟨trivial,fun c₀ cs hu0 hroom=> ?_⟩
 let b:Frame:={(default:Frame)with fn:=g,kind:= .deferred,roundOf:=none}
 have henter:Frame.enter P g cargs .deferred=
     b.atR {tmps:=cargs ++Array.replicate (fn.ntmps-cargs.size) undef,defers:=[]} [.code (.seq (.region id #[o] false) c)]:=by
  simp[Frame.enter,Frame.atR,hf,hb,b]
 have hwp:∃(u':FrameMode),settle u'= .returning∧(Code.seq (.region id #[o] false) c).wpSIn (FF none) 0 P (fun e a cs' w'=>cs'={c₀ with mode:=u'}::cs∧∃e' S'' G',XRep G' w' e' e∧(e'= .normal∨e'= .ret)∧S''.heap=S'.heap∧Ext G w G' w'∧fc X G' S'' a w')
     {tmps:=cargs ++Array.replicate (fn.ntmps-cargs.size) undef,defers:=[]} (c₀::cs) w:=by
  have hrun:∀ρ:Operand→Value,(execOp ρ o).run P w= .ok .recover w:=fun ρ=>by
   unfold execOp;rw[hop];exact(dL cc _ o.type ρ hcal).trans rfl
  have hr1:List.range (#[o]:Array Oper).size=[0]:=rfl;cases x with
  |none=>
   obtain rfl:u= .returning:=hu;refine⟨.returning,rfl,wpSIn_seq (wpSIn_region ?_)⟩;rw[hr1];refine jJ (o:=o) rfl hg hdst hrun ?_;have hnone:recoverD (c₀::cs)=none:=by simp[recoverD,hu0]
   rw[hnone];have hc0:({c₀ with mode:= .returning}:Frame)=c₀:=by cases c₀;cases hu0;rfl
   rw[hc0];exact wpSIn_of_wpIn rfl (wpIn_mono (hrec .nilIface .returning (.d .nili) (.d .nili) rfl rfl c₀ cs) fun e a w' hh=>⟨rfl,hh⟩)
  |some xv=>
   obtain⟨v,rfl,hv⟩:=hu;refine⟨.panicking [{v,recovered:=true}],rfl,wpSIn_seq (wpSIn_region ?_)⟩;rw[hr1];refine jJ (o:=o) rfl hg hdst hrun ?_;have hsome:recoverD (c₀::cs)=some (v,{c₀ with mode:= .panicking [{v,recovered:=true}]}::cs):=by simp[recoverD,hu0]
   rw[hsome];exact wpSIn_of_wpIn rfl (wpIn_mono (hrec v (.panicking [{v,recovered:=true}]) xv hv rfl rfl c₀ cs) fun e a w' hh=>⟨rfl,hh⟩)
 obtain⟨u',hset,hwp⟩:=hwp;obtain⟨e,a',cs',w',hlen,⟨rfl,e',S'',G',xr,he',hheap,e1,hr2,bs,hfr,hside⟩,harr⟩:=hwp b [] rfl rfl trivial hroom;rw[←henter]at harr
 have fin:∀fr:Frame,fr.mode= .returning→fr.defers=gn bs→fr.kind= .deferred→fr.fn=g→fr.tmps=a'.tmps→
     ∃w2 vv,Shut w.heap.size w' w2∧StepsIn (Machine.fenced P (FF none)) P (lone fr ({c₀ with mode:=u'}::cs) w') (lone {fr with defers:=[]} ({c₀ with mode:=u'}::cs) w2)∧({fr with defers:=[]}:Frame).going P w2 (.returned vv):=by
  intro fr h1 h2 h3 h4 h5;obtain⟨w2,g1,g2⟩:=p8 (P:=P) (F:=FF none) (n:=0) (cs:={c₀ with mode:=u'}::cs) bs fr w' (by rw[h1];simp) h2 hside.nd hside.live w.heap.size hside.low trivial hroom;obtain⟨vv,hvv⟩:=hresults a'.tmps w2;exact⟨w2,vv,g1,g2,h1,rfl,fn,by rw[←hf,←h4],by rw[←hvv,←h5]⟩
 have post:∀w2,Shut w.heap.size w' w2→∀vv:Value,∃vv' G',Ending.returned vv= .returned vv'∧settle u'= .returning∧Ext G w G' w2∧HR G' B w0 I0 S'.heap w2:=fun w2 hsh vv=>by
  have hsB:Shut B w' w2:=⟨hsh.os,hsh.tape,hsh.output,hsh.size,hsh.oth,fun b hb=>hsh.low b (Nat.lt_of_lt_of_le hb hr.bsz),hsh.cell⟩
  exact⟨vv,G',rfl,hset,e1.ends hsh,hheap▸hr2.shut hsB⟩
 have hdef:a'.defers=gn bs:=by rw[hfr.nod];exact List.append_nil _
 rcases he' with rfl|rfl
 ·obtain rfl:=xr.normal
  obtain⟨w2,vv,g1,g2,g3⟩:=fin {b.atR a' []with mode:= .returning} rfl hdef rfl rfl rfl;exact⟨.returned vv,u',w2,_,post w2 g1 vv,StepsIn.trans (StepsIn.trans harr (.one (fenced_calm (fr:=b.atR a' []) trivial (hlen▸hroom) rfl) (stepR_end rfl))) g2,rfl,rfl,g3⟩
 ·obtain rfl:=xr.ret
  obtain⟨todo,hs⟩:=harr.1 rfl;obtain⟨w2,vv,g1,g2,g3⟩:=fin {b.atR a' todo with mode:= .returning} rfl hdef rfl rfl rfl;exact⟨.returned vv,u',w2,_,post w2 g1 vv,StepsIn.trans hs g2,rfl,rfl,g3⟩
def mH(P:Program)(B:Nat)(w0:World)(I0:Nat→Nat→Prop)(G:Gh)(w:World)(y:xo)(h':ab)(e:Ending)(w':World):Prop:=
 match y with
 | .ret rs=>∃v G',e= .returned v∧Ext G w G' w'∧HR G' B w0 I0 h' w'∧Rep G' w' (gY rs) v
 | .pan x=>∃v G',e= .panicked [{v,recovered:=false}]∧Ext G w G' w'∧HR G' B w0 I0 h' w'∧Rep G' w' x v
theorem sD{X:ce}{fn:Func}{G0:Gh}{w0:World}(hs0:w0.heap.size=X.s0)(hB:X.B≤X.s0)(hdl:X.dl=[]){e:aG}{S':St}{b':Nat}{tk:List Nat}{y:xo}{h':ab}{b2:Nat}{tk2:List Nat}
    (ho:eK X.P fn.results.toList (some (e,S',b',tk))=some (y,h',b2,tk2)) {G':Gh} {w':World} {ec:Exit} {a':Act} (xr:XRep G' w' e ec) (e1:Ext G0 w0 G' w') (hh:fc X G' S' a' w'):
    bodyPostM (FF none) 0 X.P fn (mH X.P X.B X.w0 X.I0 G0 w0 y h') ec a' w':=by
 obtain⟨hr,bs,hfr,hside⟩:=hh;rw[hdl]at hfr
 have fin:∀{R:Ending→World→Prop}{u:FrameMode},u≠ .run→(∀w2,Shut X.s0 w' w2→LeavesInM (FF none) 0 X.P fn a'.tmps R [] u w2)→LeavesInM (FF none) 0 X.P fn a'.tmps R a'.defers u w':=fun hu hk=>by
  rw[hfr.nod];exact dV (B:=X.s0) hu bs w' hside.nd hside.low hside.live (fun w2 hsh _=>hk w2 hsh)
 have retc:∀rs,iZ X.P S' fn.results.toList=some rs→h'=S'.heap→y= .ret rs→LeavesInM (FF none) 0 X.P fn a'.tmps (mH X.P X.B X.w0 X.I0 G0 w0 y h') a'.defers .returning w':=by
  rintro rs hres rfl rfl;refine fin (by simp) (fun w2 hsh=> ?_);have hsB:Shut X.B w' w2:=⟨hsh.os,hsh.tape,hsh.output,hsh.size,hsh.oth,fun b hb=>hsh.low b (Nat.lt_of_lt_of_le hb hB),hsh.cell⟩
  have hr2:=hr.shut hsB;obtain⟨v,hv,hret⟩:=m8 hr2 (hfr.shut hsB) hres;show ∃v,(results fn a'.tmps).run X.P w2= .ok v w2∧mH X.P X.B X.w0 X.I0 G0 w0 (.ret rs) S'.heap (.returned v) w2;exact⟨v,hv,v,G',rfl,e1.ends (hs0.symm▸hsh),hr2,hret⟩
 cases e with
 |normal=>
  obtain rfl:=xr.normal;simp only[eK,Option.map_eq_some_iff,Prod.mk.injEq]at ho;obtain⟨rs,h1,h2,h3,h4,h5⟩:=ho;exact retc rs h1 h3.symm h2.symm
 |ret=>
  obtain rfl:=xr.ret;simp only[eK,Option.map_eq_some_iff,Prod.mk.injEq]at ho;obtain⟨rs,h1,h2,h3,h4,h5⟩:=ho;exact retc rs h1 h3.symm h2.symm
 |panic x=>
  obtain⟨v,rfl,hv⟩:=xr.panic;simp only[eK,Option.some.injEq,Prod.mk.injEq]at ho;obtain⟨rfl,rfl,rfl,rfl⟩:=ho;refine fin (by simp) (fun w2 hsh=> ?_);have hsB:Shut X.B w' w2:=⟨hsh.os,hsh.tape,hsh.output,hsh.size,hsh.oth,fun b hb=>hsh.low b (Nat.lt_of_lt_of_le hb hB),hsh.cell⟩
  exact⟨v,G',rfl,e1.ends (hs0.symm▸hsh),hr.shut hsB,hv.shut hsB⟩
 |exit id=>simp[eK]at ho
theorem p9(hm:g0 P)(hn:co P){ex:eU}(hex:hG P ex){fno:Nat}{fn:Func}{B:Nat}{w0:World}{I0:Nat→Nat→Prop}{G0:Gh}{w00:World}(hBs:B≤w00.heap.size):∀(c:Code)(base:Nat)(S:St)(y:xo)(h':ab)(b2:Nat)(tk:List Nat),
    kz P ex fno fn.ntmps fn.results.toList c base S=some (y,h',b2,tk)→(∀k,k∉tk→h' k=S.heap k)∧
    ∀G a w,Ext G0 w00 G w→fc ⟨P,B,w0,I0,fn.ntmps,hm,none,w00.heap.size,[]⟩ G S a w→c.wpIn (FF none) 0 P (bodyPostM (FF none) 0 P fn (mH P B w0 I0 G0 w00 y h')) a w:=by
 intro c
 have ig:∀(c:Code)(base:Nat)(S:St)(y:xo)(h':ab)(b2:Nat)(tk:List Nat),eK P fn.results.toList (ex fno base fn.ntmps c S)=some (y,h',b2,tk)→(∀k,k∉tk→h' k=S.heap k)∧
     ∀G a w,Ext G0 w00 G w→fc ⟨P,B,w0,I0,fn.ntmps,hm,none,w00.heap.size,[]⟩ G S a w→c.wpIn (FF none) 0 P (bodyPostM (FF none) 0 P fn (mH P B w0 I0 G0 w00 y h')) a w:=by
  intro c base S y h' b2 tk h;cases hx:ex fno base fn.ntmps c S with
  |none=>rw[hx]at h;simp[eK]at h
  |some r=>
   obtain⟨e,S',b',tk'⟩:=r;rw[hx]at h;obtain⟨q1,q2⟩:=hex _ _ _ _ _ _ _ _ _ hx
   have hk:h'=S'.heap∧∀k,k∉tk→k∉tk':=by
    cases e with
    |normal=>simp only[eK,Option.map_eq_some_iff,Prod.mk.injEq]at h;obtain⟨rs,h1,h2,h3,h4,h5⟩:=h;exact⟨h3.symm,fun k hk hx=>hk (by rw[←h5];exact List.mem_append_left _ hx)⟩
    |ret=>simp only[eK,Option.map_eq_some_iff,Prod.mk.injEq]at h;obtain⟨rs,h1,h2,h3,h4,h5⟩:=h;exact⟨h3.symm,fun k hk hx=>hk (by rw[←h5];exact List.mem_append_left _ hx)⟩
    |panic x=>simp only[eK,Option.some.injEq,Prod.mk.injEq]at h;obtain⟨h2,h3,h4,h5⟩:=h;exact⟨h3.symm,fun k hk=>h5▸hk⟩
    |exit id=>simp[eK]at h
   refine⟨fun k hkk=>by rw[hk.1];exact q2 k (hk.2 k hkk),fun G a w e0 hh=>wpIn_mono (q1 _ rfl rfl G a w hh) ?_⟩;rintro ec a' w' ⟨e',S'',G',xr,⟨rfl,rfl⟩,e1,hh'⟩;exact(sD (X:=⟨P,B,w0,I0,fn.ntmps,hm,none,w00.heap.size,[]⟩) rfl hBs rfl h xr (e0.trans e1) hh')
 induction c with
 |seq x y _ ihy=>
  intro base S yw h' b2 tk h;simp only[kz]at h;split at h
  ·rename_i f Ua hdef
   split at h;case h_2=>cases h
   rename_i g caps hf;split at h;case h_2=>cases h
   rename_i e S2 b2' tk' hx;split at h;case h_2=>cases h
   rename_i pv hpv;split at h;case h_2=>cases h
   rename_i r hr;obtain⟨h3,b3,tk3⟩:=r;simp only[Option.map_eq_some_iff,Prod.mk.injEq]at h;obtain⟨rs,hres,rfl,rfl,rfl,rfl⟩:=h;obtain⟨q1,q2⟩:=hex _ _ _ _ _ _ _ _ _ hx;obtain⟨⟨hcb,d1⟩,d2⟩:=z8 hm hn hex hr
   refine⟨fun k hk=>by
    simp only[List.mem_append,not_or]at hk;exact(d2 k hk.2.1).trans (q2 k hk.1),fun G a w e0 hh=> ?_⟩
   obtain⟨id,o,c,rfl,hg,hdst,hop,hcal,rfl⟩:=wm hdef;obtain⟨hr0,bs,hfr,hside⟩:=hh;have hnil:a.defers=gn bs:=by rw[hfr.nod];exact List.append_nil _
   obtain⟨vs,hfv,hvl,hcr⟩:∃vs:Array Value,a.eval f= .func (.func g) #[] vs∧vs.size=caps.length∧∀(i:Nat)(x:AV)(u:Value),caps[i]? =some x→vs[i]? =some u→Rep G w x u:=by
    have hfr':=hfr.opd hr0.maps.glob f;rw[hf]at hfr';generalize a.eval f=vf at hfr';cases hfr' with
    |fn _ _ vs hl hh=>exact⟨vs,rfl,hl,hh⟩
   let d:Deferred:={target:= .fn (.func g) vs,args:=c.args.map a.eval}
   have hrun:(execOp a.eval o).run P w= .ok (.defer d) w:=by
    unfold execOp;rw[hop];simp only[resolve,hcal,hfv];simp[go_sem,d]
   refine wpIn_seq (wpIn_region ?_);have hr1:List.range (#[o]:Array Oper).size=[0]:=rfl;rw[hr1,wpOpsIn_cons];unfold wpOpIn;have ho0:(#[o]:Array Oper)[0]? =some o:=rfl;simp only[ho0];have hwant:Region.wanted o (yielded #[o] a.tmps)=true:=by simp[Region.wanted,hg]
   rw[if_pos hwant];refine⟨fun _ _=>trivial, ?_⟩;rw[show(FF none).round=none from rfl,Oper.semAt_none,hrun,Oper.uponIn_defer,hdst];show y.wpIn (FF none) 0 P (bodyPostM (FF none) 0 P fn (mH P B w0 I0 G0 w00 (.ret rs) h3)) {a with defers:=d::a.defers} w
   let X2:ce:=⟨P,B,w0,I0,fn.ntmps,hm,none,w.heap.size,d::gn bs⟩
   have hH2:fc X2 G S {a with defers:=d::a.defers} w:=⟨hr0,[],⟨hfr.size,by show d::a.defers=gn [] ++(d::gn bs);rw[hnil];rfl,hfr.rep,hfr.out⟩,List.nodup_nil,fun _ h=>(by cases h),fun _ h=>(by cases h),fun _ h=>(by cases h),Nat.le_refl _⟩
   refine wpIn_mono (q1 X2 rfl rfl G _ w hH2) ?_;rintro ec a' w' ⟨e',S'',G',xr,⟨rfl,rfl⟩,e1,hr2,bs2,hfr2,hside2⟩;have hsz:w00.heap.size≤w.heap.size:=e0.size
   have main:∀u:FrameMode,u≠ .run→(match pv with|none=>u= .returning|some x=>∃v,u= .panicking [{v,recovered:=false}]∧Rep G' w' x v)→
       LeavesInM (FF none) 0 P fn a'.tmps (mH P B w0 I0 G0 w00 (.ret rs) h3) a'.defers u w':=by
    intro u hu hmode;rw[show a'.defers=gn bs2 ++(d::gn bs)from hfr2.nod];refine dV (B:=w.heap.size) hu bs2 w' hside2.nd hside2.low hside2.live (fun w2 hsh hoth=> ?_);have hsB:Shut B w' w2:=⟨hsh.os,hsh.tape,hsh.output,hsh.size,hsh.oth,fun b hb=>hsh.low b (by omega),hsh.cell⟩
    have hs00:Shut w00.heap.size w' w2:=⟨hsh.os,hsh.tape,hsh.output,hsh.size,hsh.oth,fun b hb=>hsh.low b (by omega),hsh.cell⟩
    have hinv:(invoke d.target d.args).run P w2= .ok (.enter g (c.args.map a.eval ++vs)) w2:=by
     have:=de hcb (c.args.map a.eval ++vs) w2;simpa [invoke,d]using this
    refine⟨hu, .inr ⟨fun x=>(by cases x), .func g,vs,g,c.args.map a.eval ++vs,rfl,hinv,fun _ _=>trivial, ?_⟩⟩
    have hcall:=d1 G' B w0 I0 w2 (c.args.map a.eval ++vs) u (hr2.shut hsB) (by simp[hvl]) (fun i x v hx hv=>by
     have h0:Rep G w x v:=by
      rcases Nat.lt_or_ge i c.args.size with hlt|hge
      ·rw[List.getElem?_append_left (by simpa using hlt)]at hx
       rw[Array.getElem?_append_left (by simpa using hlt)]at hv;simp only[List.getElem?_map,Array.getElem?_toList,Option.map_eq_some_iff]at hx;simp only[Array.getElem?_map,Option.map_eq_some_iff]at hv;obtain⟨p,hp,rfl⟩:=hx;obtain⟨q,hq,rfl⟩:=hv;rw[hp]at hq;cases hq;exact hfr.opd hr0.maps.glob p
      ·rw[List.getElem?_append_right (by simpa using hge)]at hx
       rw[Array.getElem?_append_right (by simpa using hge)]at hv;simp only[List.length_map,Array.length_toList]at hx;simp only[Array.size_map]at hv;exact hcr _ x v hx hv
     exact(h0.mono e1).shut hsB) (by
      cases pv with
      |none=>exact hmode
      |some xv=>
       obtain⟨v,h1,h2⟩:=hmode;exact⟨v,h1,h2.shut hsB⟩)
    refine hcall.mono ?_;rintro e3 u' w3 ⟨vv,G3,rfl,hset,e3,hr3⟩;show LeavesInM (FF none) 0 P fn a'.tmps (mH P B w0 I0 G0 w00 (.ret rs) h3) (gn bs) (settle u') w3;rw[hset,←List.append_nil (gn bs)];refine dV (B:=w00.heap.size) (by simp) bs w3 hside.nd hside.low (fun b hb=> ?_) (fun w4 hsh4 _=> ?_)
    ·have l0:=hside.live b hb
     have hlt:=(Array.getElem?_eq_some_iff.1 l0).1
     have l1:w'.heap[b]? =some (.deferred (some [])):=by
      obtain⟨o,h1,h2⟩:=e1.kept b _ rfl l0;cases h2;exact h1
     have l2:w2.heap[b]? =some (.deferred (some [])):=by
      rw[hoth b (fun hx=>by have:=hside2.low b hx;have h2:X2.s0=w.heap.size:=rfl;omega)];exact l1
     obtain⟨o,h1,h2⟩:=e3.kept b _ rfl l2;cases h2;exact h1
    ·have hsB4:Shut B w3 w4:=⟨hsh4.os,hsh4.tape,hsh4.output,hsh4.size,hsh4.oth,fun b hb=>hsh4.low b (by omega),hsh4.cell⟩
     have hr4:=hr3.shut hsB4;have hfr4:=((hfr2.shut hsB).mono e3).shut hsB4;obtain⟨v,hv,hret⟩:=m8 (S:=⟨S''.env,h3⟩) hr4 hfr4 hres;show ∃v,(results fn a'.tmps).run P w4= .ok v w4∧mH P B w0 I0 G0 w00 (.ret rs) h3 (.returned v) w4;exact⟨v,hv,v,G3,rfl,((((e0.trans e1).ends hs00).trans e3).ends hsh4),hr4,hret⟩
   cases e' with
   |normal=>obtain rfl:=xr.normal;cases hpv;exact main .returning (by simp) rfl
   |ret=>obtain rfl:=xr.ret;cases hpv;exact main .returning (by simp) rfl
   |panic x=>obtain⟨v,rfl,hv⟩:=xr.panic;cases hpv;exact main _ (by simp) ⟨v,rfl,hv⟩
   |exit id=>cases hpv
  ·split at h
   ·rename_i S1 b1 tk1 hx
    split at h;case h_2=>cases h
    rename_i r hr;obtain⟨r1,r2,r3,r4⟩:=r;simp only[Option.some.injEq,Prod.mk.injEq]at h;obtain⟨rfl,rfl,rfl,rfl⟩:=h;obtain⟨q1,q2⟩:=hex _ _ _ _ _ _ _ _ _ hx;obtain⟨p1,p2⟩:=ihy _ _ _ _ _ _ hr
    refine⟨fun k hk=>by
     simp only[List.mem_append,not_or]at hk;exact(p1 k hk.2).trans (q2 k hk.1),fun G a w e0 hh=>wpIn_seq (wpIn_mono (q1 _ rfl rfl G a w hh) ?_)⟩
    rintro ec a' w' ⟨e',S'',G',xr,⟨rfl,rfl⟩,e1,hh'⟩;obtain rfl:=xr.normal;exact p2 G' a' w' (e0.trans e1) hh'
   ·rename_i hne
    cases hx:ex fno base fn.ntmps x S with
    |none=>rw[hx]at h;simp[eK]at h
    |some r=>
     obtain⟨e,S',b',tk'⟩:=r;rw[hx]at h;obtain⟨q1,q2⟩:=hex _ _ _ _ _ _ _ _ _ hx
     have hk:h'=S'.heap∧∀k,k∉tk→k∉tk':=by
      cases e with
      |normal=>exact absurd hx (hne S' b' tk')
      |ret=>simp only[eK,Option.map_eq_some_iff,Prod.mk.injEq]at h;obtain⟨rs,h1,h2,h3,h4,h5⟩:=h;exact⟨h3.symm,fun k hk hx=>hk (by rw[←h5];exact List.mem_append_left _ hx)⟩
      |panic x=>simp only[eK,Option.some.injEq,Prod.mk.injEq]at h;obtain⟨h2,h3,h4,h5⟩:=h;exact⟨h3.symm,fun k hk=>h5▸hk⟩
      |exit id=>simp[eK]at h
     refine⟨fun k hkk=>by rw[hk.1];exact q2 k (hk.2 k hkk),fun G a w e0 hh=>wpIn_seq (wpIn_mono (q1 _ rfl rfl G a w hh) ?_)⟩;rintro ec a' w' ⟨e',S'',G',xr,⟨rfl,rfl⟩,e1,hh'⟩;have fin:=(sD (X:=⟨P,B,w0,I0,fn.ntmps,hm,none,w00.heap.size,[]⟩) rfl hBs rfl h xr (e0.trans e1) hh')
     cases e' with
     |normal=>exact absurd hx (hne S'' b' tk')
     |ret=>obtain rfl:=xr.ret;exact fin
     |panic x=>obtain⟨v,rfl,hv⟩:=xr.panic;exact fin
     |exit id=>simp[eK]at h
 |_=>exact ig _
theorem gc(hm:g0 P)(hn:co P){ex:eU}(hex:hG P ex){base g:Nat}{args:List AV}{h h':ab}{y:xo}{b2:Nat}{tk:List Nat}(hc:j6 P ex base g args h=some (y,h',b2,tk)):
    (match y with| .ret rs=>ay P g args h rs h'| .pan x=>iY P g args h x h')∧∀k,k∉tk→h' k=h k:=by
 unfold j6 at hc;split at hc
 ·cases hc
 rename_i fn hf;split at hc
 ·cases hc
 rename_i b hb;split at hc;case isFalse=>cases hc
 rename_i hl;have hcb:dc P g:=⟨fn,hf,by rw[hb];rfl,hn.1 g fn hf⟩
 have key:∀(G:Gh)(B:Nat)(w0:World)(I0:Nat→Nat→Prop)(w:World)(cargs:Array Value),HR G B w0 I0 h w→cargs.size=args.length→
     (∀(i:Nat)(x:AV)(u:Value),args[i]? =some x→cargs[i]? =some u→Rep G w x u)→Calls P g cargs w (mH P B w0 I0 G w y h'):=fun G B w0 I0 w cargs hr hs hargs=>by
  refine callsIn_wide.1 (callsIn_of_wp_marks (F:=FF none) (n:=0) hf hb trivial ?_);exact(p9 hm hn hex (B:=B) (w0:=w0) (I0:=I0) (G0:=G) (w00:=w) hr.bsz b base _ y h' b2 tk hc).2 G _ w (Ext.refl G w) (li (hm:=hm) hr hs hl hargs)
 have hkeys:=(p9 hm hn hex (B:=0) (w0:=default) (I0:=fun _ _=>False) (G0:=⟨fun _ _=>False,fun _ _=>none,fun _=>0,fun _ _=>none⟩) (w00:=default) (Nat.zero_le _) b base _ y h' b2 tk hc).1;refine⟨?_,hkeys⟩;cases y with
 |ret rs=>exact⟨hcb,fun G B w0 I0 w cargs hr hs hargs=>key G B w0 I0 w cargs hr hs hargs⟩
 |pan x=>exact⟨hcb,fun G B w0 I0 w cargs hr hs hargs=>key G B w0 I0 w cargs hr hs hargs⟩
theorem nY(hm:g0 P)(hn:co P){ex:eU}(hex:hG P ex){base g:Nat}{args rs:List AV}{h h':ab}{b2:Nat}{tk:List Nat}(hc:we P ex base g args h=some (rs,h',b2,tk)):ay P g args h rs h'∧∀k,k∉tk→h' k=h k:=by
 unfold we at hc;split at hc
 ·rename_i rs' h2 b' tk' hx
  simp only[Option.some.injEq,Prod.mk.injEq]at hc;obtain⟨rfl,rfl,rfl,rfl⟩:=hc;exact gc hm hn hex hx
 ·cases hc
theorem qa{g:Nat}(h:pa g=true):aJ.once=some g:=by
 unfold pa at h;split at h
 ·rename_i g' hg;rw[hg,Nat.eq_of_beq_eq_true h]
 ·cases h
theorem qI(hm:g0 P)(hn:co P){ex:eU}(hex:hG P ex){base g:Nat}{args:List AV}{h h':ab}{b2:Nat}{tk:List Nat}(hg:pa g=true)(hc:o9 P ex base args h=some (h',b2,tk)):ay P g args h [] h'∧∀k,k∉tk→h' k=h k:=by
 have hok:=hn.2 g (qa hg);unfold o9 at hc;split at hc;case h_2=>cases hc
 rename_i a f caps;split at hc;case h_2=>cases hc
 rename_i k v i es n m ha;obtain⟨o1,o2⟩:=hok h a f caps k v i es n m ha;split at hc
 ·rename_i hn0
  split at hc
  ·rename_i hm0
   split at hc
   ·rename_i r hr
    split at hc
    ·rename_i k2 v2 i2 es2 n2 m2 ha2
     split at hc
     ·rename_i hcc
      obtain⟨rfl,rfl,rfl,rfl,rfl⟩:=hcc;simp only[Option.some.injEq,Prod.mk.injEq]at hc;obtain⟨rfl,rfl,rfl⟩:=hc;obtain⟨r1,r2,r3,r4⟩:=r;obtain⟨c1,c2⟩:=nY hm hn hex hr;refine⟨o2 hn0 hm0 r1 r2 es2 c1 ha2,fun k' hk'=> ?_⟩;simp only[List.mem_cons,not_or]at hk';exact(am _ _ hk'.1).trans ((c2 k' hk'.2).trans (am _ _ hk'.1))
     ·cases hc
    ·cases hc
   ·cases hc
  ·cases hc
 ·rename_i hn0
  simp only[Option.some.injEq,Prod.mk.injEq]at hc;obtain⟨rfl,rfl,rfl⟩:=hc;exact⟨o1 hn0,fun _ _=>rfl⟩
theorem wn(hm:g0 P){ex:eU}(hex:hG P ex){base k v:Nat}{args:List AV}{h:ab}{r:Bool×ab×Nat×List Nat}(hy:zX ex base k v args h=some r):xK P k v args h [.d (.bool r.1)] r.2.1∧∀k',k'∉r.2.2.2→r.2.1 k'=h k':=by
 unfold zX at hy;split at hy;case h_2=>cases hy
 rename_i fno N env ps Ua bd hob;split at hy;case isFalse=>cases hy
 rename_i hv;split at hy;case h_2=>cases hy
 rename_i env1 henv;split at hy;case h_2=>cases hy
 rename_i S1 b1 tk1 h1;split at hy;case h_2=>cases hy
 rename_i f1 N1 e1 ps1 as1 bd1 hob1;split at hy;case isFalse=>cases hy
 rename_i hv1;split at hy;case h_2=>cases hy
 rename_i q hq;obtain⟨e,S2,b2,tk2⟩:=q;split at hy;case h_2=>cases hy
 rename_i f2 N2 e2 ps2 as2 bd2 st2 z hob2 hz;split at hy;case isFalse=>cases hy
 rename_i hv2;simp only[Option.some.injEq]at hy;subst hy;have a1:=hex _ _ _ _ _ _ _ _ _ h1;have a2:=hex _ _ _ _ _ _ _ _ _ hq;refine⟨p7 hm hv hob henv (fun X hP hN=>a1.1 X hP hN) hv1 hob1 (fun X hP hN=>a2.1 X hP hN) hv2 hob2 hz,fun k' hk'=> ?_⟩;simp only[List.mem_cons,List.mem_append,not_or]at hk';exact(am _ _ hk'.1).trans ((a2.2 k' hk'.2.2).trans ((am _ _ hk'.1).trans (a1.2 k' hk'.2.1)))
def mI(ex:eU):Prop:=∀fno base N c S e S' b' tk,ex fno base N c S=some (e,S',b',tk)→wd∉tk→
 (∀k,k∉tk→S'.heap k=S.heap k)∧∀h2:ab,(∀k,lf tk k→h2 k=S.heap k)→ex fno base N c ⟨S.env,h2⟩=some (e,⟨S'.env,i6 tk S'.heap h2⟩,b',tk)
theorem jj(a b:ab):i6 [] a b=b:=by
 funext k;simp[i6]
theorem Ee{tk:List Nat}{k:Nat}:k∈Ed tk↔JT k∈tk:=by
 unfold Ed JT;rw[List.mem_filterMap];constructor
 ·rintro⟨j,hj,h⟩
  cases hb:Nat.ble 9223372036854775808 j with
  |false=>rw[hb]at h;cases h
  |true=>
   rw[hb]at h;simp only[cond_true,Option.some.injEq]at h;have:=Nat.le_of_ble_eq_true hb;subst h;rw[Nat.sub_add_cancel this];exact hj
 ·intro h
  refine⟨_,h, ?_⟩;have hb:Nat.ble 9223372036854775808 (k+9223372036854775808)=true:=Nat.ble_eq_true_of_le (by omega);rw[hb];simp
theorem iM:∀(tk:List Nat)(h1 h2:ab),aq h2 (gI tk h1)=i6 tk h1 h2
 |[],h1,h2=>(jj h1 h2).symm
 |a::r,h1,h2=>by
  show aq (aM h2 a (h1 a)) (gI r h1)=_;rw[iM r h1];funext k;unfold i6;by_cases hr:k∈r
  ·rw[if_pos hr,if_pos (List.mem_cons_of_mem _ hr)]
  ·rw[if_neg hr]
   by_cases ha:k=a
   ·subst ha;rw[ak,if_pos (List.mem_cons_self ..)]
   ·rw[am _ _ ha,if_neg (by simp[ha,hr])]
theorem nZ{h1 h3:ab}{t1 t2:List Nat}(l2:∀k,k∉t2→h3 k=h1 k)(h2:ab):i6 t2 h3 (i6 t1 h1 h2)=i6 (t1 ++t2) h3 h2:=by
 funext k;unfold i6;by_cases a:k∈t2
 ·rw[if_pos a,if_pos (List.mem_append_right _ a)]
 ·rw[if_neg a]
  by_cases b:k∈t1
  ·rw[if_pos b,if_pos (List.mem_append_left _ b),l2 k a]
  ·rw[if_neg b,if_neg (by simp[a,b])]
theorem x8{h h1 h2:ab}{t1 t2:List Nat}(l1:∀k,k∉t1→h1 k=h k)(hk:∀k,lf (t1 ++t2) k→h2 k=h k):i6 t1 h1 h2=i6 (t1 ++t2) h1 h2:=by
 funext k;unfold i6;by_cases b:k∈t1
 ·rw[if_pos b,if_pos (List.mem_append_left _ b)]
 ·rw[if_neg b]
  by_cases a:k∈t2
  ·rw[if_pos (List.mem_append_right _ a),l1 k b,hk k (.inl (List.mem_append_right _ a))]
  ·rw[if_neg (by simp[a,b])]
theorem gz{h h2:ab}{t1 t2:List Nat}(hk:∀k,lf (t1 ++t2) k→h2 k=h k):∀k,lf t1 k→h2 k=h k:=fun k hs=>hk k (hs.imp (List.mem_append_left _) (List.mem_append_left _))
theorem fy{h h1 h2:ab}{t1 t2:List Nat}(l1:∀k,k∉t1→h1 k=h k)(hk:∀k,lf (t1 ++t2) k→h2 k=h k):∀k,lf t2 k→i6 t1 h1 h2 k=h1 k:=fun k hs=>by
 unfold i6;split
 ·rfl
 ·rename_i b
  rw[l1 k b,hk k (hs.imp (List.mem_append_right _) (List.mem_append_right _))]
theorem lk{t1 t2:List Nat}(h:wd∉t1 ++t2):wd∉t1∧wd∉t2:=by simpa [List.mem_append,not_or]using h
theorem CP{ty:TypeId}{a:AV}{h:ab}{out:Out}(ho:fq P ty a h=some out):∀k∈out.rd,∃v i off sz,a= .ptr k v i off sz:=by
 intro k hk;unfold fq at ho;split at ho
 ·simp only[Option.map_eq_some_iff]at ho
  obtain⟨r,hr,rfl⟩:=ho;unfold ii at hr;repeat' split at hr
  all_goals first
   |(cases hr;done)
   |(simp only[Option.some.injEq]at hr;subst hr;simp at hk;done)
   |(simp only[Option.some.injEq]at hr;subst hr;simp at hk;subst hk;exact⟨_,_,_,_,rfl⟩)
 ·repeat' split at ho
  all_goals first
   |(cases ho;done)
   |(simp only[Option.some.injEq]at ho;subst ho;simp at hk;done)
   |(simp only[Option.map_eq_some_iff]at ho;obtain⟨_,_,rfl⟩:=ho;simp at hk;subst hk;exact⟨_,_,_,_,rfl⟩)
 ·cases ho
theorem j7:∀{rs:List ResultVar}{env:Nat→AV}{h h2:ab}{l:List AV},iZ P ⟨env,h⟩ rs=some l→(∀k,JT k∈lg env rs→h2 k=h k)→iZ P ⟨env,h2⟩ rs=some l
 |[],_,_,_,_,hr,_=>hr
 | .tmp t::r,env,h,h2,l,hr,hk=>by
  simp only[iZ,Option.map_eq_some_iff]at hr ⊢;obtain⟨x,hx,rfl⟩:=hr;exact⟨x,j7 hx hk,rfl⟩
 | .cell t ty::r,env,h,h2,l,hr,hk=>by
  simp only[iZ]at hr ⊢;split at hr
  ·rename_i o xs ho hxs
   have hsub:∀k,JT k∈lg env r→JT k∈lg env (.cell t ty::r):=fun k hx=>by
    simp only[lg];split
    ·exact List.mem_cons_of_mem _ hx
    ·exact hx
   have h1:=nP (h':=h2) ho (fun k hx=>by
    obtain⟨v,i,off,sz,ha⟩:=CP ho k hx;refine hk k ?_;have ha':env t= .ptr k v i off sz:=ha;simp only[lg,ha'];exact List.mem_cons_self ..)
   rw[h1,j7 hxs (fun k hx=>hk k (hsub k hx))];exact hr
  ·cases hr
theorem Aa{ex:eU}(hl:mI ex){base g:Nat}{args:List AV}{x:Option AV}{h h':ab}{b2:Nat}{tk:List Nat}(hnl:wd∉tk)(hc:uk P ex base g args x h=some (h',b2,tk)):
    (∀k,k∉tk→h' k=h k)∧∀h2,(∀k,lf tk k→h2 k=h k)→uk P ex base g args x h2=some (i6 tk h' h2,b2,tk):=by
 unfold uk at hc;split at hc
 ·cases hc
 rename_i fn hf;split at hc;case h_2=>cases hc
 rename_i r c hb;split at hc;case h_2=>cases hc
 rename_i d hd;split at hc;case isFalse=>cases hc
 rename_i hcond;split at hc
 ·rename_i S' b' tk' he
  simp only[Option.some.injEq,Prod.mk.injEq]at hc;obtain⟨rfl,rfl,rfl⟩:=hc;obtain⟨l1,l2⟩:=hl _ _ _ _ _ _ _ _ _ he hnl;refine⟨l1,fun h2 hk=> ?_⟩;have h3:=l2 h2 hk;unfold uk;simp only[hf,hb,hd,if_pos hcond];simp only at h3;rw[h3]
 ·rename_i S' b' tk' he
  simp only[Option.some.injEq,Prod.mk.injEq]at hc;obtain⟨rfl,rfl,rfl⟩:=hc;obtain⟨l1,l2⟩:=hl _ _ _ _ _ _ _ _ _ he hnl;refine⟨l1,fun h2 hk=> ?_⟩;have h3:=l2 h2 hk;unfold uk;simp only[hf,hb,hd,if_pos hcond];simp only at h3;rw[h3]
 ·cases hc
theorem sE{ex:eU}(hl:mI ex){fno base N:Nat}{rs:List ResultVar}{c:Code}{S:St}{y:xo}{h':ab}{b2:Nat}{tk:List Nat}(hnl:wd∉tk)(h:eK P rs (ex fno base N c S)=some (y,h',b2,tk)):
    (∀k,k∉tk→h' k=S.heap k)∧∀h2,(∀k,lf tk k→h2 k=S.heap k)→eK P rs (ex fno base N c ⟨S.env,h2⟩)=some (y,i6 tk h' h2,b2,tk):=by
 cases hx:ex fno base N c S with
 |none=>rw[hx]at h;simp[eK]at h
 |some r=>
  obtain⟨e,S',b',tk'⟩:=r;rw[hx]at h
  have fin:∀(l:List AV),iZ P S' rs=some l→wd∉tk' ++lg S'.env rs→(∀k,k∉tk' ++lg S'.env rs→S'.heap k=S.heap k)∧
      ∀h2,(∀k,lf (tk' ++lg S'.env rs) k→h2 k=S.heap k)→ex fno base N c ⟨S.env,h2⟩=some (e,⟨S'.env,i6 tk' S'.heap h2⟩,b',tk')∧iZ P ⟨S'.env,i6 tk' S'.heap h2⟩ rs=some l∧i6 tk' S'.heap h2=i6 (tk' ++lg S'.env rs) S'.heap h2:=by
   intro l hl1 hnl2;obtain⟨l1,l2⟩:=hl _ _ _ _ _ _ _ _ _ hx (lk hnl2).1;refine⟨fun k hk=>l1 k (fun hx=>hk (List.mem_append_left _ hx)),fun h2 hk=>⟨l2 h2 (gz hk),j7 (h:=S'.heap) hl1 (fun k hkk=> ?_),x8 l1 hk⟩⟩;exact fy l1 hk k (.inr hkk)
  cases e with
  |normal=>
   simp only[eK,Option.map_eq_some_iff,Prod.mk.injEq]at h;obtain⟨l,h1,rfl,rfl,rfl,rfl⟩:=h;obtain⟨f1,f2⟩:=fin l h1 hnl;refine⟨f1,fun h2 hk=> ?_⟩;obtain⟨g1,g2,g3⟩:=f2 h2 hk;rw[g1];simp only[eK,g2,Option.map_some];rw[g3]
  |ret=>
   simp only[eK,Option.map_eq_some_iff,Prod.mk.injEq]at h;obtain⟨l,h1,rfl,rfl,rfl,rfl⟩:=h;obtain⟨f1,f2⟩:=fin l h1 hnl;refine⟨f1,fun h2 hk=> ?_⟩;obtain⟨g1,g2,g3⟩:=f2 h2 hk;rw[g1];simp only[eK,g2,Option.map_some];rw[g3]
  |panic x=>
   simp only[eK,Option.some.injEq,Prod.mk.injEq]at h;obtain⟨rfl,rfl,rfl,rfl⟩:=h;obtain⟨l1,l2⟩:=hl _ _ _ _ _ _ _ _ _ hx hnl;refine⟨l1,fun h2 hk=> ?_⟩;rw[l2 h2 hk];rfl
  |exit id=>simp[eK]at h
theorem x9{ex:eU}(hl:mI ex){fno N:Nat}{rs:List ResultVar}:∀(c:Code)(base:Nat)(S:St)(y:xo)(h':ab)(b2:Nat)(tk:List Nat),wd∉tk→
    kz P ex fno N rs c base S=some (y,h',b2,tk)→(∀k,k∉tk→h' k=S.heap k)∧∀h2,(∀k,lf tk k→h2 k=S.heap k)→kz P ex fno N rs c base ⟨S.env,h2⟩=some (y,i6 tk h' h2,b2,tk):=by
 intro c;induction c with
 |seq x y _ ihy=>
  intro base S yw h' b2 tk hnl h;simp only[kz]at h;split at h
  ·rename_i f asg hdef
   split at h;case h_2=>cases h
   rename_i g caps hf;split at h;case h_2=>cases h
   rename_i e S2 b2' tk' hx;split at h;case h_2=>cases h
   rename_i pv hpv;split at h;case h_2=>cases h
   rename_i r hr;obtain⟨h3,b3,tk3⟩:=r;simp only[Option.map_eq_some_iff,Prod.mk.injEq]at h;obtain⟨l,hres,rfl,rfl,rfl,rfl⟩:=h;obtain⟨n1,n2⟩:=lk hnl;obtain⟨n3,n4⟩:=lk n2;obtain⟨l1,l2⟩:=hl _ _ _ _ _ _ _ _ _ hx n1;obtain⟨d1,d2⟩:=Aa hl n3 hr
   have d12:∀k,k∉tk' ++tk3→h3 k=S.heap k:=fun k hk=>by
    simp only[List.mem_append,not_or]at hk;exact(d1 k hk.2).trans (l1 k hk.1)
   refine⟨fun k hk=>d12 k (fun hx=>hk (by rw[←List.append_assoc];exact List.mem_append_left _ hx)),fun h2 hk=> ?_⟩;have hk1:=gz hk;have hk':∀k,lf ((tk' ++tk3) ++lg S2.env rs) k→h2 k=S.heap k:=by rw[List.append_assoc];exact hk
   have hk12:=gz hk';have g1:=l2 h2 hk1;have g2:=d2 (i6 tk' S2.heap h2) (fy l1 hk12);rw[nZ d1]at g2;have g3:=j7 (h:=h3) (h2:=i6 (tk' ++tk3) h3 h2) hres (fun k hkk=>fy d12 hk' k (.inr hkk));simp only[kz,hdef,hf,g1,hpv];rw[g2];simp only[g3,Option.map_some];rw[x8 d12 hk',List.append_assoc]
  ·rename_i hdef
   split at h
   ·rename_i S1 b1 tk1 hx
    split at h;case h_2=>cases h
    rename_i r hr;obtain⟨r1,r2,r3,r4⟩:=r;simp only[Option.some.injEq,Prod.mk.injEq]at h;obtain⟨rfl,rfl,rfl,rfl⟩:=h;obtain⟨n1,n2⟩:=lk hnl;obtain⟨l1,l2⟩:=hl _ _ _ _ _ _ _ _ _ hx n1;obtain⟨p1,p2⟩:=ihy _ _ _ _ _ _ n2 hr
    refine⟨fun k hk=>by
     simp only[List.mem_append,not_or]at hk;exact(p1 k hk.2).trans (l1 k hk.1),fun h2 hk=> ?_⟩
    have g1:=l2 h2 (gz hk);have g2:=p2 (i6 tk1 S1.heap h2) (fy l1 hk);rw[nZ p1]at g2;simp only[kz,hdef,g1];rw[g2]
   ·rename_i hne
    obtain⟨o1,o2⟩:=sE hl hnl h;refine⟨o1,fun h2 hk=> ?_⟩;have g:=o2 h2 hk;simp only[kz,hdef];split
    ·rename_i S3 b3 tk3 he
     cases hx:ex fno base N x S with
     |none=>rw[hx]at h;simp[eK]at h
     |some r=>
      obtain⟨e,S',b',tk'⟩:=r;have hxx:=hx;rw[hx]at h
      have hn':wd∉tk'∧∀k,lf tk' k→lf tk k:=by
       cases e with
       |normal=>exact absurd hxx (hne _ _ _)
       |ret=>simp only[eK,Option.map_eq_some_iff,Prod.mk.injEq]at h;obtain⟨l,_,_,_,_,rfl⟩:=h;exact⟨(lk hnl).1,fun k hs=>hs.imp (List.mem_append_left _) (List.mem_append_left _)⟩
       |panic x=>simp only[eK,Option.some.injEq,Prod.mk.injEq]at h;obtain⟨_,_,_,rfl⟩:=h;exact⟨hnl,fun k hs=>hs⟩
       |exit id=>simp[eK]at h
      have:=(hl _ _ _ _ _ _ _ _ _ hxx hn'.1).2 h2 (fun k hs=>hk k (hn'.2 k hs));rw[he]at this;simp only[Option.some.injEq,Prod.mk.injEq]at this;rw[←this.1]at hxx;exact absurd hxx (hne _ _ _)
    ·exact g
 |_=>intro base S y h' b2 tk hnl h;exact sE hl hnl h
theorem j8{ex:eU}(hl:mI ex){base g:Nat}{args:List AV}{h h':ab}{y:xo}{b2:Nat}{tk:List Nat}(hnl:wd∉tk)(hc:j6 P ex base g args h=some (y,h',b2,tk)):
    (∀k,k∉tk→h' k=h k)∧∀h2,(∀k,lf tk k→h2 k=h k)→j6 P ex base g args h2=some (y,i6 tk h' h2,b2,tk):=by
 unfold j6 at hc ⊢;split at hc
 ·cases hc
 split at hc
 ·cases hc
 split at hc;case isFalse=>cases hc
 rename_i fn hf _ b hb hl2;obtain⟨b1,b2⟩:=x9 hl _ _ _ _ _ _ _ hnl hc;refine⟨b1,fun h2 hk=> ?_⟩;simp only[hf,hb,if_pos hl2];exact b2 h2 hk
def StepR.tk:StepR→List Nat
 | .go _ _ _ tk=>tk
 | .pan _ _ _ tk=>tk
def StepR.heap:StepR→ab
 | .go S _ _ _=>S.heap
 | .pan _ h _ _=>h
def StepR.at(h2:ab):StepR→StepR
 | .go S ft b tk=> .go ⟨S.env,i6 tk S.heap h2⟩ ft b tk
 | .pan x h b tk=> .pan x (i6 tk h h2) b tk
def OpsR.tk:OpsR→List Nat
 | .go _ _ _ tk=>tk
 | .pan _ _ _ _ _ tk=>tk
def OpsR.heap:OpsR→ab
 | .go S _ _ _=>S.heap
 | .pan _ _ _ h _ _=>h
def OpsR.at(h2:ab):OpsR→OpsR
 | .go S ft b tk=> .go ⟨S.env,i6 tk S.heap h2⟩ ft b tk
 | .pan p fts x h b tk=> .pan p fts x (i6 tk h h2) b tk
theorem qb{ex:eU}(hl:mI ex){fno base N i:Nat}{ops:Array Oper}{o:Oper}{S:St}{r:StepR}(hnl:wd∉r.tk)(h:iK P obm hp mm ex fno base N ops i o S=some r):
    (∀k,k∉r.tk→r.heap k=S.heap k)∧∀h2,(∀k,lf r.tk k→h2 k=S.heap k)→iK P obm hp mm ex fno base N ops i o ⟨S.env,h2⟩=some (r.at h2):=by
 unfold iK at h;split at h
 ·rename_i hw
  split at h
  ·rename_i g args hci
   split at h
   ·rename_i hone
    split at h
    ·simp only[Option.map_eq_some_iff]at h
     obtain⟨env,_,rfl⟩:=h;exact absurd (List.mem_cons_self ..) hnl
    ·cases h
   rename_i hone;split at h
   ·rename_i ds hds
    split at h
    ·rename_i rs hrs
     simp only[Option.map_eq_some_iff]at h;obtain⟨env,hpt,rfl⟩:=h;refine⟨fun _ _=>rfl,fun h2 hk=> ?_⟩;unfold iK;simp only[hw,hci,hone,Bool.false_eq_true,if_false,hds,hrs,hpt,Option.map_some,StepR.at,jj]
    ·cases h
   ·rename_i hds
    split at h
    ·rename_i r1 r2 r3 r4 hr
     simp only[Option.map_eq_some_iff]at h;obtain⟨env,hpt,rfl⟩:=h;obtain⟨l1,l2⟩:=j8 hl (tk:=r4) hnl hr;refine⟨l1,fun h2 hk=> ?_⟩;have g:=l2 h2 hk;unfold iK;simp only[hw,hci,hone,Bool.false_eq_true,if_false,hds,g,hpt,Option.map_some,StepR.at]
    ·rename_i r1 r2 r3 r4 hr
     simp only[Option.some.injEq]at h;subst h;obtain⟨l1,l2⟩:=j8 hl (tk:=r4) hnl hr;refine⟨l1,fun h2 hk=> ?_⟩;have g:=l2 h2 hk;unfold iK;simp only[hw,hci,hone,Bool.false_eq_true,if_false,hds,g,StepR.at]
    ·cases h
  ·rename_i hci
   split at h
   ·split at h
    ·simp only[Option.map_eq_some_iff]at h
     obtain⟨env,_,rfl⟩:=h;exact absurd (List.mem_cons_self ..) hnl
    ·cases h
   rename_i hyl;split at h
   ·rename_i out hcore
    split at h;case h_2=>cases h
    rename_i hnob;simp only[Option.map_eq_some_iff]at h;obtain⟨env,hpt,rfl⟩:=h;refine⟨fun k hk=>bV _ _ (fun hx=>hk (List.mem_append_right _ hx)),fun h2 hk=> ?_⟩;have g:=sm (h':=h2) hcore (fun k hkk=>hk k (.inr (List.mem_append_left _ (List.mem_map_of_mem hkk))));unfold iK;simp only[hw,hci,hyl,g,hnob,hpt,Option.map_some,StepR.at];congr 3;funext k;unfold i6;by_cases a:k∈out.wr.map (·.1)
    ·rw[if_pos (List.mem_append_right _ a)]
     exact lW _ _ _ a
    ·rw[bV _ _ a]
     split
     ·rename_i b
      rw[bV _ _ a];exact hk k (.inl b)
     ·rfl
   ·rename_i hcore
    have hpan:∃u t y,o.op= .panic u∧opd S.env u= .iv t y∧r= .pan (.iv t y) S.heap base []:=by
     unfold xW at h;split at h
     ·rename_i u hop
      split at h
      ·rename_i t y hu
       simp only[Option.some.injEq]at h;exact⟨u,t,y,hop,hu,h.symm⟩
      ·cases h
     ·cases h
    obtain⟨u,t,y,hop,hu,rfl⟩:=hpan;refine⟨fun _ _=>rfl,fun h2 hk=> ?_⟩;unfold iK
    have hc2:bN P {obm:=fun _=>obm fno (o.dst.getD 0),base:=fun _=>base} i o (opd S.env) h2=none:=by
     unfold bN;rw[hop]
    simp only[hw,hci,hyl,hc2,xW,hop,hu,StepR.at,jj]
 ·rename_i hw
  simp only[Option.map_eq_some_iff]at h;obtain⟨env,hpt,rfl⟩:=h;refine⟨fun _ _=>rfl,fun h2 hk=> ?_⟩;unfold iK;simp only[hw,hpt,Option.map_some,StepR.at,jj]
 ·cases h
theorem m9{ex:eU}(hl:mI ex){fno N:Nat}{ops:Array Oper}:∀(l:List Oper)(i base:Nat)(S:St)(r:OpsR),wd∉r.tk→kC P obm hp mm ex fno N ops l i base S=some r→
    (∀k,k∉r.tk→r.heap k=S.heap k)∧∀h2,(∀k,lf r.tk k→h2 k=S.heap k)→kC P obm hp mm ex fno N ops l i base ⟨S.env,h2⟩=some (r.at h2)
 |[],i,base,S,r,_,h=>by
  simp only[kC,Option.some.injEq]at h;subst h;exact⟨fun _ _=>rfl,fun h2 _=>by simp only[kC,OpsR.at,jj]⟩
 |o::l,i,base,S,r,hnl,h=>by
  simp only[kC]at h;split at h
  ·cases h
  ·rename_i x h1 b tk hs
   simp only[Option.some.injEq]at h;subst h;obtain⟨s1,s2⟩:=qb hl (r:= .pan x h1 b tk) hnl hs;refine⟨s1,fun h2 hk=> ?_⟩;have g:=s2 h2 hk;simp only[kC,g,StepR.at,OpsR.at]
  ·rename_i S1 ft b1 tk1 hs
   have key:∀r2:OpsR,kC P obm hp mm ex fno N ops l (i+1) b1 S1=some r2→wd∉tk1 ++r2.tk→(∀k,k∉tk1 ++r2.tk→r2.heap k=S.heap k)∧
       ∀h2,(∀k,lf (tk1 ++r2.tk) k→h2 k=S.heap k)→iK P obm hp mm ex fno base N ops i o ⟨S.env,h2⟩=some (.go ⟨S1.env,i6 tk1 S1.heap h2⟩ ft b1 tk1)∧kC P obm hp mm ex fno N ops l (i+1) b1 ⟨S1.env,i6 tk1 S1.heap h2⟩=some (r2.at (i6 tk1 S1.heap h2))∧i6 r2.tk r2.heap (i6 tk1 S1.heap h2)=i6 (tk1 ++r2.tk) r2.heap h2:=by
    intro r2 hr2 hn2;obtain⟨n1,n2⟩:=lk hn2;obtain⟨s1,s2⟩:=qb hl (r:= .go S1 ft b1 tk1) n1 hs;obtain⟨o1,o2⟩:=m9 hl l (i+1) b1 S1 r2 n2 hr2;refine⟨fun k hk=> ?_,fun h2 hk=>⟨s2 h2 (gz hk),o2 _ (fy s1 hk),nZ o1 h2⟩⟩;simp only[List.mem_append,not_or]at hk;exact(o1 k hk.2).trans (s1 k hk.1)
   split at h
   ·cases h
   ·rename_i S2 fts b2 tk2 ho
    simp only[Option.some.injEq]at h;subst h;obtain⟨k1,k2⟩:=key _ ho hnl;refine⟨k1,fun h2 hk=> ?_⟩;obtain⟨g1,g2,g3⟩:=k2 h2 hk;have g3':i6 tk2 S2.heap (i6 tk1 S1.heap h2)=i6 (tk1 ++tk2) S2.heap h2:=g3;simp only[kC,g1,g2,OpsR.at,g3']
   ·rename_i p fts x h1 b2 tk2 ho
    simp only[Option.some.injEq]at h;subst h;obtain⟨k1,k2⟩:=key _ ho hnl;refine⟨k1,fun h2 hk=> ?_⟩;obtain⟨g1,g2,g3⟩:=k2 h2 hk;have g3':i6 tk2 h1 (i6 tk1 S1.heap h2)=i6 (tk1 ++tk2) h1 h2:=g3;simp only[kC,g1,g2,OpsR.at,g3']
theorem lr:∀n,mI (bL P obm hp mm n)
 |0=>fun fno base N c S e S' b' tk h=>by simp[bL]at h
 |n+1=>fun fno base N c S e S' b' tk h hnl=>by
  have ih:=lr n;cases c with
  |region id ops draw=>
   simp only[bL]at h ⊢;split at h
   ·rename_i S1 fts b1 tk1 hr
    have hh:S'=S1∧e= .normal∧tk=tk1∧b'=b1∧(draw=false∨so ops fts=true):=by
     split at h
     ·simp only[Option.some.injEq,Prod.mk.injEq]at h
      obtain⟨rfl,rfl,rfl,rfl⟩:=h;exact⟨rfl,rfl,rfl,rfl, .inl rfl⟩
     ·split at h
      ·rename_i hlex
       simp only[Option.some.injEq,Prod.mk.injEq]at h;obtain⟨rfl,rfl,rfl,rfl⟩:=h;exact⟨rfl,rfl,rfl,rfl, .inr hlex⟩
      ·cases h
    obtain⟨rfl,rfl,rfl,rfl,hd⟩:=hh;obtain⟨o1,o2⟩:=m9 ih _ _ _ _ (.go S' fts b' tk) hnl hr;refine⟨o1,fun h2 hk=> ?_⟩;have g:=o2 h2 hk;rw[g];simp only[OpsR.at];cases draw with
    |false=>rfl
    |true=>rw[hd.resolve_left (by simp)]
   ·rename_i p fts x h1 b1 tk1 hr
    have hh:S'=⟨lc ops S.env,h1⟩∧e= .panic x∧tk=tk1∧b'=b1∧(draw=false∨o8 ops fts p=true):=by
     split at h
     ·simp only[Option.some.injEq,Prod.mk.injEq]at h
      obtain⟨rfl,rfl,rfl,rfl⟩:=h;exact⟨rfl,rfl,rfl,rfl, .inl rfl⟩
     ·split at h
      ·rename_i hlex
       simp only[Option.some.injEq,Prod.mk.injEq]at h;obtain⟨rfl,rfl,rfl,rfl⟩:=h;exact⟨rfl,rfl,rfl,rfl, .inr hlex⟩
      ·cases h
    obtain⟨rfl,rfl,rfl,rfl,hd⟩:=hh;obtain⟨o1,o2⟩:=m9 ih _ _ _ _ (.pan p fts x h1 b' tk) hnl hr;refine⟨o1,fun h2 hk=> ?_⟩;have g:=o2 h2 hk;rw[g];simp only[OpsR.at];cases draw with
    |false=>rfl
    |true=>rw[hd.resolve_left (by simp)]
   ·cases h
  |seq x y=>
   simp only[bL]at h ⊢;split at h
   ·rename_i S1 b1 tk1 h1
    split at h
    ·rename_i e2 S2 b2 tk2 h2'
     simp only[Option.some.injEq,Prod.mk.injEq]at h;obtain⟨rfl,rfl,rfl,rfl⟩:=h;obtain⟨n1,n2⟩:=lk hnl;obtain⟨a1,a2⟩:=ih _ _ _ _ _ _ _ _ _ h1 n1;obtain⟨c1,c2⟩:=ih _ _ _ _ _ _ _ _ _ h2' n2
     refine⟨fun k hk=>by
      simp only[List.mem_append,not_or]at hk;exact(c1 k hk.2).trans (a1 k hk.1),fun h2 hk=> ?_⟩
     have g1:=a2 h2 (gz hk);have g2:=c2 (i6 tk1 S1.heap h2) (fy a1 hk);rw[nZ c1]at g2;simp only[g1,g2]
    ·cases h
   ·rename_i hno
    obtain⟨a1,a2⟩:=ih _ _ _ _ _ _ _ _ _ h hnl;refine⟨a1,fun h2 hk=> ?_⟩;rw[a2 h2 hk];cases e with
    |normal=>exact absurd h (hno _ _ _)
    |_=>rfl
  |block id x=>
   simp only[bL]at h ⊢;split at h
   ·rename_i i S1 b1 tk1 h1
    have hh:S'=S1∧tk=tk1∧b'=b1∧e=(if i=id then .normal else .exit i):=by
     split at h
     ·rename_i hi;rw[if_pos hi];simp only[Option.some.injEq,Prod.mk.injEq]at h;obtain⟨rfl,rfl,rfl,rfl⟩:=h;exact⟨rfl,rfl,rfl,rfl⟩
     ·rename_i hi;rw[if_neg hi];simp only[Option.some.injEq,Prod.mk.injEq]at h;obtain⟨rfl,rfl,rfl,rfl⟩:=h;exact⟨rfl,rfl,rfl,rfl⟩
    obtain⟨rfl,rfl,rfl,rfl⟩:=hh;obtain⟨a1,a2⟩:=ih _ _ _ _ _ _ _ _ _ h1 hnl;refine⟨a1,fun h2 hk=> ?_⟩;rw[a2 h2 hk];by_cases hi:i=id<;>simp[hi]
   ·rename_i hno
    obtain⟨a1,a2⟩:=ih _ _ _ _ _ _ _ _ _ h hnl;refine⟨a1,fun h2 hk=> ?_⟩;rw[a2 h2 hk];cases e with
    |exit i=>exact absurd h (hno _ _ _ _)
    |_=>rfl
  |loop x=>
   simp only[bL]at h ⊢;split at h
   ·rename_i S1 b1 tk1 h1
    split at h
    ·rename_i e2 S2 b2 tk2 h2'
     simp only[Option.some.injEq,Prod.mk.injEq]at h;obtain⟨rfl,rfl,rfl,rfl⟩:=h;obtain⟨n1,n2⟩:=lk hnl;obtain⟨a1,a2⟩:=ih _ _ _ _ _ _ _ _ _ h1 n1;obtain⟨c1,c2⟩:=ih _ _ _ _ _ _ _ _ _ h2' n2
     refine⟨fun k hk=>by
      simp only[List.mem_append,not_or]at hk;exact(c1 k hk.2).trans (a1 k hk.1),fun h2 hk=> ?_⟩
     have g1:=a2 h2 (gz hk);have g2:=c2 (i6 tk1 S1.heap h2) (fy a1 hk);rw[nZ c1]at g2;simp only[g1,g2]
    ·cases h
   ·rename_i hno
    obtain⟨a1,a2⟩:=ih _ _ _ _ _ _ _ _ _ h hnl;refine⟨a1,fun h2 hk=> ?_⟩;rw[a2 h2 hk];cases e with
    |normal=>exact absurd h (hno _ _ _)
    |_=>rfl
  |skip=>simp only[bL,Option.some.injEq,Prod.mk.injEq]at h;obtain⟨rfl,rfl,rfl,rfl⟩:=h;exact⟨fun _ _=>rfl,fun h2 _=>by simp only[bL,jj]⟩
  |exit i=>simp only[bL,Option.some.injEq,Prod.mk.injEq]at h;obtain⟨rfl,rfl,rfl,rfl⟩:=h;exact⟨fun _ _=>rfl,fun h2 _=>by simp only[bL,jj]⟩
  |ret=>simp only[bL,Option.some.injEq,Prod.mk.injEq]at h;obtain⟨rfl,rfl,rfl,rfl⟩:=h;exact⟨fun _ _=>rfl,fun h2 _=>by simp only[bL,jj]⟩
  |cond c x y=>
   simp only[bL]at h ⊢;split at h
   ·rename_i b hb
    cases b with
    |true=>
     obtain⟨a1,a2⟩:=ih _ _ _ _ _ _ _ _ _ h hnl;exact⟨a1,fun h2 hk=>by simp only[hb];exact a2 h2 hk⟩
    |false=>
     obtain⟨a1,a2⟩:=ih _ _ _ _ _ _ _ _ _ h hnl;exact⟨a1,fun h2 hk=>by simp only[hb];exact a2 h2 hk⟩
   ·cases h
  |rangeFunc g ps asg bd=>
   simp only[bL]at h;split at h;case h_2=>cases h
   split at h;case h_2=>cases h
   split at h;case h_2=>cases h
   split at h;case isFalse=>cases h
   split at h;case h_2=>cases h
   simp only[Option.some.injEq,Prod.mk.injEq]at h;obtain⟨_,_,_,rfl⟩:=h;exact absurd (List.mem_cons_self ..) hnl
  |_=>simp[bL]at h
theorem sF(hm:g0 P)(hn:co P){ex:eU}(hex:hG P ex)(hlc:mI ex){fno base N i:Nat}{ops:Array Oper}{o:Oper}{S S':St}{ft:Foot}{b2:Nat}{tk:List Nat}(h:iK P obm hp mm ex fno base N ops i o S=some (.go S' ft b2 tk)):
    (∃r:lY,∀cfg:iA,cfg.ret i=r.ret→cfg.hc i=r.hc→cfg.obm i=obm fno (o.dst.getD 0)→cfg.base i=r.base→∃ob,bF P cfg N ops i o S=some (S',ob,ft)∧fT P ob)∧∀k,k∉tk→S'.heap k=S.heap k:=by
 unfold iK at h;split at h
 ·rename_i hw
  split at h
  ·rename_i g args hci
   obtain⟨hco,hext⟩:=lh hci;split at h
   ·rename_i hone
    split at h
    ·rename_i r hr
     simp only[Option.map_eq_some_iff,StepR.go.injEq]at h;obtain⟨env,hpt,rfl,rfl,rfl,rfl⟩:=h;obtain⟨r1,r2,r3⟩:=r;obtain⟨c1,c2⟩:=qI hm hn hex hone hr;refine⟨⟨⟨[],some (.heap [] r1 r3),base⟩,fun cfg h1 h2 h3 h4=>⟨[.heap g args S.heap [] r1], ?_, ?_⟩⟩,fun k hk=>c2 k (fun hx=>hk (List.mem_cons_of_mem _ hx))⟩
     ·unfold bF
      rw[hw];simp only[h2,hco,gY,hpt,Option.map_some];rw[if_pos c2]
     ·intro c hc
      simp only[List.mem_singleton]at hc;subst hc;exact c1
    ·cases h
   split at h
   ·rename_i ds hds
    split at h
    ·rename_i rs hrs
     simp only[Option.map_eq_some_iff,StepR.go.injEq]at h;obtain⟨env,hpt,rfl,rfl,rfl,rfl⟩:=h
     have htd:qu args=some ds:=by
      split at hds
      ·cases hds
      ·exact hds
     refine⟨⟨⟨rs,none,base⟩,fun cfg h1 h2 h3 h4=>⟨[.data (g,ds,rs)], ?_, ?_⟩⟩,fun _ _=>rfl⟩
     ·unfold bF
      rw[hw];simp only[h2]
      have hcore:bN P cfg i o (opd S.env) S.heap=some {val:=jA rs,ob:=[(g,ds,rs)]}:=by
       unfold dr at hco;split at hco
       ·rename_i c hop
        split at hco
        ·rename_i f hcal
         split at hco
         ·rename_i g' caps hf
          simp only[Option.some.injEq,Prod.mk.injEq]at hco;obtain⟨rfl,rfl⟩:=hco;simp only[bN,hop,bP,hcal,hf,hext,gu,htd,h1]
         ·cases hco
        ·cases hco
       ·cases hco
      simp only[hcore,hpt,Option.map_some,aq,List.map_cons,List.map_nil]
     ·intro c hc
      simp only[List.mem_singleton]at hc;subst hc;exact wh hm hn hex hrs
    ·cases h
   ·split at h
    ·rename_i r1 r2 r3 r4 hr
     simp only[Option.map_eq_some_iff,StepR.go.injEq]at h;obtain⟨env,hpt,rfl,rfl,rfl,rfl⟩:=h;obtain⟨c1,c2⟩:=gc hm hn hex hr
     replace c1:ay P g args S.heap r1 r2:=c1
     by_cases hnl:r4.contains wd=true
     ·refine⟨⟨⟨[],some (.heap r1 r2 r4),base⟩,fun cfg h1 h2 h3 h4=>⟨[.heap g args S.heap r1 r2], ?_, ?_⟩⟩,c2⟩
      ·unfold bF sA
       rw[hw,if_pos hnl];simp only[h2,hco,hpt,Option.map_some];rw[if_pos c2]
      ·intro c hc
       simp only[List.mem_singleton]at hc;subst hc;exact c1
     ·have hnl':wd∉r4:=fun hx=>hnl (by simpa using hx)
      obtain⟨l1,l2⟩:=j8 hlc hnl' hr;refine⟨⟨⟨[],some (.exact (r4 ++Ed r4) S.heap r1 r4 r2),base⟩,fun cfg h1 h2 h3 h4=>⟨[.exact g args (r4 ++Ed r4) S.heap r1 r4 r2], ?_, ?_⟩⟩,c2⟩
      ·unfold bF sA
       rw[hw,if_neg hnl];simp only[h2,hco,hpt,Option.map_some];rw[if_pos (fun _ _=>trivial)]
       have:aq S.heap (gI r4 r2)=r2:=by
        rw[iM];funext k;unfold i6;split
        ·rfl
        ·rename_i hk;exact(c2 k hk).symm
       rw[this]
      ·intro c hc
       simp only[List.mem_singleton]at hc;subst hc;intro h5 h6
       have h7:=l2 h5 (fun k hk=>h6 k (by
        rcases hk with hk|hk
        ·exact List.mem_append_left _ hk
        ·exact List.mem_append_right _ (Ee.2 hk)))
       rw[iM];exact(gc hm hn hex h7).1
    ·cases h
    ·cases h
  ·split at h
   ·rename_i y hyl
    split at h
    ·rename_i r hr
     simp only[Option.map_eq_some_iff,StepR.go.injEq]at h;obtain⟨env,hpt,rfl,rfl,rfl,rfl⟩:=h;obtain⟨k,v,args⟩:=y;obtain⟨c1,c2⟩:=wn hm hex hr;refine⟨⟨⟨[],some (.heap [.d (.bool r.1)] r.2.1 r.2.2.2),base⟩,fun cfg h1 h2 h3 h4=>⟨[.yield k v args S.heap [.d (.bool r.1)] r.2.1], ?_, ?_⟩⟩,fun k hk=>c2 k (fun hx=>hk (List.mem_cons_of_mem _ hx))⟩
     ·unfold bF
      rw[hw];simp only[h2,nW hyl,hyl,gY,hpt,Option.map_some];rw[if_pos c2]
     ·intro c hc
      simp only[List.mem_singleton]at hc;subst hc;exact c1
    ·cases h
   split at h
   ·rename_i out hcore
    split at h;case h_2=>cases h
    rename_i hnob;simp only[Option.map_eq_some_iff,StepR.go.injEq]at h;obtain⟨env,hpt,rfl,rfl,rfl,rfl⟩:=h;refine⟨⟨⟨[],none,base⟩,fun cfg h1 h2 h3 h4=>⟨out.ob.map .data, ?_, ?_⟩⟩,fun k hk=>bV _ _ (fun hx=>hk (List.mem_append_right _ hx))⟩
    ·unfold bF
     rw[hw];simp only[h2];rw[xY (cfg':=cfg) (cfg:={obm:=fun _=>obm fno (o.dst.getD 0),base:=fun _=>base}) h1 h3 h4,hcore];simp only[hpt,Option.map_some]
    ·rw[hnob]
     intro c hc;cases hc
   ·unfold xW at h
    split at h
    ·split at h<;>cases h
    ·cases h
 ·rename_i hw
  simp only[Option.map_eq_some_iff,StepR.go.injEq]at h;obtain⟨env,hpt,rfl,rfl,rfl,rfl⟩:=h;refine⟨⟨⟨[],none,base⟩,fun cfg h1 h2 h3 h4=>⟨[], ?_,fun c hc=>by cases hc⟩⟩,fun _ _=>rfl⟩;unfold bF;rw[hw];simp only[hpt,Option.map_some]
 ·cases h
theorem CQ(hm:g0 P)(hn:co P){ex:eU}(hex:hG P ex){fno base N i:Nat}{ops:Array Oper}{o:Oper}{S:St}{x:AV}{h':ab}{b2:Nat}{tk:List Nat}(h:iK P obm hp mm ex fno base N ops i o S=some (.pan x h' b2 tk)):
    db ops o S.env=some true∧CN P o S x h'∧∀k,k∉tk→h' k=S.heap k:=by
 unfold iK at h;split at h
 ·rename_i hw
  refine⟨hw, ?_⟩;split at h
  ·rename_i g args hci
   obtain⟨hco,hext⟩:=lh hci;split at h
   ·split at h
    ·simp only[Option.map_eq_some_iff]at h
     obtain⟨env,_,h⟩:=h;cases h
    ·cases h
   split at h
   ·split at h
    ·simp only[Option.map_eq_some_iff]at h
     obtain⟨env,_,h⟩:=h;cases h
    ·cases h
   ·split at h
    ·simp only[Option.map_eq_some_iff]at h
     obtain⟨env,_,h⟩:=h;cases h
    ·rename_i r1 r2 r3 r4 hr
     simp only[Option.some.injEq,StepR.pan.injEq]at h;obtain⟨rfl,rfl,rfl,rfl⟩:=h;obtain⟨c1,c2⟩:=gc hm hn hex hr;exact⟨.inr ⟨g,args,hco,c1⟩,c2⟩
    ·cases h
  ·split at h
   ·split at h
    ·simp only[Option.map_eq_some_iff]at h
     obtain⟨env,_,h⟩:=h;cases h
    ·cases h
   split at h
   ·split at h
    case h_2=>cases h
    simp only[Option.map_eq_some_iff]at h;obtain⟨env,_,h⟩:=h;cases h
   ·unfold xW at h
    split at h
    ·rename_i u hop
     split at h
     ·rename_i t y hu
      simp only[Option.some.injEq,StepR.pan.injEq]at h;obtain⟨rfl,rfl,rfl,rfl⟩:=h;exact⟨.inl ⟨u,t,y,hop,hu,rfl,rfl⟩,fun _ _=>rfl⟩
     ·cases h
    ·cases h
 ·simp only[Option.map_eq_some_iff]at h
  obtain⟨env,_,h⟩:=h;cases h
 ·cases h
theorem sG{cfg:iA}{N:Nat}{ops:Array Oper}:∀(l:List Nat)(S S':St)(ob:List Obl)(fts:List Foot),dm P cfg N ops l S=some (S',ob,fts)→∀t,(m5 ops).contains t=false→S'.env t=S.env t
 |[],S,S',ob,fts,h,t,_=>by
  simp only[dm,Option.some.injEq,Prod.mk.injEq]at h;rw[h.1]
 |i::l,S,S',ob,fts,h,t,ht=>by
  simp only[dm]at h;split at h
  ·cases h
  ·rename_i o ho
   split at h
   ·cases h
   ·rename_i st hst
    split at h
    ·cases h
    ·rename_i rs hrs
     simp only[Option.some.injEq,Prod.mk.injEq]at h;obtain⟨rfl,rfl,rfl⟩:=h;obtain⟨v,act,hpt,_⟩:=ez hst;rw[sG l _ _ _ _ hrs t ht,jh hpt (nS ho ht)]
theorem ya(hm:g0 P)(hn:co P){ex:eU}(hex:hG P ex)(hlc:mI ex){fno N:Nat}{ops:Array Oper}:∀(l:List Oper)(k base:Nat)(S S':St)(fts:List Foot)(b2:Nat)(tk:List Nat),(∀j,l[j]? =ops[k+j]?)→
    kC P obm hp mm ex fno N ops l k base S=some (.go S' fts b2 tk)→
    (∃T:Nat→lY,∀cfg:iA,(∀j,k≤j→cfg.ret j=(T j).ret∧cfg.hc j=(T j).hc∧cfg.base j=(T j).base)→(∀j,cfg.obm j=obm fno (((ops[j]?).bind (·.dst)).getD 0))→
     ∃ob,dm P cfg N ops (List.range' k l.length) S=some (S',ob,fts)∧fT P ob)∧∀k,k∉tk→S'.heap k=S.heap k
 |[],k,base,S,S',fts,b2,tk,_,h=>by
  simp only[kC,Option.some.injEq,OpsR.go.injEq]at h;obtain⟨rfl,rfl,_⟩:=h;exact⟨⟨fun _=>⟨[],none,0⟩,fun cfg _ _=>⟨[],rfl,fun c hc=>by cases hc⟩⟩,fun _ _=>rfl⟩
 |o::r,k,base,S,S',fts,b2,tk,hl,h=>by
  have ho:ops[k]? =some o:=by simpa using (hl 0).symm
  simp only[kC]at h;split at h
  ·cases h
  ·cases h
  ·rename_i a1 a2 a3 a4 ha
   split at h
   ·cases h
   ·rename_i b1 bf b3 b4 hb
    simp only[Option.some.injEq,OpsR.go.injEq]at h;obtain⟨rfl,rfl,rfl,rfl⟩:=h;obtain⟨⟨rk,hk⟩,hk2⟩:=sF hm hn hex hlc ha;obtain⟨⟨T,hT⟩,hT2⟩:=ya hm hn hex hlc r (k+1) a3 a1 b1 bf b3 b4 (fun j=>by have:=hl (j+1);simpa [Nat.add_assoc,Nat.add_comm 1 j]using this) hb
    refine⟨⟨fun j=>if j=k then rk else T j,fun cfg h1 h2=> ?_⟩,fun s hs=>by
     simp only[List.mem_append,not_or]at hs;exact(hT2 s hs.2).trans (hk2 s hs.1)⟩
    have hkk:=h1 k (Nat.le_refl k);simp only[if_true]at hkk;obtain⟨ob1,e1,o1⟩:=hk cfg hkk.1 hkk.2.1 (by rw[h2 k,ho];rfl) hkk.2.2;obtain⟨ob2,e2,o2⟩:=hT cfg (fun j hj=>by have:=h1 j (by omega);simp only[if_neg (show ¬j=k by omega)]at this;exact this) h2;refine⟨ob1 ++ob2, ?_,fun c hc=>(List.mem_append.1 hc).elim (o1 c) (o2 c)⟩;simp only[List.length_cons,List.range'_succ,dm,ho,e1,e2]
   ·cases h
theorem yb(hm:g0 P)(hn:co P){ex:eU}(hex:hG P ex)(hlc:mI ex){fno N:Nat}{ops:Array Oper}:∀(l:List Oper)(k base:Nat)(S:St)(p:Nat)(fts:List Foot)(x:AV)(h':ab)(b2:Nat)(tk:List Nat),(∀j,l[j]? =ops[k+j]?)→
    kC P obm hp mm ex fno N ops l k base S=some (.pan p fts x h' b2 tk)→k≤p∧
    (∃T:Nat→lY,∀cfg:iA,(∀j,k≤j→cfg.ret j=(T j).ret∧cfg.hc j=(T j).hc∧cfg.base j=(T j).base)→(∀j,cfg.obm j=obm fno (((ops[j]?).bind (·.dst)).getD 0))→
     ∃Sp ob,dm P cfg N ops (List.range' k (p-k)) S=some (Sp,ob,fts)∧fT P ob∧∃o,ops[p]? =some o∧db ops o Sp.env=some true∧CN P o Sp x h')∧∀k,k∉tk→h' k=S.heap k
 |[],k,base,S,p,fts,x,h',b2,tk,_,h=>by
  simp only[kC,Option.some.injEq]at h;cases h
 |o::r,k,base,S,p,fts,x,h',b2,tk,hl,h=>by
  have ho:ops[k]? =some o:=by simpa using (hl 0).symm
  simp only[kC]at h;split at h
  ·cases h
  ·rename_i x1 h1 b1 tk1 ha
   simp only[Option.some.injEq,OpsR.pan.injEq]at h;obtain⟨rfl,rfl,rfl,rfl,rfl,rfl⟩:=h;obtain⟨q1,q2,q3⟩:=CQ hm hn hex ha;refine⟨Nat.le_refl _,⟨fun _=>⟨[],none,0⟩,fun cfg _ _=>⟨S,[], ?_,fun c hc=>by (cases hc),o,ho,q1,q2⟩⟩,q3⟩;simp[dm]
  ·rename_i a1 a2 a3 a4 ha
   split at h
   ·cases h
   ·cases h
   ·rename_i p1 bf x1 h1 b3 b4 hb
    simp only[Option.some.injEq,OpsR.pan.injEq]at h;obtain⟨rfl,rfl,rfl,rfl,rfl,rfl⟩:=h;obtain⟨⟨rk,hk⟩,hk2⟩:=sF hm hn hex hlc ha;obtain⟨hkp,⟨T,hT⟩,hT2⟩:=yb hm hn hex hlc r (k+1) a3 a1 p1 bf x1 h1 b3 b4 (fun j=>by have:=hl (j+1);simpa [Nat.add_assoc,Nat.add_comm 1 j]using this) hb
    refine⟨by omega,⟨fun j=>if j=k then rk else T j,fun cfg h1 h2=> ?_⟩,fun s hs=>by
     simp only[List.mem_append,not_or]at hs;exact(hT2 s hs.2).trans (hk2 s hs.1)⟩
    have hkk:=h1 k (Nat.le_refl k);simp only[if_true]at hkk;obtain⟨ob1,e1,o1⟩:=hk cfg hkk.1 hkk.2.1 (by rw[h2 k,ho];rfl) hkk.2.2;obtain⟨Sp,ob2,e2,o2,q⟩:=hT cfg (fun j hj=>by have:=h1 j (by omega);simp only[if_neg (show ¬j=k by omega)]at this;exact this) h2;refine⟨Sp,ob1 ++ob2, ?_,fun c hc=>(List.mem_append.1 hc).elim (o1 c) (o2 c),q⟩;rw[show p1-k=(p1-(k+1))+1 by omega,List.range'_succ];simp only[dm,ho,e1,e2]
def Ab(P:Program)(ex:eU):Prop:=∀fno base N c S e S' b' tk,ex fno base N (.loop c) S=some (e,S',b',tk)→(∀X:ce,X.P=P→X.N=N→LW X c S fun e' S''=>e'=e∧S''=S')∧∀k,k∉tk→S'.heap k=S.heap k
theorem yc{n:Nat}(ih:hG P (bL P obm hp mm n))(ihl:Ab P (bL P obm hp mm n)):Ab P (bL P obm hp mm (n+1)):=fun fno base N x S e S' b' tk h=>by
 simp only[bL]at h;split at h
 ·rename_i S1 b1 tk1 h1
  split at h
  ·rename_i e2 S2 b2 tk2 h2
   simp only[Option.some.injEq,Prod.mk.injEq]at h;obtain⟨rfl,rfl,rfl,rfl⟩:=h;have a1:=ih _ _ _ _ _ _ _ _ _ h1;have a2:=ihl _ _ _ _ _ _ _ _ _ h2;refine⟨fun X hP hN=>iL ((a1.1 X hP hN).mono ?_),fun k hk=> ?_⟩
   ·rintro e1 S3 ⟨rfl,rfl⟩
    exact a2.1 X hP hN
   ·simp only[List.mem_append,not_or]at hk
    exact(a2.2 k hk.2).trans (a1.2 k hk.1)
  ·cases h
 ·rename_i hno
  have a1:=ih _ _ _ _ _ _ _ _ _ h;refine⟨fun X hP hN=>iL ((a1.1 X hP hN).mono ?_),a1.2⟩;rintro e1 S2 ⟨rfl,rfl⟩;cases e1 with
  |normal=>exact absurd h (hno S2 _ _)
  |_=>exact⟨rfl,rfl⟩
theorem n9(hm:g0 P)(hn:co P):∀n,hG P (bL P obm hp mm n)∧Ab P (bL P obm hp mm n)
 |0=>⟨fun fno base N c S e S' b' tk h=>by simp[bL]at h,fun fno base N c S e S' b' tk h=>by simp[bL]at h⟩
 |n+1=>by
  obtain⟨ih,ihl⟩:=n9 hm hn n;have hl:=yc ih ihl;refine⟨fun fno base N c S e S' b' tk h=> ?_,hl⟩;cases c with
  |region id ops draw=>
   simp only[bL]at h;split at h
   ·rename_i S1 fts b1 tk1 hr
    have hsplit:S'=S1∧e= .normal∧tk=tk1∧(draw=false∨so ops fts=true):=by
     split at h
     ·simp only[Option.some.injEq,Prod.mk.injEq]at h
      obtain⟨rfl,rfl,_,rfl⟩:=h;exact⟨rfl,rfl,rfl, .inl rfl⟩
     ·split at h
      ·rename_i hlex
       simp only[Option.some.injEq,Prod.mk.injEq]at h;obtain⟨rfl,rfl,_,rfl⟩:=h;exact⟨rfl,rfl,rfl, .inr hlex⟩
      ·cases h
    obtain⟨rfl,rfl,rfl,hd⟩:=hsplit;obtain⟨⟨T,hT⟩,hT2⟩:=ya hm hn ih (lr n) ops.toList 0 base S S' fts b1 tk (fun j=>by simp) hr;refine⟨fun X hP hN=> ?_,hT2⟩;obtain⟨ob,hrun,hob⟩:=hT {ret:=fun j=>(T j).ret,hc:=fun j=>(T j).hc,obm:=fun j=>obm fno (((ops[j]?).bind (·.dst)).getD 0),base:=fun j=>(T j).base} (fun j _=>⟨rfl,rfl,rfl⟩) (fun j=>rfl);rw[Array.length_toList,←List.range_eq_range']at hrun;subst hP;subst hN;cases draw with
    |false=>exact uB hrun hob ⟨rfl,rfl⟩
    |true=>exact mD hrun (hd.resolve_left (by simp)) hob ⟨rfl,rfl⟩
   ·rename_i p fts x h1 b1 tk1 hr
    have hsplit:S'=⟨lc ops S.env,h1⟩∧e= .panic x∧tk=tk1∧(draw=false∨o8 ops fts p=true):=by
     split at h
     ·simp only[Option.some.injEq,Prod.mk.injEq]at h
      obtain⟨rfl,rfl,_,rfl⟩:=h;exact⟨rfl,rfl,rfl, .inl rfl⟩
     ·split at h
      ·rename_i hlex
       simp only[Option.some.injEq,Prod.mk.injEq]at h;obtain⟨rfl,rfl,_,rfl⟩:=h;exact⟨rfl,rfl,rfl, .inr hlex⟩
      ·cases h
    obtain⟨rfl,rfl,rfl,hd⟩:=hsplit;obtain⟨-,⟨T,hT⟩,hT2⟩:=yb hm hn ih (lr n) ops.toList 0 base S p fts x h1 b1 tk (fun j=>by simp) hr;refine⟨fun X hP hN=> ?_,hT2⟩;obtain⟨Sp,ob,hrun,hob,o,ho,hw,hpan⟩:=hT {ret:=fun j=>(T j).ret,hc:=fun j=>(T j).hc,obm:=fun j=>obm fno (((ops[j]?).bind (·.dst)).getD 0),base:=fun j=>(T j).base} (fun j _=>⟨rfl,rfl,rfl⟩) (fun j=>rfl);rw[Nat.sub_zero]at hrun;subst hP;subst hN;have hL:nT X.P ops p S.env x h1 Sp:=⟨⟨o,ho,hw,hpan⟩,fun t ht=>sG _ _ _ _ _ hrun t ht⟩
    exact mE ho hrun hob hL hd ⟨rfl,rfl⟩
   ·cases h
  |seq x y=>
   simp only[bL]at h;split at h
   ·rename_i S1 b1 tk1 h1
    split at h
    ·rename_i e2 S2 b2 tk2 h2
     simp only[Option.some.injEq,Prod.mk.injEq]at h;obtain⟨rfl,rfl,rfl,rfl⟩:=h;have a1:=ih _ _ _ _ _ _ _ _ _ h1;have a2:=ih _ _ _ _ _ _ _ _ _ h2;refine⟨fun X hP hN=>dU ((a1.1 X hP hN).mono ?_),fun k hk=> ?_⟩
     ·rintro e1 S3 ⟨rfl,rfl⟩
      exact a2.1 X hP hN
     ·simp only[List.mem_append,not_or]at hk
      exact(a2.2 k hk.2).trans (a1.2 k hk.1)
    ·cases h
   ·rename_i hno
    have a1:=ih _ _ _ _ _ _ _ _ _ h;refine⟨fun X hP hN=>dU ((a1.1 X hP hN).mono ?_),a1.2⟩;rintro e1 S2 ⟨rfl,rfl⟩;cases e1 with
    |normal=>exact absurd h (hno S2 _ _)
    |_=>exact⟨rfl,rfl⟩
  |block id x=>
   simp only[bL]at h;split at h
   ·rename_i i S1 b1 tk1 h1
    have hh:S'=S1∧tk=tk1∧e=(if i=id then .normal else .exit i):=by
     split at h
     ·rename_i hi;rw[if_pos hi];simp only[Option.some.injEq,Prod.mk.injEq]at h;obtain⟨rfl,rfl,_,rfl⟩:=h;exact⟨rfl,rfl,rfl⟩
     ·rename_i hi;rw[if_neg hi];simp only[Option.some.injEq,Prod.mk.injEq]at h;obtain⟨rfl,rfl,_,rfl⟩:=h;exact⟨rfl,rfl,rfl⟩
    obtain⟨rfl,rfl,rfl⟩:=hh;have a1:=ih _ _ _ _ _ _ _ _ _ h1;refine⟨fun X hP hN=>iJ ((a1.1 X hP hN).mono ?_),a1.2⟩;rintro e1 S2 ⟨rfl,rfl⟩;simp only[sq];by_cases hi:i=id<;>simp[hi]
   ·rename_i hno
    have a1:=ih _ _ _ _ _ _ _ _ _ h;refine⟨fun X hP hN=>iJ ((a1.1 X hP hN).mono ?_),a1.2⟩;rintro e1 S2 ⟨rfl,rfl⟩;cases e1 with
    |exit i=>exact absurd h (hno i S2 _ _)
    |_=>exact⟨rfl,rfl⟩
  |loop x=>
   have a1:=hl _ _ _ _ _ _ _ _ _ h;exact⟨fun X hP hN=>(a1.1 X hP hN).aw,a1.2⟩
  |skip=>simp only[bL,Option.some.injEq,Prod.mk.injEq]at h;obtain⟨rfl,rfl,_⟩:=h;exact⟨fun X _ _=>nU ⟨rfl,rfl⟩,fun _ _=>rfl⟩
  |exit i=>simp only[bL,Option.some.injEq,Prod.mk.injEq]at h;obtain⟨rfl,rfl,_⟩:=h;exact⟨fun X _ _=>qU ⟨rfl,rfl⟩,fun _ _=>rfl⟩
  |ret=>simp only[bL,Option.some.injEq,Prod.mk.injEq]at h;obtain⟨rfl,rfl,_⟩:=h;exact⟨fun X _ _=>D8 ⟨rfl,rfl⟩,fun _ _=>rfl⟩
  |cond c x y=>
   simp only[bL]at h;split at h
   ·rename_i b hb
    cases b with
    |true=>
     have a1:=ih _ _ _ _ _ _ _ _ _ h;exact⟨fun X hP hN=>gJ hb (fun _=>a1.1 X hP hN) (fun hx=>by cases hx),a1.2⟩
    |false=>
     have a1:=ih _ _ _ _ _ _ _ _ _ h;exact⟨fun X hP hN=>gJ hb (fun hx=>by cases hx) (fun _=>a1.1 X hP hN),a1.2⟩
   ·cases h
  |rangeFunc g ps Ua bd=>
   simp only[bL]at h;split at h;case h_2=>cases h
   rename_i gf caps hg;split at h;case h_2=>cases h
   rename_i r hr;split at h;case h_2=>cases h
   rename_i f2 N2 env2 ps2 as2 bd2 st hlp;split at h;case isFalse=>cases h
   rename_i hk;split at h;case h_2=>cases h
   rename_i e' he';simp only[Option.some.injEq,Prod.mk.injEq]at h;obtain⟨rfl,rfl,_,rfl⟩:=h;obtain⟨c1,c2⟩:=nY hm hn ih hr;refine⟨fun X hP hN=> ?_,fun k hk=> ?_⟩
   ·subst hP;subst hN
    exact nV hg (uE _ _) c1 hk hlp (uF he')
   ·simp only[List.mem_cons,not_or]at hk
    exact(am _ _ hk.2.1).trans ((c2 k hk.2.2).trans (am _ _ hk.2.1))
  |_=>simp[bL]at h
theorem yd(hm:g0 P)(hn:co P)(n:Nat):hG P (bL P obm hp mm n):=(n9 hm hn n).1
theorem aL(hm:g0 P)(hn:co P)(obm:Nat→Nat→Bool)(hp:Nat→Bool)(n:Nat){g:Nat}{ds rs:List D}(h:wc P (bL P obm hp .none n) g ds=some rs):aK P g ds rs:=
 nX hm hn (yd hm hn n) h
end
end Go.Avm
namespace Go.Avm
variable[aJ]
def KL:Option (List D)→Bool
 |some [.bool b]=>b
 |_=>false
def KM(P:Program):Bool:=P.funcs.all fun fn=> !(fn.name== "runtime.NumGoroutine")
theorem Ef{P:Program}(h:KM P=true)(ho:wb P):co P:=⟨fun g fn hf=>by
 have:=Array.all_eq_true_iff_forall_mem.1 h fn (Array.mem_of_getElem? hf);simpa using this,ho⟩
end Go.Avm
namespace Go.Avm
open Go.ChangeShapes Go.WideShapes Go.ChangeAt Go.RowKit
variable[aJ]
theorem ul{P:Program}{f:Nat}{ds:List D}(hp:aK P f ds [.bool true]){w:World}{I:Nat→Nat→Prop}{cargs:Array Value}(hg:Globs I w)(hI:∀b o,I b o→b<w.heap.size)(hs:cargs.size=ds.length)
    (hargs:∀(i:Nat)(x:D)(u:Value),ds[i]? =some x→cargs[i]? =some u→DRep I w x u):
    Calls P f cargs w fun e w'=>e= .returned (.bool true)∧Below w.heap.size w w':=by
 refine(hp.2 w I cargs hI hs hargs hg).mono ?_;rintro e w' ⟨v,I',rfl,hb,_,_,_,hret⟩;rcases hret with ⟨x,hx,hd⟩|⟨hn,_⟩
 ·simp only[List.cons.injEq,and_true]at hx
  subst hx;cases hd;exact⟨rfl,hb⟩
 ·simp at hn
section
variable{H:Type}{enc:TypeId×Value→H}{P:Program}
theorem mJ(hl:laidOutB P=true){W W':World}(hb:Below W.heap.size W W'):∀{ts:List TypeId}{vs:List Value}{ds:List (DataW H)}{p:List MemPlace},(∀t∈ts,P.readableRec t=true∧t<P.types.size)→
    DataW.TrodAll enc P W 0 (fun _=>true) true ts vs ds p→(∀x∈p,x.block<W.heap.size)→DataW.TrodAll enc P W' 0 (fun b=>decide (b<W.heap.size)) true ts vs ds p
 |[],vs,ds,p,_,h,_=>by
  obtain⟨rfl,rfl,rfl⟩:=trodAll_nil h;exact trodAll_mk0
 |t::ts,vs,ds,p,hr,h,hlt=>by
  obtain⟨v,vs',d,ds',p1,p2,rfl,rfl,rfl,h1,h2⟩:=trodAll_cons h;obtain⟨hr1,hr2⟩:=hr t (by simp);exact trodAll_cons_mk (Below.trod hl hr1 hr2 h1 hb (fun x hx=>hlt x (by simp[hx]))) (mJ hl hb (fun t ht=>hr t (by simp[ht])) h2 (fun x hx=>hlt x (by simp[hx])))
theorem Eg{f:Func}{s:ChangeSpec}{W W':World}{args:Array Value}{ds gs:List (DataW H)}{before:List MemPlace}{tb:TypeId}(hl:laidOutB P=true)(hv:s.vars=[])(hfn:s.fn H ds={results:=[.lit (.bool true)],args:=ds})
    (hres:f.resultTypes.toList=[tb]) (hbool:P.underlying tb=some .bool) (hread:∀t∈f.params.toList,P.readableRec t=true∧t<P.types.size)
    (hW:DataW.Whole enc P f.params.toList s.vars false W args.toList ds gs before) (hb:Below W.heap.size W W'):s.post enc P f false true false false W args (.bool true) W':=by
 have hlt:∀x∈before,x.block<W.heap.size:=fun x hx=>by simpa using hW.lt x hx
 have hW':=hW;obtain⟨p,q,hA,hV,hpq,_,_⟩:=hW;rw[hv]at hV;obtain⟨rfl,rfl⟩:=trodVars_none hV;subst hpq;have hfn':s.fn H (ds ++[])={results:=[.lit (.bool true)],args:=ds}:=by rw[List.append_nil];exact hfn
 refine⟨ds,[],p ++[],[],p,[],hW', ?_, ?_, ?_, ?_,fun h=>by cases h⟩
 ·rw[hfn',hres]
  have hsz:f.resultTypes.size=1:=by rw[←Array.length_toList,hres];rfl
  rw[hsz];exact trodAll_mk1 (shut_bool hbool true)
 ·rw[hfn']
  exact mJ hl hb hread hA (fun x hx=>hlt x (by simp[hx]))
 ·rw[hfn',hv]
  rfl
 ·exact hb.frame _
end
end Go.Avm
