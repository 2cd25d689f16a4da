/-
  Types: the document's examples.
-/
import Derived.Test.YtcjiafanhlhdlaaGreatDoorG13
import Derived.Test.YtcjiafanhlhdlaaGreatDoorG09
import Derived.Test.YtcjiafanhlhdlaaGreatDoorG07
set_option linter.unusedVariables false
set_option linter.unusedSimpArgs false
set_option linter.unusedSectionVars false
namespace Go.Avm
open Go.Proofs
set_option maxRecDepth 100000 in
theorem V8:aF Pg 9 [.str [102,110,32,109,97,105,110,40,41,58,32,105,110,116,32,123,32,108,101,116,32,120,58,32,105,110,116,59,32,105,102,32,116,114,117,101,32,123,32,120,32,61,32,49,59,32,125,32,114,101,116,117,114,110,32,120,59,32,125]] [.agg [.ro [.agg [.str [109,97,105,110], .ro [], .int .u8 1, .ro [.agg [.int .u8 1, .int .i64 1, .str [120], .int .u8 1, .int .i64 0, .int .i64 17, .ro [], .ro [], .ro []], .agg [.int .u8 4, .int .i64 2, .str [], .int .u8 0, .int .i64 0, .int .i64 29, .ro [.agg [.int .u8 2, .int .u8 0, .str [], .int .i64 1, .int .i64 32, .ro []]], .ro [.agg [.int .u8 2, .int .i64 3, .str [120], .int .u8 0, .int .i64 0, .int .i64 39, .ro [.agg [.int .u8 1, .int .u8 0, .str [], .int .i64 1, .int .i64 43, .ro []]], .ro [], .ro []]], .ro []], .agg [.int .u8 6, .int .i64 4, .str [], .int .u8 0, .int .i64 0, .int .i64 48, .ro [.agg [.int .u8 3, .int .u8 0, .str [120], .int .i64 0, .int .i64 55, .ro []]], .ro [], .ro []]], .int .i64 0]]], .agg [.ro [], .ro []], .int .i64 55, .int .i64 10]:=by
 have h:=Ci [102,110,32,109,97,105,110,40,41,58,32,105,110,116,32,123,32,108,101,116,32,120,58,32,105,110,116,59,32,105,102,32,116,114,117,101,32,123,32,120,32,61,32,49,59,32,125,32,114,101,116,117,114,110,32,120,59,32,125];rw[show lD [102,110,32,109,97,105,110,40,41,58,32,105,110,116,32,123,32,108,101,116,32,120,58,32,105,110,116,59,32,105,102,32,116,114,117,101,32,123,32,120,32,61,32,49,59,32,125,32,114,101,116,117,114,110,32,120,59,32,125]=[.agg [.ro [.agg [.str [109,97,105,110], .ro [], .int .u8 1, .ro [.agg [.int .u8 1, .int .i64 1, .str [120], .int .u8 1, .int .i64 0, .int .i64 17, .ro [], .ro [], .ro []], .agg [.int .u8 4, .int .i64 2, .str [], .int .u8 0, .int .i64 0, .int .i64 29, .ro [.agg [.int .u8 2, .int .u8 0, .str [], .int .i64 1, .int .i64 32, .ro []]], .ro [.agg [.int .u8 2, .int .i64 3, .str [120], .int .u8 0, .int .i64 0, .int .i64 39, .ro [.agg [.int .u8 1, .int .u8 0, .str [], .int .i64 1, .int .i64 43, .ro []]], .ro [], .ro []]], .ro []], .agg [.int .u8 6, .int .i64 4, .str [], .int .u8 0, .int .i64 0, .int .i64 48, .ro [.agg [.int .u8 3, .int .u8 0, .str [120], .int .i64 0, .int .i64 55, .ro []]], .ro [], .ro []]], .int .i64 0]]], .agg [.ro [], .ro []], .int .i64 55, .int .i64 10] by kernel_rfl]at h;exact h
set_option maxRecDepth 100000 in
theorem V9:aF Pg 9 [.str [102,110,32,109,97,105,110,40,41,58,32,105,110,116,32,123,32,108,101,116,32,120,58,32,105,110,116,59,32,105,102,32,116,114,117,101,32,123,32,120,32,61,32,49,59,32,125,32,101,108,115,101,32,123,32,120,32,61,32,50,59,32,125,32,114,101,116,117,114,110,32,120,59,32,125]] [.agg [.ro [.agg [.str [109,97,105,110], .ro [], .int .u8 1, .ro [.agg [.int .u8 1, .int .i64 1, .str [120], .int .u8 1, .int .i64 0, .int .i64 17, .ro [], .ro [], .ro []], .agg [.int .u8 4, .int .i64 2, .str [], .int .u8 0, .int .i64 0, .int .i64 29, .ro [.agg [.int .u8 2, .int .u8 0, .str [], .int .i64 1, .int .i64 32, .ro []]], .ro [.agg [.int .u8 2, .int .i64 3, .str [120], .int .u8 0, .int .i64 0, .int .i64 39, .ro [.agg [.int .u8 1, .int .u8 0, .str [], .int .i64 1, .int .i64 43, .ro []]], .ro [], .ro []]], .ro [.agg [.int .u8 2, .int .i64 4, .str [120], .int .u8 0, .int .i64 0, .int .i64 55, .ro [.agg [.int .u8 1, .int .u8 0, .str [], .int .i64 2, .int .i64 59, .ro []]], .ro [], .ro []]]], .agg [.int .u8 6, .int .i64 5, .str [], .int .u8 0, .int .i64 0, .int .i64 64, .ro [.agg [.int .u8 3, .int .u8 0, .str [120], .int .i64 0, .int .i64 71, .ro []]], .ro [], .ro []]], .int .i64 0]]], .agg [.ro [.ro [.agg [.str [120], .int .u8 1, .int .i64 0, .int .i64 1]]], .ro [.agg [.int .i64 0, .ro [], .ro []], .agg [.int .i64 0, .ro [], .ro []], .agg [.int .i64 0, .ro [.int .i64 0], .ro []], .agg [.int .i64 0, .ro [.int .i64 0], .ro []], .agg [.int .i64 0, .ro [.int .i64 0], .ro []], .agg [.int .i64 0, .ro [.int .i64 0], .ro [.int .i64 0]]]], .int .i64 0, .int .i64 0]:=by
 have h:=Ci [102,110,32,109,97,105,110,40,41,58,32,105,110,116,32,123,32,108,101,116,32,120,58,32,105,110,116,59,32,105,102,32,116,114,117,101,32,123,32,120,32,61,32,49,59,32,125,32,101,108,115,101,32,123,32,120,32,61,32,50,59,32,125,32,114,101,116,117,114,110,32,120,59,32,125];rw[show lD [102,110,32,109,97,105,110,40,41,58,32,105,110,116,32,123,32,108,101,116,32,120,58,32,105,110,116,59,32,105,102,32,116,114,117,101,32,123,32,120,32,61,32,49,59,32,125,32,101,108,115,101,32,123,32,120,32,61,32,50,59,32,125,32,114,101,116,117,114,110,32,120,59,32,125]=[.agg [.ro [.agg [.str [109,97,105,110], .ro [], .int .u8 1, .ro [.agg [.int .u8 1, .int .i64 1, .str [120], .int .u8 1, .int .i64 0, .int .i64 17, .ro [], .ro [], .ro []], .agg [.int .u8 4, .int .i64 2, .str [], .int .u8 0, .int .i64 0, .int .i64 29, .ro [.agg [.int .u8 2, .int .u8 0, .str [], .int .i64 1, .int .i64 32, .ro []]], .ro [.agg [.int .u8 2, .int .i64 3, .str [120], .int .u8 0, .int .i64 0, .int .i64 39, .ro [.agg [.int .u8 1, .int .u8 0, .str [], .int .i64 1, .int .i64 43, .ro []]], .ro [], .ro []]], .ro [.agg [.int .u8 2, .int .i64 4, .str [120], .int .u8 0, .int .i64 0, .int .i64 55, .ro [.agg [.int .u8 1, .int .u8 0, .str [], .int .i64 2, .int .i64 59, .ro []]], .ro [], .ro []]]], .agg [.int .u8 6, .int .i64 5, .str [], .int .u8 0, .int .i64 0, .int .i64 64, .ro [.agg [.int .u8 3, .int .u8 0, .str [120], .int .i64 0, .int .i64 71, .ro []]], .ro [], .ro []]], .int .i64 0]]], .agg [.ro [.ro [.agg [.str [120], .int .u8 1, .int .i64 0, .int .i64 1]]], .ro [.agg [.int .i64 0, .ro [], .ro []], .agg [.int .i64 0, .ro [], .ro []], .agg [.int .i64 0, .ro [.int .i64 0], .ro []], .agg [.int .i64 0, .ro [.int .i64 0], .ro []], .agg [.int .i64 0, .ro [.int .i64 0], .ro []], .agg [.int .i64 0, .ro [.int .i64 0], .ro [.int .i64 0]]]], .int .i64 0, .int .i64 0] by kernel_rfl]at h;exact h
set_option maxRecDepth 100000 in
theorem Wa:aF Pg 9 [.str [102,110,32,109,97,105,110,40,41,58,32,105,110,116,32,123,32,114,101,116,117,114,110,32,49,59,32,112,114,105,110,116,32,50,59,32,125]] [.agg [.ro [.agg [.str [109,97,105,110], .ro [], .int .u8 1, .ro [.agg [.int .u8 6, .int .i64 1, .str [], .int .u8 0, .int .i64 0, .int .i64 17, .ro [.agg [.int .u8 1, .int .u8 0, .str [], .int .i64 1, .int .i64 24, .ro []]], .ro [], .ro []], .agg [.int .u8 7, .int .i64 2, .str [], .int .u8 0, .int .i64 0, .int .i64 27, .ro [.agg [.int .u8 1, .int .u8 0, .str [], .int .i64 2, .int .i64 33, .ro []]], .ro [], .ro []]], .int .i64 0]]], .agg [.ro [], .ro []], .int .i64 27, .int .i64 11]:=by
 have h:=Ci [102,110,32,109,97,105,110,40,41,58,32,105,110,116,32,123,32,114,101,116,117,114,110,32,49,59,32,112,114,105,110,116,32,50,59,32,125];rw[show lD [102,110,32,109,97,105,110,40,41,58,32,105,110,116,32,123,32,114,101,116,117,114,110,32,49,59,32,112,114,105,110,116,32,50,59,32,125]=[.agg [.ro [.agg [.str [109,97,105,110], .ro [], .int .u8 1, .ro [.agg [.int .u8 6, .int .i64 1, .str [], .int .u8 0, .int .i64 0, .int .i64 17, .ro [.agg [.int .u8 1, .int .u8 0, .str [], .int .i64 1, .int .i64 24, .ro []]], .ro [], .ro []], .agg [.int .u8 7, .int .i64 2, .str [], .int .u8 0, .int .i64 0, .int .i64 27, .ro [.agg [.int .u8 1, .int .u8 0, .str [], .int .i64 2, .int .i64 33, .ro []]], .ro [], .ro []]], .int .i64 0]]], .agg [.ro [], .ro []], .int .i64 27, .int .i64 11] by kernel_rfl]at h;exact h
set_option maxRecDepth 100000 in
theorem DE:aF Pg 8 [] [.bool true]:=
 bp b9 named {hint:=qT 8 [(14, .call 9 _ _ V8),(20, .call 9 _ _ V9),(26, .call 9 _ _ Wa)]} 2000 (by kernel_rfl)
end Go.Avm
namespace Go.Avm
open Go.Proofs
section
variable{S:WK}(h:WKok S)(w:WE)
include h
theorem SP(p e:Int)(a:(w.e==0)=true):HC 29 [gl,dI p,dI e] (wk S w) [] (wk S ⟨p,e⟩):=
 qN {hint:=qT 29 [(10,qB a)]} 1000 (LC h h rfl)
theorem SQ(p e:Int)(a:(w.e==0)=false):HC 29 [gl,dI p,dI e] (wk S w) [] (wk S w):=
 qN {hint:=qT 29 [(10,qB a)]} 1000 (LC h h rfl)
theorem a8(p e:Int):HC 29 [gl,dI p,dI e] (wk S w) [] (wk S (w.fail p e)):=by
 unfold WE.fail;cases a:(w.e==0)with
 |true=>exact SP h w p e a
 |false=>exact SQ h w p e a
end
abbrev E8(S:WK)(nm:List UInt8)(i:Nat):List (Nat×AV):=[(2, .d (.str nm)),(4, .ptr 600004 1 0 0 1),(19,fF S.vv S.vars),(20,dN S.vars.length),(21,dN i)]
def lE(P:Program)(a:List Vr)(i:Nat)(v:Vr)(h:a[i]? =some v):bX P:= .elt (a.map oh) (0+(i:Int).toNat) (oh v) (by simp[h])
def jC(P:Program)(l:List Bool)(i:Nat)(b:Bool)(h:l[i]? =some b):bX P:= .elt ((l.map D.bool).map AV.d) (0+(i:Int).toNat) (W9 b) (by simp[h,W9])
section
variable{S:WK}(h:WKok S)(w:WE)(q:WL)(nm:List UInt8)(i:Nat)
include h
theorem OS(a:decide (i<S.vars.length)=false):RE 39 (lO 79 2) (E8 S nm i) (wk S w ++bt q ++dD 600004 q) (.exit 0) [] (wk S w ++bt q ++dD 600004 q):=
 qE {hint:=qT 79 [(22,dk Pg i S.vars.length false a)]} 79 700000 ⟨rfl,rfl,rfl,rfl,gF h rfl,gF h rfl⟩
section
variable(a:decide (i<S.vars.length)=true)(v:Vr)(b:S.vars[i]? =some v)
include a b
theorem Wb(c:(v.nm==nm)=false):RE 39 (lO 79 2) (E8 S nm i) (wk S w ++bt q ++dD 600004 q) .normal (E8 S nm (i+1)) (wk S w ++bt q ++dD 600004 q):=
 qE {hint:=qT 79 [(22,dk Pg i S.vars.length true a),(24,pV Pg S.vars i (xe a)),(25,lE Pg S.vars i v b),(29,qB c),(38,bj Pg i (by have:=h.vars;have:=xe a;omega))]} 79 700000 ⟨rfl,rfl,rfl,rfl,gF h rfl,gF h rfl⟩
theorem SS(e:(v.nm==nm)=true)(d:q.s.seen[i]? =some false)(c:i<q.s.seen.length):RE 39 (lO 79 2) (E8 S nm i) (wk S w ++bt q ++dD 600004 q) .normal (E8 S nm (i+1)) (wk S w ++bt q ++dD 600004 q):=
 qE {hint:=qT 79 [(22,dk Pg i S.vars.length true a),(24,pV Pg S.vars i (xe a)),(25,lE Pg S.vars i v b),(29,qB e),(34, .inb (i:Int) q.s.seen.length (by omega) (by simpa using c)),(35,jC Pg q.s.seen i false d),(38,bj Pg i (by have:=h.vars;have:=xe a;omega))]} 79 700000 ⟨rfl,rfl,rfl,rfl,gF h rfl,gF h rfl⟩
theorem ST(e:(v.nm==nm)=true)(d:q.s.seen[i]? =some true)(c:i<q.s.seen.length):RE 39 (lO 79 2) (E8 S nm i) (wk S w ++bt q ++dD 600004 q) .ret [(6,dN i)] (wk S w ++bt q ++dD 600004 q):=
 qE {hint:=qT 79 [(22,dk Pg i S.vars.length true a),(24,pV Pg S.vars i (xe a)),(25,lE Pg S.vars i v b),(29,qB e),(34, .inb (i:Int) q.s.seen.length (by omega) (by simpa using c)),(35,jC Pg q.s.seen i true d)]} 79 700000 ⟨rfl,rfl,rfl,rfl,gF h rfl,gF h rfl⟩
end
def FvR(S:WK)(w:WE)(q:WL)(nm:List UInt8)(i:Nat):Option Nat→Prop
 |none=>RL 39 (lO 79 2) (E8 S nm i) (wk S w ++bt q ++dD 600004 q) (.exit 0) [] (wk S w ++bt q ++dD 600004 q)
 |some j=>RL 39 (lO 79 2) (E8 S nm i) (wk S w ++bt q ++dD 600004 q) .ret [(6,dN j)] (wk S w ++bt q ++dD 600004 q)
theorem FvR.step{o:Option Nat}{i:Nat}(d:FvR S w q nm (i+1) o)(e:RE 39 (lO 79 2) (E8 S nm i) (wk S w ++bt q ++dD 600004 q) .normal (E8 S nm (i+1)) (wk S w ++bt q ++dD 600004 q)):FvR S w q nm i o:=by
 cases o with
 |none=>exact fun a X b c=>au (e a X b c) (d a X b c)
 |some j=>exact fun a X b c=>au (e a X b c) (d a X b c)
theorem SU(o:q.s.seen.length=S.vars.length):∀d i:Nat,i+d=S.vars.length→FvR S w q nm i (dZ nm (S.vars.drop i) (q.s.seen.drop i) i)
 |0,i,n=>by
  rw[xx.2 (by omega)];exact fun a X g j=>aA (OS h w q nm i (by rw[x6];omega) a X g j) (by simp)
 |d+1,i,n=>by
  have f:i<S.vars.length:=by omega
  have b:i<q.s.seen.length:=by omega
  have m:=SU o d (i+1) (by omega);have l:decide (i<S.vars.length)=true:=yM f;have e:S.vars[i]? =some S.vars[i]:=xD f;have c:q.s.seen[i]? =some q.s.seen[i]:=xD b;rw[xZ f,xZ b,dZ];cases k:(S.vars[i].nm==nm)with
  |false=>exact FvR.step h w q nm m (Wb h w q nm i l _ e k)
  |true=>
   revert c;cases q.s.seen[i]with
   |false=>exact fun c=>FvR.step h w q nm m (SS h w q nm i l _ e k c b)
   |true=>exact fun c a X g j=>aA (ST h w q nm i l _ e k c b a X g j) (by simp)
theorem SV(j:Nat)(e:FvR S w q nm 0 (some j)):HC 79 [gl,cS q, .d (.str nm)] (wk S w ++bt q) [.int .i64 (j:Int)] (wk S w ++bt q):=
 qN {loops:=fun g l=>if g=79 then (if l=2 then some ⟨39,aJ Pg 79 2,E8 S nm 0,fun _=>wk S w ++bt q ++dD 600004 q, .ret,[(6,dN j)],fun _=>wk S w ++bt q ++dD 600004 q,fun a X b c=>(e a X b c).aw⟩else none)else none,hint:=qT 79 [(18,kr Pg h),(19,gm Pg h)]} 600000 (bF h h rfl)
theorem SW(e:FvR S w q nm 0 none):HC 79 [gl,cS q, .d (.str nm)] (wk S w ++bt q) [.int .i64 (-1)] (wk S w ++bt q):=
 qN {loops:=fun g l=>if g=79 then (if l=2 then some ⟨39,aJ Pg 79 2,E8 S nm 0,fun _=>wk S w ++bt q ++dD 600004 q, .exit 0,[],fun _=>wk S w ++bt q ++dD 600004 q,fun a X b c=>(e a X b c).aw⟩else none)else none,hint:=qT 79 [(18,kr Pg h),(19,gm Pg h)]} 600000 (bF h h rfl)
def Xx(o:Option Nat):D:=match o with
 |some j=> .int .i64 (j:Int)
 |none=> .int .i64 (-1)
theorem Il(b:q.s.seen.length=S.vars.length):HC 79 [gl,cS q, .d (.str nm)] (wk S w ++bt q) [Xx (dZ nm S.vars q.s.seen 0)] (wk S w ++bt q):=by
 have:=SU h w q nm b S.vars.length 0 (x8 _);rw[xn,xn]at this;revert this;cases dZ nm S.vars q.s.seen 0 with
 |none=>exact fun a=>SW h w q nm a
 |some j=>exact fun a=>SV h w q nm j a
end
end Go.Avm
namespace Go.Avm
open Go.Proofs
abbrev Md(fs:List D)(nm:List UInt8)(i:Nat):List (Nat×AV):=[(1, .d (.str nm)),(8, .d (.ro fs)),(9,dN fs.length),(10,dN i)]
section
variable(fs:List D)(nm:List UInt8)(i:Nat)
theorem OT(h:decide (i<fs.length)=false):RE 21 (lO 28 2) (Md fs nm i) ([]) (.exit 0) [] ([]):=
 qE {hint:=qT 28 [(11,dk Pg i fs.length false h)]} 28 700000
section
variable(h:decide (i<fs.length)=true)(x:List UInt8)(f d:List D)(c e:Int)(a:fs[((i:Nat):Int).toNat]? =some (.agg [.str x, .ro f, .int .u8 c, .ro d, .int .i64 e]))(b:i<1000000)
include h a b
theorem Wc(g:(x==nm)=false):RE 21 (lO 28 2) (Md fs nm i) ([]) .normal (Md fs nm (i+1)) ([]):=
 qE {hint:=qT 28 [(11,dk Pg i fs.length true h),(13, .idx fs ((i:Nat):Int) _ (by omega) a),(18,qB g),(20,bj Pg i (by omega))]} 28 700000
theorem SX(g:(x==nm)=true):RE 21 (lO 28 2) (Md fs nm i) ([]) .ret [(4,dN i)] ([]):=
 qE {hint:=qT 28 [(11,dk Pg i fs.length true h),(13, .idx fs ((i:Nat):Int) _ (by omega) a),(18,qB g)]} 28 700000
end
end
def Wd(fs:List D)(nm:List UInt8)(i:Nat):Option (Nat×Fn)→Prop
 |none=>RL 21 (lO 28 2) (Md fs nm i) ([]) (.exit 0) [] ([])
 |some j=>RL 21 (lO 28 2) (Md fs nm i) ([]) .ret [(4,dN j.1)] ([])
theorem SY(fs:List Fn)(nm:List UInt8)(o:fs.length<1000000):∀d i:Nat,i+d=fs.length→Wd (fs.map bn) nm i (bA nm (fs.drop i) i)
 |0,i,m=>by
  rw[xx.2 (by omega)];exact fun a X b c=>aA (OT _ nm i (by rw[xO,x6];omega) a X b c) (by simp)
 |d+1,i,m=>by
  have f:i<fs.length:=by omega
  have e:=SY fs nm o d (i+1) (by omega);have l:decide (i<(fs.map bn).length)=true:=by rw[xO];exact yM f
  have g:(fs.map bn)[((i:Nat):Int).toNat]? =some (bn fs[i]):=by rw[xb,xN,xD f];rfl
  rw[xZ f,bA];have n:(nm==fs[i].nm)=(fs[i].nm==nm):=by rw[Bool.eq_iff_iff,yI,yI];exact eq_comm
  rw[n];cases h:(fs[i].nm==nm)with
  |true=>exact fun a X b c=>aA (SX _ nm i l _ _ _ _ _ g (by omega) h a X b c) (by simp)
  |false=>
   have k:=Wc _ nm i l _ _ _ _ _ g (by omega) h;simp only[xP];revert e;cases bA nm (fs.drop (i+1)) (i+1)with
   |none=>exact fun e a X b c=>au (k a X b c) (e a X b c)
   |some j=>exact fun e a X b c=>au (k a X b c) (e a X b c)
theorem SZ(fs:List D)(nm:List UInt8)(j:Nat×Fn)(d:Wd fs nm 0 (some j)):aF Pg 28 [.agg [.ro fs], .str nm] [.int .i64 (j.1:Int)]:=
 qV ({loops:=fun g l=>if g=28 then (if l=2 then some ⟨21,aJ Pg 28 2,Md fs nm 0,fun _=>[], .ret,[(4,dN j.1)],fun _=>[],fun a X b c=>(d a X b c).aw⟩else none)else none}) 709297
theorem S0(fs:List D)(nm:List UInt8)(d:Wd fs nm 0 none):aF Pg 28 [.agg [.ro fs], .str nm] [.int .i64 (-1)]:=
 qV ({loops:=fun g l=>if g=28 then (if l=2 then some ⟨21,aJ Pg 28 2,Md fs nm 0,fun _=>[], .exit 0,[],fun _=>[],fun a X b c=>(d a X b c).aw⟩else none)else none}) 709297
theorem Im(fs:List Fn)(nm:List UInt8)(b:fs.length<1000000):aF Pg 28 [.agg [.ro (fs.map bn)], .str nm] [Xx ((bA nm fs 0).map (·.1))]:=by
 have:=SY fs nm b fs.length 0 (x8 _);rw[xn]at this;revert this;cases bA nm fs 0 with
 |none=>exact fun a=>S0 _ nm a
 |some j=>exact fun a=>SZ _ nm j a
theorem oa{nm:List UInt8}:∀{vs:List Vr}{a:List Bool}{i j:Nat},dZ nm vs a i=some j→i≤j∧j<i+vs.length
 |[],_,_,_,e=>by cases e
 |_::_,[],_,_,e=>by cases e
 |v::vs,b::a,i,j,e=>by
  simp only[dZ]at e;cases c:(v.nm==nm&&b)with
  |true=>rw[c]at e;cases e;simp
  |false=>
   rw[c]at e;have:=oa e;simp only[xG];omega
abbrev eU(S:WK)(q:WL):BO:=⟨S.fs,S.vars,q.s.seen,q.s.sure⟩
section
variable{S:WK}(h:WKok S)(w:WE)(q:WL)(nm:List UInt8)(p:Int)
include h
theorem Yj(c:HC 79 [gl,cS q, .d (.str nm)] (wk S w ++bt q) [.int .i64 (-1)] (wk S w ++bt q)):HC 80 [gl,cS q, .d (.str nm),dI p] (wk S w ++bt q) [] (wk S (w.fail p 6) ++bt q):=
 qN {calls:=tC [(80,12,600148,ad c),(80,17,600333,ad (a8 h w p 6))]} 600000 (bF h h rfl)
section
variable(j:Nat)(v:Vr)(c:HC 79 [gl,cS q, .d (.str nm)] (wk S w ++bt q) [.int .i64 (j:Int)] (wk S w ++bt q))(b:j<S.vars.length)(a:S.vars[j]? =some v)
include j v c b a
theorem Yk(e:(v.ty !=3)=false):HC 80 [gl,cS q, .d (.str nm),dI p] (wk S w ++bt q) [] (wk S w ++bt q):=
 qN {hint:=qT 80 [(27,kr Pg h),(28,gm Pg h),(30,pV Pg S.vars j b),(32,lE Pg S.vars j v a),(33,qB e)],calls:=tC [(80,12,600148,ad c)]} 600000 (bF h h rfl)
theorem Yl(e:(v.ty !=3)=true):HC 80 [gl,cS q, .d (.str nm),dI p] (wk S w ++bt q) [] (wk S (w.fail p 8) ++bt q):=
 qN {hint:=qT 80 [(27,kr Pg h),(28,gm Pg h),(30,pV Pg S.vars j b),(32,lE Pg S.vars j v a),(33,qB e)],calls:=tC [(80,12,600148,ad c),(80,36,600925,ad (a8 h w p 8))]} 600000 (bF h h rfl)
end
theorem OU(f:q.s.seen.length=S.vars.length):HC 80 [gl,cS q, .d (.str nm),dI p] (wk S w ++bt q) [] (wk S (nH (eU S q) nm p w) ++bt q):=by
 have c:=Il h w q nm f;unfold nH;dsimp only[eU];revert c;cases g:dZ nm S.vars q.s.seen 0 with
 |none=>exact fun c=>Yj h w q nm p c
 |some j=>
  intro c;have a:j<S.vars.length:=by have:=oa g;omega
  have b:S.vars[j]? =some (S.vars.getD j default):=by simp[yX,xD a]
  dsimp only;cases e:((S.vars.getD j default).ty==3)with
  |true=>exact Yk h w q nm p j _ c a b (by rw[bne,e];rfl)
  |false=>exact Yl h w q nm p j _ c a b (by rw[bne,e];rfl)
end
end Go.Avm
namespace Go.Avm
open Go.Proofs
abbrev jG(S:WK)(q:WL)(w a:WE)(e:Ex)(t:Int):Prop:=HC 82 [gl,cS q, .d (fd e)] (wk S w ++bt q) [gg t] (wk S a ++bt q)
abbrev iL(S:WK)(q:WL)(w a:WE)(e:Ex)(t:Int):Prop:=HC 78 [gl,cS q, .d (fd e),Ju t] (wk S w ++bt q) [] (wk S a ++bt q)
section
variable{S:WK}(h:WKok S)(w a:WE)(q:WL)(k o:Int)(nm:List UInt8)(n p:Int)(xs:List Ex)(t b:Int)
include h
theorem Ym(c:jG S q w a (.mk k o nm n p xs) b)(d:(b !=t)=false):iL S q w a (.mk k o nm n p xs) t:=
 qN {hint:=qT 78 [(15,qB d)],calls:=tC [(78,12,600100,ad c)]} 600000 (bF h h rfl)
theorem Yn(c:jG S q w a (.mk k o nm n p xs) b)(d:(b !=t)=true):iL S q w (a.fail p 8) (.mk k o nm n p xs) t:=
 qN {hint:=qT 78 [(15,qB d)],calls:=tC [(78,12,600100,ad c),(78,19,600240,ad (a8 h a p 8))]} 600000 (bF h h rfl)
end
def S5(S:WK)(q:WL)(e:Ex):Prop:=∀w:WE,jG S q w (aM (eU S q) e w).2 e (aM (eU S q) e w).1
theorem gW{S:WK}(h:WKok S){q:WL}{e:Ex}(c:S5 S q e)(w:WE)(t:Int):iL S q w (dj (eU S q) e t w) e t:=by
 have c:=c w;obtain⟨k,o,nm,n,p,xs⟩:=e;unfold dj;dsimp only;cases a:((aM (eU S q) (.mk k o nm n p xs) w).1==t)with
 |true=>exact Ym h w _ q k o nm n p xs t _ c (by rw[bne,a];rfl)
 |false=>exact Yn h w _ q k o nm n p xs t _ c (by rw[bne,a];rfl)
end Go.Avm
namespace Go.Avm
open Go.Proofs
section
variable{S:WK}(h:WKok S)(w:WE)(q:WL)(o:Int)(nm:List UInt8)(n p:Int)
include h
theorem We(k:Int)(xs:List Ex)(a:(w.e !=0)=true):jG S q w w (.mk k o nm n p xs) 0:=
 qN {hint:=qT 82 [(19,qB a)]} 600000 (bF h h rfl)
theorem Wf(xs:List Ex)(a:(w.e !=0)=false):jG S q w (w) (.mk 1 o nm n p xs) (1):=
 qN {hint:=qT 82 [(19,qB a)]} 600000 (bF h h rfl)
theorem Wg(xs:List Ex)(a:(w.e !=0)=false):jG S q w (w) (.mk 6 o nm n p xs) (1):=
 qN {hint:=qT 82 [(19,qB a)]} 600000 (bF h h rfl)
theorem Wh(xs:List Ex)(a:(w.e !=0)=false):jG S q w (w) (.mk 2 o nm n p xs) (2):=
 qN {hint:=qT 82 [(19,qB a)]} 600000 (bF h h rfl)
theorem S6(xs:List Ex)(c:HC 79 [gl,cS q, .d (.str nm)] (wk S w ++bt q) [.int .i64 (-1)] (wk S w ++bt q))(a:(w.e !=0)=false):jG S q w (w.fail p 6) (.mk 3 o nm n p xs) (0):=
 qN {hint:=qT 82 [(19,qB a)],calls:=tC [(82,33,604994,ad c),(82,39,606356,ad (a8 h w p 6))]} 600000 (bF h h rfl)
section
variable(xs:List Ex)(j:Nat)(v:Vr)(f:j<S.vars.length)(b:S.vars[j]? =some v)(a:j<q.s.sure.length)
include xs j v f b a
theorem S7(i:q.s.sure[j]? =some true)(c:HC 79 [gl,cS q, .d (.str nm)] (wk S w ++bt q) [.int .i64 ((j:Int))] (wk S w ++bt q))(g:(w.e !=0)=false):jG S q w (w) (.mk 3 o nm n p xs) (v.ty):=
 qN {hint:=qT 82 [(19,qB g),(43, .inb (j:Int) q.s.sure.length (by omega) (by simpa using a)),(44,jC Pg q.s.sure j true i),(59,kr Pg h),(60,gm Pg h),(62,pV Pg S.vars j f),(64,lE Pg S.vars j v b)],calls:=tC [(82,33,604994,ad c)]} 600000 (bF h h rfl)
theorem S8(i:q.s.sure[j]? =some false)(c:HC 79 [gl,cS q, .d (.str nm)] (wk S w ++bt q) [.int .i64 ((j:Int))] (wk S w ++bt q))(g:(w.e !=0)=false):jG S q w (w.fail p 10) (.mk 3 o nm n p xs) (v.ty):=
 qN {hint:=qT 82 [(19,qB g),(43, .inb (j:Int) q.s.sure.length (by omega) (by simpa using a)),(44,jC Pg q.s.sure j false i),(59,kr Pg h),(60,gm Pg h),(62,pV Pg S.vars j f),(64,lE Pg S.vars j v b)],calls:=tC [(82,33,604994,ad c),(82,49,607718,ad (a8 h w p 10))]} 600000 (bF h h rfl)
end
theorem Wi(k:q.s.seen.length=S.vars.length)(d c:Int)(a:List UInt8)(f g:Int)(b zs:List Ex)(i:WE)(c1:iL S q (nH (eU S q) nm p w) i (.mk d c a f g b) 1)(j:(w.e !=0)=false):jG S q w (i) (.mk 4 o nm n p ((.mk d c a f g b)::zs)) (1):=
 qN {hint:=qT 82 [(19,qB j)],calls:=tC [(82,73,605902,ad (OU h w q nm p k)),(82,80,607264,ad c1)]} 600000 (bF h h rfl)
theorem Wj(xs:List Ex)(b:q.s.seen.length=S.vars.length)(a:(w.e !=0)=false):jG S q w (nH (eU S q) nm p w) (.mk 7 o nm n p xs) (1):=
 qN {hint:=qT 82 [(19,qB a)],calls:=tC [(82,144,606810,ad (OU h w q nm p b))]} 600000 (bF h h rfl)
section
variable(d c:Int)(a:List UInt8)(f b:Int)
include d c a f b
theorem S9(g zs:List Ex)(i:WE)(k:(o==21)=true)(c1:iL S q w i (.mk d c a f b g) 2)(j:(w.e !=0)=false):jG S q w (i) (.mk 8 o nm n p ((.mk d c a f b g)::zs)) (2):=
 qN {hint:=qT 82 [(19,qB j),(149,qB k)],calls:=tC [(82,157,608626,ad c1)]} 600000 (bF h h rfl)
theorem Ta(g zs:List Ex)(i:WE)(k:(o==21)=false)(c1:iL S q w i (.mk d c a f b g) 1)(j:(w.e !=0)=false):jG S q w (i) (.mk 8 o nm n p ((.mk d c a f b g)::zs)) (1):=
 qN {hint:=qT 82 [(19,qB j),(149,qB k)],calls:=tC [(82,157,608399,ad c1)]} 600000 (bF h h rfl)
theorem Tb(i:List Ex)(r t:Int)(g:List UInt8)(s k:Int)(bl:List Ex)(l m:WE)(j:(o==17)=true)(c1:iL S q w l (.mk d c a f b i) 2)(u:iL S q l m (.mk r t g s k bl) 2)(v:(w.e !=0)=false):jG S q w (m) (.mk 9 o nm n p [(.mk d c a f b i),(.mk r t g s k bl)]) (2):=
 qN {hint:=qT 82 [(19,qB v),(162,qB j)],calls:=tC [(82,217,609761,ad c1),(82,225,611350,ad u)]} 600000 (bF h h rfl)
theorem Tc(i:List Ex)(s u:Int)(g:List UInt8)(t l:Int)(bl:List Ex)(m r:WE)(j:(o==17)=false)(k:(o==18)=true)(c1:iL S q w m (.mk d c a f b i) 2)(v:iL S q m r (.mk s u g t l bl) 2)(x:(w.e !=0)=false):jG S q w (r) (.mk 9 o nm n p [(.mk d c a f b i),(.mk s u g t l bl)]) (2):=
 qN {hint:=qT 82 [(19,qB x),(162,qB j),(166,qB k)],calls:=tC [(82,217,610442,ad c1),(82,225,612031,ad v)]} 600000 (bF h h rfl)
theorem OV(i:List Ex)(v y:Int)(g:List UInt8)(x s:Int)(bl:List Ex)(t u:WE)(j:(o==17)=false)(m:(o==18)=false)(k:(o==15)=false)(r:(o==16)=false)(l:decide ((11:Int)≤o)=true)(c1:iL S q w t (.mk d c a f b i) 1)(z:iL S q t u (.mk v y g x s bl) 1)(A:(w.e !=0)=false):jG S q w (u) (.mk 9 o nm n p [(.mk d c a f b i),(.mk v y g x s bl)]) (2):=
 qN {hint:=qT 82 [(19,qB A),(162,qB j),(166,qB m),(171,qB k),(175,qB r),(209,qB l)],calls:=tC [(82,217,613166,ad c1),(82,225,614755,ad z)]} 600000 (bF h h rfl)
theorem OW(i:List Ex)(v y:Int)(g:List UInt8)(x s:Int)(bl:List Ex)(t u:WE)(j:(o==17)=false)(m:(o==18)=false)(k:(o==15)=false)(r:(o==16)=false)(l:decide ((11:Int)≤o)=false)(c1:iL S q w t (.mk d c a f b i) 1)(z:iL S q t u (.mk v y g x s bl) 1)(A:(w.e !=0)=false):jG S q w (u) (.mk 9 o nm n p [(.mk d c a f b i),(.mk v y g x s bl)]) (1):=
 qN {hint:=qT 82 [(19,qB A),(162,qB j),(166,qB m),(171,qB k),(175,qB r),(209,qB l)],calls:=tC [(82,217,612939,ad c1),(82,225,614528,ad z)]} 600000 (bF h h rfl)
theorem OX(i:List Ex)(v y:Int)(g:List UInt8)(x s:Int)(bl:List Ex)(t u:WE)(r:Int)(k:(o==17)=false)(m:(o==18)=false)(l:(o==15)=true)(c1:jG S q w t (.mk d c a f b i) r)(j:(r !=1)=false)(z:iL S q t u (.mk v y g x s bl) r)(A:(w.e !=0)=false):jG S q w (u) (.mk 9 o nm n p [(.mk d c a f b i),(.mk v y g x s bl)]) (2):=
 qN {hint:=qT 82 [(19,qB A),(162,qB k),(166,qB m),(171,qB l),(185,qB j)],calls:=tC [(82,183,611350,ad c1),(82,204,614074,ad z)]} 600000 (bF h h rfl)
theorem OY(i:List Ex)(x z:Int)(g:List UInt8)(y t:Int)(bl:List Ex)(u v:WE)(j:Int)(m:(o==17)=false)(s:(o==18)=false)(r:(o==15)=true)(c1:jG S q w u (.mk d c a f b i) j)(k:(j !=1)=true)(l:(j !=2)=false)(A:iL S q u v (.mk x z g y t bl) j)(B:(w.e !=0)=false):jG S q w (v) (.mk 9 o nm n p [(.mk d c a f b i),(.mk x z g y t bl)]) (2):=
 qN {hint:=qT 82 [(19,qB B),(162,qB m),(166,qB s),(171,qB r),(185,qB k),(188,qB l)],calls:=tC [(82,183,611350,ad c1),(82,204,614528,ad A)]} 600000 (bF h h rfl)
theorem OZ(i:List Ex)(x z:Int)(g:List UInt8)(y u:Int)(bl:List Ex)(l v:WE)(j:Int)(r:(o==17)=false)(t:(o==18)=false)(s:(o==15)=true)(c1:jG S q w l (.mk d c a f b i) j)(k:(j !=1)=true)(m:(j !=2)=true)(A:iL S q (l.fail b 8) v (.mk x z g y u bl) j)(B:(w.e !=0)=false):jG S q w (v) (.mk 9 o nm n p [(.mk d c a f b i),(.mk x z g y u bl)]) (2):=
 qN {hint:=qT 82 [(19,qB B),(162,qB r),(166,qB t),(171,qB s),(185,qB k),(188,qB m)],calls:=tC [(82,183,611350,ad c1),(82,196,614301,ad (a8 h l b 8)),(82,204,615890,ad A)]} 600000 (bF h h rfl)
theorem O0(i:List Ex)(x z:Int)(g:List UInt8)(y t:Int)(bl:List Ex)(u v:WE)(s:Int)(k:(o==17)=false)(m:(o==18)=false)(l:(o==15)=false)(r:(o==16)=true)(c1:jG S q w u (.mk d c a f b i) s)(j:(s !=1)=false)(A:iL S q u v (.mk x z g y t bl) s)(B:(w.e !=0)=false):jG S q w (v) (.mk 9 o nm n p [(.mk d c a f b i),(.mk x z g y t bl)]) (2):=
 qN {hint:=qT 82 [(19,qB B),(162,qB k),(166,qB m),(171,qB l),(175,qB r),(185,qB j)],calls:=tC [(82,183,612031,ad c1),(82,204,614755,ad A)]} 600000 (bF h h rfl)
theorem O1(i:List Ex)(y A:Int)(g:List UInt8)(z u:Int)(bl:List Ex)(v x:WE)(j:Int)(r:(o==17)=false)(s:(o==18)=false)(m:(o==15)=false)(t:(o==16)=true)(c1:jG S q w v (.mk d c a f b i) j)(k:(j !=1)=true)(l:(j !=2)=false)(B:iL S q v x (.mk y A g z u bl) j)(C:(w.e !=0)=false):jG S q w (x) (.mk 9 o nm n p [(.mk d c a f b i),(.mk y A g z u bl)]) (2):=
 qN {hint:=qT 82 [(19,qB C),(162,qB r),(166,qB s),(171,qB m),(175,qB t),(185,qB k),(188,qB l)],calls:=tC [(82,183,612031,ad c1),(82,204,615209,ad B)]} 600000 (bF h h rfl)
theorem O2(i:List Ex)(y A:Int)(g:List UInt8)(z v:Int)(bl:List Ex)(l x:WE)(j:Int)(s:(o==17)=false)(t:(o==18)=false)(r:(o==15)=false)(u:(o==16)=true)(c1:jG S q w l (.mk d c a f b i) j)(k:(j !=1)=true)(m:(j !=2)=true)(B:iL S q (l.fail b 8) x (.mk y A g z v bl) j)(C:(w.e !=0)=false):jG S q w (x) (.mk 9 o nm n p [(.mk d c a f b i),(.mk y A g z v bl)]) (2):=
 qN {hint:=qT 82 [(19,qB C),(162,qB s),(166,qB t),(171,qB r),(175,qB u),(185,qB k),(188,qB m)],calls:=tC [(82,183,612031,ad c1),(82,196,614982,ad (a8 h l b 8)),(82,204,616571,ad B)]} 600000 (bF h h rfl)
end
theorem Td(xs:List Ex)(c:aF Pg 28 [.agg [.ro (S.fs.map bn)], .str nm] [.int .i64 (-1)])(a:(w.e !=0)=false):jG S q w (w.fail p 6) (.mk 5 o nm n p xs) (0):=
 qN {hint:=qT 82 [(19,qB a),(89, .call 28 _ _ c)],calls:=tC [(82,95,607718,ad (a8 h w p 6))]} 600000 (bF h h rfl)
theorem Te(j:Nat)(xs:List Ex)(c:aF Pg 28 [.agg [.ro (S.fs.map bn)], .str nm] [.int .i64 ((j:Int))])(fm:List UInt8)(ps bd:List D)(res fp:Int)(b:(S.fs.map bn)[((j:Nat):Int).toNat]? =some (.agg [.str fm, .ro ps, .int .u8 res, .ro bd, .int .i64 fp]))(d:((ps.length:Int) !=((fJ xs).length:Int))=true)(a:(w.e !=0)=false):jG S q w (w.fail p 9) (.mk 5 o nm n p xs) (0):=
 qN {hint:=qT 82 [(19,qB a),(89, .call 28 _ _ c),(102, .idx (S.fs.map bn) ((j:Nat):Int) _ (by omega) b),(110,qB d)],calls:=tC [(82,114,611577,ad (a8 h w p 9))]} 600000 (bF h h rfl)
end
end Go.Avm
namespace Go.Avm
open Go.Proofs
abbrev Yo(fm:List UInt8)(ps bd:List D)(res fp:Int):List AV:=[.d (.str fm), .d (.ro ps),Ju res, .d (.ro bd),dI fp]
abbrev o3(S:WK)(w:WE)(q:WL)(fm:List UInt8)(ps bd:List D)(res fp:Int):List (Nat×aE):=wk S w ++bt q ++dD 600004 q ++[(608862,⟨1,some (.arr 1 (Yo fm ps bd res fp))⟩)]
abbrev ES(xs:List D)(i:Nat):List (Nat×AV):=[(0,gl),(4, .ptr 600004 1 0 0 1),(9, .ptr 608862 1 0 0 1),(116, .d (.ro xs)),(117,dN xs.length),(118,dN i)]
abbrev KQ:List (Nat×AV):=[(9, .ptr 608862 1 0 0 1)]
theorem vP{S:WK}{w:WE}{q:WL}{fm:List UInt8}{ps bd:List D}{res fp:Int}(h:WKok S){ρ:Nat→Nat}(a:([500005,500382,500191,500010,500011].map ρ)=[500005,500382,500191,500010,500011]):((o3 S w q fm ps bd res fp).map fun p=>aY ρ p.2)=(o3 S w q fm ps bd res fp).map (·.2):=by
 unfold o3;rw[xF,gF h a,xF];rfl
section
variable{S:WK}(h:WKok S)(w:WE)(q:WL)(fm:List UInt8)(ps bd:List D)(res fp:Int)(xs:List D)(i:Nat)
include h
theorem O3(a:decide (i<xs.length)=false):RE 227 (lO 82 31) (ES xs i) (o3 S w q fm ps bd res fp) (.exit 1) KQ (o3 S w q fm ps bd res fp):=
 qE {hint:=qT 82 [(119,dk Pg i xs.length false a)]} 82 700000 ⟨rfl,rfl,rfl,rfl,vP h rfl,vP h rfl⟩
theorem Wk(l:decide (i<xs.length)=true)(m:i<1000000)(f c:Int)(a:List UInt8)(e d:Int)(b:List Ex)(j:xs[((i:Nat):Int).toNat]? =some (fd (.mk f c a e d b)))(k:List UInt8)(ty pp:Int)(hp:ps[((i:Nat):Int).toNat]? =some (.agg [.str k, .int .u8 ty, .int .i64 pp]))(g:WE)(c1:iL S q w g (.mk f c a e d b) ty):RE 227 (lO 82 31) (ES xs i) (o3 S w q fm ps bd res fp) .normal (ES xs (i+1)) (o3 S g q fm ps bd res fp):=
 qE {hint:=qT 82 [(119,dk Pg i xs.length true l),(121, .idx xs ((i:Nat):Int) _ (by omega) j),(129, .idx ps ((i:Nat):Int) _ (by omega) hp),(133,bj Pg i (by omega))],calls:=tC [(82,132,703632,ad c1)]} 82 700000 ⟨rfl,rfl,rfl,rfl,vP h rfl,vP h rfl⟩
set_option maxRecDepth 100000 in
theorem Tf(b:WE)(o:Int)(nm:List UInt8)(n p:Int)(zs:List Ex)(j:Nat)(k:(w.e !=0)=false)(c:aF Pg 28 [.agg [.ro (S.fs.map bn)], .str nm] [.int .i64 (j:Int)])(s:(S.fs.map bn)[((j:Nat):Int).toNat]? =some (.agg [.str fm, .ro ps, .int .u8 res, .ro bd, .int .i64 fp]))(d:((ps.length:Int) !=((fJ zs).length:Int))=false)(m:RL 227 (lO 82 31) (ES (fJ zs) 0) (o3 S w q fm ps bd res fp) (.exit 1) KQ (o3 S b q fm ps bd res fp)):jG S q w b (.mk 5 o nm n p zs) res:=
 qN {loops:=fun g l=>if g=82 then (if l=31 then some ⟨227,aJ Pg 82 31,ES (fJ zs) 0,fun _=>o3 S w q fm ps bd res fp, .exit 1,KQ,fun _=>o3 S b q fm ps bd res fp,fun a X f r=>(m a X f r).aw⟩else none)else none,hint:=qT 82 [(19,qB k),(89, .call 28 _ _ c),(102, .idx (S.fs.map bn) ((j:Nat):Int) _ (by omega) s),(110,qB d)]} 600000 (bF h h rfl)
end
end Go.Avm
namespace Go.Avm
open Go.Proofs
theorem O4{ps:List Pm}{i:Nat}(a:i<ps.length):(ps.map cR)[((i:Nat):Int).toNat]? =some (.agg [.str ps[i].nm, .int .u8 ps[i].ty, .int .i64 ps[i].p]):=by
 rw[xb,xN,xD a];rfl
theorem oc{nm:List UInt8}:∀{l:List Fn}{i j:Nat}{f:Fn},bA nm l i=some (j,f)→i≤j∧l[j-i]? =some f
 |[],_,_,_,e=>by cases e
 |x::l,i,j,f,e=>by
  simp only[bA]at e;cases a:(nm==x.nm)with
  |true=>rw[a]at e;cases e;exact⟨xL _,by rw[zM];rfl⟩
  |false=>
   rw[a]at e;have:=oc e;exact⟨by omega,by rw[show j-i=(j-(i+1))+1 by omega];exact this.2⟩
section
variable{S:WK}(h:WKok S)(q:WL)
include h
theorem Tg{fm:List UInt8}{ps:List Pm}{bd:List D}{res fp:Int}{xs:List Ex}(r:∀x∈xs,S5 S q x)(v:ps.length=xs.length)(y:xs.length<1000000):∀(d i:Nat)(w:WE),i+d=xs.length→RL 227 (lO 82 31) (ES (fJ xs) i) (o3 S w q fm (ps.map cR) bd res fp) (.exit 1) KQ (o3 S (ba (eU S q) (xs.drop i) ((ps.map (·.ty)).drop i) w) q fm (ps.map cR) bd res fp)
 |0,i,w,s,a,X,b,f=>by
  rw[xx.2 (by omega:xs.length≤i)];have e:ba (eU S q) [] ((ps.map (·.ty)).drop i) w=w:=by unfold ba;rfl
  rw[e];exact aA (O3 h w q fm _ bd res fp _ i (by rw[cC,x6];omega) a X b f) (by simp)
 |d+1,i,w,s,a,X,b,f=>by
  have g:i<xs.length:=by omega
  have l:i<(ps.map (·.ty)).length:=by rw[xO];omega
  have c:=gW h (r xs[i] (yO g)) w ((ps.map (·.ty))[i]);have m:(fJ xs)[((i:Nat):Int).toNat]? =some (fd xs[i]):=by rw[xb,jV,xN,xD g];rfl
  have t:(ps.map (·.ty))[i]=ps[i].ty:=by simp
  rw[xZ g,xZ l];have e:ba (eU S q) (xs[i]::xs.drop (i+1)) ((ps.map (·.ty))[i]::(ps.map (·.ty)).drop (i+1)) w=ba (eU S q) (xs.drop (i+1)) ((ps.map (·.ty)).drop (i+1)) (dj (eU S q) xs[i] ((ps.map (·.ty))[i]) w):=by rw[ba];rfl
  rw[e];have j:=Tg (fm:=fm) (bd:=bd) (res:=res) (fp:=fp) r v y d (i+1) (dj (eU S q) xs[i] ((ps.map (·.ty))[i]) w) (by omega) a X b f;rw[t]at c j ⊢;revert m c;generalize dj (eU S q) xs[i] ps[i].ty w=u at j ⊢;cases xs[i]with
  |mk k o nm n p zs=>
   intro c m;exact au (Wk h w q fm _ bd res fp _ i (by rw[cC,xw];omega) (by omega) _ _ _ _ _ _ m _ _ _ (O4 (by omega)) u c a X b f) j
end
theorem Th{a:Type}:∀{l:List a},l.length=2→∃x y,l=[x,y]
 |[x,y],_=>⟨x,y,rfl⟩
theorem lF(E:BO)(x:Ex)(t:Int)(w:WE):ba E [x] [t] w=dj E x t w:=by
 rw[ba,ba]
 ·rfl
 ·intro _ _ _ _ h;cases h
theorem Cj(E:BO)(x y:Ex)(a b:Int)(w:WE):ba E [x,y] [a,b] w=dj E y b (dj E x a w):=by
 rw[ba,lF];rfl
theorem Wl(E:BO)(x y:Ex)(w:WE):P1 E [x,y] w=dj E y (aM E x w).1 (bif (aM E x w).1==1||(aM E x w).1==2 then (aM E x w).2 else (aM E x w).2.fail (E4 x) 8):=by
 rw[P1,lF]
section
variable{S:WK}(h:WKok S)(q:WL)(a:q.s.seen.length=S.vars.length)(b:q.s.sure.length=S.vars.length)
include h a b
mutual
theorem Me:∀e:Ex,Eh e=true→S5 S q e
 | .mk k o nm n p xs,hw=>fun w=>by
  simp only[Eh,xJ]at hw;obtain⟨hk,hxs⟩:=hw;have R:=Io xs hxs;cases H:(w.e==0)with
  |false=>
   have e:aM (eU S q) (.mk k o nm n p xs) w=(0,w):=by rw[aM,H];rfl
   rw[e];exact We h w q o nm n p k xs (by rw[bne,H];rfl)
  |true=>
   have t:(w.e !=0)=false:=by rw[bne,H];rfl
   simp only[yQ,xJ,yI]at hk;rcases hk with (((((((rfl|rfl)|rfl)|rfl)|rfl)|rfl)|⟨rfl|rfl,Y⟩)|⟨rfl,Y⟩)
   ·have e:aM (eU S q) (.mk 1 o nm n p xs) w=(1,w):=by rw[aM,H];rfl
    rw[e];exact Wf h w q o nm n p xs t
   ·have e:aM (eU S q) (.mk 2 o nm n p xs) w=(2,w):=by rw[aM,H];rfl
    rw[e];exact Wh h w q o nm n p xs t
   ·have c:=Il h w q nm a
    have e:aM (eU S q) (.mk 3 o nm n p xs) w=match dZ nm S.vars q.s.seen 0 with
        |none=>(0,w.fail p 6)
        |some i=>((S.vars.getD i default).ty,bif q.s.sure.getD i false then w else w.fail p 10):=by rw[aM,H];rfl
    rw[e];revert c;cases hf:dZ nm S.vars q.s.seen 0 with
    |none=>exact fun c=>S6 h w q o nm n p xs c t
    |some j=>
     intro c;have hj:j<S.vars.length:=by have:=oa hf;omega
     have hv:S.vars[j]? =some (S.vars.getD j default):=by simp[yX,xD hj]
     have Q:j<q.s.sure.length:=by omega
     have V:q.s.sure[j]? =some (q.s.sure.getD j false):=by simp[yX,xD Q]
     dsimp only;revert V;cases q.s.sure.getD j false with
     |true=>exact fun V=>S7 h w q o nm n p xs j _ hj hv Q V c t
     |false=>exact fun V=>S8 h w q o nm n p xs j _ hj hv Q V c t
   ·have e:aM (eU S q) (.mk 6 o nm n p xs) w=(1,w):=by rw[aM,H];rfl
    rw[e];exact Wg h w q o nm n p xs t
   ·have e:aM (eU S q) (.mk 7 o nm n p xs) w=(1,nH (eU S q) nm p w):=by rw[aM,H];rfl
    rw[e];exact Wj h w q o nm n p xs a t
   ·have c:=Im S.fs nm h.len
    have e:aM (eU S q) (.mk 5 o nm n p xs) w=match bA nm S.fs 0 with
        |none=>(0,w.fail p 6)
        |some (_,f)=>bif f.ps.length==xs.length then (f.res,ba (eU S q) xs (f.ps.map (·.ty)) w)else (0,w.fail p 9):=by rw[aM,H];rfl
    rw[e];revert c;cases hf:bA nm S.fs 0 with
    |none=>exact fun c=>Td h w q o nm n p xs c t
    |some r=>
     obtain⟨j,f⟩:=r;intro c;have hg:=(oc hf).2;rw[Nat.sub_zero]at hg;obtain⟨fm,ps,res,bd,fp⟩:=f
     have X:(S.fs.map bn)[((j:Nat):Int).toNat]? =some (.agg [.str fm, .ro (ps.map cR), .int .u8 res, .ro (cg bd), .int .i64 fp]):=by
      rw[xb,xN,hg];rfl
     have hp6:=h.par _ (xX hg);dsimp only at hp6 ⊢;cases T:(ps.length==xs.length)with
     |false=>
      exact Te h w q o nm n p j xs c fm (ps.map cR) (cg bd) res fp X (by rw[xO,cC];have:=beq_eq_false_iff_ne.1 T;simp;omega) t
     |true=>
      have T:=eq_of_beq T;have cl:=Tg h q (fm:=fm) (ps:=ps) (bd:=cg bd) (res:=res) (fp:=fp) R T (by omega) xs.length 0 w (x8 _);rw[xn,xn]at cl;exact Tf h w q fm (ps.map cR) (cg bd) res fp _ o nm n p xs j t c X (by rw[xO,cC,T];simp) cl
   ·obtain⟨x,rfl⟩:=yJ.1 Y
    have e:aM (eU S q) (.mk 4 o nm n p [x]) w=(1,ba (eU S q) [x] [1] (nH (eU S q) nm p w)):=by rw[aM,H];rfl
    rw[e,lF];have c:=gW h (R x (by simp)) (nH (eU S q) nm p w) 1;cases x with
    |mk D C d E v g=>exact Wi h w q o nm n p a D C d E v g [] _ c t
   ·obtain⟨x,rfl⟩:=yJ.1 Y
    cases P:(o==21)with
    |true=>
     have e:aM (eU S q) (.mk 8 o nm n p [x]) w=(2,ba (eU S q) [x] [2] w):=by rw[aM,H,P];rfl
     rw[e,lF];have c:=gW h (R x (by simp)) w 2;cases x with
     |mk D C d E v g=>exact S9 h w q o nm n p D C d E v g [] _ P c t
    |false=>
     have e:aM (eU S q) (.mk 8 o nm n p [x]) w=(1,ba (eU S q) [x] [1] w):=by rw[aM,H,P];rfl
     rw[e,lF];have c:=gW h (R x (by simp)) w 1;cases x with
     |mk D C d E v g=>exact Ta h w q o nm n p D C d E v g [] _ P c t
   ·obtain⟨x,y,rfl⟩:=Th Y
    have cx:=R x (by simp);have Z:=R y (by simp);have e:aM (eU S q) (.mk 9 o nm n p [x,y]) w=bif o==17||o==18 then (2,ba (eU S q) [x,y] [2,2] w)else bif o==15||o==16 then (2,P1 (eU S q) [x,y] w)else (bif decide (11≤o)then 2 else 1,ba (eU S q) [x,y] [1,1] w):=by rw[aM,H];rfl
    rw[e,Cj,Cj,Wl];have b2:=gW h Z (dj (eU S q) x 2 w) 2;have a2:=gW h cx w 2;have b1:=gW h Z (dj (eU S q) x 1 w) 1;have a1:=gW h cx w 1;have ax:=cx w;have bx:=gW h Z (bif (aM (eU S q) x w).1==1||(aM (eU S q) x w).1==2 then (aM (eU S q) x w).2 else (aM (eU S q) x w).2.fail (E4 x) 8) (aM (eU S q) x w).1;obtain⟨D,C,d,E,v,g⟩:=x;obtain⟨I,K,m,L,J,bl⟩:=y;cases u:(o==17)with
    |true=>exact Tb h w q o nm n p D C d E v g I K m L J bl _ _ u a2 b2 t
    |false=>cases B:(o==18)with
     |true=>exact Tc h w q o nm n p D C d E v g I K m L J bl _ _ u B a2 b2 t
     |false=>
      have U:∀(G:Int)(M:WE),jG S q w M (.mk D C d E v g) G→∀O,iL S q (bif G==1||G==2 then M else M.fail v 8) O (.mk I K m L J bl) G→((o==15)=true∨(o==15)=false∧(o==16)=true)→jG S q w O (.mk 9 o nm n p [.mk D C d E v g, .mk I K m L J bl]) 2:=fun G M c1 O N P=>by
       cases A:(G==1)with
       |true=>
        rw[A]at N;rcases P with l|⟨l,z⟩
        ·exact OX h w q o nm n p D C d E v g I K m L J bl M O G u B l c1 (by rw[bne,A];rfl) N t
        ·exact O0 h w q o nm n p D C d E v g I K m L J bl M O G u B l z c1 (by rw[bne,A];rfl) N t
       |false=>cases F:(G==2)with
        |true=>
         rw[A,F]at N;rcases P with l|⟨l,z⟩
         ·exact OY h w q o nm n p D C d E v g I K m L J bl M O G u B l c1 (by rw[bne,A];rfl) (by rw[bne,F];rfl) N t
         ·exact O1 h w q o nm n p D C d E v g I K m L J bl M O G u B l z c1 (by rw[bne,A];rfl) (by rw[bne,F];rfl) N t
        |false=>
         rw[A,F]at N;rcases P with l|⟨l,z⟩
         ·exact OZ h w q o nm n p D C d E v g I K m L J bl M O G u B l c1 (by rw[bne,A];rfl) (by rw[bne,F];rfl) N t
         ·exact O2 h w q o nm n p D C d E v g I K m L J bl M O G u B l z c1 (by rw[bne,A];rfl) (by rw[bne,F];rfl) N t
      cases l:(o==15)with
      |true=>exact U _ _ ax _ bx (.inl l)
      |false=>cases z:(o==16)with
       |true=>exact U _ _ ax _ bx (.inr ⟨l,z⟩)
       |false=>cases W:decide (11≤o)with
        |true=>exact OV h w q o nm n p D C d E v g I K m L J bl _ _ u B l z W a1 b1 t
        |false=>exact OW h w q o nm n p D C d E v g I K m L J bl _ _ u B l z W a1 b1 t
theorem Io:∀xs:List Ex,b8 xs=true→∀x∈xs,S5 S q x
 |[],_,x,c=>by cases c
 |y::r,hw,x,c=>by
  simp only[b8,xJ]at hw;rcases x0.1 c with e|c
  ·rw[e];exact Me y hw.1
  ·exact Io r hw.2 x c
end
end
end Go.Avm
namespace Go.Avm
open Go.Proofs
section
variable(k id:Int)(nm:List UInt8)(ty n p:Int)(es:List Ex)(bd a:List aP)
abbrev o4(x:aP)(b:Bool):Prop:=aF Pg 51 [mn x] [.bool b]
abbrev kw(l:List aP)(b:Bool):Prop:=aF Pg 31 [.ro (cg l)] [.bool b]
theorem Yp(b:(k==6)=true):o4 (.mk k id nm ty n p es bd a) true:=
 qV {hint:=qT 51 [(5,qB b)]} 709297
theorem Yq(b:(k==6)=false)(c:(k==4)=false):o4 (.mk k id nm ty n p es bd a) false:=
 qV {hint:=qT 51 [(5,qB b),(9,qB c)]} 709297
theorem Yr(b:(k==6)=false)(d:(k==4)=true)(c:kw bd false):o4 (.mk k id nm ty n p es bd a) false:=
 qV {hint:=qT 51 [(5,qB b),(9,qB d),(13, .call 31 _ _ c)]} 709297
theorem Ys(b:Bool)(d:(k==6)=false)(e:(k==4)=true)(c:kw bd true)(f:kw a b):o4 (.mk k id nm ty n p es bd a) b:=
 qV {hint:=qT 51 [(5,qB d),(9,qB e),(13, .call 31 _ _ c),(18, .call 31 _ _ f)]} 709297
theorem Yt:kw [] false:=
 qV {} 709297
theorem Yu(l:List aP)(b:Bool)(e:(cg l).length<1000000000)(hp:decide (0<((cg l).length:Int))=true)(d:(cg l)[(((cg l).length:Int)-1).toNat]? =some (mn (.mk k id nm ty n p es bd a)))(c:o4 (.mk k id nm ty n p es bd a) b):kw l b:=
 qV {hint:=qT 31 [(5,qB hp),(10, .val (dI (IntKind.i64.wrap (((cg l).length:Int)-1))) (dI (((cg l).length:Int)-1)) (by rw[IntWalk.i64_in _ (by omega)])),(11, .idx (cg l) (((cg l).length:Int)-1) (mn (.mk k id nm ty n p es bd a)) (by have:=xe hp;omega) d),(13, .call 51 _ _ c)]} 709297
end
theorem Ip:∀(l:List aP)(h:l≠[]),(cg l)[(((cg l).length:Int)-1).toNat]? =some (mn (l.getLast h)):=fun l h=>by
 have a:0<l.length:=List.length_pos_iff.2 h;rw[fT,show((l.length:Int)-1).toNat=l.length-1 by omega,jW,xN,xD (by omega)];simp only[x5,List.getLast_eq_getElem]
theorem od:∀(l:List aP)(h:l≠[]),bT l=eQ (l.getLast h)
 |[],h=>absurd rfl h
 |[x],_=>rfl
 |x::y::l,_=>by
  have:=od (y::l) (by simp);rw[bT,List.getLast_cons (by simp)];exact this
theorem vQ:∀l:List aP,l.length<1000000→(∀x∈l,o4 x (eQ x))→kw l (bT l)
 |[],_,_=>Yt
 |x::r,f,e=>by
  have a:x::r≠[]:=by simp
  have b:=Ip _ a;have c:=e _ (List.getLast_mem a);rw[od _ a];revert b c;generalize (x::r).getLast a=y;obtain⟨k,id,nm,ty,n,p,es,bd,d⟩:=y;intro b c;exact Yu k id nm ty n p es bd d (x::r) _ (by rw[fT];omega) (by rw[fT,decide_eq_true_iff];simp only[xG];omega) b c
mutual
theorem Ti:∀x:aP,j8 x<1000000→o4 x (eQ x)
 | .mk k id nm ty n p es bd a,d=>by
  simp only[j8]at d;have g:=jz bd;have f:=jz a;have c1:=vQ bd (by omega) (sB bd (by omega));have e:=vQ a (by omega) (sB a (by omega));simp only[eQ];cases b:(k==6)with
  |true=>exact Yp k id nm ty n p es bd a b
  |false=>cases c:(k==4)with
   |false=>exact Yq k id nm ty n p es bd a b c
   |true=>
    revert c1;cases bT bd with
    |false=>exact fun c1=>Yr k id nm ty n p es bd a b c c1
    |true=>exact fun c1=>Ys k id nm ty n p es bd a _ b c c1 e
theorem sB:∀l:List aP,bf l<1000000→∀x∈l,o4 x (eQ x)
 |[],_,x,a=>by cases a
 |y::r,b,x,a=>by
  simp only[bf]at b;rcases x0.1 a with e|a
  ·rw[e];exact Ti y (by omega)
  ·exact sB r (by omega) x a
end
theorem Iq(l:List aP)(a:bf l<1000000):kw l (bT l):=vQ l (by have:=jz l;omega) (sB l a)
end Go.Avm
namespace Go.Avm
open Go.Proofs
abbrev Ir(q:WL):AV:= .agg [.sl 500020 q.vS 0 q.s.seen.length 1, .sl 500072 q.vU 0 q.s.sure.length 1]
abbrev tn(q:WL):List (Nat×aE):=[(500020,⟨q.vS,some (.arr 1 ((q.s.seen.map D.bool).map AV.d))⟩),(500072,⟨q.vU,some (.arr 1 ((q.s.sure.map D.bool).map AV.d))⟩)]
abbrev Wm(a b:Nat):List (Nat×aE):=[(500020,⟨a,none⟩),(500072,⟨b,none⟩)]
theorem Is{q:WL}{ρ:Nat→Nat}{x y:Nat}:((bt q ++Wm x y).map fun p=>aY ρ p.2)=(bt q ++Wm x y).map (·.2):=by
 rw[xF,fY,xF];rfl
theorem KR{q:WL}{ρ:Nat→Nat}:((tn q).map fun p=>aY ρ p.2)=(tn q).map (·.2):=by
 simp only[tn,xH,xY,aY,x5,dx,jZ]
theorem ET{q q':WL}{ρ:Nat→Nat}:((bt q ++tn q').map fun p=>aY ρ p.2)=(bt q ++tn q').map (·.2):=by
 rw[xF,fY,KR,xF]
theorem Ck(l:List Bool)(h:l.length<1000000):(l.map D.bool).length=l.length∧(l.map D.bool).length≤549755813888∧(l.map D.bool).all (fun y=>y.cells.length==1)=true∧(l.map D.bool).all D.one=true:=by
 refine⟨xO _,by rw[xO];omega, ?_, ?_⟩
 ·rw[List.all_map,xc];intro _ _;rfl
 ·rw[List.all_map,xc];intro _ _;rfl
theorem It(q:WL)(a b:Nat)(d:q.s.seen.length<1000000)(h2:q.s.sure.length<1000000):∀c:aa,am Pg 81 [cS q] (ae (bt q ++Wm a b) c) [Ir ⟨q.s,a+2,b+2⟩] (ae (bt q ++tn ⟨q.s,a+2,b+2⟩) c):=
 qA {obm:=fun g s=>g==81&&(s==3||s==7),hint:=qT 81 [(6, .appc (q.s.seen.map D.bool) q.s.seen.length 1 (Ck _ d)),(10, .appc (q.s.sure.map D.bool) q.s.sure.length 1 (Ck _ h2))]} 499993 ⟨rfl,rfl,rfl,rfl,Is,ET⟩
def WL.push(q:WL)(x y:Bool):WL:=⟨⟨q.s.seen ++[x],q.s.sure ++[y]⟩,q.vS+1,q.vU+1⟩
abbrev Az(q:WL)(x y:Bool):List (Nat×aE):=[(500010,⟨q.vS+1,some (.arr 1 (((q.s.seen.map D.bool).map AV.d).take q.s.seen.length ++[AV.d (.bool x)]))⟩),(500011,⟨q.vU+1,some (.arr 1 (((q.s.sure.map D.bool).map AV.d).take q.s.sure.length ++[AV.d (.bool y)]))⟩)]
theorem DF(l:List Bool)(x:Bool):((l.map D.bool).map AV.d).take l.length ++[AV.d (.bool x)]=((l ++[x]).map D.bool).map AV.d:=by
 rw[yB (by simp),xF,xF];rfl
theorem lR(q:WL)(x y:Bool):Az q x y=bt (q.push x y):=by
 unfold Az bt WL.push;rw[DF,DF]
abbrev KS(K:Nat)(q:WL):List (Nat×aE):=[(K,⟨1,some (.arr 1 [.sl 500010 (q.vS+1) 0 (q.s.seen.length+1) 1, .sl 500011 (q.vU+1) 0 (q.s.sure.length+1) 1])⟩)]
theorem qp(K:Nat)(q:WL)(x y:Bool):KS K q=dD K (q.push x y):=by
 unfold KS dD WL.push;simp only[xK,xG,xS]
abbrev DG:List (Nat×aE):=[(600036,⟨1,some (.arr 1 [.nils, .nils])⟩)]
abbrev Mf:List (Nat×AV):=[(0,gl),(3, .ptr 600003 1 0 0 1),(4, .ptr 600036 1 0 0 1)]
abbrev T3:List (Nat×AV):=[(3, .ptr 600003 1 0 0 1),(4, .ptr 600036 1 0 0 1)]
theorem vT{S:WK}{w:WE}{q:WL}(h:WKok S){ρ:Nat→Nat}(a:([500005,500382,500191,500010,500011].map ρ)=[500005,500382,500191,500010,500011]):((wk S w ++bt q ++dD 600003 q ++DG).map fun p=>aY ρ p.2)=(wk S w ++bt q ++dD 600003 q ++DG).map (·.2):=by
 have e:=gF (K:=600003) (w:=w) (q:=q) h a;rw[xF,e];refine Eq.trans ?_ (xF ..).symm;rfl
section
variable{S:WK}(h:WKok S)(w:WE)(q:WL)
include h
theorem O5(a:decide (q.s.seen.length<S.vars.length)=false):RE 32 (lO 77 1) Mf (wk S w ++bt q ++dD 600003 q ++DG) (.exit 0) T3 (wk S w ++bt q ++dD 600003 q ++DG):=
 qE {hint:=qT 77 [(17,kr Pg h),(18,gm Pg h),(20,dk Pg q.s.seen.length S.vars.length false a)]} 77 700000 ⟨rfl,rfl,rfl,rfl,vT h rfl,vT h rfl⟩
section
variable(a:decide (q.s.seen.length<S.vars.length)=true)(h2:q.s.seen.length<1000000)(b:q.s.sure.length<1000000)
include a h2 b
theorem Tj:RE 32 (lO 77 1) Mf (wk S w ++bt q ++dD 600003 q ++DG) .normal Mf (wk S w ++Az q false false ++KS 600003 q ++DG):=
 qE {hint:=qT 77 [(17,kr Pg h),(18,gm Pg h),(20,dk Pg q.s.seen.length S.vars.length true a),(24, .apps ((q.s.seen.map D.bool).map AV.d) q.s.seen.length 1 ⟨by simp,by omega⟩),(29, .apps ((q.s.sure.map D.bool).map AV.d) q.s.sure.length 1 ⟨by simp,by omega⟩)]} 77 700000 ⟨rfl,rfl,rfl,rfl,vT h rfl,by rw[lR,qp 600003 q false false];exact vT h rfl⟩
theorem Wn:RE 32 (lO 77 1) Mf (wk S w ++bt q ++dD 600003 q ++DG) .normal Mf (wk S w ++bt (q.push false false) ++dD 600003 (q.push false false) ++DG):=by
 have:=Tj h w q a h2 b;rw[lR,qp 600003 q false false]at this;exact this
end
theorem AA{q:WL}{n:Nat}(h:q.s.seen.length<n):(q.push false false).s.longer n=q.s.longer n:=by
 obtain⟨k,a⟩:∃k,n-q.s.seen.length=k+1:=⟨n-q.s.seen.length-1,by omega⟩
 simp only[WL.push,LS.longer,xK,xG,xS];rw[a,show n-(q.s.seen.length+(0+1))=k by omega,List.replicate_succ,xa,xa];rfl
theorem Tk(j:S.vars.length<1000000):∀(d:Nat)(q:WL),S.vars.length-q.s.seen.length=d→q.s.sure.length=q.s.seen.length→q.s.seen.length≤S.vars.length→∃q':WL,q'.s=q.s.longer S.vars.length∧RL 32 (lO 77 1) Mf (wk S w ++bt q ++dD 600003 q ++DG) (.exit 0) T3 (wk S w ++bt q' ++dD 600003 q' ++DG)
 |0,q,g,k,f=>by
  refine⟨q, ?_,fun a X b c=>aA (O5 h w q (by rw[x6];omega) a X b c) (by simp)⟩;simp only[LS.longer,g,List.replicate_zero,yC]
 |d+1,q,g,k,f=>by
  obtain⟨q',e,i⟩:=Tk j d (q.push false false) (by simp only[WL.push,xK,xG,xS];omega) (by simp only[WL.push,xK,xG,xS];omega) (by simp only[WL.push,xK,xG,xS];omega);refine⟨q',e.trans (AA h (by omega)),fun a X b c=>au (Wn h w q (by rw[decide_eq_true_iff];omega) (by omega) (by omega) a X b c) (i a X b c)⟩
theorem Tl(q':WL)(d:RL 32 (lO 77 1) Mf (wk S w ++bt q ++dD 600003 q ++DG) (.exit 0) T3 (wk S w ++bt q' ++dD 600003 q' ++DG)):∀a:aa,am Pg 77 [gl,cS q] (ae (wk S w ++bt q) a) [cS q'] (ae (wk S w ++bt q') a):=
 qA ({loops:=fun g l=>if g=77 then (if l=1 then some ⟨32,aJ Pg 77 1,Mf,fun _=>wk S w ++bt q ++dD 600003 q ++DG, .exit 0,T3,fun _=>wk S w ++bt q' ++dD 600003 q' ++DG,fun a X b c=>(d a X b c).aw⟩else none)else none}) 600000 (bF h h rfl)
theorem AB(d:q.s.sure.length=q.s.seen.length)(b:q.s.seen.length≤S.vars.length):∃q':WL,q'.s=q.s.longer S.vars.length∧∀a:aa,am Pg 77 [gl,cS q] (ae (wk S w ++bt q) a) [cS q'] (ae (wk S w ++bt q') a):=by
 obtain⟨q',e,c⟩:=Tk h w (by have:=h.vars;omega) _ q rfl d b;exact⟨q',e,Tl h w q q' c⟩
end
end Go.Avm
namespace Go.Avm
open Go.Proofs
structure SC where
 k:Int
 id:Int
 nm:List UInt8
 ty:Int
 n:Int
 p:Int
 es:List Ex
 bd:List aP
 el:List aP
abbrev P8(x:SC):List AV:=[.d (.int .u8 x.k), .d (.int .i64 x.id), .d (.str x.nm), .d (.int .u8 x.ty), .d (.int .i64 x.n), .d (.int .i64 x.p), .d (.ro (fJ x.es)), .d (.ro (cg x.bd)), .d (.ro (cg x.el))]
abbrev AD(x:SC)(fn:Nat)(a b:List D)(va vb:Nat):List (Nat×aE):=[(600467,⟨1,some (.arr 1 (P8 x))⟩),(600930,⟨1,some (.arr 1 [.nils, .nils])⟩),(607385,⟨1,some (.arr 1 [dN fn, .vec 600101 va 1 a, .vec 600102 vb 1 b])⟩),(600101,⟨va,none⟩),(600102,⟨vb,none⟩)]
abbrev tp(own:Bool)(n i:Nat):List (Nat×AV):=[(0,gl),(3, .d (.bool own)),(5, .ptr 600005 1 0 0 1),(6, .ptr 600467 1 0 0 1),(8, .ptr 600930 1 0 0 1),(9, .ptr 607385 1 0 0 1),(36,dN n),(37,dN i)]
abbrev KT(own:Bool):List (Nat×AV):=[(0,gl),(3, .d (.bool own)),(5, .ptr 600005 1 0 0 1),(6, .ptr 600467 1 0 0 1),(8, .ptr 600930 1 0 0 1),(9, .ptr 607385 1 0 0 1)]
theorem lG{S:WK}{w:WE}{q:WL}{x:SC}{fn va vb:Nat}{a b:List D}(h:WKok S){ρ:Nat→Nat}(c:([500005,500382,500191,500010,500011,600101,600102].map ρ)=[500005,500382,500191,500010,500011,600101,600102]):((wk S w ++bt q ++dD 600005 q ++AD x fn a b va vb).map fun p=>aY ρ p.2)=(wk S w ++bt q ++dD 600005 q ++AD x fn a b va vb).map (·.2):=by
 simp only[xH,xY,List.cons.injEq,zB]at c;obtain⟨i,l,k,g,j,d,f⟩:=c;have e:=gF (K:=600005) (w:=w) (q:=q) h (ρ:=ρ) (by simp only[xH,xY,i,l,k,g,j]);rw[xF,e];refine Eq.trans ?_ (xF ..).symm;congr 1;simp only[AD,xH,xY,aY,x5,yz,dx,bk,aO,d,f,P8]
theorem o5(a:List D)(i:Nat)(r:List Nat):a ++[D.int .i64 (i:Int)] ++bN r=a ++bN (i::r):=by
 rw[xa];rfl
section
variable{S:WK}(h:WKok S)(w:WE)(q:WL)(x:SC)(own:Bool)(fn:Nat)(a b:List D)(va vb n i:Nat)
include h
theorem O6(c:decide (i<n)=false):RE 461 (lO 52 6) (tp own n i) (wk S w ++bt q ++dD 600005 q ++AD x fn a b va vb) (.exit 0) (KT own) (wk S w ++bt q ++dD 600005 q ++AD x fn a b va vb):=
 qE {hint:=qT 52 [(38,dk Pg i n false c)]} 52 700000 ⟨rfl,rfl,rfl,rfl,lG h rfl,lG h rfl⟩
section
variable(d:decide (i<n)=true)(e:i<1000000)(c:i<q.s.seen.length)
include d e c
theorem Wo(f:q.s.seen[i]? =some false):RE 461 (lO 52 6) (tp own n i) (wk S w ++bt q ++dD 600005 q ++AD x fn a b va vb) .normal (tp own n (i+1)) (wk S w ++bt q ++dD 600005 q ++AD x fn a b va vb):=
 qE {hint:=qT 52 [(38,dk Pg i n true d),(43, .inb (i:Int) q.s.seen.length (by omega) (by simpa using c)),(44,jC Pg q.s.seen i false f),(62,bj Pg i (by omega))]} 52 700000 ⟨rfl,rfl,rfl,rfl,lG h rfl,lG h rfl⟩
section
variable(g:q.s.seen[i]? =some true)(f:i<q.s.sure.length)(j:a.length<1000000)(k:b.length<1000000)
include g f j k
theorem Yv(l:q.s.sure[i]? =some false):RE 461 (lO 52 6) (tp own n i) (wk S w ++bt q ++dD 600005 q ++AD x fn a b va vb) .normal (tp own n (i+1)) (wk S w ++bt q ++dD 600005 q ++AD x fn (a ++[.int .i64 (i:Int)]) b (va+1) vb):=
 qE {hint:=qT 52 [(38,dk Pg i n true d),(43, .inb (i:Int) q.s.seen.length (by omega) (by simpa using c)),(44,jC Pg q.s.seen i true g),(49, .app a 1 (by omega)),(54, .inb (i:Int) q.s.sure.length (by omega) (by simpa using f)),(55,jC Pg q.s.sure i false l),(62,bj Pg i (by omega))]} 52 700000 ⟨rfl,rfl,rfl,rfl,lG h rfl,lG h rfl⟩
theorem Yw(l:q.s.sure[i]? =some true):RE 461 (lO 52 6) (tp own n i) (wk S w ++bt q ++dD 600005 q ++AD x fn a b va vb) .normal (tp own n (i+1)) (wk S w ++bt q ++dD 600005 q ++AD x fn (a ++[.int .i64 (i:Int)]) (b ++[.int .i64 (i:Int)]) (va+1) (vb+1)):=
 qE {hint:=qT 52 [(38,dk Pg i n true d),(43, .inb (i:Int) q.s.seen.length (by omega) (by simpa using c)),(44,jC Pg q.s.seen i true g),(49, .app a 1 (by omega)),(54, .inb (i:Int) q.s.sure.length (by omega) (by simpa using f)),(55,jC Pg q.s.sure i true l),(60, .app b 1 (by omega)),(62,bj Pg i (by omega))]} 52 700000 ⟨rfl,rfl,rfl,rfl,lG h rfl,lG h rfl⟩
end
end
theorem KU(h2:q.s.sure.length=q.s.seen.length)(r:q.s.seen.length<1000000):∀(d i:Nat)(a b:List D)(va vb:Nat),i+d=q.s.seen.length→a.length≤i→b.length≤i→∃e f,RL 461 (lO 52 6) (tp own q.s.seen.length i) (wk S w ++bt q ++dD 600005 q ++AD x fn a b va vb) (.exit 0) (KT own) (wk S w ++bt q ++dD 600005 q ++AD x fn (a ++bN (cE i (q.s.seen.drop i))) (b ++bN (cE i (kp (q.s.seen.drop i) (q.s.sure.drop i)))) e f)
 |0,i,a,b,va,vb,u,_,_=>by
  refine⟨va,vb,fun c X g j=> ?_⟩;rw[xx.2 (by omega:q.s.seen.length≤i)];have y:a ++bN (cE i [])=a:=yC _;have z:b ++bN (cE i (kp [] (q.s.sure.drop i)))=b:=by unfold kp;exact yC _
  rw[y,z];exact aA (O6 h w q x own fn a b va vb _ i (by rw[x6];omega) c X g j) (by simp)
 |d+1,i,a,b,va,vb,u,v,A=>by
  have m:i<q.s.seen.length:=by omega
  have k:i<q.s.sure.length:=by omega
  have l:q.s.seen[i]? =some q.s.seen[i]:=xD m;have o:q.s.sure[i]? =some q.s.sure[i]:=xD k;have t:decide (i<q.s.seen.length)=true:=yM m;rw[xZ m,xZ k];revert l o;cases q.s.seen[i]with
  |false=>
   intro l _;obtain⟨e,f,p⟩:=KU h2 r d (i+1) a b va vb (by omega) (by omega) (by omega);refine⟨e,f,fun c X g j=>au (Wo h w q x own fn a b va vb _ i t (by omega) m l c X g j) ?_⟩;have:=p c X g j;simp only[kp,Bool.false_and,cE,xP];exact this
  |true=>cases q.s.sure[i]with
   |false=>
    intro l o;obtain⟨e,f,p⟩:=KU h2 r d (i+1) (a ++[.int .i64 (i:Int)]) b (va+1) vb (by omega) (by rw[xK];simp only[xG,xS];omega) (by omega);refine⟨e,f,fun c X g j=>au (Yv h w q x own fn a b va vb _ i t (by omega) m l k (by omega) (by omega) o c X g j) ?_⟩;have:=p c X g j;rw[o5]at this;simp only[kp,Bool.true_and,cE,xP,xW];exact this
   |true=>
    intro l o;obtain⟨e,f,p⟩:=KU h2 r d (i+1) (a ++[.int .i64 (i:Int)]) (b ++[.int .i64 (i:Int)]) (va+1) (vb+1) (by omega) (by rw[xK];simp only[xG,xS];omega) (by rw[xK];simp only[xG,xS];omega);refine⟨e,f,fun c X g j=>au (Yw h w q x own fn a b va vb _ i t (by omega) m l k (by omega) (by omega) o c X g j) ?_⟩;have:=p c X g j;rw[o5,o5]at this;simp only[kp,Bool.true_and,cE,xW];exact this
end
end Go.Avm
namespace Go.Avm
open Go.Proofs
def WK.addP(S:WK)(a b:List D):WK:={S with P:=S.P.take S.np ++[AV.d (.agg [.int .i64 (S.fn:Int), .ro a, .ro b])],np:=S.np+1,vp:=S.vp+1}
theorem WKok.addP{S:WK}(h:WKok S)(a b:List D)(d:S.np+1<1000000000):WKok (S.addP a b):=
 ⟨h.W,h.dat,h.fn,h.len,h.par,h.vars,by simp[WK.addP,h.pl],fun x c=>by
  rcases xU.1 c with c|c
  ·exact h.pd x (yL c)
  ·simp only[xM]at c;exact⟨_,c⟩,d⟩
abbrev sH(S S':WK)(b q':WL)(w c:WE)(x:aP)(own:Bool):Prop:=∀a:aa,am Pg 52 [gl,cS b, .d (mn x), .d (.bool own)] (ae (wk S w ++bt b) a) [cS q'] (ae (wk S' c ++bt q') a)
abbrev EU(S:WK)(q q':WL)(w:WE):Prop:=∀a:aa,am Pg 77 [gl,cS q] (ae (wk S w ++bt q) a) [cS q'] (ae (wk S w ++bt q') a)
abbrev vV(S:WK)(q:WL)(w:WE)(x:SC)(own:Bool)(a b:List D)(va vb:Nat):Prop:=RL 461 (lO 52 6) (tp own q.s.seen.length 0) (wk S w ++bt q ++dD 600005 q ++AD x S.fn [] [] 0 0) (.exit 0) (KT own) (wk S w ++bt q ++dD 600005 q ++AD x S.fn a b va vb)
noncomputable def AQ{S:WK}{q:WL}{w:WE}{x:SC}{own:Bool}{a b:List D}{va vb:Nat}(c:vV S q w x own a b va vb):dJ Pg:=
 ⟨461,aJ Pg 52 6,tp own q.s.seen.length 0,fun _=>wk S w ++bt q ++dD 600005 q ++AD x S.fn [] [] 0 0, .exit 0,KT own,fun _=>wk S w ++bt q ++dD 600005 q ++AD x S.fn a b va vb,fun d X e f=>(c d X e f).aw⟩
section
variable{S:WK}(h:WKok S)(w:WE)(own:Bool)(id:Int)(nm:List UInt8)(ty n p:Int)(bd c:List aP){a b:List D}{va vb:Nat}(d:S.np+1<1000000000)
include h d
theorem Yx(k:Int)(es:List Ex)(q:WL)(f:(w.e !=0)=true):sH S S q q w w (.mk k id nm ty n p es bd c) own:=
 qA {hint:=qT 52 [(24,qB f)]} 600000 (bF h h rfl)
variable(f:(w.e !=0)=false){j q:WL}(m:EU S j q w)
include f m
section
variable(u t:Int)(e:List UInt8)(v s:Int)(o es:List Ex)
include u t e v s o es
theorem Yy(y:vV S q w ⟨8,id,nm,ty,n,p,((.mk u t e v s o)::es),bd,c⟩ own a b va vb)(z:Int)(x:WE)(c1:jG (S.addP a b) q w x (.mk u t e v s o) z):sH S (S.addP a b) j q w (x) (.mk 8 id nm ty n p ((.mk u t e v s o)::es) bd c) own:=
 qA {loops:=fun g l=>if g=52 then (if l=6 then some (AQ y)else none)else none,nils2:=fun g r=>if g=52 then (if r=5 then [{k:=607385,i:=1,K:=600101,sz:=1},{k:=607385,i:=2,K:=600102,sz:=1}]else [])else [],hint:=qT 52 [(24,qB f),(71, .apps S.P S.np 1 ⟨by rw[h.pl];exact xL _,by omega⟩)],calls:=tC [(52,28,604610,ad m),(52,459,627199,ad c1)]} 600000 (bF h (h.addP a b d) rfl)
theorem Wp(A:vV S q w ⟨7,id,nm,ty,n,p,((.mk u t e v s o)::es),bd,c⟩ own a b va vb)(z:Int)(y:WE)(c1:jG (S.addP a b) q w y (.mk u t e v s o) z)(x:(z !=1)=false):sH S (S.addP a b) j q w (y) (.mk 7 id nm ty n p ((.mk u t e v s o)::es) bd c) own:=
 qA {loops:=fun g l=>if g=52 then (if l=6 then some (AQ A)else none)else none,nils2:=fun g r=>if g=52 then (if r=5 then [{k:=607385,i:=1,K:=600101,sz:=1},{k:=607385,i:=2,K:=600102,sz:=1}]else [])else [],hint:=qT 52 [(24,qB f),(71, .apps S.P S.np 1 ⟨by rw[h.pl];exact xL _,by omega⟩),(439,qB x)],calls:=tC [(52,28,604610,ad m),(52,437,626277,ad c1)]} 600000 (bF h (h.addP a b d) rfl)
theorem Wq(B:vV S q w ⟨7,id,nm,ty,n,p,((.mk u t e v s o)::es),bd,c⟩ own a b va vb)(z:Int)(A:WE)(c1:jG (S.addP a b) q w A (.mk u t e v s o) z)(x:(z !=1)=true)(y:(z !=2)=false):sH S (S.addP a b) j q w (A) (.mk 7 id nm ty n p ((.mk u t e v s o)::es) bd c) own:=
 qA {loops:=fun g l=>if g=52 then (if l=6 then some (AQ B)else none)else none,nils2:=fun g r=>if g=52 then (if r=5 then [{k:=607385,i:=1,K:=600101,sz:=1},{k:=607385,i:=2,K:=600102,sz:=1}]else [])else [],hint:=qT 52 [(24,qB f),(71, .apps S.P S.np 1 ⟨by rw[h.pl];exact xL _,by omega⟩),(439,qB x),(442,qB y)],calls:=tC [(52,28,604610,ad m),(52,437,626277,ad c1)]} 600000 (bF h (h.addP a b d) rfl)
theorem Wr(B:vV S q w ⟨7,id,nm,ty,n,p,((.mk u t e v s o)::es),bd,c⟩ own a b va vb)(A:Int)(y:WE)(c1:jG (S.addP a b) q w y (.mk u t e v s o) A)(x:(A !=1)=true)(z:(A !=2)=true):sH S (S.addP a b) j q w (y.fail s 8) (.mk 7 id nm ty n p ((.mk u t e v s o)::es) bd c) own:=
 qA {loops:=fun g l=>if g=52 then (if l=6 then some (AQ B)else none)else none,nils2:=fun g r=>if g=52 then (if r=5 then [{k:=607385,i:=1,K:=600101,sz:=1},{k:=607385,i:=2,K:=600102,sz:=1}]else [])else [],hint:=qT 52 [(24,qB f),(71, .apps S.P S.np 1 ⟨by rw[h.pl];exact xL _,by omega⟩),(439,qB x),(442,qB z)],calls:=tC [(52,28,604610,ad m),(52,437,626277,ad c1),(52,450,632270,ad (a8 (h.addP a b d) y s 8))]} 600000 (bF h (h.addP a b d) rfl)
end
end
end Go.Avm
namespace Go.Avm
open Go.Proofs
def VB(n:Nat)(w:WE):Prop:=n≤255∨n≤256∧(w.e==0)=false
structure AtW(S:WK)(c:WS)(q:WL)(z:Nat):Prop where
 ok:WKok S
 v:S.vars=c.vars
 P:S.P=c.pts.map bU
 vb:VB c.vars.length c.w
 l1:q.s.sure.length=q.s.seen.length
 l2:q.s.seen.length≤c.vars.length
 b:c.pts.length+z<900000000
structure NxW(S S':WK)(q q':WL)(c:WS)(z:Nat)(r:WS×LS):Prop where
 ok:WKok S'
 fs:S'.fs=S.fs
 fn:S'.fn=S.fn
 W:S'.W=S.W
 vR:S'.vR=S.vR
 v:S'.vars=r.1.vars
 P:S'.P=r.1.pts.map bU
 vb:VB r.1.vars.length r.1.w
 s:q'.s=r.2
 l1:r.2.sure.length=r.2.seen.length
 l2:r.2.seen.length≤r.1.vars.length
 gv:c.vars.length≤r.1.vars.length
 gs:q.s.seen.length≤r.2.seen.length
 gp:r.1.pts.length≤c.pts.length+z
theorem VB.small{n:Nat}{w:WE}(h:VB n w)(a:(w.e==0)=true):n≤255:=by
 rcases h with h|⟨_,h⟩
 ·exact h
 ·rw[a]at h;cases h
theorem VB.le{n:Nat}{w:WE}(h:VB n w):n≤256:=by
 rcases h with h|⟨h,_⟩<;>omega
theorem qr{w:WE}{p e:Int}(a:(e==0)=false):((w.fail p e).e==0)=false:=by
 unfold WE.fail;cases h:(w.e==0)with
 |true=>exact a
 |false=>exact h
theorem NxW.at{S S':WK}{q q':WL}{c:WS}{z y:Nat}{r:WS×LS}(n:NxW S S' q q' c z r)(h:c.pts.length+z+y<900000000):AtW S' r.1 q' y where
 ok:=n.ok
 v:=n.v
 P:=n.P
 vb:=n.vb
 l1:=by rw[n.s];exact n.l1
 l2:=by rw[n.s];exact n.l2
 b:=by have:=n.gp;omega
theorem NxW.refl{S:WK}{q:WL}{c:WS}{z:Nat}(h:AtW S c q z):NxW S S q q c z (c,q.s):=
 ⟨h.ok,rfl,rfl,rfl,rfl,h.v,h.P,h.vb,rfl,h.l1,h.l2,xL _,xL _,zL _ _⟩
theorem AtW.mono{S:WK}{c:WS}{q:WL}{z y:Nat}(h:AtW S c q z)(a:y≤z):AtW S c q y:=
 ⟨h.ok,h.v,h.P,h.vb,h.l1,h.l2,by have:=h.b;omega⟩
theorem NxW.trans{S S1 e:WK}{q a b:WL}{c:WS}{z y:Nat}{r d:WS×LS}(n:NxW S S1 q a c z r)(m:NxW S1 e a b r.1 y d):NxW S e q b c (z+y) d:=
 ⟨m.ok,m.fs.trans n.fs,m.fn.trans n.fn,m.W.trans n.W,m.vR.trans n.vR,m.v,m.P,m.vb,m.s,m.l1,m.l2,yH n.gv m.gv,by have:=n.gs;have:=m.gs;rw[n.s]at this;omega,by have:=n.gp;have:=m.gp;omega⟩
structure Beg(S:WK)(c:WS)(q q1:WL)(z:Nat):Prop where
 at_:AtW S c q z
 s:q1.s=q.s.longer c.vars.length
 h0:(c.w.e==0)=true
section
variable{S:WK}{c:WS}{q a:WL}{z:Nat}(h:Beg S c q a z)
include S c q a z h
theorem Beg.len:a.s.seen.length=c.vars.length∧a.s.sure.length=c.vars.length:=by
 rw[h.s];exact dV h.at_.l1.symm h.at_.l2
theorem Beg.v255:c.vars.length≤255:=h.at_.vb.small h.h0
theorem Beg.np:S.np=c.pts.length:=by
 rw[←h.at_.ok.pl,h.at_.P,xO]
end
abbrev lY(s:LS):List D:=bN (cE 0 s.seen)
abbrev lZ(s:LS):List D:=bN (cE 0 (kp s.seen s.sure))
theorem Beg.P{S:WK}{c:WS}{q a:WL}{z:Nat}(h:Beg S c q a z):(S.addP (lY a.s) (lZ a.s)).P=(c.pts ++[a.s.pt S.fn]).map bU:=by
 show S.P.take S.np ++_=_;rw[yB (by rw[h.at_.ok.pl];exact xL _),h.at_.P,xF];rfl
theorem Beg.nx{S:WK}{c:WS}{q a:WL}{z:Nat}(h:Beg S c q a z)(e:1≤z)(d:WE):NxW S (S.addP (lY a.s) (lZ a.s)) q a c z (⟨c.vars,c.pts ++[a.s.pt S.fn],d⟩,a.s) where
 ok:=h.at_.ok.addP _ _ (by rw[h.np];have:=h.at_.b;omega)
 fs:=rfl
 fn:=rfl
 W:=rfl
 vR:=rfl
 v:=h.at_.v
 P:=h.P
 vb:= .inl h.v255
 s:=rfl
 l1:=by rw[h.len.1,h.len.2]
 l2:=Nat.le_of_eq h.len.1
 gv:=xL _
 gs:=by show q.s.seen.length≤a.s.seen.length;have:=h.at_.l2;have:=h.len.1;omega
 gp:=by simp only[xK,xG,xS];omega
def T4(x:aP):Prop:=∀(S:WK)(q:WL)(own:Bool)(c:WS),AtW S c q (j8 x)→∃S' q',NxW S S' q q' c (j8 x) (cK S.fs S.fn own x c q.s)∧sH S S' q q' c.w (cK S.fs S.fn own x c q.s).1.w x own
theorem AE{k:Int}{n b e:Nat}(h:cW k n b e=true):(k=1∧n≤1)∨(k=2∧n=1)∨(k=3∧n=2)∨(k=4∧n=1)∨(k=5∧n=1)∨(k=6∧n≤1)∨(k=7∧n=1)∨(k=8∧n=1):=by
 unfold cW at h;rw[xJ]at h;have h:=h.1;cases i:(k==1)with
 |true=>rw[i]at h;exact .inl ⟨eq_of_beq i,xe h⟩
 |false=>
 rw[i]at h;cases h2:(k==2)with
 |true=>rw[h2]at h;exact .inr (.inl ⟨eq_of_beq h2,eq_of_beq h⟩)
 |false=>
 rw[h2]at h;cases g:(k==3)with
 |true=>rw[g]at h;exact .inr (.inr (.inl ⟨eq_of_beq g,eq_of_beq h⟩))
 |false=>
 rw[g]at h;cases f:(k==4)with
 |true=>rw[f]at h;exact .inr (.inr (.inr (.inl ⟨eq_of_beq f,eq_of_beq h⟩)))
 |false=>
 rw[f]at h;cases a:(k==5)with
 |true=>rw[a]at h;exact .inr (.inr (.inr (.inr (.inl ⟨eq_of_beq a,eq_of_beq h⟩))))
 |false=>
 rw[a]at h;cases d:(k==6)with
 |true=>rw[d]at h;exact .inr (.inr (.inr (.inr (.inr (.inl ⟨eq_of_beq d,xe h⟩)))))
 |false=>
 rw[d]at h;cases c:(k==7)with
 |true=>rw[c]at h;exact .inr (.inr (.inr (.inr (.inr (.inr (.inl ⟨eq_of_beq c,eq_of_beq h⟩))))))
 |false=>
 rw[c]at h;simp only[xP,xJ,yI]at h;exact .inr (.inr (.inr (.inr (.inr (.inr (.inr h))))))
theorem one_of{es:List Ex}(h:es.length=1):∃k o nm n p xs,es=[.mk k o nm n p xs]:=by
 obtain⟨⟨k,o,nm,n,p,xs⟩,rfl⟩:=yJ.1 h;exact⟨k,o,nm,n,p,xs,rfl⟩
section
variable{S:WK}{c:WS}{q a:WL}{z:Nat}(B:Beg S c q a z)
include B
theorem Beg.ok1:WKok (S.addP (lY a.s) (lZ a.s)):=B.at_.ok.addP _ _ (by rw[B.np];have:=B.at_.b;omega)
theorem Beg.hn:S.np+1<1000000000:=by rw[B.np];have:=B.at_.b;omega
theorem Beg.h0':(c.w.e !=0)=false:=by rw[bne,B.h0];rfl
theorem Beg.loop(x:SC)(own:Bool):∃va vb,vV S a c.w x own (lY a.s) (lZ a.s) va vb:=by
 obtain⟨va,vb,b⟩:=KU B.at_.ok c.w a x own S.fn (B.len.2.trans B.len.1.symm) (by rw[B.len.1];have:=B.v255;omega) a.s.seen.length 0 [] [] 0 0 (by simp) (xL _) (xL _);exact⟨va,vb,b⟩
theorem Beg.ex(e:Ex)(b:Eh e=true):S5 (S.addP (lY a.s) (lZ a.s)) a e:=Me B.ok1 a (by rw[B.len.1,←B.at_.v];rfl) (by rw[B.len.2,←B.at_.v];rfl) e b
end
theorem pG{S:WK}{c:WS}{d:WL}(e:S.vars=c.vars)(a b:List D)(p:List Pt)(w:WE):WS.x ⟨c.vars,p,w⟩ S.fs d.s=eU (S.addP a b) d:=by rw[←e];rfl
end Go.Avm
namespace Go.Avm
open Go.Proofs
abbrev KV(q:WL)(j:Nat):List (Nat×aE):=[(500010,⟨q.vS,some (.arr 1 ((q.s.seen.map D.bool).map AV.d))⟩),(500011,⟨q.vU,some (.arr 1 (((q.s.sure.map D.bool).map AV.d).set (0+((j:Nat):Int).toNat) (AV.d (.bool true))))⟩)]
def WL.sets(q:WL)(j:Nat):WL:=⟨⟨q.s.seen,q.s.sure.set j true⟩,q.vS,q.vU⟩
theorem vW(q:WL)(j:Nat):KV q j=bt (q.sets j):=by
 have e:0+((j:Nat):Int).toNat=j:=by omega
 unfold KV bt WL.sets;rw[e,List.map_set,List.map_set]
section
variable{S:WK}(h:WKok S)(w:WE)(own:Bool)(id:Int)(nm:List UInt8)(ty n p:Int)(bd f:List aP){a b:List D}{va vb:Nat}(m:S.np+1<1000000000)
include h m
variable(t:(w.e !=0)=false){o q:WL}(x:EU S o q w)
include t x
theorem Ws(es:List Ex)(e:vV S q w ⟨2,id,nm,ty,n,p,es,bd,f⟩ own a b va vb)(c:HC 79 [gl,cS q, .d (.str nm)] (wk (S.addP a b) w ++bt q) [.int .i64 (-1)] (wk (S.addP a b) w ++bt q)):sH S (S.addP a b) o q w (w.fail p 6) (.mk 2 id nm ty n p es bd f) own:=
 qA {loops:=fun g l=>if g=52 then (if l=6 then some (AQ e)else none)else none,nils2:=fun g r=>if g=52 then (if r=5 then [{k:=607385,i:=1,K:=600101,sz:=1},{k:=607385,i:=2,K:=600102,sz:=1}]else [])else [],hint:=qT 52 [(24,qB t),(71, .apps S.P S.np 1 ⟨by rw[h.pl];exact xL _,by omega⟩)],calls:=tC [(52,28,604610,ad x),(52,220,620745,ad c),(52,226,623511,ad (a8 (h.addP a b m) w p 6))]} 600000 (bF h (h.addP a b m) rfl)
section
variable(B A:Int)(e:List UInt8)(C D:Int)(y es:List Ex)(G:vV S q w ⟨2,id,nm,ty,n,p,((.mk B A e C D y)::es),bd,f⟩ own a b va vb)(j:Nat)(v:Vr)(I:j<S.vars.length)(F:S.vars[j]? =some v)(z:j<q.s.sure.length)(u:Bool)(H:q.s.sure[j]? =some u)(E:WE)(c:HC 79 [gl,cS q, .d (.str nm)] (wk (S.addP a b) w ++bt q) [.int .i64 ((j:Int))] (wk (S.addP a b) w ++bt q))
include B A e C D y es G j v I F z u H E c
theorem Wt(L:(v.ty==3)=false)(c1:iL (S.addP a b) q w E (.mk B A e C D y) v.ty):∀J:aa,am Pg 52 [gl,cS o, .d (mn (.mk 2 id nm ty n p ((.mk B A e C D y)::es) bd f)), .d (.bool own)] (ae (wk S w ++bt o) J) [cS q] (ae (wk (S.addP a b) (E) ++KV q j) J):=
 qA {loops:=fun g l=>if g=52 then (if l=6 then some (AQ G)else none)else none,nils2:=fun g r=>if g=52 then (if r=5 then [{k:=607385,i:=1,K:=600101,sz:=1},{k:=607385,i:=2,K:=600102,sz:=1}]else [])else [],hint:=qT 52 [(24,qB t),(71, .apps S.P S.np 1 ⟨by rw[h.pl];exact xL _,by omega⟩),(237,kr Pg h),(238,gm Pg h),(240,pV Pg S.vars j I),(242,lE Pg S.vars j v F),(244,qB L),(260, .inb (j:Int) q.s.sure.length (by omega) (by simpa using z)),(142004,jC Pg q.s.sure j u H)],calls:=tC [(52,28,604610,ad x),(52,220,620745,ad c),(52,256,633653,ad c1)]} 600000 ⟨rfl,rfl,rfl,rfl,by rw[xF,fX h rfl,fY,←xF],by rw[vW,xF,fX (h.addP a b m) rfl,fY,←xF]⟩
theorem Wu(L:(v.ty==3)=true)(c1:iL (S.addP a b) q (w.fail p 8) E (.mk B A e C D y) v.ty):∀J:aa,am Pg 52 [gl,cS o, .d (mn (.mk 2 id nm ty n p ((.mk B A e C D y)::es) bd f)), .d (.bool own)] (ae (wk S w ++bt o) J) [cS q] (ae (wk (S.addP a b) (E) ++KV q j) J):=
 qA {loops:=fun g l=>if g=52 then (if l=6 then some (AQ G)else none)else none,nils2:=fun g r=>if g=52 then (if r=5 then [{k:=607385,i:=1,K:=600101,sz:=1},{k:=607385,i:=2,K:=600102,sz:=1}]else [])else [],hint:=qT 52 [(24,qB t),(71, .apps S.P S.np 1 ⟨by rw[h.pl];exact xL _,by omega⟩),(237,kr Pg h),(238,gm Pg h),(240,pV Pg S.vars j I),(242,lE Pg S.vars j v F),(244,qB L),(260, .inb (j:Int) q.s.sure.length (by omega) (by simpa using z)),(142004,jC Pg q.s.sure j u H)],calls:=tC [(52,28,604610,ad x),(52,220,620745,ad c),(52,248,631809,ad (a8 (h.addP a b m) w p 8)),(52,256,635036,ad c1)]} 600000 ⟨rfl,rfl,rfl,rfl,by rw[xF,fX h rfl,fY,←xF],by rw[vW,xF,fX (h.addP a b m) rfl,fY,←xF]⟩
end
theorem Yz(v j:Int)(d:List UInt8)(z u:Int)(e:List Ex)(A C:Int)(c:List UInt8)(B y:Int)(bl es:List Ex)(F:vV S q w ⟨3,id,nm,ty,n,p,((.mk v j d z u e)::(.mk A C c B y bl)::es),bd,f⟩ own a b va vb)(H:q.s.seen.length=S.vars.length)(D E:WE)(c1:iL (S.addP a b) q (nH (eU (S.addP a b) q) nm p w) D (.mk v j d z u e) 1)(G:iL (S.addP a b) q D E (.mk A C c B y bl) 1):sH S (S.addP a b) o q w (E) (.mk 3 id nm ty n p ((.mk v j d z u e)::(.mk A C c B y bl)::es) bd f) own:=
 qA {loops:=fun g l=>if g=52 then (if l=6 then some (AQ F)else none)else none,nils2:=fun g r=>if g=52 then (if r=5 then [{k:=607385,i:=1,K:=600101,sz:=1},{k:=607385,i:=2,K:=600102,sz:=1}]else [])else [],hint:=qT 52 [(24,qB t),(71, .apps S.P S.np 1 ⟨by rw[h.pl];exact xL _,by omega⟩)],calls:=tC [(52,28,604610,ad x),(52,269,622589,ad (OU (h.addP a b m) w q nm p H)),(52,276,625355,ad c1),(52,283,628121,ad G)]} 600000 (bF h (h.addP a b m) rfl)
theorem Wv(d:vV S q w ⟨6,id,nm,ty,n,p,[],bd,f⟩ own a b va vb)(fm:List UInt8)(ps j:List D)(res fp:Int)(c:(S.fs.map bn)[((S.fn:Nat):Int).toNat]? =some (.agg [.str fm, .ro ps, .int .u8 res, .ro j, .int .i64 fp]))(e:decide ((0:Int)<res)=true):sH S (S.addP a b) o q w (w.fail p 8) (.mk 6 id nm ty n p [] bd f) own:=
 qA {loops:=fun g l=>if g=52 then (if l=6 then some (AQ d)else none)else none,nils2:=fun g r=>if g=52 then (if r=5 then [{k:=607385,i:=1,K:=600101,sz:=1},{k:=607385,i:=2,K:=600102,sz:=1}]else [])else [],hint:=qT 52 [(24,qB t),(71, .apps S.P S.np 1 ⟨by rw[h.pl];exact xL _,by omega⟩),(383, .idx (S.fs.map bn) ((S.fn:Nat):Int) _ (by omega) c),(388,qB e)],calls:=tC [(52,28,604610,ad x),(52,398,634114,ad (a8 (h.addP a b m) w p 8))]} 600000 (bF h (h.addP a b m) rfl)
theorem Ww(s e:Int)(c:List UInt8)(u j:Int)(d es:List Ex)(z:vV S q w ⟨6,id,nm,ty,n,p,((.mk s e c u j d)::es),bd,f⟩ own a b va vb)(fm:List UInt8)(ps A:List D)(res fp:Int)(B:(S.fs.map bn)[((S.fn:Nat):Int).toNat]? =some (.agg [.str fm, .ro ps, .int .u8 res, .ro A, .int .i64 fp]))(y:decide ((0:Int)<res)=true)(v:WE)(c1:iL (S.addP a b) q w v (.mk s e c u j d) res):sH S (S.addP a b) o q w (v) (.mk 6 id nm ty n p ((.mk s e c u j d)::es) bd f) own:=
 qA {loops:=fun g l=>if g=52 then (if l=6 then some (AQ z)else none)else none,nils2:=fun g r=>if g=52 then (if r=5 then [{k:=607385,i:=1,K:=600101,sz:=1},{k:=607385,i:=2,K:=600102,sz:=1}]else [])else [],hint:=qT 52 [(24,qB t),(71, .apps S.P S.np 1 ⟨by rw[h.pl];exact xL _,by omega⟩),(383, .idx (S.fs.map bn) ((S.fn:Nat):Int) _ (by omega) B),(388,qB y),(401,qB y)],calls:=tC [(52,28,604610,ad x),(52,409,637341,ad c1)]} 600000 (bF h (h.addP a b m) rfl)
theorem Wx(e:vV S q w ⟨6,id,nm,ty,n,p,[],bd,f⟩ own a b va vb)(fm:List UInt8)(ps j:List D)(res fp:Int)(d:(S.fs.map bn)[((S.fn:Nat):Int).toNat]? =some (.agg [.str fm, .ro ps, .int .u8 res, .ro j, .int .i64 fp]))(c:decide ((0:Int)<res)=false):sH S (S.addP a b) o q w (w) (.mk 6 id nm ty n p [] bd f) own:=
 qA {loops:=fun g l=>if g=52 then (if l=6 then some (AQ e)else none)else none,nils2:=fun g r=>if g=52 then (if r=5 then [{k:=607385,i:=1,K:=600101,sz:=1},{k:=607385,i:=2,K:=600102,sz:=1}]else [])else [],hint:=qT 52 [(24,qB t),(71, .apps S.P S.np 1 ⟨by rw[h.pl];exact xL _,by omega⟩),(383, .idx (S.fs.map bn) ((S.fn:Nat):Int) _ (by omega) d),(388,qB c),(401,qB c)],calls:=tC [(52,28,604610,ad x)]} 600000 (bF h (h.addP a b m) rfl)
theorem Wy(s j:Int)(c:List UInt8)(u e:Int)(d es:List Ex)(z:vV S q w ⟨6,id,nm,ty,n,p,((.mk s j c u e d)::es),bd,f⟩ own a b va vb)(fm:List UInt8)(ps A:List D)(res fp:Int)(C:(S.fs.map bn)[((S.fn:Nat):Int).toNat]? =some (.agg [.str fm, .ro ps, .int .u8 res, .ro A, .int .i64 fp]))(y:decide ((0:Int)<res)=false)(B:Int)(v:WE)(c1:jG (S.addP a b) q w v (.mk s j c u e d) B):sH S (S.addP a b) o q w (v.fail e 8) (.mk 6 id nm ty n p ((.mk s j c u e d)::es) bd f) own:=
 qA {loops:=fun g l=>if g=52 then (if l=6 then some (AQ z)else none)else none,nils2:=fun g r=>if g=52 then (if r=5 then [{k:=607385,i:=1,K:=600101,sz:=1},{k:=607385,i:=2,K:=600102,sz:=1}]else [])else [],hint:=qT 52 [(24,qB t),(71, .apps S.P S.np 1 ⟨by rw[h.pl];exact xL _,by omega⟩),(383, .idx (S.fs.map bn) ((S.fn:Nat):Int) _ (by omega) C),(388,qB y),(401,qB y),(414,hB Pg (decide ((0:Int)<((fJ ((.mk s j c u e d)::es)).length:Int))) true (by simp[fJ]))],calls:=tC [(52,28,604610,ad x),(52,421,637341,ad c1),(52,428,640107,ad (a8 (h.addP a b m) v e 8))]} 600000 (bF h (h.addP a b m) rfl)
end
end Go.Avm
namespace Go.Avm
open Go.Proofs
abbrev YA(x:SC):List (Nat×aE):=[(600467,⟨1,some (.arr 1 (P8 x))⟩),(600930,⟨1,some (.arr 1 [.nils, .nils])⟩)]
abbrev mW(S:WK)(w:WE)(q:WL)(x:SC):List (Nat×aE):=wk S w ++bt q ++dD 600005 q ++YA x
abbrev AF(S:WK)(own:Bool)(i:Nat):List (Nat×AV):=[(0,gl),(3, .d (.bool own)),(5, .ptr 600005 1 0 0 1),(6, .ptr 600467 1 0 0 1),(8, .ptr 600930 1 0 0 1),(102,fF S.vv S.vars),(103,dN S.vars.length),(104,dN i)]
abbrev KW(own:Bool):List (Nat×AV):=[(0,gl),(3, .d (.bool own)),(5, .ptr 600005 1 0 0 1),(6, .ptr 600467 1 0 0 1),(8, .ptr 600930 1 0 0 1)]
theorem o6{S:WK}{w:WE}{q:WL}{x:SC}(h:WKok S){ρ:Nat→Nat}(a:([500005,500382,500191,500010,500011].map ρ)=[500005,500382,500191,500010,500011]):((mW S w q x).map fun p=>aY ρ p.2)=(mW S w q x).map (·.2):=by
 have e:=gF (K:=600005) (w:=w) (q:=q) h a;unfold mW;rw[xF,e];refine Eq.trans ?_ (xF ..).symm;rfl
section
variable{S:WK}(h:WKok S)(w:WE)(q:WL)(x:SC)(own:Bool)(i:Nat)
include h
theorem O7(a:decide (i<S.vars.length)=false):RE 461 (lO 52 19) (AF S own i) (mW S w q x) (.exit 3) (KW own) (mW S w q x):=
 qE {hint:=qT 52 [(105,dk Pg i S.vars.length false a)]} 52 700000 ⟨rfl,rfl,rfl,rfl,o6 h rfl,o6 h rfl⟩
section
variable(a:decide (i<S.vars.length)=true)(v:Vr)(b:S.vars[i]? =some v)
include a b
theorem Wz(c:(v.nm==x.nm)=false):RE 461 (lO 52 19) (AF S own i) (mW S w q x) .normal (AF S own (i+1)) (mW S w q x):=
 qE {hint:=qT 52 [(105,dk Pg i S.vars.length true a),(106,pV Pg S.vars i (xe a)),(107,lE Pg S.vars i v b),(112,qB c),(117,bj Pg i (by have:=h.vars;have:=xe a;omega))]} 52 700000 ⟨rfl,rfl,rfl,rfl,o6 h rfl,o6 h rfl⟩
theorem Tm(c:(v.nm==x.nm)=true):RE 461 (lO 52 19) (AF S own i) (mW S w q x) .normal (AF S own (i+1)) (mW S (w.fail x.p 7) q x):=
 qE {hint:=qT 52 [(105,dk Pg i S.vars.length true a),(106,pV Pg S.vars i (xe a)),(107,lE Pg S.vars i v b),(112,qB c),(117,bj Pg i (by have:=h.vars;have:=xe a;omega))],calls:=tC [(52,116,705993,ad (a8 h w x.p 7))]} 52 700000 ⟨rfl,rfl,rfl,rfl,o6 h rfl,o6 h rfl⟩
end
theorem EV(w:WE)(p:Int)(b:Bool):(bif b then (w.fail p 7).fail p 7 else w.fail p 7)=w.fail p 7:=by
 cases b with
 |false=>rfl
 |true=>
  simp only[xW,WE.fail];cases hw:(w.e==0)with
  |true=>rfl
  |false=>simp only[xP,hw]
theorem O8:∀(d i:Nat)(w:WE),i+d=S.vars.length→RL 461 (lO 52 19) (AF S own i) (mW S w q x) (.exit 3) (KW own) (mW S (bif (S.vars.drop i).any fun v=>v.nm==x.nm then w.fail x.p 7 else w) q x)
 |0,i,w,l,a,X,b,c=>by
  rw[xx.2 (by omega:S.vars.length≤i)];exact aA (O7 h w q x own i (by rw[x6];omega) a X b c) (by simp)
 |d+1,i,w,l,a,X,b,c=>by
  have e:i<S.vars.length:=by omega
  have f:S.vars[i]? =some S.vars[i]:=xD e;have k:decide (i<S.vars.length)=true:=yM e;rw[xZ e,yn];cases j:(S.vars[i].nm==x.nm)with
  |false=>exact au (Wz h w q x own i k _ f j a X b c) (O8 d (i+1) w (by omega) a X b c)
  |true=>
   have g:=O8 d (i+1) (w.fail x.p 7) (by omega) a X b c;rw[EV h]at g;exact au (Tm h w q x own i k _ f j a X b c) g
end
end Go.Avm
namespace Go.Avm
open Go.Proofs
abbrev P9(S:WK)(q:WL)(w a:WE)(x:SC)(own:Bool):Prop:=RL 461 (lO 52 19) (AF S own 0) (mW S w q x) (.exit 3) (KW own) (mW S a q x)
noncomputable def Xy{S:WK}{q:WL}{w b:WE}{x:SC}{own:Bool}(c:P9 S q w b x own):dJ Pg:=
 ⟨461,aJ Pg 52 19,AF S own 0,fun _=>mW S w q x, .exit 3,KW own,fun _=>mW S b q x,fun a X d e=>(c a X d e).aw⟩
def WK.addV(S:WK)(v:Vr):WK:={S with vars:=S.vars ++[v],vv:=S.vv+1}
theorem WKok.addV{S:WK}(h:WKok S)(v:Vr)(a:S.vars.length+1<100000):WKok (S.addV v):=
 ⟨h.W,h.dat,h.fn,h.len,h.par,by simp only[WK.addV,xK,xG,xS];omega,h.pl,h.pd,h.pts⟩
abbrev Qa(S:WK)(w:WE)(v:Vr):List (Nat×aE):=
 [(500000,⟨1,some (.arr 1 (Qs S w))⟩),(500005,⟨S.vv+1,some (.arr 4 ((S.vars.map oh).take S.vars.length ++[AV.d (mX v)]))⟩),(500382,⟨S.vp,some (.arr 3 S.P)⟩),(500191,⟨S.vR,some (.arr 1 ((S.W.set S.fn (fF S.vv S.vars)).set (0+((S.fn:Nat):Int).toNat) (.sl 500005 (S.vv+1) 0 (S.vars.length+1) 4)))⟩)]
theorem Iu(S:WK)(w:WE)(v:Vr):Qa S w v=wk (S.addV v) w:=by
 have e:0+((S.fn:Nat):Int).toNat=S.fn:=by omega
 unfold Qa wk WK.addV;rw[e,List.set_set,yB (by simp)];simp only[xF,xH,xY,fF,xK,xG,xS];rfl
theorem ol{S:WK}(h:WKok S){a b:List D}(g:S.np+1<1000000000)(d:S.vars.length+1<100000){w e:WE}{v:Vr}{c q:WL}{u:Bool}{ar:List AV}(f:bk (dm ((wk S w ++bt c).map (·.1)) 1000000) ar=ar):Cln ((wk S w ++bt c).map (·.1)) 1000000 ar (wk S w ++bt c) (Qa (S.addP a b) e v ++Az q true u):=
 ⟨rfl,rfl,rfl,f,by rw[xF,fX h rfl,fY,←xF],by rw[Iu,lR,xF,fX ((h.addP a b g).addV _ d) rfl,fY,←xF]⟩
abbrev nV(S:WK)(b:Bool):Prop:=decide ((255:Int)≤(S.vars.length:Int))=b
section
variable{S:WK}(w:WE)(id:Int)(nm:List UInt8)(ty n p:Int)(bd c:List aP)(a b:List D)(e q:WL)(own:Bool)
abbrev DH(g:WE)(u:Bool):Prop:=∀f:aa,am Pg 52 [gl,cS e, .d (mn (.mk 1 id nm ty n p [] bd c)), .d (.bool own)] (ae (wk S w ++bt e) f) [.agg [.sl 500010 (q.vS+1) 0 (q.s.seen.length+1) 1, .sl 500011 (q.vU+1) 0 (q.s.sure.length+1) 1]] (ae (Qa (S.addP a b) g ⟨nm,ty,n,id⟩ ++Az q true u) f)
abbrev T5(S:WK)(va vb:Nat):Prop:=vV S q w ⟨1,id,nm,ty,n,p,[],bd,c⟩ own a b va vb
abbrev T6(S:WK)(d:WE):Prop:=P9 (S.addP a b) q w d ⟨1,id,nm,ty,n,p,[],bd,c⟩ own
end
section
variable{S:WK}(h:WKok S)(w:WE)(id:Int)(nm:List UInt8)(ty n p:Int)(bd f:List aP){a b:List D}{va vb:Nat}(c:S.np+1<1000000000)(o:S.vars.length+1<100000)(u:(w.e !=0)=false){v q:WL}(t:EU S v q w)(j:q.s.seen.length<1000000)(m:q.s.sure.length<1000000)
include h c o u t j m
noncomputable abbrev DI(y:WE)(own:Bool)(x:T5 w id nm ty n p bd f a b q own S va vb)(e:T6 w id nm ty n p bd f a b q own S y)(z:List (Nat×Nat×bX Pg))(cs:List (Nat×Nat×Nat×eI Pg)):Par Pg:=
 {loops:=fun g l=>if g=52 then (if l=6 then some (AQ x)else if l=19 then some (Xy e)else none)else none,nils2:=fun g r=>if g=52 then (if r=5 then [{k:=607385,i:=1,K:=600101,sz:=1},{k:=607385,i:=2,K:=600102,sz:=1}]else [])else [],hint:=MO Pg ([(52,24,qB u),(52,71, .apps S.P S.np 1 ⟨by rw[h.pl];exact xL _,by omega⟩),(52,101,kr Pg h),(52,102,gm Pg h),(52,155,kr Pg h),(52,156,gm Pg h),(52,181,kr Pg h),(52,182,gm Pg h),(52,193, .apps (S.vars.map oh) S.vars.length 1 ⟨by simp,by omega⟩),(52,194,kr Pg h),(52,130032,gm Pg h),(52,198, .apps ((q.s.seen.map D.bool).map AV.d) q.s.seen.length 1 ⟨by simp,by omega⟩),(52,212, .apps ((q.s.sure.map D.bool).map AV.d) q.s.sure.length 1 ⟨by simp,by omega⟩)] ++z),calls:=MP Pg ([(52,28,604610,ad t)] ++cs)}
section
variable(own:Bool)(i:T5 w id nm ty n p bd f a b q own S va vb)(e:WE)(g:T6 w id nm ty n p bd f a b q own S e)(d:(ty==3)=false)
include own i e g d
theorem Tn(k:nV S false):DH (S:=S) w id nm ty n p bd f a b v q own (e) false:=
 qA (DI h w id nm ty n p bd f c o u t j m e own i g [(52,120,qB d),(52,131,qB d),(52,158,qB k),(52,204,qB d)] []) 600000 (ol h c o rfl)
theorem O9(k:nV S true):DH (S:=S) w id nm ty n p bd f a b v q own ((e).fail p 2) false:=
 qA (DI h w id nm ty n p bd f c o u t j m e own i g [(52,120,qB d),(52,131,qB d),(52,158,qB k),(52,204,qB d)] [(52,162,637802,ad (a8 (h.addP a b c) (e) p 2))]) 600000 (ol h c o rfl)
end
section
variable(i:T5 w id nm ty n p bd f a b q true S va vb)(d:WE)(g:T6 w id nm ty n p bd f a b q true S d)(e:(ty==3)=true)
include i d g e
theorem Pa(l:decide (n<1)=true)(k:nV S false):DH (S:=S) w id nm ty n p bd f a b v q true ((d).fail p 1) true:=
 qA (DI h w id nm ty n p bd f c o u t j m d true i g [(52,120,qB e),(52,131,qB e),(52,135,qB l),(52,158,qB k),(52,204,qB e)] [(52,145,635036,ad (a8 (h.addP a b c) (d) p 1))]) 600000 (ol h c o rfl)
theorem KX(l:decide (n<1)=true)(k:nV S true):DH (S:=S) w id nm ty n p bd f a b v q true (((d).fail p 1).fail p 2) true:=
 qA (DI h w id nm ty n p bd f c o u t j m d true i g [(52,120,qB e),(52,131,qB e),(52,135,qB l),(52,158,qB k),(52,204,qB e)] [(52,145,635036,ad (a8 (h.addP a b c) (d) p 1)),(52,162,642412,ad (a8 (h.addP a b c) ((d).fail p 1) p 2))]) 600000 (ol h c o rfl)
theorem Pb(r:decide (n<1)=false)(l:decide (256<n)=true)(k:nV S false):DH (S:=S) w id nm ty n p bd f a b v q true ((d).fail p 1) true:=
 qA (DI h w id nm ty n p bd f c o u t j m d true i g [(52,120,qB e),(52,131,qB e),(52,135,qB r),(52,139,qB l),(52,158,qB k),(52,204,qB e)] [(52,145,636419,ad (a8 (h.addP a b c) (d) p 1))]) 600000 (ol h c o rfl)
theorem KY(r:decide (n<1)=false)(l:decide (256<n)=true)(k:nV S true):DH (S:=S) w id nm ty n p bd f a b v q true (((d).fail p 1).fail p 2) true:=
 qA (DI h w id nm ty n p bd f c o u t j m d true i g [(52,120,qB e),(52,131,qB e),(52,135,qB r),(52,139,qB l),(52,158,qB k),(52,204,qB e)] [(52,145,636419,ad (a8 (h.addP a b c) (d) p 1)),(52,162,643795,ad (a8 (h.addP a b c) ((d).fail p 1) p 2))]) 600000 (ol h c o rfl)
theorem Pc(r:decide (n<1)=false)(l:decide (256<n)=false)(k:nV S false):DH (S:=S) w id nm ty n p bd f a b v q true (d) true:=
 qA (DI h w id nm ty n p bd f c o u t j m d true i g [(52,120,qB e),(52,131,qB e),(52,135,qB r),(52,139,qB l),(52,158,qB k),(52,204,qB e)] []) 600000 (ol h c o rfl)
theorem KZ(r:decide (n<1)=false)(l:decide (256<n)=false)(k:nV S true):DH (S:=S) w id nm ty n p bd f a b v q true ((d).fail p 2) true:=
 qA (DI h w id nm ty n p bd f c o u t j m d true i g [(52,120,qB e),(52,131,qB e),(52,135,qB r),(52,139,qB l),(52,158,qB k),(52,204,qB e)] [(52,162,642412,ad (a8 (h.addP a b c) (d) p 2))]) 600000 (ol h c o rfl)
end
section
variable(i:T5 w id nm ty n p bd f a b q false S va vb)(d:WE)(g:T6 w id nm ty n p bd f a b q false S d)(e:(ty==3)=true)
include i d g e
theorem Pd(l:decide (n<1)=true)(k:nV S false):DH (S:=S) w id nm ty n p bd f a b v q false (((d).fail p 3).fail p 1) true:=
 qA (DI h w id nm ty n p bd f c o u t j m d false i g [(52,120,qB e),(52,131,qB e),(52,135,qB l),(52,158,qB k),(52,204,qB e)] [(52,128,630426,ad (a8 (h.addP a b c) (d) p 3)),(52,145,636419,ad (a8 (h.addP a b c) ((d).fail p 3) p 1))]) 600000 (ol h c o rfl)
theorem K0(l:decide (n<1)=true)(k:nV S true):DH (S:=S) w id nm ty n p bd f a b v q false ((((d).fail p 3).fail p 1).fail p 2) true:=
 qA (DI h w id nm ty n p bd f c o u t j m d false i g [(52,120,qB e),(52,131,qB e),(52,135,qB l),(52,158,qB k),(52,204,qB e)] [(52,128,630426,ad (a8 (h.addP a b c) (d) p 3)),(52,145,636419,ad (a8 (h.addP a b c) ((d).fail p 3) p 1)),(52,162,643795,ad (a8 (h.addP a b c) (((d).fail p 3).fail p 1) p 2))]) 600000 (ol h c o rfl)
theorem Pe(r:decide (n<1)=false)(l:decide (256<n)=true)(k:nV S false):DH (S:=S) w id nm ty n p bd f a b v q false (((d).fail p 3).fail p 1) true:=
 qA (DI h w id nm ty n p bd f c o u t j m d false i g [(52,120,qB e),(52,131,qB e),(52,135,qB r),(52,139,qB l),(52,158,qB k),(52,204,qB e)] [(52,128,630426,ad (a8 (h.addP a b c) (d) p 3)),(52,145,637802,ad (a8 (h.addP a b c) ((d).fail p 3) p 1))]) 600000 (ol h c o rfl)
theorem K1(r:decide (n<1)=false)(l:decide (256<n)=true)(k:nV S true):DH (S:=S) w id nm ty n p bd f a b v q false ((((d).fail p 3).fail p 1).fail p 2) true:=
 qA (DI h w id nm ty n p bd f c o u t j m d false i g [(52,120,qB e),(52,131,qB e),(52,135,qB r),(52,139,qB l),(52,158,qB k),(52,204,qB e)] [(52,128,630426,ad (a8 (h.addP a b c) (d) p 3)),(52,145,637802,ad (a8 (h.addP a b c) ((d).fail p 3) p 1)),(52,162,645178,ad (a8 (h.addP a b c) (((d).fail p 3).fail p 1) p 2))]) 600000 (ol h c o rfl)
theorem Pf(r:decide (n<1)=false)(l:decide (256<n)=false)(k:nV S false):DH (S:=S) w id nm ty n p bd f a b v q false ((d).fail p 3) true:=
 qA (DI h w id nm ty n p bd f c o u t j m d false i g [(52,120,qB e),(52,131,qB e),(52,135,qB r),(52,139,qB l),(52,158,qB k),(52,204,qB e)] [(52,128,630426,ad (a8 (h.addP a b c) (d) p 3))]) 600000 (ol h c o rfl)
theorem K2(r:decide (n<1)=false)(l:decide (256<n)=false)(k:nV S true):DH (S:=S) w id nm ty n p bd f a b v q false (((d).fail p 3).fail p 2) true:=
 qA (DI h w id nm ty n p bd f c o u t j m d false i g [(52,120,qB e),(52,131,qB e),(52,135,qB r),(52,139,qB l),(52,158,qB k),(52,204,qB e)] [(52,128,630426,ad (a8 (h.addP a b c) (d) p 3)),(52,162,643795,ad (a8 (h.addP a b c) ((d).fail p 3) p 2))]) 600000 (ol h c o rfl)
end
end
end Go.Avm
namespace Go.Avm
open Go.Proofs
section
variable{S:WK}(w:WE)(id:Int)(nm:List UInt8)(ty n p:Int)(bd g:List aP)(a b:List D)(k q:WL)(i f:Int)(c:List UInt8)(j h:Int)(e es:List Ex)(own:Bool)
abbrev DJ(m:WE)(u:Bool):Prop:=∀l:aa,am Pg 52 [gl,cS k, .d (mn (.mk 1 id nm ty n p ((.mk i f c j h e)::es) bd g)), .d (.bool own)] (ae (wk S w ++bt k) l) [.agg [.sl 500010 (q.vS+1) 0 (q.s.seen.length+1) 1, .sl 500011 (q.vU+1) 0 (q.s.sure.length+1) 1]] (ae (Qa (S.addP a b) m ⟨nm,ty,n,id⟩ ++Az q true u) l)
abbrev Cl(S:WK)(va vb:Nat):Prop:=vV S q w ⟨1,id,nm,ty,n,p,((.mk i f c j h e)::es),bd,g⟩ own a b va vb
abbrev Cm(S:WK)(d l:WE):Prop:=P9 (S.addP a b) q d l ⟨1,id,nm,ty,n,p,((.mk i f c j h e)::es),bd,g⟩ own
end
section
variable{S:WK}(h:WKok S)(w:WE)(id:Int)(nm:List UInt8)(ty n p:Int)(bd c:List aP){a b:List D}{va vb:Nat}(f:S.np+1<1000000000)(o:S.vars.length+1<100000)(u:(w.e !=0)=false){v q:WL}(t:EU S v q w)(j:q.s.seen.length<1000000)(m:q.s.sure.length<1000000)
include h f o u t j m
noncomputable abbrev DK(z y:Int)(e:List UInt8)(A B:Int)(x es:List Ex)(C F:WE)(own:Bool)(E:Cl w id nm ty n p bd c a b q z y e A B x es own S va vb)(G:Cm id nm ty n p bd c a b q z y e A B x es own S C F)(c1:iL (S.addP a b) q w C (.mk z y e A B x) ty)(H:List (Nat×Nat×bX Pg))(cs:List (Nat×Nat×Nat×eI Pg)):Par Pg:=
 {loops:=fun g l=>if g=52 then (if l=6 then some (AQ E)else if l=19 then some (Xy G)else none)else none,nils2:=fun g r=>if g=52 then (if r=5 then [{k:=607385,i:=1,K:=600101,sz:=1},{k:=607385,i:=2,K:=600102,sz:=1}]else [])else [],hint:=MO Pg ([(52,24,qB u),(52,71, .apps S.P S.np 1 ⟨by rw[h.pl];exact xL _,by omega⟩),(52,82,hB Pg (decide ((0:Int)<((fJ ((.mk z y e A B x)::es)).length:Int))) true (by simp[fJ])),(52,101,kr Pg h),(52,102,gm Pg h),(52,155,kr Pg h),(52,156,gm Pg h),(52,181,kr Pg h),(52,182,gm Pg h),(52,193, .apps (S.vars.map oh) S.vars.length 1 ⟨by simp,by omega⟩),(52,194,kr Pg h),(52,130032,gm Pg h),(52,198, .apps ((q.s.seen.map D.bool).map AV.d) q.s.seen.length 1 ⟨by simp,by omega⟩),(52,212, .apps ((q.s.sure.map D.bool).map AV.d) q.s.sure.length 1 ⟨by simp,by omega⟩)] ++H),calls:=MP Pg ([(52,28,604610,ad t),(52,91,623511,ad c1)] ++cs)}
section
variable(i g:Int)(d:List UInt8)(k l:Int)(e es:List Ex)
include i g d k l e es
theorem To(own:Bool)(z:Cl w id nm ty n p bd c a b q i g d k l e es own S va vb)(s x:WE)(c1:iL (S.addP a b) q w s (.mk i g d k l e) ty)(A:Cm id nm ty n p bd c a b q i g d k l e es own S s x)(y:(ty==3)=false)(r:nV S false):DJ (S:=S) w id nm ty n p bd c a b v q i g d k l e es own (x) true:=
 qA (DK h w id nm ty n p bd c f o u t j m i g d k l e es s x own z A c1 [(52,120,qB y),(52,131,qB y),(52,158,qB r),(52,204,qB y),(52,209,hB Pg (decide ((0:Int)<((fJ ((.mk i g d k l e)::es)).length:Int))) true (by simp[fJ]))] []) 600000 (ol h f o rfl)
theorem Ph(own:Bool)(z:Cl w id nm ty n p bd c a b q i g d k l e es own S va vb)(x s:WE)(c1:iL (S.addP a b) q w x (.mk i g d k l e) ty)(A:Cm id nm ty n p bd c a b q i g d k l e es own S x s)(y:(ty==3)=false)(r:nV S true):DJ (S:=S) w id nm ty n p bd c a b v q i g d k l e es own ((s).fail p 2) true:=
 qA (DK h w id nm ty n p bd c f o u t j m i g d k l e es x s own z A c1 [(52,120,qB y),(52,131,qB y),(52,158,qB r),(52,204,qB y),(52,209,hB Pg (decide ((0:Int)<((fJ ((.mk i g d k l e)::es)).length:Int))) true (by simp[fJ]))] [(52,162,641490,ad (a8 (h.addP a b f) (s) p 2))]) 600000 (ol h f o rfl)
theorem Pi(A:Cl w id nm ty n p bd c a b q i g d k l e es true S va vb)(x s:WE)(c1:iL (S.addP a b) q w x (.mk i g d k l e) ty)(B:Cm id nm ty n p bd c a b q i g d k l e es true S x s)(y:(ty==3)=true)(z:decide (n<1)=true)(r:nV S false):DJ (S:=S) w id nm ty n p bd c a b v q i g d k l e es true ((s).fail p 1) true:=
 qA (DK h w id nm ty n p bd c f o u t j m i g d k l e es x s true A B c1 [(52,120,qB y),(52,131,qB y),(52,135,qB z),(52,158,qB r),(52,204,qB y)] [(52,145,638724,ad (a8 (h.addP a b f) (s) p 1))]) 600000 (ol h f o rfl)
theorem K3(A:Cl w id nm ty n p bd c a b q i g d k l e es true S va vb)(x r:WE)(c1:iL (S.addP a b) q w x (.mk i g d k l e) ty)(B:Cm id nm ty n p bd c a b q i g d k l e es true S x r)(y:(ty==3)=true)(z:decide (n<1)=true)(s:nV S true):DJ (S:=S) w id nm ty n p bd c a b v q i g d k l e es true (((r).fail p 1).fail p 2) true:=
 qA (DK h w id nm ty n p bd c f o u t j m i g d k l e es x r true A B c1 [(52,120,qB y),(52,131,qB y),(52,135,qB z),(52,158,qB s),(52,204,qB y)] [(52,145,638724,ad (a8 (h.addP a b f) (r) p 1)),(52,162,646100,ad (a8 (h.addP a b f) ((r).fail p 1) p 2))]) 600000 (ol h f o rfl)
theorem Pj(B:Cl w id nm ty n p bd c a b q i g d k l e es true S va vb)(x s:WE)(c1:iL (S.addP a b) q w x (.mk i g d k l e) ty)(C:Cm id nm ty n p bd c a b q i g d k l e es true S x s)(z:(ty==3)=true)(A:decide (n<1)=false)(y:decide (256<n)=true)(r:nV S false):DJ (S:=S) w id nm ty n p bd c a b v q i g d k l e es true ((s).fail p 1) true:=
 qA (DK h w id nm ty n p bd c f o u t j m i g d k l e es x s true B C c1 [(52,120,qB z),(52,131,qB z),(52,135,qB A),(52,139,qB y),(52,158,qB r),(52,204,qB z)] [(52,145,640107,ad (a8 (h.addP a b f) (s) p 1))]) 600000 (ol h f o rfl)
theorem K4(B:Cl w id nm ty n p bd c a b q i g d k l e es true S va vb)(x r:WE)(c1:iL (S.addP a b) q w x (.mk i g d k l e) ty)(C:Cm id nm ty n p bd c a b q i g d k l e es true S x r)(z:(ty==3)=true)(A:decide (n<1)=false)(y:decide (256<n)=true)(s:nV S true):DJ (S:=S) w id nm ty n p bd c a b v q i g d k l e es true (((r).fail p 1).fail p 2) true:=
 qA (DK h w id nm ty n p bd c f o u t j m i g d k l e es x r true B C c1 [(52,120,qB z),(52,131,qB z),(52,135,qB A),(52,139,qB y),(52,158,qB s),(52,204,qB z)] [(52,145,640107,ad (a8 (h.addP a b f) (r) p 1)),(52,162,647483,ad (a8 (h.addP a b f) ((r).fail p 1) p 2))]) 600000 (ol h f o rfl)
theorem Pk(B:Cl w id nm ty n p bd c a b q i g d k l e es true S va vb)(s x:WE)(c1:iL (S.addP a b) q w s (.mk i g d k l e) ty)(C:Cm id nm ty n p bd c a b q i g d k l e es true S s x)(z:(ty==3)=true)(A:decide (n<1)=false)(y:decide (256<n)=false)(r:nV S false):DJ (S:=S) w id nm ty n p bd c a b v q i g d k l e es true (x) true:=
 qA (DK h w id nm ty n p bd c f o u t j m i g d k l e es s x true B C c1 [(52,120,qB z),(52,131,qB z),(52,135,qB A),(52,139,qB y),(52,158,qB r),(52,204,qB z)] []) 600000 (ol h f o rfl)
theorem K5(B:Cl w id nm ty n p bd c a b q i g d k l e es true S va vb)(x s:WE)(c1:iL (S.addP a b) q w x (.mk i g d k l e) ty)(C:Cm id nm ty n p bd c a b q i g d k l e es true S x s)(z:(ty==3)=true)(A:decide (n<1)=false)(y:decide (256<n)=false)(r:nV S true):DJ (S:=S) w id nm ty n p bd c a b v q i g d k l e es true ((s).fail p 2) true:=
 qA (DK h w id nm ty n p bd c f o u t j m i g d k l e es x s true B C c1 [(52,120,qB z),(52,131,qB z),(52,135,qB A),(52,139,qB y),(52,158,qB r),(52,204,qB z)] [(52,162,646100,ad (a8 (h.addP a b f) (s) p 2))]) 600000 (ol h f o rfl)
theorem Pn(A:Cl w id nm ty n p bd c a b q i g d k l e es false S va vb)(x r:WE)(c1:iL (S.addP a b) q w x (.mk i g d k l e) ty)(B:Cm id nm ty n p bd c a b q i g d k l e es false S x r)(y:(ty==3)=true)(z:decide (n<1)=true)(s:nV S false):DJ (S:=S) w id nm ty n p bd c a b v q i g d k l e es false (((r).fail p 3).fail p 1) true:=
 qA (DK h w id nm ty n p bd c f o u t j m i g d k l e es x r false A B c1 [(52,120,qB y),(52,131,qB y),(52,135,qB z),(52,158,qB s),(52,204,qB y)] [(52,128,634114,ad (a8 (h.addP a b f) (r) p 3)),(52,145,640107,ad (a8 (h.addP a b f) ((r).fail p 3) p 1))]) 600000 (ol h f o rfl)
theorem K6(A:Cl w id nm ty n p bd c a b q i g d k l e es false S va vb)(x r:WE)(c1:iL (S.addP a b) q w x (.mk i g d k l e) ty)(B:Cm id nm ty n p bd c a b q i g d k l e es false S x r)(y:(ty==3)=true)(z:decide (n<1)=true)(s:nV S true):DJ (S:=S) w id nm ty n p bd c a b v q i g d k l e es false ((((r).fail p 3).fail p 1).fail p 2) true:=
 qA (DK h w id nm ty n p bd c f o u t j m i g d k l e es x r false A B c1 [(52,120,qB y),(52,131,qB y),(52,135,qB z),(52,158,qB s),(52,204,qB y)] [(52,128,634114,ad (a8 (h.addP a b f) (r) p 3)),(52,145,640107,ad (a8 (h.addP a b f) ((r).fail p 3) p 1)),(52,162,647483,ad (a8 (h.addP a b f) (((r).fail p 3).fail p 1) p 2))]) 600000 (ol h f o rfl)
theorem Po(B:Cl w id nm ty n p bd c a b q i g d k l e es false S va vb)(x r:WE)(c1:iL (S.addP a b) q w x (.mk i g d k l e) ty)(C:Cm id nm ty n p bd c a b q i g d k l e es false S x r)(z:(ty==3)=true)(A:decide (n<1)=false)(y:decide (256<n)=true)(s:nV S false):DJ (S:=S) w id nm ty n p bd c a b v q i g d k l e es false (((r).fail p 3).fail p 1) true:=
 qA (DK h w id nm ty n p bd c f o u t j m i g d k l e es x r false B C c1 [(52,120,qB z),(52,131,qB z),(52,135,qB A),(52,139,qB y),(52,158,qB s),(52,204,qB z)] [(52,128,634114,ad (a8 (h.addP a b f) (r) p 3)),(52,145,641490,ad (a8 (h.addP a b f) ((r).fail p 3) p 1))]) 600000 (ol h f o rfl)
theorem K7(B:Cl w id nm ty n p bd c a b q i g d k l e es false S va vb)(x r:WE)(c1:iL (S.addP a b) q w x (.mk i g d k l e) ty)(C:Cm id nm ty n p bd c a b q i g d k l e es false S x r)(z:(ty==3)=true)(A:decide (n<1)=false)(y:decide (256<n)=true)(s:nV S true):DJ (S:=S) w id nm ty n p bd c a b v q i g d k l e es false ((((r).fail p 3).fail p 1).fail p 2) true:=
 qA (DK h w id nm ty n p bd c f o u t j m i g d k l e es x r false B C c1 [(52,120,qB z),(52,131,qB z),(52,135,qB A),(52,139,qB y),(52,158,qB s),(52,204,qB z)] [(52,128,634114,ad (a8 (h.addP a b f) (r) p 3)),(52,145,641490,ad (a8 (h.addP a b f) ((r).fail p 3) p 1)),(52,162,648866,ad (a8 (h.addP a b f) (((r).fail p 3).fail p 1) p 2))]) 600000 (ol h f o rfl)
theorem Pq(B:Cl w id nm ty n p bd c a b q i g d k l e es false S va vb)(x s:WE)(c1:iL (S.addP a b) q w x (.mk i g d k l e) ty)(C:Cm id nm ty n p bd c a b q i g d k l e es false S x s)(z:(ty==3)=true)(A:decide (n<1)=false)(y:decide (256<n)=false)(r:nV S false):DJ (S:=S) w id nm ty n p bd c a b v q i g d k l e es false ((s).fail p 3) true:=
 qA (DK h w id nm ty n p bd c f o u t j m i g d k l e es x s false B C c1 [(52,120,qB z),(52,131,qB z),(52,135,qB A),(52,139,qB y),(52,158,qB r),(52,204,qB z)] [(52,128,634114,ad (a8 (h.addP a b f) (s) p 3))]) 600000 (ol h f o rfl)
theorem K8(B:Cl w id nm ty n p bd c a b q i g d k l e es false S va vb)(x r:WE)(c1:iL (S.addP a b) q w x (.mk i g d k l e) ty)(C:Cm id nm ty n p bd c a b q i g d k l e es false S x r)(z:(ty==3)=true)(A:decide (n<1)=false)(y:decide (256<n)=false)(s:nV S true):DJ (S:=S) w id nm ty n p bd c a b v q i g d k l e es false (((r).fail p 3).fail p 2) true:=
 qA (DK h w id nm ty n p bd c f o u t j m i g d k l e es x r false B C c1 [(52,120,qB z),(52,131,qB z),(52,135,qB A),(52,139,qB y),(52,158,qB s),(52,204,qB z)] [(52,128,634114,ad (a8 (h.addP a b f) (r) p 3)),(52,162,647483,ad (a8 (h.addP a b f) ((r).fail p 3) p 2))]) 600000 (ol h f o rfl)
end
end
end Go.Avm
namespace Go.Avm
open Go.Proofs
section
variable{S:WK}{c:WS}{q a:WL}{z:Nat}(B:Beg S c q a z)(g:1≤z)(d:EU S q a c.w)(own:Bool)(id:Int)(nm:List UInt8)(ty n p:Int)(es:List Ex)(bd b:List aP)
abbrev StR(S:WK)(c:WS)(q:WL)(z:Nat)(own:Bool)(x:aP):Prop:=∃S' q',NxW S S' q q' c z (cK S.fs S.fn own x c q.s)∧sH S S' q q' c.w (cK S.fs S.fn own x c q.s).1.w x own
theorem StR.of{x:aP}{r:WS×LS}{S':WK}{q':WL}(e:cK S.fs S.fn own x c q.s=r)(n:NxW S S' q q' c z r)(k:sH S S' q q' c.w r.1.w x own):StR S c q z own x:=by
 refine⟨S',q', ?_, ?_⟩
 ·rw[e];exact n
 ·rw[e];exact k
include B g d
theorem WA(f:b8 es=true)(o:es.length=1):StR S c q z own (.mk 8 id nm ty n p es bd b):=by
 obtain⟨j,i,e,k,l,h,rfl⟩:=one_of o;simp only[b8,xJ]at f;obtain⟨va,vb,m⟩:=B.loop ⟨8,id,nm,ty,n,p,[.mk j i e k l h],bd,b⟩ own;refine StR.of own ?_ (B.nx g _) (Yy B.at_.ok c.w own id nm ty n p bd b B.hn B.h0' d j i e k l h [] m _ _ (B.ex _ f.1 c.w));rw[cK,B.h0,←B.s,←pG B.at_.v _ _ (c.pts ++[a.s.pt S.fn]) c.w];rfl
theorem WB(o:b8 es=true)(C:es.length=1):StR S c q z own (.mk 7 id nm ty n p es bd b):=by
 obtain⟨k,j,f,l,i,h,rfl⟩:=one_of C;simp only[b8,xJ]at o;obtain⟨va,vb,u⟩:=B.loop ⟨7,id,nm,ty,n,p,[.mk k j f l i h],bd,b⟩ own;have m:=B.ex _ o.1 c.w
 have e:cK S.fs S.fn own (.mk 7 id nm ty n p [.mk k j f l i h] bd b) c q.s=(⟨c.vars,c.pts ++[a.s.pt S.fn],bif (aM (eU (S.addP (lY a.s) (lZ a.s)) a) (.mk k j f l i h) c.w).1==1||(aM (eU (S.addP (lY a.s) (lZ a.s)) a) (.mk k j f l i h) c.w).1==2 then (aM (eU (S.addP (lY a.s) (lZ a.s)) a) (.mk k j f l i h) c.w).2 else (aM (eU (S.addP (lY a.s) (lZ a.s)) a) (.mk k j f l i h) c.w).2.fail i 8⟩,a.s):=by
  rw[cK,B.h0,←B.s,←pG B.at_.v _ _ (c.pts ++[a.s.pt S.fn]) c.w];rfl
 refine StR.of own e (B.nx g _) ?_;revert m;generalize (aM (eU (S.addP (lY a.s) (lZ a.s)) a) (.mk k j f l i h) c.w)=r;obtain⟨t,x⟩:=r;intro m;dsimp only at m ⊢;cases y:(t==1)with
 |true=>exact Wp B.at_.ok c.w own id nm ty n p bd b B.hn B.h0' d k j f l i h [] u t x m (by rw[bne,y];rfl)
 |false=>cases A:(t==2)with
  |true=>exact Wq B.at_.ok c.w own id nm ty n p bd b B.hn B.h0' d k j f l i h [] u t x m (by rw[bne,y];rfl) (by rw[bne,A];rfl)
  |false=>exact Wr B.at_.ok c.w own id nm ty n p bd b B.hn B.h0' d k j f l i h [] u t x m (by rw[bne,y];rfl) (by rw[bne,A];rfl)
theorem WC(j:b8 es=true)(y:es.length≤1):StR S c q z own (.mk 6 id nm ty n p es bd b):=by
 have A:=B.at_.ok.fn;have u:S.fs[S.fn]? =some S.fs[S.fn]:=xD A;revert u;generalize S.fs[S.fn]=f;intro u;obtain⟨fm,ps,res,D,fp⟩:=f
 have x:(S.fs.map bn)[((S.fn:Nat):Int).toNat]? =some (.agg [.str fm, .ro (ps.map cR), .int .u8 res, .ro (cg D), .int .i64 fp]):=by
  rw[xb,xN,u];rfl
 match es,y,j with
 |[],_,_=>
  obtain⟨va,vb,t⟩:=B.loop ⟨6,id,nm,ty,n,p,[],bd,b⟩ own
  have e:cK S.fs S.fn own (.mk 6 id nm ty n p [] bd b) c q.s=(⟨c.vars,c.pts ++[a.s.pt S.fn],bif decide (0<res)then c.w.fail p 8 else c.w⟩,a.s):=by
   rw[cK,B.h0,←B.s,u];rfl
  refine StR.of own e (B.nx g _) ?_;dsimp only;cases l:decide (0<res)with
  |true=>exact Wv B.at_.ok c.w own id nm ty n p bd b B.hn B.h0' d t fm _ _ res fp x l
  |false=>exact Wx B.at_.ok c.w own id nm ty n p bd b B.hn B.h0' d t fm _ _ res fp x l
 |[.mk o m h r k i],_,j=>
  simp only[b8,xJ]at j;obtain⟨va,vb,t⟩:=B.loop ⟨6,id,nm,ty,n,p,[.mk o m h r k i],bd,b⟩ own;have C:=B.ex _ j.1
  have e:cK S.fs S.fn own (.mk 6 id nm ty n p [.mk o m h r k i] bd b) c q.s=(bif decide (0<res)then (⟨c.vars,c.pts ++[a.s.pt S.fn],dj (eU (S.addP (lY a.s) (lZ a.s)) a) (.mk o m h r k i) res c.w⟩,a.s)else (⟨c.vars,c.pts ++[a.s.pt S.fn],(aM (eU (S.addP (lY a.s) (lZ a.s)) a) (.mk o m h r k i) c.w).2.fail k 8⟩,a.s)):=by
   rw[cK,B.h0,←B.s,←pG B.at_.v _ _ (c.pts ++[a.s.pt S.fn]) c.w,u];rfl
  cases l:decide (0<res)with
  |true=>
   rw[l]at e;exact StR.of own e (B.nx g _) (Ww B.at_.ok c.w own id nm ty n p bd b B.hn B.h0' d o m h r k i [] t fm _ _ res fp x l _ (gW B.ok1 C c.w res))
  |false=>
   rw[l]at e;exact StR.of own e (B.nx g _) (Wy B.at_.ok c.w own id nm ty n p bd b B.hn B.h0' d o m h r k i [] t fm _ _ res fp x l _ _ (C c.w))
 |_::_::_,y,_=>simp at y
theorem WD(j:b8 es=true)(E:es.length=2):StR S c q z own (.mk 3 id nm ty n p es bd b):=by
 obtain⟨x,y,rfl⟩:=Th E;simp only[b8,xJ]at j;have F:=B.ex _ j.1;have C:=B.ex _ j.2.1;obtain⟨m,k,h,o,l,i⟩:=x;obtain⟨t,A,f,u,r,bl⟩:=y;obtain⟨va,vb,D⟩:=B.loop ⟨3,id,nm,ty,n,p,[.mk m k h o l i, .mk t A f u r bl],bd,b⟩ own
 have e:cK S.fs S.fn own (.mk 3 id nm ty n p [.mk m k h o l i, .mk t A f u r bl] bd b) c q.s=(⟨c.vars,c.pts ++[a.s.pt S.fn],ba (eU (S.addP (lY a.s) (lZ a.s)) a) [.mk m k h o l i, .mk t A f u r bl] [1,1] (nH (eU (S.addP (lY a.s) (lZ a.s)) a) nm p c.w)⟩,a.s):=by
  rw[cK,B.h0,←B.s,←pG B.at_.v _ _ (c.pts ++[a.s.pt S.fn]) c.w];rfl
 rw[Cj]at e;exact StR.of own e (B.nx g _) (Yz B.at_.ok c.w own id nm ty n p bd b B.hn B.h0' d m k h o l i t A f u r bl [] D (by rw[B.len.1,B.at_.v]) _ _ (gW B.ok1 F _ 1) (gW B.ok1 C _ 1))
theorem WF(t:b8 es=true)(L:es.length=1):StR S c q z own (.mk 2 id nm ty n p es bd b):=by
 obtain⟨r,o,f,u,m,h,rfl⟩:=one_of L;simp only[b8,xJ]at t;have H:=B.ex _ t.1;obtain⟨va,vb,y⟩:=B.loop ⟨2,id,nm,ty,n,p,[.mk r o f u m h],bd,b⟩ own;have A:a.s.seen.length=S.vars.length:=by rw[B.len.1,B.at_.v]
 have k:=Il B.ok1 c.w a nm A
 have e:cK S.fs S.fn own (.mk 2 id nm ty n p [.mk r o f u m h] bd b) c q.s=match dZ nm c.vars a.s.seen 0 with
     |none=>(⟨c.vars,c.pts ++[a.s.pt S.fn],c.w.fail p 6⟩,a.s)
     |some i=>(⟨c.vars,c.pts ++[a.s.pt S.fn],ba (eU (S.addP (lY a.s) (lZ a.s)) a) [.mk r o f u m h] [(c.vars.getD i default).ty] (bif (c.vars.getD i default).ty==3 then c.w.fail p 8 else c.w)⟩,⟨a.s.seen,a.s.sure.set i true⟩):=by
  rw[cK,B.h0,←B.s,←pG B.at_.v _ _ (c.pts ++[a.s.pt S.fn]) c.w];rfl
 have K:(S.addP (lY a.s) (lZ a.s)).vars=c.vars:=B.at_.v;rw[K]at k;revert k e;cases hw:dZ nm c.vars a.s.seen 0 with
 |none=>exact fun k e=>StR.of own e (B.nx g _) (Ws B.at_.ok c.w own id nm ty n p bd b B.hn B.h0' d _ y k)
 |some j=>
  intro k e;dsimp only at e;have x:j<c.vars.length:=by have:=oa hw;omega
  have F:S.vars[j]? =some (c.vars.getD j default):=by rw[B.at_.v];simp[yX,xD x]
  have l:j<a.s.sure.length:=by rw[B.len.2];exact x
  have E:a.s.sure[j]? =some a.s.sure[j]:=xD l
  have I:∀C,NxW S (S.addP (lY a.s) (lZ a.s)) q (a.sets j) c z (⟨c.vars,c.pts ++[a.s.pt S.fn],C⟩,⟨a.s.seen,a.s.sure.set j true⟩):=fun C=>by
   have nn:=B.nx g C;exact⟨nn.ok,nn.fs,nn.fn,nn.W,nn.vR,nn.v,nn.P,nn.vb,rfl,by show(a.s.sure.set j true).length=_;rw[zP];exact nn.l1,nn.l2,nn.gv,nn.gs,nn.gp⟩
  have J:cS (a.sets j)=cS a:=by simp only[cS,WL.sets,zP]
  rw[lF]at e;refine StR.of own e (I _) ?_;show ∀G:aa,am _ _ _ _ [cS (a.sets j)] _;rw[J,←vW];dsimp only;cases D:((c.vars.getD j default).ty==3)with
  |true=>exact Wu B.at_.ok c.w own id nm ty n p bd b B.hn B.h0' d r o f u m h [] y j _ (by rw[B.at_.v];exact x) F l _ E _ k D (gW B.ok1 H _ _)
  |false=>exact Wt B.at_.ok c.w own id nm ty n p bd b B.hn B.h0' d r o f u m h [] y j _ (by rw[B.at_.v];exact x) F l _ E _ k D (gW B.ok1 H _ _)
end
end Go.Avm
namespace Go.Avm
open Go.Proofs
abbrev T7:List (Nat×aE):=[(600077,⟨1,some (.arr 1 [.nils, .nils])⟩),(600431,⟨2,none⟩)]
abbrev fb(S:WK)(w:WE)(q:WL):List (Nat×aE):=wk S w ++bt q ++dD 600005 q ++T7
abbrev pZ(l:List D)(own:Bool)(b:List D)(a i:Nat):List (Nat×AV):=[(0,gl),(2, .d (.ro l)),(3, .d (.bool own)),(5, .ptr 600005 1 0 0 1),(8, .ptr 600077 1 0 0 1),(9,dN a),(10, .vec 600431 2 1 b),(21, .d (.ro l)),(22,dN l.length),(23,dN i)]
abbrev K9(b:List D)(a:Nat):List (Nat×AV):=[(5, .ptr 600005 1 0 0 1),(8, .ptr 600077 1 0 0 1),(9,dN a),(10, .vec 600431 2 1 b)]
theorem ef{S:WK}{w:WE}{q:WL}(h:WKok S){ρ:Nat→Nat}(a:([500005,500382,500191,500010,500011].map ρ)=[500005,500382,500191,500010,500011]):((fb S w q).map fun p=>aY ρ p.2)=(fb S w q).map (·.2):=by
 have e:=gF (K:=600005) (w:=w) (q:=q) h a;unfold fb;rw[xF,e];refine Eq.trans ?_ (xF ..).symm;rfl
section
variable{S:WK}(h:WKok S)(w:WE)(q:WL)(l:List D)(own:Bool)(b:List D)(a i:Nat)
include h
theorem Pr(c:decide (i<l.length)=false):RE 69 (lO 30 4) (pZ l own b a i) (fb S w q) (.exit 0) (K9 b a) (fb S w q):=
 qE {hint:=qT 30 [(24,dk Pg i l.length false c)]} 30 700000 ⟨rfl,rfl,rfl,rfl,ef h rfl,ef h rfl⟩
section
variable(k id:Int)(nm:List UInt8)(ty n p:Int)(es:List Ex)(bd e:List aP){S':WK}(h':WKok S')(d:WE)(q':WL)
include h'
theorem Tp(o:decide (0<l.length)=true)(g:l[((0:Nat):Int).toNat]? =some (mn (.mk k id nm ty n p es bd e)))(c:sH S S' q q' w d (.mk k id nm ty n p es bd e) own):∀(f:aa)(X:b4),X.P=Pg→X.N=69→AW X (lO 30 4) ⟨ah (pZ l own b a 0),ae (fb S w q) f⟩ fun j m=>j= .normal∧m=⟨ah (pZ l own b a 1),ae (fb S' d q') f⟩:=
 qE {hint:=qT 30 [(24,dk Pg 0 l.length true o),(26, .idx l ((0:Nat):Int) _ (by omega) g)],calls:=tC [(30,46,701035,ad c)]} 30 700000 ⟨rfl,rfl,rfl,rfl,ef h rfl,ef h' rfl⟩
section
variable(z:decide (i+1<l.length)=true)(A:i<1000000)(u:l[((i+1:Nat):Int).toNat]? =some (mn (.mk k id nm ty n p es bd e)))(v s:Int)(f:List UInt8)(g x t:Int)(j:List Ex)(m o:List aP)(y:l[((i:Nat):Int).toNat]? =some (mn (.mk v s f g x t j m o)))
include z A u y
theorem Tq(r:o4 (.mk v s f g x t j m o) false)(c:sH S S' q q' w d (.mk k id nm ty n p es bd e) own):∀(B:aa)(X:b4),X.P=Pg→X.N=69→AW X (lO 30 4) ⟨ah (pZ l own b a (i+1)),ae (fb S w q) B⟩ fun C D=>C= .normal∧D=⟨ah (pZ l own b a (i+1+1)),ae (fb S' d q') B⟩:=
 qE {hint:=qT 30 [(24,dk Pg (i+1) l.length true z),(26, .idx l ((i+1:Nat):Int) _ (by omega) u),(29,hB Pg (decide ((0:Int)<((i+1:Nat):Int))) true (by rw[decide_eq_true_iff];omega)),(33, .val (dI (IntKind.i64.wrap (((i+1:Nat):Int)-1))) (dN i) (by rw[IntWalk.i64_in _ (by omega)];congr 1;omega)),(34, .idx l ((i:Nat):Int) _ (by omega) y),(36, .call 51 _ _ r),(47,bj Pg (i+1) (by omega))],calls:=tC [(30,46,701380,ad c)]} 30 700000 ⟨rfl,rfl,rfl,rfl,ef h rfl,ef h' rfl⟩
theorem Tr(r:o4 (.mk v s f g x t j m o) true)(c:sH S S' q q' (w.fail p 11) d (.mk k id nm ty n p es bd e) own):∀(B:aa)(X:b4),X.P=Pg→X.N=69→AW X (lO 30 4) ⟨ah (pZ l own b a (i+1)),ae (fb S w q) B⟩ fun C D=>C= .normal∧D=⟨ah (pZ l own b a (i+1+1)),ae (fb S' d q') B⟩:=
 qE {hint:=qT 30 [(24,dk Pg (i+1) l.length true z),(26, .idx l ((i+1:Nat):Int) _ (by omega) u),(29,hB Pg (decide ((0:Int)<((i+1:Nat):Int))) true (by rw[decide_eq_true_iff];omega)),(33, .val (dI (IntKind.i64.wrap (((i+1:Nat):Int)-1))) (dN i) (by rw[IntWalk.i64_in _ (by omega)];congr 1;omega)),(34, .idx l ((i:Nat):Int) _ (by omega) y),(36, .call 51 _ _ r),(47,bj Pg (i+1) (by omega))],calls:=tC [(30,41,701311,ad (a8 h w p 11)),(30,46,701587,ad c)]} 30 700000 ⟨rfl,rfl,rfl,rfl,ef h rfl,ef h' rfl⟩
end
end
end
end Go.Avm
namespace Go.Avm
open Go.Proofs
abbrev tq(b:List D)(a n j:Nat):List (Nat×AV):=[(5, .ptr 600005 1 0 0 1),(8, .ptr 600077 1 0 0 1),(9,dN a),(10, .vec 600431 2 1 b),(50,dN n),(51,dN j)]
abbrev La:List (Nat×AV):=[(5, .ptr 600005 1 0 0 1),(8, .ptr 600077 1 0 0 1)]
abbrev Iv(q:WL)(j:Nat)(v:Bool):List (Nat×aE):=[(500010,⟨q.vS,some (.arr 1 (((q.s.seen.map D.bool).map AV.d).set (0+((j:Nat):Int).toNat) (AV.d (.bool v))))⟩),(500011,⟨q.vU,some (.arr 1 ((q.s.sure.map D.bool).map AV.d))⟩)]
def WL.seth(q:WL)(j:Nat)(v:Bool):WL:=⟨⟨q.s.seen.set j v,q.s.sure⟩,q.vS,q.vU⟩
theorem vX(q:WL)(j:Nat)(v:Bool):Iv q j v=bt (q.seth j v):=by
 have e:0+((j:Nat):Int).toNat=j:=by omega
 unfold Iv bt WL.seth;rw[e,List.map_set,List.map_set]
theorem sC(K:Nat)(q:WL)(j:Nat)(v:Bool):dD K q=dD K (q.seth j v):=by
 unfold dD WL.seth;simp only[zP]
section
variable{S:WK}(h:WKok S)(w:WE)(q:WL)(b:List D)(a n j:Nat)
include h
theorem Pu(c:decide (j<n)=false):RE 69 (lO 30 11) (tq b a n j) (fb S w q) (.exit 2) La (fb S w q):=
 qE {hint:=qT 30 [(52,dk Pg j n false c)]} 30 700000 ⟨rfl,rfl,rfl,rfl,ef h rfl,ef h rfl⟩
section
variable(e:decide (j<n)=true)(f:j<1000000)(d:j<q.s.seen.length)(u:Bool)(c:q.s.seen[j]? =some u)
include e f d c
theorem WG(h2:decide (j<a)=true)(v:Bool)(g:b[((j:Nat):Int).toNat]? =some (.bool v)):RE 69 (lO 30 11) (tq b a n j) (fb S w q) .normal (tq b a n (j+1)) (wk S w ++Iv q j v ++dD 600005 q ++T7):=
 qE {hint:=qT 30 [(52,dk Pg j n true e),(59,dk Pg j a true h2),(63, .idx b ((j:Nat):Int) _ (by omega) g),(66, .inb (j:Int) q.s.seen.length (by omega) (by simpa using d)),(113013,jC Pg q.s.seen j u c),(67,bj Pg j (by omega))]} 30 700000 ⟨rfl,rfl,rfl,rfl,ef h rfl,by rw[vX,sC 600005 q j v];exact ef h rfl⟩
theorem Ts(h2:decide (j<a)=false):RE 69 (lO 30 11) (tq b a n j) (fb S w q) .normal (tq b a n (j+1)) (wk S w ++Iv q j false ++dD 600005 q ++T7):=
 qE {hint:=qT 30 [(52,dk Pg j n true e),(59,dk Pg j a false h2),(66, .inb (j:Int) q.s.seen.length (by omega) (by simpa using d)),(113013,jC Pg q.s.seen j u c),(67,bj Pg j (by omega))]} 30 700000 ⟨rfl,rfl,rfl,rfl,ef h rfl,by rw[vX,sC 600005 q j false];exact ef h rfl⟩
end
abbrev Pv(S S':WK)(q q':WL)(w e:WE)(l:List aP)(own:Bool):Prop:=∀c:aa,am Pg 30 [gl,cS q, .d (.ro (cg l)), .d (.bool own)] (ae (wk S w ++bt q) c) [cS q'] (ae (wk S' e ++bt q') c)
theorem Pw{S':WK}(h':WKok S')(d:WE)(e p:WL)(l:List aP)(own:Bool)(u:q.s.seen.length<1000000)
    (t:∀(c:aa)(X:b4),X.P=Pg→X.N=69→LW X (lO 30 4) ⟨ah (pZ (cg l) own (q.s.seen.map D.bool) q.s.seen.length 0),ae (fb S w q) c⟩ fun k o=>k= .exit 0∧o=⟨ah (K9 (q.s.seen.map D.bool) q.s.seen.length),ae (fb S' d e) c⟩)
    (r:∀(c:aa)(X:b4),X.P=Pg→X.N=69→LW X (lO 30 11) ⟨ah (tq (q.s.seen.map D.bool) q.s.seen.length e.s.seen.length 0),ae (fb S' d e) c⟩ fun k o=>k= .exit 2∧o=⟨ah La,ae (fb S' d p) c⟩):Pv S S' q p w d l own:=
 qA {loops:=fun g i=>if g=30 then (if i=4 then some ⟨69,aJ Pg 30 4,pZ (cg l) own (q.s.seen.map D.bool) q.s.seen.length 0,fun _=>fb S w q, .exit 0,K9 (q.s.seen.map D.bool) q.s.seen.length,fun _=>fb S' d e,fun c X f m=>(t c X f m).aw⟩else if i=11 then some ⟨69,aJ Pg 30 11,tq (q.s.seen.map D.bool) q.s.seen.length e.s.seen.length 0,fun _=>fb S' d e, .exit 2,La,fun _=>fb S' d p,fun c X f m=>(r c X f m).aw⟩else none)else none,hint:=qT 30 [(20, .appc (q.s.seen.map D.bool) q.s.seen.length 1 (Ck _ u))]} 600000 (bF h h' rfl)
end
end Go.Avm
