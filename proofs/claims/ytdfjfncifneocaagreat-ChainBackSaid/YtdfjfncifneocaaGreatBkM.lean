/-
  Objects: the reference's May, of what may be: what it answers true to.
-/
import Derived.Test.YtdfjfncifneocaaGreatChI
open Nat renaming reduceEqDiff->ab,reduceLT->ao,reduceAdd->bq,add_zero->cc,sub_self->cp,le_refl->cx
open _root_ renaming reduceIte->af,eq_false->bb,eq_true->b4,List->b7,Int->b8,Nat->cd,UInt8->cm,true_and->cv
open Go.Proofs.Tryz renaming prog->av,underlying22->aE,underlying24->bk,underlying23->bn
open List renaming length_nil->aR,getElem_mem->a0,getD_eq_getElem?_getD->a9,getElem?_take_of_lt->b5,length_cons->ca,length_pos_iff->cf,getElem?_drop->cg
open Int renaming natCast_zero->bg,lt_irrefl->bl,reduceEq->bo,toNat_natCast->bC
open Go renaming Value->bz
open Go.Op renaming bytesLess->cb
set_option linter.unusedSimpArgs false
set_option linter.unusedVariables false
set_option maxRecDepth 100000
namespace Go.Cl
def aC (b:b7 cm):Prop:=b.length<=127/\b≠[]/\∀c∈b,c.toNat≠0
inductive fS:b8->O->Prop
  |none (p:b8):fS p (.mk 0 0 [] [] [])
  |int (p n:b8): -2147483647<=n->n<=2147483647->fS p (.mk 2 n [] [] [])
  |name (p:b8) (b:b7 cm):aC b->fS p (.mk 5 0 b [] [])
  |arr (p:b8) (l:b7 O):1<=p->p<=28->l≠[]->l.length<=100->(∀o∈l,o.kind≠8)->(∀o∈l,fS (p-1) o)->fS p (.mk 6 0 [] l [])
  |xO (p k:b8) (b:b7 cm) (d:b7 (b7 cm×O)):k=7/\b=[]\/k=8->1<=p->p<=28->b.length<=16777216->d.length<=100->(∀e∈d,aC e.1/\e.2.kind≠8/\e.2.kind≠0)->(∀e∈d,fS (p-1) e.2)->
      (∀i (h:i+1<d.length),(cb d[i+1].1 d[i].1||d[i+1].1==d[i].1)=false)->fS p (.mk k 0 b [] d)
def Yes (s:aq)(v:bz)(s' :aq):Prop:=v= .bool true/\ar s.next s s'
theorem KJ {P:Program}{t:TypeId}(a b:b7 cm):cQ P .leq t (.string ⟨a.toArray⟩) (.string ⟨b.toArray⟩)=some (.bool (cb a b||a==b)):=by
  simp only[cQ,PZ]
theorem so {P:Program}{t:TypeId}(a b:b7 cm):cQ P .neq t (.string ⟨a.toArray⟩) (.string ⟨b.toArray⟩)=some (.bool (decide (a≠b))):=by
  simp only[cQ,PZ]
  congr 2
  by_cases h:a=b
  ·subst h;simp
  ·simp[h]
theorem W1 {lc r:b7 bz}{i:cd}{a:bz}(h:(lc.drop (i*6)).take 6=a::r):lc.getD (i*6) undef=a:=by
  have h0:((lc.drop (i*6)).take 6)[0]?=some a:=by rw[h];rfl
  rw[b5 (by omega),cg,cc] at h0
  rw[a9,h0];rfl
end Go.Cl
namespace Go.Proofs.YtdfjfncifneocaaGreat
open Go.Cl
theorem efE {s:aq}{v:bz}{n:cd}{l:b7 bz}(h:aN s 6 v n l){k:cd}(hk:k<n):au av 63 (bc 6 v k) 0=some (b6 (bc 6 v k) 0):=by
  obtain⟨i,off,c,e,_⟩:=h.cells hk
  rw[e]
  unfold au;rw[Tryz.underlying63];simp[I2,iL,b6]
theorem efO {s:aq}{v:bz}{n:cd}{l:b7 bz}(h:aN s 5 v n l){k:cd}(hk:k<n):au av 26 (bc 5 v k) 0=some (b6 (bc 5 v k) 0):=by
  obtain⟨i,off,c,e,_⟩:=h.cells hk
  rw[e]
  unfold au;rw[Tryz.underlying26];simp[b6,bA]
theorem sT {F:cd->Prop}{s:aq}{r:b7 bz}{o:O}(h:dy F s r o):r.getD 0 undef= .int .i64 o.kind:=by
  cases o with
  |mk k n b l d=>
   obtain⟨bv,lv,dv,lc,dc,rfl,-⟩:=h.inv
   rfl
theorem Lh {F:cd->Prop}{s:aq}{lc:b7 bz}{i:cd}{o:O}(h:dy F s ((lc.drop (i*5)).take 5) o):lc.getD (i*5) undef= .int .i64 o.kind:=by
  have e:=sT h
  rw[a9,b5 (by omega),cg,cc] at e
  rw[a9,e]
theorem acn (s:aq)(k n:b8)(bv lv dv:bz):
    Runs av df 57 [.agg #[.int .i64 k,.int .i64 n,bv,lv,dv]] s fun v s' =>v= .bool (decide (k=7\/k=8))/\ar s.next s s' :=by
  refine Runs.enter 11 Tryz.func57 rfl rfl rfl rfl ?_
  intro f hn hf
  have h0:f.get 0= .agg #[.int .i64 k,.int .i64 n,bv,lv,dv]:=hf 0
  clear hf
  simp only[aj,ao,↓af,hn,h0]
  refine aw ?_
  intro s1 eK an Li
  have l0:aJ av s1 3 (.pointer (some ⟨s.next,0,some 6⟩))=some (.int .i64 k):=eK.load bu (off:=0) (c:=6) rfl (by simp)
  by_cases c7:k=7<;>simp only[aj,ak,al,oneOf,ao,ab,bq,↓af,undef,hn,ca,aR,F2,l0,c7,Tryz.results57]<;>exact⟨by simp[c7],an⟩
theorem VE (s:aq)(x:bz)(b:b7 cm)(hx:aN s 1 x b.length (ofBytes b))(hb:aC b):
    Runs av df 59 [x] s fun v s' =>v= .bool true/\s' =s:=by
  refine Runs.enter 18 Tryz.func59 rfl rfl rfl rfl ?_
  intro f hn hf
  have h0:f.get 0=x:=hf 0
  clear hf
  obtain⟨hl,-,hc⟩:=hb
  have c1:¬((b.length:cd):b8)>127:=by omega
  simp only[aj,aa,ao,ab,↓af,hn,h0,hx.bm aE,bb c1]
  refine Comes.eZ (fun z f s' =>∃i:cd,z=b.length-i/\i<=b.length/\s' =s/\f.n=18/\f.get 0=x/\f.get 3= .int .i64 (i:cd))
    ⟨0,rfl,by omega,rfl,by simp only[ad,ag,↓af,ab,hn,h0,cv];rfl⟩ ?_
  clear hn h0 f
  rintro z f _ ⟨i,rfl,hi,rfl,hn,h0,h3⟩
  by_cases bd:i<b.length
  rotate_left
  ·obtain rfl:i=b.length:=by omega
   have d1:¬((b.length:cd):b8)<((b.length:cd):b8):=by omega
   simp only[aj,al,oneOf,aa,ao,ab,↓af,hn,h0,h3,hx.bm aE,bb d1,Tryz.results59]
  have d1:((i:cd):b8)<((b.length:cd):b8):=by omega
  have As:=hx.indexAddr (P:=av) (k:= .i64) (x:=(i:b8)) aE bK (by omega) (by omega)
  rw[bC] at As
  have fz:=hx.di (P:=av) kI bd
  rw[bw bd] at fz
  have hg:b.getD i 0=b[i]:=by rw[a9,List.getElem?_eq_getElem bd];rfl
  rw[hg] at fz
  have c2:¬((b[i].toNat:cd):b8)=0:=by have:=hc _ (a0 bd);omega
  simp (disch:=omega) only[aj,aa,ao,ab,↓af,hn,h0,h3,hx.bm aE,b4 d1,As,fz,bb c2,aD]
  exact ay (b.length-(i+1)) (by omega) ⟨i+1,rfl,by omega,rfl,by simp only[ag,hn],by simp only[ad,↓af,ab,h0],by simp only[ad,↓af];rfl⟩
set_option maxHeartbeats 8000000 in
theorem abt (F:cd->Prop)(s:aq)(k p:b8)(b:b7 cm)(d:b7 (b7 cm×O))(cs:b7 bz)(ho:dy F s cs (.mk k 0 b [] d))(hp0:1<=p)(qJ:p<=28)(oH:b.length<=16777216)(hdl:d.length<=100)
    (hd:∀e∈d,aC e.1/\e.2.kind≠8/\e.2.kind≠0) (hr:∀i (h:i+1<d.length),(cb d[i+1].1 d[i].1||d[i+1].1==d[i].1)=false)
    (ih:∀e∈d,∀(s' :aq) (r:b7 bz),dy F s' r e.2->Runs av df 30 [.agg r.toArray,.int .i64 (p-1)] s' (Yes s')):
    Runs av df 60 [.agg cs.toArray,.int .i64 p] s (Yes s):=by
  obtain⟨bv,lv,dv,lc,dc,rfl,hb,hL,hD,-,-,-,rl,rd⟩:=ho.parts
  refine Runs.enter 68 Tryz.func60 rfl rfl rfl rfl ?_
  intro f hn hf
  have h0:f.get 0= .agg #[.int .i64 k,.int .i64 0,bv,lv,dv]:=hf 0
  have h1:f.get 1= .int .i64 p:=hf 1
  clear hf
  simp only[aj,ao,↓af,hn,h0]
  refine aw ?_
  intro s1 eK an Li
  have p2:aJ av s1 22 (.pointer (some ⟨s.next,2,some 6⟩))=some bv:=eK.load fU (off:=2) (c:=6) rfl (by simp)
  have eb:=hb.keeps an
  have c1:¬p<1:=by omega
  have c2:¬((b.length:cd):b8)>16777216:=by omega
  simp only[aj,ak,aa,ao,ab,bq,↓af,hn,h1,ca,aR,bb c1,of2,p2,eb.bm aE,bb c2]
  refine Comes.eZ (fun z f s6=>∃i:cd,z=d.length-i/\i<=d.length/\ax s6 s.next [.int .i64 k,.int .i64 0,bv,lv,dv]/\ar s.next s s6/\f.n=68/\f.get 1= .int .i64 p/\f.get 2= .pointer (some ⟨s.next,0,some 6⟩)/\f.get 5= .int .i64 (i:cd))
    ⟨0,rfl,by omega,eK,an,by simp only[ad,ag,↓af,ab,hn,h1,cv];rfl⟩ ?_
  clear hn h0 h1 f p2 eb eK
  rintro z f s6 ⟨i,rfl,hi,ht,hs,hn,h1,h2,h5⟩
  have hD6:=hD.keeps hs
  have l6:aJ av s6 24 (.pointer (some ⟨s.next,4,some 6⟩))=some dv:=ht.load aaj (off:=4) (c:=6) rfl (by simp)
  by_cases bd:i<d.length
  rotate_left
  ·obtain rfl:i=d.length:=by omega
   have d1:¬((d.length:cd):b8)<((d.length:cd):b8):=by omega
   simp only[aj,al,oneOf,aa,ao,ab,↓af,hn,h2,h5,of4,l6,hD6.bm bk,bb d1,Tryz.results60]
   exact⟨rfl,hs⟩
  have d1:(i:b8)<(d.length:b8):=by omega
  have As:=hD6.indexAddr (P:=av) (k:= .i64) (x:=(i:b8)) bk qq (by omega) (by omega)
  rw[bC] at As
  have fz:=hD6.fJ (P:=av) Tc qq bd
  obtain⟨r,pd,gx,hr3⟩:=rd.row i bd
  obtain⟨hnm,k8,k0⟩:=hd _ (a0 bd)
  have mO:=gx.len
  rw[pd] at fz
  obtain⟨xs,wA⟩:∃xs,xs=Value.string ⟨(d[i].1).toArray⟩::r:=⟨_,rfl⟩
  rw[<-wA] at fz
  have uM:xs.length=6:=by rw[wA];simp[mO]
  have acr:xs.all aL=true:=by rw[wA,List.all_cons,gx.ok];rfl
  have acC:bZ (.agg xs.toArray) (.agg xs.toArray)=true:=by
    have:=gx.self
    rw[wA]
    match r,mO,this with
    |[a,b,c,d,e],_,this=>
     simp[bZ,fp] at this|-
     exact⟨by simp[cN],this⟩
  simp only[aj,aa,ao,ab,↓af,hn,h2,h5,of4,l6,hD6.bm bk,b4 d1,As,fz,zE,Td]
  refine aw ?_
  intro s7 ht7 acD adE
  have hd7:xV.length+1=7:=rfl
  simp only[aj,ao,ab,↓af,hn,hd7]
  refine aB qq (by decide) ht7 rfl rfl uM acr ?_
  intro s8 Jn adH acF
  have Jn:ax s8 s6.next xs:=Jn
  have abD:ar s6.next s6 s8:=acD.trans ⟨by omega,fun j hj=>acF j (by omega)⟩
  have ht:=ht.keeps abD
  have hs8:=hs.trans (abD.weaken hs.next)
  simp only[aj]
  obtain⟨A,hA⟩:∃A:cd->Bool,A=fun j=>decide (j<s8.next):=⟨_,rfl⟩
  have iU:∀j,A j=true->j<s8.next:=by
    intro j h
    rw[hA] at h
    exact of_decide_eq_true h
  have N2:∀j,j<s8.next->A j=true:=fun j h=>by rw[hA];exact decide_eq_true h
  refine LB.cX.fi A iU 2 1 (by kernel_rfl) (by kernel_rfl) ?_
  have dC:=ar.spare s8 1
  have hnT:(spare s8 1).next=s8.next+1:=bU _ _
  have abE:∀k,LA.ej A (some (.pointer (some ⟨s.next,k,some 6⟩)))=true:=fun k=>LA.cr (A:=A) (i:=s.next) (N2 _ ht.lt)
  have AL:∀k,LA.ej A (some (.pointer (some ⟨s6.next,k,some 7⟩)))=true:=fun k=>LA.cr (A:=A) (i:=s6.next) (N2 _ Jn.lt)
  have l9:aJ av (spare s8 1) 9 (.pointer (some ⟨s6.next,0,some 7⟩))=some (.string ⟨(d[i].1).toArray⟩):=by
    have:=(Jn.keeps dC).load (P:=av) LH (off:=0) (c:=7) (by rw[uM]) (by omega)
    rw[this,wA];rfl
  have tc:jv av 9 22=true:=by kernel_rfl
  simp only[aj,bH,bI,ao,↓af,hn,WD,AL,l9,SA Tryz.underlying9 aE Tryz.underlying5 hr3,aE,tc]
  refine LB.cZ (base:=s8.next) (by rw[bM,Nat.mul_one]) (by omega) (cx _) ?_
  intro bs s9 oA gz acO adM adO
  simp only[aj,ak,bI,Nat.add_one_sub_one,aa,ao,ab,↓af,hn]
  refine(VE s9 bs d[i].1 oA.aG hnm).mono ?_
  rintro _ sa ⟨rfl,rfl⟩
  have Bd:ar s8.next s8 sa:=dC.trans acO
  have hsa:ar s.next s sa:=hs8.trans (Bd.weaken hs8.next)
  have hta:=ht.keeps Bd
  have aab:=Jn.keeps Bd
  have hD8:=hD.keeps hs8
  have hDa:=hD.keeps hsa
  have m9:aJ av sa 9 (.pointer (some ⟨s6.next,0,some 7⟩))=some (.string ⟨(d[i].1).toArray⟩):=by
    have:=aab.load (P:=av) LH (off:=0) (c:=7) (by rw[uM]) (by omega)
    rw[this,wA];rfl
  have m1:aJ av sa 26 (.pointer (some ⟨s6.next,1,some 7⟩))=some (.agg r.toArray):=by
    have:=ax.xU (P:=av) Hv iL aab (off:=1) (c:=7) (by rw[uM]) (by omega)
    rw[this,wA,List.drop_succ_cons,List.drop_zero,List.take_of_length_le (by omega)]
  have mk:aJ av sa 3 (.pointer (some ⟨s6.next,1,some 7⟩))=some (.int .i64 d[i].2.kind):=by
    have:=aab.load (P:=av) bu (off:=1) (c:=7) (by rw[uM]) (by omega)
    rw[this,wA]
    exact congrArg some (sT gx)
  have m6:aJ av sa 24 (.pointer (some ⟨s.next,4,some 6⟩))=some dv:=hta.load aaj (off:=4) (c:=6) rfl (by simp)
  have hoa:=gx.keeps hsa
  refine⟨fun _=>LA.ar.yC iU (ar.refl _ _),?_⟩
  have back:0<i->∃vv:i-1<d.length,(cb d[i].1 d[i-1].1||d[i].1==d[i-1].1)=false/\bT av 24 dv (.int .i64 ((i:b8)-1))=some (bc 6 dv (i-1))/\aJ av sa 9 (b6 (bc 6 dv (i-1)) 0)=some (.string ⟨d[i-1].1.toArray⟩)/\au av 63 (bc 6 dv (i-1)) 0=some (b6 (bc 6 dv (i-1)) 0)/\LA.ej A (some (b6 (bc 6 dv (i-1)) 0))=true:=fun i0=>by
    have vv:i-1<d.length:=by omega
    have hiy:=hDa.indexAddr (P:=av) (k:= .i64) (x:=(i:b8)-1) bk qq (by omega) (by omega)
    rw[show((i:b8)-1).toNat=i-1 by omega] at hiy
    obtain⟨r',e1,e2,e3⟩:=rd.row (i-1) vv
    have a1:=W1 e1
    have UF:=hDa.lB (P:=av) LH vv (j:=0) (by omega)
    rw[cc,a1] at UF
    refine⟨vv,?_,hiy,UF,efE hDa vv,LA.SY (j:=0) hD8 N2 vv⟩
    obtain⟨j,rfl⟩:∃j,i=j+1:=⟨i-1,by omega⟩
    exact hr j bd
  by_cases i0:(0:b8)<((i:cd):b8)
  ·obtain⟨vv,J5,hiy,UF,q0,Kf⟩:=back (by omega)
   simp (disch:=omega) only[aj,ak,bH,bI,cp,aa,ao,ab,bq,↓af,hn,h1,h2,h5,of4,F2,WD,aal,abE,AL,m9,m6,mk,m1,b4 i0,hDa.self,hiy,q0,UF,Kf,KJ,J5,vH,bb k8,bb k0,hoa.self,aD]
   refine(ih _ (a0 bd) sa r hoa).mono ?_
   rintro _ sb ⟨rfl,YP⟩
   refine⟨fun _=>LA.ar.yC iU (YP.weaken Bd.next),?_⟩
   simp (disch:=omega) only[aj,bH,bI,ao,ab,↓af,hn,h5,aD]
   exact ay (d.length-(i+1)) (by omega) ⟨i+1,rfl,by omega,hta.keeps YP,hsa.trans (YP.weaken hsa.next),by simp only[ag,hn],by simp only[ad,↓af,ab,h1],by simp only[ad,↓af,ab,h2],by simp only[ad,↓af];rfl⟩
  ·simp (disch:=omega) only[aj,ak,bH,bI,cp,aa,ao,ab,bq,↓af,undef,hn,h1,h5,F2,aal,AL,mk,m1,bb i0,bb k8,bb k0,hoa.self,aD]
   refine(ih _ (a0 bd) sa r hoa).mono ?_
   rintro _ sb ⟨rfl,YP⟩
   refine⟨fun _=>LA.ar.yC iU (YP.weaken Bd.next),?_⟩
   simp (disch:=omega) only[aj,bH,bI,ao,ab,↓af,hn,h5,aD]
   exact ay (d.length-(i+1)) (by omega) ⟨i+1,rfl,by omega,hta.keeps YP,hsa.trans (YP.weaken hsa.next),by simp only[ag,hn],by simp only[ad,↓af,ab,h1],by simp only[ad,↓af,ab,h2],by simp only[ad,↓af];rfl⟩
set_option maxHeartbeats 8000000 in
theorem acT:∀(N:cd) (o:O),SizeOf.sizeOf o<=N->∀(F:cd->Prop) (s:aq) (cs:b7 bz) (p:b8),dy F s cs o->fS p o->
    Runs av df 30 [.agg cs.toArray,.int .i64 p] s (Yes s):=by
  intro N
  induction N with
  |zero=>intro o h;cases o;simp at h
  |succ N ih=>
  intro o hN F s cs p ho hto
  cases o with
  |mk k n b l d=>
  obtain⟨bv,lv,dv,lc,dc,rfl,hb,hL,hD,-,-,-,rl,rd⟩:=ho.parts
  obtain⟨QQ,Wt⟩:∃QQ:bz->aq->Prop,QQ=Yes s:=⟨_,rfl⟩
  rw[<-Wt]
  refine Runs.enter 143 Tryz.func30 rfl rfl rfl rfl ?_
  intro f hn hf
  have h0:f.get 0= .agg #[.int .i64 k,.int .i64 n,bv,lv,dv]:=hf 0
  have h1:f.get 1= .int .i64 p:=hf 1
  clear hf
  simp only[aj,ao,↓af,hn,h0]
  refine aw ?_
  intro s1 eK an Li
  have la:=ax.bF (P:=av) (cs:=[.int .i64 k,.int .i64 n,bv,lv,dv]) Hv iL eK (c:=6) rfl
  simp only[aj,ak,aa,ao,ab,bq,↓af,hn,ca,aR,la]
  refine(acn s1 k n bv lv dv).mono ?_
  obtain⟨H,hH⟩:∃H:Bool,H=decide (k=7\/k=8):=⟨_,rfl⟩
  rw[<-hH]
  rintro _ s2 ⟨rfl,cR⟩
  have gT:=an.trans (cR.weaken an.next)
  have dD:=eK.keeps cR
  have p0:aJ av s2 3 (.pointer (some ⟨s.next,0,some 6⟩))=some (.int .i64 k):=dD.load bu (off:=0) (c:=6) rfl (by simp)
  have p1:aJ av s2 2 (.pointer (some ⟨s.next,1,some 6⟩))=some (.int .i64 n):=dD.load acb (off:=1) (c:=6) rfl (by simp)
  have p2:aJ av s2 22 (.pointer (some ⟨s.next,2,some 6⟩))=some bv:=dD.load fU (off:=2) (c:=6) rfl (by simp)
  have p3:aJ av s2 23 (.pointer (some ⟨s.next,3,some 6⟩))=some lv:=dD.load Ww (off:=3) (c:=6) rfl (by simp)
  have p4:aJ av s2 24 (.pointer (some ⟨s.next,4,some 6⟩))=some dv:=dD.load aaj (off:=4) (c:=6) rfl (by simp)
  have la2:=ax.bF (P:=av) (cs:=[.int .i64 k,.int .i64 n,bv,lv,dv]) Hv iL dD (c:=6) rfl
  have eb:=(hb.keeps gT)
  have eL:=hL.bm (P:=av) bn (s2:=s2)
  have eD:=hD.bm (P:=av) bk (s2:=s2)
  have eB:=eb.bm (P:=av) aE (s2:=s2)
  have uV:∀(f:aW) (s6:aq),ar s.next s s6->f.n=143->f.get 4= .bool true->YR av Tryz.f30.results.toList QQ .ret f s6:=by
    intro f s6 hs hn h4
    simp only[aj,al,oneOf,ao,↓af,hn,h4,Tryz.results30]
    rw[Wt]
    exact⟨rfl,hs⟩
  cases hto with
  |none=>
   simp only[aj,ak,aa,ao,ab,↓af,undef,hn,F2,of1,of2,of3,of4,p0,p1,p2,p3,p4,eL,eD,eB,hH,bo,or_self,aR,bg,bl]
   exact uV _ _ gT (by simp only[ag,hn]) (by simp only[ad,↓af])
  |int _ _ a1 a2=>
   simp only[aj,ak,aa,ao,ab,↓af,undef,hn,F2,of1,of2,of3,of4,p0,p1,p2,p3,p4,eL,eD,eB,hH,b4 a1,b4 a2,bo,or_self,aR,bg,bl]
   exact uV _ _ gT (by simp only[ag,hn]) (by simp only[ad,↓af])
  |name _ _ a1=>
   have cB:(0:b8)<((b.length:cd):b8):=by have:=cf.2 a1.2.1;omega
   simp only[aj,ak,aa,ao,ab,↓af,undef,hn,F2,of1,of2,of3,of4,p0,p1,p2,p3,p4,eL,eD,eB,hH,b4 cB,bo,or_self,aR,bg,bl]
   refine(VE s2 bv b eb a1).mono ?_
   rintro _ _ ⟨rfl,rfl⟩
   simp only[aj,ao,↓af,hn]
   exact uV _ _ gT (by simp only[ag,hn]) (by simp only[ad,↓af])
  |arr _ _ a1 a2 a3 a4 a5 a8=>
   have cL:(0:b8)<((l.length:cd):b8):=by have:=cf.2 a3;omega
   simp only[aj,ak,aa,ao,ab,↓af,undef,hn,F2,of1,of2,of3,of4,p0,p1,p2,p3,p4,eL,eD,eB,hH,b4 cL,bo,or_self,aR,bg,bl]
   refine Comes.eZ (fun z f s6=>∃i:cd,z=l.length-i/\i<=l.length/\ax s6 s.next [.int .i64 6,.int .i64 0,bv,lv,dv]/\ar s.next s s6/\f.n=143/\f.get 1= .int .i64 p/\f.get 2= .pointer (some ⟨s.next,0,some 6⟩)/\f.get 6= .int .i64 (i:cd))
     ⟨0,rfl,by omega,dD,gT,by simp only[ad,ag,↓af,ab,hn,h1,cv];rfl⟩ ?_
   clear hn h0 h1 f p0 p1 p2 p3 p4 la la2 eL eD eB
   rintro z f s6 ⟨i,rfl,hi,ht,hs,hn,h1,h2,h6⟩
   have hL6:=hL.keeps hs
   have l6:aJ av s6 23 (.pointer (some ⟨s.next,3,some 6⟩))=some lv:=ht.load Ww (off:=3) (c:=6) rfl (by simp)
   by_cases bd:i<l.length
   rotate_left
   ·obtain rfl:i=l.length:=by omega
    have d1:¬((l.length:cd):b8)<((l.length:cd):b8):=by omega
    simp only[aj,aa,ao,ab,↓af,hn,h1,h2,h6,of3,l6,hL6.bm bn,bb d1,b4 a1]
    exact uV _ _ hs (by simp only[ag,hn]) (by simp only[ad,↓af])
   have d1:(i:b8)<(l.length:b8):=by omega
   have As:=hL6.indexAddr (P:=av) (k:= .i64) (x:=(i:b8)) bn iL (by omega) (by omega)
   rw[bC] at As
   have fz:=hL6.fJ (P:=av) Hv iL bd
   have hoi:=(rl.row i bd).keeps hs
   have UF:=hL6.lB (P:=av) bu bd (j:=0) (by omega)
   rw[cc,Lh hoi] at UF
   have Nn:=efO hL6 bd
   have k8:=a5 _ (a0 bd)
   have Jn:=a8 _ (a0 bd)
   have kp:¬p<1:=by omega
   simp (disch:=omega) only[aj,ak,aa,ao,ab,↓af,hn,h1,h2,h6,of3,l6,hL6.bm bn,b4 d1,As,Nn,UF,fz,bb k8,bb kp,aD]
   refine(ih l[i] (by have:=O.Ws (k:=6) (n:=0) (b:=[]) (l:=l) (d:=[]) (a0 bd);omega) F s6 _ (p-1) hoi Jn).mono ?_
   rintro _ s7 ⟨rfl,hs7⟩
   simp (disch:=omega) only[aj,ak,ao,ab,↓af,hn,h6,aD]
   exact ay (l.length-(i+1)) (by omega) ⟨i+1,rfl,by omega,ht.keeps hs7,hs.trans (hs7.weaken hs.next),by simp only[ag,hn],by simp only[ad,↓af,ab,h1],by simp only[ad,↓af,ab,h2],by simp only[ad,↓af];rfl⟩
  |xO _ _ _ _ a1 a2 a3 a4 a5 a6 a8 a7=>
   have abF:=fun s' r (hr:dy F s' r (.mk k 0 b [] d))=>abt F s' k p b d r hr a2 a3 a4 a5 a6 a7 (fun e he yB r' NQ=>ih e.2 (by have:=O.aah (k:=k) (n:=0) (b:=b) (l:=[]) (d:=d) he;omega) F yB r' (p-1) NQ (a8 e he))
   have hoo:=ho.keeps gT
   rcases a1 with ⟨rfl,rfl⟩|rfl
   ·by_cases cD:(0:b8)<((d.length:cd):b8)<;>(
       simp only[aj,ak,aa,ao,ab,↓af,undef,hn,h1,F2,of1,of2,of3,of4,p0,p1,p2,p3,p4,la2,eL,eD,eB,hH,cD,bo,true_or,aR,bg,bl]
       refine(abF s2 _ hoo).mono ?_
       rintro _ s7 ⟨rfl,hs7⟩
       simp only[aj,ao,↓af,hn]
       exact uV _ _ (gT.trans (hs7.weaken gT.next)) (by simp only[ag,hn]) (by simp only[ad,↓af]))
   ·by_cases cD:(0:b8)<((d.length:cd):b8)<;>by_cases cB:(0:b8)<((b.length:cd):b8)<;>(
       simp only[aj,ak,aa,ao,ab,↓af,undef,hn,h1,F2,of1,of2,of3,of4,p0,p1,p2,p3,p4,la2,eL,eD,eB,hH,cD,cB,bo,or_true,aR,bg,bl]
       refine(abF s2 _ hoo).mono ?_
       rintro _ s7 ⟨rfl,hs7⟩
       simp only[aj,ao,↓af,hn]
       exact uV _ _ (gT.trans (hs7.weaken gT.next)) (by simp only[ag,hn]) (by simp only[ad,↓af]))
theorem aag {o:O}(ht:fS 28 o)(F:cd->Prop)(s:aq)(cs:b7 bz)(ho:dy F s cs o):
    Runs av df 10 [.agg cs.toArray] s (Yes s):=by
  have jS:=ho.len
  refine Runs.enter 5 Tryz.func10 rfl rfl rfl rfl ?_
  intro f hn hf
  have h0:f.get 0= .agg cs.toArray:=hf 0
  clear hf
  simp only[aj,ao,↓af,hn,h0]
  refine aw ?_
  intro s1 eK an Li
  have la:aJ av s1 26 (.pointer (some ⟨s.next,0,some (cs.length+1)⟩))=some (.agg cs.toArray):=ax.bF (P:=av) Hv (by rw[jS];exact iL) eK rfl
  simp only[aj,ak,aa,ao,ab,↓af,hn,la]
  refine(acT _ o (cx _) F s1 cs 28 (ho.keeps an) ht).mono ?_
  rintro v s2 ⟨h,cR⟩
  simp only[aj,al,oneOf,ao,↓af,hn,Tryz.results10]
  exact⟨h,an.trans (cR.weaken an.next)⟩
end Go.Proofs.YtdfjfncifneocaaGreat
