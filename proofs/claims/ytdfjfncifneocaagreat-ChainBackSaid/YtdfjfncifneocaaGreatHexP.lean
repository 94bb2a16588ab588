/-
 The clean machine, part 19: functions that the model stands in for: what the machine does there is what the model does.
-/
import Derived.Test.YtdfjfncifneocaaGreatPrimD
import Derived.Laws.AppendOwn
open _root_ renaming UInt8->ab,List->af,reduceIte->an,Nat->a5,Int->bb,if_pos->b5,if_neg->b7,eq_false->cz,if_false->dD,Array->dT,if_true->ec,and_self->ed,Bool->eg,absurd->ek,eq_true->en,true_and->eu,Option->eB
open List renaming length_append->ao,getD_eq_getElem?_getD->a4,replicate->a7,length_drop->a8,mem_append->bl,length_pos_iff->bo,mem_singleton->bq,length_take->bs,length_cons->bz,eq_nil_of_length_eq_zero->b4,takeWhile_cons->b8,getElem?_eq_getElem->cb,mem_cons_of_mem->cp,length_nil->cv,mem_cons_self->cA,getElem?_append_right->c4,drop_eq_getElem_cons->c5,take_length->c6,append_nil->c9,nil_append->ds,length_replicate->dt,dropLast_eq_take->dv,length_singleton->dC,mem_append_left->dE,flatten_append->dH,mem_cons->dO,flatten_cons->dU,flatten_nil->dY,take_take->ee,getD->eh,length->ew
open Go.Proofs.Tryz renaming underlying22->av,prog->a0,underlying137->a6,results135->dc
open Nat renaming le_refl->a9,mod_eq_of_lt->cm,pos_of_ne_zero->cx,min_eq_left->eb,lt_or_ge->eo,sub_self->ep,ble_eq->eA
open UInt8 renaming ofNat->bg,toNat_ofNat'->cB
open Go renaming Value->bk,Program->cf,TypeId->dX,FuncId->ey,World->eE
open Int renaming ofNat->cd,toNat_natCast->cg,natCast_zero->ea
open Go.IntKind renaming u8->c7,u32->ev
open BitVec renaming ofInt->c8
open Nat renaming reduceLT->QS,reduceEqDiff->Qx
set_option maxHeartbeats 4000000
set_option linter.unusedSimpArgs false
set_option linter.unusedVariables false
set_option maxRecDepth 100000
namespace Go.Cl
open Go.RowKit
def ab5 (P:cf)(g:ey)(e:dT bk->Sem bk):Prop:=
 ∃fn,P.funcs[g]?=some fn/\(fn.name== "runtime.NumGoroutine")=false/\fn.body.isNone=true/\Extern.findNext fn=none/\Extern.find fn=some e
def zl (P:cf)(e:dT bk->Sem bk)(p:Prim):Prop:=
 ∀(base:a5) (S:St) (args:af bk) (v:bk) (s' :aq),SR base S->p args S.s=some (v,s')->∀args' :dT bk,eR S args args'.toList->
  ∃T v',(e args').run P S.w= .ok v' T.w/\T.s=s' /\VR T v v' /\Good base S T
theorem zl.ok {P:cf}{g:ey}{e:dT bk->Sem bk}{p:Prim}(Pre:a5->eE->Prop)(he:ab5 P g e)(hf:yQ p)(h:zl P e p):IG P Pre g p:=by
 intro base S s args v s' mw hs _ hp args' Np
 obtain⟨t',k1,k2,_⟩:=hf s S.s _ args v s' mw (mw.wf hs.wf) hp
 obtain⟨T,v',h1,h2,h3,h4⟩:=h base S args v t' hs k1 args' Np
 obtain⟨fn,e1,e2,e3,e4,e5⟩:=he
 refine .inr ⟨T,v',?_,by rw[h2];exact k2,h3,h4⟩
 rw[run_callFunc_extern e1 e2 e3 e4 e5,h1]
 rfl
theorem eR.NG {S:St}{a:bk}{args:dT bk}(h:eR S [a] args.toList):∃a',args= #[a']/\VR S a a' :=by
 obtain⟨a',r,e,h1,h2⟩:=h.cons_inv
 rw[h2.jK] at e
 exact⟨a',by rw[<-Array.toList_inj,e],h1⟩
theorem eR.adf {S:St}{a b:bk}{args:dT bk}(h:eR S [a,b] args.toList):∃a' b',args= #[a',b']/\VR S a a' /\VR S b b' :=by
 obtain⟨a',r,e,h1,h2⟩:=h.cons_inv
 obtain⟨b',r2,e2,h3,h4⟩:=h2.cons_inv
 rw[h4.jK] at e2
 rw[e2] at e
 exact⟨a',b',by rw[<-Array.toList_inj,e],h1,h3⟩
theorem AD:∀(n t:a5) (acc:dT bk),(∀i,i<acc.size->∃m,acc.toList.getD i undef= .int .u8 m)->
  (Extern.BytealgMakeNoZero.digits n t acc).size=acc.size+n/\∀i,i<acc.size+n->∃m,(Extern.BytealgMakeNoZero.digits n t acc).toList.getD i undef= .int .u8 m
 |0,_,acc,h=>⟨rfl,h⟩
 |n+1,t,acc,h=>by
  have:=AD n (t/256) (acc.push (.int .u8 (cd (t%256)))) (fun i hi=>by
   by_cases hia:i<acc.size
   ·obtain⟨m,hm⟩:=h i hia
    refine⟨m,?_⟩
    rw[Array.toList_push,eH _ _ _ (by simpa using hia)];exact hm
   ·have e:i=acc.size:=by simp at hi;omega
    refine⟨cd (t%256),?_⟩
    rw[Array.toList_push,kB _ _ _ (by simp;omega),e]
    simp)
  rw[Extern.BytealgMakeNoZero.digits]
  refine⟨by rw[this.1];simp;omega,fun i hi=>this.2 i (by simp;omega)⟩
theorem DE (n i:a5)(v:bk)(h:i<n):(a7 n v).getD i undef=v:=by
 simp[a4,h]
theorem vR:yQ oU:=by
 intro s s' X args v t h hw hp
 unfold oU at hp|-
 split at hp
 ·split at hp
  ·rename_i hc
   rw[b5 hc]
   exact iz h hw hp
  ·cases hp
 ·cases hp
theorem Oz {P:cf}{ps:dT dX}{t e:dX}(ht:P.underlying t=some (.slice e)):zl P (Extern.BytealgMakeNoZero.makeNoZero ps #[t]) oU:=by
 intro base S args v s' hs hp args' Np
 unfold oU at hp
 split at hp
 case h_2=>cases hp
 rename_i n
 split at hp
 case isFalse=>cases hp
 rename_i hc
 simp only[eA] at hc
 obtain⟨a',rfl,ha⟩:=Np.NG
 cases ha
 have adS:Extern.BytealgMakeNoZero.makeNoZero ps #[t] #[.int .i64 (cd n)]=
   (do
    let .slice elem<-underlying t|stuck "bytealg.MakeNoZero: slice type expected"
    if(cd n)<0||(cd n)>2^48 then runtimePanic (.error "makeslice: len out of range")
    let cap<-choose (.appendCap (cd n).toNat 0 elem)
    askRoom cap
    let bytes<-choose (.extern "internal/bytealg.MakeNoZero.bytes" 0)
    let a<-newRow elem (Extern.BytealgMakeNoZero.digits cap bytes #[])
    pure (.slice (some a) (cd n).toNat cap)):=rfl
 obtain⟨oo,sQ⟩:∃b:a5,b=(Question.extern "internal/bytealg.MakeNoZero.bytes" 0).cut (S.w.tape (S.w.drawn+1) (.extern "internal/bytealg.MakeNoZero.bytes" 0)):=⟨_,rfl⟩
 obtain⟨d1,d2⟩:=AD (grownCap S.w n 0 e) oo #[] (fun i hi=>by simp at hi)
 have Ku:=grownCap_ge S.w n 0 e
 have Iz:∀(W:eE) (k:a5),(askRoom k).run P W= .ok () W:=fun W k=>by
  unfold askRoom
  split
  ·rfl
  ·rfl
 have gp:(Extern.BytealgMakeNoZero.makeNoZero ps #[t] #[.int .i64 (cd n)]).run P S.w= .ok (.slice (some ⟨S.w.heap.size,0,none⟩) n (grownCap S.w n 0 e)) (S.w.drew.drew.alloc (.cells (Extern.BytealgMakeNoZero.digits (grownCap S.w n 0 e) oo #[]) e)):=by
  rw[adS,sQ]
  have h1:¬(n:bb)<0:=by omega
  have h2:¬(281474976710656:bb)<(n:bb):=by omega
  simp[run_underlying ht,h1,h2,Question.forced,newRow,grownCap,Iz]
 obtain⟨T,k1,k2,k3,k4⟩:=sL hs hp (Extern.BytealgMakeNoZero.digits (grownCap S.w n 0 e) oo #[]) e (0,0) (S.w.drew.drew.alloc (.cells (Extern.BytealgMakeNoZero.digits (grownCap S.w n 0 e) oo #[]) e)) (grownCap S.w n 0 e) ⟨rfl,rfl,rfl,rfl⟩ (.inl rfl)
  (by rw[dt,d1];simp;omega) (fun p hp=>by
   rw[dt] at hp
   obtain⟨m,hm⟩:=d2 p (by simp;omega)
   rw[DE _ _ _ hp,hm]
   exact .unk m) (by omega) (by rw[d1];simp)
 exact⟨T,_,by rw[k2];exact gp,k1,k3,k4⟩
theorem vS:yQ iX:=by
 intro s s' X args v t h hw hp
 unfold iX at hp|-
 split at hp
 ·injection hp with hp;injection hp with e1 e2;subst e1;subst e2;exact⟨_,rfl,h,bW.refl hw⟩
 ·cases hp
theorem OA {P:cf}:zl P Extern.BytealgCompare.compare iX:=by
 intro base S args v s' hs hp args' Np
 unfold iX at hp
 split at hp
 ·injection hp with hp;injection hp with e1 e2;subst e1;subst e2
  obtain⟨a',b',rfl,ha,hb⟩:=Np.adf
  cases ha;cases hb
  refine⟨S,_,?_,rfl,.int _ _,Good.refl hs⟩
  rename_i a b
  have adS:Extern.BytealgCompare.compare #[.string a,.string b]=(do pure (goInt (Extern.BytealgCompare.cmp (<-Extern.Bytes.bytesOf (.string a)) (<-Extern.Bytes.bytesOf (.string b))))):=rfl
  rw[adS]
  simp[Extern.Bytes.bytesOf,goInt]
 ·cases hp
theorem lZ.cons {g:a5}{p:Prim}{l:aA}(h:yQ p)(k:lZ l):lZ ((g,p)::l):=by
 intro q r hq
 simp only[aA.at] at hq
 split at hq
 ·obtain rfl:=Option.some.inj hq;exact h
 ·exact k q r hq
theorem pV.cons {P:cf}{Pre:a5->eE->Prop}{g:a5}{p:Prim}{l:aA}(h:IG P Pre g p)(k:pV P Pre l):pV P Pre ((g,p)::l):=by
 intro q r hq
 simp only[aA.at] at hq
 split at hq
 ·rename_i hc
  obtain rfl:=Option.some.inj hq
  obtain rfl:g=q:=Nat.eq_of_beq_eq_true hc
  exact h
 ·exact k q r hq
end Go.Cl
namespace Go.Cl
open Go.RowKit Go.ChangeShapes Go.WideShapes
variable {P:cf}
theorem Runs.adT {lib:aA}(hf:lZ lib)(ho:pV P (fun _ _=>True) lib)(hp:BP P lib=true){g:ey}(hg:lib.at g=none){args:af bk}{S:St}{W:eE}(hB:nN W S)(hr:Runs P lib g args S.s fun v _=>v= .bool true){args' :dT bk}(hv:eR S args args'.toList):
  Calls P g args' W fun e w' =>e= .returned (.bool true)/\Below W.heap.size W w' :=by
 obtain⟨v,s',⟨n,hn⟩,_,rfl⟩:=hr hB.sr.wf
 have hc:=IL (Pre:=fun _ _=>True) (fun _ _ _ _ h=>h) hf ho hp n (g:=g) hg W.heap.size S S.s args _ s' (il.refl _) hB.sr trivial (hn n (a9 _)) args' hv
 rw[hB.w] at hc
 refine Calls.mono hc ?_
 rintro e w' ⟨T,v',_,rfl,rfl,hv,hg⟩
 cases hv
 refine⟨rfl,?_⟩
 have:=hg.below
 rw[hB.w] at this
 exact this
end Go.Cl
namespace Go.Proofs.YtdfjfncifneocaaGreat
open Go.Cl
theorem ab6 {g:ey}{fn:Func}{e:dT bk->Sem bk}(h:a0.funcs[g]?=some fn)(h1:(fn.name== "runtime.NumGoroutine")=false:=by kernel_rfl)(h2:fn.body.isNone=true:=by kernel_rfl)(h3:Extern.findNext fn=none:=by kernel_rfl)(h4:Extern.find fn=some e:=by kernel_rfl):ab5 a0 g e:=⟨fn,h,h1,h2,h3,h4⟩
noncomputable abbrev df:aA:=
 (175,oU)::
 (224,iX)::
 []
theorem ab7:lZ df:=
 lZ.cons vR<|
 lZ.cons vS<|
 lZ.nil
theorem ahx (Pre:a5->eE->Prop):pV a0 Pre df:=
 pV.cons (zl.ok _ (ab6 Tryz.func175) (vR) (Oz (ps:= #[3]) (t:=22) (e:=5) av))<|
 pV.cons (zl.ok _ (ab6 Tryz.func224) (vS) (OA))<|
 pV.nil _ _
end Go.Proofs.YtdfjfncifneocaaGreat

namespace Go.Cl
structure kM (s:aq) (vs:af bk) (L:af (af ab)):Prop where
 len:vs.length=L.length
 aG:∀k (h:k<L.length),aN s 1 (vs.getD k undef) (L[k]).length (ofBytes L[k])
theorem kM.nil (s:aq):kM s [] []:=⟨rfl,fun k h=>ek h (Nat.not_lt_zero k)⟩
theorem kM.cons {s:aq}{v:bk}{a:af ab}{vs:af bk}{L:af (af ab)}(h:aN s 1 v a.length (ofBytes a))(k:kM s vs L):kM s (v::vs) (a::L):=by
 refine⟨by simp[k.len],fun j hj=> ?_⟩
 cases j with
 |zero=>exact h
 |succ j=>exact k.aG j (by simpa using hj)
theorem kM.keeps {s s' :aq}{vs:af bk}{L:af (af ab)}(h:kM s vs L)(k:ar s.next s s'):kM s' vs L:=⟨h.len,fun j hj=>(h.aG j hj).keeps k⟩
def We (s:aq)(l:af ab)(v:bk)(s' :aq):Prop:=aN s' 1 v l.length (ofBytes l)/\(0<l.length->Own s' 1 v l.length (ofBytes l))/\aF s.next v/\ar s.next s s'
theorem rh {L:af (af ab)}{i:a5}(h:i<L.length):(L.take (i+1)).flatten=(L.take i).flatten++L[i]:=by
 rw[List.take_add_one,cb h,dH]
 simp only[Option.toList_some,dU,dY,c9]
theorem mG (L:af (af ab))(i:a5):(L.take i).flatten.length<=L.flatten.length:=by
 have:L.flatten=(L.take i).flatten++(L.drop i).flatten:=by rw[<-dH,List.take_append_drop]
 rw[this,ao];omega
end Go.Cl
namespace Go.Proofs.YtdfjfncifneocaaGreat
open Go.Cl
theorem OB {lib:aA}(h:lib.at 175=some oU)(s:aq)(n:a5)(hn:n<=4294967296):
  Runs a0 lib 175 [.int .i64 (n:a5)] s fun v s' =>Own s' 1 v n (a7 n (.chan none))/\aF s.next v/\ar s.next s s' :=by
 obtain⟨h1,h2⟩:=Own.new (s:=s) (cs:=a7 n (.chan none)) (n:=n) (z:=1) (by simp)
 refine Runs.Z8 h vR (s' :=s.new (.dZ ⟨a7 n (.chan none),1,true,1⟩)) ?_ ⟨h2,fun i hi=>by injection hi with hi;subst hi;exact a9 _,ar.new s _⟩
 show(if Nat.ble n 4294967296 then aZ s (a7 n (.chan none)) n 1 else none)=_
 rw[b5 (by rw[eA];exact hn),h1]
theorem Wf {lib:aA}(hl:lib.at 135=none)(hz:lib.at 175=some oU)(s:aq)(x:bk)(vs:af bk)(L:af (af ab))(hx:aN s 1 x L.length vs)(hp:kM s vs L)(J1:L.length<=4294967296)(hlen:L.flatten.length<=4294967296):
  Runs a0 lib 135 [x,.slice none 0 0] s (We s L.flatten):=by
 refine Runs.enter 92 Tryz.func135 rfl hl rfl rfl ?_
 intro f hn hf
 have h0:f.get 0=x:=hf 0
 have h1:f.get 1= .slice none 0 0:=hf 1
 clear hf
 by_cases c0:L.length=0
 ·obtain rfl:L=[]:=b4 c0
  have e:aO a0 s 22 0 []=aZ s [] 0 1:=by unfold aO;rw[av];simp only[bK,ks];rfl
  simp only[aj,aa,ae,QS,Qx,↓an,hn,h0,hx.bm a6,cv,ea,e]
  refine aQ (by rfl) ?_
  intro v s1 hv hF aE
  simp only[aj,al,oneOf,QS,↓an,hn,dc]
  exact⟨hv.aG,fun _=>hv,hF,aE⟩
 have d0:¬((L.length:a5):bb)=0:=by omega
 have Qw:=hx.indexAddr (P:=a0) (k:= .i64) (x:=(0:bb)) a6 fT (by omega) (by omega)
 have kW:=hx.di (P:=a0) fU (k:=0) (by omega)
 have hp0:=hp.aG 0 (cx c0)
 rw[show(0:bb).toNat=0 from rfl] at Qw
 by_cases c1:L.length=1
 ·have d1:((L.length:a5):bb)=1:=by omega
  obtain⟨a,rfl⟩:∃a,L=[a]:=by
   match L,c1 with
   |[a],_=>exact⟨a,rfl⟩
  have hp0:aN s 1 (vs.getD 0 undef) a.length (ofBytes a):=hp0
  have eU:a.length<=4294967296:=by simpa using hlen
  simp only[aj,aa,QS,Qx,↓an,hn,h0,hx.bm a6,cz d0,en d1,Qw,kW]
  refine bY av av (.inl ⟨_,rfl⟩) bK jW ks rfl (.nil) hp0.src (by simp[bM]) (by decide) (dh _) (by omega) (by omega) (base:=s.next) (aF.nil _) (a9 _) ?_
  intro v s1 hv hF aE _ _
  simp only[aj,al,oneOf,QS,↓an,hn,dc]
  rw[Nat.zero_add] at hv
  simp only[We,dU,dY,c9]
  exact⟨hv.aG,fun _=>hv,hF,aE⟩
 have d1:¬((L.length:a5):bb)=1:=by omega
 have d2:¬(0:bb)<0:=by omega
 simp only[aj,aa,QS,Qx,↓an,hn,h0,h1,hx.bm a6,cz d0,cz d1,(aN.nil (s:=s) (z:=1)).bm av,ea,cz d2]
 refine Comes.bQ (fun z f s1=>∃i:a5,z=L.length-i/\i<=L.length/\s1=s/\f.n=92/\f.get 0=x/\f.get 1= .slice none 0 0/\f.get 5= .int .i64 ((L.take i).flatten.length:a5)/\f.get 42=x/\f.get 43= .int .i64 (L.length:a5)/\f.get 44= .int .i64 (i:a5))
  (fun z f s1=>z= .exit 0/\s1=s/\f.n=92/\f.get 0=x/\f.get 1= .slice none 0 0/\f.get 5= .int .i64 (L.flatten.length:a5))
  ⟨0,rfl,by omega,rfl,by simp only[ag,hn],by simp only[ad,↓an,Qx,h0],by simp only[ad,↓an,Qx,h1],by simp only[ad,↓an,Qx];rfl,by simp only[ad,↓an,Qx,eu];rfl⟩ ?_ ?_
 ·clear hn h0 h1 f
  rintro Q hQ z f s1 ⟨i,rfl,hi,rfl,hn,h0,h1,h5,h42,h43,BA⟩
  by_cases bd:i<L.length
  ·have e1:(i:bb)<(L.length:bb):=by omega
   have hii:=hx.indexAddr (P:=a0) (k:= .i64) (x:=(i:bb)) a6 fT (by omega) (by omega)
   rw[cg] at hii
   have Nr:=hx.di (P:=a0) fU bd
   have Qb:=hp.aG i bd
   have J8:=rh bd
   have OC:=mG L (i+1)
   rw[J8,ao] at OC
   have e2:¬(9223372036854775807:bb)-((L.take i).flatten.length:bb)<((L[i]).length:bb):=by omega
   simp(disch:=omega)only[aj,aa,QS,Qx,↓an,hn,h5,h42,h43,BA,en e1,hii,Nr,Qb.bm av,aD,cz e2]
   refine ay (L.length-(i+1)) (by omega) ⟨i+1,rfl,by omega,rfl,by simp only[ag,hn],by simp only[ad,↓an,Qx,h0],by simp only[ad,↓an,Qx,h1],?_,by simp only[ad,↓an,Qx,h42,h43,eu];rfl⟩
   simp only[ad,↓an,Qx]
   rw[J8,ao];rfl
  ·obtain rfl:i=L.length:=by omega
   have e1:¬((L.length:a5):bb)<((L.length:a5):bb):=by omega
   rw[c6] at h5
   simp only[aj,QS,↓an,hn,h43,BA,cz e1]
   refine hQ _ _ _ ⟨rfl,rfl,by simp only[ad,ag,↓an,Qx,hn,h0,h1,h5,ed]⟩
 clear hn h0 h1 f
 rintro _ f s1 ⟨rfl,kC,hn,h0,h1,h5⟩
 rw[kC];clear kC s1
 obtain⟨N,hN⟩:∃N,N=L.flatten.length:=⟨_,rfl⟩
 rw[<-hN] at h5 hlen
 simp only[aj,ak,aa,QS,↓an,hn,h5]
 refine(OB hz s N hlen).mono ?_
 rintro b0 s1 ⟨sG,hF0,bn⟩
 obtain⟨b,gL,hb,_,Nu⟩:=sG.tight (P:=a0) (k:= .i64) (k2:= .i64) av bK
 have Oo:aF s.next b:=fun j hj=>hF0 j (Nu j hj)
 have hP1:=hp.keeps bn
 have nk:=hx.keeps bn
 have jn:=nk.di (P:=a0) fU (k:=0) (by omega)
 have qJ:=hP1.aG 0 (cx c0)
 simp only[aj,aa,ai,QS,Qx,↓an,hn,h0,h5,gL,Qw,jn]
 refine FU av bK hb qJ (dh _) ?_
 intro s2 dI alX m8
 have ahy:(L.take 1).flatten.length<=L.flatten.length:=mG L 1
 have Z9:(L.take 1).flatten=L[0]:=by
  have:=rh (L:=L) (i:=0) (cx c0)
  simpa using this
 rw[Z9] at ahy
 have hm:min (L[0]).length N=(L[0]).length:=by omega
 rw[hm,qS,c6] at dI
 have ri:Room s2 b N (ofBytes (L.take 1).flatten++(a7 N (Value.chan none)).drop (L[0]).length):=by
  rw[Z9]
  have:=Lt (a:=[]) (b:=ofBytes L[0]) (c:=a7 N (Value.chan none)) (off:=0) rfl
  rw[ds,ds,bM] at this
  rw[<-this];exact dI
 have aR:ar s.next s s2:=bn.trans (alX.keeps Oo bn.next)
 clear dI hb sG gL
 obtain⟨rest,oV⟩:∃r,r=(a7 N (Value.chan none)).drop (L[0]).length:=⟨_,rfl⟩
 rw[<-oV] at ri
 have ko:=hx.keeps aR
 have dx:=ko.cut (lo:=1) (hi:=L.length) (by omega) (a9 _)
 rw[hm]
 simp(disch:=omega)only[aj,aa,ai,QS,Qx,↓an,hn,h0,ko.ff a6 fT,show(1:bb).toNat=1 from rfl,dx.bm a6]
 refine Comes.eZ (fun z f s3=>∃(i:a5) (rest:af bk),z=L.length-1-i/\i<=L.length-1/\Room s3 b N (ofBytes (L.take (i+1)).flatten++rest)/\ar s.next s s3/\s2.next<=s3.next/\f.n=92/\f.get 1= .slice none 0 0/\f.get 8=b/\f.get 9= .int .i64 ((L.take (i+1)).flatten.length:a5)/\f.get 70=dJ 1 x 1 L.length/\f.get 71= .int .i64 ((L.length-1:a5):bb)/\f.get 72= .int .i64 (i:a5))
  ⟨0,rest,rfl,by omega,ri,aR,a9 _,by simp only[ag,hn],by simp only[ad,↓an,Qx,h1],by simp only[ad,↓an,Qx],by simp only[ad,↓an,Qx];rw[Z9],by simp only[ad,↓an,Qx,eu];rfl⟩ ?_
 clear hn h0 h1 h5 ri aR oV rest ahy Z9 hm f
 rintro z f s3 ⟨i,rest,rfl,hi,sx,bC,mQ,hn,h1,h8,h9,h70,h71,h72⟩
 have hx3:=(hx.keeps bC).cut (lo:=1) (hi:=L.length) (by omega) (a9 _)
 by_cases bd:i<L.length-1
 ·have e1:(i:bb)<((L.length-1:a5):bb):=by omega
  have UX:i+1<L.length:=by omega
  have hii:=hx3.indexAddr (P:=a0) (k:= .i64) (x:=(i:bb)) a6 fT (by omega) (by omega)
  rw[cg] at hii
  have Nr:=hx3.di (P:=a0) fU bd
  have Ku:(((vs.drop (1*1)).take ((L.length-1)*1))).getD i undef=vs.getD (i+1) undef:=by
   simp only[a4]
   rw[List.getElem?_take_of_lt (by omega),List.getElem?_drop,show 1*1+i=i+1 by omega]
  rw[Ku] at Nr
  have Qb:=(hp.keeps bC).aG (i+1) UX
  have J8:=rh UX
  have OC:=mG L (i+1+1)
  rw[J8,ao,<-hN] at OC
  obtain⟨q,hq⟩:∃q,q=(L.take (i+1)).flatten:=⟨_,rfl⟩
  rw[<-hq] at sx h9 J8 OC
  have kC:=sx.slice (P:=a0) (k:= .i64) (x:=((q.length:a5):bb)) av bK (by omega) (by omega)
  rw[cg] at kC
  have sk:∃a n c,dJ 1 b q.length N= .slice a n c:=by unfold dJ;split<;>exact⟨_,_,_,rfl⟩
  obtain⟨ca,cn,cc,wR⟩:=sk
  have S5:mN a0 s3 22 (dJ 1 b q.length N) (.slice none 0 0)=some (.int .i64 0,s3):=by rw[wR];exact S3 av bK _ _ _ _
  simp(disch:=omega)only[aj,aa,ai,QS,Qx,↓an,hn,h1,h8,h9,h70,h71,h72,en e1,hii,Nr,kC,S5,aD,Int.add_zero]
  refine DD av bK sx (by omega) Qb (dh _) ?_
  intro s4 R7 alZ sl
  have hm:min (L[i+1]).length (N-q.length)=(L[i+1]).length:=by omega
  rw[hm,qS,c6,Lt (by rw[bM]),<-br,<-J8,bM] at R7
  rw[hm]
  simp(disch:=omega)only[aj,QS,Qx,↓an,hn,h72,aD]
  refine ay (L.length-1-(i+1)) (by omega) ⟨i+1,_,rfl,by omega,R7,bC.trans (alZ.keeps Oo bC.next),by omega,by simp only[ag,hn],by simp only[ad,↓an,Qx,h1],by simp only[ad,↓an,Qx,h8],?_,by simp only[ad,↓an,Qx,h70],by simp only[ad,↓an,Qx,h71],by simp only[ad,↓an];rfl⟩
  simp only[ad,↓an,Qx]
  rw[J8,ao];rfl
 ·obtain rfl:i=L.length-1:=by omega
  have e1:¬((L.length-1:a5):bb)<((L.length-1:a5):bb):=by omega
  simp only[aj,QS,Qx,↓an,hn,h8,h71,h72,cz e1]
  simp only[aj,al,oneOf,QS,↓an,hn,dc]
  have eC:L.take (L.length-1+1)=L:=by rw[List.take_of_length_le (by omega)]
  rw[eC] at sx
  have hr:=sx.aG.length
  rw[ao,bM,<-hN,Nat.mul_one] at hr
  obtain rfl:rest=[]:=b4 (by omega)
  rw[c9,hN] at sx
  exact⟨sx.aG,fun h=>sx.own h,Oo,bC⟩
end Go.Proofs.YtdfjfncifneocaaGreat
namespace Go.Cl.Fx
open Go.Cl.Rw Go.Cl.Sto
def kh (l:af ab):af ab:=if(uB l).length<=(fixed l).length then uB l else fixed l
def DF (l:af ab):af ab:=[120,1]++(kh l++be 4 (Bg l))
theorem Lv (l:af ab):(kh l).length<=(uB l).length:=by
 unfold kh
 split
 ·exact a9 _
 ·omega
theorem Own.zm {s:aq}{z:a5}{v:bk}{n:a5}{l:af bk}(h:Own s z v n l):∃a n c,v= .slice a n c:=by cases h<;>exact⟨_,_,_,rfl⟩
theorem aN.zm {s:aq}{z:a5}{v:bk}{n:a5}{l:af bk}(h:aN s z v n l):∃a n c,v= .slice a n c:=by cases h<;>exact⟨_,_,_,rfl⟩
theorem al0 (P:cf)(t:dX)(k' :IntKind)(n:a5){k:a5}(h:k<32):cQ P .shr t (.int .u32 (n:bb)) (.int k' (k:a5))=some (.int .u32 ((n/2^k:a5):bb)):=by
 rw[lS P t .u32 _ _ k' (by omega)]
 have e:min ((k:a5):bb).toNat ev.bits=k:=by
  have:ev.bits=32:=rfl
  rw[this,cg];omega
 rw[e,QK]
end Go.Cl.Fx
namespace Go.Proofs.YtdfjfncifneocaaGreat
open Go.Cl Go.Cl.Rw Go.Cl.Sto Go.Cl.Fx
theorem ahz:bV a0 22=some (.slice none 0 0):=by kernel_rfl
theorem aaa (s:aq)(a b c:eB Addr)(n1 n2 n3 c1 c2 c3:a5):aO a0 s 137 3 [(0,.slice a n1 c1),(1,.slice b n2 c2),(2,.slice c n3 c3)]=aZ s [.slice a n1 c1,.slice b n2 c2,.slice c n3 c3] 3 1:=by
 unfold aO;rw[a6];simp only[fT,ahz];rfl
theorem QU (s:aq)(a:eB Addr)(n1 c1:a5):aO a0 s 137 1 [(0,.slice a n1 c1)]=aZ s [.slice a n1 c1] 1 1:=by
 unfold aO;rw[a6];simp only[fT,ahz];rfl
theorem Wg {lib:aA}(hl:lib.at 83=none)(Hl:lib.at 133=none)(nM:lib.at 171=none)(hla:lib.at 173=none)(hlg:lib.at 202=none)(E4:lib.at 172=none)(jL:lib.at 201=none)(kr:lib.at 170=none)(lV:lib.at 200=none)(hly:lib.at 138=none)(Bf:lib.at 36=none)
  (aE:lib.at 134=none) (J5:lib.at 174=none) (had:lib.at 104=none) (hmo:lib.at 151=none) (hj:lib.at 135=none) (hz:lib.at 175=some oU)
  (s:aq) (x:bk) (l:af ab) (hx:aN s 1 x l.length (ofBytes l)) (hlen:l.length<=10000000):
  Runs a0 lib 83 [x] s fun v s' =>cM s v s' (DF l):=by
 refine Runs.enter 35 Tryz.func83 rfl hl rfl rfl ?_
 intro f hn hf
 have h0:f.get 0=x:=hf 0
 clear hf
 simp only[aj,ak,aa,QS,Qx,↓an,hn,h0]
 refine(SW Hl nM hla hlg E4 jL kr lV hly Bf s x l hx hlen).mono ?_
 rintro a s1 ⟨hA,hAF,k1⟩
 simp only[aj,ak,aa,QS,Qx,↓an,hn,h0]
 refine(Oy aE J5 s1 x l (hx.keeps k1) (by omega)).mono ?_
 rintro b s2 ⟨hB,hBF,k2⟩
 have n1:=k1.next
 have n2:=k2.next
 have QA:=hA.keeps k2
 have cR:ar s.next s s2:=k1.trans (k2.weaken n1)
 have J8:=xL l
 have pE:=qX _ l (a9 _)
 have hbk:blocks l.length<=200000:=by unfold blocks;omega
 have oK:=Lv l
 simp only[aj,aa,QS,Qx,↓an,hn,QA.aG.bm av,hB.aG.bm av]
 refine Ll (fun f' s' =>s2=s' /\∃w:bk,aN s2 1 w (kh l).length (ofBytes (kh l))/\f'.n=35/\f'.get 0=x/\f'.get 3=w) ?_ ?_
 ·intro Q' V7
  by_cases c:(uB l).length<=(fixed l).length
  ·simp only[aj,QS,Qx,↓an,hn,en c]
   exact V7 _ _ ⟨rfl,b,by unfold kh;rw[b5 c];exact hB.aG,by simp only[ad,ag,↓an,Qx,hn,h0,ed]⟩
  ·simp only[aj,cz c]
   exact V7 _ _ ⟨rfl,a,by unfold kh;rw[b7 c];exact QA.aG,by simp only[ad,ag,↓an,Qx,hn,h0,ed]⟩
 clear hn h0 f
 rintro f _ ⟨rfl,w,hw,hn,h0,h3⟩
 have ko:=hx.keeps cR
 obtain⟨xa,xn,xc,YL⟩:=aN.zm ko
 simp only[aj,ae,QS,↓an,hn,h0,YL,QU]
 refine aQ rfl ?_
 intro y s3 hy kN k3
 have n3:=k3.next
 rw[<-YL] at hy
 simp only[aj,ak,aa,QS,↓an,hn]
 refine(Hm had hmo s3 y x l hy.aG (ko.keeps k3) (by omega)).mono ?_
 rintro _ s4 ⟨rfl,rfl⟩
 have Lr:=hw.keeps k3
 obtain⟨wa,wn,wc,hwe⟩:=aN.zm Lr
 have adU:∀(k:a5),k<32->cQ a0 .shr 117 (.int .u32 ((Bg l:a5):bb)) (.int .u64 (k:a5))=some (.int .u32 ((Bg l/2^k:a5):bb)):=fun k hk=>al0 a0 117 .u64 (Bg l) hk
 have r24:=adU 24 (by omega)
 have r16:=adU 16 (by omega)
 have r8:=adU 8 (by omega)
 have r24:cQ a0 .shr 117 (.int .u32 ((Bg l:a5):bb)) (.int .u64 24)=some (.int .u32 ((Bg l/16777216:a5):bb)):=r24
 have r16:cQ a0 .shr 117 (.int .u32 ((Bg l:a5):bb)) (.int .u64 16)=some (.int .u32 ((Bg l/65536:a5):bb)):=r16
 have r8:cQ a0 .shr 117 (.int .u32 ((Bg l:a5):bb)) (.int .u64 8)=some (.int .u32 ((Bg l/256:a5):bb)):=r8
 simp only[aj,ae,QS,↓an,hn,I1 av bK ks]
 refine aQ rfl ?_
 intro p1 s5 qJ arA k5
 have n5:=k5.next
 simp only[aj,ae,QS,Qx,↓an,hn,h3,r24,r16,r8,bL Tryz.underlying117 Tryz.underlying5,b0,N7 av bK ks]
 refine aQ rfl ?_
 intro p3 s6 hp3 arB k6
 have n6:=k6.next
 obtain⟨a1,b1,c1,rfl⟩:=Own.zm qJ
 obtain⟨a3,b3,c3,rfl⟩:=Own.zm hp3
 simp only[aj,ae,QS,Qx,↓an,hn,hwe,aaa]
 refine aQ rfl ?_
 intro y2 s7 wQ arC k7
 have n7:=k7.next
 rw[<-hwe] at wQ
 have k47:ar s4.next s4 s7:=(k5.trans (k6.weaken n5)).trans (k7.weaken (by omega))
 simp only[aj,ak,aa,QS,↓an,hn]
 have hP:kM s7 [.slice a1 b1 c1,w,.slice a3 b3 c3] [[120,1],kh l,be 4 (Bg l)]:=by
  refine kM.cons ?_ (kM.cons (Lr.keeps k47) (kM.cons ?_ (kM.nil _)))
  ·exact(qJ.keeps (k6.trans (k7.weaken n6))).aG
  ·rw[Z6];exact(hp3.keeps k7).aG
 have OC:[[120,1],kh l,be 4 (Bg l)].flatten=DF l:=by
  simp[DF]
 have hzz:(DF l).length=(kh l).length+6:=by unfold DF;simp[qm]
 refine(Wf hj hz s7 y2 [.slice a1 b1 c1,w,.slice a3 b3 c3] [[120,1],kh l,be 4 (Bg l)] wQ.aG hP (by show 3<=4294967296;decide) (by rw[OC,hzz];omega)).mono ?_
 rintro v s8 ⟨-,hv,J9,k8⟩
 rw[OC] at hv
 simp only[aj,al,oneOf,QS,↓an,hn,Tryz.results83]
 have hs7:ar s.next s s7:=(cR.trans (k3.weaken (by omega))).trans (k47.weaken (by omega))
 exact⟨hv (by omega),fun i hi=>by have:=J9 i hi;have:=hs7.next;omega,hs7.trans (k8.weaken hs7.next)⟩
end Go.Proofs.YtdfjfncifneocaaGreat
namespace Go.Cl
def xO (T:af (af ab×bb)):af (bk×bk):=T.map fun e=>(.string ⟨e.1.toArray⟩,.int .i64 e.2)
def me (k:af ab):af (af ab×bb)->eB bb
 |[]=>none
 |e::T=>if k=e.1 then some e.2 else me k T
theorem ud {k:af ab}:∀{T:af (af ab×bb)},me k T=none↔∀e∈T,k≠e.1
 |[]=>by simp[me]
 |e::T=>by
  simp only[me]
  by_cases h:k=e.1
  ·rw[b5 h];simp[h]
  ·rw[b7 h,ud];simp[h]
structure nT (s:aq) (r:a5) (T:af (af ab×bb)):Prop where
 lt:r<s.next
 map:s.dN r=some (xO T)
section
variable {P:cf} {t kt et:dX}
theorem Hn (hk:P.underlying kt=some .string)(a b:af ab):zM P kt (.string ⟨a.toArray⟩) (.string ⟨b.toArray⟩)=some (decide (a=b)):=by
 unfold zM;rw[hk]
 simp only
 congr 1
 by_cases h:a=b
 ·subst h;simp
 ·simp[h]
theorem Ho (hk:P.underlying kt=some .string)(k:af ab):∀T:af (af ab×bb),BL P kt (.string ⟨k.toArray⟩) (xO T)=some ((me k T).map fun v=> .int .i64 v)
 |[]=>rfl
 |e::T=>by
  show(match zM P kt (.string ⟨k.toArray⟩) (.string ⟨e.1.toArray⟩) with
   |some true=>some (some (Value.int .i64 e.2))
   |some false=>BL P kt (.string ⟨k.toArray⟩) (xO T)
   |none=>none)=_
  rw[Hn hk]
  by_cases h:k=e.1
  ·simp[h,me]
  ·simp only[h,decide_false,me,dD];exact Ho hk k T
theorem Lw (hk:P.underlying kt=some .string)(k:af ab)(v:bb):∀T:af (af ab×bb),me k T=none->Nz P kt (.string ⟨k.toArray⟩) (.int .i64 v) (xO T)=some (xO (T++[(k,v)]))
 |[],_=>rfl
 |e::T,hn=>by
  simp only[me] at hn
  have h:¬k=e.1:=fun q=>by rw[b5 q] at hn;cases hn
  rw[b7 h] at hn
  show(match zM P kt (.string ⟨k.toArray⟩) (.string ⟨e.1.toArray⟩) with
   |some true=>some ((Value.string ⟨e.1.toArray⟩,Value.int .i64 v)::xO T)
   |some false=>
    match Nz P kt (.string ⟨k.toArray⟩) (.int .i64 v) (xO T) with
    |some l=>some ((Value.string ⟨e.1.toArray⟩,Value.int .i64 e.2)::l)
    |none=>none
   |none=>none)=_
  rw[Hn hk]
  simp only[h,decide_false]
  rw[Lw hk k v T hn]
  rfl
theorem nT.lookup (hu:P.underlying t=some (.map kt et))(hk:P.underlying kt=some .string)(hz:bV P et=some (.int .i64 0)){s:aq}{r:a5}{T:af (af ab×bb)}(h:nT s r T)(k:af ab):
  mT P s t (.map (some r)) (.string ⟨k.toArray⟩) true=some (.tuple #[.int .i64 ((me k T).getD 0),.bool (me k T).isSome]):=by
 unfold mT
 rw[hu]
 have sj:jJ P kt (.string ⟨k.toArray⟩)=true:=by unfold jJ;rw[hk]
 have hp:bN (.int .i64 0)=true:=rfl
 simp only[hz,sj,hp,ec,h.map,Ho hk]
 cases me k T<;>rfl
theorem nT.len (hu:P.underlying t=some (.map kt et)){s:aq}{r:a5}{T:af (af ab×bb)}(h:nT s r T):bm P s t (.map (some r))=some (.int .i64 T.length):=by
 unfold bm
 rw[hu]
 simp only[h.map]
 simp[xO]
theorem nT.update (hu:P.underlying t=some (.map kt et))(hk:P.underlying kt=some .string){s:aq}{r:a5}{T:af (af ab×bb)}(h:nT s r T)(k:af ab)(v:bb)(hn:me k T=none):
  ∃s',fO P s t (.map (some r)) (.string ⟨k.toArray⟩) (.int .i64 v)=some s' /\nT s' r (T++[(k,v)])/\s'.next=s.next/\∀j,j≠r->s'.heap.get j=s.heap.get j:=by
 have sj:jJ P kt (.string ⟨k.toArray⟩)=true:=by unfold jJ;rw[hk]
 refine⟨s.put r (.map (xO (T++[(k,v)]))),?_,⟨by simpa [aq.put] using h.lt,?_⟩,rfl,fun j hj=>aq.bP _ _ _ _ (Ne.symm hj)⟩
 ·unfold fO
  rw[hu]
  simp only[h.map,sj,Lw hk k v T hn]
 ·simp only[aq.dN,aq.put,Tr.bD _ _ _ _ (deep (by omega))]
end
section
variable {P:cf} {lib:aA} {all r:af Oper} {f:aW} {s:aq} {d:eB Tmp} {Q:aW->aq->Prop}
theorem Bh {t kt et:dX}(hu:P.underlying t=some (.map kt et))(hk:P.underlying kt=some .string){q:a5}{T:af (af ab×bb)}(h:nT s q T)(k:af ab)(v:bb)(hn:me k T=none)
  (K:∀s',nT s' q (T++[(k,v)])->s'.next=s.next->(∀j,j≠q->s'.heap.get j=s.heap.get j)->dW P lib all r f s d Q (some (.val undef s'))):dW P lib all r f s d Q (BN (fO P s t (.map (some q)) (.string ⟨k.toArray⟩) (.int .i64 v))):=by
 obtain⟨s',h1,h2,h3,h4⟩:=h.update hu hk k v hn
 rw[h1,iC]
 exact K s' h2 h3 h4
end
end Go.Cl
namespace Go.Cl.Lz
abbrev qD:=af (af ab×bb)
def ext (T:qD)(b:af ab):a5->a5->bb->a5×bb
 |0,n,c=>(n,c)
 |k+1,n,c=>
  match me (b.take (n+1)) T with
  |some x=>ext T b k (n+1) x
  |none=>(n,c)
def db (b:af ab):qD->a5×bb->a5×bb
 |[],p=>p
 |e::T,p=>db b T (if p.1<e.1.length/\b.take e.1.length=e.1 then(e.1.length,e.2) else p)
structure iA (T:qD):Prop where
 two:∀e∈T,2<=e.1.length
 pre:∀e∈T,2<e.1.length->∃x,(e.1.dropLast,x)∈T
 one:∀e∈T,∀e' ∈T,e.1=e'.1->e=e'
theorem Hp {k:af ab}{v:bb}:∀{T:qD},me k T=some v->(k,v)∈T
 |[],h=>by cases h
 |e::T,h=>by
  simp only[me] at h
  by_cases q:k=e.1
  ·rw[b5 q] at h;injection h with h;subst h;subst q;exact cA ..
  ·rw[b7 q] at h;exact cp _ (Hp h)
theorem iA.down {T:qD}(h:iA T){b:af ab}:∀(d:a5) (e:af ab×bb) (m:a5),e∈T->b.take e.1.length=e.1->2<=m->m+d=e.1.length->∃x,(b.take m,x)∈T:=by
 intro d
 induction d with
 |zero=>intro e m he hb _ hm;exact⟨e.2,by rw[show m=e.1.length by omega,hb];exact he⟩
 |succ d ih=>
  intro e m he hb h2 hm
  obtain⟨x,hx⟩:=h.pre e he (by omega)
  have hl:e.1.dropLast.length=e.1.length-1:=List.length_dropLast
  refine ih (e.1.dropLast,x) m hx ?_ h2 (by show m+d=e.1.dropLast.length;omega)
  show b.take e.1.dropLast.length=e.1.dropLast
  rw[hl,dv]
  conv=>rhs;rw[<-hb]
  rw[ee,eb (by rw[hb];omega),hb]
def xP (T:qD)(b:af ab)(c0:bb)(p:a5×bb):Prop:=(p=(1,c0))\/(2<=p.1/\(b.take p.1,p.2)∈T/\p.1<=b.length)
def S6 (T:qD)(b:af ab)(n:a5):Prop:=∀e∈T,b.take e.1.length=e.1->e.1.length<=n
theorem S7 {T:qD}(h:iA T){b:af ab}{c0:bb}{p q:a5×bb}(hp:xP T b c0 p)(hq:xP T b c0 q)(hm:S6 T b p.1)(hn:S6 T b q.1):p=q:=by
 have aux:∀{p q:a5×bb},xP T b c0 p->S6 T b q.1->xP T b c0 q->p.1<=q.1:=by
  intro p q hp hn hq
  rcases hp with rfl|⟨h2,pT,hl⟩
  ·rcases hq with rfl|⟨h2,_⟩
   ·exact a9 _
   ·show 1<=q.1;omega
  ·have:=hn _ pT (by show b.take (b.take p.1).length=b.take p.1;rw[bs,eb hl])
   have e:(b.take p.1).length=p.1:=by rw[bs];omega
   simp only[e] at this;exact this
 have h1:=aux hp hn hq
 have h2:=aux hq hm hp
 have e1:p.1=q.1:=by omega
 rcases hp with rfl|⟨a1,a2,a3⟩
 ·rcases hq with rfl|⟨b1,b2,b3⟩
  ·rfl
  ·simp only at e1;omega
 ·rcases hq with rfl|⟨b1,b2,b3⟩
  ·simp only at e1;omega
  ·rw[e1] at a2
   have:=h.one _ a2 _ b2 rfl
   injection this with _ e2
   exact Prod.ext e1 e2
theorem S8 {T:qD}(h:iA T){b:af ab}{c0:bb}:∀(k n:a5) (c:bb),n+k=b.length->1<=n->xP T b c0 (n,c)->xP T b c0 (ext T b k n c)/\S6 T b (ext T b k n c).1:=by
 intro k
 induction k with
 |zero=>
  intro n c hk h1 hs
  refine⟨hs,fun e he hb=> ?_⟩
  show e.1.length<=n
  have:e.1.length<=b.length:=by rw[<-hb,bs];omega
  omega
 |succ k ih=>
  intro n c hk h1 hs
  rw[ext]
  cases hx:Go.Cl.me (b.take (n+1)) T with
  |some x=>exact ih (n+1) x (by omega) (by omega) (.inr ⟨by show 2<=n+1;omega,Hp hx,by show n+1<=b.length;omega⟩)
  |none=>
   refine⟨hs,fun e he hb=> ?_⟩
   show e.1.length<=n
   rcases eo n e.1.length with q|q
   ·obtain⟨x,ko⟩:=h.down (e.1.length-(n+1)) e (n+1) he hb (by omega) (by omega)
    exact ek rfl (ud.mp hx _ ko)
   ·exact q
theorem nU {b:af ab}{c0:bb}{A:qD}:∀(T:qD) (p:a5×bb),(∀e∈T,e∈A)->(∀e∈T,2<=e.1.length)->xP A b c0 p->xP A b c0 (db b T p)/\p.1<=(db b T p).1/\S6 T b (db b T p).1
 |[],p,_,_,hs=>⟨hs,a9 _,fun e he=>by cases he⟩
 |e::T,p,hA,h2,hs=>by
  have hA' :=fun x hx=>hA x (cp _ hx)
  have h2' :=fun x hx=>h2 x (cp _ hx)
  have he:=hA e (cA ..)
  have za:=h2 e (cA ..)
  rw[db]
  by_cases q:p.1<e.1.length/\b.take e.1.length=e.1
  ·rw[b5 q]
   have lV:e.1.length<=b.length:=by
    have:=congrArg ew q.2
    rw[bs] at this;omega
   obtain⟨g1,g2,g3⟩:=nU T (e.1.length,e.2) hA' h2' (.inr ⟨za,by show(b.take e.1.length,e.2)∈A;rw[q.2];exact he,lV⟩)
   refine⟨g1,by have:=q.1;simp only at g2;omega,fun x hx hb=> ?_⟩
   rcases dO.mp hx with rfl|hx
   ·exact g2
   ·exact g3 x hx hb
  ·rw[b7 q]
   obtain⟨g1,g2,g3⟩:=nU T p hA' h2' hs
   refine⟨g1,g2,fun x hx hb=> ?_⟩
   rcases dO.mp hx with rfl|hx
   ·rcases eo p.1 x.1.length with r|r
    ·exact ek ⟨r,hb⟩ q
    ·omega
   ·exact g3 x hx hb
theorem Wh {T:qD}(h:iA T){b:af ab}(hb:b≠[])(c0:bb):ext T b (b.length-1) 1 c0=db b T (1,c0):=by
 have hl:0<b.length:=bo.mpr hb
 obtain⟨e1,e2⟩:=S8 h (b:=b) (c0:=c0) (b.length-1) 1 c0 (by omega) (a9 _) (.inl rfl)
 obtain⟨g1,_,g3⟩:=nU (A:=T) (c0:=c0) T (1,c0) (fun _ h=>h) h.two (.inl rfl)
 exact S7 h e1 g1 e2 g3
theorem iA.more {T:qD}(h:iA T){b:af ab}{c0 x:bb}{p:a5×bb}(hs:xP T b c0 p)(hm:S6 T b p.1)(hp:p.1<b.length):Go.Cl.me (b.take (p.1+1)) T=none/\iA (T++[(b.take (p.1+1),x)]):=by
 have hlen:(b.take (p.1+1)).length=p.1+1:=by rw[bs];omega
 have hn:∀e∈T,b.take (p.1+1)≠e.1:=by
  intro e he q
  have:=hm e he (by rw[<-q,hlen])
  rw[<-q,hlen] at this;omega
 have h1:1<=p.1:=by
  rcases hs with rfl|⟨a,_⟩
  ·exact a9 _
  ·omega
 refine⟨ud.mpr hn,⟨fun e he=> ?_,fun e he hl=> ?_,fun e he e' A6 q=> ?_⟩⟩
 ·rcases bl.mp he with he|he
  ·exact h.two e he
  ·rw[bq] at he;subst he;show 2<=(b.take (p.1+1)).length;omega
 ·rcases bl.mp he with he|he
  ·obtain⟨y,hy⟩:=h.pre e he hl
   exact⟨y,dE _ hy⟩
  ·rw[bq] at he;subst he
   simp only[hlen] at hl
   rcases hs with rfl|⟨a1,a2,a3⟩
   ·simp only at hl;omega
   ·refine⟨p.2,dE _ ?_⟩
    have:(b.take (p.1+1)).dropLast=b.take p.1:=by
     rw[dv,hlen,ee];congr 1;omega
    show((b.take (p.1+1)).dropLast,p.2)∈T
    rw[this];exact a2
 ·rcases bl.mp he with he|he<;>rcases bl.mp A6 with A6|A6
  ·exact h.one e he e' A6 q
  ·rw[bq] at A6;subst A6;exact ek q.symm (hn e he)
  ·rw[bq] at he;subst he;exact ek q (hn e' A6)
  ·rw[bq] at he A6;subst he;subst A6;rfl
theorem iA.nil:iA []:=⟨fun e h=>by(cases h),fun e h=>by(cases h),fun e h=>by(cases h)⟩
def width (next:a5):a5:=if next<511 then 9 else if next<1023 then 10 else if next<2047 then 11 else 12
theorem kO (n:a5):9<=width n/\width n<=12:=by unfold width;repeat (first|(split;all_goals try omega)|omega)
def dw (c:a5):a5->af a5
 |0=>[]
 |w+1=>c/2^w%2::dw c w
theorem cu (c:a5):∀w,(dw c w).length=w
 |0=>rfl
 |w+1=>by simp[dw,cu c w]
theorem nv (c:a5):∀w,∀x∈dw c w,x<2
 |0,x,h=>by cases h
 |w+1,x,h=>by
  rcases dO.mp h with rfl|h
  ·exact Nat.mod_lt _ (by omega)
  ·exact nv c w x h
def gk (l:af a5):ab:=bg (l.getD 0 0*128+l.getD 1 0*64+l.getD 2 0*32+l.getD 3 0*16+l.getD 4 0*8+l.getD 5 0*4+l.getD 6 0*2+l.getD 7 0)
def pack (l:af a5):af ab:=
 if _h:l=[] then [] else gk l::pack (l.drop 8)
termination_by l.length
decreasing_by
 have:0<l.length:=bo.mpr _h
 rw[a8];omega
theorem tD:pack []=[]:=by rw[pack];simp
theorem uf {l:af a5}(h:l≠[]):pack l=gk l::pack (l.drop 8):=by rw[pack,dif_neg h]
def enc:a5->af ab->qD->a5->eg->af a5
 |0,_,_,rd,_=>dw 257 (width rd)
 |k+1,b,T,rd,fst=>
  if b=[] then dw 257 (width rd)
  else
   let p:=db b T (1,((b.getD 0 0).toNat:bb))
   let rd' :=if fst then rd else min (rd+1) 4096
   dw p.2.toNat (width rd)++
    (if p.1<b.length then
     (if 258+T.length=4095 then dw 256 (width rd')++enc k (b.drop p.1) [] 258 true
     else enc k (b.drop p.1) (T++[(b.take (p.1+1),((258+T.length:a5):bb))]) rd' false)
    else enc k (b.drop p.1) T rd' false)
def E5 (b:af ab):af ab:=pack (dw 256 9++enc (b.length+1) b [] 258 true)
end Go.Cl.Lz
namespace Go.Cl.Lz
open Go.Cl.Rw
def DG (l:af a5):a5->a5
 |0=>0
 |k+1=>DG l k+l.getD (7-k) 0*2^k
theorem QV {l:af a5}(h:∀i,l.getD i 0<2):∀k,DG l k<2^k
 |0=>by simp[DG]
 |k+1=>by
  have h1:=QV h k
  have h2:=h (7-k)
  have h3:l.getD (7-k) 0=0\/l.getD (7-k) 0=1:=by omega
  simp only[DG,Nat.pow_succ]
  rcases h3 with q|q<;>rw[q]<;>omega
theorem Wi (l:af a5):bg (DG l 8)=gk l:=by
 unfold gk
 congr 1
 simp only[DG,Nat.reducePow,Nat.reduceSub]
 omega
def qn (B:af ab)(l:af a5)(k:a5):af ab×a5:=(if k=0 then B else B++[bg (DG l k)],8*B.length+k)
theorem adW {v b k:a5}(hv:v<2^k)(hb:b<2)(hk:k<8):(bg v|||bg (b*2^k))=bg (v+b*2^k):=by
 apply UInt8.toNat_inj.mp
 have hp:2^k<=2^7:=Nat.pow_le_pow_right (by omega) (by omega)
 have Ns:(2:a5)^7=128:=by decide
 have hx:b=0\/b=1:=by omega
 have hbk:b*2^k<=128:=by rcases hx with rfl|rfl<;>(generalize 2^k=q at*;omega)
 rw[UInt8.toNat_or,cB,cB,cB,cm (by omega),cm (by omega),cm (by omega)]
 have:=Nat.shiftLeft_add_eq_or_of_lt (i:=k) (b:=v) hv b
 rw[Nat.shiftLeft_eq] at this
 rw[Nat.or_comm,<-this,Nat.add_comm]
theorem OD {B:af ab}{l:af a5}(h:∀i,l.getD i 0<2){k:a5}(hk:k<8):nO (qn B l k) ((l.getD (7-k) 0:a5):bb)=qn B l (k+1):=by
 have dd:room (qn B l k)=B++[bg (DG l k)]:=by
  unfold room qn
  by_cases hz:k=0
  ·subst hz;simp[DG]
  ·have:¬(8*B.length+k)%8=0:=by omega
   simp only[b7 this,b7 hz]
 have hi:(qn B l k).2/8=B.length:=by show(8*B.length+k)/8=_;omega
 have hm:(qn B l k).2%8=k:=by show(8*B.length+k)%8=_;omega
 have hb:=h (7-k)
 have hv:=QV h k
 have hx:((((l.getD (7-k) 0:a5):bb))%2).toNat=l.getD (7-k) 0:=by omega
 unfold nO
 rw[dd,hi,hm]
 have hg:(B++[bg (DG l k)]).getD B.length 0=bg (DG l k):=by
  rw[a4,c4 (a9 _),ep];rfl
 rw[hg]
 unfold FO
 rw[hx,adW hv hb hk]
 unfold qn
 rw[b7 (by omega:¬k+1=0),List.set_append_right _ _ (a9 _),ep]
 rfl
theorem Lx (B:af ab)(l:af a5):qn B l 8=(B++[gk l],8*(B++[gk l]).length):=by
 unfold qn
 rw[b7 (by omega),Wi,ao]
 rfl
end Go.Cl.Lz
namespace Go.Cl.Lz
def Hq (p:af ab×af a5)(b:a5):af ab×af a5:=if p.2.length=7 then(p.1++[gk (p.2++[b])],[]) else(p.1,p.2++[b])
theorem OE {l:af a5}:gk (l.take 8)=gk l:=by
 have h:∀i,i<8->(l.take 8).getD i 0=l.getD i 0:=fun i hi=>by
  rw[a4,a4,List.getElem?_take,b5 hi]
 unfold gk
 rw[h 0 (by omega),h 1 (by omega),h 2 (by omega),h 3 (by omega),h 4 (by omega),h 5 (by omega),h 6 (by omega),h 7 (by omega)]
theorem S9 {l:af a5}(h:l.length=8)(r:af a5):pack (l++r)=gk l::pack r:=by
 have cH:l++r≠[]:=by intro e;have:=congrArg ew e;rw[ao,cv] at this;omega
 rw[uf cH]
 have e1:gk (l++r)=gk l:=by rw[<-OE (l:=l++r),<-h,List.take_left]
 have e2:(l++r).drop 8=r:=by rw[<-h,List.drop_left]
 rw[e1,e2]
theorem vT:∀(L:af a5) (p:af ab×af a5),p.2.length<=7->(L.foldl Hq p).1++pack (L.foldl Hq p).2=p.1++pack (p.2++L)/\(L.foldl Hq p).2.length<=7
 |[],p,h=>⟨by simp,h⟩
 |b::L,p,h=>by
  rw[List.foldl_cons]
  unfold Hq
  by_cases q:p.2.length=7
  ·rw[b5 q]
   obtain⟨g1,g2⟩:=vT L (p.1++[gk (p.2++[b])],[]) (by simp)
   refine⟨?_,g2⟩
   unfold Hq at g1
   rw[g1]
   have e:p.2++b::L=(p.2++[b])++L:=by simp
   show(p.1++[gk (p.2++[b])])++pack ([]++L)=p.1++pack (p.2++b::L)
   rw[e,S9 (l:=p.2++[b]) (by rw[ao,q];rfl),ds,List.append_assoc]
   rfl
  ·rw[b7 q]
   obtain⟨g1,g2⟩:=vT L (p.1,p.2++[b]) (by simp;omega)
   refine⟨?_,g2⟩
   unfold Hq at g1
   rw[g1]
   simp
theorem OG (B:af a5)(k i:a5):(B++a7 k 0).getD i 0=B.getD i 0:=by
 rw[a4,a4]
 by_cases h:i<B.length
 ·rw[List.getElem?_append_left h]
 ·rw[c4 (by omega),List.getElem?_eq_none (l:=B) (by omega),List.getElem?_replicate]
  split<;>rfl
theorem Ly (B:af a5)(k:a5):gk (B++a7 k 0)=gk B:=by
 unfold gk
 simp only[OG]
theorem vU {B:af a5}(h:B≠[])(h7:B.length<=8):pack B=[gk B]:=by
 rw[uf h,List.drop_eq_nil_of_le (by omega),tD]
theorem BB:∀(k:a5) (b:af ab) (T:qD) (rd:a5) (fst:eg),∀x∈enc k b T rd fst,x<2
 |0,b,T,rd,fst=>nv _ _
 |k+1,b,T,rd,fst=>by
  intro x hx
  rw[enc] at hx
  split at hx
  ·exact nv _ _ x hx
  ·simp only at hx
   rcases bl.mp hx with hx|hx
   ·exact nv _ _ x hx
   ·split at hx
    ·split at hx
     ·rcases bl.mp hx with hx|hx
      ·exact nv _ _ x hx
      ·exact BB k _ _ _ _ x hx
     ·exact BB k _ _ _ _ x hx
    ·exact BB k _ _ _ _ x hx
theorem gC (c n:a5):(dw c (width n)).length<=12:=by rw[cu];exact(kO n).2
structure Good (T:qD):Prop where
 closed:iA T
 lo:∀e∈T,258<=e.2/\e.2<4096
 len:T.length<3838
theorem Good.nil:Good []:=⟨iA.nil,fun e h=>by(cases h),by simp⟩
structure Found (T:qD) (b:af ab) (p:a5×bb):Prop where
 eq:ext T b (b.length-1) 1 ((b.getD 0 0).toNat:bb)=p
 one:1<=p.1
 le:p.1<=b.length
 lo:0<=p.2
 hi:p.2<4096
 n6:p.2≠256
 n7:p.2≠257
 me:p.1<b.length->Go.Cl.me (b.take (p.1+1)) T=none
 more:p.1<b.length->258+T.length≠4095->Good (T++[(b.take (p.1+1),((258+T.length:a5):bb))])
theorem Good.found {T:qD}(h:Good T){b:af ab}(hb:b≠[]):Found T b (db b T (1,((b.getD 0 0).toNat:bb))):=by
 have hl:0<b.length:=bo.mpr hb
 obtain⟨g1,g2,g3⟩:=nU (A:=T) (c0:=((b.getD 0 0).toNat:bb)) T (1,((b.getD 0 0).toNat:bb)) (fun _ h=>h) h.closed.two (.inl rfl)
 obtain⟨p,hp⟩:∃p,p=db b T (1,((b.getD 0 0).toNat:bb)):=⟨_,rfl⟩
 have he:=Wh h.closed hb ((b.getD 0 0).toNat:bb)
 rw[<-hp] at g1 g2 g3 he|-
 have Je:((b.getD 0 0).toNat:bb)<256:=by have:=(b.getD 0 0).toNat_lt;omega
 have hm:=fun q=>h.closed.more (x:=((258+T.length:a5):bb)) g1 g3 q
 have U4:1<=p.1/\p.1<=b.length/\0<=p.2/\p.2<4096/\p.2≠256/\p.2≠257:=by
  rcases g1 with e|⟨a1,a2,a3⟩
  ·rw[e];simp only;omega
  ·have:=h.lo _ a2
   simp only at this
   omega
 refine⟨he,U4.1,U4.2.1,U4.2.2.1,U4.2.2.2.1,U4.2.2.2.2.1,U4.2.2.2.2.2,fun q=>(hm q).1,fun q r=>⟨(hm q).2,fun e hx=> ?_,?_⟩⟩
 ·rcases bl.mp hx with hx|hx
  ·exact h.lo e hx
  ·rw[bq] at hx;subst hx
   have:=h.len
   simp only;omega
 ·have:=h.len
  simp only[ao,dC];omega
theorem BC (k:a5)(T:qD)(rd:a5)(fst:eg):enc k [] T rd fst=dw 257 (width rd):=by
 cases k with
 |zero=>rw[enc]
 |succ k=>rw[enc,b5 rfl]
def mf (rd:a5)(fst:eg):a5:=if fst then rd else min (rd+1) 4096
theorem Jf {k:a5}{b:af ab}(hb:b≠[]){T:qD}{rd:a5}{fst:eg}{p:a5×bb}(hp:p=db b T (1,((b.getD 0 0).toNat:bb)))(h:¬p.1<b.length):enc (k+1) b T rd fst=dw p.2.toNat (width rd)++enc k (b.drop p.1) T (mf rd fst) false:=by
 rw[enc,b7 hb];simp only;rw[<-hp,b7 h];rfl
theorem DH {k:a5}{b:af ab}(hb:b≠[]){T:qD}{rd:a5}{fst:eg}{p:a5×bb}(hp:p=db b T (1,((b.getD 0 0).toNat:bb)))(h:p.1<b.length)(hx:258+T.length≠4095):enc (k+1) b T rd fst=dw p.2.toNat (width rd)++enc k (b.drop p.1) (T++[(b.take (p.1+1),((258+T.length:a5):bb))]) (mf rd fst) false:=by
 rw[enc,b7 hb];simp only;rw[<-hp,b5 h,b7 hx];rfl
theorem zn {k:a5}{b:af ab}(hb:b≠[]){T:qD}{rd:a5}{fst:eg}{p:a5×bb}(hp:p=db b T (1,((b.getD 0 0).toNat:bb)))(h:p.1<b.length)(hx:258+T.length=4095):enc (k+1) b T rd fst=dw p.2.toNat (width rd)++(dw 256 (width (mf rd fst))++enc k (b.drop p.1) [] 258 true):=by
 rw[enc,b7 hb];simp only;rw[<-hp,b5 h,b5 hx];rfl
theorem aac {rd:a5}(h:rd<=4096)(fst:eg):mf rd fst<=4096:=by unfold mf;split<;>omega
def lH (b:af ab):af a5:=dw 256 9++enc (b.length+1) b [] 258 true
theorem LD (b:af ab):∀x∈lH b,x<2:=fun x hx=>by
 rcases bl.mp hx with hx|hx
 ·exact nv _ _ x hx
 ·exact BB _ _ _ _ _ x hx
theorem xQ:∀(k:a5) (b:af ab) (T:qD) (rd:a5) (fst:eg),(enc k b T rd fst).length<=13*k+T.length+12
 |0,b,T,rd,fst=>by rw[enc];have:=gC 257 rd;omega
 |k+1,b,T,rd,fst=>by
  rw[enc]
  split
  ·have:=gC 257 rd;omega
  ·simp only
   rw[ao]
   have h1:=gC (db b T (1,((b.getD 0 0).toNat:bb))).2.toNat rd
   split
   ·split
    ·rw[ao]
     have h2:=gC 256 (if fst=true then rd else min (rd+1) 4096)
     have h3:=xQ k (b.drop (db b T (1,((b.getD 0 0).toNat:bb))).1) [] 258 true
     simp only[cv] at h3
     omega
    ·have h3:=xQ k (b.drop (db b T (1,((b.getD 0 0).toNat:bb))).1) (T++[(b.take ((db b T (1,((b.getD 0 0).toNat:bb))).1+1),((258+T.length:a5):bb))]) (if fst=true then rd else min (rd+1) 4096) false
     rw[ao,dC] at h3
     omega
   ·have h3:=xQ k (b.drop (db b T (1,((b.getD 0 0).toNat:bb))).1) T (if fst=true then rd else min (rd+1) 4096) false
    omega
theorem Hr (b:af ab):(lH b).length<=13*b.length+34:=by
 unfold lH
 rw[ao,cu]
 have:=xQ (b.length+1) b [] 258 true
 simp only[cv] at this
 omega
theorem LF (b:af ab):(lH b).length<=24*b.length+45:=by
 have:=Hr b
 omega
end Go.Cl.Lz
namespace Go.Cl.Runs
theorem qo (l:af ab)(i j:a5):(l.drop i).getD j 0=l.getD (i+j) 0:=by simp[eh]
theorem QW {l:af ab}{i:a5}(h:i<l.length):l.getD i 0=l[i]:=by simp[eh,cb h]
theorem drop_cons {l:af ab}{i:a5}(h:i<l.length):l.drop i=l.getD i 0::l.drop (i+1):=by
 rw[QW h];exact c5 h
theorem Jg (p:ab->eg):∀(m:af ab) (n:a5),n<=m.length->(∀j,j<n->p (m.getD j 0)=true)->n<=(m.takeWhile p).length:=by
 intro m
 induction m with
 |nil=>intro n h _;simpa using h
 |cons c r ih=>
  intro n h hp
  cases n with
  |zero=>omega
  |succ n=>
   have h0:=hp 0 (by omega)
   have hc:p c=true:=h0
   rw[b8,b5 hc]
   simp only[bz] at h|-
   have:=ih n (by omega) (fun j hj=>hp (j+1) (by omega))
   omega
theorem takeWhile_eq (p:ab->eg):∀(m:af ab) (n:a5),n<=m.length->(∀j,j<n->p (m.getD j 0)=true)->(n=m.length\/p (m.getD n 0)=false)->(m.takeWhile p).length=n:=by
 intro m
 induction m with
 |nil=>intro n h _ _;simp at h;simp[h]
 |cons c r ih=>
  intro n h hp he
  cases n with
  |zero=>
   rcases he with he|he
   ·simp at he
   ·have hc:p c=false:=he
    rw[b8,hc];simp
  |succ n=>
   have hc:p c=true:=hp 0 (by omega)
   rw[b8,b5 hc]
   simp only[bz] at h|-
   rw[ih n (by omega) (fun j hj=>hp (j+1) (by omega)) (by
    rcases he with he|he
    ·left;simp only[bz] at he;omega
    ·right;exact he)]
theorem FV (p:ab->eg):∀(m:af ab) (j:a5),j<(m.takeWhile p).length->p (m.getD j 0)=true:=by
 intro m
 induction m with
 |nil=>intro j h;simp at h
 |cons c r ih=>
  intro j h
  rw[b8] at h
  split at h
  ·rename_i hc
   cases j with
   |zero=>exact hc
   |succ j=>exact ih j (by simpa using h)
  ·simp at h
def rowOf (l:af ab):a5:=min 128 (l.takeWhile (fun x=>x==l.getD 0 0)).length
theorem qp (l:af ab):rowOf l<=l.length:=by
 unfold rowOf
 have:(l.takeWhile (fun x=>x==l.getD 0 0)).length<=l.length:=(List.takeWhile_sublist _).length_le
 omega
theorem oW (l:af ab):rowOf l<=128:=by unfold rowOf;omega
theorem Ta (l:af ab)(j:a5)(h:j<rowOf l):l.getD j 0=l.getD 0 0:=by
 unfold rowOf at h
 simpa using FV (fun x=>x==l.getD 0 0) l j (by omega)
theorem Wj {l:af ab}{i n:a5}(hn:n<=128)(hi:i+n<=l.length)(h:∀j,j<n->l.getD (i+j) 0=l.getD i 0)(he:n=128\/i+n=l.length\/l.getD (i+n) 0≠l.getD i 0):rowOf (l.drop i)=n:=by
 unfold rowOf
 have h0:(l.drop i).getD 0 0=l.getD i 0:=by rw[qo];rfl
 rw[h0]
 have hp:∀j,j<n->(fun x=>x==l.getD i 0) ((l.drop i).getD j 0)=true:=fun j hj=>by rw[qo];simp only[beq_iff_eq];exact h j hj
 rcases he with he|he
 ·have:=Jg (fun x=>x==l.getD i 0) (l.drop i) n (by rw[a8];omega) hp
  omega
 ·have:=takeWhile_eq (fun x=>x==l.getD i 0) (l.drop i) n (by rw[a8];omega) hp (by
   rcases he with he|he
   ·left;rw[a8];omega
   ·right;rw[qo];simpa using he)
  omega
def gH (l:af ab):a5->a5->a5
 |0,k=>k
 |f+1,k=>if k<l.length/\rowOf (l.drop k)<3 then gH l f (k+1) else k
def dm (l:af ab):a5:=gH l 127 1
theorem DI (l:af ab):∀(f k:a5),k<=gH l f k/\gH l f k<=k+f:=by
 intro f
 induction f with
 |zero=>intro k;simp[gH]
 |succ f ih=>
  intro k
  unfold gH
  split
  ·have:=ih (k+1);omega
  ·omega
theorem OH (l:af ab):∀(f k:a5),k<=l.length->gH l f k<=l.length:=by
 intro f
 induction f with
 |zero=>intro k h;simpa [gH] using h
 |succ f ih=>
  intro k h
  unfold gH
  split
  ·exact ih (k+1) (by omega)
  ·exact h
theorem lI (l:af ab):1<=dm l:=(DI l 127 1).1
theorem rk (l:af ab):dm l<=128:=(DI l 127 1).2
theorem ug {l:af ab}(h:0<l.length):dm l<=l.length:=OH l 127 1 h
theorem Wk {l:af ab}{k:a5}(hk:k<128)(h1:k<l.length)(h2:rowOf (l.drop k)<3):gH l (128-k) k=gH l (128-(k+1)) (k+1):=by
 obtain⟨f,hf⟩:∃f,128-k=f+1:=⟨127-k,by omega⟩
 rw[hf,show 128-(k+1)=f by omega,gH,b5 ⟨h1,h2⟩]
theorem Wl {l:af ab}{k:a5}(hk:k<=128)(h:k=128\/l.length<=k\/3<=rowOf (l.drop k)):gH l (128-k) k=k:=by
 by_cases oB:k=128
 ·subst oB;rfl
 ·obtain⟨f,hf⟩:∃f,128-k=f+1:=⟨127-k,by omega⟩
  rw[hf,gH,b7 (by omega)]
def encode (l:af ab):af ab:=
 if _h:l=[] then [128]
 else if 3<=rowOf l then bg (257-rowOf l)::l.getD 0 0::encode (l.drop (rowOf l))
 else bg (dm l-1)::(l.take (dm l)++encode (l.drop (dm l)))
termination_by l.length
decreasing_by
 ·have:0<l.length:=bo.mpr _h
  rw[a8];omega
 ·have:0<l.length:=bo.mpr _h
  have:=lI l
  rw[a8];omega
theorem lJ:encode []=[128]:=by rw[encode];simp
theorem nV {l:af ab}(h:l≠[])(h3:3<=rowOf l):encode l=bg (257-rowOf l)::l.getD 0 0::encode (l.drop (rowOf l)):=by rw[encode,dif_neg h,b5 h3]
theorem nW {l:af ab}(h:l≠[])(h3:rowOf l<3):encode l=bg (dm l-1)::(l.take (dm l)++encode (l.drop (dm l))):=by rw[encode,dif_neg h,b7 (by omega)]
def room (most:bb)(out:af ab):a5:=(most-out.length).toNat
def dec (most:bb)(l out:af ab):af ab×bb:=
 match l with
 |[]=>([],2)
 |n::r=>
  if n.toNat=128 then(out,0)
  else if 128<n.toNat then
   match r with
   |[]=>([],2)
   |c::r' =>if 257-n.toNat<=room most out then dec most r' (out++a7 (257-n.toNat) c) else([],7)
  else if r.length<n.toNat+1/\r.length<=room most out then([],2)
  else if room most out<n.toNat+1 then([],7)
  else dec most (r.drop (n.toNat+1)) (out++r.take (n.toNat+1))
termination_by l.length
decreasing_by
 ·simp;omega
 ·simp;omega
theorem QX (most:bb)(out:af ab):dec most [] out=([],2):=by rw[dec]
theorem xR {most:bb}{n:ab}{r out:af ab}(h:n.toNat=128):dec most (n::r) out=(out,0):=by rw[dec.eq_def];simp[h]
theorem FW {most:bb}{n:ab}{out:af ab}(h:128<n.toNat):dec most [n] out=([],2):=by rw[dec.eq_def];simp[show¬n.toNat=128 by omega,h]
theorem uh {most:bb}{n c:ab}{r out:af ab}(h:128<n.toNat)(hr:257-n.toNat<=room most out):dec most (n::c::r) out=dec most r (out++a7 (257-n.toNat) c):=by
 rw[dec.eq_def];simp only[show¬n.toNat=128 by omega,h,ec,dD,hr]
theorem FX {most:bb}{n c:ab}{r out:af ab}(h:128<n.toNat)(hr:room most out<257-n.toNat):dec most (n::c::r) out=([],7):=by
 rw[dec.eq_def];simp only[show¬n.toNat=128 by omega,h,ec,dD,show¬257-n.toNat<=room most out by omega]
theorem FY {most:bb}{n:ab}{r out:af ab}(h:n.toNat<128)(h1:r.length<n.toNat+1)(h2:r.length<=room most out):dec most (n::r) out=([],2):=by
 rw[dec.eq_def];simp only[show¬n.toNat=128 by omega,show¬128<n.toNat by omega,dD,h1,h2,ed,ec]
theorem FZ {most:bb}{n:ab}{r out:af ab}(h:n.toNat<128)(h1:room most out<r.length)(h2:room most out<n.toNat+1):dec most (n::r) out=([],7):=by
 rw[dec.eq_def];simp only[show¬n.toNat=128 by omega,show¬128<n.toNat by omega,dD,show¬(r.length<n.toNat+1/\r.length<=room most out) by omega,h2,ec]
theorem Jh {most:bb}{n:ab}{r out:af ab}(h:n.toNat<128)(h1:n.toNat+1<=r.length)(h2:n.toNat+1<=room most out):dec most (n::r) out=dec most (r.drop (n.toNat+1)) (out++r.take (n.toNat+1)):=by
 rw[dec.eq_def];simp only[show¬n.toNat=128 by omega,show¬128<n.toNat by omega,dD,show¬(r.length<n.toNat+1/\r.length<=room most out) by omega,show¬room most out<n.toNat+1 by omega]
theorem xS:∀(n:a5) (l:af ab),l.length<=n->(encode l).length<=2*l.length+1:=by
 intro n
 induction n with
 |zero=>
  intro l hl
  have:l=[]:=b4 (by omega)
  subst this
  rw[lJ];simp
 |succ n ih=>
  intro l hl
  by_cases h:l=[]
  ·subst h;rw[lJ];simp
  ·have hp:0<l.length:=bo.mpr h
   by_cases h3:3<=rowOf l
   ·rw[nV h h3]
    have:=ih (l.drop (rowOf l)) (by rw[a8];omega)
    have h2:=qp l
    rw[a8] at this
    simp only[bz];omega
   ·rw[nW h (by omega)]
    have h1:=lI l
    have h2:=ug hp
    have:=ih (l.drop (dm l)) (by rw[a8];omega)
    rw[a8] at this
    simp only[bz,ao,bs];omega
end Go.Cl.Runs
namespace Go.Cl.Hx
def digits:af ab:=[48,49,50,51,52,53,54,55,56,57,97,98,99,100,101,102]
def two (c:ab):af ab:=[digits.getD (c.toNat/16) 0,digits.getD (c.toNat%16) 0]
def zo (l:af ab):af ab:=l.flatMap two
def hex (l:af ab):af ab:=zo l++[62]
theorem Tb (l:af ab)(c:ab):zo (l++[c])=zo l++two c:=by simp[zo]
theorem OI (c:ab):(two c).length=2:=rfl
theorem tE (l:af ab):(zo l).length=2*l.length:=by
 induction l with
 |nil=>rfl
 |cons c l ih=>simp only[zo,List.flatMap_cons,ao,bz] at*;rw[ih,OI];omega
theorem al4 (P:cf)(t:dX)(k' :IntKind)(c:ab):cQ P .shr t (.int .u8 c.toNat) (.int k' 4)=some (.int .u8 ((c.toNat/16:a5):bb)):=by
 rw[lS P t .u8 _ 4 k' (by decide)]
 have:((c.toNat:bb)).fdiv (2^(min (4:bb).toNat c7.bits))=((c.toNat/16:a5):bb):=by
  show((c.toNat:bb)).fdiv 16=_
  rw[Int.fdiv_eq_ediv_of_nonneg _ (by omega)];omega
 rw[this]
theorem Wm (c:ab):c7.wrap (((c8 c7.bits (c.toNat:bb)&&&c8 c7.bits 15).toNat:a5):bb)=((c.toNat%16:a5):bb):=by
 have e1:c7.bits=8:=rfl
 have hx:=c.toNat_lt
 rw[e1]
 have:(c8 8 (c.toNat:bb)&&&c8 8 15).toNat=c.toNat%16:=by
  rw[BitVec.toNat_and,BitVec.ofInt_natCast,BitVec.toNat_ofNat,cm (by omega)]
  show c.toNat&&&15=_
  exact Nat.and_two_pow_sub_one_eq_mod c.toNat 4
 rw[this,fu];omega
theorem Wn {P:cf}{t:dX}(hu:P.underlying t=some .string){k:IntKind}(b:ByteArray){n:a5}(h:n<b.data.toList.length):sA P t (.string b) (.int k n)=some (.int .u8 ((b.data.toList.getD n 0).toNat:bb)):=by
 show sA P t (.string b) (.int k (cd n))=_
 unfold sA
 rw[hu]
 simp only
 rw[c5 h]
 simp[eh,cb h]
end Go.Cl.Hx
