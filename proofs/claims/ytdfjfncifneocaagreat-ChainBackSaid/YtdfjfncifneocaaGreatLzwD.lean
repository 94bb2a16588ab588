import Derived.Test.YtdfjfncifneocaaGreatHexP
open _root_ renaming reduceIte->ab,List->ao,UInt8->av,Nat->a4,if_neg->a5,eq_false->a9,if_pos->bb,Int->bn,eq_true->bz,Bool->dC,congrArg->dT
open List renaming getD_eq_getElem?_getD->af,length_append->a0,getElem?_append_left->a6,getElem?_append_right->a8,length_drop->b4,append_assoc->ca,getElem?_eq_getElem->cb,getElem?_cons_succ->cc,length_map->cf,length_singleton->cg,cons_append->c4,length_set->c6,nil_append->dc,append_nil->dt,length->dU
open Go.Proofs.Tryz renaming prog->an,underlying22->a7,underlying134->bl,underlying206->bo,underlying164->bq,results152->b5,results136->b7,results170->cd,underlying162->cv,underlying3->cA,underlying5->cB,results200->c5,results137->ds,results36->dx
open Go renaming Value->bg
open Nat renaming le_trans->bk,lt_of_lt_of_le->b8,le_refl->cm,add_assoc->cp,zero_add->cx,pow_succ->cz,mod_lt->dv,sub_self->dE
open Nat renaming reduceLT->QS,reduceEqDiff->Qx
set_option maxHeartbeats 4000000
set_option linter.unusedSimpArgs false
set_option linter.unusedVariables false
set_option maxRecDepth 100000
namespace Go.Proofs.YtdfjfncifneocaaGreat
open Go.Cl Go.Cl.Rw
theorem x7 (l:ao av)(k:a4)(c:av):(ofBytes l).set k (.int .u8 (c.toNat:bn))=ofBytes (l.set k c):=by
 simp[ofBytes,List.map_set]
abbrev OX (j:a4)(R:ao bg):bg:= .pointer (some ⟨j,0,some (R.length+3)⟩)
structure zw (base:a4) (s:aq) (j:a4) (v:bg) (p:ao av×a4) (R:ao bg):Prop where
 cJ:ax s j (v:: .int .i64 p.2::R)
 own:Own s 1 v p.1.length (ofBytes p.1)
 fresh:aF base v
 ne:aI v≠some j
 lo:base<=j
 ok:Ok p
theorem qs (i o c:a4):au an 162 (.pointer (some ⟨i,o,some c⟩)) 0=some (.pointer (some ⟨i,o+0,some c⟩)):=by
 unfold au;rw[cv];simp[fT]
theorem qt (i o c:a4):au an 162 (.pointer (some ⟨i,o,some c⟩)) 1=some (.pointer (some ⟨i,o+1,some c⟩)):=by
 unfold au;rw[cv];simp[bA]
def AM (base:a4)(j:a4)(R:ao bg)(v:bg)(s:aq)(p:ao av×a4)(s' :aq):Prop:=∃v',zw base s' j v' p R/\du j v s v' s'
theorem OY {lib:aA}(hl:lib.at 200=none)(base:a4)(s:aq)(j:a4)(R:ao bg)(v:bg)(p:ao av×a4)(x:bn)(h:zw base s j v p R)(hb:base<=s.next)(hp:p.2<=1073741824):
  Runs an lib 200 [OX j R,.int .i64 x] s fun _ s' =>AM base j R v s (nO p x) s' :=by
 obtain⟨B,n⟩:=p
 obtain⟨ho,hB,hF,cH,hj,dH⟩:=h
 obtain⟨mO,hrb⟩:=xH dH
 have VY:=Bu (x:=x) dH
 simp only at ho hB hp
 obtain⟨lz,oB⟩:=dH
 simp only at lz oB
 refine Runs.enter 48 Tryz.func200 rfl hl rfl rfl ?_
 intro f hn hf
 have h0:f.get 0=OX j R:=hf 0
 have h1:f.get 1= .int .i64 x:=hf 1
 clear hf
 have l0:=ho.load (P:=an) fU (off:=0) (c:=R.length+3) (by simp) (by simp)
 have l1:=ho.load (P:=an) bu (off:=1) (c:=R.length+3) (by simp) (by simp)
 have SM:n%8<8:=dv _ (by omega)
 by_cases hz:n%8=0
 ·have vx:((n%8:a4):bn)=0:=by omega
  have dd:room (B,n)=B++[0]:=by unfold room;rw[bb hz]
  simp(disch:=omega)only[aj,ak,ae,QS,Qx,↓ab,hn,h0,qs,qt,l0,l1,fg,I7,bz vx,gG a7 bK ks]
  refine bG a7 bK jW ks rfl hB (by simp only[ad,↓ab]) (by decide) (by simp only[ag,hn];decide) (by simp only[ag,hn];decide) (by rfl) (by decide) rfl (by omega) (by omega) (base:=base) hF hb ?_
  intro bs B' s2 hB' ze dO Nl vz
  have fN:=ho.turns Nl cH
  have Bc:aI B' ≠some j:=by
   rcases vz with e|⟨i,e,hi⟩
   ·rw[e];exact cH
   ·rw[e];intro q;injection q with q;have:=ho.lt;omega
  simp only[aj,QS,Qx,↓ab,hn,qs]
  refine aY fT fN (by simp) (by simp) hB'.aG.aL ?_
  intro s3 ou mQ bC
  have e1:ofBytes B++[.int .u8 0]=ofBytes (B++[0]):=by rw[br];rfl
  have e2:B.length+1=(B++[0]).length:=by simp
  have Az:=hB'.aK mQ bC Bc
  rw[e1,e2] at Az
  have bd:n/8<(B++[0]).length:=by rw[<-dd];exact mO
  simp only[aj]
  refine cX.vK (by kernel_rfl) ?_
  have l0:=(ou).load (P:=an) fU (off:=0) (c:=R.length+3) (by simp) (by simp)
  have l1:=(ou).load (P:=an) bu (off:=1) (c:=R.length+3) (by simp) (by simp)
  have k1:=(Az).aG.di (P:=an) kI bd
  rw[bw bd] at k1
  simp(disch:=omega)only[aj,ak,QS,Qx,↓ab,hn,h0,h1,qs,qt,l0,l1,(Az).self,fg,I7,iQ,SL,aD,(Az).aG.indexAddr a7 bK,k1,fh,VX,bL cA cB,QE,ZV,jV,orB]
  refine jN bK Az bd rfl ?_
  intro t1 gL eK
  have ux:=(ou).turns eK Bc
  have ZX:=ux.load (P:=an) bu (off:=1) (c:=R.length+3) (by simp) (by simp)
  simp(disch:=omega)only[aj,ak,QS,Qx,↓ab,hn,h0,qt,ZX,aD]
  refine aY bA ux (by simp) (by simp) rfl ?_
  intro t2 fN g9 cR
  have dI:=gL.aK g9 cR Bc
  simp(disch:=omega)only[aj,ah,c5]
  rw[x7] at dI
  have hr:(nO (B,n) x).1=(B++[0]).set (n/8) (FO ((B++[0]).getD (n/8) 0) x (n%8)):=by simp only[nO,dd]
  refine⟨B',⟨fN,?_,ze,Bc,hj,VY⟩,((du.turns Nl vz).trans (du.put mQ bC)).trans ((du.turns eK (.inl rfl)).trans (du.put g9 cR))⟩
  rw[hr,c6];exact dI
 ·have vx:¬((n%8:a4):bn)=0:=by omega
  have dd:room (B,n)=B:=by unfold room;rw[a5 hz]
  have bd:n/8<B.length:=by rw[<-dd];exact mO
  simp(disch:=omega)only[aj,ak,QS,↓ab,hn,h0,qt,l1,fg,I7,a9 vx]
  refine cX.vK (by kernel_rfl) ?_
  have l0:=(ho).load (P:=an) fU (off:=0) (c:=R.length+3) (by simp) (by simp)
  have l1:=(ho).load (P:=an) bu (off:=1) (c:=R.length+3) (by simp) (by simp)
  have k1:=(hB).aG.di (P:=an) kI bd
  rw[bw bd] at k1
  simp(disch:=omega)only[aj,ak,QS,Qx,↓ab,hn,h0,h1,qs,qt,l0,l1,(hB).self,fg,I7,iQ,SL,aD,(hB).aG.indexAddr a7 bK,k1,fh,VX,bL cA cB,QE,ZV,jV,orB]
  refine jN bK hB bd rfl ?_
  intro t1 gL eK
  have ux:=(ho).turns eK cH
  have ZX:=ux.load (P:=an) bu (off:=1) (c:=R.length+3) (by simp) (by simp)
  simp(disch:=omega)only[aj,ak,QS,Qx,↓ab,hn,h0,qt,ZX,aD]
  refine aY bA ux (by simp) (by simp) rfl ?_
  intro t2 fN g9 cR
  have dI:=gL.aK g9 cR cH
  simp(disch:=omega)only[aj,ah,c5]
  rw[x7] at dI
  have hr:(nO (B,n) x).1=B.set (n/8) (FO (B.getD (n/8) 0) x (n%8)):=by simp only[nO,dd]
  refine⟨v,⟨fN,?_,hF,cH,hj,VY⟩,(du.turns eK (.inl rfl)).trans (du.put g9 cR)⟩
  rw[hr,c6];exact dI
theorem AM.start {base j:a4}{R:ao bg}{v:bg}{s:aq}{p:ao av×a4}(h:zw base s j v p R):AM base j R v s p s:=⟨v,h,du.refl _ _ _⟩
def rA (p:ao av×a4)(x w:bn):ao av×a4:=if w<1\/16<w then p else l5 p x w.toNat
theorem OZ {lib:aA}(hl:lib.at 170=none)(lV:lib.at 200=none)(base:a4)(s:aq)(j:a4)(R:ao bg)(v:bg)(p:ao av×a4)(x w:bn)(h:zw base s j v p R)(hb:base<=s.next)(hp:p.2<=1000000000):
  Runs an lib 170 [OX j R,.int .i64 x,.int .i64 w] s fun _ s' =>AM base j R v s (rA p x w) s' :=by
 refine Runs.enter 27 Tryz.func170 rfl hl rfl rfl ?_
 intro f hn hf
 have h0:f.get 0=OX j R:=hf 0
 have h1:f.get 1= .int .i64 x:=hf 1
 have h2:f.get 2= .int .i64 w:=hf 2
 clear hf
 by_cases c1:w<1
 ·simp only[aj,ak,al,QS,Qx,↓ab,hn,h0,h2,cY bo,bz c1,cd]
  unfold rA;rw[bb (.inl c1)];exact AM.start h
 ·by_cases c2:16<w
  ·simp only[aj,ak,al,QS,Qx,↓ab,hn,h0,h2,cY bo,a9 c1,bz c2,cd]
   unfold rA;rw[bb (.inr c2)];exact AM.start h
  ·obtain⟨m,rfl⟩:∃m:a4,w=m:=⟨w.toNat,by omega⟩
   have VZ:rA p x m=l5 p x m:=by unfold rA;rw[a5 (by omega),Int.toNat_natCast]
   simp only[aj,ak,QS,Qx,↓ab,hn,h0,h2,cY bo,a9 c1,a9 c2]
   refine Comes.eZ (fun q f s' =>∃(k:a4),q=m-k/\k<=m/\AM base j R v s (l5 p x k) s' /\f.n=27/\f.get 0=OX j R/\f.get 1= .int .i64 x/\f.get 17= .int .i64 m/\f.get 18= .int .i64 k)
    ⟨0,rfl,by omega,AM.start h,by simp only[ad,ag,↓ab,Qx,hn,h0,h1,true_and];rfl⟩ ?_
   clear hn h0 h1 h2 f
   rintro q f s1 ⟨k,rfl,hk,⟨v1,pd,fk⟩,hn,h0,h1,Be,zh⟩
   by_cases hkm:k<m
   ·have On:(k:bn)<m:=by omega
    simp(disch:=omega)only[aj,ak,aa,QS,Qx,↓ab,hn,h0,h1,Be,zh,bz On,I6]
    refine(OY lV base s1 j R v1 (l5 p x k) (x.fdiv (2^k)) pd (bk hb fk.next) (by rw[kL];omega)).mono ?_
    rintro _ s2 ⟨v2,gx,nQ⟩
    simp(disch:=omega)only[aj,QS,Qx,↓ab,hn,zh,aD]
    refine ay (m-(k+1)) (by omega) ⟨k+1,rfl,by omega,⟨v2,gx,fk.trans nQ⟩,by simp only[ag,hn],by simp only[ad,↓ab,Qx,h0],by simp only[ad,↓ab,Qx,h1],by simp only[ad,↓ab,Qx,Be],by simp only[ad,↓ab];rfl⟩
   ·obtain rfl:k=m:=by omega
    have On:¬(k:bn)<k:=by omega
    simp only[aj,ah,QS,↓ab,hn,Be,zh,a9 On,cd]
    rw[VZ];exact⟨v1,pd,fk⟩
theorem Jt {lib:aA}(hl:lib.at 36=none)(s:aq)(x:bg)(a:ao av)(hx:aN s 1 x a.length (ofBytes a))(ha:a.length<=4294967296):
  Runs an lib 36 [x] s fun v s' =>cM s v s' a:=by
 refine Runs.enter 8 Tryz.func36 rfl hl rfl rfl ?_
 intro f hn hf
 have h0:f.get 0=x:=hf 0
 clear hf
 cases sk:C4 x with
 |true=>
  obtain⟨e1,_,e2⟩:=hx.isNil sk
  obtain rfl:a=[]:=List.eq_nil_of_length_eq_zero e1
  simp only[aj,al,oneOf,QS,Qx,↓ab,hn,h0,hx.oP a7,sk,dx]
  exact⟨.nil,aF.nil _,ar.refl _ _⟩
 |false=>
  simp only[aj,ae,QS,Qx,↓ab,hn,h0,hx.oP a7,sk,y9 a7 bK ks rfl rfl]
  refine aQ (n:=0) (by rfl) ?_
  intro b s2 hb Oo aR
  simp only[aj,aa,QS,Qx,↓ab,hn,h0]
  refine bY a7 a7 (.inl ⟨_,rfl⟩) bK jW ks rfl hb (hx.keeps aR).src (by rw[bM,Nat.mul_one]) (by decide) (dh _) (by omega) (by omega) Oo (by have:=aR.next;omega) ?_
  intro o' s3 pM ze dO Nl vz
  simp only[aj,al,oneOf,QS,↓ab,hn,dx]
  rw[cx,dc] at pM
  exact⟨pM,ze,aR.trans dO⟩
theorem Ju {lib:aA}(hl:lib.at 138=none)(jL:lib.at 36=none)(base:a4)(s:aq)(j:a4)(R:ao bg)(v:bg)(p:ao av×a4)(h:zw base s j v p R)(hp:p.1.length<=1000000000):
  Runs an lib 138 [OX j R] s fun w s' =>cM s w s' p.1:=by
 refine Runs.enter 10 Tryz.func138 rfl hl rfl rfl ?_
 intro f hn hf
 have h0:f.get 0=OX j R:=hf 0
 clear hf
 have l0:=h.cJ.load (P:=an) fU (off:=0) (c:=R.length+3) (by simp) (by simp)
 simp only[aj,ak,aa,QS,Qx,↓ab,hn,h0,cY bo,qs,l0]
 refine(Jt jL s v p.1 h.own.aG (by omega)).mono ?_
 intro w s2 hw
 simp only[aj,al,oneOf,QS,↓ab,hn,Tryz.results138]
 exact hw
end Go.Proofs.YtdfjfncifneocaaGreat
namespace Go.Proofs.YtdfjfncifneocaaGreat
open Go.Cl Go.Cl.Lz Go.Cl.Rw
theorem HC {lib:aA}(hl:lib.at 152=none)(s:aq)(n:a4):
  Runs an lib 152 [.int .i64 n] s fun v s' =>v= .int .i64 (width n:a4)/\s' =s:=by
 refine Runs.enter 12 Tryz.func152 rfl hl rfl rfl ?_
 intro f hn hf
 have h0:f.get 0= .int .i64 n:=hf 0
 clear hf
 by_cases c1:n<511
 ·have uE:(n:bn)<511:=by omega
  have e:width n=9:=by unfold width;rw[bb c1]
  simp only[aj,al,oneOf,QS,Qx,↓ab,hn,h0,bz uE,e,b5]
  rfl
 ·have uE:¬(n:bn)<511:=by omega
  by_cases c2:n<1023
  ·have D3:(n:bn)<1023:=by omega
   have e:width n=10:=by unfold width;rw[a5 c1,bb c2]
   simp only[aj,al,oneOf,QS,Qx,↓ab,hn,h0,a9 uE,bz D3,e,b5]
   rfl
  ·have D3:¬(n:bn)<1023:=by omega
   by_cases c3:n<2047
   ·have L1:(n:bn)<2047:=by omega
    have e:width n=11:=by unfold width;rw[a5 c1,a5 c2,bb c3]
    simp only[aj,al,oneOf,QS,Qx,↓ab,hn,h0,a9 uE,a9 D3,bz L1,e,b5]
    rfl
   ·have L1:¬(n:bn)<2047:=by omega
    have e:width n=12:=by unfold width;rw[a5 c1,a5 c2,a5 c3]
    simp only[aj,al,oneOf,QS,Qx,↓ab,hn,h0,a9 uE,a9 D3,a9 L1,e,b5]
    rfl
theorem HD (c:a4):∀(w k:a4),k<w->(dw c w)[k]?=some (c/2^(w-1-k)%2)
 |0,k,h=>by omega
 |w+1,0,h=>by simp[dw]
 |w+1,k+1,h=>by
  simp only[dw,cc]
  rw[HD c w k (by omega),show w+1-1-(k+1)=w-1-k by omega]
theorem O0 {c w k:a4}(h:k<w):(dw c w).take (k+1)=(dw c w).take k++[c/2^(w-1-k)%2]:=by
 rw[List.take_add_one,HD c w k h];rfl
theorem QK (c k:a4):((c:bn)).fdiv (2^k)=((c/2^k:a4):bn):=by
 rw[Int.fdiv_eq_ediv_of_nonneg _ (by exact Int.pow_nonneg (by omega))];norm_cast
theorem Jv:aX an 162=some 2:=by kernel_rfl
theorem D4:aX an 134=some 1:=by kernel_rfl
theorem Jw:bX an 134=some false:=by kernel_rfl
theorem zx:aX an 4=some 1:=by kernel_rfl
theorem acm (i o c:a4):au an 164 (.pointer (some ⟨i,o,some c⟩)) 0=some (.pointer (some ⟨i,o+0,some c⟩)):=by
 unfold au;rw[bq];simp[Jv]
theorem AN (i o c:a4):au an 164 (.pointer (some ⟨i,o,some c⟩)) 1=some (.pointer (some ⟨i,o+2,some c⟩)):=by
 unfold au;rw[bq];simp[D4]
theorem W6 (i o c:a4):au an 164 (.pointer (some ⟨i,o,some c⟩)) 2=some (.pointer (some ⟨i,o+3,some c⟩)):=by
 unfold au;rw[bq];simp[bA]
theorem W7 (i o c:a4):au an 164 (.pointer (some ⟨i,o,some c⟩)) 3=some (.pointer (some ⟨i,o+4,some c⟩)):=by
 unfold au;rw[bq];simp[zx]
def HE (B:ao a4):ao bg:=B.map fun x=> .int .i64 (x:a4)
theorem O1 {B:ao a4}{i:a4}(h:i<B.length):(HE B).getD i undef= .int .i64 (B.getD i 0:a4):=by
 simp[HE,List.getD,cb h]
structure O2 (base:a4) (s:aq) (j:a4) (v bv:bg) (p:ao av×a4) (B:ao a4) (next:a4) (begun:dC):Prop where
 row:zw base s j v p [bv,.int .i64 next,.bool begun]
 bits:Own s 1 bv B.length (HE B)
 bf:aF base bv
 bj:aI bv≠some j
 bx:∀k,aI v=some k->aI bv≠some k
abbrev nZ (j:a4):bg:= .pointer (some ⟨j,0,some 6⟩)
structure na (j:a4) (v bv:bg) (s:aq) (v' ny:bg) (s' :aq):Prop where
 next:s.next<=s'.next
 get:∀i,i<s.next->i≠j->aI v≠some i->aI bv≠some i->s'.heap.get i=s.heap.get i
 iv:aI v' =aI v\/∃i,aI v' =some i/\s.next<=i
 ib:aI ny=none\/aI ny=aI bv\/∃i,aI ny=some i/\s.next<=i
theorem Tt {s s' :aq}{z j:a4}{u v v' :bg}{n:a4}{l:ao bg}(h:Own s z u n l)(k:du j v s v' s')(h1:aI u≠some j)(h2:∀i,aI v=some i->aI u≠some i):Own s' z u n l:=by
 cases h with
 |nil=>exact .nil
 |of i n low l hi hb hl hlen=>
  refine .of i n low l (b8 hi k.next) ?_ hl hlen
  simp only[aq.bR,k.get i hi (fun e=>h1 (by rw[<-e];rfl)) (fun e=>h2 i e rfl)];exact hb
theorem na.then {j:a4}{v bv v' b' v2:bg}{s s' s2:aq}(h:na j v bv s v' b' s')(k:du j v' s' v2 s2)(hb:∀i,i<s.next->aI v≠some i->aI v' ≠some i):na j v bv s v2 b' s2:=by
 refine⟨bk h.next k.next,fun i hi ua hv zq=>(k.get i (b8 hi h.next) ua (hb i hi hv)).trans (h.get i hi ua hv zq),?_,h.ib⟩
 rcases k.id with e|⟨q,e,hq⟩
 ·rcases h.iv with e2|⟨q,e2,hq⟩
  ·exact .inl (by rw[e,e2])
  ·exact .inr ⟨q,by rw[e,e2],hq⟩
 ·exact .inr ⟨q,e,bk h.next hq⟩
theorem na.off {j:a4}{v bv v' b' :bg}{s s' :aq}(h:na j v bv s v' b' s'):∀i,i<s.next->aI v≠some i->aI v' ≠some i:=fun i hi hv=>by
 rcases h.iv with e|⟨q,e,hq⟩
 ·rw[e];exact hv
 ·rw[e];intro r;injection r with r;omega
theorem ail (p:ao av×a4)(x:bn):rA p x 1=nO p x:=by
 unfold rA
 rw[a5 (by omega)]
 show nO p (x.fdiv (2^0))=_
 have:x.fdiv (2^0)=x:=by
  show x.fdiv 1=x
  rw[Int.fdiv_eq_ediv_of_nonneg _ (by omega),Int.ediv_one]
 rw[this]
theorem W8 {lib:aA}(hl:lib.at 137=none)(kr:lib.at 170=none)(lV:lib.at 200=none)(base:a4)(s:aq)(j:a4)(v bv:bg)(P:ao av)(B:ao a4)(next:a4)(begun:dC)(x:bn)(h:O2 base s j v bv (P,8*P.length) B next begun)(hb:base<=s.next)(hB:B.length<=7)(Y1:∀i,B.getD i 0<2)(hP:P.length<=110000000):
  Runs an lib 137 [nZ j,.int .i64 x] s fun _ s' =>∃v' ny,O2 base s' j v' ny (if B.length=7 then(P++[gk (B++[(x%2).toNat])],8*(P.length+1)) else(P,8*P.length)) (if B.length=7 then [] else B++[(x%2).toNat]) next begun/\na j v bv s v' ny s' :=by
 refine Runs.enter 40 Tryz.func137 rfl hl rfl rfl ?_
 intro f hn hf
 have h0:f.get 0=nZ j:=hf 0
 have h1:f.get 1= .int .i64 x:=hf 1
 clear hf
 have g1:=h.row.cJ.load (P:=an) Jw (off:=2) (c:=6) rfl (by simp)
 have ko:x%2=(((x%2).toNat:a4):bn):=by omega
 obtain⟨y,hy⟩:∃y,y=(x%2).toNat:=⟨_,rfl⟩
 rw[<-hy] at ko|-
 have wQ:y<2:=by omega
 simp(disch:=omega)only[aj,ak,ae,QS,Qx,↓ab,hn,h0,h1,AN,g1,fh,VX,ko,gG bl bA VL]
 refine bG bl bA abW VL rfl h.bits (by simp only[ad,↓ab,Qx]) (by decide) (by simp only[ag,hn];decide) (by simp only[ag,hn];decide) (by rfl) (by decide) rfl (by omega) (by omega) h.bf hb ?_
 intro bs b2 s2 dI amP aR dD qN
 have aeo:=h.row.cJ.turns dD h.bj
 have Ke:=h.row.own.turns dD h.bx
 have aim:aI b2≠some j:=by
  rcases qN with e|⟨i,e,hi⟩
  ·rw[e];exact h.bj
  ·rw[e];intro q;injection q with q;have:=h.row.cJ.lt;omega
 have aaD:∀k,aI v=some k->aI b2≠some k:=fun k hk=>by
  rcases qN with e|⟨i,e,hi⟩
  ·rw[e];exact h.bx k hk
  ·rw[e];intro q;injection q with q;have:=h.row.own.iD k hk;omega
 have W9:HE B++[.int .i64 ((y:a4):bn)]=HE (B++[y]):=by simp[HE]
 have Xa:B.length+1=(B++[y]).length:=by simp
 rw[W9,Xa] at dI
 simp(disch:=omega)only[aj,QS,Qx,↓ab,hn,AN]
 refine aY D4 aeo rfl (by simp) dI.aG.aL ?_
 intro s3 F5 mQ fB
 have sx:=dI.aK mQ fB aim
 have UH:=Ke.aK mQ fB h.row.ne
 have g3:=F5.load (P:=an) Jw (off:=2) (c:=6) rfl (by simp)
 have Tu:O2 base s3 j v b2 (P,8*P.length) (B++[y]) next begun:=⟨⟨F5,UH,h.row.fresh,h.row.ne,h.row.lo,h.row.ok⟩,sx,amP,aim,aaD⟩
 have x8:na j v bv s v b2 s3:=⟨by have:=dD.next;omega,fun i hi ua _ Nu=>(fB i ua).trans (dD.get i hi Nu),.inl rfl,.inr qN⟩
 by_cases c7:B.length=7
 ·have c7' :¬((B++[y]).length:bn)<8:=by rw[<-Xa];omega
  simp(disch:=omega)only[aj,ak,aa,QS,Qx,↓ab,hn,h0,AN,g3,sx.aG.bm bl,a9 c7']
  obtain⟨l,hl⟩:∃l,l=B++[y]:=⟨_,rfl⟩
  rw[<-hl] at Tu sx|-
  have wJ:l.length=8:=by rw[hl,a0,c7];rfl
  have g7:∀i,l.getD i 0<2:=fun i=>by
   rw[hl]
   by_cases q:i<B.length
   ·rw[af,a6 q,<-af];exact Y1 i
   ·rw[af,a8 (by omega)]
    cases h:i-B.length with
    |zero=>exact wQ
    |succ n=>simp
  refine Comes.bQ (fun q f s' =>∃(k:a4) (v' :bg),q=8-k/\k<=8/\O2 base s' j v' b2 (qn P l k) l next begun/\na j v bv s v' b2 s' /\f.n=40/\f.get 0=nZ j/\f.get 4= .int .i64 (7-(k:bn)))
   (fun y' f s' =>y' = .exit 0/\∃(v' :bg),O2 base s' j v' b2 (qn P l 8) l next begun/\na j v bv s v' b2 s' /\f.n=40/\f.get 0=nZ j)
   ⟨0,v,rfl,by omega,Tu,x8,by simp only[ag,hn],by simp only[ad,↓ab,Qx,h0],by simp only[ad,↓ab];rfl⟩ ?_ ?_
  ·clear hn h0 h1 f
   rintro Q hQ q f s4 ⟨k,v4,rfl,hk,hW,fk,hn,h0,h4⟩
   have g4:=hW.row.cJ.load (P:=an) Jw (off:=2) (c:=6) rfl (by simp)
   by_cases hk8:k<8
   ·have c8:(0:bn)<=7-(k:bn):=by omega
    have e7:(7:bn)-(k:bn)=((7-k:a4):bn):=by omega
    have hi7:7-k<l.length:=by omega
    have fz:=hW.bits.aG.di (P:=an) bu hi7
    rw[O1 hi7] at fz
    have mY:=hW.bits.aG.indexAddr (k:= .i64) (x:=((7-k:a4):bn)) bl bA (by omega) (by omega)
    rw[Int.toNat_natCast] at mY
    rw[e7] at h4 c8
    have R7:=bk hb fk.next
    simp(disch:=omega)only[aj,QS,↓ab,hn,h4,bz c8]
    refine cX.vK (by kernel_rfl) ?_
    simp(disch:=omega)only[aj,ak,aa,QS,Qx,↓ab,hn,h0,h4,acm,AN,g4,hW.bits.self,mY,fz]
    refine(OZ kr lV base s4 j [b2,.int .i64 next,.bool begun] v4 (qn P l k) ((l.getD (7-k) 0:a4):bn) 1 hW.row R7 (by show 8*P.length+k<=_;omega)).mono ?_
    rintro _ s5 ⟨v5,hr5,D5⟩
    rw[ail,OD g7 hk8] at hr5
    have e8:((7-k:a4):bn)-1=7-((k+1:a4):bn):=by omega
    have hx5:∀i,aI v5=some i->aI b2≠some i:=fun i hi e=>by
     rcases D5.id with q|⟨w,q,hq⟩
     ·exact hW.bx i (by rw[<-q];exact hi) e
     ·rw[q] at hi;injection hi with hi;have:=hW.bits.iD i e;omega
    simp(disch:=omega)only[aj,QS,Qx,↓ab,hn,h4,aD]
    refine ay (8-(k+1)) (by omega) ⟨k+1,v5,rfl,by omega,⟨hr5,Tt hW.bits D5 hW.bj hW.bx,hW.bf,hW.bj,hx5⟩,fk.then D5 fk.off,by simp only[ag,hn],by simp only[ad,↓ab,Qx,h0],by simp only[ad,↓ab];rw[e8]⟩
   ·obtain rfl:k=8:=by omega
    have c8:¬(0:bn)<=7-((8:a4):bn):=by omega
    simp(disch:=omega)only[aj,QS,↓ab,hn,h4,a9 c8]
    exact hQ _ _ _ ⟨rfl,v4,hW,fk,by simp only[ag,hn],by simp only[ad,↓ab,Qx,h0]⟩
  ·clear hn h0 h1 f
   rintro _ f s4 ⟨rfl,v4,hW,fk,hn,h0⟩
   simp(disch:=omega)only[aj,QS,↓ab,hn,h0,AN]
   refine aY D4 hW.row.cJ rfl (by simp) rfl ?_
   intro s5 wE hn5 Nv
   simp(disch:=omega)only[aj,ah,ds]
   rw[bb c7,bb c7]
   have e9:qn P l 8=(P++[gk l],8*(P.length+1)):=by rw[Lx,a0];rfl
   rw[e9] at hW wE
   refine⟨v4,.slice none 0 0,⟨⟨wE,hW.row.own.aK hn5 Nv hW.row.ne,hW.row.fresh,hW.row.ne,hW.row.lo,hW.row.ok⟩,.nil,aF.nil _,(fun e=>by cases e),fun _ _ e=>by cases e⟩,⟨by have:=fk.next;omega,fun i hi ua hv zq=>(Nv i ua).trans (fk.get i hi ua hv zq),fk.iv,.inl rfl⟩⟩
 ·have c7' :((B++[y]).length:bn)<8:=by rw[<-Xa];omega
  simp(disch:=omega)only[aj,ak,al,aa,QS,Qx,↓ab,hn,h0,AN,g3,sx.aG.bm bl,bz c7',ds]
  rw[a5 c7,a5 c7]
  exact⟨v,b2,Tu,x8⟩
def tK (p:ao av×ao a4)(b:a4):ao av×ao a4:=if p.2.length=7 then(p.1++[gk (p.2++[b])],[]) else(p.1,p.2++[b])
def fL (p:ao av×ao a4)(L:ao a4):ao av×ao a4:=L.foldl tK p
theorem O3 (p:ao av×ao a4)(L:ao a4)(b:a4):fL p (L++[b])=tK (fL p L) b:=by simp[fL]
def D6 (p:ao av×ao a4):Prop:=p.2.length<=7/\∀i,p.2.getD i 0<2
theorem zy {p:ao av×ao a4}(h:D6 p){b:a4}(hb:b<2):D6 (tK p b):=by
 obtain⟨h1,h2⟩:=h
 unfold tK
 by_cases q:p.2.length=7
 ·rw[bb q];exact⟨by simp,fun i=>by simp⟩
 ·rw[a5 q]
  refine⟨by simp;omega,fun i=> ?_⟩
  by_cases r:i<p.2.length
  ·rw[af,a6 r,<-af];exact h2 i
  ·rw[af,a8 (by omega)]
   cases h:i-p.2.length with
   |zero=>exact hb
   |succ n=>simp
theorem L2 (p:ao av×ao a4)(b:a4):(tK p b).1.length<=p.1.length+1:=by
 unfold tK;split
 ·simp
 ·simp
theorem na.refl (j:a4)(v bv:bg)(s:aq):na j v bv s v bv s:=⟨cm _,fun _ _ _ _ _=>rfl,.inl rfl,.inr (.inl rfl)⟩
theorem na.trans {j:a4}{v bv v1 b1 v2 b2:bg}{s s1 s2:aq}(h:na j v bv s v1 b1 s1)(k:na j v1 b1 s1 v2 b2 s2):na j v bv s v2 b2 s2:=by
 refine⟨bk h.next k.next,fun i hi ua hv zq=>(k.get i (b8 hi h.next) ua (h.off i hi hv) ?_).trans (h.get i hi ua hv zq),?_,?_⟩
 ·rcases h.ib with e|e|⟨q,e,hq⟩
  ·rw[e];simp
  ·rw[e];exact zq
  ·rw[e];intro r;injection r with r;omega
 ·rcases k.iv with e|⟨q,e,hq⟩
  ·rcases h.iv with e2|⟨q,e2,hq⟩
   ·exact .inl (by rw[e,e2])
   ·exact .inr ⟨q,by rw[e,e2],hq⟩
  ·exact .inr ⟨q,e,bk h.next hq⟩
 ·rcases k.ib with e|e|⟨q,e,hq⟩
  ·exact .inl e
  ·rcases h.ib with e2|e2|⟨q,e2,hq⟩
   ·exact .inl (by rw[e,e2])
   ·exact .inr (.inl (by rw[e,e2]))
   ·exact .inr (.inr ⟨q,by rw[e,e2],hq⟩)
  ·exact .inr (.inr ⟨q,e,bk h.next hq⟩)
def Wr (base:a4)(s:aq)(j:a4)(v bv:bg)(q:ao av×ao a4)(next:a4)(begun:dC):Prop:=O2 base s j v bv (q.1,8*q.1.length) q.2 next begun
theorem L3 {lib:aA}(hl:lib.at 137=none)(kr:lib.at 170=none)(lV:lib.at 200=none)(base:a4)(s:aq)(j:a4)(v bv:bg)(q:ao av×ao a4)(next:a4)(begun:dC)(x:bn)(h:Wr base s j v bv q next begun)(hb:base<=s.next)(hq:D6 q)(hP:q.1.length<=110000000):
  Runs an lib 137 [nZ j,.int .i64 x] s fun _ s' =>∃v' ny,Wr base s' j v' ny (tK q (x%2).toNat) next begun/\na j v bv s v' ny s' :=by
 refine(W8 hl kr lV base s j v bv q.1 q.2 next begun x h hb hq.1 hq.2 hP).mono ?_
 rintro _ s' ⟨v',ny,h1,h2⟩
 refine⟨v',ny,?_,h2⟩
 unfold Wr tK
 by_cases c:q.2.length=7
 ·rw[bb c,bb c] at h1;rw[bb c]
  have e:(q.1++[gk (q.2++[(x%2).toNat])]).length=q.1.length+1:=by simp
  show O2 base s' j v' ny (q.1++[gk (q.2++[(x%2).toNat])],8*(q.1++[gk (q.2++[(x%2).toNat])]).length) [] next begun
  rw[e];exact h1
 ·rw[a5 c,a5 c] at h1;rw[a5 c];exact h1
theorem O4:bX an 4=some false:=by kernel_rfl
def og (c next:a4)(begun:dC):a4:=if c=256 then 258 else if c=257 then next else if begun then min (next+1) 4096 else next
def nd (c:a4)(begun:dC):dC:=if c=256 then false else if c=257 then begun else true
theorem um {lib:aA}(hl:lib.at 136=none)(Kf:lib.at 152=none)(D7:lib.at 137=none)(kr:lib.at 170=none)(lV:lib.at 200=none)(base:a4)(s:aq)(j:a4)(v bv:bg)(q:ao av×ao a4)(next:a4)(begun:dC)(c:a4)(h:Wr base s j v bv q next begun)(hb:base<=s.next)(hq:D6 q)(hP:q.1.length<=100000000)(hc:c<100000000)(hn:next<=4096):
  Runs an lib 136 [nZ j,.int .i64 c] s fun _ s' =>∃v' ny,Wr base s' j v' ny (fL q (dw c (width next))) (og c next begun) (nd c begun)/\na j v bv s v' ny s' :=by
 refine Runs.enter 49 Tryz.func136 rfl hl rfl rfl ?_
 intro f jq hf
 have h0:f.get 0=nZ j:=hf 0
 have h1:f.get 1= .int .i64 c:=hf 1
 clear hf
 have g2:=h.row.cJ.load (P:=an) bu (off:=3) (c:=6) rfl (by simp)
 obtain⟨w,hw⟩:∃w,w=width next:=⟨_,rfl⟩
 have Tj:=kO next
 rw[<-hw] at Tj
 simp(disch:=omega)only[aj,ak,aa,QS,↓ab,jq,h0,W6,g2]
 refine(HC Kf s next).mono ?_
 rintro _ s1 ⟨rfl,kC⟩
 subst kC
 rw[<-hw]
 simp(disch:=omega)only[aj,QS,↓ab,jq,aD]
 refine Comes.bQ (fun z f s' =>∃(k:a4) (v' ny:bg),z=w-k/\k<=w/\Wr base s' j v' ny (fL q ((dw c w).take k)) next begun/\D6 (fL q ((dw c w).take k))/\(fL q ((dw c w).take k)).1.length<=q.1.length+k/\na j v bv s1 v' ny s' /\f.n=49/\f.get 0=nZ j/\f.get 1= .int .i64 c/\f.get 4= .int .i64 ((w:bn)-1-k))
  (fun y f s' =>y= .exit 0/\∃(v' ny:bg),Wr base s' j v' ny (fL q (dw c w)) next begun/\na j v bv s1 v' ny s' /\f.n=49/\f.get 0=nZ j/\f.get 1= .int .i64 c)
  ⟨0,v,bv,rfl,by omega,by simpa [fL] using h,by simpa [fL] using hq,by simp[fL],na.refl _ _ _ _,by simp only[ag,jq],by simp only[ad,↓ab,Qx,h0],by simp only[ad,↓ab,Qx,h1],by simp only[ad,↓ab];simp⟩ ?_ ?_
 ·clear jq h0 h1 f g2
  rintro Q hQ z f s2 ⟨k,v2,b2,rfl,hk,hW,hH,hlen,fk,jq,h0,h1,h4⟩
  by_cases hkw:k<w
  ·have c1:(0:bn)<=(w:bn)-1-k:=by omega
   obtain⟨m,hm⟩:∃m:a4,m=w-1-k:=⟨_,rfl⟩
   have e1:(w:bn)-1-k=(m:bn):=by omega
   rw[e1] at h4 c1
   have hm64:m<64:=by omega
   simp(disch:=omega)only[aj,ak,aa,QS,Qx,↓ab,jq,h0,h1,h4,bz c1,I6,QK]
   refine(L3 D7 kr lV base s2 j v2 b2 _ next begun ((c/2^m:a4):bn) hW (bk hb fk.next) hH (by omega)).mono ?_
   rintro _ s3 ⟨v3,b3,Tu,x8⟩
   have aep:((((c/2^m:a4):bn))%2).toNat=c/2^m%2:=by
    generalize c/2^m=u;omega
   rw[aep] at Tu
   have e2:(m:bn)-1=(w:bn)-1-((k+1:a4):bn):=by omega
   have e3:fL q ((dw c w).take (k+1))=tK (fL q ((dw c w).take k)) (c/2^m%2):=by rw[O0 hkw,<-hm,O3]
   simp(disch:=omega)only[aj,QS,Qx,↓ab,jq,h4,aD]
   refine ay (w-(k+1)) (by omega) ⟨k+1,v3,b3,rfl,by omega,by rw[e3];exact Tu,by rw[e3];exact zy hH (dv _ (by omega)),by rw[e3];have:=L2 (fL q ((dw c w).take k)) (c/2^m%2);omega,fk.trans x8,by simp only[ag,jq],by simp only[ad,↓ab,Qx,h0],by simp only[ad,↓ab,Qx,h1],by simp only[ad,↓ab];rw[e2]⟩
  ·obtain rfl:k=w:=by omega
   have c1:¬(0:bn)<=(k:bn)-1-k:=by omega
   have et:(dw c k).take k=dw c k:=List.take_of_length_le (by rw[cu];omega)
   rw[et] at hW
   simp(disch:=omega)only[aj,QS,↓ab,jq,h4,a9 c1]
   exact hQ _ _ _ ⟨rfl,v2,b2,hW,fk,by simp only[ad,ag,↓ab,Qx,jq,h0,h1,and_self]⟩
 ·clear jq h0 h1 f g2
  rintro _ f s2 ⟨rfl,v2,b2,hW,fk,jq,h0,h1⟩
  have put:∀{s3 s4:aq} {v3 b3:bg} {q3:ao av×ao a4} {n3 n4:a4} {g3 g4:dC},Wr base s3 j v3 b3 q3 n3 g3->ax s4 j (v3:: .int .i64 (8*q3.1.length:a4)::[b3,.int .i64 n4,.bool g4])->s4.next=s3.next->(∀i,i≠j->s4.heap.get i=s3.heap.get i)->Wr base s4 j v3 b3 q3 n4 g4/\na j v3 b3 s3 v3 b3 s4:=by
   intro s3 s4 v3 b3 q3 n3 n4 g3 g4 h ht hn hs
   exact⟨⟨⟨ht,h.row.own.aK hn hs h.row.ne,h.row.fresh,h.row.ne,h.row.lo,h.row.ok⟩,h.bits.aK hn hs h.bj,h.bf,h.bj,h.bx⟩,⟨by omega,fun i _ ua _ _=>hs i ua,.inl rfl,.inr (.inl rfl)⟩⟩
  have g2:=hW.row.cJ.load (P:=an) bu (off:=3) (c:=6) rfl (by simp)
  have g3:=hW.row.cJ.load (P:=an) O4 (off:=4) (c:=6) rfl (by simp)
  by_cases k1:c=256
  ·have HF:(c:bn)=256:=by omega
   have e1:og c next begun=258:=by unfold og;rw[bb k1]
   have e2:nd c begun=false:=by unfold nd;rw[bb k1]
   rw[e1,e2]
   simp(disch:=omega)only[aj,QS,Qx,↓ab,jq,h0,h1,bz HF,W6]
   refine aY bA hW.row.cJ rfl (by simp) rfl ?_
   intro s3 jM mQ fB
   obtain⟨Tu,x8⟩:=put (n4:=258) (g4:=begun) hW jM mQ fB
   simp(disch:=omega)only[aj,QS,Qx,↓ab,jq,W7]
   refine aY zx Tu.row.cJ rfl (by simp) rfl ?_
   intro s4 gv vY vh
   obtain⟨hW4,aeq⟩:=put (n4:=258) (g4:=false) Tu gv vY vh
   simp(disch:=omega)only[aj,ah,b7]
   exact⟨v2,b2,hW4,fk.trans (x8.trans aeq)⟩
  ·have HF:¬(c:bn)=256:=by omega
   by_cases k2:c=257
   ·have J2:(c:bn)=257:=by omega
    have e1:og c next begun=next:=by unfold og;rw[a5 k1,bb k2]
    have e2:nd c begun=begun:=by unfold nd;rw[a5 k1,bb k2]
    rw[e1,e2]
    simp(disch:=omega)only[aj,ah,QS,Qx,↓ab,jq,h1,a9 HF,bz J2,b7]
    exact⟨v2,b2,hW,fk⟩
   ·have J2:¬(c:bn)=257:=by omega
    have e2:nd c begun=true:=by unfold nd;rw[a5 k1,a5 k2]
    rw[e2]
    cases begun with
    |true=>
     have e1:og c next true=min (next+1) 4096:=by unfold og;rw[a5 k1,a5 k2];rfl
     have Cf:(if(4096:bn)<(next:bn)+1 then(4096:bn) else(next:bn)+1)=((min (next+1) 4096:a4):bn):=by split<;>omega
     rw[e1]
     simp(disch:=omega)only[aj,ak,aa,QS,Qx,↓ab,jq,h0,h1,a9 HF,a9 J2,W6,W7,g2,g3,aD,Cf]
     refine aY bA hW.row.cJ rfl (by simp) rfl ?_
     intro s3 jM mQ fB
     obtain⟨Tu,x8⟩:=put (n4:=min (next+1) 4096) (g4:=true) hW jM mQ fB
     simp(disch:=omega)only[aj,ah,b7]
     exact⟨v2,b2,Tu,fk.trans x8⟩
    |false=>
     have e1:og c next false=next:=by unfold og;rw[a5 k1,a5 k2];rfl
     rw[e1]
     simp(disch:=omega)only[aj,ak,QS,Qx,↓ab,jq,h0,h1,a9 HF,a9 J2,W7,g3]
     refine aY zx hW.row.cJ rfl (by simp) rfl ?_
     intro s3 jM mQ fB
     obtain⟨Tu,x8⟩:=put (n4:=next) (g4:=true) hW jM mQ fB
     simp(disch:=omega)only[aj,ah,b7]
     exact⟨v2,b2,Tu,fk.trans x8⟩
end Go.Proofs.YtdfjfncifneocaaGreat
namespace Go.Cl.Lz
def mj (b:ao av)(i:a4):a4:=(b.getD (i/8) 0).toNat/2^(7-i%8)%2
theorem L4 (b:ao av)(i:a4):mj b i<2:=dv _ (by omega)
def jE (b:ao av)(p:a4):a4->a4
 |0=>0
 |w+1=>jE b p w*2+mj b (p+w)
theorem D8 (b:ao av)(p:a4):∀w,jE b p w<2^w
 |0=>by simp[jE]
 |w+1=>by have h1:=D8 b p w;have h2:=L4 b (p+w);rw[jE,cz];omega
def rowOf (T:ao (ao av))(last:ao av)(c:a4):Option (ao av):=
 if c<256 then some [UInt8.ofNat c]
 else if last=[] then none
 else if c=258+T.length then some (last++last.take 1)
 else T[c-258]?
def grow (T:ao (ao av))(last x:ao av):ao (ao av):=if last≠[]/\258+T.length<4096 then T++[last++x.take 1] else T
def dec (b:ao av)(most:a4):a4->a4->ao (ao av)->ao av->ao av->a4×ao av
 |0,_,_,_,out=>(0,out)
 |k+1,p,T,last,out=>
  if 8*b.length<p+width (258+T.length) then(2,[])
  else if jE b p (width (258+T.length))=257 then(0,out)
  else if jE b p (width (258+T.length))=256 then dec b most k (p+width (258+T.length)) [] [] out
  else match rowOf T last (jE b p (width (258+T.length))) with
   |none=>(4,[])
   |some x=>if most<out.length+x.length then(7,[]) else dec b most k (p+width (258+T.length)) (grow T last x) x (out++x)
def vi (b:ao av)(most:a4):a4×ao av:=dec b most (8*b.length+1) 0 [] [] []
theorem nA {b:ao av}{most k p:a4}{T:ao (ao av)}{last out:ao av}(h:8*b.length<p+width (258+T.length)):dec b most (k+1) p T last out=(2,[]):=by rw[dec,bb h]
theorem xR {b:ao av}{most k p:a4}{T:ao (ao av)}{last out:ao av}(h:¬8*b.length<p+width (258+T.length))(hc:jE b p (width (258+T.length))=257):dec b most (k+1) p T last out=(0,out):=by rw[dec,a5 h,bb hc]
theorem zz {b:ao av}{most k p:a4}{T:ao (ao av)}{last out:ao av}(h:¬8*b.length<p+width (258+T.length))(hc:jE b p (width (258+T.length))=256):dec b most (k+1) p T last out=dec b most k (p+width (258+T.length)) [] [] out:=by rw[dec,a5 h,a5 (by omega),bb hc]
theorem uh {b:ao av}{most k p c:a4}{T:ao (ao av)}{last out:ao av}(h:¬8*b.length<p+width (258+T.length))(hc:jE b p (width (258+T.length))=c)(h7:c≠257)(h6:c≠256):
  dec b most (k+1) p T last out=match rowOf T last c with
   |none=>(4,[])
   |some x=>if most<out.length+x.length then(7,[]) else dec b most k (p+width (258+T.length)) (grow T last x) x (out++x):=by
 rw[dec,a5 h,a5 (by omega),a5 (by omega),hc]
def qu (b:ao av)(p:a4)(L:ao a4):Prop:=∀i,i<L.length->p+i<8*b.length->mj b (p+i)=L.getD i 0
theorem F6 {L M:ao a4}{i:a4}(h:i<L.length):(L++M).getD i 0=L.getD i 0:=by
 rw[af,af,a6 h]
theorem D9 {L M:ao a4}(i:a4):(L++M).getD (L.length+i) 0=M.getD i 0:=by
 rw[af,af,a8 (by omega),Nat.add_sub_cancel_left]
theorem qu.left {b:ao av}{p:a4}{L M:ao a4}(h:qu b p (L++M)):qu b p L:=fun i hi hb=>by
 rw[h i (by rw[a0];omega) hb,F6 hi]
theorem qu.right {b:ao av}{p:a4}{L M:ao a4}(h:qu b p (L++M)):qu b (p+L.length) M:=fun i hi hb=>by
 rw[cp] at hb|-
 rw[h (L.length+i) (by rw[a0];omega) hb,D9]
theorem L5 {b:ao av}{p c w:a4}(h:qu b p (dw c w))(hw:p+w<=8*b.length):∀k,k<=w->jE b p k=c/2^(w-k)%2^k:=by
 intro k
 induction k with
 |zero=>intro _;simp[jE,Nat.mod_one]
 |succ k ih=>
  intro hk
  have e1:mj b (p+k)=c/2^(w-(k+1))%2:=by
   rw[h k (by rw[cu];omega) (by omega),af,L6 c w k (by omega),Option.getD_some]
  have e2:w-k=(w-(k+1))+1:=by omega
  rw[jE,ih (by omega),e1,e2,cz,<-Nat.div_div_eq_div_mul]
  generalize c/2^(w-(k+1))=q
  rw[cz,Nat.mul_comm (2^k) 2,Nat.mod_mul]
  omega
where
 L6 (c:a4):∀(w k:a4),k<w->(dw c w)[k]?=some (c/2^(w-(k+1))%2)
 |0,k,h=>by omega
 |w+1,0,h=>by simp[dw]
 |w+1,k+1,h=>by
  simp only[dw,cc]
  rw[L6 c w k (by omega),show w+1-(k+1+1)=w-(k+1) by omega]
theorem uo {b:ao av}{p c w:a4}(h:qu b p (dw c w))(hw:p+w<=8*b.length)(hc:c<2^w):jE b p w=c:=by
 rw[L5 h hw w (cm _),dE,Nat.pow_zero,Nat.div_one,Nat.mod_eq_of_lt hc]
theorem Tv {l:ao a4}(h:∀i,l.getD i 0<2){i:a4}(hi:i<8):(gk l).toNat/2^(7-i)%2=l.getD i 0:=by
 have h0:=h 0;have h1:=h 1;have h2:=h 2;have h3:=h 3;have h4:=h 4;have h5:=h 5;have h6:=h 6;have h7:=h 7
 unfold gk
 rw[UInt8.toNat_ofNat']
 match i,hi with
 |0,_=>omega
 |1,_=>omega
 |2,_=>omega
 |3,_=>omega
 |4,_=>omega
 |5,_=>omega
 |6,_=>omega
 |7,_=>omega
theorem Ea (l:ao a4)(i:a4):(l.drop 8).getD i 0=l.getD (i+8) 0:=by
 rw[af,af,List.getElem?_drop,Nat.add_comm]
theorem L7:∀(n:a4) (L:ao a4) (more:ao av),L.length<=n->(∀i,L.getD i 0<2)->∀i,i<L.length->mj (pack L++more) i=L.getD i 0
 |0,L,more,hn,h,i,hi=>by omega
 |n+1,L,more,hn,h,i,hi=>by
  have hL:L≠[]:=by intro e;rw[e] at hi;simp at hi
  rw[uf hL,c4]
  by_cases h8:i<8
  ·unfold mj
   rw[show i/8=0 by omega,show i%8=i by omega,List.getD_cons_zero]
   exact Tv h h8
  ·have ih:=L7 n (L.drop 8) more (by rw[b4];omega) (fun i=>by rw[Ea];exact h _) (i-8) (by rw[b4];omega)
   rw[Ea,show i-8+8=i by omega] at ih
   rw[<-ih]
   unfold mj
   rw[show i/8=(i-8)/8+1 by omega,show i%8=(i-8)%8 by omega,List.getD_cons_succ]
theorem oY:∀(n:a4) (L:ao a4),L.length<=n->(pack L).length=(L.length+7)/8
 |0,L,hn=>by
  have:L=[]:=List.length_eq_zero_iff.mp (by omega)
  subst this;rw[tD];rfl
 |n+1,L,hn=>by
  by_cases hL:L=[]
  ·subst hL;rw[tD];rfl
  ·have:0<L.length:=List.length_pos_iff.mpr hL
   rw[uf hL,List.length_cons,oY n (L.drop 8) (by rw[b4];omega),b4]
   omega
def Num (T:qD):Prop:=∀i e,T[i]?=some e->e.2=((258+i:a4):bn)
theorem Num.nil:Num []:=fun i e h=>by simp at h
theorem Num.snoc {T:qD}(h:Num T)(r:ao av):Num (T++[(r,((258+T.length:a4):bn))]):=fun i e he=>by
 by_cases hi:i<T.length
 ·rw[a6 hi] at he;exact h i e he
 ·rw[a8 (by omega)] at he
  cases hq:i-T.length with
  |zero=>
   rw[hq] at he
   simp at he
   rw[<-he,show i=T.length by omega]
   simp
  |succ m=>rw[hq] at he;simp at he
theorem uq {n:a4}(h:n<4096):n<2^width n/\257<2^width n:=by
 unfold width
 repeat (first|(split;all_goals try omega)|omega)
theorem qd {l:ao av}{n:a4}(h:n<l.length):l.take (n+1)=l.take n++(l.drop n).take 1:=by
 rw[List.take_add]
structure Sync (l:ao av) (T:qD) (rd:a4) (fst:dC) (D:ao (ao av)) (last:ao av):Prop where
 Xb:Good T
 num:Num T
 rd:rd=258+D.length
 few:D.length<3838
 first:fst=true->T=[]/\D=[]/\last=[]
 VS:fst=false->last≠[]/\(l≠[]->T.map Prod.fst=D++[last++l.take 1])
theorem Sync.row {l:ao av}{T:qD}{rd:a4}{fst:dC}{D:ao (ao av)}{last:ao av}(h:Sync l T rd fst D last)(hl:l≠[]){p:a4×bn}(hp:p=db l T (1,((l.getD 0 0).toNat:bn))):
  p.2.toNat<2^width rd/\p.2.toNat≠256/\p.2.toNat≠257/\rowOf D last p.2.toNat=some (l.take p.1)/\1<=p.1/\p.1<=l.length/\
   (grow D last (l.take p.1))=T.map Prod.fst/\mf rd fst=258+T.length:=by
 have hF:=h.Xb.found hl
 have aE:=(nU (b:=l) (A:=T) (c0:=((l.getD 0 0).toNat:bn)) T (1,((l.getD 0 0).toNat:bn)) (fun _ h=>h) h.Xb.closed.two (.inl rfl)).1
 rw[<-hp] at hF aE
 obtain⟨x,r,rfl⟩:∃x r,l=x::r:=by cases l with|nil=>exact absurd rfl hl|cons x r=>exact⟨x,r,rfl⟩
 have hw:257<2^width rd:=(uq (by rw[h.rd];have:=h.few;omega)).2
 have Tj:rd<2^width rd:=(uq (by rw[h.rd];have:=h.few;omega)).1
 have oI:=hF.lo
 have IA:(x::r).take 1=[x]:=rfl
 have eK:((x::r).take p.1).take 1=[x]:=by
  rw[List.take_take,show min 1 p.1=1 by have:=hF.one;omega];rfl
 have hg:grow D last ((x::r).take p.1)=T.map Prod.fst/\mf rd fst=258+T.length:=by
  unfold grow mf
  cases aaE:fst with
  |true=>
   obtain⟨rfl,rfl,rfl⟩:=h.first aaE
   have:=h.rd
   simp at this|-;exact this
  |false=>
   obtain⟨h1,h2⟩:=h.VS aaE
   have h2:=h2 hl
   have h3:=h.few
   have h4:=dT dU h2
   simp only[cf,a0,cg] at h4
   rw[bb ⟨h1,by omega⟩,eK,h2]
   refine⟨rfl,?_⟩
   have:=h.rd
   simp only[Bool.false_eq_true,if_false];omega
 rcases aE with e|⟨a1,a2,a3⟩
 ·have hx:p.2.toNat=x.toNat:=by rw[e];rfl
  have ko:=x.toNat_lt
  have qJ:p.1=1:=by rw[e]
  refine⟨by omega,by omega,by omega,?_,by omega,hF.le,hg.1,hg.2⟩
  rw[hx,qJ]
  unfold rowOf
  rw[bb (by omega),UInt8.ofNat_toNat]
  rfl
 ·obtain⟨i,hi⟩:=List.mem_iff_getElem?.mp a2
  have hc:p.2.toNat=258+i:=by have:=h.num i _ hi;simp only at this;omega
  have hiT:i<T.length:=(List.getElem?_eq_some_iff.mp hi).1
  have hnf:fst=false:=by
   cases aaE:fst with
   |true=>rw[(h.first aaE).1] at hiT;simp at hiT
   |false=>rfl
  obtain⟨h1,h2⟩:=h.VS hnf
  have h2:=h2 hl
  have h4:=dT dU h2
  simp only[cf,a0,cg] at h4
  have kp:(T.map Prod.fst)[i]?=some ((x::r).take p.1):=by rw[List.getElem?_map,hi];rfl
  refine⟨by have:=h.rd;omega,by omega,by omega,?_,hF.one,hF.le,hg.1,hg.2⟩
  rw[hc]
  unfold rowOf
  rw[a5 (by omega),a5 h1]
  by_cases hn:258+i=258+D.length
  ·rw[bb hn]
   rw[h2,show i=D.length by omega,a8 (by omega),dE] at kp
   simp only[List.getElem?_cons_zero,Option.some.injEq] at kp
   rw[<-kp]
   obtain⟨y,q,hy⟩:∃y q,last=y::q:=by cases last with|nil=>exact absurd rfl h1|cons y q=>exact⟨y,q,rfl⟩
   subst hy
   have:=dT (fun t=>t.take 1) kp
   simp only[eK] at this
   rw[c4,List.take_succ_cons,List.take_zero] at this
   injection this with this
   subst this
   rfl
  ·rw[a5 hn,show 258+i-258=i by omega]
   rw[h2,a6 (by omega)] at kp
   exact kp
theorem BF (b:ao av)(most:a4):∀(k:a4) (l:ao av) (T:qD) (rd:a4) (fst:dC) (D:ao (ao av)) (last:ao av) (p n:a4) (out:ao av),
  l.length<k->Sync l T rd fst D last->qu b p (enc k l T rd fst)->p<=8*b.length->8*b.length<p+n->
  (out.length+l.length<=most->dec b most n p D last out=if 8*b.length<p+(enc k l T rd fst).length then(2,[]) else(0,out++l))/\
  (most<out.length+l.length->out.length<=most->p+(enc k l T rd fst).length<=8*b.length->dec b most n p D last out=(7,[]))
 |0,l,T,rd,fst,D,last,p,n,out,hk,_,_,_,_=>by omega
 |k+1,l,T,rd,fst,D,last,p,n,out,hk,hS,hH,hp,hn=>by
  obtain⟨m,rfl⟩:∃m,n=m+1:=⟨n-1,by omega⟩
  have Ny:=hS.rd
  have hwp:=uq (n:=rd) (by have:=hS.few;omega)
  have hw9:=kO rd
  by_cases hl:l=[]
  ·subst hl
   rw[BC] at hH|-
   rw[cu]
   refine⟨fun _=> ?_,fun h1 h2 _=>by simp at h1;omega⟩
   by_cases c1:8*b.length<p+width rd
   ·rw[bb c1];exact nA (by rw[<-Ny];exact c1)
   ·rw[a5 c1,dt]
    exact xR (by rw[<-Ny];exact c1) (by rw[<-Ny];exact uo hH (by omega) hwp.2)
  ·obtain⟨q,hq⟩:∃q,q=db l T (1,((l.getD 0 0).toNat:bn)):=⟨_,rfl⟩
   obtain⟨r1,r2,r3,r4,r5,r6,r7,r8⟩:=hS.row hl hq
   have hF:=hS.Xb.found hl
   rw[<-hq] at hF
   obtain⟨c,hc⟩:∃c,c=q.2.toNat:=⟨_,rfl⟩
   rw[<-hc] at r1 r2 r3 r4
   obtain⟨x,hx⟩:∃x,x=l.take q.1:=⟨_,rfl⟩
   have uM:x.length=q.1:=by rw[hx,List.length_take];omega
   have Bo:x≠[]:=by intro e;rw[e] at uM;simp at uM;omega
   have YY:x++l.drop q.1=l:=by rw[hx];exact List.take_append_drop _ _
   have wJ:x.length+(l.drop q.1).length=l.length:=by rw[<-a0,YY]
   rw[<-hx] at r4 r7
   have ZI:=hS.Xb.len
   have hDl:(grow D last x).length=T.length:=by rw[r7,cf]
   obtain⟨R,hR,aio⟩:∃R,enc (k+1) l T rd fst=dw c (width rd)++R/\
     ∀(m:a4),qu b (p+width rd) R->p+width rd<=8*b.length->8*b.length<p+width rd+m->
      ((out++x).length+(l.drop q.1).length<=most->dec b most m (p+width rd) (grow D last x) x (out++x)=if 8*b.length<p+width rd+R.length then(2,[]) else(0,out++l))/\
      (most<(out++x).length+(l.drop q.1).length->(out++x).length<=most->p+width rd+R.length<=8*b.length->dec b most m (p+width rd) (grow D last x) x (out++x)=(7,[])):=by
    by_cases bd:q.1<l.length
    ·by_cases jS:258+T.length=4095
     ·refine⟨_,by rw[zn hl hq bd jS,<-hc],?_⟩
      intro m hH2 Ns g9
      obtain⟨m,rfl⟩:∃j,m=j+1:=⟨m-1,by omega⟩
      have e8:258+(grow D last x).length=mf rd fst:=by rw[hDl,r8]
      have ast:=uq (n:=mf rd fst) (by omega)
      by_cases c1:8*b.length<p+width rd+width (mf rd fst)
      ·rw[nA (by rw[e8];exact c1)]
       rw[@a0 _ (dw 256 _),cu]
       exact⟨fun _=>by rw[bb (by omega)],fun _ _ _=>by omega⟩
      ·have hb:=uo hH2.left (by omega) (c:=256) (by omega)
       have hH3:=hH2.right
       rw[cu] at hH3
       rw[zz (by rw[e8];exact c1) (by rw[e8];exact hb),e8]
       have ih:=BF b most k (l.drop q.1) [] 258 true [] [] (p+width rd+width (mf rd fst)) m (out++x) (by omega) ⟨Good.nil,Num.nil,rfl,by simp,fun _=>⟨rfl,rfl,rfl⟩,fun e=>by cases e⟩ hH3 (by omega) (by have:=kO (mf rd fst);omega)
       rw[ca,YY] at ih
       rw[@a0 _ (dw 256 _),cu,<-cp]
       exact ih
     ·refine⟨_,by rw[DH hl hq bd jS,<-hc],?_⟩
      intro m hH2 Ns g9
      have ih:=BF b most k (l.drop q.1) (T++[(l.take (q.1+1),((258+T.length:a4):bn))]) (mf rd fst) false (grow D last x) x (p+width rd) m (out++x) (by omega)
       ⟨hF.more bd jS,hS.num.snoc _,by rw[r8,hDl],by omega,(fun e=>by cases e),fun _=>⟨Bo,fun _=>by rw[List.map_append,r7,qd bd,<-hx];rfl⟩⟩ hH2 Ns g9
      rw[ca,YY] at ih
      exact ih
    ·have hd0:l.drop q.1=[]:=List.drop_eq_nil_of_le (by omega)
     refine⟨_,by rw[Jf hl hq bd,<-hc],?_⟩
     intro m hH2 Ns g9
     have ih:=BF b most k (l.drop q.1) T (mf rd fst) false (grow D last x) x (p+width rd) m (out++x) (by omega)
      ⟨hS.Xb,hS.num,by rw[r8,hDl],by omega,(fun e=>by cases e),fun _=>⟨Bo,fun e=>absurd hd0 e⟩⟩ hH2 Ns g9
     rw[ca,YY] at ih
     exact ih
   rw[hR] at hH|-
   rw[a0,cu]
   by_cases c1:8*b.length<p+width rd
   ·rw[nA (by rw[<-Ny];exact c1)]
    exact⟨fun _=>by rw[bb (by omega)],fun _ _ _=>by omega⟩
   ·have hb:=uo hH.left (by omega) r1
    have hH2:=hH.right
    rw[cu] at hH2
    rw[uh (by rw[<-Ny];exact c1) (by rw[<-Ny];exact hb) r3 r2,r4]
    simp only
    rw[<-Ny]
    obtain⟨i1,i2⟩:=aio m hH2 (by omega) (by omega)
    rw[a0] at i1 i2
    rw[<-cp]
    refine⟨fun hm=> ?_,fun hm1 hm2 hm3=> ?_⟩
    ·rw[a5 (by omega)];exact i1 (by omega)
    ·by_cases c2:most<out.length+x.length
     ·rw[bb c2]
     ·rw[a5 c2];exact i2 (by omega) (by omega) hm3
theorem Tw (b:ao av)(i:a4):(lH b).getD i 0<2:=by
 by_cases h:i<(lH b).length
 ·rw[af,cb h,Option.getD_some]
  exact LD b _ (List.getElem_mem _)
 ·rw[af,List.getElem?_eq_none (by omega)];simp
theorem Eb (b:ao av):(E5 b).length=((lH b).length+7)/8:=oY _ _ (cm _)
theorem O5 {b e:ao av}(h:∀i,i<(lH b).length->i<8*e.length->mj e i=mj (E5 b) i):qu e 0 (lH b):=fun i hi he=>by
 rw[cx] at he|-
 rw[h i hi he]
 have:=L7 _ (lH b) [] (cm _) (Tw b) i hi
 rw[dt] at this
 exact this
theorem Xc {b e:ao av}{most:a4}(hH:qu e 0 (lH b)):
  (b.length<=most->vi e most=if 8*e.length<(lH b).length then(2,[]) else(0,b))/\(most<b.length->(lH b).length<=8*e.length->vi e most=(7,[])):=by
 have h1:=hH.left
 have h2:=hH.right
 rw[cu] at h2
 unfold vi
 have Vh:(lH b).length=9+(enc (b.length+1) b [] 258 true).length:=by unfold lH;rw[a0,cu]
 by_cases c1:8*e.length<0+width (258+([]:ao (ao av)).length)
 ·have c9:8*e.length<9:=by simpa [width] using c1
  rw[nA c1]
  exact⟨fun _=>by rw[bb (by omega)],fun _ _=>by omega⟩
 ·have c9:¬8*e.length<9:=by simpa [width] using c1
  have hb:=uo h1 (by omega) (by decide)
  rw[zz c1 hb]
  have ih:=BF e most (b.length+1) b [] 258 true [] [] (0+9) (8*e.length) [] (by omega) ⟨Good.nil,Num.nil,rfl,by simp,fun _=>⟨rfl,rfl,rfl⟩,fun e=>by cases e⟩ h2 (by omega) (by omega)
  rw[Vh]
  simp only[List.length_nil,cx,dc] at ih|-
  exact⟨ih.1,fun a b=>ih.2 a (by omega) (by omega)⟩
theorem Jx {a m:ao av}{i:a4}(h:i<8*a.length):mj (a++m) i=mj a i:=by
 unfold mj
 rw[af,af,a6 (by omega)]
theorem O6 (b more:ao av){most:a4}(h:b.length<=most):vi (E5 b++more) most=(0,b):=by
 have hl:=Eb b
 have hH:qu (E5 b++more) 0 (lH b):=O5 (fun i hi _=>Jx (by omega))
 rw[(Xc hH).1 h,a5 (by rw[a0];omega)]
end Go.Cl.Lz
