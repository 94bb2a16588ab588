import Derived.Test.YtdfjfncifneocaaGreatPrA
open _root_ renaming reduceIte->ab,eq_false->an,eq_true->aC,Int->bb,Nat->bl,List->b7,and_self->ca,true_and->cb
open Go.Proofs.Tryz renaming prog->af,underlying22->ao,underlying23->av,underlying24->ax,underlying9->bt,results59->b4,results11->b8,results58->cc,results60->cd
open List renaming length_cons->aF,length_nil->a0,getElem_mem->a3,getD_eq_getElem?_getD->bk,take_length->b5
open Nat renaming reduceAdd->aR,add_zero->bw,sub_self->bz,le_refl->cg
open Int renaming toNat_natCast->a8,reduceEq->bA
open Go renaming Value->bq
open Nat renaming reduceLT->QM,reduceEqDiff->WP
set_option maxHeartbeats 16000000
set_option linter.unusedSimpArgs false
set_option linter.unusedVariables false
set_option maxRecDepth 100000
namespace Go.Proofs.YtdfjfncifneocaaGreat
open Go.Cl
def ZV (most:bb)(s:au)(o:O)(v:bq)(s' :au):Prop:=adW (Small o/\o.bytes.length<=3000) v/\aw s.next s s'
theorem Sl {lib:aD}(qN:lib.at 11=none)(most:bb)(hm:most<=100000):∀(N:bl) (o:O),SizeOf.sizeOf o<=N->∀(F:bl->Prop) (s:au) (cs:b7 bq) (depth:bb),dV F s cs o->Fit o-> -1<=depth->depth<=1000->
  Runs af lib 11 [.agg cs.toArray,.int .i64 depth,.int .i64 most] s (ZV most s o):=by
 intro N
 induction N with
 |zero=>intro o h;cases o;simp at h
 |succ N ih=>
 intro o hN F s cs depth ho gm hd0 yp;cases o with
 |mk kind num b l d=>
 obtain⟨bv,lv,dv,lc,dc,rfl,hb,hL,hD,fb,fl,fd,rl,rd⟩:=ho.parts;cases gm with
 |mk hfb hfl hfd hfK hfL hfD=>
 refine Runs.enter 73 Tryz.func11 rfl qN rfl rfl ?_;intro f hn hf;have h0:f.get 0= .agg #[.int .i64 kind,.int .i64 num,bv,lv,dv]:=hf 0;have h1:f.get 1= .int .i64 depth:=hf 1;have h2:f.get 2= .int .i64 most:=hf 2;clear hf;simp only[aj,QM,↓ab,hn,h0];refine aA ?_;intro s1 eJ aY gG;have l2:aN af s1 22 (.pointer (some ⟨s.next,2,some 6⟩))=some bv:=eJ.load gJ (off:=2) (c:=6) rfl (by simp);have l3:aN af s1 23 (.pointer (some ⟨s.next,3,some 6⟩))=some lv:=eJ.load Ad (off:=3) (c:=6) rfl (by simp);have l4:aN af s1 24 (.pointer (some ⟨s.next,4,some 6⟩))=some dv:=eJ.load yQ (off:=4) (c:=6) rfl (by simp);have fp:=hb.keeps aY;have Wb:=hL.keeps aY;have Su:=hD.keeps aY;have BX:∀(f:aZ) (s6:au),aw s.next s s6->f.n=73->f.get 6= .bool false->L9 af Tryz.f11.results.toList (ZV most s (.mk kind num b l d)) .ret f s6:=by
  intro f s6 hs hn h6;simp only[aj,al,oneOf,QM,↓ab,hn,h6,b8];exact⟨⟨false,rfl,fun h=>by cases h⟩,hs⟩
 by_cases c1:depth<0
 ·simp only[aj,ak,QM,WP,aR,↓ab,undef,hn,h1,aF,a0,aC c1];exact BX _ _ aY (by simp only[ag,hn]) (by simp only[aa,↓ab])
 by_cases c2:((b.length:bl):bb)>3000
 ·simp only[aj,ak,ad,QM,WP,aR,↓ab,undef,hn,h1,aF,a0,an c1,M3,l2,fp.aQ ao,aC c2];exact BX _ _ aY (by simp only[ag,hn]) (by simp only[aa,↓ab])
 by_cases c3:((l.length:bl):bb)+((d.length:bl):bb)>most
 ·simp(disch:=omega)only[aj,ak,ad,QM,WP,aR,↓ab,hn,h1,h2,aF,a0,an c1,M3,l2,fp.aQ ao,an c2,BT,BU,l3,l4,Wb.aQ av,Su.aQ ax,aB,aC c3];exact BX _ _ aY (by simp only[ag,hn]) (by simp only[aa,↓ab])
 simp(disch:=omega)only[aj,ak,ad,QM,WP,aR,↓ab,hn,h1,h2,aF,a0,an c1,M3,l2,fp.aQ ao,an c2,BT,BU,l3,l4,Wb.aQ av,Su.aQ ax,aB,an c3];refine Comes.bD (fun z f s6=>∃i:bl,z=l.length-i/\i<=l.length/\(∀x∈l.take i,Small x)/\az s6 s.next [.int .i64 kind,.int .i64 num,bv,lv,dv]/\aw s.next s s6/\f.n=73/\f.get 1= .int .i64 depth/\f.get 2= .int .i64 most/\f.get 3= .pointer (some ⟨s.next,0,some 6⟩)/\f.get 7= .int .i64 (i:bl))
  (fun z f s6=>(z= .ret/\aw s.next s s6/\f.n=73/\f.get 6= .bool false)\/(z= .exit 0/\(∀x∈l,Small x)/\az s6 s.next [.int .i64 kind,.int .i64 num,bv,lv,dv]/\aw s.next s s6/\f.n=73/\f.get 1= .int .i64 depth/\f.get 2= .int .i64 most/\f.get 3= .pointer (some ⟨s.next,0,some 6⟩)))
  ⟨0,rfl,by omega,by simp,eJ,aY,by simp only[ag,hn],by simp only[aa,↓ab,WP,h1],by simp only[aa,↓ab,WP,h2],by simp only[aa,↓ab,WP],by simp only[aa,↓ab];rfl⟩ ?_ ?_
 ·clear hn h0 h1 h2 f l2 l3 l4 fp Wb Su eJ BX;rintro Q hQ z f s6 ⟨i,rfl,hi,hS,ht,hs,hn,h1,h2,h3,h7⟩;have BW:=hL.keeps hs;have l6:aN af s6 23 (.pointer (some ⟨s.next,3,some 6⟩))=some lv:=ht.load Ad (off:=3) (c:=6) rfl (by simp);by_cases a7:i<l.length;rotate_left
  ·obtain rfl:i=l.length:=by omega
   rw[b5] at hS;have d1:¬((l.length:bl):bb)<((l.length:bl):bb):=by omega
   simp only[aj,ad,QM,WP,↓ab,hn,h3,h7,BT,l6,BW.aQ av,an d1];exact hQ _ _ _ (.inr ⟨rfl,hS,ht,hs,by simp only[aa,ag,↓ab,WP,hn,h1,h2,h3,ca]⟩)
  have d1:(i:bb)<(l.length:bb):=by omega
  simp only[aj,ad,QM,WP,↓ab,hn,h3,h7,BT,l6,BW.aQ av,aC d1];have fk:=BW.indexAddr (P:=af) (k:= .i64) (x:=(i:bb)) av kn (by omega) (by omega);rw[a8] at fk;have eF:=BW.fZ (P:=af) Bi kn a7;have tF:=(rl.row i a7).keeps hs;simp(disch:=omega)only[aj,ak,ad,QM,WP,↓ab,hn,h1,h2,fk,eF,aB];refine(ih l[i] (by have:=O.yM (k:=kind) (n:=num) (b:=b) (l:=l) (d:=d) (a3 a7);omega) F s6 _ (depth-1) tF (hfL _ (a3 a7)) (by omega) (by omega)).mono ?_;rintro _ s7 ⟨⟨t,rfl,xO⟩,zy⟩;have JC:=zy.next;have jJ:=hs.trans (zy.weaken hs.next);have htt:=ht.keeps zy;cases t with
  |false=>
   simp only[aj,QM,↓ab,hn];exact hQ _ _ _ (.inl ⟨rfl,jJ,by simp only[aa,ag,↓ab,hn,ca]⟩)
  |true=>
   simp(disch:=omega)only[aj,QM,WP,↓ab,hn,h7,aB];exact ar (l.length-(i+1)) (by omega) ⟨i+1,rfl,by omega,MW hS a7 (xO rfl).1,htt,jJ,by simp only[ag,hn],by simp only[aa,↓ab,WP,h1],by simp only[aa,↓ab,WP,h2],by simp only[aa,↓ab,WP,h3],by simp only[aa,↓ab];rfl⟩
 clear hn h0 h1 h2 f l2 l3 l4 fp Wb Su eJ;rintro z f s6 (⟨rfl,hs,hn,h6⟩|⟨rfl,hS,ht,hs,hn,h1,h2,h3⟩)
 ·simp only[aj];exact BX _ _ hs hn h6
 simp only[aj,QM,↓ab,hn];refine Comes.bD (fun z f s6=>∃i:bl,z=d.length-i/\i<=d.length/\(∀e∈d.take i,e.1.length<=100000/\Small e.2)/\az s6 s.next [.int .i64 kind,.int .i64 num,bv,lv,dv]/\aw s.next s s6/\f.n=73/\f.get 1= .int .i64 depth/\f.get 2= .int .i64 most/\f.get 3= .pointer (some ⟨s.next,0,some 6⟩)/\f.get 8= .int .i64 (i:bl))
  (fun z f s6=>(z= .ret/\aw s.next s s6/\f.n=73/\f.get 6= .bool false)\/(z= .exit 2/\(∀e∈d,e.1.length<=100000/\Small e.2)/\aw s.next s s6/\f.n=73))
  ⟨0,rfl,by omega,by simp,ht,hs,by simp only[aa,ag,↓ab,WP,hn,h1,h2,h3,cb];rfl⟩ ?_ ?_
 ·clear hn h1 h2 h3 f hs ht s6 BX;rintro Q hQ z f s6 ⟨i,rfl,hi,hK,ht,hs,hn,h1,h2,h3,h8⟩;have wz:=hD.keeps hs;have l6:aN af s6 24 (.pointer (some ⟨s.next,4,some 6⟩))=some dv:=ht.load yQ (off:=4) (c:=6) rfl (by simp);by_cases a7:i<d.length;rotate_left
  ·obtain rfl:i=d.length:=by omega
   rw[b5] at hK;have d1:¬((d.length:bl):bb)<((d.length:bl):bb):=by omega
   simp only[aj,ad,QM,WP,↓ab,hn,h3,h8,BU,l6,wz.aQ ax,an d1];exact hQ _ _ _ (.inr ⟨rfl,hK,hs,by simp only[ag,hn]⟩)
  have d1:(i:bb)<(d.length:bb):=by omega
  have fk:=wz.indexAddr (P:=af) (k:= .i64) (x:=(i:bb)) ax Bj (by omega) (by omega);rw[a8] at fk;obtain⟨q0,q1⟩:=efE wz a7;obtain⟨r,vK,fe,kP⟩:=rd.row i a7;obtain⟨hk6,Wc⟩:=Aa vK;have D4:=wz.gp (P:=af) yP a7 (j:=0) (by omega);rw[bw,hk6] at D4;have O4:=wz.uD (P:=af) Bi kn a7 (j:=1) (by omega);rw[Wc] at O4;have tF:=fe.keeps hs;by_cases c1:((d[i].1.length:bl):bb)>300
  ·simp only[aj,ak,ad,QM,WP,↓ab,undef,hn,h3,h8,BU,l6,wz.aQ ax,aC d1,fk,q0,D4,O1 bt,aC c1];exact hQ _ _ _ (.inl ⟨rfl,hs,by simp only[aa,ag,↓ab,hn,ca]⟩)
  simp(disch:=omega)only[aj,ak,ad,QM,WP,↓ab,hn,h1,h2,h3,h8,BU,l6,wz.aQ ax,aC d1,fk,q0,q1,D4,O4,O1 bt,an c1,aB];refine(ih d[i].2 (by have:=O.Cn (k:=kind) (n:=num) (b:=b) (l:=l) (d:=d) (a3 a7);omega) F s6 _ (depth-1) tF (hfD _ (a3 a7)) (by omega) (by omega)).mono ?_;rintro _ s7 ⟨⟨t,rfl,xO⟩,zy⟩;have JC:=zy.next;have jJ:=hs.trans (zy.weaken hs.next);have htt:=ht.keeps zy;cases t with
  |false=>
   simp only[aj,ak,QM,WP,↓ab,hn];exact hQ _ _ _ (.inl ⟨rfl,jJ,by simp only[aa,ag,↓ab,hn,ca]⟩)
  |true=>
   simp(disch:=omega)only[aj,ak,QM,WP,↓ab,hn,h8,aB];refine ar (d.length-(i+1)) (by omega) ⟨i+1,rfl,by omega,?_,htt,jJ,by simp only[ag,hn],by simp only[aa,↓ab,WP,h1],by simp only[aa,↓ab,WP,h2],by simp only[aa,↓ab,WP,h3],by simp only[aa,↓ab];rfl⟩;intro x hm;rw[List.take_add_one,List.getElem?_eq_getElem a7,List.mem_append] at hm;rcases hm with hm|hm
   ·exact hK x hm
   simp at hm;rw[hm];exact⟨by omega,(xO rfl).1⟩
 clear hn h1 h2 h3 f hs ht s6;rintro z f s6 (⟨rfl,hs,hn,h6⟩|⟨rfl,hK,hs,hn⟩)
 ·simp only[aj];exact BX _ _ hs hn h6
 simp only[aj,al,oneOf,QM,↓ab,hn,b8];exact⟨⟨true,rfl,fun _=>⟨.mk (by omega) (by omega) (by omega) (fun e he=>(hK e he).1) hS (fun e he=>(hK e he).2),by show b.length<=3000;omega⟩⟩,hs⟩
end Go.Proofs.YtdfjfncifneocaaGreat
namespace Go.Cl
def Fi (s:au)(v:bq)(s' :au):Prop:=(v= .bool true\/v= .bool false)/\aw s.next s s'
end Go.Cl
namespace Go.Proofs.YtdfjfncifneocaaGreat
open Go.Cl
def acu (s:au)(n:bb)(v:bq)(s' :au):Prop:=v= .bool (decide (-214748364799999<=n/\n<=214748364799999))/\s' =s
theorem YB {lib:aD}(hl:lib.at 58=none)(s:au)(n:bb):
  Runs af lib 58 [.int .i64 n] s (acu s n):=by
 refine Runs.enter 9 Tryz.func58 rfl hl rfl rfl ?_;intro f hn hf;have h0:f.get 0= .int .i64 n:=hf 0;clear hf;by_cases c1: -214748364799999<=n
 ·simp only[aj,ak,al,oneOf,QM,WP,↓ab,hn,h0,aC c1,cc];exact⟨by simp[c1],rfl⟩
 simp only[aj,ak,al,oneOf,QM,WP,↓ab,undef,hn,h0,an c1,cc];exact⟨by simp[c1],rfl⟩
theorem efO {s:au}{v:bq}{n:bl}{l:b7 bq}(h:aU s 5 v n l){k:bl}(hk:k<n):ay af 26 (aX 5 v k) 0=some (bP (aX 5 v k) 0):=by
 obtain⟨i,off,c,e,_⟩:=h.cells hk;rw[e];unfold ay;rw[Tryz.underlying26];simp[bP,aV]
theorem P4 {F:bl->Prop}{s:au}{r:b7 bq}{o:O}(h:dV F s r o):r.getD 0 undef= .int .i64 o.kind:=by
 cases o with
 |mk k n b l d=>
  obtain⟨bv,lv,dv,lc,dc,rfl,-⟩:=h.inv;rfl
theorem YC {F:bl->Prop}{s:au}{lc:b7 bq}{i:bl}{o:O}(h:dV F s ((lc.drop (i*5)).take 5) o):lc.getD (i*5) undef= .int .i64 o.kind:=by
 have e:=P4 h;rw[bk,List.getElem?_take_of_lt (by omega),List.getElem?_drop,bw] at e;rw[bk,e]
theorem alm (s:au)(k n:bb)(bv lv dv:bq):
  Runs af dR 57 [.agg #[.int .i64 k,.int .i64 n,bv,lv,dv]] s (Fi s):=by
 refine Runs.enter 11 Tryz.func57 rfl rfl rfl rfl ?_;intro f hn hf;have h0:f.get 0= .agg #[.int .i64 k,.int .i64 n,bv,lv,dv]:=hf 0;clear hf;simp only[aj,QM,↓ab,hn,h0];refine aA ?_;intro s1 eJ aY gG;have l0:aN af s1 3 (.pointer (some ⟨s.next,0,some 6⟩))=some (.int .i64 k):=eJ.load aP (off:=0) (c:=6) rfl (by simp);by_cases c7:k=7<;>simp only[aj,ak,al,oneOf,QM,WP,aR,↓ab,undef,hn,aF,a0,oi,l0,c7,Tryz.results57]
 ·exact⟨.inl rfl,aY⟩
 exact⟨by cases decide (k=8)<;>simp,aY⟩
theorem ZW (s:au)(x:bq)(b:b7 UInt8)(hx:aU s 1 x b.length (ofBytes b)):
  Runs af dR 59 [x] s fun v s' =>(v= .bool true\/v= .bool false)/\s' =s:=by
 refine Runs.enter 18 Tryz.func59 rfl rfl rfl rfl ?_;intro f hn hf;have h0:f.get 0=x:=hf 0;clear hf;by_cases c1:((b.length:bl):bb)>127
 ·simp only[aj,al,oneOf,ad,QM,WP,↓ab,hn,h0,hx.aQ ao,aC c1,b4];exact .inr trivial
 simp only[aj,ad,QM,WP,↓ab,hn,h0,hx.aQ ao,an c1];refine Comes.de (fun z f s' =>∃i:bl,z=b.length-i/\i<=b.length/\s' =s/\f.n=18/\f.get 0=x/\f.get 3= .int .i64 (i:bl))
  ⟨0,rfl,by omega,rfl,by simp only[aa,ag,↓ab,WP,hn,h0,cb];rfl⟩ ?_
 clear hn h0 f;rintro z f _ ⟨i,rfl,hi,rfl,hn,h0,h3⟩;by_cases a7:i<b.length;rotate_left
 ·obtain rfl:i=b.length:=by omega
  have d1:¬((b.length:bl):bb)<((b.length:bl):bb):=by omega
  simp only[aj,al,oneOf,ad,QM,WP,↓ab,hn,h0,h3,hx.aQ ao,an d1,b4];exact .inl trivial
 have d1:((i:bl):bb)<((b.length:bl):bb):=by omega
 have fk:=hx.indexAddr (P:=af) (k:= .i64) (x:=(i:bb)) ao cO (by omega) (by omega);rw[a8] at fk;have eF:=hx.cu (P:=af) gQ a7;rw[aW a7] at eF;by_cases c2:(((b.getD i 0).toNat:bl):bb)=0
 ·simp only[aj,al,oneOf,ad,QM,WP,↓ab,hn,h0,h3,hx.aQ ao,aC d1,fk,eF,aC c2,b4];exact .inr trivial
 simp(disch:=omega)only[aj,ad,QM,WP,↓ab,hn,h0,h3,hx.aQ ao,aC d1,fk,eF,an c2,aB];exact ar (b.length-(i+1)) (by omega) ⟨i+1,rfl,by omega,rfl,by simp only[ag,hn],by simp only[aa,↓ab,WP,h0],by simp only[aa,↓ab];rfl⟩
theorem agr (F:bl->Prop)(s:au)(k n p:bb)(b:b7 UInt8)(l:b7 O)(d:b7 (b7 UInt8×O))(cs:b7 bq)(ho:dV F s cs (.mk k n b l d))(gm:Fit (.mk k n b l d))(BK:p<=1000)
  (ih:∀e∈d,∀(s' :au) (r:b7 bq),1<=p->dV F s' r e.2->Runs af dR 30 [.agg r.toArray,.int .i64 (p-1)] s' (Fi s')):
  Runs af dR 60 [.agg cs.toArray,.int .i64 p] s (Fi s):=by
 obtain⟨bv,lv,dv,lc,dc,rfl,hb,hL,hD,-,-,-,rl,rd⟩:=ho.parts;cases gm with
 |mk hfb hfl hfd hfK hfL hfD=>
 refine Runs.enter 68 Tryz.func60 rfl rfl rfl rfl ?_;intro f hn hf;have h0:f.get 0= .agg #[.int .i64 k,.int .i64 n,bv,lv,dv]:=hf 0;have h1:f.get 1= .int .i64 p:=hf 1;clear hf;simp only[aj,QM,↓ab,hn,h0];refine aA ?_;intro s1 eJ aY gG;have p2:aN af s1 22 (.pointer (some ⟨s.next,2,some 6⟩))=some bv:=eJ.load gJ (off:=2) (c:=6) rfl (by simp);have eb:=hb.keeps aY;have no:∀(f:aZ) (s6:au),aw s.next s s6->f.n=68->f.get 4= .bool false->L9 af Tryz.f60.results.toList (Fi s) .ret f s6:=by
  intro f s6 hs hn h4;simp only[aj,al,oneOf,QM,↓ab,hn,h4,cd];exact⟨.inr rfl,hs⟩
 by_cases c1:p<1
 ·simp only[aj,ak,QM,WP,aR,↓ab,undef,hn,h1,aF,a0,aC c1];exact no _ _ aY (by simp only[ag,hn]) (by simp only[aa,↓ab])
 by_cases c2:((b.length:bl):bb)>16777216
 ·simp only[aj,ak,ad,QM,WP,aR,↓ab,hn,h1,aF,a0,an c1,M3,p2,eb.aQ ao,aC c2];exact no _ _ aY (by simp only[ag,hn]) (by simp only[aa,↓ab])
 simp only[aj,ak,ad,QM,WP,aR,↓ab,hn,h1,aF,a0,an c1,M3,p2,eb.aQ ao,an c2];refine Comes.de (fun z f s6=>∃i:bl,z=d.length-i/\i<=d.length/\az s6 s.next [.int .i64 k,.int .i64 n,bv,lv,dv]/\aw s.next s s6/\f.n=68/\f.get 1= .int .i64 p/\f.get 2= .pointer (some ⟨s.next,0,some 6⟩)/\f.get 5= .int .i64 (i:bl))
  ⟨0,rfl,by omega,eJ,aY,by simp only[aa,ag,↓ab,WP,hn,h1,cb];rfl⟩ ?_
 clear hn h0 h1 f p2 eb eJ;rintro z f s6 ⟨i,rfl,hi,ht,hs,hn,h1,h2,h5⟩;have wz:=hD.keeps hs;have l6:aN af s6 24 (.pointer (some ⟨s.next,4,some 6⟩))=some dv:=ht.load yQ (off:=4) (c:=6) rfl (by simp);by_cases a7:i<d.length;rotate_left
 ·obtain rfl:i=d.length:=by omega
  have d1:¬((d.length:bl):bb)<((d.length:bl):bb):=by omega
  simp only[aj,al,oneOf,ad,QM,WP,↓ab,hn,h2,h5,BU,l6,wz.aQ ax,an d1,cd];exact⟨.inl rfl,hs⟩
 have d1:(i:bb)<(d.length:bb):=by omega
 have fk:=wz.indexAddr (P:=af) (k:= .i64) (x:=(i:bb)) ax Bj (by omega) (by omega);rw[a8] at fk;have eF:=wz.fZ (P:=af) agE Bj a7;obtain⟨r,vK,fe,kP⟩:=rd.row i a7;have xM:=fe.len;rw[vK] at eF;obtain⟨xs,r6⟩:∃xs,xs=Value.string ⟨(d[i].1).toArray⟩::r:=⟨_,rfl⟩
 rw[<-r6] at eF;have xK:xs.length=6:=by rw[r6];simp[xM]
 have TT:xs.all aT=true:=by rw[r6,List.all_cons,fe.ok];rfl
 have xh:bI (.agg xs.toArray) (.agg xs.toArray)=true:=by
  have:=fe.self;rw[r6]
  match r,xM,this with
  |[a,b,c,d,e],_,this=>
   simp[bI,fc] at this|-
   exact⟨by simp[cw],this⟩
 simp only[aj,ad,QM,WP,↓ab,hn,h2,h5,BU,l6,wz.aQ ax,aC d1,fk,eF,zE,Xb];refine aA ?_;intro s7 xO iX uK;have hd7:Hj.length+1=7:=rfl;simp only[aj,QM,WP,↓ab,hn,hd7];refine aG Bj (by decide) xO rfl rfl xK TT ?_;intro s8 xj F3 yR;have xj:az s8 s6.next xs:=xj;have pB:aw s6.next s6 s8:=iX.trans ⟨by omega,fun j hj=>yR j (by omega)⟩;have ht:=ht.keeps pB;have Yx:=hs.trans (pB.weaken hs.next);simp only[aj];obtain⟨A,hA⟩:∃A:bl->Bool,A=fun j=>decide (j<s8.next):=⟨_,rfl⟩
 have gu:∀j,A j=true->j<s8.next:=by
  intro j h;rw[hA] at h;exact of_decide_eq_true h
 have oO:∀j,j<s8.next->A j=true:=fun j h=>by rw[hA];exact decide_eq_true h
 refine LB.cN.dx A gu 2 1 (by kernel_rfl) (by kernel_rfl) ?_;have dI:=aw.spare s8 1;have QN:(spare s8 1).next=s8.next+1:=bu _ _;have L0:∀k,LA.di A (some (.pointer (some ⟨s.next,k,some 6⟩)))=true:=fun k=>LA.bN (A:=A) (i:=s.next) (oO _ ht.lt)
 have L1:∀k,LA.di A (some (.pointer (some ⟨s6.next,k,some 7⟩)))=true:=fun k=>LA.bN (A:=A) (i:=s6.next) (oO _ xj.lt)
 have l9:aN af (spare s8 1) 9 (.pointer (some ⟨s6.next,0,some 7⟩))=some (.string ⟨(d[i].1).toArray⟩):=by
  have:=(xj.keeps dI).load (P:=af) yP (off:=0) (c:=7) (by rw[xK]) (by omega);rw[this,r6];rfl
 have tc:jV af 9 22=true:=by kernel_rfl
 simp only[aj,bg,bn,QM,↓ab,hn,II,L1,l9,Hi bt ao Tryz.underlying5 kP,ao,tc];refine LB.bR (base:=s8.next) (by rw[eW,Nat.mul_one]) (by omega) (cg _) ?_;intro bs s9 nj fM ot akF aqH;simp only[aj,ak,bn,Nat.add_one_sub_one,ad,QM,WP,↓ab,hn];refine(ZW s9 bs d[i].1 nj.aL).mono ?_;rintro _ sa ⟨rfl|rfl,rfl⟩;rotate_left
 ·refine⟨fun _=>LA.aw.qI gu (aw.refl _ _),?_⟩;simp only[aj,ak,bg,bn,bz,QM,WP,↓ab,undef,hn];exact no _ _ (Yx.trans ((dI.trans ot).weaken Yx.next)) (by simp only[ag,hn]) (by simp only[aa,↓ab])
 have Oy:aw s8.next s8 sa:=dI.trans ot;have vV:aw s.next s sa:=Yx.trans (Oy.weaken Yx.next);have QO:=ht.keeps Oy;have acv:=xj.keeps Oy;have hD8:=hD.keeps Yx;have hDa:=hD.keeps vV;have m9:aN af sa 9 (.pointer (some ⟨s6.next,0,some 7⟩))=some (.string ⟨(d[i].1).toArray⟩):=by
  have:=acv.load (P:=af) yP (off:=0) (c:=7) (by rw[xK]) (by omega);rw[this,r6];rfl
 have m1:aN af sa 26 (.pointer (some ⟨s6.next,1,some 7⟩))=some (.agg r.toArray):=by
  have:=az.qc (P:=af) Bi kn acv (off:=1) (c:=7) (by rw[xK]) (by omega);rw[this,r6,List.drop_succ_cons,List.drop_zero,List.take_of_length_le (by omega)]
 have mk:aN af sa 3 (.pointer (some ⟨s6.next,1,some 7⟩))=some (.int .i64 d[i].2.kind):=by
  have:=acv.load (P:=af) aP (off:=1) (c:=7) (by rw[xK]) (by omega);rw[this,r6];exact congrArg some (P4 fe)
 have m6:aN af sa 24 (.pointer (some ⟨s.next,4,some 6⟩))=some dv:=QO.load yQ (off:=4) (c:=6) rfl (by simp);have hoa:=fe.keeps vV;refine⟨fun _=>LA.aw.qI gu (aw.refl _ _),?_⟩;obtain⟨G,hG⟩:∃G,G=(Op.bytesLess d[i].1 d[i-1].1||d[i].1==d[i-1].1):=⟨_,rfl⟩
 have back:0<i->bK af 24 dv (.int .i64 ((i:bb)-1))=some (aX 6 dv (i-1))/\aN af sa 9 (bP (aX 6 dv (i-1)) 0)=some (.string ⟨d[i-1].1.toArray⟩)/\ay af 63 (aX 6 dv (i-1)) 0=some (bP (aX 6 dv (i-1)) 0)/\LA.di A (some (bP (aX 6 dv (i-1)) 0))=true:=fun i0=>by
  have qL:i-1<d.length:=by omega
  have ZU:=hDa.indexAddr (P:=af) (k:= .i64) (x:=(i:bb)-1) ax Bj (by omega) (by omega);rw[show((i:bb)-1).toNat=i-1 by omega] at ZU;obtain⟨r',e1,e2,e3⟩:=rd.row (i-1) qL;obtain⟨a1,a2⟩:=Aa e1;have D4:=hDa.gp (P:=af) yP qL (j:=0) (by omega);rw[bw,a1] at D4;exact⟨ZU,D4,(efE hDa qL).1,LA.z9 (j:=0) hD8 oO qL⟩
 have aqJ:0<i->((i:bl):bb)-1=((i:bl):bb)-1:=fun _=>rfl
 by_cases i0:(0:bb)<((i:bl):bb)
 ·obtain⟨ZU,D4,q0,y9⟩:=back (by omega);cases G with
  |true=>
   simp(disch:=omega)only[aj,ak,bg,bn,bz,QM,WP,↓ab,undef,hn,h2,h5,BU,II,L0,L1,m9,m6,aC i0,hDa.self,ZU,q0,D4,y9,O5,<-hG,kl,aB];exact no _ _ vV (by simp only[ag,hn]) (by simp only[aa,↓ab])
  |false=>
  by_cases k8:d[i].2.kind=8<;>by_cases k0:d[i].2.kind=0<;>simp(disch:=omega)only[aj,ak,bg,bn,bz,ad,QM,WP,aR,↓ab,undef,hn,h1,h2,h5,BU,oi,II,F4,L0,L1,m9,m6,mk,m1,aC i0,hDa.self,ZU,q0,D4,y9,O5,<-hG,kl,k8,k0,bA,hoa.self,aB]
  ·exact no _ _ vV (by simp only[ag,hn]) (by simp only[aa,↓ab])
  ·exact no _ _ vV (by simp only[ag,hn]) (by simp only[aa,↓ab])
  ·exact no _ _ vV (by simp only[ag,hn]) (by simp only[aa,↓ab])
  refine(ih _ (a3 a7) sa r (by omega) hoa).mono ?_;rintro _ sb ⟨rfl|rfl,vq⟩
  ·refine⟨fun _=>LA.aw.qI gu (vq.weaken Oy.next),?_⟩;simp(disch:=omega)only[aj,bg,bn,QM,WP,↓ab,hn,h5,aB];exact ar (d.length-(i+1)) (by omega) ⟨i+1,rfl,by omega,QO.keeps vq,vV.trans (vq.weaken vV.next),by simp only[ag,hn],by simp only[aa,↓ab,WP,h1],by simp only[aa,↓ab,WP,h2],by simp only[aa,↓ab];rfl⟩
  refine⟨fun _=>LA.aw.qI gu (vq.weaken Oy.next),?_⟩;simp only[aj,bg,bn,QM,WP,↓ab,hn];exact no _ _ (vV.trans (vq.weaken vV.next)) (by simp only[ag,hn]) (by simp only[aa,↓ab])
 skip
 by_cases k8:d[i].2.kind=8<;>by_cases k0:d[i].2.kind=0<;>simp(disch:=omega)only[aj,ak,bg,bn,bz,ad,QM,WP,aR,↓ab,undef,hn,h1,h5,oi,F4,L1,mk,m1,an i0,k8,k0,bA,hoa.self,aB]
 ·exact no _ _ vV (by simp only[ag,hn]) (by simp only[aa,↓ab])
 ·exact no _ _ vV (by simp only[ag,hn]) (by simp only[aa,↓ab])
 ·exact no _ _ vV (by simp only[ag,hn]) (by simp only[aa,↓ab])
 refine(ih _ (a3 a7) sa r (by omega) hoa).mono ?_;rintro _ sb ⟨rfl|rfl,vq⟩
 ·refine⟨fun _=>LA.aw.qI gu (vq.weaken Oy.next),?_⟩;simp(disch:=omega)only[aj,bg,bn,QM,WP,↓ab,hn,h5,aB];exact ar (d.length-(i+1)) (by omega) ⟨i+1,rfl,by omega,QO.keeps vq,vV.trans (vq.weaken vV.next),by simp only[ag,hn],by simp only[aa,↓ab,WP,h1],by simp only[aa,↓ab,WP,h2],by simp only[aa,↓ab];rfl⟩
 refine⟨fun _=>LA.aw.qI gu (vq.weaken Oy.next),?_⟩;simp only[aj,bg,bn,QM,WP,↓ab,hn];exact no _ _ (vV.trans (vq.weaken vV.next)) (by simp only[ag,hn]) (by simp only[aa,↓ab])
theorem aln:∀(N:bl) (o:O),SizeOf.sizeOf o<=N->∀(F:bl->Prop) (s:au) (cs:b7 bq) (p:bb),dV F s cs o->Fit o->p<=1000->0<=p->
  Runs af dR 30 [.agg cs.toArray,.int .i64 p] s (Fi s):=by
 intro N
 induction N with
 |zero=>intro o h;cases o;simp at h
 |succ N ih=>
 intro o hN F s cs p ho gm BK hp0;cases o with
 |mk k n b l d=>
 obtain⟨bv,lv,dv,lc,dc,rfl,hb,hL,hD,-,-,-,rl,rd⟩:=ho.parts;obtain⟨QQ,eK⟩:∃QQ:bq->au->Prop,QQ=Fi s:=⟨_,rfl⟩
 rw[<-eK];refine Runs.enter 143 Tryz.func30 rfl rfl rfl rfl ?_;intro f hn hf;have h0:f.get 0= .agg #[.int .i64 k,.int .i64 n,bv,lv,dv]:=hf 0;have h1:f.get 1= .int .i64 p:=hf 1;clear hf;simp only[aj,QM,↓ab,hn,h0];refine aA ?_;intro s1 eJ aY gG;have la:=az.bd (P:=af) (cs:=[.int .i64 k,.int .i64 n,bv,lv,dv]) Bi kn eJ (c:=6) rfl;simp only[aj,ak,ad,QM,WP,aR,↓ab,hn,aF,a0,la];refine(alm s1 k n bv lv dv).mono ?_;intro v s2 Hh;obtain⟨⟨H,rfl⟩,dA⟩:(∃H,v= .bool H)/\aw s1.next s1 s2:=⟨Hh.1.elim (fun h=>⟨_,h⟩) (fun h=>⟨_,h⟩),Hh.2⟩;have vm:=aY.trans (dA.weaken aY.next);have dK:=eJ.keeps dA;have p0:aN af s2 3 (.pointer (some ⟨s.next,0,some 6⟩))=some (.int .i64 k):=dK.load aP (off:=0) (c:=6) rfl (by simp);have p1:aN af s2 2 (.pointer (some ⟨s.next,1,some 6⟩))=some (.int .i64 n):=dK.load Kr (off:=1) (c:=6) rfl (by simp);have p2:aN af s2 22 (.pointer (some ⟨s.next,2,some 6⟩))=some bv:=dK.load gJ (off:=2) (c:=6) rfl (by simp);have p3:aN af s2 23 (.pointer (some ⟨s.next,3,some 6⟩))=some lv:=dK.load Ad (off:=3) (c:=6) rfl (by simp);have p4:aN af s2 24 (.pointer (some ⟨s.next,4,some 6⟩))=some dv:=dK.load yQ (off:=4) (c:=6) rfl (by simp);have la2:=az.bd (P:=af) (cs:=[.int .i64 k,.int .i64 n,bv,lv,dv]) Bi kn dK (c:=6) rfl;have eb:=hb.keeps vm;have eL:=hL.aQ (P:=af) av (s2:=s2);have eD:=hD.aQ (P:=af) ax (s2:=s2);have eB:=eb.aQ (P:=af) ao (s2:=s2);have vW:∀(f:aZ) (s6:au) (t:Bool),aw s.next s s6->f.n=143->f.get 4= .bool t->L9 af Tryz.f30.results.toList QQ .ret f s6:=by
  intro f s6 t hs hn h4;simp only[aj,al,oneOf,QM,↓ab,hn,h4,Tryz.results30];rw[eK];exact⟨by cases t<;>simp,hs⟩
 simp only[aj,ak,ad,QM,WP,↓ab,hn,BT,p3,eL];refine oY (fun f' s' =>s' =s2/\f'.n=143/\f'.get 1= .int .i64 p/\f'.get 2= .pointer (some ⟨s.next,0,some 6⟩)/\(f'.get 48= .bool true\/f'.get 48= .bool false)) ?_ ?_
 ·intro Q' hQ;by_cases cL:(0:bb)<((l.length:bl):bb)<;>by_cases cD:(0:bb)<((d.length:bl):bb)<;>cases H<;>by_cases cB:(0:bb)<((b.length:bl):bb)<;>by_cases c6:k=6<;>by_cases c4:k=4<;>by_cases c5:k=5<;>by_cases c8:k=8<;>
   first
   |omega
   |(simp only[aj,ak,ad,QM,WP,↓ab,undef,hn,oi,M3,BU,p0,p2,p4,eD,eB,bA,cL,c6,cD,cB,c4,c5,c8]
     refine hQ _ _ ⟨rfl,by simp only[ag,hn],by simp only[aa,↓ab,WP,h1],by simp only[aa,↓ab,WP],?_⟩;simp only[aa,↓ab];simp)
 clear hn h0 h1 f;rintro f s3 ⟨rfl,hn,h1,h2,oJ|oJ⟩
 ·simp only[aj,QM,↓ab,hn,oJ];exact vW _ _ _ vm (by simp only[ag,hn]) (by simp only[aa,↓ab];rfl)
 by_cases c1:k=1
 ·by_cases d0:n=0<;>(
   simp only[aj,ak,QM,WP,↓ab,undef,hn,h2,oJ,oi,Wa,p0,p1,aC c1,d0];exact vW _ _ _ vm (by simp only[ag,hn]) (by simp only[aa,↓ab];rfl))
 by_cases c2:k=2
 ·by_cases d0: -2147483647<=n<;>(
   simp only[aj,ak,QM,WP,↓ab,undef,hn,h2,oJ,oi,Wa,p0,p1,an c1,aC c2,d0];exact vW _ _ _ vm (by simp only[ag,hn]) (by simp only[aa,↓ab];rfl))
 by_cases c3:k=3
 ·simp only[aj,ak,ad,QM,WP,↓ab,hn,h2,oJ,oi,Wa,p0,p1,an c1,an c2,aC c3];refine(YB rfl s3 n).mono ?_;rintro _ _ ⟨rfl,rfl⟩;simp only[aj,QM,↓ab,hn];exact vW _ _ _ vm (by simp only[ag,hn]) (by simp only[aa,↓ab];rfl)
 by_cases c9:k=9
 ·by_cases d0:1<=n<;>(
   simp only[aj,ak,QM,WP,↓ab,undef,hn,h2,oJ,oi,Wa,p0,p1,an c1,an c2,an c3,aC c9,d0];exact vW _ _ _ vm (by simp only[ag,hn]) (by simp only[aa,↓ab];rfl))
 by_cases hz:n=0;rotate_left
 ·simp only[aj,ak,QM,WP,↓ab,hn,h2,oJ,oi,Wa,p0,p1,an c1,an c2,an c3,an c9,an hz];exact vW _ _ _ vm (by simp only[ag,hn]) (by simp only[aa,↓ab];rfl)
 simp only[aj,ak,QM,WP,↓ab,hn,h2,oJ,oi,Wa,p0,p1,an c1,an c2,an c3,an c9,aC hz];by_cases c0:k=0
 ·simp only[aj,QM,↓ab,hn,aC c0];exact vW _ _ _ vm (by simp only[ag,hn]) (by simp only[aa,↓ab];rfl)
 by_cases c4:k=4
 ·simp only[aj,ad,QM,WP,↓ab,hn,h2,M3,p2,eB,an c0,aC c4];exact vW _ _ _ vm (by simp only[ag,hn]) (by simp only[aa,↓ab];rfl)
 by_cases c5:k=5
 ·simp only[aj,ak,ad,QM,WP,↓ab,hn,h2,M3,p2,an c0,an c4,aC c5];refine(ZW s3 bv b eb).mono ?_;rintro _ _ ⟨rfl|rfl,rfl⟩<;>(
   simp only[aj,QM,↓ab,hn];exact vW _ _ _ vm (by simp only[ag,hn]) (by simp only[aa,↓ab];rfl))
 by_cases c6:k=6
 ·simp only[aj,QM,WP,↓ab,hn,an c0,an c4,an c5,aC c6];refine Comes.de (fun z f s6=>∃i:bl,z=l.length-i/\i<=l.length/\az s6 s.next [.int .i64 k,.int .i64 n,bv,lv,dv]/\aw s.next s s6/\f.n=143/\f.get 1= .int .i64 p/\f.get 2= .pointer (some ⟨s.next,0,some 6⟩)/\f.get 6= .int .i64 (i:bl))
   ⟨0,rfl,by omega,dK,vm,by simp only[aa,ag,↓ab,WP,hn,h1,h2,cb];rfl⟩ ?_
  clear hn h1 h2 oJ f p0 p1 p2 p3 p4 la la2 eL eD eB;rintro z f s6 ⟨i,rfl,hi,ht,hs,hn,h1,h2,h6⟩;have BW:=hL.keeps hs;have l6:aN af s6 23 (.pointer (some ⟨s.next,3,some 6⟩))=some lv:=ht.load Ad (off:=3) (c:=6) rfl (by simp);by_cases a7:i<l.length;rotate_left
  ·obtain rfl:i=l.length:=by omega
   have d1:¬((l.length:bl):bb)<((l.length:bl):bb):=by omega
   simp only[aj,ad,QM,WP,↓ab,hn,h1,h2,h6,BT,l6,BW.aQ av,an d1];exact vW _ _ _ hs (by simp only[ag,hn]) (by simp only[aa,↓ab];rfl)
  have d1:(i:bb)<(l.length:bb):=by omega
  have hfl:l.length<=140737488351232:=by cases gm with|mk h1 h2=>omega
  have fk:=BW.indexAddr (P:=af) (k:= .i64) (x:=(i:bb)) av kn (by omega) (by omega);rw[a8] at fk;have eF:=BW.fZ (P:=af) Bi kn a7;have tF:=(rl.row i a7).keeps hs;have D4:=BW.gp (P:=af) aP a7 (j:=0) (by omega);rw[bw,YC tF] at D4;have OO:=efO BW a7;by_cases k8:l[i].kind=8
  ·simp only[aj,ak,ad,QM,WP,↓ab,undef,hn,h2,h6,BT,l6,BW.aQ av,aC d1,fk,OO,D4,aC k8];exact vW _ _ _ hs (by simp only[ag,hn]) (by simp only[aa,↓ab];rfl)
  by_cases kp:p<1
  ·simp only[aj,ak,ad,QM,WP,↓ab,undef,hn,h1,h2,h6,BT,l6,BW.aQ av,aC d1,fk,OO,D4,an k8,aC kp];exact vW _ _ _ hs (by simp only[ag,hn]) (by simp only[aa,↓ab];rfl)
  simp(disch:=omega)only[aj,ak,ad,QM,WP,↓ab,hn,h1,h2,h6,BT,l6,BW.aQ av,aC d1,fk,OO,D4,eF,an k8,an kp,aB];refine(ih l[i] (by have:=O.yM (k:=k) (n:=n) (b:=b) (l:=l) (d:=d) (a3 a7);omega) F s6 _ (p-1) tF (by cases gm with|mk _ _ _ _ h5=>exact h5 _ (a3 a7)) (by omega) (by omega)).mono ?_;rintro _ s7 ⟨rfl|rfl,zy⟩
  ·simp(disch:=omega)only[aj,ak,QM,WP,↓ab,hn,h6,aB];exact ar (l.length-(i+1)) (by omega) ⟨i+1,rfl,by omega,ht.keeps zy,hs.trans (zy.weaken hs.next),by simp only[ag,hn],by simp only[aa,↓ab,WP,h1],by simp only[aa,↓ab,WP,h2],by simp only[aa,↓ab];rfl⟩
  simp only[aj,ak,QM,WP,↓ab,hn];exact vW _ _ _ (hs.trans (zy.weaken hs.next)) (by simp only[ag,hn]) (by simp only[aa,↓ab];rfl)
 have ZX:=agr F s3 k n p b l d _ (ho.keeps vm) gm BK (fun e he s' r hp hr=>ih e.2 (by have:=O.Cn (k:=k) (n:=n) (b:=b) (l:=l) (d:=d) he;omega) F s' r (p-1) hr (by cases gm with|mk _ _ _ _ _ h6=>exact h6 _ he) (by omega) (by omega));by_cases c7:k=7<;>by_cases c8:k=8<;>simp only[aj,ak,ad,QM,WP,↓ab,hn,h1,h2,la2,an c0,an c4,an c5,an c6,c7,c8,bA]
 ·omega
 ·subst c7;refine ZX.mono ?_;rintro _ s7 ⟨rfl|rfl,zy⟩<;>(
   simp only[aj,QM,↓ab,hn];exact vW _ _ _ (vm.trans (zy.weaken vm.next)) (by simp only[ag,hn]) (by simp only[aa,↓ab];rfl))
 ·subst c8;refine ZX.mono ?_;rintro _ s7 ⟨rfl|rfl,zy⟩<;>(
   simp only[aj,QM,↓ab,hn];exact vW _ _ _ (vm.trans (zy.weaken vm.next)) (by simp only[ag,hn]) (by simp only[aa,↓ab];rfl))
 exact vW _ _ _ vm (by simp only[ag,hn]) (by simp only[aa,↓ab];rfl)
theorem YD (F:bl->Prop)(s:au)(cs:b7 bq)(o:O)(ho:dV F s cs o)(gm:Fit o):
  Runs af dR 10 [.agg cs.toArray] s (Fi s):=by
 have iz:=ho.len;refine Runs.enter 5 Tryz.func10 rfl rfl rfl rfl ?_;intro f hn hf;have h0:f.get 0= .agg cs.toArray:=hf 0;clear hf;simp only[aj,QM,↓ab,hn,h0];refine aA ?_;intro s1 eJ aY gG;have la:aN af s1 26 (.pointer (some ⟨s.next,0,some (cs.length+1)⟩))=some (.agg cs.toArray):=az.bd (P:=af) Bi (by rw[iz];exact kn) eJ rfl;simp only[aj,ak,ad,QM,WP,↓ab,hn,la];refine(aln _ o (cg _) F s1 cs 28 (ho.keeps aY) gm (by omega) (by omega)).mono ?_;rintro v s2 ⟨h,dA⟩;simp only[aj,al,oneOf,QM,↓ab,hn,Tryz.results10];exact⟨h,aY.trans (dA.weaken aY.next)⟩
end Go.Proofs.YtdfjfncifneocaaGreat