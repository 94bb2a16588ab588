/-
 Differences: what rows become, in plain words.
-/
import Derived.Test.YtgpmffbleaphkaaGreatScon
open Go.Proofs.Tryz renaming prog->Se,underlying22->Sp,underlying131->SE,underlying5->SR,results110->SU,results156->SV,results128->SW,results92->SX,results147->S6,underlying168->Ta,results96->Td,underlying97->Te,underlying85->Tf,underlying99->Ti,underlying3->Tl,underlying202->Tu,underlying125->Tx,results164->TN
open _root_ renaming UInt8->Sf,List->Sg,Nat->Sh,Int->Si,eq_true->Sj,if_neg->Sr,reduceIte->St,decide_eq_false->SB,if_pos->SD,Option->Tp,if_true->Ts,if_false->TC,Bool->TQ
open Int renaming toNat_natCast->Sk,fdiv_eq_ediv_of_nonneg->SO,tdiv_eq_ediv_of_nonneg->Tb,tmod_eq_emod_of_nonneg->Tc,pow_nonneg->Tq
open BitVec renaming ofInt->Sl,toNat_ofNat->Sv,ofInt_natCast->Sx,toNat_and->TF,toNat_or->TO
open List renaming length_append->Sm,getD_eq_getElem?_getD->Sn,replicate->Su,drop_eq_nil_of_le->Sy,getElem?_eq_getElem->SH,take_append_of_le_length->SJ,take_of_length_le->SL,nil_append->SM,take_zero->SN,length_drop->SP,take_succ_cons->SS,drop_zero->SY,append_assoc->SZ,length_replicate->S0,drop_append->S2,range->S9,getElem?_take_of_lt->Tk,ext_getElem->Tm,getElem?_drop->Tt,getElem_range->Tw,getElem_set->TH,getElem_map->TI,take_length->TJ,length_cons->TK,append_nil->TP,drop_drop->TR,getD->TX
open Go renaming Value->So,Program->SI,TypeId->S1,IntKind->Tg,Oper->TW
open Nat renaming reduceEqDiff->Sq,mod_eq_of_lt->Sw,reduceLT->SF,pow_le_pow_right->SG,ble_eq->S3,shiftLeft_add_eq_or_of_lt->S5,sub_self->S7,beq->S8,le_refl->Th,ble->Tj,le_trans->Tn,mod_lt->To,mul_le_mul_right->Tr,lt_of_lt_of_le->Tv,mul_comm->Ty,pow_succ->TB,zero_mul->TD,shiftLeft_eq->TG,mul_one->TL,beq_eq->TS,succ_mul->TT,zero_add->TU,one_mul->TV
open Go.IntKind renaming i64->Ss,u8->SA,u32->SC,u64->S4,wrap->Tz
open UInt8 renaming ofNat->Sz,toNat_ofNat'->SK
open Go.Value renaming int->SQ
set_option maxHeartbeats 4000000
set_option linter.unusedSimpArgs false
set_option linter.unusedVariables false
set_option maxRecDepth 100000
namespace Go.Cl.Pr
def fw (a b:Si):Si:=if b-a>a-b then b-a else a-b
def g8 (a b c:Si):Si:=if fw (a+b-c) a<=fw (a+b-c) b/\fw (a+b-c) a<=fw (a+b-c) c then a else if fw (a+b-c) b<=fw (a+b-c) c then b else c
def iJ (a b c d:Si):Si:=if a=1 then b else if a=2 then c else if a=3 then(b+c)/2 else if a=4 then g8 b c d else 0
def ru (z:Si):Sf:=Sz (z%256).toNat
theorem Hz (z:Si):((ru z).toNat:Si)=z%256:=by
 have:(ru z).toNat=(z%256).toNat%256:=SK;rw[this];omega
def ig (l:Sg Sf)(n c i:Sh):Si:=if c<=i%n then(((l.getD (i-c) 0).toNat:Sh):Si) else 0
def iK (l:Sg Sf)(n i:Sh):Si:=if n<=i then(((l.getD (i-n) 0).toNat:Sh):Si) else 0
def hZ (l:Sg Sf)(n c i:Sh):Si:=if n<=i/\c<=i%n then(((l.getD (i-n-c) 0).toNat:Sh):Si) else 0
theorem l2 (x:Sf):(0:Si)<=((x.toNat:Sh):Si)/\((x.toNat:Sh):Si)<=255:=ag x.toNat_lt
theorem Pq (l:Sg Sf)(n c i:Sh):0<=ig l n c i/\ig l n c i<=255:=by
 unfold ig;split
 ·exact l2 _
 omega
theorem Ps (l:Sg Sf)(n i:Sh):0<=iK l n i/\iK l n i<=255:=by
 unfold iK;split
 ·exact l2 _
 omega
theorem Pt (l:Sg Sf)(n c i:Sh):0<=hZ l n c i/\hZ l n c i<=255:=by
 unfold hZ;split
 ·exact l2 _
 omega
def n4 (a:Si)(l:Sg Sf)(n c i:Sh):Si:=iJ a (ig l n c i) (iK l n i) (hZ l n c i)
def acY (T:Si)(g:TQ)(n i:Sh):Sg Sf:=if g=true/\i%n=0 then [ru T] else []
def ij (p a b:Si):Prop:=(p=1\/p=2\/(10<=p/\p<=15))/\1<=a/\a<=4/\1<=b/\b<=4096
instance (p a b:Si):Decidable (ij p a b):=by unfold ij;infer_instance
def o1 (l:Sg Sf)(n r:Sh):Sg Sf:=(l.drop (r*n)).take n
theorem Pu {l:Sg Sf}{n r:Sh}(h:(r+1)*n<=l.length):(o1 l n r).length=n:=by
 have:r*n+n<=l.length:=by rw[TT] at h;exact h
 unfold o1;rw[List.length_take,SP];omega
theorem HB {l:Sg Sf}{n r k:Sh}(a:k<n):(o1 l n r).getD k 0=l.getD (r*n+k) 0:=by
 unfold o1;rw[Sn,Sn,Tk a,Tt]
def nr (l:Sg Sf)(n m:Sh):Sg (Sg Sf):=(S9 m).map (o1 l n)
theorem Pv (l:Sg Sf)(n m:Sh):(nr l n m).length=m:=by simp[nr]
theorem Pw {l:Sg Sf}{n m r:Sh}(h:r<(nr l n m).length):(nr l n m)[r]=o1 l n r:=by simp[nr]
theorem Px (l:Sg Sf)(n m:Sh):nr l n (m+1)=nr l n m++[o1 l n m]:=by simp[nr,List.range_succ]
theorem An {n r k:Sh}(a:k<n):(r*n+k)%n=k:=by rw[Ty,Nat.mul_add_mod,Sw a]
end Go.Cl.Pr
namespace Go.Cl
section
variable {P:SI} {aV:bg} {all:Sg TW}
theorem HC:∀(a b:Sg TW) (f:an) (s:J) (Q:an->J->Prop),e5 P aV all a f s (fun c d=>e5 P aV all b c d Q)->e5 P aV all (a++b) f s Q
 |[],a,f,s,Q,h=>by rw[wm] at h;exact h
 |o::a,b,f,s,Q,h=>by
  have c:∀(d:Tp Tmp) (v:So) (e:J),cT f d v (fun g=>e5 P aV all a g e (fun g s=>e5 P aV all b g s Q))->cT f d v (fun d=>e5 P aV all (a++b) d e Q):=fun d v e=>by
   unfold cT;split
   ·exact HC a b _ _ Q
   exact id
  rw[List.cons_append,si];rw[si] at h;revert h;cases ff all o f with
  |true=>
   rw[q3,q3];unfold en;split
   ·exact c _ _ _
   ·exact fun h=>h.b (fun v a=>c _ _ _)
   exact id
  |false=>exact c _ _ _
theorem Py {r:Sg TW}{o:TW}{f:an}{s:J}{Q:an->J->Prop}{b:TQ}(n:Sh)(a:an->J->Prop)(i:∀c:an->J->Prop,(∀d e,a d e->c d e)->kH P aV all o (r.take n) f s c b)(j:∀g h,a g h->e5 P aV all (r.drop n) g h Q):kH P aV all o r f s Q b:=by
 have h:=i _ j;have a:∀(d:Tp Tmp) (v:So) (c:J),cT f d v (fun e=>e5 P aV all (r.take n) e c (fun e s=>e5 P aV all (r.drop n) e s Q))->cT f d v (fun d=>e5 P aV all r d c Q):=fun d v c=>by
  unfold cT;split
  ·intro c;have:=HC (r.take n) (r.drop n) _ _ Q c
   rwa [List.take_append_drop] at this
  exact id
 revert h;cases b with
 |true=>
  rw[q3,q3];unfold en;split
  ·exact a _ _ _
  ·exact fun h=>h.b (fun v b=>a _ _ _)
  exact id
 |false=>exact a _ _ _
end
theorem Pz {P:SI}{a:bg}{b r:Sg TW}{o:TW}{f:an}{s:J}{Q:an->J->Prop}{c:TQ}(d:an->J->Prop)(k:∀e:an->J->Prop,(∀g h,d g h->e g h)->kH P a b o r f s e c)(l:∀i j,d i j->Q i j):kH P a b o r f s Q c:=k Q l
end Go.Cl
namespace Go.Proofs.YtgpmffbleaphkaaGreat
open Go.Cl Go.Cl.Pr
theorem n5 (i o c:Sh):aY Se 97 (ab i o c) 0=some (ab i (o+0) c):=by
 unfold aY;rw[Te];simp[aQ]
theorem ry (i o c:Sh):aY Se 97 (ab i o c) 1=some (ab i (o+1) c):=by
 unfold aY;rw[Te];simp[aQ]
theorem xC (i o c:Sh):aY Se 97 (ab i o c) 2=some (ab i (o+2) c):=by
 unfold aY;rw[Te];simp[aQ]
theorem n6 (i o c:Sh):aY Se 85 (ab i o c) 0=some (ab i (o+0) c):=by
 unfold aY;rw[Tf];simp[aQ]
theorem n7 (i o c:Sh):aY Se 85 (ab i o c) 1=some (ab i (o+1) c):=by
 unfold aY;rw[Tf];simp[aQ]
theorem uK (i o c:Sh):aY Se 85 (ab i o c) 2=some (ab i (o+2) c):=by
 unfold aY;rw[Tf];simp[aQ]
theorem sM (i o c:Sh):aY Se 168 (ab i o c) 0=some (ab i (o+0) c):=by
 unfold aY;rw[Ta];simp[aQ]
theorem rz (i o c:Sh):aY Se 168 (ab i o c) 1=some (ab i (o+1) c):=by
 unfold aY;rw[Ta];simp[aQ]
theorem uL (i o c:Sh):aY Se 168 (ab i o c) 2=some (ab i (o+2) c):=by
 unfold aY;rw[Ta];simp[aQ]
abbrev er (a b c:Si):So:= .agg #[I a,I b,I c]
abbrev fI (a b c:Si):Sg So:=[I a,I b,I c]
theorem Ao:c3 Se 97=some true:=by kernel_rfl
theorem xD:c3 Se 85=some true:=by kernel_rfl
theorem Ap:c3 Se 168=some true:=by kernel_rfl
theorem xE:bc Se 97=some 3:=by kernel_rfl
theorem sN:bc Se 85=some 3:=by kernel_rfl
theorem xF:bc Se 168=some 3:=by kernel_rfl
theorem HD:bK Se 168=some (er 0 0 0):=by kernel_rfl
theorem HE:cp (er 0 0 0)=true:=by kernel_rfl
theorem HF (a b c:Si):bn (er a b c) (er a b c)=true:=by simp[bn,dF,b9]
def xG (s:J)(p:Prop)[Decidable p](v:So)(a:J):Prop:=v= .bool (decide p)/\ad s.Y s a
theorem HG (s:J)(p b c:Si):Runs Se aw 110 [er p b c] s (xG s (ij p b c)):=by
 refine Runs.gZ fun F e=> ?_
 refine Runs.ey 43 Tryz.func110 rfl fun A a B=> ?_
 refine aq a B (aK fun w f g G=> ?_);have f:ae w s.Y (fI p b c):=f;have l:=f.v aB 0 4 (I p);have m:=f.v aB 1 4 (I b);have x:=f.v aB 2 4 (I c);have D:[SQ .i64 p,I b,I c].length+1=4:=rfl;refine aW a D @n5 l ?_;refine Pz (fun u y=>y=w/\u.e=43/\u.N 1=ab s.Y 0 4/\∃t:TQ,u.N 3= .bool t/\(t=true↔(p=1\/p=2\/(10<=p/\p<=15)))) ?_ ?_
 ·intro H n;by_cases i:p=1
  ·refine e6 a (Sj i) ?_;exact n _ _ ⟨rfl,V a,aa,true,aa,⟨fun _=>Z,fun _=>rfl⟩⟩
  by_cases o:p=2
  ·refine gX a @n5 l i (Sj o) ?_;exact n _ _ ⟨rfl,V a,aa,true,aa,⟨fun _=>Z,fun _=>rfl⟩⟩
  by_cases v:10<=p;rotate_left
  ·refine ib a @n5 l i o v ?_;exact n _ _ ⟨rfl,V a,aa,false,aa,⟨fun h=>by(cases h),fun h=>Z⟩⟩
  refine cl a @n5 l i o (Sj v) ?_;exact n _ _ ⟨rfl,V a,aa,decide (p<=15),aa,by simp[i,o,v]⟩
 rintro A y ⟨E,a,q,t,j,z⟩;rw[E];cases t with
 |false=>
  refine re a j @SU ?_;rw[e];exact⟨by rw[SB (fun h=>Bool.noConfusion (z.2 h.1))],g⟩
 |true=>
 by_cases d:1<=b;rotate_left
 ·refine oT a q j @ry m d @SU ?_;rw[e];exact⟨by rw[SB (fun h:ij p b c=>d h.2.1)],g⟩
 by_cases k:b<=4;rotate_left
 ·refine sx a q j @ry m (Sj d) k @SU ?_;rw[e];exact⟨by rw[SB (fun h:ij p b c=>k h.2.2.1)],g⟩
 by_cases r:1<=c;rotate_left
 ·refine sy a q j @ry @xC m x (Sj d) (Sj k) r @SU ?_;rw[e];exact⟨by rw[SB (fun h:ij p b c=>r h.2.2.2.1)],g⟩
 refine wM a q j @ry @xC m x (Sj d) (Sj k) (Sj r) @SU ?_;rw[e];exact⟨congrArg _ (decide_eq_decide.2 ⟨fun h=>⟨z.1 rfl,d,k,r,h⟩,fun h=>h.2.2.2.2⟩),g⟩
theorem HH (s:J)(p b c:Si):Runs Se aw 92 [er p b c] s (xG s (ij p b c)):=by
 refine Runs.gZ fun F e=> ?_
 refine Runs.ey 41 Tryz.func92 rfl fun A a B=> ?_
 refine aq a B (aK fun w f g G=> ?_);have f:ae w s.Y (fI p b c):=f;have l:=f.v aB 0 4 (I p);have m:=f.v aB 1 4 (I b);have x:=f.v aB 2 4 (I c);have D:[SQ .i64 p,I b,I c].length+1=4:=rfl;refine aW a D @n6 l ?_;refine Py 13 (fun u y=>y=w/\u.e=41/\u.N 1=ab s.Y 0 4/\∃t:TQ,u.N 20= .bool t/\(t=true↔(p=1\/p=2\/(10<=p/\p<=15)))) ?_ ?_
 ·intro H n;by_cases i:p=1
  ·refine fR a (Sj i) @SS.{0} @SN.{0} ?_;exact n _ _ ⟨rfl,V a,aa,true,aa,⟨fun _=>Z,fun _=>rfl⟩⟩
  by_cases o:p=2
  ·refine eC a @n6 l i (Sj o) @SS.{0} @SN.{0} ?_;exact n _ _ ⟨rfl,V a,aa,true,aa,⟨fun _=>Z,fun _=>rfl⟩⟩
  by_cases v:10<=p;rotate_left
  ·refine kO a @n6 l i o v @SS.{0} @SN.{0} ?_;exact n _ _ ⟨rfl,V a,aa,false,aa,⟨fun h=>by(cases h),fun h=>Z⟩⟩
  refine c1 a @n6 l i o (Sj v) @SS.{0} @SN.{0} ?_;exact n _ _ ⟨rfl,V a,aa,decide (p<=15),aa,by simp[i,o,v]⟩
 rintro A y ⟨E,a,q,t,j,z⟩;rw[E];cases t with
 |false=>
  refine re a j @SX ?_;rw[e];exact⟨by rw[SB (fun h=>Bool.noConfusion (z.2 h.1))],g⟩
 |true=>
 by_cases d:1<=b;rotate_left
 ·refine oT a q j @n7 m d @SX ?_;rw[e];exact⟨by rw[SB (fun h:ij p b c=>d h.2.1)],g⟩
 by_cases k:b<=4;rotate_left
 ·refine sx a q j @n7 m (Sj d) k @SX ?_;rw[e];exact⟨by rw[SB (fun h:ij p b c=>k h.2.2.1)],g⟩
 by_cases r:1<=c;rotate_left
 ·refine sy a q j @n7 @uK m x (Sj d) (Sj k) r @SX ?_;rw[e];exact⟨by rw[SB (fun h:ij p b c=>r h.2.2.2.1)],g⟩
 refine wM a q j @n7 @uK m x (Sj d) (Sj k) (Sj r) @SX ?_;rw[e];exact⟨congrArg _ (decide_eq_decide.2 ⟨fun h=>⟨z.1 rfl,d,k,r,h⟩,fun h=>h.2.2.2.2⟩),g⟩
theorem Aq (s:J)(a b:Si)(d: -10000<=a/\a<=10000)(e: -10000<=b/\b<=10000):Runs Se aw 172 [I a,I b] s fun v c=>v=I (fw a b)/\c=s:=by
 refine Runs.ef 12 Tryz.func172 rfl fun f c=> ?_
 have e:(if b-a>a-b then b-a else a-b)=fw a b:=rfl;exact wI c e @Tryz.results172
theorem Ar (s:J)(a b:Si)(d: -10000<=a/\a<=10000)(e: -10000<=b/\b<=10000):Runs Se aw 164 [I a,I b] s fun v c=>v=I (fw a b)/\c=s:=by
 refine Runs.ef 14 Tryz.func164 rfl fun f c=> ?_
 by_cases d:a>b
 ·have e:fw a b=a-b:=by unfold fw;rw[Sr Z]
  exact sw c (Sj d) e @TN
 have e:fw a b=b-a:=by unfold fw;split<;>omega
 exact sw c d e @TN
end Go.Proofs.YtgpmffbleaphkaaGreat
namespace Go.Cl
theorem PA {P:SI}{d:Tp Tmp}{c:S1}{e:String}{h:Array Edge}{i:Tp (Sh×TQ)}{f:an}{s:J}(g:FuncId)(a b:Array Operand):a4 P ⟨d,.makeFunc (.func g) a b,c,e,h,i⟩ f s=match bB f a.toList,bB f b.toList with
  |some l,some m=>some (.a8 (.func (.func g) l.toArray m.toArray) s)
  |_,_=>none:=rfl
theorem HI {P:SI}{s:J}{t e:S1}{f a b c d x:So}(g:P.underlying t=some (.slice e))(h:bc P e=some 1)(i:bK P e=some f)(j:cp f=true)(k:∃w,f.cells.toList=[w])(l:a.cells.toList=[a])(m:b.cells.toList=[b])(n:c.cells.toList=[c])(o:d.cells.toList=[d])(p:x.cells.toList=[x]):dj P s t 5 [(0,a),(1,b),(2,c),(3,d),(4,x)]=cL s [a,b,c,d,x] 5 1:=by
 have⟨w,a⟩:=k;unfold dj;rw[g];simp only[h,i,j,a,cM,eT,l,m,n,o,p,List.length_singleton];rfl
end Go.Cl
namespace Go.Proofs.YtgpmffbleaphkaaGreat
open Go.Cl Go.Cl.Pr
structure n8 (aV:bg):Prop where
 PB:aV.M 152=none
 HJ:aV.M 153=none
 PC:aV.M 154=none
 PD:aV.M 155=none
 PE:aV.M 156=none
 HK:aV.M 172=none
 As:aV.M 128=none
 PF:aV.M 127=none
 ea:aV.M 126=none
 xA:aV.M 110=none
def sO (s:J)(z:Si)(v:So)(a:J):Prop:=v=I z/\ad s.Y s a
theorem uM:(2:Si)≠0:=by decide
theorem PG (L:n8 aw)(s:J)(a b c:Si)(h:0<=a/\a<=255)(i:0<=b/\b<=255)(j:0<=c/\c<=255):Runs Se aw 152 [er a b c] s (sO s (iJ 0 a b c)):=by
 refine Runs.dZ 3 Tryz.func152 L.PB fun k e=> ?_
 refine ax e (aK fun f d g l=> ?_);have d:ae f s.Y (fI a b c):=d;have m:=d.v aB 0 4 (I a);have n:=d.v aB 1 4 (I b);have o:=d.v aB 2 4 (I c);have p:=uM;refine bS e (rfl:[SQ .i64 a,I b,I c].length+1=4) Tryz.results152 ?_;exact⟨rfl,g⟩
theorem PH (L:n8 aw)(s:J)(a b c:Si)(j:0<=a/\a<=255)(k:0<=b/\b<=255)(l:0<=c/\c<=255):Runs Se aw 153 [er a b c] s (sO s (iJ 1 a b c)):=by
 refine Runs.dZ 5 Tryz.func153 L.HJ fun m e=> ?_
 refine ax e (aK fun f d g n=> ?_);have d:ae f s.Y (fI a b c):=d;have h:=d.v aB 0 4 (I a);have o:=d.v aB 1 4 (I b);have p:=d.v aB 2 4 (I c);have i:[SQ .i64 a,I b,I c].length+1=4:=rfl;have q:=uM;refine eo e i @sM h Tryz.results153 ?_;exact⟨rfl,g⟩
theorem PI (L:n8 aw)(s:J)(a b c:Si)(j:0<=a/\a<=255)(k:0<=b/\b<=255)(l:0<=c/\c<=255):Runs Se aw 154 [er a b c] s (sO s (iJ 2 a b c)):=by
 refine Runs.dZ 5 Tryz.func154 L.PC fun m e=> ?_
 refine ax e (aK fun f d g n=> ?_);have d:ae f s.Y (fI a b c):=d;have o:=d.v aB 0 4 (I a);have h:=d.v aB 1 4 (I b);have p:=d.v aB 2 4 (I c);have i:[SQ .i64 a,I b,I c].length+1=4:=rfl;have q:=uM;refine eo e i @rz h Tryz.results154 ?_;exact⟨rfl,g⟩
theorem PJ (L:n8 aw)(s:J)(a b c:Si)(l:0<=a/\a<=255)(m:0<=b/\b<=255)(n:0<=c/\c<=255):Runs Se aw 155 [er a b c] s (sO s (iJ 3 a b c)):=by
 refine Runs.dZ 9 Tryz.func155 L.PD fun o e=> ?_
 refine ax e (aK fun f d g p=> ?_);have d:ae f s.Y (fI a b c):=d;have h:=d.v aB 0 4 (I a);have i:=d.v aB 1 4 (I b);have q:=d.v aB 2 4 (I c);have j:[SQ .i64 a,I b,I c].length+1=4:=rfl;have k:(a+b).tdiv 2=(a+b)/2:=Tb Z;refine pS e j @sM @rz h i k @kI @uM Tryz.results155 ?_;exact⟨rfl,g⟩
theorem PK (L:n8 aw)(s:J)(a b c:Si)(z:0<=a/\a<=255)(A:0<=b/\b<=255)(B:0<=c/\c<=255):Runs Se aw 156 [er a b c] s (sO s (g8 a b c)):=by
 refine Runs.gZ fun D m=> ?_
 refine Runs.dZ 46 Tryz.func156 L.PE fun E d=> ?_
 refine ax d (aK fun e k w F=> ?_);have k:ae e s.Y (fI a b c):=k;have x:[SQ .i64 a,I b,I c].length+1=4:=rfl;have q:∀t,ad e.Y e t->aD Se t 3 (ab s.Y 0 4)=some (I a):=fun t h=>(k.C h).o aB 0 4
 have o:∀t,ad e.Y e t->aD Se t 3 (ab s.Y 1 4)=some (I b):=fun t h=>(k.C h).o aB 1 4
 have p:∀t,ad e.Y e t->aD Se t 3 (ab s.Y 2 4)=some (I c):=fun t h=>(k.C h).o aB 2 4
 have r:=ad.p e.Y e;refine c1 d x @sM @rz @uL (q _ r) (o _ r) (p _ r) (LB.T 3 0 fun G u y _ f _=> ?_);have v:=LA.D y k.n;refine cl d v @sM @rz (q _ f) @ez ((Aq _ (a+b-c) a Z Z).b ?_);rintro _ _ ⟨rfl,rfl⟩;refine⟨fun _=>LA.ar.R u (ad.p _ _),?_⟩;refine bp d v @uL (o _ f) @ez ((Aq _ (a+b-c) b Z Z).b ?_);rintro _ _ ⟨rfl,rfl⟩;refine⟨fun _=>LA.ar.R u (ad.p _ _),?_⟩;refine aW d v (p _ f) @ez ((Aq _ (a+b-c) c Z Z).b ?_);rintro _ _ ⟨rfl,rfl⟩;refine⟨fun _=>LA.ar.R u (ad.p _ _),?_⟩;have n:=w.d f;by_cases j:fw (a+b-c) a<=fw (a+b-c) b
 ·by_cases l:fw (a+b-c) a<=fw (a+b-c) c
  ·have g:g8 a b c=a:=by unfold g8;rw[SD ⟨j,l⟩]
   refine rf d (Sj j) (Sj l) @sM (q _ f) SV ?_;rw[m];exact⟨by rw[g],n⟩
  by_cases i:fw (a+b-c) b<=fw (a+b-c) c
  ·have g:g8 a b c=b:=by unfold g8;rw[Sr (fun h=>l h.2),SD i]
   refine oT d (Sj j) l (Sj i) @rz (o _ f) SV ?_;rw[m];exact⟨by rw[g],n⟩
  have g:g8 a b c=c:=by unfold g8;rw[Sr (fun h=>l h.2),Sr i]
  refine oT d (Sj j) l i @uL (p _ f) SV ?_;rw[m];exact⟨by rw[g],n⟩
 by_cases i:fw (a+b-c) b<=fw (a+b-c) c
 ·have g:g8 a b c=b:=by unfold g8;rw[Sr (fun h=>j h.1),SD i]
  refine rf d j (Sj i) @rz (o _ f) SV ?_;rw[m];exact⟨by rw[g],n⟩
 have g:g8 a b c=c:=by unfold g8;rw[Sr (fun h=>j h.1),Sr i]
 refine rf d j i @uL (p _ f) SV ?_;rw[m];exact⟨by rw[g],n⟩
theorem PL:bK Se 149=some .nilFunc:=by kernel_rfl
theorem HL:bc Se 149=some 1:=by kernel_rfl
theorem PM:c3 Se 149=some false:=by kernel_rfl
theorem PN (L:n8 aw)(s:J)(t e f g:Si)(F:0<=t/\t<=4)(l:0<=e/\e<=255)(m:0<=f/\f<=255)(n:0<=g/\g<=255):Runs Se aw 128 [er e f g,I t] s (sO s (iJ t e f g)):=by
 refine Runs.ef 20 Tryz.func128 L.As fun G h=> ?_
 refine ax h (aK fun v z A H=> ?_);have B:[SQ .i64 e,I f,I g].length+1=4:=rfl;have D:aD Se v 168 (ab s.Y 0 4)=some (er e f g):=ae.y (a:=fI e f g) Ap xF (z:ae v s.Y (fI e f g)) (c:=4) rfl;simp(disch:=omega)only[h,aI,bB,bC,SF,Sq,↓St,B,D,PA,HI (a:= .func (.func 152) #[er e f g] #[]) (b:= .func (.func 153) #[er e f g] #[]) (c:= .func (.func 154) #[er e f g] #[]) (d:= .func (.func 155) #[er e f g] #[]) (x:= .func (.func 156) #[er e f g] #[]) Tu HL PL rfl ⟨_,rfl⟩ rfl rfl rfl rfl rfl];refine du rfl ?_;intro K o w M E;have p:=A.d E;obtain⟨q,rfl⟩:∃q:Sh,t=q:=⟨t.toNat,Z⟩
 have y:q<5:=Z;have j:=w.c.r (k:= .i64) (x:=(q:Si)) Tu HL Z Z;rw[Sk] at j;have r:=w.c.P PM y
 match q,y with
 |0,_=>
  refine aR h j r ((PG L o e f g l m n).b ?_);rintro _ u ⟨rfl,i⟩;refine bO h SW ?_;exact⟨rfl,p.d i⟩
 |1,_=>
  refine aR h j r ((PH L o e f g l m n).b ?_);rintro _ u ⟨rfl,i⟩;refine bO h SW ?_;exact⟨rfl,p.d i⟩
 |2,_=>
  refine aR h j r ((PI L o e f g l m n).b ?_);rintro _ u ⟨rfl,i⟩;refine bO h SW ?_;exact⟨rfl,p.d i⟩
 |3,_=>
  refine aR h j r ((PJ L o e f g l m n).b ?_);rintro _ u ⟨rfl,i⟩;refine bO h SW ?_;exact⟨rfl,p.d i⟩
 |4,_=>
  refine aR h j r ((PK L o e f g l m n).b ?_);rintro _ u ⟨rfl,i⟩;simp(disch:=omega)only[h,aI,cO,b6,SF,↓St,SW];exact⟨rfl,p.d i⟩
def lA (R:Sg Sf)(k c:Sh):Si:=if c<=k then(((R.getD (k-c) 0).toNat:Sh):Si) else 0
def ns (W:Sg Sf)(k:Sh):Si:=if 0<W.length then(((W.getD k 0).toNat:Sh):Si) else 0
def nt (W:Sg Sf)(k c:Sh):Si:=if 0<W.length/\c<=k then(((W.getD (k-c) 0).toNat:Sh):Si) else 0
def PO (s:J)(a b c:Si)(v:So)(d:J):Prop:=v=er a b c/\ad s.Y s d
theorem PQ (WI:n8 aw)(s:J)(z D:So)(R W:Sg Sf)(WJ:az s 1 z R.length (aM R))(S:az s 1 D W.length (aM W))(WW:R.length<=1000000)(k a:Sh)(WX:k<R.length)(WY:1<=a)(WZ:W.length=0\/W.length=R.length):
  Runs Se aw 127 [z,D,I k,I a] s (PO s (lA R k a) (ns W k) (nt W k a)):=by
 refine Runs.F8 42 Tryz.func127 WI.PF fun f b=> ?_
 refine aq @HD @HE ?_;refine aK ?_;intro e p T W0;refine aR b @HD @HE ?_;refine aK ?_;intro U q E W1;have p:ae U s.Y (fI 0 0 0):=ae.C p E;have q:ae U e.Y (fI 0 0 0):=q;have r:=T.d E;have W2:=T.Y;have W3:=E.Y;have W4:∀X:Sg Sf,∀j,X.getD j 0=X.getD j 0:=fun _ _=>rfl
 have Wy:a<=k->((k:Si)-(a:Si))=((k-a:Sh):Si):=fun W5=>Z
 refine aq b ((rfl:[SQ .i64 0,I 0,I 0].length+1=4)) ?_;generalize F:ja Se aw (Code.seq (Code.seq (Code.region _ _ _) _) _) _=WK;have Wz:∀f t,f.e=42/\f.N 0=z/\f.N 1=D/\f.N 2=I k/\f.N 3=I a/\f.N 8=ab s.Y 0 4/\f.N 9=ab e.Y 0 4->ae t s.Y (fI 0 0 0)->ae t e.Y (fI (lA R k a) 0 0)->ad s.Y s t->WK .b2 f t:=by
  subst F;intro f t b u v i;have G:=S.C i;refine aq b (G.g Sp) ?_;generalize F:ja Se aw (Code.seq (Code.region _ _ _) Code.ret) _=WL;have H:∀f t A B g,f.e=42/\f.N 8=ab s.Y 0 4/\f.N 9=ab e.Y 0 4->ae t s.Y (fI 0 0 0)->ae t e.Y (fI A B g)->ad s.Y s t->A=lA R k a->B=ns W k->g=nt W k a->WL .b2 f t:=by
   subst F;intro f t A B g b u v i WM WN WO;refine aq b (ae.y (a:=fI A B g) Ap xF v (c:=4) rfl:aD Se t 168 (ab e.Y 0 4)=some (er A B g)) (bh xF ai u rfl rfl rfl rfl fun WA WQ W6 WR=> ?_);have WS:aD Se WA 168 (ab s.Y 0 4)=some (er A B g):=ae.y (a:=fI A B g) Ap xF (WQ:ae WA s.Y (fI A B g)) (c:=4) rfl;refine bS b WS Tryz.results127 ?_;refine⟨by rw[WM,WN,WO],⟨ag i.Y,fun j l=>by rw[WR j Z];exact i.N j l⟩⟩
  by_cases WB:(0:Si)<((W.length:Sh):Si);rotate_left
  ·refine ax WB ?_;exact H _ _ _ _ _ (V b) u v i rfl (by unfold ns;rw[Sr Z]) (by unfold nt;rw[Sr Z])
  have WC:k<W.length:=Z;have h:=G.r (k:= .i64) (x:=(k:Si)) Sp bw Z Z;rw[Sk] at h;have d:=G.P de WC;rw[dn WC] at d;have m:=l2 (W.getD k 0);rw[(show((((W.getD k 0).toNat:Sh):Si))=ns W k by unfold ns;rw[SD Z])] at d m;refine cl b (Sj WB) h d (dH SR Tl) @rz ?_;refine db aQ v rfl aA rfl ?_;intro K w WT WD;have w:ae K e.Y (fI (lA R k a) (ns W k) 0):=w;have WE:ae K s.Y (fI 0 0 0):=u.f WT WD Z;have y:ad s.Y s K:=⟨ag i.Y,fun j l=>by rw[WD j Z];exact i.N j l⟩;by_cases L:(a:Si)<=(k:Si);rotate_left
  ·refine aq b L ?_;exact H _ _ _ _ _ (V b) WE w y rfl rfl (by unfold nt;rw[Sr Z])
  have WU:=Wy (Z:a<=k);have WG:=S.C y;have h:=WG.r (k:= .i64) (x:=((k-a:Sh):Si)) Sp bw Z Z;rw[Sk] at h;have n:k-a<W.length:=Z;have d:=WG.P de n;rw[dn n] at d;have m:=l2 (W.getD (k-a) 0);rw[(show((((W.getD (k-a) 0).toNat:Sh):Si))=nt W k a by unfold nt;rw[SD Z])] at d m;refine ch b (Sj L) WU h d (dH SR Tl) @uL ?_;refine db aQ w rfl aA rfl ?_;intro M O P o;exact H _ _ _ _ _ (V b) (WE.f P o Z) (O:ae M e.Y (fI (lA R k a) (ns W k) (nt W k a))) ⟨ag y.Y,fun j l=>by rw[o j Z];exact y.N j l⟩ rfl rfl rfl
 by_cases L:(a:Si)<=(k:Si);rotate_left
 ·have WV:lA R k a=0:=by unfold lA;rw[Sr Z]
  refine ax (Z:¬a<=k) ?_;exact Wz _ _ (V b) p (by rw[WV];exact q) r
 have Q:a<=k:=Z;have WH:=WJ.C r;have h:=WH.r (k:= .i64) (x:=((k-a:Sh):Si)) Sp bw Z Z;rw[Sk] at h;have n:k-a<R.length:=Z;have d:=WH.P de n;rw[dn n] at d;have m:=l2 (R.getD (k-a) 0);rw[(show((((R.getD (k-a) 0).toNat:Sh):Si))=lA R k a by unfold lA;rw[SD Q])] at d m;refine ch b (Sj Q) ((Wy Q)) h d (dH SR Tl) @sM ?_;refine db aQ q rfl aA rfl ?_;intro M O P o;exact Wz _ _ (V b) (p.f P o Z) (O:ae M e.Y (fI (lA R k a) 0 0)) ⟨ag r.Y,fun j l=>by rw[o j Z];exact r.N j l⟩
end Go.Proofs.YtgpmffbleaphkaaGreat
namespace Go.Cl.Rw
def PR (y:Sf)(x:Si)(k:Sh):Sf:=y|||Sz ((x%2).toNat*2^k)
def bE (p:Sg Sf×Sh):Sg Sf:=if p.2%8=0 then p.1++[0] else p.1
def PS (p:Sg Sf×Sh)(x:Si):Sg Sf×Sh:=((bE p).set (p.2/8) (PR ((bE p).getD (p.2/8) 0) x (p.2%8)),p.2+1)
def HM (p:Sg Sf×Sh)(x:Si):Sh->Sg Sf×Sh
 |0=>p
 |k+1=>PS (HM p x k) (x.fdiv (2^k))
def At (p:Sg Sf×Sh):Prop:=p.2<=8*p.1.length/\8*p.1.length<p.2+8
theorem PT (P:SI)(t:S1)(a:Tg)(x:Si){k:Sh}(h:k<64):bN P .shr t (I x) (.int a (k:Sh))=some (I (x.fdiv (2^k))):=by
 rw[nc P t .i64 _ _ a Z];have e:min ((k:Sh):Si).toNat Ss.bits=k:=by
  have:Ss.bits=64:=rfl;rw[this,Sk];omega
 rw[e]
theorem xH (n:Sh):((n:Si)).tmod 8=((n%8:Sh):Si):=by rw[Tc Z];omega
theorem rA (n:Sh):((n:Si)).tdiv 8=((n/8:Sh):Si):=by rw[Tb Z];omega
structure eu (j:Sh) (v:So) (s:J) (v' :So) (s' :J):Prop where
 Y:s.Y<=s'.Y
 N:∀i,i<s.Y->i≠j->ak v≠some i->s'.i.N i=s.i.N i
 jB:ak v' =ak v\/∃i,ak v' =some i/\s.Y<=i
theorem eu.p (j:Sh)(v:So)(s:J):eu j v s v s:=⟨Th _,fun _ _ _ _=>rfl,.inl rfl⟩
theorem eu.a {j:Sh}{v c d:So}{s f g:J}(h:eu j v s c f)(k:eu j c f d g):eu j v s d g:=by
 refine⟨Tn h.Y k.Y,fun i l m n=> ?_,?_⟩
 ·rw[k.N i (Tv l h.Y) m ?_,h.N i l m n];rcases h.jB with e|⟨q,e,a⟩
  ·rw[e];exact n
  rw[e];intro o;injection o with o;omega
 rcases k.jB with e|⟨q,e,a⟩
 ·rcases h.jB with b|⟨q,b,a⟩
  ·exact .inl (by rw[e,b])
  exact .inr ⟨q,by rw[e,b],a⟩
 exact .inr ⟨q,e,Tn h.Y a⟩
theorem eu.A {j a:Sh}{v c:So}{s b:J}(h:eu j v s c b)(f:a<=j)(d:ay a v)(g:a<=s.Y):ad a s b:=
 ⟨h.Y,fun i k=>h.N i Z Z (fun e=>ag (d i e))⟩
theorem eu.j {j:Sh}{v a:So}{s b:J}(h:aF v s b)(c:ak a=ak v\/∃i,ak a=some i/\s.Y<=i):eu j v s a b:=⟨h.Y,fun i d _ e=>h.N i d e,c⟩
theorem eu.u {j:Sh}{v:So}{s a:J}(c:a.Y=s.Y)(h:∀i,i≠j->a.i.N i=s.i.N i):eu j v s v a:=⟨Z,fun i _ b _=>h i b,.inl rfl⟩
structure PU (base:Sh) (s:J) (j:Sh) (v:So) (p:Sg Sf×Sh):Prop where
 cG:ae s j [v,I p.2]
 br:ao s 1 v p.1.length (aM p.1)
 Q:ay base v
 U:ak v≠some j
 eX:base<=j
 K:At p
end Go.Cl.Rw
namespace Go.Proofs.YtgpmffbleaphkaaGreat
open Go.Cl Go.Cl.Rw
theorem rB {x:Si}(a:0<=x)(h:x<18446744073709551616):S4.wrap x=x:=by
 have a:S4.bits=64:=rfl;have b:S4.signed=false:=rfl;simp only[Tz,a,b,Bool.false_and];simp;omega
def qU (c:Sh)(j:Sh)(v:So)(s:J)(p:Sg Sf×Sh)(a:J):Prop:=∃b,PU c a j b p/\eu j v s b a
def HN (p:Sg Sf×Sh)(x w:Si):Sg Sf×Sh:=if w<1\/16<w then p else HM p x w.toNat
end Go.Proofs.YtgpmffbleaphkaaGreat
namespace Go.Cl.Sto
def acZ (n:Sh)(a:Sh):Sg Sf:=[Sz a,Sz n,Sz (n/256),Sz (255-n%256),Sz (255-n/256%256)]
theorem Au (P:SI)(t:S1)(b:Tg)(a:Si):bN P .shr t (I a) (.int b 8)=some (I (a.fdiv 256)):=by
 rw[nc P t .i64 a 8 b ai];rfl
theorem HO (n:Sh):SA.wrap (n:Si)=((Sz n).toNat:Si):=by rw[gz,SK];omega
theorem ac0 (n:Sh):SA.wrap ((n:Si)/256)=((Sz (n/256)).toNat:Si):=by rw[gz,SK];omega
theorem ac1 (n:Sh):SA.wrap (-(n:Si)-1)=((Sz (255-n%256)).toNat:Si):=by rw[gz,SK];omega
theorem ac2 (n:Sh):SA.wrap ((-(n:Si)-1)/256)=((Sz (255-n/256%256)).toNat:Si):=by rw[gz,SK];omega
def cD (D:Sg Sf)(k:Sh):Sh:=(D.getD (k/8) 0).toNat/2^(k%8)%2
def bZ (D:Sg Sf)(a:Sh):Sh->Sh
 |0=>0
 |n+1=>bZ D a n+cD D (a+n)*2^n
theorem oa (D:Sg Sf)(k:Sh):cD D k<2:=To _ Z
theorem fx (D:Sg Sf)(a:Sh):∀n,bZ D a n<2^n
 |0=>by simp[bZ]
 |n+1=>by
  have b:=fx D a n;have b:=oa D (a+n);have b:cD D (a+n)=0\/cD D (a+n)=1:=Z;simp only[bZ,TB];rcases b with h|h<;>rw[h]<;>omega
theorem qe (D:Sg Sf)(i k:Sh)(h:k<8):cD D (8*i+k)=(D.getD i 0).toNat/2^k%2:=by
 unfold cD;rw[show(8*i+k)/8=i from Z,show(8*i+k)%8=k from Z]
theorem PV (D:Sg Sf)(i:Sh):bZ D (8*i) 8=(D.getD i 0).toNat:=by
 have a:=(D.getD i 0).toNat_lt;simp only[bZ];rw[qe D i 0 Z,qe D i 1 Z,qe D i 2 Z,qe D i 3 Z,qe D i 4 Z,qe D i 5 Z,qe D i 6 Z,qe D i 7 Z];generalize (D.getD i 0).toNat=x at a;simp only[Nat.reducePow];omega
theorem HP (P:SI)(t:S1)(a:Tg)(c:Sf){k:Sh}(h:k<8):bN P .shr t (.int .u8 (c.toNat:Si)) (.int a (k:Sh))=some (.int .u8 ((c.toNat/2^k:Sh):Si)):=by
 rw[nc P t .u8 _ _ a Z];have e:min ((k:Sh):Si).toNat SA.bits=k:=by
  have:SA.bits=8:=rfl;rw[this,Sk];omega
 rw[e,SO _ (by exact Tq Z)]
 norm_cast
theorem HQ {x:Sh}(h:x<256):SA.wrap (((Sl SA.bits (x:Si)&&&Sl SA.bits 1).toNat:Sh):Si)=((x%2:Sh):Si):=by
 have a:SA.bits=8:=rfl;rw[a];have:(Sl 8 (x:Si)&&&Sl 8 1).toNat=x%2:=by
  rw[TF,Sx,Sv,Sw Z];show x&&&1=_;exact Nat.and_one_is_mod _
 rw[this,gz];omega
theorem qf (P:SI)(t:S1)(a:Tg){b:Sh}(c:b<2){k:Sh}(h:k<32):bN P .shl t (I ((b:Sh):Si)) (.int a (k:Sh))=some (I ((b*2^k:Sh):Si)):=by
 rw[pN P t .i64 _ _ a Z];have e:min ((k:Sh):Si).toNat Ss.bits=k:=by
  have:Ss.bits=64:=rfl;rw[this,Sk];omega
 have a:2^k<=2^32:=SG Z Z;have c:(2:Sh)^32=4294967296:=by decide
 rw[e,(show((b:Sh):Si)*(2:Si)^k=((b*2^k:Sh):Si) by norm_cast)];have c:b=0\/b=1:=Z;rw[cg (by rcases c with rfl|rfl<;>(generalize 2^k=q at a;omega))]
theorem sP {v a k:Sh}(c:v<2^k)(d:a<2)(e:k<32):Ss.wrap (((Sl Ss.bits (v:Si)|||Sl Ss.bits ((a*2^k:Sh):Si)).toNat:Sh):Si)=((v+a*2^k:Sh):Si):=by
 have d:Ss.bits=64:=rfl;have e:2^k<=2^32:=SG Z Z;have e:(2:Sh)^32=4294967296:=by decide
 have e:a=0\/a=1:=Z;have f:a*2^k<=4294967296:=by rcases e with rfl|rfl<;>(generalize 2^k=q at*;omega)
 rw[d];have:(Sl 64 (v:Si)|||Sl 64 ((a*2^k:Sh):Si)).toNat=v+a*2^k:=by
  rw[TO,Sx,Sx,Sv,Sv,Sw Z,Sw Z];have:=S5 (i:=k) (b:=v) c a;rw[TG] at this;rw[Nat.or_comm,<-this,Nat.add_comm]
 rw[this,cg Z]
theorem HR {m:Sh}(h:m<65536):Ss.wrap (((Sl Ss.bits (m:Si)^^^Sl Ss.bits 65535).toNat:Sh):Si)=((65535-m:Sh):Si):=by
 have a:Ss.bits=64:=rfl;rw[a];have:(Sl 64 (m:Si)^^^Sl 64 65535).toNat=65535-m:=by
  have a:(Sl 64 65535)=BitVec.ofNat 64 65535:=rfl;rw[a,BitVec.toNat_xor,Sx,Sv,Sv,Sw Z,Sw Z];apply Nat.eq_of_testBit_eq;intro i;have a:(65535:Sh)=2^16-1:=by decide
  have b:65535-m=2^16-(m+1):=by
   have:(2:Sh)^16=65536:=by decide
   omega
  rw[b,Nat.testBit_two_pow_sub_succ (by show m<2^16;exact h),Nat.testBit_xor,a,Nat.testBit_two_pow_sub_one];by_cases a:i<16
  ·simp[a]
  have:m.testBit i=false:=Nat.testBit_lt_two_pow (Tv h (by show 2^16<=2^i;exact SG Z Z));simp[a,this]
 rw[this,cg Z]
end Go.Cl.Sto
namespace Go.Cl.Fx
open Go.Cl.Rw Go.Cl.Sto
def nu (s:Sh):Sh×Sh:=if s<144 then(48+s,8) else if s<256 then(256+s,9) else if s<280 then(s-256,7) else(s-88,8)
theorem PW (s:Sh):7<=(nu s).2/\(nu s).2<=9:=by
 unfold nu;split
 ·simp
 split
 ·simp
 split<;>simp
def HS (l:Sg Sf)(a d:Sh):Sh->Sh->Sh
 |n,0=>n
 |n,f+1=>if a+n<l.length/\l.getD (a+n-d) 0=l.getD (a+n) 0 then HS l a d (n+1) f else n
def HT (l:Sg Sf)(a d:Sh):Sh:=HS l a d 0 258
def uN (l:Sg Sf)(a:Sh):Sh->Sh×Sh
 |0=>(0,0)
 |k+1=>if(uN l a k).1<HT l a (k+1) then(HT l a (k+1),k+1) else uN l a k
def HK (a:Sh):Sh:=min a 64
theorem Av (n k:Sh):(n:Si).fdiv (2^k)=((n/2^k:Sh):Si):=by
 rw[SO _ (by exact Tq Z)]
 norm_cast
theorem HU (P:SI)(t:S1)(a:Tg)(n:Sh){k:Sh}(h:k<64):bN P .shr t (I (n:Si)) (.int a (k:Sh))=some (I ((n/2^k:Sh):Si)):=by
 rw[PT P t a (n:Si) h,Av]
end Go.Cl.Fx
namespace Go.Proofs.YtgpmffbleaphkaaGreat
open Go.Cl Go.Cl.Rw Go.Cl.Sto Go.Cl.Fx
theorem uO (a b c:So):bm (.tuple #[a,b,c]) 0=some a:=rfl
theorem uP (a b c:So):bm (.tuple #[a,b,c]) 1=some b:=rfl
theorem uQ (a b c:So):bm (.tuple #[a,b,c]) 2=some c:=rfl
end Go.Proofs.YtgpmffbleaphkaaGreat
namespace Go.Cl.Fx
open Go.Cl.Rw Go.Cl.Sto
def bf (L:Sg Sh):Sg So:=L.map fun n:Sh=>I (n:Si)
theorem l3 {L:Sg Sh}{i:Sh}(h:i<L.length):(bf L).getD i undef=I ((L.getD i 0:Sh):Si):=by
 simp[bf,Sn,List.getElem?_map,SH h]
theorem uR (L:Sg Sh)(i n:Sh):(bf L).set i (I (n:Si))=bf (L.set i n):=by simp[bf,List.map_set]
theorem uS (n:Sh):Su n (SQ .i64 0)=bf (Su n 0):=by simp[bf]
def o2:Sg Sh:=(S9 288).map fun s=>(nu s).2
def Aw:Sg Sh:=Su 32 5
theorem xI:o2.length=288:=by simp[o2]
def jI (c:Sg Sh)(l:Sh):Sh->Sh->Sg Sh->Sh->Sg Sh×Sh
 |0,_,o,n=>(o,n)
 |f+1,i,o,n=>if c.getD i 0=l then jI c l f (i+1) (o.set i n) (n+1) else jI c l f (i+1) o n
def qg (c:Sg Sh):Sh->Sh->Sg Sh->Sh->Sg Sh
 |0,_,o,_=>o
 |f+1,l,o,n=>qg c f (l+1) (jI c l c.length 0 o (2*n)).1 (jI c l c.length 0 o (2*n)).2
def gH (c:Sg Sh):Sg Sh:=qg c 15 1 (Su c.length 0) 0
theorem Ax (c:Sg Sh)(l:Sh):∀(f i:Sh) (o:Sg Sh) (n:Sh),(jI c l f i o n).2<=n+f
 |0,a,o,n=>Th _
 |f+1,a,o,n=>by
  unfold jI;split
  ·have:=Ax c l f (a+1) (o.set a n) (n+1);omega
  have:=Ax c l f (a+1) o n;omega
theorem uT (c:Sg Sh)(l:Sh):∀(f i:Sh) (o:Sg Sh) (n:Sh),(jI c l f i o n).1.length=o.length
 |0,a,o,n=>rfl
 |f+1,a,o,n=>by
  unfold jI;split
  ·rw[uT c l f];simp
  rw[uT c l f]
end Go.Cl.Fx
namespace Go.Proofs.YtgpmffbleaphkaaGreat
open Go.Cl Go.Cl.Rw Go.Cl.Sto Go.Cl.Fx
theorem rC:c3 Se 3=some false:=by kernel_rfl
theorem o3:e2 Se 3=some 8:=by kernel_rfl
theorem lB:bK Se 3=some (I 0):=by kernel_rfl
theorem eH:Se.underlying 47=some (.slice 3):=Tryz.underlying47
theorem ec:Se.underlying 181=some (.slice 3):=Tryz.underlying181
theorem Ay (s:J)(q:So)(c:Sg Sh)(K:az s 1 q c.length (bf c))(WG:c.length<=300):
  Runs Se aw 159 [q] s fun L M=>ao M 1 L c.length (bf (gH c))/\(gH c).length=c.length/\ay s.Y L/\ad s.Y s M:=by
 refine Runs.dY 35 Tryz.func159 rfl rfl rfl rfl ?_;intro f b O;have d:f.N 0=q:=O 0;clear O;simp(disch:=omega)only[aI,bB,SF,Sq,↓St,b,d,K.cd ec,sq eH aQ lB o3];refine du (by rw[S0,TL]) ?_;intro y WH r P h;rw[uS] at r;have Wy:=h.Y;refine ax b ?_;refine aZ.w (fun z f t=>∃(a:Sh) (o:Sg Sh) (n:Sh),z=15-a/\a<=15/\o.length=c.length/\gH c=qg c (15-a) (a+1) o n/\n+300<=300*2^a/\ao t 1 y c.length (bf o)/\ad s.Y s t/\f.e=35/\f.N 0=q/\f.N 3=y/\f.N 4=I (n:Sh)/\f.N 5=I ((a:Si)+1))
  (fun z f t=>z= .bb 0/\ao t 1 y c.length (bf (gH c))/\(gH c).length=c.length/\ad s.Y s t/\f.e=35/\f.N 3=y)
  ⟨0,_,0,rfl,Z,aA,rfl,aA,r,h,V b,V d,aa,aa,aa⟩ ?_ ?_
 ·clear b d f r h Wy;rintro WI Wz z f t ⟨a,o,n,rfl,WJ,B,D,WK,r,Q,b,d,e,j,g⟩;by_cases WL:a<15;rotate_left
  ·obtain rfl:a=15:=Z;have R:gH c=o:=D;refine aR b g (Z:¬((15:Sh):Si)+1<=15) ?_;exact Wz _ _ _ ⟨rfl,by rw[R];exact r,by rw[R];exact B,Q,V b,V e⟩
  have WM:2^a<=2^15:=SG Z Z;have WN:(2:Sh)^15=32768:=by decide
  have WA:bN Se .shl 3 (I (n:Sh)) (.int .u64 1)=some (I ((2*n:Sh):Si)):=by
   rw[pN _ _ .i64 _ _ .u64 Z];rw[(show min (1:Si).toNat Ss.bits=1 by decide),cg Z]
   congr 2;omega
  rw[show 15-a=(15-(a+1))+1 from Z,qg] at D;have WO:=Ax c (a+1) c.length 0 o (2*n);refine bp b j g (Sj (Z:(a:Si)+1<=15)) WA ?_;refine aZ.w (fun z f p=>∃(i:Sh) (v:Sg Sh) (u:Sh),z=c.length-i/\i<=c.length/\v.length=c.length/\jI c (a+1) c.length 0 o (2*n)=jI c (a+1) (c.length-i) i v u/\u<=2*n+i/\ao p 1 y c.length (bf v)/\ad s.Y s p/\f.e=35/\f.N 0=q/\f.N 3=y/\f.N 4=I (u:Sh)/\f.N 5=I ((a:Si)+1)/\f.N 6=I (i:Sh))
   (fun z f p=>z= .bb 2/\ao p 1 y c.length (bf (jI c (a+1) c.length 0 o (2*n)).1)/\ad s.Y s p/\f.e=35/\f.N 0=q/\f.N 3=y/\f.N 4=I ((jI c (a+1) c.length 0 o (2*n)).2:Sh)/\f.N 5=I ((a:Si)+1))
   ⟨0,o,2*n,rfl,Z,B,rfl,Z,r,Q,V b,V d,V e,aa,V g,aa⟩ ?_ ?_
  ·clear b d e j g f;rintro WQ WB z f p ⟨i,v,u,rfl,WR,S,l,WS,m,h,b,d,e,j,g,A⟩;have w:=K.C h;by_cases E:i<c.length;rotate_left
   ·obtain rfl:i=c.length:=Z;rw[S7,jI] at l;refine bp b d A (w.g ec) (Z:¬((c.length:Sh):Si)<((c.length:Sh):Si)) ?_;exact WB _ _ _ ⟨rfl,by rw[l];exact m,h,V b,V d,V e,by simp only[cx,↓St,Sq,j];rw[l],V g⟩
   have T:(i:Si)<(c.length:Si):=Z;have F:=w.r (k:= .i64) (x:=(i:Si)) ec aQ Z Z;rw[Sk] at F;have G:=w.P rC E;rw[l3 E] at G;rw[show c.length-i=(c.length-(i+1))+1 from Z,jI] at l;by_cases U:c.getD i 0=a+1
   ·have H:((c.getD i 0:Sh):Si)=(a:Si)+1:=Z;rw[SD U] at l;have W:=m.c.r (k:= .i64) (x:=(i:Si)) eH aQ Z Z;rw[Sk] at W;refine hy b d e j g A (w.g ec) (Sj T) F G (Sj H) W (ln aQ m E rfl fun WT X WC=> ?_);rw[uR] at X;refine aR b j A ?_;exact aH (c.length-(i+1)) Z ⟨i+1,_,u+1,rfl,Z,by simpa using S,l,Z,X,h.a (WC.C P (Tn (Th _) h.Y)),V b,V d,V e,aa,V g,aa⟩
   have H:¬((c.getD i 0:Sh):Si)=(a:Si)+1:=Z;rw[Sr U] at l;refine cX b d g A (w.g ec) (Sj T) F G H ?_;exact aH (c.length-(i+1)) Z ⟨i+1,v,u,rfl,Z,S,l,Z,m,h,V b,V d,V e,V j,V g,aa⟩
  rintro z f p ⟨rfl,m,h,b,d,e,j,g⟩;refine aq b g ?_;exact aH (15-(a+1)) Z ⟨a+1,_,_,rfl,Z,by rw[(uT c (a+1) c.length 0 o (2*n))];exact B,D,by rw[(show 2^(a+1)=2*2^a by rw[TB,Ty])];omega,m,h,V b,V d,V e,V j,aa⟩
 rintro z f t ⟨rfl,m,WD,WE,b,e⟩;simp(disch:=omega)only[aI,cO,b6,SF,↓St,b,e,Tryz.results159];exact⟨m,WD,P,WE⟩
end Go.Proofs.YtgpmffbleaphkaaGreat
namespace Go.Cl.Fx
open Go.Cl.Rw Go.Cl.Sto
def ob (i:Sh):Sg Sh:=(S9 288).map fun s=>if s<i then(nu s).2 else 0
theorem PX:ob 288=o2:=by
 unfold ob o2;refine List.map_congr_left (fun s a=> ?_);rw[SD (List.mem_range.1 a)]
theorem PY (g:Sh->Sh)(n:Sh):Su n 0=(S9 n).map fun s=>if s<0 then g s else 0:=by
 refine Tm aA (fun i a b=>aA)
theorem PZ:Su 288 0=ob 0:=PY (fun s=>(nu s).2) 288
theorem P0 {i:Sh}(h:i<288):(ob i).set i (nu i).2=ob (i+1):=by
 unfold ob;refine Tm aA (fun j a b=> ?_);rw[TH];simp only[TI,Tw];by_cases c:i=j
 ·subst c;simp
 rw[Sr c];by_cases a:j<i
 ·rw[SD a,SD Z]
 rw[Sr a,Sr Z]
def nv (i:Sh):Sg Sh:=(S9 32).map fun s=>if s<i then 5 else 0
theorem P1:nv 32=Aw:=by decide
theorem P2:Su 32 0=nv 0:=by decide
theorem P3 {i:Sh}(h:i<32):(nv i).set i 5=nv (i+1):=by
 unfold nv;refine Tm aA (fun j a b=> ?_);rw[TH];simp only[TI,Tw];by_cases c:i=j
 ·subst c;simp
 rw[Sr c];by_cases a:j<i
 ·rw[SD a,SD Z]
 rw[Sr a,Sr Z]
end Go.Cl.Fx
namespace Go.Proofs.YtgpmffbleaphkaaGreat
open Go.Cl Go.Cl.Rw Go.Cl.Sto Go.Cl.Fx
def P4 (s:J)(v:So)(a:J):Prop:=∃b c,v= .tuple #[b,c]/\ao a 1 b 288 (bf o2)/\ao a 1 c 32 (bf Aw)/\ay s.Y b/\ay s.Y c/\ad s.Y s a
theorem P5 (s:J):Runs Se aw 137 [] s (P4 s):=by
 refine Runs.F7 42 Tryz.func137 rfl fun f a=> ?_
 refine ax a ?_;refine LB.T 0 2 fun WN WO _ _ WD WQ=> ?_
 have WE:∀t:J,iU Se t 181 (I 288) (I 288)=cL t (Su 288 (I 0)) 288 1:=fun t=>sq (n:=288) ec aQ lB o3 ai ai
 have WG:∀t:J,iU Se t 181 (I 32) (I 32)=cL t (Su 32 (I 0)) 32 1:=fun t=>sq (n:=32) ec aQ lB o3 ai ai
 refine ax WE ?_;refine LB.fD (a:=s.Y) (by rw[S0,TL]) Z (Th _) ?_;intro e WR WH H WS WT WI;refine aq a WG ?_;refine LB.fD (a:=s.Y) (by rw[S0,TL]) Z Z ?_;intro g K WJ U WU WK W;have X:∀i,ak e=some i->ak g≠some i:=fun i r b=>by
  rw[H] at r;rw[U] at b
  injection r with r;injection b with b;omega
 have Wy:ay s.Y e:=fun i w=>by rw[H] at w;injection w with w;omega
 have Wz:ay s.Y g:=fun i w=>by rw[U] at w;injection w with w;omega
 have c:ao K 1 e 288 (bf (ob 0)):=by
  rw[<-PZ,<-uS];exact WH.f WK W (fun L=>by rw[H] at L;injection L with L;omega)
 have h:ao K 1 g 32 (bf (nv 0)):=by rw[<-P2,<-uS];exact WJ
 refine aR a c.m h.m ?_;refine aZ.w (fun z f t=>∃i:Sh,z=288-i/\i<=288/\ao t 1 e 288 (bf (ob i))/\ao t 1 g 32 (bf (nv 0))/\ad s.Y s t/\f.e=42/\f.N 2=e/\f.N 3=g/\f.N 4=I (i:Sh))
  (fun z f t=>z= .bb 0/\ao t 1 e 288 (bf o2)/\ao t 1 g 32 (bf (nv 0))/\ad s.Y s t/\f.e=42/\f.N 2=e/\f.N 3=g)
  ⟨0,rfl,Z,c,h,(⟨Z,fun i M=>by rw[W i Z,WI i Z,WD.N i M]⟩:ad s.Y s K),V a,aa,aa,aa⟩ ?_ ?_
 ·clear a f c h;rintro WL O z f t ⟨i,rfl,M,c,h,m,a,b,d,l⟩;by_cases u:i<288;rotate_left
  ·obtain rfl:i=288:=Z;rw[PX] at c;refine aR a l (Z:¬((288:Sh):Si)<288) ?_;exact O _ _ _ ⟨rfl,c,h,m,V a,V b,V d⟩
  have F:(i:Si)<288:=Z;have v:=c.c.r (k:= .i64) (x:=(i:Si)) ec aQ Z Z;rw[Sk] at v;have p:∀(D:an) (P:Sh),(nu i).2=P->D.e=42->D.N 2=e->D.N 3=g->D.N 4=I (i:Sh)->∀j,ao j 1 e 288 ((bf (ob i)).set i (I ((P:Sh):Si)))->aF e t j->ao j 1 e 288 (bf (ob (i+1)))/\ao j 1 g 32 (bf (nv 0))/\ad s.Y s j:=by
   intro D P WM _ _ _ _ j r b;rw[uR,<-WM,(P0 u)] at r;exact⟨r,h.j b (fun Q R=>((fun i r b=>X i b r):∀i,ak g=some i->ak e≠some i) Q R),m.a (b.C Wy m.Y)⟩
  unfold nu at p;by_cases WA:i<144
  ·have E:(i:Si)<=143:=Z;rw[SD WA] at p;refine cl a b l (Sj F) (Sj E) v ?_;refine ln aQ c u rfl ?_;intro j o q;have⟨y,A,B⟩:=p f 8 rfl a b d l j o q;refine aq a l ?_;exact aH (288-(i+1)) Z ⟨i+1,rfl,Z,y,A,B,V a,V b,V d,aa⟩
  have E:¬(i:Si)<=143:=Z;rw[Sr WA] at p;by_cases WB:i<256
  ·have G:(i:Si)<=255:=Z;rw[SD WB] at p;refine ch a b l (Sj F) E (Sj G) v ?_;refine ln aQ c u rfl ?_;intro j o q;have⟨y,A,B⟩:=p f 9 rfl a b d l j o q;refine aq a l ?_;exact aH (288-(i+1)) Z ⟨i+1,rfl,Z,y,A,B,V a,V b,V d,aa⟩
  have G:¬(i:Si)<=255:=Z;rw[Sr WB] at p;by_cases WC:i<280
  ·have S:(i:Si)<=279:=Z;rw[SD WC] at p;refine c1 a b l (Sj F) E G (Sj S) v ?_;refine ln aQ c u rfl ?_;intro j o q;have⟨y,A,B⟩:=p f 7 rfl a b d l j o q;refine aq a l ?_;exact aH (288-(i+1)) Z ⟨i+1,rfl,Z,y,A,B,V a,V b,V d,aa⟩
  have S:¬(i:Si)<=279:=Z;rw[Sr WC] at p;refine c1 a b l (Sj F) E G S v ?_;refine ln aQ c u rfl ?_;intro j o q;have⟨y,A,B⟩:=p f 8 rfl a b d l j o q;refine aq a l ?_;exact aH (288-(i+1)) Z ⟨i+1,rfl,Z,y,A,B,V a,V b,V d,aa⟩
 rintro z f t ⟨rfl,c,h,m,a,b,d⟩;refine ax a ?_;refine aZ.w (fun z f t=>∃i:Sh,z=32-i/\i<=32/\ao t 1 e 288 (bf o2)/\ao t 1 g 32 (bf (nv i))/\ad s.Y s t/\f.e=42/\f.N 2=e/\f.N 3=g/\f.N 5=I (i:Sh))
  (fun z f t=>z= .bb 3/\ao t 1 e 288 (bf o2)/\ao t 1 g 32 (bf Aw)/\ad s.Y s t/\f.e=42/\f.N 2=e/\f.N 3=g)
  ⟨0,rfl,Z,c,h,m,V a,V b,V d,aa⟩ ?_ ?_
 ·clear a b d f c h m;rintro WL O z f t ⟨i,rfl,M,c,h,m,a,b,d,T⟩;by_cases u:i<32;rotate_left
  ·obtain rfl:i=32:=Z;rw[P1] at h;refine aR a T (Z:¬((32:Sh):Si)<32) ?_;exact O _ _ _ ⟨rfl,c,h,m,V a,V b,V d⟩
  have v:=h.c.r (k:= .i64) (x:=(i:Si)) ec aQ Z Z;rw[Sk] at v;refine bp a d T (Sj (Z:(i:Si)<32)) v ?_;refine ln aQ h u rfl ?_;intro j o q;have o:ao j 1 g 32 ((bf (nv i)).set i (I ((5:Sh):Si))):=o;rw[uR,P3 u] at o;refine aq a T ?_;exact aH (32-(i+1)) Z ⟨i+1,rfl,Z,c.j q (fun Q R=>X Q R),o,m.a (q.C Wz m.Y),V a,V b,V d,aa⟩
 rintro z f t ⟨rfl,c,h,m,a,b,d⟩;refine b0 a b d @Tryz.results137 ?_;exact⟨e,g,rfl,c,h,Wy,Wz,m⟩
end Go.Proofs.YtgpmffbleaphkaaGreat
namespace Go.Cl.Fx
open Go.Cl.Rw Go.Cl.Sto
theorem uU (P:SI)(t:S1)(a:Tg){x k:Sh}(b:k<=16)(c:x*2^k<=1000000):bN P .shl t (I ((x:Sh):Si)) (.int a (k:Sh))=some (I ((x*2^k:Sh):Si)):=by
 rw[pN P t .i64 _ _ a Z];have e:min ((k:Sh):Si).toNat Ss.bits=k:=by
  have:Ss.bits=64:=rfl;rw[this,Sk];omega
 rw[e,(show((x:Sh):Si)*(2:Si)^k=((x*2^k:Sh):Si) by norm_cast),cg Z]
theorem xJ {k m:Sh}(h:k<=m):2^k<=2^m:=SG Z h
end Go.Cl.Fx
namespace Go.Proofs.YtgpmffbleaphkaaGreat
open Go.Cl Go.Cl.Rw Go.Cl.Sto Go.Cl.Fx
theorem Az (a b:So):bm (.tuple #[a,b]) 0=some a:=rfl
theorem AA (a b:So):bm (.tuple #[a,b]) 1=some b:=rfl
end Go.Proofs.YtgpmffbleaphkaaGreat
namespace Go.Cl
def xK (q:Sh×Sh)(c:Sf):Sh×Sh:=((q.1+c.toNat)%65521,(q.2+(q.1+c.toNat)%65521)%65521)
def g9 (l:Sg Sf):Sh×Sh:=l.foldl xK (1,0)
def kc (l:Sg Sf):Sh:=(g9 l).2*65536+(g9 l).1
theorem uV (l:Sg Sf):(g9 l).1<65521/\(g9 l).2<65521:=by
 have b:∀(a:Sg Sf) (q:Sh×Sh),q.1<65521/\q.2<65521->(a.foldl xK q).1<65521/\(a.foldl xK q).2<65521:=by
  intro a
  induction a with
  |nil=>intro q h;exact h
  |cons c d a=>intro q h;exact a _ ⟨To _ Z,To _ Z⟩
 exact b l _ ai
theorem AB (l:Sg Sf):kc l<4294967296:=by
 have:=uV l;unfold kc;omega
theorem HV {l:Sg Sf}{i:Sh}(h:i<l.length):g9 (l.take (i+1))=xK (g9 (l.take i)) (l.getD i 0):=by
 unfold g9;rw[List.take_add_one,SH h,List.foldl_append,Sn,SH h];rfl
theorem qh {x:Si}(a:0<=x)(h:x<4294967296):SC.wrap x=x:=by
 have a:SC.bits=32:=rfl;have b:SC.signed=false:=rfl;simp only[Tz,a,b,Bool.false_and];simp;omega
theorem P6 {y x:Sh}(a:y<65536)(c:x<65536):SC.wrap (((Sl SC.bits ((y*65536:Sh):Si)|||Sl SC.bits (x:Si)).toNat:Sh):Si)=((y*65536+x:Sh):Si):=by
 have a:SC.bits=32:=rfl;rw[a];have:(Sl 32 ((y*65536:Sh):Si)|||Sl 32 (x:Si)).toNat=y*65536+x:=by
  rw[TO,Sx,Sx,Sv,Sv,Sw Z,Sw Z];have:=S5 (i:=16) (b:=x) Z y;rw[TG] at this;exact this.symm
 rw[this,qh Z Z]
theorem P7 (P:SI)(t:S1)(a:Tg){y:Sh}(b:y<65536):bN P .shl t (.int .u32 (y:Si)) (.int a 16)=some (.int .u32 ((y*65536:Sh):Si)):=by
 rw[pN P t .u32 _ _ a Z];have e:min (16:Si).toNat SC.bits=16:=by decide
 rw[e];have a:(y:Si)*(2:Si)^16=((y*65536:Sh):Si):=Z;rw[a,qh Z Z]
end Go.Cl
namespace Go.Proofs.YtgpmffbleaphkaaGreat
open Go.Cl
theorem HW (n:Sh):((n:Si)).tmod 65521=((n%65521:Sh):Si):=by rw[Tc Z];omega
theorem P8:SC.wrap (((Sl SC.bits 1&&&Sl SC.bits 65535).toNat:Sh):Si)=1:=by decide
theorem P9 (s:J)(a:So)(l:Sg Sf)(d:az s 1 a l.length (aM l))(c:l.length<=1000000000):
  Runs Se aw 146 [.int .u32 1,a] s fun v b=>v= .int .u32 (kc l:Sh)/\b=s:=by
 refine Runs.cS 35 Tryz.func146 rfl fun g b c e=> ?_
 have f:(1:Si).tmod 65521=1:=by decide
 have h:(0:Si).tmod 65521=0:=by decide
 have i:bN Se .shr 125 (.int .u32 1) (.int .u64 16)=some (.int .u32 0):=by
  rw[nc _ _ .u32 _ _ .u64 Z];rfl
 refine gY b c e @jc @P8 @gy f h i (d.g Sp) ?_;refine aZ.w (fun z f t=>∃i:Sh,z=l.length-i/\i<=l.length/\t=s/\f.e=35/\f.N 5= .int .u32 ((g9 (l.take i)).1:Sh)/\f.N 6= .int .u32 ((g9 (l.take i)).2:Sh)/\f.N 15=a/\f.N 16=I (l.length:Sh)/\f.N 17=I (i:Sh))
  (fun z f t=>z= .bb 0/\t=s/\f.e=35/\f.N 5= .int .u32 ((g9 l).1:Sh)/\f.N 6= .int .u32 ((g9 l).2:Sh))
  ⟨0,rfl,Z,rfl,V b,aa,aa,aa,aa,aa⟩ ?_ ?_
 ·clear b c e g;rintro Q h z f t ⟨i,rfl,a,rfl,c,a,b,m,e,n⟩;by_cases f:i<l.length;rotate_left
  ·obtain rfl:i=l.length:=Z;have g:¬((l.length:Sh):Si)<((l.length:Sh):Si):=Z;rw[TJ] at a b;refine aW c e n g ?_;exact h _ _ _ ⟨rfl,rfl,V c,V a,V b⟩
  have g:(i:Si)<(l.length:Si):=Z;have o:=d.r (k:= .i64) (x:=(i:Si)) Sp bw Z Z;rw[Sk] at o;have p:=d.P de f;rw[dn f] at p;have d:=(l.getD i 0).toNat_lt;have h:=uV (l.take i);have j:=HV f;generalize g9 (l.take i)=q at a b h j;have⟨d,f⟩:=q;simp only at a b h;have q:(d:Si)+((l.getD i 0).toNat:Si)=((d+(l.getD i 0).toNat:Sh):Si):=Z;have r:(f:Si)+((((d+(l.getD i 0).toNat)%65521:Sh)):Si)=((f+(d+(l.getD i 0).toNat)%65521:Sh):Si):=Z;refine kP c a b m e n (Sj g) o p (dH SR Tx) @qh q @gy @HW r ?_;exact aH (l.length-(i+1)) Z ⟨i+1,rfl,Z,rfl,V c,by simp only[cx,↓St,Sq];rw[j];rfl,by simp only[cx,↓St,Sq];rw[j];rfl,V m,V e,aa⟩
 rintro z f t ⟨rfl,rfl,c,a,b⟩;have h:=uV l;have d:=P6 (y:=(g9 l).2) (x:=(g9 l).1) Z Z;have e:=P7 Se 125 .u64 (y:=(g9 l).2) Z;refine fS c a b e @j4 d @Tryz.results146 ?_;rfl
theorem Qa (s:J)(a:So)(l:Sg Sf)(c:az s 1 a l.length (aM l))(d:l.length<=1000000000):
  Runs Se aw 141 [.int .u32 1,a] s fun v b=>v= .int .u32 (kc l:Sh)/\b=s:=by
 refine Runs.cS 36 Tryz.func141 rfl fun g b d e=> ?_
 have f:(1:Si).tmod 65536=1:=by decide
 have h:(1:Si).tmod 65521=1:=by decide
 have i:(0:Si).tmod 65521=0:=by decide
 have j:(1:Si).tdiv 65536=0:=by decide
 refine cX b d @gy @kI f h i j @qh ?_;refine aZ.w (fun z f t=>∃i:Sh,z=l.length-i/\i<=l.length/\t=s/\f.e=36/\f.N 1=a/\f.N 5= .int .u32 ((g9 (l.take i)).1:Sh)/\f.N 6= .int .u32 ((g9 (l.take i)).2:Sh)/\f.N 7=I (i:Sh))
  (fun z f t=>z= .bb 0/\t=s/\f.e=36/\f.N 5= .int .u32 ((g9 l).1:Sh)/\f.N 6= .int .u32 ((g9 l).2:Sh))
  ⟨0,rfl,Z,rfl,V b,V e,aa,aa,aa⟩ ?_ ?_
 ·clear b d e g;rintro Q h z f t ⟨i,rfl,a,rfl,d,f,a,b,m⟩;by_cases e:i<l.length;rotate_left
  ·obtain rfl:i=l.length:=Z;have g:¬((l.length:Sh):Si)<((l.length:Sh):Si):=Z;rw[TJ] at a b;refine bp d f m (c.g Sp) g ?_;exact h _ _ _ ⟨rfl,rfl,V d,V a,V b⟩
  have g:(i:Si)<(l.length:Si):=Z;have n:=c.r (k:= .i64) (x:=(i:Si)) Sp bw Z Z;rw[Sk] at n;have o:=c.P de e;rw[dn e] at o;have h:=(l.getD i 0).toNat_lt;have h:=uV (l.take i);have j:=HV e;generalize g9 (l.take i)=q at a b h j;have⟨e,p⟩:=q;simp only at a b h;have q:(e:Si)+((l.getD i 0).toNat:Si)=((e+(l.getD i 0).toNat:Sh):Si):=Z;have r:(p:Si)+((((e+(l.getD i 0).toNat)%65521:Sh)):Si)=((p+(e+(l.getD i 0).toNat)%65521:Sh):Si):=Z;refine kP d f a b m (c.g Sp) (Sj g) n o (dH SR Tx) @qh q @gy @HW r ?_;exact aH (l.length-(i+1)) Z ⟨i+1,rfl,Z,rfl,V d,V f,by simp only[cx,↓St,Sq];rw[j];rfl,by simp only[cx,↓St,Sq];rw[j];rfl,aa⟩
 rintro z f t ⟨rfl,rfl,c,a,b⟩;have h:=uV l;have d:(((g9 l).2:Sh):Si)*65536=(((g9 l).2*65536:Sh):Si):=Z;have e:(((g9 l).2*65536:Sh):Si)+(((g9 l).1:Sh):Si)=((kc l:Sh):Si):=by unfold kc;omega
 have f:=AB l;simp(disch:=omega)only[aI,cO,b6,SF,Sq,↓St,c,a,b,d,qh,e,Tryz.results141]
 try exact⟨rfl,rfl⟩
theorem Qb (s:J)(x:So)(l:Sg Sf)(b:az s 1 x l.length (aM l))(c:l.length<=1000000000):
  Runs Se aw 95 [x] s fun v a=>v= .int .u32 (kc l:Sh)/\a=s:=by
 refine Runs.dZ 5 Tryz.func95 rfl fun f a=> ?_
 refine ax a ((Qa s x l b c).b ?_);rintro _ b ⟨rfl,rfl⟩;simp(disch:=omega)only[a,aI,cO,b6,SF,↓St,Tryz.results95]
 try exact⟨rfl,rfl⟩
theorem Qc (s:J)(y c:So)(l:Sg Sf)(d:az s 1 y 1 [c])(j:az s 1 c l.length (aM l))(m:l.length<=1000000000):
  Runs Se aw 116 [y] s fun v a=>v= .int .u32 (kc l:Sh)/\a=s:=by
 refine Runs.ey 17 Tryz.func116 rfl fun e a b=> ?_
 refine aR a b (d.g SE) ?_;refine aZ.w (fun z f t=>∃i:Sh,z=1-i/\i<=1/\t=s/\f.e=17/\f.N 3= .int .u32 ((if i=0 then 1 else kc l:Sh):Si)/\f.N 6=y/\f.N 7=I ((1:Sh):Si)/\f.N 8=I (i:Sh))
  (fun z f t=>z= .bb 0/\t=s/\f.e=17/\f.N 3= .int .u32 (kc l:Sh))
  ⟨0,rfl,Z,rfl,V a,by simp only[cx,↓St,Sq];try rfl,aa,aa,by simp only[cx,↓St];try rfl⟩ ?_ ?_
 ·clear a b e;rintro Q h z n t ⟨i,rfl,a,rfl,b,a,g,e,f⟩;by_cases o:i<1;rotate_left
  ·obtain rfl:i=1:=Z;have o:¬((1:Sh):Si)<((1:Sh):Si):=Z;refine aW b e f o ?_;exact h _ _ _ ⟨rfl,rfl,V b,by simp only[cx,↓St,Sq,a];try rfl⟩
  obtain rfl:i=0:=Z;have a:n.N 3= .int .u32 1:=a;have i:((0:Sh):Si)<((1:Sh):Si):=Z;have h:=d.r (k:= .i64) (x:=((0:Sh):Si)) SE dI Z Z;rw[Sk] at h;have n:=d.P cJ (k:=0) Z;have d:aD Se t 22 (bM 1 y 0)=some c:=n;refine c1 b a g e f (Sj i) h d ((P9 t c l j m).b ?_);rintro _ c ⟨rfl,rfl⟩;refine aq b f ?_;exact aH 0 Z ⟨1,rfl,Z,rfl,V b,by simp only[cx,↓St,Sq];try rfl,V g,V e,by simp only[cx,↓St];try rfl⟩
 rintro z f t ⟨rfl,rfl,b,a⟩;simp(disch:=omega)only[aI,cO,b6,SF,↓St,b,a,Tryz.results116]
 try exact⟨rfl,rfl⟩
end Go.Proofs.YtgpmffbleaphkaaGreat
namespace Go.Cl
structure ac3 (s:J) (vs:Sg So) (L:Sg (Sg Sf)):Prop where
 aG:vs.length=L.length
 c:∀k (h:k<L.length),az s 1 (vs.getD k undef) (L[k]).length (aM L[k])
end Go.Cl
namespace Go.Cl.Fx
open Go.Cl.Rw Go.Cl.Sto
theorem aT.Qd {s:J}{z:Sh}{v:So}{n:Sh}{l:Sg So}(h:az s z v n l):∃a b c,v= .slice a b c:=by cases h<;>exact⟨_,_,_,rfl⟩
end Go.Cl.Fx
namespace Go.Proofs.YtgpmffbleaphkaaGreat
open Go.Cl Go.Cl.Rw Go.Cl.Sto Go.Cl.Fx
theorem Qe:bK Se 22=some (av):=by kernel_rfl
theorem Qf (s:J)(a:Tp Addr)(b c:Sh):dj Se s 131 1 [(0,.slice a b c)]=cL s [.slice a b c] 1 1:=by
 unfold dj;rw[SE];simp only[dI,Qe];rfl
end Go.Proofs.YtgpmffbleaphkaaGreat
namespace Go.Cl
def j8 (T:Sg (Sg Sf×Si)):Sg (So×So):=T.map fun e=>(.string ⟨e.1.toArray⟩,I e.2)
def xL (k:Sg Sf):Sg (Sg Sf×Si)->Tp Si
 |[]=>none
 |e::T=>if k=e.1 then some e.2 else xL k T
structure Qg (s:J) (r:Sh) (T:Sg (Sg Sf×Si)):Prop where
 n:r<s.Y
 cv:s.S r=some (j8 T)
section
variable {P:SI} {t kt et:S1}
end
section
variable {P:SI} {aV:bg} {all r:Sg TW} {f:an} {s:J} {d:Tp Tmp} {Q:an->J->Prop}
end
end Go.Cl
namespace Go.Cl.Lz
abbrev eI:=Sg (Sg Sf×Si)
def gv (T:eI)(b:Sg Sf):Sh->Sh->Si->Sh×Si
 |0,n,c=>(n,c)
 |k+1,n,c=>
  match xL (b.take (n+1)) T with
  |some x=>gv T b k (n+1) x
  |none=>(n,c)
def uN (b:Sg Sf):eI->Sh×Si->Sh×Si
 |[],p=>p
 |e::T,p=>uN b T (if p.1<e.1.length/\b.take e.1.length=e.1 then(e.1.length,e.2) else p)
structure sg (T:eI):Prop where
 HX:∀e∈T,2<=e.1.length
 uB:∀e∈T,2<e.1.length->∃x,(e.1.dropLast,x)∈T
 Qh:∀e∈T,∀e' ∈T,e.1=e'.1->e=e'
def dg (a:Sh):Sh:=if a<511 then 9 else if a<1023 then 10 else if a<2047 then 11 else 12
theorem AD (n:Sh):9<=dg n/\dg n<=12:=by unfold dg;repeat (first|(split;all_goals try omega)|omega)
def uW (c:Sh):Sh->Sg Sh
 |0=>[]
 |w+1=>c/2^w%2::uW c w
def AE:Sh->Sg Sf->eI->Sh->TQ->Sg Sh
 |0,_,_,a,_=>uW 257 (dg a)
 |k+1,b,T,a,d=>
  if b=[] then uW 257 (dg a)
  else
   let p:=uN b T (1,((b.getD 0 0).toNat:Si))
   let c:=if d then a else min (a+1) 4096
   uW p.2.toNat (dg a)++
    (if p.1<b.length then
     (if 258+T.length=4095 then uW 256 (dg c)++AE k (b.drop p.1) [] 258 true
     else AE k (b.drop p.1) (T++[(b.take (p.1+1),((258+T.length:Sh):Si))]) c false)
    else AE k (b.drop p.1) T c false)
structure bH (T:eI):Prop where
 ac4:sg T
 eX:∀e∈T,258<=e.2/\e.2<4096
 aG:T.length<3838
structure ac5 (T:eI) (b:Sg Sf) (p:Sh×Si):Prop where
 ac6:gv T b (b.length-1) 1 ((b.getD 0 0).toNat:Si)=p
 Qh:1<=p.1
 mu:p.1<=b.length
 eX:0<=p.2
 dC:p.2<4096
 ac7:p.2≠256
 ac8:p.2≠257
 xL:p.1<b.length->Go.Cl.xL (b.take (p.1+1)) T=none
 tX:p.1<b.length->258+T.length≠4095->bH (T++[(b.take (p.1+1),((258+T.length:Sh):Si))])
end Go.Cl.Lz
namespace Go.Cl.Runs
theorem HY (l:Sg Sf)(i j:Sh):(l.drop i).getD j 0=l.getD (i+j) 0:=by simp[TX]
theorem Qi {l:Sg Sf}{i:Sh}(h:i<l.length):l.getD i 0=l[i]:=by simp[TX,SH h]
theorem qi {l:Sg Sf}{i:Sh}(h:i<l.length):l.drop i=l.getD i 0::l.drop (i+1):=by
 rw[Qi h];exact List.drop_eq_getElem_cons h
def ev (l:Sg Sf):Sh:=min 128 (l.takeWhile (fun x=>x==l.getD 0 0)).length
def bE (a:Si)(b:Sg Sf):Sh:=(a-b.length).toNat
def cb (b:Si)(l a:Sg Sf):Sg Sf×Si:=
 match l with
 |[]=>([],2)
 |n::r=>
  if n.toNat=128 then(a,0)
  else if 128<n.toNat then
   match r with
   |[]=>([],2)
   |c::d=>if 257-n.toNat<=bE b a then cb b d (a++Su (257-n.toNat) c) else([],7)
  else if r.length<n.toNat+1/\r.length<=bE b a then([],2)
  else if bE b a<n.toNat+1 then([],7)
  else cb b (r.drop (n.toNat+1)) (a++r.take (n.toNat+1))
termination_by l.length
decreasing_by
 ·simp;omega
 simp;omega
theorem qj (a:Si)(b:Sg Sf):cb a [] b=([],2):=by rw[cb]
theorem uX {b:Si}{n:Sf}{r a:Sg Sf}(h:n.toNat=128):cb b (n::r) a=(a,0):=by rw[cb.eq_def];simp[h]
theorem HZ {a:Si}{n:Sf}{b:Sg Sf}(h:128<n.toNat):cb a [n] b=([],2):=by rw[cb.eq_def];simp[show¬n.toNat=128 from Z,h]
theorem sQ {a:Si}{n c:Sf}{r b:Sg Sf}(h:128<n.toNat)(d:257-n.toNat<=bE a b):cb a (n::c::r) b=cb a r (b++Su (257-n.toNat) c):=by
 rw[cb.eq_def];simp only[show¬n.toNat=128 from Z,h,Ts,TC,d]
theorem AF {a:Si}{n c:Sf}{r b:Sg Sf}(h:128<n.toNat)(d:bE a b<257-n.toNat):cb a (n::c::r) b=([],7):=by
 rw[cb.eq_def];simp only[show¬n.toNat=128 from Z,h,Ts,TC,show¬257-n.toNat<=bE a b from Z]
theorem H0 {a:Si}{n:Sf}{r b:Sg Sf}(h:n.toNat<128)(c:r.length<n.toNat+1)(d:r.length<=bE a b):cb a (n::r) b=([],2):=by
 rw[cb.eq_def];simp only[show¬n.toNat=128 from Z,show¬128<n.toNat from Z,TC,c,d,and_self,Ts]
theorem H2 {a:Si}{n:Sf}{r b:Sg Sf}(h:n.toNat<128)(d:bE a b<r.length)(c:bE a b<n.toNat+1):cb a (n::r) b=([],7):=by
 rw[cb.eq_def];simp only[show¬n.toNat=128 from Z,show¬128<n.toNat from Z,TC,show¬(r.length<n.toNat+1/\r.length<=bE a b) from Z,c,Ts]
theorem H3 {a:Si}{n:Sf}{r b:Sg Sf}(h:n.toNat<128)(c:n.toNat+1<=r.length)(d:n.toNat+1<=bE a b):cb a (n::r) b=cb a (r.drop (n.toNat+1)) (b++r.take (n.toNat+1)):=by
 rw[cb.eq_def];simp only[show¬n.toNat=128 from Z,show¬128<n.toNat from Z,TC,show¬(r.length<n.toNat+1/\r.length<=bE a b) from Z,show¬bE a b<n.toNat+1 from Z]
theorem Qj {b a:Si}(h:∀c,bE b c=bE a c):∀(n:Sh) (l d:Sg Sf),l.length<=n->cb b l d=cb a l d:=by
 intro n
 induction n with
 |zero=>
  intro l b b;have:l=[]:=List.eq_nil_of_length_eq_zero Z;subst this;rw[qj,qj]
 |succ n c=>
  intro l d b;cases l with
  |nil=>rw[qj,qj]
  |cons d r=>
   simp only[TK] at b;rw[cb.eq_def,cb.eq_def a];simp only[h];split
   ·rfl
   split
   ·cases r with
    |nil=>rfl
    |cons d r=>
     simp only[TK] at b;simp only;split
     ·exact c _ _ Z
     rfl
   split
   ·rfl
   split
   ·rfl
   exact c _ _ (by rw[SP];omega)
theorem Qk (a:Si)(l b:Sg Sf):cb (if 0>a then 0 else a) l b=cb a l b:=
 Qj (fun a=>by unfold bE;split<;>omega) l.length l b (Th _)
end Go.Cl.Runs
namespace Go.Cl.Hx
def H4:Sg Sf:=[48,49,50,51,52,53,54,55,56,57,97,98,99,100,101,102]
def HX (c:Sf):Sg Sf:=[H4.getD (c.toNat/16) 0,H4.getD (c.toNat%16) 0]
def Ql (l:Sg Sf):Sg Sf:=l.flatMap HX
def ac9 (l:Sg Sf):Sg Sf:=Ql l++[62]
theorem AG (c:Sf):SA.wrap (((Sl SA.bits (c.toNat:Si)&&&Sl SA.bits 15).toNat:Sh):Si)=((c.toNat%16:Sh):Si):=by
 have a:SA.bits=8:=rfl;have b:=c.toNat_lt;rw[a];have:(Sl 8 (c.toNat:Si)&&&Sl 8 15).toNat=c.toNat%16:=by
  rw[TF,Sx,Sv,Sw Z];show c.toNat&&&15=_;exact Nat.and_two_pow_sub_one_eq_mod c.toNat 4
 rw[this,gz];omega
end Go.Cl.Hx
namespace Go.Cl.B85
def a8 (l:Sg Sf):Sh->Sh
 |0=>0
 |i+1=>a8 l i*256+(if i<min 4 l.length then(l.getD i 0).toNat else 0)
def sR (x k:Sh):Sf:=Sz (33+x/85^(4-k)%85)
def kV (x:Sh):Sg Sf:=[sR x 0,sR x 1,sR x 2,sR x 3,sR x 4]
def H5 (x j:Sh):Sg Sf:=(S9 5).map fun k=>if 5<=k+j then sR x k else 0
end Go.Cl.B85
namespace Go.Cl.Ch
open Go.Cl.Pr Go.Cl.Hx Go.Cl.B85
structure bz where
 dd:Si
 fV:Si
 fW:Si
 dW:Sg Sf
 o4:Si
def bz.aJ (l:bz):Sg So:=[I l.dd,I l.fV,I l.fW,.string ⟨l.dW.toArray⟩,I l.o4]
def kq (L:Sg bz):Sg So:=(L.map bz.aJ).flatten
theorem xM {L:Sg bz}{i:Sh}(h:i<L.length):((kq L).drop (i*5)).take 5=L[i].aJ:=by
 induction L generalizing i with
 |nil=>simp at h
 |cons l L a=>
  cases i with
  |zero=>simp[kq,bz.aJ]
  |succ i=>
   have:=a (i:=i) (by simpa using h);simp only[kq,List.map_cons,List.flatten_cons,List.getElem_cons_succ] at this|-
   rw[show(i+1)*5=l.aJ.length+i*5 by simp[bz.aJ];omega,<-TR,List.drop_left];exact this
theorem H6 (L M:Sg bz):kq (L++M)=kq L++kq M:=by simp[kq]
theorem Qm {L:Sg bz}{i:Sh}(h:i<L.length)(j:Sh)(a:j<5):(kq L).getD (i*5+j) undef=L[i].aJ.getD j undef:=by
 rw[<-(xM h),Sn,Sn,Tk a,Tt]
def l4:Sg Sf:=[70,108,97,116,101,68,101,99,111,100,101]
def l5:Sg Sf:=[76,90,87,68,101,99,111,100,101]
def l7:Sg Sf:=[65,83,67,73,73,72,101,120,68,101,99,111,100,101]
def l8:Sg Sf:=[65,83,67,73,73,56,53,68,101,99,111,100,101]
def sS:Sg Sf:=[82,117,110,76,101,110,103,116,104,68,101,99,111,100,101]
def iL:Sg (Sg Sf):=[l4,l5,l7,l8,sS]
def o2 (l:bz):bz:=if l.dd=0/\l.fV=0/\l.fW=0 then {l with dd:=1,fV:=1,fW:=1} else l
def H7 (l:bz):Prop:=l.dW∈iL/\ij l.dd l.fV l.fW
instance (l:bz):Decidable (H7 l):=by unfold H7;infer_instance
end Go.Cl.Ch
namespace Go.Proofs.YtgpmffbleaphkaaGreat
open Go.Cl Go.Cl.Pr Go.Cl.Ch
abbrev da (l:bz):So:= .agg l.aJ.toArray
theorem fy:bc Se 99=some 5:=by kernel_rfl
theorem l9:c3 Se 99=some true:=by kernel_rfl
theorem o5 (i o c:Sh):aY Se 99 (ab i o c) 0=some (ab i (o+0) c):=by
 unfold aY;rw[Ti];simp[xE]
theorem sT (i o c:Sh):aY Se 99 (ab i o c) 1=some (ab i (o+3) c):=by
 unfold aY;rw[Ti];simp[uH]
theorem uY (i o c:Sh):aY Se 99 (ab i o c) 2=some (ab i (o+4) c):=by
 unfold aY;rw[Ti];simp[aQ]
theorem Qn:bK Se 9=some (.string ⟨#[]⟩):=by kernel_rfl
theorem Qo (s:J)(l:bz):Runs Se aw 62 [da l] s (xG s (l.dW∈iL)):=by
 refine Runs.dZ 7 Tryz.func62 rfl fun n a=> ?_
 refine ax a (aK fun b d h o=> ?_);have d:ae b s.Y l.aJ:=d;have i:l.aJ.length+1=6:=rfl;have e:dj Se b 89 5 [(0,.string ⟨l4.toArray⟩),(1,.string ⟨l5.toArray⟩),(2,.string ⟨l7.toArray⟩),(3,.string ⟨l8.toArray⟩),(4,.string ⟨sS.toArray⟩)]=cL b (uJ iL) 5 1:=HI Tryz.underlying89 uH Qn rfl ⟨_,rfl⟩ rfl rfl rfl rfl rfl;unfold l4 l5 l7 l8 sS at e;refine aR a i e ?_;refine du (by rfl) ?_;intro x f j p g;have k:=d.C g;have m:aD Se f 9 (ab s.Y 3 6)=some (.string ⟨l.dW.toArray⟩):=k.B uI (a:=3) (c:=6) rfl (by simp[bz.aJ]);refine aR a @sT m ((Pp f x l.dW iL j.c ai).b ?_);rintro _ q ⟨rfl,rfl⟩;refine bO a @Tryz.results62 ?_;exact⟨rfl,h.d g⟩
end Go.Proofs.YtgpmffbleaphkaaGreat
namespace Go.Cl
theorem Qp {P:SI}{s:J}{t e:S1}{z:Sh}{b:So}{a c:Array So}(g:P.underlying t=some (.slice e))(h:bc P e=some z)(i:bK P e=some b)(j:cp b=true)(f:S8 b.cells.toList.length z=true)(d:a.toList.length=z)(k:c.toList.length=z)(l:z<=1000):dj P s t 2 [(0,.agg a),(1,.agg c)]=cL s (a.toList++c.toList) 2 z:=by
 unfold dj;rw[g]
 obtain⟨u,g⟩:∃e,e=b.cells.toList:=⟨_,rfl⟩
 have e:u.length=z:=by rw[g];exact(show b.cells.toList.length=z by simpa [TS] using f)
 have l:di (u++u) (0*z) a.toList=some (a.toList++u):=by
  rw[ng _ _ _ (by simp only[Sm];omega),TD,SN,SM,TU,S2,Sy Z,SM,d,e,S7,SY]
 have m:di (a.toList++u) (1*z) c.toList=some (a.toList++c.toList):=by
  rw[ng _ _ _ (by simp only[Sm];omega),TV,SJ Z,SL Z,Sy (by simp only[Sm];omega),TP]
 have n:(S8 c.toList.length z&&Tj (1*z+z) (a.toList++u).length)=true:=by
  rw[k,Sm,d,e];simp[S3]<;>omega
 simp only[h,i,(show(Tj (2*z) 65536&&cp b&&S8 b.cells.toList.length z)=true by rw[j,f];simp[S3];omega),(show cM b.cells.toList 2=u++u by rw[<-g];simp[cM]),eT,eP,l,m,(show(S8 a.toList.length z&&Tj (0*z+z) (u++u).length)=true by simp[S3,d,e]),n,Ts]
theorem Qq {P:SI}{s:J}{t f:S1}{z:Sh}{c:So}{a b d:Array So}(i:P.underlying t=some (.slice f))(j:bc P f=some z)(k:bK P f=some c)(l:cp c=true)(h:S8 c.cells.toList.length z=true)(e:a.toList.length=z)(g:b.toList.length=z)(m:d.toList.length=z)(n:z<=1000):dj P s t 3 [(0,.agg a),(1,.agg b),(2,.agg d)]=cL s (a.toList++b.toList++d.toList) 3 z:=by
 unfold dj;rw[i]
 obtain⟨u,i⟩:∃f,f=c.cells.toList:=⟨_,rfl⟩
 have f:u.length=z:=by rw[i];exact(show c.cells.toList.length=z by simpa [TS] using h)
 have n:di (u++(u++u)) (0*z) a.toList=some (a.toList++(u++u)):=by
  rw[ng _ _ _ (by simp only[Sm];omega),TD,SN,SM,TU,S2,Sy Z,SM,e,f,S7,SY]
 have o:di (a.toList++(u++u)) (1*z) b.toList=some (a.toList++(b.toList++u)):=by
  rw[ng _ _ _ (by simp only[Sm];omega),TV,SJ Z,SL Z,S2,Sy Z,SM,g,e,S2,Sy Z,SM,f,SZ,Nat.add_sub_cancel,S7,SY]
 have p:di (a.toList++(b.toList++u)) (2*z) d.toList=some (a.toList++(b.toList++d.toList)):=by
  rw[ng _ _ _ (by simp only[Sm];omega),<-SZ,SJ (by simp only[Sm];omega),SL (by simp only[Sm];omega),Sy (by simp only[Sm];omega),TP,SZ]
 have q:(S8 b.toList.length z&&Tj (1*z+z) (a.toList++(u++u)).length)=true:=by
  rw[g,Sm,Sm,e,f];simp[S3]<;>omega
 have r:(S8 d.toList.length z&&Tj (2*z+z) (a.toList++(b.toList++u)).length)=true:=by
  rw[m,Sm,Sm,e,g,f];simp[S3]<;>omega
 simp only[j,k,(show(Tj (3*z) 65536&&cp c&&S8 c.cells.toList.length z)=true by rw[l,h];simp[S3];omega),(show cM c.cells.toList 3=u++(u++u) by rw[<-i];simp[cM]),eT,eP,n,o,p,(show(S8 a.toList.length z&&Tj (0*z+z) (u++(u++u)).length)=true by simp[S3,e,f]),q,r,Ts,SZ]
theorem Qr {P:SI}{s:J}{t e:S1}{k:Tg}{a b c:Si}(d:P.underlying t=some (.slice e))(f:bc P e=some 1)(g:bK P e=some (.int k 0)):dj P s t 3 [(0,.int k a),(1,.int k b),(2,.int k c)]=cL s [.int k a,.int k b,.int k c] 3 1:=by
 unfold dj;rw[d];simp only[f,g];rfl
end Go.Cl
namespace Go.Cl.Ch
def sU:Sg Sf:=[66,105,116,115,80,101,114,67,111,109,112,111,110,101,110,116]
def sV:Sg Sf:=[67,111,108,111,114,115]
def sW:Sg Sf:=[67,111,108,117,109,110,115]
def sX:Sg Sf:=[80,114,101,100,105,99,116,111,114]
def jJ:Sg Sf:=[70,105,108,116,101,114]
def kW:Sg Sf:=[68,101,99,111,100,101,80,97,114,109,115]
end Go.Cl.Ch
namespace Go.Cl
theorem az.Qs {P:SI}{t e:S1}{z:Sh}(b:P.underlying t=some (.slice e))(c:bc P e=some z){s:J}{v:So}{n:Sh}{l:Sg So}(h:az s z v n l){k a:Tg}{m:Sh}(d:0<m)(f:m<=n):fN P s t v none (some (.int k (m:Sh))) (some (.int a (m:Sh)))=some (cU z v 0 m):=by
 have a:=h.pP b c (k:=k) (y:=(m:Si)) Z Z;rw[Sk] at a;rw[<-a];have d:∀e f,h8 (some (.int e ((m:Sh):Si))) f=some m:=fun _ _=>rfl
 have e:S8 0 m=false:=by
  rw[<-Bool.not_eq_true,TS];omega
 have f:(Tj m m&&Tj m n)=true:=by simp;omega
 cases h with
 |al=>omega
 |cI=>omega
 |bu i g n h j l m o p a a q r s=>
  unfold fN;simp only[b,q5,d,c,f,Ts,e];rfl
structure mJ (s:J) (vs:Sg So) (L:Sg (Sg Sf)):Prop where
 aG:vs.length=L.length
 c:∀k (h:k<L.length),az s 1 (vs.getD k undef) (L[k]).length (aM L[k])
theorem mJ.al (s:J):mJ s [] []:=⟨rfl,fun k h=>absurd h (Nat.not_lt_zero k)⟩
theorem mJ.C {s a:J}{b:Sg So}{L:Sg (Sg Sf)}(h:mJ s b L)(k:ad s.Y s a):mJ a b L:=⟨h.aG,fun j c=>(h.c j c).C k⟩
theorem mJ.hB {s:J}{v:So}{a:Sg Sf}{b:Sg So}{L:Sg (Sg Sf)}(k:mJ s b L)(h:az s 1 v a.length (aM a)):mJ s (b++[v]) (L++[a]):=by
 refine⟨by simp[k.aG],fun j a=> ?_⟩;have b:j<L.length+1:=by simpa using a
 by_cases a:j<L.length
 ·have:=k.c j a;rw[List.getElem_append_left a,Sn,List.getElem?_append_left (by rw[k.aG];exact a),<-Sn];exact this
 obtain rfl:j=L.length:=Z;rw[List.getElem_append_right Z,Sn,List.getElem?_append_right (by rw[k.aG];omega)];simp only[k.aG,S7,List.getElem_cons_zero];exact h
end Go.Cl
namespace Go.Proofs.YtgpmffbleaphkaaGreat
open Go.Cl Go.Cl.Pr
theorem H8:bK Se 22=some (av):=by kernel_rfl
theorem Qt:e2 Se 22=some 24:=by kernel_rfl
theorem Qu (s:J)(a:Tp Addr)(b c:Sh):dj Se s 131 1 [(0,.slice a b c)]=cL s [.slice a b c] 1 1:=by
 unfold dj;rw[SE];simp only[dI,H8];rfl
def nk (s:J)(l:Sg Sf)(n:Sh)(v:So)(a:J):Prop:=∃w b,v= .tuple #[w,.bool (decide (l.length%n=0))]/\az a 1 w (l.length/n) b/\mJ a b (nr l n (l.length/n))/\ad s.Y s a
theorem Qv (z:Sh)(v:So)(a b:Sh):∃x n c,cU z v a b= .slice x n c:=by
 unfold cU;split<;>exact⟨_,_,_,rfl⟩
theorem Qw (L:n8 aw)(s:J)(x:So)(l:Sg Sf)(E:az s 1 x l.length (aM l))(Wz:l.length<=100000000)(n:Sh)(WA:1<=n)(WB:n<=1000000):
  Runs Se aw 126 [x,I n] s (nk s l n):=by
 refine Runs.ef 25 Tryz.func126 L.ea fun f a=> ?_
 refine ax a ?_;have F:l.length/n*n<=l.length:=Nat.div_mul_le_self _ _;have G:l.length/n<=l.length:=Nat.div_le_self _ _;have p:=Nat.div_add_mod l.length n;have WC:=To l.length (show n>0 from Z);rw[Ty] at p;unfold nk;generalize l.length/n=q at F G p|-
 refine aZ.w (fun z f t=>∃(i:Sh) (y w:So) (b:Sg So),z=q-i/\i<=q/\az s 1 y (l.drop (i*n)).length (aM (l.drop (i*n)))/\ao t 1 w i b/\mJ s b (nr l n i)/\ay s.Y w/\ad s.Y s t/\f.e=25/\f.N 0=y/\f.N 1=I n/\f.N 6=w)
  (fun z f t=>z= .bb 0/\∃(y w:So) (b:Sg So),az s 1 y (l.drop (q*n)).length (aM (l.drop (q*n)))/\ao t 1 w (q) b/\mJ s b (nr l n (q))/\ad s.Y s t/\f.e=25/\f.N 0=y/\f.N 6=w)
  ⟨0,x,av,[],rfl,Z,by rw[TD,SY];exact E,.al,mJ.al _,ay.al _,ad.p _ _,V a⟩ ?_ ?_
 ·clear a f;rintro WD H z f t ⟨i,y,w,b,rfl,K,d,e,g,M,c,a⟩;have h:=d.C c;have WE:i*n<=q*n:=Tr n K;have O:(l.drop (i*n)).length=l.length-i*n:=SP;by_cases P:i<q;rotate_left
  ·obtain rfl:i=q:=Z;have Q:¬n<=(l.drop (i*n)).length:=Z;refine aR a (h.g Sp) (eq_false (Z:¬(n:Si)<=(((l.drop (i*n)).length:Sh):Si))) ?_;exact H _ _ _ ⟨rfl,y,w,b,d,e,g,c,V a⟩
  have WG:(i+1)*n<=q*n:=Tr n P;have R:(i+1)*n=i*n+n:=TT i n;have Q:n<=(l.drop (i*n)).length:=Z;have j:=d.q6 (a:=0) (b:=n) Z Z;rw[SY,Nat.sub_zero] at j;have⟨r,u,v,S⟩:=Qv 1 y 0 n;have A:=h.Qs Sp bw (k:= .i64) (a:= .i64) (m:=n) Z Z;rw[S] at A j;simp(disch:=omega)only[a,aI,bB,bC,eU,SF,Sq,↓St,h.cd Sp,Sj (Z:(n:Si)<=(((l.drop (i*n)).length:Sh):Si)),A,Qu];refine du (by rfl) ?_;intro WH WI T WJ o;refine ax a ?_;refine hv SE SE (.inl ⟨_,rfl⟩) dI Qt H8 rfl (e.C o) T.c.X rfl ai (show([Value.slice r u v]:Sg So).all aN=true by rfl) Z Z M (bq o.Y c.Y) ?_;intro U WK W X Wy WL _;have B:=(c.d o).a Wy;have D:=d.q6 (a:=n) (b:=(l.drop (i*n)).length) Z (by omega);rw[SL (by rw[SP];omega),TR] at D;simp(disch:=omega)only[a,aI,eU,SF,Sq,↓St,(d.C B).oJ Sp bw];refine aH (q-(i+1)) Z ⟨i+1,cU 1 y n (l.drop (i*n)).length,U,b++[.slice r u v],rfl,Z,?_,W,?_,X,B,V a⟩
  ·rw[R];exact D
  rw[Px];exact g.hB j
 rintro z f t ⟨rfl,y,w,b,d,e,g,c,a⟩;have O:(l.drop (q*n)).length=l.length-q*n:=SP;refine b0 a ((d.C c).g Sp) ((decide_eq_decide.2 Z:decide ((((l.drop (q*n)).length:Sh):Si)=0)=decide (l.length%n=0))) @Tryz.results126 ?_;exact⟨w,b,rfl,e.c,g.C c,c⟩
def rD (s:J)(p:Sg Sf×Si)(v:So)(a:J):Prop:=∃w,v= .tuple #[w,I p.2]/\kR s w a p.1
end Go.Proofs.YtgpmffbleaphkaaGreat
namespace Go.Proofs.YtgpmffbleaphkaaGreat
open Go.Cl Go.Cl.Rw
theorem Qx {x:Si}(a:0<=x)(h:x<18446744073709551616):S4.wrap x=x:=by
 have a:S4.bits=64:=rfl;have b:S4.signed=false:=rfl;simp only[Tz,a,b,Bool.false_and];simp;omega
structure Qy (base:Sh) (s:J) (j:Sh) (v:So) (p:Sg Sf×Sh) (R:Sg So):Prop where
 cG:ae s j (v::I p.2::R)
 br:ao s 1 v p.1.length (aM p.1)
 Q:ay base v
 U:ak v≠some j
 eX:base<=j
 K:At p
end Go.Proofs.YtgpmffbleaphkaaGreat
namespace Go.Proofs.YtgpmffbleaphkaaGreat
open Go.Cl Go.Cl.Lz Go.Cl.Rw
theorem Qz (s:J)(n:Sh):
  Runs Se aw 147 [I n] s fun v a=>v=I (dg n:Sh)/\a=s:=by
 refine Runs.dZ 12 Tryz.func147 rfl fun f a=> ?_
 by_cases b:n<511
 ·have c:(n:Si)<511:=Z;refine b0 a (Sj c) (show dg n=9 by unfold dg;rw[SD b]) @S6 ?_;rfl
 have c:¬(n:Si)<511:=Z;by_cases d:n<1023
 ·have e:(n:Si)<1023:=Z;refine eo a c (Sj e) (show dg n=10 by unfold dg;rw[Sr b,SD d]) @S6 ?_;rfl
 have e:¬(n:Si)<1023:=Z;by_cases f:n<2047
 ·have g:(n:Si)<2047:=Z;refine e8 a c e (Sj g) (show dg n=11 by unfold dg;rw[Sr b,Sr d,SD f]) @S6 ?_;rfl
 have g:¬(n:Si)<2047:=Z;refine e8 a c e g (show dg n=12 by unfold dg;rw[Sr b,Sr d,Sr f]) @S6 ?_;rfl
theorem QA (s:J)(n:Sh):
  Runs Se aw 96 [I n] s fun v a=>v=I (dg n:Sh)/\a=s:=by
 refine Runs.dZ 12 Tryz.func96 rfl fun f a=> ?_
 by_cases b:n<511
 ·have c:(n:Si)<511:=Z;refine b0 a (Sj c) (show dg n=9 by unfold dg;rw[SD b]) @Td ?_;rfl
 have c:¬(n:Si)<511:=Z;by_cases d:n<1023
 ·have e:(n:Si)<1023:=Z;refine eo a c (Sj e) (show dg n=10 by unfold dg;rw[Sr b,SD d]) @Td ?_;rfl
 have e:¬(n:Si)<1023:=Z;by_cases f:n<2047
 ·have g:(n:Si)<2047:=Z;refine e8 a c e (Sj g) (show dg n=11 by unfold dg;rw[Sr b,Sr d,SD f]) @Td ?_;rfl
 have g:¬(n:Si)<2047:=Z;refine e8 a c e g (show dg n=12 by unfold dg;rw[Sr b,Sr d,Sr f]) @Td ?_;rfl
theorem Av (c k:Sh):((c:Si)).fdiv (2^k)=((c/2^k:Sh):Si):=by
 rw[SO _ (by exact Tq Z)];norm_cast
theorem oc:bc Se 4=some 1:=by kernel_rfl
def QB (B:Sg Sh):Sg So:=B.map fun x=>I (x:Sh)
structure QC (base:Sh) (s:J) (j:Sh) (v bv:So) (p:Sg Sf×Sh) (B:Sg Sh) (next:Sh) (begun:TQ):Prop where
 H:Qy base s j v p [bv,I next,.bool begun]
 ji:ao s 1 bv B.length (QB B)
 ada:ay base bv
 adb:ak bv≠some j
 ade:∀k,ak v=some k->ak bv≠some k
structure adf (j:Sh) (v bv:So) (s:J) (v' jz:So) (s' :J):Prop where
 Y:s.Y<=s'.Y
 N:∀i,i<s.Y->i≠j->ak v≠some i->ak bv≠some i->s'.i.N i=s.i.N i
 adg:ak v' =ak v\/∃i,ak v' =some i/\s.Y<=i
 adh:ak jz=none\/ak jz=ak bv\/∃i,ak jz=some i/\s.Y<=i
def QD (a:Sh)(s:J)(j:Sh)(v b:So)(q:Sg Sf×Sg Sh)(c:Sh)(d:TQ):Prop:=QC a s j v b (q.1,8*q.1.length) q.2 c d
theorem AH:c3 Se 4=some false:=by kernel_rfl
end Go.Proofs.YtgpmffbleaphkaaGreat
namespace Go.Cl.Lz
def mK (b:Sg Sf)(i:Sh):Sh:=(b.getD (i/8) 0).toNat/2^(7-i%8)%2
theorem AI (b:Sg Sf)(i:Sh):mK b i<2:=To _ Z
def hf (b:Sg Sf)(p:Sh):Sh->Sh
 |0=>0
 |w+1=>hf b p w*2+mK b (p+w)
theorem uZ (b:Sg Sf)(p:Sh):∀w,hf b p w<2^w
 |0=>by simp[hf]
 |w+1=>by have a:=uZ b p w;have a:=AI b (p+w);rw[hf,TB];omega
def ev (T:Sg (Sg Sf))(a:Sg Sf)(c:Sh):Tp (Sg Sf):=
 if c<256 then some [Sz c]
 else if a=[] then none
 else if c=258+T.length then some (a++a.take 1)
 else T[c-258]?
def dO (T:Sg (Sg Sf))(a x:Sg Sf):Sg (Sg Sf):=if a≠[]/\258+T.length<4096 then T++[a++x.take 1] else T
def cb (b:Sg Sf)(c:Sh):Sh->Sh->Sg (Sg Sf)->Sg Sf->Sg Sf->Sh×Sg Sf
 |0,_,_,_,a=>(0,a)
 |k+1,p,T,d,a=>
  if 8*b.length<p+dg (258+T.length) then(2,[])
  else if hf b p (dg (258+T.length))=257 then(0,a)
  else if hf b p (dg (258+T.length))=256 then cb b c k (p+dg (258+T.length)) [] [] a
  else match ev T d (hf b p (dg (258+T.length))) with
   |none=>(4,[])
   |some x=>if c<a.length+x.length then(7,[]) else cb b c k (p+dg (258+T.length)) (dO T d x) x (a++x)
def o6 (b:Sg Sf)(a:Sh):Sh×Sg Sf:=cb b a (8*b.length+1) 0 [] [] []
theorem H9 {d:Sg Sf}{a k p:Sh}{T:Sg (Sg Sf)}{b c:Sg Sf}(h:8*d.length<p+dg (258+T.length)):cb d a (k+1) p T b c=(2,[]):=by rw[cb,SD h]
theorem uX {b:Sg Sf}{c k p:Sh}{T:Sg (Sg Sf)}{d a:Sg Sf}(h:¬8*b.length<p+dg (258+T.length))(e:hf b p (dg (258+T.length))=257):cb b c (k+1) p T d a=(0,a):=by rw[cb,Sr h,SD e]
theorem Ia {b:Sg Sf}{a k p:Sh}{T:Sg (Sg Sf)}{d c:Sg Sf}(h:¬8*b.length<p+dg (258+T.length))(e:hf b p (dg (258+T.length))=256):cb b a (k+1) p T d c=cb b a k (p+dg (258+T.length)) [] [] c:=by rw[cb,Sr h,Sr Z,SD e]
theorem sQ {d:Sg Sf}{a k p e:Sh}{T:Sg (Sg Sf)}{b c:Sg Sf}(h:¬8*d.length<p+dg (258+T.length))(f:hf d p (dg (258+T.length))=e)(g:e≠257)(i:e≠256):
  cb d a (k+1) p T b c=match ev T b e with
   |none=>(4,[])
   |some x=>if a<c.length+x.length then(7,[]) else cb d a k (p+dg (258+T.length)) (dO T b x) x (c++x):=by
 rw[cb,Sr h,Sr Z,Sr Z,f]
def QE (T:eI):Prop:=∀i e,T[i]?=some e->e.2=((258+i:Sh):Si)
theorem sB {l:Sg Sf}{n:Sh}(h:n<l.length):l.take (n+1)=l.take n++(l.drop n).take 1:=by
 rw[List.take_add]
structure adi (l:Sg Sf) (T:eI) (rd:Sh) (fst:TQ) (D:Sg (Sg Sf)) (last:Sg Sf):Prop where
 adj:bH T
 mB:QE T
 adk:rd=258+D.length
 adl:D.length<3838
 HJ:fst=true->T=[]/\D=[]/\last=[]
 adm:fst=false->last≠[]/\(l≠[]->T.map Prod.fst=D++[last++l.take 1])
end Go.Cl.Lz
namespace Go.Proofs.YtgpmffbleaphkaaGreat
open Go.Cl Go.Cl.Lz Go.Cl.Rw
structure adn (base:Sh) (s:J) (j r:Sh) (v bv:So) (q:Sg Sf×Sg Sh) (T:eI) (next:Sh) (begun:TQ):Prop where
 ado:QD base s j v bv q next begun
 cv:Qg s r T
 qk:r≠j
 adp:ak v≠some r
 adq:ak bv≠some r
 eX:base<=r
section
variable {base:Sh} {s s' :J} {j r:Sh} {v bv v' jz:So} {q q' :Sg Sf×Sg Sh} {T:eI} {next next' :Sh} {begun avP:TQ}
end
theorem kR.mx {s a b:J}{w:So}{l:Sg Sf}{c:Sh}(h:kR a w b l)(k:ad c s a)(d:c=s.Y):kR s w b l:=by
 subst d;exact⟨h.br,fun i e=>Tn k.Y (h.Q i e),k.d h.A⟩
end Go.Proofs.YtgpmffbleaphkaaGreat
namespace Go.Proofs.YtgpmffbleaphkaaGreat
open Go.Cl Go.Cl.Runs
theorem Ib {s:J}{z:Sh}{v:So}{n:Sh}{l:Sg So}(h:az s z v n l)(d:0<n){a b:Sh}:∀j,ak (cU z v a b)=some j->j<s.Y:=by
 cases h with
 |al=>intro j h;cases h
 |cI=>omega
 |bu i e n f g l c k m o p q r t=>intro j h;injection h with h;subst h;exact c
end Go.Proofs.YtgpmffbleaphkaaGreat
namespace Go.Proofs.YtgpmffbleaphkaaGreat
open Go.Cl Go.Cl.Pr Go.Cl.Ch Go.Cl.Hx Go.Cl.B85
theorem kR.od {s a b:J}{w:So}{l:Sg Sf}(h:kR a w b l)(k:ad s.Y s a):kR s w b l:=kR.mx h k rfl
theorem Ic:n8 aw:=⟨rfl,rfl,rfl,rfl,rfl,rfl,rfl,rfl,rfl,rfl⟩
end Go.Proofs.YtgpmffbleaphkaaGreat