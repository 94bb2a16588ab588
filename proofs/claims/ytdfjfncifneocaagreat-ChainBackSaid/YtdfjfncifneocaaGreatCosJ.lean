import Derived.Test.YtdfjfncifneocaaGreatCosD
open _root_ renaming reduceIte->ab,List->a5,Nat->bb,UInt8->bq,decide_eq_false->b7,eq_false->b8,and_self->ca,decide_eq_true->cc,Bool->cv,eq_true->c4,Int->c8
open Go.Proofs.Tryz renaming prog->an,underlying24->ao,results206->b5,results203->cx,results207->cz,results139->c3,results97->c5,func206->dt
open Go renaming Value->av,Program->c9
open List renaming take_of_length_le->a0,length_cons->a6,length_take->a7,length_drop->a9,length_append->bg,eq_nil_of_length_eq_zero->bk,append_nil->bl,drop_zero->bo,all_cons->bz,all_append->cm,length_nil->c0,take_zero->c6
open Int renaming toNat_natCast->a3
open Nat renaming reduceAdd->a4,le_refl->a8,sub_self->b4,mul_le_mul_right->cb,zero_mul->cd,sub_zero->cg,zero_add->dd,succ_mul->ds,sub_mul->dE,beq_eq->dI
open Nat renaming reduceLT->QS,reduceEqDiff->Qx
set_option maxHeartbeats 8000000
set_option linter.unusedSimpArgs false
set_option linter.unusedVariables false
set_option maxRecDepth 100000
namespace Go.Proofs.YtdfjfncifneocaaGreat
open Go.Cl
theorem WL {F:bb->Prop}{s:aq}{cs:a5 av}{e:a5 bq×O}(h:dz F s cs e):cs.all aL=true:=by
 obtain⟨r,e,h,_⟩:=h
 rw[e,bz,h.ok];rfl
end Go.Proofs.YtdfjfncifneocaaGreat
namespace Go.Cl
theorem DS {zs:a5 av}(h:zs.all aL=true):∀n,(bB zs n).all aL=true
 |0=>rfl
 |n+1=>by rw[bB,cm,h,DS h n];rfl
theorem Own.WM {P:c9}{t e:TypeId}{z:bb}{zv:av}{zs:a5 av}(hu:P.underlying t=some (.slice e))(cf:aX P e=some z)(uP:bV P e=some zv)(hp:bN zv=true)(Nj:zv.cells.toList=zs)(oK:zs.length=z)(wC:0<z)(dH:zs.all aL=true)
  {s:aq} {v:av} {n:bb} {l:a5 av} (h:Own s z v n l) {k:bb} (hk:k<=n):
  ∃s',nG P s t (dJ z v k n)=some (undef,s')/\Own s' z v n (l.take (k*z)++bB zs (n-k))/\bt v s s' :=by
 cases h with
 |nil=>
  obtain rfl:k=0:=by omega
  refine⟨s,?_,by rw[b4,bB,bl,List.take_nil];exact .nil,a8 _,fun _ _ _=>rfl⟩
  simp only[dJ,nG,hu]
 |of i n low l hi hb hl hlen=>
  by_cases Lu:k=n
  ·subst Lu
   refine⟨s,?_,?_,a8 _,fun _ _ _=>rfl⟩
   ·simp only[dJ,nG,hu,b4]
   ·rw[b4,bB,bl,a0 (by omega)]
    exact .of i k low l hi hb hl hlen
  obtain⟨m,hm⟩:∃m,n-k=m+1:=⟨n-k-1,by omega⟩
  have hkz:k*z+(n-k)*z=n*z:=by rw[<-Nat.add_mul];congr 1;omega
  have mO:(bB zs (m+1)).length=(n-k)*z:=by rw[dL,oK,hm]
  have zf:=jy l (0+k*z) (bB zs (m+1)) (by omega)
  have iy:(true&&Nat.ble low (l.length+1)&&Nat.beq (l.length+1) (l.length+1)&&(bB zs (m+1)).all aL)=true:=by
   simp only[DS dH,Bool.and_true,Bool.true_and,Bool.and_eq_true,Nat.ble_eq,dI];exact⟨hl,trivial⟩
  have ph:(bN zv&&Nat.beq zs.length z&&Nat.blt 0 z)=true:=by
   rw[hp,oK]
   simp only[Bool.true_and,Bool.and_eq_true,dI]
   exact⟨trivial,by rw[Nat.blt_eq];exact wC⟩
  have aE:s.storeAt i (0+k*z) (l.length+1) (bB zs (m+1))=some (s.put i (.dZ ⟨l.take (0+k*z)++bB zs (m+1)++l.drop (0+k*z+(bB zs (m+1)).length),l.length+1,true,z⟩)):=by
   unfold aq.storeAt
   simp only[hb,iy,if_true,zf]
   split
   ·rename_i he;rw[he] at mO
    have:0<(n-k)*z:=Nat.mul_pos (by omega) wC
    simp at mO;omega
   ·rfl
  have hd:l.drop (0+k*z+(bB zs (m+1)).length)=[]:=List.drop_eq_nil_of_le (by omega)
  rw[hd,bl,dd] at aE
  have J1:(l.take (k*z)++bB zs (m+1)).length=l.length:=by rw[bg,a7,mO];omega
  refine⟨s.put i (.dZ ⟨l.take (k*z)++bB zs (m+1),l.length+1,true,z⟩),?_,?_,⟨by simp[aq.put],fun q _ hq=> ?_⟩⟩
  rotate_left
  ·rw[hm,<-J1]
   exact .of i n _ _ (by simpa [aq.put] using hi) (aq.ck _ _ _ (by omega)) (a8 _) (by omega)
  ·rw[aq.bP]
   intro e;subst e;exact hq rfl
  ·simp only[dJ,nG,hu,hm,cf,uP,Nj,ph,if_true,dd,aE]
section
variable {P:c9} {lib:aA} {all r:a5 Oper} {f:aW} {s:aq} {d:Option Tmp} {Q:aW->aq->Prop}
theorem DT {t e:TypeId}{z:bb}{zv:av}{zs:a5 av}(hu:P.underlying t=some (.slice e))(cf:aX P e=some z)(uP:bV P e=some zv)(hp:bN zv=true)(Nj:zv.cells.toList=zs)(oK:zs.length=z)(wC:0<z)(dH:zs.all aL=true)
  {v:av} {n:bb} {l:a5 av} (h:Own s z v n l) {k:bb} (hk:k<=n)
  (K:∀s',Own s' z v n (l.take (k*z)++bB zs (n-k))->bt v s s' ->dW P lib all r f s d Q (some (.val undef s'))):dW P lib all r f s d Q (oF (nG P s t (dJ z v k n))):=by
 obtain⟨s',h1,h2,h3⟩:=h.WM hu cf uP hp Nj oK wC dH hk
 rw[h1,ft]
 exact K s' h2 h3
end
theorem ru {P:c9}{d:Option Tmp}{ty:TypeId}{ps:String}{af:Array Edge}{gd:Option (bb×cv)}{f:aW}{s:aq}(g:FuncId)(xs bs:Array Operand):cS P ⟨d,.makeFunc (.func g) xs bs,ty,ps,af,gd⟩ f s=match aa f xs.toList,aa f bs.toList with
  |some l,some m=>some (.val (.func (.func g) l.toArray m.toArray) s)
  |_,_=>none:=rfl
def aap (p:bb->cv)(n:bb)(r:c8):Prop:=(r= -1/\∀i,i<n->p i=false)\/∃k,k<n/\r=(k:bb)/\p k=true/\∀i,i<k->p i=false
end Go.Cl
namespace Go.Proofs.YtdfjfncifneocaaGreat
open Go.Cl Go.Lib
def DU (s:aq)(a b:a5 bq)(v:av)(s' :aq):Prop:=v= .int .i64 (compareBytes a b)/\ar s.next s s'
theorem Jk {lib:aA}(hl:lib.at 219=none)(hp:lib.at 224=some iX)(s:aq)(a b:a5 bq):
  Runs an lib 219 [.string ⟨a.toArray⟩,.string ⟨b.toArray⟩] s (DU s a b):=by
 refine Runs.enter 8 Tryz.func219 rfl hl rfl rfl ?_
 intro f hn hf
 have h0:f.get 0= .string ⟨a.toArray⟩:=hf 0
 have h1:f.get 1= .string ⟨b.toArray⟩:=hf 1
 clear hf
 simp only[aj,ak,aa,QS,Qx,↓ab,hn,h0,h1]
 refine Runs.Z8 (v:= .int .i64 (compareBytes a b)) (s' :=s) hp vS ?_ ?_
 ·show some (Value.int .i64 (Extern.BytealgCompare.cmp ⟨a.toArray⟩ ⟨b.toArray⟩),s)=_
  rw[cmp_eq]
 simp only[aj,al,oneOf,QS,↓ab,hn,Tryz.results219]
 exact⟨rfl,ar.refl _ _⟩
theorem LP {lib:aA}(hl:lib.at 208=none)(jL:lib.at 219=none)(hp:lib.at 224=some iX)(s:aq)(a b:a5 bq):
  Runs an lib 208 [.string ⟨a.toArray⟩,.string ⟨b.toArray⟩] s (DU s a b):=by
 refine Runs.enter 8 Tryz.func208 rfl hl rfl rfl ?_
 intro f hn hf
 have h0:f.get 0= .string ⟨a.toArray⟩:=hf 0
 have h1:f.get 1= .string ⟨b.toArray⟩:=hf 1
 clear hf
 simp only[aj,ak,aa,QS,Qx,↓ab,hn,h0,h1]
 refine(Jk jL hp s a b).mono ?_
 rintro _ s3 ⟨rfl,fB⟩
 simp only[aj,al,oneOf,QS,↓ab,hn,Tryz.results208]
 exact⟨rfl,fB⟩
theorem HA {lib:aA}(hl:lib.at 177=none)(jn:lib.at 208=none)(jL:lib.at 219=none)(hp:lib.at 224=some iX)(s:aq)(a b:a5 bq)(r1 r2:a5 av)(q1:r1.length=5)(q2:r2.length=5):
  Runs an lib 177 [.agg (.string ⟨a.toArray⟩::r1).toArray,.agg (.string ⟨b.toArray⟩::r2).toArray] s (DU s a b):=by
 refine Runs.enter 10 Tryz.func177 rfl hl rfl rfl ?_
 intro f hn hf
 have h0:f.get 0= .agg (.string ⟨a.toArray⟩::r1).toArray:=hf 0
 have h1:f.get 1= .agg (.string ⟨b.toArray⟩::r2).toArray:=hf 1
 clear hf
 simp only[aj,QS,↓ab,hn,h0]
 refine aw ?_
 intro s1 eK bn iV
 simp only[aj,QS,Qx,a4,↓ab,hn,h1,a6,q1]
 refine aw ?_
 intro s2 dD aR m8
 have eK:=eK.keeps aR
 have cR:ar s.next s s2:=bn.trans (aR.weaken (by omega))
 have l1:aJ an s2 9 (.pointer (some ⟨s.next,0,some 7⟩))=some (.string ⟨a.toArray⟩):=eK.load LH (off:=0) (c:=7) (by simp[q1]) (by simp)
 have l2:aJ an s2 9 (.pointer (some ⟨s1.next,0,some 7⟩))=some (.string ⟨b.toArray⟩):=dD.load LH (off:=0) (c:=7) (by simp[q2]) (by simp)
 simp only[aj,ak,aa,QS,Qx,a4,↓ab,hn,a6,q2,WD,l1,l2]
 refine(LP jn jL hp s2 a b).mono ?_
 rintro _ s3 ⟨rfl,fB⟩
 simp only[aj,al,oneOf,QS,↓ab,hn,Tryz.results177]
 exact⟨rfl,cR.trans (fB.weaken cR.next)⟩
theorem ahL:bX an 208=some false:=by kernel_rfl
def LQ (s:aq)(t:cv)(v:av)(s' :aq):Prop:=v= .bool t/\ar s.next s s'
theorem amb {lib:aA}(hl:lib.at 204=none)(UF:lib.at 177=none)(jn:lib.at 208=none)(jL:lib.at 219=none)(hp:lib.at 224=some iX)(s:aq)(a b:a5 bq)(r1 r2:a5 av)(q1:r1.length=5)(q2:r2.length=5)(i j:bb)
  (hi:ax s i [.func (.func 177) #[] #[]]) (hj:ax s j (.string ⟨b.toArray⟩::r2)):
  Runs an lib 204 [.agg (.string ⟨a.toArray⟩::r1).toArray,.pointer (some ⟨i,0,some 2⟩),.pointer (some ⟨j,0,some 7⟩)] s (LQ s (decide (0<=compareBytes a b))):=by
 refine Runs.enter 10 Tryz.func204 rfl hl rfl rfl ?_
 intro f hn hf
 have h0:f.get 0= .agg (.string ⟨a.toArray⟩::r1).toArray:=hf 0
 have h1:f.get 1= .pointer (some ⟨i,0,some 2⟩):=hf 1
 have h2:f.get 2= .pointer (some ⟨j,0,some 7⟩):=hf 2
 clear hf
 simp only[aj,QS,↓ab,hn,h0]
 refine aw ?_
 intro s1 eK bn iV
 have hi:=hi.keeps bn
 have hj:=hj.keeps bn
 have l0:aJ an s1 208 (.pointer (some ⟨i,0,some 2⟩))=some (.func (.func 177) #[] #[]):=hi.load ahL (off:=0) (c:=2) rfl (by simp)
 have l1:aJ an s1 63 (.pointer (some ⟨s.next,0,some 7⟩))=some (.agg (.string ⟨a.toArray⟩::r1).toArray):=ax.bF Tc (by simp[q1,qq]) eK (by simp[q1])
 have l2:aJ an s1 63 (.pointer (some ⟨j,0,some 7⟩))=some (.agg (.string ⟨b.toArray⟩::r2).toArray):=ax.bF Tc (by simp[q2,qq]) hj (by simp[q2])
 simp only[aj,ak,aa,QS,Qx,a4,↓ab,hn,h1,h2,a6,q1,l0,l1,l2]
 refine(HA UF jn jL hp s1 a b r1 r2 q1 q2).mono ?_
 rintro _ s3 ⟨rfl,fB⟩
 simp only[aj,al,oneOf,QS,↓ab,hn,Tryz.results204]
 exact⟨rfl,bn.trans (fB.weaken bn.next)⟩
theorem ahM {lib:aA}(hl:lib.at 205=none)(UF:lib.at 177=none)(jn:lib.at 208=none)(jL:lib.at 219=none)(hp:lib.at 224=some iX)(s:aq)(a b:a5 bq)(r1 r2:a5 av)(q1:r1.length=5)(q2:r2.length=5)(i j:bb)
  (hi:ax s i [.func (.func 177) #[] #[]]) (hj:ax s j (.string ⟨b.toArray⟩::r2)):
  Runs an lib 205 [.agg (.string ⟨a.toArray⟩::r1).toArray,.pointer (some ⟨i,0,some 2⟩),.pointer (some ⟨j,0,some 7⟩)] s (LQ s (decide (compareBytes a b=0))):=by
 refine Runs.enter 10 Tryz.func205 rfl hl rfl rfl ?_
 intro f hn hf
 have h0:f.get 0= .agg (.string ⟨a.toArray⟩::r1).toArray:=hf 0
 have h1:f.get 1= .pointer (some ⟨i,0,some 2⟩):=hf 1
 have h2:f.get 2= .pointer (some ⟨j,0,some 7⟩):=hf 2
 clear hf
 simp only[aj,QS,↓ab,hn,h0]
 refine aw ?_
 intro s1 eK bn iV
 have hi:=hi.keeps bn
 have hj:=hj.keeps bn
 have l0:aJ an s1 208 (.pointer (some ⟨i,0,some 2⟩))=some (.func (.func 177) #[] #[]):=hi.load ahL (off:=0) (c:=2) rfl (by simp)
 have l1:aJ an s1 63 (.pointer (some ⟨s.next,0,some 7⟩))=some (.agg (.string ⟨a.toArray⟩::r1).toArray):=ax.bF Tc (by simp[q1,qq]) eK (by simp[q1])
 have l2:aJ an s1 63 (.pointer (some ⟨j,0,some 7⟩))=some (.agg (.string ⟨b.toArray⟩::r2).toArray):=ax.bF Tc (by simp[q2,qq]) hj (by simp[q2])
 simp only[aj,ak,aa,QS,Qx,a4,↓ab,hn,h1,h2,a6,q1,l0,l1,l2]
 refine(HA UF jn jL hp s1 a b r1 r2 q1 q2).mono ?_
 rintro _ s3 ⟨rfl,fB⟩
 simp only[aj,al,oneOf,QS,↓ab,hn,Tryz.results205]
 exact⟨rfl,bn.trans (fB.weaken bn.next)⟩
def aaq (s:aq)(p:bb->cv)(n:bb)(v:av)(s' :aq):Prop:=(∃r,v= .int .i64 r/\aap p n r)/\ar s.next s s'
theorem OP {lib:aA}(hl:lib.at 203=none)(g:bb)(bs:a5 av)(s:aq)(x:av)(n:bb)(lx:a5 av)(hx:aN s 6 x n lx)(uy:n<=140737488351232)(p:bb->cv)
  (h:∀i,i<n->∀s' :aq,ar s.next s s' ->Runs an lib g (.agg ((lx.drop (i*6)).take 6).toArray::bs) s' (LQ s' (p i))):
  Runs an lib 203 [x,.func (.func g) #[] bs.toArray] s (aaq s p n):=by
 refine Runs.enter 19 Tryz.func203 rfl hl rfl rfl ?_
 intro f hn hf
 have h0:f.get 0=x:=hf 0
 have h1:f.get 1= .func (.func g) #[] bs.toArray:=hf 1
 clear hf
 simp only[aj,aa,QS,Qx,↓ab,hn,h0,hx.bm ao]
 refine Comes.bQ (fun z f s' =>∃i:bb,z=n-i/\i<=n/\(∀j,j<i->p j=false)/\ar s.next s s' /\f.n=19/\f.get 0=x/\f.get 1= .func (.func g) #[] bs.toArray/\f.get 7= .int .i64 (n:bb)/\f.get 8= .int .i64 (i:bb))
  (fun z f s' =>(z= .ret/\ar s.next s s' /\f.n=19/\∃r:bb,f.get 4= .int .i64 (r:bb)/\r<n/\p r=true/\∀j,j<r->p j=false)\/(z= .exit 0/\(∀j,j<n->p j=false)/\ar s.next s s' /\f.n=19))
  ⟨0,rfl,by omega,fun j h=>by omega,ar.refl _ _,by simp only[ad,ag,↓ab,Qx,hn,h0,h1,true_and];rfl⟩ ?_ ?_
 ·clear hn h0 h1 f
  rintro Q hQ z f s2 ⟨i,rfl,hi,hP,aE,hn,h0,h1,h7,h8⟩
  by_cases bd:i<n
  rotate_left
  ·obtain rfl:i=n:=by omega
   have d1:¬((i:bb):c8)<((i:bb):c8):=by omega
   simp only[aj,QS,↓ab,hn,h7,h8,b8 d1]
   exact hQ _ _ _ (.inr ⟨rfl,hP,aE,by simp only[ag,hn]⟩)
  have d1:((i:bb):c8)<((n:bb):c8):=by omega
  have ko:=hx.keeps aE
  have gB:=ko.indexAddr (P:=an) (k:= .i64) (x:=(i:c8)) ao qq (by omega) (by omega)
  rw[a3] at gB
  have fz:=ko.fJ (P:=an) Tc qq bd
  have gp:=h i bd s2 aE
  generalize (lx.drop (i*6)).take 6=xs at fz gp
  simp only[aj,ak,aa,QS,Qx,↓ab,hn,h0,h1,h7,h8,c4 d1,gB,fz]
  refine gp.mono ?_
  rintro _ s3 ⟨rfl,fB⟩
  have mw:=aE.trans (fB.weaken aE.next)
  cases hp:p i with
  |true=>
   simp only[aj,QS,Qx,↓ab,hn]
   exact hQ _ _ _ (.inl ⟨rfl,mw,by simp only[ag,hn],i,by simp only[ad,↓ab],bd,hp,hP⟩)
  |false=>
   simp(disch:=omega)only[aj,QS,Qx,↓ab,hn,h8,aD]
   exact ay (n-(i+1)) (by omega) ⟨i+1,rfl,by omega,Te hP hp,mw,by simp only[ag,hn],by simp only[ad,↓ab,Qx,h0],by simp only[ad,↓ab,Qx,h1],by simp only[ad,↓ab,Qx,h7],by simp only[ad,↓ab];rfl⟩
 rintro z f' s6 (⟨rfl,hs,jq,r,h4,pd,gx,A8⟩|⟨rfl,hP,hs,jq⟩)
 ·simp only[aj,al,oneOf,QS,↓ab,jq,h4,cx]
  exact⟨⟨_,rfl,.inr ⟨r,pd,rfl,gx,A8⟩⟩,hs⟩
 simp only[aj,al,oneOf,QS,↓ab,jq,cx]
 exact⟨⟨_,rfl,.inl ⟨rfl,hP⟩⟩,hs⟩
end Go.Proofs.YtdfjfncifneocaaGreat
namespace Go.Cl
theorem BD {z:bb}(hz:0<z):∀(n:bb) (l:a5 av),l.length=n*z->(∀i,i<n->((l.drop (i*z)).take z).all aL=true)->l.all aL=true
 |0,l,h,_=>by
  have:l=[]:=bk (by omega)
  rw[this];rfl
 |n+1,l,h,k=>by
  have h1:(l.take z).all aL=true:=by
   have:=k 0 (by omega)
   rwa [cd,bo] at this
  have h2:(l.drop z).all aL=true:=by
   refine BD hz n _ (by rw[a9,h,ds];omega) (fun i hi=> ?_)
   have:=k (i+1) (by omega)
   rw[List.drop_drop]
   rwa [ds,Nat.add_comm] at this
  rw[<-List.take_append_drop z l,cm,h1,h2];rfl
end Go.Cl
namespace Go.Proofs.YtdfjfncifneocaaGreat
open Go.Cl
def ad9 (s:aq)(n:bb)(lx:a5 av)(v:av)(s' :aq):Prop:=Own s' 6 v n lx/\aF s.next v/\ar s.next s s'
theorem Jl {lib:aA}(hl:lib.at 207=none)(s:aq)(x:av)(n:bb)(lx:a5 av)(hx:aN s 6 x n lx)(vY:n<=1000000)(dH:lx.all aL=true):
  Runs an lib 207 [x] s (ad9 s n lx):=by
 refine Runs.enter 8 Tryz.func207 rfl hl rfl rfl ?_
 intro f hn hf
 have h0:f.get 0=x:=hf 0
 clear hf
 simp only[aj,QS,Qx,↓ab,hn,h0,hx.oP ao]
 refine iN (fun h=> ?_) (fun h=> ?_)
 ·obtain⟨h1,h2,_⟩:=hx.isNil h
  subst h1
  have:lx=[]:=bk (by have:=hx.length;omega)
  subst this
  simp only[aj,al,oneOf,QS,↓ab,hn,cz]
  exact⟨.nil,aF.nil _,ar.refl _ _⟩
 ·simp only[aj,ae,y9 ao qq zE Td rfl]
  refine aQ (by rfl) ?_
  intro b s1 hb hF aE
  simp only[aj,aa,QS,Qx,↓ab,hn,h0]
  refine bY ao ao (.inl ⟨_,rfl⟩) qq byE zE rfl hb (hx.keeps aE).src hx.length (by decide) dH (by omega) (by omega) hF aE.next ?_
  intro b' s2 pL ze dO _ _
  simp only[aj,al,oneOf,QS,↓ab,hn,cz]
  exact⟨by simpa using pL,ze,aE.trans dO⟩
end Go.Proofs.YtdfjfncifneocaaGreat
namespace Go.Cl
theorem bt.trans {v:av}{s s' yB:aq}(h:bt v s s')(k:bt v s' yB):bt v s yB:=
 ⟨Nat.le_trans h.next k.next,fun i hi cH=>(k.get i (Nat.lt_of_lt_of_le hi h.next) cH).trans (h.get i hi cH)⟩
end Go.Cl
namespace Go.Proofs.YtdfjfncifneocaaGreat
open Go.Cl
def Kept (s:aq)(x:av)(v:av)(s' :aq):Prop:=v=x/\ar s.next s s'
theorem WN {lib:aA}(hl:lib.at 206=none)(Nr:lib.at 203=none)(g:bb)(bs:a5 av)(s:aq)(x:av)(n:bb)(lx:a5 av)(hx:aN s 6 x n lx)(uy:n<=1000000)(p:bb->cv)
  (h:∀i,i<n->∀s' :aq,ar s.next s s' ->Runs an lib g (.agg ((lx.drop (i*6)).take 6).toArray::bs) s' (LQ s' (p i))) (hp:∀i,i<n->p i=false):
  Runs an lib 206 [x,.func (.func g) #[] bs.toArray] s (Kept s x):=by
 refine Runs.enter 42 dt rfl hl rfl rfl ?_
 intro f hn hf
 have h0:f.get 0=x:=hf 0
 have h1:f.get 1= .func (.func g) #[] bs.toArray:=hf 1
 clear hf
 simp only[aj,ak,aa,QS,Qx,↓ab,hn,h0,h1]
 refine(OP Nr g bs s x n lx hx (by omega) p h).mono ?_
 rintro _ s2 ⟨⟨r,rfl,hr⟩,cR⟩
 rcases hr with ⟨rfl,-⟩|⟨k,hk,-,lz,-⟩
 ·simp only[aj,al,oneOf,QS,Qx,↓ab,hn,h0,b5]
  exact⟨rfl,cR⟩
 ·rw[hp k hk] at lz;cases lz
def Deleted (s:aq)(x:av)(n:bb)(lx:a5 av)(p:bb->cv)(v:av)(s' :aq):Prop:=aN s' 6 v (dn p n) (jg lx 6 p n)/\bt x s s' /\(∀j,aI v=some j->aI x=some j)
theorem amc {lib:aA}(hl:lib.at 206=none)(Nr:lib.at 203=none)(g:bb)(bs:a5 av)(s:aq)(x:av)(n:bb)(lx:a5 av)(hx:Own s 6 x n lx)(uy:n<=1000000)(dH:∀i,i<n->((lx.drop (i*6)).take 6).all aL=true)(p:bb->cv)
  (h:∀i,i<n->∀s' :aq,bt x s s' ->Runs an lib g (.agg ((lx.drop (i*6)).take 6).toArray::bs) s' (LQ s' (p i))):
  Runs an lib 206 [x,.func (.func g) #[] bs.toArray] s (Deleted s x n lx p):=by
 have YY:=hx.length
 refine Runs.enter 42 dt rfl hl rfl rfl ?_
 intro f hn hf
 have h0:f.get 0=x:=hf 0
 have h1:f.get 1= .func (.func g) #[] bs.toArray:=hf 1
 clear hf
 simp only[aj,ak,aa,QS,Qx,↓ab,hn,h0,h1]
 refine(OP Nr g bs s x n lx hx.aG (by omega) p (fun i hi s' BZ=>h i hi s' ⟨BZ.next,fun q hq _=>BZ.get q hq⟩)).mono ?_
 rintro _ s2 ⟨⟨r,rfl,hr⟩,cR⟩
 have dD:bt x s s2:=⟨cR.next,fun q hq _=>cR.get q hq⟩
 have ko:=hx.keeps cR
 rcases hr with ⟨rfl,eC⟩|⟨k,hk,rfl,lz,RT⟩
 ·simp only[aj,al,oneOf,QS,Qx,↓ab,hn,h0,b5]
  obtain⟨e1,e2⟩:=DN (l:=lx) (z:=6) n eC
  refine⟨?_,dD,fun j hj=>hj⟩
  rw[e1,e2,a0 (by omega)]
  exact ko.aG
 have hkm:¬((k:bb):c8)= -1:=by omega
 simp(disch:=omega)only[aj,QS,Qx,↓ab,hn,b8 hkm,aD]
 obtain⟨e1,e2⟩:=DN (l:=lx) (z:=6) k RT
 obtain⟨k1,k2⟩:=Hw (l:=lx) (L:=lx) (z:=6) (j:=k) (by rw[e1,e2]) rfl lz
 have amd:dn p (k+1)=k:=by simp[dn,lz,e1]
 refine Comes.bQ (fun z f s' =>∃(j:bb) (L:a5 av),z=n-j/\j<=n/\Own s' 6 x n L/\L.take (dn p j*6)=jg lx 6 p j/\L.drop (j*6)=lx.drop (j*6)/\bt x s s' /\f.n=42/\f.get 0=x/\f.get 1= .func (.func g) #[] bs.toArray/\f.get 5= .int .i64 (dn p j:bb)/\f.get 6= .int .i64 (j:bb))
  (fun z f s' =>z= .exit 0/\∃L:a5 av,Own s' 6 x n L/\L.take (dn p n*6)=jg lx 6 p n/\bt x s s' /\f.n=42/\f.get 0=x/\f.get 5= .int .i64 (dn p n:bb))
  ⟨k+1,lx,rfl,by omega,ko,k1,rfl,dD,by simp only[ag,hn],by simp only[ad,↓ab,Qx,h0],by simp only[ad,↓ab,Qx,h1],by simp only[ad,↓ab,Qx,amd],by simp only[ad,↓ab];rfl⟩ ?_ ?_
 ·clear hn h0 h1 f ko dD cR
  rintro Q hQ z f s3 ⟨j,L,rfl,hj,ho,ha,hb,ht,hn,h0,h1,h5,h6⟩
  have Q4:=ho.aG
  by_cases bd:j<n
  rotate_left
  ·obtain rfl:j=n:=by omega
   have d1:¬((j:bb):c8)<((j:bb):c8):=by omega
   simp only[aj,aa,QS,Qx,↓ab,hn,h0,h6,Q4.bm ao,b8 d1]
   exact hQ _ _ _ ⟨rfl,L,ho,ha,ht,by simp only[ad,ag,↓ab,Qx,hn,h0,h5,ca]⟩
  have d1:((j:bb):c8)<((n:bb):c8):=by omega
  have gB:=Q4.indexAddr (P:=an) (k:= .i64) (x:=(j:c8)) ao qq (by omega) (by omega)
  rw[a3] at gB
  have fz:=Q4.fJ (P:=an) Tc qq bd
  have kp:(L.drop (j*6)).take 6=(lx.drop (j*6)).take 6:=by rw[hb]
  rw[kp] at fz
  have mO:((lx.drop (j*6)).take 6).length=6:=by
   have:(j+1)*6<=n*6:=cb 6 bd
   rw[a7,a9];omega
  have aea:=dH j bd
  have gp:=h j bd
  have dY:=fun hp=>Tf (l:=lx) (L:=L) (z:=6) (n:=n) (j:=j) (p:=p) Q4.length YY bd ha hb hp
  generalize (lx.drop (j*6)).take 6=xs at fz mO aea gp dY
  have hd7:xV.length+1=7:=rfl
  simp only[aj,aa,QS,Qx,↓ab,hn,h0,h6,Q4.bm ao,c4 d1,gB,fz,zE,Td]
  refine aw ?_
  intro s4 gv dX sl
  simp only[aj,QS,Qx,↓ab,hn,hd7]
  refine aB qq (by decide) gv rfl rfl mO aea ?_
  intro s5 wE OM Bi
  have wE:ax s5 s3.next xs:=wE
  have OQ:ar s3.next s3 s5:=dX.trans ⟨by omega,fun q hq=>Bi q (by omega)⟩
  have ho5:=ho.keeps OQ
  have la:aJ an s5 63 (.pointer (some ⟨s3.next,0,some 7⟩))=some (.agg xs.toArray):=ax.bF Tc (by rw[mO];exact qq) wE (by rw[mO])
  have ahN:bt x s s5:=ht.trans ⟨OQ.next,fun q hq _=>OQ.get q hq⟩
  simp only[aj,ak,aa,QS,Qx,↓ab,hn,h1,la]
  refine(gp s5 ahN).mono ?_
  rintro _ s6 ⟨rfl,Tk⟩
  have ahO:bt x s s6:=ahN.trans ⟨Tk.next,fun q hq _=>Tk.get q hq⟩
  have YZ:=ho5.keeps Tk
  have lb:aJ an s6 63 (.pointer (some ⟨s3.next,0,some 7⟩))=some (.agg xs.toArray):=ax.bF Tc (by rw[mO];exact qq) (wE.keeps Tk) (by rw[mO])
  cases hp:p j with
  |true=>
   obtain⟨u1,u2⟩:=Hw ha hb hp
   have sj:dn p (j+1)=dn p j:=by simp[dn,hp]
   simp(disch:=omega)only[aj,QS,Qx,↓ab,hn,h6,aD]
   exact ay (n-(j+1)) (by omega) ⟨j+1,L,rfl,by omega,YZ,u1,u2,ahO,by simp only[ag,hn],by simp only[ad,↓ab,Qx,h0],by simp only[ad,↓ab,Qx,h1],by simp only[ad,↓ab,Qx,h5,sj],by simp only[ad,↓ab];rfl⟩
  |false=>
   obtain⟨u1,u2⟩:=dY hp
   have hkl:=tF p j
   have sj:dn p (j+1)=dn p j+1:=by simp[dn,hp]
   have hiy:=YZ.aG.indexAddr (P:=an) (k:= .i64) (x:=(dn p j:c8)) ao qq (by omega) (by omega)
   rw[a3] at hiy
   simp only[aj,QS,Qx,↓ab,hn,h0,h5,lb,hiy]
   refine Dn qq (by decide) YZ (by omega) mO aea ?_
   intro s7 Bj hu7
   simp(disch:=omega)only[aj,QS,Qx,↓ab,hn,h5,h6,aD]
   exact ay (n-(j+1)) (by omega) ⟨j+1,_,rfl,by omega,Bj,u1,u2,ahO.trans hu7,by simp only[ag,hn],by simp only[ad,↓ab,Qx,h0],by simp only[ad,↓ab,Qx,h1],by simp only[ad,↓ab,Qx,sj];rfl,by simp only[ad,↓ab];rfl⟩
 rintro z f' s6 ⟨rfl,L,ho,ha,ht,jq,h0',h5'⟩
 have hkl:=tF p n
 have pE:=ho.aG.ff (P:=an) ao qq (k:= .i64) (x:=(dn p n:c8)) (by omega) (by omega)
 rw[a3] at pE
 simp only[aj,aa,ai,QS,Qx,↓ab,jq,h0',h5',pE]
 refine DT (zs:=xV) ao qq zE Td rfl rfl (by decide) rfl ho hkl ?_
 intro s7 Bj hu7
 have tC:=Bj.aG.iS (P:=an) ao qq (k:= .i64) (y:=(dn p n:c8)) (by omega) (by omega)
 rw[a3] at tC
 simp only[aj,al,oneOf,ai,QS,Qx,↓ab,jq,h0',h5',tC,b5]
 have hc:=Bj.aG.cut (lo:=0) (hi:=dn p n) (by omega) hkl
 refine⟨?_,ht.trans hu7,fun j hj=> ?_⟩
 ·have e:((L.take (dn p n*6)++bB xV (n-dn p n)).drop (0*6)).take ((dn p n-0)*6)=jg lx 6 p n:=by
   rw[cd,bo,cg,ha]
   have:=uk p YY n (a8 _)
   rw[List.take_append_of_le_length (by omega),a0 (by omega)]
  have e' :=hc
  rw[e,cg] at e'
  exact e'
 ·cases Bj with
  |nil=>exact hj
  |of=>exact hj
end Go.Proofs.YtdfjfncifneocaaGreat
namespace Go.Cl
theorem LR {P:c9}{lib:aA}{cA cB:Code}{f:aW}{s:aq}{Q:AX->aW->aq->Prop}{b:cv}(J:aW->aq->Prop)(h1:∀Q' :AX->aW->aq->Prop,(∀f' s',J f' s' ->Q' .normal f' s')->Vy P lib cA cB f s Q' b)(h2:∀f' s',J f' s' ->Q .normal f' s'):Vy P lib cA cB f s Q b:=h1 Q h2
end Go.Cl
namespace Go.Proofs.YtdfjfncifneocaaGreat
open Go.Cl Go.Lib
def aar (s:aq)(F:bb->Prop)(D:a5 (a5 bq×O))(e:a5 bq×O)(uz:cv)(v:av)(s' :aq):Prop:=∃LC,Own s' 6 v (OK D e uz).length LC/\aF s.next v/\ar s.next s s' /\aU dz 6 (fun j=>F j/\j<s.next) s' (OK D e uz) LC
theorem OR {lib:aA}(hl:lib.at 176=none)(jn:lib.at 204=none)(g7:lib.at 205=none)(fz:lib.at 206=none)(Nr:lib.at 203=none)(jL:lib.at 207=none)
  (UF:lib.at 177=none) (E4:lib.at 208=none) (lV:lib.at 219=none) (hp:lib.at 224=some iX)
  (F:bb->Prop) (s:aq) (x:av) (D:a5 (a5 bq×O)) (lx:a5 av) (hx:aN s 6 x D.length lx) (hD:aU dz 6 F s D lx) (vY:D.length<=500000) (e:a5 bq×O) (ce:a5 av) (he:dz F s ce e) (uz:cv):
  Runs an lib 176 [x,.agg ce.toArray,.func (.func 177) #[] #[],.bool uz] s (aar s F D e uz):=by
 obtain⟨re,rfl,hre,hrk⟩:=he
 have qe:=hre.len
 refine Runs.enter 39 Tryz.func176 rfl hl rfl rfl ?_
 intro f hn hf
 have h0:f.get 0=x:=hf 0
 have h1:f.get 1= .agg (.string ⟨e.1.toArray⟩::re).toArray:=hf 1
 have h2:f.get 2= .func (.func 177) #[] #[]:=hf 2
 have h3:f.get 3= .bool uz:=hf 3
 clear hf
 simp only[aj,QS,↓ab,hn,h1]
 refine aw ?_
 intro s1 eK bn iV
 simp only[aj,QS,Qx,a4,↓ab,hn,h2,a6,qe]
 refine aw ?_
 intro s2 dD aR m8
 have vV:=eK.keeps aR
 have cR:ar s.next s s2:=bn.trans (aR.weaken (by omega))
 have ko:=hx.keeps cR
 have vC:(Value.func (Fn.func 177) #[] #[]).cells.toList.length+1=2:=rfl
 have dD:ax s2 s1.next [.func (.func 177) #[] #[]]:=dD
 simp only[aj,ak,aa,QS,Qx,↓ab,hn,h0,vC,ru]
 obtain⟨p1,qJ⟩:∃p1,p1=onE D (fun y=> !(mR y.1 e.1)):=⟨_,rfl⟩
 obtain⟨q1,hq1⟩:∃q1:a5 bq×O->cv,q1=fun y=>y.1==e.1:=⟨_,rfl⟩
 refine(OP Nr 204 [.pointer (some ⟨s1.next,0,some 2⟩),.pointer (some ⟨s.next,0,some 7⟩)] s2 x D.length lx ko (by omega) p1 (fun i hi s' BZ=> ?_)).mono ?_
 ·obtain⟨r,pd,gx,-⟩:=hD.row i hi
  rw[pd]
  refine(amb jn UF E4 lV hp s' D[i].1 e.1 r re gx.len qe s1.next s.next (dD.keeps BZ) (vV.keeps BZ)).mono ?_
  rintro _ yB ⟨rfl,h⟩
  refine⟨?_,h⟩
  rw[qJ,zp hi]
  congr 1
  cases lV:mR D[i].1 e.1 with
  |false=>exact cc ((mH _ _).2 lV)
  |true=>exact b7 (fun h=>by rw[(mH _ _).1 h] at lV;cases lV)
 rintro _ s3 ⟨⟨r,rfl,hr⟩,fB⟩
 have Tl:(r<0/\Ka D e.1=D.length)\/(r=(Ka D e.1:bb)/\¬r<0):=by
  rcases hr with ⟨rfl,eC⟩|⟨k,hk,rfl,k1,k2⟩
  ·exact .inl ⟨by omega,Wz (fun i hi=>by have:=eC i hi;rwa [qJ] at this)⟩
  ·rw[qJ] at k1
   have:=WA hk k1 (fun i hi=>by have:=k2 i hi;rwa [qJ] at this)
   exact .inr ⟨by rw[this],by omega⟩
 have hle:=Wy D e.1
 have aeb:=cR.trans (fB.weaken cR.next)
 simp only[aj,QS,↓ab,hn]
 refine LR (fun f' s' =>s' =s3/\f'.n=39/\f'.get 0=x/\f'.get 3= .bool uz/\f'.get 5= .pointer (some ⟨s.next,0,some 7⟩)/\f'.get 6= .pointer (some ⟨s1.next,0,some 2⟩)/\f'.get 9= .int .i64 (Ka D e.1:bb)) ?_ ?_
 ·intro Q' hQ
  rcases Tl with ⟨a1,a2⟩|⟨a1,a2⟩
  ·simp only[aj,aa,QS,Qx,↓ab,hn,h0,c4 a1,(ko.keeps fB).bm ao]
   exact hQ _ _ ⟨rfl,by simp only[ad,ag,↓ab,Qx,hn,h0,h3,a2,ca]⟩
  ·simp only[aj,b8 a2]
   exact hQ _ _ ⟨rfl,by simp only[ad,ag,↓ab,Qx,hn,h0,h3,a1,ca]⟩
 clear hn h0 h1 h2 h3 f Tl hr
 rintro f s4 ⟨rfl,hn,h0,h3,h5,h6,h9⟩
 obtain⟨k,hk⟩:∃k,k=Ka D e.1:=⟨_,rfl⟩
 rw[<-hk] at h9 hle
 have hx4:=hx.keeps aeb
 have tC:=hx4.iS (P:=an) ao qq (k:= .i64) (y:=(k:c8)) (by omega) (by omega)
 rw[a3] at tC
 have dx:=hx4.cut (lo:=0) (hi:=k) (by omega) hle
 rw[cd,bo,cg] at dx
 have hD1:=hD.take k hle
 have hD2:=hD.drop k hle
 simp only[aj,ak,aa,ai,QS,Qx,↓ab,hn,h0,h5,h6,h9,ru,tC]
 have YY:=hD.len
 have hkz:k*6<=D.length*6:=cb 6 hle
 have Lq:(D.take k).length=k:=by rw[a7];omega
 have YS:(D.drop k).length=D.length-k:=a9 ..
 refine(Jl jL s4 (dJ 6 x 0 k) k (lx.take (k*6)) dx (by omega) (BD (by decide) k _ (by rw[a7];omega) (fun i hi=>WL (hD1.row i (by omega))))).mono ?_
 rintro y s5 ⟨hy,kN,Nv⟩
 have Tm:=aeb.trans (Nv.weaken aeb.next)
 have xZ:ar s2.next s2 s5:=fB.trans (Nv.weaken fB.next)
 simp only[aj,ak,aa,QS,Qx,↓ab,hn]
 refine(WN fz Nr 205 [.pointer (some ⟨s1.next,0,some 2⟩),.pointer (some ⟨s.next,0,some 7⟩)] s5 y k (lx.take (k*6)) hy.aG (by omega) (fun _=>false) (fun i hi s' BZ=> ?_) (fun _ _=>rfl)).mono ?_
 ·obtain⟨r,pd,gx,-⟩:=hD1.row i (by omega)
  rw[pd]
  have hg:(D.take k)[i]'(by omega)=D[i]'(by omega):=List.getElem_take ..
  have WO:=xZ.trans (BZ.weaken xZ.next)
  refine(ahM g7 UF E4 lV hp s' _ e.1 r re gx.len qe s1.next s.next (dD.keeps WO) (vV.keeps WO)).mono ?_
  rintro _ yB ⟨rfl,h⟩
  refine⟨?_,h⟩
  congr 1
  refine b7 (fun hc=> ?_)
  have h1:=LI (D:=D) (k:=e.1) (i:=i) (by omega) (by omega)
  have h2:=(mI _ _).1 hc
  rw[hg] at h2
  rw[h2,xY] at h1;cases h1
 rintro v s6 ⟨rfl,Tk⟩
 have aec:=Tm.trans (Tk.weaken Tm.next)
 have LS:=xZ.trans (Tk.weaken xZ.next)
 have hy6:=hy.keeps Tk
 have kN:aF s2.next v:=fun j hj=>by have:=kN j hj;have:=fB.next;omega
 have g9:=cR.next
 obtain⟨FB,hFB⟩:∃FB:bb->Prop,FB=fun j=>F j/\j<s.next:=⟨_,rfl⟩
 have hDb:aU dz 6 FB s D lx:=by rw[hFB];exact hD.below fa
 have gL:=(hDb.take k hle).keeps fa aec
 have heb:dz FB s (.string ⟨e.1.toArray⟩::re) e:=by rw[hFB];exact fa.below ⟨re,rfl,hre,hrk⟩
 have Fz:∀w:av,aF s.next w->∀j,FB j->aI w≠some j:=fun w hw j hj e=>by rw[hFB] at hj;have:=hw _ e;omega
 simp only[aj,QS,Qx,↓ab,hn,h3]
 obtain⟨D1,LU⟩:∃D1,D1=D.take k++(if uz then [e] else []):=⟨_,rfl⟩
 have arR:D1.length<=D.length+1:=by
  rw[LU,bg,a7]
  cases uz<;>simp<;>omega
 refine LR (fun f' s' =>∃(y:av) (LY:a5 av),Own s' 6 y D1.length LY/\aU dz 6 FB s' D1 LY/\aF s2.next y/\ar s2.next s2 s' /\f'.n=39/\f'.get 0=x/\f'.get 9= .int .i64 (k:bb)/\f'.get 10= .func (.func 205) #[] #[.pointer (some ⟨s1.next,0,some 2⟩),.pointer (some ⟨s.next,0,some 7⟩)]/\f'.get 11=y) ?_ ?_
 ·intro Q' hQ
  cases uz with
  |false=>
   rw[if_neg (by decide),bl] at LU
   simp only[aj]
   exact hQ _ _ ⟨v,_,by rw[LU,Lq];exact hy6,by rw[LU];exact gL,kN,LS,by simp only[ad,ag,↓ab,Qx,hn,h0,h9,ca]⟩
  |true=>
   rw[if_pos rfl] at LU
   have lE:aJ an s6 63 (.pointer (some ⟨s.next,0,some 7⟩))=some (.agg (.string ⟨e.1.toArray⟩::re).toArray):=ax.bF Tc (by simp[qe,qq]) (vV.keeps LS) (by simp[qe])
   obtain⟨es,zN⟩:∃es,es=Value.string ⟨e.1.toArray⟩::re:=⟨_,rfl⟩
   have za:es.length=6:=by rw[zN];simp[qe]
   have LO:es.all aL=true:=by rw[zN,bz,hre.ok];rfl
   rw[<-zN] at lE heb
   simp only[aj,ae,QS,Qx,↓ab,hn,h5,lE,gi (cs:=es.toArray) ao qq zE Td rfl za (by decide)]
   refine aQ (by rw[za]) ?_
   intro b s7 hb7 arS jX
   simp only[aj,aa,QS,Qx,↓ab,hn]
   refine bY ao ao (.inl ⟨_,rfl⟩) qq byE zE rfl (hy6.keeps jX) hb7.aG.src za (by decide) LO (by omega) (by omega) kN (by have:=LS.next;have:=jX.next;omega) ?_
   intro y' s8 hy8 amh Jm arT _
   have aau:ar s2.next s2 s8:=(LS.trans (jX.weaken LS.next)).trans Jm
   have ahP:ar s.next s s8:=cR.trans (aau.weaken cR.next)
   simp only[aj,QS,↓ab,hn]
   exact hQ _ _ ⟨y',_,by rw[LU,bg,Lq];exact hy8,by rw[LU];exact((hDb.take k hle).keeps fa ahP).snoc za (fa.keeps heb ahP),amh,aau,by simp only[ad,ag,↓ab,Qx,hn,h0,h9,ca]⟩
 clear hn h0 h3 h5 h6 h9 f
 rintro f s7 ⟨y,LY,Nw,hyr,kN,DV,hn,h0,h9,eX,sq⟩
 have aed:ar s.next s s7:=cR.trans (DV.weaken cR.next)
 have hx7:=hx.keeps aed
 have pE:=hx7.ff (P:=an) ao qq (k:= .i64) (x:=(k:c8)) (by omega) (by omega)
 rw[a3] at pE
 have xN:=hx7.cut (lo:=k) (hi:=D.length) hle (a8 _)
 rw[a0 (by rw[a9,YY,dE];omega)] at xN
 simp only[aj,ak,aa,ai,QS,Qx,↓ab,hn,h0,h9,sq,pE]
 have ahQ:(lx.drop (k*6)).length=(D.length-k)*6:=by rw[a9,YY,dE]
 have aci:∀i,i<D.length-k->(((lx.drop (k*6)).drop (i*6)).take 6).all aL=true:=fun i hi=>WL (hD2.row i (by omega))
 refine(Jl jL s7 _ (D.length-k) _ xN (by omega) (BD (by decide) _ _ ahQ aci)).mono ?_
 rintro w s8 ⟨hw,yD,WQ⟩
 simp only[aj,ak,aa,QS,Qx,↓ab,hn,eX]
 have aau:ar s2.next s2 s8:=DV.trans (WQ.weaken DV.next)
 have ahR:=DV.next
 have ahS:=WQ.next
 refine(amc fz Nr 205 [.pointer (some ⟨s1.next,0,some 2⟩),.pointer (some ⟨s.next,0,some 7⟩)] s8 w (D.length-k) _ hw (by omega) aci (onE (D.drop k) (fun y=>y.1==e.1)) (fun i hi s' BZ=> ?_)).mono ?_
 ·obtain⟨r,pd,gx,-⟩:=hD2.row i (by omega)
  rw[pd]
  have WO:=aau.trans ((BZ.keeps yD ahS).weaken ahR)
  refine(ahM g7 UF E4 lV hp s' _ e.1 r re gx.len qe s1.next s.next (dD.keeps WO) (vV.keeps WO)).mono ?_
  rintro _ yB ⟨rfl,h⟩
  refine⟨?_,h⟩
  rw[zp (by omega)]
  congr 1
  rw[decide_eq_decide.2 (mI _ _)]
  by_cases q:(D.drop k)[i].1=e.1
  ·rw[cc q];exact(beq_iff_eq.2 q).symm
  ·rw[b7 q];exact(beq_eq_false_iff_ne.2 q).symm
 rintro u s9 ⟨hu,htu,hui⟩
 have aav:ar s7.next s7 s9:=WQ.trans (htu.keeps yD ahS)
 have ahT:ar s.next s s9:=aed.trans (aav.weaken aed.next)
 obtain⟨p2,Ns⟩:∃p2,p2=onE (D.drop k) (fun y=>y.1==e.1):=⟨_,rfl⟩
 rw[<-Ns] at hu
 have hkr:=((hDb.drop k hle).keeps fa ahT).kept p2 (D.length-k) (by omega)
 have UC:=uk (l:=lx.drop (k*6)) (z:=6) p2 ahQ (D.length-k) (a8 _)
 have Lu:(AF (D.drop k) p2 (D.length-k)).length=dn p2 (D.length-k):=by have:=hkr.len;omega
 have hkl:=tF p2 (D.length-k)
 have hkf:AF (D.drop k) p2 (D.length-k)=others e.1 (D.drop k):=by
  rw[xX (q:=fun y=>y.1==e.1) (D.length-k) (by omega) (fun i hi=>by rw[Ns,zp hi]),a0 (by omega)]
  rfl
 have aml:(jg (lx.drop (k*6)) 6 p2 (D.length-k)).all aL=true:=BD (by decide) (dn p2 (D.length-k)) _ UC (fun i hi=>WL (hkr.row i (by omega)))
 simp only[aj,aa,QS,Qx,↓ab,hn]
 refine bY ao ao (.inl ⟨_,rfl⟩) qq byE zE rfl (Nw.keeps aav) hu.src UC (by decide) aml (by omega) (by omega) kN (by have:=DV.next;have:=aav.next;omega) ?_
 intro y' vf Tn ahU ahV ahW _
 have ahX:ar s.next s vf:=ahT.trans (ahV.weaken cR.next)
 simp only[aj,al,oneOf,QS,↓ab,hn,Tryz.results176]
 have nL:OK D e uz=D1++others e.1 (D.drop k):=by
  unfold OK
  rw[<-hk,LU]
  congr 2
  rw[hk,Ji]
 have WR:=(hyr.keeps fa aav).append hkr
 rw[hkf,<-nL] at WR
 refine⟨LY++jg (lx.drop (k*6)) 6 p2 (D.length-k),?_,fun j hj=>by have:=ahU j hj;omega,ahX,?_⟩
 ·rw[nL,bg,<-hkf,Lu];exact Tn
 ·rw[hFB] at WR
  exact WR.turns fa ahW (fun j hj e' =>by have:=kN _ e';have:=hj.2;omega)
def Has (s:aq)(o:O)(v:av)(s' :aq):Prop:=v= .bool o.has/\ar s.next s s'
theorem AJ {lib:aA}(hl:lib.at 97=none)(F:bb->Prop)(s:aq)(cs:a5 av)(o:O)(ho:dy F s cs o):
  Runs an lib 97 [.agg cs.toArray] s (Has s o):=by
 cases o with
 |mk kind num b l d=>
 obtain⟨bv,lv,dv,lc,dc,rfl,-⟩:=ho.parts
 refine Runs.enter 11 Tryz.func97 rfl hl rfl rfl ?_
 intro f hn hf
 have h0:f.get 0= .agg #[.int .i64 kind,.int .i64 num,bv,lv,dv]:=hf 0
 clear hf
 simp only[aj,QS,↓ab,hn,h0]
 refine aw ?_
 intro s1 eK bn iV
 have p0:aJ an s1 3 (.pointer (some ⟨s.next,0,some 6⟩))=some (.int .i64 kind):=eK.load bu (off:=0) (c:=6) rfl (by simp)
 by_cases c7:kind=7
 ·simp only[aj,ak,al,oneOf,QS,Qx,a4,↓ab,hn,a6,c0,F2,p0,c4 c7,c5]
  exact⟨by simp[O.has,O.kind,c7],bn⟩
 ·simp only[aj,ak,al,oneOf,QS,Qx,a4,↓ab,hn,a6,c0,F2,p0,b8 c7,c5]
  exact⟨by simp[O.has,O.kind,c7];congr,bn⟩
def amm (s:aq)(k:a5 bq)(o:O)(v:av)(s' :aq):Prop:=∃cs,v= .agg (.string ⟨k.toArray⟩::cs).toArray/\dy (fun j=>s.next<=j) s' cs o/\ar s.next s s'
theorem jD {lib:aA}(hl:lib.at 88=none)(jL:lib.at 98=none)(jn:lib.at 36=none)(F:bb->Prop)(s:aq)(k:a5 bq)(cs:a5 av)(o:O)(ho:dy F s cs o)(nM:Small o):
  Runs an lib 88 [.string ⟨k.toArray⟩,.agg cs.toArray] s (amm s k o):=by
 have jS:=ho.len
 refine Runs.enter 9 Tryz.func88 rfl hl rfl rfl ?_
 intro f hn hf
 have h0:f.get 0= .string ⟨k.toArray⟩:=hf 0
 have h1:f.get 1= .agg cs.toArray:=hf 1
 clear hf
 simp only[aj,QS,↓ab,hn,h1]
 refine aw ?_
 intro s1 eK bn iV
 simp only[aj,QS,a4,↓ab,hn,jS,zE,Td]
 refine aw ?_
 intro s2 dD aR m8
 have cR:ar s.next s s2:=bn.trans (aR.weaken (by omega))
 have la:aJ an s2 26 (.pointer (some ⟨s.next,0,some 6⟩))=some (.agg cs.toArray):=ax.bF Hv (by rw[jS];exact iL) (eK.keeps aR) (by rw[jS])
 have hd7:xV.length+1=7:=rfl
 simp only[aj,ak,aa,QS,Qx,↓ab,hn,h0,la,hd7]
 refine(Q3 jL jn _ o (a8 _) F s2 cs (ho.keeps cR) nM).mono ?_
 intro v s3 h3
 obtain⟨ji,rfl,ou,bC⟩:=h3.is
 have DW:=ou.len
 obtain⟨es,zN⟩:∃es,es=Value.string ⟨k.toArray⟩::ji:=⟨_,rfl⟩
 have za:es.length=6:=by rw[zN];simp[DW]
 have LO:es.all aL=true:=by rw[zN,bz,ou.ok];rfl
 have hbE:=bE k DW
 rw[<-zN] at hbE
 simp only[aj,ae,QS,Qx,↓ab,hn,hbE]
 refine aB qq (by decide) (dD.keeps bC) rfl rfl za LO ?_
 intro s4 gv sl oD
 have gv:ax s4 s1.next es:=gv
 have l4:aJ an s4 63 (.pointer (some ⟨s1.next,0,some 7⟩))=some (.agg es.toArray):=ax.bF Tc (by rw[za];exact qq) gv (by rw[za])
 simp only[aj,al,oneOf,QS,Qx,↓ab,hn,l4,aV,Tryz.results88]
 have g8:=bn.next
 have g9:=aR.next
 refine⟨ji,by rw[zN],(ou.turns (u:= .pointer (some ⟨s1.next,0,none⟩)) (bt.aK sl oD) (fun j hj e=> ?_)).mono (fun j hj=>by omega),(cR.trans (bC.weaken cR.next)).trans ⟨by omega,fun j hj=>oD j (by omega)⟩⟩
 have e:some s1.next=some j:=e
 injection e with e;omega
theorem aaw {lib:aA}(hl:lib.at 139=none)(kr:lib.at 88=none)(hle:lib.at 97=none)(jL:lib.at 98=none)(Bf:lib.at 36=none)
  (oI:lib.at 176=none) (jn:lib.at 204=none) (g7:lib.at 205=none) (fz:lib.at 206=none) (Nr:lib.at 203=none) (amn:lib.at 207=none)
  (UF:lib.at 177=none) (E4:lib.at 208=none) (lV:lib.at 219=none) (hp:lib.at 224=some iX)
  (F:bb->Prop) (s:aq) (cs:a5 av) (o:O) (ho:dy F s cs o) (nM:Small o) (x:av) (L:a5 (a5 bq×O)) (lx:a5 av) (hx:aN s 6 x L.length lx) (hL:aU dz 6 F s L lx) (hLn:L.length<=100000) (F3:∀e∈L,Small e.2):
  Runs an lib 139 [.agg cs.toArray,x] s (lK s (Tg o L)):=by
 have jS:=ho.len
 refine Runs.enter 35 Tryz.func139 rfl hl rfl rfl ?_
 intro f hn hf
 have h0:f.get 0= .agg cs.toArray:=hf 0
 have h1:f.get 1=x:=hf 1
 clear hf
 simp only[aj,QS,↓ab,hn,h0]
 refine aw ?_
 intro s1 eK bn iV
 simp only[aj,QS,a4,↓ab,hn,jS,zO,wD]
 refine aw ?_
 intro s2 dD aR m8
 have cR:ar s.next s s2:=bn.trans (aR.weaken (by omega))
 have vV:=eK.keeps aR
 have mh:de.length+1=6:=rfl
 have la:∀s',ar s2.next s2 s' ->aJ an s' 26 (.pointer (some ⟨s.next,0,some 6⟩))=some (.agg cs.toArray):=fun s' h=>ax.bF Hv (by rw[jS];exact iL) (vV.keeps h) (by rw[jS])
 simp only[aj,ak,aa,QS,Qx,↓ab,hn,la s2 (ar.refl _ _),mh]
 refine(Q3 jL Bf _ o (a8 _) F s2 cs (ho.keeps cR) nM).mono ?_
 intro v s3 h3
 obtain⟨ji,rfl,ou,bC⟩:=h3.is
 have DW:=ou.len
 simp only[aj,QS,↓ab,hn,zO,wD]
 refine aw ?_
 intro s4 gv dX sl
 simp only[aj,QS,Qx,↓ab,hn,mh]
 refine aB iL (by decide) gv rfl rfl DW ou.ok ?_
 intro s5 wE OM Bi
 have wE:ax s5 s3.next ji:=wE
 have OQ:ar s3.next s3 s5:=dX.trans ⟨by omega,fun j hj=>Bi j (by omega)⟩
 have xZ:ar s2.next s2 s5:=bC.trans (OQ.weaken bC.next)
 have Tm:ar s.next s s5:=cR.trans (xZ.weaken cR.next)
 simp only[aj,ak,aa,QS,Qx,↓ab,hn,la s5 xZ]
 refine(AJ hle F s5 cs o (ho.keeps Tm)).mono ?_
 rintro _ s6 ⟨rfl,aax⟩
 have WS:ar s3.next s3 s6:=OQ.trans (aax.weaken OQ.next)
 have LS:ar s2.next s2 s6:=xZ.trans (aax.weaken xZ.next)
 have aec:ar s.next s s6:=Tm.trans (aax.weaken Tm.next)
 have Q5:=wE.keeps aax
 have YZ:=ou.keeps WS
 have mQ:=bC.next
 have g9:=aR.next
 have arU:=WS.next
 have l6:aJ an s6 26 (.pointer (some ⟨s3.next,0,some 6⟩))=some (.agg ji.toArray):=ax.bF Hv (by rw[DW];exact iL) Q5 (by rw[DW])
 have ahY:∀(t:aq) (o' :O) (WT:a5 av) (G:bb->Prop) (Q:av->aq->Prop),(∀j,G j->s2.next<=j)->dy G t WT o' ->ar s2.next s2 t->(∀v s',lK s o' v s' ->Q v s')->∀t',ax t' s1.next WT->t'.next=t.next->(∀j,j≠s1.next->t'.heap.get j=t.heap.get j)->Q (.agg WT.toArray) t' :=by
  intro t o' WT G Q hG pM dO hQ t' Nl amo ahZ
  refine hQ _ _ ⟨WT,rfl,(pM.turns (u:= .pointer (some ⟨s1.next,0,none⟩)) (bt.aK amo ahZ) (fun j hj e=> ?_)).mono (fun j hj=>by have:=hG j hj;omega),(cR.trans (dO.weaken cR.next)).trans ⟨by omega,fun j hj=>ahZ j (by omega)⟩⟩
  have e:some s1.next=some j:=e
  injection e with e;have:=hG j hj;omega
 cases hh:o.has with
 |false=>
  simp only[aj,QS,Qx,↓ab,hn,l6]
  refine aB iL (by decide) (dD.keeps LS) rfl rfl DW YZ.ok ?_
  intro s7 uD rp vX
  have uD:ax s7 s1.next ji:=uD
  have l7:aJ an s7 26 (.pointer (some ⟨s1.next,0,some 6⟩))=some (.agg ji.toArray):=ax.bF Hv (by rw[DW];exact iL) uD (by rw[DW])
  simp only[aj,al,oneOf,QS,Qx,↓ab,hn,l7,aV,c3]
  have e:Tg o L=o:=by unfold Tg;rw[hh];rfl
  rw[e]
  exact ahY s6 o ji _ _ (fun j hj=>hj) YZ LS (fun _ _ h=>h) s7 uD rp vX
 |true=>
 have hx6:=hx.keeps aec
 simp only[aj,aa,QS,Qx,↓ab,hn,h1,hx6.bm ao]
 clear la l6
 have amq:=ou.aai
 cases o with
 |mk kind num b l d=>
 obtain⟨bv,lv,dv,lc,dc,rfl,sx,Kb,To,fb3,fl3,fd3,rl3,rd3⟩:=amq.parts
 obtain⟨G,hG⟩:∃G:bb->Prop,G=fun j=>s2.next<=j/\j≠s3.next:=⟨_,rfl⟩
 have hGl:∀j,s2.next<=j/\j<s3.next->G j:=fun j hj=>by rw[hG];exact⟨hj.1,by omega⟩
 have sj:Tg (.mk kind num b l d) L= .mk kind num b l (cV d L):=by unfold Tg;rw[hh];rfl
 refine Comes.bQ (fun z f t=>∃(i:bb) (w:av) (DC:a5 av),z=L.length-i/\i<=L.length/\aN t 6 w (cV d (L.take i)).length DC/\gu G w/\aU dz 6 G t (cV d (L.take i)) DC/\ax t s3.next [.int .i64 kind,.int .i64 num,bv,lv,w]/\ar s3.next s3 t/\f.n=35/\f.get 4= .pointer (some ⟨s1.next,0,some 6⟩)/\f.get 5= .pointer (some ⟨s3.next,0,some 6⟩)/\f.get 14=x/\f.get 15= .int .i64 (L.length:bb)/\f.get 16= .int .i64 (i:bb))
  (fun z f t=>z= .exit 0/\∃(w:av) (DC:a5 av),aN t 6 w (cV d L).length DC/\gu G w/\aU dz 6 G t (cV d L) DC/\ax t s3.next [.int .i64 kind,.int .i64 num,bv,lv,w]/\ar s3.next s3 t/\f.n=35/\f.get 4= .pointer (some ⟨s1.next,0,some 6⟩)/\f.get 5= .pointer (some ⟨s3.next,0,some 6⟩))
  ⟨0,dv,dc,rfl,by omega,by rw[c6];exact To.keeps WS,fd3.mono hGl,by rw[c6];exact(rd3.mono fa hGl).keeps fa WS,Q5,WS,by simp only[ad,ag,↓ab,Qx,hn,true_and];rfl⟩ ?_ ?_
 ·clear hn h0 h1 f
  rintro Q hQ z f t ⟨i,w,DC,rfl,hi,hw,yD,hwr,htt,aE,hn,h4,h5,nY,my,SP⟩
  by_cases bd:i<L.length
  rotate_left
  ·obtain rfl:i=L.length:=by omega
   rw[List.take_length] at hw hwr
   have d1:¬((L.length:bb):c8)<((L.length:bb):c8):=by omega
   simp only[aj,QS,↓ab,hn,my,SP,b8 d1]
   exact hQ _ _ _ ⟨rfl,w,DC,hw,yD,hwr,htt,aE,by simp only[ad,ag,↓ab,Qx,hn,h4,h5,ca]⟩
  have d1:(i:c8)<(L.length:c8):=by omega
  have F4:ar s2.next s2 t:=bC.trans (aE.weaken mQ)
  have WU:ar s.next s t:=cR.trans (F4.weaken cR.next)
  have AA:=hx.keeps WU
  have gB:=AA.indexAddr (P:=an) (k:= .i64) (x:=(i:c8)) ao qq (by omega) (by omega)
  rw[a3] at gB
  have amr:=aE.next
  have wJ:=AA.fJ (P:=an) Tc qq bd
  obtain⟨r,pd,gx,A8⟩:=hL.row i bd
  have mO:=gx.len
  rw[pd] at wJ
  obtain⟨xs,wA⟩:∃xs,xs=Value.string ⟨(L[i].1).toArray⟩::r:=⟨_,rfl⟩
  rw[<-wA] at wJ
  have uM:xs.length=6:=by rw[wA];simp[mO]
  have WK:xs.all aL=true:=by rw[wA,bz,gx.ok];rfl
  simp only[aj,QS,Qx,↓ab,hn,nY,my,SP,c4 d1,gB,wJ,zE,Td]
  refine aw ?_
  intro t1 aee AK ah3
  have hd7:xV.length+1=7:=rfl
  simp only[aj,QS,Qx,↓ab,hn,hd7]
  refine aB qq (by decide) aee rfl rfl uM WK ?_
  intro t2 Jo ah4 WV
  have Jo:ax t2 t.next xs:=Jo
  have LV:ar t.next t t2:=AK.trans ⟨by omega,fun j hj=>WV j (by omega)⟩
  simp only[aj]
  obtain⟨A,hA⟩:∃A:bb->cv,A=fun j=>decide (j<t2.next):=⟨_,rfl⟩
  have iU:∀j,A j=true->j<t2.next:=by
   intro j h
   rw[hA] at h
   exact of_decide_eq_true h
  have vM:∀j,j<t2.next->A j=true:=fun j h=>by rw[hA];exact cc h
  refine LB.cX.fi A iU 2 0 (by kernel_rfl) (by kernel_rfl) ?_
  have dC:=ar.spare t2 0
  have UD:(spare t2 0).next=t2.next+0:=bU _ _
  have LW:ar t.next t (spare t2 0):=LV.trans (dC.weaken LV.next)
  have htO:=htt.keeps LW
  have htE:=Jo.keeps dC
  have Tj:=hw.keeps LW
  have amt:=hwr.keeps fa LW
  have ar0:=LV.next
  have Hz:∀k,LA.ej A (some (.pointer (some ⟨s3.next,k,some 6⟩)))=true:=fun k=>LA.cr (A:=A) (i:=s3.next) (vM _ (by have:=htt.lt;omega))
  have Q1:∀k,LA.ej A (some (.pointer (some ⟨t.next,k,some 7⟩)))=true:=fun k=>LA.cr (A:=A) (i:=t.next) (vM _ Jo.lt)
  cases hLi:L[i] with
  |mk ek ev=>
  rw[hLi] at gx A8 wA
  cases ev with
  |mk ekd en eb el ed=>
  obtain⟨xb,xl,xd,xlc,xdc,rfl,-⟩:=gx.parts
  have l20:aJ an (spare t2 0) 24 (.pointer (some ⟨s3.next,4,some 6⟩))=some w:=htO.load aaj (off:=4) (c:=6) rfl (by simp)
  have l22:aJ an (spare t2 0) 9 (.pointer (some ⟨t.next,0,some 7⟩))=some (.string ⟨ek.toArray⟩):=by
   have:=htE.load (P:=an) LH (off:=0) (c:=7) (by rw[uM]) (by omega)
   rw[this,wA];rfl
  have l24:aJ an (spare t2 0) 26 (.pointer (some ⟨t.next,1,some 7⟩))=some (.agg #[.int .i64 ekd,.int .i64 en,xb,xl,xd]):=by
   have:=ax.uj (P:=an) Hv iL htE (off:=1) (c:=7) (by rw[uM]) (by omega)
   rw[this,wA,List.drop_succ_cons,bo,a0 (by simp)]
  have vW:=gx.keeps (WU.trans (LW.weaken WU.next))
  simp only[aj,ak,bH,bI,Nat.add_one_sub_one,aa,QS,Qx,a4,↓ab,hn,h5,F2,of4,WD,aal,Hz,Q1,l20,l22,l24,Tj.self,vW.self]
  refine(jD kr jL Bf F (spare t2 0) ek _ _ vW (by have:=F3 _ (List.getElem_mem bd);rw[hLi] at this;exact this)).mono ?_
  rintro _ t3 ⟨cp,rfl,hcp,gj⟩
  have amu:=hcp.len
  have aeg:=htO.keeps gj
  have amv:=htE.keeps gj
  have Nt:=Tj.keeps gj
  have amw:=amt.keeps fa gj
  have ar4:=gj.next
  refine⟨fun _=>LA.ar.yC iU (gj.weaken (by omega)),?_⟩
  have l29:aJ an t3 3 (.pointer (some ⟨t.next,1,some 7⟩))=some (.int .i64 ekd):=by
   have:=amv.load (P:=an) bu (off:=1) (c:=7) (by rw[uM]) (by omega)
   rw[this,wA];rfl
  have amx:bZ (.agg (.string ⟨ek.toArray⟩::cp).toArray) (.agg (.string ⟨ek.toArray⟩::cp).toArray)=true:=by
   have:=hcp.self
   match cp,amu,this with
   |[a,b,c,d,e],_,this=>
    simp[bZ,fp] at this|-
    exact⟨by simp[cN],this⟩
  simp only[aj,ak,bH,bI,b4,aa,QS,Qx,↓ab,hn,h5,of4,Q1,l29]
  have hG3:∀j,t3.next<=j->G j:=fun j hj=>by rw[hG];exact⟨by omega,by have:=aeg.lt;omega⟩
  have WW:=DQ d (L.take i)
  have YS:d.length<=100000:=by cases nM;assumption
  rw[a7] at WW
  have amy:dy G t3 cp (.mk ekd en eb el ed):=hcp.mono (fun j hj=>by rw[hG];exact⟨by omega,by have:=aeg.lt;omega⟩)
  refine(OR oI jn g7 fz Nr amn UF E4 lV hp G t3 w _ DC Nt amw (by omega) (ek,.mk ekd en eb el ed) _ ⟨cp,rfl,amy,A8⟩ (decide (ekd≠0))).mono ?_
  rintro w' t4 ⟨LC,Lr,amz,jC,ah5⟩
  refine⟨fun _=>LA.ar.yC iU (jC.weaken (by omega)),?_⟩
  have ah6:cV d (L.take (i+1))=OK (cV d (L.take i)) (ek,.mk ekd en eb el ed) (decide (ekd≠0)):=by
   rw[LK bd,hLi,aak];rfl
  rw[<-ah6] at Lr ah5
  have amA:=aeg.keeps jC
  refine LB.fj DM (by decide) amA (off:=4) (c:=6) rfl (vs:=[w']) Lr.aG.tk rfl (by simp) (by simp[Lr.aG.aL]) (fun h=>absurd rfl h) ?_
  intro t5 aeh acj WX
  have aeh:ax t5 s3.next [.int .i64 kind,.int .i64 num,bv,lv,w']:=aeh
  have cH:∀j,G j->aI (.pointer (some ⟨s3.next,0,none⟩))≠some j:=fun j hj e=>by
   have e:some s3.next=some j:=e
   injection e with e
   rw[hG] at hj;exact hj.2 e.symm
  have hwG:∀j,aI w' =some j->G j:=fun j hj=>hG3 j (amz j hj)
  have ah7:ar s3.next t4 t5:=⟨by omega,fun j hj=>WX j (by omega)⟩
  have hw5:Own t5 6 w' (cV d (L.take (i+1))).length LC:=Lr.aK acj WX (fun e=>cH _ (hwG _ e) rfl)
  have amB:=((ah5.mono fa (fun j hj=>hj.1)).turns fa (bt.aK acj WX) cH)
  simp(disch:=omega)only[aj,bI,Nat.reduceSub,QS,Qx,↓ab,hn,SP,aD]
  exact ay (L.length-(i+1)) (by omega) ⟨i+1,w',LC,rfl,by omega,hw5.aG,gu.Wu hwG,amB,aeh,(((aE.trans (LW.weaken amr)).trans (gj.weaken (by omega))).trans (jC.weaken (by omega))).trans ah7,by simp only[ag,hn],by simp only[ad,↓ab,Qx,h4],by simp only[ad,↓ab,Qx,h5],by simp only[ad,↓ab,Qx,nY],by simp only[ad,↓ab,Qx,my],by simp only[ad,↓ab];rfl⟩
 clear hn h0 h1 f
 rintro z f t ⟨rfl,w,DC,hw,yD,hwr,htt,aE,hn,h4,h5⟩
 have Jp:dy G t [.int .i64 kind,.int .i64 num,bv,lv,w] (.mk kind num b l (cV d L)):=dy.whole (sx.keeps aE) (Kb.keeps aE) hw (fb3.mono hGl) (fl3.mono hGl) yD ((rl3.mono cK hGl).keeps cK aE) hwr
 have l9:aJ an t 26 (.pointer (some ⟨s3.next,0,some 6⟩))=some (.agg #[.int .i64 kind,.int .i64 num,bv,lv,w]):=ax.bF Hv (cs:=[.int .i64 kind,.int .i64 num,bv,lv,w]) iL htt rfl
 have F4:ar s2.next s2 t:=bC.trans (aE.weaken mQ)
 simp only[aj,QS,Qx,↓ab,hn,h4,h5,l9]
 refine aB iL (by decide) (dD.keeps F4) rfl rfl rfl Jp.ok ?_
 intro s7 uD rp vX
 have uD:ax s7 s1.next [.int .i64 kind,.int .i64 num,bv,lv,w]:=uD
 have l7:aJ an s7 26 (.pointer (some ⟨s1.next,0,some 6⟩))=some (.agg #[.int .i64 kind,.int .i64 num,bv,lv,w]):=ax.bF Hv (cs:=[.int .i64 kind,.int .i64 num,bv,lv,w]) iL uD rfl
 simp only[aj,al,oneOf,QS,Qx,↓ab,hn,h4,l7,aV,c3]
 rw[sj]
 exact ahY t _ _ G _ (fun j hj=>by rw[hG] at hj;exact hj.1) Jp F4 (fun _ _ h=>h) s7 uD rp vX
end Go.Proofs.YtdfjfncifneocaaGreat
