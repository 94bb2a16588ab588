/-
 The clean machine, part 22: rules for what makes memory and what writes it.
-/
import Derived.Test.YtgpmffbleaphkaaGreatDraw
import Derived.Laws.Externs
import GoSem.Extern.BytealgCompare
import Derived.Test.YtgpmffbleaphkaaGreatProg
import Derived.KernelRfl
open And renaming intro->Se
open Go renaming Value->Sf,Program->Sg,TypeId->Sh,Oper->Sm,Operand->Sr,IntKind->SV
open _root_ renaming List->Si,Nat->Sj,Option->Sk,Bool->So,if_true->SI,if_pos->SK,if_neg->SU,Array->S6,not_true_eq_false->Tc,not_false_eq_true->Td,if_false->Tk,true_and->Tr,UInt8->Ts,Int->Tt
open Nat renaming le_refl->Sl,testBit->Sp,zero_add->Sq,blt_eq->Sv,beq->Sw,ble->Sx,lt_of_lt_of_le->SM,ble_eq->SN,blt->SO,beq_eq->SW,succ_mul->SX,mul_le_mul_right->S1,le_trans->Tb,mod_eq_of_lt->Te,sub_add_eq->Tm,zero_mul->Tq
open List renaming getD_eq_getElem?_getD->Sn,getLastD_cons->Ss,drop_succ_cons->Sz,getElem?_eq_getElem->SA,nil_append->SB,mem_cons_self->SD,mem_singleton->SE,set_eq_take_append_cons_drop->SF,append_assoc->SG,length_singleton->SH,mem_cons_of_mem->SJ,mem_append->SL,cons_append->SR,append_nil->SZ,take_zero->S0,take_succ_cons->S3,getD_cons_zero->S4,getD_cons_succ->S5,set_cons_zero->S7,set_cons_succ->S8,length_append->S9,replicate->Tf,drop_zero->Tj,drop_drop->Tl,drop_take->Tn
open Bool renaming true_and->St,and_eq_true->Sy,false_eq_true->SC,and_true->SQ,not_eq_true->SS,false_and->Tg,and_false->Th,not_false->Ti,not_true->To,false_or->Tp
open Go.Proofs.Tryz renaming prog->Su
open Go.IntKind renaming i64->SP
open BitVec renaming ofInt->SY,ofInt_natCast->S2,toNat_ofNat->Ta
set_option linter.unusedSimpArgs false
set_option linter.unusedVariables false
set_option maxRecDepth 100000
namespace Go.Cl
section
variable {P:Sg} {aV:bg} {all r:Si Sm} {f:an} {s:J} {d:Sk Tmp} {Q:an->J->Prop}
theorem du {a:Si Sf}{n z:Sj}(h:a.length=n*z)(K:∀v b,ao b z v n a->ay s.Y v->ad s.Y s b->en P aV all r f s d Q (some (.a8 v b))):en P aV all r f s d Q (dL (cL s a n z)):=by
 have⟨e,g⟩:=ao.x (s:=s) h;rw[e,lj];exact K _ _ g (fun i c=>by injection c with c;subst c;exact Sl _) (ad.x s _)
theorem hv {l o e:Sh}{k:TypeDesc}{z p:Sj}{q:Sf}(w:P.underlying l=some (.slice e))(A:P.underlying o=some k)(B:(∃D,k= .slice D)\/k= .string)(E:bc P e=some z)(F:e2 P e=some p)(G:bK P e=some q)(H:Sw q.cells.toList.length z=true)
  {x y:Sf} {n m:Sj} {t c:Si Sf} (K:ao s z x n t) (L:iB s z y=some (m,c)) (M:c.length=m*z) (O:0<z) (R:c.all aN=true) (S:(n+m)*p<=140737488355328) (T:n+m<=140737488355328) {g:Sj} (u:ay g x) (U:g<=s.Y)
  (W:∀a b,ao b z a (n+m) (t++c)->ay g a->ad g s b->aF x s b->(ak a=ak x\/∃i,ak a=some i/\s.Y<=i)->en P aV all r f s d Q (some (.a8 a b))):en P aV all r f s d Q (dL (gQ P s l o x y)):=by
 have⟨a,b,X,Wy,v,h⟩:=ao.hQ w A B E F G H K L M O R S T;rw[X,lj];refine W _ _ Wy (fun i j=> ?_) (v.C u U) v h;rcases h with h|⟨WA,Wz,WB⟩
 ·exact u i (by rw[<-h];exact j)
 rw[Wz] at j;injection j with j;omega
theorem ll {k l:Sh}{z q:Sj}{t:Sf}(u:P.underlying k=some (.slice l))(K:bc P l=some z)(L:e2 P l=some q)(M:bK P l=some t)(O:Sw t.cells.toList.length z=true)
  {x:Sf} {o m:Sj} {v p:Si Sf} {e b:Tmp} {w:Sh} {y:String} {A:S6 Edge} (R:ao s z x o v) (S:f.N e=x) (T:b≠e) (U:e<f.e) (B:b<f.e) (D:p.length=m*z) (W:0<z) (X:p.all aN=true) (Wy:(o+m)*q<=140737488355328) (Wz:o+m<=140737488355328) {g:Sj} (E:ay g x) (WA:g<=s.Y)
  (WB:∀j a c,ao c z a (o+m) (v++p)->ay g a->ad g s c->aF x s c->(ak a=ak x\/∃i,ak a=some i/\s.Y<=i)->en P aV all r (f.u b j) c d Q (some (.a8 a c))):
  en P aV all (⟨d,.call ⟨.builtin .append, #[.tmp e,.tmp b], #[k,k]⟩,w,y,A,none⟩::r) f s (some b) Q (dL (cL s p m z)):=by
 refine du D fun j WC WD WO n=> ?_
 have⟨a,c,WE,WG,F,WH⟩:=ao.hQ u u (.inl ⟨l,rfl⟩) K L M O (R.C n) WD.c.X D W X Wy Wz;have G:ak a=ak x\/∃i,ak a=some i/\s.Y<=i:=WH.imp id (fun⟨i,e,b⟩=>⟨i,e,Tb n.Y b⟩)
 have H:aF x s c:=⟨Tb n.Y F.Y,fun i h WI=>(F.N i (SM h n.Y) WI).trans (n.N i h)⟩;have WJ:ay g a:=fun i h=>by
  rcases G with WK|⟨WQ,WL,WR⟩
  ·exact E i (by rw[<-WK];exact h)
  rw[WL] at h;injection h with h;omega
 have WM:bB (f.u b j) [.tmp e,.tmp b]=some [x,j]:=by
  simp only[bB,zg,dG,U,B,SI,cx,S,SU T]
 have WN:a4 P ⟨d,.call ⟨.builtin .append, #[.tmp e,.tmp b], #[k,k]⟩,w,y,A,none⟩ (f.u b j) WC=some (.a8 a c):=by
  rw[wv,WM];simp only[zx,WE,lj]
 rw[zc,SK B,si,zu,q3,WN];exact WB j a c WG WJ (H.C E WA) H G
theorem gh {t e:Sh}{k:SV}{a:Tt}(b:P.underlying t=some (.slice e))(c:bc P e=some 1)(d:bK P e=some (.int k 0)):dj P s t 1 [(0,.int k a)]=cL s [.int k a] 1 1:=by
 unfold dj;rw[b];simp only[c,d];rfl
theorem Np {t e:Sh}{a v:Sf}(b:P.underlying t=some (.slice e))(c:bc P e=some 1)(d:bK P e=some a)(f:cp a=true)(g:∃w,a.cells.toList=[w])(h:v.cells.toList=[v]):dj P s t 1 [(0,v)]=cL s [v] 1 1:=by
 have⟨w,a⟩:=g;unfold dj;rw[b];simp only[c,d,f,a,cM,eT,h,SH];rfl
theorem Fj {t e:Sh}{k:SV}{a b c d:Tt}(f:P.underlying t=some (.slice e))(g:bc P e=some 1)(h:bK P e=some (.int k 0)):dj P s t 4 [(0,.int k a),(1,.int k b),(2,.int k c),(3,.int k d)]=cL s [.int k a,.int k b,.int k c,.int k d] 4 1:=by
 unfold dj;rw[f];simp only[g,h];rfl
end
structure ae (s:J) (i:Sj) (cs:Si Sf):Prop where
 n:i<s.Y
 bl:∃low z,s.t i=some ⟨cs,low,true,z⟩/\low<=cs.length+1
theorem ae.C {s a:J}{i:Sj}{b:Si Sf}(h:ae s i b)(k:ad s.Y s a):ae a i b:=
 ⟨SM h.n k.Y,by have⟨c,z,d,e⟩:=h.bl;exact⟨c,z,(k.bl h.n).trans d,e⟩⟩
theorem ae.j {s a:J}{i:Sj}{b:Si Sf}{v:Sf}(h:ae s i b)(k:aF v s a)(c:ak v≠some i):ae a i b:=
 ⟨SM h.n k.Y,by
  have⟨d,z,e,f⟩:=h.bl;refine⟨d,z,?_,f⟩;simp only[J.t,k.N i h.n c];exact e⟩
theorem ae.B {P:Sg}{e:Sh}(d:c3 P e=some false){s:J}{i:Sj}{b:Si Sf}(h:ae s i b){a c:Sj}(f:c=b.length+1)(g:a<b.length):aD P s e (ab i a c)=some (b.getD a undef):=by
 have⟨g,z,c,e⟩:=h.bl;subst f;unfold aD;simp only[d];rw[nd c e (Sl _) Z];have:(b.drop a).take 1=[b.getD a undef]:=by
  rw[List.take_one,List.head?_drop,SA Z];simp[List.getD,SA (show a<b.length from Z)]
 simp only[this]
theorem ae.v {P:Program}{e:TypeId}(d:c3 P e=some false){s:J}{i:Nat}{a:List Value}(h:ae s i a)(b c:Nat)(v:Value)(f:a.getD b undef=v:=by exact rfl)(g:c=a.length+1:=by exact rfl)(j:b<a.length:=by simp):aD P s e (ab i b c)=some v:=f▸h.B d g j
theorem ae.o {P:Program}{e:TypeId}(d:c3 P e=some false){s:J}{i:Nat}{a:List Value}(h:ae s i a)(b c:Nat)(f:c=a.length+1:=by exact rfl)(g:b<a.length:=by simp):aD P s e (ab i b c)=some (a.getD b undef):=h.B d f g
theorem ae.y {P:Sg}{e:Sh}(b:c3 P e=some true){s:J}{i:Sj}{a:Si Sf}(d:bc P e=some a.length)(h:ae s i a){c:Sj}(f:c=a.length+1):aD P s e (ab i 0 c)=some (.agg a.toArray):=by
 have⟨e,z,a,c⟩:=h.bl;subst f;unfold aD;simp only[b,d];rw[nd a c (Sl _) Z];simp
theorem ng:∀(l:Si Sf) (a:Sj) (b:Si Sf),a+b.length<=l.length->di l a b=some (l.take a++b++l.drop (a+b.length)):=by
 intro l
 induction l with
 |nil=>intro a a h;cases a with
  |nil=>simp at h;subst h;simp[di]
  |cons v r=>simp at h
 |cons c r b=>
  intro c a h;cases c with
  |zero=>
   cases a with
   |nil=>simp[di]
   |cons v c=>
    simp only[di];rw[b 0 c (by simpa using h)];simp
  |succ n=>
   cases a with
   |nil=>simp[di]
   |cons v a=>
    simp only[di];rw[b n (v::a) (by simp at h|-;omega)];simp only[List.length_cons,S3,SR,show n+1+(a.length+1)=(n+(a.length+1))+1 from Z,Sz]
theorem ae.tM {P:Sg}{e:Sh}(g:bc P e=some 1){s:J}{i:Sj}{a:Si Sf}(h:ae s i a){b d:Sj}(k:d=a.length+1)(l:b<a.length){v:Sf}(f:aN v=true):
  ∃c,fp P s e (ab i b d) v=some c/\ae c i (a.set b v)/\(c.Y=s.Y/\∀j,j≠i->c.i.N j=s.i.N j):=by
 have⟨m,z,n,o⟩:=h.bl;subst k;refine⟨s.u i (.bl ⟨a.set b v,a.length+1,true,z⟩),?_,⟨h.n,a.length+1,z,J.kA _ _ _ Z,aA⟩,rfl,fun j p=>J.gS _ _ _ _ (Ne.symm p)⟩;unfold fp;simp only[g,(show v.cells.toList=[v] by cases v<;>first|rfl|cases f),SH];unfold J.la;have q:di a b [v]=some (a.set b v):=by
  rw[ng _ _ _ (by simp;omega)];rw[SF,SK l];simp
 have r:(true&&Sx m (a.length+1)&&Sw (a.length+1) (a.length+1)&&[v].all aN)=true:=by
  simp[o,f]
 simp only[n,r,SI,q];rfl
section
variable {P:Sg} {aV:bg} {all r:Si Sm} {f:an} {s:J} {d:Sk Tmp} {Q:an->J->Prop}
theorem db {e:Sh}(h:bc P e=some 1){i:Sj}{b:Si Sf}(k:ae s i b){c g:Sj}(l:g=b.length+1)(m:c<b.length){v:Sf}(n:aN v=true)
  (K:∀a,ae a i (b.set c v)->a.Y=s.Y->(∀j,j≠i->a.i.N j=s.i.N j)->en P aV all r f s d Q (some (.a8 undef a))):en P aV all r f s d Q (gu (fp P s e (ab i c g) v)):=by
 have⟨a,o,p,q,t⟩:=k.tM h l m n;rw[o,lV];exact K a p q t
theorem aK {a:Si Sf}{z:Sj}(K:∀b,ae b s.Y a->ad s.Y s b->b.Y=s.Y+1->en P aV all r f s d Q (some (.a8 (ab s.Y 0 (a.length+1)) b))):en P aV all r f s d Q (dL (iA s a z)):=by
 have:iA s a z=some (ab s.Y 0 (a.length+1),s.x (.bl ⟨a,1,true,z⟩)):=by simp[iA,J.bE]
 rw[this,lj];exact K _ ⟨by rw[sn];omega,1,z,sm _ _,Z⟩ (ad.x _ _) rfl
end
theorem aF.f {s a:J}{i o:Sj}{c:Sk Sj}(f:a.Y=s.Y)(b:∀j,j≠i->a.i.N j=s.i.N j):aF (.pointer (some ⟨i,o,c⟩)) s a:=
 ⟨Z,fun j _ d=>b j (fun e=>d (by rw[e];rfl))⟩
theorem ad.f {s a:J}{i b:Sj}(d:a.Y=s.Y)(c:∀j,j≠i->a.i.N j=s.i.N j)(e:b<=i):ad b s a:=
 ⟨Z,fun j f=>c j Z⟩
theorem ao.f {s a:J}{i:Sj}(b:a.Y=s.Y)(d:∀j,j≠i->a.i.N j=s.i.N j){z:Sj}{v:Sf}{n:Sj}{l:Si Sf}(h:ao s z v n l)(f:ak v≠some i):ao a z v n l:=
 h.j (aF.f (o:=0) (c:=none) b d) (fun j g e=>f (by rw[g];injection e with e;rw[<-e]))
theorem az.f {s a:J}{i:Sj}(u:a.Y=s.Y)(b:∀j,j≠i->a.i.N j=s.i.N j){z:Sj}{v:Sf}{n:Sj}{l:Si Sf}(h:az s z v n l)(c:ak v≠some i):az a z v n l:=by
 cases h with
 |al=>exact .al
 |cI=>exact .cI _ _
 |bu j d n e f l w g k m o p q r=>
  refine .bu j d n e f l Z ?_ k m o p q r;simp only[J.t,b j (fun t=>c (by rw[t];rfl))];exact g
theorem ao.u {P:Sg}{e:Sh}(f:bc P e=some 1){s:J}{v:Sf}{n:Sj}{l:Si Sf}(h:ao s 1 v n l){k:Sj}(d:k<n){w:Sf}(b:aN w=true):
  ∃a,fp P s e (bM 1 v k) w=some a/\ao a 1 v n (l.set k w)/\aF v s a:=by
 cases h with
 |al=>omega
 |bu i a e d j g h m=>
  have a:l.length=n:=Z;have⟨d,a,o,q,p⟩:=(⟨j,e,1,g,h⟩:ae s i l).tM f (b:=k) (d:=l.length+1) rfl Z b;have j:d.t i=some ⟨l.set k w,l.length+1,true,1⟩:=by
   unfold fp at a;simp only[f,(show w.cells.toList=[w] by cases w<;>first|rfl|cases b),SH] at a;unfold J.la at a;have f:di l k [w]=some (l.set k w):=by
    rw[ng _ _ _ (by simp;omega)];rw[SF,SK Z];simp
   have q:(true&&Sx e (l.length+1)&&Sw (l.length+1) (l.length+1)&&[w].all aN)=true:=by
    simp[h,b]
   simp only[g,q,SI,f] at a;have b:some (s.u i (.bl ⟨l.set k w,l.length+1,true,1⟩))=some d:=a;injection b with b;rw[<-b];exact J.kA _ _ _ Z
  refine⟨d,?_,?_,⟨Z,fun b _ d=>p b (fun e=>d (by rw[e];rfl))⟩⟩
  ·simpa [bM] using a
  have:=ao.bu (z:=1) i n (l.length+1) (l.set k w) o.n j aA (by simp[m])
  simpa using this
theorem ln {P:Sg}{b:bg}{c r:Si Sm}{f:an}{s:J}{d:Sk Tmp}{Q:an->J->Prop}{e:Sh}(g:bc P e=some 1){v:Sf}{n:Sj}{l:Si Sf}(h:ao s 1 v n l){k:Sj}(i:k<n){w:Sf}(j:aN w=true)
  (K:∀a,ao a 1 v n (l.set k w)->aF v s a->en P b c r f s d Q (some (.a8 undef a))):en P b c r f s d Q (gu (fp P s e (bM 1 v k) w)):=by
 have⟨a,b,c,d⟩:=h.u g i j;rw[b,lV];exact K a c d
theorem Nq (v:Sf):∀n,cM [v] n=Tf n v:=by
 intro n
 induction n with
 |zero=>rfl
 |succ n a=>simp[cM,a,List.replicate_succ]
theorem sq {P:Sg}{s:J}{t e:Sh}{k b c:SV}{a:Sj}(d:P.underlying t=some (.slice e))(f:bc P e=some 1)(g:bK P e=some (.int k 0))(h:e2 P e=some a){n:Sj}(i:a*n<=4294967296)(j:n<=4294967296):
  iU P s t (.int b n) (.int c n)=cL s (Tf n (.int k 0)) n 1:=by
 show(match P.underlying t,Value.int b (Int.ofNat n),Value.int c (Int.ofNat n) with
 |some (.slice e),.int _ (.ofNat l),.int _ (.ofNat c)=>
  match bc P e,bK P e,e2 P e with
  |some b,some z,some e=>
   if Sx l c&&Sx c 4294967296&&Sx (e*c) 4294967296&&cp z&&Sw z.cells.toList.length b then cL s (cM z.cells.toList l) l b else none
  |_,_,_=>none
 |_,_,_=>none)=_
 rw[d];simp only[f,g,h];have b:(Sx n n&&Sx n 4294967296&&Sx (a*n) 4294967296&&cp (.int k 0)&&Sw (Value.int k 0).cells.toList.length 1)=true:=by
  simp only[Sy,SN];exact⟨⟨⟨⟨Sl _,j⟩,i⟩,rfl⟩,rfl⟩
 rw[SK b];have:(Value.int k 0).cells.toList=[.int k 0]:=rfl;rw[this,Nq]
section
variable {P:Sg} {aV:bg} {all r:Si Sm} {id:Sj} {f:an} {T:J} {d:Sk Tmp} {Q:an->J->Prop}
end
theorem aI:type_of%
 (Se (Se (Se (Se (Se (Se (Se @Di @Dj) (Se @Dk (Se @Dl
 @Dm))) (Se (Se @Dn (Se @Dp @Dq)) (Se @zf (Se @Dr @Ds)))) (Se
 (Se (Se @Dt (Se @Du @Dv)) (Se @Dw (Se @Dx @Dy))) (Se (Se
 @Dz (Se @DA @DB)) (Se @wm (Se @si @q3))))) (Se (Se (Se (Se
 @lh @zc) (Se @C7 (Se @C8 @C9))) (Se (Se @Da (Se @zd @wo))
 (Se @Db (Se @Dc @C5)))) (Se (Se (Se @C6 (Se @Dd @E5))
 (Se @E6 (Se @E7 @E8))) (Se (Se @E9 (Se @Fa @Fb)) (Se
 @Fc (Se @Fe @Ff)))))) (Se (Se (Se (Se (Se @Fg @Ei) (Se
 @Ej (Se @Ek @El))) (Se (Se @Em (Se @En @Eo)) (Se @Ep
 (Se @Er @pM)))) (Se (Se (Se @Es (Se @Et @Eu)) (Se @Ev (Se
 @Ew @Ex))) (Se (Se @Ey (Se @Ez @EA)) (Se @EB (Se @EC
 @ED))))) (Se (Se (Se (Se @EE (Se @EF @EG)) (Se @EH (Se
 @EI @EJ))) (Se (Se @EK (Se @EL @EM)) (Se @Tg (Se
 @Th @DD)))) (Se (Se (Se @DE (Se @DF @EO)) (Se @EP (Se @DN
 @DO))) (Se (Se @zh (Se @DP @DQ)) (Se @zi (Se @DR @zj))))))) (Se
 (Se (Se (Se (Se (Se @DS @zk) (Se @zl (Se @zm @zn))) (Se (Se
 @DT (Se @DU @zo)) (Se @zp (Se @zq @zr)))) (Se (Se (Se
 @zs (Se @DV @DW)) (Se @zt (Se @DX @wv))) (Se (Se @zu
 (Se @DY @DZ)) (Se @D0 (Se @cx @dG))))) (Se (Se (Se (Se @zg @DG)
 (Se @DH (Se @DI @DJ))) (Se (Se @DK (Se @DL @DM)) (Se @eP
 (Se @wx @lj)))) (Se (Se (Se @lV (Se @pM @zx)) (Se @pM (Se
 @pM @D1))) (Se (Se @ER (Se @ES @ET)) (Se @oI (Se @eQ @EU)))))) (Se
 (Se (Se (Se (Se @EV @EW) (Se @EX (Se @EY @EZ))) (Se (Se @E0 (Se
 @ez @E1)) (Se @wz (Se @wA @lW)))) (Se (Se (Se @zy (Se
 @D2 @D3)) (Se @D4 (Se @D5 @D6))) (Se (Se @D7 (Se @D9
 @Ea)) (Se @Eb (Se @Ec @Eh))))) (Se (Se (Se (Se @Ed (Se
 @Ee @Ef)) (Se @D8 (Se @Eg @EN))) (Se (Se @q5 (Se @Sq
 @Tr)) (Se @and_true (Se @and_self @SQ)))) (Se (Se (Se @St (Se @decide_true @decide_false))
 (Se @SC (Se @beq_true @beq_false))) (Se (Se @To (Se @Ti @Int.toNat_natCast)) (Se
 @Int.ofNat_lt (Se @Int.ofNat_le @Int.natCast_inj)))))))):=
 (Se (Se (Se (Se (Se (Se (Se @Di @Dj) (Se @Dk (Se @Dl
 @Dm))) (Se (Se @Dn (Se @Dp @Dq)) (Se @zf (Se @Dr @Ds)))) (Se
 (Se (Se @Dt (Se @Du @Dv)) (Se @Dw (Se @Dx @Dy))) (Se (Se
 @Dz (Se @DA @DB)) (Se @wm (Se @si @q3))))) (Se (Se (Se (Se
 @lh @zc) (Se @C7 (Se @C8 @C9))) (Se (Se @Da (Se @zd @wo))
 (Se @Db (Se @Dc @C5)))) (Se (Se (Se @C6 (Se @Dd @E5))
 (Se @E6 (Se @E7 @E8))) (Se (Se @E9 (Se @Fa @Fb)) (Se
 @Fc (Se @Fe @Ff)))))) (Se (Se (Se (Se (Se @Fg @Ei) (Se
 @Ej (Se @Ek @El))) (Se (Se @Em (Se @En @Eo)) (Se @Ep
 (Se @Er @pM)))) (Se (Se (Se @Es (Se @Et @Eu)) (Se @Ev (Se
 @Ew @Ex))) (Se (Se @Ey (Se @Ez @EA)) (Se @EB (Se @EC
 @ED))))) (Se (Se (Se (Se @EE (Se @EF @EG)) (Se @EH (Se
 @EI @EJ))) (Se (Se @EK (Se @EL @EM)) (Se @Tg (Se
 @Th @DD)))) (Se (Se (Se @DE (Se @DF @EO)) (Se @EP (Se @DN
 @DO))) (Se (Se @zh (Se @DP @DQ)) (Se @zi (Se @DR @zj))))))) (Se
 (Se (Se (Se (Se (Se @DS @zk) (Se @zl (Se @zm @zn))) (Se (Se
 @DT (Se @DU @zo)) (Se @zp (Se @zq @zr)))) (Se (Se (Se
 @zs (Se @DV @DW)) (Se @zt (Se @DX @wv))) (Se (Se @zu
 (Se @DY @DZ)) (Se @D0 (Se @cx @dG))))) (Se (Se (Se (Se @zg @DG)
 (Se @DH (Se @DI @DJ))) (Se (Se @DK (Se @DL @DM)) (Se @eP
 (Se @wx @lj)))) (Se (Se (Se @lV (Se @pM @zx)) (Se @pM (Se
 @pM @D1))) (Se (Se @ER (Se @ES @ET)) (Se @oI (Se @eQ @EU)))))) (Se
 (Se (Se (Se (Se @EV @EW) (Se @EX (Se @EY @EZ))) (Se (Se @E0 (Se
 @ez @E1)) (Se @wz (Se @wA @lW)))) (Se (Se (Se @zy (Se
 @D2 @D3)) (Se @D4 (Se @D5 @D6))) (Se (Se @D7 (Se @D9
 @Ea)) (Se @Eb (Se @Ec @Eh))))) (Se (Se (Se (Se @Ed (Se
 @Ee @Ef)) (Se @D8 (Se @Eg @EN))) (Se (Se @q5 (Se @Sq
 @Tr)) (Se @and_true (Se @and_self @SQ)))) (Se (Se (Se @St (Se @decide_true @decide_false))
 (Se @SC (Se @beq_true @beq_false))) (Se (Se @To (Se @Ti @Int.toNat_natCast)) (Se
 @Int.ofNat_lt (Se @Int.ofNat_le @Int.natCast_inj))))))))
theorem bD:type_of%(Se @cond_true.{1} (Se @cond_false.{1} (Se @Tj.{0} (Se @Sz.{0} (Se @SR.{0} (Se @SB.{0} (Se @S4.{0} (Se @S5.{0} (Se @S7.{0} (Se @S8.{0} (Se @SI.{1} (Se @Tk.{1} (Se @beq_self_eq_true.{0} (Se @ne_eq.{1} (Se @eq_self.{1} (Se @Tc @Td)))))))))))))))):=(Se @cond_true.{1} (Se @cond_false.{1} (Se @Tj.{0} (Se @Sz.{0} (Se @SR.{0} (Se @SB.{0} (Se @S4.{0} (Se @S5.{0} (Se @S7.{0} (Se @S8.{0} (Se @SI.{1} (Se @Tk.{1} (Se @beq_self_eq_true.{0} (Se @ne_eq.{1} (Se @eq_self.{1} (Se @Tc @Td))))))))))))))))
section
variable (P:Sg) (aV:bg) (b:Sj) (all:Si Sm) (r:Si Sm) (id:Sj) (f:an) (T:J) (Q:an->J->Prop)
variable (d:Sk Tmp) (ty:Sh) (ps:String) (af:S6 Edge) (gd:Sk (Sj×So))
end
structure q8 (s0:J) (K:Sj) (i id:Sj) (aGl:Si (Sj×Sj×cF)) (T U:J):Prop extends zB s0 K i id aGl T U where
 oL:ad s0.Y s0 T
 oM:ad s0.Y s0 U
 pQ:∀x∈aGl,s0.Y<=x.2.1
section
variable {P:Sg} {aV:bg} {b:Sj} {all r:Si Sm} {id:Sj} {f:an} {T:J} {d:Sk Tmp} {Q:an->J->Prop}
end
namespace LA
structure dU (A:Sj->So) (s s' :J):Prop where
 Y:s.Y<=s'.Y
 N:∀i,A i=true->s'.i.N i=s.i.N i
theorem dU.p (A:Sj->So)(s:J):dU A s s:=⟨Sl _,fun _ _=>rfl⟩
theorem dU.a {A:Sj->So}{s a b:J}(h:dU A s a)(k:dU A a b):dU A s b:=⟨Tb h.Y k.Y,fun i c=>(k.N i c).trans (h.N i c)⟩
theorem ar.R {A:Sj->So}{n:Sj}{s a:J}(b:∀i,A i=true->i<n)(h:ad n s a):dU A s a:=⟨h.Y,fun i c=>h.N i (b i c)⟩
def Fk (o:Sm):So:=
 match o.op with
 | .slice _ _ _ _ _=>true
 | .load _ _=>true
 | .call ⟨.builtin .len,_,_⟩=>true
 | .convert _ _ _=>true
 |_=>false
def j5 (P:Sg)(o:Sm):So:=kM o||(Fk o&&bU P o)
def c4 (A:Sj->So):Sk Sf->So
 |some (.slice (some a) _ c)=>A a.block||Sw c 0
 |some (.slice none _ _)=>true
 |some (.string _)=>true
 |some (.pointer (some a))=>A a.block
 |_=>false
def sr (A:Sj->So):Sk Sf->So
 |some (.slice a n c)=>c4 A (some (.slice a n c))
 |_=>true
theorem Fl {A:Sj->So}(k:SV)(n:Tt):sr A (some (.int k n))=true:=rfl
theorem Fm {A:Sj->So}(b:ByteArray):sr A (some (.string b))=true:=rfl
def oN:Sk (Si Sf)->So
 |some [.slice _ _ _]=>true
 |some [.string _]=>true
 |_=>false
def gB (o:Sm)(f:an)(A:Sj->So):So:=
 match o.op with
 | .slice _ x _ _ _=>c4 A (ba f x)
 | .load _ x=>c4 A (ba f x)
 | .call ⟨.builtin .len,a,_⟩=>oN (bB f a.toList)
 | .convert _ _ x=>sr A (ba f x)
 |_=>true
theorem Fo {P:Sg}{s t:J}{A:Sj->So}(h:dU A s t){b:Sh}{u:Sf}{c a d:Sk Sf}(e:c4 A (some u)=true):fN P s b u c a d=fN P t b u c a d:=by
 unfold fN;generalize P.underlying b=U;have b:∀i c,(A i=true\/c=0)->∀z,jV s i c z=jV t i c z:=fun i c a z=>by
  unfold jV;cases c with
  |zero=>rfl
  |succ c=>simp only[J.t,h.N i (a.resolve_right Z)]
 cases U with
 |none=>rfl
 |some D=>
  cases u with
  |slice a n c=>
   cases a with
   |none=>cases D<;>rfl
   |some a=>
    have⟨i,f,d⟩:=a;cases d with
    |none=>cases D<;>simp only[b i c (show A i=true\/c=0 by simpa [c4,Sv] using e)]
    |some k=>cases D<;>rfl
  |string x=>cases D<;>rfl
  |pointer a=>
   cases a with
   |none=>simp[c4] at e
   |some a=>
    have⟨i,c,b⟩:=a;have a:s.t i=t.t i:=by simp only[J.t,h.N i (show A i=true by simpa [c4,Sv] using e)]
    cases b with
    |none=>cases D<;>rfl
    |some k=>cases D<;>simp only[a]
  |_=>simp[c4] at e
theorem Fp {P:Sg}{s t:J}{A:Sj->So}(h:dU A s t){a:Sh}{u:Sf}(b:c4 A (some u)=true):aD P s a u=aD P t a u:=by
 unfold aD;cases u with
 |pointer a=>
  cases a with
  |none=>rfl
  |some a=>
   have⟨i,c,d⟩:=a;have e:∀a c n,s.fL i a c n=t.fL i a c n:=fun a c n=>by simp only[J.fL,J.t,h.N i (show A i=true by simpa [c4,Sv] using b)]
   cases d with
   |none=>rfl
   |some k=>simp only[e]
 |_=>rfl
theorem Nr {P:Sg}{s t:J}{a:Sh}{u:Sf}(b:oN (some [u])=true):cd P s a u=cd P t a u:=by
 unfold cd;generalize P.underlying a=U;cases U with
 |none=>rfl
 |some D=>
  cases u with
  |slice a n c=>cases D<;>rfl
  |string x=>cases D<;>rfl
  |_=>simp[oN] at b
theorem Ns {P:Sg}{f s t:J}{A:Sj->So}(r:dU A f s)(w:dU A f t){g d:Sh}(j:∀k,P.underlying d≠some (.slice k)){u:Sf}(x:sr A (some u)=true){v:Sf}{y:J}(h:fM P s g d u=some (v,y)):fM P t g d u=some (v,t):=by
 unfold fM at h|-
 split at h
 ·cases h;rfl
 ·cases h;rfl
 ·rename_i e;exact absurd e (j _)
 ·rename_i e;exact absurd e (j _)
 ·split at h
  ·rename_i a;rw[SK a];cases h;rfl
  cases h
 ·rename_i k i b z c _ _;split at h
  case isFalse=>cases h
  rename_i a;rw[SK a];cases z with
  |zero=>cases h;rfl
  |succ n=>
   have a:A i=true\/c=0:=by simpa [sr,c4] using x
   have B:s.fL i b c (n+1)=t.fL i b c (n+1):=by
    rcases a with l|D
    ·simp only[J.fL,J.t,r.N i l,w.N i l]
    subst D;have m:∀q:J,q.fL i b 0 (n+1)=none:=fun q=>by
     simp only[J.fL];cases q.t i with
     |none=>rfl
     |some F=>have:SO (b+(n+1)) 0=false:=by rw[<-SS,Sv];omega
              simp[this]
    rw[m,m]
   simp only at h|-
   rw[<-B];cases o:s.fL i b c (n+1) with
   |none=>rw[o] at h;cases h
   |some E=>
    rw[o] at h;simp only at h|-
    cases p:pD E with
    |none=>rw[p] at h;cases h
    |some G=>rw[p] at h;cases h;rfl
 cases h
theorem Nt {c:Sg}{o:Sm}{A:Sj->So}{x:J}(h:j5 c o=true){j:an}{f e:J}(b:gB o j A=true)(m:dU A x f)(n:dU A x e){v:Sf}{y:J}(a:a4 c o j f=some (.a8 v y)):a4 c o j e=some (.a8 v e):=by
 cases z:kM o with
 |true=>exact E4 z a
 |false=>
  simp only[j5,z,Tp,Sy] at h;obtain⟨h,K⟩:=h;obtain⟨p,L,Wz,WA,WB,WC⟩:=o;have q:∀{k r:Sk Sf},k=r->dE f k=some (.a8 v y)->dE e r=some (.a8 v e):=by
   intro k r l d;subst l;cases k with
   |none=>cases d
   |some M=>
    rw[wx] at d;injection d with d;injection d with d _;subst d;rfl
  cases L<;>simp only[Fk] at h<;>try (cases h;done)
  case slice g B WD WE WG=>
   rw[zo] at a|-
   simp only[gB] at b;split at a
   ·rename_i u D E F i WH WI WJ;rw[i] at b;exact q (by rw[<-(Fo (P:=c) m (b:=g) (c:=D) (a:=E) (d:=F) b),<-(Fo (P:=c) n (b:=g) (c:=D) (a:=E) (d:=F) b)]) a
   cases a
  case convert O p B=>
   rw[zn] at a|-
   simp only[gB] at b;split at a
   ·rename_i u i;rw[i] at b;cases w:fM c f O p u with
    |none=>rw[w] at a;cases a
    |some G=>
     obtain⟨M,WK⟩:=G;rw[w,lj] at a;injection a with a;injection a with Q _
     subst Q;rw[Ns m n ((fun l R=>by simp[bU,R] at K):∀l,c.underlying p≠some (.slice l)) b w];rfl
   cases a
  case load g B=>
   rw[zj] at a|-
   simp only[gB] at b;split at a
   ·rename_i u i;rw[i] at b;exact q (by rw[<-(Fp (P:=c) m (a:=g) b),<-(Fp (P:=c) n (a:=g) b)]) a
   cases a
  case call S=>
   obtain⟨T,U,WL⟩:=S;cases T with
   |builtin W=>
    cases W<;>simp only at h<;>try (cases h;done)
    simp only[gB] at b;rw[wv] at a|-
    cases H:bB j U.toList with
    |none=>rw[H] at b;simp[oN] at b
    |some X=>
     rw[H] at b a
     match X,b with
     |[u],b=>
      simp only at a|-
      unfold pG at a|-
      split at a<;>rename_i WM<;>simp_all
      rw[<-Nr (P:=c) (s:=f) (t:=e) b];exact q a
     |[],b=>simp[oN] at b
     |Wy::WN::G,b=>cases Wy<;>simp[oN] at b
   |_=>simp at h
theorem Fq (p:Sj->So)(A:Sj->So):∀(a:Si (Sj×Sj×cF)) (T:J),(∀x∈a,A x.2.1=false)->dU A T (Cl.b3 p T a):=by
 intro a
 induction a with
 |nil=>intro T _;exact dU.p _ _
 |cons x a b=>
  intro T h;have⟨j,a,c⟩:=x;have d:=fun y e=>h y (SJ _ e)
  simp only[Cl.b3];split
  ·exact dU.a (a:=T.u a (.bl c)) ⟨Sl _,fun i e=>J.gS _ _ _ _ (by intro f;subst f;rw[(h (j,a,c) (SD ..):A a=false)] at e;cases e)⟩ (b _ d)
  exact b _ d
section
variable (P:Sg) (aV:bg) (A:Sj->So) (all:Si Sm) (r:Si Sm) (id:Sj) (f:an) (T:J) (Q:an->J->Prop)
variable (d:Sk Tmp) (ty:Sh) (ps:String) (af:S6 Edge) (gd:Sk (Sj×So))
theorem Fs (x:Sr):gB ⟨d,.move x,ty,ps,af,gd⟩ f A=true:=rfl
theorem Ft (x:Sr):gB ⟨d,.assign x,ty,ps,af,gd⟩ f A=true:=rfl
theorem Fu (x y z:Sr):gB ⟨d,.pick x y z,ty,ps,af,gd⟩ f A=true:=rfl
theorem Fv (x:Sr):gB ⟨d,.nilCheck x,ty,ps,af,gd⟩ f A=true:=rfl
theorem Fw (o:BinOp)(t:Sh)(x y:Sr)(u:Sh):gB ⟨d,.binOp o t x y u,ty,ps,af,gd⟩ f A=true:=rfl
theorem Fy (o:UnOp)(t:Sh)(x:Sr):gB ⟨d,.unOp o t x,ty,ps,af,gd⟩ f A=true:=rfl
theorem Fz (t u:Sh)(x:Sr):gB ⟨d,.convert t u x,ty,ps,af,gd⟩ f A=sr A (ba f x):=rfl
theorem FA (t:Sh)(x:Sr)(i:Sj):gB ⟨d,.fieldAddr t x i,ty,ps,af,gd⟩ f A=true:=rfl
theorem FB (t:Sh)(x:Sr)(i:Sj):gB ⟨d,.field t x i,ty,ps,af,gd⟩ f A=true:=rfl
theorem FC (t:Sh)(x y:Sr):gB ⟨d,.indexAddr t x y,ty,ps,af,gd⟩ f A=true:=rfl
theorem FD (t:Sh)(x y:Sr):gB ⟨d,.index t x y,ty,ps,af,gd⟩ f A=true:=rfl
theorem FE (x:Sr)(i:Sj):gB ⟨d,.extract x i,ty,ps,af,gd⟩ f A=true:=rfl
theorem FG (t:Sh)(x:Sr):gB ⟨d,.load t x,ty,ps,af,gd⟩ f A=c4 A (ba f x):=rfl
theorem FH (a:S6 Sr)(b:S6 Sh):gB ⟨d,.call ⟨.builtin .len,a,b⟩,ty,ps,af,gd⟩ f A=oN (bB f a.toList):=rfl
theorem FI (x:ByteArray):oN (some [.string x])=true:=rfl
theorem hT {i o:Sj}{c:Sk Sj}(h:A i=true):c4 A (some (.pointer (some ⟨i,o,c⟩)))=true:=by simpa [c4,Sv] using h
theorem FJ (t:Sh)(x:Sr)(a b c:Sk Sr):gB ⟨d,.slice t x a b c,ty,ps,af,gd⟩ f A=c4 A (ba f x):=rfl
end
theorem q9 {s:J}{z:Sj}{v:Sf}{n:Sj}{l:Si Sf}(h:az s z v n l):oN (some [v])=true:=by
 cases h<;>rfl
def uj (P:Sg)(o:Sm):So:= !j5 P o&& !bQ P o
structure q8 (A:Sj->So) (s0:J) (K:Sj) (i id:Sj) (aGl:Si (Sj×Sj×cF)) (T U:J):Prop extends zB s0 K i id aGl T U where
 oL:dU A s0 T
 oM:dU A s0 U
 pQ:∀x∈aGl,A x.2.1=false
theorem Nu {P:Sg}{o:Sm}(h:j5 P o=true):bU P o=true:=by
 cases a:kM o with
 |true=>exact Nd a
 |false=>
  simp only[j5,a,Tp,Sy] at h;exact h.2
section
variable {P:Sg} {aV:bg} {A:Sj->So} {all r:Si Sm} {id:Sj} {f:an} {T:J} {d:Sk Tmp} {Q:an->J->Prop}
end
end LA
theorem fi:type_of%
 (Se (Se (Se (Se @LA.Fs @LA.Ft) (Se @LA.Fu @LA.FG)) (Se (Se @LA.Fv
 @LA.Fw) (Se @LA.Fy (Se @LA.Fz @LA.Fl)))) (Se (Se (Se @LA.Fm @LA.FA) (Se
 @LA.FB @LA.FC)) (Se (Se @LA.FD @LA.FE) (Se @LA.FH (Se @LA.FJ @LA.FI))))):=
 (Se (Se (Se (Se @LA.Fs @LA.Ft) (Se @LA.Fu @LA.FG)) (Se (Se @LA.Fv
 @LA.Fw) (Se @LA.Fy (Se @LA.Fz @LA.Fl)))) (Se (Se (Se @LA.Fm @LA.FA) (Se
 @LA.FB @LA.FC)) (Se (Se @LA.FD @LA.FE) (Se @LA.FH (Se @LA.FJ @LA.FI)))))
end Go.Cl
namespace Go.Cl
theorem zC (s:J):∃A:Sj->So,(∀j,A j=true->j<s.Y)/\(∀j,j<s.Y->A j=true)/\∀j,s.Y<=j->A j=false:=
 ⟨fun j=>decide (j<s.Y),fun _ h=>of_decide_eq_true h,fun _ h=>decide_eq_true h,fun _ h=>decide_eq_false Z⟩
namespace LB
def gi (P:Sg)(b:bg)(A:Sj->So)(c:Si Sm):Si Sm->Sj->Sj->an->J->(an->J->Prop)->Prop
 |[],_,_,f,T,Q=>Q f T
 |o::r,g,a,f,T,Q=>
  match ff c o f with
  |true=>
   match bU P o,bQ P o with
   |true,_=>
    match a4 P o f T with
    |some (.a8 v _)=>LA.gB o f A=true/\bn v v=true/\cT f o.dst v fun d=>gi P b A c r g a d T Q
    |_=>False
   |false,true=>
    match jD a (a4 P o f ⟨.al,a⟩) with
    |some (v,d)=>cT f o.dst v fun e=>gi P b A c r g (a+1) e (T.u a (.bl d)) Q
    |none=>False
   |false,false=>
    match a4 P o f T with
    |some (.a8 v d)=>(g≠0->LA.dU A T d)/\cT f o.dst v fun e=>gi P b A c r (g-1) a e d Q
    |some (.jY d e)=>Runs P b d e T fun v d=>(g≠0->LA.dU A T d)/\cT f o.dst v fun e=>gi P b A c r (g-1) a e d Q
    |none=>False
  |false=>cT f o.dst undef fun d=>gi P b A c r (if c6 P o then g-1 else g) (if bQ P o then a+1 else a) d T Q
def ss (P:Sg)(a:bg)(A:Sj->So)(g:Sj)(b:Si Sm)(o:Sm)(r:Si Sm)(c:Sj)(f:an)(T:J)(Q:an->J->Prop):Sk iV->Prop
 |some (.a8 v _)=>LA.gB o f A=true/\bn v v=true/\cT f o.dst v fun d=>gi P a A b r g c d T Q
 |_=>False
def ra (P:Sg)(b:bg)(A:Sj->So)(g:Sj)(c r:Si Sm)(a:Sj)(f:an)(T:J)(d:Sk Tmp)(Q:an->J->Prop):Sk (Sf×cF)->Prop
 |some (v,e)=>cT f d v fun d=>gi P b A c r g (a+1) d (T.u a (.bl e)) Q
 |none=>False
def j6 (P:Sg)(a:bg)(A:Sj->So)(g:Sj)(b r:Si Sm)(c:Sj)(f:an)(d:Sk Tmp)(T:J)(Q:an->J->Prop):Sk iV->Prop
 |some (.a8 v e)=>(g≠0->LA.dU A T e)/\cT f d v fun h=>gi P a A b r (g-1) c h e Q
 |some (.jY e h)=>Runs P a e h T fun v e=>(g≠0->LA.dU A T e)/\cT f d v fun d=>gi P a A b r (g-1) c d e Q
 |none=>False
def jd (P:Sg)(a:bg)(A:Sj->So)(g:Sj)(b r:Si Sm)(c:Sj)(f:an)(d:Sk Tmp)(Q:an->J->Prop)(v:Sf)(e:J):Prop:=cT f d v fun d=>gi P a A b r g c d e Q
def oO (P:Sg)(b:bg)(A:Sj->So)(g:Sj)(c:Si Sm)(o:Sm)(r:Si Sm)(a:Sj)(f:an)(T:J)(Q:an->J->Prop):So->Prop
 |true=>bif bU P o then ss P b A g c o r a f T Q (a4 P o f T) else bif bQ P o then ra P b A g c r a f T o.dst Q (jD a (a4 P o f ⟨.al,a⟩)) else j6 P b A g c r a f o.dst T Q (a4 P o f T)
 |false=>cT f o.dst undef fun d=>gi P b A c r (if c6 P o then g-1 else g) (if bQ P o then a+1 else a) d T Q
section
variable (P:Sg) (aV:bg) (A:Sj->So) (all:Si Sm) (r:Si Sm) (g id:Sj) (f:an) (T:J) (Q:an->J->Prop)
theorem zD:gi P aV A all [] g id f T Q=Q f T:=by simp only[gi]
theorem zE (o:Sm):gi P aV A all (o::r) g id f T Q=oO P aV A g all o r id f T Q (ff all o f):=by
 simp only[gi];cases ff all o f with
 |false=>rfl
 |true=>
  simp only[oO];cases bU P o with
  |true=>
   simp only[cond_true];cases a4 P o f T with
   |none=>rfl
   |some a=>cases a<;>rfl
  |false=>
   cases bQ P o with
   |true=>
    simp only[cond_true,cond_false];cases jD id (a4 P o f ⟨.al,id⟩) with
    |none=>rfl
    |some a=>rfl
   |false=>
    simp only[cond_false];cases a4 P o f T with
    |none=>rfl
    |some a=>cases a<;>rfl
variable (d:Sk Tmp) (ty:Sh) (ps:String) (af:S6 Edge) (gd:Sk (Sj×So))
theorem Nv (o:Sm):oO P aV A g all o r id f T Q true=bif bU P o then ss P aV A g all o r id f T Q (a4 P o f T) else bif bQ P o then ra P aV A g all r id f T o.dst Q (jD id (a4 P o f ⟨.al,id⟩)) else j6 P aV A g all r id f o.dst T Q (a4 P o f T):=rfl
theorem FK (o:Sm):oO P aV A g all o r id f T Q true=if bU P o=true then ss P aV A g all o r id f T Q (a4 P o f T) else if bQ P o=true then ra P aV A g all r id f T o.dst Q (jD id (a4 P o f ⟨.al,id⟩)) else j6 P aV A g all r id f o.dst T Q (a4 P o f T):=by
 rw[Nv];cases bU P o<;>cases bQ P o<;>rfl
theorem FL (a:Op)(t:Tmp):oO P aV A g all ⟨some t,a,ty,ps,af,gd⟩ r id f T Q false=if t<f.e then gi P aV A all r (if bU P ⟨some t,a,ty,ps,af,gd⟩=true then g else if bQ P ⟨some t,a,ty,ps,af,gd⟩=true then g else g-1) (if bQ P ⟨some t,a,ty,ps,af,gd⟩=true then id+1 else id) (f.u t undef) T Q else False:=by
 have e:(if c6 P ⟨some t,a,ty,ps,af,gd⟩=true then g-1 else g)=(if bU P ⟨some t,a,ty,ps,af,gd⟩=true then g else if bQ P ⟨some t,a,ty,ps,af,gd⟩=true then g else g-1):=by
  unfold c6;cases bU P ⟨some t,a,ty,ps,af,gd⟩<;>cases bQ P ⟨some t,a,ty,ps,af,gd⟩<;>rfl
 rw[<-e];simp only[oO,lh]
theorem FM (o:Op)(t:Tmp)(v:Sf)(a:J):ss P aV A g all ⟨some t,o,ty,ps,af,gd⟩ r id f T Q (some (.a8 v a))=if LA.gB ⟨some t,o,ty,ps,af,gd⟩ f A=true/\bn v v=true/\t<f.e then gi P aV A all r g id (f.u t v) T Q else False:=by
 simp only[ss,lh];by_cases a:LA.gB ⟨some t,o,ty,ps,af,gd⟩ f A=true<;>by_cases b:bn v v=true<;>by_cases c:t<f.e<;>simp[a,b,c]
theorem FN (a:FuncId)(b:Si Sf):j6 P aV A g all r id f d T Q (some (.jY a b))=Runs P aV a b T (fun v c=>(g≠0->LA.dU A T c)/\jd P aV A (g-1) all r id f d Q v c):=rfl
theorem FO (t:Tmp)(v:Sf)(a:J):jd P aV A g all r id f (some t) Q v a=if t<f.e then gi P aV A all r g id (f.u t v) a Q else False:=by
 simp only[jd,lh]
theorem FP (v:Sf):j6 P aV A g all r id f d T Q (some (.a8 v T))=jd P aV A (g-1) all r id f d Q v T:=by
 simp only[j6,jd,LA.dU.p,implies_true,Tr]
theorem rb (v:Sf)(a:J):j6 P aV A g all r id f d T Q (some (.a8 v a))=((g≠0->LA.dU A T a)/\jd P aV A (g-1) all r id f d Q v a):=rfl
theorem FQ (v:Sf)(a:J):jd P aV A g all r id f none Q v a=gi P aV A all r g id f a Q:=rfl
theorem FR (v:Sf)(a:cF):ra P aV A g all r id f T d Q (some (v,a))=jd P aV A g all r (id+1) f d Q v (T.u id (.bl a)):=rfl
end
def wG (P:Sg)(a:Si Sm)(c:Sj):So:=
 let b:=cZ a []
 a.zipIdx.all fun x=>
  (a.zipIdx.all fun y=> !bQ P y.1||(bif SO y.2 x.2 then !LA.uj P x.1||Sp (cN b x.2) y.2 else !Nat.testBit (cN b x.2) y.2))&&
  (!(LA.j5 P x.1&& !kM x.1)||(Sx (dM (fun j=> !Nat.testBit (cN b j) x.2) P a 0) c&&Sx (dM (fun j=>SO j x.2) P a 0) c))&&
  (!(bU P x.1&& !LA.j5 P x.1)||(Sx (dM (fun j=> !Nat.testBit (cN b j) x.2) P a 0) (dM (fun j=>SO j x.2) P a 0)&&Sw (dM (Sp (cN b x.2)) P a 0) (dM (fun j=>SO j x.2) P a 0)))
structure q8 (A:Sj->So) (b:Prop) (s0:J) (K:Sj) (i id:Sj) (aGl:Si (Sj×Sj×cF)) (T U:J):Prop extends zB s0 K i id aGl T U where
 oL:b->LA.dU A s0 T
 oM:b->LA.dU A s0 U
 pQ:∀x∈aGl,A x.2.1=false
theorem FT {P:Sg}{o:Sm}{A:Sj->So}{a:J}(h:LA.j5 P o=true){f:an}{s t:J}(c:LA.gB o f A=true)(d:kM o=false->LA.dU A a s)(e:kM o=false->LA.dU A a t){v:Sf}{g:J}(b:a4 P o f s=some (.a8 v g)):a4 P o f t=some (.a8 v t):=by
 cases a:kM o with
 |true=>exact E4 a b
 |false=>exact LA.Nt h c (d a) (e a) b
theorem Nw {P:Sg}{WN:bg}{e:Si Sm}{A:Sj->So}(Q:J)(Xu:∀i,A i=true->i<Q.Y)(K:Sj)(R:Si Sj){WO:an->J->Prop}
  (X7:∀(o:Sm) (i:Sj),e[i]?=some o->LA.j5 P o=true->kM o=false->dM (fun m=> !Nat.testBit (cN R m) i) P e 0<=K/\eA P e i<=K)
  (X8:∀(o:Sm) (i:Sj),e[i]?=some o->bU P o=true->LA.j5 P o=false->dM (fun m=> !Nat.testBit (cN R m) i) P e 0<=eA P e i/\dM (Sp (cN R i)) P e 0=eA P e i)
  (X9:∀(o p:Sm) (i m:Sj),e[i]?=some o->e[m]?=some p->bQ P p=true->m<i->LA.uj P o=true->Sp (cN R i) m=true)
  (Ya:∀(o p:Sm) (i m:Sj),e[i]?=some o->e[m]?=some p->bQ P p=true->i<=m->Sp (cN R i) m=false):
  ∀(Wz b:Si Sm) (u:Si Sj) (g:Sj) (q:an) (T U:J) (j:Si (Sj×Sj×cF)),e=b++Wz->u=R.drop b.length->u.length=Wz.length->g+bW P Wz<=Q.Y+bW P e->q8 A (eA P b b.length<=K) Q (bW P e) b.length g j T U->(∀x∈j,∃p,e[x.1]?=some p/\bQ P p=true)->gi P WN A e Wz (K-eA P b b.length) g q U WO->
  ∃f B X s,(∃WD,∀M,WD<=M->iC P (kz P WN M) e u Wz b.length g q T j=some f)/\(cw P Wz f T).getLastD T=X/\j0 Wz f q=B/\Cl.b3 (fun _=>true) X (j++cf f b.length)=s/\
   (∀x∈cf f b.length,b.length<=x.1/\∃p,e[x.1]?=some p/\bQ P p=true)/\
   (∀k x,(cw P Wz f T)[k]?=some x->eA P b b.length+k<=K->LA.dU A Q x)/\(∀w y,w=y++cw P Wz f T->(∀k x,w[k]?=some x->k<=K->LA.dU A Q x)->y.length=eA P b b.length->iD P e R (j++cf f b.length) w u Wz f b.length q=true)/\ca Q s/\WO B s:=by
 intro Wz
 induction Wz with
 |nil=>
  intro b u g q T U j _ _ W6 _ c _ d;rw[zD] at d;cases u with
  |cons M r=>simp at W6
  |nil=>exact⟨[],q,T,U,⟨0,fun _ _=>rfl⟩,rfl,rfl,by simp only[cf,SZ];exact c.b3 _ (fun _ _=>rfl),(fun x a=>by simp[cf] at a),(fun k x a l=>by
   simp only[cw] at a;cases k with
   |zero=>simp at a;rw[<-a];exact c.oL Z
   |succ k=>simp at a),fun _ _ _ _ _=>rfl,c.C,d⟩
 |cons o r W7=>
  intro b u g q T U j Xi Xv W6 WQ c W0 d;cases u with
  |nil=>simp at W6
  |cons M u=>
  have W8:u.length=r.length:=by simpa using W6
  have W9:e=(b++[o])++r:=by rw[Xi,SG];rfl
  have WJ:(b++[o]).length=b.length+1:=by simp
  have Xa:u=R.drop (b++[o]).length:=by
   rw[WJ,<-Tl,<-Xv];rfl
  have Xj:cN R b.length=M:=by
   have Yb:∀(L:Si Sj) (k:Sj) (x:Sj) (Xb:Si Sj),L.drop k=x::Xb->cN L k=x:=by
    intro L
    induction L with
    |nil=>intro k x Xb h;simp at h
    |cons Xc L Xk=>
     intro k x Xb h;cases k with
     |zero=>simp at h;exact h.1
     |succ k=>simp only[Sz] at h;simp only[cN];exact Xk k x Xb h
   exact Yb R b.length M u Xv.symm
  have WV:e[b.length]?=some o:=by rw[Xi];simp
  have Xw:eA P e b.length=eA P b b.length:=by rw[Xi,Nl]
  have WE:=Nm P o b;have Xd:∀(v:Sf) (Xl Xm:Sj) (s:J),(cT q o.dst v fun B=>gi P WN A e r Xl Xm B s WO)->∃WK,fO q o.dst v=some WK/\gi P WN A e r Xl Xm WK s WO:=by
   intro v Xl Xm s h;unfold cT at h;split at h
   ·exact⟨_,‹_›,h⟩
   exact h.elim
  have S:∀z:So,c6 P o=z->eA P (b++[o]) (b++[o]).length=if z then eA P b b.length+1 else eA P b b.length:=fun z WG=>by rw[WE,WG]
  have Xe:bW P (o::r)=if bQ P o then bW P r+1 else bW P r:=rfl
  have Xx:LA.uj P o=true->Cl.b3 (Sp M) T j=U:=fun Xn=>c.b3 _ (fun x a=>by
   have⟨p,n,Xo⟩:=W0 x a;rw[<-Xj];exact X9 o p b.length x.1 WV n Xo (c.ui x a) Xn)
  rw[zE] at d;cases WR:ff e o q with
  |false=>
   rw[WR] at d;have⟨WK,n,d⟩:=Xd _ _ _ _ d;have W1:q8 A (eA P (b++[o]) (b++[o]).length<=K) Q (bW P e) (b++[o]).length (if bQ P o then g+1 else g) j T U:=by
    refine⟨⟨c.b3,c.kD,fun x a=>ag (c.ui x a),by have:=c.eX;split<;>omega,fun k l W2=>c.jw k (by split at l<;>omega) W2,c.Y,c.C⟩,fun h=>c.oL (by rw[WE] at h;split at h<;>omega),fun h=>c.oM (by rw[WE] at h;split at h<;>omega),c.pQ⟩
   have⟨f,B,X,s,⟨WD,t⟩,WA,WS,WH,WB,WM,WC,l,WT⟩:=W7 (b++[o]) u _ WK T U j W9 Xa W8 (by rw[Xe] at WQ;split<;>split at WQ<;>first|omega|contradiction) W1 W0 (by rw[WE];cases D:c6 P o<;>simp only[D,SC,Tk,SI] at d|- <;>first|exact d|(rw[Tm];exact d));rw[WJ] at t WC WH WB;refine⟨.e3::f,B,X,s,⟨WD,fun W O=> ?_⟩,?_,by simp only[j0,cc.a8,n,WS],by simp only[cf];exact WH,(fun x a=>by simp only[cf] at a;have⟨Xf,z⟩:=WB x a;exact⟨Z,z⟩),(fun k x a l=>by
    simp only[cw] at a;split at a
    ·rename_i D;cases k with
     |zero=>simp at a;rw[<-a];exact c.oL Z
     |succ k=>exact WM k x (by simpa using a) (by rw[WE,SK D];omega)
    rename_i D;exact WM k x a (by rw[WE,SU D];omega)),fun w y WI WL WG=> ?_,l,WT⟩
   ·simp only[iC,jv,WR,cc.a8,n];rw[t W O]
   ·simp only[cw];split
    ·have⟨Xy,W3⟩:=wF P r f T;rw[W3] at WA|-
     rw[Ss] at WA|-
     rw[Ss];exact WA
    exact WA
   simp only[iD,cc.a8,n,St,cf];simp only[cw] at WI;split at WI
   ·rename_i D;refine WC w (y++[T]) (by rw[WI,SG];rfl) WL ?_;rw[<-WJ,WE,SK D,S9,WG];rfl
   rename_i D;refine WC w y WI WL ?_;rw[<-WJ,WE,SU D,WG]
  |true=>
   rw[WR] at d;cases O:bU P o with
   |true=>
    simp only[oO,O,cond_true] at d;have E:=Dg O;have Xp:=Df O;rw[Xe,SU (by simp[Xp])] at WQ;unfold ss at d;split at d
    case h_2=>exact d.elim
    rename_i v WU F;have⟨Xz,Yc,d⟩:=d;have⟨WK,n,d⟩:=Xd _ _ _ _ d;have⟨f,B,X,s,⟨WD,t⟩,WA,WS,WH,WB,WM,WC,l,WT⟩:=W7 (b++[o]) u g WK T U j W9 Xa W8 WQ (⟨⟨c.b3,c.kD,fun x a=>ag (c.ui x a),c.eX,c.jw,c.Y,c.C⟩,fun h=>c.oL (by rw[S _ E] at h;simpa using h),fun h=>c.oM (by rw[S _ E] at h;simpa using h),c.pQ⟩:q8 A (eA P (b++[o]) (b++[o]).length<=K) Q (bW P e) (b++[o]).length g j T U) W0 (by rw[S _ E];exact d);rw[WJ] at t WC WH WB;have Xg:LA.j5 P o=true->kM o=false->dM (fun m=> !Nat.testBit (cN R m) b.length) P e 0<=K/\eA P b b.length<=K:=fun t W4=>by rw[<-Xw];exact X7 o b.length WV t W4
    have Xh:∃Xq,a4 P o q (Cl.b3 (Sp M) T j)=some (.a8 v Xq):=by
     cases G:LA.j5 P o with
     |true=>exact⟨_,FT G Xz (fun h=>c.oM (Xg G h).2) (fun h=>(c.oL (Xg G h).2).a (LA.Fq _ _ _ _ c.pQ)) F⟩
     |false=>exact⟨WU,by rw[Xx (by simp[LA.uj,G,Xp])];exact F⟩
    have⟨Xq,Xh⟩:=Xh;refine⟨.ki v::f,B,X,s,⟨WD,fun W WW=> ?_⟩,?_,by simp only[j0,cc.a8,n,WS],by simp only[cf];exact WH,(fun x a=>by simp only[cf] at a;have⟨Xf,z⟩:=WB x a;exact⟨Z,z⟩),(fun k x a l=>WM k x (by simpa [cw,E] using a) (by rw[S _ E];simpa using l)),fun w y WI WL WG=> ?_,l,WT⟩
    ·simp only[iC,jv,WR,O,Xh,cc.a8,n,Xp];rw[SU aA,t W WW]
    ·simp only[cw,E];simpa using WA
    have XW:w=y++cw P r f T:=by simpa [cw,E] using WI
    simp only[iD,cc.a8,n,cf];rw[WC w y XW WL (by rw[<-WJ,WE,SU (by simp[E]),WG]),SQ];have Yd:∀Xr:J,Cl.b3 (Sp M) Xr (j++cf f (b.length+1))=Cl.b3 (Sp M) Xr j:=by
     intro Xr;rw[Fi,Nn _ (cf f (b.length+1))];intro x a;have⟨Xf,p,Ye,Xo⟩:=WB x a;rw[<-Xj];exact Ya o p b.length x.1 WV Ye Xo Z
    have Yf:∀(L:Si J),(LA.j5 P o=true->kM o=false->∀x∈L,LA.dU A Q x)->(LA.j5 P o=false->∀x∈L,x=T)->mo P M (j++cf f (b.length+1)) o q v L=true:=by
     intro L
     induction L with
     |nil=>intro _ _;rfl
     |cons x L Xk=>
      intro XX a;simp only[mo,Yd];have:∃XY,a4 P o q (Cl.b3 (Sp M) x j)=some (.a8 v XY):=by
       cases G:LA.j5 P o with
       |true=>exact⟨_,FT G Xz (fun h=>c.oM (Xg G h).2) (fun h=>(XX G h x (SD ..)).a (LA.Fq _ _ _ _ c.pQ)) F⟩
       |false=>rw[a G x (SD ..)];exact⟨Xq,Xh⟩
      have⟨XY,Yg⟩:=this;rw[Yg];simp only[Yc,St];exact Xk (fun t W4 Xc Xs=>XX t W4 Xc (SJ _ Xs)) (fun G Xc Xs=>a G Xc (SJ _ Xs))
    refine Yf _ (fun t W4 x a=> ?_) (fun G x a=> ?_)
    ·have⟨k,l⟩:=List.getElem?_of_mem (List.mem_of_mem_drop a);rw[List.getElem?_take] at l;split at l
     ·rename_i Yx;have:=(Xg t W4).1;exact WL k x l Z
     cases l
    have⟨Yy,XZ⟩:=X8 o b.length WV O G;rw[Xj] at XZ;rw[XZ] at a;have⟨Xy,W3⟩:=wF P r f T;rw[Xw,<-WG,Tn,XW,W3,List.drop_left] at a;have Yh:dM (fun m=> !Nat.testBit (cN R m) b.length) P e 0+1-y.length<=1:=Z;generalize dM (fun m=> !Nat.testBit (cN R m) b.length) P e 0+1-y.length=k at a Yh;cases k with
    |zero=>simp at a
    |succ k=>
     obtain rfl:k=0:=Z
     simpa using a
   |false=>
    cases Wy:bQ P o with
    |true=>
     simp only[oO,O,Wy,cond_true,cond_false] at d;rw[Xe,SK Wy] at WQ;have E:c6 P o=false:=by simp[c6,Wy]
     unfold ra at d;split at d
     case h_2=>exact d.elim
     rename_i v z F;have⟨WK,n,d⟩:=Xd _ _ _ _ d;have Yi:∃WU,a4 P o q ⟨.al,g⟩=some (.a8 v WU)/\WU.t g=some z:=by
      unfold jD at F;split at F
      ·rename_i Yz WU t;split at F
       ·rename_i YA Yj;injection F with F;injection F with Yk Yl;subst Yk;subst Yl
        exact⟨WU,t,Yj⟩
       cases F
      cases F
     have⟨WU,Ym,Yn⟩:=Yi;have X0:=c.jw g (Sl _) Z;have W1:q8 A (eA P (b++[o]) (b++[o]).length<=K) Q (bW P e) (b++[o]).length (g+1) (j++[(b.length,g,z)]) T (U.u g (.bl z)):=by
      refine⟨⟨fun p n=> ?_,fun x a=> ?_,fun x a=> ?_,ag c.eX,fun k l W2=> ?_,by have:=c.Y;simpa [J.u] using this,?_⟩,fun h=>c.oL (by rw[S _ E] at h;simpa using h),fun h=>(c.oM (by rw[S _ E] at h;simpa using h)).a ⟨Sl _,fun i Yo=>J.gS _ _ _ _ (bq c.eX (Xu i Yo))⟩,fun x a=> ?_⟩
      ·rw[Fi,c.b3 p (fun x a=>n x (List.mem_append_left _ a))];simp only[Cl.b3,(n (b.length,g,z) (List.mem_append_right _ (SD ..)):p b.length=true),X0]
      ·rcases SL.mp a with a|a
       ·have X1:=c.kD x a;have:x.2.1≠g:=fun Yp=>X1 (by rw[Yp];exact X0)
        rw[J.gS _ _ _ _ (Ne.symm this)];exact X1
       rw[SE] at a;subst a
       simp only[J.u,a5.gR _ _ _ _ (hq Z)];simp
      ·rcases SL.mp a with a|a
       ·have:=c.ui x a;omega
       rw[SE] at a;subst a;simp
      ·rw[J.gS _ _ _ _ Z];exact c.jw k Z W2
      ·have l:=c.C;refine⟨l.Y,fun m WX Xn=> ?_,fun m WX=> ?_,⟨Z,fun m Yq WX=> ?_⟩⟩
       ·have:=c.eX;rw[J.gS _ _ _ _ Z];exact l.iZ m WX Xn
       ·by_cases W5:g=m
        ·subst W5;simp only[J.u,a5.gR _ _ _ _ (hq Z)];simp
        rw[J.gS _ _ _ _ W5];exact l.kD m WX
       by_cases W5:g=m
       ·subst W5;simpa [J.u] using(ag c.Y:g<U.Y)
       rw[J.gS _ _ _ _ W5] at WX;have:=l.W.fB m Yq WX;simpa [J.u] using this
      rcases SL.mp a with a|a
      ·exact c.pQ x a
      rw[SE] at a;subst a;exact(by cases Yr:A g with|false=>rfl|true=>(have:=Xu g Yr;have:=c.eX;omega))
     have Ys:∀x∈j++[(b.length,g,z)],∃p,e[x.1]?=some p/\bQ P p=true:=by
      intro x a;rcases SL.mp a with a|a
      ·exact W0 x a
      rw[SE] at a;subst a;exact⟨o,WV,Wy⟩
     have⟨f,B,X,s,⟨WD,t⟩,WA,WS,WH,WB,WM,WC,l,WT⟩:=W7 (b++[o]) u (g+1) WK T _ _ W9 Xa W8 Z W1 Ys (by rw[S _ E];exact d);rw[WJ] at t WC WH WB;have X2:∀L,j++(b.length,g,z)::L=(j++[(b.length,g,z)])++L:=fun L=>by rw[SG];rfl
     refine⟨.hP v g z::f,B,X,s,⟨WD,fun W WW=> ?_⟩,?_,by simp only[j0,cc.a8,n,WS],by simp only[cf];rw[X2];exact WH,(fun x a=> ?_),(fun k x a l=>WM k x (by simpa [cw,E] using a) (by rw[S _ E];simpa using l)),fun w y WI WL WG=> ?_,l,WT⟩
     ·simp only[iC,jv,WR,O,Wy,Ym,Yn,cc.a8,n,SI];rw[t W WW]
     ·simp only[cw,E];simpa using WA
     ·simp only[cf] at a;rcases List.mem_cons.mp a with rfl|a
      ·exact⟨Sl _,o,WV,Wy⟩
      have⟨Xf,Yt⟩:=WB x a;exact⟨Z,Yt⟩
     simp only[iD,cc.a8,n,St,cf];rw[X2];exact WC w y (show w=y++cw P r f T by simpa [cw,E] using WI) WL (by rw[<-WJ,WE,SU (by simp[E]),WG])
    |false=>
     simp only[oO,O,Wy,cond_false] at d;rw[Xe,SU (by simp[Wy])] at WQ;have D:c6 P o=true:=by simp[c6,O,Wy]
     have G:LA.j5 P o=false:=by
      cases G:LA.j5 P o with
      |false=>rfl
      |true=>rw[LA.Nu G] at O;cases O
     have X3:=Xx (by simp[LA.uj,G,Wy]);have X4:∀(v:Sf) (H:J) (Xt:Sj),(∀W,Xt<=W->jv P (kz P WN W) e M g j o q T=some (.iW v H))->ca U H->(K-eA P b b.length≠0->LA.dU A U H)->(cT q o.dst v fun B=>gi P WN A e r (K-eA P b b.length-1) g B H WO)->
       ∃f B X s,(∃WD,∀X5,WD<=X5->iC P (kz P WN X5) e (M::u) (o::r) b.length g q T j=some f)/\(cw P (o::r) f T).getLastD T=X/\j0 (o::r) f q=B/\Cl.b3 (fun _=>true) X (j++cf f b.length)=s/\
        (∀x∈cf f b.length,b.length<=x.1/\∃p,e[x.1]?=some p/\bQ P p=true)/\
        (∀k x,(cw P (o::r) f T)[k]?=some x->eA P b b.length+k<=K->LA.dU A Q x)/\(∀w y,w=y++cw P (o::r) f T->(∀k x,w[k]?=some x->k<=K->LA.dU A Q x)->y.length=eA P b b.length->iD P e R (j++cf f b.length) w (M::u) (o::r) f b.length q=true)/\ca Q s/\WO B s:=by
      intro v H Xt Yu WY WZ d;have⟨WK,n,d⟩:=Xd _ _ _ _ d;have X6:∀x∈j,H.i.N x.2.1≠none:=fun x a=>WY.kD _ (c.kD x a)
      have W1:q8 A (eA P (b++[o]) (b++[o]).length<=K) Q (bW P e) (b++[o]).length g j H H:=by
       refine⟨⟨fun p n=>No p j H X6,X6,fun x a=>ag (c.ui x a),c.eX,fun k l W2=>WY.iZ k (ag c.Y) (c.jw k l W2),bq c.Y WY.Y,c.C.a WY⟩,fun h=>(c.oM (by rw[S _ D] at h;simp at h;omega)).a (WZ (by rw[S _ D] at h;simp at h;omega)),fun h=>(c.oM (by rw[S _ D] at h;simp at h;omega)).a (WZ (by rw[S _ D] at h;simp at h;omega)),c.pQ⟩
      have⟨f,B,X,s,⟨WD,t⟩,WA,WS,WH,WB,WM,WC,l,WT⟩:=W7 (b++[o]) u g WK H H j W9 Xa W8 WQ W1 W0 (by rw[S _ D,SK rfl,Tm];exact d);rw[WJ] at t WC WH WB;refine⟨.iW v H::f,B,X,s,⟨WD+Xt,fun W WW=> ?_⟩,?_,by simp only[j0,cc.a8,n,WS],by simp only[cf];exact WH,(fun x a=>by simp only[cf] at a;have⟨Xf,z⟩:=WB x a;exact⟨Z,z⟩),(fun k x a l=>by
       simp only[cw] at a;cases k with
       |zero=>simp at a;rw[<-a];exact c.oL Z
       |succ k=>exact WM k x (by simpa using a) (by rw[S _ D,SK rfl];omega)),fun w y WI WL WG=> ?_,l,WT⟩
      ·simp only[iC,Yu W Z,cc.a8,n,Wy];rw[SU aA,t W Z]
      ·simp only[cw];have⟨Xy,W3⟩:=wF P r f H;rw[W3] at WA|-
       rw[Ss] at WA|-
       rw[Ss];exact WA
      simp only[iD,cc.a8,n,St,cf];simp only[cw] at WI;refine WC w (y++[T]) (by rw[WI,SG];rfl) WL ?_;rw[<-WJ,WE,SK D,S9,WG];rfl
     unfold j6 at d;split at d
     case h_3=>exact d.elim
     ·rename_i v H F;have⟨WZ,d⟩:=d;exact X4 v H 0 (fun W _=>by simp only[jv,WR,O,Wy,X3,F]) (C2 c.C.W F) WZ d
     rename_i YB YC F;have⟨v,H,⟨Yv,Yw⟩,WY,WZ,d⟩:=d c.C.W;exact X4 v H Yv (fun W WW=>by simp only[jv,WR,O,Wy,X3,F,Yw W WW]) WY WZ d
theorem kQ.Nx {P:Sg}{t:bg}{a:Si Sm}{u:Sj->So}(v:Sj)(g:wG P a v=true){f:an}{s:J}{w:an->J->Prop}(x:∀i,u i=true->i<s.Y)(h:gi P t u a a v s.Y f (aS s (bW P a)) w):Dh P t a f s w:=by
 intro E;simp only[wG,List.all_eq_true,Sy,Bool.or_eq_true,Bool.not_eq_true'] at g;have e:∀(o:Sm) (i:Sj),a[i]?=some o->(o,i)∈a.zipIdx:=fun o i b=>by rw[List.mem_zipIdx_iff_getElem?];simpa using b
 have L:(cZ a []).length=a.length:=by
  have⟨WI,q,M⟩:=tW a [];rw[q];simpa using M
 have O:∀k,s.Y<=k->s.i.N k=none:=fun k F=>by
  cases R:s.i.N k with
  |none=>rfl
  |some o=>have:=E.fB k o R;omega
 have⟨c,S,WJ,T,⟨U,q⟩,y,W,G,X,Wy,H,z,Wz⟩:=Nw (e:=a) (A:=u) s x v (cZ a []) (WO:=w) (fun o i b WA B=>by
   have:=(g (o,i) (e o i b)).1.2;have l:=Fh P a 0 i;rw[Sq] at l;rcases this with h|h
   ·simp[WA,B] at h
   have⟨r,m⟩:=h;rw[l] at m;exact⟨by simpa [SN] using r,by simpa [SN] using m⟩)
  (fun o i b WB B=>by
   have:=(g (o,i) (e o i b)).2;have l:=Fh P a 0 i;rw[Sq] at l;rcases this with h|h
   ·simp[WB,B] at h
   have⟨r,m⟩:=h;rw[l] at r m;exact⟨by simpa [SN] using r,by simpa [SW] using m⟩)
  (fun o p i j b n D WC WD=>by
   have:=(g (o,i) (e o i b)).1.1 (p,j) (e p j n);simp only[D,(show SO j i=true by simpa [Sv] using WC),cond_true,WD] at this
   simpa using this)
  (fun o p i j b n D WK=>by
   have:=(g (o,i) (e o i b)).1.1 (p,j) (e p j n);simp only[D,(show SO j i=false by rw[<-SS,Sv];omega),cond_false] at this
   simpa using this)
  a [] (cZ a []) s.Y f (aS s (bW P a)) (aS s (bW P a)) [] rfl rfl L Z
  ⟨⟨fun _ _=>rfl,fun _ d=>(by cases d),fun _ d=>(by cases d),Sl _,fun k F _=>O k F,by simp[aS],(⟨by simp[aS],fun _ _ h=>h,fun _ h=>h,⟨Z,fun j o n=>by have:=E.fB j o n;simp only[aS];omega⟩⟩:ca s (aS s (bW P a)))⟩,fun _=>LA.ar.R x (ad.aS _ _),fun _=>LA.ar.R x (ad.aS _ _),fun _ d=>(by cases d)⟩ (fun _ d=>(by cases d)) h
 simp only[SB,List.length_nil] at q H G X;refine⟨S,T,⟨U,fun K WE=> ?_⟩,z,Wz⟩;unfold lP;have WL:Sx 0 16000000=true:=rfl;simp only[];show(match iC P (kz P t K) a (cZ a []) a 0 s.Y f (aS s (bW P a)) [] with
  |some c=>match iD P a (cZ a []) (cf c 0) (cw P a c (aS s (bW P a))) (cZ a []) a c 0 f with
   |true=>some (j0 a c f,Cl.b3 (fun _=>true) ((cw P a c (aS s (bW P a))).getLastD s) (cf c 0))
   |false=>none
  |none=>none)=_
 rw[(q K WE)];simp only[(H (cw P a c (aS s (bW P a))) [] rfl (fun k WG d z=>Wy k WG d (by simpa [eA] using z)) rfl),W];have⟨WM,WH⟩:=wF P a c (aS s (bW P a));rw[WH] at y|-
 rw[Ss] at y|-
 rw[y,G]
theorem kQ.hx {P:Sg}{b:bg}{a:Si Sm}{f:an}{s:J}{Q:an->J->Prop}(A:Sj->So)(c:∀i,A i=true->i<s.Y)(g k:Sj)(d:wG P a g=true)(e:Sw (bW P a) k=true)(h:gi P b A a a g s.Y f (aS s k) Q):ue P b a f s Q false:=by
 have:bW P a=k:=by simpa [SW] using e
 exact kQ.Nx g d c (by rw[this];exact h)
section
variable {P:Sg} {aV:bg} {A:Sj->So} {g:Sj} {all r:Si Sm} {id:Sj} {f:an} {T:J} {d:Sk Tmp} {Q:an->J->Prop}
theorem fD {b:Si Sf}{n z a:Sj}(i:b.length=n*z)(k:id<T.Y)(m:a<=id)
  (K:∀v c,ao c z v n b->ak v=some id->ad a T c->c.Y=T.Y->(∀j,j≠id->c.i.N j=T.i.N j)->jd P aV A g all r (id+1) f d Q v c):ra P aV A g all r id f T d Q (jD id (dL (cL ⟨.al,id⟩ b n z))):=by
 have l:jD id (dL (cL ⟨.al,id⟩ b n z))=some (.slice (some ⟨id,0,none⟩) n (b.length+1),⟨b,1,true,z⟩):=by
  have:cL ⟨.al,id⟩ b n z=some (.slice (some ⟨id,0,none⟩) n (b.length+1),(⟨.al,id⟩:J).x (.bl ⟨b,1,true,z⟩)):=by simp[cL,J.bE]
  rw[this,lj];simp only[jD,(sm ⟨.al,id⟩ _:((⟨.al,id⟩:J).x (.bl ⟨b,1,true,z⟩)).t id=some ⟨b,1,true,z⟩)]
 rw[l,FR];have e:∀j,j≠id->(T.u id (.bl ⟨b,1,true,z⟩)).i.N j=T.i.N j:=fun j h=>J.gS _ _ _ _ (Ne.symm h)
 refine K _ _ (.bu id n 1 b (by simpa [J.u] using k) (J.kA _ _ _ Z) Z i) rfl ⟨Sl _,fun j h=>e j Z⟩ rfl e
theorem jE {p q e:Sh}{k:TypeDesc}{z s:Sj}{t:Sf}(v:P.underlying p=some (.slice e))(w:P.underlying q=some k)(B:(∃D,k= .slice D)\/k= .string)(E:bc P e=some z)(F:e2 P e=some s)(G:bK P e=some t)(H:Sw t.cells.toList.length z=true)
  {x y:Sf} {n m:Sj} {u h:Si Sf} (K:ao T z x n u) (L:iB T z y=some (m,h)) (M:h.length=m*z) (O:0<z) (R:h.all aN=true) (S:(n+m)*s<=140737488355328) (U:n+m<=140737488355328) {a:Sj} (W:ay a x) (WG:a<=T.Y) (X:g≠0->∀i,ak x=some i->A i=false) (Wy:∀i,A i=true->i<T.Y)
  (Wz:∀c l,ao l z c (n+m) (u++h)->ay a c->aF x T l->(ak c=ak x\/∃i,ak c=some i/\T.Y<=i)->jd P aV A (g-1) all r id f d Q c l):j6 P aV A g all r id f d T Q (dL (gQ P T p q x y)):=by
 have⟨c,WA,WB,WC,o,j⟩:=ao.hQ v w B E F G H K L M O R S U;rw[WB,lj];refine⟨((fun WD=>⟨o.Y,fun i b=>o.N i (Wy i b) (fun e=>by have:=X WD i e;rw[b] at this;cases this)⟩):g≠0->LA.dU A T WA),Wz _ _ WC (fun i b=> ?_) o j⟩;rcases j with j|⟨WH,WE,WI⟩
 ·exact W i (by rw[<-j];exact b)
 rw[WE] at b;injection b with b;omega
end
end LB
theorem dy:type_of%
 (Se (Se (Se @LB.zD @LB.zE) (Se @LB.FK @LB.FL)) (Se (Se @LB.FM
 @LB.FO) (Se @LB.FQ (Se @LB.FN @LB.FP)))):=
 (Se (Se (Se @LB.zD @LB.zE) (Se @LB.FK @LB.FL)) (Se (Se @LB.FM
 @LB.FO) (Se @LB.FQ (Se @LB.FN @LB.FP))))
end Go.Cl
namespace Go.Cl
theorem ae.f {s a:J}{i j:Sj}{b:Si Sf}(h:ae s i b)(d:a.Y=s.Y)(f:∀q,q≠j->a.i.N q=s.i.N q)(g:i≠j):ae a i b:=
 h.j (aF.f (o:=0) (c:=none) d f) (fun e=>by have e:some j=some i:=e;injection e with e;exact g e.symm)
def eB (l:Si Sf)(a:Sj)(b:Si Sf):Si Sf:=l.take a++b++l.drop (a+b.length)
theorem FU {l:Si Sf}{a:Sj}{b:Si Sf}(h:a+b.length<=l.length):(eB l a b).length=l.length:=by
 unfold eB;simp;omega
theorem FV {l a:Si Sf}(h:a.length=l.length):eB l 0 a=a:=by
 unfold eB;rw[S0,SB,Sq,h,List.drop_length,SZ]
theorem FW {P:Sg}{e:Sh}{s:J}{i:Sj}{l:Si Sf}{d z m:Sj}(g:s.t i=some ⟨l,d,true,z⟩)(h:d<=l.length+1){b c:Sj}(j:c=l.length+1){v:Sf}{a:Si Sf}(k:v.cells.toList=a)(f:a.length=m)(p:0<m)(n:bc P e=some m)(q:b+m<=l.length)(o:a.all aN=true):
  fp P s e (ab i b c) v=some (s.u i (.bl ⟨eB l b a,l.length+1,true,z⟩)):=by
 subst j;obtain⟨e,rfl⟩:∃c,m=c+1:=⟨m-1,Z⟩
 obtain⟨c,w,rfl⟩:∃j m,a=j::m:=by
  cases a with
  |nil=>simp at f
  |cons a j=>exact⟨a,j,rfl⟩
 unfold fp;simp only[n,k,(show Sw (c::w).length (e+1)=true by rw[SW];exact f),SI];unfold J.la;have a:di l b (c::w)=some (eB l b (c::w)):=ng _ _ _ Z;have b:(true&&Sx d (l.length+1)&&Sw (l.length+1) (l.length+1)&&(c::w).all aN)=true:=by
  simp only[o,SQ,St,Sy,SN,SW];exact⟨h,trivial⟩
 simp only[g,b,SI,a]
theorem ae.FX {P:Sg}{e:Sh}{s:J}{i:Sj}{a:Si Sf}(h:ae s i a){m d f:Sj}(g:bc P e=some m)(k:0<m)(l:f=a.length+1){v:Sf}{b:Si Sf}(n:v.cells.toList=b)(o:b.length=m)(p:d+m<=a.length)(q:b.all aN=true):
  ∃c,fp P s e (ab i d f) v=some c/\ae c i (eB a d b)/\(c.Y=s.Y/\∀j,j≠i->c.i.N j=s.i.N j):=by
 have⟨w,z,r,t⟩:=h.bl;refine⟨_,FW r t l n o k g p q,⟨h.n,a.length+1,z,J.kA _ _ _ Z,by rw[FU Z];omega⟩,rfl,fun j u=>J.gS _ _ _ _ (Ne.symm u)⟩
theorem su {P:Sg}{f:bg}{g r:Si Sm}{h:an}{s:J}{k:Sk Tmp}{Q:an->J->Prop}{l:Sh}{m:Sj}(n:bc P l=some m)(o:0<m){i:Sj}{e:Si Sf}(p:ae s i e){b c:Sj}(q:c=e.length+1){v:Sf}{a:Si Sf}(t:v.cells.toList=a)(u:a.length=m)(w:b+m<=e.length)(x:a.all aN=true)
  (K:∀d,ae d i (eB e b a)->d.Y=s.Y->(∀j,j≠i->d.i.N j=s.i.N j)->en P f g r h s k Q (some (.a8 undef d))):en P f g r h s k Q (gu (fp P s l (ab i b c) v)):=by
 have⟨d,y,z,A,B⟩:=p.FX n o q t u w x;rw[y,lV];exact K d z A B
theorem bh {P:Sg}{c:bg}{d r:Si Sm}{f:an}{s:J}{e:Sk Tmp}{Q:an->J->Prop}{g:Sh}{m:Sj}(l:bc P g=some m)(n:0<m){i:Sj}{h:Si Sf}(o:ae s i h)(t:h.length=m){k:Sj}(u:k=m+1){a:S6 Sf}(p:a.toList.length=m)(q:a.toList.all aN=true)
  (K:∀b,ae b i a.toList->b.Y=s.Y->(∀j,j≠i->b.i.N j=s.i.N j)->en P c d r f s e Q (some (.a8 undef b))):en P c d r f s e Q (gu (fp P s g (ab i 0 k) (.agg a))):=by
 refine su l n o Z (v:= .agg a) (a:=a.toList) rfl p Z q ?_;rw[FV Z];exact K
theorem ao.FY {P:Sg}{e:Sh}{m z:Sj}(d:bc P e=some m)(f:0<m){s:J}{v:Sf}{n:Sj}{l:Si Sf}(h:ao s z v n l){k j:Sj}(g:k<n)(x:j+m<=z){w:Sf}{a:Si Sf}(q:w.cells.toList=a)(r:a.length=m)(t:a.all aN=true)
  {p:Sf} (u:∀i o c,bM z v k=ab i o c->p=ab i (o+j) c):
  ∃b,fp P s e p w=some b/\ao b z v n (eB l (k*z+j) a)/\aF v s b:=by
 cases h with
 |al=>omega
 |bu b m o s c e h v=>
  have m:k*z+z<=n*z:=by
   have:(k+1)*z<=n*z:=S1 z g
   rwa [SX] at this
  have g:p=ab b (k*z+j) (l.length+1):=by
   have:=u b (0+k*z) (l.length+1) rfl;rw[this,Sq]
  rw[g];have g:(eB l (k*z+j) a).length=l.length:=FU Z;refine⟨_,FW e h rfl q r f d Z t,?_,⟨by simp[J.u],fun q _ a=> ?_⟩⟩
  ·rw[<-g];exact .bu b n _ _ (by simpa [J.u] using c) (J.kA _ _ _ Z) Z Z
  rw[J.gS];intro e;subst e;exact a rfl
theorem ao.Ny {P:Sg}{e:Sh}{z:Sj}(c:bc P e=some z)(d:0<z){s:J}{v:Sf}{n:Sj}{l:Si Sf}(h:ao s z v n l){k:Sj}(f:k<n){a:S6 Sf}(g:a.toList.length=z)(i:a.toList.all aN=true):
  ∃b,fp P s e (bM z v k) (.agg a)=some b/\ao b z v n (eB l (k*z) a.toList)/\aF v s b:=by
 have:=h.FY c d (j:=0) f Z (w:= .agg a) (a:=a.toList) rfl g i (p:=bM z v k) (fun i o c h=>h)
 simpa using this
theorem Nz {P:Sg}{c:bg}{d r:Si Sm}{f:an}{s:J}{e:Sk Tmp}{Q:an->J->Prop}{g:Sh}{z:Sj}(h:bc P g=some z)(i:0<z){v:Sf}{n:Sj}{l:Si Sf}(j:ao s z v n l){k:Sj}(m:k<n){a:S6 Sf}(o:a.toList.length=z)(p:a.toList.all aN=true)
  (K:∀b,ao b z v n (eB l (k*z) a.toList)->aF v s b->en P c d r f s e Q (some (.a8 undef b))):en P c d r f s e Q (gu (fp P s g (bM z v k) (.agg a))):=by
 have⟨a,b,c,d⟩:=j.Ny h i m o p;rw[b,lV];exact K a c d
theorem wH (P:Sg)(f:an)(s:J)(t:Tmp)(a:Sh)(r:Si ResultVar):gb P f s (.cell t a::r)=if t<f.e then(match aD P s a (f.N t),gb P f s r with
  |some v,some l=>some (v::l)
  |_,_=>none) else none:=by
 by_cases h:t<f.e
 ·have a:SO t f.e=true:=by simpa [Sv] using h
  rw[SK h]
  conv=>lhs;rw[gb]
  simp only[a,SI];rfl
 have a:SO t f.e=false:=by rw[<-SS,Sv];exact h
 rw[SU h]
 conv=>lhs;rw[gb]
 simp[a]
theorem gC {P:Sg}{s:J}{t e:Sh}{z:Sj}{b:Sf}{a:S6 Sf}(d:P.underlying t=some (.slice e))(f:bc P e=some z)(g:bK P e=some b)(h:cp b=true)(c:Sw b.cells.toList.length z=true)(i:a.toList.length=z)(j:z<=65536):dj P s t 1 [(0,.agg a)]=cL s a.toList 1 z:=by
 unfold dj;rw[d]
 have d:b.cells.toList.length=z:=by simpa [SW] using c
 have e:cM b.cells.toList 1=b.cells.toList:=by simp[cM]
 have k:di b.cells.toList 0 a.toList=some a.toList:=by
  rw[ng _ _ _ Z];rw[S0,SB,Sq,List.drop_of_length_le Z,SZ]
 have a:(Sx (1*z) 65536&&cp b&&Sw b.cells.toList.length z)=true:=by rw[h,c];simp[SN];exact j
 simp only[f,g,a,e,eT,eP,Tq,k,SI];simp[d,i]
namespace LB
section
variable {P:Sg} {aV:bg} {A:Sj->So} {g:Sj} {all r:Si Sm} {id:Sj} {f:an} {T:J} {d:Sk Tmp} {Q:an->J->Prop}
theorem j7 {a:Si Sf}{z:Sj}(c:id<T.Y)
  (K:∀b,ae b id a->b.Y=T.Y->(∀j,j≠id->b.i.N j=T.i.N j)->jd P aV A g all r (id+1) f d Q (ab id 0 (a.length+1)) b):ra P aV A g all r id f T d Q (jD id (dL (iA ⟨.al,id⟩ a z))):=by
 have e:jD id (dL (iA ⟨.al,id⟩ a z))=some (ab id 0 (a.length+1),⟨a,1,true,z⟩):=by
  have:iA ⟨.al,id⟩ a z=some (ab id 0 (a.length+1),(⟨.al,id⟩:J).x (.bl ⟨a,1,true,z⟩)):=by simp[iA,J.bE]
  rw[this,lj];simp only[jD,(sm ⟨.al,id⟩ _:((⟨.al,id⟩:J).x (.bl ⟨a,1,true,z⟩)).t id=some ⟨a,1,true,z⟩)]
 rw[e,FR];exact K _ ⟨by simpa [J.u] using c,1,z,J.kA _ _ _ Z,Z⟩ rfl (fun j h=>J.gS _ _ _ _ (Ne.symm h))
theorem gV {e:Sh}{m:Sj}(o:bc P e=some m)(p:0<m){i:Sj}{h:Si Sf}(q:ae T i h){b c:Sj}(s:c=h.length+1){v:Sf}{a:Si Sf}(t:v.cells.toList=a)(u:a.length=m)(w:b+m<=h.length)(x:a.all aN=true)(y:g≠0->A i=false)
  (K:∀k,ae k i (eB h b a)->k.Y=T.Y->(∀j,j≠i->k.i.N j=T.i.N j)->jd P aV A (g-1) all r id f d Q undef k):j6 P aV A g all r id f d T Q (gu (fp P T e (ab i b c) v)):=by
 have⟨z,B,D,E,l⟩:=q.FX o p s t u w x;rw[B,lV,rb];exact⟨fun F=>⟨Z,fun j n=>l j (fun e=>by have:=y F;rw[e,this] at n;cases n)⟩,K z D E l⟩
theorem eY {e:Sh}{m:Sj}(k:bc P e=some m)(l:0<m){i:Sj}{c:Si Sf}(n:ae T i c)(s:c.length=m){h:Sj}(t:h=m+1){a:S6 Sf}(o:a.toList.length=m)(p:a.toList.all aN=true)(q:g≠0->A i=false)
  (K:∀b,ae b i a.toList->b.Y=T.Y->(∀j,j≠i->b.i.N j=T.i.N j)->jd P aV A (g-1) all r id f d Q undef b):j6 P aV A g all r id f d T Q (gu (fp P T e (ab i 0 h) (.agg a))):=by
 refine gV k l n Z (v:= .agg a) (a:=a.toList) rfl o Z p q ?_;rw[FV Z];exact K
end
end LB
end Go.Cl
namespace Go.Cl
theorem FZ (P:Sg)(t:Sh)(b:SV)(a:Tt):bN P .shl t (I a) (.int b 8)=some (I (SP.wrap (a*256))):=by
 rw[pN P t .i64 a 8 b ai];rfl
theorem F0 {n:Sj}{x:Ts}(h:n<4503599627370496):SP.wrap (((SY SP.bits ((n:Tt)*256)|||SY SP.bits (x.toNat:Tt)).toNat:Sj):Tt)=((n*256+x.toNat:Sj):Tt):=by
 have a:SP.bits=64:=rfl;have c:=x.toNat_lt;rw[a];have:(SY 64 ((n:Tt)*256)|||SY 64 (x.toNat:Tt)).toNat=n*256+x.toNat:=by
  have a:((n:Tt)*256)=((n*256:Sj):Tt):=Z;rw[a,BitVec.toNat_or,S2,S2,Ta,Ta,Te Z,Te Z];have:=Nat.shiftLeft_add_eq_or_of_lt (i:=8) (b:=x.toNat) c n;rw[Nat.shiftLeft_eq] at this;exact this.symm
 rw[this,cg Z]
def gW (l:Si Ts):Sj:=l.foldl (fun n x=>n*256+x.toNat) 0
theorem zF (l:Si Ts)(x:Ts):gW (l++[x])=gW l*256+x.toNat:=by simp[gW]
theorem zG (l:Si Ts):∀n,l.length=n->gW l<256^n:=by
 intro n
 induction n generalizing l with
 |zero=>intro h;have:l=[]:=List.eq_nil_of_length_eq_zero h
        subst this;simp[gW]
 |succ n b=>
  intro h;have a:l≠[]:=by intro e;subst e;simp at h
  rw[<-List.dropLast_concat_getLast a,zF];have:=b l.dropLast (by rw[List.length_dropLast];omega);have b:=(l.getLast a).toNat_lt;rw[Nat.pow_succ];omega
theorem F1 {l:Si Ts}(h:l.length<7):gW l<4503599627370496:=by
 have:=zG l l.length rfl;have a:256^l.length<=256^6:=Nat.pow_le_pow_right Z Z;have a:(256:Sj)^6=281474976710656:=by decide
 omega
end Go.Cl
namespace Go.Cl
def sv:nI:=fun a s=>
 match a with
 |[.string a,.string b]=>some (I (Extern.BytealgCompare.cmp a b),s)
 |_=>none
noncomputable abbrev aw:bg:=[(173,sv)]
end Go.Cl
namespace Go.Cl
theorem cW {p:Prop}(h:p:=by kernel_rfl):p:=h
theorem aa {p:Prop}(e:p:=by simp only[cx,dG,↓reduceIte,Nat.reduceEqDiff,and_self,and_true,true_and];try (first|rfl|(and_intros<;>rfl))):p:=e
theorem V {p A:Prop}(a:A)(e:A->p:=by intro a;simp only[cx,dG,↓reduceIte,Nat.reduceEqDiff,and_self,and_true,true_and,a];try (first|rfl|(and_intros<;>rfl))):p:=e a
theorem F2 {p A B:Prop}(a:A)(b:B)(e:A->B->p:=by intro a b;simp only[cx,dG,↓reduceIte,Nat.reduceEqDiff,and_self,and_true,true_and,a,b];try (first|rfl|(and_intros<;>rfl))):p:=e a b
structure hU (A p q:Prop):Prop where
 l:A->p=q:=by intro a;simp (config:={maxSteps:=1000000}) (disch:=omega) only[aI,bD,fi,dy,Nat.sub_self,Nat.add_one_sub_one,Nat.reduceSub,b6,bB,bC,eU,Nat.reduceLT,Nat.reduceLeDiff,Nat.reduceEqDiff,Nat.reduceAdd,↓reduceIte,decide_true,decide_false,not_true_eq_false,not_false_eq_true,Bool.not_true,Bool.not_false,cg,a];exact rfl
structure ia (A p q:Prop):Prop where
 l:A->p=q:=by intro a;simp (config:={maxSteps:=1000000}) (disch:=omega) only[aI,bD,fi,dy,Nat.sub_self,Nat.add_one_sub_one,Nat.reduceSub,b6,bB,bC,eU,Nat.reduceLT,Nat.reduceLeDiff,Nat.reduceEqDiff,Nat.reduceAdd,↓reduceIte,decide_true,decide_false,not_true_eq_false,not_false_eq_true,Bool.not_true,Bool.not_false,cg,undef,a];exact rfl
structure lX (A p q:Prop):Prop where
 l:A->p=q:=by intro a;simp (config:={maxSteps:=1000000}) (disch:=omega) only[aI,bD,fi,dy,Nat.sub_self,Nat.add_one_sub_one,Nat.reduceSub,b6,bB,bC,eU,Nat.reduceLT,Nat.reduceLeDiff,Nat.reduceEqDiff,Nat.reduceAdd,↓reduceIte,decide_true,decide_false,not_true_eq_false,not_false_eq_true,Bool.not_true,Bool.not_false,cg,cO,wu,wH,a];exact rfl
structure lY (A p q:Prop):Prop where
 l:A->p=q:=by intro a;simp (config:={maxSteps:=1000000}) (disch:=omega) only[aI,bD,fi,dy,Nat.sub_self,Nat.add_one_sub_one,Nat.reduceSub,b6,bB,bC,eU,Nat.reduceLT,Nat.reduceLeDiff,Nat.reduceEqDiff,Nat.reduceAdd,↓reduceIte,decide_true,decide_false,not_true_eq_false,not_false_eq_true,Bool.not_true,Bool.not_false,cg,cO,wu,wH,undef,a];exact rfl
structure oQ (A p:Prop):Prop where
 l:A->p:=by intro a;simp (config:={maxSteps:=1000000}) (disch:=omega) only[aI,bD,fi,dy,Nat.sub_self,Nat.add_one_sub_one,Nat.reduceSub,b6,bB,bC,eU,Nat.reduceLT,Nat.reduceLeDiff,Nat.reduceEqDiff,Nat.reduceAdd,↓reduceIte,decide_true,decide_false,not_true_eq_false,not_false_eq_true,Bool.not_true,Bool.not_false,cg,cO,wu,wH,undef,a]
section
variable {p q XA XB XC XD XE XF XG XH XI XJ XK XL XM XN XO XP XQ XR XS XT XU XV:Prop}
theorem kN (z:q)(e:hU True p q:=by exact {}):p:=(e.l trivial).mpr z
variable (xa:XA)
include xa
theorem ax (z:q)(e:hU XA p q:=by exact {}):p:=(e.l xa).mpr z
theorem c0 (z:q)(e:ia XA p q:=by exact {}):p:=(e.l xa).mpr z
theorem lo (z:q)(e:lX XA p q:=by exact {}):p:=(e.l xa).mpr z
variable (xb:XB)
include xb
theorem aq (z:q)(e:hU (XA/\XB) p q:=by exact {}):p:=(e.l ⟨xa,xb⟩).mpr z
theorem e6 (z:q)(e:ia (XA/\XB) p q:=by exact {}):p:=(e.l ⟨xa,xb⟩).mpr z
theorem bO (z:q)(e:lX (XA/\XB) p q:=by exact {}):p:=(e.l ⟨xa,xb⟩).mpr z
theorem oR (z:q)(e:lY (XA/\XB) p q:=by exact {}):p:=(e.l ⟨xa,xb⟩).mpr z
theorem F3 (e:oQ (XA/\XB) p:=by exact {}):p:=e.l ⟨xa,xb⟩
variable (xc:XC)
include xc
theorem aR (z:q)(e:hU (XA/\XB/\XC) p q:=by exact {}):p:=(e.l ⟨xa,xb,xc⟩).mpr z
theorem nh (z:q)(e:ia (XA/\XB/\XC) p q:=by exact {}):p:=(e.l ⟨xa,xb,xc⟩).mpr z
theorem bS (z:q)(e:lX (XA/\XB/\XC) p q:=by exact {}):p:=(e.l ⟨xa,xb,xc⟩).mpr z
theorem re (z:q)(e:lY (XA/\XB/\XC) p q:=by exact {}):p:=(e.l ⟨xa,xb,xc⟩).mpr z
theorem wI (e:oQ (XA/\XB/\XC) p:=by exact {}):p:=e.l ⟨xa,xb,xc⟩
variable (xd:XD)
include xd
theorem aW (z:q)(e:hU (XA/\XB/\XC/\XD) p q:=by exact {}):p:=(e.l ⟨xa,xb,xc,xd⟩).mpr z
theorem fR (z:q)(e:ia (XA/\XB/\XC/\XD) p q:=by exact {}):p:=(e.l ⟨xa,xb,xc,xd⟩).mpr z
theorem b0 (z:q)(e:lX (XA/\XB/\XC/\XD) p q:=by exact {}):p:=(e.l ⟨xa,xb,xc,xd⟩).mpr z
theorem nR (z:q)(e:lY (XA/\XB/\XC/\XD) p q:=by exact {}):p:=(e.l ⟨xa,xb,xc,xd⟩).mpr z
theorem sw (e:oQ (XA/\XB/\XC/\XD) p:=by exact {}):p:=e.l ⟨xa,xb,xc,xd⟩
variable (xe:XE)
include xe
theorem bp (z:q)(e:hU (XA/\XB/\XC/\XD/\XE) p q:=by exact {}):p:=(e.l ⟨xa,xb,xc,xd,xe⟩).mpr z
theorem gX (z:q)(e:ia (XA/\XB/\XC/\XD/\XE) p q:=by exact {}):p:=(e.l ⟨xa,xb,xc,xd,xe⟩).mpr z
theorem eo (z:q)(e:lX (XA/\XB/\XC/\XD/\XE) p q:=by exact {}):p:=(e.l ⟨xa,xb,xc,xd,xe⟩).mpr z
theorem oS (z:q)(e:lY (XA/\XB/\XC/\XD/\XE) p q:=by exact {}):p:=(e.l ⟨xa,xb,xc,xd,xe⟩).mpr z
theorem uk (e:oQ (XA/\XB/\XC/\XD/\XE) p:=by exact {}):p:=e.l ⟨xa,xb,xc,xd,xe⟩
variable (xf:XF)
include xf
theorem cl (z:q)(e:hU (XA/\XB/\XC/\XD/\XE/\XF) p q:=by exact {}):p:=(e.l ⟨xa,xb,xc,xd,xe,xf⟩).mpr z
theorem ib (z:q)(e:ia (XA/\XB/\XC/\XD/\XE/\XF) p q:=by exact {}):p:=(e.l ⟨xa,xb,xc,xd,xe,xf⟩).mpr z
theorem e8 (z:q)(e:lX (XA/\XB/\XC/\XD/\XE/\XF) p q:=by exact {}):p:=(e.l ⟨xa,xb,xc,xd,xe,xf⟩).mpr z
theorem rf (z:q)(e:lY (XA/\XB/\XC/\XD/\XE/\XF) p q:=by exact {}):p:=(e.l ⟨xa,xb,xc,xd,xe,xf⟩).mpr z
theorem wJ (e:oQ (XA/\XB/\XC/\XD/\XE/\XF) p:=by exact {}):p:=e.l ⟨xa,xb,xc,xd,xe,xf⟩
variable (xg:XG)
include xg
theorem ch (z:q)(e:hU (XA/\XB/\XC/\XD/\XE/\XF/\XG) p q:=by exact {}):p:=(e.l ⟨xa,xb,xc,xd,xe,xf,xg⟩).mpr z
theorem eC (z:q)(e:ia (XA/\XB/\XC/\XD/\XE/\XF/\XG) p q:=by exact {}):p:=(e.l ⟨xa,xb,xc,xd,xe,xf,xg⟩).mpr z
theorem fS (z:q)(e:lX (XA/\XB/\XC/\XD/\XE/\XF/\XG) p q:=by exact {}):p:=(e.l ⟨xa,xb,xc,xd,xe,xf,xg⟩).mpr z
theorem oT (z:q)(e:lY (XA/\XB/\XC/\XD/\XE/\XF/\XG) p q:=by exact {}):p:=(e.l ⟨xa,xb,xc,xd,xe,xf,xg⟩).mpr z
theorem zH (e:oQ (XA/\XB/\XC/\XD/\XE/\XF/\XG) p:=by exact {}):p:=e.l ⟨xa,xb,xc,xd,xe,xf,xg⟩
variable (xh:XH)
include xh
theorem c1 (z:q)(e:hU (XA/\XB/\XC/\XD/\XE/\XF/\XG/\XH) p q:=by exact {}):p:=(e.l ⟨xa,xb,xc,xd,xe,xf,xg,xh⟩).mpr z
theorem kO (z:q)(e:ia (XA/\XB/\XC/\XD/\XE/\XF/\XG/\XH) p q:=by exact {}):p:=(e.l ⟨xa,xb,xc,xd,xe,xf,xg,xh⟩).mpr z
theorem pR (z:q)(e:lX (XA/\XB/\XC/\XD/\XE/\XF/\XG/\XH) p q:=by exact {}):p:=(e.l ⟨xa,xb,xc,xd,xe,xf,xg,xh⟩).mpr z
theorem sx (z:q)(e:lY (XA/\XB/\XC/\XD/\XE/\XF/\XG/\XH) p q:=by exact {}):p:=(e.l ⟨xa,xb,xc,xd,xe,xf,xg,xh⟩).mpr z
theorem wK (e:oQ (XA/\XB/\XC/\XD/\XE/\XF/\XG/\XH) p:=by exact {}):p:=e.l ⟨xa,xb,xc,xd,xe,xf,xg,xh⟩
variable (xi:XI)
include xi
theorem cX (z:q)(e:hU (XA/\XB/\XC/\XD/\XE/\XF/\XG/\XH/\XI) p q:=by exact {}):p:=(e.l ⟨xa,xb,xc,xd,xe,xf,xg,xh,xi⟩).mpr z
theorem je (z:q)(e:ia (XA/\XB/\XC/\XD/\XE/\XF/\XG/\XH/\XI) p q:=by exact {}):p:=(e.l ⟨xa,xb,xc,xd,xe,xf,xg,xh,xi⟩).mpr z
theorem wL (z:q)(e:lX (XA/\XB/\XC/\XD/\XE/\XF/\XG/\XH/\XI) p q:=by exact {}):p:=(e.l ⟨xa,xb,xc,xd,xe,xf,xg,xh,xi⟩).mpr z
theorem NA (e:oQ (XA/\XB/\XC/\XD/\XE/\XF/\XG/\XH/\XI) p:=by exact {}):p:=e.l ⟨xa,xb,xc,xd,xe,xf,xg,xh,xi⟩
variable (xj:XJ)
include xj
theorem gY (z:q)(e:hU (XA/\XB/\XC/\XD/\XE/\XF/\XG/\XH/\XI/\XJ) p q:=by exact {}):p:=(e.l ⟨xa,xb,xc,xd,xe,xf,xg,xh,xi,xj⟩).mpr z
theorem jF (z:q)(e:ia (XA/\XB/\XC/\XD/\XE/\XF/\XG/\XH/\XI/\XJ) p q:=by exact {}):p:=(e.l ⟨xa,xb,xc,xd,xe,xf,xg,xh,xi,xj⟩).mpr z
theorem pS (z:q)(e:lX (XA/\XB/\XC/\XD/\XE/\XF/\XG/\XH/\XI/\XJ) p q:=by exact {}):p:=(e.l ⟨xa,xb,xc,xd,xe,xf,xg,xh,xi,xj⟩).mpr z
theorem F4 (z:q)(e:lY (XA/\XB/\XC/\XD/\XE/\XF/\XG/\XH/\XI/\XJ) p q:=by exact {}):p:=(e.l ⟨xa,xb,xc,xd,xe,xf,xg,xh,xi,xj⟩).mpr z
theorem NB (e:oQ (XA/\XB/\XC/\XD/\XE/\XF/\XG/\XH/\XI/\XJ) p:=by exact {}):p:=e.l ⟨xa,xb,xc,xd,xe,xf,xg,xh,xi,xj⟩
variable (xk:XK)
include xk
theorem jG (z:q)(e:hU (XA/\XB/\XC/\XD/\XE/\XF/\XG/\XH/\XI/\XJ/\XK) p q:=by exact {}):p:=(e.l ⟨xa,xb,xc,xd,xe,xf,xg,xh,xi,xj,xk⟩).mpr z
theorem pT (z:q)(e:ia (XA/\XB/\XC/\XD/\XE/\XF/\XG/\XH/\XI/\XJ/\XK) p q:=by exact {}):p:=(e.l ⟨xa,xb,xc,xd,xe,xf,xg,xh,xi,xj,xk⟩).mpr z
theorem wM (z:q)(e:lX (XA/\XB/\XC/\XD/\XE/\XF/\XG/\XH/\XI/\XJ/\XK) p q:=by exact {}):p:=(e.l ⟨xa,xb,xc,xd,xe,xf,xg,xh,xi,xj,xk⟩).mpr z
theorem sy (z:q)(e:lY (XA/\XB/\XC/\XD/\XE/\XF/\XG/\XH/\XI/\XJ/\XK) p q:=by exact {}):p:=(e.l ⟨xa,xb,xc,xd,xe,xf,xg,xh,xi,xj,xk⟩).mpr z
variable (xl:XL)
include xl
theorem hy (z:q)(e:hU (XA/\XB/\XC/\XD/\XE/\XF/\XG/\XH/\XI/\XJ/\XK/\XL) p q:=by exact {}):p:=(e.l ⟨xa,xb,xc,xd,xe,xf,xg,xh,xi,xj,xk,xl⟩).mpr z
theorem sz (z:q)(e:ia (XA/\XB/\XC/\XD/\XE/\XF/\XG/\XH/\XI/\XJ/\XK/\XL) p q:=by exact {}):p:=(e.l ⟨xa,xb,xc,xd,xe,xf,xg,xh,xi,xj,xk,xl⟩).mpr z
variable (xm:XM)
include xm
theorem mA (z:q)(e:hU (XA/\XB/\XC/\XD/\XE/\XF/\XG/\XH/\XI/\XJ/\XK/\XL/\XM) p q:=by exact {}):p:=(e.l ⟨xa,xb,xc,xd,xe,xf,xg,xh,xi,xj,xk,xl,xm⟩).mpr z
theorem pV (z:q)(e:ia (XA/\XB/\XC/\XD/\XE/\XF/\XG/\XH/\XI/\XJ/\XK/\XL/\XM) p q:=by exact {}):p:=(e.l ⟨xa,xb,xc,xd,xe,xf,xg,xh,xi,xj,xk,xl,xm⟩).mpr z
theorem wN (z:q)(e:lX (XA/\XB/\XC/\XD/\XE/\XF/\XG/\XH/\XI/\XJ/\XK/\XL/\XM) p q:=by exact {}):p:=(e.l ⟨xa,xb,xc,xd,xe,xf,xg,xh,xi,xj,xk,xl,xm⟩).mpr z
theorem NC (z:q)(e:lY (XA/\XB/\XC/\XD/\XE/\XF/\XG/\XH/\XI/\XJ/\XK/\XL/\XM) p q:=by exact {}):p:=(e.l ⟨xa,xb,xc,xd,xe,xf,xg,xh,xi,xj,xk,xl,xm⟩).mpr z
variable (xn:XN)
include xn
theorem nS (z:q)(e:hU (XA/\XB/\XC/\XD/\XE/\XF/\XG/\XH/\XI/\XJ/\XK/\XL/\XM/\XN) p q:=by exact {}):p:=(e.l ⟨xa,xb,xc,xd,xe,xf,xg,xh,xi,xj,xk,xl,xm,xn⟩).mpr z
theorem ni (z:q)(e:ia (XA/\XB/\XC/\XD/\XE/\XF/\XG/\XH/\XI/\XJ/\XK/\XL/\XM/\XN) p q:=by exact {}):p:=(e.l ⟨xa,xb,xc,xd,xe,xf,xg,xh,xi,xj,xk,xl,xm,xn⟩).mpr z
theorem ND (z:q)(e:lY (XA/\XB/\XC/\XD/\XE/\XF/\XG/\XH/\XI/\XJ/\XK/\XL/\XM/\XN) p q:=by exact {}):p:=(e.l ⟨xa,xb,xc,xd,xe,xf,xg,xh,xi,xj,xk,xl,xm,xn⟩).mpr z
variable (xo:XO)
include xo
theorem kP (z:q)(e:hU (XA/\XB/\XC/\XD/\XE/\XF/\XG/\XH/\XI/\XJ/\XK/\XL/\XM/\XN/\XO) p q:=by exact {}):p:=(e.l ⟨xa,xb,xc,xd,xe,xf,xg,xh,xi,xj,xk,xl,xm,xn,xo⟩).mpr z
theorem rh (z:q)(e:ia (XA/\XB/\XC/\XD/\XE/\XF/\XG/\XH/\XI/\XJ/\XK/\XL/\XM/\XN/\XO) p q:=by exact {}):p:=(e.l ⟨xa,xb,xc,xd,xe,xf,xg,xh,xi,xj,xk,xl,xm,xn,xo⟩).mpr z
theorem NF (z:q)(e:lY (XA/\XB/\XC/\XD/\XE/\XF/\XG/\XH/\XI/\XJ/\XK/\XL/\XM/\XN/\XO) p q:=by exact {}):p:=(e.l ⟨xa,xb,xc,xd,xe,xf,xg,xh,xi,xj,xk,xl,xm,xn,xo⟩).mpr z
variable (xp:XP)
include xp
theorem wO (z:q)(e:hU (XA/\XB/\XC/\XD/\XE/\XF/\XG/\XH/\XI/\XJ/\XK/\XL/\XM/\XN/\XO/\XP) p q:=by exact {}):p:=(e.l ⟨xa,xb,xc,xd,xe,xf,xg,xh,xi,xj,xk,xl,xm,xn,xo,xp⟩).mpr z
theorem nT (z:q)(e:ia (XA/\XB/\XC/\XD/\XE/\XF/\XG/\XH/\XI/\XJ/\XK/\XL/\XM/\XN/\XO/\XP) p q:=by exact {}):p:=(e.l ⟨xa,xb,xc,xd,xe,xf,xg,xh,xi,xj,xk,xl,xm,xn,xo,xp⟩).mpr z
theorem F5 (z:q)(e:lX (XA/\XB/\XC/\XD/\XE/\XF/\XG/\XH/\XI/\XJ/\XK/\XL/\XM/\XN/\XO/\XP) p q:=by exact {}):p:=(e.l ⟨xa,xb,xc,xd,xe,xf,xg,xh,xi,xj,xk,xl,xm,xn,xo,xp⟩).mpr z
variable (xq:XQ)
include xq
theorem pW (z:q)(e:hU (XA/\XB/\XC/\XD/\XE/\XF/\XG/\XH/\XI/\XJ/\XK/\XL/\XM/\XN/\XO/\XP/\XQ) p q:=by exact {}):p:=(e.l ⟨xa,xb,xc,xd,xe,xf,xg,xh,xi,xj,xk,xl,xm,xn,xo,xp,xq⟩).mpr z
theorem NG (z:q)(e:ia (XA/\XB/\XC/\XD/\XE/\XF/\XG/\XH/\XI/\XJ/\XK/\XL/\XM/\XN/\XO/\XP/\XQ) p q:=by exact {}):p:=(e.l ⟨xa,xb,xc,xd,xe,xf,xg,xh,xi,xj,xk,xl,xm,xn,xo,xp,xq⟩).mpr z
theorem NH (z:q)(e:lY (XA/\XB/\XC/\XD/\XE/\XF/\XG/\XH/\XI/\XJ/\XK/\XL/\XM/\XN/\XO/\XP/\XQ) p q:=by exact {}):p:=(e.l ⟨xa,xb,xc,xd,xe,xf,xg,xh,xi,xj,xk,xl,xm,xn,xo,xp,xq⟩).mpr z
variable (xr:XR)
include xr
theorem zI (z:q)(e:hU (XA/\XB/\XC/\XD/\XE/\XF/\XG/\XH/\XI/\XJ/\XK/\XL/\XM/\XN/\XO/\XP/\XQ/\XR) p q:=by exact {}):p:=(e.l ⟨xa,xb,xc,xd,xe,xf,xg,xh,xi,xj,xk,xl,xm,xn,xo,xp,xq,xr⟩).mpr z
theorem F6 (z:q)(e:ia (XA/\XB/\XC/\XD/\XE/\XF/\XG/\XH/\XI/\XJ/\XK/\XL/\XM/\XN/\XO/\XP/\XQ/\XR) p q:=by exact {}):p:=(e.l ⟨xa,xb,xc,xd,xe,xf,xg,xh,xi,xj,xk,xl,xm,xn,xo,xp,xq,xr⟩).mpr z
variable (xs:XS)
include xs
theorem sA (z:q)(e:hU (XA/\XB/\XC/\XD/\XE/\XF/\XG/\XH/\XI/\XJ/\XK/\XL/\XM/\XN/\XO/\XP/\XQ/\XR/\XS) p q:=by exact {}):p:=(e.l ⟨xa,xb,xc,xd,xe,xf,xg,xh,xi,xj,xk,xl,xm,xn,xo,xp,xq,xr,xs⟩).mpr z
variable (xt:XT)
include xt
theorem wP (z:q)(e:hU (XA/\XB/\XC/\XD/\XE/\XF/\XG/\XH/\XI/\XJ/\XK/\XL/\XM/\XN/\XO/\XP/\XQ/\XR/\XS/\XT) p q:=by exact {}):p:=(e.l ⟨xa,xb,xc,xd,xe,xf,xg,xh,xi,xj,xk,xl,xm,xn,xo,xp,xq,xr,xs,xt⟩).mpr z
theorem NI (z:q)(e:ia (XA/\XB/\XC/\XD/\XE/\XF/\XG/\XH/\XI/\XJ/\XK/\XL/\XM/\XN/\XO/\XP/\XQ/\XR/\XS/\XT) p q:=by exact {}):p:=(e.l ⟨xa,xb,xc,xd,xe,xf,xg,xh,xi,xj,xk,xl,xm,xn,xo,xp,xq,xr,xs,xt⟩).mpr z
variable (xu:XU)
include xu
theorem zJ (z:q)(e:hU (XA/\XB/\XC/\XD/\XE/\XF/\XG/\XH/\XI/\XJ/\XK/\XL/\XM/\XN/\XO/\XP/\XQ/\XR/\XS/\XT/\XU) p q:=by exact {}):p:=(e.l ⟨xa,xb,xc,xd,xe,xf,xg,xh,xi,xj,xk,xl,xm,xn,xo,xp,xq,xr,xs,xt,xu⟩).mpr z
theorem wQ (z:q)(e:ia (XA/\XB/\XC/\XD/\XE/\XF/\XG/\XH/\XI/\XJ/\XK/\XL/\XM/\XN/\XO/\XP/\XQ/\XR/\XS/\XT/\XU) p q:=by exact {}):p:=(e.l ⟨xa,xb,xc,xd,xe,xf,xg,xh,xi,xj,xk,xl,xm,xn,xo,xp,xq,xr,xs,xt,xu⟩).mpr z
variable (xv:XV)
include xv
theorem zK (z:q)(e:ia (XA/\XB/\XC/\XD/\XE/\XF/\XG/\XH/\XI/\XJ/\XK/\XL/\XM/\XN/\XO/\XP/\XQ/\XR/\XS/\XT/\XU/\XV) p q:=by exact {}):p:=(e.l ⟨xa,xb,xc,xd,xe,xf,xg,xh,xi,xj,xk,xl,xm,xn,xo,xp,xq,xr,xs,xt,xu,xv⟩).mpr z
end
section
variable {P:Sg} {aV:bg} {g:FuncId} {s:J} {Q:Sf->J->Prop} {fn:Func} {c:Code} {a0 a1 a2 a3:Sf}
theorem Runs.F7 (a:Nat)(b:P.funcs[g]?=some fn)(d:aV.M g=none)(h:∀f:an,f.e=a->dk P aV c f s (eW P fn.results.toList Q))(e:fn.body=some c:=by exact rfl)(i:0+(fn.ntmps-0)=a:=by exact rfl)(j:Nat.ble a 16000000=true:=by exact rfl):Runs P aV g [] s Q:=Runs.dY a b e d i j fun f a _=>h f a
theorem Runs.ey (a:Nat)(b:P.funcs[g]?=some fn)(d:aV.M g=none)(h:∀f:an,f.e=a->f.N 0=a0->dk P aV c f s (eW P fn.results.toList Q))(e:fn.body=some c:=by exact rfl)(i:1+(fn.ntmps-1)=a:=by exact rfl)(j:Nat.ble a 16000000=true:=by exact rfl):Runs P aV g [a0] s Q:=Runs.dY a b e d i j fun f a b=>h f a (b 0)
theorem Runs.cS (a:Nat)(b:P.funcs[g]?=some fn)(d:aV.M g=none)(h:∀f:an,f.e=a->f.N 0=a0->f.N 1=a1->dk P aV c f s (eW P fn.results.toList Q))(e:fn.body=some c:=by exact rfl)(i:2+(fn.ntmps-2)=a:=by exact rfl)(j:Nat.ble a 16000000=true:=by exact rfl):Runs P aV g [a0,a1] s Q:=Runs.dY a b e d i j fun f a b=>h f a (b 0) (b 1)
theorem Runs.iY (a:Nat)(b:P.funcs[g]?=some fn)(d:aV.M g=none)(h:∀f:an,f.e=a->f.N 0=a0->f.N 1=a1->f.N 2=a2->dk P aV c f s (eW P fn.results.toList Q))(e:fn.body=some c:=by exact rfl)(i:3+(fn.ntmps-3)=a:=by exact rfl)(j:Nat.ble a 16000000=true:=by exact rfl):Runs P aV g [a0,a1,a2] s Q:=Runs.dY a b e d i j fun f a b=>h f a (b 0) (b 1) (b 2)
theorem Runs.NJ (a:Nat)(b:P.funcs[g]?=some fn)(d:aV.M g=none)(h:∀f:an,f.e=a->f.N 0=a0->f.N 1=a1->f.N 2=a2->f.N 3=a3->dk P aV c f s (eW P fn.results.toList Q))(e:fn.body=some c:=by exact rfl)(i:4+(fn.ntmps-4)=a:=by exact rfl)(j:Nat.ble a 16000000=true:=by exact rfl):Runs P aV g [a0,a1,a2,a3] s Q:=Runs.dY a b e d i j fun f a b=>h f a (b 0) (b 1) (b 2) (b 3)
theorem Runs.dZ (a:Nat)(b:P.funcs[g]?=some fn)(d:aV.M g=none)(h:∀f:an,f.e=a/\f.N 0=a0->dk P aV c f s (eW P fn.results.toList Q))(e:fn.body=some c:=by exact rfl)(i:1+(fn.ntmps-1)=a:=by exact rfl)(j:Nat.ble a 16000000=true:=by exact rfl):Runs P aV g [a0] s Q:=Runs.dY a b e d i j fun f a b=>h f ⟨a,b 0⟩
theorem Runs.ef (a:Nat)(b:P.funcs[g]?=some fn)(d:aV.M g=none)(h:∀f:an,f.e=a/\f.N 0=a0/\f.N 1=a1->dk P aV c f s (eW P fn.results.toList Q))(e:fn.body=some c:=by exact rfl)(i:2+(fn.ntmps-2)=a:=by exact rfl)(j:Nat.ble a 16000000=true:=by exact rfl):Runs P aV g [a0,a1] s Q:=Runs.dY a b e d i j fun f a b=>h f ⟨a,b 0,b 1⟩
theorem Runs.oU (a:Nat)(b:P.funcs[g]?=some fn)(d:aV.M g=none)(h:∀f:an,f.e=a/\f.N 0=a0/\f.N 1=a1/\f.N 2=a2->dk P aV c f s (eW P fn.results.toList Q))(e:fn.body=some c:=by exact rfl)(i:3+(fn.ntmps-3)=a:=by exact rfl)(j:Nat.ble a 16000000=true:=by exact rfl):Runs P aV g [a0,a1,a2] s Q:=Runs.dY a b e d i j fun f a b=>h f ⟨a,b 0,b 1,b 2⟩
theorem Runs.F8 (a:Nat)(b:P.funcs[g]?=some fn)(d:aV.M g=none)(h:∀f:an,f.e=a/\f.N 0=a0/\f.N 1=a1/\f.N 2=a2/\f.N 3=a3->dk P aV c f s (eW P fn.results.toList Q))(e:fn.body=some c:=by exact rfl)(i:4+(fn.ntmps-4)=a:=by exact rfl)(j:Nat.ble a 16000000=true:=by exact rfl):Runs P aV g [a0,a1,a2,a3] s Q:=Runs.dY a b e d i j fun f a b=>h f ⟨a,b 0,b 1,b 2,b 3⟩
theorem Runs.gZ {l:Si Sf}(h:∀a,a=Q->Runs P aV g l s a):Runs P aV g l s Q:=h Q rfl
end
theorem aO {a:Sort _}(x:a):∃y,y=x:=⟨_,rfl⟩
theorem ad.d {s t u:J}(h:ad s.Y s t)(k:ad t.Y t u):ad s.Y s u:=h.a (k.q h.Y)
theorem LA.D {a:Nat->Bool}{n i:Nat}(b:∀j,j<n->a j=true)(h:i<n:=by omega):∀k c,LA.c4 a (some (ab i k c))=true:=fun _ _=>LA.hT (A:=a) (i:=i) (b _ h)
theorem LB.T {P:Program}{b:bg}{a:List Oper}{f:an}{s:J}{Q:an->J->Prop}(g k:Nat)(h:∀A:Nat->Bool,(∀j,A j=true->j<s.Y)->(∀j,j<s.Y->A j=true)->(∀j,s.Y<=j->A j=false)->ad s.Y s (aS s k)->(aS s k).Y=s.Y+k->LB.gi P b A a a g s.Y f (aS s k) Q)(d:LB.wG P a g=true:=by kernel_rfl)(e:Nat.beq (bW P a) k=true:=by kernel_rfl):ue P b a f s Q false:=by
 have⟨A,c,i,l⟩:=zC s;exact LB.kQ.hx A c g k d e (h A c i l (ad.aS s k) (gg s k))
theorem az.g {P:Sg}{t e:Sh}(a:P.underlying t=some (.slice e)){s:J}{z:Sj}{v:Sf}{n:Sj}{l:Si Sf}(h:az s z v n l):∀b,Cl.cd P b t v=some (I n):=fun _=>h.cd a
theorem dH {P:Sg}{a b:Sh}{k:SV}{d:TypeDesc}(c:P.underlying a=some d)(e:P.underlying b=some (.int k)):∀(s:J) (j:SV) (n:Tt),fM P s a b (.int j n)=some (.int k (k.wrap n),s):=fun _ _ _=>gU c e
theorem az.pX {P:Sg}{e:Sh}(a:c3 P e=some false){s:J}{v:Sf}{n:Sj}{l:Si Sf}(h:az s 1 v n l):∀k,k<n->aD P s e (bM 1 v k)=some (l.getD k undef):=fun _ b=>h.P a b
theorem az.pY {P:Sg}{t e:Sh}{z:Sj}(a:P.underlying t=some (.slice e))(b:bc P e=some z){s:J}{v:Sf}{n:Sj}{l:Si Sf}(h:az s z v n l):∀(k:SV) (x:Tt),0<=x->x<n->eM P t v (.int k x)=some (bM z v x.toNat):=fun _ _ c d=>h.r a b c d
end Go.Cl
namespace Go.Proofs.YtgpmffbleaphkaaGreat
open Go.Cl
theorem bw:bc Su 5=some 1:=by kernel_rfl
theorem jg:e2 Su 5=some 1:=by kernel_rfl
theorem de:c3 Su 5=some false:=by kernel_rfl
theorem dN:bK Su 5=some (.int .u8 0):=by kernel_rfl
theorem aQ:bc Su 3=some 1:=by kernel_rfl
theorem nj:e2 Su 3=some 8:=by kernel_rfl
theorem aB:c3 Su 3=some false:=by kernel_rfl
theorem gj:bK Su 3=some (I 0):=by kernel_rfl
theorem dI:bc Su 22=some 1:=by kernel_rfl
theorem cJ:c3 Su 22=some false:=by kernel_rfl
theorem F9:bK Su 22=some (av):=by kernel_rfl
end Go.Proofs.YtgpmffbleaphkaaGreat
namespace Go.Cl
open Go.RowKit Go.ChangeShapes Go.WideShapes
theorem Ga {a:Type}{f:a->Si Sf}{z:Sj}(b:∀c,(f c).length=z){j:Sj}(e:j<z):∀(D:Si a) (i:Sj) (d:a),D[i]?=some d->(D.flatMap f).getD (i*z+j) undef=(f d).getD j undef:=by
 intro D
 induction D with
 |nil=>intro a d h;simp at h
 |cons a D c=>
  intro a d h;rw[List.flatMap_cons,Sn];cases a with
  |zero=>
   simp at h;subst h
   rw[Tq,Sq,List.getElem?_append_left (by rw[b];exact e),Sn]
  |succ a=>
   rw[List.getElem?_append_right (by rw[b,SX];omega),b];rw[(show(a+1)*z+j-z=a*z+j by rw[SX];omega),<-Sn];exact c a d (show D[a]?=some d by simpa using h)
theorem Gb (b o n:Sj):(⟨b,o,none⟩:Addr).add n=⟨b,o+n,none⟩:=by
 unfold Addr.add;split
 ·rename_i h;subst h;rfl
 rfl
theorem NK {W:World}{a:Addr}{v:Sf}(h:W.cell? a=some v):a.spot=none:=by
 unfold World.cell? at h;split at h
 ·split at h
  ·cases h
  rename_i q;simpa using q
 cases h
theorem NL {W:World}{b o:Sj}{v:Sf}(h:W.cell? ⟨b,o,none⟩=some v):∃c E a,W.heap[b]?=some (.cells c E a)/\o<c.size:=by
 unfold World.cell? at h;split at h
 ·rename_i d E a e;refine⟨d,E,a,e,?_⟩;simp only[Option.isSome_none,SC,Tk] at h;rcases Nat.lt_or_ge o d.size with q|q
  ·exact q
  rw[Array.getElem?_eq_none q] at h;cases h
 cases h
variable {H:Type} {enc:Sh×Sf->H} {P:Sg}
def eR:Sf->Sj->Sf
 | .pointer (some ⟨i,o,some c⟩),j=>ab i (o+j) c
 |v,_=>v
theorem fT (z:Sj)(v:Sf)(k j:Sj):bn (eR (bM z v k) j) (eR (bM z v k) j)=true:=by
 unfold bM;split<;>exact wz _
theorem az.fE {e:Sh}(c:c3 P e=some false){s:J}{z:Sj}{v:Sf}{n:Sj}{l:Si Sf}(h:az s z v n l){k j:Sj}(d:k<n)(a:j<z):aD P s e (eR (bM z v k) j)=some (l.getD (k*z+j) undef):=by
 have a:=h.length;cases h with
 |al=>omega
 |cI=>omega
 |bu i a p f b q r g t h m u v o=>
  have p:k*z+z<=n*z:=by
   have:(k+1)*z<=n*z:=S1 z d
   rwa [SX] at this
  show aD P s e (ab i (a+k*z+j) f)=_;unfold aD;simp only[c];rw[nd g h m Z];have d:b.aJ.drop (a+k*z+j)=(b.aJ.drop a).drop (k*z+j):=by rw[Tl];congr 1;omega
  have c:k*z+j<l.length:=Z;have e:((b.aJ.drop a).drop (k*z+j)).take 1=[l.getD (k*z+j) undef]:=by
   have:((b.aJ.drop a).drop (k*z+j)).take 1=(((b.aJ.drop a).take (n*z)).drop (k*z+j)).take 1:=by
    rw[Tn,List.take_take];congr 1;omega
   rw[this,o,List.drop_eq_getElem_cons c,S3,S0,Sn,SA c];rfl
  rw[d,e]
end Go.Cl