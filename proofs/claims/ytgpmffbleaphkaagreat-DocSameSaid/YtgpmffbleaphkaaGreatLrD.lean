import Derived.Test.YtgpmffbleaphkaaGreatNfR
open Go.Proofs.Tryz renaming underlying22->Se,underlying3->Sr,underlying47->St,prog->Su,underlying5->SB,results70->SD,results50->SI,results49->SL,underlying131->SO,results69->SQ,underlying186->S1,results100->S5,underlying124->S8,results103->Tb,results97->Te,results68->Tf,results27->Th
open _root_ renaming if_neg->Sf,if_pos->Sh,reduceIte->Sn,Int->So,eq_true->Sp,UInt8->Sq,decide_eq_false->Ss,List->Sv,decide_eq_true->Sw,absurd->Sy,Nat->Sz,eq_false->SK,decide_not->SP,if_false->SX,if_true->Td
open Nat renaming reduceEqDiff->Sg,reduceLT->Si,le_trans->SJ,pow_le_pow_right->SU,le_refl->SV,lt_of_lt_of_le->SZ
open List renaming getElem?_cons_zero->Sj,getElem?_cons_succ->Sk,getElem?_toArray->Sl,length_append->Sm,getD_eq_getElem?_getD->SA,getElem?_eq_getElem->SE,length_pos_iff->SF,drop_eq_nil_of_le->SG,length_cons->SH,length_nil->SN,length_singleton->SR,length_take->SS,eq_nil_of_length_eq_zero->SY,getElem?_append_right->S0,getElem?_append_left->S2,drop_eq_getElem_cons->S3,append_assoc->S4,getElem?_eq_none->S6,length_replicate->S7,mem_singleton->S9,getElem_mem->Ta,mem_append->Tc,replicate->Tg,map_cons->Ti,map_nil->Tj
open Go renaming Value->Sx
open Int renaming toNat_natCast->SC,toNat->Tk
open Bool renaming not_eq_true->SM
open UInt8 renaming ofNat->SW
set_option maxHeartbeats 16000000
set_option linter.unusedSimpArgs false
set_option linter.unusedVariables false
set_option maxRecDepth 100000
namespace Go.Cl
theorem az.abZ {s b:J}{z:Sz}{v u:Sx}{n:Sz}{l:Sv Sx}(h:az s z v n l)(k:aF u s b)(d:∀i,ak u=some i->ak v≠some i):az b z v n l:=by
 cases h with
 |al=>exact .al
 |cI i a=>exact .cI i a
 |bu i a n e f l c g j m o p q r=>
  refine .bu i a n e f l (SZ c k.Y) ?_ j m o p q r;simp only[J.t,k.N i c (fun t=>d i t rfl)];exact g
end Go.Cl
namespace Go.Proofs.YtgpmffbleaphkaaGreat
open Go.Cl Go.Cl.Lz Go.Cl.Rw
theorem ab0 (s:J)(h:Sx)(b:Sv Sq)(p w:Sz)(e:az s 1 h b.length (aM b))(X:b.length<=4000000)(Wy:p<=8*b.length)(Wz:w<=16):
  Runs Su aw 97 [h,I p,I w] s fun v z=>v=I (if 8*b.length<p+w then(-1:So) else((hf b p w:Sz):So))/\z=s:=by
 refine Runs.oU 40 Tryz.func97 rfl fun l c=> ?_
 by_cases m:8*b.length<p+w
 ·have A:8*(b.length:So)<(p:So)+(w:So):=Z;refine b0 c (e.g Se) (Sp A) @Te ?_;rw[Sh m]
 have B:¬8*(b.length:So)<(p:So)+(w:So):=Z;rw[Sf m];refine aR c (e.g Se) B ?_;refine aZ.w (fun D f E=>∃(g:Sz),D=w-g/\g<=w/\E=s/\f.e=40/\f.N 0=h/\f.N 1=I p/\f.N 2=I w/\f.N 7=I (hf b p g:Sz)/\f.N 8=I ((p+g:Sz):So))
  (fun F o G=>F= .bb 0/\G=s/\o.e=40/\o.N 7=I (hf b p w:Sz))
  ⟨0,rfl,Z,rfl,V c⟩ ?_ ?_
 ·clear c l;rintro WA H WB WC WD ⟨a,rfl,WE,K,c⟩;subst K;by_cases WG:a<w
  ·have L:((p+a:Sz):So)<(p:So)+(w:So):=Z;have q:(p+a)/8<b.length:=Z;have r:=e.r (k:= .i64) (x:=(((p+a)/8:Sz):So)) Se bw Z Z;rw[SC] at r;have i:=e.P de q;rw[dn q] at i;have WH:(p+a)%8<8:=Nat.mod_lt _ Z;have M:(7:So)-(((p+a)%8:Sz):So)=((7-(p+a)%8:Sz):So):=Z;have WI:7-(p+a)%8<8:=Z;have⟨y,j⟩:=aO ((b.getD ((p+a)/8) 0).toNat);have O:y<256:=by rw[j];exact(b.getD ((p+a)/8) 0).toNat_lt
   rw[<-j] at i;have P:y/2^(7-(p+a)%8)<256:=Nat.lt_of_le_of_lt (Nat.div_le_self _ _) O;have Q:y/2^(7-(p+a)%8)%2=mK b (p+a):=by rw[j];rfl
   have R:=AI b (p+a);have WJ:=uZ b p a;have WK:2^a<=2^16:=SU Z Z;have t:=Iq (n:=hf b p a) (d:=mK b (p+a)) Z R;have u:=Io _ P;rw[Q] at u;have S:IntKind.i64.wrap ((mK b (p+a):Sz):So)=((mK b (p+a):Sz):So):=cg Z;have T:hf b p a*2+mK b (p+a)=hf b p (a+1):=rfl;rw[T] at t;refine sA c (Sp L) @rA @xH @kI @gy @Ip r i M (dH Sr S8) @Qx @Au @jc u (dH SB Sr) S @j4 t ?_;refine aH (w-(a+1)) Z ⟨a+1,rfl,Z,rfl,V c⟩
  obtain rfl:a=w:=Z;have U:¬((p+a:Sz):So)<(p:So)+(a:So):=Z;refine aq c U ?_;exact H _ _ _ ⟨rfl,rfl,V c⟩
 clear c l;rintro _ WL WM ⟨rfl,W,c⟩;subst W;exact F3 c @Te
structure ml (base:Sz) (s:J) (i:Sz) (B:Sx) (l:Sv Sq) (most bad:So):Prop where
 F:ae s i [B,I most,I bad]
 r1:ao s 1 B l.length (aM l)
 G:ay base B
 U:ak B≠some i
 eX:base<=i
theorem ml.kT {a:Sz}{s:J}{i:Sz}{B:Sx}{l:Sv Sq}{b c:So}(h:ml a s i B l b c):h4 a s i l b c:=⟨B,h.F,h.r1,h.G,h.U,h.eX⟩
theorem BF (b:Sz)(s:J)(i:Sz)(B:Sx)(l:Sv Sq)(c e:So)(a:ml b s i B l c 0):
  Runs Su aw 98 [ab i 0 4,I e] s fun v d=>ml b d i B l c e/\eu i B s B d:=by
 refine Runs.cS 13 Tryz.func98 rfl fun f b c d=> ?_
 refine eo b c d @hG (a.F.o aB 2 4) ?_;refine db aQ a.F rfl aA rfl ?_;intro b d b c;refine lo @Tryz.results98 ?_;exact⟨⟨d,a.r1.f b c a.U,a.G,a.U,a.eX⟩,eu.u b c⟩
theorem ab1 (j:Sz)(s:J)(i:Sz)(B:Sx)(l:Sv Sq)(b d:So)(o:Sq)(L:ml j s i B l b d)(U:l.length<4294967295):
  Runs Su aw 100 [ab i 0 4,.int .u8 o.toNat] s fun W p=>∃q,ml j p i q (if d=0/\(l.length:So)<b then l++[o] else l) b (if d=0/\b<=l.length then 7 else d)/\eu i B s q p:=by
 have⟨a,f,k,e,m⟩:=L;refine Runs.cS 39 Tryz.func100 rfl fun X c g M=> ?_
 have n:=a.o aB 2 4;have r:=a.o aB 1 4;have t:=a.o cJ 0 4;have h:=f.c;by_cases u:d=0
 ·subst u;by_cases v:b<=l.length
  ·have O:¬(l.length:So)<b:=Z;refine wM c g @hG n @xW r @rF t (h.g Se) h.m v ?_;refine db aQ a rfl aA rfl ?_;intro Wy w x y;refine fS c g @hG (w.o aB 2 4) O @S5 (show¬(7:So)=0 by decide) ?_;exact⟨B,⟨w,f.f x y e,k,e,m⟩,eu.u x y⟩
  have P:(l.length:So)<b:=by omega
  simp only[aI,bD,bB,bC,Si,Sg,↓Sn,c,g,M,hG,n,xW,r,rF,t,h.cd Se,h.m,v,gh Se bw dN];refine ll Se bw jg dN rfl f aa ai (by simp only[dG,c];decide) (by simp only[dG,c];decide) (by rfl) ai rfl Z Z (g:=j) k (ag a.n) ?_;intro Wz z WA A Q WB D E;refine bO c @rF ?_;have F:ak z≠some i:=by
   rcases E with R|⟨WC,S,WD⟩
   ·rw[R];exact e
   rw[S];intro G;injection G with G;have:=a.n;omega
  refine db dI (a.j D e) rfl aA A.c.aN ?_;intro WE T H K;refine bO P @S5 ?_;refine⟨z,⟨T,?_,Q,F,m⟩,(eu.j D E).a (eu.u H K)⟩;rw[km,Sm];exact A.f H K F
 refine e8 c g @hG n u @S5 ?_;exact⟨B,⟨a,f,k,e,m⟩,eu.p _ _ _⟩
structure iy (s:J) (i:Sz) (B tv v:Sx) (l:Sv Sq):Prop where
 ho:az s 1 v l.length (aM l)
 yw:ak v≠some i
 lF:∀k,ak B=some k->ak v≠some k
 yx:∀k,ak tv=some k->ak v≠some k
theorem KF {s:J}{z:Sz}{v:Sx}{n:Sz}{l:Sv Sx}(h:az s z v n l)(c:0<n):∀k,ak v=some k->k<s.Y:=by
 intro k a;cases h with
 |al=>omega
 |cI=>omega
 |bu i d n e f l b g j m o p q r=>injection a with a;subst a;exact b
theorem iy.gP {s f:J}{i:Sz}{B g m v:Sx}{l:Sv Sq}(h:iy s i B m v l)(b:l≠[])(k:eu i B s g f):iy f i g m v l:=by
 have o:=KF h.ho (SF.mpr b:0<l.length);refine⟨?_,h.yw,fun q a=> ?_,h.yx⟩
 ·have c:=h.ho;generalize D:aM l=M at c;generalize E:l.length=F at c;cases c with
  |al=>exact .al
  |cI i d=>exact .cI i d
  |bu j d G p r H n t u b w x y z=>
   refine .bu j d _ p r _ (SZ n k.Y) ?_ u b w x y z;simp only[J.t,k.N j n (fun e=>(h.yw) (by rw[<-e];rfl)) (fun e=>(h.lF) j e rfl)];exact t
 rcases k.jB with e|⟨K,e,L⟩
 ·rw[e] at a;exact h.lF q a
 rw[e] at a;injection a with a;subst a
 intro A;have:=o _ A;omega
theorem iy.ky {s b f:J}{i:Sz}{B c d v:Sx}{l:Sv Sq}(h:iy s i B c v l)(j:l≠[])(g:ad s.Y s b)(k:aF c b f)(m:ak d=ak c\/∃q,ak d=some q/\b.Y<=q):iy f i B d v l:=by
 have n:=KF h.ho (SF.mpr j:0<l.length);refine⟨(h.ho.C g).abZ k h.yx,h.yw,h.lF,fun q a=> ?_⟩;rcases m with e|⟨w,e,o⟩
 ·rw[e] at a;exact h.yx q a
 rw[e] at a;injection a with a;subst a
 intro r;have:=n _ r;have:=g.Y;omega
theorem iy.A {s a:J}{i:Sz}{B b v:Sx}{l:Sv Sq}(h:iy s i B b v l)(k:ad s.Y s a):iy a i B b v l:=⟨h.ho.C k,h.yw,h.lF,h.yx⟩
end Go.Proofs.YtgpmffbleaphkaaGreat
namespace Go.Cl
open Go.Cl.Rw
theorem KG:q7 (av)=true:=rfl
theorem az.BG {s:J}{z:Sz}{v:Sx}{n:Sz}{l:Sv Sx}(h:az s z v n l)(a:0<n):q7 v=false:=by
 cases h with
 |al=>omega
 |cI=>omega
 |bu=>rfl
theorem ao.ab2 {s a:J}{z:Sz}{u:Sx}{n:Sz}{l:Sv Sx}{j:Sz}{v c:Sx}(h:ao s z u n l)(k:eu j v s c a)(d:ak u≠some j)(f:∀i,ak v=some i->ak u≠some i):ao a z u n l:=by
 cases h with
 |al=>exact .al
 |bu i n g l b m o p=>
  refine .bu i _ g _ (SZ b k.Y) ?_ o p;simp only[J.t,k.N i b (fun e=>d (by rw[<-e];rfl)) (fun e=>f i e rfl)];exact m
theorem ab3 {a:Sv Sx}{w:Sx}{k:Sz}(h:k<a.length):(a++[w]).getD k undef=a.getD k undef:=by
 rw[SA,SA,S2 h]
theorem ab4 {a:Sv Sx}{w:Sx}:(a++[w]).getD a.length undef=w:=by
 rw[SA,S0 (SV _),Nat.sub_self];rfl
theorem ab5 {P:Program}{a:bg}{b c:Code}{f:an}{s:J}{Q:dw->an->J->Prop}{d:Bool}(e:dw->an->J->Prop)(m:∀g:dw->an->J->Prop,(∀y h i,e y h i->g y h i)->nb P a b c f s g d)(n:∀j k l,e j k l->Q j k l):nb P a b c f s Q d:=m Q n
end Go.Cl
namespace Go.Proofs.YtgpmffbleaphkaaGreat
open Go.Cl Go.Cl.Lz Go.Cl.Rw
theorem ab6:e2 Su 22=some 24:=by kernel_rfl
theorem ml.A {a:Sz}{s b:J}{i:Sz}{B:Sx}{l:Sv Sq}{c d:So}(h:ml a s i B l c d)(k:ad s.Y s b):ml a b i B l c d:=⟨h.F.C k,h.r1.C k,h.G,h.U,h.eX⟩
structure iT (base:Sz) (s:J) (i:Sz) (B tv lv:Sx) (T:Sv (Sv Sq)) (L out:Sv Sq) (M bad:So) (vs:Sv Sx):Prop where
 gP:ml base s i B out M bad
 ky:ao s 1 tv T.length vs
 j8:∀k r,T[k]?=some r->r≠[]/\iy s i B tv (vs.getD k undef) r
 vz:ay base tv
 tz:ak tv≠some i
 rH:∀k,ak B=some k->ak tv≠some k
 h9:(L=[]/\lv=av)\/(L≠[]/\iy s i B tv lv L)
section
variable {base:Sz} {s s' :J} {i:Sz} {B B' tv lv:Sx} {T:Sv (Sv Sq)} {L out R4:Sv Sq} {M bad qa:So} {vs:Sv Sx}
theorem iT.ab7 (h:iT base s i B tv lv T L out M bad vs)(k:eu i B s B' s')(a:ml base s' i B' R4 M qa):iT base s' i B' tv lv T L R4 M qa vs:=by
 refine⟨a,h.ky.ab2 k h.tz (fun j a=>h.rH j a),fun q r a=>⟨(h.j8 q r a).1,(h.j8 q r a).2.gP (h.j8 q r a).1 k⟩,h.vz,h.tz,fun q a=> ?_,?_⟩
 ·rcases k.jB with e|⟨w,b,c⟩
  ·rw[e] at a;exact h.rH q a
  rw[b] at a;injection a with a;subst a
  intro r;have:=h.ky.z _ r;omega
 rcases h.h9 with e|⟨a,b⟩
 ·exact .inl e
 exact .inr ⟨a,b.gP a k⟩
theorem iT.A (h:iT base s i B tv lv T L out M bad vs)(k:ad s.Y s s'):iT base s' i B tv lv T L out M bad vs:=by
 refine⟨h.gP.A k,h.ky.C k,fun q r a=>⟨(h.j8 q r a).1,(h.j8 q r a).2.A k⟩,h.vz,h.tz,h.rH,?_⟩;rcases h.h9 with e|⟨b,c⟩
 ·exact .inl e
 exact .inr ⟨b,c.A k⟩
theorem iT.ab8 (h:iT base s i B tv lv T L out M bad vs):iT base s i B (av) (av) [] [] out M bad []:=
 ⟨h.gP,.al,fun q r a=>by simp at a,ay.al _,(fun e=>by cases e),(fun k _ e=>by cases e),.inl ⟨rfl,rfl⟩⟩
theorem iT.BH {a:Sx}{X:Sv Sq}(h:iT base s i B tv lv T L out M bad vs)(b:X≠[])(c:iy s i B tv a X):iT base s i B tv a T X out M bad vs:=
 ⟨h.gP,h.ky,h.j8,h.vz,h.tz,h.rH,.inr ⟨b,c⟩⟩
theorem iT.ab9 {k:J}{c w:Sx}{r:Sv Sq}(h:iT base s i B tv lv T L out M bad vs)(d:ad s.Y s k)(t:ao s' 1 c (T.length+1) (vs++[w]))(u:ay base c)(g:aF tv k s')(j:ak c=ak tv\/∃q,ak c=some q/\k.Y<=q)
  (v:r≠[]) (x:iy s' i B c w r):iT base s' i B c lv (T++[r]) L out M bad (vs++[w]):=by
 have z:vs.length=T.length:=ag h.ky.c.length;have f:=h.gP.A d;refine⟨⟨f.F.j g h.tz,f.r1.j g (fun q b=>h.rH q b),f.G,f.U,f.eX⟩,by rw[Sm];exact t,fun q l a=> ?_,u,?_,fun q b=> ?_,?_⟩
 ·by_cases b:q<T.length
  ·rw[S2 b] at a;rw[ab3 Z];exact⟨(h.j8 q l a).1,(h.j8 q l a).2.ky (h.j8 q l a).1 d g j⟩
  rw[S0 Z] at a;cases m:q-T.length with
  |succ A=>rw[m] at a;simp at a
  |zero=>
   rw[m] at a;simp at a;subst a;rw[show q=vs.length from Z,ab4];exact⟨v,x⟩
 ·rcases j with e|⟨q,e,b⟩
  ·rw[e];exact h.tz
  rw[e];intro n;injection n with n;have:=h.gP.F.n;have:=d.Y;omega
 ·rcases j with e|⟨n,e,m⟩
  ·rw[e];exact h.rH q b
  rw[e];intro o;injection o with o;have:=h.gP.r1.z _ b;have:=d.Y;omega
 rcases h.h9 with e|⟨p,y⟩
 ·exact .inl e
 exact .inr ⟨p,y.ky p d g j⟩
end
theorem iy.x {s c:J}{i:Sz}{B d v:Sx}{l:Sv Sq}(h:az c 1 v l.length (aM l))(j:i<s.Y)(f:∀k,ak B=some k->k<s.Y)(g:∀k,ak d=some k->k<s.Y)(a:∀k,ak v=some k->s.Y<=k):iy c i B d v l:=
 ⟨h,fun e=>ag (a _ e),fun k b e=>bq (a _ e) (f _ b),fun k b e=>bq (a _ e) (g _ b)⟩
def KH (c:Sz)(s:J)(i:Sz)(x:Sx)(d:Sv Sq)(a:Sz)(R:Sz×Sv Sq)(z:Sz)(f:an)(e:J):Prop:=
 f.e=124/\f.N 0=x/\f.N 6=ab i 0 4/\ad c s e/\((∃(B:Sx) (g:Sv Sq) (b:Sz),b≠0/\ml c e i B g a b/\R=(b,[]))\/
  (∃(p m:Sz) (T:Sv (Sv Sq)) (L b:Sv Sq) (B g h:Sx) (j:Sv Sx),iT c e i B g h T L b a 0 j/\b.length<=a/\T.length<=3838/\s8 m T L b/\9*m<=p/\p<=8*d.length/\8*d.length<p+z/\cb d a z p T L b=R/\f.N 7=g/\f.N 8=h/\f.N 9=I ((258+T.length:Sz):So)/\f.N 10=I (p:Sz)))
def aca (b:Sz)(s:J)(i:Sz)(x B c d:Sx)(T:Sv (Sv Sq))(L e:Sv Sq)(g:Sz)(k:Sv Sx)(p h:Sz)(y:dw)(f:an)(a:J):Prop:=
 f.e=124/\f.N 0=x/\f.N 6=ab i 0 4/\f.N 7=c/\f.N 8=d/\f.N 9=I ((258+T.length:Sz):So)/\f.N 10=I (p:Sz)/\ad b s a/\
  ((y= .bb 1/\ev T L h=none/\ml b a i B e g 4)\/
   (y= .b2/\∃(X:Sv Sq) (j:Sx),ev T L h=some X/\X≠[]/\iT b a i B c d T L e g 0 k/\iy a i B c j X/\f.N 13=j))
theorem KI (a b:Sx):bm (.tuple #[a,b]) 0=some a:=rfl
theorem KJ (a b:Sx):bm (.tuple #[a,b]) 1=some b:=rfl
theorem acb
  (K:J) (Wz:Sx) (w:Sv Sq) (Xu:So) (g:Sz) (YO:(if Xu<0 then 0 else Xu)=(g:So)) (YP:az K 1 Wz w.length (aM w)) (YQ:w.length<=5000\/w.length<=4000000/\g<=20000000):
  Runs Su aw 68 [Wz,I Xu] K (iM K.Y K (o6 w g).2 (o6 w g).1):=by
 have Zv:w.length<=4000000:=Z;have⟨p,Xv⟩:=aO K.Y;have⟨Yn,Yo⟩:=aO (o6 w g);rw[<-Yo,<-Xv];have Xw:p<=K.Y:=Z;refine Runs.cS 124 Tryz.func68 rfl fun f a l Xx=> ?_
 refine aW a Xx @xX YO (aK fun Zw WK P Zx=> ?_);have⟨v,Yp⟩:=aO K.Y;rw[<-Yp] at WK;have W2:p<=v:=Z;refine aR a @SH.{0} @SN.{0} ?_;refine aZ.eO (KH p K v Wz w g Yn)
  ⟨V a,V l,V Yp,by rw[Xv];exact P,.inr ⟨0,0,[],[],[],av,av,av,[],⟨⟨WK,.al,ay.al _,(fun e=>by cases e),W2⟩,.al,(fun y Yq R=>by simp at R),ay.al _,(fun e=>by cases e),(fun y R e=>by cases e),.inl ⟨rfl,rfl⟩⟩,aA,aA,⟨fun Yq R=>by simp at R,aA,aA⟩,Z,Z,(show 8*w.length<0+(8*w.length+1) from Z),Yo.symm,aa,aa,aa,aa⟩⟩ ?_
 rintro M f Xy ⟨a,l,h,P,⟨WD,d,Yr,WV,Ys,YR⟩|⟨WA,WW,T,L,d,WD,WE,WG,Xz,q,YS,YT,WH,Zy,YU,Zz,D,A,m,o,E⟩⟩
 ·have Yt:¬(Yr:So)=0:=Z;refine bp a h @hG (Ys.F.o aB 2 4) Yt ((jl p Xy v d g Yr Ys.kT).b ?_);rintro YV Yu ⟨XW,rfl,WK,XX,Xh⟩;rw[Sf Yt] at WK;refine b0 a @KI @KJ @Tf ?_;rw[YR];exact⟨XW,rfl,WK,XX,P.a Xh⟩
 obtain⟨M,rfl⟩:∃WO,M=WO+1:=⟨M-1,Z⟩
 have W3:p<=Xy.Y:=SJ Xw P.Y;have⟨S,U⟩:=aO (dg (258+T.length));have YW:=AD (258+T.length);rw[<-U] at YW;have ZA:d.length<=20000000:=by
  rcases YQ with Xi|⟨-,Xi⟩
  ·have Xx:=WH.gJ;have XY:WW<=4444:=Z;have ZB:WW*WW<=4444*4444:=Nat.mul_le_mul XY XY;omega
  omega
 refine bp a h o @hG (q.gP.F.o aB 2 4) ((QA Xy (258+T.length)).b ?_);rintro _ Yu ⟨rfl,YX⟩;subst YX;rw[<-U];refine aR a l E ((ab0 Yu Wz w WA S ((show kL p K 1 Wz w.length (aM w) by rw[Xv];exact YP.bT).A P).c Z YU Z).b ?_);rintro _ W ⟨rfl,XZ⟩;subst XZ;by_cases WX:8*w.length<WA+S
 ·rw[Sh WX];rw[(H9 (a:=g) (k:=M) (b:=L) (c:=d) (by rw[<-U];exact WX))] at D;refine aW a h E (Sp (show(-1:So)<0 by decide)) ((BF p W v WD d g 2 q.gP).b ?_);rintro _ r ⟨WQ,W4⟩;refine ax a ?_;refine aH M Z ⟨V a,V l,V h,P.a (W4.A W2 q.gP.G W3),.inl ⟨WD,d,2,ai,WQ,D.symm⟩⟩
 rw[Sf WX];have⟨c,W5⟩:=aO (hf w WA S);have ZC:c<4096:=by
  rw[W5];have Xx:=uZ w WA S;have XY:2^S<=2^12:=SU Z Z;omega
 rw[<-W5];have X0:¬(c:So)<0:=Z;by_cases WY:c=256
 ·have Xj:(c:So)=256:=Z;rw[(Ia (a:=g) (k:=M) (d:=L) (c:=d) (by rw[<-U];exact WX) (by rw[<-U,<-W5];exact WY)),<-U] at D;refine aW a E X0 (Sp Xj) ?_;refine aH M Z ⟨V a,V l,V h,P,.inr ⟨WA+S,WW,[],[],d,WD,_,_,[],q.ab8,YS,aA,⟨fun Yq R=>by simp at R,aA,WH.gJ⟩,Z,Z,Z,D,aa,aa,aa,aa⟩⟩
 have Xj:¬(c:So)=256:=Z;by_cases Yv:c=257
 ·have X1:(c:So)=257:=Z;rw[(uX (c:=g) (k:=M) (d:=L) (a:=d) (by rw[<-U];exact WX) (by rw[<-U,<-W5];exact Yv))] at D;refine cl a h E X0 Xj (Sp X1) ((jl p W v d g 0 q.gP.kT).b ?_);rintro YV r ⟨XW,rfl,WK,XX,H⟩;rw[Sh rfl] at WK;refine b0 a @KI @KJ @Tf ?_;rw[<-D];exact⟨XW,rfl,WK,XX,P.a H⟩
 have X1:¬(c:So)=257:=Z;rw[(sQ (a:=g) (k:=M) (b:=L) (c:=d) (by rw[<-U];exact WX) (by rw[<-U,<-W5]) Yv WY)] at D;refine bp a E X0 Xj X1 ?_;have Yw:=q.gP.r1.z;have Yx:=q.ky.z;have Yy:=q.gP.F.n;refine ab5 (aca p K v Wz WD WE WG T L d g Xz (WA+S) c) ?_ ?_
 ·intro ZD W6;by_cases WZ:c<256
  ·have W0:(c:So)<256:=by omega
   simp(disch:=omega)only[aI,bC,Si,Sg,↓Sn,a,Sp W0,gU Sr SB,gz,gh Se bw dN];refine du (by rfl) ?_;intro Q r W7 X2 Yz;have X3:az r 1 Q [SW c].length (aM [SW c]):=by
    have e:aM [SW c]=[.int .u8 (c:Sz)]:=by
     simp only[aM,Ti,Tj,UInt8.toNat_ofNat',Nat.reducePow,Nat.mod_eq_of_lt WZ]
    rw[(Z:(c:So)%256=(c:So))] at W7;rw[e];exact W7.c
   refine ax a ?_;exact W6 _ _ _ ⟨V a,V l,V h,V A,V m,V o,aa,P.a (Yz.q W3),.inr ⟨rfl,_,Q,(show ev T L c=some [SW c] by unfold ev;rw[Sh WZ]),aA,q.A Yz,iy.x X3 Yy Yw Yx X2,aa⟩⟩
  have W0:¬(c:So)<256:=Z;by_cases B:L=[]
  ·have X4:WG=av:=by
    rcases q.h9 with e|e
    ·exact e.2
    exact Sy B e.1
   have F:=(az.al (s:=W) (z:=1)).uh Se;rw[KG] at F;refine gX a h (show f.N 8=av by rw[m,X4]) W0 F ((BF p W v WD d g 4 q.gP).b ?_);rintro _ r ⟨WQ,W4⟩;refine ax a ?_;exact W6 _ _ _ ⟨V a,V l,V h,V A,V m,V o,aa,P.a (W4.A W2 q.gP.G W3),.inl ⟨rfl,(show ev T L c=none by unfold ev;rw[Sf WZ,Sh B]),WQ⟩⟩
  have⟨_,O⟩:=q.h9.resolve_left (fun e=>B e.1);have W8:=SF.mpr B;have F:=O.ho.uh Se;rw[O.ho.BG W8] at F;by_cases ZE:258+T.length<c
  ·have Xk:((258+T.length:Sz):So)<(c:So):=Z;have WI:ev T L c=none:=by
    unfold ev;rw[Sf WZ,Sf B,Sf Z]
    exact S6 Z
   refine eC a h m o W0 F (Sp Xk) ((BF p W v WD d g 4 q.gP).b ?_);rintro _ r ⟨WQ,W4⟩;refine ax a ?_;exact W6 _ _ _ ⟨V a,V l,V h,V A,V m,V o,aa,P.a (W4.A W2 q.gP.G W3),.inl ⟨rfl,WI,WQ⟩⟩
  have Xk:¬((258+T.length:Sz):So)<(c:So):=Z;by_cases YA:c=258+T.length
  ·have X5:(c:So)=((258+T.length:Sz):So):=Z;refine kO a m o W0 F Xk (Sp X5) (Z:¬(4095:So)<((258+T.length:Sz):So)) (LB.T 1 1 fun YY W1 X6 _ W9 _=> ?_);refine aR a m O.ho.m ((ri (aS W 1) WG L (O.ho.C W9) (ag WH.h9)).b ?_);rintro YZ X7 ⟨X8,WJ,WL⟩;rw[gg] at WL WJ;have YB:ad W.Y (aS W 1) X7:=WL.q Z;have Xa:=W9.a YB;refine⟨fun _=>LA.ar.R W1 YB,?_⟩;have t:=O.ho.C Xa;have Wy:=t.r (k:= .i64) (x:=(0:So)) Se bw Z (by omega);rw[show Tk 0=0 from rfl] at Wy;have WM:=t.P de W8;rw[dn W8] at WM;simp(disch:=omega)only[aI,fi,dy,bC,Si,↓Sn,a,Wy,WM,(LA.iG O.ho X6 W8),gh Se bw dN];have X9:=WL.Y;rw[gg] at X9;refine LB.fD (a:=W.Y) (by rfl) Z (SV _) ?_;intro Ya Yb Yc Xb Yd Y0 Ye;refine ax a (LB.jE Se Se (.inl ⟨_,rfl⟩) bw jg dN rfl (X8.j (u:=Ya) ⟨Z,fun j _ Xc=>Ye j (fun e=>Xc (by rw[Xb,e]))⟩ (fun j b=>by rw[Xb];intro e;injection e with e;have:=WJ j b;omega)) Yc.c.X rfl ai rfl (ag WH.h9) (ag WH.h9) (a:=W.Y) (fun j b=>ag (WJ j b)) Z (fun R=>Sy rfl R) (fun j b=>ag (W1 j b)) fun Q Xl W7 X2 Y1 ZF=> ?_);have Xh:=(Xa.a Yd).a (Y1.C (fun j b=>ag (WJ j b)) Z:ad W.Y Yb Xl);have X3:az Xl 1 Q (L++L.take 1).length (aM (L++L.take 1)):=by
    rw[(u1 W8:L.take 1=[L.getD 0 0]),km,Sm];exact W7.c
   refine aq a W7.m ?_;exact W6 _ _ _ ⟨V a,V l,V h,V A,V m,V o,aa,P.a (Xh.q W3),.inr ⟨rfl,_,Q,(show ev T L c=some (L++L.take 1) by unfold ev;rw[Sf WZ,Sf B,Sh YA]),by simp[B],q.A Xh,iy.x X3 Yy Yw Yx X2,aa⟩⟩
  have X5:¬(c:So)=((258+T.length:Sz):So):=Z;have YC:c-258<T.length:=Z;have WI:ev T L c=T[c-258]?:=by unfold ev;rw[Sf WZ,Sf B,Sf YA]
  refine kO a A m o W0 F Xk X5 ?_;have YD:=SE YC;rw[YD] at WI;have⟨Y2,Y3⟩:=q.j8 _ _ YD;have Wy:=q.ky.c.r (k:= .i64) (x:=((c-258:Sz):So)) SO dI Z Z;rw[SC] at Wy;refine aW a (Z:(c:So)-258=((c-258:Sz):So)) Wy (q.ky.c.P cJ YC) ?_;exact W6 _ _ _ ⟨V a,V l,V h,V A,V m,V o,aa,P,.inr ⟨rfl,_,_,WI,Y2,q,Y3,aa⟩⟩
 rintro WO f r ⟨a,l,h,A,m,o,E,H,⟨rfl,WI,WQ⟩|⟨rfl,X,Q,WI,WR,i,t,G⟩⟩
 ·rw[WI] at D;refine ax a ?_;refine aH M Z ⟨V a,V l,V h,H,.inl ⟨WD,d,4,ai,WQ,D.symm⟩⟩
 rw[WI] at D;simp only at D;rw[<-U] at D;have Xm:=SF.mpr WR;have YE:s8 (WW+1) (dO T L X) X (d++X):=(WH.H WI).elim (fun e=>e.1) (fun e=>Sy e WR);have ZG:=YE.h9;refine ax a ?_;refine aZ.w (fun WO f WS=>∃(y:Sz) (WN:Sx) (WB:Sv Sq) (WC:So),WO=X.length-y/\y<=X.length/\iT p WS v WN WE WG T L WB g WC Xz/\iy WS v WN WE Q X/\((WC=0/\WB=d++X.take y/\d.length+y<=g)\/(WC=7/\g<d.length+X.length/\WB.length<=d.length+X.length))/\ad p K WS/\f.e=124/\f.N 0=Wz/\f.N 6=ab v 0 4/\f.N 7=WE/\f.N 8=WG/\f.N 9=I ((258+T.length:Sz):So)/\f.N 10=I ((WA+S:Sz):So)/\f.N 13=Q/\f.N 14=I (y:Sz))
  (fun WO f WS=>WO= .bb 3/\∃(WN:Sx) (WB:Sv Sq) (WC:So),iT p WS v WN WE WG T L WB g WC Xz/\iy WS v WN WE Q X/\((WC=0/\WB=d++X/\d.length+X.length<=g)\/(WC=7/\g<d.length+X.length))/\ad p K WS/\f.e=124/\f.N 0=Wz/\f.N 6=ab v 0 4/\f.N 7=WE/\f.N 8=WG/\f.N 9=I ((258+T.length:Sz):So)/\f.N 10=I ((WA+S:Sz):So)/\f.N 13=Q)
  ⟨0,WD,d,0,rfl,Z,i,t,.inl ⟨rfl,aA,Z⟩,H,V a,V l,V h,V A,V m,V o,V E,V G,aa⟩ ?_ ?_
 ·clear a l h A m o E G f i t H r;rintro ZH Y4 WO f r ⟨y,WN,WB,WC,rfl,ZI,i,t,WV,H,a,l,h,A,m,o,E,G,Yf⟩;by_cases Yg:y<X.length
  ·have Y5:(y:So)<(X.length:So):=Z;have Wy:=t.ho.r (k:= .i64) (x:=(y:So)) Se bw Z Z;rw[SC] at Wy;have WM:=t.ho.P de Yg;rw[dn Yg] at WM;refine c1 a h G Yf (t.ho.g Se) (Sp Y5) Wy WM ?_;have Y6:WB.length<4294967295:=by
    rcases WV with ⟨_,e,_⟩|⟨_,_,e⟩
    ·rw[e,Sm,SS];omega
    omega
   refine(ab1 p r v WN WB g WC (X.getD y 0) i.gP Y6).b ?_;rintro _ Xd ⟨Y7,Y8,WY⟩;refine aq a Yf ?_;refine aH (X.length-(y+1)) Z ⟨y+1,Y7,_,_,rfl,Z,i.ab7 WY Y8,t.gP WR WY,?_,(H.a (WY.A W2 i.gP.G (SJ Xw H.Y))),V a,V l,V h,V A,V m,V o,V E,V G,aa⟩;rcases WV with ⟨rfl,rfl,YF⟩|⟨rfl,Y9,YF⟩
   ·have Za:(d++X.take y).length=d.length+y:=by rw[Sm,SS];omega
    rw[Za];by_cases ZJ:d.length+y<g
    ·refine .inl ⟨Sf Z,?_,Z⟩;rw[Sh ⟨rfl,Z⟩,u1 Yg,S4]
    refine .inr ⟨Sh ⟨rfl,Z⟩,Z,?_⟩;rw[Sf Z];omega
   refine .inr ⟨Sf Z,Y9,?_⟩;rw[Sf Z];exact YF
  obtain rfl:y=X.length:=Z;refine bp a G Yf (t.ho.g Se) (Z:¬(X.length:So)<(X.length:So)) ?_;refine Y4 _ _ _ ⟨rfl,WN,WB,WC,i,t,?_,H,V a,V l,V h,V A,V m,V o,V E,V G⟩;rcases WV with ⟨WT,WU,Xn⟩|⟨WT,WU,Xn⟩
  ·exact .inl ⟨WT,by rw[WU,List.take_of_length_le (SV _)],Xn⟩
  exact .inr ⟨WT,WU⟩
 clear a l h A m o E G f i t H r;rintro _ f r ⟨rfl,Xo,YG,Zb,i,t,WV,H,a,l,h,A,m,o,E,G⟩;have Xi:=SJ Xw H.Y;have Yh:∀(f:an) (Xd:J) (Xp:Sx) (Yi:Sv Sx) (Xe:Sv (Sv Sq)),Xe=dO T L X->iT p Xd v Xo Xp Q Xe X YG g Zb Yi->ad p K Xd->f.e=124->f.N 0=Wz->f.N 6=ab v 0 4->f.N 7=Xp->f.N 8=Q->f.N 9=I ((258+Xe.length:Sz):So)->f.N 10=I ((WA+S:Sz):So)->KH p K v Wz w g Yn M f Xd:=by
  intro f Xd Xp Yi Xe Yj Xq Zc Zd Ze Zf Zg Zh Zi Zj;refine⟨Zd,Ze,Zf,Zc,?_⟩;rcases WV with ⟨WT,WU,Xn⟩|⟨WT,WU⟩
  ·rw[Sf Z] at D;rw[WT,WU] at Xq;refine .inr ⟨WA+S,WW+1,Xe,X,d++X,Xo,Xp,Q,Yi,Xq,by rw[Sm];exact Xn,by rw[Yj];exact Iv YT L X,by rw[Yj];exact YE,Z,Z,Z,by rw[Yj];exact D,Zg,Zh,Zi,Zj⟩
  rw[Sh WU] at D;rw[WT] at Xq;exact .inl ⟨Xo,YG,7,ai,Xq.gP,D.symm⟩
 by_cases Xr:L≠[]/\258+T.length<4096
 ·have Xs:T++[L++X.take 1]=dO T L X:=by unfold dO;rw[Sh Xr]
  have⟨B,ZK⟩:=Xr;have⟨_,O⟩:=i.h9.resolve_left (fun e=>B e.1);have F:=O.ho.zz Se;rw[O.ho.BG (SF.mpr B)] at F;refine gX a m o F (Sp (Z:((258+T.length:Sz):So)<4096)) (LB.T 1 2 fun YY W1 X6 _ W9 _=> ?_);refine cl a A m G O.ho.m i.ky.m ((ri (aS r 2) WG L (O.ho.C W9) (ag WH.h9)).b ?_);rintro YZ X7 ⟨X8,WJ,WL⟩;rw[gg] at WL WJ;have Xa:=W9.a (WL.q Z:ad r.Y (aS r 2) X7);have X9:=WL.Y;rw[gg] at X9;refine⟨fun _=>LA.ar.R (n:=r.Y+2) (fun j b=>ag (W1 j b)) WL,?_⟩;have YH:=t.ho.C Xa;have Wy:=YH.r (k:= .i64) (x:=(0:So)) Se bw Z (by omega);rw[show Tk 0=0 from rfl] at Wy;have WM:=YH.P de Xm;rw[dn Xm] at WM;simp(disch:=omega)only[aI,fi,dy,bC,Si,↓Sn,a,t.ho.m,Wy,WM,(LA.iG t.ho X6 Xm),gh Se bw dN];refine LB.fD (a:=r.Y) (by rfl) Z (SV _) ?_;intro Ya Yb Yc Xb Yd Y0 Ye;refine ax a (LB.jE Se Se (.inl ⟨_,rfl⟩) bw jg dN rfl (X8.j (u:=Ya) ⟨Z,fun j _ Xc=>Ye j (fun e=>Xc (by rw[Xb,e]))⟩ (fun j b=>by rw[Xb];intro e;injection e with e;have:=WJ j b;omega)) Yc.c.X rfl ai rfl (ag WH.h9) (ag WH.h9) (a:=r.Y+2) WJ Z (fun R=>Sy rfl R) (fun j b=>ag (W1 j b)) fun Yk Xl Yl Xf Zk ZL=> ?_);have YI:ad r.Y Yb Xl:=Zk.C (fun j b=>ag (WJ j b)) Z;have ZM:=YI.Y;simp(disch:=omega)only[aI,dy,Nat.reduceSub,bC,Si,↓Sn,a,Np SO dI F9 rfl ⟨_,rfl⟩ Yl.c.gA];refine LB.fD (a:=r.Y) (by rfl) Z Z ?_;intro Zl Zm Zn YJ XZ ZN Zo;have YK:ao Zm 1 Yk (L.length+1) (aM L++[.int .u8 (X.getD 0 0).toNat]):=Yl.j (u:=Zl) ⟨Z,fun j _ Xc=>Zo j (fun e=>Xc (by rw[YJ,e]))⟩ (fun j b=>by rw[YJ];intro e;injection e with e;have:=Xf j b;omega);have Xg:=((Xa.a Yd).a YI).a XZ;refine ax a (LB.jE SO SO (.inl ⟨_,rfl⟩) dI ab6 F9 rfl (i.A Xg).ky Zn.c.X rfl ai (by simp only[List.all_cons,List.all_nil,Bool.and_true];exact Yl.c.aN) Z Z (a:=p) i.vz Z (fun R=>Sy rfl R) (fun j b=>ag (W1 j b)) fun YL YM YN Zp Xt Ym=> ?_);have Zq:az YM 1 Yk (L++X.take 1).length (aM (L++X.take 1)):=by
   rw[(u1 Xm:X.take 1=[X.getD 0 0]),km,Sm];exact(YK.j Xt (fun j b e=>bq (Xf j b) (i.ky.z _ e))).c
  have Zr:iy YM v Xo YL Yk (L++X.take 1):=⟨Zq,fun e=>bq (Xf _ e) i.gP.F.n,fun j b e=>bq (Xf _ e) (i.gP.r1.z _ b),fun j b e=>by
   rcases Ym with Zs|⟨ZO,Zt,ZP⟩
   ·rw[Zs] at b;have:=Xf _ e;have:=i.ky.z _ b;omega
   rw[Zt] at b;injection b with b;subst b
   have:=YK.z _ e;omega⟩
  refine aW a o G YN.m ?_;refine aH M Z (Yh _ _ YL _ _ Xs ((i.ab9 Xg YN Zp Xt Ym (by simp[B]) Zr).BH WR (t.ky WR Xg Xt Ym)) ((H.a (Xg.q Xi)).a (Xt.C i.vz (SJ Xi Xg.Y))) (V a) (V l) (V h) aa (V G) ?_ (V E));simp only[cx,↓Sn,Sg]
  congr 1
  simp only[Sm,SR];omega
 have Xs:T=dO T L X:=by unfold dO;rw[Sf Xr]
 by_cases B:L=[]
 ·have X4:WG=av:=by
   rcases i.h9 with e|e
   ·exact e.2
   exact Sy B e.1
  have F:=(az.al (s:=r) (z:=1)).zz Se;rw[KG] at F;refine fR a (show f.N 8=av by rw[m,X4]) G F ?_;exact aH M Z (Yh _ _ WE _ _ Xs (i.BH WR t) H (V a) (V l) (V h) (V A) (V G) (V o) (V E))
 have⟨_,O⟩:=i.h9.resolve_left (fun e=>B e.1);have F:=O.ho.zz Se;rw[O.ho.BG (SF.mpr B)] at F;have Zu:¬((258+T.length:Sz):So)<4096:=by
  intro e;exact Xr ⟨B,Z⟩
 refine ib a m o G F Zu ?_;exact aH M Z (Yh _ _ WE _ _ Xs (i.BH WR t) H (V a) (V l) (V h) (V A) (V G) (V o) (V E))
end Go.Proofs.YtgpmffbleaphkaaGreat
namespace Go.Proofs.YtgpmffbleaphkaaGreat
open Go.Cl Go.Cl.Uh
theorem qF {l:Sv Sq}{i:Sz}(h:i<l.length):l.drop i=l.getD i 0::l.drop (i+1):=by
 rw[S3 h];simp[List.getD,SE h]
theorem acd
  (s:J) (Q:Sx) (l:Sv Sq) (R M:So) (WK:(if R<0 then 0 else R)=M) (WL:az s 1 Q l.length (aM l)) (WU:l.length<=4000000):
  Runs Su aw 69 [Q,I R] s (iM s.Y s (gm M l (-1) []).1 (gm M l (-1) []).2):=by
 refine Runs.cS 74 Tryz.func69 rfl fun u a o WM=> ?_
 refine aW a WM @xX WK (aK fun d Wy e WV=> ?_);have⟨m,Wz⟩:=aO s.Y;rw[<-Wz] at Wy;refine aR a @SH.{0} @SN.{0} ?_;refine aZ.eO (fun WA u WB=>∃(i:Sz) (P:Sv Sq) (f h:So),WA=(if f=0 then l.length+1-i else 0)/\(f=0->i<=l.length/\P.length<=i/\h<16/\gm M (l.drop i) h P=gm M l (-1) [])/\(f≠0->gm M l (-1) []=([],f))/\h4 s.Y WB m P M f/\ad s.Y s WB/\u.e=74/\u.N 0=Q/\u.N 6=ab m 0 4/\u.N 7=I h/\u.N 8=I i)
  ⟨0,[],0,-1,rfl,fun _=>⟨Z,aA,Z,rfl⟩,fun h=>Sy rfl h,⟨_,Wy,.al,ay.al _,(by intro h;cases h),Z⟩,e,V a,V o,V Wz,aa,aa⟩ ?_
 rintro WA u d ⟨i,P,f,h,rfl,WC,WN,r,e,a,o,g,B,v⟩;have E:=WL.C e;have⟨WW,WO,WX,WY,WZ,W0⟩:=id r;have WD:=WO.o aB 2 4;have WE:(f=0->l.length<=i)->gm M l (-1) []=([],if f=0 then 2 else f):=by
  intro WG;by_cases n:f=0
  ·have⟨_,_,_,WH⟩:=WC n;rw[SG (WG n)] at WH;rw[<-WH,Sh n];rfl
  rw[Sf n];exact WN n
 by_cases WQ:i<l.length
 ·have H:(i:So)<l.length:=Z;by_cases K:f=0
  ·have⟨WG,W1,WR,b⟩:=WC K;subst K;rw[qF WQ] at b;have⟨w,WI⟩:=aO (l.getD i 0);rw[<-WI,gm] at b;have W2:=w.toNat_lt;have S:l.length+1-(i+1)<(if(0:So)=0 then l.length+1-i else 0):=by rw[Sh rfl];omega
   have WJ:0<(if(0:So)=0 then l.length+1-i else 0):=by rw[Sh rfl];omega
   refine mA a o g v (Sp H) (E.g Se) @hG WD (E.pY Se bw) (E.pX de) @dn WI.symm (dH SB Sr) ?_;refine(u3 d _).b ?_;rintro _ d ⟨rfl,rfl⟩;by_cases x:dr w.toNat=true
   ·rw[Sh x] at b;refine aR a v x ?_;refine aH (l.length+1-(i+1)) S ⟨i+1,P,0,h,rfl,fun _=>⟨Z,Z,WR,b⟩,fun h=>Sy rfl h,r,e,V a,V o,V g,V B,aa⟩
   rw[Sf x] at b;simp only[SM] at x;by_cases F:(w.toNat:So)=62
   ·rw[Sh F] at b;by_cases y:h<0
    ·have T:¬0<=h:=Z;rw[Sh y] at b;refine cl a g B x (Sp F) T ((jl s.Y d m P M _ r).b ?_);rintro _ U ⟨W,rfl,c,p,q⟩;simp(disch:=omega)only[aI,cO,b6,Si,Sg,↓Sn,a,bm,Sl,Sj,Sk,<-b,SQ];exact⟨_,rfl,c,p,e.a q⟩
    have T:0<=h:=Z;rw[Sf y] at b;obtain⟨t,rfl⟩:∃t:Sz,h=t:=⟨h.toNat,Z⟩
    rw[SC] at b;have X:((t:So)*16)%256=((qp (t*16)).toNat:So):=by rw[x3 Z];omega
    refine cX a g B x (Sp F) (Sp T) (dH Sr SB) @gz X ((qn s.Y d m P M 0 _ r Z).b ?_);rintro _ z ⟨j,k⟩;refine aq a g ((jl s.Y z m _ M _ j).b ?_);rintro _ U ⟨W,rfl,c,p,q⟩;by_cases G:M-(P.length:So)<1
    ·have A:M<=P.length:=Z;rw[Sh G] at b;simp only[A,true_and,Td,show¬(7:So)=0 from ai,SX] at c;simp(disch:=omega)only[aI,cO,b6,Si,Sg,↓Sn,a,bm,Sl,Sj,Sk,A,<-b,SQ];exact⟨_,rfl,c,p,e.a (k.a q)⟩
    have A:¬M<=P.length:=Z;have WS:(P.length:So)<M:=Z;rw[Sf G] at b;simp only[A,WS,and_false,and_true,Td,SX] at c;simp(disch:=omega)only[aI,cO,b6,Si,Sg,↓Sn,a,bm,Sl,Sj,Sk,A,and_false,<-b,SQ];exact⟨_,rfl,c,p,e.a (k.a q)⟩
   rw[Sf F] at b;refine aR a x F ((AW d _).b ?_);rintro _ d ⟨rfl,rfl⟩;have WT:=IA w.toNat;by_cases D:kZ w.toNat<0
   ·rw[Sh D] at b;refine aR a g (Sp D) ((jk s.Y d m P M 0 4 r).b ?_);rintro _ z ⟨j,k⟩;refine aq a v ?_;rw[Sh rfl] at j;refine aH 0 WJ ⟨i+1,P,4,h,rfl,fun h=>Sy h ai,fun _=>b.symm,j,e.a k,V a,V o,V g,V B,aa⟩
   rw[Sf D] at b;by_cases y:h<0
   ·rw[Sh y] at b;refine aW a B D (Sp y) ((AW d _).b ?_);rintro _ d ⟨rfl,rfl⟩;refine aq a v ?_;refine aH (l.length+1-(i+1)) S ⟨i+1,P,0,_,rfl,fun _=>⟨Z,Z,WT,b⟩,fun h=>Sy rfl h,r,e,V a,V o,V g,aa,aa⟩
   rw[Sf y] at b;obtain⟨t,rfl⟩:∃t:Sz,h=t:=⟨h.toNat,Z⟩
   obtain⟨L,O⟩:∃L:Sz,kZ w.toNat=L:=⟨(kZ w.toNat).toNat,Z⟩
   rw[O,SC,SC] at b;rw[O] at D;have X:((t:So)*16+(L:So))%256=((qp (t*16+L)).toNat:So):=by rw[x3 Z];omega
   refine cl a g B O D y ((AW d _).b ?_);rintro _ d ⟨rfl,rfl⟩;refine bp a O (dH Sr SB) @gz X ((qn s.Y d m P M 0 _ r Z).b ?_);rintro _ z ⟨j,k⟩;refine aq a v ?_;by_cases G:M-(P.length:So)<1
   ·have A:M<=P.length:=Z;rw[Sh G] at b;rw[Sh (show(0:So)=0/\M<=P.length from⟨rfl,A⟩),Sf Z] at j;refine aH 0 WJ ⟨i+1,P,7,-1,rfl,fun h=>Sy h ai,fun _=>b.symm,j,e.a k,V a,V o,V g,aa,aa⟩
   rw[Sf G] at b;rw[Sh (show(0:So)=0/\(P.length:So)<M from⟨rfl,Z⟩),Sf Z] at j;refine aH (l.length+1-(i+1)) S ⟨i+1,_,0,-1,rfl,fun _=>⟨Z,by simp;omega,Z,b⟩,fun h=>Sy rfl h,j,e.a k,V a,V o,V g,aa,aa⟩
  refine cX a o g v (Sp H) (E.g Se) @hG WD K ((jk s.Y d m P M f 2 r).b ?_);rintro _ z ⟨j,k⟩;refine aq a g ((jl s.Y z m P M _ j).b ?_);rintro _ U ⟨W,rfl,c,p,q⟩;simp(disch:=omega)only[aI,cO,b6,Si,Sg,↓Sn,a,bm,Sl,Sj,Sk,SQ];rw[WE (fun h=>Sy h K)];by_cases n:f=0
  ·simp only[n,Td,show¬(2:So)=0 from ai,SX] at c|-
   exact⟨_,rfl,c,p,e.a (k.a q)⟩
  simp only[n,SX] at c|-
  exact⟨_,rfl,c,p,e.a (k.a q)⟩
 have H:¬(i:So)<l.length:=Z;refine cl a o g v H (E.g Se) ((jk s.Y d m P M f 2 r).b ?_);rintro _ z ⟨j,k⟩;refine aq a g ((jl s.Y z m P M _ j).b ?_);rintro _ U ⟨W,rfl,c,p,q⟩;simp(disch:=omega)only[aI,cO,b6,Si,Sg,↓Sn,a,bm,Sl,Sj,Sk,SQ];rw[WE (fun _=>Z)];by_cases n:f=0
 ·simp only[n,Td,show¬(2:So)=0 from ai,SX] at c|-
  exact⟨_,rfl,c,p,e.a (k.a q)⟩
 simp only[n,SX] at c|-
 exact⟨_,rfl,c,p,e.a (k.a q)⟩
theorem ace (P:Program)(t:TypeId)(a:IntKind)(x k:Sz)(h:k<=24):bN P .shr t (.int .u64 x) (.int a (k:Sz))=some (.int .u64 ((x/2^k:Sz):So)):=by
 rw[nc P t .u64 _ _ a Z];have e:min ((k:Sz):So).toNat IntKind.u64.bits=k:=by
  have:IntKind.u64.bits=64:=rfl;rw[this,SC];omega
 rw[e,Int.fdiv_eq_ediv_of_nonneg _ (by exact Int.pow_nonneg Z)]
 norm_cast
theorem acf (x k:Sz)(h:k<4):(lE x).getD k 0=SW (x/2^(24-8*k)):=by
 obtain rfl|rfl|rfl|rfl:k=0\/k=1\/k=2\/k=3:=Z
 all_goals simp[lE]
def acg (a:Sz)(s:J)(j:Sz)(M:So)(z:Sv Sq×So)(b:J):Prop:=
 (∃c,h4 a b j c M z.2/\(z.2=0->c=z.1))/\ad a s b
theorem KK (i:Sz)(s:J)(j:Sz)(P:Sv Sq)(M:So)(g:Sv Sz)(F:Sx)(W:h4 i s j P M 0)(G:az s 1 F g.length (ma 0 g))(H:∀WM∈g,WM<85)(Xj:2<=g.length)(Xk:g.length<=5)(Xl:P.length<=2147483648):
  Runs Su aw 103 [ab j 0 4,F] s fun _ WN=>acg i s j M (iN M g (g.length-1) P) WN:=by
 refine Runs.cS 46 Tryz.func103 rfl fun X u K v=> ?_
 refine aR u v (G.g St) ?_;refine aZ.w (fun WO l WQ=>∃w:Sz,WO=5-w/\w<=5/\WQ=s/\l.e=46/\l.N 0=ab j 0 4/\l.N 1=F/\l.N 4=I g.length/\l.N 5= .int .u64 (fX g w)/\l.N 6=I w)
  (fun WR y WS=>WR= .bb 0/\WS=s/\y.e=46/\y.N 0=ab j 0 4/\y.N 4=I g.length/\y.N 5= .int .u64 (fX g 5))
  ⟨0,rfl,Z,rfl,V u,V K,V v,aa,aa,aa⟩ ?_ ?_
 ·clear u K v X;rintro Xm WT Xn Xo Xp ⟨a,rfl,Xq,WU,m,L,O,b,c,Q⟩;subst WU;by_cases Xr:a<5
  ·have Wy:(a:So)<5:=Z;have Xs:fX g a<52200626:=by
    have:=u4 H a;have Xt:85^a<=85^4:=SU Z Z;have Xu:(85:Sz)^4=52200625:=by decide
    omega
   by_cases z:a<g.length
   ·have⟨Wz,R⟩:=aO (g.getD a 84);have Xv:Wz<85:=by rw[R,SA,SE z];exact H _ (Ta z)
    have WV:((fX g a:Sz):So)*85+(Wz:So)=((fX g (a+1):Sz):So):=by simp only[fX];rw[<-R];omega
    refine kP m O b c Q (Sp Wy) z (G.pY St aQ) (G.pX aB) @ID R.symm @Nat.add_zero (dH Sr S1) @u5 WV ?_;refine aH (5-(a+1)) Z ⟨a+1,rfl,Z,rfl,V m,V L,V O,V b,aa,aa⟩
   have WW:((fX g a:Sz):So)*85+84=((fX g (a+1):Sz):So):=by
    have:g.getD a 84=84:=by rw[SA,S6 Z];rfl
    simp only[fX];rw[this];omega
   refine cX m b c Q (Sp Wy) z (dH Sr S1) @u5 WW ?_;refine aH (5-(a+1)) Z ⟨a+1,rfl,Z,rfl,V m,V L,V O,V b,aa,aa⟩
  obtain rfl:a=5:=Z;refine aR m Q (Z:¬((5:Sz):So)<5) ?_;exact WT _ _ _ ⟨rfl,rfl,V m,V L,V b,V c⟩
 clear u K v X;rintro _ Xw WA ⟨rfl,WX,A,WB,b,c⟩;subst WX;have⟨x,WY⟩:=aO (fX g 5);have WZ:=u4 H 5;have Xx:(85:Sz)^5=4437053125:=by decide
 obtain⟨n,WC⟩:∃n,g.length=n+1:=⟨g.length-1,Z⟩
 rw[WC,Nat.add_sub_cancel];rw[WC] at b;unfold iN;rw[<-WY] at c WZ|-
 by_cases WD:4294967295<x
 ·have W0:(4294967295:So)<(x:So):=Z;simp only[Sh WD];refine aW A WB c (Sp W0) ((jk i WA j P M 0 4 W).b ?_);rintro _ Xy ⟨WE,W1⟩;refine bO A @Tb ?_;rw[Sh rfl] at WE;exact⟨⟨P,WE,fun W2=>Sy (show(4:So)=0 from W2) ai⟩,W1⟩
 have W3:¬(4294967295:So)<(x:So):=Z;simp only[Sf WD];refine aR A c W3 ?_;refine aZ.eO (fun W4 p WG=>∃(e:Sz) (S:Sv Sq) (B:So),W4=n-e/\e<=n/\h4 i WG j S M B/\ad i WA WG/\S.length<=P.length+e/\(B=0->S=P++(lE x).take e/\(e=0\/(e:So)<=M-P.length))/\(B≠0->B=7/\M-P.length<n)/\p.e=46/\p.N 0=ab j 0 4/\p.N 4=I ((n+1:Sz):So)/\p.N 5= .int .u64 x/\p.N 8=I e)
  ⟨0,P,0,rfl,Z,W,ad.p _ _,Z,fun _=>⟨aA,.inl rfl⟩,fun W5=>Sy rfl W5,V A,V WB,V b,V c,aa⟩ ?_
 rintro Xz XW W6 ⟨k,f,q,rfl,XX,r,t,XY,WH,WI,o,D,b,c,T⟩;have WJ:((n+1:Sz):So)-1=(n:So):=Z;by_cases WK:k<n
 ·have W7:(24:So)-8*(k:So)=((24-8*k:Sz):So):=Z;refine nS o D b c T WJ (Sp WK) W7 (dH Sr S8) @u5 @ace (dH S1 SB) @gz @IF ((qn i W6 j f M q (SW (x/2^(24-8*k))) r Z).b ?_);rintro _ XZ ⟨h,U⟩;refine aq o T ?_;rw[<-acf x k Z] at h;have W8:(lE x).take (k+1)=(lE x).take k++[(lE x).getD k 0]:=by
   have WL:k<(lE x).length:=by show k<4;omega
   rw[List.take_add_one,SE WL,SA,SE WL];rfl
  have W9:((lE x).take k).length=k:=by rw[SS];show min k 4=k;omega
  by_cases d:q=0
  ·have⟨E,X0⟩:=WH d;have X1:f.length=P.length+k:=by rw[E,Sm,W9]
   by_cases Xa:M<=f.length
   ·rw[Sf Z,Sh ⟨d,Xa⟩] at h;refine aH (n-(k+1)) Z ⟨k+1,f,7,rfl,Z,h,t.a U,Z,fun Xb=>Sy Xb ai,fun _=>⟨rfl,Z⟩,V o,V D,V b,V c,aa⟩
   rw[Sh ⟨d,Z⟩,Sf Z] at h;refine aH (n-(k+1)) Z ⟨k+1,_,q,rfl,Z,h,t.a U,by simp;omega,fun _=>⟨by rw[W8,E,S4],.inr Z⟩,fun Xc=>Sy d Xc,V o,V D,V b,V c,aa⟩
  rw[Sf (fun Xd=>d Xd.1),Sf (fun Xe=>d Xe.1)] at h;refine aH (n-(k+1)) Z ⟨k+1,f,q,rfl,Z,h,t.a U,Z,fun Xf=>Sy Xf d,WI,V o,V D,V b,V c,aa⟩
 obtain rfl:k=n:=Z;refine e8 o b T WJ WK @Tb ?_;by_cases d:q=0
 ·have⟨E,X2⟩:=WH d;rw[Sf Z];rw[d] at r;exact⟨⟨f,r,fun _=>E⟩,t⟩
 have⟨Xg,Xh⟩:=WI d;rw[Sh Xh];rw[Xg] at r;exact⟨⟨f,r,fun Xi=>Sy (show(7:So)=0 from Xi) ai⟩,t⟩
def r2 (a:Sz)(s:J)(j:Sz)(P:Sv Sq)(M b:So)(v:Sx):Prop:=
 ∃B,ae s j [B,I M,I b]/\ao s 1 B P.length (aM P)/\ay a B/\ak B≠some j/\a<=j/\∀k,ak v=some k->k≠j/\ak B≠some k
theorem r2.kT {a:Sz}{s:J}{j:Sz}{P:Sv Sq}{M b:So}{v:Sx}(h:r2 a s j P M b v):h4 a s j P M b:=by
 have⟨B,a,b,c,d,e,_⟩:=h;exact⟨B,a,b,c,d,e⟩
theorem h4.rZ {a:Sz}{s:J}{j:Sz}{P:Sv Sq}{M b:So}(h:h4 a s j P M b):r2 a s j P M b (av):=by
 have⟨B,a,b,c,d,e⟩:=h;exact⟨B,a,b,c,d,e,fun k e=>by cases e⟩
theorem r2.j {d:Sz}{s f:J}{j:Sz}{P:Sv Sq}{M g:So}{v b:Sx}(m:r2 d s j P M g v)(k:aF v s f)(n:ak b=ak v\/∃i,ak b=some i/\s.Y<=i):r2 d f j P M g b:=by
 have⟨B,h,l,o,p,r,c⟩:=m;refine⟨B,h.j k (fun e=>(c j e).1 rfl),l.j k (fun i e q=>(c i q).2 e),o,p,r,fun q a=> ?_⟩;rcases n with e|⟨i,e,u⟩
 ·exact c q (by rw[<-e];exact a)
 rw[e] at a;injection a with a
 exact⟨ag h.n,fun t=>ag (l.z q t)⟩
def k9 (b:So)(r:Sv Sq)(P:Sv Sq):Sv Sq×So:=
 if b≠0 then([],b) else if(cA r).1<0 then([],2) else if(cA r).1=62 then(P,0) else([],4)
theorem ach
  (s:J) (WA:Sx) (l:Sv Sq) (W9 M:So) (Ya:(if W9<0 then 0 else W9)=M) (Xa:az s 1 WA l.length (aM l)) (Yp:l.length<=4000000):
  Runs Su aw 70 [WA,I W9] s (iM s.Y s (dP M l [] []).1 (dP M l [] []).2):=by
 refine Runs.dY 123 Tryz.func70 rfl rfl rfl rfl ?_;intro f a Xt;have d:f.N 0=WA:=Xt 0;have Yb:f.N 1=I W9:=Xt 1;simp(disch:=omega)only[aI,bB,bC,Si,Sg,↓Sn,a,Yb,xX,Ya];refine aK ?_;intro X Xu D Yq;obtain⟨j,Xv⟩:∃j,j=s.Y:=⟨_,rfl⟩
 rw[<-Xv] at Xu;have Xw:h4 s.Y X j [] M 0:=⟨_,Xu,.al,ay.al _,(by intro q;cases q),by omega⟩;simp(disch:=omega)only[aI,Si,Nat.reduceAdd,↓Sn,a,SH,SN];refine aZ.eO (fun T f x=>∃(m:Sz) (P:Sv Sq) (n:So) (h:Sv Sz) (WB:Sx),T=(if n=0 then l.length+1-m else 0)/\(n=0->m<=l.length/\P.length<=4*m/\dP M (l.drop m) h P=dP M l [] []/\h.length<=4/\(∀Wy∈h,Wy<85)/\ao x 1 WB h.length (ma 0 h)/\ay s.Y WB/\r2 s.Y x j P M 0 WB/\(h=[]->WB=av))/\(n≠0->dP M l [] []=([],n))/\h4 s.Y x j P M n/\ad s.Y s x/\f.e=123/\f.N 0=WA/\f.N 6=ab j 0 4/\f.N 7=WB/\f.N 8=I m)
  ⟨0,[],0,[],av,rfl,fun _=>⟨Z,aA,rfl,aA,aA,.al,ay.al _,Xw.rZ,fun _=>rfl⟩,fun q=>Sy rfl q,Xw,D,V a,V d,V Xv,aa,aa⟩ ?_
 rintro T f X ⟨m,P,n,h,WB,rfl,Xx,WO,Wz,D,a,d,c,r,g⟩;have W1:=Xa.C D;have⟨Yr,Yc,Ys,Yt,Yu,Yv⟩:=id Wz;have Xy:=Yc.o aB 2 4;have Xz:(n=0->l.length<=m)->dP M l [] []=([],if n=0 then 2 else n):=by
  intro XW;by_cases WS:n=0
  ·have⟨_,_,XX,_⟩:=Xx WS;rw[SG (XW WS)] at XX;rw[<-XX,Sh WS];rfl
  rw[Sf WS];exact WO WS
 by_cases Yd:m<l.length
 ·have Xb:(m:So)<l.length:=Z;by_cases e:n=0
  ·have⟨XW,Yw,o,Ye,Xj,WQ,XY,XZ,X0⟩:=Xx e;subst e;rw[qF Yd] at o;have⟨WC,X1⟩:=aO (l.getD m 0);have⟨Q,WT⟩:=aO (l.drop (m+1));rw[<-X1,<-WT,dP] at o;have Xk:=WC.toNat_lt;have Xc:l.length+1-(m+1)<(if(0:So)=0 then l.length+1-m else 0):=by rw[Sh rfl];omega
   have W2:0<(if(0:So)=0 then l.length+1-m else 0):=by rw[Sh rfl];omega
   simp(disch:=omega)only[aI,bD,bB,Si,Sg,↓Sn,a,d,c,g,Sp Xb,W1.cd Se,hG,Xy,W1.r Se bw,W1.P de,dn,<-X1,gU SB Sr,cg];refine(u3 X _).b ?_;rintro _ X ⟨rfl,rfl⟩;by_cases i:dr WC.toNat=true
   ·rw[Sh i] at o;refine aR a g i ?_;refine aH (l.length+1-(m+1)) Xc ⟨m+1,P,0,h,WB,rfl,fun _=>⟨Z,Z,by rw[<-WT];exact o,Ye,Xj,WQ,XY,XZ,X0⟩,fun q=>Sy rfl q,Wz,D,V a,V d,V c,V r,aa⟩
   rw[Sf i] at o;simp only[SM] at i;by_cases WK:(WC.toNat:So)=126
   ·rw[Sh WK] at o;by_cases Xd:h.length=1
    ·have Xe:(h.length:So)=1:=Z;refine ch a c r i (Sp WK) (WQ.c.g St) (Sp Xe) ((jk s.Y X j P M 0 4 Wz).b ?_);rintro _ R ⟨t,A⟩;rw[Sh rfl] at t;have WR:=D.a A;have WD:dP M l [] []=k9 4 Q P:=by rw[<-o];unfold jn k9;rw[Sh Xd,Sh ai]
     refine bp a r g (WQ.c.g St) (Z:¬(1:So)<(h.length:So)) ?_;have k:=Xa.C WR;refine aZ.w (fun T f x=>∃b:Sz,T=l.length-b/\b<=l.length/\x=R/\cA (l.drop b)=cA Q/\f.e=123/\f.N 0=WA/\f.N 6=ab j 0 4/\f.N 8=I b)
      (fun y f x=>y= .bb 3/\x=R/\∃b:Sz,b<=l.length/\(b<l.length->dr (l.getD b 0).toNat=false)/\cA (l.drop b)=cA Q/\f.e=123/\f.N 0=WA/\f.N 6=ab j 0 4/\f.N 8=I b)
      ⟨m+1,rfl,Z,rfl,by rw[WT],V a,V d,V c,aa⟩ ?_ ?_
     ·clear a d c r g f;rintro Xl WL T f B ⟨b,rfl,WE,WG,v,a,d,c,g⟩;subst WG;by_cases E:b<l.length
      ·have u:(b:So)<l.length:=Z;have G:=qF E;have⟨H,w⟩:=aO (l.getD b 0);have Xk:=H.toNat_lt;simp(disch:=omega)only[aI,bD,bB,Si,Sg,↓Sn,a,d,g,Sp u,k.cd Se,k.r Se bw,k.P de,dn,<-w,gU SB Sr,cg];refine(u3 B _).b ?_;rintro _ B ⟨rfl,rfl⟩;by_cases i:dr H.toNat=true
       ·refine aR a g i ?_;rw[<-w] at G;refine aH (l.length-(b+1)) Z ⟨b+1,rfl,Z,rfl,?_,V a,V d,V c,aa⟩;rw[G] at v;rw[<-v];simp only[cA];rw[Sh i]
       simp only[SM] at i;refine aq a i ?_;exact WL _ _ _ ⟨rfl,rfl,b,WE,fun _=>by rw[<-w];exact i,v,V a,V d,V c,V g⟩
      have u:¬(b:So)<l.length:=Z;refine bp a d g u (k.g Se) ?_;exact WL _ _ _ ⟨rfl,rfl,b,WE,fun q=>Sy q E,v,V a,V d,V c,V g⟩
     clear a d c r g f;rintro _ f B ⟨rfl,WG,b,WE,W3,v,a,d,c,g⟩;subst WG;by_cases E:b<l.length
     ·have u:¬(l.length:So)<=b:=Z;have G:=qF E;have i:=W3 E;have⟨H,w⟩:=aO (l.getD b 0);rw[<-w] at G i;have WH:(cA Q).1=(H.toNat:So):=by
       rw[<-v,G];simp only[cA];rw[Sf (by rw[i];decide)]
      by_cases U:(H.toNat:So)=62
      ·simp(disch:=omega)only[aI,bD,bB,Si,Sg,↓Sn,a,d,c,g,SK u,k.cd Se,k.r Se bw,k.P de,dn,<-w,Sp U];refine(jl s.Y B j P M (4:So) t).b ?_;rintro _ W ⟨WM,rfl,p,z,K⟩;simp(disch:=omega)only[aI,cO,b6,Si,Sg,↓Sn,a,bm,Sl,Sj,Sk,SD];have L:dP M l [] []=(if(4:So)=0 then P else [],(4:So)):=by
        rw[WD];unfold k9
        by_cases e:(4:So)=0
        ·rw[Sf (by simp[e]),Sf Z,Sh (by rw[WH];exact U),Sh e,e]
        rw[Sh e,Sf e]
       rw[L];exact⟨_,rfl,p,z,(WR).a K⟩
      simp(disch:=omega)only[aI,bD,bB,Si,Sg,↓Sn,a,d,c,g,SK u,k.cd Se,k.r Se bw,k.P de,dn,<-w,SK U];refine(jk s.Y B j P M (4:So) 4 t).b ?_;rintro _ W ⟨WI,K⟩;refine aq a c ((jl s.Y W j P M _ WI).b ?_);rintro _ W4 ⟨WM,rfl,p,z,WJ⟩;simp(disch:=omega)only[aI,cO,b6,Si,Sg,↓Sn,a,bm,Sl,Sj,Sk,SD];have L:dP M l [] []=([],if(4:So)=0 then 4 else(4:So)):=by
       rw[WD];unfold k9
       by_cases e:(4:So)=0
       ·rw[Sf (by simp[e]),Sf Z,Sf (by rw[WH];exact U),Sh e]
       rw[Sh e,Sf e]
      rw[L];rw[Sf (show¬(if(4:So)=0 then(4:So) else(4:So))=0 by split<;>omega)] at p;exact⟨_,rfl,p,z,(WR).a (K.a WJ)⟩
     have u:(l.length:So)<=b:=Z;have WH:(cA Q).1= -1:=by rw[<-v,SG Z];rfl
     refine cl a d c g (Sp u) (k.g Se) ((jk s.Y B j P M (4:So) 2 t).b ?_);rintro _ W ⟨WI,K⟩;refine aq a c ((jl s.Y W j P M _ WI).b ?_);rintro _ W4 ⟨WM,rfl,p,z,WJ⟩;simp(disch:=omega)only[aI,cO,b6,Si,Sg,↓Sn,a,bm,Sl,Sj,Sk,SD];have L:dP M l [] []=([],if(4:So)=0 then 2 else(4:So)):=by
      rw[WD];unfold k9
      by_cases e:(4:So)=0
      ·rw[Sf (by simp[e]),Sh Z,Sh e]
      rw[Sh e,Sf e]
     rw[L];rw[Sf (show¬(if(4:So)=0 then(2:So) else(4:So))=0 by split<;>omega)] at p;exact⟨_,rfl,p,z,(WR).a (K.a WJ)⟩
    have Xe:¬(h.length:So)=1:=Z;by_cases Xf:1<h.length
    ·have Xm:(1:So)<(h.length:So):=Z;refine c1 a c r i (Sp WK) (WQ.c.g St) Xe (Sp Xm) ((KK s.Y X j P M h WB Wz WQ.c Xj Z Z Z).b ?_);rintro _ R ⟨⟨WN,t,WW⟩,A⟩;have WR:=D.a A;have⟨y,W5⟩:=aO (iN M h (h.length-1) P);rw[<-W5] at t WW;have WD:dP M l [] []=k9 y.2 Q WN:=by
      rw[<-o];unfold jn k9
      by_cases W6:y.2=0
      ·have Yf:¬(1<h.length/\y.2≠0):=by simp[W6]
       rw[Sf Xd,<-W5,Sf Yf,Sf (show¬(y.2≠0) by simp[W6]),Sh Xf,WW W6]
      rw[Sf Xd,<-W5,Sh ⟨Xf,W6⟩,Sh W6]
     refine aq a g ?_;have k:=Xa.C WR;refine aZ.w (fun T f x=>∃b:Sz,T=l.length-b/\b<=l.length/\x=R/\cA (l.drop b)=cA Q/\f.e=123/\f.N 0=WA/\f.N 6=ab j 0 4/\f.N 8=I b)
      (fun y f x=>y= .bb 3/\x=R/\∃b:Sz,b<=l.length/\(b<l.length->dr (l.getD b 0).toNat=false)/\cA (l.drop b)=cA Q/\f.e=123/\f.N 0=WA/\f.N 6=ab j 0 4/\f.N 8=I b)
      ⟨m+1,rfl,Z,rfl,by rw[WT],V a,V d,V c,aa⟩ ?_ ?_
     ·clear a d c r g f;rintro Xl WL T f B ⟨b,rfl,WE,WG,v,a,d,c,g⟩;subst WG;by_cases E:b<l.length
      ·have u:(b:So)<l.length:=Z;have G:=qF E;have⟨H,w⟩:=aO (l.getD b 0);have Xk:=H.toNat_lt;simp(disch:=omega)only[aI,bD,bB,Si,Sg,↓Sn,a,d,g,Sp u,k.cd Se,k.r Se bw,k.P de,dn,<-w,gU SB Sr,cg];refine(u3 B _).b ?_;rintro _ B ⟨rfl,rfl⟩;by_cases i:dr H.toNat=true
       ·refine aR a g i ?_;rw[<-w] at G;refine aH (l.length-(b+1)) Z ⟨b+1,rfl,Z,rfl,?_,V a,V d,V c,aa⟩;rw[G] at v;rw[<-v];simp only[cA];rw[Sh i]
       simp only[SM] at i;refine aq a i ?_;exact WL _ _ _ ⟨rfl,rfl,b,WE,fun _=>by rw[<-w];exact i,v,V a,V d,V c,V g⟩
      have u:¬(b:So)<l.length:=Z;refine bp a d g u (k.g Se) ?_;exact WL _ _ _ ⟨rfl,rfl,b,WE,fun q=>Sy q E,v,V a,V d,V c,V g⟩
     clear a d c r g f;rintro _ f B ⟨rfl,WG,b,WE,W3,v,a,d,c,g⟩;subst WG;by_cases E:b<l.length
     ·have u:¬(l.length:So)<=b:=Z;have G:=qF E;have i:=W3 E;have⟨H,w⟩:=aO (l.getD b 0);rw[<-w] at G i;have WH:(cA Q).1=(H.toNat:So):=by
       rw[<-v,G];simp only[cA];rw[Sf (by rw[i];decide)]
      by_cases U:(H.toNat:So)=62
      ·simp(disch:=omega)only[aI,bD,bB,Si,Sg,↓Sn,a,d,c,g,SK u,k.cd Se,k.r Se bw,k.P de,dn,<-w,Sp U];refine(jl s.Y B j WN M y.2 t).b ?_;rintro _ W ⟨WM,rfl,p,z,K⟩;simp(disch:=omega)only[aI,cO,b6,Si,Sg,↓Sn,a,bm,Sl,Sj,Sk,SD];have L:dP M l [] []=(if y.2=0 then WN else [],y.2):=by
        rw[WD];unfold k9
        by_cases e:y.2=0
        ·rw[Sf (by simp[e]),Sf Z,Sh (by rw[WH];exact U),Sh e,e]
        rw[Sh e,Sf e]
       rw[L];exact⟨_,rfl,p,z,(WR).a K⟩
      simp(disch:=omega)only[aI,bD,bB,Si,Sg,↓Sn,a,d,c,g,SK u,k.cd Se,k.r Se bw,k.P de,dn,<-w,SK U];refine(jk s.Y B j WN M y.2 4 t).b ?_;rintro _ W ⟨WI,K⟩;refine aq a c ((jl s.Y W j WN M _ WI).b ?_);rintro _ W4 ⟨WM,rfl,p,z,WJ⟩;simp(disch:=omega)only[aI,cO,b6,Si,Sg,↓Sn,a,bm,Sl,Sj,Sk,SD];have L:dP M l [] []=([],if y.2=0 then 4 else y.2):=by
       rw[WD];unfold k9
       by_cases e:y.2=0
       ·rw[Sf (by simp[e]),Sf Z,Sf (by rw[WH];exact U),Sh e]
       rw[Sh e,Sf e]
      rw[L];rw[Sf (show¬(if y.2=0 then(4:So) else y.2)=0 by split<;>omega)] at p;exact⟨_,rfl,p,z,(WR).a (K.a WJ)⟩
     have u:(l.length:So)<=b:=Z;have WH:(cA Q).1= -1:=by rw[<-v,SG Z];rfl
     refine cl a d c g (Sp u) (k.g Se) ((jk s.Y B j WN M y.2 2 t).b ?_);rintro _ W ⟨WI,K⟩;refine aq a c ((jl s.Y W j WN M _ WI).b ?_);rintro _ W4 ⟨WM,rfl,p,z,WJ⟩;simp(disch:=omega)only[aI,cO,b6,Si,Sg,↓Sn,a,bm,Sl,Sj,Sk,SD];have L:dP M l [] []=([],if y.2=0 then 2 else y.2):=by
      rw[WD];unfold k9
      by_cases e:y.2=0
      ·rw[Sf (by simp[e]),Sh Z,Sh e]
      rw[Sh e,Sf e]
     rw[L];rw[Sf (show¬(if y.2=0 then(2:So) else y.2)=0 by split<;>omega)] at p;exact⟨_,rfl,p,z,(WR).a (K.a WJ)⟩
    have Xm:¬(1:So)<(h.length:So):=Z;have WD:dP M l [] []=k9 0 Q P:=by
     rw[<-o];unfold jn k9
     rw[Sf Xd,Sf (show¬(1<h.length/\(iN M h (h.length-1) P).2≠0) by simp[Xf]),Sf (show¬((0:So)≠0) by simp),Sf Xf]
    refine c1 a r g i (Sp WK) (WQ.c.g St) Xe Xm ?_;have k:=Xa.C D;refine aZ.w (fun T f x=>∃b:Sz,T=l.length-b/\b<=l.length/\x=X/\cA (l.drop b)=cA Q/\f.e=123/\f.N 0=WA/\f.N 6=ab j 0 4/\f.N 8=I b)
     (fun y f x=>y= .bb 3/\x=X/\∃b:Sz,b<=l.length/\(b<l.length->dr (l.getD b 0).toNat=false)/\cA (l.drop b)=cA Q/\f.e=123/\f.N 0=WA/\f.N 6=ab j 0 4/\f.N 8=I b)
     ⟨m+1,rfl,Z,rfl,by rw[WT],V a,V d,V c,aa⟩ ?_ ?_
    ·clear a d c r g f;rintro Xl WL T f B ⟨b,rfl,WE,WG,v,a,d,c,g⟩;subst WG;by_cases E:b<l.length
     ·have u:(b:So)<l.length:=Z;have G:=qF E;have⟨H,w⟩:=aO (l.getD b 0);have Xk:=H.toNat_lt;simp(disch:=omega)only[aI,bD,bB,Si,Sg,↓Sn,a,d,g,Sp u,k.cd Se,k.r Se bw,k.P de,dn,<-w,gU SB Sr,cg];refine(u3 B _).b ?_;rintro _ B ⟨rfl,rfl⟩;by_cases i:dr H.toNat=true
      ·refine aR a g i ?_;rw[<-w] at G;refine aH (l.length-(b+1)) Z ⟨b+1,rfl,Z,rfl,?_,V a,V d,V c,aa⟩;rw[G] at v;rw[<-v];simp only[cA];rw[Sh i]
      simp only[SM] at i;refine aq a i ?_;exact WL _ _ _ ⟨rfl,rfl,b,WE,fun _=>by rw[<-w];exact i,v,V a,V d,V c,V g⟩
     have u:¬(b:So)<l.length:=Z;refine bp a d g u (k.g Se) ?_;exact WL _ _ _ ⟨rfl,rfl,b,WE,fun q=>Sy q E,v,V a,V d,V c,V g⟩
    clear a d c r g f;rintro _ f B ⟨rfl,WG,b,WE,W3,v,a,d,c,g⟩;subst WG;by_cases E:b<l.length
    ·have u:¬(l.length:So)<=b:=Z;have G:=qF E;have i:=W3 E;have⟨H,w⟩:=aO (l.getD b 0);rw[<-w] at G i;have WH:(cA Q).1=(H.toNat:So):=by
      rw[<-v,G];simp only[cA];rw[Sf (by rw[i];decide)]
     by_cases U:(H.toNat:So)=62
     ·refine jG a d c g u (k.g Se) (k.pY Se bw) (k.pX de) @dn w.symm (Sp U) ?_;refine(jl s.Y B j P M (0:So) Wz).b ?_;rintro _ W ⟨WM,rfl,p,z,K⟩;simp(disch:=omega)only[aI,cO,b6,Si,Sg,↓Sn,a,bm,Sl,Sj,Sk,SD];have L:dP M l [] []=(if(0:So)=0 then P else [],(0:So)):=by
       rw[WD];unfold k9
       by_cases e:(0:So)=0
       ·rw[Sf (by simp[]),Sf Z,Sh (by rw[WH];exact U),Sh e,e]
       rw[Sh e,Sf e]
      rw[L];exact⟨_,rfl,p,z,(D).a K⟩
     simp(disch:=omega)only[aI,bD,bB,Si,Sg,↓Sn,a,d,c,g,SK u,k.cd Se,k.r Se bw,k.P de,dn,<-w,SK U];refine(jk s.Y B j P M (0:So) 4 Wz).b ?_;rintro _ W ⟨WI,K⟩;refine aq a c ((jl s.Y W j P M _ WI).b ?_);rintro _ W4 ⟨WM,rfl,p,z,WJ⟩;simp(disch:=omega)only[aI,cO,b6,Si,Sg,↓Sn,a,bm,Sl,Sj,Sk,SD];have L:dP M l [] []=([],if(0:So)=0 then 4 else(0:So)):=by
      rw[WD];unfold k9
      by_cases e:(0:So)=0
      ·rw[Sf (by simp[]),Sf Z,Sf (by rw[WH];exact U),Sh e]
      rw[Sh e,Sf e]
     rw[L];rw[Sf (show¬(if(0:So)=0 then(4:So) else(0:So))=0 by split<;>omega)] at p;exact⟨_,rfl,p,z,(D).a (K.a WJ)⟩
    have u:(l.length:So)<=b:=Z;have WH:(cA Q).1= -1:=by rw[<-v,SG Z];rfl
    refine cl a d c g (Sp u) (k.g Se) ((jk s.Y B j P M (0:So) 2 Wz).b ?_);rintro _ W ⟨WI,K⟩;refine aq a c ((jl s.Y W j P M _ WI).b ?_);rintro _ W4 ⟨WM,rfl,p,z,WJ⟩;simp(disch:=omega)only[aI,cO,b6,Si,Sg,↓Sn,a,bm,Sl,Sj,Sk,SD];have L:dP M l [] []=([],if(0:So)=0 then 2 else(0:So)):=by
     rw[WD];unfold k9
     by_cases e:(0:So)=0
     ·rw[Sf (by simp[]),Sh Z,Sh e]
     rw[Sh e,Sf e]
    rw[L];rw[Sf (show¬(if(0:So)=0 then(2:So) else(0:So))=0 by split<;>omega)] at p;exact⟨_,rfl,p,z,(D).a (K.a WJ)⟩
   rw[Sf WK] at o;by_cases Xn:(WC.toNat:So)=122/\h=[]
   ·obtain⟨WU,rfl⟩:=Xn;rw[Sh ⟨WU,rfl⟩] at o;have Yg:=X0 rfl;simp(disch:=omega)only[aI,bD,bB,Si,Sg,↓Sn,a,r,i,SK WK,Sp WU,WQ.c.cd St,SN,Int.natCast_zero];subst Yg;refine aZ.w (fun T f x=>∃(F:Sz) (S:Sv Sq) (n:So),T=4-F/\F<=4/\h4 s.Y x j S M n/\ad s.Y s x/\S.length<=P.length+F/\(n=0->S=P++Tg F 0/\(F=0\/(F:So)<=M-P.length))/\(n≠0->n=7/\M-P.length<4)/\f.e=123/\f.N 0=WA/\f.N 6=ab j 0 4/\f.N 7=av/\f.N 8=I m/\f.N 10=I F)
     (fun y f x=>y= .bb 5/\∃(S:Sv Sq) (n:So),h4 s.Y x j S M n/\ad s.Y s x/\(n=0->S=P++Tg 4 0/\(4:So)<=M-P.length)/\(n≠0->n=7/\M-P.length<4)/\f.e=123/\f.N 0=WA/\f.N 6=ab j 0 4/\f.N 7=av/\f.N 8=I m)
     ⟨0,P,0,rfl,Z,Wz,D,Z,fun _=>⟨aA,.inl rfl⟩,fun O=>Sy rfl O,V a,V d,V c,V r,V g,aa⟩ ?_ ?_
    ·clear a d c r g f;rintro Xl WL T f R ⟨F,S,n,rfl,Yx,t,A,Yy,W7,Xg,a,d,c,r,g,Xo⟩;by_cases Yz:F<4
     ·have Yh:(F:So)<4:=Z;refine aW a c Xo (Sp Yh) ((qn s.Y R j S M n 0 t Z).b ?_);rintro _ Xh ⟨WY,WV⟩;refine aq a Xo ?_;have WZ:=A.a WV;by_cases e:n=0
      ·have⟨X2,YA⟩:=W7 e;have E:S.length=P.length+F:=by rw[X2,Sm,S7]
       by_cases Yi:M<=S.length
       ·rw[Sf Z,Sh ⟨e,Yi⟩] at WY;refine aH (4-(F+1)) Z ⟨F+1,S,7,rfl,Z,WY,WZ,Z,fun O=>Sy O ai,fun _=>⟨rfl,Z⟩,V a,V d,V c,V r,V g,aa⟩
       rw[Sh ⟨e,Z⟩,Sf Z] at WY;refine aH (4-(F+1)) Z ⟨F+1,_,n,rfl,Z,WY,WZ,by simp;omega,fun _=>⟨by rw[X2,List.replicate_succ',S4],.inr Z⟩,fun O=>Sy e O,V a,V d,V c,V r,V g,aa⟩
      rw[Sf (fun O=>e O.1),Sf (fun O=>e O.1)] at WY;refine aH (4-(F+1)) Z ⟨F+1,S,n,rfl,Z,WY,WZ,Z,fun O=>Sy O e,Xg,V a,V d,V c,V r,V g,aa⟩
     obtain rfl:F=4:=Z;refine aR a Xo (Z:¬((4:Sz):So)<4) ?_;exact WL _ _ _ ⟨rfl,S,n,t,A,fun O=>⟨(W7 O).1,ag ((W7 O).2)⟩,Xg,V a,V d,V c,V r,V g⟩
    clear a d c r g f;rintro _ f R ⟨rfl,S,n,t,A,W7,Xg,a,d,c,r,g⟩;refine aq a g ?_;by_cases e:n=0
    ·obtain⟨rfl,X3⟩:=W7 e;subst e;rw[Sf Z] at o;refine aH (l.length+1-(m+1)) Xc ⟨m+1,_,0,[],av,rfl,fun _=>⟨Z,by simp;omega,by rw[<-WT];exact o,aA,aA,.al,ay.al _,t.rZ,fun _=>rfl⟩,fun q=>Sy rfl q,t,A,V a,V d,V c,V r,aa⟩
    obtain⟨rfl,X3⟩:=Xg e;rw[Sh X3] at o;refine aH 0 W2 ⟨m+1,S,7,[],av,rfl,fun q=>Sy q ai,fun _=>o.symm,t,A,V a,V d,V c,V r,aa⟩
   rw[Sf Xn] at o;by_cases WU:(WC.toNat:So)=122
   ·have Xi:¬(h.length:So)=0:=fun O=>Xn ⟨WU,SY Z⟩
    rw[Sh Z] at o;refine gY a c r i WK (Sp WU) (WQ.c.g St) Xi (Z:¬(WC.toNat:So)<33) (Sp (Z:(117:So)<WC.toNat)) ((jk s.Y X j P M 0 4 Wz).b ?_);rintro _ R ⟨t,A⟩;rw[Sh rfl] at t;refine aq a g ?_;refine aH 0 W2 ⟨m+1,P,4,h,WB,rfl,fun q=>Sy q ai,fun _=>o.symm,t,D.a A,V a,V d,V c,V r,aa⟩
   by_cases Xp:(WC.toNat:So)<33
   ·rw[Sh Z] at o;refine cl a c i WK WU (Sp Xp) ((jk s.Y X j P M 0 4 Wz).b ?_);rintro _ R ⟨t,A⟩;rw[Sh rfl] at t;refine aq a g ?_;refine aH 0 W2 ⟨m+1,P,4,h,WB,rfl,fun q=>Sy q ai,fun _=>o.symm,t,D.a A,V a,V d,V c,V r,aa⟩
   by_cases X4:(117:So)<WC.toNat
   ·rw[Sh Z] at o;refine ch a c i WK WU Xp (Sp X4) ((jk s.Y X j P M 0 4 Wz).b ?_);rintro _ R ⟨t,A⟩;rw[Sh rfl] at t;refine aq a g ?_;refine aH 0 W2 ⟨m+1,P,4,h,WB,rfl,fun q=>Sy q ai,fun _=>o.symm,t,D.a A,V a,V d,V c,V r,aa⟩
   rw[Sf Z] at o;have⟨Wy,Yj⟩:=aO (WC.toNat-33);rw[<-Yj] at o;simp(disch:=omega)only[aI,bD,bC,Si,Sg,↓Sn,a,r,i,SK WK,SK WU,SK Xp,SK X4,(show(WC.toNat:So)-33=((Wy+0:Sz):So) by omega),cg,gh St aQ gj];refine ll St aQ nj gj rfl WQ (V r) ai (by simp only[dG,a];decide) (by simp only[dG,a];decide) (by rfl) ai rfl Z Z XY D.Y ?_;intro YB X5 Xh WX Yk WV Yl Ym;have Yn:ma 0 h++[I ((Wy+0:Sz):So)]=ma 0 (h++[Wy]):=by
    simp only[ma,List.map_append,Ti,Tj]
   rw[Yn] at WX;have X6:∀Xq∈h++[Wy],Xq<85:=fun Xq W8=>by
    rcases Tc.mp W8 with W8|W8
    ·exact Xj Xq W8
    rw[S9.mp W8];exact(Z:Wy<85)
   have Xi:(h++[Wy]).length=h.length+1:=by simp
   have Xr:=XZ.j Yl Ym;have WZ:=D.a WV;by_cases X7:h.length=4
   ·have Xs:((h.length+1:Sz):So)=5:=Z;rw[Sh X7] at o;refine aW a c (WX.c.g St) (Sp Xs) ?_;rw[<-Xi] at WX;refine(KK s.Y Xh j P M (h++[Wy]) X5 Xr.kT WX.c X6 Z Z Z).b ?_;rintro _ YC ⟨⟨WN,W0,WW⟩,Yo⟩;have X8:=WZ.a Yo;have X9:=IJ M (h++[Wy]) 4 P Z;rw[(Z:(h++[Wy]).length-1=4)] at W0 WW;have⟨y,W5⟩:=aO (iN M (h++[Wy]) 4 P);rw[<-W5] at W0 WW X9 o;refine aq a g ?_;by_cases WO:y.2=0
    ·rw[Sh WO,<-WW WO] at o;rw[WO] at W0;rw[<-WW WO] at X9;refine aH (l.length+1-(m+1)) Xc ⟨m+1,WN,0,[],av,rfl,fun _=>⟨Z,Z,by rw[<-WT];exact o,aA,aA,.al,ay.al _,W0.rZ,fun _=>rfl⟩,fun q=>Sy rfl q,W0,X8,V a,V d,V c,aa,aa⟩
    rw[Sf WO] at o;refine aH 0 W2 ⟨m+1,WN,y.2,[],av,by rw[Sf WO],fun q=>Sy q WO,fun _=>o.symm,W0,X8,V a,V d,V c,aa,aa⟩
   have Xs:¬((h.length+1:Sz):So)=5:=Z;rw[Sf X7] at o;refine aW a g (WX.c.g St) Xs ?_;rw[<-Xi] at WX;refine aH (l.length+1-(m+1)) Xc ⟨m+1,P,0,h++[Wy],X5,rfl,fun _=>⟨Z,Z,by rw[<-WT];exact o,Z,X6,WX,Yk,Xr,fun O=>by simp at O⟩,fun q=>Sy rfl q,Xr.kT,WZ,V a,V d,V c,aa,aa⟩
  refine cX a d c g (Sp Xb) (W1.g Se) @hG Xy e ((jk s.Y X j P M n 2 Wz).b ?_);rintro _ R ⟨t,A⟩;refine aq a c ((jl s.Y R j P M _ t).b ?_);rintro _ Xh ⟨WM,rfl,p,z,WV⟩;simp(disch:=omega)only[aI,cO,b6,Si,Sg,↓Sn,a,bm,Sl,Sj,Sk,SD];rw[Xz (fun q=>Sy q e)];simp only[e,SX] at p|-
  exact⟨_,rfl,p,z,D.a (A.a WV)⟩
 have Xb:¬(m:So)<l.length:=Z;refine cl a d c g Xb (W1.g Se) ((jk s.Y X j P M n 2 Wz).b ?_);rintro _ R ⟨t,A⟩;refine aq a c ((jl s.Y R j P M _ t).b ?_);rintro _ Xh ⟨WM,rfl,p,z,WV⟩;simp(disch:=omega)only[aI,cO,b6,Si,Sg,↓Sn,a,bm,Sl,Sj,Sk,SD];rw[Xz (fun _=>Z)];by_cases WS:n=0
 ·simp only[WS,Td,show¬(2:So)=0 from ai,SX] at p|-
  exact⟨_,rfl,p,z,D.a (A.a WV)⟩
 simp only[WS,SX] at p|-
 exact⟨_,rfl,p,z,D.a (A.a WV)⟩
end Go.Proofs.YtgpmffbleaphkaaGreat
namespace Go.Proofs.YtgpmffbleaphkaaGreat
open Go.Cl Go.Cl.Pr Go.Cl.Ch Go.Cl.Hx Go.Cl.B85 Go.Cl.Uh
theorem KL:vy aw:=⟨rfl,rfl,rfl,rfl,rfl,rfl⟩
theorem aci (A:J)(l:bz)(x:Sx)(b:Sv Sq)(a:So)(WB:az A 1 x b.length (aM b))(WC:b.length<=4000000)(WH:a<=20000000):
  Runs Su aw 50 [da l,x,I a] A (rD A (fe l b a)):=by
 refine Runs.gZ fun WI p=> ?_
 refine Runs.oU 56 Tryz.func50 rfl fun WJ d=> ?_
 refine ax d (aK fun h Q s WK=> ?_);have Q:ae h A.Y l.aJ:=Q;have G:l.aJ.length+1=6:=rfl;have H:=WB.C s;have WL:=s.Y;have K:aD Su h 9 (ab A.Y 3 6)=some (.string ⟨l.dW.toArray⟩):=Q.B uI (a:=3) (c:=6) rfl (by simp[bz.aJ]);have Wz:∀S,ad h.Y h S->aD Su S 85 (ab A.Y 0 6)=some (er l.dd l.fV l.fW):=fun S m=>by
  have:=ae.ka xD sN (Q.C m) (a:=0) (c:=6) rfl (by simp[bz.aJ]);rw[this];rfl
 have n:=ie (P:=Su) (t:=9) l.dW l4;have u:=ie (P:=Su) (t:=9) l.dW l5;have B:=ie (P:=Su) (t:=9) l.dW l7;have L:=ie (P:=Su) (t:=9) l.dW l8;rw[show l4.toArray= #[70,108,97,116,101,68,101,99,111,100,101] from rfl] at n;rw[show l5.toArray= #[76,90,87,68,101,99,111,100,101] from rfl] at u;rw[show l7.toArray= #[65,83,67,73,73,72,101,120,68,101,99,111,100,101] from rfl] at B;rw[show l8.toArray= #[65,83,67,73,73,56,53,68,101,99,111,100,101] from rfl] at L;by_cases v:l.dW=l4
 ·rw[Sw v] at n;have g:fe l b a=hj l (mi b a):=by unfold fe;rw[Sh v]
  have T:=Br b a;refine bp d G @vw K n ?_;have r:=abY h x b (8*b.length+qA) H Z a Z (by rw[J3];omega);refine r.b ?_;intro D o f;have f:∃w E,D= .tuple #[w,I E,I (mi b a).2]/\kR h w o (mi b a).1:=by
   unfold mi;cases m:Nf.mU (8*b.length+qA) b a.toNat with
   |error WM=>rw[m] at f;obtain⟨rfl,U⟩:=f;exact⟨_,_,rfl,⟨.al,ay.al _,U⟩⟩
   |ok r=>rw[m] at f;obtain⟨WN,rfl,WD,WE,U⟩:=f;exact⟨_,_,rfl,⟨WD,WE,U⟩⟩
  obtain⟨w,E,rfl,e⟩:=f;generalize mi b a=r at T e g;have i:bm (.tuple #[w,I E,I r.2]) 0=some w:=rfl;have j:bm (.tuple #[w,I E,I r.2]) 1=some (I E):=rfl;have WA:bm (.tuple #[w,I E,I r.2]) 2=some (I r.2):=rfl;have M:=s.d e.A;by_cases k:r.2=0;rotate_left
  ·have y:hj l r=([],r.2):=by unfold hj;rw[Sh k]
   refine pR d i j WA @eQ @SP (Ss k) SI ?_;rw[p,g,y];exact⟨_,rfl,⟨.al,ay.al _,M⟩⟩
  have y:hj l r=ik l.dd l.fV l.fW r.1:=by unfold hj;rw[Sf (fun m=>m k)]
  refine cX d i j WA @eQ @SP (Sw k) @pz (Wz _ e.A) ((KE KL o l.dd l.fV l.fW w r.1 e.br.c Z).b ?_);rintro _ WG ⟨z,rfl,W⟩;have X:∀q,bm (.tuple #[z,q]) 0=some z:=fun _=>rfl
  have Wy:∀q,bm (.tuple #[z,q]) 1=some q:=fun _=>rfl
  refine b0 d X Wy SI ?_;rw[p,g,y];exact⟨z,rfl,W.od M⟩
 rw[Ss v] at n;by_cases F:l.dW=l5
 ·rw[Sw F] at u;have g:fe l b a=hj l (ou b a):=by unfold fe;rw[Sf v,Sh F]
  have T:=Bs b a;refine cl d G @vw K n u ((acb h x b a a.toNat (by split<;>omega) H (.inr ⟨WC,Z⟩)).b fun D o f=> ?_);obtain⟨w,rfl,e⟩:∃w,D= .tuple #[w,I (ou b a).2]/\kR h w o (ou b a).1:=iM.qB f
  generalize ou b a=r at T e g;have i:bm (.tuple #[w,I r.2]) 0=some w:=rfl;have j:bm (.tuple #[w,I r.2]) 1=some (I r.2):=rfl;have M:=s.d e.A;by_cases k:r.2=0;rotate_left
  ·have y:hj l r=([],r.2):=by unfold hj;rw[Sh k]
   refine fS d i j @eQ @SP (Ss k) SI ?_;rw[p,g,y];exact⟨_,rfl,⟨.al,ay.al _,M⟩⟩
  have y:hj l r=ik l.dd l.fV l.fW r.1:=by unfold hj;rw[Sf (fun m=>m k)]
  refine c1 d i j @eQ @SP (Sw k) @pz (Wz _ e.A) ((KE KL o l.dd l.fV l.fW w r.1 e.br.c Z).b ?_);rintro _ WG ⟨z,rfl,W⟩;have X:∀q,bm (.tuple #[z,q]) 0=some z:=fun _=>rfl
  have Wy:∀q,bm (.tuple #[z,q]) 1=some q:=fun _=>rfl
  refine b0 d X Wy SI ?_;rw[p,g,y];exact⟨z,rfl,W.od M⟩
 rw[Ss F] at u;by_cases O:l.dW=l7
 ·rw[Sw O] at B;have g:fe l b a=gm (mV a) b (-1) []:=by unfold fe;rw[Sf v,Sf F,Sh O]
  refine ch d G @vw K n u B ((acd h x b a (mV a) rfl H Z).b fun D o f=> ?_);obtain⟨w,rfl,e⟩:=iM.qB f;have i:∀z,bm (.tuple #[w,z]) 0=some w:=fun _=>rfl
  have j:∀z,bm (.tuple #[w,z]) 1=some z:=fun _=>rfl
  refine b0 d i j SI ?_;rw[p,g];exact⟨w,rfl,e.od s⟩
 rw[Ss O] at B;by_cases R:l.dW=l8
 ·rw[Sw R] at L;have g:fe l b a=dP (mV a) b [] []:=by unfold fe;rw[Sf v,Sf F,Sf O,Sh R]
  refine c1 d G @vw K n u B L ((ach h x b a (mV a) rfl H Z).b fun D o f=> ?_);obtain⟨w,rfl,e⟩:=iM.qB f;have i:∀z,bm (.tuple #[w,z]) 0=some w:=fun _=>rfl
  have j:∀z,bm (.tuple #[w,z]) 1=some z:=fun _=>rfl
  refine b0 d i j SI ?_;rw[p,g];exact⟨w,rfl,e.od s⟩
 rw[Ss R] at L;have g:fe l b a=Runs.cb a b []:=by unfold fe;rw[Sf v,Sf F,Sf O,Sf R]
 refine c1 d G @vw K n u B L ((Rv h x b a H Z).b fun D o f=> ?_);obtain⟨w,rfl,e⟩:=iM.qB f;have i:∀z,bm (.tuple #[w,z]) 0=some w:=fun _=>rfl
 have j:∀z,bm (.tuple #[w,z]) 1=some z:=fun _=>rfl
 refine b0 d i j SI ?_;rw[p,g];exact⟨w,rfl,e.od s⟩
end Go.Proofs.YtgpmffbleaphkaaGreat
namespace Go.Cl.Runs
theorem acj {m:So}{K:Sz}(f:m<=K):∀(n:Sz) (l b:Sv Sq),l.length<=n->b.length<=K->(cb m l b).1.length<=K:=by
 intro n
 induction n with
 |zero=>
  intro l b a c;have:l=[]:=SY Z;subst this;rw[qj];simp
 |succ n d=>
  intro l b a c
  match l,a with
  |[],_=>rw[qj];simp
  |g::r,a=>
   simp only[SH] at a;rw[cb.eq_def];dsimp only;split
   ·exact c
   split
   ·match r,a with
    |[],_=>simp
    |i::e,a=>
     dsimp only;simp only[SH] at a;split
     ·rename_i h;refine d e _ Z ?_;rw[Sm,S7];unfold bE at h;omega
     simp
   split
   ·simp
   split
   ·simp
   rename_i h;refine d _ _ (by rw[List.length_drop];omega) ?_;rw[Sm,SS];unfold bE at h;omega
end Go.Cl.Runs
namespace Go.Cl.Pr
theorem ack (p a b:So)(l:Sv Sq):(ik p a b l).1.length<=l.length:=by
 unfold ik;generalize (if 10<=p then 1 else 0)=h;generalize a.toNat*b.toNat=n;by_cases c:¬ij p a b
 ·rw[Sh c];simp
 rw[Sf c];by_cases a:p=1
 ·rw[Sh a];exact SV _
 rw[Sf a];by_cases a:l.length%(h+n)≠0
 ·rw[Sh a];simp
 rw[Sf a];by_cases a:lD l h n (l.length/(h+n))=true
 ·rw[Sh a];simp
 rw[Sf a];show(dq _ _ _ _ _).length<=_;rw[lC];exact SJ (Nat.mul_le_mul_left _ (Nat.le_add_left n h)) (Nat.div_mul_le_self _ _)
end Go.Cl.Pr
namespace Go.Proofs.YtgpmffbleaphkaaGreat
open Go.Cl Go.Cl.Pr Go.Cl.Ch Go.Cl.Hx Go.Cl.B85 Go.Cl.Uh
theorem yy {M:So}{K:Sz}(a:M<=K):∀(l:Sv Sq) (h:So) (P:Sv Sq),P.length<=K->(gm M l h P).1.length<=K
 |[],_,_,_=>by simp[gm]
 |c::r,h,P,b=>by
  unfold gm;split
  ·exact yy a r h P b
  split
  ·split
   ·exact b
   split
   ·simp
   simp only[Sm,SR];omega
  split
  ·simp
  split
  ·exact yy a r _ P b
  split
  ·simp
  exact yy a r _ _ (by simp only[Sm,SR];omega)
theorem KM {M:So}{K:Sz}(b:M<=K){g:Sv Sz}{n:Sz}{P:Sv Sq}(a:P.length<=K):(iN M g n P).1.length<=K:=by
 unfold iN;split
 ·exact a
 split
 ·exact a
 have:=List.length_take_le n (lE (fX g 5));simp only[Sm];omega
theorem acm {M:So}{K:Sz}(b:M<=K){r:Sv Sq}{g:Sv Sz}{P:Sv Sq}(a:P.length<=K):(jn M r g P).1.length<=K:=by
 unfold jn;split
 ·simp
 split
 ·simp
 split
 ·simp
 split
 ·split
  ·exact KM b a
  exact a
 simp
theorem vA {M:So}{K:Sz}(a:M<=K):∀(l:Sv Sq) (g:Sv Sz) (P:Sv Sq),P.length<=K->(dP M l g P).1.length<=K
 |[],_,_,_=>by simp[dP]
 |c::r,g,P,b=>by
  unfold dP;split
  ·exact vA a r g P b
  split
  ·exact acm a b
  split
  ·split
   ·simp
   exact vA a r _ _ (by simp only[Sm,SH,SN];omega)
  split
  ·simp
  split
  ·split
   ·exact vA a r _ _ (KM a b)
   simp
  exact vA a r _ P b
theorem KN {l:bz}{r:Sv Sq×So}{K:Sz}(h:r.1.length<=K):(hj l r).1.length<=K:=by
 unfold hj;split
 ·simp
 exact SJ (ack _ _ _ _) h
theorem KO {m:So}{K:Sz}(c:m<=K)(l:bz)(b:Sv Sq):(fe l b m).1.length<=K:=by
 have a:mV m<=K:=by unfold mV;split<;>omega
 unfold fe;split
 ·exact KN (SJ (Br b m) Z)
 split
 ·exact KN (SJ (Bs b m) Z)
 split
 ·exact yy a _ _ _ aA
 split
 ·exact vA a _ _ _ aA
 exact Runs.acj c _ _ _ (SV _) aA
theorem KP {m:So}(a:m<=65536):∀(L:Sv bz) (b:Sv Sq),b.length<=65536->qC L b m
 |[],_,_=>trivial
 |l::r,b,c=>⟨Z,fun _=>KP a r _ (KO (K:=65536) a l b)⟩
theorem KQ {m:So}{K:Sz}(a:m<=K):∀(L:Sv bz) (b:Sv Sq),b.length<=K->(lK L b m).1.length<=K
 |[],_,b=>b
 |l::r,b,c=>by
  unfold lK;split
  ·simp
  exact KQ a r _ (KO a l b)
end Go.Proofs.YtgpmffbleaphkaaGreat
namespace Go.Proofs.YtgpmffbleaphkaaGreat
open Go.Cl Go.Cl.Pr Go.Cl.Ch
theorem acn (s:J)(n:Sv Sq):Runs Su aw 49 [.string ⟨n.toArray⟩] s fun v a=>v= .bool (decide (n∈iL))/\a=s:=by
 refine Runs.dZ 10 Tryz.func49 rfl fun f d=> ?_
 have a:=ie (P:=Su) (t:=9) n l4;have b:=ie (P:=Su) (t:=9) n l5;have c:=ie (P:=Su) (t:=9) n l7;have e:=ie (P:=Su) (t:=9) n l8;have f:=ie (P:=Su) (t:=9) n sS;rw[show l4.toArray= #[70,108,97,116,101,68,101,99,111,100,101] from rfl] at a;rw[show l5.toArray= #[76,90,87,68,101,99,111,100,101] from rfl] at b;rw[show l7.toArray= #[65,83,67,73,73,72,101,120,68,101,99,111,100,101] from rfl] at c;rw[show l8.toArray= #[65,83,67,73,73,56,53,68,101,99,111,100,101] from rfl] at e;rw[show sS.toArray= #[82,117,110,76,101,110,103,116,104,68,101,99,111,100,101] from rfl] at f;by_cases g:n=l4
 ·rw[Sw g] at a;refine bS d a @SL ?_;simp[iL,g]
 rw[Ss g] at a;by_cases h:n=l5
 ·rw[Sw h] at b;refine b0 d a b @SL ?_;simp[iL,h]
 rw[Ss h] at b;by_cases i:n=l7
 ·rw[Sw i] at c;refine eo d a b c @SL ?_;simp[iL,i]
 rw[Ss i] at c;by_cases j:n=l8
 ·rw[Sw j] at e;refine e8 d a b c e @SL ?_;simp[iL,j]
 rw[Ss j] at e;by_cases k:n=sS
 ·rw[Sw k] at f;refine fS d a b c e f @SL ?_;simp[iL,k]
 rw[Ss k] at f;refine fS d a b c e f @SL ?_;simp[iL,g,h,i,j,k]
theorem aco {s:J}{v:Sx}{L:Sv bz}(h:az s 5 v L.length (kq L)){i:Sz}(a:i<L.length):aD Su s 9 (eR (bM 5 v i) 3)=some (.string ⟨L[i].dW.toArray⟩):=by
 rw[h.fE uI a (j:=3) Z,Qm a 3 ai];rfl
theorem KR (WL:Sz->Prop)(s:J)(F:Sv Sx)(o:O)(W:aE WL s F o)(WM:bd o)(m:So)(W7:m<=20000000)(WN:(fk o).1.length<=1000)(G:qC (fk o).1 o.cj m):
  Runs Su aw 27 [.agg F.toArray,I m] s (rD s (js o m)):=by
 have WO:=W.aG;refine Runs.gZ fun W8 WQ=> ?_
 refine Runs.cS 55 Tryz.func27 rfl fun f a W9 b=> ?_
 have r:=Tryz.underlying80;refine aq a W9 (aK fun Xa WR X Xp=> ?_);have Xq:=X.Y;refine aR a WO (ah.L WR WO) ((abL WL Xa F o (W.C X) WM).b ?_);have⟨R,H⟩:=aO (fk o);have e:js o m=if R.2≠0 then([],R.2) else if¬∀l∈R.1,l.dW∈iL then([],11) else lK R.1 o.cj m:=by unfold js;rw[<-H]
 rw[<-H] at G WN|-
 have⟨L,j⟩:=R;dsimp only at e G WN;rintro _ Xb ⟨z,rfl,WS,Xr,Wy⟩;dsimp only at WS|-
 have Xs:=Wy.Y;have A:=X.d Wy;have WT:bm (.tuple #[z,I j]) 0=some z:=rfl;have WU:bm (.tuple #[z,I j]) 1=some (I j):=rfl;have Wz:∀(f:an) (t:J) (WA:So),js o m=([],WA)->ad s.Y s t->f.e=55->f.N 4=av->f.N 5=I WA->eW Su Tryz.f27.results.toList W8 .bF f t:=by
  intro f t WA j u a Xc Xd;refine b0 a Xc Xd @Th ?_;rw[WQ,j];exact⟨_,rfl,⟨.al,ay.al _,u⟩⟩
 by_cases K:j=0;rotate_left
 ·refine cl a WT WU @eQ @SP (Ss K) ?_;exact Wz _ _ j (by rw[e,Sh K]) A (V a) aa aa
 rw[Sf (fun n=>n K)] at e;refine cl a WT WU @eQ @SP (Sw K) ?_;refine aZ.eO (fun B f t=>∃i:Sz,B=L.length-i/\i<=L.length/\(∀l∈L.take i,l.dW∈iL)/\t=Xb/\f.e=55/\f.N 1=I m/\f.N 2=ab s.Y 0 6/\f.N 6=z/\f.N 8=I (i:Sz))
  ⟨0,rfl,Z,aA,rfl,V a,V b,aa,aa,aa⟩ ?_
 rintro B f t ⟨i,rfl,Xe,WB,rfl,a,b,WV,g,WC⟩;have v:=WS.c;by_cases h:i<L.length
 ·have M:(i:So)<(L.length:So):=Z;have D:=v.r (k:= .i64) (x:=(i:So)) r kx Z Z;rw[SC] at D;obtain⟨-,Xf,-⟩:=abH v h;refine c1 a g WC (v.g r) (Sp M) D Xf (aco v h) ((acn _ L[i].dW).b ?_);rintro _ Xt ⟨rfl,rfl⟩;by_cases P:L[i].dW∈iL
  ·rw[Sw P];refine aq a WC ?_;refine aH (L.length-(i+1)) Z ⟨i+1,rfl,Z,fun Xg w=> ?_,rfl,V a,V b,V WV,V g,aa⟩;rw[List.take_succ_eq_append_getElem h] at w;rcases Tc.1 w with w|w
   ·exact WB Xg w
   rw[S9.1 w];exact P
  rw[Ss P];refine ax a ?_;exact Wz _ _ 11 (by rw[e,Sh (fun n=>P (n _ (Ta h)))]) A (V a) aa aa
 obtain rfl:i=L.length:=Z;have M:¬((L.length:Sz):So)<((L.length:Sz):So):=Z;rw[List.take_length] at WB;rw[Sf (fun n=>n WB)] at e;obtain⟨p,Xh,Xi,Xu⟩:∃p,F.getD 2 undef=p/\az s 1 p o.cj.length (aM o.cj)/\o.cj.length<=100000000:=by
  cases o with
  |au Xv Xw WW l Xx=>obtain⟨p,Xy,Xz,XW,XX,rfl,b,-⟩:=W.ea;exact⟨p,rfl,b,by cases WM with|au Xj=>exact Xj⟩
 have Xk:aD Su t 22 (ab s.Y 2 6)=some p:=by
  have:=(WR.C Wy).B cJ (a:=2) (c:=6) Z Z;rw[this,Xh]
 refine c1 a WV g WC (v.g r) M @c8 Xk ((ri t p o.cj (Xi.C A) Z).b fun Xl WX Q=> ?_);have WD:=Q.A;obtain⟨WY,Xm⟩:∃WW,WW=o.cj:=⟨_,rfl⟩
 rw[<-Xm] at Q e G;have XY:=WD.Y;have WE:=A.d WD;have XZ:=WE.Y;refine ax a ?_;refine aZ.eO (fun B f S=>∃(i:Sz) (y:Sx) (q:Sv Sq),B=L.length-i/\i<=L.length/\lK L WY m=lK (L.drop i) q m/\qC (L.drop i) q m/\ao S 1 y q.length (aM q)/\ay s.Y y/\ad WX.Y WX S/\f.e=55/\f.N 1=I m/\f.N 6=z/\f.N 9=y/\f.N 10=I (i:Sz))
  ⟨0,Xl,WY,rfl,Z,rfl,G,Q.br,fun WG WH=>bq (Q.Q WG WH) A.Y,ad.p _ _,V a,V b,V g,aa,aa⟩ ?_
 rintro B f S ⟨i,y,q,rfl,Xe,d,WZ,W0,Xn,u,a,b,g,W1,WI⟩;have X0:=u.Y;have T:=(v.C WD).C u;by_cases h:i<L.length;rotate_left
 ·obtain rfl:i=L.length:=Z;rw[List.drop_length] at d;refine fS a g W1 WI (T.g r) M @Th ?_;rw[WQ,e,d];exact⟨y,rfl,⟨W0,Xn,WE.d u⟩⟩
 have D:=T.r (k:= .i64) (x:=(i:So)) r kx Z Z;rw[SC] at D;have WJ:=T.dm vv kx h;rw[xM h] at WJ;have⟨l,W2⟩:=aO (L[i]);rw[<-W2] at WJ;rw[(show L.drop i=l::L.drop (i+1) by rw[S3 h,W2])] at d WZ;have⟨Xo,W3⟩:=WZ;refine cX a b g W1 WI (T.g r) (Sp (Z:(i:So)<(L.length:So))) D WJ ((aci S l y q m W0.c Xo W7).b ?_);have⟨R,H⟩:=aO (fe l q m);simp only[lK] at d;rw[<-H] at d W3|-
 rintro _ X1 ⟨U,rfl,WK⟩;have W4:bm (.tuple #[U,I R.2]) 0=some U:=rfl;have W5:bm (.tuple #[U,I R.2]) 1=some (I R.2):=rfl;have W6:=u.d (WK.A);by_cases E:R.2=0;rotate_left
 ·rw[Sh E] at d;refine cl a W4 W5 @eQ @SP (Ss E) ?_;exact Wz _ _ R.2 (by rw[e,d]) (WE.d W6) (V a) aa aa
 rw[Sf (fun n=>n E)] at d;refine ch a WI W4 W5 @eQ @SP (Sw E) ?_;exact aH (L.length-(i+1)) Z ⟨i+1,U,R.1,rfl,Z,d,W3 E,WK.br,fun WG WH=>ag (WK.Q WG WH),W6,V a,V b,V g,aa,aa⟩
end Go.Proofs.YtgpmffbleaphkaaGreat