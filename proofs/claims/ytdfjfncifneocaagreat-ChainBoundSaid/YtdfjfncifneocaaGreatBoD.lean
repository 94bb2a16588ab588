/-
 Rows of one byte: the plain law, on: what was written is read as it was; how long it is.
-/
import Derived.Test.YtdfjfncifneocaaGreatB85P
import Derived.Test.YtdfjfncifneocaaGreatBitsP
import Derived.Test.YtdfjfncifneocaaGreatNfY
import Derived.Test.YtdfjfncifneocaaGreatLzwU
import Derived.Test.YtdfjfncifneocaaGreatLzwS
import Derived.Test.YtdfjfncifneocaaGreatChK
open Nat renaming reduceLT->QS,reduceEqDiff->WP
namespace Go.Cl.Runs
theorem fR {n:Nat}(h1:3<=n)(h2:n<=128):(UInt8.ofNat (257-n)).toNat=257-n:=by rw[UInt8.toNat_ofNat'];omega
theorem ej {n:Nat}(h1:1<=n)(h2:n<=128):(UInt8.ofNat (n-1)).toNat=n-1:=by rw[UInt8.toNat_ofNat'];omega
theorem oS (l:List UInt8):List.replicate (rowOf l) (l.getD 0 0)=l.take (rowOf l):=by
 apply List.ext_getElem
 ·rw[List.length_replicate,List.length_take];have:=nq l;omega
 ·intro i h1 h2
  rw[List.getElem_replicate,List.getElem_take]
  rw[List.length_replicate] at h1
  have:=Rq l i h1
  have hl:i<l.length:=by have:=nq l;omega
  rw[Pj hl] at this
  exact this.symm
theorem jO {most:Int}{P Q:List UInt8}(h:Q.length<=room most P):room most (P++Q)=room most P-Q.length:=by
 unfold room at*;rw[List.length_append];omega
theorem G9 (l:List UInt8):encode l≠[]:=by
 by_cases h:l=[]
 ·subst h;rw[kL];simp
 ·by_cases h3:3<=rowOf l
  ·rw[kM h h3];simp
  ·rw[kN h (by omega)];simp
theorem yK {motive:List UInt8->Prop}(nil:motive [])
  (row:∀l,l≠[]->3<=rowOf l->motive (l.drop (rowOf l))->motive l)
  (lit:∀l,l≠[]->rowOf l<3->motive (l.drop (cJ l))->motive l):∀l,motive l:=by
 intro l
 generalize hn:l.length=n
 induction n using Nat.strongRecOn generalizing l with
 |_ n ih=>
  by_cases h:l=[]
  ·subst h;exact nil
  ·have hp:0<l.length:=List.length_pos_iff.mpr h
   by_cases h3:3<=rowOf l
   ·exact row l h h3 (ih _ (by rw[<-hn];rw[List.length_drop];omega) _ rfl|>fun q=>q)
   ·have:=jC l
    exact lit l h (by omega) (ih (l.drop (cJ l)).length (by rw[List.length_drop];omega) _ rfl)
theorem Oc (most:Int)(more:List UInt8):∀(l P:List UInt8),l.length<=room most P->dec most (encode l++more) P=(P++l,0):=by
 intro l
 refine yK (motive:=fun l=>∀P,l.length<=room most P->dec most (encode l++more) P=(P++l,0)) ?_ ?_ ?_ l
 ·intro P _
  rw[kL,List.cons_append,wK (by decide)];simp
 ·intro l h h3 ih P hr
  have h1:=lA l
  have h2:=nq l
  rw[kM h h3,List.cons_append,List.cons_append,qu (by rw[fR h3 h1];omega) (by rw[fR h3 h1];omega),fR h3 h1,show 257-(257-rowOf l)=rowOf l by omega,oS]
  have hl:(l.take (rowOf l)).length=rowOf l:=by rw[List.length_take];omega
  rw[ih _ (by rw[jO (by omega),hl,List.length_drop];omega),List.append_assoc,List.take_append_drop]
 ·intro l h h3 ih P hr
  have hp:0<l.length:=List.length_pos_iff.mpr h
  have h1:=mE l
  have h2:=pI hp
  have h0:=jC l
  have hl:(l.take (cJ l)).length=cJ l:=by rw[List.length_take];omega
  have e1:cJ l-1+1=cJ l:=by omega
  rw[kN h h3,List.cons_append,AF (by rw[ej h0 h1];omega) (by rw[ej h0 h1,List.append_assoc,List.length_append,hl];omega) (by rw[ej h0 h1];omega),ej h0 h1,e1,List.append_assoc]
  rw[show(l.take (cJ l)++(encode (l.drop (cJ l))++more)).drop (cJ l)=encode (l.drop (cJ l))++more by
   rw[List.drop_append_of_le_length (by omega),List.drop_of_length_le (by omega),List.nil_append]]
  rw[show(l.take (cJ l)++(encode (l.drop (cJ l))++more)).take (cJ l)=l.take (cJ l) by
   rw[List.take_append_of_le_length (by omega),List.take_of_length_le (by omega)]]
  rw[ih _ (by rw[jO (by omega),hl,List.length_drop];omega),List.append_assoc,List.take_append_drop]
theorem Sx (most:Int):∀(l P:List UInt8),room most P<l.length->dec most (encode l) P=([],7):=by
 intro l
 refine yK (motive:=fun l=>∀P,room most P<l.length->dec most (encode l) P=([],7)) ?_ ?_ ?_ l
 ·intro P h;simp at h
 ·intro l h h3 ih P hr
  have h1:=lA l
  have h2:=nq l
  rw[kM h h3]
  by_cases hc:rowOf l<=room most P
  ·rw[qu (by rw[fR h3 h1];omega) (by rw[fR h3 h1];omega),fR h3 h1,show 257-(257-rowOf l)=rowOf l by omega,oS]
   have hl:(l.take (rowOf l)).length=rowOf l:=by rw[List.length_take];omega
   exact ih _ (by rw[jO (by omega),hl,List.length_drop];omega)
  ·rw[uh (by rw[fR h3 h1];omega) (by rw[fR h3 h1];omega)]
 ·intro l h h3 ih P hr
  have hp:0<l.length:=List.length_pos_iff.mpr h
  have h1:=mE l
  have h2:=pI hp
  have h0:=jC l
  have hl:(l.take (cJ l)).length=cJ l:=by rw[List.length_take];omega
  have e1:cJ l-1+1=cJ l:=by omega
  rw[kN h h3]
  by_cases hc:cJ l<=room most P
  ·rw[AF (by rw[ej h0 h1];omega) (by rw[ej h0 h1,List.length_append,hl];omega) (by rw[ej h0 h1];omega),ej h0 h1,e1]
   rw[List.drop_append_of_le_length (by omega),List.drop_of_length_le (by omega),List.nil_append,List.take_append_of_le_length (by omega),List.take_of_length_le (by omega)]
   exact ih _ (by rw[jO (by omega),hl,List.length_drop];omega)
  ·rw[ui (by rw[ej h0 h1];omega) (by rw[List.length_append,hl];omega) (by rw[ej h0 h1];omega)]
theorem mQ (most:Int):∀(l P:List UInt8),l.length<=room most P->dec most (encode l).dropLast P=([],2):=by
 intro l
 refine yK (motive:=fun l=>∀P,l.length<=room most P->dec most (encode l).dropLast P=([],2)) ?_ ?_ ?_ l
 ·intro P _
  rw[kL];exact Pk _ _
 ·intro l h h3 ih P hr
  have h1:=lA l
  have h2:=nq l
  have ck:=G9 (l.drop (rowOf l))
  rw[kM h h3,List.dropLast_cons_of_ne_nil (by simp),List.dropLast_cons_of_ne_nil ck,qu (by rw[fR h3 h1];omega) (by rw[fR h3 h1];omega),fR h3 h1,show 257-(257-rowOf l)=rowOf l by omega,oS]
  have hl:(l.take (rowOf l)).length=rowOf l:=by rw[List.length_take];omega
  exact ih _ (by rw[jO (by omega),hl,List.length_drop];omega)
 ·intro l h h3 ih P hr
  have hp:0<l.length:=List.length_pos_iff.mpr h
  have h1:=mE l
  have h2:=pI hp
  have h0:=jC l
  have hl:(l.take (cJ l)).length=cJ l:=by rw[List.length_take];omega
  have e1:cJ l-1+1=cJ l:=by omega
  have ck:=G9 (l.drop (cJ l))
  rw[kN h h3,List.dropLast_cons_of_ne_nil (by simp[ck]),List.dropLast_append_of_ne_nil ck,AF (by rw[ej h0 h1];omega) (by rw[ej h0 h1,List.length_append,hl];omega) (by rw[ej h0 h1];omega),ej h0 h1,e1]
  rw[List.drop_append_of_le_length (by omega),List.drop_of_length_le (by omega),List.nil_append,List.take_append_of_le_length (by omega),List.take_of_length_le (by omega)]
  exact ih _ (by rw[jO (by omega),hl,List.length_drop];omega)
end Go.Cl.Runs
set_option linter.unusedSimpArgs false
set_option linter.unusedVariables false
set_option maxRecDepth 100000
namespace Go.Proofs.YtdfjfncifneocaaGreat
open Go.Cl Go.Cl.Uh Go.Cl.Hx Go.Cl.B85
def up (x:UInt8):UInt8:=if 97<=x.toNat then x-32 else x
end Go.Proofs.YtdfjfncifneocaaGreat
namespace Go.Proofs.YtdfjfncifneocaaGreat
open Go.Cl Go.Cl.Uh Go.Cl.Hx Go.Cl.B85
def nw (c:UInt8):Bool:= !fF c.toNat
theorem Lu:∀k,k<16->fF ((digits.getD k 0).toNat:Int)=false/\((digits.getD k 0).toNat:Int)≠62/\digit ((digits.getD k 0).toNat:Int)=(k:Int):=by decide
theorem Lv (M:Int)(rest:List UInt8):∀(l P:List UInt8),((P.length:Nat):Int)<=M->EJ M (yn l++62::rest) (-1) P=if(l.length:Int)<=M-P.length then(P++l,0) else([],7)
 |[],P,h=>by
  rw[if_pos (by simp;omega)]
  simp[yn,EJ,show fF 62=false by decide]
 |c::l,P,h=>by
  have hc8:=c.toNat_lt
  obtain⟨a1,a2,a3⟩:=Lu (c.toNat/16) (by omega)
  obtain⟨b1,b2,b3⟩:=Lu (c.toNat%16) (by omega)
  have e:yn (c::l)++62::rest=digits.getD (c.toNat/16) 0::digits.getD (c.toNat%16) 0::(yn l++62::rest):=by simp[yn,two]
  have hb:zV (c.toNat/16*16+c.toNat%16)=c:=by
   apply UInt8.toNat_inj.mp
   unfold zV;rw[UInt8.toNat_ofNat'];omega
  simp only[List.length_cons]
  rw[e,EJ,a1,if_neg (by decide),if_neg a2,a3,if_neg (by omega),if_pos (by decide),EJ,b1,if_neg (by decide),if_neg b2,b3,if_neg (by omega),if_neg (by omega),Int.toNat_natCast,Int.toNat_natCast,hb]
  by_cases hf:M-(P.length:Int)<1
  ·rw[if_pos hf,if_neg (by omega)]
  ·rw[if_neg hf,Lv M rest l (P++[c]) (by simp;omega)]
   have e2:((P++[c]).length:Int)=P.length+1:=by simp
   rw[e2]
   by_cases hl:(l.length:Int)<=M-(P.length+1)
   ·rw[if_pos hl,if_pos (by omega)];simp
   ·rw[if_neg hl,if_neg (by omega)]
theorem Od {n:Nat}(h:33<=n):fF (n:Int)=false:=by
 unfold fF;rw[decide_eq_false_iff_not];omega
def sg (d:Nat):UInt8:=UInt8.ofNat (33+d)
theorem ada {d:Nat}(h:d<85):(sg d).toNat=33+d:=by unfold sg;rw[UInt8.toNat_ofNat'];omega
theorem gO (M:Int)(r:List UInt8)(g:List Nat)(P:List UInt8){d:Nat}(hd:d<85):rB M (sg d::r) g P=if g.length=4 then(if(tx M (g++[d]) 4 P).2=0 then rB M r [] (tx M (g++[d]) 4 P).1 else([],(tx M (g++[d]) 4 P).2)) else rB M r (g++[d]) P:=by
 have e:=ada hd
 rw[rB,e,Od (by omega),if_neg (by decide),if_neg (by omega),if_neg (by omega),if_neg (by omega),Nat.add_sub_cancel_left]
theorem pV (M:Int)(r:List UInt8)(g:List Nat)(P:List UInt8):rB M (126::r) g P=qC M r g P:=by
 rw[rB,if_neg (by decide),if_pos (by decide)]
theorem ahd (M:Int)(r:List UInt8)(P:List UInt8):rB M (122::r) [] P=if M-P.length<4 then([],7) else rB M r [] (P++[0,0,0,0]):=by
 rw[rB,if_neg (by decide),if_neg (by decide),if_pos ⟨by decide,rfl⟩]
theorem yL (M:Int)(r:List UInt8)(g:List Nat)(P:List UInt8)(h:1<g.length):qC M (62::r) g P=if(tx M g (g.length-1) P).2=0 then((tx M g (g.length-1) P).1,0) else([],(tx M g (g.length-1) P).2):=by
 have hs:(sign (62::r)).1=62:=by simp only[sign];rw[if_neg (by decide)];rfl
 unfold qC
 by_cases hb:(tx M g (g.length-1) P).2=0
 ·rw[if_neg (by omega),if_neg (by simp[hb]),hs,if_neg (by decide),if_pos rfl,if_pos h,if_pos hb]
 ·rw[if_neg (by omega),if_pos ⟨h,hb⟩,if_neg hb]
theorem adb (x k:Nat):WH x k=sg (x/85^(4-k)%85):=rfl
theorem AQ (x:Nat):wL x=[sg (x/52200625%85),sg (x/614125%85),sg (x/7225%85),sg (x/85%85),sg (x%85)]:=by
 simp[wL,adb]
theorem alH (a b c d e:Nat):fc [a,b,c,d,e] 5=(((a*85+b)*85+c)*85+d)*85+e:=by simp[fc]
theorem alI (a b c d:Nat):fc [a,b,c,d] 5=(((a*85+b)*85+c)*85+d)*85+84:=by simp[fc]
theorem alJ (a b c:Nat):fc [a,b,c] 5=(((a*85+b)*85+c)*85+84)*85+84:=by simp[fc]
theorem alK (a b:Nat):fc [a,b] 5=(((a*85+b)*85+84)*85+84)*85+84:=by simp[fc]
theorem Za (x:Nat)(h:x<4294967296):∃q1 q2 q3 q4,x/85=q1/\x/7225=q2/\x/614125=q3/\x/52200625=q4/\x=q1*85+x%85/\q1=q2*85+x/85%85/\q2=q3*85+x/7225%85/\q3=q4*85+x/614125%85/\q4=x/52200625%85:=by
 refine⟨x/85,x/7225,x/614125,x/52200625,rfl,rfl,rfl,rfl,by omega,?_,?_,?_,by omega⟩
 ·have:x/7225=x/85/85:=by rw[Nat.div_div_eq_div_mul]
  omega
 ·have:x/614125=x/7225/85:=by rw[Nat.div_div_eq_div_mul]
  omega
 ·have:x/52200625=x/614125/85:=by rw[Nat.div_div_eq_div_mul]
  omega
theorem xu (M:Int)(g:List Nat)(n:Nat)(P l:List UInt8)(h1:fc g 5<=4294967295)(h2:(yE (fc g 5)).take n=l)(h3:l.length=n):tx M g n P=if(l.length:Int)<=M-P.length then(P++l,0) else(P,7):=by
 unfold tx
 rw[if_neg (by omega),h2,h3]
 by_cases hf:(n:Int)<=M-P.length
 ·rw[if_neg (by omega),if_pos hf]
 ·rw[if_pos (by omega),if_neg hf]
theorem lq {n:Nat}{a:UInt8}(h:n%256=a.toNat):UInt8.ofNat n=a:=by
 apply UInt8.toNat_inj.mp;rw[UInt8.toNat_ofNat'];exact h
theorem alL {x N a:Nat}(ha:a<256)(h:x=a*16777216)(h1:x<=N)(h2:N<=x+614124):N<=4294967295/\N/16777216%256=a:=by omega
theorem alM {x N a b:Nat}(ha:a<256)(hb:b<256)(h:x=a*16777216+b*65536)(h1:x<=N)(h2:N<=x+7224):N<=4294967295/\N/16777216%256=a/\N/65536%256=b:=by omega
theorem alN {x N a b c:Nat}(ha:a<256)(hb:b<256)(hc:c<256)(h:x=a*16777216+b*65536+c*256)(h1:x<=N)(h2:N<=x+84):N<=4294967295/\N/16777216%256=a/\N/65536%256=b/\N/256%256=c:=by omega
theorem alO {x a b c d:Nat}(ha:a<256)(hb:b<256)(hc:c<256)(hd:d<256)(h:x=((a*256+b)*256+c)*256+d):x<=4294967295/\x/16777216%256=a/\x/65536%256=b/\x/256%256=c/\x%256=d:=by omega
theorem ade (x:Nat):x<=x/614125*614125+614124/\x/614125*614125+614124<=x+614124/\x<=x/7225*7225+7224/\x/7225*7225+7224<=x+7224/\x<=x/85*85+84/\x/85*85+84<=x+84:=by omega
theorem alP (a b c d:UInt8)(l:List UInt8):val (a::b::c::d::l) 4=((a.toNat*256+b.toNat)*256+c.toNat)*256+d.toNat:=by
 have:min 4 (a::b::c::d::l).length=4:=by simp
 simp only[val,this];simp
theorem Ws (M:Int)(rest:List UInt8):∀(n:Nat) (l P:List UInt8),l.length<=n->((P.length:Nat):Int)<=M->rB M (Ez l++rest) [] P=if(l.length:Int)<=M-P.length then(P++l,0) else([],7):=by
 intro n
 induction n with
 |zero=>
  intro l P hl h
  obtain rfl:l=[]:=List.eq_nil_of_length_eq_zero (by omega)
  rw[oh,if_pos (by simp;omega)]
  show rB M (126::62::rest) [] P=_
  have hs:(sign (62::rest)).1=62:=by simp only[sign];rw[if_neg (by decide)];rfl
  rw[pV,qC,if_neg (by decide),if_neg (by simp),hs,if_neg (by decide),if_pos rfl,if_neg (by simp),List.append_nil]
 |succ n ih=>
  intro l P hl h
  match l,hl with
  |[],_=>
   rw[oh,if_pos (by simp;omega)]
   show rB M (126::62::rest) [] P=_
   have hs:(sign (62::rest)).1=62:=by simp only[sign];rw[if_neg (by decide)];rfl
   rw[pV,qC,if_neg (by decide),if_neg (by simp),hs,if_neg (by decide),if_pos rfl,if_neg (by simp),List.append_nil]
  |[a],_=>
   obtain⟨x,hx⟩:∃x,x=val [a] 4:=⟨_,rfl⟩
   have hv:x=a.toNat*16777216:=by rw[hx];simp[val];omega
   have ha:=a.toNat_lt
   obtain⟨q1,q2,q3,q4,e01,e02,e03,e04,e1,e2,e3,e4,e5⟩:=Za x (by omega)
   rw[nv (by simp) (by simp),<-hx,AQ]
   have ed:[a].drop (min 4 [a].length)=[]:=by simp
   rw[ed,oh]
   show rB M (sg (x/52200625%85)::sg (x/614125%85)::126::62::rest) [] P=_
   rw[gO M _ _ _ (by omega),if_neg (by simp),gO M _ _ _ (by omega),if_neg (by simp),pV,yL _ _ _ _ (by simp)]
   have hn:fc [x/52200625%85,x/614125%85] 5=q3*614125+614124:=by rw[alK];omega
   obtain⟨n1,n2,_⟩:=ade x
   rw[e03] at n1 n2
   obtain⟨t0,t1⟩:=alL ha hv n1 n2
   show(if(tx M [x/52200625%85,x/614125%85] 1 P).2=0 then((tx M [x/52200625%85,x/614125%85] 1 P).1,0) else([],(tx M [x/52200625%85,x/614125%85] 1 P).2))=_
   rw[xu M _ 1 P [a] (by rw[hn];exact t0) (by rw[hn];show [UInt8.ofNat _]=[a];rw[lq t1]) rfl]
   by_cases hf:(([a]:List UInt8).length:Int)<=M-P.length
   ·simp only[if_pos hf,if_true]
   ·simp only[if_neg hf];rfl
  |[a,b],_=>
   obtain⟨x,hx⟩:∃x,x=val [a,b] 4:=⟨_,rfl⟩
   have hv:x=a.toNat*16777216+b.toNat*65536:=by rw[hx];simp[val];omega
   have ha:=a.toNat_lt
   have hb:=b.toNat_lt
   obtain⟨q1,q2,q3,q4,e01,e02,e03,e04,e1,e2,e3,e4,e5⟩:=Za x (by omega)
   rw[nv (by simp) (by simp),<-hx,AQ]
   have ed:[a,b].drop (min 4 [a,b].length)=[]:=by simp
   rw[ed,oh]
   show rB M (sg (x/52200625%85)::sg (x/614125%85)::sg (x/7225%85)::126::62::rest) [] P=_
   rw[gO M _ _ _ (by omega),if_neg (by simp),gO M _ _ _ (by omega),if_neg (by simp),gO M _ _ _ (by omega),if_neg (by simp),pV,yL _ _ _ _ (by simp)]
   have hn:fc [x/52200625%85,x/614125%85,x/7225%85] 5=q2*7225+7224:=by rw[alJ];omega
   obtain⟨_,_,n1,n2,_⟩:=ade x
   rw[e02] at n1 n2
   obtain⟨t0,t1,t2⟩:=alM ha hb hv n1 n2
   show(if(tx M [x/52200625%85,x/614125%85,x/7225%85] 2 P).2=0 then((tx M [x/52200625%85,x/614125%85,x/7225%85] 2 P).1,0) else([],(tx M [x/52200625%85,x/614125%85,x/7225%85] 2 P).2))=_
   rw[xu M _ 2 P [a,b] (by rw[hn];exact t0) (by rw[hn];show [UInt8.ofNat _,UInt8.ofNat _]=[a,b];rw[lq t1,lq t2]) rfl]
   by_cases hf:(([a,b]:List UInt8).length:Int)<=M-P.length
   ·simp only[if_pos hf,if_true]
   ·simp only[if_neg hf];rfl
  |[a,b,c],_=>
   obtain⟨x,hx⟩:∃x,x=val [a,b,c] 4:=⟨_,rfl⟩
   have hv:x=a.toNat*16777216+b.toNat*65536+c.toNat*256:=by rw[hx];simp[val];omega
   have ha:=a.toNat_lt
   have hb:=b.toNat_lt
   have hc:=c.toNat_lt
   obtain⟨q1,q2,q3,q4,e01,e02,e03,e04,e1,e2,e3,e4,e5⟩:=Za x (by omega)
   rw[nv (by simp) (by simp),<-hx,AQ]
   have ed:[a,b,c].drop (min 4 [a,b,c].length)=[]:=by simp
   rw[ed,oh]
   show rB M (sg (x/52200625%85)::sg (x/614125%85)::sg (x/7225%85)::sg (x/85%85)::126::62::rest) [] P=_
   rw[gO M _ _ _ (by omega),if_neg (by simp),gO M _ _ _ (by omega),if_neg (by simp),gO M _ _ _ (by omega),if_neg (by simp),gO M _ _ _ (by omega),if_neg (by simp),pV,yL _ _ _ _ (by simp)]
   have hn:fc [x/52200625%85,x/614125%85,x/7225%85,x/85%85] 5=q1*85+84:=by rw[alI];omega
   obtain⟨_,_,_,_,n1,n2⟩:=ade x
   rw[e01] at n1 n2
   obtain⟨t0,t1,t2,t3⟩:=alN ha hb hc hv n1 n2
   show(if(tx M [x/52200625%85,x/614125%85,x/7225%85,x/85%85] 3 P).2=0 then((tx M [x/52200625%85,x/614125%85,x/7225%85,x/85%85] 3 P).1,0) else([],(tx M [x/52200625%85,x/614125%85,x/7225%85,x/85%85] 3 P).2))=_
   rw[xu M _ 3 P [a,b,c] (by rw[hn];exact t0) (by rw[hn];show [UInt8.ofNat _,UInt8.ofNat _,UInt8.ofNat _]=[a,b,c];rw[lq t1,lq t2,lq t3]) rfl]
   by_cases hf:(([a,b,c]:List UInt8).length:Int)<=M-P.length
   ·simp only[if_pos hf,if_true]
   ·simp only[if_neg hf];rfl
  |a::b::c::d::l,hl=>
   have Br:min 4 (a::b::c::d::l).length=4:=by simp
   obtain⟨x,hx⟩:∃x,x=val (a::b::c::d::l) 4:=⟨_,rfl⟩
   have hv:=alP a b c d l
   rw[<-hx] at hv
   have ha:=a.toNat_lt
   have hb:=b.toNat_lt
   have hc:=c.toNat_lt
   have hd:=d.toNat_lt
   have xH:((a::b::c::d::l).length:Int)=l.length+4:=by have:(a::b::c::d::l).length=l.length+4:=rfl;omega
   have ih' :=fun(Q:List UInt8) (hQ:Q.length=4) (hM:¬M-(P.length:Int)<4)=>ih l (P++Q) (by simp at hl;omega) (by rw[List.length_append];omega)
   by_cases hz:x=0
   ·have ea:a=0:=UInt8.toNat_inj.mp (by show _=0;omega)
    have eb:b=0:=UInt8.toNat_inj.mp (by show _=0;omega)
    have ec:c=0:=UInt8.toNat_inj.mp (by show _=0;omega)
    have ed:d=0:=UInt8.toNat_inj.mp (by show _=0;omega)
    rw[Uw (by simp) ⟨Br,by rw[<-hx];exact hz⟩,Br]
    show rB M (122::(Ez l++rest)) [] P=_
    rw[ahd,xH]
    by_cases hf:M-(P.length:Int)<4
    ·rw[if_pos hf,if_neg (by omega)]
    ·rw[if_neg hf,ih' _ rfl hf,List.length_append]
     subst ea eb ec ed
     have e4:((P.length+([0,0,0,0]:List UInt8).length:Nat):Int)=P.length+4:=by simp
     rw[e4]
     by_cases jS:(l.length:Int)<=M-(P.length+4)
     ·rw[if_pos jS,if_pos (by omega)];simp
     ·rw[if_neg jS,if_neg (by omega)]
   ·obtain⟨q1,q2,q3,q4,e01,e02,e03,e04,e1,e2,e3,e4,e5⟩:=Za x (by omega)
    rw[nv (by simp) (by rw[<-hx];exact fun e=>hz e.2),<-hx,AQ,Br]
    show rB M (sg (x/52200625%85)::sg (x/614125%85)::sg (x/7225%85)::sg (x/85%85)::sg (x%85)::(Ez l++rest)) [] P=_
    rw[gO M _ _ _ (by omega),if_neg (by simp),gO M _ _ _ (by omega),if_neg (by simp),gO M _ _ _ (by omega),if_neg (by simp),gO M _ _ _ (by omega),if_neg (by simp),gO M _ _ _ (by omega),if_pos (by simp)]
    have hn:fc [x/52200625%85,x/614125%85,x/7225%85,x/85%85,x%85] 5=x:=by rw[alH];omega
    obtain⟨t0,t1,t2,t3,t4⟩:=alO ha hb hc hd hv
    have hfv:=xu M [x/52200625%85,x/614125%85,x/7225%85,x/85%85,x%85] 4 P [a,b,c,d] (by rw[hn];exact t0) (by rw[hn];show [UInt8.ofNat _,UInt8.ofNat _,UInt8.ofNat _,UInt8.ofNat _]=[a,b,c,d];rw[lq t1,lq t2,lq t3,lq t4]) rfl
    show(if(tx M [x/52200625%85,x/614125%85,x/7225%85,x/85%85,x%85] 4 P).2=0 then rB M (Ez l++rest) [] (tx M [x/52200625%85,x/614125%85,x/7225%85,x/85%85,x%85] 4 P).1 else([],(tx M [x/52200625%85,x/614125%85,x/7225%85,x/85%85,x%85] 4 P).2))=_
    rw[hfv,xH]
    have e4:((([a,b,c,d]:List UInt8).length:Nat):Int)=4:=rfl
    rw[e4]
    by_cases hf:(4:Int)<=M-(P.length:Int)
    ·simp only[if_pos hf,if_true]
     rw[ih' _ rfl (by omega),List.length_append]
     have e5:((P.length+([a,b,c,d]:List UInt8).length:Nat):Int)=P.length+4:=by simp
     rw[e5]
     by_cases jS:(l.length:Int)<=M-(P.length+4)
     ·rw[if_pos jS,if_pos (by omega)];simp
     ·rw[if_neg jS,if_neg (by omega)]
    ·simp only[if_neg hf]
     rw[if_neg (by decide),if_neg (by omega)]
end Go.Proofs.YtdfjfncifneocaaGreat
set_option linter.unusedSimpArgs false
set_option linter.unusedVariables false
set_option maxRecDepth 100000
namespace Go.Cl.Ch
open Go.Cl.Pr
def kV (l:Lk):Prop:=l.name∈mG/\l.p=1/\l.co=1/\l.cl=1
theorem Wu:ri 1 1 1:=by decide
theorem Oe (b:List UInt8):iU 1 1 1 b=(b,0):=by unfold iU;rw[if_neg (fun h=>h Wu),if_pos rfl]
theorem adf (b:List UInt8):qT 1 1 1 b=(b,0):=by unfold qT;rw[if_neg (fun h=>h Wu),if_pos rfl]
theorem Lw:yq≠gC/\sM≠gC/\sM≠yq/\Kq≠gC/\Kq≠yq/\Kq≠sM/\yu≠gC/\yu≠yq/\yu≠sM/\yu≠Kq:=by decide
def z8 (l:Lk):Lk:={l with early:=1}
theorem tD (v:O)(k:List UInt8):oi [(br,v)] k=if br=k then v else O.none:=by
 unfold oi
 by_cases h:br=k
 ·rw[if_pos h];simp[h]
 ·rw[if_neg h];simp[h]
theorem Sy (n:List UInt8):pU (lC n) O.none=(⟨1,1,1,n,1⟩,true):=by
 have e:ur (lC n) O.none=⟨1,1,1,n,1⟩:=rfl
 have u:G3 (lC n) O.none=true:=by
  unfold G3;rw[e]
  have:decide (ri 1 1 1)=true:=decide_eq_true Wu
  rw[this];rfl
 unfold pU
 rw[if_neg (fun h=>h.elim (fun h=>h rfl) (fun h=>h.1 rfl)),e,u]
theorem z9:∀M:List Lk,(∀l∈M,kV l)->me (dX M) (List.replicate M.length O.none)=some (M.map z8)
 |[],_=>rfl
 |l::r,h=>by
  have ih:=z9 r (fun a ha=>h a (List.mem_cons_of_mem _ ha))
  obtain⟨-,h1,h2,h3⟩:=h l (List.mem_cons_self ..)
  have e:(⟨1,1,1,l.name,1⟩:Lk)=z8 l:=by unfold z8;rw[<-h1];cases l;simp_all
  show me (lC l.name::dX r) (O.none::List.replicate r.length O.none)=_
  simp only[me,Sy,if_true,ih,Option.map_some,List.map_cons,e]
theorem Of {l:Lk}(h:kV l):kP l=O.none:=by unfold kP;rw[if_pos h.2.1]
theorem any_none {M:List Lk}(h:∀l∈M,kV l):yI M=false:=by
 unfold yI
 rw[List.any_eq_false]
 intro l hl
 simp[(h l hl).2.1]
theorem Aa (M:List Lk)(hM:∀l∈M,kV l)(h8:M.length<=8)(b:List UInt8):ig (.mk 8 0 b [] (cX [] (jN M)))=(M.map z8,0):=by
 have hl:=z9 M hM
 match M,hM,h8,hl with
 |[],_,_,_=>rfl
 |[l],hM,h8,hl=>
  have e1:jN [l]=[(br,lC l.name),(eF,O.none)]:=by show [(br,lC l.name),(eF,kP l)]=_;rw[Of (hM l (List.mem_cons_self ..))]
  have e2:cX [] (jN [l])=[(br,lC l.name)]:=by rw[e1];rfl
  rw[e2]
  have g1:fB (.mk 8 0 b [] [(br,lC l.name)]) br=lC l.name:=by unfold fB;rw[if_pos (show O.has _=true from rfl)];show oi [(br,_)] _=_;rw[tD,if_pos rfl]
  have g2:fB (.mk 8 0 b [] [(br,lC l.name)]) eF=O.none:=by unfold fB;rw[if_pos (show O.has _=true from rfl)];show oi [(br,_)] _=_;rw[tD,if_neg (by decide)]
  have e3:fQ (.mk 8 0 b [] [(br,lC l.name)])=(dX [l],List.replicate [l].length O.none,true):=by unfold fQ;rw[g1,g2];rfl
  unfold ig
  rw[e3,if_neg (fun h=>h rfl),if_neg (by simp[dX]),hl]
 |x::y::r,hM,h8,hl=>
  have e1:jN (x::y::r)=[(br,vn (dX (x::y::r)))]:=by show(if yI (x::y::r) then _ else _)=_;rw[any_none hM];rfl
  have e2:cX [] (jN (x::y::r))=[(br,vn (dX (x::y::r)))]:=by rw[e1];rfl
  rw[e2]
  generalize hK:dX (x::y::r)=K at hl|-
  have hKl:K.length=(x::y::r).length:=by rw[<-hK];simp[dX]
  have g1:fB (.mk 8 0 b [] [(br,vn K)]) br=vn K:=by unfold fB;rw[if_pos (show O.has _=true from rfl)];show oi [(br,_)] _=_;rw[tD,if_pos rfl]
  have g2:fB (.mk 8 0 b [] [(br,vn K)]) eF=O.none:=by unfold fB;rw[if_pos (show O.has _=true from rfl)];show oi [(br,_)] _=_;rw[tD,if_neg (by decide)]
  have e3:fQ (.mk 8 0 b [] [(br,vn K)])=(K,List.replicate (x::y::r).length O.none,true):=by unfold fQ;rw[g1,g2,<-hKl];rfl
  unfold ig
  rw[e3,if_neg (fun h=>h rfl),if_neg (by simp only[not_or];exact⟨by simp,by omega⟩),hl]
theorem yM:∀(M:List Lk),(∀l∈M,kV l)->∀b,(df M b).2=0
 |[],_,_=>rfl
 |l::r,h,b=>by
  have ih:=yM r (fun a ha=>h a (List.mem_cons_of_mem _ ha)) b
  obtain⟨hn,h1,h2,h3⟩:=h l (List.mem_cons_self ..)
  simp only[df]
  rw[if_neg (fun h=>h ih)]
  unfold rA
  rw[h1,h2,h3,Oe]
  repeat' split
  all_goals first|rfl|(rename_i h;exact absurd rfl h)
end Go.Cl.Ch
namespace Go.Proofs.YtdfjfncifneocaaGreat
open Go.Cl Go.Cl.Pr Go.Cl.Ch Go.Cl.Hx Go.Cl.B85 Go.Cl.Uh
theorem Wv {l:Lk}(hd:∀r,qT l.p l.co l.cl r=(r,0))(c:List UInt8)(m:Int)(hm:0<=m)(hc:c.length<=1000000):jM l (P7 (Fx.xA c) m)=if(c.length:Int)<=m then(c,0) else([],7):=by
 obtain⟨N,hN⟩:∃N,N=8*(Fx.xA c).length+fuelZ:=⟨_,rfl⟩
 have hN2:c.length+1<=N:=by rw[hN,Lf];omega
 by_cases k:(c.length:Int)<=m
 ·have z:=Nf.Sv N c [] (M:=m.toNat) (by omega) hN2
  rw[List.append_nil,hN] at z
  have e:P7 (Fx.xA c) m=(c,0):=by unfold P7;rw[z];rfl
  rw[e,if_pos k]
  unfold jM;rw[if_neg (fun h=>h rfl),hd]
 ·have z:=Nf.Sw N c (M:=m.toNat) (by omega) hN2
  rw[hN] at z
  have e:P7 (Fx.xA c) m=([],7):=by unfold P7;rw[z];rfl
  rw[e,if_neg k]
  unfold jM;rw[if_pos (by decide)]
theorem adg {l:Lk}(hd:∀r,qT l.p l.co l.cl r=(r,0))(c:List UInt8)(m:Int)(hm:0<=m):jM l (SO (Lz.Gg c) m)=if(c.length:Int)<=m then(c,0) else([],7):=by
 by_cases k:(c.length:Int)<=m
 ·have z:=Lz.Nm c [] (most:=m.toNat) (by omega)
  rw[List.append_nil] at z
  have e:SO (Lz.Gg c) m=(c,0):=by unfold SO;rw[z];rfl
  rw[e,if_pos k]
  unfold jM;rw[if_neg (fun h=>h rfl),hd]
 ·have z:=Lz.Nn c (most:=m.toNat) (by omega)
  have e:SO (Lz.Gg c) m=([],7):=by unfold SO;rw[z];rfl
  rw[e,if_neg k]
  unfold jM;rw[if_pos (by decide)]
theorem adh (c:List UInt8)(m:Int)(hm:0<=m):EJ m (hex c) (-1) []=if(c.length:Int)<=m then(c,0) else([],7):=by
 have e3:hex c=yn c++62::[]:=by simp[hex]
 rw[e3,Lv m [] c [] (by simpa using hm)]
 simp
theorem ahe (c:List UInt8)(m:Int)(hm:0<=m):rB m (Ez c) [] []=if(c.length:Int)<=m then(c,0) else([],7):=by
 have z:=Ws m [] c.length c [] (Nat.le_refl _) (by simpa using hm)
 rw[List.append_nil] at z
 rw[z]
 simp
theorem Zb (c:List UInt8)(m:Int)(hm:0<=m):Runs.dec m (Runs.encode c) []=if(c.length:Int)<=m then(c,0) else([],7):=by
 have hr:Runs.room m []=m.toNat:=by simp[Runs.room]
 by_cases k:(c.length:Int)<=m
 ·have z:=Runs.Oc m [] c [] (by rw[hr];omega)
  rw[List.append_nil] at z
  rw[z,if_pos k];rfl
 ·rw[Runs.Sx m c [] (by rw[hr];omega),if_neg k]
theorem Og {l:Lk}(h:kV l)(c:List UInt8)(m:Int)(hm:0<=m)(hc:c.length<=1000000):eY l (rA l c).1 m=if(c.length:Int)<=m then(c,0) else([],7):=by
 obtain⟨hn,h1,h2,h3⟩:=h
 obtain⟨a1,a2,a3,a4,a5,a6,a7,a8,a9,a10⟩:=Lw
 have Qu:oR m=m:=by unfold oR;rw[if_neg (by omega)]
 have hp:(iU l.p l.co l.cl c).1=c/\¬(iU l.p l.co l.cl c).2≠0:=by rw[h1,h2,h3,Oe];exact⟨rfl,fun h=>h rfl⟩
 have hd:∀r,qT l.p l.co l.cl r=(r,0):=fun r=>by rw[h1,h2,h3,adf]
 simp only[mG,List.mem_cons,List.not_mem_nil,or_false] at hn
 rcases hn with hn|hn|hn|hn|hn
 ·have e:(rA l c).1=Fx.xA c:=by unfold rA;rw[if_neg (by rw[hn];exact Ne.symm a2),if_neg (by rw[hn];exact Ne.symm a4),if_neg (by rw[hn];exact Ne.symm a7),if_neg hp.2,if_pos hn,hp.1]
  have e2:∀b,eY l b m=jM l (P7 b m):=fun b=>by unfold eY;rw[if_pos hn]
  rw[e,e2];exact Wv hd c m hm hc
 ·have e:(rA l c).1=Lz.Gg c:=by unfold rA;rw[if_neg (by rw[hn];exact Ne.symm a3),if_neg (by rw[hn];exact Ne.symm a5),if_neg (by rw[hn];exact Ne.symm a8),if_neg hp.2,if_neg (by rw[hn];exact a1),hp.1]
  have e2:∀b,eY l b m=jM l (SO b m):=fun b=>by unfold eY;rw[if_neg (by rw[hn];exact a1),if_pos hn]
  rw[e,e2];exact adg hd c m hm
 ·have e:(rA l c).1=hex c:=by unfold rA;rw[if_pos hn]
  have e2:∀b,eY l b m=EJ (oR m) b (-1) []:=fun b=>by unfold eY;rw[if_neg (by rw[hn];exact a2),if_neg (by rw[hn];exact a3),if_pos hn]
  rw[e,e2,Qu];exact adh c m hm
 ·have e:(rA l c).1=Ez c:=by unfold rA;rw[if_neg (by rw[hn];exact a6),if_pos hn]
  have e2:∀b,eY l b m=rB (oR m) b [] []:=fun b=>by unfold eY;rw[if_neg (by rw[hn];exact a4),if_neg (by rw[hn];exact a5),if_neg (by rw[hn];exact a6),if_pos hn]
  rw[e,e2,Qu];exact ahe c m hm
 ·have e:(rA l c).1=Runs.encode c:=by unfold rA;rw[if_neg (by rw[hn];exact a9),if_neg (by rw[hn];exact a10),if_pos hn]
  have e2:∀b,eY l b m=Runs.dec m b []:=fun b=>by unfold eY;rw[if_neg (by rw[hn];exact a7),if_neg (by rw[hn];exact a8),if_neg (by rw[hn];exact a9),if_neg (by rw[hn];exact a10)]
  rw[e,e2];exact Zb c m hm
theorem Sz {l:Lk}(h:kV l)(c:List UInt8)(hc:c.length<=65535):acR l (rA l c).1:=by
 obtain⟨hn,h1,h2,h3⟩:=h
 obtain⟨a1,a2,a3,a4,a5,a6,a7,a8,a9,a10⟩:=Lw
 intro hn
 have hp:(iU l.p l.co l.cl c).1=c/\¬(iU l.p l.co l.cl c).2≠0:=by rw[h1,h2,h3,Oe];exact⟨rfl,fun h=>h rfl⟩
 have e:(rA l c).1=Fx.xA c:=by unfold rA;rw[if_neg (by rw[hn];exact Ne.symm a2),if_neg (by rw[hn];exact Ne.symm a4),if_neg (by rw[hn];exact Ne.symm a7),if_neg hp.2,if_pos hn,hp.1]
 have z:=Nf.ID c []
 rw[List.append_nil] at z
 rw[e,z]
 exact Nf.Sl c _ hc
theorem Ab:∀(M:List Lk),(∀l∈M,kV l)->∀(b:List UInt8) (m:Int),0<=m->(∀j,(df (M.drop j) b).1.length<=65535)->
  ((∀j,1<=j->j<=M.length->((df (M.drop j) b).1.length:Int)<=m)->gm M (df M b).1 m=(b,0))/\((∃j,1<=j/\j<=M.length/\m<((df (M.drop j) b).1.length:Int))->gm M (df M b).1 m=([],7))/\G5 M (df M b).1 m
 |[],_,b,m,_,_=>⟨fun _=>rfl,fun⟨j,h1,h2,_⟩=>by simp at h2;omega,trivial⟩
 |l::r,h,b,m,hm,hs=>by
  have hr:=fun a ha=>h a (List.mem_cons_of_mem _ ha)
  obtain⟨i1,i2,i3⟩:=Ab r hr b m hm (fun j=>by have:=hs (j+1);simpa using this)
  have hp:=yM r hr b
  have h0:=hs 0
  have h1:=hs 1
  simp only[List.drop_zero,List.drop_succ_cons] at h0 h1
  have e:(df (l::r) b).1=(rA l (df r b).1).1:=by simp only[df];rw[if_neg (fun h=>h hp)]
  have hu:=Og (h l (List.mem_cons_self ..)) (df r b).1 m hm (by omega)
  have hB:=Sz (h l (List.mem_cons_self ..)) (df r b).1 (by omega)
  rw[<-e] at hu hB
  by_cases k:((df r b).1.length:Int)<=m
  ·rw[if_pos k] at hu
   have e3:gm (l::r) (df (l::r) b).1 m=gm r (df r b).1 m:=by simp only[gm,hu];rw[if_neg (fun h=>h rfl)]
   refine⟨fun q=> ?_,fun⟨j,j1,j2,j3⟩=> ?_,by omega,hB,fun _=>by rw[hu];exact i3⟩
   ·rw[e3];exact i1 (fun j j1 j2=>by have:=q (j+1) (by omega) (by simp;omega);simpa using this)
   ·rw[e3]
    match j,j1 with
    |1,_=>simp only[List.drop_succ_cons,List.drop_zero] at j3;omega
    |j+2,_=>exact i2 ⟨j+1,by omega,by simp at j2;omega,by simpa using j3⟩
  ·rw[if_neg k] at hu
   have e3:gm (l::r) (df (l::r) b).1 m=([],7):=by simp only[gm,hu];rw[if_pos (by decide)]
   refine⟨fun q=> ?_,fun _=>e3,by omega,hB,fun c=>by rw[hu] at c;exact absurd c (by decide)⟩
   have:=q 1 (by omega) (by simp)
   simp only[List.drop_succ_cons,List.drop_zero] at this
   omega
theorem Oh (l:Lk)(b:List UInt8)(m:Int):eY (z8 l) b m=eY l b m:=rfl
theorem Ac:∀(M:List Lk) (b:List UInt8) (m:Int),gm (M.map z8) b m=gm M b m
 |[],_,_=>rfl
 |l::r,b,m=>by simp only[List.map_cons,gm,Oh,Ac r]
theorem yN:∀(M:List Lk) (b:List UInt8) (m:Int),G5 M b m->G5 (M.map z8) b m
 |[],_,_,_=>trivial
 |l::r,b,m,h=>⟨h.1,h.2.1,fun k=>yN r _ _ (h.2.2 k)⟩
end Go.Proofs.YtdfjfncifneocaaGreat
set_option linter.unusedSimpArgs false
set_option linter.unusedVariables false
set_option maxRecDepth 100000
namespace Go.Proofs.YtdfjfncifneocaaGreat
open Go.Cl Go.Cl.Pr Go.Cl.Ch Go.Cl.Hx Go.Cl.B85
set_option maxHeartbeats 4000000 in
theorem adi (s:aq)(l:Lk)(hp:l.p=1/\l.co=1/\l.cl=1)(x:Value)(b:List UInt8)(hx:aN s 1 x b.length (ofBytes b))(hb:b.length<=2000000):
  Runs Tryz.prog eC 47 [fC l,x] s (uf s (rA l b)):=by
 obtain⟨QQ,gp⟩:∃QQ:Value->aq->Prop,QQ=uf s (rA l b):=⟨_,rfl⟩
 rw[<-gp]
 refine Runs.enter 40 Tryz.func47 rfl rfl rfl rfl ?_
 intro f hn hf
 have h0:f.get 0=fC l:=hf 0
 have h1:f.get 1=x:=hf 1
 clear hf
 simp-implicitDefEqProofs(disch:=omega)only[aj,QS,↓reduceIte,hn,h0]
 refine ax ?_
 intro s1 ht aD DQ
 have ht:av s1 s.next l.cells:=ht
 have hd:l.cells.length+1=6:=rfl
 have lM:=hx.keeps aD
 have p3:aR Tryz.prog s1 9 (.pointer (some ⟨s.next,3,some 6⟩))=some (.string ⟨l.name.toArray⟩):=ht.load uN (off:=3) (c:=6) rfl (by simp[Lk.cells])
 have e1:=kh (P:=Tryz.prog) (t:=9) l.name sM
 have e2:=kh (P:=Tryz.prog) (t:=9) l.name Kq
 have e3:=kh (P:=Tryz.prog) (t:=9) l.name yu
 have e4:=kh (P:=Tryz.prog) (t:=9) l.name gC
 rw[show sM.toArray= #[65,83,67,73,73,72,101,120,68,101,99,111,100,101] from rfl] at e1
 rw[show Kq.toArray= #[65,83,67,73,73,56,53,68,101,99,111,100,101] from rfl] at e2
 rw[show yu.toArray= #[82,117,110,76,101,110,103,116,104,68,101,99,111,100,101] from rfl] at e3
 rw[show gC.toArray= #[70,108,97,116,101,68,101,99,111,100,101] from rfl] at e4
 by_cases c1:l.name=sM
 ·rw[decide_eq_true c1] at e1
  simp-implicitDefEqProofs(disch:=omega)only[aj,ak,ad,QS,WP,↓reduceIte,hn,h1,hd,yw,p3,e1]
  refine(Yv (lib:=eC) rfl s1 x b lM (by omega)).mono ?_
  intro w s2 hw
  simp-implicitDefEqProofs(disch:=omega)only[aj,al,oneOf,QS,WP,↓reduceIte,hn,Tryz.results47]
  rw[gp]
  exact⟨w,by unfold rA;rw[if_pos c1],by unfold rA;rw[if_pos c1];exact cC.behind hw aD⟩
 rw[decide_eq_false c1] at e1
 by_cases c2:l.name=Kq
 ·rw[decide_eq_true c2] at e2
  simp-implicitDefEqProofs(disch:=omega)only[aj,ak,ad,QS,WP,↓reduceIte,hn,h1,hd,yw,p3,e1,e2]
  refine(Nr (lib:=eC) rfl s1 x b lM (by omega)).mono ?_
  intro w s2 hw
  simp-implicitDefEqProofs(disch:=omega)only[aj,al,oneOf,QS,WP,↓reduceIte,hn,Tryz.results47]
  rw[gp]
  exact⟨w,by unfold rA;rw[if_neg c1,if_pos c2],by unfold rA;rw[if_neg c1,if_pos c2];exact cC.behind hw aD⟩
 rw[decide_eq_false c2] at e2
 by_cases c3:l.name=yu
 ·rw[decide_eq_true c3] at e3
  simp-implicitDefEqProofs(disch:=omega)only[aj,ak,ad,QS,WP,↓reduceIte,hn,h1,hd,yw,p3,e1,e2,e3]
  refine(KA (lib:=eC) rfl rfl rfl s1 x b lM (by omega)).mono ?_
  intro w s2 hw
  simp-implicitDefEqProofs(disch:=omega)only[aj,al,oneOf,QS,WP,↓reduceIte,hn,Tryz.results47]
  rw[gp]
  exact⟨w,by unfold rA;rw[if_neg c1,if_neg c2,if_pos c3],by unfold rA;rw[if_neg c1,if_neg c2,if_pos c3];exact cC.behind hw aD⟩
 rw[decide_eq_false c3] at e3
 have la:aR Tryz.prog s1 56 (.pointer (some ⟨s.next,0,some 6⟩))=some (i3 l.p l.co l.cl):=by
  have:=av.tn (P:=Tryz.prog) zz qS ht (off:=0) (c:=6) rfl (by simp[Lk.cells])
  rw[this];rfl
 simp-implicitDefEqProofs(disch:=omega)only[aj,ak,ad,QS,WP,↓reduceIte,hn,h1,hd,yv,yw,p3,e1,e2,e3,la]
 refine(Kr (lib:=eC) acd rfl s1 l.p l.co l.cl hp.1 hp.2.1 hp.2.2 x b lM (by omega)).mono ?_
 rintro _ s2 ⟨w,rfl,hw⟩
 have hk:ar s.next s s2:=aD.trans (hw.stay.weaken aD.next)
 have oY:=JB l.p l.co l.cl b
 have x0:∀z,ba (.tuple #[w,z]) 0=some w:=fun _=>rfl
 have x1:∀z,ba (.tuple #[w,z]) 1=some z:=fun _=>rfl
 by_cases c4:(iU l.p l.co l.cl b).2=0
 rotate_left
 ·have hD:rA l b=([],(iU l.p l.co l.cl b).2):=by unfold rA;rw[if_neg c1,if_neg c2,if_neg c3,if_pos c4]
  simp-implicitDefEqProofs(disch:=omega)only[aj,ak,al,oneOf,QS,WP,↓reduceIte,hn,x0,x1,decide_not,decide_eq_false c4,Tryz.results47]
  rw[gp,hD]
  exact⟨_,rfl,⟨.nil,aH.nil _,hk⟩⟩
 have dZ:=ht.keeps hw.stay
 have p4:aR Tryz.prog s2 9 (.pointer (some ⟨s.next,3,some 6⟩))=some (.string ⟨l.name.toArray⟩):=dZ.load uN (off:=3) (c:=6) rfl (by simp[Lk.cells])
 rw[c4]
 by_cases c5:l.name=gC
 ·rw[decide_eq_true c5] at e4
  have hD:rA l b=(Fx.xA (iU l.p l.co l.cl b).1,0):=by unfold rA;rw[if_neg c1,if_neg c2,if_neg c3,if_neg (fun h=>h c4),if_pos c5]
  simp-implicitDefEqProofs(disch:=omega)only[aj,ak,ad,QS,WP,↓reduceIte,hn,x0,x1,yw,p4,e4]
  refine(Un (lib:=eC) rfl rfl rfl rfl rfl rfl rfl rfl rfl rfl rfl rfl rfl rfl rfl rfl rfl s2 w _ hw.own.aG (by omega)).mono ?_
  intro y s3 hy
  simp-implicitDefEqProofs(disch:=omega)only[aj,al,oneOf,QS,WP,↓reduceIte,hn,Tryz.results47]
  rw[gp,hD]
  exact⟨y,rfl,hy.behind hk⟩
 rw[decide_eq_false c5] at e4
 have hD:rA l b=(Lz.Gg (iU l.p l.co l.cl b).1,0):=by unfold rA;rw[if_neg c1,if_neg c2,if_neg c3,if_neg (fun h=>h c4),if_neg c5]
 simp-implicitDefEqProofs(disch:=omega)only[aj,ak,ad,QS,WP,↓reduceIte,hn,x0,x1,yw,p4,e4]
 refine(Np (lib:=eC) rfl rfl rfl rfl rfl rfl rfl rfl s2 w _ hw.own.aG (by omega)).mono ?_
 intro y s3 hy
 simp-implicitDefEqProofs(disch:=omega)only[aj,al,oneOf,QS,WP,↓reduceIte,hn,Tryz.results47]
 rw[gp,hD]
 exact⟨y,rfl,hy.behind hk⟩
end Go.Proofs.YtdfjfncifneocaaGreat
set_option linter.unusedSimpArgs false
set_option linter.unusedVariables false
set_option maxRecDepth 100000
namespace Go.Proofs.YtdfjfncifneocaaGreat
open Go.Cl Go.Cl.Pr Go.Cl.Ch Go.Cl.Hx Go.Cl.B85
set_option maxHeartbeats 8000000 in
theorem EN (s:aq)(x:Value)(L:List Lk)(hx:aN s 5 x L.length (mP L))(hL:L.length<=1000)(hN:∀l∈L,l.name.length<=100000)(hP:∀l∈L,l.p=1):Runs Tryz.prog eC 49 [x] s (aar s (jN L)):=by
 obtain⟨QQ,gp⟩:∃QQ:Value->aq->Prop,QQ=aar s (jN L):=⟨_,rfl⟩
 rw[<-gp]
 refine Runs.enter 63 Tryz.func49 rfl rfl rfl rfl ?_
 intro f hn hf
 have h0:f.get 0=x:=hf 0
 clear hf
 have UK:=Tryz.underlying31
 have UO:=Tryz.underlying23
 simp-implicitDefEqProofs(disch:=omega)only[aj,ad,QS,WP,↓reduceIte,hn,h0,hx.bh UK]
 refine Comes.bK (fun q f t=>∃(i:Nat) (y z:Value) (LC MC:List Value),q=L.length-i/\i<=L.length/\Own t 5 y i LC/\Own t 5 z i MC/\aS dk 5 (qG s.next (fun _=>False) y z) t (dX (L.take i)) LC/\aS dk 5 (qG s.next (fun _=>False) y z) t (pT (L.take i)) MC/\aH s.next y/\aH s.next z/\(∀j,aE y=some j->aE z≠some j)/\ar s.next s t/\f.n=63/\f.get 0=x/\f.get 3=y/\f.get 4=z/\f.get 5= .bool (yI (L.take i))/\f.get 8=x/\f.get 9= .int .i64 (L.length:Nat)/\f.get 10= .int .i64 (i:Nat))
  (fun q f t=>q= .exit 0/\∃(y z:Value) (LC MC:List Value),Own t 5 y L.length LC/\Own t 5 z L.length MC/\aS dk 5 (qG s.next (fun _=>False) y z) t (dX L) LC/\aS dk 5 (qG s.next (fun _=>False) y z) t (pT L) MC/\aH s.next y/\aH s.next z/\ar s.next s t/\f.n=63/\f.get 0=x/\f.get 3=y/\f.get 4=z/\f.get 5= .bool (yI L))
  ⟨0,.slice none 0 0,.slice none 0 0,[],[],rfl,by omega,.nil,.nil,by rw[List.take_zero];exact aS.nil,by rw[List.take_zero];exact aS.nil,aH.nil _,aH.nil _,(fun j h=>by cases h),ar.refl _ _,by simp only[ag,hn],by simp only[aa,↓reduceIte,WP,h0],by simp only[aa,↓reduceIte,WP],by simp only[aa,↓reduceIte,WP],by simp only[aa,↓reduceIte,WP];rfl,by simp only[aa,↓reduceIte,WP],by simp only[aa,↓reduceIte,WP],by simp only[aa,↓reduceIte];rfl⟩ ?_ ?_
 ·clear hn h0 f
  rintro Q hQ q f s6 ⟨i,y,z,LC,MC,rfl,hi,hy,hz,hR,hM,kJ,hzF,hyz,eD,hn,h0,h3,h4,h5,h8,h9,gK⟩
  have n6:=eD.next
  have UH:=hx.keeps eD
  by_cases bc:i<L.length
  rotate_left
  ·obtain rfl:i=L.length:=by omega
   rw[List.take_length] at hR hM h5
   have d1:¬((L.length:Nat):Int)<((L.length:Nat):Int):=by omega
   simp-implicitDefEqProofs(disch:=omega)only[aj,ak,QS,↓reduceIte,hn,h9,gK,eq_false d1]
   exact hQ _ _ _ ⟨rfl,y,z,LC,MC,hy,hz,hR,hM,kJ,hzF,eD,by simp only[ag,hn],by simp only[aa,↓reduceIte,WP,h0],by simp only[aa,↓reduceIte,WP,h3],by simp only[aa,↓reduceIte,WP,h4],by simp only[aa,↓reduceIte,WP,h5]⟩
  have d1:(i:Int)<(L.length:Int):=by omega
  have ln:=UH.indexAddr (P:=Tryz.prog) (k:= .i64) (x:=(i:Int)) UK cV (by omega) (by omega)
  rw[Int.toNat_natCast] at ln
  have iF:=UH.fm (P:=Tryz.prog) lB cV bc
  rw[u7 bc] at iF
  obtain⟨l,hl⟩:∃l,l=L[i]:=⟨_,rfl⟩
  rw[<-hl] at iF
  have hlN:l.name.length<=100000:=hN l (by rw[hl];exact List.getElem_mem bc)
  have gF:cf (fC l) (fC l)=true:=by simp[cf,fK,cN,Lk.cells]
  have IQ:bW Tryz.prog 58=some (fC ⟨0,0,0,[],0⟩):=by kernel_rfl
  have vo:bP (fC ⟨0,0,0,[],0⟩)=true:=by kernel_rfl
  simp-implicitDefEqProofs(disch:=omega)only[aj,ak,QS,WP,↓reduceIte,hn,h8,h9,gK,eq_true d1,ln,iF,IQ,vo]
  refine ax ?_
  intro s7 tI mF rq
  have hd:∀l:Lk,l.cells.length+1=6:=fun _=>rfl
  simp-implicitDefEqProofs(disch:=omega)only[aj,QS,WP,↓reduceIte,hn,hd]
  refine aA cV (by decide) tI rfl rfl rfl rfl ?_
  intro s8 uj UI H4
  have uj:av s8 s6.next l.cells:=uj
  have iy:ar s6.next s6 s8:=mF.trans ⟨by omega,fun j hj=>H4 j (by omega)⟩
  have n8:=iy.next
  have L5:=hy.g8
  have o8:=hz.g8
  have hy:=hy.keeps iy
  have hz:=hz.keeps iy
  have hR:=hR.keeps cw iy
  have hM:=hM.keeps cw iy
  simp-implicitDefEqProofs(disch:=omega)only[aj]
  obtain⟨A,hA⟩:∃A:Nat->Bool,A=fun j=>decide (j<s8.next/\aE y≠some j):=⟨_,rfl⟩
  have nH:∀j,A j=true->j<s8.next:=by
   intro j h
   rw[hA] at h
   exact(of_decide_eq_true h).1
  have hA6:A s6.next=true:=by rw[hA];exact decide_eq_true ⟨by omega,fun e=>by have:=L5 _ e;omega⟩
  have hAy:∀j,aE y=some j->A j=false:=fun j e=>by rw[hA];exact decide_eq_false (fun h=>h.2 e)
  refine LB.da.fL A nH 2 2 (by kernel_rfl) (by kernel_rfl) ?_
  have eI:=ar.spare s8 2
  have X3:(spare s8 2).next=s8.next+2:=bU _ _
  have ra:∀k,LA.fg A (some (.pointer (some ⟨s6.next,k,some 6⟩)))=true:=fun k=>LA.cD (A:=A) (i:=s6.next) hA6
  have l1:aR Tryz.prog (spare s8 2) 9 (.pointer (some ⟨s6.next,3,some 6⟩))=some (.string ⟨l.name.toArray⟩):=(uj.keeps eI).load uN (off:=3) (c:=6) rfl (by simp[Lk.cells])
  simp-implicitDefEqProofs(disch:=omega)only[aj,ak,bS,bT,Nat.add_one_sub_one,ad,ae,QS,WP,↓reduceIte,hn,h3,yw,ra,l1,hy.self]
  refine(U8 (lib:=eC) rfl (spare s8 2) l.name (by omega)).mono ?_
  rintro _ a ⟨ca,rfl,oa,ka⟩
  have ma:=ka.next
  refine⟨fun _=>LA.ar.OW nH (ka.weaken (by omega)),?_⟩
  have la:=oa.len
  try simp-implicitDefEqProofs(disch:=omega)only[fM (cs:=ca.toArray) UO iH zO xB rfl la (by decide)]
  refine LB.dx (base:=s8.next) la (by omega) (Nat.le_refl _) ?_
  intro u b hu gn kb nb ob
  have k8b:ar s8.next s8 b:=(eI.trans (ka.weaken (by omega))).trans kb
  have mb:=k8b.next
  obtain⟨E8,hE8⟩:∃E8:Nat->Prop,E8=fun j=>j=s8.next+1:=⟨_,rfl⟩
  have hR:=qG.aas hR (n:=s8.next+1) (by omega)
  have hM:=qG.aas hM (n:=s8.next+1) (by omega)
  rw[<-hE8] at hR hM
  have WW:dk (qG s.next E8 y z) b ca (lC l.name):=((oa.turns (u:= .pointer (some ⟨s8.next,0,none⟩)) (aY.aI nb ob) (fun j hj e=>by
   have e:some s8.next=some j:=e
   injection e with e;omega)).mono (fun j hj=>⟨by omega,fun e=>e.elim (fun e=>by rw[hE8] at e;omega) (fun e=>by have:=o8 _ e;omega),fun e=>by have:=L5 _ e;omega⟩))
  simp-implicitDefEqProofs(disch:=omega)only[aj,bT,ad,QS,WP,↓reduceIte,hn]
  refine LB.j9 UO UO (.inl ⟨_,rfl⟩) iH byO zO rfl (hy.keeps k8b) hu.aG.src la (by decide) WW.ok (by omega) (by omega) (base:=s.next) kJ (by omega) (fun _=>hAy) (fun j hj=>by have:=nH j hj;omega) ?_
  intro y' c Zo ahf DP qU
  have mc:=DP.next
  have hR' :=qG.grow (hR.keeps cw k8b) la WW DP qU
  have hM' :=qG.other (hM.keeps cw k8b) DP qU
  have Hk:∀j,aE y' =some j->aE y=some j\/b.next<=j:=fun j e=>by
   rcases qU with h|⟨k,h,h2⟩
   ·left;rw[<-h];exact e
   ·right;rw[h] at e;injection e with e;omega
  have uy:Own c 5 z i MC:=(hz.keeps k8b).turns DP (fun j e e2=>hyz j e2 e)
  have ahg:∀j,aE y' =some j->aE z≠some j:=fun j e e2=>by
   rcases Hk j e with h|h
   ·exact hyz j h e2
   ·have:=o8 j e2;omega
  have TZ:=(uj.keeps k8b).turns DP (fun e=>by have:=L5 _ e;omega)
  have la2:aR Tryz.prog c 58 (.pointer (some ⟨s6.next,0,some 6⟩))=some (fC l):=av.bu (P:=Tryz.prog) (cs:=l.cells) lB cV TZ (c:=6) rfl
  simp-implicitDefEqProofs(disch:=omega)only[aj,ak,bS,bT,Nat.sub_self,Nat.reduceSub,ad,ae,QS,WP,↓reduceIte,hn,h4,ra,la2,gF,hz.self]
  refine(RH c l (hP l (by rw[hl];exact List.getElem_mem bc))).mono ?_
  rintro _ d ⟨cd,rfl,od,kd⟩
  have md:=kd.next
  have ld:=od.len
  refine⟨fun h=>absurd h (fun h=>h),?_⟩
  try simp-implicitDefEqProofs(disch:=omega)only[fM (cs:=cd.toArray) UO iH zO xB rfl ld (by decide)]
  refine LB.dx (base:=s8.next) ld (by omega) (by omega) ?_
  intro u2 e II qb ke ne oe
  have gR:=qG.put (by rw[hE8] at hR';exact hR'.keeps cw kd) ne oe
  have hM2:=qG.put (by rw[hE8] at hM';exact hM'.keeps cw kd) ne oe
  have ck:∀w,(∀j,aE w=some j->aE y=some j\/aE z=some j\/b.next<=j)->aE w≠some (s8.next+1):=fun w h q=>by
   rcases h _ q with h|h|h
   ·have:=L5 _ h;omega
   ·have:=o8 _ h;omega
   ·omega
  have vE:Own e 5 y' (i+1) (LC++ca):=(Zo.keeps kd).aI ne oe (ck _ (fun j q=>(Hk j q).imp id .inr))
  have Wz:Own e 5 z i MC:=(uy.keeps kd).aI ne oe (ck _ (fun j q=> .inr (.inl q)))
  have od2:dk (qG s.next (fun _=>False) z y') e cd (kP l):=((od.turns (u:= .pointer (some ⟨s8.next+1,0,none⟩)) (aY.aI ne oe) (fun j hj q=>by
   have q:some (s8.next+1)=some j:=q
   injection q with q;omega)).mono (fun j hj=>⟨by omega,fun q=>q.elim id (fun q=>by have:=Zo.g8 j q;omega),fun q=>by have:=o8 _ q;omega⟩))
  simp-implicitDefEqProofs(disch:=omega)only[aj,bT,ad,QS,WP,↓reduceIte,hn]
  refine LB.j9 UO UO (.inl ⟨_,rfl⟩) iH byO zO rfl Wz II.aG.src ld (by decide) od2.ok (by omega) (by omega) (base:=s.next) hzF (by omega) (fun h=>absurd rfl h) (fun j hj=>by have:=nH j hj;omega) ?_
  intro z' g hz3 ahh htg adk
  have hM3:=qG.P9 (qG.grow (qG.P9 hM2) ld od2 htg adk)
  have zT:=qG.P9 (qG.other (qG.P9 gR) htg adk)
  have mg:=htg.next
  have hy3:Own g 5 y' (i+1) (LC++ca):=vE.turns htg (fun j q=>ahg j q)
  have ahi:∀j,aE y' =some j->aE z' ≠some j:=fun j q q2=>by
   rcases adk with h|⟨k,h,h2⟩
   ·exact ahg j q (by rw[<-h];exact q2)
   ·rw[h] at q2;injection q2 with q2;have:=vE.g8 j q;omega
  have alT:av g s6.next l.cells:=((TZ.keeps kd).aI ne oe (by omega)).turns htg (fun q=>by have:=o8 _ q;omega)
  have k6g:ar s.next s g:=((((eD.trans (iy.weaken n6)).trans (k8b.weaken (by omega))).trans ((DP.keeps kJ (by omega)).weaken (by omega))).trans (kd.weaken (by omega))).trans ((show ar s.next d e from⟨by omega,fun j hj=>oe j (by omega)⟩).trans (htg.keeps hzF (by omega)))
  have l7:aR Tryz.prog g 3 (.pointer (some ⟨s6.next,0,some 6⟩))=some (.int .i64 l.p):=alT.load bC (off:=0) (c:=6) rfl (by simp[Lk.cells])
  have ahj:yI (L.take (i+1))=(yI (L.take i)||decide (l.p≠1)):=by
   unfold yI
   rw[List.take_succ_eq_append_getElem bc,List.any_append,<-hl];simp
  have Zv:dX (L.take (i+1))=dX (L.take i)++[lC l.name]:=by
   unfold dX;rw[List.take_succ_eq_append_getElem bc,List.map_append,<-hl];rfl
  have hpm:pT (L.take (i+1))=pT (L.take i)++[kP l]:=by
   unfold pT;rw[List.take_succ_eq_append_getElem bc,List.map_append,<-hl];rfl
  rw[<-Zv] at zT
  rw[<-hpm] at hM3
  cases ha:yI (L.take i) with
  |true=>
   rw[ha] at h5
   simp-implicitDefEqProofs(disch:=omega)only[aj,ak,bS,bT,Nat.reduceSub,QS,WP,↓reduceIte,undef,hn,h5,gK,aB,hy3.self,hz3.self]
   refine au (L.length-(i+1)) (by omega) ⟨i+1,y',z',LC++ca,MC++cd,rfl,by omega,hy3,hz3,zT,hM3,ahf,ahh,ahi,k6g,by simp only[ag,hn],by simp only[aa,↓reduceIte,WP,h0],by simp only[aa,↓reduceIte,WP],by simp only[aa,↓reduceIte,WP],by simp only[aa,↓reduceIte,WP,ahj,ha,Bool.true_or],by simp only[aa,↓reduceIte,WP,h8],by simp only[aa,↓reduceIte,WP,h9],by simp only[aa,↓reduceIte];rfl⟩
  |false=>
   rw[ha] at h5
   simp-implicitDefEqProofs(disch:=omega)only[aj,ak,bS,bT,Nat.reduceSub,QS,WP,↓reduceIte,hn,h5,gK,yv,wu,l7,aB,hy3.self,hz3.self]
   refine au (L.length-(i+1)) (by omega) ⟨i+1,y',z',LC++ca,MC++cd,rfl,by omega,hy3,hz3,zT,hM3,ahf,ahh,ahi,k6g,by simp only[ag,hn],by simp only[aa,↓reduceIte,WP,h0],by simp only[aa,↓reduceIte,WP],by simp only[aa,↓reduceIte,WP],by simp only[aa,↓reduceIte,WP,ahj,ha,Bool.false_or],by simp only[aa,↓reduceIte,WP,h8],by simp only[aa,↓reduceIte,WP,h9],by simp only[aa,↓reduceIte];rfl⟩
 clear hn h0 f
 rintro _ f t ⟨rfl,y,z,LC,MC,hy,hz,hR,hM,kJ,hzF,aD,hn,h0,h3,h4,h5⟩
 have xz:=hx.keeps aD
 have nt:=aD.next
 have hNs:(dX L).length=L.length:=by simp[dX]
 have hPs:(pT L).length=L.length:=by simp[pT]
 by_cases c0:L.length=0
 ·have e0:L=[]:=List.eq_nil_of_length_eq_zero c0
  subst e0
  have d0:(((([]:List Lk).length:Nat)):Int)=0:=rfl
  simp-implicitDefEqProofs(disch:=omega)only[aj,al,oneOf,ad,QS,↓reduceIte,hn,h0,xz.bh UK,eq_true d0,Tryz.results49]
  rw[gp]
  exact⟨[],.nil,aS.nil,aD⟩
 have d0:¬((L.length:Nat):Int)=0:=by omega
 by_cases c1:L.length=1
 ·obtain⟨l,rfl⟩:∃l,L=[l]:=List.length_eq_one_iff.1 c1
  have d1:((([l].length:Nat)):Int)=1:=rfl
  simp-implicitDefEqProofs(disch:=omega)only[aj,ad,QS,WP,↓reduceIte,hn,h0,xz.bh UK,eq_false d0,eq_true d1]
  obtain⟨A,hA⟩:∃A:Nat->Bool,A=fun j=>decide (j<t.next):=⟨_,rfl⟩
  have nH:∀j,A j=true->j<t.next:=by
   intro j h
   rw[hA] at h
   exact of_decide_eq_true h
  have Ao:∀j,j<t.next->A j=true:=fun j h=>by rw[hA];exact decide_eq_true h
  refine LB.da.fL A nH 1 1 (by kernel_rfl) (by kernel_rfl) ?_
  have eI:=ar.spare t 1
  have X3:(spare t 1).next=t.next+1:=bU _ _
  have hys:=(hy.keeps eI).aG
  have LG:=(hz.keeps eI).aG
  have ix:∀{v:Value} {l:List Value} {u:aq},aN u 5 v 1 l->bQ Tryz.prog 23 v (.int .i64 0)=some (bJ 5 v 0):=fun {v l u} h=>h.indexAddr (P:=Tryz.prog) (k:= .i64) (x:=0) UO iH (by decide) (by decide)
  have rn:=hR.row 0 (by simp[dX])
  have rm:=hM.row 0 (by simp[pT])
  have ldy:=hys.fm (P:=Tryz.prog) Gm iH (k:=0) (by simp)
  have ldz:∀u,ar t.next t u->aR Tryz.prog u 26 (bJ 5 z 0)=some (.agg ((MC.drop (0*5)).take 5).toArray):=fun u h=>(hz.keeps h).aG.fm (P:=Tryz.prog) Gm iH (k:=0) (by simp)
  have rn:dk (qG s.next (fun _=>False) y z) t ((LC.drop (0*5)).take 5) (lC l.name):=rn
  have rm:dk (qG s.next (fun _=>False) y z) t ((MC.drop (0*5)).take 5) (kP l):=rm
  obtain⟨cn,Um⟩:∃cn,cn=(LC.drop (0*5)).take 5:=⟨_,rfl⟩
  obtain⟨cm,hcm⟩:∃cm,cm=(MC.drop (0*5)).take 5:=⟨_,rfl⟩
  rw[<-Um] at rn ldy
  rw[<-hcm] at rm ldz
  have hlN:=hN l (by simp)
  have hle:∀{v:Value} {l:List Value},aN t 5 v 1 l->LA.fg A (some (bJ 5 v 0))=true:=fun {v l} h=>LA.mD h Ao (by decide)
  have ahk:=hle hy.aG
  have ahl:=hle hz.aG
  simp-implicitDefEqProofs(disch:=omega)only[aj,ak,bS,bT,Nat.sub_self,ad,QS,WP,↓reduceIte,hn,h3,h4,hy.self,hz.self,ix hys,ix LG,ahk,ldy,rn.self]
  refine(wW (lib:=eC) rfl rfl rfl _ (spare t 1) br cn _ (rn.keeps eI) (td hlN)).mono ?_
  rintro _ a ⟨ca,rfl,oa,ka⟩
  have ma:=ka.next
  have la:=oa.len
  have kta:ar t.next t a:=eI.trans (ka.weaken (by omega))
  refine⟨fun _=>LA.ar.OW nH (ka.weaken (by omega)),?_⟩
  simp-implicitDefEqProofs(disch:=omega)only[aj,ak,bS,bT,Nat.reduceSub,ad,ae,QS,WP,↓reduceIte,hn,ahl,ldz _ kta,rm.self]
  refine(wW (lib:=eC) rfl rfl rfl _ a eF cm _ (rm.keeps kta) (qF l)).mono ?_
  rintro _ b ⟨cb,rfl,ob,kb⟩
  have mb:=kb.next
  have lb:=ob.len
  refine⟨fun h=>absurd h (fun h=>h),?_⟩
  have sE:∀(k:List UInt8) (cs:List Value),cs.length=5->(Value.string ⟨k.toArray⟩::cs).length=6:=fun k cs h=>by rw[List.length_cons,h]
  try simp-implicitDefEqProofs(disch:=omega)only[ak,RG (a:=(.string ⟨br.toArray⟩::ca).toArray) (b:=(.string ⟨eF.toArray⟩::cb).toArray) Tryz.underlying24 qv zE Uy rfl (sE br ca la) (sE eF cb lb) (by decide)]
  refine LB.dx (base:=t.next) (by simp[la,lb]) (by omega) (Nat.le_refl _) ?_
  intro u c hu gn kc nc oc
  have ktc:ar t.next t c:=(kta.trans (kb.weaken (by omega))).trans kc
  have put:∀(k:List UInt8) (q:List Value) (o:O) (w:Nat) (v:aq),dk (fun j=>w<=j) v q o->t.next+1<=w->ar v.next v b->k.length<=9223372036854775807->dU (fun j=>s.next<=j) c (.string ⟨k.toArray⟩::q) (k,o):=fun k q o w v ho hb hu hk=>⟨q,rfl,((ho.keeps hu).turns (u:= .pointer (some ⟨t.next,0,none⟩)) (aY.aI nc oc) (fun j hj e=>by
   have e:some t.next=some j:=e
   injection e with e;omega)).mono (fun j hj=>by omega),hk⟩
  have rows:=aS.two (F:=fun j=>s.next<=j) (s:=c) (sE br ca la) (put br ca _ _ _ oa (by omega) kb (by decide)) (sE eF cb lb) (put eF cb _ _ _ ob (by omega) (ar.refl _ _) (by decide))
  simp-implicitDefEqProofs(disch:=omega)only[aj,al,oneOf,QS,↓reduceIte,aj,bS,bT,oneOf,QS,↓reduceIte,hn,hu.self,Tryz.results49]
  rw[gp]
  exact⟨_,hu.aG,rows,aD.trans (ktc.weaken nt)⟩
 have d1:¬((L.length:Nat):Int)=1:=by omega
 obtain⟨l1,l2,r,hLr⟩:∃l1 l2 r,L=l1::l2::r:=by
  cases L with
  |nil=>exact absurd rfl c0
  |cons a L=>cases L with
   |nil=>exact absurd rfl c1
   |cons b L=>exact⟨a,b,L,rfl⟩
 have eE:jN L=if yI L then [(br,vn (dX L)),(eF,vn (pT L))] else [(br,vn (dX L))]:=by rw[hLr];rfl
 have sN:∀o∈dX L,Small o:=xm hN
 have sAn:Small (vn (dX L)):= .mk (by simp) (by omega) (by simp) (fun e h=>by cases h) sN (fun e h=>by cases h)
 have sE:∀(k:List UInt8) (cs:List Value),cs.length=5->(Value.string ⟨k.toArray⟩::cs).length=6:=fun k cs h=>by rw[List.length_cons,h]
 have toE:∀(k:List UInt8) (q:List Value) (o:O) (w:Nat) (v c:aq),dk (fun j=>w<=j) v q o->s.next<=w->ar v.next v c->k.length<=9223372036854775807->dU (fun j=>s.next<=j) c (.string ⟨k.toArray⟩::q) (k,o):=fun k q o w v c ho hb hu hk=>⟨q,rfl,(ho.keeps hu).mono (fun j hj=>by omega),hk⟩
 have ha:yI L=false:=by
  unfold yI;rw[List.any_eq_false];intro l hl;simp[hP l hl]
 rw[ha] at h5
 simp-implicitDefEqProofs(disch:=omega)only[aj,ak,ad,QS,WP,↓reduceIte,hn,h0,h3,h5,xz.bh UK,eq_false d0,eq_false d1]
 refine(Yj (lib:=eC) rfl rfl rfl _ t y (dX L) LC (by rw[hNs];exact hy.aG) hR (by omega) sN).mono ?_
 rintro _ a ⟨ca,rfl,oa,ka⟩
 have ma:=ka.next
 simp-implicitDefEqProofs(disch:=omega)only[aj,ak,ad,QS,↓reduceIte,hn]
 refine(wW (lib:=eC) rfl rfl rfl _ a br ca _ oa sAn).mono ?_
 rintro _ b ⟨cb,rfl,ob,kb⟩
 have mb:=kb.next
 have lb:=ob.len
 simp-implicitDefEqProofs(disch:=omega)only[aj,ae,QS,↓reduceIte,hn,fM (cs:=(.string ⟨br.toArray⟩::cb).toArray) Tryz.underlying24 qv zE Uy rfl (sE br cb lb) (by decide)]
 refine aQ (by simp[lb]) ?_
 intro u e hu hF ke
 simp-implicitDefEqProofs(disch:=omega)only[aj,al,oneOf,QS,↓reduceIte,hn,Tryz.results49]
 rw[gp,eE,ha]
 have rows:=aS.one (F:=fun j=>s.next<=j) (s:=e) (sE br cb lb) (toE br cb _ _ _ _ ob (by omega) ke (by decide))
 exact⟨_,hu.aG,rows,aD.trans (((ka.trans (kb.weaken (by omega))).trans (ke.weaken (by omega))).weaken nt)⟩
end Go.Proofs.YtdfjfncifneocaaGreat
