import Derived.Test.YtdfjfncifneocaaGreatRuns1
import Derived.Test.YtdfjfncifneocaaGreatPrD
import Derived.Test.YtdfjfncifneocaaGreatMapS
import Derived.Test.YtdfjfncifneocaaGreatPrA
import Derived.Test.YtdfjfncifneocaaGreatAdl
set_option linter.unusedSimpArgs false
set_option linter.unusedVariables false
set_option maxRecDepth 100000
namespace Go.Proofs.YtdfjfncifneocaaGreat
open Go.Cl Go.Cl.Runs
theorem CA {lib:ay}(hl:lib.at 132=none)(s:aq)(x pv:Value)(l:List UInt8)(ps:List (Value×List UInt8))(hx:Own s 1 x l.length (ofBytes l))(hp:aM s 1 pv ps.length (ps.map (·.1)))
  (hps:∀p∈ps,aM s 1 p.1 p.2.length (ofBytes p.2)) (Fj:∀i,aJ pv=some i->aJ x≠some i) (Gy:∀p∈ps,∀i,aJ p.1=some i->aJ x≠some i) (hlen:l.length+(ps.map (·.2)).flatten.length<=4294967296) (kx:ps.length<=1000):
  Runs Tryz.prog lib 132 [x,pv] s fun v s' =>Own s' 1 v (l++(ps.map (·.2)).flatten).length (ofBytes (l++(ps.map (·.2)).flatten))/\Grown x s v s' :=by
 refine Runs.enter 18 Tryz.func132 rfl hl rfl rfl ?_
 intro f hn hf
 have h0:f.get 0=x:=hf 0
 have h1:f.get 1=pv:=hf 1
 clear hf
 simp only[ai,ad,Nat.reduceLT,Nat.reduceEqDiff,↓reduceIte,hn,h1,hp.aV Tryz.underlying137]
 refine Comes.eY (fun k f s' =>∃(i:Nat) (o:Value),k=ps.length-i/\i<=ps.length/\Own s' 1 o (l++((ps.take i).map (·.2)).flatten).length (ofBytes (l++((ps.take i).map (·.2)).flatten))/\Grown x s o s' /\f.n=18/\f.get 0=o/\f.get 7=pv/\f.get 8= .int .i64 ps.length/\f.get 9= .int .i64 i) ⟨0,x,rfl,by omega,by simpa using hx,Grown.refl _ _,by simp only[ae,hn],by simp only[aa,↓reduceIte,Nat.reduceEqDiff,h0],by simp only[aa,↓reduceIte,Nat.reduceEqDiff],by simp only[aa,↓reduceIte,Nat.reduceEqDiff],by simp only[aa,↓reduceIte];rfl⟩ ?_
 clear hn h0 h1 f
 rintro k f s1 ⟨i,o,rfl,hi,ho,hg,hn,h0,h7,h8,h9⟩
 have nD:aM s1 1 pv ps.length (ps.map (·.1)):=hp.turns hg.turns (fun i _ h=>Fj i h)
 by_cases aP:i<ps.length
 ·have Gv:ps[i]∈ps:=List.getElem_mem aP
  have mn:=(hps _ Gv).turns hg.turns (fun j _ h=>Gy _ Gv j h)
  have gq:(ps.map (·.1)).getD i undef=ps[i].1:=by simp[List.getD,List.getElem?_eq_getElem aP]
  have Vu:((ps.take (i+1)).map (·.2)).flatten=((ps.take i).map (·.2)).flatten++ps[i].2:=by
   rw[List.take_succ_eq_append_getElem aP,List.map_append,List.flatten_append];simp only[List.map_cons,List.map_nil,List.flatten_cons,List.flatten_nil,List.append_nil]
  have hle:(l++((ps.take i).map (·.2)).flatten).length+ps[i].2.length<=4294967296:=by
   have e:ps=ps.take (i+1)++ps.drop (i+1):=(List.take_append_drop _ _).symm
   have:(ps.map (·.2)).flatten.length=((ps.take (i+1)).map (·.2)).flatten.length+((ps.drop (i+1)).map (·.2)).flatten.length:=by
    conv=>lhs;rw[e]
    rw[List.map_append,List.flatten_append,List.length_append]
   rw[Vu] at this
   simp only[List.length_append] at this|-
   omega
  simp (disch:=omega) only[ai,ad,Nat.reduceLT,Nat.reduceEqDiff,↓reduceIte,hn,h0,h7,h8,h9,aP,nD.indexAddr Tryz.underlying137 iY,nD.cU mV,gq]
  refine bG Tryz.underlying22 Tryz.underlying22 (.inl ⟨_,rfl⟩) bh gh gR rfl ho mn.src (by simp[br]) (by decide) (cX _) (by omega) (by omega) (base:=0) (fun _ _=>Nat.zero_le _) (Nat.zero_le _) ?_
  intro o' s2 j8 _ _ ht fc
  simp (disch:=omega) only[ai,Nat.reduceLT,Nat.reduceEqDiff,↓reduceIte,hn,h9,aD]
  refine au (ps.length-(i+1)) (by omega) ⟨i+1,o',rfl,by omega,?_,hg.trans ⟨ht,fc⟩,by simp only[ae,hn],by simp only[aa,↓reduceIte,Nat.reduceEqDiff],by simp only[aa,↓reduceIte,Nat.reduceEqDiff,h7],by simp only[aa,↓reduceIte,Nat.reduceEqDiff,h8],by simp only[aa,↓reduceIte];rfl⟩
  rw[Vu,<-List.append_assoc,aK,List.length_append];exact j8
 ·simp (disch:=omega) only[ai,al,oneOf,Nat.reduceLT,Nat.reduceEqDiff,↓reduceIte,hn,h0,h8,h9,aP,Tryz.results132]
  obtain rfl:i=ps.length:=by omega
  rw[List.take_of_length_le (Nat.le_refl _)] at ho
  exact⟨ho,hg⟩
theorem Rl {n:Nat}(h1:3<=n)(h2:n<=128):((257:Int)-n)%256=((UInt8.ofNat (257-n)).toNat:Int):=by
 rw[UInt8.toNat_ofNat'];omega
theorem Rm {n:Nat}(h1:1<=n)(h2:n<=128):((n:Int)-1)%256=((UInt8.ofNat (n-1)).toNat:Int):=by
 rw[UInt8.toNat_ofNat'];omega
theorem Xc {s:aq}{z:Nat}{v:Value}{n:Nat}{l:List Value}(h:aM s z v n l)(hn:0<n){a b:Nat}:∀j,aJ (ez z v a b)=some j->j<s.next:=by
 cases h with
 |nil=>intro j h;cases h
 |bare=>omega
 |of i off n c b' l hi hb hz hl hc hlen fL ht=>intro j h;injection h with h;subst h;exact hi
theorem Rn {l:List UInt8}{i:Nat}(h:i<l.length):l.drop i≠[]:=by
 intro e;have:=congrArg List.length e;rw[List.length_drop] at this;simp at this;omega
theorem Ix {lib:ay}(hl:lib.at 81=none)(oP:lib.at 131=none)(N6:lib.at 132=none)(s:aq)(x:Value)(l:List UInt8)(hx:aM s 1 x l.length (ofBytes l))(hlen:l.length<=1073741824):
  Runs Tryz.prog lib 81 [x] s fun v s' =>bU s v s' (encode l):=by
 refine Runs.enter 69 Tryz.func81 rfl hl rfl rfl ?_
 intro f hn hf
 have h0:f.get 0=x:=hf 0
 clear hf
 simp only[ai,Nat.reduceLT,↓reduceIte,hn]
 refine Comes.eY (fun k f s' =>∃(i:Nat) (o:Value) (P:List UInt8),k=l.length-i/\i<=l.length/\P.length<=2*i/\P++encode (l.drop i)=encode l/\Own s' 1 o P.length (ofBytes P)/\aN s.next o/\ar s.next s s' /\f.n=69/\f.get 0=x/\f.get 4= .int .i64 i/\f.get 3=o) ⟨0,_,[],rfl,by omega,by simp,by simp,.nil,aN.nil _,ar.refl _ _,by simp only[ae,hn],by simp only[aa,↓reduceIte,Nat.reduceEqDiff,h0],by simp only[aa,↓reduceIte];rfl,by simp only[aa,↓reduceIte,Nat.reduceEqDiff]⟩ ?_
 clear hn h0 f
 rintro k f s1 ⟨i,o,P,rfl,hi,hP,jq,ho,l5,aA,hn,h0,h4,h3⟩
 have iU:=hx.keeps aA
 by_cases aP:i<l.length
 ·have cD:=Rn aP
  simp (disch:=omega) only[ai,aj,ad,Nat.reduceLT,Nat.reduceEqDiff,↓reduceIte,hn,h0,h4,aP,iU.aV Tryz.underlying22]
  refine(wE oP s1 x l i iU (by omega) aP).mono ?_
  rintro _ s1 ⟨rfl,rfl⟩
  have kH:=nX (l.drop i)
  have iT:=B3 (l.drop i)
  rw[List.length_drop] at iT
  simp (disch:=omega) only[ai,Nat.reduceLT,↓reduceIte,hn]
  refine fI (fun h=> ?_) (fun h=> ?_)
  ·have h3' :3<=rowOf (l.drop i):=by simp at h;omega
   generalize nI:rowOf (l.drop i)=n at*
   simp (disch:=omega) only[ai,ag,Nat.reduceLT,Nat.reduceEqDiff,↓reduceIte,hn,h0,h4,h3,aD,bd Tryz.underlying3 Tryz.underlying5,eZ,iU.indexAddr Tryz.underlying22 bh,iU.cU gZ,aZ,Rl,uw Tryz.underlying22 bh gR]
   refine aQ (by rfl) ?_
   intro b1 s2 jv z7 iW
   simp (disch:=omega) only[ai,ag,Nat.reduceLT,↓reduceIte,hn,LJ Tryz.underlying137 iY zSl rfl ⟨_,rfl⟩ jv.aH.kg]
   refine aQ (by rfl) ?_
   intro b2 s3 eR Jj kY
   simp (disch:=omega) only[ai,aj,ad,Nat.reduceLT,Nat.reduceEqDiff,↓reduceIte,hn]
   have mm:=(ho.keeps iW).keeps kY
   have Ah:=jv.keeps kY
   have fc:=ho.jh
   have uS:=iW.next
   refine(CA N6 s3 o b2 P [(b1,[UInt8.ofNat (257-n),l.getD i 0])] mm eR.aH (fun p hp=> ?_) (fun j hj e=> ?_) (fun p hp j hj e=> ?_) (by simp;omega) (by simp)).mono ?_
   ·rw[List.mem_singleton] at hp;subst hp;exact Ah.aH
   ·have:=Jj j hj;have:=fc j e;omega
   ·rw[List.mem_singleton] at hp;subst hp;have:=z7 j hj;have:=fc j e;omega
   rintro o' s4 ⟨j8,hg⟩
   simp (disch:=omega) only[ai,Nat.reduceLT,Nat.reduceEqDiff,↓reduceIte,hn,h4,aD]
   have cI:=((aA.trans (iW.weaken aA.next)).trans (kY.weaken (Nat.le_trans aA.next uS)))
   refine au (l.length-(i+n)) (by omega) ⟨i+n,o',_,rfl,by omega,?_,?_,j8,hg.fresh l5 cI.next,cI.trans (hg.stay l5 cI.next),by simp only[ae,hn],by simp only[aa,↓reduceIte,Nat.reduceEqDiff,h0],by simp only[aa,↓reduceIte];rfl,by simp only[aa,↓reduceIte,Nat.reduceEqDiff]⟩
   ·simp;omega
   ·rw[uF cD (by omega),nI,px] at jq
    simpa [List.drop_drop] using jq
  ·have h3' :rowOf (l.drop i)<3:=by simp at h;omega
   have nA:=xS (l:=l.drop i) (by rw[List.length_drop];omega)
   have nF:=qm (l.drop i)
   have aeo:=wg (l.drop i)
   rw[List.length_drop] at nA
   simp (disch:=omega) only[ai,Nat.reduceLT,↓reduceIte,hn]
   refine Comes.bC (fun k f s' =>∃n:Nat,k=128-n/\1<=n/\n<=128/\i+n<=l.length/\gm (l.drop i) (128-n) n=jd (l.drop i)/\f.n=69/\f.get 0=x/\f.get 4= .int .i64 i/\f.get 3=o/\f.get 6= .int .i64 n/\s1=s')
    (fun x' f' s' =>x' = .exit 2/\f'.n=69/\f'.get 0=x/\f'.get 4= .int .i64 i/\f'.get 3=o/\f'.get 6= .int .i64 (jd (l.drop i))/\s1=s')
    ⟨1,rfl,by omega,by omega,by omega,rfl,by simp only[ae,hn],by simp only[aa,↓reduceIte,Nat.reduceEqDiff,h0],by simp only[aa,↓reduceIte,Nat.reduceEqDiff,h4],by simp only[aa,↓reduceIte,Nat.reduceEqDiff,h3],by simp only[aa,↓reduceIte];rfl,rfl⟩ ?_ ?_
   ·clear hn h0 h4 h3 f
    rintro Q hQ k f s1 ⟨n,rfl,kX,nH,td,Ro,hn,h0,h4,h3,h6,rfl⟩
    have out:∀(f:aR),f.n=69->f.get 0=x->f.get 4= .int .i64 i->f.get 3=o->f.get 6= .int .i64 n->(n=128\/(l.drop i).length<=n\/3<=rowOf ((l.drop i).drop n))->Q (.exit 2) f s1:=by
     intro f hn h0 h4 h3 h6 he
     exact hQ _ _ _ ⟨rfl,hn,h0,h4,h3,by rw[h6,<-Ro,HZ nH he],rfl⟩
    by_cases c1:n<128
    ·have qG:(n:Int)<128:=by omega
     by_cases c2:i+n<l.length
     ·have wD:(i:Int)+n<l.length:=by omega
      simp (disch:=omega) only[ai,aj,ad,Nat.reduceLT,Nat.reduceEqDiff,↓reduceIte,hn,h0,h4,h6,qG,iU.aV Tryz.underlying22,aD,wD]
      refine(wE oP s1 x l (i+n) iU (by omega) c2).mono ?_
      rintro _ s1 ⟨rfl,rfl⟩
      have iT:=nX (l.drop (i+n))
      simp (disch:=omega) only[ai,aj,Nat.reduceLT,Nat.reduceEqDiff,↓reduceIte,hn]
      refine fI (fun h=> ?_) (fun h=> ?_)
      ·simp (disch:=omega) only[ai,Nat.reduceLT,Nat.reduceEqDiff,↓reduceIte,hn,h6,aD]
       refine au (128-(n+1)) (by omega) ⟨n+1,rfl,by omega,by omega,by omega,?_,by simp only[ae,hn],by simp only[aa,↓reduceIte,Nat.reduceEqDiff,h0],by simp only[aa,↓reduceIte,Nat.reduceEqDiff,h4],by simp only[aa,↓reduceIte,Nat.reduceEqDiff,h3],by simp only[aa,↓reduceIte];rfl,rfl⟩
       rw[<-Ro,HY c1 (by rw[List.length_drop];omega) (by rw[List.drop_drop];simp at h;omega)]
      ·simp (disch:=omega) only[ai]
       exact out _ (by simp only[ae,hn]) (by simp only[aa,↓reduceIte,Nat.reduceEqDiff,h0]) (by simp only[aa,↓reduceIte,Nat.reduceEqDiff,h4]) (by simp only[aa,↓reduceIte,Nat.reduceEqDiff,h3]) (by simp only[aa,↓reduceIte,Nat.reduceEqDiff,h6]) (.inr (.inr (by rw[List.drop_drop];simp at h;omega)))
     ·have wD:¬(i:Int)+n<l.length:=by omega
      simp (disch:=omega) only[ai,aj,ad,Nat.reduceLT,Nat.reduceEqDiff,↓reduceIte,hn,h0,h4,h6,qG,iU.aV Tryz.underlying22,aD,wD]
      exact out _ (by simp only[ae,hn]) (by simp only[aa,↓reduceIte,Nat.reduceEqDiff,h0]) (by simp only[aa,↓reduceIte,Nat.reduceEqDiff,h4]) (by simp only[aa,↓reduceIte,Nat.reduceEqDiff,h3]) (by simp only[aa,↓reduceIte,Nat.reduceEqDiff,h6]) (.inr (.inl (by rw[List.length_drop];omega)))
    ·have qG:¬(n:Int)<128:=by omega
     simp (disch:=omega) only[ai,aj,Nat.reduceLT,Nat.reduceEqDiff,↓reduceIte,hn,h6,qG]
     exact out _ (by simp only[ae,hn]) (by simp only[aa,↓reduceIte,Nat.reduceEqDiff,h0]) (by simp only[aa,↓reduceIte,Nat.reduceEqDiff,h4]) (by simp only[aa,↓reduceIte,Nat.reduceEqDiff,h3]) (by simp only[aa,↓reduceIte,Nat.reduceEqDiff,h6]) (.inl (by omega))
   ·clear hn h0 h4 h3 f
    rintro _ f s1 ⟨rfl,hn,h0,h4,h3,h6,rfl⟩
    rw[uG cD h3'] at jq
    generalize nI:jd (l.drop i)=n at*
    have dA:=iU.lL (lo:=i) (hi:=i+n) (by omega) (by omega)
    have e2:((i:Int)+n).toNat=i+n:=by omega
    rw[show i+n-i=n by omega] at dA
    have mP:((l.drop i).take n).length=n:=by rw[List.length_take,List.length_drop];omega
    simp (disch:=omega) only[ai,ag,Nat.reduceLT,Nat.reduceEqDiff,↓reduceIte,hn,h3,h6,aD,bd Tryz.underlying3 Tryz.underlying5,eZ,Rm,gN Tryz.underlying22 bh gR]
    refine aQ (by rfl) ?_
    intro b1 s2 jv z7 iW
    have kC:=iU.keeps iW
    simp (disch:=omega) only[ai,ag,ah,Nat.reduceLT,Nat.reduceEqDiff,↓reduceIte,hn,h0,h4,h6,aD,kC.mF Tryz.underlying22 bh,e2,S8 Tryz.underlying137 iY zSl rfl ⟨_,rfl⟩ jv.aH.kg dA.kg]
    refine aQ (by rfl) ?_
    intro b2 s3 eR Jj kY
    simp (disch:=omega) only[ai,aj,ad,Nat.reduceLT,Nat.reduceEqDiff,↓reduceIte,hn]
    have mm:=(ho.keeps iW).keeps kY
    have Ah:=jv.keeps kY
    have aah:=(dA.keeps iW).keeps kY
    have fc:=ho.jh
    have uS:=iW.next
    have aep:∀j,aJ (ez 1 x i (i+n))=some j->j<s.next:=Xc hx (by omega)
    refine(CA N6 s3 o b2 P [(b1,[UInt8.ofNat (n-1)]),(ez 1 x i (i+n),(l.drop i).take n)] mm eR.aH (fun p hp=> ?_) (fun j hj e=> ?_) (fun p hp j hj e=> ?_) (by simp;omega) (by simp)).mono ?_
    ·simp only[List.mem_cons,List.not_mem_nil,or_false] at hp
     rcases hp with rfl|rfl
     ·exact Ah.aH
     ·exact aah
    ·have:=Jj j hj;have:=fc j e;omega
    ·simp only[List.mem_cons,List.not_mem_nil,or_false] at hp
     rcases hp with rfl|rfl
     ·have:=z7 j hj;have:=fc j e;omega
     ·have:=l5 j e;have:=aep j hj;omega
    rintro o' s4 ⟨j8,hg⟩
    simp (disch:=omega) only[ai,Nat.reduceLT,Nat.reduceEqDiff,↓reduceIte,hn,h4,h6,aD]
    have cI:=((aA.trans (iW.weaken aA.next)).trans (kY.weaken (Nat.le_trans aA.next uS)))
    refine au (l.length-(i+n)) (by omega) ⟨i+n,o',_,rfl,by omega,?_,?_,j8,hg.fresh l5 cI.next,cI.trans (hg.stay l5 cI.next),by simp only[ae,hn],by simp only[aa,↓reduceIte,Nat.reduceEqDiff,h0],by simp only[aa,↓reduceIte];rfl,by simp only[aa,↓reduceIte,Nat.reduceEqDiff]⟩
    ·simp[mP];omega
    ·simpa [List.drop_drop] using jq
 ·simp (disch:=omega) only[ai,ad,ag,Nat.reduceLT,Nat.reduceEqDiff,↓reduceIte,hn,h0,h4,h3,aP,iU.aV Tryz.underlying22,gN Tryz.underlying22 bh gR]
  obtain rfl:i=l.length:=by omega
  refine a9 Tryz.underlying22 bh gh gR rfl ho (by simp only[aa,↓reduceIte]) (by decide) (by simp only[ae,hn];decide) (by simp only[ae,hn];decide) rfl (by decide) rfl (by omega) (by omega) l5 aA.next ?_
  intro bs o' s2 j8 jD cI _ _
  simp (disch:=omega) only[ai,al,oneOf,Nat.reduceLT,↓reduceIte,hn,Tryz.results81]
  rw[List.drop_length,qn] at jq
  refine⟨?_,jD,aA.trans cI⟩
  rw[<-jq,aK,List.length_append]
  exact j8
theorem Gl {lib:ay}(hl:lib.at 92=none)(oP:lib.at 142=none)(s:aq)(x:Value)(l:List UInt8)(hx:aM s 1 x l.length (ofBytes l))(hlen:l.length<=1073741824):
  Runs Tryz.prog lib 92 [x] s fun v s' =>bU s v s' (encode l):=by
 refine Runs.enter 69 Tryz.func92 rfl hl rfl rfl ?_
 intro f hn hf
 have h0:f.get 0=x:=hf 0
 clear hf
 simp only[ai,Nat.reduceLT,↓reduceIte,hn]
 refine Comes.eY (fun k f s' =>∃(i:Nat) (o:Value) (P:List UInt8),k=l.length-i/\i<=l.length/\P.length<=2*i/\P++encode (l.drop i)=encode l/\Own s' 1 o P.length (ofBytes P)/\aN s.next o/\ar s.next s s' /\f.n=69/\f.get 0=x/\f.get 4= .int .i64 i/\f.get 3=o) ⟨0,_,[],rfl,by omega,by simp,by simp,.nil,aN.nil _,ar.refl _ _,by simp only[ae,hn],by simp only[aa,↓reduceIte,Nat.reduceEqDiff,h0],by simp only[aa,↓reduceIte];rfl,by simp only[aa,↓reduceIte,Nat.reduceEqDiff]⟩ ?_
 clear hn h0 f
 rintro k f s1 ⟨i,o,P,rfl,hi,hP,jq,ho,l5,aA,hn,h0,h4,h3⟩
 have iU:=hx.keeps aA
 by_cases aP:i<l.length
 ·have cD:=Rn aP
  simp (disch:=omega) only[ai,aj,ad,Nat.reduceLT,Nat.reduceEqDiff,↓reduceIte,hn,h0,h4,aP,iU.aV Tryz.underlying22]
  refine(Mm oP s1 x l i iU (by omega) aP).mono ?_
  rintro _ s1 ⟨rfl,rfl⟩
  have kH:=nX (l.drop i)
  have iT:=B3 (l.drop i)
  rw[List.length_drop] at iT
  simp (disch:=omega) only[ai,Nat.reduceLT,↓reduceIte,hn]
  refine fI (fun h=> ?_) (fun h=> ?_)
  ·have h3' :3<=rowOf (l.drop i):=by simp at h;omega
   generalize nI:rowOf (l.drop i)=n at*
   simp (disch:=omega) only[ai,ag,Nat.reduceLT,Nat.reduceEqDiff,↓reduceIte,hn,h0,h4,h3,aD,bd Tryz.underlying3 Tryz.underlying5,eZ,iU.indexAddr Tryz.underlying22 bh,iU.cU gZ,aZ,Rl,uw Tryz.underlying22 bh gR]
   refine a9 Tryz.underlying22 bh gh gR rfl ho (by simp only[aa,↓reduceIte,Nat.reduceEqDiff]) (by decide) (by simp only[ae,hn];decide) (by simp only[ae,hn];decide) (by rfl) (by decide) rfl (by omega) (by omega) l5 aA.next ?_
   intro bs o' s2 j8 jD cI _ _
   simp (disch:=omega) only[ai,Nat.reduceLT,Nat.reduceEqDiff,↓reduceIte,hn,h4,aD]
   refine au (l.length-(i+n)) (by omega) ⟨i+n,o',P++[UInt8.ofNat (257-n),l.getD i 0],rfl,by omega,?_,?_,?_,jD,aA.trans cI,by simp only[ae,hn],by simp only[aa,↓reduceIte,Nat.reduceEqDiff,h0],by simp only[aa,↓reduceIte];rfl,by simp only[aa,↓reduceIte,Nat.reduceEqDiff]⟩
   ·simp;omega
   ·rw[uF cD (by omega),nI,px] at jq
    simpa [List.drop_drop] using jq
   ·rw[aK,List.length_append];exact j8
  ·have h3' :rowOf (l.drop i)<3:=by simp at h;omega
   have nA:=xS (l:=l.drop i) (by rw[List.length_drop];omega)
   have nF:=qm (l.drop i)
   have aeo:=wg (l.drop i)
   rw[List.length_drop] at nA
   simp (disch:=omega) only[ai,Nat.reduceLT,↓reduceIte,hn]
   refine Comes.bC (fun k f s' =>∃n:Nat,k=128-n/\1<=n/\n<=128/\i+n<=l.length/\gm (l.drop i) (128-n) n=jd (l.drop i)/\f.n=69/\f.get 0=x/\f.get 4= .int .i64 i/\f.get 3=o/\f.get 6= .int .i64 n/\s1=s')
    (fun x' f' s' =>x' = .exit 2/\f'.n=69/\f'.get 0=x/\f'.get 4= .int .i64 i/\f'.get 3=o/\f'.get 6= .int .i64 (jd (l.drop i))/\s1=s')
    ⟨1,rfl,by omega,by omega,by omega,rfl,by simp only[ae,hn],by simp only[aa,↓reduceIte,Nat.reduceEqDiff,h0],by simp only[aa,↓reduceIte,Nat.reduceEqDiff,h4],by simp only[aa,↓reduceIte,Nat.reduceEqDiff,h3],by simp only[aa,↓reduceIte];rfl,rfl⟩ ?_ ?_
   ·clear hn h0 h4 h3 f
    rintro Q hQ k f s1 ⟨n,rfl,kX,nH,td,Ro,hn,h0,h4,h3,h6,rfl⟩
    have out:∀(f:aR),f.n=69->f.get 0=x->f.get 4= .int .i64 i->f.get 3=o->f.get 6= .int .i64 n->(n=128\/(l.drop i).length<=n\/3<=rowOf ((l.drop i).drop n))->Q (.exit 2) f s1:=by
     intro f hn h0 h4 h3 h6 he
     exact hQ _ _ _ ⟨rfl,hn,h0,h4,h3,by rw[h6,<-Ro,HZ nH he],rfl⟩
    by_cases c1:n<128
    ·have qG:(n:Int)<128:=by omega
     by_cases c2:i+n<l.length
     ·have wD:(i:Int)+n<l.length:=by omega
      simp (disch:=omega) only[ai,aj,ad,Nat.reduceLT,Nat.reduceEqDiff,↓reduceIte,hn,h0,h4,h6,qG,iU.aV Tryz.underlying22,aD,wD]
      refine(Mm oP s1 x l (i+n) iU (by omega) c2).mono ?_
      rintro _ s1 ⟨rfl,rfl⟩
      have iT:=nX (l.drop (i+n))
      simp (disch:=omega) only[ai,aj,Nat.reduceLT,Nat.reduceEqDiff,↓reduceIte,hn]
      refine fI (fun h=> ?_) (fun h=> ?_)
      ·simp (disch:=omega) only[ai,Nat.reduceLT,Nat.reduceEqDiff,↓reduceIte,hn,h6,aD]
       refine au (128-(n+1)) (by omega) ⟨n+1,rfl,by omega,by omega,by omega,?_,by simp only[ae,hn],by simp only[aa,↓reduceIte,Nat.reduceEqDiff,h0],by simp only[aa,↓reduceIte,Nat.reduceEqDiff,h4],by simp only[aa,↓reduceIte,Nat.reduceEqDiff,h3],by simp only[aa,↓reduceIte];rfl,rfl⟩
       rw[<-Ro,HY c1 (by rw[List.length_drop];omega) (by rw[List.drop_drop];simp at h;omega)]
      ·simp (disch:=omega) only[ai]
       exact out _ (by simp only[ae,hn]) (by simp only[aa,↓reduceIte,Nat.reduceEqDiff,h0]) (by simp only[aa,↓reduceIte,Nat.reduceEqDiff,h4]) (by simp only[aa,↓reduceIte,Nat.reduceEqDiff,h3]) (by simp only[aa,↓reduceIte,Nat.reduceEqDiff,h6]) (.inr (.inr (by rw[List.drop_drop];simp at h;omega)))
     ·have wD:¬(i:Int)+n<l.length:=by omega
      simp (disch:=omega) only[ai,aj,ad,Nat.reduceLT,Nat.reduceEqDiff,↓reduceIte,hn,h0,h4,h6,qG,iU.aV Tryz.underlying22,aD,wD]
      exact out _ (by simp only[ae,hn]) (by simp only[aa,↓reduceIte,Nat.reduceEqDiff,h0]) (by simp only[aa,↓reduceIte,Nat.reduceEqDiff,h4]) (by simp only[aa,↓reduceIte,Nat.reduceEqDiff,h3]) (by simp only[aa,↓reduceIte,Nat.reduceEqDiff,h6]) (.inr (.inl (by rw[List.length_drop];omega)))
    ·have qG:¬(n:Int)<128:=by omega
     simp (disch:=omega) only[ai,aj,Nat.reduceLT,Nat.reduceEqDiff,↓reduceIte,hn,h6,qG]
     exact out _ (by simp only[ae,hn]) (by simp only[aa,↓reduceIte,Nat.reduceEqDiff,h0]) (by simp only[aa,↓reduceIte,Nat.reduceEqDiff,h4]) (by simp only[aa,↓reduceIte,Nat.reduceEqDiff,h3]) (by simp only[aa,↓reduceIte,Nat.reduceEqDiff,h6]) (.inl (by omega))
   ·clear hn h0 h4 h3 f
    rintro _ f s1 ⟨rfl,hn,h0,h4,h3,h6,rfl⟩
    rw[uG cD h3'] at jq
    generalize nI:jd (l.drop i)=n at*
    have dA:=iU.lL (lo:=i) (hi:=i+n) (by omega) (by omega)
    have e2:((i:Int)+n).toNat=i+n:=by omega
    rw[show i+n-i=n by omega] at dA
    have mP:((l.drop i).take n).length=n:=by rw[List.length_take,List.length_drop];omega
    simp (disch:=omega) only[ai,ag,Nat.reduceLT,Nat.reduceEqDiff,↓reduceIte,hn,h3,h6,aD,bd Tryz.underlying3 Tryz.underlying5,eZ,Rm,gN Tryz.underlying22 bh gR]
    refine a9 Tryz.underlying22 bh gh gR rfl ho (by simp only[aa,↓reduceIte,Nat.reduceEqDiff]) (by decide) (by simp only[ae,hn];decide) (by simp only[ae,hn];decide) (by rfl) (by decide) rfl (by omega) (by omega) l5 aA.next ?_
    intro bs o2 s2 fK MR bD fm Ar
    have kC:=hx.keeps (aA.trans bD)
    have nj:=kC.lL (lo:=i) (hi:=i+n) (by omega) (by omega)
    rw[show i+n-i=n by omega] at nj
    simp (disch:=omega) only[ai,ad,ah,Nat.reduceLT,Nat.reduceEqDiff,↓reduceIte,hn,h0,h4,h6,aD,kC.mF Tryz.underlying22 bh,e2]
    refine bG Tryz.underlying22 Tryz.underlying22 (.inl ⟨_,rfl⟩) bh gh gR rfl fK nj.src (by simp[br]) (by decide) (cX _) (by omega) (by omega) MR (Nat.le_trans aA.next bD.next) ?_
    intro o' s3 j8 jD cI _ _
    simp (disch:=omega) only[ai,Nat.reduceLT,Nat.reduceEqDiff,↓reduceIte,hn,h4,h6,aD]
    refine au (l.length-(i+n)) (by omega) ⟨i+n,o',P++([UInt8.ofNat (n-1)]++(l.drop i).take n),rfl,by omega,?_,?_,?_,jD,(aA.trans bD).trans cI,by simp only[ae,hn],by simp only[aa,↓reduceIte,Nat.reduceEqDiff,h0],by simp only[aa,↓reduceIte];rfl,by simp only[aa,↓reduceIte,Nat.reduceEqDiff]⟩
    ·simp[mP];omega
    ·simpa [List.drop_drop] using jq
    ·rw[<-List.append_assoc,aK,aK,List.length_append,List.length_append]
     exact j8
 ·simp (disch:=omega) only[ai,ad,ag,Nat.reduceLT,Nat.reduceEqDiff,↓reduceIte,hn,h0,h4,h3,aP,iU.aV Tryz.underlying22,gN Tryz.underlying22 bh gR]
  obtain rfl:i=l.length:=by omega
  refine a9 Tryz.underlying22 bh gh gR rfl ho (by simp only[aa,↓reduceIte]) (by decide) (by simp only[ae,hn];decide) (by simp only[ae,hn];decide) rfl (by decide) rfl (by omega) (by omega) l5 aA.next ?_
  intro bs o' s2 j8 jD cI _ _
  simp (disch:=omega) only[ai,al,oneOf,Nat.reduceLT,↓reduceIte,hn,Tryz.results92]
  rw[List.drop_length,qn] at jq
  refine⟨?_,jD,aA.trans cI⟩
  rw[<-jq,aK,List.length_append]
  exact j8
end Go.Proofs.YtdfjfncifneocaaGreat
set_option linter.unusedSimpArgs false
set_option linter.unusedVariables false
set_option maxRecDepth 100000
namespace Go.Proofs.YtdfjfncifneocaaGreat
open Go.Cl Go.Cl.Pr Go.Cl.Ch Go.Cl.Hx Go.Cl.B85
theorem bU.behind {s s1 s' :aq}{w:Value}{l:List UInt8}(h:bU s1 w s' l)(k:ar s.next s s1):bU s w s' l:=bU.after h k rfl
theorem aeq:Dm cQ:=⟨rfl,rfl,rfl,rfl,rfl,rfl,rfl,rfl,rfl,rfl⟩
set_option maxHeartbeats 4000000 in
theorem Xd (s:aq)(l:Lk)(x:Value)(b:List UInt8)(hx:aM s 1 x b.length (ofBytes b))(hb:b.length<=2000000):
  Runs Tryz.prog cQ 47 [kV l,x] s (EC s (sB l b)):=by
 obtain⟨QQ,gj⟩:∃QQ:Value->aq->Prop,QQ=EC s (sB l b):=⟨_,rfl⟩
 rw[<-gj]
 refine Runs.enter 40 Tryz.func47 rfl rfl rfl rfl ?_
 intro f hn hf
 have h0:f.get 0=kV l:=hf 0
 have h1:f.get 1=x:=hf 1
 clear hf
 simp-implicitDefEqProofs(disch:=omega)only[ai,Nat.reduceLT,↓reduceIte,hn,h0]
 refine aw ?_
 intro s1 ht aA uS
 have ht:av s1 s.next l.cells:=ht
 have hd:l.cells.length+1=6:=rfl
 have iU:=hx.keeps aA
 have p3:aG Tryz.prog s1 9 (.pointer (some ⟨s.next,3,some 6⟩))=some (.string ⟨l.name.toArray⟩):=ht.load mW (off:=3) (c:=6) rfl (by simp[Lk.cells])
 have e1:=gO (P:=Tryz.prog) (t:=9) l.name xX
 have e2:=gO (P:=Tryz.prog) (t:=9) l.name N8
 have e3:=gO (P:=Tryz.prog) (t:=9) l.name xY
 have e4:=gO (P:=Tryz.prog) (t:=9) l.name kU
 rw[show xX.toArray= #[65,83,67,73,73,72,101,120,68,101,99,111,100,101] from rfl] at e1
 rw[show N8.toArray= #[65,83,67,73,73,56,53,68,101,99,111,100,101] from rfl] at e2
 rw[show xY.toArray= #[82,117,110,76,101,110,103,116,104,68,101,99,111,100,101] from rfl] at e3
 rw[show kU.toArray= #[70,108,97,116,101,68,101,99,111,100,101] from rfl] at e4
 by_cases c1:l.name=xX
 ·rw[decide_eq_true c1] at e1
  simp-implicitDefEqProofs(disch:=omega)only[ai,aj,ad,Nat.reduceLT,Nat.reduceEqDiff,↓reduceIte,hn,h1,hd,Is,p3,e1]
  refine(T7 (lib:=cQ) rfl s1 x b iU (by omega)).mono ?_
  intro w s2 hw
  simp-implicitDefEqProofs(disch:=omega)only[ai,al,oneOf,Nat.reduceLT,Nat.reduceEqDiff,↓reduceIte,hn,Tryz.results47]
  rw[gj]
  exact⟨w,by unfold sB;rw[if_pos c1],by unfold sB;rw[if_pos c1];exact bU.behind hw aA⟩
 rw[decide_eq_false c1] at e1
 by_cases c2:l.name=N8
 ·rw[decide_eq_true c2] at e2
  simp-implicitDefEqProofs(disch:=omega)only[ai,aj,ad,Nat.reduceLT,Nat.reduceEqDiff,↓reduceIte,hn,h1,hd,Is,p3,e1,e2]
  refine(KO (lib:=cQ) rfl s1 x b iU (by omega)).mono ?_
  intro w s2 hw
  simp-implicitDefEqProofs(disch:=omega)only[ai,al,oneOf,Nat.reduceLT,Nat.reduceEqDiff,↓reduceIte,hn,Tryz.results47]
  rw[gj]
  exact⟨w,by unfold sB;rw[if_neg c1,if_pos c2],by unfold sB;rw[if_neg c1,if_pos c2];exact bU.behind hw aA⟩
 rw[decide_eq_false c2] at e2
 by_cases c3:l.name=xY
 ·rw[decide_eq_true c3] at e3
  simp-implicitDefEqProofs(disch:=omega)only[ai,aj,ad,Nat.reduceLT,Nat.reduceEqDiff,↓reduceIte,hn,h1,hd,Is,p3,e1,e2,e3]
  refine(Ix (lib:=cQ) rfl rfl rfl s1 x b iU (by omega)).mono ?_
  intro w s2 hw
  simp-implicitDefEqProofs(disch:=omega)only[ai,al,oneOf,Nat.reduceLT,Nat.reduceEqDiff,↓reduceIte,hn,Tryz.results47]
  rw[gj]
  exact⟨w,by unfold sB;rw[if_neg c1,if_neg c2,if_pos c3],by unfold sB;rw[if_neg c1,if_neg c2,if_pos c3];exact bU.behind hw aA⟩
 rw[decide_eq_false c3] at e3
 have la:aG Tryz.prog s1 56 (.pointer (some ⟨s.next,0,some 6⟩))=some (i3 l.p l.co l.cl):=by
  have:=av.tn (P:=Tryz.prog) HB vK ht (off:=0) (c:=6) rfl (by simp[Lk.cells])
  rw[this];rfl
 simp-implicitDefEqProofs(disch:=omega)only[ai,aj,ad,Nat.reduceLT,Nat.reduceEqDiff,↓reduceIte,hn,h1,hd,Ir,Is,p3,e1,e2,e3,la]
 refine(Iu (lib:=cQ) aeq rfl s1 l.p l.co l.cl x b iU (by omega)).mono ?_
 rintro _ s2 ⟨w,rfl,hw⟩
 have hk:ar s.next s s2:=aA.trans (hw.stay.weaken aA.next)
 have pH:=Bs l.p l.co l.cl b
 have x0:∀z,cN (.tuple #[w,z]) 0=some w:=fun _=>rfl
 have x1:∀z,cN (.tuple #[w,z]) 1=some z:=fun _=>rfl
 by_cases c4:(fE l.p l.co l.cl b).2=0
 rotate_left
 ·have hD:sB l b=([],(fE l.p l.co l.cl b).2):=by unfold sB;rw[if_neg c1,if_neg c2,if_neg c3,if_pos c4]
  simp-implicitDefEqProofs(disch:=omega)only[ai,aj,al,oneOf,Nat.reduceLT,Nat.reduceEqDiff,↓reduceIte,hn,x0,x1,decide_not,decide_eq_false c4,Tryz.results47]
  rw[gj,hD]
  exact⟨_,rfl,⟨.nil,aN.nil _,hk⟩⟩
 have fm:=ht.keeps hw.stay
 have p4:aG Tryz.prog s2 9 (.pointer (some ⟨s.next,3,some 6⟩))=some (.string ⟨l.name.toArray⟩):=fm.load mW (off:=3) (c:=6) rfl (by simp[Lk.cells])
 rw[c4]
 by_cases c5:l.name=kU
 ·rw[decide_eq_true c5] at e4
  have hD:sB l b=(Fx.NN (fE l.p l.co l.cl b).1,0):=by unfold sB;rw[if_neg c1,if_neg c2,if_neg c3,if_neg (fun h=>h c4),if_pos c5]
  simp-implicitDefEqProofs(disch:=omega)only[ai,aj,ad,Nat.reduceLT,Nat.reduceEqDiff,↓reduceIte,hn,x0,x1,Is,p4,e4]
  refine(Qw (lib:=cQ) rfl rfl rfl rfl rfl rfl rfl rfl rfl rfl rfl rfl rfl rfl rfl rfl rfl s2 w _ hw.own.aH (by omega)).mono ?_
  intro y s3 hy
  simp-implicitDefEqProofs(disch:=omega)only[ai,al,oneOf,Nat.reduceLT,Nat.reduceEqDiff,↓reduceIte,hn,Tryz.results47]
  rw[gj,hD]
  exact⟨y,rfl,hy.behind hk⟩
 rw[decide_eq_false c5] at e4
 have hD:sB l b=(Lz.GC (fE l.p l.co l.cl b).1,0):=by unfold sB;rw[if_neg c1,if_neg c2,if_neg c3,if_neg (fun h=>h c4),if_neg c5]
 simp-implicitDefEqProofs(disch:=omega)only[ai,aj,ad,Nat.reduceLT,Nat.reduceEqDiff,↓reduceIte,hn,x0,x1,Is,p4,e4]
 refine(KL (lib:=cQ) rfl rfl rfl rfl rfl rfl rfl rfl s2 w _ hw.own.aH (by omega)).mono ?_
 intro y s3 hy
 simp-implicitDefEqProofs(disch:=omega)only[ai,al,oneOf,Nat.reduceLT,Nat.reduceEqDiff,↓reduceIte,hn,Tryz.results47]
 rw[gj,hD]
 exact⟨y,rfl,hy.behind hk⟩
end Go.Proofs.YtdfjfncifneocaaGreat
namespace Go.Cl
theorem tt {P:Program}{s:aq}{t e:TypeId}{z:Nat}{zv:Value}{a b:Array Value}(hu:P.underlying t=some (.slice e))(cJ:bq P e=some z)(hz:cE P e=some zv)(pH:cH zv=true)(mf:Nat.beq zv.cells.toList.length z=true)(ha:a.toList.length=z)(hb:b.toList.length=z)(hz6:z<=1000):aU P s t 2 [(0,.agg a),(1,.agg b)]=aX s (a.toList++b.toList) 2 z:=by
 unfold aU;rw[hu]
 have P3:zv.cells.toList.length=z:=by simpa [Nat.beq_eq] using mf
 obtain⟨u,R4⟩:∃u,u=zv.cells.toList:=⟨_,rfl⟩
 have hr:bS zv.cells.toList 2=u++u:=by rw[<-R4];simp[bS]
 have Pe:u.length=z:=by rw[R4];exact P3
 have X4:(Nat.ble (2*z) 65536&&cH zv&&Nat.beq zv.cells.toList.length z)=true:=by rw[pH,mf];simp[Nat.ble_eq];omega
 have e1:setAt (u++u) (0*z) a.toList=some (a.toList++u):=by
  rw[kl _ _ _ (by simp only[List.length_append];omega),Nat.zero_mul,List.take_zero,List.nil_append,Nat.zero_add,List.drop_append,List.drop_eq_nil_of_le (by omega),List.nil_append,ha,Pe,Nat.sub_self,List.drop_zero]
 have e2:setAt (a.toList++u) (1*z) b.toList=some (a.toList++b.toList):=by
  rw[kl _ _ _ (by simp only[List.length_append];omega),Nat.one_mul,List.take_append_of_le_length (by omega),List.take_of_length_le (by omega),List.drop_eq_nil_of_le (by simp only[List.length_append];omega),List.append_nil]
 have c1:(Nat.beq a.toList.length z&&Nat.ble (0*z+z) (u++u).length)=true:=by simp[Nat.ble_eq,ha,Pe]
 have c2:(Nat.beq b.toList.length z&&Nat.ble (1*z+z) (a.toList++u).length)=true:=by
  rw[hb,List.length_append,ha,Pe];simp[Nat.ble_eq]<;>omega
 simp only[cJ,hz,X4,hr,iM,fJ,e1,e2,c1,c2,if_true]
end Go.Cl
set_option linter.unusedSimpArgs false
set_option linter.unusedVariables false
set_option maxRecDepth 100000
namespace Go.Cl
theorem EI {P:Program}{s:aq}{t e:TypeId}{z:Nat}{zv:Value}{a b c d:Array Value}(hu:P.underlying t=some (.slice e))(cJ:bq P e=some z)(hz:cE P e=some zv)(pH:cH zv=true)(mf:Nat.beq zv.cells.toList.length z=true)(ha:a.toList.length=z)(hb:b.toList.length=z)(hc:c.toList.length=z)(hd:d.toList.length=z)(hz6:z<=1000):aU P s t 4 [(0,.agg a),(1,.agg b),(2,.agg c),(3,.agg d)]=aX s (a.toList++b.toList++c.toList++d.toList) 4 z:=by
 unfold aU;rw[hu]
 have P3:zv.cells.toList.length=z:=by simpa [Nat.beq_eq] using mf
 obtain⟨u,R4⟩:∃u,u=zv.cells.toList:=⟨_,rfl⟩
 have hr:bS zv.cells.toList 4=u++(u++(u++u)):=by rw[<-R4];simp[bS]
 have Pe:u.length=z:=by rw[R4];exact P3
 have X4:(Nat.ble (4*z) 65536&&cH zv&&Nat.beq zv.cells.toList.length z)=true:=by rw[pH,mf];simp[Nat.ble_eq];omega
 have st:∀(p m q:List Value) (k:Nat),p.length=k->m.length=z->∀w:List Value,w.length=z->setAt (p++(m++q)) k w=some (p++(w++q)):=by
  intro p m q k hp hm w hw
  subst hp
  rw[kl _ _ _ (by simp only[List.length_append];omega),List.take_left,hw,<-hm,List.drop_append,List.drop_eq_nil_of_le (by omega),List.nil_append,Nat.add_sub_cancel_left,List.drop_left,List.append_assoc]
 have e1:setAt (u++(u++(u++u))) (0*z) a.toList=some (a.toList++(u++(u++u))):=by
  have:=st [] u (u++(u++u)) (0*z) (by simp) Pe a.toList ha
  simpa using this
 have e2:setAt (a.toList++(u++(u++u))) (1*z) b.toList=some (a.toList++(b.toList++(u++u))):=st a.toList u (u++u) (1*z) (by omega) Pe b.toList hb
 have e3:setAt (a.toList++(b.toList++(u++u))) (2*z) c.toList=some (a.toList++(b.toList++(c.toList++u))):=by
  have:=st (a.toList++b.toList) u u (2*z) (by rw[List.length_append];omega) Pe c.toList hc
  simpa using this
 have e4:setAt (a.toList++(b.toList++(c.toList++u))) (3*z) d.toList=some (a.toList++(b.toList++(c.toList++d.toList))):=by
  have:=st (a.toList++(b.toList++c.toList)) u [] (3*z) (by rw[List.length_append,List.length_append];omega) Pe d.toList hd
  simpa using this
 have cc:∀(w L:List Value) (k:Nat),w.length=z->k*z+z<=L.length->(Nat.beq w.length z&&Nat.ble (k*z+z) L.length)=true:=by
  intro w L k h1 h2
  rw[Bool.and_eq_true,Nat.beq_eq,Nat.ble_eq];exact⟨h1,h2⟩
 have c1:=cc a.toList (u++(u++(u++u))) 0 ha (by simp only[List.length_append];omega)
 have c2:=cc b.toList (a.toList++(u++(u++u))) 1 hb (by simp only[List.length_append];omega)
 have c3:=cc c.toList (a.toList++(b.toList++(u++u))) 2 hc (by simp only[List.length_append];omega)
 have c4:=cc d.toList (a.toList++(b.toList++(c.toList++u))) 3 hd (by simp only[List.length_append];omega)
 simp only[cJ,hz,X4,hr,iM,fJ,e1,e2,e3,e4,c1,c2,c3,c4,if_true,List.append_assoc]
theorem aL.one {F:Nat->Prop}{s:aq}{a:List UInt8×O}{ca:List Value}(la:ca.length=6)(ha:cu F s ca a):aL cu 6 F s [a] ca:=by
 have:=aL.nil.snoc la ha
 simpa using this
theorem aL.two {F:Nat->Prop}{s:aq}{a b:List UInt8×O}{ca cb:List Value}(la:ca.length=6)(ha:cu F s ca a)(lb:cb.length=6)(hb:cu F s cb b):aL cu 6 F s [a,b] (ca++cb):=by
 have:=(aL.nil.snoc la ha).snoc lb hb
 simpa using this
theorem aL.four {F:Nat->Prop}{s:aq}{a b c d:List UInt8×O}{ca cb cc cd:List Value}(la:ca.length=6)(ha:cu F s ca a)(lb:cb.length=6)(hb:cu F s cb b)(lc:cc.length=6)(hc:cu F s cc c)(ld:cd.length=6)(hd:cu F s cd d):aL cu 6 F s [a,b,c,d] (ca++cb++cc++cd):=by
 have:=(((aL.nil.snoc la ha).snoc lb hb).snoc lc hc).snoc ld hd
 simpa using this
end Go.Cl
namespace Go.Cl.Ch
def qI:List UInt8:=[66,105,116,115,80,101,114,67,111,109,112,111,110,101,110,116]
def jy:List UInt8:=[67,111,108,111,114,115]
def gU:List UInt8:=[67,111,108,117,109,110,115]
def qJ:List UInt8:=[80,114,101,100,105,99,116,111,114]
def bM:List UInt8:=[70,105,108,116,101,114]
def dP:List UInt8:=[68,101,99,111,100,101,80,97,114,109,115]
def T8 (n:Int):O:= .mk 2 n [] [] []
def sF (b:List UInt8):O:= .mk 5 0 b [] []
def Gm (l:Lk):List (List UInt8×O):=[(qI,T8 8),(jy,T8 l.co),(gU,T8 l.cl),(qJ,T8 l.p)]
def gB (l:Lk):O:=if l.p=1 then O.none else .mk 7 0 [] [] (b6 [] (Gm l))
theorem uP (l:Lk):∀e∈Gm l,Small e.2:=by
 intro e he
 simp only[Gm,List.mem_cons,List.not_mem_nil,or_false] at he
 rcases he with rfl|rfl|rfl|rfl<;>exact Small.bare 2 _
end Go.Cl.Ch
namespace Go.Proofs.YtdfjfncifneocaaGreat
open Go.Cl Go.Cl.Pr Go.Cl.Ch
theorem Vv:TW cQ:=by constructor<;>rfl
set_option maxHeartbeats 4000000 in
theorem Og (s:aq)(l:Lk):Runs Tryz.prog cQ 87 [kV l] s (gz s (gB l)):=by
 obtain⟨QQ,gj⟩:∃QQ:Value->aq->Prop,QQ=gz s (gB l):=⟨_,rfl⟩
 rw[<-gj]
 refine Runs.enter 27 Tryz.func87 rfl rfl rfl rfl ?_
 intro f hn hf
 have h0:f.get 0=kV l:=hf 0
 clear hf
 simp-implicitDefEqProofs(disch:=omega)only[ai,Nat.reduceLT,↓reduceIte,hn,h0]
 refine aw ?_
 intro s1 ht aA uS
 have ht:av s1 s.next l.cells:=ht
 have hd:l.cells.length+1=6:=rfl
 simp-implicitDefEqProofs(disch:=omega)only[ai,Nat.reduceLT,↓reduceIte,hn,hd,zO,oQ]
 refine aw ?_
 intro s2 fm bD na
 have il:cr.length+1=6:=rfl
 have OJ:=ht.keeps bD
 have k02:ar s.next s s2:=aA.trans (bD.weaken aA.next)
 have n1:=aA.next
 have n2:=bD.next
 have p0:∀t,ar s2.next s2 t->aG Tryz.prog t 3 (.pointer (some ⟨s.next,0,some 6⟩))=some (.int .i64 l.p):=fun t h=>(OJ.keeps h).load cj (off:=0) (c:=6) rfl (by simp[Lk.cells])
 have p1:∀t,ar s2.next s2 t->aG Tryz.prog t 3 (.pointer (some ⟨s.next,1,some 6⟩))=some (.int .i64 l.co):=fun t h=>(OJ.keeps h).load cj (off:=1) (c:=6) rfl (by simp[Lk.cells])
 have p2:∀t,ar s2.next s2 t->aG Tryz.prog t 3 (.pointer (some ⟨s.next,2,some 6⟩))=some (.int .i64 l.cl):=fun t h=>(OJ.keeps h).load cj (off:=2) (c:=6) rfl (by simp[Lk.cells])
 by_cases c1:l.p=1
 ·simp-implicitDefEqProofs(disch:=omega)only[ai,aj,ad,Nat.reduceLT,Nat.reduceEqDiff,↓reduceIte,hn,il,Ir,qQ,p0 _ (ar.refl _ _),eq_true c1]
  refine(Q7 (lib:=cQ) rfl s2).mono ?_
  rintro _ s3 ⟨cs,rfl,ho,cf⟩
  simp-implicitDefEqProofs(disch:=omega)only[ai,Nat.reduceLT,Nat.reduceEqDiff,↓reduceIte,hn]
  refine aE eO (by decide) (fm.keeps cf) rfl rfl (by simpa using ho.len) ho.ok ?_
  intro s4 fU lN jc
  have fU:av s4 s1.next cs:=fU
  simp-implicitDefEqProofs(disch:=omega)only[ai,al,oneOf,Nat.reduceLT,Nat.reduceEqDiff,↓reduceIte,hn,av.dQ fU ho.len,aW,Tryz.results87]
  rw[gj]
  unfold gB
  rw[if_pos c1]
  exact gz.put (F:=fun j=>s2.next<=j) ho (fun j hj=>⟨by omega,by omega⟩) lN jc (k02.trans (cf.weaken (by omega))) (by omega)
 simp-implicitDefEqProofs(disch:=omega)only[ai,Nat.reduceLT,Nat.reduceEqDiff,↓reduceIte,hn,il,Ir,qQ,p0 _ (ar.refl _ _),eq_false c1]
 obtain⟨A,hA⟩:∃A:Nat->Bool,A=fun j=>decide (j<s2.next):=⟨_,rfl⟩
 have ef:∀j,A j=true->j<s2.next:=by
  intro j h
  rw[hA] at h
  exact of_decide_eq_true h
 have gW:∀j,j<s2.next->A j=true:=fun j h=>by rw[hA];exact decide_eq_true h
 refine LB.cF.dy A ef 9 1 (by kernel_rfl) (by kernel_rfl) ?_
 have db:=ar.spare s2 1
 have F1:(spare s2 1).next=s2.next+1:=bT _ _
 have nM:∀k,LA.dB A (some (.pointer (some ⟨s.next,k,some 6⟩)))=true:=fun k=>LA.bY (A:=A) (i:=s.next) (gW _ (by omega))
 have zA:=db
 simp-implicitDefEqProofs(disch:=omega)only[ai,aj,bp,Nat.add_one_sub_one,ad,Nat.reduceLT,Nat.reduceEqDiff,↓reduceIte,hn]
 refine(zR (lib:=cQ) rfl _ 8).mono ?_
 rintro _ a0 ⟨ca0,rfl,oa0,Xe⟩
 have ma0:=Xe.next
 have Ka0:ar s2.next s2 a0:=db.trans (Xe.weaken (by omega))
 refine⟨fun _=>LA.ar.lM ef (Xe.weaken (by omega)),?_⟩
 try simp-implicitDefEqProofs(disch:=omega)only[ai,aj,bn,bp,Nat.sub_self,Nat.add_one_sub_one,Nat.reduceSub,oneOf,ad,ag,ah,Nat.reduceLT,Nat.reduceLeDiff,Nat.reduceEqDiff,Nat.reduceAdd,↓reduceIte,hn,h0,oa0.self]
 refine(jo (lib:=cQ) rfl rfl rfl _ a0 qI ca0 _ oa0 (Small.bare 2 _)).mono ?_
 rintro _ b0 ⟨T9,rfl,eb0,Xf⟩
 have mb0:=Xf.next
 have Xg:=eb0.len
 have Kb0:ar s2.next s2 b0:=Ka0.trans (Xf.weaken (by omega))
 refine⟨fun _=>LA.ar.lM ef (Xf.weaken (by omega)),?_⟩
 try simp-implicitDefEqProofs(disch:=omega)only[ai,aj,bn,bp,Nat.add_one_sub_one,ad,Nat.reduceLT,Nat.reduceEqDiff,↓reduceIte,hn,Ir,FL,HA,nM,p1 _ Kb0]
 refine(zR (lib:=cQ) rfl _ l.co).mono ?_
 rintro _ a1 ⟨ca1,rfl,oa1,Ua⟩
 have ma1:=Ua.next
 have Ka1:ar s2.next s2 a1:=Kb0.trans (Ua.weaken (by omega))
 refine⟨fun _=>LA.ar.lM ef (Ua.weaken (by omega)),?_⟩
 try simp-implicitDefEqProofs(disch:=omega)only[ai,aj,bn,bp,Nat.sub_self,Nat.add_one_sub_one,Nat.reduceSub,oneOf,ad,ag,ah,Nat.reduceLT,Nat.reduceLeDiff,Nat.reduceEqDiff,Nat.reduceAdd,↓reduceIte,hn,h0,oa1.self]
 refine(jo (lib:=cQ) rfl rfl rfl _ a1 jy ca1 _ oa1 (Small.bare 2 _)).mono ?_
 rintro _ b1 ⟨Ub,rfl,OR,Rp⟩
 have mb1:=Rp.next
 have Xh:=OR.len
 have Kb1:ar s2.next s2 b1:=Ka1.trans (Rp.weaken (by omega))
 refine⟨fun _=>LA.ar.lM ef (Rp.weaken (by omega)),?_⟩
 try simp-implicitDefEqProofs(disch:=omega)only[ai,aj,bn,bp,Nat.add_one_sub_one,ad,Nat.reduceLT,Nat.reduceEqDiff,↓reduceIte,hn,Ir,qQ,nM,p2 _ Kb1]
 refine(zR (lib:=cQ) rfl _ l.cl).mono ?_
 rintro _ a2 ⟨ca2,rfl,oa2,Rq⟩
 have ma2:=Rq.next
 have Ka2:ar s2.next s2 a2:=Kb1.trans (Rq.weaken (by omega))
 refine⟨fun _=>LA.ar.lM ef (Rq.weaken (by omega)),?_⟩
 try simp-implicitDefEqProofs(disch:=omega)only[ai,aj,bn,bp,Nat.sub_self,Nat.add_one_sub_one,Nat.reduceSub,oneOf,ad,ag,ah,Nat.reduceLT,Nat.reduceLeDiff,Nat.reduceEqDiff,Nat.reduceAdd,↓reduceIte,hn,h0,oa2.self]
 refine(jo (lib:=cQ) rfl rfl rfl _ a2 gU ca2 _ oa2 (Small.bare 2 _)).mono ?_
 rintro _ b2 ⟨Uc,rfl,OS,Oh⟩
 have mb2:=Oh.next
 have Xi:=OS.len
 have Kb2:ar s2.next s2 b2:=Ka2.trans (Oh.weaken (by omega))
 refine⟨fun _=>LA.ar.lM ef (Oh.weaken (by omega)),?_⟩
 try simp-implicitDefEqProofs(disch:=omega)only[ai,aj,bn,bp,Nat.add_one_sub_one,ad,ag,Nat.reduceLT,Nat.reduceEqDiff,↓reduceIte,hn,nM,p0 _ Kb2]
 refine(zR (lib:=cQ) rfl _ l.p).mono ?_
 rintro _ a3 ⟨ca3,rfl,oa3,Oi⟩
 have ma3:=Oi.next
 have Ka3:ar s2.next s2 a3:=Kb2.trans (Oi.weaken (by omega))
 refine⟨fun _=>LA.ar.lM ef (Oi.weaken (by omega)),?_⟩
 try simp-implicitDefEqProofs(disch:=omega)only[ai,aj,bn,bp,Nat.sub_self,Nat.add_one_sub_one,Nat.reduceSub,oneOf,ad,ag,ah,Nat.reduceLT,Nat.reduceLeDiff,Nat.reduceEqDiff,Nat.reduceAdd,↓reduceIte,hn,h0,oa3.self]
 refine(jo (lib:=cQ) rfl rfl rfl _ a3 qJ ca3 _ oa3 (Small.bare 2 _)).mono ?_
 rintro _ b3 ⟨Ud,rfl,eb3,Oj⟩
 have mb3:=Oj.next
 have Xj:=eb3.len
 have Kb3:ar s2.next s2 b3:=Ka3.trans (Oj.weaken (by omega))
 refine⟨fun _=>LA.ar.lM ef (Oj.weaken (by omega)),?_⟩
 have sE:∀(k:List UInt8) (cs:List Value),cs.length=5->(Value.string ⟨k.toArray⟩::cs).length=6:=fun k cs h=>by rw[List.length_cons,h]
 simp-implicitDefEqProofs(disch:=omega)only[aj,EI (a:=(.string ⟨qI.toArray⟩::T9).toArray) (b:=(.string ⟨jy.toArray⟩::Ub).toArray) (c:=(.string ⟨gU.toArray⟩::Uc).toArray) (d:=(.string ⟨qJ.toArray⟩::Ud).toArray) Tryz.underlying24 jx zE Du rfl (sE qI T9 Xg) (sE jy Ub Xh) (sE gU Uc Xi) (sE qJ Ud Xj) (by decide)]
 refine LB.bF (base:=s2.next) (by simp[Xg,Xh,Xi,Xj]) (by omega) (Nat.le_refl _) ?_
 intro x t hx fc cf tB qR
 have mk:∀(k:List UInt8) (q:List Value) (o:O) (b:Nat) (u:aq),dr (fun j=>b<=j) u q o->s2.next+1<=b->ar u.next u b3->k.length<=9223372036854775807->cu (fun _=>True) t (.string ⟨k.toArray⟩::q) (k,o):=fun k q o b u ho hb hu hk=>⟨q,rfl,((ho.keeps hu).turns (u:= .pointer (some ⟨s2.next,0,none⟩)) (bm.bc tB qR) (fun j hj e=>by
  have e:some s2.next=some j:=e
  injection e with e;omega)).mono (fun _ _=>trivial),hk⟩
 have r4:=aL.four (F:=fun _=>True) (s:=t) (sE qI T9 Xg) (mk qI T9 _ _ _ eb0 (by omega) (Ua.trans (Rp.weaken (by omega))|>.trans (Rq.weaken (by omega))|>.trans (Oh.weaken (by omega))|>.trans (Oi.weaken (by omega))|>.trans (Oj.weaken (by omega))) (by decide)) (sE jy Ub Xh) (mk jy Ub _ _ _ OR (by omega) (Rq.trans (Oh.weaken (by omega))|>.trans (Oi.weaken (by omega))|>.trans (Oj.weaken (by omega))) (by decide)) (sE gU Uc Xi) (mk gU Uc _ _ _ OS (by omega) (Oi.trans (Oj.weaken (by omega))) (by decide)) (sE qJ Ud Xj) (mk qJ Ud _ _ _ eb3 (by omega) (ar.refl _ _) (by decide))
 simp-implicitDefEqProofs(disch:=omega)only[ai,aj,bp,Nat.sub_self,ad,Nat.reduceLT,Nat.reduceEqDiff,↓reduceIte,hn]
 refine(Ip (lib:=cQ) Vv (fun _=>True) t x (Gm l) _ hx.aH r4 (by simp[Gm]) (uP l)).mono ?_
 rintro _ u ⟨cs,rfl,ho,k5⟩
 have K3:ar s2.next s2 t:=Kb3.trans cf
 have m5:=k5.next
 refine⟨fun _=>LA.ar.lM ef (k5.weaken (by have:=K3.next;omega)),?_⟩
 have m3:=K3.next
 have DO:=fm.keeps (K3.trans (k5.weaken m3))
 try simp-implicitDefEqProofs(disch:=omega)only[ai,aj,bn,bp,Nat.sub_self,Nat.add_one_sub_one,Nat.reduceSub,oneOf,ad,ag,ah,Nat.reduceLT,Nat.reduceLeDiff,Nat.reduceEqDiff,Nat.reduceAdd,↓reduceIte,hn,h0,il]
 refine LB.fB eO (by decide) DO rfl rfl (by simpa using ho.len) ho.ok (fun h=>absurd rfl h) ?_
 intro s4 fU lN jc
 have fU:av s4 s1.next cs:=fU
 simp-implicitDefEqProofs(disch:=omega)only[ai,al,oneOf,Nat.reduceLT,Nat.reduceEqDiff,↓reduceIte,ai,bp,Nat.reduceSub,oneOf,Nat.reduceLT,Nat.reduceEqDiff,↓reduceIte,hn,av.dQ fU ho.len,aW,Tryz.results87]
 rw[gj]
 unfold gB
 rw[if_neg c1]
 exact gz.put (F:=fun j=>t.next<=j) ho (fun j hj=>⟨by omega,by omega⟩) lN jc (k02.trans ((K3.trans (k5.weaken m3)).weaken (by omega))) (by omega)
end Go.Proofs.YtdfjfncifneocaaGreat
