import Derived.Test.YtdfjfncifneocaaGreatLooseA
import Derived.Test.YtdfjfncifneocaaGreatB85P
import Derived.Test.YtdfjfncifneocaaGreatLzwU
import Derived.Test.YtdfjfncifneocaaGreatNum
import Derived.Test.YtdfjfncifneocaaGreatHex
import Derived.Test.YtdfjfncifneocaaGreatPrim
open Nat renaming reduceLT->QS,reduceEqDiff->WP
set_option linter.unusedSimpArgs false
set_option linter.unusedVariables false
set_option maxRecDepth 100000
namespace Go.Proofs.YtdfjfncifneocaaGreat
open Go.Cl Go.Cl.Runs
theorem wZ {lib:az}(hl:lib.at 131=none)(s:aq)(x:Value)(l:List UInt8)(EH:Nat)(hx:aN s 1 x l.length (ofBytes l))(hlen:l.length<=4294967296)(RB:EH<l.length):
  Runs Tryz.prog lib 131 [x,.int .i64 EH] s fun v s' =>v= .int .i64 (rowOf (l.drop EH))/\s' =s:=by
 refine Runs.enter 32 Tryz.func131 rfl hl rfl rfl ?_
 intro f hn hf
 have h0:f.get 0=x:=hf 0
 have h1:f.get 1= .int .i64 EH:=hf 1
 clear hf
 simp only[aj,QS,↓reduceIte,hn]
 refine Comes.eU (fun k f s' =>∃n:Nat,k=128-n/\n<=128/\EH+n<=l.length/\(∀j,j<n->l.getD (EH+j) 0=l.getD EH 0)/\f.n=32/\f.get 0=x/\f.get 1= .int .i64 EH/\f.get 5= .int .i64 n/\s' =s) ⟨1,rfl,by omega,by omega,fun j hj=>by(first|omega|(obtain rfl:j=0:=by omega);rfl),by simp only[ag,hn],by simp only[aa,↓reduceIte,WP,h0],by simp only[aa,↓reduceIte,WP,h1],by simp only[aa,↓reduceIte];rfl,rfl⟩ ?_
 clear hn h0 h1 f
 rintro k f _ ⟨n,rfl,iJ,im,dN,hn,h0,h1,h5,rfl⟩
 have out:∀(s:aq) (f:aT),f.n=32->f.get 5= .int .i64 n->(n=128\/EH+n=l.length\/l.getD (EH+n) 0≠l.getD EH 0)->WE Tryz.prog (Tryz.f131).results.toList (fun v s' =>v= .int .i64 (rowOf (l.drop EH))/\s' =s) .ret (f.put 4 (.int .i64 n)) s:=by
  intro s f hn h5 he
  simp only[aj,al,oneOf,QS,↓reduceIte,hn,Tryz.results131,Uq iJ im dN he]
 by_cases c1:n<128
 ·by_cases c2:EH+n<l.length
  ·have C3:(EH:Int)+n<l.length:=by omega
   have e2:((EH:Int)+n).toNat=EH+n:=by omega
   have tJ:(n:Int)<128:=by omega
   simp (disch:=omega) only[aj,ak,ad,QS,WP,↓reduceIte,hn,h0,h1,h5,tJ,hx.bh Tryz.underlying22,aB,C3,hx.indexAddr Tryz.underlying22 bL,e2,hx.dJ mB,bG,hx.self]
   refine iq (fun h=> ?_) (fun h=> ?_)
   ·have he:l.getD (EH+n) 0=l.getD EH 0:=by simpa [UInt8.toNat_inj] using h
    simp (disch:=omega) only[aj,QS,WP,↓reduceIte,hn,h5,aB]
    refine au (128-(n+1)) (by omega) ⟨n+1,rfl,by omega,by omega,fun j hj=> ?_,by simp only[ag,hn],by simp only[aa,↓reduceIte,WP,h0],by simp only[aa,↓reduceIte,WP,h1],by simp only[aa,↓reduceIte];rfl,rfl⟩
    by_cases hjn:j=n
    ·subst hjn;exact he
    ·exact dN j (by omega)
   ·have he:l.getD (EH+n) 0≠l.getD EH 0:=by simpa [UInt8.toNat_inj] using h
    simp (disch:=omega) only[aj,QS,WP,↓reduceIte,hn,h5]
    exact out _ _ (by simp only[ag,hn]) (by simp only[aa,↓reduceIte,WP,h5]) (.inr (.inr he))
  ·have C3:¬(EH:Int)+n<l.length:=by omega
   have tJ:(n:Int)<128:=by omega
   simp (disch:=omega) only[aj,ak,ad,QS,WP,↓reduceIte,hn,h0,h1,h5,tJ,hx.bh Tryz.underlying22,aB,C3,hx.self]
   exact out _ _ (by simp only[ag,hn]) (by simp only[aa,↓reduceIte,WP,h5]) (.inr (.inl (by omega)))
 ·have tJ:¬(n:Int)<128:=by omega
  simp (disch:=omega) only[aj,ak,QS,WP,↓reduceIte,hn,h5,tJ]
  exact out _ _ (by simp only[ag,hn]) (by simp only[aa,↓reduceIte,WP,h5]) (.inl (by omega))
end Go.Proofs.YtdfjfncifneocaaGreat
set_option linter.unusedSimpArgs false
set_option linter.unusedVariables false
set_option maxRecDepth 100000
namespace Go.Proofs.YtdfjfncifneocaaGreat
open Go.Cl Go.Cl.Runs
theorem De {lib:az}(hl:lib.at 132=none)(s:aq)(x pv:Value)(l:List UInt8)(ps:List (Value×List UInt8))(hx:Own s 1 x l.length (ofBytes l))(hp:aN s 1 pv ps.length (ps.map (·.1)))
  (hps:∀p∈ps,aN s 1 p.1 p.2.length (ofBytes p.2)) (tT:∀i,aE pv=some i->aE x≠some i) (uD:∀p∈ps,∀i,aE p.1=some i->aE x≠some i) (hlen:l.length+(ps.map (·.2)).flatten.length<=4294967296) (jQ:ps.length<=1000):
  Runs Tryz.prog lib 132 [x,pv] s fun v s' =>Own s' 1 v (l++(ps.map (·.2)).flatten).length (ofBytes (l++(ps.map (·.2)).flatten))/\Grown x s v s' :=by
 refine Runs.enter 18 Tryz.func132 rfl hl rfl rfl ?_
 intro f hn hf
 have h0:f.get 0=x:=hf 0
 have h1:f.get 1=pv:=hf 1
 clear hf
 simp only[aj,ad,QS,WP,↓reduceIte,hn,h1,hp.bh Tryz.underlying137]
 refine Comes.eU (fun k f s' =>∃(i:Nat) (o:Value),k=ps.length-i/\i<=ps.length/\Own s' 1 o (l++((ps.take i).map (·.2)).flatten).length (ofBytes (l++((ps.take i).map (·.2)).flatten))/\Grown x s o s' /\f.n=18/\f.get 0=o/\f.get 7=pv/\f.get 8= .int .i64 ps.length/\f.get 9= .int .i64 i) ⟨0,x,rfl,by omega,by simpa using hx,Grown.refl _ _,by simp only[ag,hn],by simp only[aa,↓reduceIte,WP,h0],by simp only[aa,↓reduceIte,WP],by simp only[aa,↓reduceIte,WP],by simp only[aa,↓reduceIte];rfl⟩ ?_
 clear hn h0 h1 f
 rintro k f s1 ⟨i,o,rfl,hi,ho,hg,hn,h0,h7,h8,h9⟩
 have rJ:aN s1 1 pv ps.length (ps.map (·.1)):=hp.turns hg.turns (fun i _ h=>tT i h)
 by_cases bc:i<ps.length
 ·have Ow:ps[i]∈ps:=List.getElem_mem bc
  have sd:=(hps _ Ow).turns hg.turns (fun j _ h=>uD _ Ow j h)
  have jV:(ps.map (·.1)).getD i undef=ps[i].1:=by simp[List.getD,List.getElem?_eq_getElem bc]
  have aaa:((ps.take (i+1)).map (·.2)).flatten=((ps.take i).map (·.2)).flatten++ps[i].2:=by
   rw[List.take_succ_eq_append_getElem bc,List.map_append,List.flatten_append];simp only[List.map_cons,List.map_nil,List.flatten_cons,List.flatten_nil,List.append_nil]
  have hle:(l++((ps.take i).map (·.2)).flatten).length+ps[i].2.length<=4294967296:=by
   have e:ps=ps.take (i+1)++ps.drop (i+1):=(List.take_append_drop _ _).symm
   have:(ps.map (·.2)).flatten.length=((ps.take (i+1)).map (·.2)).flatten.length+((ps.drop (i+1)).map (·.2)).flatten.length:=by
    conv=>lhs;rw[e]
    rw[List.map_append,List.flatten_append,List.length_append]
   rw[aaa] at this
   simp only[List.length_append] at this|-
   omega
  simp (disch:=omega) only[aj,ad,QS,WP,↓reduceIte,hn,h0,h7,h8,h9,bc,rJ.indexAddr Tryz.underlying137 gv,rJ.dJ gw,jV]
  refine bV Tryz.underlying22 Tryz.underlying22 (.inl ⟨_,rfl⟩) bL kG lh rfl ho sd.src (by simp[bF]) (by decide) (dj _) (by omega) (by omega) (base:=0) (fun _ _=>Nat.zero_le _) (Nat.zero_le _) ?_
  intro o' s2 rZ _ _ ht gn
  simp (disch:=omega) only[aj,QS,WP,↓reduceIte,hn,h9,aB]
  refine au (ps.length-(i+1)) (by omega) ⟨i+1,o',rfl,by omega,?_,hg.trans ⟨ht,gn⟩,by simp only[ag,hn],by simp only[aa,↓reduceIte,WP],by simp only[aa,↓reduceIte,WP,h7],by simp only[aa,↓reduceIte,WP,h8],by simp only[aa,↓reduceIte];rfl⟩
  rw[aaa,<-List.append_assoc,bn,List.length_append];exact rZ
 ·simp (disch:=omega) only[aj,al,oneOf,QS,WP,↓reduceIte,hn,h0,h8,h9,bc,Tryz.results132]
  obtain rfl:i=ps.length:=by omega
  rw[List.take_of_length_le (Nat.le_refl _)] at ho
  exact⟨ho,hg⟩
theorem ab8 {n:Nat}(h1:3<=n)(h2:n<=128):((257:Int)-n)%256=((UInt8.ofNat (257-n)).toNat:Int):=by
 rw[UInt8.toNat_ofNat'];omega
theorem ab9 {n:Nat}(h1:1<=n)(h2:n<=128):((n:Int)-1)%256=((UInt8.ofNat (n-1)).toNat:Int):=by
 rw[UInt8.toNat_ofNat'];omega
theorem aca {s:aq}{z:Nat}{v:Value}{n:Nat}{l:List Value}(h:aN s z v n l)(hn:0<n){a b:Nat}:∀j,aE (eB z v a b)=some j->j<s.next:=by
 cases h with
 |nil=>intro j h;cases h
 |bare=>omega
 |of i off n c b' l hi hb hz hl hc hlen eZ ht=>intro j h;injection h with h;subst h;exact hi
theorem acb {l:List UInt8}{i:Nat}(h:i<l.length):l.drop i≠[]:=by
 intro e;have:=congrArg List.length e;rw[List.length_drop] at this;simp at this;omega
theorem KA {lib:az}(hl:lib.at 81=none)(jS:lib.at 131=none)(UY:lib.at 132=none)(s:aq)(x:Value)(l:List UInt8)(hx:aN s 1 x l.length (ofBytes l))(hlen:l.length<=1073741824):
  Runs Tryz.prog lib 81 [x] s fun v s' =>cC s v s' (encode l):=by
 refine Runs.enter 69 Tryz.func81 rfl hl rfl rfl ?_
 intro f hn hf
 have h0:f.get 0=x:=hf 0
 clear hf
 simp only[aj,QS,↓reduceIte,hn]
 refine Comes.eU (fun k f s' =>∃(i:Nat) (o:Value) (P:List UInt8),k=l.length-i/\i<=l.length/\P.length<=2*i/\P++encode (l.drop i)=encode l/\Own s' 1 o P.length (ofBytes P)/\aH s.next o/\ar s.next s s' /\f.n=69/\f.get 0=x/\f.get 4= .int .i64 i/\f.get 3=o) ⟨0,_,[],rfl,by omega,by simp,by simp,.nil,aH.nil _,ar.refl _ _,by simp only[ag,hn],by simp only[aa,↓reduceIte,WP,h0],by simp only[aa,↓reduceIte];rfl,by simp only[aa,↓reduceIte,WP]⟩ ?_
 clear hn h0 f
 rintro k f s1 ⟨i,o,P,rfl,hi,hP,vc,ho,oz,aD,hn,h0,h4,h3⟩
 have lM:=hx.keeps aD
 by_cases bc:i<l.length
 ·have ck:=acb bc
  simp (disch:=omega) only[aj,ak,ad,QS,WP,↓reduceIte,hn,h0,h4,bc,lM.bh Tryz.underlying22]
  refine(wZ jS s1 x l i lM (by omega) bc).mono ?_
  rintro _ s1 ⟨rfl,rfl⟩
  have ou:=lA (l.drop i)
  have gr:=nq (l.drop i)
  rw[List.length_drop] at gr
  simp (disch:=omega) only[aj,QS,↓reduceIte,hn]
  refine iq (fun h=> ?_) (fun h=> ?_)
  ·have h3' :3<=rowOf (l.drop i):=by simp at h;omega
   generalize qq:rowOf (l.drop i)=n at*
   simp (disch:=omega) only[aj,ae,QS,WP,↓reduceIte,hn,h0,h4,h3,aB,bR Tryz.underlying3 Tryz.underlying5,gA,lM.indexAddr Tryz.underlying22 bL,lM.dJ mB,bG,ab8,HP Tryz.underlying22 bL lh]
   refine aQ (by rfl) ?_
   intro b1 s2 gu A9 kD
   simp (disch:=omega) only[aj,ae,QS,↓reduceIte,hn,Xt Tryz.underlying137 gv zSl rfl ⟨_,rfl⟩ gu.aG.su]
   refine aQ (by rfl) ?_
   intro b2 s3 dB Hi mv
   simp (disch:=omega) only[aj,ak,ad,QS,WP,↓reduceIte,hn]
   have nJ:=(ho.keeps kD).keeps mv
   have rz:=gu.keeps mv
   have gn:=ho.g8
   have DQ:=kD.next
   refine(De UY s3 o b2 P [(b1,[UInt8.ofNat (257-n),l.getD i 0])] nJ dB.aG (fun p hp=> ?_) (fun j hj e=> ?_) (fun p hp j hj e=> ?_) (by simp;omega) (by simp)).mono ?_
   ·rw[List.mem_singleton] at hp;subst hp;exact rz.aG
   ·have:=Hi j hj;have:=gn j e;omega
   ·rw[List.mem_singleton] at hp;subst hp;have:=A9 j hj;have:=gn j e;omega
   rintro o' s4 ⟨rZ,hg⟩
   simp (disch:=omega) only[aj,QS,WP,↓reduceIte,hn,h4,aB]
   have dC:=((aD.trans (kD.weaken aD.next)).trans (mv.weaken (Nat.le_trans aD.next DQ)))
   refine au (l.length-(i+n)) (by omega) ⟨i+n,o',_,rfl,by omega,?_,?_,rZ,hg.fresh oz dC.next,dC.trans (hg.stay oz dC.next),by simp only[ag,hn],by simp only[aa,↓reduceIte,WP,h0],by simp only[aa,↓reduceIte];rfl,by simp only[aa,↓reduceIte,WP]⟩
   ·simp;omega
   ·rw[kM ck (by omega),qq,pH] at vc
    simpa [List.drop_drop] using vc
  ·have h3' :rowOf (l.drop i)<3:=by simp at h;omega
   have xH:=pI (l:=l.drop i) (by rw[List.length_drop];omega)
   have kX:=jC (l.drop i)
   have apw:=mE (l.drop i)
   rw[List.length_drop] at xH
   simp (disch:=omega) only[aj,QS,↓reduceIte,hn]
   refine Comes.bK (fun k f s' =>∃n:Nat,k=128-n/\1<=n/\n<=128/\i+n<=l.length/\gk (l.drop i) (128-n) n=cJ (l.drop i)/\f.n=69/\f.get 0=x/\f.get 4= .int .i64 i/\f.get 3=o/\f.get 6= .int .i64 n/\s1=s')
    (fun x' f' s' =>x' = .exit 2/\f'.n=69/\f'.get 0=x/\f'.get 4= .int .i64 i/\f'.get 3=o/\f'.get 6= .int .i64 (cJ (l.drop i))/\s1=s')
    ⟨1,rfl,by omega,by omega,by omega,rfl,by simp only[ag,hn],by simp only[aa,↓reduceIte,WP,h0],by simp only[aa,↓reduceIte,WP,h4],by simp only[aa,↓reduceIte,WP,h3],by simp only[aa,↓reduceIte];rfl,rfl⟩ ?_ ?_
   ·clear hn h0 h4 h3 f
    rintro Q hQ k f s1 ⟨n,rfl,iJ,im,mm,agb,hn,h0,h4,h3,h6,rfl⟩
    have out:∀(f:aT),f.n=69->f.get 0=x->f.get 4= .int .i64 i->f.get 3=o->f.get 6= .int .i64 n->(n=128\/(l.drop i).length<=n\/3<=rowOf ((l.drop i).drop n))->Q (.exit 2) f s1:=by
     intro f hn h0 h4 h3 h6 he
     exact hQ _ _ _ ⟨rfl,hn,h0,h4,h3,by rw[h6,<-agb,Us im he],rfl⟩
    by_cases c1:n<128
    ·have tJ:(n:Int)<128:=by omega
     by_cases c2:i+n<l.length
     ·have C3:(i:Int)+n<l.length:=by omega
      simp (disch:=omega) only[aj,ak,ad,QS,WP,↓reduceIte,hn,h0,h4,h6,tJ,lM.bh Tryz.underlying22,aB,C3]
      refine(wZ jS s1 x l (i+n) lM (by omega) c2).mono ?_
      rintro _ s1 ⟨rfl,rfl⟩
      have gr:=lA (l.drop (i+n))
      simp (disch:=omega) only[aj,ak,QS,WP,↓reduceIte,hn]
      refine iq (fun h=> ?_) (fun h=> ?_)
      ·simp (disch:=omega) only[aj,QS,WP,↓reduceIte,hn,h6,aB]
       refine au (128-(n+1)) (by omega) ⟨n+1,rfl,by omega,by omega,by omega,?_,by simp only[ag,hn],by simp only[aa,↓reduceIte,WP,h0],by simp only[aa,↓reduceIte,WP,h4],by simp only[aa,↓reduceIte,WP,h3],by simp only[aa,↓reduceIte];rfl,rfl⟩
       rw[<-agb,Ur c1 (by rw[List.length_drop];omega) (by rw[List.drop_drop];simp at h;omega)]
      ·simp (disch:=omega) only[aj]
       exact out _ (by simp only[ag,hn]) (by simp only[aa,↓reduceIte,WP,h0]) (by simp only[aa,↓reduceIte,WP,h4]) (by simp only[aa,↓reduceIte,WP,h3]) (by simp only[aa,↓reduceIte,WP,h6]) (.inr (.inr (by rw[List.drop_drop];simp at h;omega)))
     ·have C3:¬(i:Int)+n<l.length:=by omega
      simp (disch:=omega) only[aj,ak,ad,QS,WP,↓reduceIte,hn,h0,h4,h6,tJ,lM.bh Tryz.underlying22,aB,C3]
      exact out _ (by simp only[ag,hn]) (by simp only[aa,↓reduceIte,WP,h0]) (by simp only[aa,↓reduceIte,WP,h4]) (by simp only[aa,↓reduceIte,WP,h3]) (by simp only[aa,↓reduceIte,WP,h6]) (.inr (.inl (by rw[List.length_drop];omega)))
    ·have tJ:¬(n:Int)<128:=by omega
     simp (disch:=omega) only[aj,ak,QS,WP,↓reduceIte,hn,h6,tJ]
     exact out _ (by simp only[ag,hn]) (by simp only[aa,↓reduceIte,WP,h0]) (by simp only[aa,↓reduceIte,WP,h4]) (by simp only[aa,↓reduceIte,WP,h3]) (by simp only[aa,↓reduceIte,WP,h6]) (.inl (by omega))
   ·clear hn h0 h4 h3 f
    rintro _ f s1 ⟨rfl,hn,h0,h4,h3,h6,rfl⟩
    rw[kN ck h3'] at vc
    generalize qq:cJ (l.drop i)=n at*
    have ez:=lM.sx (lo:=i) (hi:=i+n) (by omega) (by omega)
    have e2:((i:Int)+n).toNat=i+n:=by omega
    rw[show i+n-i=n by omega] at ez
    have jH:((l.drop i).take n).length=n:=by rw[List.length_take,List.length_drop];omega
    simp (disch:=omega) only[aj,ae,QS,WP,↓reduceIte,hn,h3,h6,aB,bR Tryz.underlying3 Tryz.underlying5,gA,ab9,g9 Tryz.underlying22 bL lh]
    refine aQ (by rfl) ?_
    intro b1 s2 gu A9 kD
    have kv:=lM.keeps kD
    simp (disch:=omega) only[aj,ae,ai,QS,WP,↓reduceIte,hn,h0,h4,h6,aB,kv.FG Tryz.underlying22 bL,e2,Xu Tryz.underlying137 gv zSl rfl ⟨_,rfl⟩ gu.aG.su ez.su]
    refine aQ (by rfl) ?_
    intro b2 s3 dB Hi mv
    simp (disch:=omega) only[aj,ak,ad,QS,WP,↓reduceIte,hn]
    have nJ:=(ho.keeps kD).keeps mv
    have rz:=gu.keeps mv
    have agc:=(ez.keeps kD).keeps mv
    have gn:=ho.g8
    have DQ:=kD.next
    have ako:∀j,aE (eB 1 x i (i+n))=some j->j<s.next:=aca hx (by omega)
    refine(De UY s3 o b2 P [(b1,[UInt8.ofNat (n-1)]),(eB 1 x i (i+n),(l.drop i).take n)] nJ dB.aG (fun p hp=> ?_) (fun j hj e=> ?_) (fun p hp j hj e=> ?_) (by simp;omega) (by simp)).mono ?_
    ·simp only[List.mem_cons,List.not_mem_nil,or_false] at hp
     rcases hp with rfl|rfl
     ·exact rz.aG
     ·exact agc
    ·have:=Hi j hj;have:=gn j e;omega
    ·simp only[List.mem_cons,List.not_mem_nil,or_false] at hp
     rcases hp with rfl|rfl
     ·have:=A9 j hj;have:=gn j e;omega
     ·have:=oz j e;have:=ako j hj;omega
    rintro o' s4 ⟨rZ,hg⟩
    simp (disch:=omega) only[aj,QS,WP,↓reduceIte,hn,h4,h6,aB]
    have dC:=((aD.trans (kD.weaken aD.next)).trans (mv.weaken (Nat.le_trans aD.next DQ)))
    refine au (l.length-(i+n)) (by omega) ⟨i+n,o',_,rfl,by omega,?_,?_,rZ,hg.fresh oz dC.next,dC.trans (hg.stay oz dC.next),by simp only[ag,hn],by simp only[aa,↓reduceIte,WP,h0],by simp only[aa,↓reduceIte];rfl,by simp only[aa,↓reduceIte,WP]⟩
    ·simp[jH];omega
    ·simpa [List.drop_drop] using vc
 ·simp (disch:=omega) only[aj,ad,ae,QS,WP,↓reduceIte,hn,h0,h4,h3,bc,lM.bh Tryz.underlying22,g9 Tryz.underlying22 bL lh]
  obtain rfl:i=l.length:=by omega
  refine bI Tryz.underlying22 bL kG lh rfl ho (by simp only[aa,↓reduceIte]) (by decide) (by simp only[ag,hn];decide) (by simp only[ag,hn];decide) rfl (by decide) rfl (by omega) (by omega) oz aD.next ?_
  intro bs o' s2 rZ uC dC _ _
  simp (disch:=omega) only[aj,al,oneOf,QS,↓reduceIte,hn,Tryz.results81]
  rw[List.drop_length,kL] at vc
  refine⟨?_,uC,aD.trans dC⟩
  rw[<-vc,bn,List.length_append]
  exact rZ
end Go.Proofs.YtdfjfncifneocaaGreat
set_option linter.unusedSimpArgs false
set_option linter.unusedVariables false
set_option maxRecDepth 100000
namespace Go.Proofs.YtdfjfncifneocaaGreat
open Go.Cl Go.Cl.Pr Go.Cl.Ch Go.Cl.Hx Go.Cl.B85
theorem cC.behind {s s1 s' :aq}{w:Value}{l:List UInt8}(h:cC s1 w s' l)(k:ar s.next s s1):cC s w s' l:=cC.after h k rfl
theorem acd:abj eC:=⟨rfl,rfl,rfl,rfl,rfl,rfl,rfl,rfl,rfl,rfl⟩
end Go.Proofs.YtdfjfncifneocaaGreat
namespace Go.Cl
section
variable {P:Program} {lib:az} {all r:List Oper} {f:aT} {s:aq} {d:Option Tmp} {Q:aT->aq->Prop}
end
end Go.Cl
namespace Go.Cl.Lz
theorem XF (P:Program)(t:TypeId)(k' :IntKind)(x:Nat){k:Nat}(h:k<8):cI P .shr t (.int .u8 (x:Nat)) (.int k' (k:Nat))=some (.int .u8 ((x/2^k:Nat):Int)):=by
 rw[kZ P t .u8 _ _ k' (by omega)]
 have e:min ((k:Nat):Int).toNat IntKind.u8.bits=k:=by
  have:IntKind.u8.bits=8:=rfl
  rw[this,Int.toNat_natCast];omega
 rw[e,Int.fdiv_eq_ediv_of_nonneg _ (by exact Int.pow_nonneg (by omega))]
 norm_cast
theorem ace (x:Nat)(h:x<256):IntKind.u8.wrap (((BitVec.ofInt IntKind.u8.bits (x:Int)&&&BitVec.ofInt IntKind.u8.bits 1).toNat:Nat):Int)=((x%2:Nat):Int):=by
 have e1:IntKind.u8.bits=8:=rfl
 rw[e1]
 have:(BitVec.ofInt 8 (x:Int)&&&BitVec.ofInt 8 1).toNat=x%2:=by
  rw[BitVec.toNat_and,BitVec.ofInt_natCast,BitVec.toNat_ofNat,Nat.mod_eq_of_lt (by omega)]
  show x&&&1=_
  exact Nat.and_one_is_mod _
 rw[this,gA]
 omega
theorem aks (P:Program)(t:TypeId)(k' :IntKind)(a:Int):cI P .shl t (.int .i64 a) (.int k' 1)=some (.int .i64 (IntKind.i64.wrap (a*2))):=by
 rw[my P t .i64 a 1 k' (by decide)];rfl
theorem acf {n d:Nat}(hn:n<1099511627776)(hd:d<2):IntKind.i64.wrap (((BitVec.ofInt IntKind.i64.bits ((n:Int)*2)|||BitVec.ofInt IntKind.i64.bits (d:Int)).toNat:Nat):Int)=((n*2+d:Nat):Int):=by
 have e1:IntKind.i64.bits=64:=rfl
 rw[e1]
 have:(BitVec.ofInt 64 ((n:Int)*2)|||BitVec.ofInt 64 (d:Int)).toNat=n*2+d:=by
  have e2:((n:Int)*2)=((n*2:Nat):Int):=by omega
  rw[e2,BitVec.toNat_or,BitVec.ofInt_natCast,BitVec.ofInt_natCast,BitVec.toNat_ofNat,BitVec.toNat_ofNat,Nat.mod_eq_of_lt (by omega),Nat.mod_eq_of_lt (by omega)]
  have:=Nat.shiftLeft_add_eq_or_of_lt (i:=1) (b:=d) hd n
  rw[Nat.shiftLeft_eq] at this
  exact this.symm
 rw[this,aB (by omega)]
end Go.Cl.Lz
namespace Go.Cl
theorem KB {v:Value}(h:aJ v=true):v.cells.toList=[v]:=by cases v<;>first|rfl|cases h
theorem av.wM {P:Program}{e:TypeId}{n:Nat}(nK:bY P e=some true)(b6:aW P e=some n){s:aq}{i:Nat}{cs:List Value}(h:av s i cs){off c:Nat}(hc:c=cs.length+1)(ho:off+n<=cs.length):
  aR P s e (.pointer (some ⟨i,off,some c⟩))=some (.agg ((cs.drop off).take n).toArray):=by
 obtain⟨low,z,h1,h2⟩:=h.dK
 subst hc
 unfold aR
 simp only[nK,b6]
 rw[gi h1 h2 (Nat.le_refl _) (by omega)]
theorem av.RP {P:Program}{e:TypeId}{n:Nat}(b6:aW P e=some (n+1)){s:aq}{i:Nat}{cs:List Value}(h:av s i cs){off c:Nat}(hc:c=cs.length+1){v:Value}{vs:List Value}(hv:v.cells.toList=vs)(hl:vs.length=n+1)(dF:vs.all aJ=true)(ho:off+(n+1)<=cs.length):
  ∃s',dE P s e (.pointer (some ⟨i,off,some c⟩)) v=some s' /\av s' i (cs.take off++vs++cs.drop (off+(n+1)))/\(s'.next=s.next/\∀j,j≠i->s'.heap.get j=s.heap.get j):=by
 obtain⟨low,z,h1,h2⟩:=h.dK
 subst hc
 have hlen:(cs.take off++vs++cs.drop (off+(n+1))).length=cs.length:=by simp;omega
 refine⟨s.put i (.dK ⟨cs.take off++vs++cs.drop (off+(n+1)),cs.length+1,true,z⟩),?_,⟨h.lt,cs.length+1,z,?_,by rw[hlen];exact Nat.le_refl _⟩,rfl,fun j hj=>aq.bD _ _ _ _ (Ne.symm hj)⟩
 ·unfold dE
  simp only[b6,hv,hl]
  unfold aq.storeAt
  have yc:setAt cs off vs=some (cs.take off++vs++cs.drop (off+(n+1))):=by
   rw[j7 _ _ _ (by rw[hl];omega),hl]
  have gX:(true&&Nat.ble low (cs.length+1)&&Nat.beq (cs.length+1) (cs.length+1)&&vs.all aJ)=true:=by
   simp only[Bool.true_and,Bool.and_eq_true,Nat.ble_eq];exact⟨⟨h2,Nat.beq_refl _⟩,dF⟩
  simp only[h1,gX,if_true,yc]
  cases vs with
  |nil=>simp at hl
  |cons a r=>simp
 ·rw[aq.b9 _ _ _ (by omega)]
section
variable {P:Program} {lib:az} {all r:List Oper} {f:aT} {s:aq} {d:Option Tmp} {Q:aT->aq->Prop}
theorem jv {e:TypeId}{n:Nat}(b6:aW P e=some (n+1)){i:Nat}{cs:List Value}(h:av s i cs){off c:Nat}(hc:c=cs.length+1){v:Value}{vs:List Value}(hv:v.cells.toList=vs)(hl:vs.length=n+1)(dF:vs.all aJ=true)(ho:off+(n+1)<=cs.length)
  (K:∀s',av s' i (cs.take off++vs++cs.drop (off+(n+1)))->s'.next=s.next->(∀j,j≠i->s'.heap.get j=s.heap.get j)->dI P lib all r f s d Q (some (.val undef s'))):dI P lib all r f s d Q (AY (dE P s e (.pointer (some ⟨i,off,some c⟩)) v)):=by
 obtain⟨s',h1,h2,h3,h4⟩:=h.RP b6 hc hv hl dF ho
 rw[h1,g7]
 exact K s' h2 h3 h4
theorem mJ {id:Nat}{e:TypeId}(b6:aW P e=some 1){i:Nat}{cs:List Value}(h:av s i cs){off c:Nat}(hc:c=cs.length+1)(ho:off<cs.length){v:Value}(hv:aJ v=true)
  (K:∀s',av s' i (cs.set off v)->s'.next=s.next->(∀j,j≠i->s'.heap.get j=s.heap.get j)->sy P lib all r id f d Q undef s'):pn P lib all r id f d s Q (AY (dE P s e (.pointer (some ⟨i,off,some c⟩)) v)):=by
 obtain⟨s',h1,h2,h3,h4⟩:=h.store b6 hc ho hv
 rw[h1,g7]
 exact K s' h2 h3 h4
end
def Py (p:Nat×Nat):List Value:=[.int .i64 (p.1:Nat),.int .i64 (p.2:Nat)]
def kQ (l:List (Nat×Nat)):List Value:=l.flatMap Py
theorem sR (l:List (Nat×Nat))(p:Nat×Nat):kQ (l++[p])=kQ l++[.int .i64 (p.1:Nat),.int .i64 (p.2:Nat)]:=by simp[kQ,Py]
theorem KC {l:List (Nat×Nat)}{i:Nat}{p:Nat×Nat}(h:l[i]?=some p):(kQ l).getD (i*2+0) undef= .int .i64 (p.1:Nat):=CK (f:=Py) (z:=2) (fun _=>rfl) (by omega) l i p h
theorem KD {l:List (Nat×Nat)}{i:Nat}{p:Nat×Nat}(h:l[i]?=some p):(kQ l).getD (i*2+1) undef= .int .i64 (p.2:Nat):=CK (f:=Py) (z:=2) (fun _=>rfl) (by omega) l i p h
theorem aN.Vm {P:Program}{t e:TypeId}{m z:Nat}(hu:P.underlying t=some (.array m e))(b6:aW P e=some 1){s:aq}{v:Value}{n:Nat}{l:List Value}(h:aN s z v n l){i k:Nat}(hi:i<n)(hk:k<m)(kk:IntKind):
  bQ P t (bJ z v i) (.int kk (k:Nat))=some (ft (bJ z v i) k):=by
 have hb:Nat.blt k m=true:=by simpa [Nat.blt_eq] using hk
 show bQ P t (bJ z v i) (.int kk (Int.ofNat k))=_
 cases h with
 |nil=>omega
 |bare=>omega
 |of j off n c b l hj hbk hz hl hc hlen eZ ht=>
  unfold bQ
  rw[hu]
  simp only[bJ,b6,hb,if_true,Nat.mul_one,ft]
theorem Pz {P:Program}{t e:TypeId}{m:Nat}(hu:P.underlying t=some (.array m e))(b6:aW P e=some 1)(i o c:Nat){k:Nat}(hk:k<m)(kk:IntKind):
  bQ P t (.pointer (some ⟨i,o,some c⟩)) (.int kk (k:Nat))=some (.pointer (some ⟨i,o+k,some c⟩)):=by
 have hb:Nat.blt k m=true:=by simpa [Nat.blt_eq] using hk
 show bQ P t _ (.int kk (Int.ofNat k))=_
 unfold bQ
 rw[hu]
 simp only[b6,hb,if_true,Nat.mul_one]
end Go.Cl
set_option linter.unusedSimpArgs false
set_option linter.unusedVariables false
set_option maxRecDepth 100000
namespace Go.Proofs.YtdfjfncifneocaaGreat
open Go.Cl Go.Cl.Lz Go.Cl.Rw
theorem fi:aW Tryz.prog 122=some (1+1):=by kernel_rfl
theorem RQ:bY Tryz.prog 122=some true:=by kernel_rfl
theorem yC:aW Tryz.prog 121=some 1:=by kernel_rfl
theorem yD:bY Tryz.prog 121=some false:=by kernel_rfl
theorem Vn (i o c:Nat):ay Tryz.prog 124 (.pointer (some ⟨i,o,some c⟩)) 0=some (.pointer (some ⟨i,o+0,some c⟩)):=by
 unfold ay;rw[Tryz.underlying124];simp[gv]
theorem Vo (i o c:Nat):ay Tryz.prog 124 (.pointer (some ⟨i,o,some c⟩)) 1=some (.pointer (some ⟨i,o+1,some c⟩)):=by
 unfold ay;rw[Tryz.underlying124];simp[bB]
theorem PA (i o c:Nat):ay Tryz.prog 124 (.pointer (some ⟨i,o,some c⟩)) 2=some (.pointer (some ⟨i,o+2,some c⟩)):=by
 unfold ay;rw[Tryz.underlying124];simp[bB]
theorem pN (i o c:Nat):ay Tryz.prog 124 (.pointer (some ⟨i,o,some c⟩)) 3=some (.pointer (some ⟨i,o+3,some c⟩)):=by
 unfold ay;rw[Tryz.underlying124];simp[yC]
theorem KE (i o c:Nat):ay Tryz.prog 124 (.pointer (some ⟨i,o,some c⟩)) 4=some (.pointer (some ⟨i,o+4,some c⟩)):=by
 unfold ay;rw[Tryz.underlying124];simp[fi]
theorem sS (i o c:Nat):ay Tryz.prog 124 (.pointer (some ⟨i,o,some c⟩)) 5=some (.pointer (some ⟨i,o+6,some c⟩)):=by
 unfold ay;rw[Tryz.underlying124];simp[gv]
structure kR (base:Nat) (s:aq) (j:Nat) (bv rv ov:Value) (b:List UInt8) (p:Nat) (most:Int) (rows:List (Nat×Nat)) (last:Nat×Nat) (out:List UInt8):Prop where
 cu:av s j [bv,.int .i64 p,.int .i64 most,rv,.int .i64 last.1,.int .i64 last.2,ov]
 b:x6 base s 1 bv b.length (ofBytes b)
 rows:Own s 2 rv rows.length (kQ rows)
 rf:aH base rv
 rj:aE rv≠some j
 out:Own s 1 ov out.length (ofBytes out)
 of:aH base ov
 oj:aE ov≠some j
 ox:∀k,aE ov=some k->aE rv≠some k
 lo:base<=j
abbrev vd (j:Nat):Value:= .pointer (some ⟨j,0,some 8⟩)
theorem kR.put {base:Nat}{s s' :aq}{j:Nat}{bv rv ov:Value}{b:List UInt8}{p p' :Nat}{most:Int}{rows:List (Nat×Nat)}{last last' :Nat×Nat}{out:List UInt8}(h:kR base s j bv rv ov b p most rows last out)
  (ht:av s' j [bv,.int .i64 p',.int .i64 most,rv,.int .i64 last'.1,.int .i64 last'.2,ov]) (hn:s'.next=s.next) (hs:∀i,i≠j->s'.heap.get i=s.heap.get i):kR base s' j bv rv ov b p' most rows last' out:=
 ⟨ht,h.b.stay (ar.aI hn hs h.lo),h.rows.aI hn hs h.rj,h.rf,h.rj,h.out.aI hn hs h.oj,h.of,h.oj,h.ox,h.lo⟩
def Yw (base:Nat)(s:aq)(j:Nat)(bv rv ov:Value)(b:List UInt8)(p:Nat)(most:Int)(rows:List (Nat×Nat))(last:Nat×Nat)(out:List UInt8)(w:Nat)(v:Value)(s' :aq):Prop:=
 (8*b.length<p+w/\v= .tuple #[.int .i64 0,.int .i64 2]/\s' =s)\/
 (¬8*b.length<p+w/\v= .tuple #[.int .i64 (jh b p w:Nat),.int .i64 0]/\kR base s' j bv rv ov b (p+w) most rows last out/\ar base s s')
set_option maxRecDepth 100000 in
set_option maxHeartbeats 8000000 in
theorem Nt {lib:az}(hl:lib.at 106=none)(IP:lib.at 152=none)(base:Nat)(s:aq)(j:Nat)(bv rv ov:Value)(b:List UInt8)(p:Nat)(most:Int)(rows:List (Nat×Nat))(last:Nat×Nat)(out:List UInt8)
  (h:kR base s j bv rv ov b p most rows last out) (hb:b.length<=1000000) (hp:p<=8*b.length) (hr:rows.length<=1000000):
  Runs Tryz.prog lib 106 [vd j] s (Yw base s j bv rv ov b p most rows last out (width (258+rows.length))):=by
 refine Runs.enter 61 Tryz.func106 rfl hl rfl rfl ?_
 intro f hn hf
 have h0:f.get 0=vd j:=hf 0
 clear hf
 have g0:=h.cu.load (P:=Tryz.prog) gw (off:=0) (c:=8) rfl (by simp)
 have g1:=h.cu.load (P:=Tryz.prog) bC (off:=1) (c:=8) rfl (by simp)
 have g3:=h.cu.load (P:=Tryz.prog) yD (off:=3) (c:=8) rfl (by simp)
 obtain⟨w,hw⟩:∃w,w=width (258+rows.length):=⟨_,rfl⟩
 have M0:=pE (258+rows.length)
 have akt:(258:Int)+(rows.length:Int)=((258+rows.length:Nat):Int):=by omega
 rw[<-hw] at M0|-
 have m8:=h.b.aG
 simp-implicitDefEqProofs(disch:=omega)only[aj,ak,ad,QS,WP,↓reduceIte,hn,h0,pN,g3,h.rows.aG.bh Tryz.underlying121,aB]
 rw[akt]
 refine(Gv IP s (258+rows.length)).mono ?_
 rintro _ s1 ⟨rfl,jZ⟩
 subst jZ
 rw[<-hw]
 by_cases c1:8*b.length<p+w
 ·have tJ:8*(b.length:Int)-(p:Int)<(w:Int):=by omega
  simp-implicitDefEqProofs(disch:=omega)only[aj,ak,al,oneOf,ad,QS,WP,↓reduceIte,hn,h0,Vn,Vo,g0,g1,m8.self,m8.bh Tryz.underlying22,aB,eq_true tJ,Tryz.results106]
  exact .inl ⟨c1,rfl,rfl⟩
 ·have tJ:¬8*(b.length:Int)-(p:Int)<(w:Int):=by omega
  simp-implicitDefEqProofs(disch:=omega)only[aj,ak,ad,QS,WP,↓reduceIte,hn,h0,Vn,Vo,g0,g1,m8.self,m8.bh Tryz.underlying22,aB,eq_false tJ]
  refine Comes.bK (fun z f s' =>∃(k:Nat),z=w-k/\k<=w/\kR base s' j bv rv ov b (p+k) most rows last out/\ar base s1 s' /\f.n=61/\f.get 0=vd j/\f.get 5= .int .i64 (jh b p k:Nat)/\f.get 26= .int .i64 w/\f.get 27= .int .i64 k)
   (fun y f s' =>y= .exit 0/\kR base s' j bv rv ov b (p+w) most rows last out/\ar base s1 s' /\f.n=61/\f.get 5= .int .i64 (jh b p w:Nat))
   ⟨0,rfl,by omega,h,ar.refl _ _,by simp only[ag,hn],by simp only[aa,↓reduceIte,WP,h0],by simp only[aa,↓reduceIte,WP];rfl,by simp only[aa,↓reduceIte,WP],by simp only[aa,↓reduceIte];rfl⟩ ?_ ?_
  ·clear hn h0 f g0 g1 g3 m8
   rintro Q hQ z f s2 ⟨k,rfl,hk,hR,aD,hn,h0,h5,h26,h27⟩
   have g0:=hR.cu.load (P:=Tryz.prog) gw (off:=0) (c:=8) rfl (by simp)
   have g1:=hR.cu.load (P:=Tryz.prog) bC (off:=1) (c:=8) rfl (by simp)
   have m8:=hR.b.aG
   by_cases hkw:k<w
   ·have c2:(k:Int)<(w:Int):=by omega
    have hi:(p+k)/8<b.length:=by omega
    have uO:=m8.indexAddr (k:= .i64) (x:=(((p+k)/8:Nat):Int)) Tryz.underlying22 bL (by omega) (by omega)
    rw[Int.toNat_natCast] at uO
    have iF:=m8.dJ (P:=Tryz.prog) mB hi
    rw[bG hi] at iF
    have hm:(p+k)%8<8:=Nat.mod_lt _ (by omega)
    have e7:(7:Int)-(((p+k)%8:Nat):Int)=((7-(p+k)%8:Nat):Int):=by omega
    have h7:7-(p+k)%8<8:=by omega
    obtain⟨y,hy⟩:∃y,y=(b.getD ((p+k)/8) 0).toNat:=⟨_,rfl⟩
    have vE:y<256:=by rw[hy];exact(b.getD ((p+k)/8) 0).toNat_lt
    rw[<-hy] at iF
    have hdiv:y/2^(7-(p+k)%8)<256:=Nat.lt_of_le_of_lt (Nat.div_le_self _ _) vE
    have ab2:y/2^(7-(p+k)%8)%2=lD b (p+k):=by rw[hy];rfl
    have nP:=Kv b (p+k)
    have hhl:=C8 b p k
    have apy:2^k<=2^12:=Nat.pow_le_pow_right (by omega) (by omega)
    have qU:=acf (n:=jh b p k) (d:=lD b (p+k)) (by omega) nP
    have hand:=ace _ hdiv
    rw[ab2] at hand
    have Bg:IntKind.i64.wrap ((lD b (p+k):Nat):Int)=((lD b (p+k):Nat):Int):=aB (by omega)
    have Ih:jh b p k*2+lD b (p+k)=jh b p (k+1):=rfl
    rw[Ih] at qU
    simp-implicitDefEqProofs(disch:=omega)only[aj,ak,QS,WP,↓reduceIte,hn,h0,h5,h26,h27,eq_true c2,Vn,Vo,g0,g1,m8.self,Q6,HS,mw,eK,aks,uO,iF,e7,XF,eL,hand,Tryz.underlying3,bR Tryz.underlying5 Tryz.underlying3,Bg,jB,qU,aB]
    refine aX bB hR.cu rfl (by simp) rfl ?_
    intro s3 jt mm ij
    simp-implicitDefEqProofs(disch:=omega)only[aj,QS,WP,↓reduceIte,hn,h27,aB]
    refine au (w-(k+1)) (by omega) ⟨k+1,rfl,by omega,?_,aD.trans (ar.aI mm ij hR.lo),by simp only[ag,hn],by simp only[aa,↓reduceIte,WP,h0],by simp only[aa,↓reduceIte,WP],by simp only[aa,↓reduceIte,WP,h26],by simp only[aa,↓reduceIte];rfl⟩
    exact hR.put (p' :=p+(k+1)) (last' :=last) jt mm ij
   ·obtain rfl:k=w:=by omega
    have c2:¬(k:Int)<(k:Int):=by omega
    simp-implicitDefEqProofs(disch:=omega)only[aj,QS,↓reduceIte,hn,h26,h27,eq_false c2]
    exact hQ _ _ _ ⟨rfl,hR,aD,by simp only[ag,hn],by simp only[aa,↓reduceIte,WP,h5]⟩
  ·clear hn h0 f
   rintro _ f s2 ⟨rfl,hR,aD,hn,h5⟩
   simp-implicitDefEqProofs(disch:=omega)only[aj,al,oneOf,QS,WP,↓reduceIte,hn,h5,Tryz.results106]
   exact .inr ⟨c1,rfl,hR,aD⟩
end Go.Proofs.YtdfjfncifneocaaGreat
set_option linter.unusedSimpArgs false
set_option linter.unusedVariables false
set_option maxRecDepth 100000
namespace Go.Cl.Lz
def EI (out:List UInt8)(a:Nat):Nat->List UInt8
 |0=>out
 |n+1=>EI out a n++[(EI out a n).getD (a+n) 0]
theorem qA (out:List UInt8)(a:Nat):∀n,(EI out a n).length=out.length+n
 |0=>rfl
 |n+1=>by rw[EI,List.length_append,qA out a n];rfl
end Go.Cl.Lz
namespace Go.Proofs.YtdfjfncifneocaaGreat
open Go.Cl Go.Cl.Lz Go.Cl.Rw
theorem KF (a b:Int):cE Tryz.prog 122 [(0,.int .i64 a),(1,.int .i64 b)]=some (.agg #[.int .i64 a,.int .i64 b]):=by
 unfold cE;rw[Tryz.underlying122]
 have hz:bW Tryz.prog 122=some (.agg #[.int .i64 0,.int .i64 0]):=by kernel_rfl
 rw[hz]
 simp[bB,bP,gS,fI,setAt,Value.cells]
theorem Nu {j:Nat}{v:Value}{s s' :aq}(h:ar s.next s s'):cZ j v s v s' :=⟨h.next,fun i hi _ _=>h.get i hi,.inl rfl⟩
def Ii (base:Nat)(s:aq)(j:Nat)(bv rv ov:Value)(b:List UInt8)(p:Nat)(most:Int)(rows:List (Nat×Nat))(out:List UInt8)(n:Nat)(X:List UInt8)(v:Value)(s' :aq):Prop:=
 ∃(WT:Value) (last' :Nat×Nat) (Vp:List UInt8),kR base s' j bv rv WT b p most rows last' Vp/\cZ j ov s WT s' /\
  ((v= .int .i64 0/\((out.length+n:Nat):Int)<=most/\last' =(out.length,n)/\Vp=X)\/(v= .int .i64 7/\most<((out.length+n:Nat):Int)))
theorem kR.grow {base:Nat}{s s1 s2 s3:aq}{j:Nat}{bv rv ov o2:Value}{b:List UInt8}{p:Nat}{most:Int}{rows:List (Nat×Nat)}{last:Nat×Nat}{out RR:List UInt8}(h:kR base s j bv rv ov b p most rows last out)(hb:base<=s.next)
  (h1:ar s.next s s1) (h2:Own s2 1 o2 RR.length (ofBytes RR)) (Hi:aH base o2) (dZ:aY ov s1 s2) (gn:aE o2=aE ov\/∃i,aE o2=some i/\s1.next<=i)
  (ht:av s3 j [bv,.int .i64 p,.int .i64 most,rv,.int .i64 last.1,.int .i64 last.2,o2]) (hn:s3.next=s2.next) (hs:∀i,i≠j->s3.heap.get i=s2.heap.get i):
  kR base s3 j bv rv o2 b p most rows last RR/\cZ j ov s o2 s3:=by
 have bc:=h.cu.lt
 have hoj:aE o2≠some j:=by
  rcases gn with e|⟨i,e,hi⟩
  ·rw[e];exact h.oj
  ·rw[e];intro q;injection q with q;have:=h1.next;omega
 refine⟨⟨ht,((h.b.stay (h1.weaken hb)).stay (dZ.keeps h.of (Nat.le_trans hb h1.next))).stay (ar.aI hn hs h.lo),((h.rows.keeps h1).turns dZ (fun i hi e=>h.ox i e hi)).aI hn hs h.rj,h.rf,h.rj,h2.aI hn hs hoj,Hi,hoj,fun k hk=> ?_,h.lo⟩,
  ((Nu h1).trans (cZ.turns dZ gn)).trans (cZ.put hn hs)⟩
 rcases gn with e|⟨i,e,hi⟩
 ·rw[e] at hk;exact h.ox k hk
 ·rw[e] at hk;injection hk with hk;subst hk
  intro q;have:=h.rows.g8 _ q;have:=h1.next;omega
set_option maxRecDepth 100000 in
set_option maxHeartbeats 8000000 in
theorem GA {lib:az}(hl:lib.at 154=none)(base:Nat)(s:aq)(j:Nat)(bv rv ov:Value)(b:List UInt8)(p:Nat)(most:Int)(rows:List (Nat×Nat))(last:Nat×Nat)(out:List UInt8)(a n:Nat)
  (h:kR base s j bv rv ov b p most rows last out) (hb:base<=s.next) (ha:a<out.length) (hn0:1<=n) (ho:out.length+n<=100000000):
  Runs Tryz.prog lib 154 [vd j,.int .i64 a,.int .i64 n] s (Ii base s j bv rv ov b p most rows out n (EI out a n)):=by
 refine Runs.enter 51 Tryz.func154 rfl hl rfl rfl ?_
 intro f hn hf
 have h0:f.get 0=vd j:=hf 0
 have h1:f.get 1= .int .i64 a:=hf 1
 have h2:f.get 2= .int .i64 n:=hf 2
 clear hf
 have g6:=h.cu.load (P:=Tryz.prog) gw (off:=6) (c:=8) rfl (by simp)
 simp-implicitDefEqProofs(disch:=omega)only[aj,ak,ad,ae,QS,WP,↓reduceIte,hn,h0,h2,KE,sS,g6,h.out.aG.bh Tryz.underlying22,KF]
 refine jv fi h.cu rfl rfl rfl rfl (by simp) ?_
 intro s1 eO iJ jZ
 have oV:kR base s1 j bv rv ov b p most rows (out.length,n) out:=h.put eO iJ jZ
 have Vq:cZ j ov s ov s1:=cZ.put iJ jZ
 simp-implicitDefEqProofs(disch:=omega)only[aj,QS,WP,↓reduceIte,hn,h2]
 refine Comes.bK (fun z f s' =>∃(k:Nat) (WT:Value),z=n-k/\k<=n/\kR base s' j bv rv WT b p most rows (out.length,n) (EI out a k)/\cZ j ov s WT s' /\(k=0\/((out.length+k:Nat):Int)<=most)/\f.n=51/\f.get 0=vd j/\f.get 1= .int .i64 a/\f.get 18= .int .i64 n/\f.get 19= .int .i64 k)
  (fun y f s' =>(y= .exit 0/\f.n=51/\Ii base s j bv rv ov b p most rows out n (EI out a n) (.int .i64 0) s')\/(y= .ret/\f.n=51/\f.get 6= .int .i64 7/\Ii base s j bv rv ov b p most rows out n (EI out a n) (.int .i64 7) s'))
  ⟨0,ov,rfl,by omega,oV,Vq,.inl rfl,by simp only[ag,hn],by simp only[aa,↓reduceIte,WP,h0],by simp only[aa,↓reduceIte,WP,h1],by simp only[aa,↓reduceIte,WP],by simp only[aa,↓reduceIte];rfl⟩ ?_ ?_
 ·clear hn h0 h1 h2 f g6 oV Vq eO iJ jZ s1
  rintro Q hQ z f s2 ⟨k,o1,rfl,hk,hR,eX,hmk,hn,h0,h1,ye,Kg⟩
  have dB:=Nat.le_trans hb eX.next
  have g6:=hR.cu.load (P:=Tryz.prog) gw (off:=6) (c:=8) rfl (by simp)
  have g2:=hR.cu.load (P:=Tryz.prog) bC (off:=2) (c:=8) rfl (by simp)
  have hlen:=qA out a k
  have Pu:=hR.out.aG
  by_cases hkn:k<n
  ·have c1:(k:Int)<(n:Int):=by omega
   by_cases c2:most<=((EI out a k).length:Int)
   ·simp-implicitDefEqProofs(disch:=omega)only[aj,ak,ad,QS,WP,↓reduceIte,hn,h0,ye,Kg,eq_true c1,PA,sS,g2,g6,hR.out.self,Pu.bh Tryz.underlying22,eq_true c2]
    refine hQ _ _ _ (.inr ⟨rfl,by simp only[ag,hn],by simp only[aa,↓reduceIte],o1,_,_,hR,eX,.inr ⟨rfl,by omega⟩⟩)
   ·have hik:a+k<(EI out a k).length:=by omega
    have eI:=ar.spare s2 1
    have age:=(hR.out.keeps eI).aG
    have g6S:=(hR.cu.keeps eI).load (P:=Tryz.prog) gw (off:=6) (c:=8) rfl (by simp)
    have uO:=age.indexAddr (k:= .i64) (x:=((a:Int)+(k:Int))) Tryz.underlying22 bL (by omega) (by omega)
    rw[show((a:Int)+(k:Int)).toNat=a+k by omega] at uO
    have iF:=age.dJ (P:=Tryz.prog) mB hik
    rw[bG hik] at iF
    simp-implicitDefEqProofs(disch:=omega)only[aj,ak,ad,QS,WP,↓reduceIte,hn,h0,ye,Kg,eq_true c1,PA,sS,g2,g6,hR.out.self,Pu.bh Tryz.underlying22,eq_false c2]
    refine da.x9 1 (by kernel_rfl) (by kernel_rfl) ?_
    simp-implicitDefEqProofs(disch:=omega)only[aj,ak,ae,QS,WP,↓reduceIte,hn,h0,h1,sS,g6S,hR.out.self,aB,uO,iF,g9 Tryz.underlying22 bL lh]
    refine hI (base:=s2.next) (by rfl) (by rw[bU];omega) (Nat.le_refl _) ?_
    intro bs t2 m8 qb aU oN _
    have dn:=(ar.spare s2 1).trans aU
    have fx:=hR.out.keeps dn
    simp-implicitDefEqProofs(disch:=omega)only[aj,ad,QS,WP,↓reduceIte,hn]
    refine j8 Tryz.underlying22 Tryz.underlying22 (.inl ⟨_,rfl⟩) bL kG lh rfl fx m8.aG.src rfl (by decide) rfl (by omega) (by omega) hR.of (by have:=dn.next;omega) ?_
    intro o3 t3 nJ hF3 bH jt Ij
    have EF:=(hR.cu.keeps dn).turns jt hR.oj
    simp-implicitDefEqProofs(disch:=omega)only[aj,QS,WP,↓reduceIte,hn,sS]
    refine mJ gv EF rfl (by simp) nJ.aG.aJ ?_
    intro s4 ie u0 ru
    have e1:ofBytes (EI out a k)++[.int .u8 (((EI out a k).getD (a+k) 0).toNat:Int)]=ofBytes (EI out a (k+1)):=by rw[EI,bn];rfl
    have e2:(EI out a k).length+1=(EI out a (k+1)).length:=by rw[qA,qA];omega
    rw[e1,e2] at nJ
    obtain⟨xD,ab3⟩:=hR.grow dB dn nJ hF3 jt Ij ie u0 ru
    simp-implicitDefEqProofs(disch:=omega)only[aj,QS,WP,↓reduceIte,hn,Kg,aB]
    refine au (n-(k+1)) (by omega) ⟨k+1,o3,rfl,by omega,xD,eX.trans ab3,.inr (by omega),by simp only[ag,hn],by simp only[aa,↓reduceIte,WP,h0],by simp only[aa,↓reduceIte,WP,h1],by simp only[aa,↓reduceIte,WP,ye],by simp only[aa,↓reduceIte];rfl⟩
  ·obtain rfl:k=n:=by omega
   have c1:¬(k:Int)<(k:Int):=by omega
   simp-implicitDefEqProofs(disch:=omega)only[aj,QS,↓reduceIte,hn,ye,Kg,eq_false c1]
   exact hQ _ _ _ (.inl ⟨rfl,by simp only[ag,hn],o1,_,_,hR,eX,.inl ⟨rfl,by omega,rfl,rfl⟩⟩)
 ·clear hn h0 h1 h2 f
  rintro y f s2 (⟨rfl,hn,hP⟩|⟨rfl,hn,h6,hP⟩)
  ·simp-implicitDefEqProofs(disch:=omega)only[aj,al,oneOf,QS,↓reduceIte,hn,Tryz.results154]
   exact hP
  ·simp-implicitDefEqProofs(disch:=omega)only[aj,al,oneOf,QS,↓reduceIte,hn,h6,Tryz.results154]
   exact hP
set_option maxRecDepth 100000 in
set_option maxHeartbeats 4000000 in
theorem Nv {lib:az}(hl:lib.at 153=none)(base:Nat)(s:aq)(j:Nat)(bv rv ov:Value)(b:List UInt8)(p:Nat)(most:Int)(rows:List (Nat×Nat))(last:Nat×Nat)(out:List UInt8)(c:Nat)
  (h:kR base s j bv rv ov b p most rows last out) (hb:base<=s.next) (hc:c<256) (ho:out.length<=100000000):
  Runs Tryz.prog lib 153 [vd j,.int .i64 c] s (Ii base s j bv rv ov b p most rows out 1 (out++[UInt8.ofNat c])):=by
 refine Runs.enter 35 Tryz.func153 rfl hl rfl rfl ?_
 intro f hn hf
 have h0:f.get 0=vd j:=hf 0
 have h1:f.get 1= .int .i64 c:=hf 1
 clear hf
 have g6:=h.cu.load (P:=Tryz.prog) gw (off:=6) (c:=8) rfl (by simp)
 have g2:=h.cu.load (P:=Tryz.prog) bC (off:=2) (c:=8) rfl (by simp)
 by_cases c2:most<=(out.length:Int)
 ·simp-implicitDefEqProofs(disch:=omega)only[aj,ak,al,oneOf,ad,QS,WP,↓reduceIte,hn,h0,PA,sS,g2,g6,h.out.self,h.out.aG.bh Tryz.underlying22,eq_true c2,Tryz.results153]
  exact⟨ov,_,_,h,cZ.refl _ _ _,.inr ⟨rfl,by omega⟩⟩
 ·simp-implicitDefEqProofs(disch:=omega)only[aj,ak,ad,ae,QS,WP,↓reduceIte,hn,h0,PA,KE,sS,g2,g6,h.out.self,h.out.aG.bh Tryz.underlying22,eq_false c2,KF]
  refine jv fi h.cu rfl rfl rfl rfl (by simp) ?_
  intro s1 eO iJ jZ
  have oV:kR base s1 j bv rv ov b p most rows (out.length,1) out:=h.put eO iJ jZ
  have g6:=oV.cu.load (P:=Tryz.prog) gw (off:=6) (c:=8) rfl (by simp)
  have Bg:IntKind.u8.wrap (c:Int)=(((UInt8.ofNat c).toNat:Nat):Int):=by rw[gA,UInt8.toNat_ofNat'];omega
  simp-implicitDefEqProofs(disch:=omega)only[aj,ak,ae,QS,WP,↓reduceIte,hn,h0,h1,sS,g6,bR Tryz.underlying3 Tryz.underlying5,Bg,g9 Tryz.underlying22 bL lh]
  refine bI Tryz.underlying22 bL kG lh rfl oV.out (by simp only[aa,↓reduceIte,WP]) (by decide) (by simp only[ag,hn];decide) (by simp only[ag,hn];decide) (by rfl) (by decide) rfl (by omega) (by omega) oV.of (by omega) ?_
  intro bs o2 s2 fx Zk aU dZ qb
  have ab1:=oV.cu.turns dZ oV.oj
  simp-implicitDefEqProofs(disch:=omega)only[aj,QS,WP,↓reduceIte,hn,sS]
  refine aX gv ab1 rfl (by simp) fx.aG.aJ ?_
  intro s3 jt mm ij
  have e1:ofBytes out++[.int .u8 (((UInt8.ofNat c).toNat:Nat):Int)]=ofBytes (out++[UInt8.ofNat c]):=by rw[bn];rfl
  have e2:out.length+1=(out++[UInt8.ofNat c]).length:=by simp
  rw[e1,e2] at fx
  obtain⟨zT,wY⟩:=oV.grow (by omega) (ar.refl _ _) fx Zk dZ qb jt mm ij
  simp-implicitDefEqProofs(disch:=omega)only[aj,al,oneOf,QS,↓reduceIte,hn,Tryz.results153]
  exact⟨o2,_,_,zT,(cZ.put iJ jZ).trans wY,.inl ⟨rfl,by omega,rfl,rfl⟩⟩
end Go.Proofs.YtdfjfncifneocaaGreat
