import Derived.Test.YtdfjfncifneocaaGreatStoP
import Derived.Test.YtdfjfncifneocaaGreatPrA
import Derived.Test.YtdfjfncifneocaaGreatMcA
import Derived.Laws.Externs
import GoSem.Extern.BytealgCompare
import Derived.Test.YtdfjfncifneocaaGreatMcB
import Derived.Laws.AppendOwn
import Derived.KernelRfl
import Derived.Test.YtdfjfncifneocaaGreatProg
import Derived.Test.YtdfjfncifneocaaGreatDraw
import Derived.Test.YtdfjfncifneocaaGreatCutA
import Derived.Test.YtdfjfncifneocaaGreatAdl
set_option linter.unusedSimpArgs false
set_option linter.unusedVariables false
set_option maxRecDepth 100000
namespace Go.Proofs.YtdfjfncifneocaaGreat
open Go.Cl Go.Cl.Sto
theorem HP {lib:ay}(hl:lib.at 174=none)(s:aq)(b:Bool):
  Runs Tryz.prog lib 174 [.bool b] s fun v s' =>v= .int .i64 (if b then 1 else 0)/\s' =s:=by
 refine Runs.enter 4 Tryz.func174 rfl hl rfl rfl ?_
 intro f hn hf
 have h0:f.get 0= .bool b:=hf 0
 clear hf
 cases b with
 |true=>simp-implicitDefEqProofs(disch:=omega)only[ai,al,oneOf,Nat.reduceLT,Nat.reduceEqDiff,↓reduceIte,hn,h0,Tryz.results174]
 |false=>simp-implicitDefEqProofs(disch:=omega)only[ai,al,oneOf,Nat.reduceLT,Nat.reduceEqDiff,↓reduceIte,hn,h0,Tryz.results174]
set_option maxRecDepth 100000 in
set_option maxHeartbeats 4000000 in
theorem Kd {lib:ay}(hl:lib.at 134=none)(SY:lib.at 174=none)(s:aq)(x:Value)(l:List UInt8)(hx:aM s 1 x l.length (ofBytes l))(hlen:l.length<=1000000000):
  Runs Tryz.prog lib 134 [x] s fun v s' =>bU s v s' (En l):=by
 refine Runs.enter 41 Tryz.func134 rfl hl rfl rfl ?_
 intro f hn hf
 have h0:f.get 0=x:=hf 0
 clear hf
 have wT:blocks l.length<=200000:=by unfold blocks;omega
 simp-implicitDefEqProofs(disch:=omega)only[ai,Nat.reduceLT,↓reduceIte,hn]
 refine Comes.eY (fun q f s' =>∃(r P:List UInt8) (o w:Value),q=r.length/\P++En r=En l/\r.length<=l.length/\Own s' 1 o P.length (ofBytes P)/\aN s.next o/\aM s' 1 w r.length (ofBytes r)/\(∀s2,ar s.next s s2->aM s2 1 w r.length (ofBytes r))/\ar s.next s s' /\f.n=41/\f.get 0=w/\f.get 3=o)
  ⟨l,[],_,x,rfl,rfl,by omega,.nil,aN.nil _,hx,fun s2 h2=>hx.keeps h2,ar.refl _ _,by simp only[ae,hn],by simp only[aa,↓reduceIte,Nat.reduceEqDiff,h0],by simp only[aa,↓reduceIte]⟩ ?_
 clear hn h0 f
 rintro q f s1 ⟨r,P,o,w,rfl,hP,nG,ho,Zk,hw,OP,aA,hn,h0,h3⟩
 have uT:=jJ _ l (Nat.le_refl _)
 have hsr:=jJ _ r (Nat.le_refl _)
 have hPl:P.length+(En r).length=l.length+5*blocks l.length:=by rw[<-uT,<-hP,List.length_append]
 by_cases C2:r.length<=65535
 ·have e1:¬(65535:Int)<r.length:=by omega
  have Ws:r.length<4611686018427387904:=by omega
  simp-implicitDefEqProofs(disch:=omega)only[ai,aj,ad,Nat.reduceLT,Nat.reduceEqDiff,↓reduceIte,hn,h0,h3,hw.aV Tryz.underlying22,e1]
  refine(HP SY s1 true).mono ?_
  rintro _ s2 ⟨rfl,df⟩
  subst df
  have eb:IntKind.u8.wrap 1=((UInt8.ofNat 1).toNat:Int):=rfl
  simp-implicitDefEqProofs(disch:=omega)only[ai,ag,Nat.reduceLT,Nat.reduceEqDiff,↓reduceIte,hn,bd Tryz.underlying3 Tryz.underlying5,eb,b0,Tf,zI,b1,Te,b2,b3,FC Tryz.underlying22 bh gR]
  refine a9 Tryz.underlying22 bh gh gR rfl ho (by simp only[aa,↓reduceIte,Nat.reduceEqDiff]) (by decide) (by simp only[ae,hn];decide) (by simp only[ae,hn];decide) (by rfl) (by decide) rfl (by omega) (by omega) Zk aA.next ?_
  intro bs o2 s3 fK Ke cf _ _
  have gK:=aA.trans cf
  have zK:=OP s3 gK
  have dA:=zK.lL (lo:=0) (hi:=r.length) (by omega) (by omega)
  rw[List.drop_zero,Nat.sub_zero] at dA
  have zL:(r.take (r.length)).length=r.length:=by rw[List.length_take];omega
  rw[zL] at dA
  simp-implicitDefEqProofs(disch:=omega)only[ai,ad,ah,Nat.reduceLT,Nat.reduceEqDiff,↓reduceIte,hn,h0,zK.gw Tryz.underlying22 bh]
  refine bG Tryz.underlying22 Tryz.underlying22 (.inl ⟨_,rfl⟩) bh gh gR rfl fK dA.src (by rw[br,zL,Nat.mul_one]) (by decide) (cX _) (by omega) (by omega) Ke gK.next ?_
  intro o4 s4 zy Kf iH _ _
  have hh:[Value.int .u8 (((UInt8.ofNat 1).toNat:Nat):Int),Value.int .u8 (((UInt8.ofNat (r.length)).toNat:Nat):Int),Value.int .u8 (((UInt8.ofNat (r.length/256)).toNat:Nat):Int),Value.int .u8 (((UInt8.ofNat (255-r.length%256)).toNat:Nat):Int),Value.int .u8 (((UInt8.ofNat (255-r.length/256%256)).toNat:Nat):Int)]=ofBytes (J0 (r.length) 1):=rfl
  rw[hh] at zy
  have iA:=gK.trans iH
  have xN:=OP s4 iA
  have nj:=xN.lL (lo:=r.length) (hi:=r.length) (by omega) (by omega)
  rw[List.drop_length,List.take_nil] at nj
  have e2:((([]:List UInt8).length:Nat):Int)=0:=rfl
  simp-implicitDefEqProofs(disch:=omega)only[ai,al,oneOf,ad,ah,Nat.reduceLT,Nat.reduceEqDiff,↓reduceIte,hn,h0,xN.fz Tryz.underlying22 bh,nj.aV Tryz.underlying22,e2,Tryz.results134]
  refine⟨?_,Kf,iA⟩
  rw[<-hP,vP C2,List.length_append,List.length_append,jI,aK,aK,<-List.append_assoc,<-Nat.add_assoc]
  rw[List.take_length] at zy
  exact zy
 ·have e1:(65535:Int)<r.length:=by omega
  have e0:¬((65535:Int)=r.length):=by omega
  obtain⟨m,hm⟩:∃m:Nat,m=65535:=⟨_,rfl⟩
  have Ws:m<4611686018427387904:=by omega
  simp-implicitDefEqProofs(disch:=omega)only[ai,aj,ad,Nat.reduceLT,Nat.reduceEqDiff,↓reduceIte,hn,h0,h3,hw.aV Tryz.underlying22,e1,eq_false e0]
  refine(HP SY s1 false).mono ?_
  rintro _ s2 ⟨rfl,df⟩
  subst df
  have eb:IntKind.u8.wrap 0=((UInt8.ofNat 0).toNat:Int):=rfl
  have en:(65535:Int)=(m:Int):=by omega
  simp-implicitDefEqProofs(disch:=omega)only[ai,Nat.reduceLT,↓reduceIte,hn,en]
  simp-implicitDefEqProofs(disch:=omega)only[ai,ag,Nat.reduceLT,Nat.reduceEqDiff,↓reduceIte,hn,bd Tryz.underlying3 Tryz.underlying5,eb,b0,Tf,zI,b1,Te,b2,b3,FC Tryz.underlying22 bh gR]
  refine a9 Tryz.underlying22 bh gh gR rfl ho (by simp only[aa,↓reduceIte,Nat.reduceEqDiff]) (by decide) (by simp only[ae,hn];decide) (by simp only[ae,hn];decide) (by rfl) (by decide) rfl (by omega) (by omega) Zk aA.next ?_
  intro bs o2 s3 fK Ke cf _ _
  have gK:=aA.trans cf
  have zK:=OP s3 gK
  have dA:=zK.lL (lo:=0) (hi:=m) (by omega) (by omega)
  rw[List.drop_zero,Nat.sub_zero] at dA
  have zL:(r.take (m)).length=m:=by rw[List.length_take];omega
  rw[zL] at dA
  simp-implicitDefEqProofs(disch:=omega)only[ai,ad,ah,Nat.reduceLT,Nat.reduceEqDiff,↓reduceIte,hn,h0,zK.gw Tryz.underlying22 bh]
  refine bG Tryz.underlying22 Tryz.underlying22 (.inl ⟨_,rfl⟩) bh gh gR rfl fK dA.src (by rw[br,zL,Nat.mul_one]) (by decide) (cX _) (by omega) (by omega) Ke gK.next ?_
  intro o4 s4 zy Kf iH _ _
  have hh:[Value.int .u8 (((UInt8.ofNat 0).toNat:Nat):Int),Value.int .u8 (((UInt8.ofNat (m)).toNat:Nat):Int),Value.int .u8 (((UInt8.ofNat (m/256)).toNat:Nat):Int),Value.int .u8 (((UInt8.ofNat (255-m%256)).toNat:Nat):Int),Value.int .u8 (((UInt8.ofNat (255-m/256%256)).toNat:Nat):Int)]=ofBytes (J0 (m) 0):=rfl
  rw[hh] at zy
  have iA:=gK.trans iH
  have xN:=OP s4 iA
  have nj:=xN.lL (lo:=m) (hi:=r.length) (by omega) (by omega)
  have et:(r.drop m).take (r.length-m)=r.drop m:=List.take_of_length_le (by rw[List.length_drop];omega)
  rw[et] at nj
  have cD:¬(((r.drop m).length:Nat):Int)=0:=by rw[List.length_drop];omega
  simp-implicitDefEqProofs(disch:=omega)only[ai,ad,ah,Nat.reduceLT,Nat.reduceEqDiff,↓reduceIte,hn,h0,xN.fz Tryz.underlying22 bh,nj.aV Tryz.underlying22,eq_false cD]
  refine au (r.drop m).length (by rw[List.length_drop];omega) ⟨r.drop m,P++(J0 m 0++r.take m),o4,ez 1 w m r.length,rfl,?_,by rw[List.length_drop];omega,?_,Kf,nj,fun s2 h2=> ?_,iA,by simp only[ae,hn],by simp only[aa,↓reduceIte,Nat.reduceEqDiff],by simp only[aa,↓reduceIte,Nat.reduceEqDiff]⟩
  ·rw[<-hP,BL C2,<-hm,List.append_assoc]
  ·rw[aK,aK,List.length_append,List.length_append,jI,zL,<-List.append_assoc,<-Nat.add_assoc]
   exact zy
  ·have:=(OP s2 h2).lL (lo:=m) (hi:=r.length) (by omega) (by omega)
   rw[et] at this
   exact this
end Go.Proofs.YtdfjfncifneocaaGreat
namespace Go.Cl
def Room (s:aq)(v:Value)(n:Nat)(l:List Value):Prop:=Own s 1 v n l\/(n=0/\l=[]/\∃i off,v= .slice (some ⟨i,off,none⟩) 0 0)
theorem Own.room {s:aq}{v:Value}{n:Nat}{l:List Value}(h:Own s 1 v n l):Room s v n l:= .inl h
theorem Room.aH {s:aq}{v:Value}{n:Nat}{l:List Value}(h:Room s v n l):aM s 1 v n l:=by
 rcases h with h|⟨rfl,rfl,i,off,rfl⟩
 ·exact h.aH
 ·exact .bare i off
theorem Room.own {s:aq}{v:Value}{n:Nat}{l:List Value}(h:Room s v n l)(hn:0<n):Own s 1 v n l:=by
 rcases h with h|⟨h,_⟩
 ·exact h
 ·omega
theorem Room.keeps {s s' :aq}{v:Value}{n:Nat}{l:List Value}(h:Room s v n l)(k:ar s.next s s'):Room s' v n l:=by
 rcases h with h|h
 ·exact .inl (h.keeps k)
 ·exact .inr h
theorem HQ (l:List Value)(off:Nat):over l off []=l:=by unfold over;simp
theorem HR {a b c:List Value}{off:Nat}(h:off=a.length):over (a++c) off b=a++b++c.drop b.length:=by
 subst h
 unfold over
 rw[List.take_left,<-List.drop_drop,List.drop_left]
theorem Room.Zl {P:Program}{t e:TypeId}(hu:P.underlying t=some (.slice e))(cJ:bq P e=some 1){s:aq}{v:Value}{n:Nat}{l:List Value}(h:Room s v n l){lo:Nat}(nM:lo<=n){y y2:Value}{k:Nat}{new:List Value}
  (hc:pK (n-lo) y=some (k,y2)) (hs:k≠0->dJ s 1 y2=some (k,new)) (hk:new.length=k) (OQ:k<=n-lo) (dE:new.all aO=true):
  ∃s',lY P s t (ez 1 v lo n) y=some (.int .i64 k,s')/\Room s' v n (over l lo new)/\bm v s s' /\s'.next=s.next:=by
 have hzero:k=0->∀a c,lY P s t (.slice a (n-lo) c) y=some (.int .i64 k,s):=by
  intro h0 a c
  subst h0
  unfold lY
  simp only[hu,cJ,hc];rfl
 rcases h with h|⟨rfl,rfl,i,off,rfl⟩
 ·cases h with
  |nil=>
   obtain rfl:k=0:=by omega
   obtain rfl:new=[]:=List.eq_nil_of_length_eq_zero hk
   obtain rfl:lo=0:=by omega
   refine⟨s,hzero rfl none 0,?_,⟨Nat.le_refl _,fun _ _ _=>rfl⟩,rfl⟩
   rw[HQ];exact .inl .nil
  |of i n low l hi hb hl hlen=>
   have cT:l.length=n:=by omega
   cases k with
   |zero=>
    obtain rfl:new=[]:=List.eq_nil_of_length_eq_zero hk
    refine⟨s,hzero rfl _ _,?_,⟨Nat.le_refl _,fun _ _ _=>rfl⟩,rfl⟩
    rw[HQ];exact .inl (.of i n low l hi hb hl hlen)
   |succ k=>
    have OC:(over l lo new).length=l.length:=r5 (by omega)
    have ux:setAt l (0+lo*1) new=some (over l lo new):=by
     rw[show 0+lo*1=lo by omega];exact kl _ _ _ (by omega)
    have aA:s.storeAt i (0+lo*1) (l.length+1) new=some (s.put i (.dL ⟨over l lo new,l.length+1,true,1⟩)):=by
     unfold aq.storeAt
     have jg:(true&&Nat.ble low (l.length+1)&&Nat.beq (l.length+1) (l.length+1)&&new.all aO)=true:=by
      simp only[dE,Bool.and_true,Bool.true_and,Bool.and_eq_true,Nat.ble_eq,Nat.beq_eq];exact⟨hl,trivial⟩
     rw[hb]
     simp only[jg,if_true]
     cases new with
     |nil=>simp at hk
     |cons a w=>simp only[ux]
    refine⟨s.put i (.dL ⟨over l lo new,l.length+1,true,1⟩),?_,.inl ?_,⟨by simp[aq.put],fun j _ hj=> ?_⟩,rfl⟩
    ·unfold lY
     simp only[hu,cJ,ez,hc,hs (by omega),aA,Nat.beq_refl]
    ·have:=Own.of (s:=s.put i (.dL ⟨over l lo new,l.length+1,true,1⟩)) (z:=1) i n (l.length+1) (over l lo new) (by simpa [aq.put] using hi) (aq.cg _ _ _ (by omega)) (by omega) (by omega)
     rw[OC] at this
     exact this
    ·rw[aq.a8]
     intro e;subst e;exact hj rfl
 ·obtain rfl:k=0:=by omega
  obtain rfl:new=[]:=List.eq_nil_of_length_eq_zero hk
  obtain rfl:lo=0:=by omega
  refine⟨s,?_,.inr ⟨rfl,rfl,i,off,rfl⟩,⟨Nat.le_refl _,fun _ _ _=>rfl⟩,rfl⟩
  exact hzero rfl (some ⟨i,off+0*1,none⟩) 0
theorem Qt {s:aq}{v:Value}{n:Nat}{l:List Value}(h:Room s v n l):ez 1 v 0 n=v:=by
 rcases h with h|⟨rfl,rfl,i,off,rfl⟩
 ·cases h<;>simp[ez]
 ·simp[ez]
theorem aM.pK {s:aq}{y:Value}{m:Nat}{new:List Value}(h:aM s 1 y m new)(r:Nat):∃y2,Cl.pK r y=some (min m r,y2)/\dJ s 1 y2=some (min m r,new.take (min m r)):=by
 have hl:=h.length
 have dA:=(h.cut (lo:=0) (hi:=min m r) (by omega) (by omega)).src
 rw[Nat.zero_mul,List.drop_zero,Nat.sub_zero,Nat.mul_one] at dA
 cases h with
 |nil=>exact⟨.slice none (min 0 r) 0,rfl,by simpa [ez] using dA⟩
 |bare i off=>exact⟨.slice (some ⟨i,off,none⟩) (min 0 r) 0,rfl,by simpa [ez] using dA⟩
 |of i off n c b l hi hb hz hl hc hlen fL ht=>exact⟨.slice (some ⟨i,off,none⟩) (min m r) c,rfl,by simpa [ez] using dA⟩
theorem Room.slice {P:Program}{t e:TypeId}(hu:P.underlying t=some (.slice e))(cJ:bq P e=some 1){s:aq}{v:Value}{n:Nat}{l:List Value}(h:Room s v n l){k:IntKind}{x:Int}(h0:0<=x)(h2:x<=n):dH P s t v (some (.int k x)) none none=some (ez 1 v x.toNat n):=h.aH.fz hu cJ h0 h2
theorem Own.tight {P:Program}{t e:TypeId}(hu:P.underlying t=some (.slice e))(cJ:bq P e=some 1){s:aq}{v:Value}{n:Nat}{l:List Value}(h:Own s 1 v n l){k k2:IntKind}:∃v',dH P s t v none (some (.int k (n:Nat))) (some (.int k2 (n:Nat)))=some v' /\Room s v' n l/\(0<n->v' =v)/\(∀i,aJ v' =some i->aJ v=some i):=by
 have kX:∀k d,hJ (some (.int k ((n:Nat):Int))) d=some n:=fun _ _=>rfl
 cases h with
 |nil=>
  refine⟨.slice none 0 0,?_,.inl .nil,fun h=>(by omega),fun i h=>h⟩
  unfold dH;rw[hu];simp[hJ,cJ]
 |of i n low l hi hb hl hlen=>
  have cT:l.length=n:=by omega
  have he:jW s i (l.length+1) 1=true:=by
   unfold jW
   split
   ·rfl
   ·rw[hb];rfl
  have hle:(Nat.ble 0 n&&Nat.ble n n)=true:=by simp
  by_cases h0:n=0
  ·subst h0
   refine⟨.slice (some ⟨i,0,none⟩) 0 0,?_,.inr ⟨rfl,List.eq_nil_of_length_eq_zero cT,i,0,rfl⟩,fun h=>(by omega),fun j h=>h⟩
   unfold dH;rw[hu];simp only[kN,kX,cJ,hle,if_true,he];rfl
  ·refine⟨.slice (some ⟨i,0,none⟩) n (l.length+1),?_,.inl (.of i n low l hi hb hl hlen),fun _=>rfl,fun j h=>h⟩
   unfold dH;rw[hu]
   have z6:Nat.beq 0 n=false:=by
    rw[<-Bool.not_eq_true,Nat.beq_eq];omega
   simp only[kN,kX,cJ,hle,if_true,he,z6]
   simp
section
variable {P:Program} {lib:ay} {all r:List Oper} {f:aR} {s:aq} {d:Option Tmp} {Q:aR->aq->Prop}
theorem BW {t e:TypeId}(hu:P.underlying t=some (.slice e))(cJ:bq P e=some 1){v:Value}{n:Nat}{l:List Value}(h:Room s v n l){lo:Nat}(nM:lo<=n){y:Value}{m:Nat}{new:List Value}(hy:aM s 1 y m new)(dE:new.all aO=true)
  (K:∀s',Room s' v n (over l lo (new.take (min m (n-lo))))->bm v s s' ->s'.next=s.next->er P lib all r f s d Q (some (.val (.int .i64 ((min m (n-lo):Nat):Int)) s'))):er P lib all r f s d Q (lZ (lY P s t (ez 1 v lo n) y)):=by
 obtain⟨y2,h1,h2⟩:=hy.pK (n-lo)
 have hl:=hy.length
 obtain⟨s',g1,g2,g3,g4⟩:=h.Zl hu cJ nM h1 (fun _=>h2) (by rw[List.length_take];omega) (by omega) (by
  rw[List.all_eq_true] at dE|-
  exact fun x hx=>dE x (List.mem_of_mem_take hx))
 rw[g1,dW]
 exact K s' g2 g3 g4
theorem Ds {t e:TypeId}(hu:P.underlying t=some (.slice e))(cJ:bq P e=some 1){v:Value}{n:Nat}{l:List Value}(h:Room s v n l){y:Value}{m:Nat}{new:List Value}(hy:aM s 1 y m new)(dE:new.all aO=true)
  (K:∀s',Room s' v n (over l 0 (new.take (min m n)))->bm v s s' ->s'.next=s.next->er P lib all r f s d Q (some (.val (.int .i64 ((min m n:Nat):Int)) s'))):er P lib all r f s d Q (lZ (lY P s t v y)):=by
 have:=BW (lib:=lib) (all:=all) (r:=r) (f:=f) (d:=d) (Q:=Q) hu cJ h (Nat.zero_le n) hy dE K
 rwa [Qt h] at this
end
theorem Runs.Tz {P:Program}{lib:ay}{g:FuncId}{p:Prim}(h:lib.at g=some p)(hf:wZ p){args:List Value}{s s' :aq}{v:Value}{Q:Value->aq->Prop}(hp:p args s=some (v,s'))(hq:Q v s'):Runs P lib g args s Q:=by
 intro hw
 obtain⟨_,_,_,hk⟩:=hf s s (fun _=>none) args v s' (cP.refl s) hw hp
 refine⟨v,s',⟨0,fun m _=> ?_⟩,hk,hq⟩
 simp only[fx,eG,h,hp]
theorem NL {P:Program}{t e:TypeId}{z:Nat}(hu:P.underlying t=some (.slice e))(cJ:bq P e=some z)(s:aq)(a:Option Addr)(n c:Nat):lY P s t (.slice a n c) (.slice none 0 0)=some (.int .i64 0,s):=by
 unfold lY
 simp only[hu,cJ,Cl.pK,Nat.zero_min]
end Go.Cl
namespace Go.Cl
def nV:Prim:=fun args s=>
 match args with
 |[.int .i64 (.ofNat n)]=>if Nat.ble n 4294967296 then aX s (List.replicate n (.chan none)) n 1 else none
 |_=>none
def iI:Prim:=fun args s=>
 match args with
 |[.string a,.string b]=>some (.int .i64 (Extern.BytealgCompare.cmp a b),s)
 |_=>none
end Go.Cl
namespace Go.Cl
open Go.RowKit
def U4 (P:Program)(g:FuncId)(e:Array Value->Sem Value):Prop:=
 ∃fn,P.funcs[g]?=some fn/\(fn.name== "runtime.NumGoroutine")=false/\fn.body.isNone=true/\Extern.findNext fn=none/\Extern.find fn=some e
def xO (P:Program)(e:Array Value->Sem Value)(p:Prim):Prop:=
 ∀(base:Nat) (S:St) (args:List Value) (v:Value) (s' :aq),SR base S->p args S.s=some (v,s')->∀args' :Array Value,eX S args args'.toList->
  ∃T v',(e args').run P S.w= .ok v' T.w/\T.s=s' /\VR T v v' /\Good base S T
theorem xO.ok {P:Program}{g:FuncId}{e:Array Value->Sem Value}{p:Prim}(Pre:Nat->World->Prop)(he:U4 P g e)(hf:wZ p)(h:xO P e p):Fm P Pre g p:=by
 intro base S s args v s' gF hs _ hp args' Da
 obtain⟨t',k1,k2,_⟩:=hf s S.s _ args v s' gF (gF.wf hs.wf) hp
 obtain⟨T,v',h1,h2,h3,h4⟩:=h base S args v t' hs k1 args' Da
 obtain⟨fn,e1,e2,e3,e4,e5⟩:=he
 refine .inr ⟨T,v',?_,by rw[h2];exact k2,h3,h4⟩
 rw[run_callFunc_extern e1 e2 e3 e4 e5,h1]
 rfl
theorem eX.Ji {S:St}{a:Value}{args:Array Value}(h:eX S [a] args.toList):∃a',args= #[a']/\VR S a a' :=by
 obtain⟨a',r,e,h1,h2⟩:=h.cons_inv
 rw[h2.ju] at e
 exact⟨a',by rw[<-Array.toList_inj,e],h1⟩
theorem eX.VS {S:St}{a b:Value}{args:Array Value}(h:eX S [a,b] args.toList):∃a' b',args= #[a',b']/\VR S a a' /\VR S b b' :=by
 obtain⟨a',r,e,h1,h2⟩:=h.cons_inv
 obtain⟨b',r2,e2,h3,h4⟩:=h2.cons_inv
 rw[h4.ju] at e2
 rw[e2] at e
 exact⟨a',b',by rw[<-Array.toList_inj,e],h1,h3⟩
theorem yV:∀(n t:Nat) (acc:Array Value),(∀i,i<acc.size->∃m,acc.toList.getD i undef= .int .u8 m)->
  (Extern.BytealgMakeNoZero.digits n t acc).size=acc.size+n/\∀i,i<acc.size+n->∃m,(Extern.BytealgMakeNoZero.digits n t acc).toList.getD i undef= .int .u8 m
 |0,_,acc,h=>⟨rfl,h⟩
 |n+1,t,acc,h=>by
  have:=yV n (t/256) (acc.push (.int .u8 (Int.ofNat (t%256)))) (fun i hi=>by
   by_cases X0:i<acc.size
   ·obtain⟨m,hm⟩:=h i X0
    refine⟨m,?_⟩
    rw[Array.toList_push,eJ _ _ _ (by simpa using X0)];exact hm
   ·have e:i=acc.size:=by simp at hi;omega
    refine⟨Int.ofNat (t%256),?_⟩
    rw[Array.toList_push,j5 _ _ _ (by simp;omega),e]
    simp)
  rw[Extern.BytealgMakeNoZero.digits]
  refine⟨by rw[this.1];simp;omega,fun i hi=>this.2 i (by simp;omega)⟩
theorem BX (n i:Nat)(v:Value)(h:i<n):(List.replicate n v).getD i undef=v:=by
 simp[List.getD_eq_getElem?_getD,h]
theorem uD:wZ nV:=by
 intro s s' X args v t h hw hp
 unfold nV at hp|-
 split at hp
 ·split at hp
  ·rename_i hc
   rw[if_pos hc]
   exact iu h hw hp
  ·cases hp
 ·cases hp
theorem Kg {P:Program}{ps:Array TypeId}{t e:TypeId}(ht:P.underlying t=some (.slice e)):xO P (Extern.BytealgMakeNoZero.makeNoZero ps #[t]) nV:=by
 intro base S args v s' hs hp args' Da
 unfold nV at hp
 split at hp
 case h_2=>cases hp
 rename_i n
 split at hp
 case isFalse=>cases hp
 rename_i hc
 simp only[Nat.ble_eq] at hc
 obtain⟨a',rfl,ha⟩:=Da.Ji
 cases ha
 have Wv:Extern.BytealgMakeNoZero.makeNoZero ps #[t] #[.int .i64 (Int.ofNat n)]=
   (do
    let .slice elem<-underlying t|stuck "bytealg.MakeNoZero: slice type expected"
    if(Int.ofNat n)<0||(Int.ofNat n)>2^48 then runtimePanic (.error "makeslice: len out of range")
    let cap<-choose (.appendCap (Int.ofNat n).toNat 0 elem)
    askRoom cap
    let bytes<-choose (.extern "internal/bytealg.MakeNoZero.bytes" 0)
    let a<-newRow elem (Extern.BytealgMakeNoZero.digits cap bytes #[])
    pure (.slice (some a) (Int.ofNat n).toNat cap)):=rfl
 obtain⟨lX,yg⟩:∃b:Nat,b=(Question.extern "internal/bytealg.MakeNoZero.bytes" 0).cut (S.w.tape (S.w.drawn+1) (.extern "internal/bytealg.MakeNoZero.bytes" 0)):=⟨_,rfl⟩
 obtain⟨d1,d2⟩:=yV (grownCap S.w n 0 e) lX #[] (fun i hi=>by simp at hi)
 have Lg:=grownCap_ge S.w n 0 e
 have Fb:∀(W:World) (k:Nat),(askRoom k).run P W= .ok () W:=fun W k=>by
  unfold askRoom
  split
  ·rfl
  ·rfl
 have gD:(Extern.BytealgMakeNoZero.makeNoZero ps #[t] #[.int .i64 (Int.ofNat n)]).run P S.w= .ok (.slice (some ⟨S.w.heap.size,0,none⟩) n (grownCap S.w n 0 e)) (S.w.drew.drew.alloc (.cells (Extern.BytealgMakeNoZero.digits (grownCap S.w n 0 e) lX #[]) e)):=by
  rw[Wv,yg]
  have h1:¬(n:Int)<0:=by omega
  have h2:¬(281474976710656:Int)<(n:Int):=by omega
  simp[run_underlying ht,h1,h2,Question.forced,newRow,grownCap,Fb]
 obtain⟨T,k1,k2,k3,k4⟩:=ru hs hp (Extern.BytealgMakeNoZero.digits (grownCap S.w n 0 e) lX #[]) e (0,0) (S.w.drew.drew.alloc (.cells (Extern.BytealgMakeNoZero.digits (grownCap S.w n 0 e) lX #[]) e)) (grownCap S.w n 0 e) ⟨rfl,rfl,rfl,rfl⟩ (.inl rfl)
  (by rw[List.length_replicate,d1];simp;omega) (fun p hp=>by
   rw[List.length_replicate] at hp
   obtain⟨m,hm⟩:=d2 p (by simp;omega)
   rw[BX _ _ _ hp,hm]
   exact .Yn m) (by omega) (by rw[d1];simp)
 exact⟨T,_,by rw[k2];exact gD,k1,k3,k4⟩
theorem uE:wZ iI:=by
 intro s s' X args v t h hw hp
 unfold iI at hp|-
 split at hp
 ·injection hp with hp;injection hp with e1 e2;subst e1;subst e2;exact⟨_,rfl,h,bL.refl hw⟩
 ·cases hp
theorem Kh {P:Program}:xO P Extern.BytealgCompare.compare iI:=by
 intro base S args v s' hs hp args' Da
 unfold iI at hp
 split at hp
 ·injection hp with hp;injection hp with e1 e2;subst e1;subst e2
  obtain⟨a',b',rfl,ha,hb⟩:=Da.VS
  cases ha;cases hb
  refine⟨S,_,?_,rfl,.int _ _,Good.refl hs⟩
  rename_i a b
  have Wv:Extern.BytealgCompare.compare #[.string a,.string b]=(do pure (goInt (Extern.BytealgCompare.cmp (<-Extern.Bytes.bytesOf (.string a)) (<-Extern.Bytes.bytesOf (.string b))))):=rfl
  rw[Wv]
  simp[Extern.Bytes.bytesOf,goInt]
 ·cases hp
theorem ln.cons {g:Nat}{p:Prim}{l:ay}(h:wZ p)(k:ln l):ln ((g,p)::l):=by
 intro q r hq
 simp only[ay.at] at hq
 split at hq
 ·obtain rfl:=Option.some.inj hq;exact h
 ·exact k q r hq
theorem oW.cons {P:Program}{Pre:Nat->World->Prop}{g:Nat}{p:Prim}{l:ay}(h:Fm P Pre g p)(k:oW P Pre l):oW P Pre ((g,p)::l):=by
 intro q r hq
 simp only[ay.at] at hq
 split at hq
 ·rename_i hc
  obtain rfl:=Option.some.inj hq
  obtain rfl:g=q:=Nat.eq_of_beq_eq_true hc
  exact h
 ·exact k q r hq
end Go.Cl
set_option linter.unusedSimpArgs false
set_option linter.unusedVariables false
set_option maxRecDepth 100000
namespace Go.Cl
open Go.RowKit Go.ChangeShapes Go.WideShapes
variable {P:Program}
theorem Runs.Ww {lib:ay}(hf:ln lib)(ho:oW P (fun _ _=>True) lib)(hp:zY P lib=true){g:FuncId}(hg:lib.at g=none){args:List Value}{S:St}{W:World}(hB:mh W S)(hr:Runs P lib g args S.s fun v _=>v= .bool true){args' :Array Value}(hv:eX S args args'.toList):
  Calls P g args' W fun e w' =>e= .returned (.bool true)/\Below W.heap.size W w' :=by
 obtain⟨v,s',⟨n,hn⟩,_,rfl⟩:=hr hB.sr.wf
 have hc:=Ft (Pre:=fun _ _=>True) (fun _ _ _ _ h=>h) hf ho hp n (g:=g) hg W.heap.size S S.s args _ s' (ig.refl _) hB.sr trivial (hn n (Nat.le_refl _)) args' hv
 rw[hB.w] at hc
 refine Calls.mono hc ?_
 rintro e w' ⟨T,v',_,rfl,rfl,hv,hg⟩
 cases hv
 refine⟨rfl,?_⟩
 have:=hg.below
 rw[hB.w] at this
 exact this
end Go.Cl
namespace Go.Proofs.YtdfjfncifneocaaGreat
open Go.Cl
theorem U5 {g:FuncId}{fn:Func}{e:Array Value->Sem Value}(h:Tryz.prog.funcs[g]?=some fn)(h1:(fn.name== "runtime.NumGoroutine")=false:=by kernel_rfl)(h2:fn.body.isNone=true:=by kernel_rfl)(h3:Extern.findNext fn=none:=by kernel_rfl)(h4:Extern.find fn=some e:=by kernel_rfl):U4 Tryz.prog g e:=⟨fn,h,h1,h2,h3,h4⟩
noncomputable abbrev cQ:ay:=
 (175,nV)::
 (224,iI)::
 []
theorem U6:ln cQ:=
 ln.cons uD<|
 ln.cons uE<|
 ln.nil
theorem Zm (Pre:Nat->World->Prop):oW Tryz.prog Pre cQ:=
 oW.cons (xO.ok _ (U5 Tryz.func175) (uD) (Kg (ps:= #[3]) (t:=22) (e:=5) Tryz.underlying22))<|
 oW.cons (xO.ok _ (U5 Tryz.func224) (uE) (Kh))<|
 oW.nil _ _
end Go.Proofs.YtdfjfncifneocaaGreat

set_option linter.unusedSimpArgs false
set_option linter.unusedVariables false
set_option maxRecDepth 100000
namespace Go.Cl
structure ky (s:aq) (vs:List Value) (L:List (List UInt8)):Prop where
 len:vs.length=L.length
 aH:∀k (h:k<L.length),aM s 1 (vs.getD k undef) (L[k]).length (ofBytes L[k])
theorem ky.nil (s:aq):ky s [] []:=⟨rfl,fun k h=>absurd h (Nat.not_lt_zero k)⟩
theorem ky.cons {s:aq}{v:Value}{a:List UInt8}{vs:List Value}{L:List (List UInt8)}(h:aM s 1 v a.length (ofBytes a))(k:ky s vs L):ky s (v::vs) (a::L):=by
 refine⟨by simp[k.len],fun j hj=> ?_⟩
 cases j with
 |zero=>exact h
 |succ j=>exact k.aH j (by simpa using hj)
theorem ky.keeps {s s' :aq}{vs:List Value}{L:List (List UInt8)}(h:ky s vs L)(k:ar s.next s s'):ky s' vs L:=⟨h.len,fun j hj=>(h.aH j hj).keeps k⟩
def Qu (s:aq)(l:List UInt8)(v:Value)(s' :aq):Prop:=aM s' 1 v l.length (ofBytes l)/\(0<l.length->Own s' 1 v l.length (ofBytes l))/\aN s.next v/\ar s.next s s'
theorem qk {L:List (List UInt8)}{i:Nat}(h:i<L.length):(L.take (i+1)).flatten=(L.take i).flatten++L[i]:=by
 rw[List.take_add_one,List.getElem?_eq_getElem h,List.flatten_append]
 simp only[Option.toList_some,List.flatten_cons,List.flatten_nil,List.append_nil]
theorem lP (L:List (List UInt8))(i:Nat):(L.take i).flatten.length<=L.flatten.length:=by
 have:L.flatten=(L.take i).flatten++(L.drop i).flatten:=by rw[<-List.flatten_append,List.take_append_drop]
 rw[this,List.length_append];omega
end Go.Cl
namespace Go.Proofs.YtdfjfncifneocaaGreat
open Go.Cl
theorem Ki {lib:ay}(h:lib.at 175=some nV)(s:aq)(n:Nat)(hn:n<=4294967296):
  Runs Tryz.prog lib 175 [.int .i64 (n:Nat)] s fun v s' =>Own s' 1 v n (List.replicate n (.chan none))/\aN s.next v/\ar s.next s s' :=by
 obtain⟨h1,h2⟩:=Own.new (s:=s) (cs:=List.replicate n (.chan none)) (n:=n) (z:=1) (by simp)
 refine Runs.Tz h uD (s' :=s.new (.dL ⟨List.replicate n (.chan none),1,true,1⟩)) ?_ ⟨h2,fun i hi=>by injection hi with hi;subst hi;exact Nat.le_refl _,ar.new s _⟩
 show(if Nat.ble n 4294967296 then aX s (List.replicate n (.chan none)) n 1 else none)=_
 rw[if_pos (by rw[Nat.ble_eq];exact hn),h1]
set_option maxHeartbeats 4000000 in
theorem Qv {lib:ay}(hl:lib.at 135=none)(hz:lib.at 175=some nV)(s:aq)(x:Value)(vs:List Value)(L:List (List UInt8))(hx:aM s 1 x L.length vs)(hp:ky s vs L)(I1:L.length<=4294967296)(hlen:L.flatten.length<=4294967296):
  Runs Tryz.prog lib 135 [x,.slice none 0 0] s (Qu s L.flatten):=by
 refine Runs.enter 92 Tryz.func135 rfl hl rfl rfl ?_
 intro f hn hf
 have h0:f.get 0=x:=hf 0
 have h1:f.get 1= .slice none 0 0:=hf 1
 clear hf
 by_cases c0:L.length=0
 ·obtain rfl:L=[]:=List.eq_nil_of_length_eq_zero c0
  have e:aU Tryz.prog s 22 0 []=aX s [] 0 1:=by unfold aU;rw[Tryz.underlying22];simp only[bh,gR];rfl
  simp-implicitDefEqProofs(disch:=omega)only[ai,ad,ag,Nat.reduceLT,Nat.reduceEqDiff,↓reduceIte,hn,h0,hx.aV Tryz.underlying137,List.length_nil,Int.natCast_zero,e]
  refine aQ (by rfl) ?_
  intro v s1 hv hF aA
  simp-implicitDefEqProofs(disch:=omega)only[ai,al,oneOf,Nat.reduceLT,↓reduceIte,hn,Tryz.results135]
  exact⟨hv.aH,fun _=>hv,hF,aA⟩
 have d0:¬((L.length:Nat):Int)=0:=by omega
 have LI:=hx.indexAddr (P:=Tryz.prog) (k:= .i64) (x:=(0:Int)) Tryz.underlying137 iY (by omega) (by omega)
 have pT:=hx.cU (P:=Tryz.prog) mV (k:=0) (by omega)
 have hp0:=hp.aH 0 (Nat.pos_of_ne_zero c0)
 rw[show(0:Int).toNat=0 from rfl] at LI
 by_cases c1:L.length=1
 ·have d1:((L.length:Nat):Int)=1:=by omega
  obtain⟨a,rfl⟩:∃a,L=[a]:=by
   match L,c1 with
   |[a],_=>exact⟨a,rfl⟩
  have hp0:aM s 1 (vs.getD 0 undef) a.length (ofBytes a):=hp0
  have cT:a.length<=4294967296:=by simpa using hlen
  simp-implicitDefEqProofs(disch:=omega)only[ai,ad,Nat.reduceLT,Nat.reduceEqDiff,↓reduceIte,hn,h0,hx.aV Tryz.underlying137,eq_false d0,eq_true d1,LI,pT]
  refine bG Tryz.underlying22 Tryz.underlying22 (.inl ⟨_,rfl⟩) bh gh gR rfl (.nil) hp0.src (by simp[br]) (by decide) (cX _) (by omega) (by omega) (base:=s.next) (aN.nil _) (Nat.le_refl _) ?_
  intro v s1 hv hF aA _ _
  simp-implicitDefEqProofs(disch:=omega)only[ai,al,oneOf,Nat.reduceLT,↓reduceIte,hn,Tryz.results135]
  rw[Nat.zero_add] at hv
  simp only[Qu,List.flatten_cons,List.flatten_nil,List.append_nil]
  exact⟨hv.aH,fun _=>hv,hF,aA⟩
 have d1:¬((L.length:Nat):Int)=1:=by omega
 have d2:¬(0:Int)<0:=by omega
 simp-implicitDefEqProofs(disch:=omega)only[ai,ad,Nat.reduceLT,Nat.reduceEqDiff,↓reduceIte,hn,h0,h1,hx.aV Tryz.underlying137,eq_false d0,eq_false d1,(aM.nil (s:=s) (z:=1)).aV Tryz.underlying22,Int.natCast_zero,eq_false d2]
 refine Comes.bC (fun z f s1=>∃i:Nat,z=L.length-i/\i<=L.length/\s1=s/\f.n=92/\f.get 0=x/\f.get 1= .slice none 0 0/\f.get 5= .int .i64 ((L.take i).flatten.length:Nat)/\f.get 42=x/\f.get 43= .int .i64 (L.length:Nat)/\f.get 44= .int .i64 (i:Nat))
  (fun z f s1=>z= .exit 0/\s1=s/\f.n=92/\f.get 0=x/\f.get 1= .slice none 0 0/\f.get 5= .int .i64 (L.flatten.length:Nat))
  ⟨0,rfl,by omega,rfl,by simp only[ae,hn],by simp only[aa,↓reduceIte,Nat.reduceEqDiff,h0],by simp only[aa,↓reduceIte,Nat.reduceEqDiff,h1],by simp only[aa,↓reduceIte,Nat.reduceEqDiff];rfl,by simp only[aa,↓reduceIte,Nat.reduceEqDiff],by simp only[aa,↓reduceIte,Nat.reduceEqDiff],by simp only[aa,↓reduceIte];rfl⟩ ?_ ?_
 ·clear hn h0 h1 f
  rintro Q hQ z f s1 ⟨i,rfl,hi,rfl,hn,h0,h1,h5,h42,h43,h44⟩
  by_cases aP:i<L.length
  ·have e1:(i:Int)<(L.length:Int):=by omega
   have XU:=hx.indexAddr (P:=Tryz.prog) (k:= .i64) (x:=(i:Int)) Tryz.underlying137 iY (by omega) (by omega)
   rw[Int.toNat_natCast] at XU
   have I4:=hx.cU (P:=Tryz.prog) mV aP
   have Gv:=hp.aH i aP
   have HN:=qk aP
   have Kj:=lP L (i+1)
   rw[HN,List.length_append] at Kj
   have e2:¬(9223372036854775807:Int)-((L.take i).flatten.length:Int)<((L[i]).length:Int):=by omega
   simp-implicitDefEqProofs(disch:=omega)only[ai,ad,Nat.reduceLT,Nat.reduceEqDiff,↓reduceIte,hn,h5,h42,h43,h44,eq_true e1,XU,I4,Gv.aV Tryz.underlying22,aD,eq_false e2]
   refine au (L.length-(i+1)) (by omega) ⟨i+1,rfl,by omega,rfl,by simp only[ae,hn],by simp only[aa,↓reduceIte,Nat.reduceEqDiff,h0],by simp only[aa,↓reduceIte,Nat.reduceEqDiff,h1],?_,by simp only[aa,↓reduceIte,Nat.reduceEqDiff,h42],by simp only[aa,↓reduceIte,Nat.reduceEqDiff,h43],by simp only[aa,↓reduceIte];rfl⟩
   simp only[aa,↓reduceIte,Nat.reduceEqDiff]
   rw[HN,List.length_append];rfl
  ·obtain rfl:i=L.length:=by omega
   have e1:¬((L.length:Nat):Int)<((L.length:Nat):Int):=by omega
   rw[List.take_length] at h5
   simp-implicitDefEqProofs(disch:=omega)only[ai,Nat.reduceLT,↓reduceIte,hn,h43,h44,eq_false e1]
   refine hQ _ _ _ ⟨rfl,rfl,by simp only[ae,hn],by simp only[aa,↓reduceIte,Nat.reduceEqDiff,h0],by simp only[aa,↓reduceIte,Nat.reduceEqDiff,h1],by simp only[aa,↓reduceIte,Nat.reduceEqDiff,h5]⟩
 clear hn h0 h1 f
 rintro _ f s1 ⟨rfl,I2,hn,h0,h1,h5⟩
 rw[I2];clear I2 s1
 obtain⟨N,hN⟩:∃N,N=L.flatten.length:=⟨_,rfl⟩
 rw[<-hN] at h5 hlen
 simp-implicitDefEqProofs(disch:=omega)only[ai,aj,ad,Nat.reduceLT,↓reduceIte,hn,h5]
 refine(Ki hz s N hlen).mono ?_
 rintro b0 s1 ⟨z6,hF0,bB⟩
 obtain⟨b,jv,hb,_,L0⟩:=z6.tight (P:=Tryz.prog) (k:= .i64) (k2:= .i64) Tryz.underlying22 bh
 have GB:aN s.next b:=fun j hj=>hF0 j (L0 j hj)
 have hP1:=hp.keeps bB
 have iU:=hx.keeps bB
 have nF:=iU.cU (P:=Tryz.prog) mV (k:=0) (by omega)
 have nD:=hP1.aH 0 (Nat.pos_of_ne_zero c0)
 simp-implicitDefEqProofs(disch:=omega)only[ai,ad,ah,Nat.reduceLT,Nat.reduceEqDiff,↓reduceIte,hn,h0,h5,jv,LI,nF]
 refine Ds Tryz.underlying22 bh hb nD (cX _) ?_
 intro s2 eR ac5 na
 have Zn:(L.take 1).flatten.length<=L.flatten.length:=lP L 1
 have TA:(L.take 1).flatten=L[0]:=by
  have:=qk (L:=L) (i:=0) (Nat.pos_of_ne_zero c0)
  simpa using this
 rw[TA] at Zn
 have hm:min (L[0]).length N=(L[0]).length:=by omega
 rw[hm,pZ,List.take_length] at eR
 have jK:Room s2 b N (ofBytes (L.take 1).flatten++(List.replicate N (Value.chan none)).drop (L[0]).length):=by
  rw[TA]
  have:=HR (a:=[]) (b:=ofBytes L[0]) (c:=List.replicate N (Value.chan none)) (off:=0) rfl
  rw[List.nil_append,List.nil_append,br] at this
  rw[<-this];exact eR
 have bD:ar s.next s s2:=bB.trans (ac5.keeps GB bB.next)
 clear eR hb z6 jv
 obtain⟨rest,U7⟩:∃r,r=(List.replicate N (Value.chan none)).drop (L[0]).length:=⟨_,rfl⟩
 rw[<-U7] at jK
 have kC:=hx.keeps bD
 have dA:=kC.cut (lo:=1) (hi:=L.length) (by omega) (Nat.le_refl _)
 rw[hm]
 simp-implicitDefEqProofs(disch:=omega)only[ai,ad,ah,Nat.reduceLT,Nat.reduceEqDiff,↓reduceIte,hn,h0,kC.fz Tryz.underlying137 iY,show(1:Int).toNat=1 from rfl,dA.aV Tryz.underlying137]
 refine Comes.eY (fun z f s3=>∃(i:Nat) (rest:List Value),z=L.length-1-i/\i<=L.length-1/\Room s3 b N (ofBytes (L.take (i+1)).flatten++rest)/\ar s.next s s3/\s2.next<=s3.next/\f.n=92/\f.get 1= .slice none 0 0/\f.get 8=b/\f.get 9= .int .i64 ((L.take (i+1)).flatten.length:Nat)/\f.get 70=ez 1 x 1 L.length/\f.get 71= .int .i64 ((L.length-1:Nat):Int)/\f.get 72= .int .i64 (i:Nat))
  ⟨0,rest,rfl,by omega,jK,bD,Nat.le_refl _,by simp only[ae,hn],by simp only[aa,↓reduceIte,Nat.reduceEqDiff,h1],by simp only[aa,↓reduceIte,Nat.reduceEqDiff],by simp only[aa,↓reduceIte,Nat.reduceEqDiff];rw[TA],by simp only[aa,↓reduceIte,Nat.reduceEqDiff],by simp only[aa,↓reduceIte,Nat.reduceEqDiff],by simp only[aa,↓reduceIte];rfl⟩ ?_
 clear hn h0 h1 h5 jK bD U7 rest Zn TA hm f
 rintro z f s3 ⟨i,rest,rfl,hi,Ah,cf,td,hn,h1,h8,h9,h70,h71,h72⟩
 have U8:=(hx.keeps cf).cut (lo:=1) (hi:=L.length) (by omega) (Nat.le_refl _)
 by_cases aP:i<L.length-1
 ·have e1:(i:Int)<((L.length-1:Nat):Int):=by omega
  have jz:i+1<L.length:=by omega
  have XU:=U8.indexAddr (P:=Tryz.prog) (k:= .i64) (x:=(i:Int)) Tryz.underlying137 iY (by omega) (by omega)
  rw[Int.toNat_natCast] at XU
  have I4:=U8.cU (P:=Tryz.prog) mV aP
  have Lg:(((vs.drop (1*1)).take ((L.length-1)*1))).getD i undef=vs.getD (i+1) undef:=by
   simp only[List.getD_eq_getElem?_getD]
   rw[List.getElem?_take_of_lt (by omega),List.getElem?_drop,show 1*1+i=i+1 by omega]
  rw[Lg] at I4
  have Gv:=(hp.keeps cf).aH (i+1) jz
  have HN:=qk jz
  have Kj:=lP L (i+1+1)
  rw[HN,List.length_append,<-hN] at Kj
  obtain⟨q,hq⟩:∃q,q=(L.take (i+1)).flatten:=⟨_,rfl⟩
  rw[<-hq] at Ah h9 HN Kj
  have I2:=Ah.slice (P:=Tryz.prog) (k:= .i64) (x:=((q.length:Nat):Int)) Tryz.underlying22 bh (by omega) (by omega)
  rw[Int.toNat_natCast] at I2
  have qN:∃a n c,ez 1 b q.length N= .slice a n c:=by unfold ez;split<;>exact⟨_,_,_,rfl⟩
  obtain⟨ca,cn,cc,tL⟩:=qN
  have Dt:lY Tryz.prog s3 22 (ez 1 b q.length N) (.slice none 0 0)=some (.int .i64 0,s3):=by rw[tL];exact NL Tryz.underlying22 bh _ _ _ _
  simp-implicitDefEqProofs(disch:=omega)only[ai,ad,ah,Nat.reduceLT,Nat.reduceEqDiff,↓reduceIte,hn,h1,h8,h9,h70,h71,h72,eq_true e1,XU,I4,I2,Dt,aD,Int.add_zero]
  refine BW Tryz.underlying22 bh Ah (by omega) Gv (cX _) ?_
  intro s4 VT ac7 lN
  have hm:min (L[i+1]).length (N-q.length)=(L[i+1]).length:=by omega
  rw[hm,pZ,List.take_length,HR (by rw[br]),<-aK,<-HN,br] at VT
  rw[hm]
  simp-implicitDefEqProofs(disch:=omega)only[ai,Nat.reduceLT,Nat.reduceEqDiff,↓reduceIte,hn,h72,aD]
  refine au (L.length-1-(i+1)) (by omega) ⟨i+1,_,rfl,by omega,VT,cf.trans (ac7.keeps GB cf.next),by omega,by simp only[ae,hn],by simp only[aa,↓reduceIte,Nat.reduceEqDiff,h1],by simp only[aa,↓reduceIte,Nat.reduceEqDiff,h8],?_,by simp only[aa,↓reduceIte,Nat.reduceEqDiff,h70],by simp only[aa,↓reduceIte,Nat.reduceEqDiff,h71],by simp only[aa,↓reduceIte];rfl⟩
  simp only[aa,↓reduceIte,Nat.reduceEqDiff]
  rw[HN,List.length_append];rfl
 ·obtain rfl:i=L.length-1:=by omega
  have e1:¬((L.length-1:Nat):Int)<((L.length-1:Nat):Int):=by omega
  simp-implicitDefEqProofs(disch:=omega)only[ai,Nat.reduceLT,Nat.reduceEqDiff,↓reduceIte,hn,h8,h71,h72,eq_false e1]
  simp-implicitDefEqProofs(disch:=omega)only[ai,al,oneOf,Nat.reduceLT,↓reduceIte,hn,Tryz.results135]
  have dS:L.take (L.length-1+1)=L:=by rw[List.take_of_length_le (by omega)]
  rw[dS] at Ah
  have hr:=Ah.aH.length
  rw[List.length_append,br,<-hN,Nat.mul_one] at hr
  obtain rfl:rest=[]:=List.eq_nil_of_length_eq_zero (by omega)
  rw[List.append_nil,hN] at Ah
  exact⟨Ah.aH,fun h=>Ah.own h,GB,cf⟩
end Go.Proofs.YtdfjfncifneocaaGreat
set_option linter.unusedSimpArgs false
set_option linter.unusedVariables false
set_option maxRecDepth 100000
namespace Go.Cl.Fx
open Go.Cl.Rw Go.Cl.Sto
def kG (l:List UInt8):List UInt8:=if(En l).length<=(fixed l).length then En l else fixed l
def NN (l:List UInt8):List UInt8:=[120,1]++(kG l++be 4 (yU l))
theorem BZ (l:List UInt8):(kG l).length<=(En l).length:=by
 unfold kG
 split
 ·exact Nat.le_refl _
 ·omega
theorem Own.B0 {s:aq}{z:Nat}{v:Value}{n:Nat}{l:List Value}(h:Own s z v n l):∃a n c,v= .slice a n c:=by cases h<;>exact⟨_,_,_,rfl⟩
theorem aM.B0 {s:aq}{z:Nat}{v:Value}{n:Nat}{l:List Value}(h:aM s z v n l):∃a n c,v= .slice a n c:=by cases h<;>exact⟨_,_,_,rfl⟩
theorem ac8 (P:Program)(t:TypeId)(k' :IntKind)(n:Nat){k:Nat}(h:k<32):du P .shr t (.int .u32 (n:Int)) (.int k' (k:Nat))=some (.int .u32 ((n/2^k:Nat):Int)):=by
 rw[sO P t .u32 _ _ k' (by omega)]
 have e:min ((k:Nat):Int).toNat IntKind.u32.bits=k:=by
  have:IntKind.u32.bits=32:=rfl
  rw[this,Int.toNat_natCast];omega
 rw[e,HK]
end Go.Cl.Fx
namespace Go.Proofs.YtdfjfncifneocaaGreat
open Go.Cl Go.Cl.Rw Go.Cl.Sto Go.Cl.Fx
theorem Zo:cE Tryz.prog 22=some (.slice none 0 0):=by kernel_rfl
theorem TB (s:aq)(a b c:Option Addr)(n1 n2 n3 c1 c2 c3:Nat):aU Tryz.prog s 137 3 [(0,.slice a n1 c1),(1,.slice b n2 c2),(2,.slice c n3 c3)]=aX s [.slice a n1 c1,.slice b n2 c2,.slice c n3 c3] 3 1:=by
 unfold aU;rw[Tryz.underlying137];simp only[iY,Zo];rfl
theorem TC (s:aq)(a:Option Addr)(n1 c1:Nat):aU Tryz.prog s 137 1 [(0,.slice a n1 c1)]=aX s [.slice a n1 c1] 1 1:=by
 unfold aU;rw[Tryz.underlying137];simp only[iY,Zo];rfl
set_option maxRecDepth 100000 in
set_option maxHeartbeats 4000000 in
theorem HS {lib:ay}(hl:lib.at 144=none)(s:aq)(x:Value)(l:List UInt8)(hx:aM s 1 x l.length (ofBytes l))(hlen:l.length<=1000000000):
  Runs Tryz.prog lib 144 [x] s fun v s' =>bU s v s' (En l):=by
 refine Runs.enter 40 Tryz.func144 rfl hl rfl rfl ?_
 intro f hn hf
 have h0:f.get 0=x:=hf 0
 clear hf
 have wT:blocks l.length<=200000:=by unfold blocks;omega
 simp-implicitDefEqProofs(disch:=omega)only[ai,Nat.reduceLT,↓reduceIte,hn]
 refine Comes.eY (fun q f s' =>∃(r P:List UInt8) (o w:Value),q=r.length/\P++En r=En l/\r.length<=l.length/\Own s' 1 o P.length (ofBytes P)/\aN s.next o/\(∀s2,ar s.next s s2->aM s2 1 w r.length (ofBytes r))/\ar s.next s s' /\f.n=40/\f.get 0=w/\f.get 3=o)
  ⟨l,[],.slice none 0 0,x,rfl,rfl,by omega,.nil,aN.nil _,fun s2 h2=>hx.keeps h2,ar.refl _ _,by simp only[ae,hn],by simp only[aa,↓reduceIte,Nat.reduceEqDiff,h0],by simp only[aa,↓reduceIte]⟩ ?_
 clear hn h0 f
 rintro q f s1 ⟨r,P,o,w,rfl,hP,nG,ho,Zk,OP,aA,hn,h0,h3⟩
 have hw:=OP s1 aA
 have uT:=jJ _ l (Nat.le_refl _)
 have hsr:=jJ _ r (Nat.le_refl _)
 have hPl:P.length+(En r).length=l.length+5*blocks l.length:=by rw[<-uT,<-hP,List.length_append]
 by_cases C2:r.length<=65535
 ·have e1:¬(65535:Int)<r.length:=by omega
  have Ws:r.length<4611686018427387904:=by omega
  simp-implicitDefEqProofs(disch:=omega)only[ai,ad,Nat.reduceLT,Nat.reduceEqDiff,↓reduceIte,hn,h0,h3,hw.aV Tryz.underlying22,e1]
  simp-implicitDefEqProofs(disch:=omega)only[ai,ag,Nat.reduceLT,Nat.reduceEqDiff,↓reduceIte,hn,bd Tryz.underlying3 Tryz.underlying5,b0,Tf,zI,b1,Te,b2,b3,FC Tryz.underlying22 bh gR]
  refine a9 Tryz.underlying22 bh gh gR rfl ho (by simp only[aa,↓reduceIte,Nat.reduceEqDiff]) (by decide) (by simp only[ae,hn];decide) (by simp only[ae,hn];decide) (by rfl) (by decide) rfl (by omega) (by omega) Zk aA.next ?_
  intro bs o2 s3 fK Ke cf _ _
  have gK:=aA.trans cf
  have zK:=OP s3 gK
  have dA:=zK.lL (lo:=0) (hi:=r.length) (by omega) (by omega)
  rw[List.drop_zero,Nat.sub_zero] at dA
  have zL:(r.take (r.length)).length=r.length:=by rw[List.length_take];omega
  rw[zL] at dA
  simp-implicitDefEqProofs(disch:=omega)only[ai,ad,ah,Nat.reduceLT,Nat.reduceEqDiff,↓reduceIte,hn,h0,zK.gw Tryz.underlying22 bh]
  refine bG Tryz.underlying22 Tryz.underlying22 (.inl ⟨_,rfl⟩) bh gh gR rfl fK dA.src (by rw[br,zL,Nat.mul_one]) (by decide) (cX _) (by omega) (by omega) Ke gK.next ?_
  intro o4 s4 zy Kf iH _ _
  have hh:[Value.int .u8 1,Value.int .u8 (((UInt8.ofNat (r.length)).toNat:Nat):Int),Value.int .u8 (((UInt8.ofNat (r.length/256)).toNat:Nat):Int),Value.int .u8 (((UInt8.ofNat (255-r.length%256)).toNat:Nat):Int),Value.int .u8 (((UInt8.ofNat (255-r.length/256%256)).toNat:Nat):Int)]=ofBytes (J0 (r.length) 1):=rfl
  rw[hh] at zy
  have iA:=gK.trans iH
  have xN:=OP s4 iA
  simp-implicitDefEqProofs(disch:=omega)only[ai,al,oneOf,ah,Nat.reduceLT,Nat.reduceEqDiff,↓reduceIte,hn,h0,xN.fz Tryz.underlying22 bh,Tryz.results144]
  refine⟨?_,Kf,iA⟩
  rw[<-hP,vP C2,List.length_append,List.length_append,jI,aK,aK,<-List.append_assoc,<-Nat.add_assoc]
  rw[List.take_length] at zy
  exact zy
 ·have e1:(65535:Int)<r.length:=by omega
  have e0:¬((65535:Int)=r.length):=by omega
  obtain⟨m,hm⟩:∃m:Nat,m=65535:=⟨_,rfl⟩
  have Ws:m<4611686018427387904:=by omega
  simp-implicitDefEqProofs(disch:=omega)only[ai,ad,Nat.reduceLT,Nat.reduceEqDiff,↓reduceIte,hn,h0,h3,hw.aV Tryz.underlying22,e1,eq_false e0]
  have en:(65535:Int)=(m:Int):=by omega
  simp-implicitDefEqProofs(disch:=omega)only[en]
  simp-implicitDefEqProofs(disch:=omega)only[ai,ag,Nat.reduceLT,Nat.reduceEqDiff,↓reduceIte,hn,bd Tryz.underlying3 Tryz.underlying5,b0,Tf,zI,b1,Te,b2,b3,FC Tryz.underlying22 bh gR]
  refine a9 Tryz.underlying22 bh gh gR rfl ho (by simp only[aa,↓reduceIte,Nat.reduceEqDiff]) (by decide) (by simp only[ae,hn];decide) (by simp only[ae,hn];decide) (by rfl) (by decide) rfl (by omega) (by omega) Zk aA.next ?_
  intro bs o2 s3 fK Ke cf _ _
  have gK:=aA.trans cf
  have zK:=OP s3 gK
  have dA:=zK.lL (lo:=0) (hi:=m) (by omega) (by omega)
  rw[List.drop_zero,Nat.sub_zero] at dA
  have zL:(r.take (m)).length=m:=by rw[List.length_take];omega
  rw[zL] at dA
  simp-implicitDefEqProofs(disch:=omega)only[ai,ad,ah,Nat.reduceLT,Nat.reduceEqDiff,↓reduceIte,hn,h0,zK.gw Tryz.underlying22 bh]
  refine bG Tryz.underlying22 Tryz.underlying22 (.inl ⟨_,rfl⟩) bh gh gR rfl fK dA.src (by rw[br,zL,Nat.mul_one]) (by decide) (cX _) (by omega) (by omega) Ke gK.next ?_
  intro o4 s4 zy Kf iH _ _
  have hh:[Value.int .u8 0,Value.int .u8 (((UInt8.ofNat (m)).toNat:Nat):Int),Value.int .u8 (((UInt8.ofNat (m/256)).toNat:Nat):Int),Value.int .u8 (((UInt8.ofNat (255-m%256)).toNat:Nat):Int),Value.int .u8 (((UInt8.ofNat (255-m/256%256)).toNat:Nat):Int)]=ofBytes (J0 (m) 0):=rfl
  rw[hh] at zy
  have iA:=gK.trans iH
  have xN:=OP s4 iA
  have nj:=fun s2 h2=>(OP s2 h2).lL (lo:=m) (hi:=r.length) (by omega) (by omega)
  have et:(r.drop m).take (r.length-m)=r.drop m:=List.take_of_length_le (by rw[List.length_drop];omega)
  rw[et] at nj
  have z01:¬(0:Int)=1:=by decide
  simp-implicitDefEqProofs(disch:=omega)only[ai,ah,Nat.reduceLT,Nat.reduceEqDiff,↓reduceIte,hn,h0,xN.fz Tryz.underlying22 bh,eq_false z01]
  refine au (r.drop m).length (by rw[List.length_drop];omega) ⟨r.drop m,P++(J0 m 0++r.take m),o4,ez 1 w m r.length,rfl,?_,by rw[List.length_drop];omega,?_,Kf,nj,iA,by simp only[ae,hn],by simp only[aa,↓reduceIte,Nat.reduceEqDiff],by simp only[aa,↓reduceIte,Nat.reduceEqDiff]⟩
  ·rw[<-hP,BL C2,<-hm,List.append_assoc]
  ·rw[aK,aK,List.length_append,List.length_append,jI,zL,<-List.append_assoc,<-Nat.add_assoc]
   exact zy
set_option maxHeartbeats 4000000 in
theorem Qw {lib:ay}(hl:lib.at 83=none)(xJ:lib.at 133=none)(tz:lib.at 171=none)(HM:lib.at 173=none)(ON:lib.at 202=none)(I5:lib.at 172=none)(hZ:lib.at 201=none)(kx:lib.at 170=none)(nd:lib.at 200=none)(SV:lib.at 138=none)(Dr:lib.at 36=none)
  (aA:lib.at 134=none) (SY:lib.at 174=none) (VY:lib.at 104=none) (hmo:lib.at 151=none) (hj:lib.at 135=none) (hz:lib.at 175=some nV)
  (s:aq) (x:Value) (l:List UInt8) (hx:aM s 1 x l.length (ofBytes l)) (hlen:l.length<=10000000):
  Runs Tryz.prog lib 83 [x] s fun v s' =>bU s v s' (NN l):=by
 refine Runs.enter 35 Tryz.func83 rfl hl rfl rfl ?_
 intro f hn hf
 have h0:f.get 0=x:=hf 0
 clear hf
 simp-implicitDefEqProofs(disch:=omega)only[ai,aj,ad,Nat.reduceLT,Nat.reduceEqDiff,↓reduceIte,hn,h0]
 refine(NF xJ tz HM ON I5 hZ kx nd SV Dr s x l hx hlen).mono ?_
 rintro a s1 ⟨hA,hAF,k1⟩
 simp-implicitDefEqProofs(disch:=omega)only[ai,aj,ad,Nat.reduceLT,Nat.reduceEqDiff,↓reduceIte,hn,h0]
 refine(Kd aA SY s1 x l (hx.keeps k1) (by omega)).mono ?_
 rintro b s2 ⟨hB,hBF,k2⟩
 have n1:=k1.next
 have n2:=k2.next
 have Nt:=hA.keeps k2
 have df:ar s.next s s2:=k1.trans (k2.weaken n1)
 have HN:=mu l
 have uT:=jJ _ l (Nat.le_refl _)
 have hbk:blocks l.length<=200000:=by unfold blocks;omega
 have mf:=BZ l
 simp-implicitDefEqProofs(disch:=omega)only[ai,ad,Nat.reduceLT,Nat.reduceEqDiff,↓reduceIte,hn,Nt.aH.aV Tryz.underlying22,hB.aH.aV Tryz.underlying22]
 refine BQ (fun f' s' =>s2=s' /\∃w:Value,aM s2 1 w (kG l).length (ofBytes (kG l))/\f'.n=35/\f'.get 0=x/\f'.get 3=w) ?_ ?_
 ·intro Q' NB
  by_cases c:(En l).length<=(fixed l).length
  ·simp-implicitDefEqProofs(disch:=omega)only[ai,Nat.reduceLT,Nat.reduceEqDiff,↓reduceIte,hn,eq_true c]
   exact NB _ _ ⟨rfl,b,by unfold kG;rw[if_pos c];exact hB.aH,by simp only[ae,hn],by simp only[aa,↓reduceIte,Nat.reduceEqDiff,h0],by simp only[aa,↓reduceIte]⟩
  ·simp-implicitDefEqProofs(disch:=omega)only[ai,eq_false c]
   exact NB _ _ ⟨rfl,a,by unfold kG;rw[if_neg c];exact Nt.aH,by simp only[ae,hn],by simp only[aa,↓reduceIte,Nat.reduceEqDiff,h0],by simp only[aa,↓reduceIte,Nat.reduceEqDiff]⟩
 clear hn h0 f
 rintro f _ ⟨rfl,w,hw,hn,h0,h3⟩
 have kC:=hx.keeps df
 obtain⟨xa,xn,xc,Uz⟩:=aM.B0 kC
 simp-implicitDefEqProofs(disch:=omega)only[ai,ag,Nat.reduceLT,↓reduceIte,hn,h0,Uz,TC]
 refine aQ rfl ?_
 intro y s3 hy iQ k3
 have n3:=k3.next
 rw[<-Uz] at hy
 simp-implicitDefEqProofs(disch:=omega)only[ai,aj,ad,Nat.reduceLT,↓reduceIte,hn]
 refine(NK VY hmo s3 y x l hy.aH (kC.keeps k3) (by omega)).mono ?_
 rintro _ s4 ⟨rfl,rfl⟩
 have xN:=hw.keeps k3
 obtain⟨wa,wn,wc,hwe⟩:=aM.B0 xN
 have Wx:∀(k:Nat),k<32->du Tryz.prog .shr 117 (.int .u32 ((yU l:Nat):Int)) (.int .u64 (k:Nat))=some (.int .u32 ((yU l/2^k:Nat):Int)):=fun k hk=>ac8 Tryz.prog 117 .u64 (yU l) hk
 have r24:=Wx 24 (by omega)
 have r16:=Wx 16 (by omega)
 have r8:=Wx 8 (by omega)
 have r24:du Tryz.prog .shr 117 (.int .u32 ((yU l:Nat):Int)) (.int .u64 24)=some (.int .u32 ((yU l/16777216:Nat):Int)):=r24
 have r16:du Tryz.prog .shr 117 (.int .u32 ((yU l:Nat):Int)) (.int .u64 16)=some (.int .u32 ((yU l/65536:Nat):Int)):=r16
 have r8:du Tryz.prog .shr 117 (.int .u32 ((yU l:Nat):Int)) (.int .u64 8)=some (.int .u32 ((yU l/256:Nat):Int)):=r8
 simp-implicitDefEqProofs(disch:=omega)only[ai,ag,Nat.reduceLT,↓reduceIte,hn,uw Tryz.underlying22 bh gR]
 refine aQ rfl ?_
 intro p1 s5 nD ahw k5
 have n5:=k5.next
 simp-implicitDefEqProofs(disch:=omega)only[ai,ag,Nat.reduceLT,Nat.reduceEqDiff,↓reduceIte,hn,h3,r24,r16,r8,bd Tryz.underlying117 Tryz.underlying5,b0,Wa Tryz.underlying22 bh gR]
 refine aQ rfl ?_
 intro p3 s6 hp3 ahx k6
 have n6:=k6.next
 obtain⟨a1,b1,c1,rfl⟩:=Own.B0 nD
 obtain⟨a3,b3,c3,rfl⟩:=Own.B0 hp3
 simp-implicitDefEqProofs(disch:=omega)only[ai,ag,Nat.reduceLT,Nat.reduceEqDiff,↓reduceIte,hn,hwe,TB]
 refine aQ rfl ?_
 intro y2 s7 pQ Zp k7
 have n7:=k7.next
 rw[<-hwe] at pQ
 have k47:ar s4.next s4 s7:=(k5.trans (k6.weaken n5)).trans (k7.weaken (by omega))
 simp-implicitDefEqProofs(disch:=omega)only[ai,aj,ad,Nat.reduceLT,↓reduceIte,hn]
 have hP:ky s7 [.slice a1 b1 c1,w,.slice a3 b3 c3] [[120,1],kG l,be 4 (yU l)]:=by
  refine ky.cons ?_ (ky.cons (xN.keeps k47) (ky.cons ?_ (ky.nil _)))
  ·exact(nD.keeps (k6.trans (k7.weaken n6))).aH
  ·rw[Tw];exact(hp3.keeps k7).aH
 have Kj:[[120,1],kG l,be 4 (yU l)].flatten=NN l:=by
  simp[NN]
 have hzz:(NN l).length=(kG l).length+6:=by unfold NN;simp[tg]
 refine(Qv hj hz s7 y2 [.slice a1 b1 c1,w,.slice a3 b3 c3] [[120,1],kG l,be 4 (yU l)] pQ.aH hP (by show 3<=4294967296;decide) (by rw[Kj,hzz];omega)).mono ?_
 rintro v s8 ⟨-,hv,hvF,k8⟩
 rw[Kj] at hv
 simp-implicitDefEqProofs(disch:=omega)only[ai,al,oneOf,Nat.reduceLT,↓reduceIte,hn,Tryz.results83]
 have Kk:ar s.next s s7:=(df.trans (k3.weaken (by omega))).trans (k47.weaken (by omega))
 exact⟨hv (by omega),fun i hi=>by have:=hvF i hi;have:=Kk.next;omega,Kk.trans (k8.weaken Kk.next)⟩
set_option maxHeartbeats 4000000 in
theorem NO {lib:ay}(hl:lib.at 94=none)(xJ:lib.at 143=none)(Qm:lib.at 164=none)(hco:lib.at 180=none)(wY:lib.at 181=none)(DO:lib.at 182=none)(hZ:lib.at 183=none)(hdc:lib.at 184=none)(kx:lib.at 179=none)(SV:lib.at 185=none)(Wp:lib.at 39=none)
  (aA:lib.at 144=none) (VY:lib.at 119=none) (hmo:lib.at 168=none) (hbg:lib.at 145=none)
  (s:aq) (x:Value) (l:List UInt8) (hx:aM s 1 x l.length (ofBytes l)) (hlen:l.length<=10000000):
  Runs Tryz.prog lib 94 [x] s fun v s' =>bU s v s' (NN l):=by
 refine Runs.enter 25 Tryz.func94 rfl hl rfl rfl ?_
 intro f hn hf
 have h0:f.get 0=x:=hf 0
 clear hf
 simp-implicitDefEqProofs(disch:=omega)only[ai,aj,ad,Nat.reduceLT,Nat.reduceEqDiff,↓reduceIte,hn,h0]
 refine(Kb xJ Qm hco wY DO hZ hdc kx SV Wp s x l hx (by omega)).mono ?_
 rintro a s1 ⟨hA,hAF,k1⟩
 simp-implicitDefEqProofs(disch:=omega)only[ai,aj,ad,Nat.reduceLT,Nat.reduceEqDiff,↓reduceIte,hn,h0]
 refine(HS aA s1 x l (hx.keeps k1) (by omega)).mono ?_
 rintro b s2 ⟨hB,hBF,k2⟩
 have n1:=k1.next
 have n2:=k2.next
 have Nt:=hA.keeps k2
 have df:ar s.next s s2:=k1.trans (k2.weaken n1)
 have HN:=mu l
 have uT:=jJ _ l (Nat.le_refl _)
 have hbk:blocks l.length<=200:=by unfold blocks;omega
 have mf:=BZ l
 simp-implicitDefEqProofs(disch:=omega)only[ai,ad,Nat.reduceLT,Nat.reduceEqDiff,↓reduceIte,hn,Nt.aH.aV Tryz.underlying22,hB.aH.aV Tryz.underlying22]
 refine BQ (fun f' s' =>s2=s' /\∃w:Value,aM s2 1 w (kG l).length (ofBytes (kG l))/\f'.n=25/\f'.get 0=x/\f'.get 3=w) ?_ ?_
 ·intro Q' NB
  by_cases c:(En l).length<=(fixed l).length
  ·simp-implicitDefEqProofs(disch:=omega)only[ai,Nat.reduceLT,Nat.reduceEqDiff,↓reduceIte,hn,eq_true c]
   exact NB _ _ ⟨rfl,b,by unfold kG;rw[if_pos c];exact hB.aH,by simp only[ae,hn],by simp only[aa,↓reduceIte,Nat.reduceEqDiff,h0],by simp only[aa,↓reduceIte]⟩
  ·simp-implicitDefEqProofs(disch:=omega)only[ai,eq_false c]
   exact NB _ _ ⟨rfl,a,by unfold kG;rw[if_neg c];exact Nt.aH,by simp only[ae,hn],by simp only[aa,↓reduceIte,Nat.reduceEqDiff,h0],by simp only[aa,↓reduceIte,Nat.reduceEqDiff]⟩
 clear hn h0 f
 rintro f _ ⟨rfl,w,hw,hn,h0,h3⟩
 simp-implicitDefEqProofs(disch:=omega)only[ai,ag,uw Tryz.underlying22 bh gR]
 refine aQ rfl ?_
 intro y s3 hy iQ k3
 have n3:=k3.next
 have zK:=hw.keeps k3
 simp-implicitDefEqProofs(disch:=omega)only[ai,ad,Nat.reduceLT,Nat.reduceEqDiff,↓reduceIte,hn,h3]
 refine bG Tryz.underlying22 Tryz.underlying22 (.inl ⟨_,rfl⟩) bh gh gR rfl hy zK.src (by rw[br,Nat.mul_one]) (by decide) (cX _) (by omega) (by omega) iQ n3 ?_
 intro y2 s4 pQ Zp k4 _ _
 have n4:=k4.next
 have FX:ar s.next s s4:=df.trans (((k3.trans k4)).weaken (by omega))
 simp-implicitDefEqProofs(disch:=omega)only[ai,aj,ad,Nat.reduceLT,Nat.reduceEqDiff,↓reduceIte,hn,h0]
 refine(Kc VY hmo s4 x l (hx.keeps FX) (by omega)).mono ?_
 rintro _ s5 ⟨rfl,rfl⟩
 have ahA:=Qq l
 simp-implicitDefEqProofs(disch:=omega)only[ai,aj,ad,Nat.reduceLT,↓reduceIte,hn,bd Tryz.underlying117 Tryz.underlying3,aD]
 refine(Qp hbg s5 (yU l) 4 (by decide) (by omega)).mono ?_
 rintro z s6 ⟨hz,NP,k6⟩
 have n6:=k6.next
 have wT:=tg 4 (yU l)
 have hy6:=pQ.keeps k6
 simp-implicitDefEqProofs(disch:=omega)only[ai,ad,Nat.reduceLT,Nat.reduceEqDiff,↓reduceIte,hn]
 refine bG Tryz.underlying22 Tryz.underlying22 (.inl ⟨_,rfl⟩) bh gh gR rfl hy6 hz.aH.src (by rw[br,wT]) (by decide) (cX _) (by omega) (by omega) Zp (by omega) ?_
 intro y3 s7 JY ade k7 _ _
 simp-implicitDefEqProofs(disch:=omega)only[ai,al,oneOf,Nat.reduceLT,↓reduceIte,hn,Tryz.results94]
 refine⟨?_,fun i hi=>by have:=ade i hi;have:=df.next;omega,((FX.trans (k6.weaken FX.next)).trans (k7.weaken (by have:=df.next;omega)))⟩
 unfold NN
 have e2:[Value.int .u8 120,Value.int .u8 1]=ofBytes [120,1]:=rfl
 rw[e2,wT,List.append_assoc] at JY
 rw[aK,aK]
 have e3:([120,1]++(kG l++be 4 (yU l)):List UInt8).length=2+(kG l).length+4:=by
  simp[tg];omega
 rw[e3]
 exact JY
end Go.Proofs.YtdfjfncifneocaaGreat
namespace Go.Cl
def xP (T:List (List UInt8×Int)):List (Value×Value):=T.map fun e=>(.string ⟨e.1.toArray⟩,.int .i64 e.2)
def kT (k:List UInt8):List (List UInt8×Int)->Option Int
 |[]=>none
 |e::T=>if k=e.1 then some e.2 else kT k T
theorem th {k:List UInt8}:∀{T:List (List UInt8×Int)},kT k T=none↔∀e∈T,k≠e.1
 |[]=>by simp[kT]
 |e::T=>by
  simp only[kT]
  by_cases h:k=e.1
  ·rw[if_pos h];simp[h]
  ·rw[if_neg h,th];simp[h]
structure jn (s:aq) (r:Nat) (T:List (List UInt8×Int)):Prop where
 lt:r<s.next
 map:s.dR r=some (xP T)
theorem jn.keeps {s s' :aq}{r:Nat}{T:List (List UInt8×Int)}(h:jn s r T)(k:ar s.next s s'):jn s' r T:=by
 refine⟨Nat.lt_of_lt_of_le h.lt k.next,?_⟩
 have:=h.map
 simp only[aq.dR,k.get r h.lt] at this|-
 exact this
theorem jn.turns {s s' :aq}{r:Nat}{T:List (List UInt8×Int)}{u:Value}(h:jn s r T)(k:bm u s s')(cD:aJ u≠some r):jn s' r T:=by
 refine⟨Nat.lt_of_lt_of_le h.lt k.next,?_⟩
 have:=h.map
 simp only[aq.dR,k.get r h.lt cD] at this|-
 exact this
section
variable {P:Program} {t kt et:TypeId}
theorem Es (hk:P.underlying kt=some .string)(a b:List UInt8):yd P kt (.string ⟨a.toArray⟩) (.string ⟨b.toArray⟩)=some (decide (a=b)):=by
 unfold yd;rw[hk]
 simp only
 congr 1
 by_cases h:a=b
 ·subst h;simp
 ·simp[h]
theorem Et (hk:P.underlying kt=some .string)(k:List UInt8):∀T:List (List UInt8×Int),zV P kt (.string ⟨k.toArray⟩) (xP T)=some ((kT k T).map fun v=> .int .i64 v)
 |[]=>rfl
 |e::T=>by
  show(match yd P kt (.string ⟨k.toArray⟩) (.string ⟨e.1.toArray⟩) with
   |some true=>some (some (Value.int .i64 e.2))
   |some false=>zV P kt (.string ⟨k.toArray⟩) (xP T)
   |none=>none)=_
  rw[Es hk]
  by_cases h:k=e.1
  ·simp[h,kT]
  ·simp only[h,decide_false,kT,if_false];exact Et hk k T
theorem HT (hk:P.underlying kt=some .string)(k:List UInt8)(v:Int):∀T:List (List UInt8×Int),kT k T=none->Jc P kt (.string ⟨k.toArray⟩) (.int .i64 v) (xP T)=some (xP (T++[(k,v)]))
 |[],_=>rfl
 |e::T,hn=>by
  simp only[kT] at hn
  have h:¬k=e.1:=fun q=>by rw[if_pos q] at hn;cases hn
  rw[if_neg h] at hn
  show(match yd P kt (.string ⟨k.toArray⟩) (.string ⟨e.1.toArray⟩) with
   |some true=>some ((Value.string ⟨e.1.toArray⟩,Value.int .i64 v)::xP T)
   |some false=>
    match Jc P kt (.string ⟨k.toArray⟩) (.int .i64 v) (xP T) with
    |some l=>some ((Value.string ⟨e.1.toArray⟩,Value.int .i64 e.2)::l)
    |none=>none
   |none=>none)=_
  rw[Es hk]
  simp only[h,decide_false]
  rw[HT hk k v T hn]
  rfl
theorem jn.lookup (hu:P.underlying t=some (.map kt et))(hk:P.underlying kt=some .string)(hz:cE P et=some (.int .i64 0)){s:aq}{r:Nat}{T:List (List UInt8×Int)}(h:jn s r T)(k:List UInt8):
  mi P s t (.map (some r)) (.string ⟨k.toArray⟩) true=some (.tuple #[.int .i64 ((kT k T).getD 0),.bool (kT k T).isSome]):=by
 unfold mi
 rw[hu]
 have rh:js P kt (.string ⟨k.toArray⟩)=true:=by unfold js;rw[hk]
 have hp:cH (.int .i64 0)=true:=rfl
 simp only[hz,rh,hp,if_true,h.map,Et hk]
 cases kT k T<;>rfl
theorem jn.len (hu:P.underlying t=some (.map kt et)){s:aq}{r:Nat}{T:List (List UInt8×Int)}(h:jn s r T):aV P s t (.map (some r))=some (.int .i64 T.length):=by
 unfold aV
 rw[hu]
 simp only[h.map]
 simp[xP]
theorem jn.update (hu:P.underlying t=some (.map kt et))(hk:P.underlying kt=some .string){s:aq}{r:Nat}{T:List (List UInt8×Int)}(h:jn s r T)(k:List UInt8)(v:Int)(hn:kT k T=none):
  ∃s',fX P s t (.map (some r)) (.string ⟨k.toArray⟩) (.int .i64 v)=some s' /\jn s' r (T++[(k,v)])/\s'.next=s.next/\∀j,j≠r->s'.heap.get j=s.heap.get j:=by
 have rh:js P kt (.string ⟨k.toArray⟩)=true:=by unfold js;rw[hk]
 refine⟨s.put r (.map (xP (T++[(k,v)]))),?_,⟨by simpa [aq.put] using h.lt,?_⟩,rfl,fun j hj=>aq.a8 _ _ _ _ (Ne.symm hj)⟩
 ·unfold fX
  rw[hu]
  simp only[h.map,rh,HT hk k v T hn]
 ·simp only[aq.dR,aq.put,Tr.bu _ _ _ _ (deep (by omega))]
end
section
variable {P:Program} {lib:ay} {all r:List Oper} {f:aR} {s:aq} {d:Option Tmp} {Q:aR->aq->Prop}
theorem zm {t kt et:TypeId}(hu:P.underlying t=some (.map kt et))(hk:P.underlying kt=some .string){q:Nat}{T:List (List UInt8×Int)}(h:jn s q T)(k:List UInt8)(v:Int)(hn:kT k T=none)
  (K:∀s',jn s' q (T++[(k,v)])->s'.next=s.next->(∀j,j≠q->s'.heap.get j=s.heap.get j)->er P lib all r f s d Q (some (.val undef s'))):er P lib all r f s d Q (CT (fX P s t (.map (some q)) (.string ⟨k.toArray⟩) (.int .i64 v))):=by
 obtain⟨s',h1,h2,h3,h4⟩:=h.update hu hk k v hn
 rw[h1,j9]
 exact K s' h2 h3 h4
end
end Go.Cl
