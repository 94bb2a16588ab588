import Derived.Test.YtdfjfncifneocaaGreatCosJ
import Derived.Test.YtdfjfncifneocaaGreatCutA
import Derived.Test.YtdfjfncifneocaaGreatMapS
import Derived.Test.YtdfjfncifneocaaGreatObjB
import Derived.Test.YtdfjfncifneocaaGreatStoP
set_option linter.unusedSimpArgs false
set_option linter.unusedVariables false
set_option maxRecDepth 100000
namespace Go.Cl
theorem dr.bc {F:Nat->Prop}{s s' :aq}{cs:List Value}{o:O}{i:Nat}(h:dr F s cs o)(h1:s'.next=s.next)(h2:∀q,q≠i->s'.heap.get q=s.heap.get q)(hF:¬F i):dr F s' cs o:=
 h.turns (u:= .pointer (some ⟨i,0,Option.none⟩)) (bm.bc h1 h2) (fun j hj e=>by
  have e:some i=some j:=e
  injection e with e;subst e;exact hF hj)
theorem dr.bare (F:Nat->Prop)(s:aq)(k n:Int):dr F s [.int .i64 k,.int .i64 n,.slice Option.none 0 0,.slice Option.none 0 0,.slice Option.none 0 0] (.mk k n [] [] []):=
 dr.whole .nil .nil .nil trivial trivial trivial aL.nil aL.nil
theorem Small.bare (k n:Int):Small (.mk k n [] [] []):= .mk (by simp) (by simp) (by simp) (fun e h=>by cases h) (fun e h=>by cases h) (fun e h=>by cases h)
theorem Small.none:Small O.none:=Small.bare 0 0
end Go.Cl
namespace Go.Proofs.YtdfjfncifneocaaGreat
open Go.Cl Go.Lib
structure TW (lib:ay):Prop where
 set:lib.at 139=none
 pair:lib.at 88=none
 sorted:lib.at 176=none
 c1:lib.at 204=none
 c2:lib.at 205=none
 del:lib.at 206=none
 idx:lib.at 203=none
 F9:lib.at 207=none
 ZX:lib.at 177=none
 cmp:lib.at 208=none
 adV:lib.at 219=none
 Tz:lib.at 224=some iI
 entries:lib.at 97=none
 copy:lib.at 98=none
 clone:lib.at 36=none
 W3:lib.at 85=none
 stream:lib.at 48=none
 get:lib.at 61=none
 int:lib.at 140=none
 nothing:lib.at 99=none
 arr:lib.at 89=none
 name:lib.at 86=none
theorem adW {lib:ay}(L:TW lib)(F:Nat->Prop)(s:aq)(cs:List Value)(o:O)(ho:dr F s cs o)(tz:Small o)(x:Value)(l:List (List UInt8×O))(lx:List Value)(hx:aM s 6 x l.length lx)(hL:aL cu 6 F s l lx)(Sl:l.length<=100000)(tF:∀e∈l,Small e.2):
  Runs Tryz.prog lib 139 [.agg cs.toArray,x] s (gz s (zo o l)):=
 TT L.set L.pair L.entries L.copy L.clone L.sorted L.c1 L.c2 L.del L.idx L.F9 L.ZX L.cmp L.adV L.Tz F s cs o ho tz x l lx hx hL Sl tF
theorem bO (k n:Int):dM Tryz.prog 26 [(0,.int .i64 k),(1,.int .i64 n)]=some (.agg #[.int .i64 k,.int .i64 n,.slice none 0 0,.slice none 0 0,.slice none 0 0]):=by
 unfold dM;rw[Tryz.underlying26]
 have hz:cE Tryz.prog 26=some (.agg #[.int .i64 0,.int .i64 0,.slice none 0 0,.slice none 0 0,.slice none 0 0]):=by kernel_rfl
 rw[hz]
 have ci:∀k n,(Value.int k n).cells= #[.int k n]:=fun _ _=>rfl
 simp[cG,wo,iY,wq,wv,cH,mI,iM,placeOf,fJ,setAt,ci]
theorem bO1 (k:Int):dM Tryz.prog 26 [(0,.int .i64 k)]=some (.agg #[.int .i64 k,.int .i64 0,.slice none 0 0,.slice none 0 0,.slice none 0 0]):=by
 unfold dM;rw[Tryz.underlying26]
 have hz:cE Tryz.prog 26=some (.agg #[.int .i64 0,.int .i64 0,.slice none 0 0,.slice none 0 0,.slice none 0 0]):=by kernel_rfl
 rw[hz]
 have ci:∀k n,(Value.int k n).cells= #[.int k n]:=fun _ _=>rfl
 simp[cG,wo,iY,wq,wv,cH,mI,iM,placeOf,fJ,setAt,ci]
theorem bO0:dM Tryz.prog 26 []=some (.agg #[.int .i64 0,.int .i64 0,.slice none 0 0,.slice none 0 0,.slice none 0 0]):=by kernel_rfl
theorem bO2 (k:Int){b:Value}(hb:b.cells.toList=[b]):dM Tryz.prog 26 [(0,.int .i64 k),(2,b)]=some (.agg #[.int .i64 k,.int .i64 0,b,.slice none 0 0,.slice none 0 0]):=by
 unfold dM;rw[Tryz.underlying26]
 have hz:cE Tryz.prog 26=some (.agg #[.int .i64 0,.int .i64 0,.slice none 0 0,.slice none 0 0,.slice none 0 0]):=by kernel_rfl
 rw[hz]
 have ci:∀k n,(Value.int k n).cells= #[.int k n]:=fun _ _=>rfl
 simp[cG,wo,iY,wq,wv,cH,mI,iM,placeOf,fJ,setAt,ci,hb]
theorem gz.put {s t t' :aq}{i:Nat}{F:Nat->Prop}{cs:List Value}{o:O}(h:dr F t cs o)(hF:∀j,F j->s.next<=j/\j≠i)(h1:t'.next=t.next)(h2:∀q,q≠i->t'.heap.get q=t.heap.get q)(hs:ar s.next s t)(hi:s.next<=i):gz s o (.agg cs.toArray) t' :=
 ⟨cs,rfl,(h.bc h1 h2 (fun q=>(hF i q).2 rfl)).mono (fun j hj=>(hF j hj).1),hs.trans ⟨by omega,fun j hj=>h2 j (by omega)⟩⟩
theorem av.dQ {s:aq}{i:Nat}{cs:List Value}(h:av s i cs)(hl:cs.length=5):aG Tryz.prog s 26 (.pointer (some ⟨i,0,some 6⟩))=some (.agg cs.toArray):=av.cY ua (by rw[hl];exact eO) h (by rw[hl])
theorem Q7 {lib:ay}(hl:lib.at 99=none)(s:aq):Runs Tryz.prog lib 99 [] s (gz s O.none):=by
 refine Runs.enter 2 Tryz.func99 rfl hl rfl rfl ?_
 intro f hn _
 simp-implicitDefEqProofs(disch:=omega)only[ai,↓reduceIte,zO,oQ]
 refine aw ?_
 intro s1 fa bB jb
 have il:cr.length+1=6:=rfl
 simp-implicitDefEqProofs(disch:=omega)only[ai,ag,Nat.reduceLT,Nat.reduceEqDiff,↓reduceIte,hn,il,bO0]
 refine aE eO (by decide) fa rfl rfl rfl rfl ?_
 intro s2 fm na HO
 simp-implicitDefEqProofs(disch:=omega)only[ai,al,oneOf,Nat.reduceLT,Nat.reduceEqDiff,↓reduceIte,hn,av.dQ fm rfl,aW,Tryz.results99]
 exact gz.put (F:=fun _=>False) (dr.none _ s1) (fun j hj=>hj.elim) na HO bB (Nat.le_refl _)
theorem zR {lib:ay}(hl:lib.at 140=none)(s:aq)(n:Int):Runs Tryz.prog lib 140 [.int .i64 n] s (gz s (.mk 2 n [] [] [])):=by
 refine Runs.enter 5 Tryz.func140 rfl hl rfl rfl ?_
 intro f hn hf
 have h0:f.get 0= .int .i64 n:=hf 0
 clear hf
 simp-implicitDefEqProofs(disch:=omega)only[ai,↓reduceIte,zO,oQ]
 refine aw ?_
 intro s1 fa bB jb
 have il:cr.length+1=6:=rfl
 simp-implicitDefEqProofs(disch:=omega)only[ai,ag,Nat.reduceLT,Nat.reduceEqDiff,↓reduceIte,hn,h0,il,bO]
 refine aE eO (by decide) fa rfl rfl rfl rfl ?_
 intro s2 fm na HO
 simp-implicitDefEqProofs(disch:=omega)only[ai,al,oneOf,Nat.reduceLT,Nat.reduceEqDiff,↓reduceIte,hn,av.dQ fm rfl,aW,Tryz.results140]
 exact gz.put (F:=fun _=>False) (dr.bare _ s1 2 n) (fun j hj=>hj.elim) na HO bB (Nat.le_refl _)
theorem Ip {lib:ay}(L:TW lib)(F:Nat->Prop)(s:aq)(x:Value)(l:List (List UInt8×O))(lx:List Value)(hx:aM s 6 x l.length lx)(hL:aL cu 6 F s l lx)(Sl:l.length<=100000)(tF:∀e∈l,Small e.2):
  Runs Tryz.prog lib 85 [x] s (gz s (.mk 7 0 [] [] (b6 [] l))):=by
 refine Runs.enter 6 Tryz.func85 rfl L.W3 rfl rfl ?_
 intro f hn hf
 have h0:f.get 0=x:=hf 0
 clear hf
 simp-implicitDefEqProofs(disch:=omega)only[ai,↓reduceIte,zO,oQ]
 refine aw ?_
 intro s1 fa bB jb
 have il:cr.length+1=6:=rfl
 simp-implicitDefEqProofs(disch:=omega)only[ai,aj,ad,ag,Nat.reduceLT,Nat.reduceEqDiff,↓reduceIte,hn,h0,il,bO1]
 refine(adW L F s1 _ _ (dr.bare F s1 7 0) (Small.bare 7 0) x l lx (hx.keeps bB) (hL.keeps bV bB) Sl tF).mono ?_
 rintro _ s2 ⟨jt,rfl,fK,bD⟩
 have mP:=fK.len
 simp-implicitDefEqProofs(disch:=omega)only[ai,Nat.reduceLT,Nat.reduceEqDiff,↓reduceIte,hn]
 refine aE eO (by decide) (fa.keeps bD) rfl rfl mP fK.ok ?_
 intro s3 nB tB qR
 simp-implicitDefEqProofs(disch:=omega)only[ai,al,oneOf,Nat.reduceLT,Nat.reduceEqDiff,↓reduceIte,hn,av.dQ nB mP,aW,Tryz.results85]
 exact gz.put fK (fun j hj=>⟨by omega,by omega⟩) tB qR (bB.trans (bD.weaken bB.next)) (Nat.le_refl _)
end Go.Proofs.YtdfjfncifneocaaGreat
namespace Go.Cl
end Go.Cl
namespace Go.Proofs.YtdfjfncifneocaaGreat
open Go.Cl Go.Lib
theorem Q8 {lib:ay}(hl:lib.at 86=none)(s:aq)(b:List UInt8)(hb:b.length<=4294967296):Runs Tryz.prog lib 86 [.string ⟨b.toArray⟩] s (gz s (.mk 5 0 b [] [])):=by
 refine Runs.enter 6 Tryz.func86 rfl hl rfl rfl ?_
 intro f hn hf
 have h0:f.get 0= .string ⟨b.toArray⟩:=hf 0
 clear hf
 simp-implicitDefEqProofs(disch:=omega)only[ai,↓reduceIte,zO,oQ]
 refine aw ?_
 intro s1 fa bB jb
 have il:cr.length+1=6:=rfl
 simp-implicitDefEqProofs(disch:=omega)only[ai,Nat.reduceLT,Nat.reduceEqDiff,↓reduceIte,hn,h0,il,xq (s:=s1) (a:=b) Tryz.underlying9 Tryz.underlying22 Tryz.underlying5]
 refine aQ (by simp[br]) ?_
 intro w s2 hw lF bD
 have dE:=hw.aH.aO
 simp-implicitDefEqProofs(disch:=omega)only[ai,ag,Nat.reduceLT,Nat.reduceEqDiff,↓reduceIte,hn,bO2 5 hw.aH.kg]
 refine aE eO (by decide) (fa.keeps bD) rfl rfl rfl (by simp only[List.all_cons,List.all_nil,dE];rfl) ?_
 intro s3 nB tB qR
 simp-implicitDefEqProofs(disch:=omega)only[ai,al,oneOf,Nat.reduceLT,Nat.reduceEqDiff,↓reduceIte,hn,av.dQ nB rfl,aW,Tryz.results86]
 exact gz.put (F:=fun j=>s1.next<=j) (cs:=[.int .i64 5,.int .i64 0,w,.slice none 0 0,.slice none 0 0]) (dr.whole hw.aH .nil .nil (dO.fresh lF) trivial trivial aL.nil aL.nil) (fun j hj=>⟨by omega,by omega⟩) tB qR (bB.trans (bD.weaken bB.next)) (Nat.le_refl _)
theorem Kw {lib:ay}(L:TW lib)(F:Nat->Prop)(s:aq)(y:Value)(b:List UInt8)(hy:aM s 1 y b.length (ofBytes b))(hb:b.length<=4294967296)(x:Value)(l:List (List UInt8×O))(lx:List Value)(hx:aM s 6 x l.length lx)(hL:aL cu 6 F s l lx)(Sl:l.length<=100000)(tF:∀e∈l,Small e.2):
  Runs Tryz.prog lib 48 [y,x] s (gz s (.mk 8 0 b [] (b6 [] l))):=by
 refine Runs.enter 13 Tryz.func48 rfl L.stream rfl rfl ?_
 intro f hn hf
 have h0:f.get 0=y:=hf 0
 have h1:f.get 1=x:=hf 1
 clear hf
 simp-implicitDefEqProofs(disch:=omega)only[ai,↓reduceIte,zO,oQ]
 refine aw ?_
 intro s1 fa bB jb
 have il:cr.length+1=6:=rfl
 simp-implicitDefEqProofs(disch:=omega)only[ai,aj,ad,Nat.reduceLT,Nat.reduceEqDiff,↓reduceIte,hn,h1,il]
 refine(Ip L F s1 x l lx (hx.keeps bB) (hL.keeps bV bB) Sl tF).mono ?_
 rintro _ s2 ⟨jt,rfl,fK,bD⟩
 obtain⟨bv,lv,dv,lc,dc,rfl,eR,oP,Gy,fb,fl,fd,rl,rd⟩:=fK.NU.parts
 simp-implicitDefEqProofs(disch:=omega)only[ai,Nat.reduceLT,↓reduceIte,hn,zO,oQ]
 refine aw ?_
 intro s3 nB cf tB
 simp-implicitDefEqProofs(disch:=omega)only[ai,Nat.reduceLT,Nat.reduceEqDiff,↓reduceIte,hn,il]
 refine aE eO (by decide) nB rfl rfl rfl fK.ok ?_
 intro s4 fU lN jc
 have fU:av s4 s2.next [.int .i64 7,.int .i64 0,bv,lv,dv]:=fU
 have Iq:ar s2.next s2 s4:=cf.trans ⟨by omega,fun j hj=>jc j (by omega)⟩
 have W4:ar s.next s s4:=(bB.trans (bD.weaken bB.next)).trans (Iq.weaken (by have:=bB.next;have:=bD.next;omega))
 simp-implicitDefEqProofs(disch:=omega)only[ai,aj,ad,Nat.reduceLT,Nat.reduceEqDiff,↓reduceIte,hn,h0]
 refine(EA L.clone s4 y b (hy.keeps W4) (by omega)).mono ?_
 rintro w s5 ⟨hw,lF,xW⟩
 have dE:=hw.aH.aO
 have Vl:=xW.next
 have adX:=Iq.next
 have kX:=bB.next
 have nH:=bD.next
 have adY:=fU.lt
 simp-implicitDefEqProofs(disch:=omega)only[ai,Nat.reduceLT,Nat.reduceEqDiff,↓reduceIte,hn,zn]
 refine kn cG (by decide) (fU.keeps xW) (off:=0) (c:=6) rfl (vs:=[.int .i64 8]) rfl rfl (by simp) rfl ?_
 intro s6 N5 ZY W5
 have N5:av s6 s2.next [.int .i64 8,.int .i64 0,bv,lv,dv]:=N5
 simp-implicitDefEqProofs(disch:=omega)only[ai,Nat.reduceLT,Nat.reduceEqDiff,↓reduceIte,hn,WB]
 refine kn iY (by decide) N5 (off:=2) (c:=6) rfl (vs:=[w]) hw.aH.kg rfl (by simp) (by simp[dE]) ?_
 intro s7 og kA jV
 have og:av s7 s2.next [.int .i64 8,.int .i64 0,w,lv,dv]:=og
 have sx:ar s2.next s2 s7:=(Iq.trans (xW.weaken Iq.next)).trans ⟨by omega,fun j hj=>by rw[jV j (by omega),W5 j (by omega)]⟩
 have Q9:ar s1.next s1 s7:=bD.trans (sx.weaken nH)
 have W6:Own s7 1 w b.length (ofBytes b):=(hw.bc ZY W5 (fun e=>by have:=lF _ e;omega)).bc kA jV (fun e=>by have:=lF _ e;omega)
 have hG:∀j,s1.next<=j/\j<s2.next->s1.next<=j:=fun j hj=>hj.1
 have lQ:dr (fun j=>s1.next<=j) s7 [.int .i64 8,.int .i64 0,w,lv,dv] (.mk 8 0 b [] (b6 [] l)):=dr.whole W6.aH (oP.keeps sx) (Gy.keeps sx) (dO.wk (fun j hj=>by have:=lF j hj;omega)) (fl.mono hG) (fd.mono hG) ((rl.mono bH hG).keeps bH sx) ((rd.mono bV hG).keeps bV sx)
 simp-implicitDefEqProofs(disch:=omega)only[ai,Nat.reduceLT,Nat.reduceEqDiff,↓reduceIte,hn,av.dQ og rfl]
 refine aE eO (by decide) (fa.keeps Q9) rfl rfl rfl lQ.ok ?_
 intro s8 yY uL qo
 simp-implicitDefEqProofs(disch:=omega)only[ai,al,oneOf,Nat.reduceLT,Nat.reduceEqDiff,↓reduceIte,hn,av.dQ yY rfl,aW,Tryz.results48]
 exact gz.put lQ (fun j hj=>⟨by omega,by omega⟩) uL qo (bB.trans (Q9.weaken kX)) (Nat.le_refl _)
end Go.Proofs.YtdfjfncifneocaaGreat
namespace Go.Cl
end Go.Cl
namespace Go.Proofs.YtdfjfncifneocaaGreat
open Go.Cl Go.Lib
set_option maxHeartbeats 4000000 in
theorem Gd {lib:ay}(hl:lib.at 89=none)(hZ:lib.at 98=none)(Dr:lib.at 36=none)(F:Nat->Prop)(s:aq)(x:Value)(l:List O)(lc:List Value)(hx:aM s 5 x l.length lc)(rl:aL dr 5 F s l lc)(Uw:l.length<=100000)(Vb:∀o∈l,Small o):
  Runs Tryz.prog lib 89 [x] s (gz s (.mk 6 0 [] l [])):=by
 refine Runs.enter 22 Tryz.func89 rfl hl rfl rfl ?_
 intro f hn hf
 have h0:f.get 0=x:=hf 0
 clear hf
 simp-implicitDefEqProofs(disch:=omega)only[ai,↓reduceIte,zO,oQ]
 refine aw ?_
 intro s1 fa bB jb
 have il:cr.length+1=6:=rfl
 simp-implicitDefEqProofs(disch:=omega)only[ai,ag,Nat.reduceLT,↓reduceIte,hn,il,bO1,zO,oQ]
 refine aw ?_
 intro s2 fm bD na
 simp-implicitDefEqProofs(disch:=omega)only[ai,Nat.reduceLT,Nat.reduceEqDiff,↓reduceIte,hn,il]
 refine aE eO (by decide) fm rfl rfl rfl rfl ?_
 intro s3 nB tB qR
 have nB:av s3 s1.next [.int .i64 6,.int .i64 0,.slice none 0 0,.slice none 0 0,.slice none 0 0]:=nB
 have Cq:ar s1.next s1 s3:=bD.trans ⟨by omega,fun j hj=>qR j (by omega)⟩
 have ij:ar s.next s s3:=bB.trans (Cq.weaken (by omega))
 have uJ:=fa.keeps Cq
 have U8:=hx.keeps ij
 have kX:=bB.next
 have ahU:=Cq.next
 have Kx:=nB.lt
 simp-implicitDefEqProofs(disch:=omega)only[ai,ad,Nat.reduceLT,Nat.reduceEqDiff,↓reduceIte,hn,h0,U8.aV Tryz.underlying23]
 obtain⟨FF,tE⟩:∃FF:Value->Nat->Prop,FF=fun v j=>s3.next<=j/\¬(fun _=>False) j/\aJ v≠some j:=⟨_,rfl⟩
 refine Comes.bC (fun z f t=>∃(i:Nat) (y:Value) (LC:List Value),z=l.length-i/\i<=l.length/\Own t 5 y i LC/\aL dr 5 (FF y) t (l.take i) LC/\aN s3.next y/\av t s1.next [.int .i64 6,.int .i64 0,.slice none 0 0,y,.slice none 0 0]/\ar s1.next s1 t/\s3.next<=t.next/\f.n=22/\f.get 2= .pointer (some ⟨s.next,0,some 6⟩)/\f.get 3= .pointer (some ⟨s1.next,0,some 6⟩)/\f.get 7=x/\f.get 8= .int .i64 (l.length:Nat)/\f.get 9= .int .i64 (i:Nat))
  (fun z f t=>z= .exit 0/\∃(y:Value) (LC:List Value),Own t 5 y l.length LC/\aL dr 5 (FF y) t l LC/\aN s3.next y/\av t s1.next [.int .i64 6,.int .i64 0,.slice none 0 0,y,.slice none 0 0]/\ar s1.next s1 t/\f.n=22/\f.get 2= .pointer (some ⟨s.next,0,some 6⟩)/\f.get 3= .pointer (some ⟨s1.next,0,some 6⟩))
  ⟨0,.slice none 0 0,[],rfl,by omega,.nil,by rw[List.take_zero];exact aL.nil,aN.nil _,nB,Cq,Nat.le_refl _,by simp only[ae,hn],by simp only[aa,↓reduceIte,Nat.reduceEqDiff],by simp only[aa,↓reduceIte,Nat.reduceEqDiff],by simp only[aa,↓reduceIte,Nat.reduceEqDiff],by simp only[aa,↓reduceIte,Nat.reduceEqDiff],by simp only[aa,↓reduceIte];rfl⟩ ?_ ?_
 ·clear hn h0 f
  rintro Q hQ z f s6 ⟨i,y,LC,rfl,hi,hy,hR,iQ,fv,dF,F3,hn,h2,h3,h7,h8,h9⟩
  have Vm:ar s.next s s6:=bB.trans (dF.weaken kX)
  have nK:=hx.keeps Vm
  by_cases aP:i<l.length
  rotate_left
  ·obtain rfl:i=l.length:=by omega
   rw[List.take_length] at hR
   have d1:¬((l.length:Nat):Int)<((l.length:Nat):Int):=by omega
   simp-implicitDefEqProofs(disch:=omega)only[ai,Nat.reduceLT,↓reduceIte,hn,h8,h9,eq_false d1]
   exact hQ _ _ _ ⟨rfl,y,LC,hy,hR,iQ,fv,dF,by simp only[ae,hn],by simp only[aa,↓reduceIte,Nat.reduceEqDiff,h2],by simp only[aa,↓reduceIte,Nat.reduceEqDiff,h3]⟩
  have pQ:aJ y≠some s1.next:=fun e=>by have:=iQ _ e;omega
  have d1:(i:Int)<(l.length:Int):=by omega
  have dI:=nK.indexAddr (P:=Tryz.prog) (k:= .i64) (x:=(i:Int)) Tryz.underlying23 eO (by omega) (by omega)
  rw[Int.toNat_natCast] at dI
  have fM:=nK.eF (P:=Tryz.prog) ua eO aP
  have oL:=(rl.row i aP).keeps Vm
  obtain⟨xs,qM⟩:∃xs,xs=(lc.drop (i*5)).take 5:=⟨_,rfl⟩
  rw[<-qM] at fM oL
  have u7:=oL.len
  simp-implicitDefEqProofs(disch:=omega)only[ai,Nat.reduceLT,Nat.reduceEqDiff,↓reduceIte,hn,h7,h8,h9,eq_true d1,dI,fM,zO,oQ]
  refine aw ?_
  intro s7 og fH kA
  simp-implicitDefEqProofs(disch:=omega)only[ai,Nat.reduceLT,Nat.reduceEqDiff,↓reduceIte,hn,il]
  refine aE eO (by decide) og rfl rfl u7 oL.ok ?_
  intro s8 yY uL qo
  have yY:av s8 s6.next xs:=yY
  have iJ:ar s6.next s6 s8:=fH.trans ⟨by omega,fun j hj=>qo j (by omega)⟩
  have fv:=fv.keeps iJ
  have hy:=hy.keeps iJ
  have hR:=hR.keeps bH iJ
  have oL:=oL.keeps iJ
  simp-implicitDefEqProofs(disch:=omega)only[ai]
  obtain⟨A,hA⟩:∃A:Nat->Bool,A=fun j=>decide (j<s8.next):=⟨_,rfl⟩
  have ef:∀j,A j=true->j<s8.next:=by
   intro j h
   rw[hA] at h
   exact of_decide_eq_true h
  have gW:∀j,j<s8.next->A j=true:=fun j h=>by rw[hA];exact decide_eq_true h
  refine LB.cF.dy A ef 1 1 (by kernel_rfl) (by kernel_rfl) ?_
  have db:=ar.spare s8 1
  have F1:(spare s8 1).next=s8.next+1:=bT _ _
  have nZ:∀k,LA.dB A (some (.pointer (some ⟨s1.next,k,some 6⟩)))=true:=fun k=>LA.bY (A:=A) (i:=s1.next) (gW _ fv.lt)
  have ub:∀k,LA.dB A (some (.pointer (some ⟨s6.next,k,some 6⟩)))=true:=fun k=>LA.bY (A:=A) (i:=s6.next) (gW _ yY.lt)
  have l8:aG Tryz.prog (spare s8 1) 23 (.pointer (some ⟨s1.next,3,some 6⟩))=some y:=(fv.keeps db).load wu (off:=3) (c:=6) rfl (by simp)
  have l9:aG Tryz.prog (spare s8 1) 26 (.pointer (some ⟨s6.next,0,some 6⟩))=some (.agg xs.toArray):=av.cY ua (by rw[u7];exact eO) (yY.keeps db) (by rw[u7])
  have oL:=oL.keeps db
  simp-implicitDefEqProofs(disch:=omega)only[ai,aj,bn,bp,Nat.sub_self,ad,ag,Nat.reduceLT,Nat.reduceEqDiff,↓reduceIte,hn,h3,Ex,nZ,ub,l8,l9,hy.self,oL.self]
  refine(QS hZ Dr _ l[i] (Nat.le_refl _) F (spare s8 1) _ oL (Vb _ (List.getElem_mem aP))).mono ?_
  intro v9 s9 h9'
  obtain⟨xU,rfl,lQ,nv⟩:=h9'.is
  have Zr:=nv.next
  refine⟨fun _=>LA.ar.lM ef (nv.weaken (by omega)),?_⟩
  have uW:=lQ.len
  simp-implicitDefEqProofs(disch:=omega)only[dY (cs:=xU.toArray) Tryz.underlying23 eO zO oQ rfl uW (by decide)]
  refine LB.bF (base:=s8.next) uW (by omega) (Nat.le_refl _) ?_
  intro bs sa pS fc QO uM sq
  have ie:ar s8.next s8 sa:=(db.trans (nv.weaken (by omega))).trans QO
  have AG:=ie.next
  have CQ:dr (FF y) sa xU l[i]:=by
   refine(lQ.turns (u:= .pointer (some ⟨s8.next,0,none⟩)) (bm.bc uM sq) (fun j hj e=> ?_)).mono (fun j hj=> ?_)
   ·have e:some s8.next=some j:=e
    injection e with e;omega
   ·rw[tE];exact⟨by omega,fun h=>h,fun e=>by have:=hy.jh _ e;omega⟩
  simp-implicitDefEqProofs(disch:=omega)only[ai,bp,ad,Nat.reduceLT,Nat.reduceEqDiff,↓reduceIte,hn]
  refine LB.cZ Tryz.underlying23 Tryz.underlying23 (.inl ⟨_,rfl⟩) eO WA zO rfl (hy.keeps ie) pS.aH.src uW (by decide) CQ.ok (by omega) (by omega) (base:=s3.next) iQ (by omega) (fun h=>absurd rfl h) (fun j hj=>by have:=ef j hj;omega) ?_
  intro y' sb WL Vf oM nJ
  have PN:=oM.next
  have H6:=hR.keeps bH ie
  rw[tE] at H6 CQ
  have F4:=H6.grow bH uW CQ oM nJ
  rw[show(fun j=>s3.next<=j/\¬(fun _=>False) j/\aJ y' ≠some j)=FF y' by rw[tE]] at F4
  have WN:aJ y' ≠some s1.next:=fun e=>by have:=Vf _ e;omega
  simp-implicitDefEqProofs(disch:=omega)only[ai,bn,bp,Nat.reduceSub,Nat.reduceLT,Nat.reduceEqDiff,↓reduceIte,hn,h3,Ex]
  refine LB.dX wq (by decide) ((fv.keeps ie).turns oM pQ) (off:=3) (c:=6) rfl (vs:=[y']) WL.aH.kg rfl (by simp) (by simp[WL.aH.aO]) (fun h=>absurd rfl h) ?_
  intro sc uj wB sw
  have uj:av sc s1.next [.int .i64 6,.int .i64 0,.slice none 0 0,y',.slice none 0 0]:=uj
  have X7:bm (.pointer (some ⟨s1.next,0,none⟩)) sb sc:=bm.bc wB sw
  have N1:∀j,FF y' j->aJ (.pointer (some ⟨s1.next,0,none⟩))≠some j:=fun j hj e=>by
   have e:some s1.next=some j:=e
   injection e with e
   rw[tE] at hj;have:=hj.1;omega
  simp-implicitDefEqProofs(disch:=omega)only[ai,bp,Nat.reduceSub,Nat.reduceLT,Nat.reduceEqDiff,↓reduceIte,hn,h9,aD]
  have adZ:=dF.next
  refine au (l.length-(i+1)) (by omega) ⟨i+1,y',LC++xU,rfl,by omega,WL.bc wB sw WN,?_,Vf,uj,?_,by omega,by simp only[ae,hn],by simp only[aa,↓reduceIte,Nat.reduceEqDiff,h2],by simp only[aa,↓reduceIte,Nat.reduceEqDiff,h3],by simp only[aa,↓reduceIte,Nat.reduceEqDiff,h7],by simp only[aa,↓reduceIte,Nat.reduceEqDiff,h8],by simp only[aa,↓reduceIte];rfl⟩
  ·rw[List.take_add_one,List.getElem?_eq_getElem aP]
   exact F4.turns bH X7 N1
  ·exact(((dF.trans (iJ.weaken adZ)).trans (ie.weaken (by have:=iJ.next;omega))).trans ((oM.keeps iQ (by omega)).weaken (by omega))).trans ⟨by omega,fun j hj=>sw j (by omega)⟩
 clear hn h0 f
 rintro z f t ⟨rfl,y,LC,hy,hR,iQ,fv,aA,hn,h2,h3⟩
 have Cp:dr (fun j=>s3.next<=j) t [.int .i64 6,.int .i64 0,.slice none 0 0,y,.slice none 0 0] (.mk 6 0 [] l []):=dr.whole .nil hy.aH .nil trivial (dO.fresh iQ) trivial (hR.mono bH (fun j hj=>by rw[tE] at hj;exact hj.1)) aL.nil
 simp-implicitDefEqProofs(disch:=omega)only[ai,Nat.reduceLT,Nat.reduceEqDiff,↓reduceIte,hn,h2,h3,av.dQ fv rfl]
 refine aE eO (by decide) (fa.keeps aA) rfl rfl rfl Cp.ok ?_
 intro s7 og kA jV
 simp-implicitDefEqProofs(disch:=omega)only[ai,al,oneOf,Nat.reduceLT,Nat.reduceEqDiff,↓reduceIte,hn,h2,av.dQ og rfl,aW,Tryz.results89]
 exact gz.put Cp (fun j hj=>⟨by omega,by omega⟩) kA jV (bB.trans (aA.weaken kX)) (Nat.le_refl _)
end Go.Proofs.YtdfjfncifneocaaGreat
namespace Go.Cl.Ch
open Go.Cl.Pr Go.Cl.Hx Go.Cl.B85
structure Lk where
 p:Int
 co:Int
 cl:Int
 name:List UInt8
 early:Int
def Lk.cells (l:Lk):List Value:=[.int .i64 l.p,.int .i64 l.co,.int .i64 l.cl,.string ⟨l.name.toArray⟩,.int .i64 l.early]
def kD (L:List Lk):List Value:=(L.map Lk.cells).flatten
theorem oO {L:List Lk}{i:Nat}(h:i<L.length):((kD L).drop (i*5)).take 5=L[i].cells:=by
 induction L generalizing i with
 |nil=>simp at h
 |cons l L ih=>
  cases i with
  |zero=>simp[kD,Lk.cells]
  |succ i=>
   have:=ih (i:=i) (by simpa using h)
   simp only[kD,List.map_cons,List.flatten_cons,List.getElem_cons_succ] at this|-
   rw[show(i+1)*5=l.cells.length+i*5 by simp[Lk.cells];omega,<-List.drop_drop,List.drop_left]
   exact this
theorem Ra (L:List Lk):(kD L).all aO=true:=by
 induction L with
 |nil=>rfl
 |cons l L ih=>
  rw[show kD (l::L)=l.cells++kD L from rfl,List.all_append,ih]
  rfl
theorem Ky (L M:List Lk):kD (L++M)=kD L++kD M:=by simp[kD]
theorem lG {L:List Lk}{i:Nat}(h:i<L.length)(j:Nat)(hj:j<5):(kD L).getD (i*5+j) undef=L[i].cells.getD j undef:=by
 have h1:=oO h
 rw[<-h1,List.getD_eq_getElem?_getD,List.getD_eq_getElem?_getD,List.getElem?_take_of_lt hj,List.getElem?_drop]
def kU:List UInt8:=[70,108,97,116,101,68,101,99,111,100,101]
def N7:List UInt8:=[76,90,87,68,101,99,111,100,101]
def xX:List UInt8:=[65,83,67,73,73,72,101,120,68,101,99,111,100,101]
def N8:List UInt8:=[65,83,67,73,73,56,53,68,101,99,111,100,101]
def xY:List UInt8:=[82,117,110,76,101,110,103,116,104,68,101,99,111,100,101]
def zt:List (List UInt8):=[kU,N7,xX,N8,xY]
def dp (l:Lk):Lk:=if l.p=0/\l.co=0/\l.cl=0 then {l with p:=1,co:=1,cl:=1} else l
def Sn (l:Lk):Prop:=l.name∈zt/\qO l.p l.co l.cl
instance (l:Lk):Decidable (Sn l):=by unfold Sn;infer_instance
def sB (l:Lk)(b:List UInt8):List UInt8×Int:=
 if l.name=xX then(hex b,0) else if l.name=N8 then(GD b,0) else if l.name=xY then(Runs.encode b,0)
 else if(fE l.p l.co l.cl b).2≠0 then([],(fE l.p l.co l.cl b).2) else if l.name=kU then(Fx.NN (fE l.p l.co l.cl b).1,0) else(Lz.GC (fE l.p l.co l.cl b).1,0)
def eD:List Lk->List UInt8->List UInt8×Int
 |[],b=>(b,0)
 |l::r,b=>if(eD r b).2≠0 then([],(eD r b).2) else sB l (eD r b).1
end Go.Cl.Ch
set_option linter.unusedSimpArgs false
set_option linter.unusedVariables false
set_option maxRecDepth 100000
namespace Go.Cl.Ch
end Go.Cl.Ch
namespace Go.Proofs.YtdfjfncifneocaaGreat
open Go.Cl Go.Cl.Pr Go.Cl.Ch
abbrev kV (l:Lk):Value:= .agg l.cells.toArray
theorem oh:bq Tryz.prog 58=some 5:=by kernel_rfl
theorem Me:cw Tryz.prog 58=some true:=by kernel_rfl
theorem Ir (i o c:Nat):az Tryz.prog 58 (.pointer (some ⟨i,o,some c⟩)) 0=some (.pointer (some ⟨i,o+0,some c⟩)):=by
 unfold az;rw[Tryz.underlying58];simp[vK]
theorem Is (i o c:Nat):az Tryz.prog 58 (.pointer (some ⟨i,o,some c⟩)) 1=some (.pointer (some ⟨i,o+3,some c⟩)):=by
 unfold az;rw[Tryz.underlying58];simp[Br]
theorem ZZ:cE Tryz.prog 9=some (.string ⟨#[]⟩):=by kernel_rfl
theorem N9 (s:aq)(l:Lk):Runs Tryz.prog cQ 35 [kV l] s (BF s (l.name∈zt)):=by
 refine Runs.enter 7 Tryz.func35 rfl rfl rfl rfl ?_
 intro f hn hf
 have h0:f.get 0=kV l:=hf 0
 clear hf
 simp-implicitDefEqProofs(disch:=omega)only[ai,Nat.reduceLT,↓reduceIte,hn,h0]
 refine aw ?_
 intro s1 ht aA uS
 have ht:av s1 s.next l.cells:=ht
 have hd:l.cells.length+1=6:=rfl
 have TX:aU Tryz.prog s1 27 5 [(0,.string ⟨kU.toArray⟩),(1,.string ⟨N7.toArray⟩),(2,.string ⟨xX.toArray⟩),(3,.string ⟨N8.toArray⟩),(4,.string ⟨xY.toArray⟩)]=aX s1 (PX zt) 5 1:=LL Tryz.underlying27 Br ZZ rfl ⟨_,rfl⟩ rfl rfl rfl rfl rfl
 unfold kU N7 xX N8 xY at TX
 simp-implicitDefEqProofs(disch:=omega)only[ai,ag,Nat.reduceLT,↓reduceIte,hn,hd,TX]
 refine aQ (by rfl) ?_
 intro x s2 hx hF bD
 have fm:=ht.keeps bD
 have p3:aG Tryz.prog s2 9 (.pointer (some ⟨s.next,3,some 6⟩))=some (.string ⟨l.name.toArray⟩):=fm.load mW (off:=3) (c:=6) rfl (by simp[Lk.cells])
 simp-implicitDefEqProofs(disch:=omega)only[ai,aj,ad,Nat.reduceLT,Nat.reduceEqDiff,↓reduceIte,hn,Is,p3]
 refine(Di (lib:=cQ) rfl rfl s2 x l.name zt hx.aH (by decide)).mono ?_
 rintro _ s3 ⟨rfl,rfl⟩
 simp-implicitDefEqProofs(disch:=omega)only[ai,al,oneOf,Nat.reduceLT,↓reduceIte,hn,Tryz.results35]
 exact⟨rfl,aA.trans (bD.weaken aA.next)⟩
theorem Oa (s:aq):Runs Tryz.prog cQ 45 [] s fun v s' =>v=i3 1 1 1/\ar s.next s s' :=by
 refine Runs.enter 2 Tryz.func45 rfl rfl rfl rfl ?_
 intro f hn hf
 clear hf
 have zSh:cE Tryz.prog 56=some (i3 0 0 0):=by kernel_rfl
 have ad0:cH (i3 0 0 0)=true:=by kernel_rfl
 simp-implicitDefEqProofs(disch:=omega)only[ai,↓reduceIte,zSh,ad0]
 refine aw ?_
 intro s1 ht aA uS
 have ht:av s1 s.next (l3 0 0 0):=ht
 have hd:[Value.int .i64 0,.int .i64 0,.int .i64 0].length+1=4:=rfl
 have hb:dM Tryz.prog 56 [(0,.int .i64 1),(1,.int .i64 1),(2,.int .i64 1)]=some (i3 1 1 1):=by kernel_rfl
 simp-implicitDefEqProofs(disch:=omega)only[ai,ag,Nat.reduceLT,Nat.reduceEqDiff,↓reduceIte,hn,hd,hb]
 refine aE vK (by decide) ht rfl rfl rfl rfl ?_
 intro s2 fm nH df
 have la:aG Tryz.prog s2 56 (.pointer (some ⟨s.next,0,some 4⟩))=some (i3 1 1 1):=av.cY (P:=Tryz.prog) (cs:=l3 1 1 1) HB vK fm (c:=4) rfl
 simp-implicitDefEqProofs(disch:=omega)only[ai,al,oneOf,Nat.reduceLT,Nat.reduceEqDiff,↓reduceIte,hn,aW,la,Tryz.results45]
 exact aA.trans (ar.bc nH df (by omega))
end Go.Proofs.YtdfjfncifneocaaGreat
set_option linter.unusedSimpArgs false
set_option linter.unusedVariables false
set_option maxRecDepth 100000
namespace Go.Cl
theorem aM.Kz {P:Program}{t e:TypeId}{z:Nat}(hu:P.underlying t=some (.slice e))(cJ:bq P e=some z){s:aq}{v:Value}{n:Nat}{l:List Value}(h:aM s z v n l){k k2:IntKind}{m:Nat}(h0:0<m)(h1:m<=n):dH P s t v none (some (.int k (m:Nat))) (some (.int k2 (m:Nat)))=some (ez z v 0 m):=by
 have hl:=h.gw hu cJ (k:=k) (y:=(m:Int)) (by omega) (by omega)
 rw[Int.toNat_natCast] at hl
 rw[<-hl]
 have kX:∀k d,hJ (some (.int k ((m:Nat):Int))) d=some m:=fun _ _=>rfl
 have z6:Nat.beq 0 m=false:=by
  rw[<-Bool.not_eq_true,Nat.beq_eq];omega
 have hle:(Nat.ble m m&&Nat.ble m n)=true:=by simp;omega
 cases h with
 |nil=>omega
 |bare=>omega
 |of i off n c b l hi hb hz hl hc hlen fL ht=>
  unfold dH
  simp only[hu,kN,kX,cJ,hle,if_true,z6]
  rfl
structure zu (s:aq) (vs:List Value) (L:List (List UInt8)):Prop where
 len:vs.length=L.length
 aH:∀k (h:k<L.length),aM s 1 (vs.getD k undef) (L[k]).length (ofBytes L[k])
theorem zu.nil (s:aq):zu s [] []:=⟨rfl,fun k h=>absurd h (Nat.not_lt_zero k)⟩
theorem zu.keeps {s s' :aq}{vs:List Value}{L:List (List UInt8)}(h:zu s vs L)(k:ar s.next s s'):zu s' vs L:=⟨h.len,fun j hj=>(h.aH j hj).keeps k⟩
theorem zu.snoc {s:aq}{v:Value}{a:List UInt8}{vs:List Value}{L:List (List UInt8)}(k:zu s vs L)(h:aM s 1 v a.length (ofBytes a)):zu s (vs++[v]) (L++[a]):=by
 refine⟨by simp[k.len],fun j hj=> ?_⟩
 have R2:j<L.length+1:=by simpa using hj
 by_cases V8:j<L.length
 ·have:=k.aH j V8
  rw[List.getElem_append_left V8,List.getD_eq_getElem?_getD,List.getElem?_append_left (by rw[k.len];exact V8),<-List.getD_eq_getElem?_getD]
  exact this
 ·obtain rfl:j=L.length:=by omega
  rw[List.getElem_append_right (by omega),List.getD_eq_getElem?_getD,List.getElem?_append_right (by rw[k.len];omega)]
  simp only[k.len,Nat.sub_self,List.getElem_cons_zero]
  exact h
end Go.Cl
namespace Go.Proofs.YtdfjfncifneocaaGreat
open Go.Cl Go.Cl.Pr
theorem Z0:cE Tryz.prog 22=some (.slice none 0 0):=by kernel_rfl
theorem Z1:eW Tryz.prog 22=some 24:=by kernel_rfl
theorem Rb (s:aq)(a:Option Addr)(n1 c1:Nat):aU Tryz.prog s 137 1 [(0,.slice a n1 c1)]=aX s [.slice a n1 c1] 1 1:=by
 unfold aU;rw[Tryz.underlying137];simp only[iY,Z0];rfl
def tZ (s:aq)(l:List UInt8)(n:Nat)(v:Value)(s' :aq):Prop:=∃w vs,v= .tuple #[w,.bool (decide (l.length%n=0))]/\aM s' 1 w (l.length/n) vs/\zu s' vs (rU l n (l.length/n))/\ar s.next s s'
theorem KA (z:Nat)(v:Value)(a b:Nat):∃x n c,ez z v a b= .slice x n c:=by
 unfold ez;split<;>exact⟨_,_,_,rfl⟩
set_option maxHeartbeats 4000000 in
theorem KB {lib:ay}(L:Dm lib)(s:aq)(x:Value)(l:List UInt8)(hx:aM s 1 x l.length (ofBytes l))(hl:l.length<=100000000)(n:Nat)(SO:1<=n)(kX:n<=1000000):
  Runs Tryz.prog lib 114 [x,.int .i64 n] s (tZ s l n):=by
 refine Runs.enter 25 Tryz.func114 rfl L.parts rfl rfl ?_
 intro f hn hf
 have h0:f.get 0=x:=hf 0
 have h1:f.get 1= .int .i64 n:=hf 1
 clear hf
 simp-implicitDefEqProofs(disch:=omega)only[ai,Nat.reduceLT,↓reduceIte,hn]
 have hdiv:l.length/n*n<=l.length:=Nat.div_mul_le_self _ _
 have ad1:l.length/n<=l.length:=Nat.div_le_self _ _
 have lU:=Nat.div_add_mod l.length n
 have hml:=Nat.mod_lt l.length (show n>0 by omega)
 rw[Nat.mul_comm] at lU
 unfold tZ
 generalize l.length/n=q at hdiv ad1 lU|-
 refine Comes.bC (fun z f t=>∃(i:Nat) (y w:Value) (vs:List Value),z=q-i/\i<=q/\aM s 1 y (l.drop (i*n)).length (ofBytes (l.drop (i*n)))/\Own t 1 w i vs/\zu s vs (rU l n i)/\aN s.next w/\ar s.next s t/\f.n=25/\f.get 0=y/\f.get 1= .int .i64 n/\f.get 6=w)
  (fun z f t=>z= .exit 0/\∃(y w:Value) (vs:List Value),aM s 1 y (l.drop (q*n)).length (ofBytes (l.drop (q*n)))/\Own t 1 w (q) vs/\zu s vs (rU l n (q))/\ar s.next s t/\f.n=25/\f.get 0=y/\f.get 6=w)
  ⟨0,x,.slice none 0 0,[],rfl,by omega,by rw[Nat.zero_mul,List.drop_zero];exact hx,.nil,zu.nil _,aN.nil _,ar.refl _ _,by simp only[ae,hn],by simp only[aa,↓reduceIte,Nat.reduceEqDiff,h0],by simp only[aa,↓reduceIte,Nat.reduceEqDiff,h1],by simp only[aa,↓reduceIte]⟩ ?_ ?_
 ·clear hn h0 h1 f
  rintro Q hQ z f t ⟨i,y,w,vs,rfl,hi,CM,hw,hb,hF,aA,hn,h0,h1,h6⟩
  have hy:=CM.keeps aA
  have him:i*n<=q*n:=Nat.mul_le_mul_right n hi
  have Gz:(l.drop (i*n)).length=l.length-i*n:=List.length_drop
  by_cases aP:i<q
  rotate_left
  ·obtain rfl:i=q:=by omega
   have d1:¬n<=(l.drop (i*n)).length:=by omega
   have d2:¬(n:Int)<=(((l.drop (i*n)).length:Nat):Int):=by omega
   simp-implicitDefEqProofs(disch:=omega)only[ai,ad,Nat.reduceLT,Nat.reduceEqDiff,↓reduceIte,hn,h0,h1,hy.aV Tryz.underlying22,eq_false d2]
   exact hQ _ _ _ ⟨rfl,y,w,vs,CM,hw,hb,aA,by simp only[ae,hn],by simp only[aa,↓reduceIte,Nat.reduceEqDiff,h0],by simp only[aa,↓reduceIte,Nat.reduceEqDiff,h6]⟩
  have ahX:(i+1)*n<=q*n:=Nat.mul_le_mul_right n aP
  have zx:(i+1)*n=i*n+n:=Nat.succ_mul i n
  have d1:n<=(l.drop (i*n)).length:=by omega
  have d2:(n:Int)<=(((l.drop (i*n)).length:Nat):Int):=by omega
  have dA:=CM.lL (lo:=0) (hi:=n) (by omega) (by omega)
  rw[List.drop_zero,Nat.sub_zero] at dA
  obtain⟨cx,cn,cc,Yp⟩:=KA 1 y 0 n
  have R3:=hy.Kz (P:=Tryz.prog) Tryz.underlying22 bh (k:= .i64) (k2:= .i64) (m:=n) (by omega) (by omega)
  rw[Yp] at R3 dA
  simp-implicitDefEqProofs(disch:=omega)only[ai,ad,ag,ah,Nat.reduceLT,Nat.reduceEqDiff,↓reduceIte,hn,h0,h1,h6,hy.aV Tryz.underlying22,eq_true d2,R3,Rb]
  refine aQ (by rfl) ?_
  intro bv t2 eR hF2 bD
  simp-implicitDefEqProofs(disch:=omega)only[ai,ad,Nat.reduceLT,Nat.reduceEqDiff,↓reduceIte,hn]
  have dE:([Value.slice cx cn cc]:List Value).all aO=true:=by rfl
  refine bG Tryz.underlying137 Tryz.underlying137 (.inl ⟨_,rfl⟩) iY Z1 Z0 rfl (hw.keeps bD) eR.aH.src rfl (by decide) dE (by omega) (by omega) hF (by have:=bD.next;have:=aA.next;omega) ?_
  intro w' t3 hw' vE cf ahY _
  have gK:ar s.next s t3:=(aA.trans (bD.weaken aA.next)).trans cf
  have JY:=CM.keeps gK
  have nM:=CM.lL (lo:=n) (hi:=(l.drop (i*n)).length) (by omega) (by omega)
  rw[List.take_of_length_le (by rw[List.length_drop];omega),List.drop_drop] at nM
  simp-implicitDefEqProofs(disch:=omega)only[ai,ah,Nat.reduceLT,Nat.reduceEqDiff,↓reduceIte,hn,h0,h1,JY.fz Tryz.underlying22 bh]
  refine au (q-(i+1)) (by omega) ⟨i+1,ez 1 y n (l.drop (i*n)).length,w',vs++[.slice cx cn cc],rfl,by omega,?_,hw',?_,vE,gK,by simp only[ae,hn],by simp only[aa,↓reduceIte],by simp only[aa,↓reduceIte,Nat.reduceEqDiff,h1],by simp only[aa,↓reduceIte,Nat.reduceEqDiff]⟩
  ·rw[zx];exact nM
  ·rw[JS]
   exact hb.snoc dA
 clear hn h0 h1 f
 rintro z f t ⟨rfl,y,w,vs,CM,hw,hb,aA,hn,h0,h6⟩
 have hy:=CM.keeps aA
 have Gz:(l.drop (q*n)).length=l.length-q*n:=List.length_drop
 have ed:decide ((((l.drop (q*n)).length:Nat):Int)=0)=decide (l.length%n=0):=decide_eq_decide.2 (by omega)
 simp-implicitDefEqProofs(disch:=omega)only[ai,al,oneOf,ad,Nat.reduceLT,Nat.reduceEqDiff,↓reduceIte,hn,h0,h6,hy.aV Tryz.underlying22,ed,Tryz.results114]
 exact⟨w,vs,rfl,hw.aH,hb.keeps aA,aA⟩
end Go.Proofs.YtdfjfncifneocaaGreat
set_option linter.unusedSimpArgs false
set_option linter.unusedVariables false
set_option maxRecDepth 100000
namespace Go.Cl.Pr
theorem Z2 {T:Int}{l:List UInt8}{n c r k:Nat}(hn:0<n)(hk:k<n)(W:List UInt8)(hW:W=if r=0 then [] else qP l n (r-1))(hl:(r+1)*n<=l.length):gi T (if c<=k then((((qP l n r).getD (k-c) 0).toNat:Nat):Int) else 0) (if 0<W.length then(((W.getD k 0).toNat:Nat):Int) else 0) (if 0<W.length/\c<=k then(((W.getD (k-c) 0).toNat:Nat):Int) else 0)=gs T l n c (r*n+k):=by
 have hm:(r*n+k)%n=k:=PZ hk
 have e1:(if c<=k then((((qP l n r).getD (k-c) 0).toNat:Nat):Int) else 0)=lu l n c (r*n+k):=by
  unfold lu
  rw[hm]
  split
  ·rename_i h
   rw[sW (by omega),show r*n+k-c=r*n+(k-c) by omega]
  ·rfl
 have e2:(if 0<W.length then(((W.getD k 0).toNat:Nat):Int) else 0)=iZ l n (r*n+k)/\(if 0<W.length/\c<=k then(((W.getD (k-c) 0).toNat:Nat):Int) else 0)=fC l n c (r*n+k):=by
  unfold iZ fC
  rw[hm]
  cases r with
  |zero=>
   rw[if_pos rfl] at hW
   subst hW
   rw[Nat.zero_mul,if_neg (by simp),if_neg (by omega),if_neg (by simp),if_neg (by omega)]
   exact⟨rfl,rfl⟩
  |succ r=>
   rw[if_neg (by omega),Nat.add_sub_cancel] at hW
   have oP:(r+1)*n<=l.length:=Nat.le_trans (Nat.mul_le_mul_right n (by omega)) hl
   have ZC:W.length=n:=by rw[hW];exact rT oP
   have hs:(r+1)*n=r*n+n:=Nat.succ_mul r n
   rw[if_pos (by omega),if_pos (by omega)]
   refine⟨by rw[hW,sW hk,show(r+1)*n+k-n=r*n+k by omega],?_⟩
   by_cases h:c<=k
   ·rw[if_pos ⟨by omega,h⟩,if_pos ⟨by omega,h⟩,hW,sW (by omega),show(r+1)*n+k-n-c=r*n+(k-c) by omega]
   ·rw[if_neg (fun q=>h q.2),if_neg (fun q=>h q.2)]
 unfold gs
 rw[e1,e2.1,e2.2]
theorem It {p:Int}(h:p=1\/p=2\/(10<=p/\p<=15)):0<=mY p/\mY p<=5/\(mY p<=4):=by
 unfold mY;split
 ·omega
 ·split<;>omega
end Go.Cl.Pr
namespace Go.Proofs.YtdfjfncifneocaaGreat
open Go.Cl Go.Cl.Pr
def EC (s:aq)(p:List UInt8×Int)(v:Value)(s' :aq):Prop:=∃w,v= .tuple #[w,.int .i64 p.2]/\bU s w s' p.1
set_option maxHeartbeats 8000000 in
theorem Iu {lib:ay}(L:Dm lib)(hl:lib.at 82=none)(s:aq)(p co cl:Int)(x:Value)(l:List UInt8)(hx:aM s 1 x l.length (ofBytes l))(hlen:l.length<=100000000):
  Runs Tryz.prog lib 82 [i3 p co cl,x] s (EC s (fE p co cl l)):=by
 refine Runs.enter 85 Tryz.func82 rfl hl rfl rfl ?_
 intro f hn hf
 have h0:f.get 0=i3 p co cl:=hf 0
 have h1:f.get 1=x:=hf 1
 clear hf
 have BG:[Value.int .i64 p,.int .i64 co,.int .i64 cl].length+1=4:=rfl
 simp-implicitDefEqProofs(disch:=omega)only[ai,Nat.reduceLT,↓reduceIte,hn,h0]
 refine aw ?_
 intro s1 ht aA uS
 have ht:av s1 s.next (l3 p co cl):=ht
 have la:aG Tryz.prog s1 56 (.pointer (some ⟨s.next,0,some 4⟩))=some (i3 p co cl):=av.cY (P:=Tryz.prog) (cs:=l3 p co cl) HB vK ht (c:=4) rfl
 simp-implicitDefEqProofs(disch:=omega)only[ai,aj,ad,Nat.reduceLT,Nat.reduceEqDiff,↓reduceIte,hn,BG,la]
 refine(HD L.may s1 p co cl).mono ?_
 rintro _ s2 ⟨rfl,df⟩
 have MJ:=aA.trans (df.weaken aA.next)
 have fm:=ht.keeps df
 have n1:=aA.next
 have n2:=df.next
 by_cases hm:qO p co cl
 rotate_left
 ·rw[decide_eq_false hm]
  simp-implicitDefEqProofs(disch:=omega)only[ai,al,oneOf,Nat.reduceLT,Nat.reduceEqDiff,↓reduceIte,hn,Tryz.results82]
  have e:fE p co cl l=([],1):=by unfold fE;rw[if_pos hm]
  rw[e]
  exact⟨_,rfl,⟨.nil,aN.nil _,MJ⟩⟩
 rw[decide_eq_true hm]
 have q0:∀t,ar s2.next s2 t->aG Tryz.prog t 3 (.pointer (some ⟨s.next,0,some 4⟩))=some (.int .i64 p):=fun t h=>(fm.keeps h).load cj (off:=0) (c:=4) rfl (by simp)
 have q1:∀t,ar s2.next s2 t->aG Tryz.prog t 3 (.pointer (some ⟨s.next,1,some 4⟩))=some (.int .i64 co):=fun t h=>(fm.keeps h).load cj (off:=1) (c:=4) rfl (by simp)
 have q2:∀t,ar s2.next s2 t->aG Tryz.prog t 3 (.pointer (some ⟨s.next,2,some 4⟩))=some (.int .i64 cl):=fun t h=>(fm.keeps h).load cj (off:=2) (c:=4) rfl (by simp)
 have kC:=hx.keeps MJ
 have k2:=ar.refl s2.next s2
 by_cases nD:p=1
 ·have e:fE p co cl l=(l,0):=by unfold fE;rw[if_neg (fun h=>h hm),if_pos nD]
  rw[e]
  simp-implicitDefEqProofs(disch:=omega)only[ai,ad,Nat.reduceLT,Nat.reduceEqDiff,↓reduceIte,hn,h1,qQ,q0 _ k2,eq_true nD]
  refine bG Tryz.underlying22 Tryz.underlying22 (.inl ⟨_,rfl⟩) bh gh gR rfl (Own.nil:Own s2 1 (.slice none 0 0) 0 []) kC.src (by rw[br,Nat.mul_one]) (by decide) (cX _) (by omega) (by omega) (aN.nil s2.next) (Nat.le_refl _) ?_
  intro w s3 hw hF ij _ _
  simp-implicitDefEqProofs(disch:=omega)only[ai,al,oneOf,Nat.reduceLT,Nat.reduceEqDiff,↓reduceIte,hn,Tryz.results82]
  exact⟨w,rfl,⟨by rw[List.nil_append,Nat.zero_add] at hw;exact hw,fun j hj=>by have:=hF j hj;omega,MJ.trans (ij.weaken (by omega))⟩⟩
 obtain⟨UY,oT,va,nF,oP⟩:=id hm
 obtain⟨c,rfl⟩:∃c:Nat,co=c:=⟨co.toNat,by omega⟩
 obtain⟨m,rfl⟩:∃m:Nat,cl=m:=⟨cl.toNat,by omega⟩
 obtain⟨n,sK⟩:∃n:Nat,n=c*m:=⟨_,rfl⟩
 have kX:1<=n:=by rw[sK];exact Nat.mul_le_mul (show 1<=c by omega) (show 1<=m by omega)
 have nH:n<=16384:=by rw[sK];exact Nat.mul_le_mul (show c<=4 by omega) (show m<=4096 by omega)
 have Dt:c<=n:=by rw[sK];exact Nat.le_mul_of_pos_right c (by omega)
 have ep:fE p (c:Int) (m:Int) l=if l.length%n≠0 then([],4) else(mX (mY p) (decide (10<=p)) l n c l.length,0):=by
  unfold fE
  rw[if_neg (fun h=>h hm),if_neg nD,Int.toNat_natCast,Int.toNat_natCast,<-sK]
 rw[ep]
 have hmul:IntKind.i64.wrap ((c:Int)*(m:Int))=(n:Int):=by
  have e:(c:Int)*(m:Int)=(n:Int):=by rw[sK];exact(Int.natCast_mul c m).symm
  rw[e,aD (by omega)]
 simp-implicitDefEqProofs(disch:=omega)only[ai,aj,ad,Nat.reduceLT,Nat.reduceEqDiff,↓reduceIte,hn,h1,qQ,FL,HA,q0 _ k2,q1 _ k2,q2 _ k2,eq_false nD,hmul]
 refine(KB L s2 x l kC hlen n kX (by omega)).mono ?_
 rintro _ s3 ⟨w,vs,rfl,hw,hb,ij⟩
 have x0:∀b,cN (.tuple #[w,.bool b]) 0=some w:=fun _=>rfl
 have x1:∀b,cN (.tuple #[w,.bool b]) 1=some (.bool b):=fun _=>rfl
 have h03:=MJ.trans (ij.weaken MJ.next)
 by_cases lU:l.length%n=0
 rotate_left
 ·rw[if_pos lU,decide_eq_false lU]
  simp-implicitDefEqProofs(disch:=omega)only[ai,al,oneOf,Nat.reduceLT,Nat.reduceEqDiff,↓reduceIte,hn,x0,x1,Tryz.results82]
  exact⟨_,rfl,⟨.nil,aN.nil _,h03⟩⟩
 rw[if_neg (fun h=>h lU),decide_eq_true lU]
 have hT:=It UY
 obtain⟨T,TY⟩:∃T,T=mY p:=⟨_,rfl⟩
 rw[<-TY] at hT|-
 obtain⟨g,So⟩:∃g:Bool,g=decide (10<=p):=⟨_,rfl⟩
 rw[<-So]
 have hq:∃q,q=l.length/n:=⟨_,rfl⟩
 obtain⟨q,hq⟩:=hq
 have hqn:q*n=l.length:=by
  have:=Nat.div_add_mod l.length n
  rw[lU,Nat.mul_comm,<-hq] at this;omega
 rw[<-hq] at hw hb
 have TZ:q<=l.length:=by rw[<-hqn];exact Nat.le_mul_of_pos_right q (by omega)
 have n3:=ij.next
 simp-implicitDefEqProofs(disch:=omega)only[ai,Nat.reduceLT,Nat.reduceEqDiff,↓reduceIte,hn,x0,x1,qQ,q0 _ ij]
 generalize hK:mR Tryz.prog lib (Code.seq (Code.region _ _ _) (Code.seq _ _)) _=K
 have go:∀f,f.n=85->f.get 2= .pointer (some ⟨s.next,0,some 4⟩)->f.get 6=w->f.get 8= .int .i64 T->K .normal f s3:=by
  clear hn h0 h1 f
  subst hK
  intro f hn h2 h6 h8
  simp-implicitDefEqProofs(disch:=omega)only[ai,ad,Nat.reduceLT,Nat.reduceEqDiff,↓reduceIte,hn,h6,hw.aV Tryz.underlying137]
  refine Comes.bC (fun z f t=>∃(r:Nat) (o y:Value) (W:List UInt8),z=q-r/\r<=q/\Own t 1 o (mX T g l n c (r*n)).length (ofBytes (mX T g l n c (r*n)))/\W=(if r=0 then [] else qP l n (r-1))/\aM s3 1 y W.length (ofBytes W)/\aN s3.next o/\ar s3.next s3 t/\f.n=85/\f.get 2= .pointer (some ⟨s.next,0,some 4⟩)/\f.get 8= .int .i64 T/\f.get 9=o/\f.get 10=y/\f.get 46=w/\f.get 47= .int .i64 (q:Nat)/\f.get 48= .int .i64 (r:Nat))
   (fun z f t=>z= .exit 1/\∃o,Own t 1 o (mX T g l n c (q*n)).length (ofBytes (mX T g l n c (q*n)))/\aN s3.next o/\ar s3.next s3 t/\f.n=85/\f.get 9=o)
   ⟨0,.slice none 0 0,.slice none 0 0,[],rfl,by omega,by rw[Nat.zero_mul];exact .nil,rfl,.nil,aN.nil _,ar.refl _ _,by simp only[ae,hn],by simp only[aa,↓reduceIte,Nat.reduceEqDiff,h2],by simp only[aa,↓reduceIte,Nat.reduceEqDiff,h8],by simp only[aa,↓reduceIte,Nat.reduceEqDiff],by simp only[aa,↓reduceIte,Nat.reduceEqDiff],by simp only[aa,↓reduceIte,Nat.reduceEqDiff],by simp only[aa,↓reduceIte,Nat.reduceEqDiff],by simp only[aa,↓reduceIte];rfl⟩ ?_ ?_
  ·clear hn h2 h6 h8 f
   rintro Q hQ z f t ⟨r,o,y,W,rfl,hr,ho,hW,hy,hF,aA,hn,h2,h8,h9,dz,GF,GG,CN⟩
   by_cases aP:r<q
   rotate_left
   ·obtain rfl:r=q:=by omega
    have d1:¬((r:Nat):Int)<((r:Nat):Int):=by omega
    simp-implicitDefEqProofs(disch:=omega)only[ai,Nat.reduceLT,↓reduceIte,hn,GG,CN,eq_false d1]
    exact hQ _ _ _ ⟨rfl,o,ho,hF,aA,by simp only[ae,hn],by simp only[aa,↓reduceIte,Nat.reduceEqDiff,h9]⟩
   have d1:((r:Nat):Int)<((q:Nat):Int):=by omega
   have hrn:(r+1)*n<=l.length:=by rw[<-hqn];exact Nat.mul_le_mul_right n aP
   have hrs:(r+1)*n=r*n+n:=Nat.succ_mul r n
   have nG:(qP l n r).length=n:=rT hrn
   have KC:=hw.keeps aA
   have dI:=KC.indexAddr (P:=Tryz.prog) (k:= .i64) (x:=(r:Int)) Tryz.underlying137 iY (by omega) (by omega)
   rw[Int.toNat_natCast] at dI
   have fM:=KC.cU (P:=Tryz.prog) mV aP
   have nI:=hb.aH r (by rw[FJ];exact aP)
   rw[Np,nG] at nI
   obtain⟨R,hR⟩:∃R,R=vs.getD r undef:=⟨_,rfl⟩
   rw[<-hR] at fM nI
   have hl8:=vH T g l n c (r*n)
   simp-implicitDefEqProofs(disch:=omega)only[ai,Nat.reduceLT,Nat.reduceEqDiff,↓reduceIte,hn,h2,GF,GG,CN,eq_true d1,dI,fM,qQ,q0 _ (ij.trans (aA.weaken n3))]
   generalize hK2:mR Tryz.prog lib (Code.seq (Code.seq (Code.region _ _ _) (Code.block _ _)) (Code.region _ _ _)) _=K2
   have go2:∀f t2 o2,f.n=85->f.get 2= .pointer (some ⟨s.next,0,some 4⟩)->f.get 8= .int .i64 T->f.get 9=o2->f.get 10=y->f.get 12=R->f.get 46=w->f.get 47= .int .i64 (q:Nat)->f.get 48= .int .i64 (r:Nat)->Own t2 1 o2 (rV T g l n c r 0).length (ofBytes (rV T g l n c r 0))->aN s3.next o2->ar s3.next s3 t2->K2 .normal f t2:=by
    clear hn h2 h8 h9 dz GF GG CN ho hF aA KC dI fM hl8 f t o
    subst hK2
    intro f t o hn h2 h8 h9 dz pB GF GG CN ho hF aA
    have W8:=nI.keeps aA
    simp-implicitDefEqProofs(disch:=omega)only[ai,ad,Nat.reduceLT,↓reduceIte,hn,pB,W8.aV Tryz.underlying22]
    refine Comes.bC (fun z f t=>∃(k:Nat) (o:Value),z=n-k/\k<=n/\Own t 1 o (rV T g l n c r k).length (ofBytes (rV T g l n c r k))/\aN s3.next o/\ar s3.next s3 t/\f.n=85/\f.get 2= .pointer (some ⟨s.next,0,some 4⟩)/\f.get 8= .int .i64 T/\f.get 9=o/\f.get 10=y/\f.get 12=R/\f.get 46=w/\f.get 47= .int .i64 (q:Nat)/\f.get 48= .int .i64 (r:Nat)/\f.get 60=R/\f.get 61= .int .i64 (n:Nat)/\f.get 62= .int .i64 (k:Nat))
     (fun z f t=>z= .exit 3/\∃o:Value,Own t 1 o (rV T g l n c r n).length (ofBytes (rV T g l n c r n))/\aN s3.next o/\ar s3.next s3 t/\f.n=85/\f.get 2= .pointer (some ⟨s.next,0,some 4⟩)/\f.get 8= .int .i64 T/\f.get 9=o/\f.get 12=R/\f.get 46=w/\f.get 47= .int .i64 (q:Nat)/\f.get 48= .int .i64 (r:Nat))
     ⟨0,o,rfl,by omega,ho,hF,aA,by simp only[ae,hn],by simp only[aa,↓reduceIte,Nat.reduceEqDiff,h2],by simp only[aa,↓reduceIte,Nat.reduceEqDiff,h8],by simp only[aa,↓reduceIte,Nat.reduceEqDiff,h9],by simp only[aa,↓reduceIte,Nat.reduceEqDiff,dz],by simp only[aa,↓reduceIte,Nat.reduceEqDiff,pB],by simp only[aa,↓reduceIte,Nat.reduceEqDiff,GF],by simp only[aa,↓reduceIte,Nat.reduceEqDiff,GG],by simp only[aa,↓reduceIte,Nat.reduceEqDiff,CN],by simp only[aa,↓reduceIte,Nat.reduceEqDiff],by simp only[aa,↓reduceIte,Nat.reduceEqDiff],by simp only[aa,↓reduceIte];rfl⟩ ?_ ?_
    ·clear hn h2 h8 h9 dz pB GF GG CN W8 ho hF aA f t o
     rintro Q hQ z f t ⟨k,o,rfl,hk,ho,hF,aA,hn,h2,h8,h9,dz,pB,GF,GG,CN,Yc,Yd,Z3⟩
     by_cases OQ:k<n
     rotate_left
     ·obtain rfl:k=n:=by omega
      have d1:¬((k:Nat):Int)<((k:Nat):Int):=by omega
      simp-implicitDefEqProofs(disch:=omega)only[ai,Nat.reduceLT,↓reduceIte,hn,Yd,Z3,eq_false d1]
      exact hQ _ _ _ ⟨rfl,o,ho,hF,aA,by simp only[ae,hn],by simp only[aa,↓reduceIte,Nat.reduceEqDiff,h2],by simp only[aa,↓reduceIte,Nat.reduceEqDiff,h8],by simp only[aa,↓reduceIte,Nat.reduceEqDiff,h9],by simp only[aa,↓reduceIte,Nat.reduceEqDiff,pB],by simp only[aa,↓reduceIte,Nat.reduceEqDiff,GF],by simp only[aa,↓reduceIte,Nat.reduceEqDiff,GG],by simp only[aa,↓reduceIte,Nat.reduceEqDiff,CN]⟩
     have d1:((k:Nat):Int)<((n:Nat):Int):=by omega
     have W8:=nI.keeps aA
     have dI:=W8.indexAddr (P:=Tryz.prog) (k:= .i64) (x:=(k:Int)) Tryz.underlying22 bh (by omega) (by omega)
     rw[Int.toNat_natCast] at dI
     have fM:=W8.cU (P:=Tryz.prog) gZ OQ
     rw[aZ (by omega),sW OQ] at fM
     have hi:r*n+k<l.length:=by omega
     simp-implicitDefEqProofs(disch:=omega)only[ai,aj,ad,Nat.reduceLT,Nat.reduceEqDiff,↓reduceIte,hn,h2,h9,dz,pB,Yc,Yd,Z3,eq_true d1,dI,fM,FL,q1 _ (ij.trans (aA.weaken n3))]
     have hWl:W.length=0\/W.length=(qP l n r).length:=by
      rw[hW]
      split
      ·exact .inl rfl
      ·rename_i hr0
       refine .inr ?_
       rw[nG]
       refine rT ?_
       rw[show r-1+1=r by omega]
       exact Nat.le_trans (Nat.mul_le_mul_right n (by omega)) hrn
     refine(Tc L t R y (qP l n r) W (by rw[nG];exact W8) (hy.keeps aA) (by omega) k c (by omega) (by omega) hWl).mono ?_
     rintro _ t2 ⟨rfl,bD⟩
     have hga:=Z2 (T:=T) (c:=c) (by omega) OQ W hW hrn
     have a1:0<=LM (qP l n r) k c/\LM (qP l n r) k c<=255:=by
      unfold LM;split
      ·exact qD _
      ·omega
     have a2:0<=P6 W k/\P6 W k<=255:=by
      unfold P6;split
      ·exact qD _
      ·omega
     have a3:0<=P7 W k c/\P7 W k c<=255:=by
      unfold P7;split
      ·exact qD _
      ·omega
     simp-implicitDefEqProofs(disch:=omega)only[ai,aj,ad,Nat.reduceLT,Nat.reduceEqDiff,↓reduceIte,hn,h8]
     refine(JW L t2 T _ _ _ (by omega) a1 a2 a3).mono ?_
     have hga:gi T (LM (qP l n r) k c) (P6 W k) (P7 W k c)=gs T l n c (r*n+k):=hga
     rw[hga]
     rintro _ t3 ⟨rfl,cf⟩
     have h3t:ar t.next t t3:=bD.trans (cf.weaken bD.next)
     have ew:IntKind.u8.wrap ((((l.getD (r*n+k) 0).toNat:Nat):Int)-IntKind.u8.wrap (gs T l n c (r*n+k)))=((pf ((((l.getD (r*n+k) 0).toNat:Nat):Int)-gs T l n c (r*n+k))).toNat:Int):=by
      rw[sV,eZ,eZ];omega
     have mP:=S9 T g l n c r k
     simp-implicitDefEqProofs(disch:=omega)only[ai,ag,Nat.reduceLT,Nat.reduceEqDiff,↓reduceIte,hn,bd Tryz.underlying3 Tryz.underlying5,ew,gN Tryz.underlying22 bh gR]
     refine a9 Tryz.underlying22 bh gh gR rfl (ho.keeps h3t) (by simp only[aa,↓reduceIte,Nat.reduceEqDiff]) (by decide) (by simp only[ae,hn];decide) (by simp only[ae,hn];decide) (by rfl) (by decide) rfl (by omega) (by omega) hF (by have:=aA.next;have:=h3t.next;omega) ?_
     intro bs o' t4 j8 vE iH _ _
     simp-implicitDefEqProofs(disch:=omega)only[ai,Nat.reduceLT,Nat.reduceEqDiff,↓reduceIte,hn,Z3,aD]
     refine au (n-(k+1)) (by omega) ⟨k+1,o',rfl,by omega,?_,vE,(aA.trans (h3t.weaken aA.next)).trans iH,by simp only[ae,hn],by simp only[aa,↓reduceIte,Nat.reduceEqDiff,h2],by simp only[aa,↓reduceIte,Nat.reduceEqDiff,h8],by simp only[aa,↓reduceIte,Nat.reduceEqDiff],by simp only[aa,↓reduceIte,Nat.reduceEqDiff,dz],by simp only[aa,↓reduceIte,Nat.reduceEqDiff,pB],by simp only[aa,↓reduceIte,Nat.reduceEqDiff,GF],by simp only[aa,↓reduceIte,Nat.reduceEqDiff,GG],by simp only[aa,↓reduceIte,Nat.reduceEqDiff,CN],by simp only[aa,↓reduceIte,Nat.reduceEqDiff,Yc],by simp only[aa,↓reduceIte,Nat.reduceEqDiff,Yd],by simp only[aa,↓reduceIte];rfl⟩
     rw[<-Nq OQ,List.length_append,aK]
     exact j8
    clear hn h2 h8 h9 dz pB GF GG CN W8 ho hF aA f t o
    rintro z f t ⟨rfl,o,ho,hF,aA,hn,h2,h8,h9,pB,GF,GG,CN⟩
    rw[P0 (by omega)] at ho
    simp-implicitDefEqProofs(disch:=omega)only[ai,Nat.reduceLT,Nat.reduceEqDiff,↓reduceIte,hn,pB,CN,aD]
    refine au (q-(r+1)) (by omega) ⟨r+1,o,R,qP l n r,rfl,by omega,ho,by rw[if_neg (by omega)];rfl,by rw[nG];exact nI,hF,aA,by simp only[ae,hn],by simp only[aa,↓reduceIte,Nat.reduceEqDiff,h2],by simp only[aa,↓reduceIte,Nat.reduceEqDiff,h8],by simp only[aa,↓reduceIte,Nat.reduceEqDiff,h9],by simp only[aa,↓reduceIte,Nat.reduceEqDiff],by simp only[aa,↓reduceIte,Nat.reduceEqDiff,GF],by simp only[aa,↓reduceIte,Nat.reduceEqDiff,GG],by simp only[aa,↓reduceIte];rfl⟩
   by_cases Mf:10<=p
   rotate_left
   ·have eg:g=false:=by rw[So];exact decide_eq_false Mf
    have ec:rV T g l n c r 0=mX T g l n c (r*n):=by unfold rV Hu;rw[if_pos rfl,eg];simp
    simp-implicitDefEqProofs(disch:=omega)only[ai,eq_false Mf]
    exact go2 _ _ _ (by simp only[ae,hn]) (by simp only[aa,↓reduceIte,Nat.reduceEqDiff,h2]) (by simp only[aa,↓reduceIte,Nat.reduceEqDiff,h8]) (by simp only[aa,↓reduceIte,Nat.reduceEqDiff,h9]) (by simp only[aa,↓reduceIte,Nat.reduceEqDiff,dz]) (by simp only[aa,↓reduceIte,Nat.reduceEqDiff]) (by simp only[aa,↓reduceIte,Nat.reduceEqDiff,GF]) (by simp only[aa,↓reduceIte,Nat.reduceEqDiff,GG]) (by simp only[aa,↓reduceIte,Nat.reduceEqDiff,CN]) (by rw[ec];exact ho) hF aA
   have eg:g=true:=by rw[So];exact decide_eq_true Mf
   have ec:rV T g l n c r 0=mX T g l n c (r*n)++[pf T]:=by
    unfold rV Hu;rw[if_pos rfl,if_pos ⟨eg,Nat.mul_mod_left r n⟩]
   have ew:IntKind.u8.wrap T=((pf T).toNat:Int):=by rw[sV,eZ]
   simp-implicitDefEqProofs(disch:=omega)only[ai,ag,Nat.reduceLT,Nat.reduceEqDiff,↓reduceIte,hn,h8,h9,eq_true Mf,bd Tryz.underlying3 Tryz.underlying5,ew,gN Tryz.underlying22 bh gR]
   refine a9 Tryz.underlying22 bh gh gR rfl ho (by simp only[aa,↓reduceIte,Nat.reduceEqDiff]) (by decide) (by simp only[ae,hn];decide) (by simp only[ae,hn];decide) (by rfl) (by decide) rfl (by omega) (by omega) hF (by have:=aA.next;omega) ?_
   intro bs o' t4 j8 vE iH _ _
   simp-implicitDefEqProofs(disch:=omega)only[ai,Nat.reduceLT,↓reduceIte,hn]
   exact go2 _ _ _ (by simp only[ae,hn]) (by simp only[aa,↓reduceIte,Nat.reduceEqDiff,h2]) (by simp only[aa,↓reduceIte,Nat.reduceEqDiff,h8]) (by simp only[aa,↓reduceIte]) (by simp only[aa,↓reduceIte,Nat.reduceEqDiff,dz]) (by simp only[aa,↓reduceIte,Nat.reduceEqDiff]) (by simp only[aa,↓reduceIte,Nat.reduceEqDiff,GF]) (by simp only[aa,↓reduceIte,Nat.reduceEqDiff,GG]) (by simp only[aa,↓reduceIte,Nat.reduceEqDiff,CN]) (by rw[ec,List.length_append,aK];exact j8) vE (aA.trans iH)
  clear hn h2 h6 h8 f
  rintro z f t ⟨rfl,o,ho,hF,aA,hn,h9⟩
  rw[hqn] at ho
  simp-implicitDefEqProofs(disch:=omega)only[ai,al,oneOf,Nat.reduceLT,Nat.reduceEqDiff,↓reduceIte,hn,h9,Tryz.results82]
  exact⟨o,rfl,⟨ho,fun j hj=>by have:=hF j hj;have:=h03.next;omega,h03.trans (aA.weaken h03.next)⟩⟩
 by_cases Rc:p=15
 ·have eT:T=2:=by rw[TY];unfold mY;rw[if_pos Rc]
  simp-implicitDefEqProofs(disch:=omega)only[ai,Nat.reduceLT,↓reduceIte,hn,eq_true Rc]
  exact go _ (by simp only[ae,hn]) (by simp only[aa,↓reduceIte,Nat.reduceEqDiff]) (by simp only[aa,↓reduceIte,Nat.reduceEqDiff]) (by simp only[aa,↓reduceIte,eT])
 by_cases Mf:10<=p
 ·have eT:T=p-10:=by rw[TY];unfold mY;rw[if_neg Rc,if_pos Mf]
  simp-implicitDefEqProofs(disch:=omega)only[ai,Nat.reduceLT,Nat.reduceEqDiff,↓reduceIte,hn,qQ,q0 _ ij,eq_false Rc,eq_true Mf,aD]
  exact go _ (by simp only[ae,hn]) (by simp only[aa,↓reduceIte,Nat.reduceEqDiff]) (by simp only[aa,↓reduceIte,Nat.reduceEqDiff]) (by simp only[aa,↓reduceIte,eT])
 ·have eT:T=1:=by rw[TY];unfold mY;rw[if_neg Rc,if_neg Mf]
  simp-implicitDefEqProofs(disch:=omega)only[ai,Nat.reduceLT,Nat.reduceEqDiff,↓reduceIte,hn,qQ,q0 _ ij,eq_false Rc,eq_false Mf]
  exact go _ (by simp only[ae,hn]) (by simp only[aa,↓reduceIte,Nat.reduceEqDiff]) (by simp only[aa,↓reduceIte,Nat.reduceEqDiff]) (by simp only[aa,↓reduceIte,Nat.reduceEqDiff,eT])
end Go.Proofs.YtdfjfncifneocaaGreat
