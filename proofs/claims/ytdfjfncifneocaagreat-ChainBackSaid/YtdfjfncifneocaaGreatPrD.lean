import Derived.Test.YtdfjfncifneocaaGreatCosJ
open _root_ renaming reduceIte->ab,List->ao,UInt8->a4,Nat->a9,Int->bg,eq_false->bk,decide_eq_true->bl,if_neg->bo,decide_eq_false->bq,if_pos->bz,eq_true->ca,and_self->c6
open Go.Proofs.Tryz renaming prog->af,underlying22->an,underlying137->a8,underlying23->bb,results82->b5,underlying26->b8,underlying58->cb,underlying5->cd,results61->cv,underlying24->cA,underlying3->c4
open Go renaming Value->av
open List renaming getD_eq_getElem?_getD->a0,length_append->b4,length_drop->cg,take_of_length_le->cp,drop_zero->cz,flatten_cons->cB,getElem_mem->c3,drop_drop->c7,all_cons->c9,map_cons->ds
open Int renaming toNat_natCast->a5
open Nat renaming le_refl->a6,mul_le_mul_right->a7,le_mul_of_pos_right->cm,zero_mul->cH,succ_mul->c0,div_add_mod->c5,mul_le_mul->c8,reduceSub->dd,sub_self->dt,mul_comm->dE,le_trans->dO
open Option renaming none->b7
open Nat renaming reduceLT->QS,reduceEqDiff->Qx
set_option maxHeartbeats 8000000
set_option linter.unusedSimpArgs false
set_option linter.unusedVariables false
set_option maxRecDepth 100000
namespace Go.Cl
theorem dy.aK {F:a9->Prop}{s s' :aq}{cs:ao av}{o:O}{i:a9}(h:dy F s cs o)(h1:s'.next=s.next)(h2:∀q,q≠i->s'.heap.get q=s.heap.get q)(hF:¬F i):dy F s' cs o:=
 h.turns (u:= .pointer (some ⟨i,0,b7⟩)) (bt.aK h1 h2) (fun j hj e=>by
  have e:some i=some j:=e
  injection e with e;subst e;exact hF hj)
theorem dy.bare (F:a9->Prop)(s:aq)(k n:bg):dy F s [.int .i64 k,.int .i64 n,.slice b7 0 0,.slice b7 0 0,.slice b7 0 0] (.mk k n [] [] []):=
 dy.whole .nil .nil .nil trivial trivial trivial aU.nil aU.nil
theorem Small.bare (k n:bg):Small (.mk k n [] [] []):= .mk (by simp) (by simp) (by simp) (fun e h=>by cases h) (fun e h=>by cases h) (fun e h=>by cases h)
theorem Small.none:Small O.none:=Small.bare 0 0
def mS (d:ao (ao a4×O))(k:ao a4):O:=match d.find? (fun y=>y.1==k) with
 |some e=>e.2
 |b7=>O.none
def fV (o:O)(k:ao a4):O:=if o.has then mS o.xO k else O.none
theorem WY {d:ao (ao a4×O)}{k:ao a4}{i:a9}(hi:i<d.length)(h1:d[i].1=k)(h2:∀j (h:j<i),d[j].1≠k):mS d k=d[i].2:=by
 unfold mS
 have:d.find? (fun y=>y.1==k)=some d[i]:=by
  rw[List.find?_eq_some_iff_getElem]
  refine⟨by simpa using h1,i,hi,rfl,fun j hj=> ?_⟩
  have:=h2 j hj
  simpa using this
 rw[this]
theorem OS {d:ao (ao a4×O)}{k:ao a4}(h2:∀j (h:j<d.length),d[j].1≠k):mS d k=O.none:=by
 unfold mS
 have:d.find? (fun y=>y.1==k)=none:=by
  rw[List.find?_eq_none]
  intro y hy
  obtain⟨j,hj,rfl⟩:=List.mem_iff_getElem.1 hy
  simpa using h2 j hj
 rw[this]
end Go.Cl
namespace Go.Proofs.YtdfjfncifneocaaGreat
open Go.Cl Go.Lib
structure aay (lib:aA):Prop where
 set:lib.at 139=none
 pair:lib.at 88=none
 sorted:lib.at 176=none
 c1:lib.at 204=none
 c2:lib.at 205=none
 del:lib.at 206=none
 idx:lib.at 203=none
 Jl:lib.at 207=none
 ah8:lib.at 177=none
 cmp:lib.at 208=none
 amC:lib.at 219=none
 Z8:lib.at 224=some iX
 entries:lib.at 97=none
 copy:lib.at 98=none
 clone:lib.at 36=none
 amD:lib.at 85=none
 stream:lib.at 48=none
 get:lib.at 61=none
 int:lib.at 140=none
 nothing:lib.at 99=none
 arr:lib.at 89=none
 name:lib.at 86=none
theorem amE {lib:aA}(L:aay lib)(F:a9->Prop)(s:aq)(cs:ao av)(o:O)(ho:dy F s cs o)(nM:Small o)(x:av)(l:ao (ao a4×O))(lx:ao av)(hx:aN s 6 x l.length lx)(hL:aU dz 6 F s l lx)(hLn:l.length<=100000)(F3:∀e∈l,Small e.2):
  Runs af lib 139 [.agg cs.toArray,x] s (lK s (Tg o l)):=
 aaw L.set L.pair L.entries L.copy L.clone L.sorted L.c1 L.c2 L.del L.idx L.Jl L.ah8 L.cmp L.amC L.Z8 F s cs o ho nM x l lx hx hL hLn F3
theorem bO (k n:bg):cC af 26 [(0,.int .i64 k),(1,.int .i64 n)]=some (.agg #[.int .i64 k,.int .i64 n,.slice none 0 0,.slice none 0 0,.slice none 0 0]):=by
 unfold cC;rw[b8]
 have hz:bV af 26=some (.agg #[.int .i64 0,.int .i64 0,.slice none 0 0,.slice none 0 0,.slice none 0 0]):=by kernel_rfl
 rw[hz]
 have ci:∀k n,(Value.int k n).cells= #[.int k n]:=fun _ _=>rfl
 simp[bA,xW,fT,DL,DM,bN,gQ,fG,placeOf,bS,setAt,ci]
theorem bO1 (k:bg):cC af 26 [(0,.int .i64 k)]=some (.agg #[.int .i64 k,.int .i64 0,.slice none 0 0,.slice none 0 0,.slice none 0 0]):=by
 unfold cC;rw[b8]
 have hz:bV af 26=some (.agg #[.int .i64 0,.int .i64 0,.slice none 0 0,.slice none 0 0,.slice none 0 0]):=by kernel_rfl
 rw[hz]
 have ci:∀k n,(Value.int k n).cells= #[.int k n]:=fun _ _=>rfl
 simp[bA,xW,fT,DL,DM,bN,gQ,fG,placeOf,bS,setAt,ci]
theorem bO0:cC af 26 []=some (.agg #[.int .i64 0,.int .i64 0,.slice none 0 0,.slice none 0 0,.slice none 0 0]):=by kernel_rfl
theorem bO2 (k:bg){b:av}(hb:b.cells.toList=[b]):cC af 26 [(0,.int .i64 k),(2,b)]=some (.agg #[.int .i64 k,.int .i64 0,b,.slice none 0 0,.slice none 0 0]):=by
 unfold cC;rw[b8]
 have hz:bV af 26=some (.agg #[.int .i64 0,.int .i64 0,.slice none 0 0,.slice none 0 0,.slice none 0 0]):=by kernel_rfl
 rw[hz]
 have ci:∀k n,(Value.int k n).cells= #[.int k n]:=fun _ _=>rfl
 simp[bA,xW,fT,DL,DM,bN,gQ,fG,placeOf,bS,setAt,ci,hb]
theorem lK.put {s t t' :aq}{i:a9}{F:a9->Prop}{cs:ao av}{o:O}(h:dy F t cs o)(hF:∀j,F j->s.next<=j/\j≠i)(h1:t'.next=t.next)(h2:∀q,q≠i->t'.heap.get q=t.heap.get q)(hs:ar s.next s t)(hi:s.next<=i):lK s o (.agg cs.toArray) t' :=
 ⟨cs,rfl,(h.aK h1 h2 (fun q=>(hF i q).2 rfl)).mono (fun j hj=>(hF j hj).1),hs.trans ⟨by omega,fun j hj=>h2 j (by omega)⟩⟩
theorem ax.gl {s:aq}{i:a9}{cs:ao av}(h:ax s i cs)(hl:cs.length=5):aJ af s 26 (.pointer (some ⟨i,0,some 6⟩))=some (.agg cs.toArray):=ax.bF Hv (by rw[hl];exact iL) h (by rw[hl])
theorem DX {lib:aA}(hl:lib.at 99=none)(s:aq):Runs af lib 99 [] s (lK s O.none):=by
 refine Runs.enter 2 Tryz.func99 rfl hl rfl rfl ?_
 intro f hn _
 simp only[aj,↓ab,zO,wD]
 refine aw ?_
 intro s1 eK bn iV
 have mh:de.length+1=6:=rfl
 simp only[aj,ae,QS,Qx,↓ab,hn,mh,bO0]
 refine aB iL (by decide) eK rfl rfl rfl rfl ?_
 intro s2 dD m8 aei
 simp only[aj,al,oneOf,QS,Qx,↓ab,hn,ax.gl dD rfl,aV,Tryz.results99]
 exact lK.put (F:=fun _=>False) (dy.none _ s1) (fun j hj=>hj.elim) m8 aei bn (a6 _)
theorem BE {lib:aA}(hl:lib.at 140=none)(s:aq)(n:bg):Runs af lib 140 [.int .i64 n] s (lK s (.mk 2 n [] [] [])):=by
 refine Runs.enter 5 Tryz.func140 rfl hl rfl rfl ?_
 intro f hn hf
 have h0:f.get 0= .int .i64 n:=hf 0
 clear hf
 simp only[aj,↓ab,zO,wD]
 refine aw ?_
 intro s1 eK bn iV
 have mh:de.length+1=6:=rfl
 simp only[aj,ae,QS,Qx,↓ab,hn,h0,mh,bO]
 refine aB iL (by decide) eK rfl rfl rfl rfl ?_
 intro s2 dD m8 aei
 simp only[aj,al,oneOf,QS,Qx,↓ab,hn,ax.gl dD rfl,aV,Tryz.results140]
 exact lK.put (F:=fun _=>False) (dy.bare _ s1 2 n) (fun j hj=>hj.elim) m8 aei bn (a6 _)
theorem LX {lib:aA}(L:aay lib)(F:a9->Prop)(s:aq)(x:av)(l:ao (ao a4×O))(lx:ao av)(hx:aN s 6 x l.length lx)(hL:aU dz 6 F s l lx)(hLn:l.length<=100000)(F3:∀e∈l,Small e.2):
  Runs af lib 85 [x] s (lK s (.mk 7 0 [] [] (cV [] l))):=by
 refine Runs.enter 6 Tryz.func85 rfl L.amD rfl rfl ?_
 intro f hn hf
 have h0:f.get 0=x:=hf 0
 clear hf
 simp only[aj,↓ab,zO,wD]
 refine aw ?_
 intro s1 eK bn iV
 have mh:de.length+1=6:=rfl
 simp only[aj,ak,aa,ae,QS,Qx,↓ab,hn,h0,mh,bO1]
 refine(amE L F s1 _ _ (dy.bare F s1 7 0) (Small.bare 7 0) x l lx (hx.keeps bn) (hL.keeps fa bn) hLn F3).mono ?_
 rintro _ s2 ⟨ji,rfl,fN,aR⟩
 have jS:=fN.len
 simp only[aj,QS,Qx,↓ab,hn]
 refine aB iL (by decide) (eK.keeps aR) rfl rfl jS fN.ok ?_
 intro s3 jM Dw FN
 simp only[aj,al,oneOf,QS,Qx,↓ab,hn,ax.gl jM jS,aV,Tryz.results85]
 exact lK.put fN (fun j hj=>⟨by omega,by omega⟩) Dw FN (bn.trans (aR.weaken bn.next)) (a6 _)
theorem WZ {lib:aA}(hl:lib.at 86=none)(s:aq)(b:ao a4)(hb:b.length<=4294967296):Runs af lib 86 [.string ⟨b.toArray⟩] s (lK s (.mk 5 0 b [] [])):=by
 refine Runs.enter 6 Tryz.func86 rfl hl rfl rfl ?_
 intro f hn hf
 have h0:f.get 0= .string ⟨b.toArray⟩:=hf 0
 clear hf
 simp only[aj,↓ab,zO,wD]
 refine aw ?_
 intro s1 eK bn iV
 have mh:de.length+1=6:=rfl
 simp(disch:=omega)only[aj,QS,Qx,↓ab,hn,h0,mh,SA (s:=s1) (a:=b) Tryz.underlying9 an cd]
 refine aQ (by simp[bM]) ?_
 intro w s2 hw yD aR
 have dH:=hw.aG.aL
 simp only[aj,ae,QS,Qx,↓ab,hn,bO2 5 hw.aG.tk]
 refine aB iL (by decide) (eK.keeps aR) rfl rfl rfl (by simp only[c9,List.all_nil,dH];rfl) ?_
 intro s3 jM Dw FN
 simp only[aj,al,oneOf,QS,Qx,↓ab,hn,ax.gl jM rfl,aV,Tryz.results86]
 exact lK.put (F:=fun j=>s1.next<=j) (cs:=[.int .i64 5,.int .i64 0,w,.slice none 0 0,.slice none 0 0]) (dy.whole hw.aG .nil .nil (gu.fresh yD) trivial trivial aU.nil aU.nil) (fun j hj=>⟨by omega,by omega⟩) Dw FN (bn.trans (aR.weaken bn.next)) (a6 _)
theorem OT {lib:aA}(L:aay lib)(F:a9->Prop)(s:aq)(y:av)(b:ao a4)(hy:aN s 1 y b.length (ofBytes b))(hb:b.length<=4294967296)(x:av)(l:ao (ao a4×O))(lx:ao av)(hx:aN s 6 x l.length lx)(hL:aU dz 6 F s l lx)(hLn:l.length<=100000)(F3:∀e∈l,Small e.2):
  Runs af lib 48 [y,x] s (lK s (.mk 8 0 b [] (cV [] l))):=by
 refine Runs.enter 13 Tryz.func48 rfl L.stream rfl rfl ?_
 intro f hn hf
 have h0:f.get 0=y:=hf 0
 have h1:f.get 1=x:=hf 1
 clear hf
 simp only[aj,↓ab,zO,wD]
 refine aw ?_
 intro s1 eK bn iV
 have mh:de.length+1=6:=rfl
 simp only[aj,ak,aa,QS,Qx,↓ab,hn,h1,mh]
 refine(LX L F s1 x l lx (hx.keeps bn) (hL.keeps fa bn) hLn F3).mono ?_
 rintro _ s2 ⟨ji,rfl,fN,aR⟩
 obtain⟨bv,lv,dv,lc,dc,rfl,dI,g7,vC,fb,fl,fd,rl,rd⟩:=fN.aai.parts
 simp only[aj,QS,↓ab,hn,zO,wD]
 refine aw ?_
 intro s3 jM bC Dw
 simp only[aj,QS,Qx,↓ab,hn,mh]
 refine aB iL (by decide) jM rfl rfl rfl fN.ok ?_
 intro s4 gv sl oD
 have gv:ax s4 s2.next [.int .i64 7,.int .i64 0,bv,lv,dv]:=gv
 have aaz:ar s2.next s2 s4:=bC.trans ⟨by omega,fun j hj=>oD j (by omega)⟩
 have amF:ar s.next s s4:=(bn.trans (aR.weaken bn.next)).trans (aaz.weaken (by have:=bn.next;have:=aR.next;omega))
 simp only[aj,ak,aa,QS,Qx,↓ab,hn,h0]
 refine(Hy L.clone s4 y b (hy.keeps amF) (by omega)).mono ?_
 rintro w s5 ⟨hw,yD,ry⟩
 have dH:=hw.aG.aL
 have hn5:=ry.next
 have ar9:=aaz.next
 have g8:=bn.next
 have g9:=aR.next
 have asa:=gv.lt
 simp only[aj,QS,Qx,↓ab,hn,F2]
 refine qV bA (by decide) (gv.keeps ry) (off:=0) (c:=6) rfl (vs:=[.int .i64 8]) rfl rfl (by simp) rfl ?_
 intro s6 Q5 aej ah9
 have Q5:ax s6 s2.next [.int .i64 8,.int .i64 0,bv,lv,dv]:=Q5
 simp only[aj,QS,Qx,↓ab,hn,of2]
 refine qV fT (by decide) Q5 (off:=2) (c:=6) rfl (vs:=[w]) hw.aG.tk rfl (by simp) (by simp[dH]) ?_
 intro s7 uD rp vX
 have uD:ax s7 s2.next [.int .i64 8,.int .i64 0,w,lv,dv]:=uD
 have DV:ar s2.next s2 s7:=(aaz.trans (ry.weaken aaz.next)).trans ⟨by omega,fun j hj=>by rw[vX j (by omega),ah9 j (by omega)]⟩
 have aia:ar s1.next s1 s7:=aR.trans (DV.weaken g9)
 have hw7:Own s7 1 w b.length (ofBytes b):=(hw.aK aej ah9 (fun e=>by have:=yD _ e;omega)).aK rp vX (fun e=>by have:=yD _ e;omega)
 have hG:∀j,s1.next<=j/\j<s2.next->s1.next<=j:=fun j hj=>hj.1
 have Bj:dy (fun j=>s1.next<=j) s7 [.int .i64 8,.int .i64 0,w,lv,dv] (.mk 8 0 b [] (cV [] l)):=dy.whole hw7.aG (g7.keeps DV) (vC.keeps DV) (gu.Wu (fun j hj=>by have:=yD j hj;omega)) (fl.mono hG) (fd.mono hG) ((rl.mono cK hG).keeps cK DV) ((rd.mono fa hG).keeps fa DV)
 simp only[aj,QS,Qx,↓ab,hn,ax.gl uD rfl]
 refine aB iL (by decide) (eK.keeps aia) rfl rfl rfl Bj.ok ?_
 intro s8 vd WG Jj
 simp only[aj,al,oneOf,QS,Qx,↓ab,hn,ax.gl vd rfl,aV,Tryz.results48]
 exact lK.put Bj (fun j hj=>⟨by omega,by omega⟩) WG Jj (bn.trans (aia.weaken g8)) (a6 _)
theorem aaB {lib:aA}(hl:lib.at 61=none)(hle:lib.at 97=none)(jL:lib.at 98=none)(Bf:lib.at 36=none)(zP:lib.at 99=none)(F:a9->Prop)(s:aq)(cs:ao av)(o:O)(ho:dy F s cs o)(nM:Small o)(k:ao a4):
  Runs af lib 61 [.agg cs.toArray,.string ⟨k.toArray⟩] s (lK s (fV o k)):=by
 have jS:=ho.len
 refine Runs.enter 25 Tryz.func61 rfl hl rfl rfl ?_
 intro f hn hf
 have h0:f.get 0= .agg cs.toArray:=hf 0
 have h1:f.get 1= .string ⟨k.toArray⟩:=hf 1
 clear hf
 simp only[aj,QS,↓ab,hn,h0]
 refine aw ?_
 intro s1 eK bn iV
 have mh:de.length+1=6:=rfl
 simp only[aj,QS,Nat.reduceAdd,↓ab,hn,jS,zO,wD]
 refine aw ?_
 intro s2 dD aR m8
 have cR:ar s.next s s2:=bn.trans (aR.weaken (by omega))
 have vV:=eK.keeps aR
 simp only[aj,ak,aa,QS,Qx,↓ab,hn,ax.gl vV jS,mh]
 refine(AJ hle F s2 cs o (ho.keeps cR)).mono ?_
 rintro _ s3 ⟨rfl,bC⟩
 have LL:=vV.keeps bC
 have asc:=dD.keeps bC
 have fB:=cR.trans (bC.weaken cR.next)
 cases hh:o.has with
 |false=>
  have e:fV o k=O.none:=by unfold fV;rw[hh];rfl
  rw[e]
  simp only[aj,ak,aa,QS,↓ab,hn]
  refine(DX zP s3).mono ?_
  rintro _ q4 ⟨ji,rfl,wz,hq4⟩
  have W0:=wz.len
  have q24:=(bC).trans (hq4.weaken (bC).next)
  have g8:=bn.next
  have g9:=cR.next
  have mQ:=(bC).next
  simp only[aj,QS,Qx,↓ab,hn]
  refine aB iL (by decide) (dD.keeps q24) rfl rfl W0 wz.ok ?_
  intro q5 wE OM Bi
  simp only[aj,al,oneOf,QS,Qx,↓ab,hn,ax.gl wE W0,aV,cv]
  exact lK.put wz (fun j hj=>⟨by omega,by omega⟩) OM Bi (cR.trans (q24.weaken cR.next)) g8
 |true=>
 cases o with
 |mk kind num b l d=>
 obtain⟨bv,lv,dv,lc,dc,rfl,hb,hL,hD,fb,fl,fd,rl,rd⟩:=ho.parts
 cases nM with
 |mk gL g7 uR hK1 hL1 hD1=>
 have hg:fV (.mk kind num b l d) k=mS d k:=by unfold fV;rw[hh];rfl
 have LZ:=hD.keeps fB
 have l9:aJ af s3 24 (.pointer (some ⟨s.next,4,some 6⟩))=some dv:=LL.load aaj (off:=4) (c:=6) rfl (by simp)
 simp only[aj,aa,QS,Qx,↓ab,hn,of4,l9,LZ.bm cA]
 refine Comes.bQ (fun z f t=>∃i:a9,z=d.length-i/\i<=d.length/\(∀j (h:j<d.length),j<i->d[j].1≠k)/\ar s2.next s2 t/\f.n=25/\f.get 1= .string ⟨k.toArray⟩/\f.get 4= .pointer (some ⟨s1.next,0,some 6⟩)/\f.get 10=dv/\f.get 11= .int .i64 (d.length:a9)/\f.get 12= .int .i64 (i:a9))
  (fun z f t=>(z= .ret/\f.n=25/\f.get 4= .pointer (some ⟨s1.next,0,some 6⟩)/\∃ji,ax t s1.next ji/\dy (fun j=>s2.next<=j) t ji (fV (.mk kind num b l d) k)/\ar s.next s t)\/(z= .exit 0/\f.n=25/\f.get 4= .pointer (some ⟨s1.next,0,some 6⟩)/\fV (.mk kind num b l d) k=O.none/\ar s2.next s2 t))
  ⟨0,rfl,by omega,fun j h h' =>by omega,bC,by simp only[ad,ag,↓ab,Qx,hn,h1,true_and];rfl⟩ ?_ ?_
 ·clear hn h0 h1 f
  rintro Q hQ z f t ⟨i,rfl,hi,hP,aE,hn,h1,h4,eX,sq,rX⟩
  by_cases bd:i<d.length
  rotate_left
  ·obtain rfl:i=d.length:=by omega
   have d1:¬((d.length:a9):bg)<((d.length:a9):bg):=by omega
   simp only[aj,ak,QS,↓ab,hn,sq,rX,bk d1]
   exact hQ _ _ _ (.inr ⟨rfl,by simp only[ag,hn],by simp only[ad,↓ab,Qx,h4],by rw[hg];exact OS (fun j h=>hP j h h),aE⟩)
  have d1:(i:bg)<(d.length:bg):=by omega
  have Tp:ar s.next s t:=cR.trans (aE.weaken cR.next)
  have hDt:=hD.keeps Tp
  have gB:=hDt.indexAddr (P:=af) (k:= .i64) (x:=(i:bg)) cA qq (by omega) (by omega)
  rw[a5] at gB
  have wJ:=hDt.fJ (P:=af) Tc qq bd
  obtain⟨r,pd,gx,A8⟩:=rd.row i bd
  have mO:=gx.len
  rw[pd] at wJ
  obtain⟨xs,wA⟩:∃xs,xs=Value.string ⟨(d[i].1).toArray⟩::r:=⟨_,rfl⟩
  rw[<-wA] at wJ
  have uM:xs.length=6:=by rw[wA];simp[mO]
  have WK:xs.all aL=true:=by rw[wA,c9,gx.ok];rfl
  have hd7:xV.length+1=7:=rfl
  simp only[aj,ak,QS,Qx,↓ab,hn,eX,sq,rX,ca d1,gB,wJ,zE,Td]
  refine aw ?_
  intro t1 aee AK ah3
  simp only[aj,QS,Qx,↓ab,hn,hd7]
  refine aB qq (by decide) aee rfl rfl uM WK ?_
  intro t2 Jo ah4 WV
  have Jo:ax t2 t.next xs:=Jo
  have LV:ar t.next t t2:=AK.trans ⟨by omega,fun j hj=>WV j (by omega)⟩
  have l17:aJ af t2 9 (.pointer (some ⟨t.next,0,some 7⟩))=some (.string ⟨(d[i].1).toArray⟩):=by
   have:=Jo.load (P:=af) LH (off:=0) (c:=7) (by rw[uM]) (by omega)
   rw[this,wA];rfl
  have l21:aJ af t2 26 (.pointer (some ⟨t.next,1,some 7⟩))=some (.agg r.toArray):=by
   have:=ax.uj (P:=af) Hv iL Jo (off:=1) (c:=7) (by rw[uM]) (by omega)
   rw[this,wA,List.drop_succ_cons,cz,cp (by omega)]
  have F4:ar s2.next s2 t2:=aE.trans (LV.weaken aE.next)
  have WU:ar s.next s t2:=cR.trans (F4.weaken cR.next)
  by_cases hke:d[i].1=k
  ·have amH:Small d[i].2:=hD1 _ (c3 bd)
   simp only[aj,ak,aa,QS,Qx,↓ab,hn,h1,WD,aal,l17,kJ,l21,bl hke]
   refine(Q3 jL Bf _ d[i].2 (a6 _) F t2 _ (gx.keeps WU) amH).mono ?_
   intro v t3 h3
   obtain⟨ji,rfl,ou,gj⟩:=h3.is
   have DW:=ou.len
   have aic:ar s2.next s2 t3:=F4.trans (gj.weaken F4.next)
   have ase:=F4.next
   simp only[aj,QS,Qx,↓ab,hn,h4]
   refine aB iL (by decide) (dD.keeps aic) rfl rfl DW ou.ok ?_
   intro t4 gv sl oD
   simp only[aj]
   have g8:=bn.next
   refine hQ _ _ _ (.inl ⟨rfl,by simp only[ag,hn],by simp only[ad,↓ab,Qx,h4],ji,gv,?_,(cR.trans (aic.weaken cR.next)).trans ⟨by omega,fun j hj=>oD j (by omega)⟩⟩)
   rw[hg,WY bd hke (fun j hj=>hP j (by omega) hj)]
   exact(ou.aK sl oD (by omega)).mono (fun j hj=>by omega)
  ·simp(disch:=omega)only[aj,QS,Qx,↓ab,hn,h1,rX,WD,l17,kJ,bq hke,aD]
   refine ay (d.length-(i+1)) (by omega) ⟨i+1,rfl,by omega,fun j h hj=> ?_,F4,by simp only[ag,hn],by simp only[ad,↓ab,Qx,h1],by simp only[ad,↓ab,Qx,h4],by simp only[ad,↓ab,Qx,eX],by simp only[ad,↓ab,Qx,sq],by simp only[ad,↓ab];rfl⟩
   by_cases gR:j=i
   ·subst gR;exact hke
   ·exact hP j h (by omega)
 clear hn h0 h1 f
 rintro z f t (⟨rfl,hn,h4,ji,gv,wz,dX⟩|⟨rfl,hn,h4,Qi,aE⟩)
 ·simp only[aj,al,oneOf,QS,↓ab,hn,h4,ax.gl gv wz.len,aV,cv]
  have:=cR.next
  exact⟨ji,rfl,wz.mono (fun j hj=>by omega),dX⟩
 ·rw[Qi]
  have Tp:ar s.next s t:=cR.trans (aE.weaken cR.next)
  simp only[aj,ak,aa,↓ab]
  refine(DX zP t).mono ?_
  rintro _ q4 ⟨ji,rfl,wz,hq4⟩
  have W0:=wz.len
  have q24:=(aE).trans (hq4.weaken (aE).next)
  have g8:=bn.next
  have g9:=cR.next
  have mQ:=(aE).next
  simp only[aj,QS,Qx,↓ab,hn,h4]
  refine aB iL (by decide) (dD.keeps q24) rfl rfl W0 wz.ok ?_
  intro q5 wE OM Bi
  simp only[aj,al,oneOf,QS,Qx,↓ab,hn,h4,ax.gl wE W0,aV,cv]
  exact lK.put wz (fun j hj=>⟨by omega,by omega⟩) OM Bi (cR.trans (q24.weaken cR.next)) g8
theorem Jq {lib:aA}(hl:lib.at 89=none)(jL:lib.at 98=none)(Bf:lib.at 36=none)(F:a9->Prop)(s:aq)(x:av)(l:ao O)(lc:ao av)(hx:aN s 5 x l.length lc)(rl:aU dy 5 F s l lc)(zP:l.length<=100000)(hL1:∀o∈l,Small o):
  Runs af lib 89 [x] s (lK s (.mk 6 0 [] l [])):=by
 refine Runs.enter 22 Tryz.func89 rfl hl rfl rfl ?_
 intro f hn hf
 have h0:f.get 0=x:=hf 0
 clear hf
 simp only[aj,↓ab,zO,wD]
 refine aw ?_
 intro s1 eK bn iV
 have mh:de.length+1=6:=rfl
 simp only[aj,ae,QS,↓ab,hn,mh,bO1,zO,wD]
 refine aw ?_
 intro s2 dD aR m8
 simp only[aj,QS,Qx,↓ab,hn,mh]
 refine aB iL (by decide) dD rfl rfl rfl rfl ?_
 intro s3 jM Dw FN
 have jM:ax s3 s1.next [.int .i64 6,.int .i64 0,.slice none 0 0,.slice none 0 0,.slice none 0 0]:=jM
 have aaC:ar s1.next s1 s3:=aR.trans ⟨by omega,fun j hj=>FN j (by omega)⟩
 have fB:ar s.next s s3:=bn.trans (aaC.weaken (by omega))
 have LL:=eK.keeps aaC
 have hx3:=hx.keeps fB
 have g8:=bn.next
 have asf:=aaC.next
 have aid:=jM.lt
 simp only[aj,aa,QS,Qx,↓ab,hn,h0,hx3.bm bb]
 obtain⟨FF,UE⟩:∃FF:av->a9->Prop,FF=fun v j=>s3.next<=j/\¬(fun _=>False) j/\aI v≠some j:=⟨_,rfl⟩
 refine Comes.bQ (fun z f t=>∃(i:a9) (y:av) (LC:ao av),z=l.length-i/\i<=l.length/\Own t 5 y i LC/\aU dy 5 (FF y) t (l.take i) LC/\aF s3.next y/\ax t s1.next [.int .i64 6,.int .i64 0,.slice none 0 0,y,.slice none 0 0]/\ar s1.next s1 t/\s3.next<=t.next/\f.n=22/\f.get 2= .pointer (some ⟨s.next,0,some 6⟩)/\f.get 3= .pointer (some ⟨s1.next,0,some 6⟩)/\f.get 7=x/\f.get 8= .int .i64 (l.length:a9)/\f.get 9= .int .i64 (i:a9))
  (fun z f t=>z= .exit 0/\∃(y:av) (LC:ao av),Own t 5 y l.length LC/\aU dy 5 (FF y) t l LC/\aF s3.next y/\ax t s1.next [.int .i64 6,.int .i64 0,.slice none 0 0,y,.slice none 0 0]/\ar s1.next s1 t/\f.n=22/\f.get 2= .pointer (some ⟨s.next,0,some 6⟩)/\f.get 3= .pointer (some ⟨s1.next,0,some 6⟩))
  ⟨0,.slice none 0 0,[],rfl,by omega,.nil,by rw[List.take_zero];exact aU.nil,aF.nil _,jM,aaC,a6 _,by simp only[ad,ag,↓ab,Qx,hn,true_and];rfl⟩ ?_ ?_
 ·clear hn h0 f
  rintro Q hQ z f s6 ⟨i,y,LC,rfl,hi,hy,hR,kN,kZ,dY,YU,hn,h2,h3,h7,h8,h9⟩
  have ack:ar s.next s s6:=bn.trans (dY.weaken g8)
  have WE:=hx.keeps ack
  by_cases bd:i<l.length
  rotate_left
  ·obtain rfl:i=l.length:=by omega
   rw[List.take_length] at hR
   have d1:¬((l.length:a9):bg)<((l.length:a9):bg):=by omega
   simp only[aj,QS,↓ab,hn,h8,h9,bk d1]
   exact hQ _ _ _ ⟨rfl,y,LC,hy,hR,kN,kZ,dY,by simp only[ad,ag,↓ab,Qx,hn,h2,h3,c6]⟩
  have wQ:aI y≠some s1.next:=fun e=>by have:=kN _ e;omega
  have d1:(i:bg)<(l.length:bg):=by omega
  have gB:=WE.indexAddr (P:=af) (k:= .i64) (x:=(i:bg)) bb iL (by omega) (by omega)
  rw[a5] at gB
  have fz:=WE.fJ (P:=af) Hv iL bd
  have vW:=(rl.row i bd).keeps ack
  obtain⟨xs,wA⟩:∃xs,xs=(lc.drop (i*5)).take 5:=⟨_,rfl⟩
  rw[<-wA] at fz vW
  have uM:=vW.len
  simp only[aj,QS,Qx,↓ab,hn,h7,h8,h9,ca d1,gB,fz,zO,wD]
  refine aw ?_
  intro s7 uD jX rp
  simp only[aj,QS,Qx,↓ab,hn,mh]
  refine aB iL (by decide) uD rfl rfl uM vW.ok ?_
  intro s8 vd WG Jj
  have vd:ax s8 s6.next xs:=vd
  have iY:ar s6.next s6 s8:=jX.trans ⟨by omega,fun j hj=>Jj j (by omega)⟩
  have kZ:=kZ.keeps iY
  have hy:=hy.keeps iY
  have hR:=hR.keeps cK iY
  have vW:=vW.keeps iY
  simp only[aj]
  obtain⟨A,hA⟩:∃A:a9->Bool,A=fun j=>decide (j<s8.next):=⟨_,rfl⟩
  have iU:∀j,A j=true->j<s8.next:=by
   intro j h
   rw[hA] at h
   exact of_decide_eq_true h
  have vM:∀j,j<s8.next->A j=true:=fun j h=>by rw[hA];exact bl h
  refine LB.cX.fi A iU 1 1 (by kernel_rfl) (by kernel_rfl) ?_
  have dC:=ar.spare s8 1
  have UD:(spare s8 1).next=s8.next+1:=bU _ _
  have AG:∀k,LA.ej A (some (.pointer (some ⟨s1.next,k,some 6⟩)))=true:=fun k=>LA.cr (A:=A) (i:=s1.next) (vM _ kZ.lt)
  have Hz:∀k,LA.ej A (some (.pointer (some ⟨s6.next,k,some 6⟩)))=true:=fun k=>LA.cr (A:=A) (i:=s6.next) (vM _ vd.lt)
  have l8:aJ af (spare s8 1) 23 (.pointer (some ⟨s1.next,3,some 6⟩))=some y:=(kZ.keeps dC).load Ww (off:=3) (c:=6) rfl (by simp)
  have l9:aJ af (spare s8 1) 26 (.pointer (some ⟨s6.next,0,some 6⟩))=some (.agg xs.toArray):=ax.bF Hv (by rw[uM];exact iL) (vd.keeps dC) (by rw[uM])
  have vW:=vW.keeps dC
  simp only[aj,ak,bH,bI,dt,aa,ae,QS,Qx,↓ab,hn,h3,of3,AG,Hz,l8,l9,hy.self,vW.self]
  refine(Q3 jL Bf _ l[i] (a6 _) F (spare s8 1) _ vW (hL1 _ (c3 bd))).mono ?_
  intro v9 s9 h9'
  obtain⟨WH,rfl,Bj,rq⟩:=h9'.is
  have hn9:=rq.next
  refine⟨fun _=>LA.ar.yC iU (rq.weaken (by omega)),?_⟩
  have zt:=Bj.len
  simp only[gi (cs:=WH.toArray) bb iL zO wD rfl zt (by decide)]
  refine LB.cZ (base:=s8.next) zt (by omega) (a6 _) ?_
  intro bs sa oA gz ON Th WI
  have ie:ar s8.next s8 sa:=(dC.trans (rq.weaken (by omega))).trans ON
  have N1:=ie.next
  have YV:dy (FF y) sa WH l[i]:=by
   refine(Bj.turns (u:= .pointer (some ⟨s8.next,0,none⟩)) (bt.aK Th WI) (fun j hj e=> ?_)).mono (fun j hj=> ?_)
   ·have e:some s8.next=some j:=e
    injection e with e;omega
   ·rw[UE];exact⟨by omega,fun h=>h,fun e=>by have:=hy.iD _ e;omega⟩
  simp only[aj,bI,aa,QS,Qx,↓ab,hn]
  refine LB.iT bb bb (.inl ⟨_,rfl⟩) iL byO zO rfl (hy.keeps ie) oA.aG.src zt (by decide) YV.ok (by omega) (by omega) (base:=s3.next) kN (by omega) (fun h=>absurd rfl h) (fun j hj=>by have:=iU j hj;omega) ?_
  intro y' sb YW hFb pF ra
  have Fz:=pF.next
  have hR8:=hR.keeps cK ie
  rw[UE] at hR8 YV
  have hR9:=hR8.grow cK zt YV pF ra
  rw[show(fun j=>s3.next<=j/\¬(fun _=>False) j/\aI y' ≠some j)=FF y' by rw[UE]] at hR9
  have ad4:aI y' ≠some s1.next:=fun e=>by have:=hFb _ e;omega
  simp only[aj,bH,bI,dd,QS,Qx,↓ab,hn,h3,of3]
  refine LB.fj DL (by decide) ((kZ.keeps ie).turns pF wQ) (off:=3) (c:=6) rfl (vs:=[y']) YW.aG.tk rfl (by simp) (by simp[YW.aG.aL]) (fun h=>absurd rfl h) ?_
  intro sc EY x4 tG
  have EY:ax sc s1.next [.int .i64 6,.int .i64 0,.slice none 0 0,y',.slice none 0 0]:=EY
  have huc:bt (.pointer (some ⟨s1.next,0,none⟩)) sb sc:=bt.aK x4 tG
  have Ti:∀j,FF y' j->aI (.pointer (some ⟨s1.next,0,none⟩))≠some j:=fun j hj e=>by
   have e:some s1.next=some j:=e
   injection e with e
   rw[UE] at hj;have:=hj.1;omega
  simp(disch:=omega)only[aj,bI,dd,QS,Qx,↓ab,hn,h9,aD]
  have amI:=dY.next
  refine ay (l.length-(i+1)) (by omega) ⟨i+1,y',LC++WH,rfl,by omega,YW.aK x4 tG ad4,?_,hFb,EY,?_,by omega,by simp only[ag,hn],by simp only[ad,↓ab,Qx,h2],by simp only[ad,↓ab,Qx,h3],by simp only[ad,↓ab,Qx,h7],by simp only[ad,↓ab,Qx,h8],by simp only[ad,↓ab];rfl⟩
  ·rw[List.take_add_one,List.getElem?_eq_getElem bd]
   exact hR9.turns cK huc Ti
  ·exact(((dY.trans (iY.weaken amI)).trans (ie.weaken (by have:=iY.next;omega))).trans ((pF.keeps kN (by omega)).weaken (by omega))).trans ⟨by omega,fun j hj=>tG j (by omega)⟩
 clear hn h0 f
 rintro z f t ⟨rfl,y,LC,hy,hR,kN,kZ,aE,hn,h2,h3⟩
 have Jp:dy (fun j=>s3.next<=j) t [.int .i64 6,.int .i64 0,.slice none 0 0,y,.slice none 0 0] (.mk 6 0 [] l []):=dy.whole .nil hy.aG .nil trivial (gu.fresh kN) trivial (hR.mono cK (fun j hj=>by rw[UE] at hj;exact hj.1)) aU.nil
 simp only[aj,QS,Qx,↓ab,hn,h2,h3,ax.gl kZ rfl]
 refine aB iL (by decide) (eK.keeps aE) rfl rfl rfl Jp.ok ?_
 intro s7 uD rp vX
 simp only[aj,al,oneOf,QS,Qx,↓ab,hn,h2,ax.gl uD rfl,aV,Tryz.results89]
 exact lK.put Jp (fun j hj=>⟨by omega,by omega⟩) rp vX (bn.trans (aE.weaken g8)) (a6 _)
end Go.Proofs.YtdfjfncifneocaaGreat
namespace Go.Cl.Ch
open Go.Cl.Pr Go.Cl.Hx Go.Cl.B85
structure Lk where
 p:bg
 co:bg
 cl:bg
 name:ao a4
 early:bg
def Lk.cells (l:Lk):ao av:=[.int .i64 l.p,.int .i64 l.co,.int .i64 l.cl,.string ⟨l.name.toArray⟩,.int .i64 l.early]
def ki (L:ao Lk):ao av:=(L.map Lk.cells).flatten
theorem DY (L:ao Lk):(ki L).length=L.length*5:=by
 induction L with
 |nil=>rfl
 |cons l L ih=>simp only[ki,ds,cB,b4,List.length_cons] at ih|-;rw[ih];simp[Lk.cells];omega
theorem tH {L:ao Lk}{i:a9}(h:i<L.length):((ki L).drop (i*5)).take 5=L[i].cells:=by
 induction L generalizing i with
 |nil=>simp at h
 |cons l L ih=>
  cases i with
  |zero=>simp[ki,Lk.cells]
  |succ i=>
   have:=ih (i:=i) (by simpa using h)
   simp only[ki,ds,cB,List.getElem_cons_succ] at this|-
   rw[show(i+1)*5=l.cells.length+i*5 by simp[Lk.cells];omega,<-c7,List.drop_left]
   exact this
theorem aek (L:ao Lk):(ki L).all aL=true:=by
 induction L with
 |nil=>rfl
 |cons l L ih=>
  rw[show ki (l::L)=l.cells++ki L from rfl,List.all_append,ih]
  rfl
theorem vZ (L M:ao Lk):ki (L++M)=ki L++ki M:=by simp[ki]
theorem tI {L:ao Lk}{i:a9}(h:i<L.length)(j:a9)(hj:j<5):(ki L).getD (i*5+j) undef=L[i].cells.getD j undef:=by
 have h1:=tH h
 rw[<-h1,a0,a0,List.getElem?_take_of_lt hj,List.getElem?_drop]
def iI:ao a4:=[70,108,97,116,101,68,101,99,111,100,101]
def DZ:ao a4:=[76,90,87,68,101,99,111,100,101]
def ss:ao a4:=[65,83,67,73,73,72,101,120,68,101,99,111,100,101]
def Kc:ao a4:=[65,83,67,73,73,56,53,68,101,99,111,100,101]
def x5:ao a4:=[82,117,110,76,101,110,103,116,104,68,101,99,111,100,101]
def v8:ao (ao a4):=[iI,DZ,ss,Kc,x5]
def fx (l:Lk):Lk:=if l.p=0/\l.co=0/\l.cl=0 then {l with p:=1,co:=1,cl:=1} else l
def Nx (l:Lk):Prop:=l.name∈v8/\oC l.p l.co l.cl
instance (l:Lk):Decidable (Nx l):=by unfold Nx;infer_instance
def pN (l:Lk)(b:ao a4):ao a4×bg:=
 if l.name=ss then(hex b,0) else if l.name=Kc then(F1 b,0) else if l.name=x5 then(Runs.encode b,0)
 else if(eJ l.p l.co l.cl b).2≠0 then([],(eJ l.p l.co l.cl b).2) else if l.name=iI then(Fx.DF (eJ l.p l.co l.cl b).1,0) else(Lz.E5 (eJ l.p l.co l.cl b).1,0)
def cy:ao Lk->ao a4->ao a4×bg
 |[],b=>(b,0)
 |l::r,b=>if(cy r b).2≠0 then([],(cy r b).2) else pN l (cy r b).1
end Go.Cl.Ch
namespace Go.Cl.Ch
theorem Lk.Jr (l:Lk):l.cells.length=5:=rfl
end Go.Cl.Ch
namespace Go.Proofs.YtdfjfncifneocaaGreat
open Go.Cl Go.Cl.Pr Go.Cl.Ch
abbrev fE (l:Lk):av:= .agg l.cells.toArray
theorem dp:aX af 58=some 5:=by kernel_rfl
theorem mi:bX af 58=some true:=by kernel_rfl
theorem tJ (i o c:a9):au af 58 (.pointer (some ⟨i,o,some c⟩)) 0=some (.pointer (some ⟨i,o+0,some c⟩)):=by
 unfold au;rw[cb];simp[rW]
theorem zu (i o c:a9):au af 58 (.pointer (some ⟨i,o,some c⟩)) 1=some (.pointer (some ⟨i,o+3,some c⟩)):=by
 unfold au;rw[cb];simp[I2]
theorem W3 (i o c:a9):au af 58 (.pointer (some ⟨i,o,some c⟩)) 2=some (.pointer (some ⟨i,o+4,some c⟩)):=by
 unfold au;rw[cb];simp[bA]
theorem aie:bV af 9=some (.string ⟨#[]⟩):=by kernel_rfl
theorem HB (s:aq)(l:Lk):Runs af df 35 [fE l] s (Of s (l.name∈v8)):=by
 refine Runs.enter 7 Tryz.func35 rfl rfl rfl rfl ?_
 intro f hn hf
 have h0:f.get 0=fE l:=hf 0
 clear hf
 simp only[aj,QS,↓ab,hn,h0]
 refine aw ?_
 intro s1 ht aE xG
 have ht:ax s1 s.next l.cells:=ht
 have hd:l.cells.length+1=6:=rfl
 have hb5:aO af s1 27 5 [(0,.string ⟨iI.toArray⟩),(1,.string ⟨DZ.toArray⟩),(2,.string ⟨ss.toArray⟩),(3,.string ⟨Kc.toArray⟩),(4,.string ⟨x5.toArray⟩)]=aZ s1 (VM v8) 5 1:=QC Tryz.underlying27 I2 aie rfl ⟨_,rfl⟩ rfl rfl rfl rfl rfl
 unfold iI DZ ss Kc x5 at hb5
 simp only[aj,ae,QS,↓ab,hn,hd,hb5]
 refine aQ (by rfl) ?_
 intro x s2 hx hF aR
 have dD:=ht.keeps aR
 have p3:aJ af s2 9 (.pointer (some ⟨s.next,3,some 6⟩))=some (.string ⟨l.name.toArray⟩):=dD.load tp (off:=3) (c:=6) rfl (by simp[Lk.cells])
 simp only[aj,ak,aa,QS,Qx,↓ab,hn,zu,p3]
 refine(FG (lib:=df) rfl rfl s2 x l.name v8 hx.aG (by decide)).mono ?_
 rintro _ s3 ⟨rfl,rfl⟩
 simp only[aj,al,oneOf,QS,↓ab,hn,Tryz.results35]
 exact⟨rfl,aE.trans (aR.weaken aE.next)⟩
theorem Tq (s:aq):Runs af df 45 [] s fun v s' =>v=i3 1 1 1/\ar s.next s s' :=by
 refine Runs.enter 2 Tryz.func45 rfl rfl rfl rfl ?_
 intro f hn hf
 clear hf
 have zSh:bV af 56=some (i3 0 0 0):=by kernel_rfl
 have amJ:bN (i3 0 0 0)=true:=by kernel_rfl
 simp only[aj,↓ab,zSh,amJ]
 refine aw ?_
 intro s1 ht aE xG
 have ht:ax s1 s.next (l3 0 0 0):=ht
 have hd:[Value.int .i64 0,.int .i64 0,.int .i64 0].length+1=4:=rfl
 have hb:cC af 56 [(0,.int .i64 1),(1,.int .i64 1),(2,.int .i64 1)]=some (i3 1 1 1):=by kernel_rfl
 simp only[aj,ae,QS,Qx,↓ab,hn,hd,hb]
 refine aB rW (by decide) ht rfl rfl rfl rfl ?_
 intro s2 dD g9 cR
 have la:aJ af s2 56 (.pointer (some ⟨s.next,0,some 4⟩))=some (i3 1 1 1):=ax.bF (P:=af) (cs:=l3 1 1 1) Ay rW dD (c:=4) rfl
 simp only[aj,al,oneOf,QS,Qx,↓ab,hn,aV,la,Tryz.results45]
 exact aE.trans (ar.aK g9 cR (by omega))
end Go.Proofs.YtdfjfncifneocaaGreat
namespace Go.Cl
theorem aN.OU {P:Program}{t e:TypeId}{z:a9}(hu:P.underlying t=some (.slice e))(cf:aX P e=some z){s:aq}{v:av}{n:a9}{l:ao av}(h:aN s z v n l){k k2:IntKind}{m:a9}(h0:0<m)(h1:m<=n):dj P s t v none (some (.int k (m:a9))) (some (.int k2 (m:a9)))=some (dJ z v 0 m):=by
 have hl:=h.iS hu cf (k:=k) (y:=(m:bg)) (by omega) (by omega)
 rw[a5] at hl
 rw[<-hl]
 have g8:∀k d,gV (some (.int k ((m:a9):bg))) d=some m:=fun _ _=>rfl
 have sG:Nat.beq 0 m=false:=by
  rw[<-Bool.not_eq_true,Nat.beq_eq];omega
 have hle:(Nat.ble m m&&Nat.ble m n)=true:=by simp;omega
 cases h with
 |nil=>omega
 |bare=>omega
 |of i off n c b l hi hb hz hl hc hlen fy ht=>
  unfold dj
  simp only[hu,fR,g8,cf,hle,if_true,sG]
  rfl
structure x6 (s:aq) (vs:ao av) (L:ao (ao a4)):Prop where
 len:vs.length=L.length
 aG:∀k (h:k<L.length),aN s 1 (vs.getD k undef) (L[k]).length (ofBytes L[k])
theorem x6.nil (s:aq):x6 s [] []:=⟨rfl,fun k h=>absurd h (Nat.not_lt_zero k)⟩
theorem x6.keeps {s s' :aq}{vs:ao av}{L:ao (ao a4)}(h:x6 s vs L)(k:ar s.next s s'):x6 s' vs L:=⟨h.len,fun j hj=>(h.aG j hj).keeps k⟩
theorem x6.snoc {s:aq}{v:av}{a:ao a4}{vs:ao av}{L:ao (ao a4)}(k:x6 s vs L)(h:aN s 1 v a.length (ofBytes a)):x6 s (vs++[v]) (L++[a]):=by
 refine⟨by simp[k.len],fun j hj=> ?_⟩
 have YK:j<L.length+1:=by simpa using hj
 by_cases N4:j<L.length
 ·have:=k.aG j N4
  rw[List.getElem_append_left N4,a0,List.getElem?_append_left (by rw[k.len];exact N4),<-a0]
  exact this
 ·obtain rfl:j=L.length:=by omega
  rw[List.getElem_append_right (by omega),a0,List.getElem?_append_right (by rw[k.len];omega)]
  simp only[k.len,dt,List.getElem_cons_zero]
  exact h
end Go.Cl
namespace Go.Proofs.YtdfjfncifneocaaGreat
open Go.Cl Go.Cl.Pr
theorem aif:bV af 22=some (.slice none 0 0):=by kernel_rfl
theorem aih:eY af 22=some 24:=by kernel_rfl
theorem W4 (s:aq)(a:Option Addr)(n1 c1:a9):aO af s 137 1 [(0,.slice a n1 c1)]=aZ s [.slice a n1 c1] 1 1:=by
 unfold aO;rw[a8];simp only[fT,aif];rfl
def vc (s:aq)(l:ao a4)(n:a9)(v:av)(s' :aq):Prop:=∃w vs,v= .tuple #[w,.bool (decide (l.length%n=0))]/\aN s' 1 w (l.length/n) vs/\x6 s' vs (tt l n (l.length/n))/\ar s.next s s'
theorem OW (z:a9)(v:av)(a b:a9):∃x n c,dJ z v a b= .slice x n c:=by
 unfold dJ;split<;>exact⟨_,_,_,rfl⟩
theorem D0 {lib:aA}(L:Dt lib)(s:aq)(x:av)(l:ao a4)(hx:aN s 1 x l.length (ofBytes l))(hl:l.length<=100000000)(n:a9)(hn0:1<=n)(g8:n<=1000000):
  Runs af lib 114 [x,.int .i64 n] s (vc s l n):=by
 refine Runs.enter 25 Tryz.func114 rfl L.parts rfl rfl ?_
 intro f hn hf
 have h0:f.get 0=x:=hf 0
 have h1:f.get 1= .int .i64 n:=hf 1
 clear hf
 simp only[aj,QS,↓ab,hn]
 have hdiv:l.length/n*n<=l.length:=Nat.div_mul_le_self _ _
 have amK:l.length/n<=l.length:=Nat.div_le_self _ _
 have pG:=c5 l.length n
 have hml:=Nat.mod_lt l.length (show n>0 by omega)
 rw[dE] at pG
 unfold vc
 generalize l.length/n=q at hdiv amK pG|-
 refine Comes.bQ (fun z f t=>∃(i:a9) (y w:av) (vs:ao av),z=q-i/\i<=q/\aN s 1 y (l.drop (i*n)).length (ofBytes (l.drop (i*n)))/\Own t 1 w i vs/\x6 s vs (tt l n i)/\aF s.next w/\ar s.next s t/\f.n=25/\f.get 0=y/\f.get 1= .int .i64 n/\f.get 6=w)
  (fun z f t=>z= .exit 0/\∃(y w:av) (vs:ao av),aN s 1 y (l.drop (q*n)).length (ofBytes (l.drop (q*n)))/\Own t 1 w (q) vs/\x6 s vs (tt l n (q))/\ar s.next s t/\f.n=25/\f.get 0=y/\f.get 6=w)
  ⟨0,x,.slice none 0 0,[],rfl,by omega,by rw[cH,cz];exact hx,.nil,x6.nil _,aF.nil _,ar.refl _ _,by simp only[ad,ag,↓ab,Qx,hn,h0,h1,c6]⟩ ?_ ?_
 ·clear hn h0 h1 f
  rintro Q hQ z f t ⟨i,y,w,vs,rfl,hi,NJ,hw,hb,hF,aE,hn,h0,h1,h6⟩
  have hy:=NJ.keeps aE
  have him:i*n<=q*n:=a7 n hi
  have YS:(l.drop (i*n)).length=l.length-i*n:=cg
  by_cases bd:i<q
  rotate_left
  ·obtain rfl:i=q:=by omega
   have d1:¬n<=(l.drop (i*n)).length:=by omega
   have d2:¬(n:bg)<=(((l.drop (i*n)).length:a9):bg):=by omega
   simp only[aj,aa,QS,Qx,↓ab,hn,h0,h1,hy.bm an,bk d2]
   exact hQ _ _ _ ⟨rfl,y,w,vs,NJ,hw,hb,aE,by simp only[ad,ag,↓ab,Qx,hn,h0,h6,c6]⟩
  have asj:(i+1)*n<=q*n:=a7 n bd
  have Kl:(i+1)*n=i*n+n:=c0 i n
  have d1:n<=(l.drop (i*n)).length:=by omega
  have d2:(n:bg)<=(((l.drop (i*n)).length:a9):bg):=by omega
  have dx:=NJ.p9 (lo:=0) (hi:=n) (by omega) (by omega)
  rw[cz,Nat.sub_zero] at dx
  obtain⟨cx,cn,cc,hcc⟩:=OW 1 y 0 n
  have YN:=hy.OU (P:=af) an bK (k:= .i64) (k2:= .i64) (m:=n) (by omega) (by omega)
  rw[hcc] at YN dx
  simp only[aj,aa,ae,ai,QS,Qx,↓ab,hn,h0,h1,h6,hy.bm an,ca d2,YN,W4]
  refine aQ (by rfl) ?_
  intro bv t2 dI Zk aR
  simp only[aj,aa,QS,Qx,↓ab,hn]
  have dH:([Value.slice cx cn cc]:ao av).all aL=true:=by rfl
  refine bY a8 a8 (.inl ⟨_,rfl⟩) fT aih aif rfl (hw.keeps aR) dI.aG.src rfl (by decide) dH (by omega) (by omega) hF (by have:=aR.next;have:=aE.next;omega) ?_
  intro w' t3 hw' ze bC asm _
  have gj:ar s.next s t3:=(aE.trans (aR.weaken aE.next)).trans bC
  have ZS:=NJ.keeps gj
  have oI:=NJ.p9 (lo:=n) (hi:=(l.drop (i*n)).length) (by omega) (by omega)
  rw[cp (by rw[cg];omega),c7] at oI
  simp(disch:=omega)only[aj,ai,QS,Qx,↓ab,hn,h0,h1,ZS.ff an bK]
  refine ay (q-(i+1)) (by omega) ⟨i+1,dJ 1 y n (l.drop (i*n)).length,w',vs++[.slice cx cn cc],rfl,by omega,?_,hw',?_,ze,gj,by simp only[ad,ag,↓ab,Qx,hn,h1,c6]⟩
  ·rw[Kl];exact oI
  ·rw[Oa]
   exact hb.snoc dx
 clear hn h0 h1 f
 rintro z f t ⟨rfl,y,w,vs,NJ,hw,hb,aE,hn,h0,h6⟩
 have hy:=NJ.keeps aE
 have YS:(l.drop (q*n)).length=l.length-q*n:=cg
 have ed:decide ((((l.drop (q*n)).length:a9):bg)=0)=decide (l.length%n=0):=decide_eq_decide.2 (by omega)
 simp only[aj,al,oneOf,aa,QS,Qx,↓ab,hn,h0,h6,hy.bm an,ed,Tryz.results114]
 exact⟨w,vs,rfl,hw.aG,hb.keeps aE,aE⟩
end Go.Proofs.YtdfjfncifneocaaGreat
namespace Go.Cl.Pr
theorem aii {T:bg}{l:ao a4}{n c r k:a9}(hn:0<n)(hk:k<n)(W:ao a4)(hW:W=if r=0 then [] else qf l n (r-1))(hl:(r+1)*n<=l.length):pD T (if c<=k then((((qf l n r).getD (k-c) 0).toNat:a9):bg) else 0) (if 0<W.length then(((W.getD k 0).toNat:a9):bg) else 0) (if 0<W.length/\c<=k then(((W.getD (k-c) 0).toNat:a9):bg) else 0)=gs T l n c (r*n+k):=by
 have hm:(r*n+k)%n=k:=I3 hk
 have e1:(if c<=k then((((qf l n r).getD (k-c) 0).toNat:a9):bg) else 0)=At l n c (r*n+k):=by
  unfold At
  rw[hm]
  split
  ·rename_i h
   rw[np (by omega),show r*n+k-c=r*n+(k-c) by omega]
  ·rfl
 have e2:(if 0<W.length then(((W.getD k 0).toNat:a9):bg) else 0)=tq l n (r*n+k)/\(if 0<W.length/\c<=k then(((W.getD (k-c) 0).toNat:a9):bg) else 0)=oS l n c (r*n+k):=by
  unfold tq oS
  rw[hm]
  cases r with
  |zero=>
   rw[bz rfl] at hW
   subst hW
   rw[cH,bo (by simp),bo (by omega),bo (by simp),bo (by omega)]
   exact⟨rfl,rfl⟩
  |succ r=>
   rw[bo (by omega),Nat.add_sub_cancel] at hW
   have g7:(r+1)*n<=l.length:=dO (a7 n (by omega)) hl
   have hwl:W.length=n:=by rw[hW];exact oT g7
   have hs:(r+1)*n=r*n+n:=c0 r n
   rw[bz (by omega),bz (by omega)]
   refine⟨by rw[hW,np hk,show(r+1)*n+k-n=r*n+k by omega],?_⟩
   by_cases h:c<=k
   ·rw[bz ⟨by omega,h⟩,bz ⟨by omega,h⟩,hW,np (by omega),show(r+1)*n+k-n-c=r*n+(k-c) by omega]
   ·rw[bo (fun q=>h q.2),bo (fun q=>h q.2)]
 unfold gs
 rw[e1,e2.1,e2.2]
theorem D2 {p:bg}(h:p=1\/p=2\/(10<=p/\p<=15)):0<=iF p/\iF p<=5/\(iF p<=4):=by
 unfold iF;split
 ·omega
 ·split<;>omega
end Go.Cl.Pr
namespace Go.Proofs.YtdfjfncifneocaaGreat
open Go.Cl Go.Cl.Pr
def vg (s:aq)(p:ao a4×bg)(v:av)(s' :aq):Prop:=∃w,v= .tuple #[w,.int .i64 p.2]/\cM s w s' p.1
theorem L0 {lib:aA}(L:Dt lib)(hl:lib.at 82=none)(s:aq)(p co cl:bg)(x:av)(l:ao a4)(hx:aN s 1 x l.length (ofBytes l))(hlen:l.length<=100000000):
  Runs af lib 82 [i3 p co cl,x] s (vg s (eJ p co cl l)):=by
 refine Runs.enter 85 Tryz.func82 rfl hl rfl rfl ?_
 intro f hn hf
 have h0:f.get 0=i3 p co cl:=hf 0
 have h1:f.get 1=x:=hf 1
 clear hf
 have Dr:[Value.int .i64 p,.int .i64 co,.int .i64 cl].length+1=4:=rfl
 simp(disch:=omega)only[aj,QS,↓ab,hn,h0]
 refine aw ?_
 intro s1 ht aE xG
 have ht:ax s1 s.next (l3 p co cl):=ht
 have la:aJ af s1 56 (.pointer (some ⟨s.next,0,some 4⟩))=some (i3 p co cl):=ax.bF (P:=af) (cs:=l3 p co cl) Ay rW ht (c:=4) rfl
 simp(disch:=omega)only[aj,ak,aa,QS,Qx,↓ab,hn,Dr,la]
 refine(xF L.may s1 p co cl).mono ?_
 rintro _ s2 ⟨rfl,cR⟩
 have Uu:=aE.trans (cR.weaken aE.next)
 have dD:=ht.keeps cR
 have n1:=aE.next
 have n2:=cR.next
 by_cases hm:oC p co cl
 rotate_left
 ·rw[bq hm]
  simp(disch:=omega)only[aj,al,oneOf,QS,Qx,↓ab,hn,b5]
  have e:eJ p co cl l=([],1):=by unfold eJ;rw[bz hm]
  rw[e]
  exact⟨_,rfl,⟨.nil,aF.nil _,Uu⟩⟩
 rw[bl hm]
 have q0:∀t,ar s2.next s2 t->aJ af t 3 (.pointer (some ⟨s.next,0,some 4⟩))=some (.int .i64 p):=fun t h=>(dD.keeps h).load bu (off:=0) (c:=4) rfl (by simp)
 have q1:∀t,ar s2.next s2 t->aJ af t 3 (.pointer (some ⟨s.next,1,some 4⟩))=some (.int .i64 co):=fun t h=>(dD.keeps h).load bu (off:=1) (c:=4) rfl (by simp)
 have q2:∀t,ar s2.next s2 t->aJ af t 3 (.pointer (some ⟨s.next,2,some 4⟩))=some (.int .i64 cl):=fun t h=>(dD.keeps h).load bu (off:=2) (c:=4) rfl (by simp)
 have ko:=hx.keeps Uu
 have k2:=ar.refl s2.next s2
 by_cases qJ:p=1
 ·have e:eJ p co cl l=(l,0):=by unfold eJ;rw[bo (fun h=>h hm),bz qJ]
  rw[e]
  simp(disch:=omega)only[aj,aa,QS,Qx,↓ab,hn,h1,mZ,q0 _ k2,ca qJ]
  refine bY an an (.inl ⟨_,rfl⟩) bK jW ks rfl (Own.nil:Own s2 1 (.slice none 0 0) 0 []) ko.src (by rw[bM,Nat.mul_one]) (by decide) (dh _) (by omega) (by omega) (aF.nil s2.next) (a6 _) ?_
  intro w s3 hw hF fB _ _
  simp(disch:=omega)only[aj,al,oneOf,QS,Qx,↓ab,hn,b5]
  exact⟨w,rfl,⟨by rw[List.nil_append,Nat.zero_add] at hw;exact hw,fun j hj=>by have:=hF j hj;omega,Uu.trans (fB.weaken (by omega))⟩⟩
 obtain⟨hpk,iK,kY,jn,g7⟩:=id hm
 obtain⟨c,rfl⟩:∃c:a9,co=c:=⟨co.toNat,by omega⟩
 obtain⟨m,rfl⟩:∃m:a9,cl=m:=⟨cl.toNat,by omega⟩
 obtain⟨n,uy⟩:∃n:a9,n=c*m:=⟨_,rfl⟩
 have g8:1<=n:=by rw[uy];exact c8 (show 1<=c by omega) (show 1<=m by omega)
 have g9:n<=16384:=by rw[uy];exact c8 (show c<=4 by omega) (show m<=4096 by omega)
 have S5:c<=n:=by rw[uy];exact cm c (by omega)
 have ep:eJ p (c:bg) (m:bg) l=if l.length%n≠0 then([],4) else(im (iF p) (decide (10<=p)) l n c l.length,0):=by
  unfold eJ
  rw[bo (fun h=>h hm),bo qJ,a5,a5,<-uy]
 rw[ep]
 have hmul:IntKind.i64.wrap ((c:bg)*(m:bg))=(n:bg):=by
  have e:(c:bg)*(m:bg)=(n:bg):=by rw[uy];exact(Int.natCast_mul c m).symm
  rw[e,aD (by omega)]
 simp(disch:=omega)only[aj,ak,aa,QS,Qx,↓ab,hn,h1,mZ,Bb,FK,q0 _ k2,q1 _ k2,q2 _ k2,bk qJ,hmul]
 refine(D0 L s2 x l ko hlen n g8 (by omega)).mono ?_
 rintro _ s3 ⟨w,vs,rfl,hw,hb,fB⟩
 have x0:∀b,ba (.tuple #[w,.bool b]) 0=some w:=fun _=>rfl
 have x1:∀b,ba (.tuple #[w,.bool b]) 1=some (.bool b):=fun _=>rfl
 have W5:=Uu.trans (fB.weaken Uu.next)
 by_cases pG:l.length%n=0
 rotate_left
 ·rw[bz pG,bq pG]
  simp(disch:=omega)only[aj,al,oneOf,QS,Qx,↓ab,hn,x0,x1,b5]
  exact⟨_,rfl,⟨.nil,aF.nil _,W5⟩⟩
 rw[bo (fun h=>h pG),bl pG]
 have hT:=D2 hpk
 obtain⟨T,hTT⟩:∃T,T=iF p:=⟨_,rfl⟩
 rw[<-hTT] at hT|-
 obtain⟨g,hgg⟩:∃g:Bool,g=decide (10<=p):=⟨_,rfl⟩
 rw[<-hgg]
 have hq:∃q,q=l.length/n:=⟨_,rfl⟩
 obtain⟨q,hq⟩:=hq
 have hqn:q*n=l.length:=by
  have:=c5 l.length n
  rw[pG,dE,<-hq] at this;omega
 rw[<-hq] at hw hb
 have Y0:q<=l.length:=by rw[<-hqn];exact cm q (by omega)
 have n3:=fB.next
 simp(disch:=omega)only[aj,QS,Qx,↓ab,hn,x0,x1,mZ,q0 _ fB]
 generalize hK:rP af lib (Code.seq (Code.region _ _ _) (Code.seq _ _)) _=K
 have go:∀f,f.n=85->f.get 2= .pointer (some ⟨s.next,0,some 4⟩)->f.get 6=w->f.get 8= .int .i64 T->K .normal f s3:=by
  clear hn h0 h1 f
  subst hK
  intro f hn h2 h6 h8
  simp(disch:=omega)only[aj,aa,QS,Qx,↓ab,hn,h6,hw.bm a8]
  refine Comes.bQ (fun z f t=>∃(r:a9) (o y:av) (W:ao a4),z=q-r/\r<=q/\Own t 1 o (im T g l n c (r*n)).length (ofBytes (im T g l n c (r*n)))/\W=(if r=0 then [] else qf l n (r-1))/\aN s3 1 y W.length (ofBytes W)/\aF s3.next o/\ar s3.next s3 t/\f.n=85/\f.get 2= .pointer (some ⟨s.next,0,some 4⟩)/\f.get 8= .int .i64 T/\f.get 9=o/\f.get 10=y/\f.get 46=w/\f.get 47= .int .i64 (q:a9)/\f.get 48= .int .i64 (r:a9))
   (fun z f t=>z= .exit 1/\∃o,Own t 1 o (im T g l n c (q*n)).length (ofBytes (im T g l n c (q*n)))/\aF s3.next o/\ar s3.next s3 t/\f.n=85/\f.get 9=o)
   ⟨0,.slice none 0 0,.slice none 0 0,[],rfl,by omega,by rw[cH];exact .nil,rfl,.nil,aF.nil _,ar.refl _ _,by simp only[ag,hn],by simp only[ad,↓ab,Qx,h2],by simp only[ad,↓ab,Qx,h8],by simp only[ad,↓ab,Qx],by simp only[ad,↓ab,Qx],by simp only[ad,↓ab,Qx],by simp only[ad,↓ab,Qx],by simp only[ad,↓ab];rfl⟩ ?_ ?_
  ·clear hn h2 h6 h8 f
   rintro Q hQ z f t ⟨r,o,y,W,rfl,hr,ho,hW,hy,hF,aE,hn,h2,h8,h9,eX,rz,Kd,mv⟩
   by_cases bd:r<q
   rotate_left
   ·obtain rfl:r=q:=by omega
    have d1:¬((r:a9):bg)<((r:a9):bg):=by omega
    simp(disch:=omega)only[aj,QS,↓ab,hn,Kd,mv,bk d1]
    exact hQ _ _ _ ⟨rfl,o,ho,hF,aE,by simp only[ag,hn],by simp only[ad,↓ab,Qx,h9]⟩
   have d1:((r:a9):bg)<((q:a9):bg):=by omega
   have hrn:(r+1)*n<=l.length:=by rw[<-hqn];exact a7 n bd
   have hrs:(r+1)*n=r*n+n:=c0 r n
   have mO:(qf l n r).length=n:=oT hrn
   have hwt:=hw.keeps aE
   have gB:=hwt.indexAddr (P:=af) (k:= .i64) (x:=(r:bg)) a8 fT (by omega) (by omega)
   rw[a5] at gB
   have fz:=hwt.di (P:=af) fU bd
   have kp:=hb.aG r (by rw[xB];exact bd)
   rw[G3,mO] at kp
   obtain⟨R,hR⟩:∃R,R=vs.getD r undef:=⟨_,rfl⟩
   rw[<-hR] at fz kp
   have Js:=Bs T g l n c (r*n)
   simp(disch:=omega)only[aj,QS,Qx,↓ab,hn,h2,rz,Kd,mv,ca d1,gB,fz,mZ,q0 _ (fB.trans (aE.weaken n3))]
   generalize hK2:rP af lib (Code.seq (Code.seq (Code.region _ _ _) (Code.block _ _)) (Code.region _ _ _)) _=K2
   have go2:∀f t2 o2,f.n=85->f.get 2= .pointer (some ⟨s.next,0,some 4⟩)->f.get 8= .int .i64 T->f.get 9=o2->f.get 10=y->f.get 12=R->f.get 46=w->f.get 47= .int .i64 (q:a9)->f.get 48= .int .i64 (r:a9)->Own t2 1 o2 (tu T g l n c r 0).length (ofBytes (tu T g l n c r 0))->aF s3.next o2->ar s3.next s3 t2->K2 .normal f t2:=by
    clear hn h2 h8 h9 eX rz Kd mv ho hF aE hwt gB fz Js f t o
    subst hK2
    intro f t o hn h2 h8 h9 eX rX rz Kd mv ho hF aE
    have Ts:=kp.keeps aE
    simp(disch:=omega)only[aj,aa,QS,↓ab,hn,rX,Ts.bm an]
    refine Comes.bQ (fun z f t=>∃(k:a9) (o:av),z=n-k/\k<=n/\Own t 1 o (tu T g l n c r k).length (ofBytes (tu T g l n c r k))/\aF s3.next o/\ar s3.next s3 t/\f.n=85/\f.get 2= .pointer (some ⟨s.next,0,some 4⟩)/\f.get 8= .int .i64 T/\f.get 9=o/\f.get 10=y/\f.get 12=R/\f.get 46=w/\f.get 47= .int .i64 (q:a9)/\f.get 48= .int .i64 (r:a9)/\f.get 60=R/\f.get 61= .int .i64 (n:a9)/\f.get 62= .int .i64 (k:a9))
     (fun z f t=>z= .exit 3/\∃o:av,Own t 1 o (tu T g l n c r n).length (ofBytes (tu T g l n c r n))/\aF s3.next o/\ar s3.next s3 t/\f.n=85/\f.get 2= .pointer (some ⟨s.next,0,some 4⟩)/\f.get 8= .int .i64 T/\f.get 9=o/\f.get 12=R/\f.get 46=w/\f.get 47= .int .i64 (q:a9)/\f.get 48= .int .i64 (r:a9))
     ⟨0,o,rfl,by omega,ho,hF,aE,by simp only[ag,hn],by simp only[ad,↓ab,Qx,h2],by simp only[ad,↓ab,Qx,h8],by simp only[ad,↓ab,Qx,h9],by simp only[ad,↓ab,Qx,eX],by simp only[ad,↓ab,Qx,rX],by simp only[ad,↓ab,Qx,rz],by simp only[ad,↓ab,Qx,Kd],by simp only[ad,↓ab,Qx,mv],by simp only[ad,↓ab,Qx],by simp only[ad,↓ab,Qx],by simp only[ad,↓ab];rfl⟩ ?_ ?_
    ·clear hn h2 h8 h9 eX rX rz Kd mv Ts ho hF aE f t o
     rintro Q hQ z f t ⟨k,o,rfl,hk,ho,hF,aE,hn,h2,h8,h9,eX,rX,rz,Kd,mv,h60,h61,UG⟩
     by_cases Lu:k<n
     rotate_left
     ·obtain rfl:k=n:=by omega
      have d1:¬((k:a9):bg)<((k:a9):bg):=by omega
      simp(disch:=omega)only[aj,QS,↓ab,hn,h61,UG,bk d1]
      exact hQ _ _ _ ⟨rfl,o,ho,hF,aE,by simp only[ag,hn],by simp only[ad,↓ab,Qx,h2],by simp only[ad,↓ab,Qx,h8],by simp only[ad,↓ab,Qx,h9],by simp only[ad,↓ab,Qx,rX],by simp only[ad,↓ab,Qx,rz],by simp only[ad,↓ab,Qx,Kd],by simp only[ad,↓ab,Qx,mv]⟩
     have d1:((k:a9):bg)<((n:a9):bg):=by omega
     have Ts:=kp.keeps aE
     have gB:=Ts.indexAddr (P:=af) (k:= .i64) (x:=(k:bg)) an bK (by omega) (by omega)
     rw[a5] at gB
     have fz:=Ts.di (P:=af) kI Lu
     rw[bw (by omega),np Lu] at fz
     have hi:r*n+k<l.length:=by omega
     simp(disch:=omega)only[aj,ak,aa,QS,Qx,↓ab,hn,h2,h9,eX,rX,h60,h61,UG,ca d1,gB,fz,Bb,q1 _ (fB.trans (aE.weaken n3))]
     have hWl:W.length=0\/W.length=(qf l n r).length:=by
      rw[hW]
      split
      ·exact .inl rfl
      ·rename_i hr0
       refine .inr ?_
       rw[mO]
       refine oT ?_
       rw[show r-1+1=r by omega]
       exact dO (a7 n (by omega)) hrn
     refine(QD L t R y (qf l n r) W (by rw[mO];exact Ts) (hy.keeps aE) (by omega) k c (by omega) (by omega) hWl).mono ?_
     rintro _ t2 ⟨rfl,aR⟩
     have hga:=aii (T:=T) (c:=c) (by omega) Lu W hW hrn
     have a1:0<=J7 (qf l n r) k c/\J7 (qf l n r) k c<=255:=by
      unfold J7;split
      ·exact u6 _
      ·omega
     have a2:0<=Oj W k/\Oj W k<=255:=by
      unfold Oj;split
      ·exact u6 _
      ·omega
     have a3:0<=Ol W k c/\Ol W k c<=255:=by
      unfold Ol;split
      ·exact u6 _
      ·omega
     simp(disch:=omega)only[aj,ak,aa,QS,Qx,↓ab,hn,h8]
     refine(Dv L t2 T _ _ _ (by omega) a1 a2 a3).mono ?_
     have hga:pD T (J7 (qf l n r) k c) (Oj W k) (Ol W k c)=gs T l n c (r*n+k):=hga
     rw[hga]
     rintro _ t3 ⟨rfl,bC⟩
     have h3t:ar t.next t t3:=aR.trans (bC.weaken aR.next)
     have ew:IntKind.u8.wrap ((((l.getD (r*n+k) 0).toNat:a9):bg)-IntKind.u8.wrap (gs T l n c (r*n+k)))=((hJ ((((l.getD (r*n+k) 0).toNat:a9):bg)-gs T l n c (r*n+k))).toNat:bg):=by
      rw[nn,fu,fu];omega
     have jS:=ZN T g l n c r k
     simp(disch:=omega)only[aj,ae,QS,Qx,↓ab,hn,bL c4 cd,ew,gG an bK ks]
     refine bG an bK jW ks rfl (ho.keeps h3t) (by simp only[ad,↓ab,Qx]) (by decide) (by simp only[ag,hn];decide) (by simp only[ag,hn];decide) (by rfl) (by decide) rfl (by omega) (by omega) hF (by have:=aE.next;have:=h3t.next;omega) ?_
     intro bs o' t4 pM ze dX _ _
     simp(disch:=omega)only[aj,QS,Qx,↓ab,hn,UG,aD]
     refine ay (n-(k+1)) (by omega) ⟨k+1,o',rfl,by omega,?_,ze,(aE.trans (h3t.weaken aE.next)).trans dX,by simp only[ag,hn],by simp only[ad,↓ab,Qx,h2],by simp only[ad,↓ab,Qx,h8],by simp only[ad,↓ab,Qx],by simp only[ad,↓ab,Qx,eX],by simp only[ad,↓ab,Qx,rX],by simp only[ad,↓ab,Qx,rz],by simp only[ad,↓ab,Qx,Kd],by simp only[ad,↓ab,Qx,mv],by simp only[ad,↓ab,Qx,h60],by simp only[ad,↓ab,Qx,h61],by simp only[ad,↓ab];rfl⟩
     rw[<-SD Lu,b4,br]
     exact pM
    clear hn h2 h8 h9 eX rX rz Kd mv Ts ho hF aE f t o
    rintro z f t ⟨rfl,o,ho,hF,aE,hn,h2,h8,h9,rX,rz,Kd,mv⟩
    rw[VO (by omega)] at ho
    simp(disch:=omega)only[aj,QS,Qx,↓ab,hn,rX,mv,aD]
    refine ay (q-(r+1)) (by omega) ⟨r+1,o,R,qf l n r,rfl,by omega,ho,by rw[bo (by omega)];rfl,by rw[mO];exact kp,hF,aE,by simp only[ag,hn],by simp only[ad,↓ab,Qx,h2],by simp only[ad,↓ab,Qx,h8],by simp only[ad,↓ab,Qx,h9],by simp only[ad,↓ab,Qx],by simp only[ad,↓ab,Qx,rz],by simp only[ad,↓ab,Qx,Kd],by simp only[ad,↓ab];rfl⟩
   by_cases Q6:10<=p
   rotate_left
   ·have eg:g=false:=by rw[hgg];exact bq Q6
    have ec:tu T g l n c r 0=im T g l n c (r*n):=by unfold tu J6;rw[bz rfl,eg];simp
    simp(disch:=omega)only[aj,bk Q6]
    exact go2 _ _ _ (by simp only[ag,hn]) (by simp only[ad,↓ab,Qx,h2]) (by simp only[ad,↓ab,Qx,h8]) (by simp only[ad,↓ab,Qx,h9]) (by simp only[ad,↓ab,Qx,eX]) (by simp only[ad,↓ab,Qx]) (by simp only[ad,↓ab,Qx,rz]) (by simp only[ad,↓ab,Qx,Kd]) (by simp only[ad,↓ab,Qx,mv]) (by rw[ec];exact ho) hF aE
   have eg:g=true:=by rw[hgg];exact bl Q6
   have ec:tu T g l n c r 0=im T g l n c (r*n)++[hJ T]:=by
    unfold tu J6;rw[bz rfl,bz ⟨eg,Nat.mul_mod_left r n⟩]
   have ew:IntKind.u8.wrap T=((hJ T).toNat:bg):=by rw[nn,fu]
   simp(disch:=omega)only[aj,ae,QS,Qx,↓ab,hn,h8,h9,ca Q6,bL c4 cd,ew,gG an bK ks]
   refine bG an bK jW ks rfl ho (by simp only[ad,↓ab,Qx]) (by decide) (by simp only[ag,hn];decide) (by simp only[ag,hn];decide) (by rfl) (by decide) rfl (by omega) (by omega) hF (by have:=aE.next;omega) ?_
   intro bs o' t4 pM ze dX _ _
   simp(disch:=omega)only[aj,QS,↓ab,hn]
   exact go2 _ _ _ (by simp only[ag,hn]) (by simp only[ad,↓ab,Qx,h2]) (by simp only[ad,↓ab,Qx,h8]) (by simp only[ad,↓ab]) (by simp only[ad,↓ab,Qx,eX]) (by simp only[ad,↓ab,Qx]) (by simp only[ad,↓ab,Qx,rz]) (by simp only[ad,↓ab,Qx,Kd]) (by simp only[ad,↓ab,Qx,mv]) (by rw[ec,b4,br];exact pM) ze (aE.trans dX)
  clear hn h2 h6 h8 f
  rintro z f t ⟨rfl,o,ho,hF,aE,hn,h9⟩
  rw[hqn] at ho
  simp(disch:=omega)only[aj,al,oneOf,QS,Qx,↓ab,hn,h9,b5]
  exact⟨o,rfl,⟨ho,fun j hj=>by have:=hF j hj;have:=W5.next;omega,W5.trans (aE.weaken W5.next)⟩⟩
 by_cases c15:p=15
 ·have eT:T=2:=by rw[hTT];unfold iF;rw[bz c15]
  simp(disch:=omega)only[aj,QS,↓ab,hn,ca c15]
  exact go _ (by simp only[ag,hn]) (by simp only[ad,↓ab,Qx]) (by simp only[ad,↓ab,Qx]) (by simp only[ad,↓ab,eT])
 by_cases Q6:10<=p
 ·have eT:T=p-10:=by rw[hTT];unfold iF;rw[bo c15,bz Q6]
  simp(disch:=omega)only[aj,QS,Qx,↓ab,hn,mZ,q0 _ fB,bk c15,ca Q6,aD]
  exact go _ (by simp only[ag,hn]) (by simp only[ad,↓ab,Qx]) (by simp only[ad,↓ab,Qx]) (by simp only[ad,↓ab,eT])
 ·have eT:T=1:=by rw[hTT];unfold iF;rw[bo c15,bo Q6]
  simp(disch:=omega)only[aj,QS,Qx,↓ab,hn,mZ,q0 _ fB,bk c15,bk Q6]
  exact go _ (by simp only[ag,hn]) (by simp only[ad,↓ab,Qx]) (by simp only[ad,↓ab,Qx]) (by simp only[ad,↓ab,Qx,eT])
end Go.Proofs.YtdfjfncifneocaaGreat
