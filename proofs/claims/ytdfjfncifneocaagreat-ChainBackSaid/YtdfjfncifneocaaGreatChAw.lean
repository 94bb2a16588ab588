import Derived.Test.YtdfjfncifneocaaGreatPrD
open Go.Proofs.Tryz renaming prog->ab,underlying3->an
open Go.DataW renaming trod->af,trod_int->ao,trod_struct->av
set_option linter.unusedSimpArgs false
set_option linter.unusedVariables false
set_option maxRecDepth 100000
namespace Go.Proofs.YtdfjfncifneocaaGreat
open Go.ChangeShapes Go.WideShapes Go.ChangeAt Go.RowKit Go.Cl Go.Cl.Ch
def wy (d:Lk):List Value:=d.cells
def PV (d:Lk):Prop:=d.name.length<9223372036854775808
theorem YE (d:Lk):(wy d).length=5:=rfl
theorem abz (S:St)(d:Lk)(v:Value)(h:v∈wy d):VR S v v:=by
 simp only[wy,Lk.cells,List.mem_cons,List.not_mem_nil,or_false] at h
 rcases h with rfl|rfl|rfl|rfl|rfl
 ·exact .int _ _
 ·exact .int _ _
 ·exact .int _ _
 ·exact .string _
 ·exact .int _ _
theorem EX:ab.cellsOf 68=5:=by kernel_rfl
theorem PW:ab.cellsOf 66=3:=by kernel_rfl
theorem Nc:ab.cellsOf 3=1:=by kernel_rfl
theorem YF:ab.cellsOf 9=1:=by kernel_rfl
theorem YG {H:Type}{enc:TypeId×Value->H}{W:World}(fuel:Nat)(cs:List Value)(x:DataW H×List MemPlace)(h:af enc ab W 0 (fun _=>true) true fuel 68 cs=some x):∃d,PV d/\cs=wy d:=by
 obtain⟨xs,n,_,_,hl,uM,hx⟩:=av Tryz.underlying68 h
 rw[EX] at hl
 have h0:=hx 0 _ rfl
 have h1:=hx 1 _ rfl
 have h2:=hx 2 _ rfl
 change af enc ab W 0 (fun _=>true) true n 66 ((cs.drop 0).take (ab.cellsOf 66))=xs[0]? at h0
 change af enc ab W 0 (fun _=>true) true n 9 ((cs.drop 3).take (ab.cellsOf 9))=xs[1]? at h1
 change af enc ab W 0 (fun _=>true) true n 3 ((cs.drop 4).take (ab.cellsOf 3))=xs[2]? at h2
 rw[PW] at h0
 rw[YF] at h1
 rw[Nc] at h2
 have hs:xs.length=3:=uM
 rw[List.getElem?_eq_getElem (by omega)] at h0 h1 h2
 obtain⟨c,e0,_,e3⟩:=DataW.trod_string Tryz.underlying9 h1
 obtain⟨b,e2,_⟩:=ao an h2
 obtain⟨ys,n',_,_,_,Iv,hy⟩:=av Tryz.underlying66 h0
 have g0:=hy 0 _ rfl
 have g1:=hy 1 _ rfl
 have g2:=hy 2 _ rfl
 change af enc ab W 0 (fun _=>true) true n' 3 ((((cs.drop 0).take 3).drop 0).take (ab.cellsOf 3))=ys[0]? at g0
 change af enc ab W 0 (fun _=>true) true n' 3 ((((cs.drop 0).take 3).drop 1).take (ab.cellsOf 3))=ys[1]? at g1
 change af enc ab W 0 (fun _=>true) true n' 3 ((((cs.drop 0).take 3).drop 2).take (ab.cellsOf 3))=ys[2]? at g2
 rw[Nc] at g0 g1 g2
 have cR:ys.length=3:=Iv
 rw[List.getElem?_eq_getElem (by omega)] at g0 g1 g2
 obtain⟨a0,f0,_⟩:=ao an g0
 obtain⟨a1,f1,_⟩:=ao an g1
 obtain⟨a2,f2,_⟩:=ao an g2
 match cs,hl with
 |[v0,v1,v2,v3,v4],_=>
  have hm:maxLen=9223372036854775807:=by decide
  refine⟨⟨a0,a1,a2,c.data.toList,b⟩,?_,?_⟩
  ·show c.data.toList.length<_
   have:c.data.toList.length=c.size:=by rw[Array.length_toList];rfl
   omega
  ·simp at e0 e2 f0 f1 f2
   simp[wy,Lk.cells,e0,e2,f0,f1,f2]
end Go.Proofs.YtdfjfncifneocaaGreat
namespace Go.Proofs.YtdfjfncifneocaaGreat
open Go.Cl
theorem afu:oG (gX ab df 100000 9 [] ⟨.nil,2⟩)=true:=by kernel_rfl
end Go.Proofs.YtdfjfncifneocaaGreat
