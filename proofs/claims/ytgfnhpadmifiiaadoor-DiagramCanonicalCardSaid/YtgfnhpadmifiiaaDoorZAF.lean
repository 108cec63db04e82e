/- Merged and trimmed by a program: Shelf DK DQ DC DR DH DG DI DJ DS. -/
import Derived.Test.YtgfnhpadmifiiaaDoorZAE
import Derived.Shelf.Strconv.Itoa0
import Derived.Shelf.Strconv.Itoa1
import Derived.Shelf.LaysM
import Derived.Shelf.Strconv.Itoa2
import Derived.Shelf.Strconv.AppendUint10
import Derived.Shelf.Strconv.AppendInt10
import Derived.Shelf.Strconv.AppendIntPublic10
import Derived.Test.YtgfnhpadmifiiaaDoorProg
import Derived.Lib.AppendIntMem
import Derived.Lib.LaidTab
import Derived.Lib.ItoaLen
import Derived.KernelRfl
import Derived.WalkSmall
import Derived.Deep.AppendLies
import Derived.Maps.Range
import Derived.Laws.BytesArg
set_option linter.unusedVariables false
set_option linter.unusedSimpArgs false
set_option linter.defProp false
section
namespace Go.Proofs
open Go.Shelf
def Tryd.laysM176_ren:Go.Shelf.Ren:=⟨fun|176=>83|249=>98|288=>105|283=>108|284=>109|285=>110|286=>111|129=>113|317=>112|318=>114|319=>115|320=>116|337=>117|338=>118|n=>n,fun|37=>118|2=>2|3=>3|53=>130|4=>4|9=>9|171=>134|0=>0|173=>137|212=>140|51=>141|5=>5|20=>20|213=>142|46=>124|232=>145|233=>146|n=>n,fun|17=>0|18=>1|19=>2|n=>n⟩
theorem Tryd.laysM176:Go.Proofs.LaysM.n176 Tryd.prog Tryd.laysM176_ren:={
 mixed:=by kernel_rfl
 f129:=Tryd.func113.trans (congrArg some (by kernel_rfl))
 f176:=Tryd.func83.trans (congrArg some (by kernel_rfl))
 f249:=Tryd.func98.trans (congrArg some (by kernel_rfl))
 f283:=Tryd.func108.trans (congrArg some (by kernel_rfl))
 f284:=Tryd.func109.trans (congrArg some (by kernel_rfl))
 f285:=Tryd.func110.trans (congrArg some (by kernel_rfl))
 f286:=Tryd.func111.trans (congrArg some (by kernel_rfl))
 f288:=Tryd.func105.trans (congrArg some (by kernel_rfl))
 f317:=Tryd.func112.trans (congrArg some (by kernel_rfl))
 f318:=Tryd.func114.trans (congrArg some (by kernel_rfl))
 f319:=Tryd.func115.trans (congrArg some (by kernel_rfl))
 f320:=Tryd.func116.trans (congrArg some (by kernel_rfl))
 f337:=Tryd.func117.trans (congrArg some (by kernel_rfl))
 f338:=Tryd.func118.trans (congrArg some (by kernel_rfl))
 t0:=Tryd.underlying0
 a0:=Tryd.isAgg0
 z0:=Tryd.sizeOf0
 v0:=Tryd.zeroValue0
 t2:=Tryd.underlying2
 a2:=Tryd.isAgg2
 z2:=Tryd.sizeOf2
 v2:=Tryd.zeroValue2
 t3:=Tryd.underlying3
 a3:=Tryd.isAgg3
 z3:=Tryd.sizeOf3
 v3:=Tryd.zeroValue3
 t4:=Tryd.underlying4
 a4:=Tryd.isAgg4
 z4:=Tryd.sizeOf4
 v4:=Tryd.zeroValue4
 t5:=Tryd.underlying5
 a5:=Tryd.isAgg5
 z5:=Tryd.sizeOf5
 v5:=Tryd.zeroValue5
 t9:=Tryd.underlying9
 a9:=Tryd.isAgg9
 z9:=Tryd.sizeOf9
 v9:=Tryd.zeroValue9
 t20:=Tryd.underlying20
 a20:=Tryd.isAgg20
 z20:=Tryd.sizeOf20
 v20:=Tryd.zeroValue20
 t37:=Tryd.underlying118
 a37:=Tryd.isAgg118
 z37:=Tryd.sizeOf118
 v37:=Tryd.zeroValue118
 t46:=Tryd.underlying124
 a46:=Tryd.isAgg124
 z46:=Tryd.sizeOf124
 v46:=Tryd.zeroValue124
 t51:=Tryd.underlying141
 a51:=Tryd.isAgg141
 z51:=Tryd.sizeOf141
 v51:=Tryd.zeroValue141
 t53:=Tryd.underlying130
 a53:=Tryd.isAgg130
 z53:=Tryd.sizeOf130
 v53:=Tryd.zeroValue130
 t171:=Tryd.underlying134
 a171:=Tryd.isAgg134
 z171:=Tryd.sizeOf134
 v171:=Tryd.zeroValue134
 t173:=Tryd.underlying137
 a173:=Tryd.isAgg137
 z173:=Tryd.sizeOf137
 v173:=Tryd.zeroValue137
 t212:=Tryd.underlying140
 a212:=Tryd.isAgg140
 z212:=Tryd.sizeOf140
 v212:=Tryd.zeroValue140
 t213:=Tryd.underlying142
 a213:=Tryd.isAgg142
 z213:=Tryd.sizeOf142
 t232:=Tryd.underlying145
 a232:=Tryd.isAgg145
 z232:=Tryd.sizeOf145
 v232:=Tryd.zeroValue145
 t233:=Tryd.underlying146
 a233:=Tryd.isAgg146
 z233:=Tryd.sizeOf146
 v233:=Tryd.zeroValue146
 g17:=by kernel_rfl
 g18:=by kernel_rfl
 g19:=by kernel_rfl
 i0:=by kernel_rfl
 i2:=by kernel_rfl
 i3:=by kernel_rfl
 i4:=by kernel_rfl
 i5:=by kernel_rfl
 i9:=by kernel_rfl
 i20:=by kernel_rfl
 i37:=by kernel_rfl
 i46:=by kernel_rfl
 i51:=by kernel_rfl
 i53:=by kernel_rfl
 i171:=by kernel_rfl
 i173:=by kernel_rfl
 i212:=by kernel_rfl
 i232:=by kernel_rfl
 i233:=by kernel_rfl
 m17:=by kernel_rfl
 m18:=by kernel_rfl
 m19:=by kernel_rfl }
open Go.RowKit Go.Sort Go.Lib in
theorem Tryd.strconv_AppendInt_10 (B n:Nat) (i:Int) (h0:-9223372036854775808<=i) (h1:i<=9223372036854775807) (sv:Value) (xs:List Value) (w:World) (hown:w.ownsRow B 5 1 sv n xs) (hBw:B<=w.heap.size) (hlim:n+21<=140737488355328) (htab:Lib.TabBelow Tryd.prog B w "internal/strconv.uint64pow10" .u64 Lib.pow10Tab) :
  Calls Tryd.prog 83 #[sv,.int .i64 i,.int .i64 10] w fun e w'=>∃ v',e=.returned v'/\w'.ownsRow B 5 1 v' (n+(Lib.itoa i).length) (xs++Lib.byteCells (Lib.itoa i))/\Below B w w'/\Lib.OthersKept 5 none w w':=Any.strconv_AppendInt_10 Tryd.laysM176 B n i h0 h1 sv xs w hown hBw hlim htab
end Go.Proofs
end
section
namespace Go.Proofs.YtgfnhpadmifiiaaDoor
namespace Abs
open Go.RowKit
def oU (a:Int) (cs ns:List Int):List UInt8:=Lib.itoa a++(cs.flatMap fun c=>44::Lib.itoa c)++59::(ns.flatMap fun c=>44::Lib.itoa c)
def tX (n:Int):Bool:=decide (-9223372036854775808<=n/\n<=9223372036854775807)
def SlI (w:World) (v:Value) (cs:List Int):Prop:=∃ ao cap,v=.slice ao cs.length cap/\∀ k (hk:k<cs.length),∃ ad,ao=some ad/\w.cell? (ad.add k)=some (.int .i64 cs[k])
def fl (cs:List Int):List UInt8:=cs.flatMap fun c=>44::Lib.itoa c
theorem J4 (cs:List Int) (k:Nat) (hk:k<cs.length):fl (cs.take (k+1))=fl (cs.take k)++44::Lib.itoa cs[k]:=by
 unfold fl
 rw[List.take_succ_eq_append_getElem hk,List.flatMap_append];simp
theorem Nk:∀ (cs:List Int),(∀ c∈cs,tX c=true)->(fl cs).length<=22*cs.length:=by
 intro cs
 induction cs with
 |nil=>intro _;simp[fl]
 |cons c cs ih =>
  intro h
  have h1:=of_decide_eq_true (h c (by simp))
  have h2:=Lib.itoa_length_le c h1.1 h1.2
  have h3:=ih (fun x hx=>h x (by simp[hx]))
  have:fl (c::cs)=44::Lib.itoa c++fl cs:=by simp[fl]
  rw[this,List.length_append,List.length_cons,List.length_cons];omega
theorem a0W:(Tryd.prog.info? 5).map (fun i=>(i.zero,i.size,i.bytes))=some (some (.int .u8 0),1,1):=by kernel_rfl
theorem L6 (Y:List UInt8):strOfNums (Y.map fun (b:UInt8)=>(b.toNat:Int))=⟨Y.toArray⟩:=by
 have h:(Y.map fun (b:UInt8)=>(b.toNat:Int)).map (fun n=>UInt8.ofNat n.toNat)=Y:=by
  induction Y with
  |nil=>rfl
  |cons b Y ih =>
   rw[List.map_cons,List.map_cons,ih,Int.toNat_natCast,UInt8.ofNat_toNat]
 unfold strOfNums
 rw[h]
set_option maxHeartbeats 4000000 in
set_option maxRecDepth 100000 in
theorem Vr (a:Int) (cs ns:List Int) (w0:World) (cv nv:Value) (hc:SlI w0 cv cs) (hn:SlI w0 nv ns) (ha:-9223372036854775808<=a/\a<=9223372036854775807) (hcs:∀ c ∈ cs,tX c=true) (hns:∀ c ∈ ns,tX c=true) (hl:cs.length + ns.length<=1099511627776)
  (htab:Lib.TabIs Tryd.prog w0 "internal/strconv.uint64pow10" .u64 Lib.pow10Tab):Calls Tryd.prog 61 #[.int .i64 a,cv,nv] w0 fun e w'=>e=.returned (.string ⟨(oU a cs ns).toArray⟩)/\Below w0.heap.size w0 w':=by
 obtain⟨co,a4m,rfl,hcc⟩:=hc
 obtain⟨no,a4d,rfl,hnc⟩:=hn
 obtain⟨i0,hI,hI0,hI1,hI2⟩:=info_parts a0W
 have HCC:=Lib.hid hcc
 have HNC:=Lib.hid hnc
 have HCS:=Lib.hid hcs
 have HNS:=Lib.hid hns
 have HT:=Lib.hid htab
 have hA:=Lib.itoa_length_le a ha.1 ha.2
 have hF1:=fun k=>Nk (cs.take k) (fun c hc=>hcs c (List.mem_of_mem_take hc))
 have hF2:=fun k=>Nk (ns.take k) (fun c hc=>hns c (List.mem_of_mem_take hc))
 have HF1:=Lib.hid hF1
 have HF2:=Lib.hid hF2
 clear hcc hnc hcs hns htab hF1 hF2
 go_enter Tryd.func61,Tryd.ntmps61
 go_wp2_with fail
 refine (Tryd.strconv_AppendInt_10 w0.heap.size 0 a ha.1 ha.2 (.slice none 0 0) [] w0 (World.ownsRow_nil _ _ _ _) (Nat.le_refl _) (by omega) (Lib.tabBelow_of_tabIs HT.out)).mono ?_
 rintro e w1 ⟨v1,rfl,hown1,hb1,_⟩
 have HO1:=Lib.hid hown1
 have HB1:=Lib.hid hb1
 have hs1:=hb1.size
 clear hown1 hb1
 go_wp2
 go_loopw [7,16] (fun v i wr=>∃ k:Nat,k<=cs.length/\i=.int .i64 (k:Int)/\Hid (wr.ownsRow w0.heap.size 5 1 v (Lib.itoa a++fl (cs.take k)).length (Lib.byteCells (Lib.itoa a++fl (cs.take k))))/\Hid (Below w0.heap.size w0 wr)/\w0.heap.size<=wr.heap.size) (fun _ i _=>cs.length-(intOf i).toNat)
 case atStart=>exact⟨0,by omega,rfl,by simpa [fl,Lib.hid]using HO1,HB1,hs1⟩
 case round =>
  obtain⟨k,hk,rfl,HO,HB,hsr⟩:=hrel
  have hFk:=HF1.out k
  have hlen:(Lib.itoa a++fl (cs.take k)).length=(Lib.itoa a).length+(fl (cs.take k)).length:=List.length_append
  have htk:(cs.take k).length=k:=by rw[List.length_take];omega
  rw[htk]at hFk
  by_cases hlt:k<cs.length
  ·obtain⟨ad,rfl,hcell⟩:=HCC.out k hlt
   have q1:decide ((k:Int)<(cs.length:Int))=true:=decide_eq_true (by omega)
   have hcr:wr.cell? (ad.add k)=some (.int .i64 cs[k]):=by
    have hbk:=World.block_lt_of_cell? w0 (ad.add k) hcell
    rw[World.cell?_of_block (w:=w0) (HB.out.block _ hbk)]
    exact hcell
   have hri:=of_decide_eq_true (HCS.out cs[k] (List.getElem_mem hlt))
   have hit:=Lib.itoa_length_le cs[k] hri.1 hri.2
   have HRI:=Lib.hid hri
   have esn:=J4 cs k hlt
   generalize hck:cs[k]=c at hcr hri hit HRI esn
   have ESN:=Lib.hid esn
   clear hcell esn hri
   have HXE:=Lib.hid (show Lib.itoa a++fl (cs.take (k+1))=(Lib.itoa a++fl (cs.take k))++44::Lib.itoa c by rw[ESN.out];simp only[List.append_assoc])
   generalize hX:Lib.itoa a++fl (cs.take k)=X at HO hlen HXE
   clear hX
   have HLT:=Lib.hid (fun g hg=>(HO.out.lt g hg).1)
   go_wp2_with (first|(at_builtin;refine wpList_append_own _ rfl _ _ 118 rfl w0.heap.size 5 i0 (.int .u8 0) 1 1 Tryd.underlying118 hI hI0 hI1 hI2 rfl (by decide) _ _ _ rfl (HO.out.alloc _) ⟨wr.heap.size,0,none⟩ 1 1 [.int .u8 44] rfl rfl (by intro j u' hj;match j,hj with|0,hj=>simp at hj;subst hj;simp[Addr.add]) (by intro u' hu';simp at hu';subst hu';rfl) (by unfold maxLen;omega) (by omega) (by simp;omega) ?_;intro v' w3 hown' hgrow3 hnil3))
   have HO3:=Lib.hid hown'
   have hs3:wr.heap.size<=w3.heap.size:=by have:=hgrow3.size;simp at this;omega
   have HB3:=Lib.hid (Below.grown (HB.out.alloc (by omega) _) hgrow3 (by simp;omega) (fun j hj=>HLT.out j hj))
   clear hown' hgrow3 hnil3
   go_wp2_with fail
   refine (Tryd.strconv_AppendInt_10 w0.heap.size (X.length+1) c HRI.out.1 HRI.out.2 v' _ w3 HO3.out (by omega) (by omega) ((Lib.tabBelow_of_tabIs HT.out).on HB3.out)).mono ?_
   rintro e w4 ⟨v4,rfl,AJ,hb4,_⟩
   have HO4:=Lib.hid AJ
   have hs4:=hb4.size
   have HB4:=Lib.hid (HB3.out.trans hb4)
   clear AJ hb4
   go_wp2
   go_roundw
   case rel =>
    refine⟨k+1,by omega,by go_num,?_,HB4,by omega⟩
    have e1:Lib.byteCells (X++44::Lib.itoa c)=Lib.byteCells X++[.int .u8 44]++Lib.byteCells (Lib.itoa c):=by simp[Lib.byteCells]
    have e2:(X++44::Lib.itoa c).length=X.length+1+(Lib.itoa c).length:=by rw[List.length_append,List.length_cons];omega
    rw[HXE.out,e1,e2]
    exact HO4
   case measure=>simp[intOf];omega
  ·have q1:decide ((k:Int)<(cs.length:Int))=false:=decide_eq_false (by omega)
   obtain rfl:k=cs.length:=by omega
   rw[List.take_length]at HO
   have hFk:=HF1.out cs.length
   rw[List.take_length]at hFk hlen
   clear htk
   generalize hX:Lib.itoa a++fl cs=X at HO hlen
   have HX:=Lib.hid hX
   clear hX
   have HLT:=Lib.hid (fun g hg=>(HO.out.lt g hg).1)
   go_wp2_with (first|(at_builtin;refine wpList_append_own _ rfl _ _ 118 rfl w0.heap.size 5 i0 (.int .u8 0) 1 1 Tryd.underlying118 hI hI0 hI1 hI2 rfl (by decide) _ _ _ rfl (HO.out.alloc _) ⟨wr.heap.size,0,none⟩ 1 1 [.int .u8 59] rfl rfl (by intro j u' hj;match j,hj with|0,hj=>simp at hj;subst hj;simp[Addr.add]) (by intro u' hu';simp at hu';subst hu';rfl) (by unfold maxLen;omega) (by omega) (by simp;omega) ?_;intro v' w3 hown' hgrow3 hnil3))
   have HO3:=Lib.hid hown'
   have hs3:wr.heap.size<=w3.heap.size:=by have:=hgrow3.size;simp at this;omega
   have HB3:=Lib.hid (Below.grown (HB.out.alloc (by omega) _) hgrow3 (by simp;omega) (fun j hj=>HLT.out j hj))
   clear hown' hgrow3 hnil3
   go_wp2
   have hpl:(Lib.itoa a++fl cs++[59]).length=X.length+1:=by rw[HX.out,List.length_append];rfl
   go_loopw [7,31] (fun v i wr=>∃ k:Nat,k<=ns.length/\i=.int .i64 (k:Int)/\Hid (wr.ownsRow w0.heap.size 5 1 v (Lib.itoa a++fl cs++[59]++fl (ns.take k)).length (Lib.byteCells (Lib.itoa a++fl cs++[59]++fl (ns.take k))))/\Hid (Below w0.heap.size w0 wr)/\w0.heap.size<=wr.heap.size) (fun _ i _=>ns.length-(intOf i).toNat)
   case atStart =>
    refine⟨0,by omega,rfl,?_,HB3,by omega⟩
    have e1:Lib.byteCells (X++[59])=Lib.byteCells X++[.int .u8 59]:=by simp[Lib.byteCells]
    have e2:(X++[59]).length=X.length+1:=by rw[List.length_append];rfl
    have e3:Lib.itoa a++fl cs++[59]++fl (ns.take 0)=X++[59]:=by rw[HX.out];simp[fl]
    rw[e3,e1,e2]
    exact HO3
   case round =>
    obtain⟨k,hk,rfl,HO,HB,hsr⟩:=hrel
    have hFk:=HF2.out k
    have hlen:(Lib.itoa a++fl cs++[59]++fl (ns.take k)).length=(Lib.itoa a++fl cs++[59]).length+(fl (ns.take k)).length:=List.length_append
    have htk:(ns.take k).length=k:=by rw[List.length_take];omega
    rw[htk]at hFk
    by_cases hlt:k<ns.length
    ·obtain⟨ad,rfl,hcell⟩:=HNC.out k hlt
     have q1:decide ((k:Int)<(ns.length:Int))=true:=decide_eq_true (by omega)
     have hcr:wr.cell? (ad.add k)=some (.int .i64 ns[k]):=by
      have hbk:=World.block_lt_of_cell? w0 (ad.add k) hcell
      rw[World.cell?_of_block (w:=w0) (HB.out.block _ hbk)]
      exact hcell
     have hri:=of_decide_eq_true (HNS.out ns[k] (List.getElem_mem hlt))
     have hit:=Lib.itoa_length_le ns[k] hri.1 hri.2
     have HRI:=Lib.hid hri
     have esn:=J4 ns k hlt
     generalize hck:ns[k]=c at hcr hri hit HRI esn
     have ESN:=Lib.hid esn
     clear hcell esn hri
     have HXE:=Lib.hid (show Lib.itoa a++fl cs++[59]++fl (ns.take (k+1))=(Lib.itoa a++fl cs++[59]++fl (ns.take k))++44::Lib.itoa c by rw[ESN.out];simp only[List.append_assoc])
     generalize hX:Lib.itoa a++fl cs++[59]++fl (ns.take k)=X at HO hlen HXE
     clear hX
     have HLT:=Lib.hid (fun g hg=>(HO.out.lt g hg).1)
     go_wp2_with (first|(at_builtin;refine wpList_append_own _ rfl _ _ 118 rfl w0.heap.size 5 i0 (.int .u8 0) 1 1 Tryd.underlying118 hI hI0 hI1 hI2 rfl (by decide) _ _ _ rfl (HO.out.alloc _) ⟨wr.heap.size,0,none⟩ 1 1 [.int .u8 44] rfl rfl (by intro j u' hj;match j,hj with|0,hj=>simp at hj;subst hj;simp[Addr.add]) (by intro u' hu';simp at hu';subst hu';rfl) (by unfold maxLen;omega) (by omega) (by simp;omega) ?_;intro v' w3 hown' hgrow3 hnil3))
     have HO3:=Lib.hid hown'
     have hs3:wr.heap.size<=w3.heap.size:=by have:=hgrow3.size;simp at this;omega
     have HB3:=Lib.hid (Below.grown (HB.out.alloc (by omega) _) hgrow3 (by simp;omega) (fun j hj=>HLT.out j hj))
     clear hown' hgrow3 hnil3
     go_wp2_with fail
     refine (Tryd.strconv_AppendInt_10 w0.heap.size (X.length+1) c HRI.out.1 HRI.out.2 v' _ w3 HO3.out (by omega) (by omega) ((Lib.tabBelow_of_tabIs HT.out).on HB3.out)).mono ?_
     rintro e w4 ⟨v4,rfl,AJ,hb4,_⟩
     have HO4:=Lib.hid AJ
     have hs4:=hb4.size
     have HB4:=Lib.hid (HB3.out.trans hb4)
     clear AJ hb4
     go_wp2
     go_roundw
     case rel =>
      refine⟨k+1,by omega,by go_num,?_,HB4,by omega⟩
      have e1:Lib.byteCells (X++44::Lib.itoa c)=Lib.byteCells X++[.int .u8 44]++Lib.byteCells (Lib.itoa c):=by simp[Lib.byteCells]
      have e2:(X++44::Lib.itoa c).length=X.length+1+(Lib.itoa c).length:=by rw[List.length_append,List.length_cons];omega
      rw[HXE.out,e1,e2]
      exact HO4
     case measure=>simp[intOf];omega
    ·have q1:decide ((k:Int)<(ns.length:Int))=false:=decide_eq_false (by omega)
     obtain rfl:k=ns.length:=by omega
     rw[List.take_length]at HO
     have hFk:=HF2.out ns.length
     rw[List.take_length]at hFk hlen
     clear htk
     have ZL:=Lib.hid (show oU a cs ns=(Lib.itoa a++fl cs++[59])++fl ns by simp[oU,fl])
     obtain⟨g,cap,hv,hgs⟩:∃ g cap,u7=.slice (some ⟨g,0,none⟩) (Lib.itoa a++fl cs++[59]++fl ns).length cap/\(∀ i,i<(Lib.itoa a++fl cs++[59]++fl ns).length->wr.cell? ⟨g,0+i,none⟩=some (.int .u8 (((Lib.itoa a++fl cs++[59]++fl ns).map fun (b:UInt8)=>(b.toNat:Int)).getD i 0))):=by
      have h0:0<(Lib.itoa a++fl cs++[59]++fl ns).length:=by simp only[List.length_append,List.length_cons,List.length_nil];omega
      obtain⟨hxl,hx|⟨g,cap,cur,hv,_⟩⟩:=HO.out
      ·exfalso
       have:=hx.2
       simp at this
      refine⟨g,cap,hv,fun i hi=>?_⟩
      have hca:=World.ownsRow.cellAt (h:=(hv▸HO.out)) i (by omega)
      rw[Nat.zero_add,hca]
      unfold Lib.byteCells
      rw[List.getElem?_map,List.getElem?_eq_getElem hi,List.getD_eq_getElem?_getD,List.getElem?_map,List.getElem?_eq_getElem hi]
      rfl
     generalize hY:Lib.itoa a++fl cs++[59]++fl ns=Y at hv hgs ZL
     have HBE:=Lib.hid HB.out
     clear hY HO
     subst hv
     have a4c:=run_convert_bytes_arg (P:=Tryd.prog) wr 118 5 Tryd.underlying118 Tryd.underlying5 g 0 _ cap (Y.map fun (b:UInt8)=>(b.toNat:Int)) (by simp) hgs 9 Tryd.underlying9
     go_wp2
     first|go_ret|go_ret2
     refine⟨?_,HBE.out⟩
     rw[ZL.out,L6];rfl
theorem Uz {P:Program} {F:Addr->Option Value} {w:World} {f:Nat} {xs:Array Value} {v:Value} {res:AV} (hF:∀ a x,F a=some x->w.cell? a=some x) (hR:RP F v res) (h:Calls P f xs w fun e w'=>e=.returned v/\Below w.heap.size w w') :
  Calls P f xs w fun e w'=>∃ v F',e=.returned v/\(∀ ad y,F ad=some y->F' ad=some y)/\(∀ ad y,F' ad=some y->w'.cell? ad=some y)/\(∀ ad y,F' ad=some y->F ad=some y\/w.heap.size<=ad.block)/\RP F' v res/\Below w.heap.size w w':=by
 refine h.mono ?_
 rintro e w' ⟨rfl,hb⟩
 refine⟨v,F,rfl,fun _ _ q=>q,fun ad y q=>?_,fun _ _ q=>.inl q,hR,hb⟩
 rw[World.cell?_of_block (w:=w) (hb.block _ (World.block_lt_of_cell? w ad (hF ad y q)))]
 exact hF ad y q
theorem Xi {P:Program} {Gl:Nat->Option (List AV)} {F:Addr->Option Value} {w:World} {g B:Nat} {k:IntKind} {zs:List Int} {name:String} (hF:∀ a x,F a=some x->w.cell? a=some x) (hG:He Gl F) (hW:GlW Gl B w) (hg:Gl g=some (zs.map fun z=>.v (.int k z))) (hn:P.globalNamed name=some g):Lib.TabIs P w name k zs:=by
 obtain⟨_,vs,ty,fr,h1,h2⟩:=hW g _ hg
 unfold Lib.TabIs World.var?
 rw[hn]
 simp only[Option.bind_some,h1]
 congr 1
 apply Array.ext
 ·simpa using h2
 ·intro j hj hj2
  have hz:j<zs.length:=by simpa using hj2
  have hr:=hG g _ hg
  cases hr with
  |fQ _ _ cv c1 c2 =>
   have ha:(zs.map fun z=>AV.v (.int k z))[j]?=some (.v (.int k zs[j])):=by rw[List.getElem?_map,List.getElem?_eq_getElem hz];rfl
   obtain⟨d1,_⟩:=c1 j _ ha
   have d2:=c2 j _ ha
   have e:cv j=.int k zs[j]:=by generalize cv j=q at d2;cases d2;rfl
   have e2:(Addr.add ⟨g,0,none⟩ j:Addr)=⟨g,j,none⟩:=by simp[Addr.add];intro h;exact h.symm
   rw[e,e2]at d1
   have d3:=hF _ _ d1
   rw[Lib.cell_of_heap h1,Array.getElem?_eq_getElem hj]at d3
   simpa using Option.some.inj d3
theorem Ga:Tryd.prog.globalNamed "internal/strconv.uint64pow10"=some 0:=by kernel_rfl
theorem Rh {F:Addr->Option Value} {w:World} {x:Value} {cs:List Int} (hF:∀ a x,F a=some x->w.cell? a=some x) (hx:RP F x (.list 1 (cs.map fun z=>.v (.int .i64 z)))):SlI w x cs:=by
 generalize hz:(cs.map fun z=>AV.v (.int .i64 z))=zs at hx
 cases hx with
 |nil =>
  obtain rfl:cs=[]:=List.map_eq_nil_iff.1 hz
  exact⟨none,0,rfl,fun k hk=>by cases hk⟩
 |list ad n cap _ _ cv hn hc hsz hFc hR =>
  subst hz
  rw[List.length_map]at hn
  subst hn
  refine⟨some ad,cap,rfl,fun k hk=>⟨ad,rfl,?_⟩⟩
  have ha:(cs.map fun z=>AV.v (.int .i64 z))[k]?=some (.v (.int .i64 cs[k])):=by rw[List.getElem?_map,List.getElem?_eq_getElem hk];rfl
  have d1:=(hFc k 0 _ _ ha rfl).1
  have d2:=hR k 0 _ _ ha rfl
  rw[Nat.mul_one,Nat.add_zero]at d1 d2
  have e:cv k=.int .i64 cs[k]:=by generalize cv k=q at d2;cases d2;rfl
  rw[e]at d1
  exact hF _ _ d1
def zo (a:Int) (cs ns:List Int):Option (ByteArray×Unit):=if tX a=true/\cs.all tX=true/\ns.all tX=true/\cs.length+ns.length<=1099511627776 then some (⟨(oU a cs ns).toArray⟩,()) else none
def Ku:PI:=⟨61,[.int .i64,.list (.int .i64),.list (.int .i64)],[.str],fun x=>zo x.1 x.2.1 x.2.2.1⟩
theorem XQ {GX:GXT} (hg:gx GX 0=some (Lib.pow10Tab.map fun z=>.v (.int .u64 z))):POk Tryd.prog (gx GX) Ku:=by
 refine⟨by kernel_rfl,?_⟩
 rintro⟨a,cs,ns,⟨⟩⟩ y hy
 have hy:zo a cs ns=some y:=hy
 unfold zo at hy
 split at hy
 ·rename_i hb
  cases hy
  intro w F xs hF hG hW hxs
  obtain⟨h1,h2⟩:=hxs
  have hl:xs.size=3:=h1
  have h0:=h2 0 xs[0] (.v (.int .i64 a)) (Array.getElem?_eq_getElem _) rfl
  have h3:=h2 1 xs[1] (.list 1 (cs.map fun z=>.v (.int .i64 z))) (Array.getElem?_eq_getElem _) rfl
  have h4:=h2 2 xs[2] (.list 1 (ns.map fun z=>.v (.int .i64 z))) (Array.getElem?_eq_getElem _) rfl
  have e0:xs[0]=.int .i64 a:=by generalize xs[0]=q at h0;cases h0;rfl
  have ex:xs=#[.int .i64 a,xs[1],xs[2]]:=by
   apply Array.ext
   ·exact hl
   ·intro i p q;have:i=0\/i=1\/i=2:=by omega
    rcases this with rfl|rfl|rfl
    ·exact e0
    ·rfl
    ·rfl
  rw[ex]
  exact Uz hF (.v _) (Vr a cs ns w _ _ (Rh hF h3) (Rh hF h4) (by simpa [tX]using hb.1) (fun c hc=>List.all_eq_true.1 hb.2.1 c hc) (fun c hc=>List.all_eq_true.1 hb.2.2.1 c hc) hb.2.2.2 (Xi hF hG hW hg Ga))
 ·cases hy
end Abs
end Go.Proofs.YtgfnhpadmifiiaaDoor
end
namespace Go.Proofs.YtgfnhpadmifiiaaDoor
namespace Abs
abbrev ND:Type:=Int×List Int×List Int×Unit
def zN:ND:=(0,[],[],())
def kids (ns:List ND) (r:Nat):List Int:=(ns.getD r zN).2.2.1
def aL (ns:List ND):Nat->List Nat->Int->List Nat
 |0,ord,_=>ord
 |f+1,ord,r=>if r<0\/r.toNat∈ord then ord else (kids ns r.toNat).foldl (aL ns f) (ord++[r.toNat])
def aY (O:List Nat) (c:Int):Int:=if c<0 then c else (O.idxOf c.toNat:Int)
def imN (ns:List ND) (O:List Nat) (r:Nat):ND:=((ns.getD r zN).1,(ns.getD r zN).2.1,(kids ns r).map (aY O),())
def gX (ns:List ND) (O:List Nat):List ND:=O.map (imN ns O)
def brK:List Int->Int->Nat
 |[],_=>0
 |c::cs,v=>if c<=v then brK cs v+1 else 0
theorem xw:∀ (cs:List Int) (v:Int) (k:Nat),k<=cs.length->(∀ j,j<k->cs.getD j 0<=v)->(k=cs.length\/v<cs.getD k 0)->brK cs v=k:=by
 intro cs
 induction cs with
 |nil=>intro v k h _ _;simp at h;subst h;rfl
 |cons c cs ih =>
  intro v k hk h1 h2
  simp only[brK]
  cases k with
  |zero =>
   rcases h2 with q|q
   ·cases q
   ·rw[if_neg (by simpa using q)]
  |succ k =>
   have:=h1 0 (by omega)
   rw[if_pos (by simpa using this),ih v k (by simpa using hk) (fun j hj=>by have:=h1 (j+1) (by omega);simpa using this) (by rcases h2 with q|q;left;simpa using q;right;simpa using q)]
theorem oq:∀ (cs:List Int) (v:Int),brK cs v<=cs.length:=by
 intro cs
 induction cs with
 |nil=>intro v;exact Nat.le_refl _
 |cons c cs ih=>intro v;simp only[brK];split;have:=ih v;simp;omega;simp
def vlF (ns:List ND):Nat->Int->List Int->Int
 |0,r,_=>-1-r
 |f+1,r,fs=>if r<0 then -1-r else vlF ns f ((kids ns r.toNat).getD (brK (ns.getD r.toNat zN).2.1 (fs.getD (ns.getD r.toNat zN).1.toNat 0)) 0) fs
def bsX:=And.intro @WA (And.intro @WC (And.intro @QV (And.intro @NT (And.intro @QW (And.intro @WB (And.intro @Lc (And.intro @Ld (And.intro @HZ (And.intro @NZ (And.intro @R9 (And.intro @Cr (And.intro @H9 (And.intro @I6 (And.intro @Dv (And.intro @I5 (And.intro @Ll (And.intro @R7 (And.intro @NW (And.intro @Lh (And.intro @R3 (And.intro @R4 (And.intro @R6 (And.intro @R5 (And.intro @Zp (And.intro @Ws (And.intro @Zy (And.intro @Zz (And.intro @Wt (And.intro @ZB (And.intro @a2c (And.intro @Wz (And.intro @Zu (And.intro @Zv (And.intro @QO (And.intro @QN (And.intro @Wy (And.intro @QL (And.intro @QM (And.intro @NQ (And.intro @Zr (And.intro @Wq (And.intro @Zo (And.intro @Zt (And.intro @ZA (And.intro @NR (And.intro @QT (And.intro @QS (And.intro @Zx (And.intro @QU (And.intro @a2d (And.intro @Wv (And.intro @Wx (And.intro @List.set_cons_zero.{0} (And.intro @List.set_cons_succ.{0} (And.intro @List.getD_cons_zero.{0} (And.intro @List.getD_cons_succ.{0} (And.intro @List.getElem?_cons_zero.{0} (And.intro @List.getElem?_cons_succ.{0} (And.intro @Option.map_none.{0,0} (And.intro @Option.map_some.{0,0} (And.intro @List.map_cons.{0,0} (And.intro @List.map_nil.{0,0} (And.intro @List.length_cons.{0} (And.intro @List.length_nil.{0} (And.intro @List.length_map.{0,0} (And.intro @List.all_cons.{0} (And.intro @List.all_nil.{0} (And.intro @List.head?_cons.{0} (And.intro @List.take_succ_cons.{0} (And.intro @List.take_zero.{0} (And.intro @List.take_nil.{0} (And.intro @List.drop_succ_cons.{0} (And.intro @List.drop_zero.{0} (And.intro @List.drop_nil.{0} (And.intro @List.cons_append.{0} (And.intro @List.nil_append.{0} (And.intro @List.append_nil.{0} (And.intro @List.flatMap_cons.{0,0} (And.intro @List.flatMap_nil.{0,0} (And.intro @List.foldl_cons.{0,0} (And.intro @List.foldl_nil.{0,0} (And.intro @true_and (And.intro @and_true (And.intro @true_or (And.intro @or_true (And.intro @beq_self_eq_true.{0} (And.intro @Bool.and_true (And.intro @Bool.and_false (And.intro @Bool.true_and (And.intro @Bool.and_self (And.intro @Bool.not_true (And.intro @Bool.not_false (And.intro @if_true.{0} (And.intro @ite_true.{0} (And.intro @ite_false.{0} (And.intro @Bool.false_eq_true (And.intro @Nat.zero_add (And.intro @Nat.add_zero (And.intro @Nat.sub_zero (And.intro @decide_true (And.intro @decide_false (And.intro @ne_eq.{0} (And.intro @not_false_eq_true (And.intro @List.toList_toArray.{0} (And.intro @List.size_toArray.{0} (And.intro @List.headD_cons.{0} (And.intro @Int.toNat_natCast (And.intro @Int.toNat_zero (And.intro @Int.cast_ofNat_Int (And.intro @Int.natCast_zero (@Int.natCast_one)))))))))))))))))))))))))))))))))))))))))))))))))))))))))))))))))))))))))))))))))))))))))))))))))))))))))))))))
set_option maxRecDepth 100000
def YQ:List Nat:=[18,19,24,29,45,51,55,58,66,67,68,70,80,81,86,97,127,128,129,130,131,134]
def Rq:List Ins:=[⟨some 2,none,.box 123 1 (.t 0)⟩,
 ⟨some 4,none,.alloc 28 (.agg #[.slice none 0 0,.int .i64 0])⟩]
def Rp:List Ins:=[⟨some 5,none,.alloc 28 (.agg #[.slice none 0 0,.int .i64 0])⟩]
def Ro:List Ins:=[⟨some 8,none,.load 1 false (.t 2)⟩,
 ⟨some 9,none,.nck (.t 8)⟩,
 ⟨some 10,none,.jA 0 (.t 9)⟩,
 ⟨some 11,none,.load 1 false (.t 10)⟩,
 ⟨some 12,none,.len (.t 11)⟩,
 ⟨some 13,none,.mmk 82 (some (.t 12))⟩,
 ⟨some 6,none,.alloc 82 (.map none)⟩,
 ⟨none,none,.store 1 (.t 6) (.t 13)⟩]
def Rn:List Ins:=[⟨some 7,none,.alloc 68 (.nilFunc)⟩]
def Rm:List Ins:=[⟨some 14,none,.clo 87 [(.t 6),(.t 5),(.t 2),(.t 7)]⟩,
 ⟨none,none,.store 1 (.t 7) (.t 14)⟩]
def Rl:List Ins:=[⟨some 15,none,.load 1 false (.t 7)⟩,
 ⟨some 16,none,.mov (.t 1)⟩,
 ⟨some 17,none,.call (.t 15) [(.t 16)]⟩,
 ⟨some 18,none,.jA 1 (.t 5)⟩,
 ⟨none,none,.store 1 (.t 18) (.t 17)⟩]
def Rk:List Ins:=[⟨some 19,none,.load 2 true (.t 5)⟩,
 ⟨none,none,.store 2 (.t 4) (.t 19)⟩]
def c68:C:=(.seq (.ops false Rq) (.seq (.ops false Rp) (.seq (.ops false Ro) (.seq (.ops false Rn) (.seq (.ops false Rm) (.seq (.ops false Rl) (.seq (.ops false Rk) .ret)))))))
theorem F68:Fn Tryd.prog 68 20 c68 [.c 4 2 true]:=⟨Tryd.f68,YQ,Tryd.func68,by kernel_rfl,by kernel_rfl,by kernel_rfl,by kernel_rfl⟩
def sM:List Ins:=[⟨some 6,none,.mov (.k (.int .i64 0))⟩]
def sK:List Ins:=[⟨some 14,none,.mov (.t 0)⟩,
 ⟨some 15,none,.bin .lss (.t 14) (.k (.int .i64 0))⟩]
def uZ:List Ins:=[⟨some 16,none,.mov (.t 0)⟩,
 ⟨some 6,none,.mov (.t 16)⟩]
def sJ:List Ins:=[⟨some 18,none,.load 1 false (.t 1)⟩,
 ⟨some 19,none,.mov (.t 0)⟩,
 ⟨some 20,none,.lM (.int .i64) true (.int .i64 0) (.t 18) (.t 19)⟩,
 ⟨some 17,none,.mov (.t 20)⟩,
 ⟨some 21,none,.ext 0 (.t 17)⟩,
 ⟨some 22,none,.ext 1 (.t 17)⟩,
 ⟨some 7,none,.mov (.t 21)⟩,
 ⟨some 8,none,.mov (.t 22)⟩]
def sI:List Ins:=[⟨some 23,none,.mov (.t 8)⟩]
def uY:List Ins:=[⟨some 24,none,.mov (.t 7)⟩,
 ⟨some 6,none,.mov (.t 24)⟩]
def sH:List Ins:=[⟨some 25,none,.jA 0 (.t 2)⟩,
 ⟨some 26,none,.load 1 false (.t 25)⟩,
 ⟨some 27,none,.len (.t 26)⟩,
 ⟨some 9,none,.mov (.t 27)⟩]
def sG:List Ins:=[⟨some 28,none,.load 1 false (.t 1)⟩,
 ⟨some 29,none,.mov (.t 0)⟩,
 ⟨some 30,none,.mov (.t 9)⟩,
 ⟨none,none,.mq (.int .i64) (.t 28) (.t 29) (.t 30)⟩]
def sF:List Ins:=[⟨some 31,none,.load 1 false (.t 3)⟩,
 ⟨some 32,none,.nck (.t 31)⟩,
 ⟨some 33,none,.jA 0 (.t 32)⟩,
 ⟨some 34,none,.load 1 false (.t 33)⟩,
 ⟨some 35,none,.mov (.t 0)⟩,
 ⟨some 36,none,.kZ 3 (.t 34) (.t 35)⟩,
 ⟨some 37,none,.load 3 true (.t 36)⟩,
 ⟨some 10,none,.alloc 70 (.agg #[.int .i64 0,.slice none 0 0,.slice none 0 0])⟩,
 ⟨none,none,.store 3 (.t 10) (.t 37)⟩]
def sD:List Ins:=[⟨some 38,none,.jA 2 (.t 10)⟩,
 ⟨some 39,none,.load 1 false (.t 38)⟩,
 ⟨some 40,none,.len (.t 39)⟩,
 ⟨some 41,none,.mk 3 1 8 (.int .i64 0) (.t 40)⟩,
 ⟨some 11,none,.mov (.t 41)⟩]
def pX:List (Nat×Ins):=[(0,⟨some 42,none,.jA 0 (.t 2)⟩),
 (1,⟨some 43,none,.load 1 false (.t 42)⟩),
 (0,⟨some 44,none,.jA 0 (.t 10)⟩),
 (1,⟨some 45,none,.load 1 false (.t 44)⟩),
 (0,⟨some 46,none,.jA 1 (.t 10)⟩),
 (0,⟨some 47,none,.load 1 false (.t 46)⟩),
 (2,⟨some 48,none,.app 3 1 8 (.k (.slice none 0 0)) (.t 47)⟩),
 (0,⟨some 49,none,.mov (.t 11)⟩),
 (0,⟨some 50,none,.build [.int .i64 0,.slice none 0 0,.slice none 0 0] [(0,1,(.t 45)),(1,1,(.t 48)),(2,1,(.t 49))]⟩),
 (2,⟨some 51,none,.jV 70 3 [(.t 50)]⟩),
 (0,⟨some 52,none,.app 70 3 56 (.t 43) (.t 51)⟩),
 (0,⟨some 53,none,.jA 0 (.t 2)⟩),
 (0,⟨none,none,.store 1 (.t 53) (.t 52)⟩)]
def pW:List Ins:=[⟨some 54,none,.jA 2 (.t 10)⟩,
 ⟨some 55,none,.load 1 false (.t 54)⟩,
 ⟨some 56,none,.len (.t 55)⟩,
 ⟨some 57,none,.mov (.k (.int .i64 0))⟩]
def pV:List Ins:=[⟨some 58,none,.bin .lss (.t 57) (.t 56)⟩]
def pU:List Ins:=[⟨some 59,none,.mov (.t 57)⟩,
 ⟨some 60,none,.kZ 1 (.t 55) (.t 57)⟩,
 ⟨some 61,none,.load 1 false (.t 60)⟩,
 ⟨some 12,none,.mov (.t 59)⟩,
 ⟨some 13,none,.mov (.t 61)⟩]
def pR:List Ins:=[⟨some 62,none,.mov (.t 11)⟩,
 ⟨some 63,none,.mov (.t 12)⟩,
 ⟨some 64,none,.load 1 false (.t 4)⟩,
 ⟨some 65,none,.mov (.t 13)⟩,
 ⟨some 66,none,.call (.t 64) [(.t 65)]⟩,
 ⟨some 67,none,.kZ 1 (.t 62) (.t 63)⟩,
 ⟨none,none,.store 1 (.t 67) (.t 66)⟩]
def pQ:List Ins:=[⟨some 68,none,.bin .add (.t 57) (.k (.int .i64 1))⟩,
 ⟨some 57,none,.mov (.t 68)⟩]
def FT:C:=(.seq (.ops false pV) (.seq (.cond (.t 58) .skip (.exit 0)) (.seq (.block 1 (.seq (.ops false pU) (.ops false pR))) (.ops false pQ))))
def pO:List Ins:=[⟨some 69,none,.mov (.t 9)⟩,
 ⟨some 6,none,.mov (.t 69)⟩]
def c87:C:=(.seq (.ops false sM) (.seq (.seq (.ops false sK) (.cond (.t 15) (.seq (.ops false uZ) .ret) .skip)) (.seq (.seq (.ops false sJ) (.seq (.ops false sI) (.cond (.t 23) (.seq (.ops false uY) .ret) .skip))) (.seq (.ops false sH) (.seq (.ops false sG) (.seq (.ops false sF) (.seq (.ops false sD) (.seq (.oN pX) (.seq (.seq (.ops false pW) (.block 0 (.loop FT))) (.seq (.ops false pO) .ret))))))))))
theorem F87:Fn Tryd.prog 87 70 c87 [.t 6]:=⟨Tryd.f87,YQ,Tryd.func87,by kernel_rfl,by kernel_rfl,by kernel_rfl,by kernel_rfl⟩
theorem fG:Tryd.prog.follows .mixedOrders=true:=by kernel_rfl
end Abs
end Go.Proofs.YtgfnhpadmifiiaaDoor
section
namespace Go.Proofs.YtgfnhpadmifiiaaDoor
namespace Abs
set_option maxRecDepth 100000
section
variable {Gl:Nat->Option (List AV)}
section
variable {P:Program} {N:Nat} {Q:Exit->St->Prop} {σ:St} {K:St->Prop}
theorem NS {l:List (Nat×Ins)} (U:List Nat) (h:dO P Gl σ.h.length U (Q .normal) l σ):awp P Gl N (.oN l) Q σ:=⟨U,h⟩
theorem NY {N:Nat} {U:List Nat}:dO P Gl N U K [] σ=K σ:=rfl
theorem ZJ {N:Nat} {U:List Nat} {i:Ins} {r:List (Nat×Ins)}:dO P Gl N U K ((0,i)::r) σ=dz P Gl true σ i (dO P Gl N U K r):=rfl
theorem ZI {N:Nat} {U:List Nat} {i:Ins} {r:List (Nat×Ins)}:dO P Gl N U K ((1,i)::r) σ=((wants σ i->∀ id∈i.i.ids Gl σ,id<N/\id∉U)/\dz P Gl true σ i (dO P Gl N U K r)):=rfl
theorem ZH {N:Nat} {U:List Nat} {i:Ins} {r:List (Nat×Ins)}:dO P Gl N U K ((2,i)::r) σ=dz P Gl false σ i fun ρ=>agree N U σ.h ρ.h/\dO P Gl N U K r ρ:=rfl
theorem Zw {d:Bool} {dst:Option Nat} {f xs}:bZ P Gl d σ dst K (.clo f xs)=bE Gl σ dst K (.clo f xs):=rfl
theorem Zq {d:Bool} {dst:Option Nat} {t n}:bZ P Gl d σ dst K (.mmk t n)=bE Gl σ dst K (.mmk t n):=rfl
theorem Ww {d:Bool} {dst:Option Nat} {kt ok z m k}:bZ P Gl d σ dst K (.lM kt ok z m k)=bE Gl σ dst K (.lM kt ok z m k):=rfl
theorem Wu {d:Bool} {dst:Option Nat} {kt m k v}:bZ P Gl d σ dst K (.mq kt m k v)=bE Gl σ dst K (.mq kt m k v):=rfl
end
def TQ (x:ND) (f:List Int):Prop:=0<=x.1/\x.1<f.length/\x.2.1.Pairwise (·<·)/\x.2.1.length<=4000000000/\x.2.2.1.length=x.2.1.length+1
def nextR (ns:List ND) (f:List Int) (r:Int):Int:=(kids ns r.toNat).getD (brK (ns.getD r.toNat zN).2.1 (f.getD (ns.getD r.toNat zN).1.toNat 0)) 0
def Cn (ns:List ND) (f:List Int):Nat->Int->Prop
 |0,r=>-256<=r/\r<0
 |n+1,r=>-256<=r/\(0<=r->r<ns.length/\TQ (ns.getD r.toNat zN) f/\Cn ns f n (nextR ns f r))
theorem Cn.lo {ns:List ND} {f:List Int} {n:Nat} {r:Int} (h:Cn ns f n r):-256<=r:=by cases n<;>exact h.1
theorem Cn.step {ns:List ND} {f:List Int} {n:Nat} {r:Int} (h:Cn ns f n r) (h0:0<=r):∃ m,n=m+1/\r<ns.length/\TQ (ns.getD r.toNat zN) f/\Cn ns f m (nextR ns f r):=by
 cases n with
 |zero=>have:=h.2;omega
 |succ m=>exact⟨m,rfl,h.2 h0⟩
def iq (x:ND):AV:=.agg [.v (.int .i64 x.1),.list 1 (x.2.1.map e64),.list 1 (x.2.2.1.map e64)]
end
end Abs
end Go.Proofs.YtgfnhpadmifiiaaDoor
end
section
namespace Go.Proofs.YtgfnhpadmifiiaaDoor
namespace Abs
open Go.RowKit
section
variable {P:Program} {Gl:Nat->Option (List AV)} {F:Addr->Option Value} {own:List Ent} {B:Nat} {w0:W0} {σ:St} {act:Act} {w:World} {K:Exit->St->Prop} {code:Code}
def WPx (P:Program) (Gl:Nat->Option (List AV)) (B:Nat) (w0:W0) (code:Code) (K:Exit->St->Prop) (σ:St):Prop :=
 ∀ F own act w,Inv Gl F own B w0 σ act w->code.wp P (fun e a w=>NG e/\iP Gl B w0 (K e) a w) act w
theorem X4 (hm:P.follows .mixedOrders=true) {hl:List Nat} {c:C} (hc:cC P hl code=some c) (ha:awp P Gl w0.N c K σ):WPx P Gl B w0 code K σ :=
 fun F own act w hI=>vX hm rfl code c hc K σ F own act w ha hI
theorem TU {K':Exit->St->Prop} (h:WPx P Gl B w0 code K σ) (hk:∀ e τ,K e τ->K' e τ):WPx P Gl B w0 code K' σ :=
 fun F own act w hI=>wp_mono (h F own act w hI) fun e a w ⟨ng,F1,bU,τ,h1,h2⟩=>⟨ng,F1,bU,τ,h1,hk e τ h2⟩
def a2g (P:Program) (Gl:Nat->Option (List AV)) (B:Nat) (w0:W0) (b:Code) (K:Exit->St->Prop) (e:Exit) (τ:St):Prop:=match e with|.normal=>WPx P Gl B w0 b K τ|e=>K e τ
theorem X0 {a b:Code} (h:WPx P Gl B w0 a (a2g P Gl B w0 b K) σ):WPx P Gl B w0 (.seq a b) K σ:=fun F own act w hI=>by
 refine wp_seq (wp_mono (h F own act w hI) ?_)
 rintro e a1 w1 ⟨ng,F1,bU,τ,hI1,hK⟩
 cases e with
 |normal=>exact hK F1 bU a1 w1 hI1
 |_=>exact⟨ng,F1,bU,τ,hI1,hK⟩
theorem Oq {id:Nat} {b:Code} (h:WPx P Gl B w0 b (rC id K) σ):WPx P Gl B w0 (.block id b) K σ:=fun F own act w hI=>by
 refine wp_block (wp_mono (h F own act w hI) ?_)
 rintro e a1 w1 ⟨ng,F1,bU,τ,hI1,hK⟩
 cases e with
 |exit i =>
  simp only[Exit.inBlock]
  have hK:(if i=id then K .normal τ else K (.exit i) τ):=hK
  by_cases hi:i=id
  ·rw[if_pos hi]at hK;rw[if_pos hi];exact⟨j6,F1,bU,τ,hI1,hK⟩
  ·rw[if_neg hi]at hK;rw[if_neg hi];exact⟨uz _,F1,bU,τ,hI1,hK⟩
 |_=>exact⟨ng,F1,bU,τ,hI1,hK⟩
def Bh (J:Nat->St->Prop) (K:Exit->St->Prop) (n:Nat) (e:Exit) (τ:St):Prop:=match e with|.normal=>∃ m,n=m+1/\J m τ|e=>K e τ
theorem Du {J:Nat->St->Prop} {n:Nat} {τ:St}:Bh J K n .normal τ=∃ m,n=m+1/\J m τ:=rfl
theorem I4 {J:Nat->St->Prop} {n i:Nat} {τ:St}:Bh J K n (.exit i) τ=K (.exit i) τ:=rfl
theorem TV {b:Code} (J:Nat->St->Prop) (n:Nat) (h0:J n σ) (hr:∀ m τ,J m τ->WPx P Gl B w0 b (Bh J K m) τ):WPx P Gl B w0 (.loop b) K σ:=fun F own act w hI=>by
 have key:∀ (n:Nat) (τ:St) (F:Addr->Option Value) (own:List Ent) (act:Act) (w:World),J n τ->Inv Gl F own B w0 τ act w->Code.rounds P b (fun e a w=>NG e/\iP Gl B w0 (K e) a w) (n+1) act w:=by
  intro n
  induction n with
  |zero =>
   intro τ F own act w hJ hI
   rw[rounds_succ]
   refine wp_mono (hr 0 τ hJ F own act w hI) ?_
   rintro e a1 w1 ⟨ng,F1,bU,ρ,hI1,hK⟩
   cases e with
   |normal=>obtain⟨m,q,_⟩:=hK;omega
   |_=>exact⟨ng,F1,bU,ρ,hI1,hK⟩
  |succ n ih =>
   intro τ F own act w hJ hI
   rw[rounds_succ]
   refine wp_mono (hr (n+1) τ hJ F own act w hI) ?_
   rintro e a1 w1 ⟨ng,F1,bU,ρ,hI1,hK⟩
   cases e with
   |normal =>
    obtain⟨m,q,hJ1⟩:=hK
    obtain rfl:m=n:=by omega
    exact ih ρ F1 bU a1 w1 hJ1 hI1
   |_=>exact⟨ng,F1,bU,ρ,hI1,hK⟩
 exact wp_loop_rounds (n+1) (key n σ F own act w h0 hI)
theorem uS (h:∀ F own act w,Inv Gl F own B w0 σ act w->∃ F' own' τ,Inv Gl F' own' B w0 τ act w/\WPx P Gl B w0 code K τ):WPx P Gl B w0 code K σ:=fun F own act w hI=>by
 obtain⟨F',own',τ,hI',h'⟩:=h F own act w hI
 exact h' F' own' act w hI'
def W0.rem (w0:W0) (n:Nat) (x:Value) (a:AV):W0:=⟨w0.w,w0.F,max w0.N n,(n,x,a)::w0.fr,fun q hq=>by
 rcases List.mem_cons.1 hq with rfl|hq
 ·exact Nat.le_max_right _ _
 ·exact Nat.le_trans (w0.hfr q hq) (Nat.le_max_left _ _),w0.pd,w0.pdn⟩
theorem Inv.rem (h:Inv Gl F own B w0 σ act w) {x:Value} {a:AV} (hR:R F own x a):Inv Gl F own B (w0.rem σ.h.length x a) σ act w :=
  { tl:=h.tl,tr:=h.tr,defers:=h.defers,sub:=h.sub,hl:=h.hl,objs:=h.objs,inj:=h.inj,below:=h.below,base:=h.base,gl:=h.gl,gw:=h.gw,room:=h.room,ext:=h.ext,iN:=h.iN,
    nl:=Nat.max_le.2 ⟨h.nl,Nat.le_refl _⟩,
    fr:=fun q hq=>by
      rcases List.mem_cons.1 hq with rfl|hq
      · show R F (own.take σ.h.length) x a
        rw[List.take_of_length_le (by rw[h.hl];exact Nat.le_refl _)];exact hR
      · exact h.fr q hq,
    pd:=h.pd }
theorem Inv.ZT {n:Nat} {x:Value} {a:AV} (h:Inv Gl F own B (w0.rem n x a) σ act w):Inv Gl F own B w0 σ act w :=
  { tl:=h.tl,tr:=h.tr,defers:=h.defers,sub:=h.sub,hl:=h.hl,objs:=h.objs,inj:=h.inj,below:=h.below,base:=h.base,gl:=h.gl,gw:=h.gw,room:=h.room,ext:=h.ext,iN:=h.iN,
    nl:=Nat.le_trans (Nat.le_max_left _ _) h.nl,
    fr:=fun q hq=>h.fr q (List.mem_cons_of_mem _ hq),
    pd:=h.pd }
theorem Inv.slot (h:Inv Gl F own B w0 σ act w) {i:Nat} {a:AV} (hR:∀ x,act.tmps[i]?=some x->R F own x a):Inv Gl F own B w0 ⟨σ.t.set i a,σ.h⟩ act w :=
  { tl:=by simpa using h.tl,
    tr:=fun j x b p q=>by
      have q:(σ.t.set i a)[j]?=some b:=q
      by_cases hj:i=j
      · subst hj
        rw[List.getElem?_set]at q
        split at q
        · split at q
          · cases q;exact hR x p
          · cases q
        · rename_i hne;exact absurd rfl hne
      · rw[List.getElem?_set_ne hj]at q;exact h.tr j x b p q,
    defers:=h.defers,sub:=h.sub,hl:=h.hl,objs:=h.objs,inj:=h.inj,below:=h.below,base:=h.base,gl:=h.gl,gw:=h.gw,room:=h.room,ext:=h.ext,iN:=h.iN,nl:=h.nl,fr:=h.fr,pd:=h.pd }
theorem X5 (i:Nat) (h:WPx P Gl B w0 code K ⟨σ.t.set i .any,σ.h⟩):WPx P Gl B w0 code K σ :=
 uS fun F own act w hI=>⟨F,own,_,hI.slot fun x _=>.pure (.any x),h⟩
theorem X3 (l:List Nat):∀ {σ:St},WPx P Gl B w0 code K ⟨clr l σ.t,σ.h⟩->WPx P Gl B w0 code K σ:=by
 induction l with
 |nil=>intro σ h;exact h
 |cons i l ih=>intro σ h;exact X5 i (ih (σ:=⟨σ.t.set i .any,σ.h⟩) h)
theorem Oo {t:List AV} {h:List ah} {i id G sz off len:Nat} (hi:t[i]?=some (.row id G sz off len)) (H:∀ x:Value,x.oneCell'=true->WPx P Gl B (w0.rem h.length x (.row id G sz off len)) code K ⟨t.set i (.v x),h⟩):WPx P Gl B w0 code K ⟨t,h⟩:=fun F own act w hI=>by
 have hlt:i<act.tmps.size:=by have:=(List.getElem?_eq_some_iff.1 hi).1;have:=hI.tl;simp only at this;omega
 have hR:=hI.tr i act.tmps[i] _ (Array.getElem?_eq_getElem hlt) hi
 have h1:act.tmps[i].oneCell'=true:=by
  obtain⟨_,_,_,⟨A,c,e,_⟩,_⟩:=hR.iB
  rw[e];rfl
 have hI1:=(hI.rem hR).slot (i:=i) (a:=.v act.tmps[i]) fun x hx=>by
  rw[Array.getElem?_eq_getElem hlt]at hx;cases hx;exact .pure (.v _)
 refine wp_mono (H _ h1 F own act w hI1) ?_
 rintro e a1 w1 ⟨ng,F1,bU,τ,hI2,hK⟩
 exact⟨ng,F1,bU,τ,hI2.ZT,hK⟩
theorem JE {t:List AV} {h:List ah} {i n:Nat} {x:Value} {a:AV} (hf:(n,x,a)∈w0.fr) (hi:t[i]?=some (.v x)) (H:WPx P Gl B w0 code K ⟨t.set i a,h⟩):WPx P Gl B w0 code K ⟨t,h⟩ :=
 uS fun F own act w hI=>⟨F,own,_,hI.slot fun y hy=>by
  have:y=x:=(hI.tr i y _ hy hi).aS
  subst this
  exact (hI.fr _ hf).mono (fun _ _ q=>q) (Le.BK own n),H⟩
theorem Inv.obj (h:Inv Gl F own B w0 σ act w) {k:Nat} {ob:ah} {es:List AV} (hob:σ.h[k]?=some ob) (h0:0 < ob.sz) (hl:es.length=ob.es.length) (hc:∀ (i:Nat) (x y:AV),ob.es[i]?=some x->es[i]?=some y->y.cells.length=x.cells.length/\∀ (j:Nat) (a b:AV),x.cells[j]?=some a->y.cells[j]?=some b->∀ v,RC F own ob.pr v a->RC F own ob.pr v b) :
  Inv Gl F own B w0 ⟨σ.t,σ.h.set k { ob with es:=es }⟩ act w:=by
 have hk:k<σ.h.length:=(List.getElem?_eq_some_iff.1 hob).1
 refine h.turn (fun _ _ q=>q) (Le.refl _) h.sub (by simp[h.hl]) (fun id e o' p q=>?_) h.inj h.below h.base
 have q:(σ.h.set k { ob with es:=es })[id]?=some o':=q
 by_cases hid:k=id
 ·subst hid
  rw[List.getElem?_set_self hk]at q
  cases q
  obtain⟨k1,k2,k3,k4,k5,k6,k7,k8⟩:=(h.objs k e ob p hob).c h0
  have ex:∀ (i:Nat) (y:AV),es[i]?=some y->∃ x,ob.es[i]?=some x:=fun i y hy=>⟨_,List.getElem?_eq_getElem (by have:=(List.getElem?_eq_some_iff.1 hy).1;omega)⟩
  refine ji.r ⟨by rw[k1];exact hl.symm,k2,k3,k4,⟨k5.1,fun q=>by rw[k5.2 q];exact hl.symm⟩,by rw[hl];exact k6,fun i y hy=>?_,?_⟩
  ·obtain⟨x,hx⟩:=ex i y hy
   rw[(hc i x y hx hy).1];exact k7 i x hx
  ·cases hg:e.g with
   |none=>rw[hg]at k8;exact k8
   |some g =>
    rw[hg]at k8
    obtain⟨cs,⟨fr,a1,af⟩,a2,a3,a4⟩:=k8
    refine⟨cs,⟨fr,a1,by rw[hl];exact af⟩,a2,fun i j y b r s=>?_,a4⟩
    obtain⟨x,hx⟩:=ex i y r
    obtain⟨q1,q2⟩:=hc i x y hx r
    have hj:j<x.cells.length:=by rw[<- q1];exact (List.getElem?_eq_some_iff.1 s).1
    obtain⟨v,b1,b2,b3⟩:=a3 i j x _ hx (List.getElem?_eq_getElem hj)
    exact⟨v,b1,b2,q2 j _ b (List.getElem?_eq_getElem hj) s v b3⟩
 ·rw[List.getElem?_set_ne hid]at q
  exact h.objs id e o' p q
theorem TW {t:List AV} {h:List ah} {n id id2 G k:Nat} {x:Value} {or o2:ah} {p q:AV} (hf:(n,x,.row id G 1 0 G) ∈ w0.fr) (hor:h[id]?=some or) (c1:or.es.length=G) (c2:or.sz=1) (c3:or.pr=true) (ho2:h[id2]?=some o2) (hne:id2 ≠ id) (h2:o2.pr=true) (h3:0 < o2.sz) (hk:o2.es[k]?=some (.agg [p,q,.v x]))
  (H:WPx P Gl B w0 code K ⟨t,(h.set id { or with fz:=or.es.length }).set id2 { o2 with es:=o2.es.set k (.agg [p,q,.list 1 or.es]) }⟩):WPx P Gl B w0 code K ⟨t,h⟩ :=
 uS fun F own act w hI=>by
  obtain⟨F',hF,hI1,hkp⟩:=hI.yg hor
  have hR:R F own x (.row id G 1 0 G):=(hI.fr _ hf).mono (fun _ _ q=>q) (Le.BK own n)
  have hRP:=ET hI hF hR hkp hor c1 c2 c3
  rw[List.drop_zero,List.take_of_length_le (by omega)]at hRP
  have a3F:(h.set id { or with fz:=or.es.length })[id2]?=some o2:=by rw[List.getElem?_set_ne (fun e=>hne e.symm)];exact ho2
  refine⟨F',own,_,hI1.obj (k:=id2) (ob:=o2) (es:=o2.es.set k (.agg [p,q,.list 1 or.es])) a3F h3 (by simp) fun i u y hu hy=>?_,H⟩
  by_cases hik:k=i
  ·subst hik
   rw[hk]at hu;cases hu
   rw[List.getElem?_set_self (List.getElem?_eq_some_iff.1 hk).1]at hy;cases hy
   refine⟨rfl,fun j a b r s v hv=>?_⟩
   match j,r,s with
   |0,r,s=>cases r;cases s;exact hv
   |1,r,s=>cases r;cases s;exact hv
   |2,r,s =>
    cases r;cases s
    have hv:=hv.r.aS
    subst hv
    unfold RC
    rw[if_pos h2]
    exact hRP
  ·rw[List.getElem?_set_ne hik,hu]at hy
   cases hy
   exact⟨rfl,fun j a b r s v hv=>by rw[r]at s;cases s;exact hv⟩
theorem yS {b:Code} (h:WPx P Gl B w0 b K σ):WPx P Gl B w0 (.scope b) K σ:=fun F own act w hI=>by
 refine wp_scope_straight (wp_mono (h F own act w hI) ?_)
 rintro e a1 w1 ⟨ng,hK⟩
 cases e with
 |goto l=>exact absurd rfl (ng l)
 |_=>exact⟨ng,hK⟩
def WPc (P:Program) (Gl:Nat->Option (List AV)) (B:Nat) (w0:W0) (c:C) (K:Exit->St->Prop) (σ:St):Prop:=∀ (hl:List Nat) (code:Code),cC P hl code=some c->WPx P Gl B w0 code K σ
def Ed (P:Program) (Gl:Nat->Option (List AV)) (B:Nat) (w0:W0) (b:C) (K:Exit->St->Prop) (e:Exit) (τ:St):Prop:=match e with|.normal=>WPc P Gl B w0 b K τ|e=>K e τ
theorem GZ {b:C} {τ:St}:Ed P Gl B w0 b K .normal τ=WPc P Gl B w0 b K τ:=rfl
theorem O4 {b:C} {τ:St}:Ed P Gl B w0 b K .ret τ=K .ret τ:=rfl
theorem Li {b:C} {i:Nat} {τ:St}:Ed P Gl B w0 b K (.exit i) τ=K (.exit i) τ:=rfl
theorem gB (hm:P.follows .mixedOrders=true) {c:C} (ha:awp P Gl w0.N c K σ):WPc P Gl B w0 c K σ:=fun hl code hc=>X4 hm hc ha
theorem gV {a b:C} (h:WPc P Gl B w0 a (Ed P Gl B w0 b K) σ):WPc P Gl B w0 (.seq a b) K σ:=by
 intro hl code
 induction code with
 |seq ca cb _ _ =>
  intro hc
  simp only[cC]at hc
  split at hc
  ·rename_i x y hxa hyb
   cases hc
   refine X0 (TU (h hl ca hxa) fun e τ hk=>?_)
   cases e with
   |normal=>exact hk hl cb hyb
   |_=>exact hk
  ·cases hc
 |scope b ih=>intro hc;exact yS (ih hc)
 |region id ops draw =>
  intro hc
  cases draw<;>simp only[cC]at hc
  ·cases hq:cL P false ops ops.toList<;>rw[hq]at hc<;>cases hc
  ·repeat' split at hc
   all_goals cases hc
 |cond c a b _ _ =>
  intro hc
  simp only[cC]at hc
  split at hc<;>cases hc
 |block id b _=>intro hc;simp only[cC]at hc;cases hq:cC P hl b<;>rw[hq]at hc<;>cases hc
 |loop b _=>intro hc;simp only[cC]at hc;cases hq:cC P hl b<;>rw[hq]at hc<;>cases hc
 |_=>intro hc;cases hc
theorem Ez {id:Nat} {b:C} (h:WPc P Gl B w0 b (rC id K) σ):WPc P Gl B w0 (.block id b) K σ:=by
 intro hl code
 induction code with
 |block id' cb _ =>
  intro hc
  simp only[cC]at hc
  cases hq:cC P hl cb with
  |none=>rw[hq]at hc;cases hc
  |some x=>rw[hq]at hc;cases hc;exact Oq (h hl cb hq)
 |scope b ih=>intro hc;exact yS (ih hc)
 |region id ops draw =>
  intro hc
  cases draw<;>simp only[cC]at hc
  ·cases hq:cL P false ops ops.toList<;>rw[hq]at hc<;>cases hc
  ·repeat' split at hc
   all_goals cases hc
 |cond c a b _ _ =>
  intro hc
  simp only[cC]at hc
  split at hc<;>cases hc
 |seq a b _ _ =>
  intro hc
  simp only[cC]at hc
  split at hc<;>cases hc
 |loop b _=>intro hc;simp only[cC]at hc;cases hq:cC P hl b<;>rw[hq]at hc<;>cases hc
 |_=>intro hc;cases hc
theorem U1 {b:C} (J:Nat->St->Prop) (n:Nat) (h0:J n σ) (hr:∀ m τ,J m τ->WPc P Gl B w0 b (Bh J K m) τ):WPc P Gl B w0 (.loop b) K σ:=by
 intro hl code
 induction code with
 |loop cb _ =>
  intro hc
  simp only[cC]at hc
  cases hq:cC P hl cb with
  |none=>rw[hq]at hc;cases hc
  |some x=>rw[hq]at hc;cases hc;exact TV J n h0 fun m τ hJ=>hr m τ hJ hl cb hq
 |scope b ih=>intro hc;exact yS (ih hc)
 |region id ops draw =>
  intro hc
  cases draw<;>simp only[cC]at hc
  ·cases hq:cL P false ops ops.toList<;>rw[hq]at hc<;>cases hc
  ·repeat' split at hc
   all_goals cases hc
 |cond c a b _ _ =>
  intro hc
  simp only[cC]at hc
  split at hc<;>cases hc
 |seq a b _ _ =>
  intro hc
  simp only[cC]at hc
  split at hc<;>cases hc
 |block id b _=>intro hc;simp only[cC]at hc;cases hq:cC P hl b<;>rw[hq]at hc<;>cases hc
 |_=>intro hc;cases hc
theorem fP.ofX {f:FuncId} {fn:Func} {code:Code} {rs:List RV} (hf:P.funcs[f]?=some fn) (hb:fn.body=some code) (hr:pz P fn.results.toList=some rs) {h0:List ah} {us:List AV} {Q:AV->List ah->Prop}
  (h:∀ (B:Nat) (w0:W0),w0.N=h0.length->WPx P Gl B w0 code (yF Gl rs Q) ⟨us++List.replicate (fn.ntmps-us.length) .any,h0⟩):fP P Gl f h0 us Q :=
 fP.ofW hf hb hr fun F own B w0 act w hN hI=>wp_mono (h B w0 hN F own act w hI) fun e a w q=>q.2
theorem fP.ofC (hm:P.follows .mixedOrders=true) {f n:Nat} {c:C} {rs:List RV} (h:Fn P f n c rs) {us:List AV} {h0:List ah} {Q:AV->List ah->Prop} {t:List AV} (ht:us++List.replicate (n-us.length) .any=t) (ha:∀ (B:Nat) (w0:W0),WPc P Gl B w0 c (yF Gl rs Q) ⟨t,h0⟩):fP P Gl f h0 us Q:=by
 obtain⟨fn,hl,h1,h2,h3,rfl,_⟩:=h
 cases hb:fn.body with
 |none=>rw[hb]at h2;cases h2
 |some code =>
  rw[hb]at h2
  subst ht
  exact fP.ofX h1 hb h3 fun B w0 hN=>ha B w0 hl code h2
theorem Ey (l:List Nat) (t':List AV) {c:C} {t:List AV} {h:List ah} (e:clr l t=t') (H:WPc P Gl B w0 c K ⟨t',h⟩):WPc P Gl B w0 c K ⟨t,h⟩:=fun hl code hc=>X3 l (by rw[e];exact H hl code hc)
theorem Ox {c:C} {t:List AV} {h:List ah} {i id G sz off len:Nat} (hi:t[i]?=some (.row id G sz off len)) (H:∀ x:Value,x.oneCell'=true->WPc P Gl B (w0.rem h.length x (.row id G sz off len)) c K ⟨t.set i (.v x),h⟩):WPc P Gl B w0 c K ⟨t,h⟩:=fun hl code hc=>Oo hi fun x hx=>H x hx hl code hc
theorem JF {c:C} {t:List AV} {h:List ah} {i n:Nat} {x:Value} {a:AV} (hf:(n,x,a)∈w0.fr) (hi:t[i]?=some (.v x)) (H:WPc P Gl B w0 c K ⟨t.set i a,h⟩):WPc P Gl B w0 c K ⟨t,h⟩:=fun hl code hc=>JE hf hi (H hl code hc)
theorem U2 {c:C} {t:List AV} {h:List ah} {n id id2 G k:Nat} {x:Value} {or o2:ah} {p q:AV} (hf:(n,x,.row id G 1 0 G) ∈ w0.fr) (hor:h[id]?=some or) (c1:or.es.length=G) (c2:or.sz=1) (c3:or.pr=true) (ho2:h[id2]?=some o2) (hne:id2 ≠ id) (h2:o2.pr=true) (h3:0 < o2.sz) (hk:o2.es[k]?=some (.agg [p,q,.v x]))
  (H:WPc P Gl B w0 c K ⟨t,(h.set id { or with fz:=or.es.length }).set id2 { o2 with es:=o2.es.set k (.agg [p,q,.list 1 or.es]) }⟩):WPc P Gl B w0 c K ⟨t,h⟩:=fun hl code hc=>TW hf hor c1 c2 c3 ho2 hne h2 h3 hk (H hl code hc)
theorem Ow {c:C} (h:∀ F own act w,Inv Gl F own B w0 σ act w->∃ F' own' τ,Inv Gl F' own' B w0 τ act w/\WPc P Gl B w0 c K τ):WPc P Gl B w0 c K σ:=fun hl code hc=>uS fun F own act w hI=>by
 obtain⟨F',own',τ,h1,h2⟩:=h F own act w hI
 exact⟨F',own',τ,h1,h2 hl code hc⟩
end
def bsY:=And.intro @Zw (And.intro @Zq (And.intro @Ww (And.intro @Wu (And.intro @NY (And.intro @ZJ (And.intro @ZI (And.intro @ZH (And.intro @GZ (And.intro @O4 (@Li))))))))))
end Abs
end Go.Proofs.YtgfnhpadmifiiaaDoor
end
section
namespace Go.Proofs.YtgfnhpadmifiiaaDoor
namespace Abs
set_option maxRecDepth 100000
def dZ (g:List Nat->Int->List Nat×List ND) (s:List Nat×List Int×List ND) (c:Int):List Nat×List Int×List ND:=((g s.1 c).1,s.2.1++[aY (g s.1 c).1 c],s.2.2++(g s.1 c).2)
def bM (ns:List ND):Nat->List Nat->Int->List Nat × List ND
  |0,ord,_=>(ord,[])
  | f + 1, ord, r => if r < 0 \/ r.toNat ∈ ord then (ord, []) else
      (((kids ns r.toNat).foldl (dZ (bM ns f)) (ord++[r.toNat],[],[])).1,
       ((ns.getD r.toNat zN).1,(ns.getD r.toNat zN).2.1,((kids ns r.toNat).foldl (dZ (bM ns f)) (ord++[r.toNat],[],[])).2.1,())::((kids ns r.toNat).foldl (dZ (bM ns f)) (ord++[r.toNat],[],[])).2.2)
theorem uT (ns:List ND) (f:Nat) (ord:List Nat) {r:Int} (h:r<0):bM ns f ord r=(ord,[]):=by
 cases f with
 |zero=>rfl
 |succ f=>simp only[bM];rw[if_pos (.inl h)]
theorem U3 (ns:List ND) (f:Nat) (ord:List Nat) {r:Int} (h:r.toNat∈ord):bM ns f ord r=(ord,[]):=by
 cases f with
 |zero=>rfl
 |succ f=>simp only[bM];rw[if_pos (.inr h)]
theorem wZ {g:List Nat->Int->List Nat×List ND} (hg:∀ o c,∃ t,(g o c).1=o++t/\(g o c).2.length=t.length):∀ (l:List Int) (s:List Nat×List Int×List ND),∃ t,(l.foldl (dZ g) s).1=s.1++t/\(l.foldl (dZ g) s).2.2.length=s.2.2.length+t.length/\(l.foldl (dZ g) s).2.1.length=s.2.1.length+l.length:=by
 intro l
 induction l with
 |nil=>intro s;exact⟨[],by simp,by simp,by simp⟩
 |cons c l ih =>
  intro s
  rw[List.foldl_cons]
  obtain⟨t,h1,h2,h3⟩:=ih (dZ g s c)
  obtain⟨u,k1,k2⟩:=hg s.1 c
  refine⟨u++t,?_,?_,?_⟩
  ·rw[h1];show (g s.1 c).1++t=_;rw[k1,List.append_assoc]
  ·rw[h2];show (s.2.2++(g s.1 c).2).length+_=_;rw[List.length_append,List.length_append,k2];omega
  ·rw[h3];show (s.2.1++[_]).length+_=_;rw[List.length_append,List.length_cons,List.length_nil,List.length_cons];omega
theorem EC (ns:List ND):∀ (f:Nat) (ord:List Nat) (r:Int),∃ t,(bM ns f ord r).1=ord++t/\(bM ns f ord r).2.length=t.length:=by
 intro f
 induction f with
 |zero=>intro ord r;exact⟨[],by simp[bM],rfl⟩
 |succ f ih =>
  intro ord r
  simp only[bM]
  split
  ·exact⟨[],by simp,rfl⟩
  ·obtain⟨t,h1,h2,_⟩:=wZ (g:=bM ns f) (fun o c=>ih o c) (kids ns r.toNat) (ord++[r.toNat],[],[])
   refine⟨r.toNat::t,?_,?_⟩
   ·rw[h1];simp
   ·rw[List.length_cons,h2];simp
theorem C8 {β:Type} (g:β->Int->β) (s:β) (l:List Int) (i:Nat) (h:i<l.length):(l.take (i+1)).foldl g s=g ((l.take i).foldl g s) (l.getD i 0):=by
 rw[List.take_succ_eq_append_getElem h,List.foldl_append,List.getD_eq_getElem?_getD,List.getElem?_eq_getElem h]
 rfl
def qB (ord:List Nat):List AV:=ord.zipIdx.map fun q=>.agg [.v (.int .i64 (q.1:Int)),.v (.int .i64 (q.2:Int))]
theorem MR (ord:List Nat) (r:Nat):qB (ord++[r])=qB ord++[.agg [.v (.int .i64 (r:Int)),.v (.int .i64 (ord.length:Int))]]:=by
 unfold qB
 rw[List.zipIdx_append]
 simp
theorem BQ (ord:List Nat):(qB ord).all (KT.int .i64).qV=true:=by
 refine List.all_eq_true.2 fun a ha=>?_
 obtain⟨q,_,rfl⟩:=List.mem_map.1 ha
 rfl
theorem Nn (r:Nat):∀ (ord:List Nat) (k i:Nat),jf 1 [.v (.int .i64 (r:Int))] ((ord.zipIdx k).map fun q=>.agg [.v (.int .i64 (q.1:Int)),.v (.int .i64 (q.2:Int))]) i=if r∈ord then some (i+ord.idxOf r,.v (.int .i64 ((k+ord.idxOf r:Nat):Int))) else none:=by
 intro ord
 induction ord with
 |nil=>intro k i;rfl
 |cons a ord ih =>
  intro k i
  rw[List.zipIdx_cons,List.map_cons]
  simp only[jf]
  by_cases h:a=r
  ·subst h
   rw[if_pos (by simp[ko,eqC]),if_pos (by simp)]
   simp
  ·rw[if_neg (by simp only[List.take_succ_cons,List.take_zero,ko,eqC,Bool.and_true];simp;omega),ih]
   by_cases hm:r∈ord
   ·rw[if_pos hm,if_pos (by simp[hm]),List.idxOf_cons]
    have:(a==r)=false:=by simpa using h
    rw[this]
    simp only[cond_false]
    congr 2
    ·omega
    ·congr 2;omega
   ·rw[if_neg hm,if_neg (by simp only[List.mem_cons,not_or];exact⟨fun e=>h e.symm,hm⟩)]
structure Ids where
 m:Nat
 nb:Nat
 dB:Nat
 tB:Nat
 vB:Nat
 cB:Nat
 rB:Nat
 n0:Nat
 x0:AV
 x1:AV
 x2:AV
 x3:AV
 x5:AV
 fz:Nat
structure Lm (I:Ids):Prop where
 m:I.m≠I.nb/\I.m≠I.dB/\I.m≠I.tB/\I.m≠I.vB/\I.m≠I.cB/\I.m≠I.rB/\I.m≠I.n0
 d:I.dB≠I.nb/\I.dB≠I.tB/\I.dB≠I.vB/\I.dB≠I.cB/\I.dB≠I.rB/\I.dB≠I.n0
 n:I.n0≠I.nb/\I.n0≠I.tB/\I.n0≠I.vB/\I.n0≠I.cB/\I.n0≠I.rB
structure VH (h:List ah) (I:Ids) (ns:List ND) (ord:List Nat) (nd:List AV):Prop where
 a1:h[I.nb]?=some ⟨82,1,0,false,[.mp I.m]⟩
 a2:h[I.m]?=some ⟨82,0,0,true,qB ord⟩
 a3:h[I.dB]?=some ⟨28,2,0,false,[.agg [.row I.n0 nd.length 3 0 nd.length,.v (.int .i64 0)]]⟩
 a4:h[I.n0]?=some ⟨70,3,0,true,nd⟩
 a5:h[I.tB]?=some ⟨123,1,0,false,[.ptr I.cB 1 0 4]⟩
 a6:h[I.cB]?=some ⟨107,6,0,false,[.agg [I.x0,I.x1,I.x2,I.x3,.row I.rB ns.length 3 0 ns.length,I.x5]]⟩
 a7:h[I.rB]?=some ⟨70,3,I.fz,true,ns.map iq⟩
 a8:h[I.vB]?=some ⟨68,1,0,false,[.clo 87 [.ptr I.nb 1 0 0,.ptr I.dB 1 0 0,.ptr I.tB 1 0 0,.ptr I.vB 1 0 0]]⟩
def jG (I:Ids) (h h':List ah):Prop:=h.length<=h'.length/\∀ j,j<h.length->j≠I.m->j≠I.dB->j≠I.n0->h'[j]?=h[j]?
theorem jG.refl (I:Ids) (h:List ah):jG I h h:=⟨Nat.le_refl _,fun _ _ _ _ _=>rfl⟩
theorem jG.trans {I:Ids} {a b c:List ah} (h:jG I a b) (k:jG I b c):jG I a c:=⟨Nat.le_trans h.1 k.1,fun j hj h1 h2 h3=>(k.2 j (Nat.lt_of_lt_of_le hj h.1) h1 h2 h3).trans (h.2 j hj h1 h2 h3)⟩
theorem eO {h:List ah} {i:Nat} {o:ah} (e:h[i]?=some o):i<h.length:=(List.getElem?_eq_some_iff.1 e).1
theorem VH.of {h h':List ah} {I:Ids} {ns:List ND} {ord XD:List Nat} {nd nd':List AV} (hI:Lm I) (hV:VH h I ns ord nd) (hs:jG I h h') (e2:h'[I.m]?=some ⟨82,0,0,true,qB XD⟩) (e3:h'[I.dB]?=some ⟨28,2,0,false,[.agg [.row I.n0 nd'.length 3 0 nd'.length,.v (.int .i64 0)]]⟩) (e4:h'[I.n0]?=some ⟨70,3,0,true,nd'⟩):VH h' I ns XD nd':=by
 obtain⟨⟨m1,m2,m3,m4,m5,m6,m7⟩,⟨d1,d2,d3,d4,d5,d6⟩,⟨n1,n2,n3,n4,n5⟩⟩:=hI
 have go:∀ {j:Nat} {o:ah},h[j]?=some o->I.m≠j->I.dB≠j->I.n0≠j->h'[j]?=some o:=fun e q1 q2 q3=>(hs.2 _ (eO e) (fun e=>q1 e.symm) (fun e=>q2 e.symm) (fun e=>q3 e.symm)).trans e
 exact⟨go hV.a1 m1 d1 n1,e2,e3,e4,go hV.a5 m3 d2 n2,go hV.a6 m5 d4 n4,go hV.a7 m6 d5 n5,go hV.a8 m4 d3 n3⟩
theorem VH.set {h:List ah} {I:Ids} {ns:List ND} {ord:List Nat} {nd:List AV} (hV:VH h I ns ord nd) {j:Nat} (hj:j≠I.m/\j≠I.nb/\j≠I.dB/\j≠I.tB/\j≠I.vB/\j≠I.cB/\j≠I.rB/\j≠I.n0) (o:ah):VH (h.set j o) I ns ord nd:=by
 obtain⟨q1,q2,q3,q4,q5,q6,q7,q8⟩:=hj
 exact⟨by rw[List.getElem?_set_ne q2];exact hV.a1,by rw[List.getElem?_set_ne q1];exact hV.a2,by rw[List.getElem?_set_ne q3];exact hV.a3,by rw[List.getElem?_set_ne q8];exact hV.a4,by rw[List.getElem?_set_ne q4];exact hV.a5,by rw[List.getElem?_set_ne q6];exact hV.a6,by rw[List.getElem?_set_ne q7];exact hV.a7,by rw[List.getElem?_set_ne q5];exact hV.a8⟩
section
variable {Gl:Nat->Option (List AV)}
def a2f (h:List ah) (I:Ids) (ns:List ND) (O:List Nat) (idx:Int) (nd:List AV) (res:AV) (h':List ah):Prop:=res=.v (.int .i64 idx)/\VH h' I ns O nd/\jG I h h'
def Zg:List Nat:=[0,5,7,8,12,13,14,15,16,17,18,19,20,21,22,23,24,25,26,27,28,29,30,31,32,33,34,35,36,37,38,39,40,41,42,43,44,45,46,47,48,49,50,51,52,53,54,58,59,60,61,62,63,64,65,66,67,68,69]
def Xj (I:Ids) (n fi:Nat) (ks:List Int) (i:Nat):List AV:=[.any,.ptr I.nb 1 0 0,.ptr I.dB 1 0 0,.ptr I.tB 1 0 0,.ptr I.vB 1 0 0,.any,.v (.int .i64 0),.any,.any,.v (.int .i64 (n:Int)),.ptr fi 1 0 0,.row (fi+1) ks.length 1 0 ks.length,.any,.any,.any,.any,.any,.any,.any,.any,.any,.any,.any,.any,.any,.any,.any,.any,.any,.any,.any,.any,.any,.any,.any,.any,.any,.any,.any,.any,.any,.any,.any,.any,.any,.any,.any,.any,.any,.any,.any,.any,.any,.any,.any,.list 1 (ks.map e64),.v (.int .i64 (ks.length:Int)),.v (.int .i64 (i:Nat)),.any,.any,.any,.any,.any,.any,.any,.any,.any,.any,.any,.any]
set_option maxHeartbeats 4000000 in
theorem Xb {I:Ids} (hI:Lm I) {ns:List ND} (hns:∀ i,i < ns.length->∀ c ∈ kids ns i,-1000000000<=c/\c < (i:Int)) (hlen:∀ x ∈ ns,x.2.1.length<=2000000001/\x.2.2.1.length<=2000000001) (hn:ns.length<=1000000) :
  ∀ (f:Nat) (ord:List Nat) (nd:List AV) (h:List ah) (r:Int),r<(f:Int)->-1000000000<=r->r<(ns.length:Int)->VH h I ns ord nd->nd.length=ord.length->(bM ns f ord r).1.length<=1000000->
  fP Tryd.prog Gl 87 h [.v (.int .i64 r),.ptr I.nb 1 0 0,.ptr I.dB 1 0 0,.ptr I.tB 1 0 0,.ptr I.vB 1 0 0] (a2f h I ns (bM ns f ord r).1 (aY (bM ns f ord r).1 r) (nd++(bM ns f ord r).2.map iq)):=by
 intro f
 induction f with
 |zero =>
  intro ord nd h r hr hr1 hr2 hV hl hb
  rw[uT ns 0 ord (by omega)]
  refine F87.K5 fG (t:=[.v (.int .i64 r),.ptr I.nb 1 0 0,.ptr I.dB 1 0 0,.ptr I.tB 1 0 0,.ptr I.vB 1 0 0,.any,.any,.any,.any,.any,.any,.any,.any,.any,.any,.any,.any,.any,.any,.any,.any,.any,.any,.any,.any,.any,.any,.any,.any,.any,.any,.any,.any,.any,.any,.any,.any,.any,.any,.any,.any,.any,.any,.any,.any,.any,.any,.any,.any,.any,.any,.any,.any,.any,.any,.any,.any,.any,.any,.any,.any,.any,.any,.any,.any,.any,.any,.any,.any,.any]) rfl ?_
  simp only[bsX,bE,step,St.val,St.put,cZ,asN,dX,unV,aV,aO,st1,setCells,bJ,eqA,eq1,AV.cells,aR,Value.cells,Value.oneCell',aP,bK,bL,bO,bR,aT,freeze,scalar,dw,reduceIte,Nat.reduceEqDiff,Nat.reduceAdd,Nat.reduceLeDiff,Nat.reduceSub,reduceCtorEq,norm,clr,eU,dG,dP,dQ,eX,Int.reduceToNat,Int.reduceLE,Int.reduceLT,Int.reduceBNe,Int.reduceBEq,Int.reduceEq,Nat.reduceLT,Nat.reduceMul,Value.oneCell',ghost,bsY,sM,sK,uZ,sJ,sI,uY,sH,sG,sF,sD,pX,pW,pV,pU,pR,pQ,pO,c87]
  refine xC rfl (fun hc=>?_) (fun hc=>?_)
  rotate_left
  ·have:=of_decide_eq_false hc;omega
  simp only[bsX,bE,step,St.val,St.put,cZ,asN,dX,unV,aV,aO,st1,setCells,bJ,eqA,eq1,AV.cells,aR,Value.cells,Value.oneCell',aP,bK,bL,bO,bR,aT,freeze,scalar,dw,reduceIte,Nat.reduceEqDiff,Nat.reduceAdd,Nat.reduceLeDiff,Nat.reduceSub,reduceCtorEq,norm,clr,eU,dG,dP,dQ,eX,Int.reduceToNat,Int.reduceLE,Int.reduceLT,Int.reduceBNe,Int.reduceBEq,Int.reduceEq,Nat.reduceLT,Nat.reduceMul,Value.oneCell',ghost,bsY,sM,sK,uZ,sJ,sI,uY,sH,sG,sF,sD,pX,pW,pV,pU,pR,pQ,pO]
  refine om trivial ?_
  simp only[bsX,bE,step,St.val,St.put,cZ,asN,dX,unV,aV,aO,st1,setCells,bJ,eqA,eq1,AV.cells,aR,Value.cells,Value.oneCell',aP,bK,bL,bO,bR,aT,freeze,scalar,dw,reduceIte,Nat.reduceEqDiff,Nat.reduceAdd,Nat.reduceLeDiff,Nat.reduceSub,reduceCtorEq,norm,clr,eU,dG,dP,dQ,eX,Int.reduceToNat,Int.reduceLE,Int.reduceLT,Int.reduceBNe,Int.reduceBEq,Int.reduceEq,Nat.reduceLT,Nat.reduceMul,Value.oneCell',ghost,zU,mg,lu]
  have e:aY ord r=r:=by unfold aY;rw[if_pos (by omega)]
  exact⟨by rw[e],hV,jG.refl I h⟩
 |succ f ih =>
  intro ord nd h r hr hr1 hr2 hV hl hb
  by_cases h0:r<0
  ·rw[uT ns _ ord h0]
   refine F87.K5 fG (t:=[.v (.int .i64 r),.ptr I.nb 1 0 0,.ptr I.dB 1 0 0,.ptr I.tB 1 0 0,.ptr I.vB 1 0 0,.any,.any,.any,.any,.any,.any,.any,.any,.any,.any,.any,.any,.any,.any,.any,.any,.any,.any,.any,.any,.any,.any,.any,.any,.any,.any,.any,.any,.any,.any,.any,.any,.any,.any,.any,.any,.any,.any,.any,.any,.any,.any,.any,.any,.any,.any,.any,.any,.any,.any,.any,.any,.any,.any,.any,.any,.any,.any,.any,.any,.any,.any,.any,.any,.any]) rfl ?_
   simp only[bsX,bE,step,St.val,St.put,cZ,asN,dX,unV,aV,aO,st1,setCells,bJ,eqA,eq1,AV.cells,aR,Value.cells,Value.oneCell',aP,bK,bL,bO,bR,aT,freeze,scalar,dw,reduceIte,Nat.reduceEqDiff,Nat.reduceAdd,Nat.reduceLeDiff,Nat.reduceSub,reduceCtorEq,norm,clr,eU,dG,dP,dQ,eX,Int.reduceToNat,Int.reduceLE,Int.reduceLT,Int.reduceBNe,Int.reduceBEq,Int.reduceEq,Nat.reduceLT,Nat.reduceMul,Value.oneCell',ghost,bsY,sM,sK,uZ,sJ,sI,uY,sH,sG,sF,sD,pX,pW,pV,pU,pR,pQ,pO,c87]
   refine xC rfl (fun hc=>?_) (fun hc=>?_)
   rotate_left
   ·have:=of_decide_eq_false hc;omega
   simp only[bsX,bE,step,St.val,St.put,cZ,asN,dX,unV,aV,aO,st1,setCells,bJ,eqA,eq1,AV.cells,aR,Value.cells,Value.oneCell',aP,bK,bL,bO,bR,aT,freeze,scalar,dw,reduceIte,Nat.reduceEqDiff,Nat.reduceAdd,Nat.reduceLeDiff,Nat.reduceSub,reduceCtorEq,norm,clr,eU,dG,dP,dQ,eX,Int.reduceToNat,Int.reduceLE,Int.reduceLT,Int.reduceBNe,Int.reduceBEq,Int.reduceEq,Nat.reduceLT,Nat.reduceMul,Value.oneCell',ghost,bsY,sM,sK,uZ,sJ,sI,uY,sH,sG,sF,sD,pX,pW,pV,pU,pR,pQ,pO]
   refine om trivial ?_
   simp only[bsX,bE,step,St.val,St.put,cZ,asN,dX,unV,aV,aO,st1,setCells,bJ,eqA,eq1,AV.cells,aR,Value.cells,Value.oneCell',aP,bK,bL,bO,bR,aT,freeze,scalar,dw,reduceIte,Nat.reduceEqDiff,Nat.reduceAdd,Nat.reduceLeDiff,Nat.reduceSub,reduceCtorEq,norm,clr,eU,dG,dP,dQ,eX,Int.reduceToNat,Int.reduceLE,Int.reduceLT,Int.reduceBNe,Int.reduceBEq,Int.reduceEq,Nat.reduceLT,Nat.reduceMul,Value.oneCell',ghost,zU,mg,lu]
   have e:aY ord r=r:=by unfold aY;rw[if_pos (by omega)]
   exact⟨by rw[e],hV,jG.refl I h⟩
  obtain⟨k,rfl⟩:=Int.eq_ofNat_of_zero_le (show 0<=r by omega)
  have hfind:=Nn k ord 0 0
  have hfind:jf 1 [.v (.int .i64 (k:Int))] (qB ord) 0=_:=hfind
  by_cases hm:k∈ord
  ·rw[U3 ns _ ord (by simpa using hm)]
   rw[if_pos hm]at hfind
   refine F87.K5 fG (t:=[.v (.int .i64 (k:Int)),.ptr I.nb 1 0 0,.ptr I.dB 1 0 0,.ptr I.tB 1 0 0,.ptr I.vB 1 0 0,.any,.any,.any,.any,.any,.any,.any,.any,.any,.any,.any,.any,.any,.any,.any,.any,.any,.any,.any,.any,.any,.any,.any,.any,.any,.any,.any,.any,.any,.any,.any,.any,.any,.any,.any,.any,.any,.any,.any,.any,.any,.any,.any,.any,.any,.any,.any,.any,.any,.any,.any,.any,.any,.any,.any,.any,.any,.any,.any,.any,.any,.any,.any,.any,.any]) rfl ?_
   simp only[bsX,bE,step,St.val,St.put,cZ,asN,dX,unV,aV,aO,st1,setCells,bJ,eqA,eq1,AV.cells,aR,Value.cells,Value.oneCell',aP,bK,bL,bO,bR,aT,freeze,scalar,dw,reduceIte,Nat.reduceEqDiff,Nat.reduceAdd,Nat.reduceLeDiff,Nat.reduceSub,reduceCtorEq,norm,clr,eU,dG,dP,dQ,eX,Int.reduceToNat,Int.reduceLE,Int.reduceLT,Int.reduceBNe,Int.reduceBEq,Int.reduceEq,Nat.reduceLT,Nat.reduceMul,Value.oneCell',ghost,bsY,sM,sK,uZ,sJ,sI,uY,sH,sG,sF,sD,pX,pW,pV,pU,pR,pQ,pO,c87]
   refine xC rfl (fun hc=>?_) (fun hc=>?_)
   ·have:=of_decide_eq_true hc;omega
   simp only[bsX,bE,step,St.val,St.put,cZ,asN,dX,unV,aV,aO,st1,setCells,bJ,eqA,eq1,AV.cells,aR,Value.cells,Value.oneCell',aP,bK,bL,bO,bR,aT,freeze,scalar,dw,reduceIte,Nat.reduceEqDiff,Nat.reduceAdd,Nat.reduceLeDiff,Nat.reduceSub,reduceCtorEq,norm,clr,eU,dG,dP,dQ,eX,Int.reduceToNat,Int.reduceLE,Int.reduceLT,Int.reduceBNe,Int.reduceBEq,Int.reduceEq,Nat.reduceLT,Nat.reduceMul,Value.oneCell',ghost,bsY,sM,sK,uZ,sJ,sI,uY,sH,sG,sF,sD,pX,pW,pV,pU,pR,pQ,pO,hV.a1,hV.a2,hfind,BQ,KT.ok,okI,KT.n,zG]
   refine om trivial ?_
   simp only[bsX,bE,step,St.val,St.put,cZ,asN,dX,unV,aV,aO,st1,setCells,bJ,eqA,eq1,AV.cells,aR,Value.cells,Value.oneCell',aP,bK,bL,bO,bR,aT,freeze,scalar,dw,reduceIte,Nat.reduceEqDiff,Nat.reduceAdd,Nat.reduceLeDiff,Nat.reduceSub,reduceCtorEq,norm,clr,eU,dG,dP,dQ,eX,Int.reduceToNat,Int.reduceLE,Int.reduceLT,Int.reduceBNe,Int.reduceBEq,Int.reduceEq,Nat.reduceLT,Nat.reduceMul,Value.oneCell',ghost,zU,mg,lu]
   have e:aY ord (k:Int)=((ord.idxOf k:Nat):Int):=by unfold aY;rw[if_neg (by omega),Int.toNat_natCast]
   exact⟨by rw[e],hV,jG.refl I h⟩
  rw[if_neg hm]at hfind
  have hb1:=eO hV.a1
  have hb2:=eO hV.a2
  have hb3:=eO hV.a3
  have hb4:=eO hV.a4
  have hb5:=eO hV.a5
  have hb6:=eO hV.a6
  have hb7:=eO hV.a7
  have hb8:=eO hV.a8
  have hm1:=hI.m
  have hd1:=hI.d
  have hn1:=hI.n
  have hkl:k<ns.length:=by omega
  have vL:(ns.map iq).getD k .any=iq (ns.getD k zN):=getD_map iq zN ns hkl
  have hx:ns.getD k zN∈ns:=by rw[List.getD_eq_getElem?_getD,List.getElem?_eq_getElem hkl];exact List.getElem_mem _
  obtain⟨hx1,hx2⟩:=hlen _ hx
  have hks:kids ns k=(ns.getD k zN).2.2.1:=rfl
  have KA:(kids ns k).length=(ns.getD k zN).2.2.1.length:=rfl
  have hkc:=hns k hkl
  generalize hv0:bM ns (f+1) ord (k:Int)=V at hb ⊢
  have hV0:V=(((kids ns k).foldl (dZ (bM ns f)) (ord++[k],[],[])).1,((ns.getD k zN).1,(ns.getD k zN).2.1,((kids ns k).foldl (dZ (bM ns f)) (ord++[k],[],[])).2.1,())::((kids ns k).foldl (dZ (bM ns f)) (ord++[k],[],[])).2.2):=by
   rw[<- hv0]
   simp only[bM]
   rw[if_neg (by simp only[Int.toNat_natCast];rintro (q|q);omega;exact hm q),Int.toNat_natCast]
  subst hV0
  clear hv0
  generalize hx0:ns.getD k zN=x at *
  refine fP.ofC fG F87 (t:=[.v (.int .i64 (k:Int)),.ptr I.nb 1 0 0,.ptr I.dB 1 0 0,.ptr I.tB 1 0 0,.ptr I.vB 1 0 0,.any,.any,.any,.any,.any,.any,.any,.any,.any,.any,.any,.any,.any,.any,.any,.any,.any,.any,.any,.any,.any,.any,.any,.any,.any,.any,.any,.any,.any,.any,.any,.any,.any,.any,.any,.any,.any,.any,.any,.any,.any,.any,.any,.any,.any,.any,.any,.any,.any,.any,.any,.any,.any,.any,.any,.any,.any,.any,.any,.any,.any,.any,.any,.any,.any]) rfl fun B w0=>?_
  show WPc _ _ _ _ c87 _ _
  unfold c87
  refine gV (gB fG ?_)
  simp only[bsX,bE,step,St.val,St.put,cZ,asN,dX,unV,aV,aO,st1,setCells,bJ,eqA,eq1,AV.cells,aR,Value.cells,Value.oneCell',aP,bK,bL,bO,bR,aT,freeze,scalar,dw,reduceIte,Nat.reduceEqDiff,Nat.reduceAdd,Nat.reduceLeDiff,Nat.reduceSub,reduceCtorEq,norm,clr,eU,dG,dP,dQ,eX,Int.reduceToNat,Int.reduceLE,Int.reduceLT,Int.reduceBNe,Int.reduceBEq,Int.reduceEq,Nat.reduceLT,Nat.reduceMul,Value.oneCell',ghost,bsY,sM]
  refine gV (gB fG ?_)
  simp only[bsX,bE,step,St.val,St.put,cZ,asN,dX,unV,aV,aO,st1,setCells,bJ,eqA,eq1,AV.cells,aR,Value.cells,Value.oneCell',aP,bK,bL,bO,bR,aT,freeze,scalar,dw,reduceIte,Nat.reduceEqDiff,Nat.reduceAdd,Nat.reduceLeDiff,Nat.reduceSub,reduceCtorEq,norm,clr,eU,dG,dP,dQ,eX,Int.reduceToNat,Int.reduceLE,Int.reduceLT,Int.reduceBNe,Int.reduceBEq,Int.reduceEq,Nat.reduceLT,Nat.reduceMul,Value.oneCell',ghost,bsY,sK]
  refine xC rfl (fun hc=>?_) (fun hc=>?_)
  ·have:=of_decide_eq_true hc;omega
  simp only[bsX,bE,step,St.val,St.put,cZ,asN,dX,unV,aV,aO,st1,setCells,bJ,eqA,eq1,AV.cells,aR,Value.cells,Value.oneCell',aP,bK,bL,bO,bR,aT,freeze,scalar,dw,reduceIte,Nat.reduceEqDiff,Nat.reduceAdd,Nat.reduceLeDiff,Nat.reduceSub,reduceCtorEq,norm,clr,eU,dG,dP,dQ,eX,Int.reduceToNat,Int.reduceLE,Int.reduceLT,Int.reduceBNe,Int.reduceBEq,Int.reduceEq,Nat.reduceLT,Nat.reduceMul,Value.oneCell',ghost,bsY]
  refine gV (gB fG ?_)
  simp only[bsX,bE,step,St.val,St.put,cZ,asN,dX,unV,aV,aO,st1,setCells,bJ,eqA,eq1,AV.cells,aR,Value.cells,Value.oneCell',aP,bK,bL,bO,bR,aT,freeze,scalar,dw,reduceIte,Nat.reduceEqDiff,Nat.reduceAdd,Nat.reduceLeDiff,Nat.reduceSub,reduceCtorEq,norm,clr,eU,dG,dP,dQ,eX,Int.reduceToNat,Int.reduceLE,Int.reduceLT,Int.reduceBNe,Int.reduceBEq,Int.reduceEq,Nat.reduceLT,Nat.reduceMul,Value.oneCell',ghost,bsY,sJ,sI,hV.a1,hV.a2,hfind,BQ,KT.ok,okI,KT.n,zG]
  refine gV (gB fG ?_)
  simp only[bsX,bE,step,St.val,St.put,cZ,asN,dX,unV,aV,aO,st1,setCells,bJ,eqA,eq1,AV.cells,aR,Value.cells,Value.oneCell',aP,bK,bL,bO,bR,aT,freeze,scalar,dw,reduceIte,Nat.reduceEqDiff,Nat.reduceAdd,Nat.reduceLeDiff,Nat.reduceSub,reduceCtorEq,norm,clr,eU,dG,dP,dQ,eX,Int.reduceToNat,Int.reduceLE,Int.reduceLT,Int.reduceBNe,Int.reduceBEq,Int.reduceEq,Nat.reduceLT,Nat.reduceMul,Value.oneCell',ghost,bsY,sH,hV.a3]
  refine gV (gB fG ?_)
  simp only[bsX,bE,step,St.val,St.put,cZ,asN,dX,unV,aV,aO,st1,setCells,bJ,eqA,eq1,AV.cells,aR,Value.cells,Value.oneCell',aP,bK,bL,bO,bR,aT,freeze,scalar,dw,reduceIte,Nat.reduceEqDiff,Nat.reduceAdd,Nat.reduceLeDiff,Nat.reduceSub,reduceCtorEq,norm,clr,eU,dG,dP,dQ,eX,Int.reduceToNat,Int.reduceLE,Int.reduceLT,Int.reduceBNe,Int.reduceBEq,Int.reduceEq,Nat.reduceLT,Nat.reduceMul,Value.oneCell',ghost,bsY,sG,hV.a1,hV.a2,hfind,BQ,KT.ok,okI,KT.n,zG]
  have s1:jG I h (h.set I.m ⟨82,0,0,true,qB (ord++[k])⟩):=⟨by simp,fun j hj q1 q2 q3=>by rw[List.getElem?_set_ne (fun e=>q1 e.symm)]⟩
  have V1:VH (h.set I.m ⟨82,0,0,true,qB (ord++[k])⟩) I ns (ord++[k]) nd:=VH.of hI hV s1 (List.getElem?_set_self hb2) (by rw[List.getElem?_set_ne (by omega)];exact hV.a3) (by rw[List.getElem?_set_ne (by omega)];exact hV.a4)
  rw[show qB ord++[AV.agg [.v (.int .i64 (k:Int)),.v (.int .i64 (nd.length:Int))]]=qB (ord++[k]) by rw[MR,hl]]
  generalize h.set I.m ⟨82,0,0,true,qB (ord++[k])⟩=h1 at s1 V1
  have hb3:=eO V1.a3
  have hb4:=eO V1.a4
  refine gV (gB fG ?_)
  simp only[bsX,bE,step,St.val,St.put,cZ,asN,dX,unV,aV,aO,st1,setCells,bJ,eqA,eq1,AV.cells,aR,Value.cells,Value.oneCell',aP,bK,bL,bO,bR,aT,freeze,scalar,dw,reduceIte,Nat.reduceEqDiff,Nat.reduceAdd,Nat.reduceLeDiff,Nat.reduceSub,reduceCtorEq,norm,clr,eU,dG,dP,dQ,eX,Int.reduceToNat,Int.reduceLE,Int.reduceLT,Int.reduceBNe,Int.reduceBEq,Int.reduceEq,Nat.reduceLT,Nat.reduceMul,Value.oneCell',ghost,bsY,sF,V1.a5,V1.a6,V1.a7,List.getElem?_concat_length,fZ]
  refine⟨⟨by omega,by omega⟩,hkl,?_⟩
  simp only[vL,iq]
  simp only[bsX,bE,step,St.val,St.put,cZ,asN,dX,unV,aV,aO,st1,setCells,bJ,eqA,eq1,AV.cells,aR,Value.cells,Value.oneCell',aP,bK,bL,bO,bR,aT,freeze,scalar,dw,reduceIte,Nat.reduceEqDiff,Nat.reduceAdd,Nat.reduceLeDiff,Nat.reduceSub,reduceCtorEq,norm,clr,eU,dG,dP,dQ,eX,Int.reduceToNat,Int.reduceLE,Int.reduceLT,Int.reduceBNe,Int.reduceBEq,Int.reduceEq,Nat.reduceLT,Nat.reduceMul,Value.oneCell',ghost,bsY,List.getElem?_concat_length,fZ]
  generalize hfb:(⟨70,3,0,false,[AV.agg [.v (.int .i64 x.1),.list 1 (x.2.1.map e64),.list 1 (x.2.2.1.map e64)]]⟩:ah)=fb
  have hfe:fb.es=[AV.agg [.v (.int .i64 x.1),.list 1 (x.2.1.map e64),.list 1 (x.2.2.1.map e64)]]:=by rw[<- hfb]
  have hfs:fb.sz=3:=by rw[<- hfb]
  refine gV (gB fG ?_)
  simp only[bsX,bE,step,St.val,St.put,cZ,asN,dX,unV,aV,aO,st1,setCells,bJ,eqA,eq1,AV.cells,aR,Value.cells,Value.oneCell',aP,bK,bL,bO,bR,aT,freeze,scalar,dw,reduceIte,Nat.reduceEqDiff,Nat.reduceAdd,Nat.reduceLeDiff,Nat.reduceSub,reduceCtorEq,norm,clr,eU,dG,dP,dQ,eX,Int.reduceToNat,Int.reduceLE,Int.reduceLT,Int.reduceBNe,Int.reduceBEq,Int.reduceEq,Nat.reduceLT,Nat.reduceMul,Value.oneCell',ghost,bsY,sD,List.getElem?_concat_length,fZ,hfe,hfs]
  refine⟨⟨by omega,by unfold gY;omega,by omega⟩,?_⟩
  refine Ey [5,7,8,12,13,14,15,16,17,18,19,20,21,22,23,24,25,26,27,28,29,30,31,32,33,34,35,36,37,38,39,40,41,42,43,44,45,46,47,48,49,50,51,52,53,54,55,56,57,58,59,60,61,62,63,64,65,66,67,68,69] [.v (.int .i64 (k:Int)),.ptr I.nb 1 0 0,.ptr I.dB 1 0 0,.ptr I.tB 1 0 0,.ptr I.vB 1 0 0,.any,.v (.int .i64 0),.any,.any,.v (.int .i64 (nd.length:Int)),.ptr h1.length 1 0 0,.row (h1++[fb]).length x.2.2.1.length 1 0 x.2.2.1.length,.any,.any,.any,.any,.any,.any,.any,.any,.any,.any,.any,.any,.any,.any,.any,.any,.any,.any,.any,.any,.any,.any,.any,.any,.any,.any,.any,.any,.any,.any,.any,.any,.any,.any,.any,.any,.any,.any,.any,.any,.any,.any,.any,.any,.any,.any,.any,.any,.any,.any,.any,.any,.any,.any,.any,.any,.any,.any] ?_ ?_
  ·kernel_rfl
  have hN1:(h1++[fb]++[(⟨3,1,0,true,List.replicate x.2.2.1.length (.v (.int .i64 0))⟩:ah)]).length=h1.length+2:=by simp
  have hS3:jG I h1 (h1++[fb]++[(⟨3,1,0,true,List.replicate x.2.2.1.length (.v (.int .i64 0))⟩:ah)]):=⟨by omega,fun j hj _ _ _=>by rw[List.append_assoc,List.getElem?_append_left hj]⟩
  have hlow:∀ j,j<h1.length->(h1++[fb]++[(⟨3,1,0,true,List.replicate x.2.2.1.length (.v (.int .i64 0))⟩:ah)])[j]?=h1[j]?:=fun j hj=>by rw[List.append_assoc,List.getElem?_append_left hj]
  have V3:=VH.of hI V1 hS3 ((hlow _ (eO V1.a2)).trans V1.a2) ((hlow _ hb3).trans V1.a3) ((hlow _ hb4).trans V1.a4)
  have hfi:(h1++[fb]++[(⟨3,1,0,true,List.replicate x.2.2.1.length (.v (.int .i64 0))⟩:ah)])[h1.length]?=some fb:=by rw[List.append_assoc,List.getElem?_append_right (Nat.le_refl _)];simp
  have hni:(h1++[fb]++[(⟨3,1,0,true,List.replicate x.2.2.1.length (.v (.int .i64 0))⟩:ah)])[h1.length+1]?=some ⟨3,1,0,true,List.replicate x.2.2.1.length (.v (.int .i64 0))⟩:=by rw[List.getElem?_append_right (by simp)];simp
  rw[show (h1++[fb]).length=h1.length+1 by simp]
  have YV:=s1.trans hS3
  generalize h1++[fb]++[(⟨3,1,0,true,List.replicate x.2.2.1.length (.v (.int .i64 0))⟩:ah)]=h3 at hN1 hfi hni V3 YV
  have G7:I.m<h1.length/\I.nb<h1.length/\I.dB<h1.length/\I.tB<h1.length/\I.vB<h1.length/\I.cB<h1.length/\I.rB<h1.length/\I.n0<h1.length:=⟨eO V1.a2,eO V1.a1,eO V1.a3,eO V1.a5,eO V1.a8,eO V1.a6,eO V1.a7,eO V1.a4⟩
  have hh1:h.length<=h1.length:=s1.1
  clear hlow hS3 s1
  generalize h1.length=fi at *
  refine Ox (i:=11) (by rfl) fun xv hxv=>?_
  refine gV (gB fG (NS [] ?_))
  have hq4:∀ a b:ah,(h3++[a]++[b])[I.n0]?=some ⟨70,3,0,true,nd⟩:=fun a b=>by rw[List.append_assoc,List.getElem?_append_left (by omega)];exact V3.a4
  have hq3:∀ a b o:ah,((h3++[a]++[b]).set I.n0 o)[I.dB]?=some ⟨28,2,0,false,[.agg [.row I.n0 nd.length 3 0 nd.length,.v (.int .i64 0)]]⟩:=fun a b o=>by rw[List.getElem?_set_ne (by omega),List.append_assoc,List.getElem?_append_left (by omega)];exact V3.a3
  simp only[bsX,bE,step,St.val,St.put,cZ,asN,dX,unV,aV,aO,st1,setCells,bJ,eqA,eq1,AV.cells,aR,Value.cells,Value.oneCell',aP,bK,bL,bO,bR,aT,freeze,scalar,dw,reduceIte,Nat.reduceEqDiff,Nat.reduceAdd,Nat.reduceLeDiff,Nat.reduceSub,reduceCtorEq,norm,clr,eU,dG,dP,dQ,eX,Int.reduceToNat,Int.reduceLE,Int.reduceLT,Int.reduceBNe,Int.reduceBEq,Int.reduceEq,Nat.reduceLT,Nat.reduceMul,Value.oneCell',ghost,bsY,pX,List.getElem?_concat_length,fZ,hfe,hfs,hfi,V3.a3,hxv]
  refine⟨fun _ id hid=>?_,?_⟩
  ·simp only[Abs.I.ids,St.val,List.getD_cons_succ,List.getD_cons_zero,List.mem_singleton]at hid
   subst hid
   exact⟨by omega,by simp⟩
  refine⟨fun _ id hid=>?_,?_⟩
  ·simp only[Abs.I.ids,St.val,List.getD_cons_succ,List.getD_cons_zero,List.mem_singleton]at hid
   subst hid
   exact⟨by omega,by simp⟩
  have hL1:∀ c:ah,(h3++[c]).length=h3.length+1:=fun c=>by simp
  have hq5:∀ a b:ah,(h3++[a]++[b])[h3.length+1]?=some b:=fun a b=>by rw[List.getElem?_append_right (by simp)];simp
  have htk:List.take x.2.1.length (x.2.1.map e64)=x.2.1.map e64:=by rw[List.take_of_length_le (by simp)]
  have Yz:=hxv
  simp only[Value.oneCell']at Yz
  simp only[bsX,bE,step,St.val,St.put,cZ,asN,dX,unV,aV,aO,st1,setCells,bJ,eqA,eq1,AV.cells,aR,Value.cells,Value.oneCell',aP,bK,bL,bO,bR,aT,freeze,scalar,dw,reduceIte,Nat.reduceEqDiff,Nat.reduceAdd,Nat.reduceLeDiff,Nat.reduceSub,reduceCtorEq,norm,clr,eU,dG,dP,dQ,eX,Int.reduceToNat,Int.reduceLE,Int.reduceLT,Int.reduceBNe,Int.reduceBEq,Int.reduceEq,Nat.reduceLT,Nat.reduceMul,Value.oneCell',ghost,bsY,qH,List.getElem?_concat_length,fZ,hfe,hfs,hfi,V3.a3,hxv,hq3,hq4,List.drop_zero,List.take_length,List.isEmpty_nil]
  refine⟨⟨by unfold gY;omega,by omega⟩,fun id hid _=>List.getElem?_append_left hid,?_⟩
  simp only[bsX,bE,step,St.val,St.put,cZ,asN,dX,unV,aV,aO,st1,setCells,bJ,eqA,eq1,AV.cells,aR,Value.cells,Value.oneCell',aP,bK,bL,bO,bR,aT,freeze,scalar,dw,reduceIte,Nat.reduceEqDiff,Nat.reduceAdd,Nat.reduceLeDiff,Nat.reduceSub,reduceCtorEq,norm,clr,eU,dG,dP,dQ,eX,Int.reduceToNat,Int.reduceLE,Int.reduceLT,Int.reduceBNe,Int.reduceBEq,Int.reduceEq,Nat.reduceLT,Nat.reduceMul,Value.oneCell',ghost,bsY,qH,List.getElem?_concat_length,fZ,hfe,hfs,hfi,V3.a3,hxv,Yz,hL1,hq5,htk,hq3,hq4,List.drop_zero,List.take_length,List.isEmpty_nil]
  refine⟨fun id hid _=>by rw[List.append_assoc,List.getElem?_append_left hid,List.getElem?_append_left hid],?_⟩
  have hpre:=wZ (g:=bM ns f) (fun o c=>EC ns f o c)
  have hfin:=hpre (kids ns k) (ord++[k],[],[])
  have hL0:ord.length+1<=1000000:=by
   obtain⟨t,q1,q2,q3⟩:=hfin
   have q4:(((kids ns k).foldl (dZ (bM ns f)) (ord++[k],[],[])).1).length<=1000000:=hb
   rw[q1]at q4
   simp only[List.length_append,List.length_cons,List.length_nil]at q4
   omega
  refine⟨⟨by unfold gY;omega,by omega⟩,?_⟩
  generalize hP:(AV.agg [.v (.int .i64 x.1),.list 1 (x.2.1.map e64),.v xv]:AV)=Pv
  have a4l:=eO V3.a3
  have a4k:=eO V3.a4
  generalize hh4:(((h3++[(⟨3,1,x.2.1.length,true,x.2.1.map e64⟩:ah)]++[(⟨70,3,0,true,[Pv]⟩:ah)]).set I.n0 (⟨70,3,0,true,nd++[Pv]⟩:ah)).set I.dB (⟨28,2,0,false,[AV.agg [AV.row I.n0 (nd.length+1) 3 0 (nd.length+1),.v (.int .i64 0)]]⟩:ah))=h4
  have hlow:∀ j,j<h3.length->j≠I.n0->j≠I.dB->h4[j]?=h3[j]?:=fun j hj q1 q2=>by
   rw[<- hh4,List.getElem?_set_ne (fun e=>q2 e.symm),List.getElem?_set_ne (fun e=>q1 e.symm),List.append_assoc,List.getElem?_append_left hj]
  have hl4:h4.length=h3.length+2:=by rw[<- hh4];simp
  have YU:jG I h3 h4:=⟨by omega,fun j hj q1 q2 q3=>hlow j hj q3 q2⟩
  have V4:VH h4 I ns (ord++[k]) (nd++[Pv]):=VH.of hI V3 YU ((hlow _ (by omega) (by omega) (by omega)).trans V3.a2)
   (by rw[<- hh4,List.getElem?_set_self (by simp;omega)];simp)
   (by rw[<- hh4,List.getElem?_set_ne (by omega),List.getElem?_set_self (by simp;omega)])
  have YO:h4[fi]?=some fb:=(hlow _ (by omega) (by omega) (by omega)).trans hfi
  have a3G:h4[fi+1]?=some ⟨3,1,0,true,List.replicate x.2.2.1.length (.v (.int .i64 0))⟩:=(hlow _ (by omega) (by omega) (by omega)).trans hni
  have hS4:=YV.trans YU
  clear hh4 hlow
  refine JF (i:=11) (List.Mem.head _) (by rfl) ?_
  refine Ey [5,7,8,12,13,14,15,16,17,18,19,20,21,22,23,24,25,26,27,28,29,30,31,32,33,34,35,36,37,38,39,40,41,42,43,44,45,46,47,48,49,50,51,52,53,54,55,56,57,58,59,60,61,62,63,64,65,66,67,68,69] [.v (.int .i64 (k:Int)),.ptr I.nb 1 0 0,.ptr I.dB 1 0 0,.ptr I.tB 1 0 0,.ptr I.vB 1 0 0,.any,.v (.int .i64 0),.any,.any,.v (.int .i64 (nd.length:Int)),.ptr fi 1 0 0,.row (fi+1) x.2.2.1.length 1 0 x.2.2.1.length,.any,.any,.any,.any,.any,.any,.any,.any,.any,.any,.any,.any,.any,.any,.any,.any,.any,.any,.any,.any,.any,.any,.any,.any,.any,.any,.any,.any,.any,.any,.any,.any,.any,.any,.any,.any,.any,.any,.any,.any,.any,.any,.any,.any,.any,.any,.any,.any,.any,.any,.any,.any,.any,.any,.any,.any,.any,.any] ?_ ?_
  ·kernel_rfl
  have hmem:(h3.length,xv,AV.row (fi+1) x.2.2.1.length 1 0 x.2.2.1.length)∈(w0.rem h3.length xv (AV.row (fi+1) x.2.2.1.length 1 0 x.2.2.1.length)).fr:=List.Mem.head _
  generalize w0.rem h3.length xv (AV.row (fi+1) x.2.2.1.length 1 0 x.2.2.1.length)=w1 at hmem ⊢
  refine gV (gV (gB fG ?_))
  simp only[bsX,bE,step,St.val,St.put,cZ,asN,dX,unV,aV,aO,st1,setCells,bJ,eqA,eq1,AV.cells,aR,Value.cells,Value.oneCell',aP,bK,bL,bO,bR,aT,freeze,scalar,dw,reduceIte,Nat.reduceEqDiff,Nat.reduceAdd,Nat.reduceLeDiff,Nat.reduceSub,reduceCtorEq,norm,clr,eU,dG,dP,dQ,eX,Int.reduceToNat,Int.reduceLE,Int.reduceLT,Int.reduceBNe,Int.reduceBEq,Int.reduceEq,Nat.reduceLT,Nat.reduceMul,Value.oneCell',ghost,bsY,pW,YO,hfe,hfs]
  obtain⟨J,hJ⟩:∃ J:Nat->St->Prop,∀ m τ,J m τ↔(∃ i hh,i<=(kids ns k).length/\m=(kids ns k).length-i/\VH hh I ns (((kids ns k).take i).foldl (dZ (bM ns f)) (ord++[k],[],[])).1 (nd++[Pv]++(((kids ns k).take i).foldl (dZ (bM ns f)) (ord++[k],[],[])).2.2.map iq)/\hh[fi]?=some fb/\hh[fi+1]?=some ⟨3,1,0,true,((((kids ns k).take i).foldl (dZ (bM ns f)) (ord++[k],[],[])).2.1++List.replicate ((kids ns k).length-i) 0).map e64⟩/\jG I h hh/\clr Zg τ.t=Xj I nd.length fi x.2.2.1 i/\τ.h=hh):=⟨_,fun _ _=>Iff.rfl⟩
  refine Ez (U1 J (kids ns k).length ((hJ _ _).2 ⟨0,h4,by omega,by omega,?_,YO,?_,hS4,?_,rfl⟩) ?_)
  ·simpa using V4
  ·rw[a3G,hks];simp[e64]
  ·kernel_rfl
  intro m τ hJm
  obtain⟨i,hh,hi,hmi,V5,Qj,wY,hS5,htt,rfl⟩:=(hJ _ _).1 hJm
  clear hJm
  obtain⟨tt,hh⟩:=τ
  replace V5:VH hh _ _ _ _:=V5
  replace Qj:hh[fi]?=_:=Qj
  replace wY:hh[fi+1]?=_:=wY
  replace hS5:jG I h hh:=hS5
  replace htt:clr Zg tt=_:=htt
  refine Ey _ _ htt ?_
  unfold Xj
  show WPc _ _ _ _ FT _ _
  unfold FT
  have E9:∀ j,j<=(kids ns k).length->(((kids ns k).take j).foldl (dZ (bM ns f)) (ord++[k],[],[])).1.length<=1000000:=fun j hj=>by
   have q4:(((kids ns k).foldl (dZ (bM ns f)) (ord++[k],[],[])).1).length<=1000000:=hb
   rw[<- List.take_append_drop j (kids ns k),List.foldl_append]at q4
   obtain⟨t,q1,_,_⟩:=hpre ((kids ns k).drop j) (((kids ns k).take j).foldl (dZ (bM ns f)) (ord++[k],[],[]))
   rw[q1,List.length_append]at q4
   omega
  obtain⟨tp,p1,p2,p3⟩:=hpre ((kids ns k).take i) (ord++[k],[],[])
  refine gV (gB fG ?_)
  simp only[bsX,bE,step,St.val,St.put,cZ,asN,dX,unV,aV,aO,st1,setCells,bJ,eqA,eq1,AV.cells,aR,Value.cells,Value.oneCell',aP,bK,bL,bO,bR,aT,freeze,scalar,dw,reduceIte,Nat.reduceEqDiff,Nat.reduceAdd,Nat.reduceLeDiff,Nat.reduceSub,reduceCtorEq,norm,clr,eU,dG,dP,dQ,eX,Int.reduceToNat,Int.reduceLE,Int.reduceLT,Int.reduceBNe,Int.reduceBEq,Int.reduceEq,Nat.reduceLT,Nat.reduceMul,Value.oneCell',ghost,bsY,pV]
  refine gV (gB fG ?_)
  refine xC rfl (fun hc=>?_) (fun hc=>?_)
  ·have hc:(i:Int)<((x.2.2.1.length:Nat):Int):=of_decide_eq_true hc
   have hc:i<x.2.2.1.length:=by omega
   simp only[bsX,bE,step,St.val,St.put,cZ,asN,dX,unV,aV,aO,st1,setCells,bJ,eqA,eq1,AV.cells,aR,Value.cells,Value.oneCell',aP,bK,bL,bO,bR,aT,freeze,scalar,dw,reduceIte,Nat.reduceEqDiff,Nat.reduceAdd,Nat.reduceLeDiff,Nat.reduceSub,reduceCtorEq,norm,clr,eU,dG,dP,dQ,eX,Int.reduceToNat,Int.reduceLE,Int.reduceLT,Int.reduceBNe,Int.reduceBEq,Int.reduceEq,Nat.reduceLT,Nat.reduceMul,Value.oneCell',ghost,bsY]
   refine gV (Ez (gV (gB fG ?_)))
   simp only[bsX,bE,step,St.val,St.put,cZ,asN,dX,unV,aV,aO,st1,setCells,bJ,eqA,eq1,AV.cells,aR,Value.cells,Value.oneCell',aP,bK,bL,bO,bR,aT,freeze,scalar,dw,reduceIte,Nat.reduceEqDiff,Nat.reduceAdd,Nat.reduceLeDiff,Nat.reduceSub,reduceCtorEq,norm,clr,eU,dG,dP,dQ,eX,Int.reduceToNat,Int.reduceLE,Int.reduceLT,Int.reduceBNe,Int.reduceBEq,Int.reduceEq,Nat.reduceLT,Nat.reduceMul,Value.oneCell',ghost,bsY,pU]
   refine⟨⟨by omega,by omega⟩,?_⟩
   simp only[Nv hc]
   simp only[bsX,bE,step,St.val,St.put,cZ,asN,dX,unV,aV,aO,st1,setCells,bJ,eqA,eq1,AV.cells,aR,Value.cells,Value.oneCell',aP,bK,bL,bO,bR,aT,freeze,scalar,dw,reduceIte,Nat.reduceEqDiff,Nat.reduceAdd,Nat.reduceLeDiff,Nat.reduceSub,reduceCtorEq,norm,clr,eU,dG,dP,dQ,eX,Int.reduceToNat,Int.reduceLE,Int.reduceLT,Int.reduceBNe,Int.reduceBEq,Int.reduceEq,Nat.reduceLT,Nat.reduceMul,Value.oneCell',ghost,bsY,List.getElem?_concat_length,fZ]
   have hcm:x.2.2.1.getD i 0∈kids ns k:=by rw[hks,List.getD_eq_getElem?_getD,List.getElem?_eq_getElem hc];exact List.getElem_mem _
   obtain⟨c1,c2⟩:=hkc _ hcm
   have hstep:=C8 (dZ (bM ns f)) (ord++[k],[],[]) (kids ns k) i (by rw[hks];exact hc)
   rw[show (kids ns k).getD i 0=x.2.2.1.getD i 0 by rw[hks]]at hstep
   have hf1:=E9 (i+1) (by rw[hks];omega)
   rw[hstep]at hf1
   have hih:=ih (((kids ns k).take i).foldl (dZ (bM ns f)) (ord++[k],[],[])).1 _ hh (x.2.2.1.getD i 0) (by omega) c1 (by omega) V5 (by rw[p1];simp only[List.length_append,List.length_map,List.length_cons,List.length_nil,p2];omega) hf1
   generalize (((kids ns k).take i).foldl (dZ (bM ns f)) (ord++[k],[],[]))=S at hstep hih V5 wY p1 p2 p3
   generalize x.2.2.1.getD i 0=c at hstep hih c1 c2 hcm
   have hV8:=V5.a8
   refine gB fG ?_
   simp only[bsX,bE,step,St.val,St.put,cZ,asN,dX,unV,aV,aO,st1,setCells,bJ,eqA,eq1,AV.cells,aR,Value.cells,Value.oneCell',aP,bK,bL,bO,bR,aT,freeze,scalar,dw,reduceIte,Nat.reduceEqDiff,Nat.reduceAdd,Nat.reduceLeDiff,Nat.reduceSub,reduceCtorEq,norm,clr,eU,dG,dP,dQ,eX,Int.reduceToNat,Int.reduceLE,Int.reduceLT,Int.reduceBNe,Int.reduceBEq,Int.reduceEq,Nat.reduceLT,Nat.reduceMul,Value.oneCell',ghost,bsY,pR,hV8]
   refine .inl ⟨rfl,87,_,rfl,F87.callable,?_⟩
   refine fP.mono hih ?_
   rintro _ h5 ⟨rfl,V6,hS6⟩
   have a3H:=eO wY
   have hn6:=(hS6.2 (fi+1) a3H (by omega) (by omega) (by omega)).trans wY
   have hf6:=(hS6.2 fi (by omega) (by omega) (by omega) (by omega)).trans Qj
   have hSl:S.2.1.length=i:=by rw[p3];simp only[List.length_take,List.length_nil];omega
   have hsc:(dZ (bM ns f) S c).2.1=S.2.1++[aY (bM ns f S.1 c).1 c]:=rfl
   have hsc1:(dZ (bM ns f) S c).1=(bM ns f S.1 c).1:=rfl
   have hsc2:(dZ (bM ns f) S c).2.2=S.2.2++(bM ns f S.1 c).2:=rfl
   have hes:((S.2.1++List.replicate ((kids ns k).length-i) 0).map e64).set i (.v (.int .i64 (aY (bM ns f S.1 c).1 c)))=((dZ (bM ns f) S c).2.1++List.replicate ((kids ns k).length-(i+1)) 0).map e64:=by
    rw[hsc,List.map_append,List.map_append,List.map_append,List.set_append_right _ _ (by rw[List.length_map];omega),List.length_map,hSl,Nat.sub_self,hks,show x.2.2.1.length-i=(x.2.2.1.length-(i+1))+1 by omega,List.replicate_succ,List.map_cons,List.set_cons_zero,List.append_assoc]
    rfl
   have hel:((S.2.1++List.replicate ((kids ns k).length-i) 0).map e64).length=x.2.2.1.length:=by rw[List.length_map,List.length_append,List.length_replicate,hSl,hks];omega
   have heg:((S.2.1++List.replicate ((kids ns k).length-i) 0).map e64).getD i .any=.v (.int .i64 ((S.2.1++List.replicate ((kids ns k).length-i) 0).getD i 0)):=Nv (by rw[List.length_append,List.length_replicate,hSl,hks];omega)
   generalize (S.2.1++List.replicate ((kids ns k).length-i) 0).map e64=es6 at hn6 hes hel heg
   have e1:IntKind.i64.wrap ((i:Int)+1)=((i+1:Nat):Int):=by rw[wrap64 (by omega) (by omega)];omega
   simp only[bsX,bE,step,St.val,St.put,cZ,asN,dX,unV,aV,aO,st1,setCells,bJ,eqA,eq1,AV.cells,aR,Value.cells,Value.oneCell',aP,bK,bL,bO,bR,aT,freeze,scalar,dw,reduceIte,Nat.reduceEqDiff,Nat.reduceAdd,Nat.reduceLeDiff,Nat.reduceSub,reduceCtorEq,norm,clr,eU,dG,dP,dQ,eX,Int.reduceToNat,Int.reduceLE,Int.reduceLT,Int.reduceBNe,Int.reduceBEq,Int.reduceEq,Nat.reduceLT,Nat.reduceMul,Value.oneCell',ghost,bsY,pQ,hn6,hel,heg]
   refine⟨⟨by omega,by omega⟩,⟨hc,by omega⟩,?_⟩
   simp only[bsX,bE,step,St.val,St.put,cZ,asN,dX,unV,aV,aO,st1,setCells,bJ,eqA,eq1,AV.cells,aR,Value.cells,Value.oneCell',aP,bK,bL,bO,bR,aT,freeze,scalar,dw,reduceIte,Nat.reduceEqDiff,Nat.reduceAdd,Nat.reduceLeDiff,Nat.reduceSub,reduceCtorEq,norm,clr,eU,dG,dP,dQ,eX,Int.reduceToNat,Int.reduceLE,Int.reduceLT,Int.reduceBNe,Int.reduceBEq,Int.reduceEq,Nat.reduceLT,Nat.reduceMul,Value.oneCell',ghost,bsY,hes]
   refine gB fG ?_
   simp only[bsX,bE,step,St.val,St.put,cZ,asN,dX,unV,aV,aO,st1,setCells,bJ,eqA,eq1,AV.cells,aR,Value.cells,Value.oneCell',aP,bK,bL,bO,bR,aT,freeze,scalar,dw,reduceIte,Nat.reduceEqDiff,Nat.reduceAdd,Nat.reduceLeDiff,Nat.reduceSub,reduceCtorEq,norm,clr,eU,dG,dP,dQ,eX,Int.reduceToNat,Int.reduceLE,Int.reduceLT,Int.reduceBNe,Int.reduceBEq,Int.reduceEq,Nat.reduceLT,Nat.reduceMul,Value.oneCell',ghost,bsY,Du]
   rw[e1]
   have V7:VH (h5.set (fi+1) ⟨3,1,0,true,((dZ (bM ns f) S c).2.1++List.replicate ((kids ns k).length-(i+1)) 0).map e64⟩) I ns (dZ (bM ns f) S c).1 (nd++[Pv]++(dZ (bM ns f) S c).2.2.map iq):=by
    rw[hsc1,hsc2,List.map_append (f:=iq),<- List.append_assoc]
    exact V6.set (by omega) _
   have YT:=hS5.trans hS6
   refine⟨m-1,by omega,(hJ _ _).2 ⟨i+1,_,by omega,by omega,?_,?_,?_,?_,by kernel_rfl,rfl⟩⟩
   ·rw[hstep];exact V7
   ·show (h5.set (fi+1) _)[fi]?=_
    rw[List.getElem?_set_ne (by omega)];exact hf6
   ·show (h5.set (fi+1) _)[fi+1]?=_
    rw[List.getElem?_set_self (eO hn6),hstep]
   ·show jG I h (h5.set (fi+1) _)
    exact⟨by rw[List.length_set];exact YT.1,fun j hj q1 q2 q3=>by rw[List.getElem?_set_ne (by omega)];exact YT.2 j hj q1 q2 q3⟩
  ·have hc:¬ (i:Int)<((x.2.2.1.length:Nat):Int):=of_decide_eq_false hc
   obtain rfl:i=(kids ns k).length:=by omega
   rw[List.take_length]at V5 wY p1 p2 p3
   rw[Nat.sub_self,List.replicate_zero,List.append_nil]at wY
   generalize (kids ns k).foldl (dZ (bM ns f)) (ord++[k],[],[])=S at *
   simp only[bsX,bE,step,St.val,St.put,cZ,asN,dX,unV,aV,aO,st1,setCells,bJ,eqA,eq1,AV.cells,aR,Value.cells,Value.oneCell',aP,bK,bL,bO,bR,aT,freeze,scalar,dw,reduceIte,Nat.reduceEqDiff,Nat.reduceAdd,Nat.reduceLeDiff,Nat.reduceSub,reduceCtorEq,norm,clr,eU,dG,dP,dQ,eX,Int.reduceToNat,Int.reduceLE,Int.reduceLT,Int.reduceBNe,Int.reduceBEq,Int.reduceEq,Nat.reduceLT,Nat.reduceMul,Value.oneCell',ghost,bsY,I4]
   have hSl:S.2.1.length=x.2.2.1.length:=by rw[p3];simp only[List.length_nil];omega
   have hat:(nd++[Pv]++S.2.2.map iq)[nd.length]?=some (AV.agg [.v (.int .i64 x.1),.list 1 (x.2.1.map e64),.v xv]):=by
    rw[List.append_assoc,List.getElem?_append_right (Nat.le_refl _),Nat.sub_self,hP];rfl
   refine U2 hmem wY (by simp only[List.length_map];omega) rfl rfl V5.a4 (by omega) rfl (show 0<3 by decide) hat ?_
   have hes:(nd++[Pv]++S.2.2.map iq).set nd.length (AV.agg [.v (.int .i64 x.1),.list 1 (x.2.1.map e64),.list 1 (S.2.1.map e64)])=nd++AV.agg [.v (.int .i64 x.1),.list 1 (x.2.1.map e64),.list 1 (S.2.1.map e64)]::S.2.2.map iq:=by
    rw[List.append_assoc,List.set_append_right _ _ (Nat.le_refl _),Nat.sub_self];rfl
   have V6:=V5.set (j:=fi+1) (by omega) (⟨3,1,S.2.1.length,true,S.2.1.map e64⟩:ah)
   have hS6:jG I h ((hh.set (fi+1) (⟨3,1,S.2.1.length,true,S.2.1.map e64⟩:ah)).set I.n0 (⟨70,3,0,true,nd++AV.agg [.v (.int .i64 x.1),.list 1 (x.2.1.map e64),.list 1 (S.2.1.map e64)]::S.2.2.map iq⟩:ah)):=⟨by rw[List.length_set,List.length_set];exact hS5.1,fun j hj q1 q2 q3=>by rw[List.getElem?_set_ne (fun e=>q3 e.symm),List.getElem?_set_ne (by omega)];exact hS5.2 j hj q1 q2 q3⟩
   have V7:VH ((hh.set (fi+1) (⟨3,1,S.2.1.length,true,S.2.1.map e64⟩:ah)).set I.n0 (⟨70,3,0,true,nd++AV.agg [.v (.int .i64 x.1),.list 1 (x.2.1.map e64),.list 1 (S.2.1.map e64)]::S.2.2.map iq⟩:ah)) I ns S.1 (nd++AV.agg [.v (.int .i64 x.1),.list 1 (x.2.1.map e64),.list 1 (S.2.1.map e64)]::S.2.2.map iq):=by
    refine VH.of hI V6 ⟨by simp,fun j _ _ _ q3=>by rw[List.getElem?_set_ne (fun e=>q3 e.symm)]⟩ (by rw[List.getElem?_set_ne (by omega)];exact V6.a2) ?_ (List.getElem?_set_self (eO V6.a4))
    rw[List.getElem?_set_ne (by omega),V6.a3]
    simp
   rw[show (⟨3,1,0,true,S.2.1.map e64⟩:ah).es=S.2.1.map e64 from rfl,show (⟨70,3,0,true,nd++[Pv]++S.2.2.map iq⟩:ah).es=nd++[Pv]++S.2.2.map iq from rfl,hes]
   refine gB fG ?_
   simp only[bsX,bE,step,St.val,St.put,cZ,asN,dX,unV,aV,aO,st1,setCells,bJ,eqA,eq1,AV.cells,aR,Value.cells,Value.oneCell',aP,bK,bL,bO,bR,aT,freeze,scalar,dw,reduceIte,Nat.reduceEqDiff,Nat.reduceAdd,Nat.reduceLeDiff,Nat.reduceSub,reduceCtorEq,norm,clr,eU,dG,dP,dQ,eX,Int.reduceToNat,Int.reduceLE,Int.reduceLT,Int.reduceBNe,Int.reduceBEq,Int.reduceEq,Nat.reduceLT,Nat.reduceMul,Value.oneCell',ghost,bsY,pO]
   refine om trivial ?_
   simp only[bsX,bE,step,St.val,St.put,cZ,asN,dX,unV,aV,aO,st1,setCells,bJ,eqA,eq1,AV.cells,aR,Value.cells,Value.oneCell',aP,bK,bL,bO,bR,aT,freeze,scalar,dw,reduceIte,Nat.reduceEqDiff,Nat.reduceAdd,Nat.reduceLeDiff,Nat.reduceSub,reduceCtorEq,norm,clr,eU,dG,dP,dQ,eX,Int.reduceToNat,Int.reduceLE,Int.reduceLT,Int.reduceBNe,Int.reduceBEq,Int.reduceEq,Nat.reduceLT,Nat.reduceMul,Value.oneCell',ghost,zU,mg,lu]
   refine⟨?_,V7,hS6⟩
   have hid:S.1.idxOf k=ord.length:=by
    rw[p1]
    show ((ord++[k])++tp).idxOf k=_
    rw[List.append_assoc,List.idxOf_append,if_neg hm]
    simp
   have e:aY S.1 (k:Int)=(ord.length:Int):=by unfold aY;rw[if_neg (by omega),Int.toNat_natCast,hid]
   rw[e,hl]
end
end Abs
end Go.Proofs.YtgfnhpadmifiiaaDoor
end
section
namespace Go.Proofs.YtgfnhpadmifiiaaDoor
namespace Abs
set_option maxRecDepth 100000
section
variable {Gl:Nat->Option (List AV)}
theorem X9 {P:Program} {B:Nat} {w0:W0} {K:Exit->St->Prop} {c:C} {t:List AV} {h:List ah} {k o ty sz:Nat} {ob:ah} {e0:AV} (hob:h[k]?=some ob) (hes:ob.es=[e0]) (hpr:ob.pr=false) (ho:e0.cells[o]?=some (.v (.slice none 0 0))) (hz:0 < sz)
  (H:WPc P Gl B w0 c K ⟨t,(h++[(⟨ty,sz,0,true,[]⟩:ah)]).set k { ob with es:=[wE e0 o (.row h.length 0 sz 0 0)] }⟩):WPc P Gl B w0 c K ⟨t,h⟩:=Ow fun F own act w hI=>by
 have hrow:R F (own++[(⟨none,0,sz,0⟩:Ent)]) (.slice none 0 0) (.row h.length 0 sz 0 0):=by
  have e:own.length=h.length:=hI.hl
  rw[<- e]
  exact .row _ _ _ _ _ _ _ gP (by simp) ⟨_,_,rfl,by simp,fun q=>by simp at q⟩ (fun _=>⟨rfl,by simp,fun _=>⟨_,Nat.le_of_eq (Nat.zero_add _),by simp⟩⟩) (by first|assumption|(show 0<sz;omega)|(show 0<_;assumption))
 have hk:k<h.length:=eO hob
 exact⟨F,_,_,(hI.wQ ty sz true hz).Jk (by show (h++[_])[k]?=_;rw[List.getElem?_append_left hk];exact hob) hes hpr ho hrow rfl,H⟩
set_option maxHeartbeats 4000000 in
theorem a15 {ns:List ND} (hns:∀ i,i < ns.length->∀ c ∈ kids ns i,-1000000000<=c/\c < (i:Int)) (hlen:∀ x ∈ ns,x.2.1.length<=2000000001/\x.2.2.1.length<=2000000001) (hn:ns.length<=1000000) {h:List ah} {cB rB fz:Nat} {x0 x1 x2 x3 x5:AV}
  (hc:h[cB]?=some ⟨107,6,0,false,[.agg [x0,x1,x2,x3,.row rB ns.length 3 0 ns.length,x5]]⟩) (hr:h[rB]?=some ⟨70,3,fz,true,ns.map iq⟩) {r:Int} (hr1:-1000000000<=r) (hr2:r<(ns.length:Int)) (hb:(bM ns ns.length [] r).1.length<=1000000) :
  fP Tryd.prog Gl 68 h [.ptr cB 1 0 4,.v (.int .i64 r)] (fun res h'=>∃ n0,h.length<=n0/\h.length<=h'.length/\(∀ j,j<h.length->h'[j]?=h[j]?)/\h'[n0]?=some ⟨70,3,0,true,(bM ns ns.length [] r).2.map iq⟩/\res=.agg [.row n0 (bM ns ns.length [] r).2.length 3 0 (bM ns ns.length [] r).2.length,.v (.int .i64 (aY (bM ns ns.length [] r).1 r))]):=by
 have hcl:=eO hc
 have hrl:=eO hr
 have hne:cB≠rB:=fun e=>by rw[e,hr]at hc;cases hc
 refine fP.ofC fG F68 (t:=[.ptr cB 1 0 4,.v (.int .i64 r),.any,.any,.any,.any,.any,.any,.any,.any,.any,.any,.any,.any,.any,.any,.any,.any,.any,.any]) rfl fun B w0=>?_
 show WPc _ _ _ _ c68 _ _
 unfold c68
 refine gV (gB fG ?_)
 simp only[bsX,bE,step,St.val,St.put,cZ,asN,dX,unV,aV,aO,st1,setCells,bJ,eqA,eq1,AV.cells,aR,Value.cells,Value.oneCell',aP,bK,bL,bO,bR,aT,freeze,scalar,dw,reduceIte,Nat.reduceEqDiff,Nat.reduceAdd,Nat.reduceLeDiff,Nat.reduceSub,reduceCtorEq,norm,clr,eU,dG,dP,dQ,eX,Int.reduceToNat,Int.reduceLE,Int.reduceLT,Int.reduceBNe,Int.reduceBEq,Int.reduceEq,Nat.reduceLT,Nat.reduceMul,Value.oneCell',ghost,bsY,Rq,List.getElem?_concat_length,fZ]
 refine gV (gB fG ?_)
 simp only[bsX,bE,step,St.val,St.put,cZ,asN,dX,unV,aV,aO,st1,setCells,bJ,eqA,eq1,AV.cells,aR,Value.cells,Value.oneCell',aP,bK,bL,bO,bR,aT,freeze,scalar,dw,reduceIte,Nat.reduceEqDiff,Nat.reduceAdd,Nat.reduceLeDiff,Nat.reduceSub,reduceCtorEq,norm,clr,eU,dG,dP,dQ,eX,Int.reduceToNat,Int.reduceLE,Int.reduceLT,Int.reduceBNe,Int.reduceBEq,Int.reduceEq,Nat.reduceLT,Nat.reduceMul,Value.oneCell',ghost,bsY,Rp,List.getElem?_concat_length,fZ]
 have k0:∀ a b c:ah,(h++[a]++[b]++[c])[h.length]?=some a:=fun a b c=>by rw[List.append_assoc,List.append_assoc,List.getElem?_append_right (Nat.le_refl _)];simp
 have kc:∀ a b c:ah,(h++[a]++[b]++[c])[cB]?=_:=fun a b c=>by rw[List.append_assoc,List.append_assoc,List.getElem?_append_left hcl]
 refine gV (gB fG ?_)
 simp only[bsX,bE,step,St.val,St.put,cZ,asN,dX,unV,aV,aO,st1,setCells,bJ,eqA,eq1,AV.cells,aR,Value.cells,Value.oneCell',aP,bK,bL,bO,bR,aT,freeze,scalar,dw,reduceIte,Nat.reduceEqDiff,Nat.reduceAdd,Nat.reduceLeDiff,Nat.reduceSub,reduceCtorEq,norm,clr,eU,dG,dP,dQ,eX,Int.reduceToNat,Int.reduceLE,Int.reduceLT,Int.reduceBNe,Int.reduceBEq,Int.reduceEq,Nat.reduceLT,Nat.reduceMul,Value.oneCell',ghost,bsY,Ro,List.getElem?_concat_length,fZ,k0,kc,hc]
 refine gV (gB fG ?_)
 simp only[bsX,bE,step,St.val,St.put,cZ,asN,dX,unV,aV,aO,st1,setCells,bJ,eqA,eq1,AV.cells,aR,Value.cells,Value.oneCell',aP,bK,bL,bO,bR,aT,freeze,scalar,dw,reduceIte,Nat.reduceEqDiff,Nat.reduceAdd,Nat.reduceLeDiff,Nat.reduceSub,reduceCtorEq,norm,clr,eU,dG,dP,dQ,eX,Int.reduceToNat,Int.reduceLE,Int.reduceLT,Int.reduceBNe,Int.reduceBEq,Int.reduceEq,Nat.reduceLT,Nat.reduceMul,Value.oneCell',ghost,bsY,Rn,List.getElem?_concat_length,fZ]
 refine gV (gB fG ?_)
 simp only[bsX,bE,step,St.val,St.put,cZ,asN,dX,unV,aV,aO,st1,setCells,bJ,eqA,eq1,AV.cells,aR,Value.cells,Value.oneCell',aP,bK,bL,bO,bR,aT,freeze,scalar,dw,reduceIte,Nat.reduceEqDiff,Nat.reduceAdd,Nat.reduceLeDiff,Nat.reduceSub,reduceCtorEq,norm,clr,eU,dG,dP,dQ,eX,Int.reduceToNat,Int.reduceLE,Int.reduceLT,Int.reduceBNe,Int.reduceBEq,Int.reduceEq,Nat.reduceLT,Nat.reduceMul,Value.oneCell',ghost,bsY,Rm,List.getElem?_concat_length,fZ]
 have e1:(h++[(⟨123,1,0,false,[AV.ptr cB 1 0 4]⟩:ah)]).length=h.length+1:=by simp
 have e2:∀ a:ah,(h++[(⟨123,1,0,false,[AV.ptr cB 1 0 4]⟩:ah)]++[a]).length=h.length+2:=fun a=>by simp
 have e3:∀ a b:ah,(h++[(⟨123,1,0,false,[AV.ptr cB 1 0 4]⟩:ah)]++[a]++[b]).length=h.length+3:=fun a b=>by simp
 have e4:∀ a b c:ah,(h++[(⟨123,1,0,false,[AV.ptr cB 1 0 4]⟩:ah)]++[a]++[b]++[c]).length=h.length+4:=fun a b c=>by simp
 have e5:∀ a b c d:ah,(h++[(⟨123,1,0,false,[AV.ptr cB 1 0 4]⟩:ah)]++[a]++[b]++[c]++[d]).length=h.length+5:=fun a b c d=>by simp
 simp only[e1,e2,e3,e4,e5]
 clear e1 e2 e3 e4 e5
 generalize hH:h++[(⟨123,1,0,false,[AV.ptr cB 1 0 4]⟩:ah)]++[(⟨28,2,0,false,[AV.agg [AV.v (.slice none 0 0),AV.v (.int .i64 0)]]⟩:ah)]++[(⟨28,2,0,false,[AV.agg [AV.v (.slice none 0 0),AV.v (.int .i64 0)]]⟩:ah)]++[(⟨82,0,0,true,[]⟩:ah)]++[(⟨82,1,0,false,[AV.mp (h.length+3)]⟩:ah)]++[(⟨68,1,0,false,[AV.clo 87 [.ptr (h.length+4) 1 0 0,.ptr (h.length+2) 1 0 0,.ptr h.length 1 0 0,.ptr (h.length+5) 1 0 0]]⟩:ah)]=H6
 have hlow:∀ j,j<h.length->H6[j]?=h[j]?:=fun j hj=>by rw[<- hH];simp only[List.append_assoc];rw[List.getElem?_append_left hj]
 have hl6:H6.length=h.length+6:=by rw[<- hH];simp
 have hat:∀ k,H6[h.length+k]?=([(⟨123,1,0,false,[AV.ptr cB 1 0 4]⟩:ah),⟨28,2,0,false,[AV.agg [AV.v (.slice none 0 0),AV.v (.int .i64 0)]]⟩,⟨28,2,0,false,[AV.agg [AV.v (.slice none 0 0),AV.v (.int .i64 0)]]⟩,⟨82,0,0,true,[]⟩,⟨82,1,0,false,[AV.mp (h.length+3)]⟩,⟨68,1,0,false,[AV.clo 87 [.ptr (h.length+4) 1 0 0,.ptr (h.length+2) 1 0 0,.ptr h.length 1 0 0,.ptr (h.length+5) 1 0 0]]⟩]:List ah)[k]?:=fun k=>by
  rw[<- hH];simp only[List.append_assoc,List.cons_append,List.nil_append];rw[List.getElem?_append_right (by omega),Nat.add_sub_cancel_left]
 clear hH k0 kc
 refine X9 (k:=h.length+2) (o:=0) (ty:=70) (sz:=3) (hat 2) rfl rfl rfl (by decide) ?_
 show WPc _ _ _ _ _ _ ⟨_,(H6++[(⟨70,3,0,true,[]⟩:ah)]).set (h.length+2) ⟨28,2,0,false,[AV.agg [AV.row H6.length 0 3 0 0,.v (.int .i64 0)]]⟩⟩
 rw[hl6]
 have hl7:((H6++[(⟨70,3,0,true,[]⟩:ah)]).set (h.length+2) (⟨28,2,0,false,[AV.agg [AV.row (h.length+6) 0 3 0 0,.v (.int .i64 0)]]⟩:ah)).length=h.length+7:=by simp[hl6]
 have g6:((H6++[(⟨70,3,0,true,[]⟩:ah)]).set (h.length+2) (⟨28,2,0,false,[AV.agg [AV.row (h.length+6) 0 3 0 0,.v (.int .i64 0)]]⟩:ah))[h.length+6]?=some ⟨70,3,0,true,[]⟩:=by
  rw[List.getElem?_set_ne (by omega),List.getElem?_append_right (by omega),hl6,Nat.sub_self];rfl
 have g2:((H6++[(⟨70,3,0,true,[]⟩:ah)]).set (h.length+2) (⟨28,2,0,false,[AV.agg [AV.row (h.length+6) 0 3 0 0,.v (.int .i64 0)]]⟩:ah))[h.length+2]?=some ⟨28,2,0,false,[AV.agg [AV.row (h.length+6) 0 3 0 0,.v (.int .i64 0)]]⟩:=by
  rw[List.getElem?_set_self (by simp;omega)]
 have gk:∀ k,k<6->k≠2->((H6++[(⟨70,3,0,true,[]⟩:ah)]).set (h.length+2) (⟨28,2,0,false,[AV.agg [AV.row (h.length+6) 0 3 0 0,.v (.int .i64 0)]]⟩:ah))[h.length+k]?=H6[h.length+k]?:=fun k h1 h2=>by
  rw[List.getElem?_set_ne (by omega),List.getElem?_append_left (by omega)]
 have gl:∀ j,j<h.length->((H6++[(⟨70,3,0,true,[]⟩:ah)]).set (h.length+2) (⟨28,2,0,false,[AV.agg [AV.row (h.length+6) 0 3 0 0,.v (.int .i64 0)]]⟩:ah))[j]?=h[j]?:=fun j hj=>by
  rw[List.getElem?_set_ne (by omega),List.getElem?_append_left (by omega)];exact hlow j hj
 generalize (H6++[(⟨70,3,0,true,[]⟩:ah)]).set (h.length+2) (⟨28,2,0,false,[AV.agg [AV.row (h.length+6) 0 3 0 0,.v (.int .i64 0)]]⟩:ah)=H7 at *
 have hIK:Lm ⟨h.length+3,h.length+4,h.length+2,h.length,h.length+5,cB,rB,h.length+6,x0,x1,x2,x3,x5,fz⟩:=⟨by simp only;omega,by simp only;omega,by simp only;omega⟩
 have V7:VH H7 ⟨h.length+3,h.length+4,h.length+2,h.length,h.length+5,cB,rB,h.length+6,x0,x1,x2,x3,x5,fz⟩ ns [] [] :=
  ⟨(gk 4 (by omega) (by omega)).trans (hat 4),(gk 3 (by omega) (by omega)).trans (hat 3),g2,g6,(gk 0 (by omega) (by omega)).trans (hat 0),(gl cB hcl).trans hc,(gl rB hrl).trans hr,(gk 5 (by omega) (by omega)).trans (hat 5)⟩
 have g5:H7[h.length+5]?=_:=V7.a8
 have g1:H7[h.length+1]?=_:=(gk 1 (by omega) (by omega)).trans (hat 1)
 refine gV (gB fG ?_)
 simp only[bsX,bE,step,St.val,St.put,cZ,asN,dX,unV,aV,aO,st1,setCells,bJ,eqA,eq1,AV.cells,aR,Value.cells,Value.oneCell',aP,bK,bL,bO,bR,aT,freeze,scalar,dw,reduceIte,Nat.reduceEqDiff,Nat.reduceAdd,Nat.reduceLeDiff,Nat.reduceSub,reduceCtorEq,norm,clr,eU,dG,dP,dQ,eX,Int.reduceToNat,Int.reduceLE,Int.reduceLT,Int.reduceBNe,Int.reduceBEq,Int.reduceEq,Nat.reduceLT,Nat.reduceMul,Value.oneCell',ghost,bsY,Rl,List.getElem?_concat_length,fZ,g5]
 refine .inl ⟨rfl,87,_,rfl,F87.callable,?_⟩
 refine fP.mono (Xb hIK hns hlen hn ns.length [] [] H7 r hr2 hr1 hr2 V7 rfl hb) ?_
 rintro _ h5 ⟨rfl,V6,hS6⟩
 rw[List.nil_append]at V6
 have f3:h5[h.length+2]?=_:=V6.a3
 have f1:h5[h.length+1]?=_:=(hS6.2 (h.length+1) (by omega) (by simp only;omega) (by simp only;omega) (by simp only;omega)).trans g1
 have f4:h5[h.length+6]?=_:=V6.a4
 have f0:∀ j,j<h.length->h5[j]?=h[j]?:=fun j hj=>(hS6.2 j (by omega) (by simp only;omega) (by simp only;omega) (by simp only;omega)).trans (gl j hj)
 have f6:=hS6.1
 simp only[bsX,bE,step,St.val,St.put,cZ,asN,dX,unV,aV,aO,st1,setCells,bJ,eqA,eq1,AV.cells,aR,Value.cells,Value.oneCell',aP,bK,bL,bO,bR,aT,freeze,scalar,dw,reduceIte,Nat.reduceEqDiff,Nat.reduceAdd,Nat.reduceLeDiff,Nat.reduceSub,reduceCtorEq,norm,clr,eU,dG,dP,dQ,eX,Int.reduceToNat,Int.reduceLE,Int.reduceLT,Int.reduceBNe,Int.reduceBEq,Int.reduceEq,Nat.reduceLT,Nat.reduceMul,Value.oneCell',ghost,bsY,List.getElem?_concat_length,fZ,f3]
 have q2:∀ o:ah,(h5.set (h.length+2) o)[h.length+2]?=some o:=fun o=>List.getElem?_set_self (by omega)
 have f1:h5[h.length+1]?=some ⟨28,2,0,false,[AV.agg [AV.v (.slice none 0 0),AV.v (.int .i64 0)]]⟩:=f1
 have q1:∀ o:ah,(h5.set (h.length+2) o)[h.length+1]?=some ⟨28,2,0,false,[AV.agg [AV.v (.slice none 0 0),AV.v (.int .i64 0)]]⟩:=fun o=>by rw[List.getElem?_set_ne (by omega)];exact f1
 refine gV (gB fG ?_)
 simp only[bsX,bE,step,St.val,St.put,cZ,asN,dX,unV,aV,aO,st1,setCells,bJ,eqA,eq1,AV.cells,aR,Value.cells,Value.oneCell',aP,bK,bL,bO,bR,aT,freeze,scalar,dw,reduceIte,Nat.reduceEqDiff,Nat.reduceAdd,Nat.reduceLeDiff,Nat.reduceSub,reduceCtorEq,norm,clr,eU,dG,dP,dQ,eX,Int.reduceToNat,Int.reduceLE,Int.reduceLT,Int.reduceBNe,Int.reduceBEq,Int.reduceEq,Nat.reduceLT,Nat.reduceMul,Value.oneCell',ghost,bsY,Rk,List.getElem?_concat_length,fZ,q1,q2]
 refine gB fG ?_
 simp only[bsX,bE,step,St.val,St.put,cZ,asN,dX,unV,aV,aO,st1,setCells,bJ,eqA,eq1,AV.cells,aR,Value.cells,Value.oneCell',aP,bK,bL,bO,bR,aT,freeze,scalar,dw,reduceIte,Nat.reduceEqDiff,Nat.reduceAdd,Nat.reduceLeDiff,Nat.reduceSub,reduceCtorEq,norm,clr,eU,dG,dP,dQ,eX,Int.reduceToNat,Int.reduceLE,Int.reduceLT,Int.reduceBNe,Int.reduceBEq,Int.reduceEq,Nat.reduceLT,Nat.reduceMul,Value.oneCell',ghost,bsY,List.getElem?_concat_length,fZ]
 have q3:∀ o o':ah,((h5.set (h.length+2) o).set (h.length+1) o')[h.length+1]?=some o':=fun o o'=>List.getElem?_set_self (by rw[List.length_set];omega)
 refine om trivial ?_
 simp only[bsX,bE,step,St.val,St.put,cZ,asN,dX,unV,aV,aO,st1,setCells,bJ,eqA,eq1,AV.cells,aR,Value.cells,Value.oneCell',aP,bK,bL,bO,bR,aT,freeze,scalar,dw,reduceIte,Nat.reduceEqDiff,Nat.reduceAdd,Nat.reduceLeDiff,Nat.reduceSub,reduceCtorEq,norm,clr,eU,dG,dP,dQ,eX,Int.reduceToNat,Int.reduceLE,Int.reduceLT,Int.reduceBNe,Int.reduceBEq,Int.reduceEq,Nat.reduceLT,Nat.reduceMul,Value.oneCell',ghost,bsY,zU,mg,lu,q3]
 refine⟨h.length+6,by omega,by rw[List.length_set,List.length_set];omega,fun j hj=>?_,?_,rfl⟩
 ·rw[List.getElem?_set_ne (by omega),List.getElem?_set_ne (by omega)];exact f0 j hj
 ·rw[List.getElem?_set_ne (by omega),List.getElem?_set_ne (by omega)];exact f4
end
end Abs
end Go.Proofs.YtgfnhpadmifiiaaDoor
end
namespace Go.Proofs.YtgfnhpadmifiiaaDoor
namespace Abs
def imS (ns:List ND) (O:List Nat) (l:List Nat):List ND:=l.map (imN ns O)
theorem Pj {O t:List Nat} {c:Int} (h:0<=c->c.toNat∈O):aY (O++t) c=aY O c:=by
 unfold aY
 split
 ·rfl
 ·rw[List.idxOf_append,if_pos (h (by omega))]
theorem Oz (ns:List ND) (f:Nat) (ord:List Nat) {r:Int} (h0:0<=r):r.toNat∈(bM ns (f+1) ord r).1:=by
 simp only[bM]
 by_cases h:r.toNat∈ord
 ·rw[if_pos (.inr h)];exact h
 ·rw[if_neg (by rintro (q|q);omega;exact h q)]
  obtain⟨t,h1,_,_⟩:=wZ (g:=bM ns f) (fun o c=>EC ns f o c) (kids ns r.toNat) (ord++[r.toNat],[],[])
  rw[h1];simp
theorem Oy (ns:List ND):∀ (f:Nat) (ord:List Nat) (r:Int),(bM ns f ord r).1=aL ns f ord r:=by
 intro f
 induction f with
 |zero=>intro ord r;rfl
 |succ f ih =>
  intro ord r
  simp only[bM,aL]
  split
  ·rfl
  ·have key:∀ (l:List Int) (s:List Nat × List Int × List ND),(l.foldl (dZ (bM ns f)) s).1=l.foldl (aL ns f) s.1:=by
    intro l
    induction l with
    |nil=>intro s;rfl
    |cons c l ih2=>intro s;rw[List.foldl_cons,List.foldl_cons,ih2,<- ih s.1 c];rfl
   exact key _ _
theorem U4 {ns:List ND} (hns:∀ i,i < ns.length->∀ c ∈ kids ns i,c < (i:Int)):∀ (f:Nat) (ord:List Nat) (r:Int),r < (f:Int)->r < (ns.length:Int)->∀ t,∃ l,(bM ns f ord r).1=ord ++ l/\(bM ns f ord r).2=imS ns ((bM ns f ord r).1 ++ t) l:=by
  intro f
  induction f with
  |zero=>intro ord r hr _ t;exact⟨[],by rw[uT _ _ _ (by omega)];simp,by rw[uT _ _ _ (by omega)];rfl⟩
  | succ f ih =>
    intro ord r hr hl t
    by_cases hc:r<0\/r.toNat∈ord
    · simp only[bM];rw[if_pos hc];exact⟨[],by simp,rfl⟩
    have hv:bM ns (f + 1) ord r=(((kids ns r.toNat).foldl (dZ (bM ns f)) (ord ++ [r.toNat],[],[])).1,
       ((ns.getD r.toNat zN).1,(ns.getD r.toNat zN).2.1,((kids ns r.toNat).foldl (dZ (bM ns f)) (ord++[r.toNat],[],[])).2.1,())::((kids ns r.toNat).foldl (dZ (bM ns f)) (ord++[r.toNat],[],[])).2.2):=by
      simp only[bM];rw[if_neg hc]
    rw[hv]
    have key:∀ (cs:List Int),(∀ c ∈ cs,c < (f:Int)/\c < (ns.length:Int))->∀ (s:List Nat × List Int × List ND) (u:List Nat),∃ l,(cs.foldl (dZ (bM ns f)) s).1=s.1 ++ l/\(cs.foldl (dZ (bM ns f)) s).2.1=s.2.1 ++ cs.map (aY ((cs.foldl (dZ (bM ns f)) s).1 ++ u))/\(cs.foldl (dZ (bM ns f)) s).2.2=s.2.2 ++ imS ns ((cs.foldl (dZ (bM ns f)) s).1 ++ u) l:=by
      intro cs
      induction cs with
      |nil=>intro _ s u;exact⟨[],by simp,by simp,by simp[imS]⟩
      | cons c cs ih2 =>
        intro hcs s u
        rw[List.foldl_cons]
        obtain⟨l2,a1,a2,a3⟩:=ih2 (fun x hx=>hcs x (by simp[hx])) (dZ (bM ns f) s c) u
        obtain⟨hcf,hcl⟩:=hcs c (by simp)
        obtain⟨l1,b1,b2⟩:=ih s.1 c hcf hcl (l2++u)
        have e1:(dZ (bM ns f) s c).1=(bM ns f s.1 c).1:=rfl
        rw[e1]at a1
        refine⟨l1++l2,by rw[a1,b1,List.append_assoc],?_,?_⟩
        · rw [a2]
          show (s.2.1++[aY (bM ns f s.1 c).1 c])++_=_
          have:aY (bM ns f s.1 c).1 c=aY ((cs.foldl (dZ (bM ns f)) (dZ (bM ns f) s c)).1 ++ u) c:=by
            rw[a1,List.append_assoc]
            refine (Pj fun h0=>?_).symm
            obtain⟨g,rfl⟩:∃ g,f=g+1:=⟨f-1,by omega⟩
            exact Oz ns g s.1 h0
          rw[this,List.map_cons];simp
        · rw [a3]
          show (s.2.2++(bM ns f s.1 c).2)++_=_
          rw[b2,a1,List.append_assoc,<- List.append_assoc ((bM ns f s.1 c).1)]
          simp[imS]
    have h0:0<=r:=by
      rcases Int.lt_or_le r 0 with q|q
      · exact absurd (.inl q) hc
      · exact q
    obtain⟨l,c1,c2,c3⟩:=key (kids ns r.toNat) (fun c hc'=>by have:=hns r.toNat (by omega) c hc';omega) (ord++[r.toNat],[],[]) t
    refine⟨r.toNat::l,?_,?_⟩
    · show _=_
      rw[c1];simp
    · show _ :: _=_
      rw[c2,c3,List.nil_append,List.nil_append]
      rfl
theorem OA {ns:List ND} (hns:∀ i,i<ns.length->∀ c∈kids ns i,c<(i:Int)) (r:Int) (hl:r<(ns.length:Int)):bM ns ns.length [] r=(aL ns ns.length [] r,gX ns (aL ns ns.length [] r)):=by
 obtain⟨l,h1,h2⟩:=U4 hns ns.length [] r hl hl []
 rw[List.nil_append]at h1
 rw[List.append_nil,<- h1]at h2
 rw[<- Oy]
 exact Prod.ext rfl h2
theorem Va {ns:List ND} (hns:∀ i,i<ns.length->∀ c∈kids ns i,c<(i:Int)):∀ (f:Nat) (r:Int) (ord:List Nat),r<(ns.length:Int)->ord.Nodup->(∀ x∈ord,x<ns.length)->(aL ns f ord r).Nodup/\∀ x∈aL ns f ord r,x<ns.length:=by
 intro f
 induction f with
 |zero=>intro r ord _ h1 h2;exact⟨h1,h2⟩
 |succ f ih =>
  intro r ord hr h1 h2
  simp only[aL]
  split
  ·exact⟨h1,h2⟩
  ·rename_i hc
   have hc0:¬ r<0:=fun q=>hc (.inl q)
   have hcm:r.toNat∉ord:=fun q=>hc (.inr q)
   have key:∀ (cs:List Int),(∀ c∈cs,c<(ns.length:Int))->∀ o:List Nat,o.Nodup->(∀ x∈o,x<ns.length)->(cs.foldl (aL ns f) o).Nodup/\∀ x∈cs.foldl (aL ns f) o,x<ns.length:=by
    intro cs
    induction cs with
    |nil=>intro _ o q1 q2;exact⟨q1,q2⟩
    |cons c cs ih2 =>
     intro hcs o q1 q2
     rw[List.foldl_cons]
     obtain⟨z1,z2⟩:=ih c o (hcs c (by simp)) q1 q2
     exact ih2 (fun x hx=>hcs x (by simp[hx])) _ z1 z2
   refine key _ (fun c hc'=>by have:=hns r.toNat (by omega) c hc';omega) _ ?_ (fun x hx=>?_)
   ·rw[List.nodup_append]
    refine⟨h1,by simp,fun a ha b hb e=>?_⟩
    obtain rfl:=List.mem_singleton.1 hb
    exact hcm (e▸ha)
   ·rcases List.mem_append.1 hx with q|q
    ·exact h2 x q
    ·obtain rfl:=List.mem_singleton.1 q;omega
theorem PO:∀ (n:Nat) (l:List Nat),l.Nodup->(∀ x∈l,x<n)->l.length<=n:=by
 intro n
 induction n with
 |zero =>
  intro l _ h
  cases l with
  |nil=>simp
  |cons x l=>exact absurd (h x (by simp)) (by omega)
 |succ n ih =>
  intro l hd h
  have h1:=ih (l.erase n) (hd.erase n) (fun x hx=>by
   have:=h x (List.mem_of_mem_erase hx)
   have:x≠n:=fun e=>by
    subst e
    exact (List.Nodup.mem_erase_iff hd).1 hx |>.1 rfl
   omega)
  have:=List.length_erase (a:=n) (l:=l)
  split at this<;>omega
def tN:Ty:=.tup [.int .i64,.list (.int .i64),.list (.int .i64)]
def obD:List SO:=[.box 107 [.d (.list tN),.d (.list tN),.d (.int .i64),.mp 1,.row 2,.mp 3],.map 102 (.tup [.int .i64,.int .i64]) (.int .i64),.row 70 tN false,.map 103 .str (.int .i64)]
def BU:Sh:=⟨2,[(1,.int .i64)],[(0,.ptr 0 0 4)],obD⟩
def a3q:Sh:=⟨1,[(0,.tup [.list tN,.int .i64])],[],obD⟩
def TR (ns:List ND) (r:Int):Prop:=ns.length<=1000000/\-1000000000<=r/\r<(ns.length:Int)/\(∀ i,i<ns.length->∀ c∈kids ns i,-1000000000<=c/\c<(i:Int))/\∀ x∈ns,(x.2.1≠[]/\x.2.1.length<=2000000001)/\x.2.2.1≠[]/\x.2.2.1.length<=2000000001
open Classical in
noncomputable def FD (r:Int) (a b:List ND) (op:Int) (me:List ((Int×Int×Unit)×Int×Unit)) (ns:List ND) (ix:List (ByteArray×Int×Unit)):Option ((List ND×Int×Unit)×List ND×List ND×Int×List ((Int×Int×Unit)×Int×Unit)×List ND×List (ByteArray×Int×Unit)×Unit) :=
 if TR ns r then some ((gX ns (aL ns ns.length [] r),aY (aL ns ns.length [] r) r,()),a,b,op,me,ns,ix,()) else none
noncomputable def YX:HI:=⟨68,BU,a3q,fun x=>FD x.1 x.2.1 x.2.2.1 x.2.2.2.1 x.2.2.2.2.1 x.2.2.2.2.2.1 x.2.2.2.2.2.2.1,[]⟩
theorem X6 {us:List AV} {xs:List Int} (h:aI Wp us (xs.map (Ty.enc (.int .i64)))):us=xs.map e64:=by
 have:=xJ (k:=.i64) h (List.all_eq_true.2 fun a ha=>by obtain⟨z,_,rfl⟩:=List.mem_map.1 ha;rfl)
 rw[this];rfl
theorem TY {a:AV} {x:ND} (h:Wp a (Ty.enc tN x)) (h1:x.2.1≠[]) (h2:x.2.2.1≠[]):a=iq x:=by
 have h:Wp a (.agg [.v (.int .i64 x.1),.list 1 (x.2.1.map (Ty.enc (.int .i64))),.list 1 (x.2.2.1.map (Ty.enc (.int .i64)))]):=h
 obtain⟨xs,rfl,hx⟩:=h.dD
 obtain⟨a1,r1,rfl,w1,t1⟩:=hx.cons_right
 obtain⟨a2,r2,rfl,w2,t2⟩:=t1.cons_right
 obtain⟨a3,r3,rfl,w3,t3⟩:=t2.cons_right
 obtain rfl:=t3.nK
 rw[w1.aS]
 have ls:∀ {b:AV} {zs:List Int},Wp b (.list 1 (zs.map (Ty.enc (.int .i64))))->zs≠[]->b=.list 1 (zs.map e64):=fun w hz=>by
  rcases w.fM with ⟨_,q⟩|⟨ys,rfl,q⟩
  ·exact absurd (List.map_eq_nil_iff.1 q) hz
  ·rw[X6 q]
 rw[ls w2 h1,ls w3 h2];rfl
def KQ (x:ND):AV:=Ty.enc tN x
theorem Ot {us:List AV} {ns:List ND} (h:aI Wp us (ns.map KQ)) (hn:∀ x∈ns,x.2.1≠[]/\x.2.2.1≠[]):us=ns.map iq:=by
 apply List.ext_getElem?
 intro i
 rcases Nat.lt_or_ge i ns.length with q|q
 ·have hl:us.length=ns.length:=by have:=h.1;simpa using this
  have e1:=List.getElem?_eq_getElem (l:=us) (i:=i) (by omega)
  have e2:(ns.map KQ)[i]?=some (KQ ns[i]):=by rw[List.getElem?_map,List.getElem?_eq_getElem q];rfl
  have w:=h.2 i _ _ e1 e2
  obtain⟨q1,q2⟩:=hn _ (List.getElem_mem q)
  rw[e1,List.getElem?_map,List.getElem?_eq_getElem q,TY w q1 q2];rfl
 ·have hl:us.length=ns.length:=by have:=h.1;simpa using this
  rw[List.getElem?_eq_none (by omega),List.getElem?_eq_none (by rw[List.length_map];omega)]
theorem Q8 {h':List ah} {n0:Nat} {out:List ND} {rt:Int} (g4:h'[n0]?=some ⟨70,3,0,true,out.map iq⟩):bK h' (.agg [.row n0 out.length 3 0 out.length,.v (.int .i64 rt)])=some (.agg [.list 3 (out.map iq),.v (.int .i64 rt)]):=by
 simp only[bK,bL,bO,g4,Option.map_some,List.length_map,List.drop_zero,Value.oneCell',true_and,and_self,if_true,reduceIte]
 rw[List.take_of_length_le (by simp)]
theorem BZ {H h':List ah} {n0:Nat} {out:List ND} {rt:Int} (g4:h'[n0]?=some ⟨70,3,0,true,out.map iq⟩) (g1:H.length<=n0) (g2:H.length<=h'.length) (g3:∀ j,j<H.length->h'[j]?=H[j]?):H.length<=(freeze h' (aT (.agg [.row n0 out.length 3 0 out.length,.v (.int .i64 rt)]))).length/\∀ j,j<H.length->(freeze h' (aT (.agg [.row n0 out.length 3 0 out.length,.v (.int .i64 rt)])))[j]?=H[j]?:=by
 simp only[aT,List.flatMap_cons,List.flatMap_nil,bR,List.append_nil,freeze,List.foldl_cons,List.foldl_nil,g4]
 refine⟨by rw[List.length_set];exact g2,fun j hj=>?_⟩
 rw[List.getElem?_set_ne (by omega)]
 exact g3 j hj
theorem XR {GX:GXT}:HOk Tryd.prog (gx GX) YX:=by
 refine⟨by kernel_rfl,fun x y hy H ρ av hS=>?_⟩
 obtain⟨r,a,b,op,me,ns,ix,⟨⟩⟩:=x
 have hy:FD r a b op me ns ix=some y:=hy
 unfold FD at hy
 split at hy
 case isFalse=>cases hy
 rename_i hD
 obtain rfl:=Option.some.inj hy
 obtain⟨d1,d2,d3,d4,d5⟩:=hD
 have hS:Sim ρ (emb BU (r,a,b,op,me,ns,ix,())) ⟨av,H⟩:=hS
 have ht:aI (VT ρ (emb BU (r,a,b,op,me,ns,ix,())).h) [.ptr 0 0 4,.d (.int .i64) r] av:=hS.t
 obtain⟨a0,av1,rfl,w0,t1⟩:=ht.dW
 obtain⟨a1,av2,rfl,w1,t2⟩:=t1.dW
 obtain rfl:=t2.iy
 obtain⟨o,ho,rfl⟩:∃ o:XO,(emb BU (r,a,b,op,me,ns,ix,())).h[0]?=some o/\a0=.ptr (ρ.getD 0 0) o.len 0 4:=w0
 have h0:(emb BU (r,a,b,op,me,ns,ix,())).h[0]?=some (.box 107 [.d (.list tN) a,.d (.list tN) b,.d (.int .i64) op,.mp 1,.row 2,.mp 3]):=rfl
 have h2:(emb BU (r,a,b,op,me,ns,ix,())).h[2]?=some (.row 70 tN false ns):=rfl
 rw[h0]at ho
 obtain rfl:=Option.some.inj ho
 obtain rfl:a1=.v (.int .i64 r):=Wp.aS w1
 obtain⟨O0,hO0,b1,b2,b3,b4,e,hes,hc⟩:=hS.h.hr 0 _ h0
 obtain⟨O2,hO2,r1,r2,r3,r4,r5⟩:=hS.h.hr 2 _ h2
 have r5:aI Wp O2.es (ns.map KQ):=r5
 have hnd:=Ot r5 fun x hx=>⟨(d5 x hx).1.1,(d5 x hx).2.1⟩
 obtain⟨c0,cr,hcs,v0,hc1⟩:=hc.dW
 obtain⟨c1,cr1,rfl,v1,hc2⟩:=hc1.dW
 obtain⟨c2,cr2,rfl,v2,hc3⟩:=hc2.dW
 obtain⟨c3,cr3,rfl,v3,hc4⟩:=hc3.dW
 obtain⟨c4,cr4,rfl,v4,hc5⟩:=hc4.dW
 obtain⟨c5,cr5,rfl,v5,hc6⟩:=hc5.dW
 obtain rfl:=hc6.iy
 have hagg:e=.agg [c0,c1,c2,c3,c4,c5]:=by
  cases e with
  |agg l=>exact congrArg AV.agg hcs
  |_=>simp[AV.cells]at hcs
 subst hagg
 obtain⟨ty,T,fz,es,he1,rfl⟩:=v4
 rw[h2]at he1
 cases he1
 have a05:H[ρ.getD 0 0]?=some ⟨107,6,0,false,[.agg [c0,c1,c2,c3,.row (ρ.getD 2 0) ns.length 3 0 ns.length,c5]]⟩:=by
  rw[hO0]
  obtain⟨q1,q2,q3,q4,q5⟩:=O0
  have b1:q1=107:=b1
  have b2:q2=6:=b2
  have b3:q4=false:=b3
  have b4:q3=0:=b4
  have hes:q5=_:=hes
  subst b1 b2 b3 b4 hes
  rfl
 have a04:H[ρ.getD 2 0]?=some ⟨70,3,0,true,ns.map iq⟩:=by
  rw[hO2]
  obtain⟨q1,q2,q3,q4,q5⟩:=O2
  have r1:q1=70:=r1
  have r2:q2=3:=r2
  have r3:q4=true:=r3
  have r4:q3=0:=r4
  have hnd:q5=_:=hnd
  subst r1 r2 r3 r4 hnd
  rfl
 have d4':∀ i,i<ns.length->∀ c∈kids ns i,c<(i:Int):=fun i hi c hc=>(d4 i hi c hc).2
 have YA:=OA d4' r d3
 have hnl:=Va d4' ns.length r [] d3 List.nodup_nil (fun x hx=>by cases hx)
 have hbd:=PO _ _ hnl.1 hnl.2
 have hC:=a15 (Gl:=gx GX) (h:=H) d4 (fun x hx=>⟨(d5 x hx).1.2,(d5 x hx).2.2⟩) d1 a05 a04 d2 d3 (by rw[YA];show (aL ns ns.length [] r).length<=_;omega)
 rw[YA]at hC
 refine fP.kz hC ?_
 rintro res h' ⟨n0,g1,g2,g3,g4,rfl⟩
 dsimp only at g4 ⊢
 have hk:=Q8 (rt:=aY (aL ns ns.length [] r) r) g4
 refine⟨_,hk,ρ,[_],⟨?_,?_⟩,rfl,?_⟩
 ·refine .cons ?_ .nil
  exact Wp.refl _
 ·have hfz:=(BZ (rt:=aY (aL ns ns.length [] r) r) g4 g1 g2 g3).2
  refine⟨hS.h.rl,hS.h.nd,fun i o ho=>?_⟩
  obtain⟨O,hO,hob⟩:=hS.h.hr i o ho
  refine⟨O,?_,hob⟩
  rw[<- hO]
  exact hfz _ (List.getElem?_eq_some_iff.1 hO).1
 ·exact⟨⟨[],by simp,by simp⟩,(BZ (rt:=aY (aL ns ns.length [] r) r) g4 g1 g2 g3).1,fun j hj _=>(BZ (rt:=aY (aL ns ns.length [] r) r) g4 g1 g2 g3).2 j hj⟩
end Abs
end Go.Proofs.YtgfnhpadmifiiaaDoor
