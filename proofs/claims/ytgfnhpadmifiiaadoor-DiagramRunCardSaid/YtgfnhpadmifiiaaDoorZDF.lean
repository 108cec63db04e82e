/- Merged and trimmed by a program: Shelf DK DQ DC DR DH DG DI DJ DS. -/
import Derived.Test.YtgfnhpadmifiiaaDoorZDE
import Derived.Shelf.Strconv.Itoa0
import Derived.Shelf.Strconv.Itoa1
import Derived.Shelf.LaysM
import Derived.Shelf.Strconv.Itoa2
import Derived.Shelf.Strconv.AppendUint10
import Derived.Shelf.Strconv.AppendInt10
import Derived.Shelf.Strconv.AppendIntPublic10
import Derived.Test.YtgfnhpadmifiiaaDoorProg
import Derived.Lib.AppendIntMem
import Derived.Lib.LaidTab
import Derived.Lib.ItoaLen
import Derived.KernelRfl
import Derived.WalkSmall
import Derived.Deep.AppendLies
import Derived.Maps.Range
import Derived.Laws.BytesArg
set_option linter.unusedVariables false
set_option linter.unusedSimpArgs false
set_option linter.defProp false
section
namespace Go.Proofs
open Go.Shelf
def Tryd.laysM176_ren:Go.Shelf.Ren:=⟨fun|176=>83|249=>98|288=>105|283=>108|284=>109|285=>110|286=>111|129=>113|317=>112|318=>114|319=>115|320=>116|337=>117|338=>118|n=>n,fun|37=>118|2=>2|3=>3|53=>130|4=>4|9=>9|171=>134|0=>0|173=>137|212=>140|51=>141|5=>5|20=>20|213=>142|46=>124|232=>145|233=>146|n=>n,fun|17=>0|18=>1|19=>2|n=>n⟩
theorem Tryd.laysM176:Go.Proofs.LaysM.n176 Tryd.prog Tryd.laysM176_ren:={
 mixed:=by kernel_rfl
 f129:=Tryd.func113.trans (congrArg some (by kernel_rfl))
 f176:=Tryd.func83.trans (congrArg some (by kernel_rfl))
 f249:=Tryd.func98.trans (congrArg some (by kernel_rfl))
 f283:=Tryd.func108.trans (congrArg some (by kernel_rfl))
 f284:=Tryd.func109.trans (congrArg some (by kernel_rfl))
 f285:=Tryd.func110.trans (congrArg some (by kernel_rfl))
 f286:=Tryd.func111.trans (congrArg some (by kernel_rfl))
 f288:=Tryd.func105.trans (congrArg some (by kernel_rfl))
 f317:=Tryd.func112.trans (congrArg some (by kernel_rfl))
 f318:=Tryd.func114.trans (congrArg some (by kernel_rfl))
 f319:=Tryd.func115.trans (congrArg some (by kernel_rfl))
 f320:=Tryd.func116.trans (congrArg some (by kernel_rfl))
 f337:=Tryd.func117.trans (congrArg some (by kernel_rfl))
 f338:=Tryd.func118.trans (congrArg some (by kernel_rfl))
 t0:=Tryd.underlying0
 a0:=Tryd.isAgg0
 z0:=Tryd.sizeOf0
 v0:=Tryd.zeroValue0
 t2:=Tryd.underlying2
 a2:=Tryd.isAgg2
 z2:=Tryd.sizeOf2
 v2:=Tryd.zeroValue2
 t3:=Tryd.underlying3
 a3:=Tryd.isAgg3
 z3:=Tryd.sizeOf3
 v3:=Tryd.zeroValue3
 t4:=Tryd.underlying4
 a4:=Tryd.isAgg4
 z4:=Tryd.sizeOf4
 v4:=Tryd.zeroValue4
 t5:=Tryd.underlying5
 a5:=Tryd.isAgg5
 z5:=Tryd.sizeOf5
 v5:=Tryd.zeroValue5
 t9:=Tryd.underlying9
 a9:=Tryd.isAgg9
 z9:=Tryd.sizeOf9
 v9:=Tryd.zeroValue9
 t20:=Tryd.underlying20
 a20:=Tryd.isAgg20
 z20:=Tryd.sizeOf20
 v20:=Tryd.zeroValue20
 t37:=Tryd.underlying118
 a37:=Tryd.isAgg118
 z37:=Tryd.sizeOf118
 v37:=Tryd.zeroValue118
 t46:=Tryd.underlying124
 a46:=Tryd.isAgg124
 z46:=Tryd.sizeOf124
 v46:=Tryd.zeroValue124
 t51:=Tryd.underlying141
 a51:=Tryd.isAgg141
 z51:=Tryd.sizeOf141
 v51:=Tryd.zeroValue141
 t53:=Tryd.underlying130
 a53:=Tryd.isAgg130
 z53:=Tryd.sizeOf130
 v53:=Tryd.zeroValue130
 t171:=Tryd.underlying134
 a171:=Tryd.isAgg134
 z171:=Tryd.sizeOf134
 v171:=Tryd.zeroValue134
 t173:=Tryd.underlying137
 a173:=Tryd.isAgg137
 z173:=Tryd.sizeOf137
 v173:=Tryd.zeroValue137
 t212:=Tryd.underlying140
 a212:=Tryd.isAgg140
 z212:=Tryd.sizeOf140
 v212:=Tryd.zeroValue140
 t213:=Tryd.underlying142
 a213:=Tryd.isAgg142
 z213:=Tryd.sizeOf142
 t232:=Tryd.underlying145
 a232:=Tryd.isAgg145
 z232:=Tryd.sizeOf145
 v232:=Tryd.zeroValue145
 t233:=Tryd.underlying146
 a233:=Tryd.isAgg146
 z233:=Tryd.sizeOf146
 v233:=Tryd.zeroValue146
 g17:=by kernel_rfl
 g18:=by kernel_rfl
 g19:=by kernel_rfl
 i0:=by kernel_rfl
 i2:=by kernel_rfl
 i3:=by kernel_rfl
 i4:=by kernel_rfl
 i5:=by kernel_rfl
 i9:=by kernel_rfl
 i20:=by kernel_rfl
 i37:=by kernel_rfl
 i46:=by kernel_rfl
 i51:=by kernel_rfl
 i53:=by kernel_rfl
 i171:=by kernel_rfl
 i173:=by kernel_rfl
 i212:=by kernel_rfl
 i232:=by kernel_rfl
 i233:=by kernel_rfl
 m17:=by kernel_rfl
 m18:=by kernel_rfl
 m19:=by kernel_rfl }
open Go.RowKit Go.Sort Go.Lib in
theorem Tryd.strconv_AppendInt_10(B n:Nat)(i:Int)(h0:-9223372036854775808<=i)(h1:i<=9223372036854775807)(sv:Value)(xs:List Value)(w:World)(hown:w.ownsRow B 5 1 sv n xs)(hBw:B<=w.heap.size)(hlim:n+21<=140737488355328) (htab:Lib.TabBelow Tryd.prog B w "internal/strconv.uint64pow10" .u64 Lib.pow10Tab) :
  Calls Tryd.prog 83 #[sv,.int .i64 i,.int .i64 10] w λe w'=>∃v',e=.returned v'/\w'.ownsRow B 5 1 v' (n+(Lib.itoa i).length) (xs++Lib.byteCells (Lib.itoa i))/\Below B w w'/\Lib.OthersKept 5 none w w':=Any.strconv_AppendInt_10 Tryd.laysM176 B n i h0 h1 sv xs w hown hBw hlim htab
end Go.Proofs
end
namespace Go.Proofs.YtgfnhpadmifiiaaDoor
namespace Abs
noncomputable section
section
open Go.RowKit
def xE(a:Int)(cs ns:List Int):List UInt8:=Lib.itoa a++(cs.flatMap λc=>44::Lib.itoa c)++59::(ns.flatMap λc=>44::Lib.itoa c)
def Bq(n:Int):Bool:=decide (-9223372036854775808<=n/\n<=9223372036854775807)
def SlI(w:World)(v:Value)(cs:List Int):Prop:=∃ao cap,v=.slice ao cs.length cap/\∀k (hk:k<cs.length),∃ad,ao=some ad/\w.cell? (ad.add k)=some (.int .i64 cs[k])
def fl(cs:List Int):List UInt8:=cs.flatMap λc=>44::Lib.itoa c
theorem OD(cs:List Int)(k:Nat)(hk:k<cs.length):fl (cs.take (k+1))=fl (cs.take k)++44::Lib.itoa cs[k]:=by
 unfold fl
 rw[cK hk,List.flatMap_append];simp
theorem U0:∀(cs:List Int),(∀c∈cs,Bq c=true)->(fl cs).length<=22*cs.length:=by
 intro cs
 induction cs with
 |nil=>intro _;simp[fl]
 |cons c cs ih =>
  intro h
  have h1:=bW (h c (by simp))
  have h2:=Lib.itoa_length_le c h1.1 h1.2
  have h3:=ih (λx hx=>h x (by simp[hx]))
  have:fl (c::cs)=44::Lib.itoa c++fl cs:=by simp[fl]
  rw[this,aB,bF,bF];omega
theorem a6M:(Tryd.prog.info? 5).map (λi=>(i.zero,i.size,i.bytes))=some (some (.int .u8 0),1,1):=by kernel_rfl
theorem Ro(Y:List UInt8):strOfNums (Y.map fun(b:UInt8)=>(b.toNat:Int))=⟨Y.toArray⟩:=by
 have h:(Y.map fun(b:UInt8)=>(b.toNat:Int)).map (λn=>UInt8.ofNat n.toNat)=Y:=by
  induction Y with
  |nil=>rfl
  |cons b Y ih =>
   rw[dw,dw,ih,bH,UInt8.ofNat_toNat]
 unfold strOfNums
 rw[h]
set_option maxHeartbeats 4000000 in
set_option maxRecDepth 100000 in
theorem a1x (a:Int) (cs ns:List Int) (w0:World) (cv nv:Value) (hc:SlI w0 cv cs) (hn:SlI w0 nv ns) (ha:-9223372036854775808<=a/\a<=9223372036854775807) (hcs:∀ c ∈ cs,Bq c=true) (hns:∀ c ∈ ns,Bq c=true) (hl:cs.length + ns.length<=1099511627776)
  (htab:Lib.TabIs Tryd.prog w0 "internal/strconv.uint64pow10" .u64 Lib.pow10Tab):Calls Tryd.prog 61 #[.int .i64 a,cv,nv] w0 λe w'=>e=.returned (.string ⟨(xE a cs ns).toArray⟩)/\Below w0.heap.size w0 w':=by
 obtain⟨co,b0l,rfl,hcc⟩:=hc
 obtain⟨no,b0c,rfl,hnc⟩:=hn
 obtain⟨i0,hI,hI0,hI1,hI2⟩:=info_parts a6M
 have HCC:=Lib.hid hcc
 have HNC:=Lib.hid hnc
 have HCS:=Lib.hid hcs
 have HNS:=Lib.hid hns
 have HT:=Lib.hid htab
 have hA:=Lib.itoa_length_le a ha.1 ha.2
 have hF1:=λk=>U0 (cs.take k) (λc hc=>hcs c (nk hc))
 have hF2:=λk=>U0 (ns.take k) (λc hc=>hns c (nk hc))
 have HF1:=Lib.hid hF1
 have HF2:=Lib.hid hF2
 clear hcc hnc hcs hns htab hF1 hF2
 go_enter Tryd.func61,Tryd.ntmps61
 go_wp2_with fail
 refine(Tryd.strconv_AppendInt_10 w0.heap.size 0 a ha.1 ha.2 (.slice none 0 0) [] w0 (World.ownsRow_nil _ _ _ _) (bM _) (by omega) (Lib.tabBelow_of_tabIs HT.out)).mono ?_
 rintro e w1 ⟨v1,rfl,hown1,hb1,_⟩
 have HO1:=Lib.hid hown1
 have HB1:=Lib.hid hb1
 have hs1:=hb1.size
 clear hown1 hb1
 go_wp2
 go_loopw [7,16] (λv i wr=>∃k:Nat,k<=cs.length/\i=.int .i64 (k:Int)/\Hid (wr.ownsRow w0.heap.size 5 1 v (Lib.itoa a++fl (cs.take k)).length (Lib.byteCells (Lib.itoa a++fl (cs.take k))))/\Hid (Below w0.heap.size w0 wr)/\w0.heap.size<=wr.heap.size) (λ_ i _=>cs.length-(intOf i).toNat)
 case atStart=>exact⟨0,by omega,rfl,by simpa[fl,Lib.hid]using HO1,HB1,hs1⟩
 case round =>
  obtain⟨k,hk,rfl,HO,HB,hsr⟩:=hrel
  have hFk:=HF1.out k
  have hlen:(Lib.itoa a++fl (cs.take k)).length=(Lib.itoa a).length+(fl (cs.take k)).length:=aB
  have htk:(cs.take k).length=k:=by rw[bL];omega
  rw[htk]at hFk
  by_cases hlt:k<cs.length
  .obtain⟨ad,rfl,hcell⟩:=HCC.out k hlt
   have q1:decide ((k:Int)<(cs.length:Int))=true:=fH (by omega)
   have hcr:wr.cell? (ad.add k)=some (.int .i64 cs[k]):=by
    have hbk:=World.block_lt_of_cell? w0 (ad.add k) hcell
    rw[World.cell?_of_block (w:=w0) (HB.out.block _ hbk)]
    exact hcell
   have hri:=bW (HCS.out cs[k] (aV hlt))
   have hit:=Lib.itoa_length_le cs[k] hri.1 hri.2
   have HRI:=Lib.hid hri
   have esn:=OD cs k hlt
   generalize hck:cs[k]=c at hcr hri hit HRI esn
   have ESN:=Lib.hid esn
   clear hcell esn hri
   have HXE:=Lib.hid (show Lib.itoa a++fl (cs.take (k+1))=(Lib.itoa a++fl (cs.take k))++44::Lib.itoa c by rw[ESN.out];simp only[bq])
   generalize hX:Lib.itoa a++fl (cs.take k)=X at HO hlen HXE
   clear hX
   have HLT:=Lib.hid (λg hg=>(HO.out.lt g hg).1)
   go_wp2_with (first|(at_builtin;refine wpList_append_own _ rfl _ _ 118 rfl w0.heap.size 5 i0 (.int .u8 0) 1 1 Tryd.underlying118 hI hI0 hI1 hI2 rfl (by decide) _ _ _ rfl (HO.out.alloc _) ⟨wr.heap.size,0,none⟩ 1 1 [.int .u8 44] rfl rfl (by intro j u' hj;match j,hj with|0,hj=>simp at hj;subst hj;simp[Addr.add]) (by intro u' hu';simp at hu';subst hu';rfl) (by unfold maxLen;omega) (by omega) (by simp;omega) ?_;intro v' w3 hown' hgrow3 hnil3))
   have HO3:=Lib.hid hown'
   have hs3:wr.heap.size<=w3.heap.size:=by have:=hgrow3.size;simp at this;omega
   have HB3:=Lib.hid (Below.grown (HB.out.alloc (by omega) _) hgrow3 (by simp;omega) (λj hj=>HLT.out j hj))
   clear hown' hgrow3 hnil3
   go_wp2_with fail
   refine(Tryd.strconv_AppendInt_10 w0.heap.size (X.length+1) c HRI.out.1 HRI.out.2 v' _ w3 HO3.out (by omega) (by omega) ((Lib.tabBelow_of_tabIs HT.out).on HB3.out)).mono ?_
   rintro e w4 ⟨v4,rfl,GD,hb4,_⟩
   have HO4:=Lib.hid GD
   have hs4:=hb4.size
   have HB4:=Lib.hid (HB3.out.trans hb4)
   clear GD hb4
   go_wp2
   go_roundw
   case rel =>
    refine⟨k+1,by omega,by go_num,?_,HB4,by omega⟩
    have e1:Lib.byteCells (X++44::Lib.itoa c)=Lib.byteCells X++[.int .u8 44]++Lib.byteCells (Lib.itoa c):=by simp[Lib.byteCells]
    have e2:(X++44::Lib.itoa c).length=X.length+1+(Lib.itoa c).length:=by rw[aB,bF];omega
    rw[HXE.out,e1,e2]
    exact HO4
   case measure=>simp[intOf];omega
  .have q1:decide ((k:Int)<(cs.length:Int))=false:=iK (by omega)
   obtain rfl:k=cs.length:=by omega
   rw[eY]at HO
   have hFk:=HF1.out cs.length
   rw[eY]at hFk hlen
   clear htk
   generalize hX:Lib.itoa a++fl cs=X at HO hlen
   have HX:=Lib.hid hX
   clear hX
   have HLT:=Lib.hid (λg hg=>(HO.out.lt g hg).1)
   go_wp2_with (first|(at_builtin;refine wpList_append_own _ rfl _ _ 118 rfl w0.heap.size 5 i0 (.int .u8 0) 1 1 Tryd.underlying118 hI hI0 hI1 hI2 rfl (by decide) _ _ _ rfl (HO.out.alloc _) ⟨wr.heap.size,0,none⟩ 1 1 [.int .u8 59] rfl rfl (by intro j u' hj;match j,hj with|0,hj=>simp at hj;subst hj;simp[Addr.add]) (by intro u' hu';simp at hu';subst hu';rfl) (by unfold maxLen;omega) (by omega) (by simp;omega) ?_;intro v' w3 hown' hgrow3 hnil3))
   have HO3:=Lib.hid hown'
   have hs3:wr.heap.size<=w3.heap.size:=by have:=hgrow3.size;simp at this;omega
   have HB3:=Lib.hid (Below.grown (HB.out.alloc (by omega) _) hgrow3 (by simp;omega) (λj hj=>HLT.out j hj))
   clear hown' hgrow3 hnil3
   go_wp2
   have hpl:(Lib.itoa a++fl cs++[59]).length=X.length+1:=by rw[HX.out,aB];rfl
   go_loopw [7,31] (λv i wr=>∃k:Nat,k<=ns.length/\i=.int .i64 (k:Int)/\Hid (wr.ownsRow w0.heap.size 5 1 v (Lib.itoa a++fl cs++[59]++fl (ns.take k)).length (Lib.byteCells (Lib.itoa a++fl cs++[59]++fl (ns.take k))))/\Hid (Below w0.heap.size w0 wr)/\w0.heap.size<=wr.heap.size) (λ_ i _=>ns.length-(intOf i).toNat)
   case atStart =>
    refine⟨0,by omega,rfl,?_,HB3,by omega⟩
    have e1:Lib.byteCells (X++[59])=Lib.byteCells X++[.int .u8 59]:=by simp[Lib.byteCells]
    have e2:(X++[59]).length=X.length+1:=by rw[aB];rfl
    have e3:Lib.itoa a++fl cs++[59]++fl (ns.take 0)=X++[59]:=by rw[HX.out];simp[fl]
    rw[e3,e1,e2]
    exact HO3
   case round =>
    obtain⟨k,hk,rfl,HO,HB,hsr⟩:=hrel
    have hFk:=HF2.out k
    have hlen:(Lib.itoa a++fl cs++[59]++fl (ns.take k)).length=(Lib.itoa a++fl cs++[59]).length+(fl (ns.take k)).length:=aB
    have htk:(ns.take k).length=k:=by rw[bL];omega
    rw[htk]at hFk
    by_cases hlt:k<ns.length
    .obtain⟨ad,rfl,hcell⟩:=HNC.out k hlt
     have q1:decide ((k:Int)<(ns.length:Int))=true:=fH (by omega)
     have hcr:wr.cell? (ad.add k)=some (.int .i64 ns[k]):=by
      have hbk:=World.block_lt_of_cell? w0 (ad.add k) hcell
      rw[World.cell?_of_block (w:=w0) (HB.out.block _ hbk)]
      exact hcell
     have hri:=bW (HNS.out ns[k] (aV hlt))
     have hit:=Lib.itoa_length_le ns[k] hri.1 hri.2
     have HRI:=Lib.hid hri
     have esn:=OD ns k hlt
     generalize hck:ns[k]=c at hcr hri hit HRI esn
     have ESN:=Lib.hid esn
     clear hcell esn hri
     have HXE:=Lib.hid (show Lib.itoa a++fl cs++[59]++fl (ns.take (k+1))=(Lib.itoa a++fl cs++[59]++fl (ns.take k))++44::Lib.itoa c by rw[ESN.out];simp only[bq])
     generalize hX:Lib.itoa a++fl cs++[59]++fl (ns.take k)=X at HO hlen HXE
     clear hX
     have HLT:=Lib.hid (λg hg=>(HO.out.lt g hg).1)
     go_wp2_with (first|(at_builtin;refine wpList_append_own _ rfl _ _ 118 rfl w0.heap.size 5 i0 (.int .u8 0) 1 1 Tryd.underlying118 hI hI0 hI1 hI2 rfl (by decide) _ _ _ rfl (HO.out.alloc _) ⟨wr.heap.size,0,none⟩ 1 1 [.int .u8 44] rfl rfl (by intro j u' hj;match j,hj with|0,hj=>simp at hj;subst hj;simp[Addr.add]) (by intro u' hu';simp at hu';subst hu';rfl) (by unfold maxLen;omega) (by omega) (by simp;omega) ?_;intro v' w3 hown' hgrow3 hnil3))
     have HO3:=Lib.hid hown'
     have hs3:wr.heap.size<=w3.heap.size:=by have:=hgrow3.size;simp at this;omega
     have HB3:=Lib.hid (Below.grown (HB.out.alloc (by omega) _) hgrow3 (by simp;omega) (λj hj=>HLT.out j hj))
     clear hown' hgrow3 hnil3
     go_wp2_with fail
     refine(Tryd.strconv_AppendInt_10 w0.heap.size (X.length+1) c HRI.out.1 HRI.out.2 v' _ w3 HO3.out (by omega) (by omega) ((Lib.tabBelow_of_tabIs HT.out).on HB3.out)).mono ?_
     rintro e w4 ⟨v4,rfl,GD,hb4,_⟩
     have HO4:=Lib.hid GD
     have hs4:=hb4.size
     have HB4:=Lib.hid (HB3.out.trans hb4)
     clear GD hb4
     go_wp2
     go_roundw
     case rel =>
      refine⟨k+1,by omega,by go_num,?_,HB4,by omega⟩
      have e1:Lib.byteCells (X++44::Lib.itoa c)=Lib.byteCells X++[.int .u8 44]++Lib.byteCells (Lib.itoa c):=by simp[Lib.byteCells]
      have e2:(X++44::Lib.itoa c).length=X.length+1+(Lib.itoa c).length:=by rw[aB,bF];omega
      rw[HXE.out,e1,e2]
      exact HO4
     case measure=>simp[intOf];omega
    .have q1:decide ((k:Int)<(ns.length:Int))=false:=iK (by omega)
     obtain rfl:k=ns.length:=by omega
     rw[eY]at HO
     have hFk:=HF2.out ns.length
     rw[eY]at hFk hlen
     clear htk
     have a5v:=Lib.hid (show xE a cs ns=(Lib.itoa a++fl cs++[59])++fl ns by simp[xE,fl])
     obtain⟨g,cap,hv,hgs⟩:∃g cap,u7=.slice (some ⟨g,0,none⟩) (Lib.itoa a++fl cs++[59]++fl ns).length cap/\(∀i,i<(Lib.itoa a++fl cs++[59]++fl ns).length->wr.cell? ⟨g,0+i,none⟩=some (.int .u8 (((Lib.itoa a++fl cs++[59]++fl ns).map fun(b:UInt8)=>(b.toNat:Int)).getD i 0))):=by
      have h0:0<(Lib.itoa a++fl cs++[59]++fl ns).length:=by simp only[aB,bF,cZ];omega
      obtain⟨hxl,hx|⟨g,cap,cur,hv,_⟩⟩:=HO.out
      .exfalso
       have:=hx.2
       simp at this
      refine⟨g,cap,hv,λi hi=>?_⟩
      have hca:=World.ownsRow.cellAt (h:=(hv▸HO.out)) i (by omega)
      rw[dR,hca]
      unfold Lib.byteCells
      rw[aQ,ah hi,aM,aQ,ah hi]
      rfl
     generalize hY:Lib.itoa a++fl cs++[59]++fl ns=Y at hv hgs a5v
     have HBE:=Lib.hid HB.out
     clear hY HO
     subst hv
     have b0b:=run_convert_bytes_arg (P:=Tryd.prog) wr 118 5 Tryd.underlying118 Tryd.underlying5 g 0 _ cap (Y.map fun(b:UInt8)=>(b.toNat:Int)) (by simp) hgs 9 Tryd.underlying9
     go_wp2
     first|go_ret|go_ret2
     refine⟨?_,HBE.out⟩
     rw[a5v.out,Ro];rfl
theorem a0U {P:Program} {F:Addr->Option Value} {w:World} {f:Nat} {xs:Array Value} {v:Value} {res:AV} (hF:∀ a x,F a=some x->w.cell? a=some x) (hR:RP F v res) (h:Calls P f xs w fun e w'=>e=.returned v/\Below w.heap.size w w') :
  Calls P f xs w λe w'=>∃v F',e=.returned v/\(∀ad y,F ad=some y->F' ad=some y)/\(∀ad y,F' ad=some y->w'.cell? ad=some y)/\(∀ad y,F' ad=some y->F ad=some y\/w.heap.size<=ad.block)/\RP F' v res/\Below w.heap.size w w':=by
 refine h.mono ?_
 rintro e w' ⟨rfl,hb⟩
 refine⟨v,F,rfl,λ_ _ q=>q,λad y q=>?_,λ_ _ q=>.inl q,hR,hb⟩
 rw[World.cell?_of_block (w:=w) (hb.block _ (World.block_lt_of_cell? w ad (hF ad y q)))]
 exact hF ad y q
theorem a2Q{P:Program}{Gl:Nat->Option (List AV)}{F:Addr->Option Value}{w:World}{g B:Nat}{k:IntKind}{zs:List Int}{name:String}(hF:∀a x,F a=some x->w.cell? a=some x)(hG:Nl Gl F)(hW:GlW Gl B w)(hg:Gl g=some (zs.map λz=>.v (.int k z)))(hn:P.globalNamed name=some g):Lib.TabIs P w name k zs:=by
 obtain⟨_,vs,ty,fr,h1,h2⟩:=hW g _ hg
 unfold Lib.TabIs World.var?
 rw[hn]
 simp only[ku,h1]
 congr 1
 apply Array.ext
 .simpa using h2
 .intro j hj hj2
  have hz:j<zs.length:=by simpa using hj2
  have hr:=hG g _ hg
  cases hr with
  |kD _ _ cv c1 c2 =>
   have ha:(zs.map λz=>AV.v (.int k z))[j]?=some (.v (.int k zs[j])):=by rw[aQ,ah hz];rfl
   obtain⟨d1,_⟩:=c1 j _ ha
   have d2:=c2 j _ ha
   have e:cv j=.int k zs[j]:=by generalize cv j=q at d2;cases d2;rfl
   have e2:(Addr.add ⟨g,0,none⟩ j:Addr)=⟨g,j,none⟩:=by simp[Addr.add];intro h;exact h.symm
   rw[e,e2]at d1
   have d3:=hF _ _ d1
   rw[Lib.cell_of_heap h1,aF hj]at d3
   simpa using Option.some.inj d3
theorem Ms:Tryd.prog.globalNamed "internal/strconv.uint64pow10"=some 0:=by kernel_rfl
theorem XD{F:Addr->Option Value}{w:World}{x:Value}{cs:List Int}(hF:∀a x,F a=some x->w.cell? a=some x)(hx:RP F x (.list 1 (cs.map λz=>.v (.int .i64 z)))):SlI w x cs:=by
 generalize hz:(cs.map λz=>AV.v (.int .i64 z))=zs at hx
 cases hx with
 |nil =>
  obtain rfl:cs=[]:=wW.1 hz
  exact⟨none,0,rfl,λk hk=>by cases hk⟩
 |list ad n cap _ _ cv hn hc hsz hFc hR =>
  subst hz
  rw[bR]at hn
  subst hn
  refine⟨some ad,cap,rfl,λk hk=>⟨ad,rfl,?_⟩⟩
  have ha:(cs.map λz=>AV.v (.int .i64 z))[k]?=some (.v (.int .i64 cs[k])):=by rw[aQ,ah hk];rfl
  have d1:=(hFc k 0 _ _ ha rfl).1
  have d2:=hR k 0 _ _ ha rfl
  rw[mU,kG]at d1 d2
  have e:cv k=.int .i64 cs[k]:=by generalize cv k=q at d2;cases d2;rfl
  rw[e]at d1
  exact hF _ _ d1
def Fu(a:Int)(cs ns:List Int):Option (ByteArray×Unit):=if Bq a=true/\cs.all Bq=true/\ns.all Bq=true/\cs.length+ns.length<=1099511627776 then some (⟨(xE a cs ns).toArray⟩,()) else none
def QJ:PI:=⟨61,[.int .i64,.list (.int .i64),.list (.int .i64)],[.str],λx=>Fu x.1 x.2.1 x.2.2.1⟩
theorem a3s{GX:GXT}(hg:gx GX 0=some (Lib.pow10Tab.map λz=>.v (.int .u64 z))):POk Tryd.prog (gx GX) QJ:=by
 refine⟨by kernel_rfl,?_⟩
 rintro⟨a,cs,ns,⟨⟩⟩ y hy
 have hy:Fu a cs ns=some y:=hy
 unfold Fu at hy
 split at hy
 .rename_i hb
  cases hy
  intro w F xs hF hG hW hxs
  obtain⟨h1,h2⟩:=hxs
  have hl:xs.size=3:=h1
  have h0:=h2 0 xs[0] (.v (.int .i64 a)) (aF _) rfl
  have h3:=h2 1 xs[1] (.list 1 (cs.map λz=>.v (.int .i64 z))) (aF _) rfl
  have h4:=h2 2 xs[2] (.list 1 (ns.map λz=>.v (.int .i64 z))) (aF _) rfl
  have e0:xs[0]=.int .i64 a:=by generalize xs[0]=q at h0;cases h0;rfl
  have ex:xs=#[.int .i64 a,xs[1],xs[2]]:=by
   apply Array.ext
   .exact hl
   .intro i p q;have:i=0\/i=1\/i=2:=by omega
    rcases this with rfl|rfl|rfl
    .exact e0
    .rfl
    .rfl
  rw[ex]
  exact a0U hF (.v _) (a1x a cs ns w _ _ (XD hF h3) (XD hF h4) (by simpa[Bq]using hb.1) (λc hc=>aR.1 hb.2.1 c hc) (λc hc=>aR.1 hb.2.2.1 c hc) hb.2.2.2 (a2Q hF hG hW hg Ms))
 .cases hy
end
abbrev ND:Type:=Int×List Int×List Int×Unit
def zN:ND:=(0,[],[],())
def kids(ns:List ND)(r:Nat):List Int:=(ns.getD r zN).2.2.1
def dL(ns:List ND):Nat->List Nat->Int->List Nat
 |0,ord,_=>ord
 |f+1,ord,r=>if r<0\/r.toNat∈ord then ord else(kids ns r.toNat).foldl (dL ns f) (ord++[r.toNat])
def eF(O:List Nat)(c:Int):Int:=if c<0 then c else(O.idxOf c.toNat:Int)
def imN(ns:List ND)(O:List Nat)(r:Nat):ND:=((ns.getD r zN).1,(ns.getD r zN).2.1,(kids ns r).map (eF O),())
def o8(ns:List ND)(O:List Nat):List ND:=O.map (imN ns O)
def brK:List Int->Int->Nat
 |[],_=>0
 |c::cs,v=>if c<=v then brK cs v+1 else 0
theorem Ac:∀(cs:List Int) (v:Int) (k:Nat),k<=cs.length->(∀j,j<k->cs.getD j 0<=v)->(k=cs.length\/v<cs.getD k 0)->brK cs v=k:=by
 intro cs
 induction cs with
 |nil=>intro v k h _ _;simp at h;subst h;rfl
 |cons c cs ih =>
  intro v k hk h1 h2
  simp only[brK]
  cases k with
  |zero =>
   rcases h2 with q|q
   .cases q
   .rw[au (by simpa using q)]
  |succ k =>
   have:=h1 0 (by omega)
   rw[ak (by simpa using this),ih v k (by simpa using hk) (λj hj=>by have:=h1 (j+1) (by omega);simpa using this) (by rcases h2 with q|q;left;simpa using q;right;simpa using q)]
theorem uT:∀(cs:List Int) (v:Int),brK cs v<=cs.length:=by
 intro cs
 induction cs with
 |nil=>intro v;exact bM _
 |cons c cs ih=>intro v;simp only[brK];split;have:=ih v;simp;omega;simp
def vlF(ns:List ND):Nat->Int->List Int->Int
 |0,r,_=>-1-r
 |f+1,r,fs=>if r<0 then -1-r else vlF ns f ((kids ns r.toNat).getD (brK (ns.getD r.toNat zN).2.1 (fs.getD (ns.getD r.toNat zN).1.toNat 0)) 0) fs
def bsX:=And.intro @a2f (And.intro @a2h (And.intro @Xn (And.intro @Um (And.intro @Xo (And.intro @a2g (And.intro @Ru (And.intro @Rv (And.intro @NH (And.intro @Ur (And.intro @Xz (And.intro @IW (And.intro @Nk (And.intro @NK (And.intro @JN (And.intro @NJ (And.intro @RB (And.intro @Xx (And.intro @Uq (And.intro @Ry (And.intro @Xt (And.intro @Xu (And.intro @Xw (And.intro @Xv (And.intro @a5f (And.intro @a15 (And.intro @a5m (And.intro @a5n (And.intro @a18 (And.intro @a5p (And.intro @a8q (And.intro @a2e (And.intro @a5j (And.intro @a5k (And.intro @Xj (And.intro @Xi (And.intro @a2d (And.intro @Xg (And.intro @Xh (And.intro @Uk (And.intro @a5h (And.intro @a14 (And.intro @a5e (And.intro @a5i (And.intro @a5o (And.intro @Ul (And.intro @Xl (And.intro @Xk (And.intro @a5l (And.intro @Xm (And.intro @a8r (And.intro @a2a (And.intro @a2c (And.intro @List.set_cons_zero.{0} (And.intro @List.set_cons_succ.{0} (And.intro @List.getD_cons_zero.{0} (And.intro @List.getD_cons_succ.{0} (And.intro @List.getElem?_cons_zero.{0} (And.intro @List.getElem?_cons_succ.{0} (And.intro @Option.map_none.{0,0} (And.intro @Option.map_some.{0,0} (And.intro @List.map_cons.{0,0} (And.intro @List.map_nil.{0,0} (And.intro @List.length_cons.{0} (And.intro @List.length_nil.{0} (And.intro @List.length_map.{0,0} (And.intro @List.all_cons.{0} (And.intro @List.all_nil.{0} (And.intro @List.head?_cons.{0} (And.intro @List.take_succ_cons.{0} (And.intro @List.take_zero.{0} (And.intro @List.take_nil.{0} (And.intro @List.drop_succ_cons.{0} (And.intro @List.drop_zero.{0} (And.intro @List.drop_nil.{0} (And.intro @List.cons_append.{0} (And.intro @List.nil_append.{0} (And.intro @List.append_nil.{0} (And.intro @List.flatMap_cons.{0,0} (And.intro @List.flatMap_nil.{0,0} (And.intro @List.foldl_cons.{0,0} (And.intro @List.foldl_nil.{0,0} (And.intro @true_and (And.intro @and_true (And.intro @true_or (And.intro @or_true (And.intro @beq_self_eq_true.{0} (And.intro @Bool.and_true (And.intro @Bool.and_false (And.intro @Bool.true_and (And.intro @Bool.and_self (And.intro @Bool.not_true (And.intro @Bool.not_false (And.intro @if_true.{0} (And.intro @ite_true.{0} (And.intro @ite_false.{0} (And.intro @Bool.false_eq_true (And.intro @Nat.zero_add (And.intro @Nat.add_zero (And.intro @Nat.sub_zero (And.intro @decide_true (And.intro @decide_false (And.intro @ne_eq.{0} (And.intro @not_false_eq_true (And.intro @List.toList_toArray.{0} (And.intro @List.size_toArray.{0} (And.intro @List.headD_cons.{0} (And.intro @Int.toNat_natCast (And.intro @Int.toNat_zero (And.intro @Int.cast_ofNat_Int (And.intro @Int.natCast_zero (@Int.natCast_one)))))))))))))))))))))))))))))))))))))))))))))))))))))))))))))))))))))))))))))))))))))))))))))))))))))))))))))))
def bsU:=And.intro @jL.eq_1 (And.intro @step.eq_1 (And.intro @step.eq_2 (And.intro @step.eq_3 (And.intro @step.eq_4 (And.intro @step.eq_5 (And.intro @step.eq_6 (And.intro @step.eq_7 (And.intro @step.eq_8 (And.intro @step.eq_9 (And.intro @step.eq_10 (And.intro @step.eq_11 (And.intro @step.eq_12 (And.intro @step.eq_13 (And.intro @step.eq_14 (And.intro @step.eq_15 (And.intro @step.eq_16 (And.intro @step.eq_17 (And.intro @step.eq_18 (And.intro @step.eq_19 (And.intro @step.eq_20 (And.intro @step.eq_21 (And.intro @step.eq_22 (And.intro @step.eq_23 (And.intro @step.eq_24 (And.intro @step.eq_25 (And.intro @step.eq_26 (And.intro @step.eq_27 (And.intro @step.eq_28 (And.intro @step.eq_29 (And.intro @step.eq_30 (And.intro @step.eq_31 (And.intro @step.eq_32 (And.intro @step.eq_33 (And.intro @step.eq_34 (And.intro @step.eq_35 (And.intro @step.eq_36 (And.intro @step.eq_37 (And.intro @step.eq_38 (And.intro @step.eq_39 (And.intro @step.eq_40 (And.intro @step.eq_41 (And.intro @step.eq_42 (And.intro @step.eq_43 (And.intro @step.eq_44 (And.intro @step.eq_45 (And.intro @step.eq_46 (And.intro @step.eq_47 (And.intro @step.eq_48 (And.intro @St.val.eq_1 (And.intro @St.val.eq_2 (And.intro @St.val.eq_3 (And.intro @St.put.eq_1 (And.intro @St.put.eq_2 (And.intro @mR.eq_1 (And.intro @mR.eq_2 (And.intro @mR.eq_3 (And.intro @mR.eq_4 (And.intro @asN.eq_1 (And.intro @asN.eq_2 (And.intro @lg.eq_1 (And.intro @lg.eq_2 (And.intro @lg.eq_3 (And.intro @lg.eq_4 (And.intro @lg.eq_5 (And.intro @lg.eq_6 (And.intro @lg.eq_7 (And.intro @lg.eq_8 (And.intro @lg.eq_9 (And.intro @lg.eq_10 (And.intro @lg.eq_11 (And.intro @lg.eq_12 (And.intro @lg.eq_13 (And.intro @lg.eq_14 (And.intro @lg.eq_15 (And.intro @lg.eq_16 (And.intro @lg.eq_17 (And.intro @lg.eq_18 (And.intro @lg.eq_19 (And.intro @lg.eq_20 (And.intro @lg.eq_21 (And.intro @lg.eq_22 (And.intro @lg.eq_23 (And.intro @lg.eq_24 (And.intro @unV.eq_1 (And.intro @unV.eq_2 (And.intro @unV.eq_3 (And.intro @jO.eq_1 (And.intro @jO.eq_2 (And.intro @jO.eq_3 (And.intro @jO.eq_4 (And.intro @jw.eq_1 (And.intro @jw.eq_2 (And.intro @st1.eq_1 (And.intro @st1.eq_2 (And.intro @st1.eq_3 (And.intro @st1.eq_4 (And.intro @st1.eq_5 (And.intro @st1.eq_6 (And.intro @st1.eq_7 (And.intro @st1.eq_8 (And.intro @setCells.eq_1 (And.intro @setCells.eq_2 (And.intro @q9.eq_1 (And.intro @q9.eq_2 (And.intro @eqA.eq_1 (And.intro @eqA.eq_2 (And.intro @eq1.eq_1 (And.intro @eq1.eq_2 (And.intro @eq1.eq_3 (And.intro @eq1.eq_4 (And.intro @AV.cells.eq_1 (And.intro @AV.cells.eq_2 (And.intro @gu.eq_1 (And.intro @gu.eq_2 (And.intro @Value.cells.eq_1 (And.intro @Value.cells.eq_2 (And.intro @Value.oneCell'.eq_1 (And.intro @Value.oneCell'.eq_2 (And.intro @Value.oneCell'.eq_3 (And.intro @iF.eq_1 (And.intro @iF.eq_2 (And.intro @lI.eq_1 (And.intro @lI.eq_2 (And.intro @lY.eq_1 (And.intro @lY.eq_2 (And.intro @lJ.eq_1 (And.intro @lJ.eq_2 (And.intro @lJ.eq_3 (And.intro @lJ.eq_4 (And.intro @lJ.eq_5 (And.intro @lJ.eq_6 (And.intro @nU.eq_1 (And.intro @nU.eq_2 (And.intro @gV.eq_1 (And.intro @gV.eq_2 (And.intro @freeze.eq_1 (And.intro @scalar.eq_1 (And.intro @scalar.eq_2 (And.intro @scalar.eq_3 (And.intro @scalar.eq_4 (And.intro @qC.eq_1 (And.intro @qC.eq_2 (And.intro @norm.eq_1 (And.intro @clr.eq_1 (And.intro @Dz.eq_1 (And.intro @Dz.eq_2 (And.intro @og.eq_1 (And.intro @og.eq_2 (And.intro @nI.eq_1 (And.intro @nI.eq_2 (And.intro @lG.eq_1 (And.intro @lG.eq_2 (And.intro @lG.eq_3 (And.intro @lG.eq_4 (And.intro @lG.eq_5 (And.intro @lG.eq_6 (And.intro @lG.eq_7 (And.intro @lG.eq_8 (And.intro @pY.eq_1 (@ghost.eq_1))))))))))))))))))))))))))))))))))))))))))))))))))))))))))))))))))))))))))))))))))))))))))))))))))))))))))))))))))))))))))))))))))))))))))))))))))))))))))))))))
set_option maxRecDepth 100000
def Mq:List Nat:=[18,19,24,29,45,51,55,58,66,67,68,70,80,81,86,97,127,128,129,130,131,134]
def Yc:List Ins:=[⟨some 3,none,.box 24 1 (.t 0)⟩,
 ⟨some 4,none,.box 28 2 (.t 1)⟩,
 ⟨some 6,none,.mov (.k (.int .i64 0))⟩,
 ⟨some 7,none,.mov (.k (.int .i64 0))⟩]
def Yb:List Ins:=[⟨some 12,none,.load 1 true (.t 3)⟩,
 ⟨some 13,none,.call (.k (.func (.func 38) #[] #[])) [(.t 12)]⟩,
 ⟨some 8,none,.mov (.t 13)⟩]
def Ya:List Ins:=[⟨some 14,none,.mov (.t 8)⟩,
 ⟨some 15,none,.bin .neq (.t 14) (.k (.int .i64 0))⟩]
def Y9:List Ins:=[⟨some 16,none,.mov (.t 8)⟩,
 ⟨some 6,none,.mov (.k (.int .i64 0))⟩,
 ⟨some 7,none,.mov (.t 16)⟩]
def Y8:List Ins:=[⟨some 17,none,.load 1 true (.t 3)⟩,
 ⟨some 18,none,.load 2 true (.t 4)⟩,
 ⟨some 19,none,.call (.k (.func (.func 31) #[] #[])) [(.t 17),(.t 18)]⟩,
 ⟨some 20,none,.un .not (.t 19)⟩]
def Y7:List Ins:=[⟨some 6,none,.mov (.k (.int .i64 0))⟩,
 ⟨some 7,none,.mov (.k (.int .i64 21))⟩]
def Y6:List Ins:=[⟨some 21,none,.load 1 true (.t 3)⟩,
 ⟨some 22,none,.mov (.t 2)⟩,
 ⟨some 23,none,.call (.k (.func (.func 69) #[] #[])) [(.t 21),(.t 22)]⟩,
 ⟨some 24,none,.un .not (.t 23)⟩]
def Y5:List Ins:=[⟨some 6,none,.mov (.k (.int .i64 0))⟩,
 ⟨some 7,none,.mov (.k (.int .i64 16))⟩]
def Y4:List Ins:=[⟨some 25,none,.lZ 1 (.t 4)⟩,
 ⟨some 26,none,.load 1 false (.t 25)⟩,
 ⟨some 9,none,.mov (.t 26)⟩]
def Y3:List Ins:=[⟨some 27,none,.mov (.t 9)⟩,
 ⟨some 28,none,.bin .geq (.t 27) (.k (.int .i64 0))⟩]
def SG:List Ins:=[⟨some 29,none,.lZ 0 (.t 4)⟩,
 ⟨some 30,none,.load 1 false (.t 29)⟩,
 ⟨some 31,none,.mov (.t 9)⟩,
 ⟨some 32,none,.pG 3 (.t 30) (.t 31)⟩,
 ⟨some 33,none,.load 3 true (.t 32)⟩,
 ⟨some 10,none,.alloc 70 (.agg #[.int .i64 0,.slice none 0 0,.slice none 0 0])⟩,
 ⟨none,none,.store 3 (.t 10) (.t 33)⟩]
def SF:List Ins:=[⟨some 34,none,.mov (.t 2)⟩,
 ⟨some 35,none,.lZ 0 (.t 10)⟩,
 ⟨some 36,none,.load 1 false (.t 35)⟩,
 ⟨some 37,none,.pG 1 (.t 34) (.t 36)⟩,
 ⟨some 38,none,.load 1 false (.t 37)⟩,
 ⟨some 11,none,.alloc 3 (.int .i64 0)⟩,
 ⟨none,none,.store 1 (.t 11) (.t 38)⟩]
def SE:List (Nat×Ins):=[(0,⟨some 39,none,.lZ 2 (.t 10)⟩),
 (1,⟨some 40,none,.load 1 false (.t 39)⟩),
 (0,⟨some 41,none,.lZ 1 (.t 10)⟩),
 (0,⟨some 42,none,.load 1 false (.t 41)⟩),
 (0,⟨some 43,none,.len (.t 42)⟩),
 (0,⟨some 44,none,.clo 71 [(.t 11),(.t 10)]⟩),
 (2,⟨some 45,none,.call (.k (.func (.func 70) #[] #[])) [(.t 43),(.t 44)]⟩),
 (0,⟨some 46,none,.pG 1 (.t 40) (.t 45)⟩),
 (0,⟨some 47,none,.load 1 false (.t 46)⟩),
 (0,⟨some 9,none,.mov (.t 47)⟩)]
def nV:C:=(.seq (.seq (.ops false Y3) (.cond (.t 28) .skip (.exit 0))) (.block 1 (.seq (.ops false SG) (.seq (.ops false SF) (.wu SE)))))
def SB:List Ins:=[⟨some 48,none,.mov (.t 9)⟩,
 ⟨some 49,none,.call (.k (.func (.func 72) #[] #[])) [(.t 48)]⟩,
 ⟨some 6,none,.mov (.t 49)⟩,
 ⟨some 7,none,.mov (.k (.int .i64 0))⟩]
def c35:C:=(.seq (.ops false Yc) (.seq (.seq (.ops false Yb) (.seq (.ops false Ya) (.cond (.t 15) (.seq (.ops false Y9) .ret) .skip))) (.seq (.seq (.ops false Y8) (.cond (.t 20) (.seq (.ops false Y7) .ret) .skip)) (.seq (.seq (.ops false Y6) (.cond (.t 24) (.seq (.ops false Y5) .ret) .skip)) (.seq (.ops false Y4) (.seq (.block 0 (.loop nV)) (.seq (.ops false SB) .ret)))))))
theorem F35:Fn Tryd.prog 35 50 c35 [.t 6,.t 7]:=⟨Tryd.f35,Mq,Tryd.func35,by kernel_rfl,by kernel_rfl,by kernel_rfl,by kernel_rfl⟩
def Y2:List Ins:=[⟨some 2,none,.box 123 1 (.t 0)⟩,
 ⟨some 4,none,.alloc 28 (.agg #[.slice none 0 0,.int .i64 0])⟩]
def Y1:List Ins:=[⟨some 5,none,.alloc 28 (.agg #[.slice none 0 0,.int .i64 0])⟩]
def Y0:List Ins:=[⟨some 8,none,.load 1 false (.t 2)⟩,
 ⟨some 9,none,.nck (.t 8)⟩,
 ⟨some 10,none,.lZ 0 (.t 9)⟩,
 ⟨some 11,none,.load 1 false (.t 10)⟩,
 ⟨some 12,none,.len (.t 11)⟩,
 ⟨some 13,none,.mmk 82 (some (.t 12))⟩,
 ⟨some 6,none,.alloc 82 (.map none)⟩,
 ⟨none,none,.store 1 (.t 6) (.t 13)⟩]
def XZ:List Ins:=[⟨some 7,none,.alloc 68 (.nilFunc)⟩]
def XY:List Ins:=[⟨some 14,none,.clo 87 [(.t 6),(.t 5),(.t 2),(.t 7)]⟩,
 ⟨none,none,.store 1 (.t 7) (.t 14)⟩]
def XW:List Ins:=[⟨some 15,none,.load 1 false (.t 7)⟩,
 ⟨some 16,none,.mov (.t 1)⟩,
 ⟨some 17,none,.call (.t 15) [(.t 16)]⟩,
 ⟨some 18,none,.lZ 1 (.t 5)⟩,
 ⟨none,none,.store 1 (.t 18) (.t 17)⟩]
def XU:List Ins:=[⟨some 19,none,.load 2 true (.t 5)⟩,
 ⟨none,none,.store 2 (.t 4) (.t 19)⟩]
def c68:C:=(.seq (.ops false Y2) (.seq (.ops false Y1) (.seq (.ops false Y0) (.seq (.ops false XZ) (.seq (.ops false XY) (.seq (.ops false XW) (.seq (.ops false XU) .ret)))))))
theorem F68:Fn Tryd.prog 68 20 c68 [.c 4 2 true]:=⟨Tryd.f68,Mq,Tryd.func68,by kernel_rfl,by kernel_rfl,by kernel_rfl,by kernel_rfl⟩
def XT:List Ins:=[⟨some 4,none,.mov (.k (.int .i64 0))⟩]
def XR:List Ins:=[⟨some 8,none,.mov (.t 0)⟩,
 ⟨some 5,none,.mov (.k (.int .i64 0))⟩,
 ⟨some 6,none,.mov (.t 8)⟩]
def XQ:List Ins:=[⟨some 9,none,.mov (.t 5)⟩,
 ⟨some 10,none,.mov (.t 6)⟩,
 ⟨some 11,none,.bin .lss (.t 9) (.t 10)⟩]
def XP:List Ins:=[⟨some 12,none,.mov (.t 5)⟩,
 ⟨some 13,none,.mov (.t 6)⟩,
 ⟨some 14,none,.bin .add (.t 12) (.t 13)⟩,
 ⟨some 15,none,.conv .u64 (.t 14)⟩,
 ⟨some 16,none,.bin .shr (.t 15) (.k (.int .u64 1))⟩,
 ⟨some 17,none,.conv .i64 (.t 16)⟩,
 ⟨some 7,none,.mov (.t 17)⟩]
def XM:List Ins:=[⟨some 18,none,.mov (.t 1)⟩,
 ⟨some 19,none,.mov (.t 7)⟩,
 ⟨some 20,none,.call (.t 18) [(.t 19)]⟩,
 ⟨some 21,none,.un .not (.t 20)⟩]
def XL:List Ins:=[⟨some 22,none,.mov (.t 7)⟩,
 ⟨some 23,none,.bin .add (.t 22) (.k (.int .i64 1))⟩,
 ⟨some 5,none,.mov (.t 23)⟩]
def XK:List Ins:=[⟨some 24,none,.mov (.t 7)⟩,
 ⟨some 6,none,.mov (.t 24)⟩]
def zf:C:=(.seq (.seq (.ops false XQ) (.cond (.t 11) .skip (.exit 0))) (.block 1 (.seq (.ops false XP) (.seq (.ops false XM) (.cond (.t 21) (.ops false XL) (.ops false XK))))))
def XJ:List Ins:=[⟨some 25,none,.mov (.t 5)⟩,
 ⟨some 4,none,.mov (.t 25)⟩]
def c70:C:=(.seq (.ops false XT) (.seq (.ops false XR) (.seq (.block 0 (.loop zf)) (.seq (.ops false XJ) .ret))))
theorem F70:Fn Tryd.prog 70 26 c70 [.t 4]:=⟨Tryd.f70,Mq,Tryd.func70,by kernel_rfl,by kernel_rfl,by kernel_rfl,by kernel_rfl⟩
def Qs:List Ins:=[⟨some 4,none,.mov (.k (.bool false))⟩]
def Qr:List Ins:=[⟨some 5,none,.load 1 false (.t 1)⟩,
 ⟨some 6,none,.lZ 1 (.t 2)⟩,
 ⟨some 7,none,.load 1 false (.t 6)⟩,
 ⟨some 8,none,.mov (.t 0)⟩,
 ⟨some 9,none,.pG 1 (.t 7) (.t 8)⟩,
 ⟨some 10,none,.load 1 false (.t 9)⟩,
 ⟨some 11,none,.bin .lss (.t 5) (.t 10)⟩,
 ⟨some 4,none,.mov (.t 11)⟩]
def c71:C:=(.seq (.ops false Qs) (.seq (.ops true Qr) .ret))
theorem F71:Fn Tryd.prog 71 12 c71 [.t 4]:=⟨Tryd.f71,Mq,Tryd.func71,by kernel_rfl,by kernel_rfl,by kernel_rfl,by kernel_rfl⟩
def Qq:List Ins:=[⟨some 6,none,.mov (.k (.int .i64 0))⟩]
def Qp:List Ins:=[⟨some 14,none,.mov (.t 0)⟩,
 ⟨some 15,none,.bin .lss (.t 14) (.k (.int .i64 0))⟩]
def XI:List Ins:=[⟨some 16,none,.mov (.t 0)⟩,
 ⟨some 6,none,.mov (.t 16)⟩]
def Qo:List Ins:=[⟨some 18,none,.load 1 false (.t 1)⟩,
 ⟨some 19,none,.mov (.t 0)⟩,
 ⟨some 20,none,.tY (.int .i64) true (.int .i64 0) (.t 18) (.t 19)⟩,
 ⟨some 17,none,.mov (.t 20)⟩,
 ⟨some 21,none,.ext 0 (.t 17)⟩,
 ⟨some 22,none,.ext 1 (.t 17)⟩,
 ⟨some 7,none,.mov (.t 21)⟩,
 ⟨some 8,none,.mov (.t 22)⟩]
def Qn:List Ins:=[⟨some 23,none,.mov (.t 8)⟩]
def XH:List Ins:=[⟨some 24,none,.mov (.t 7)⟩,
 ⟨some 6,none,.mov (.t 24)⟩]
def Qm:List Ins:=[⟨some 25,none,.lZ 0 (.t 2)⟩,
 ⟨some 26,none,.load 1 false (.t 25)⟩,
 ⟨some 27,none,.len (.t 26)⟩,
 ⟨some 9,none,.mov (.t 27)⟩]
def Ql:List Ins:=[⟨some 28,none,.load 1 false (.t 1)⟩,
 ⟨some 29,none,.mov (.t 0)⟩,
 ⟨some 30,none,.mov (.t 9)⟩,
 ⟨none,none,.uI (.int .i64) (.t 28) (.t 29) (.t 30)⟩]
def Qk:List Ins:=[⟨some 31,none,.load 1 false (.t 3)⟩,
 ⟨some 32,none,.nck (.t 31)⟩,
 ⟨some 33,none,.lZ 0 (.t 32)⟩,
 ⟨some 34,none,.load 1 false (.t 33)⟩,
 ⟨some 35,none,.mov (.t 0)⟩,
 ⟨some 36,none,.pG 3 (.t 34) (.t 35)⟩,
 ⟨some 37,none,.load 3 true (.t 36)⟩,
 ⟨some 10,none,.alloc 70 (.agg #[.int .i64 0,.slice none 0 0,.slice none 0 0])⟩,
 ⟨none,none,.store 3 (.t 10) (.t 37)⟩]
def Qj:List Ins:=[⟨some 38,none,.lZ 2 (.t 10)⟩,
 ⟨some 39,none,.load 1 false (.t 38)⟩,
 ⟨some 40,none,.len (.t 39)⟩,
 ⟨some 41,none,.mk 3 1 8 (.int .i64 0) (.t 40)⟩,
 ⟨some 11,none,.mov (.t 41)⟩]
def Lr:List (Nat×Ins):=[(0,⟨some 42,none,.lZ 0 (.t 2)⟩),
 (1,⟨some 43,none,.load 1 false (.t 42)⟩),
 (0,⟨some 44,none,.lZ 0 (.t 10)⟩),
 (1,⟨some 45,none,.load 1 false (.t 44)⟩),
 (0,⟨some 46,none,.lZ 1 (.t 10)⟩),
 (0,⟨some 47,none,.load 1 false (.t 46)⟩),
 (2,⟨some 48,none,.app 3 1 8 (.k (.slice none 0 0)) (.t 47)⟩),
 (0,⟨some 49,none,.mov (.t 11)⟩),
 (0,⟨some 50,none,.build [.int .i64 0,.slice none 0 0,.slice none 0 0] [(0,1,(.t 45)),(1,1,(.t 48)),(2,1,(.t 49))]⟩),
 (2,⟨some 51,none,.qO 70 3 [(.t 50)]⟩),
 (0,⟨some 52,none,.app 70 3 56 (.t 43) (.t 51)⟩),
 (0,⟨some 53,none,.lZ 0 (.t 2)⟩),
 (0,⟨none,none,.store 1 (.t 53) (.t 52)⟩)]
def Lp:List Ins:=[⟨some 54,none,.lZ 2 (.t 10)⟩,
 ⟨some 55,none,.load 1 false (.t 54)⟩,
 ⟨some 56,none,.len (.t 55)⟩,
 ⟨some 57,none,.mov (.k (.int .i64 0))⟩]
def Lm:List Ins:=[⟨some 58,none,.bin .lss (.t 57) (.t 56)⟩]
def Ll:List Ins:=[⟨some 59,none,.mov (.t 57)⟩,
 ⟨some 60,none,.pG 1 (.t 55) (.t 57)⟩,
 ⟨some 61,none,.load 1 false (.t 60)⟩,
 ⟨some 12,none,.mov (.t 59)⟩,
 ⟨some 13,none,.mov (.t 61)⟩]
def Lj:List Ins:=[⟨some 62,none,.mov (.t 11)⟩,
 ⟨some 63,none,.mov (.t 12)⟩,
 ⟨some 64,none,.load 1 false (.t 4)⟩,
 ⟨some 65,none,.mov (.t 13)⟩,
 ⟨some 66,none,.call (.t 64) [(.t 65)]⟩,
 ⟨some 67,none,.pG 1 (.t 62) (.t 63)⟩,
 ⟨none,none,.store 1 (.t 67) (.t 66)⟩]
def Li:List Ins:=[⟨some 68,none,.bin .add (.t 57) (.k (.int .i64 1))⟩,
 ⟨some 57,none,.mov (.t 68)⟩]
def Ma:C:=(.seq (.ops false Lm) (.seq (.cond (.t 58) .skip (.exit 0)) (.seq (.block 1 (.seq (.ops false Ll) (.ops false Lj))) (.ops false Li))))
def Lh:List Ins:=[⟨some 69,none,.mov (.t 9)⟩,
 ⟨some 6,none,.mov (.t 69)⟩]
def c87:C:=(.seq (.ops false Qq) (.seq (.seq (.ops false Qp) (.cond (.t 15) (.seq (.ops false XI) .ret) .skip)) (.seq (.seq (.ops false Qo) (.seq (.ops false Qn) (.cond (.t 23) (.seq (.ops false XH) .ret) .skip))) (.seq (.ops false Qm) (.seq (.ops false Ql) (.seq (.ops false Qk) (.seq (.ops false Qj) (.seq (.wu Lr) (.seq (.seq (.ops false Lp) (.block 0 (.loop Ma))) (.seq (.ops false Lh) .ret))))))))))
theorem F87:Fn Tryd.prog 87 70 c87 [.t 6]:=⟨Tryd.f87,Mq,Tryd.func87,by kernel_rfl,by kernel_rfl,by kernel_rfl,by kernel_rfl⟩
theorem jm:Tryd.prog.follows .mixedOrders=true:=by kernel_rfl
def oG:=And.intro @Yc.eq_1 (And.intro @Yb.eq_1 (And.intro @Ya.eq_1 (And.intro @Y9.eq_1 (And.intro @Y8.eq_1 (And.intro @Y7.eq_1 (And.intro @Y6.eq_1 (And.intro @Y5.eq_1 (And.intro @Y4.eq_1 (And.intro @Y3.eq_1 (And.intro @SG.eq_1 (And.intro @SF.eq_1 (And.intro @SE.eq_1 (@SB.eq_1)))))))))))))
def AQ:=And.intro @XT.eq_1 (And.intro @XR.eq_1 (And.intro @XQ.eq_1 (And.intro @XP.eq_1 (And.intro @XM.eq_1 (And.intro @XL.eq_1 (And.intro @XK.eq_1 (@XJ.eq_1)))))))
def EL:=And.intro @Qq.eq_1 (And.intro @Qp.eq_1 (And.intro @XI.eq_1 (And.intro @Qo.eq_1 (And.intro @Qn.eq_1 (And.intro @XH.eq_1 (And.intro @Qm.eq_1 (And.intro @Ql.eq_1 (And.intro @Qk.eq_1 (And.intro @Qj.eq_1 (And.intro @Lr.eq_1 (And.intro @Lp.eq_1 (And.intro @Lm.eq_1 (And.intro @Ll.eq_1 (And.intro @Lj.eq_1 (And.intro @Li.eq_1 (@Lh.eq_1))))))))))))))))
set_option maxRecDepth 100000
section
variable{Gl:Nat->Option (List AV)}
theorem a8m {h:List aK} {b1 b2:Nat} {v i:Int} {a nx:AV} {cs:List Int} {t1 t2:Nat} (h1:h[b1]?=some ⟨t1,1,0,false,[.v (.int .i64 v)]⟩) (h2:h[b2]?=some ⟨t2,3,0,false,[.agg [a,.list 1 (cs.map e64),nx]]⟩) (hi:0<=i/\i < cs.length) :
  jH Tryd.prog Gl 71 h [.v (.int .i64 i),.ptr b1 1 0 0,.ptr b2 1 0 0] λres h'=>res=.v (.bool (decide (v<cs.getD i.toNat 0)))/\h'=h:=by
 have hl:i.toNat<cs.length:=by omega
 refine F71.Gd jm (t:=[.v (.int .i64 i),.ptr b1 1 0 0,.ptr b2 1 0 0,.any,.any,.any,.any,.any,.any,.any,.any,.any]) rfl ?_
 simp only[bsX,bsU,simprocAttr,Qs,Qr,c71,h1,h2]
 refine⟨⟨hi.1,by simpa using hi.2⟩,?_⟩
 simp only[DL hl]
 simp only[bsX,bsU,simprocAttr,Qs,Qr,c71,h1,h2]
 refine sF trivial ?_
 simp only[bsX,bsU,simprocAttr,CZ,pq,p9]
theorem Jl(n:Nat)(a:AV):lG n (lG n a)=lG n a:=by
 cases a with
 |row id G sz off len=>by_cases h:id<n<;>simp[lG,h]
 |ptr id G i off=>by_cases h:id<n<;>simp[lG,h]
 |mp id=>by_cases h:id<n<;>simp[lG,h]
 |_=>rfl
theorem Jk(n:Nat)(a:AV):nI n (nI n a)=nI n a:=by
 by_cases ha:∃f cs,a=.clo f cs
 .obtain⟨f,cs,rfl⟩:=ha
  simp only[nI,gU,oZ,Jl]
 .have e:nI n a=lG n a:=by cases a<;>first|rfl|exact absurd ⟨_,_,rfl⟩ ha
  rw[e]
  have e2:nI n (lG n a)=lG n (lG n a):=by
   cases a<;>first
    |rfl
    |exact absurd ⟨_,_,rfl⟩ ha
    |(simp only[lG];split<;>rfl)
  rw[e2,Jl]
theorem TI(n:Nat)(a:AV):og n (og n a)=og n a:=by
 by_cases ha:∃cs,a=.agg cs
 .obtain⟨cs,rfl⟩:=ha
  simp only[og,gU,oZ,Jk]
 .have e:og n a=nI n a:=by cases a<;>first|rfl|exact absurd ⟨_,rfl⟩ ha
  rw[e]
  have e2:og n (nI n a)=nI n (nI n a):=by
   cases a<;>first
    |rfl
    |exact absurd ⟨_,rfl⟩ ha
    |(simp only[nI,lG];split<;>rfl)
  rw[e2,Jk]
theorem TH(n:Nat)(o:aK):pY n (pY n o)=pY n o:=by
 unfold pY
 by_cases h:o.pr=true
 .rw[ak h,ak h]
 .rw[au h]
  show(if o.pr=true then _ else _)=_
  rw[au h]
  simp only[gU,oZ,TI]
theorem Wu{h:List aK}{n:Nat}(hn:h.length=n):((h.map (pY n)).take n).map (pY n)=h.map (pY n):=by
 rw[gM (by simp[hn]),gU]
 congr 1
 funext o
 exact TH n o
theorem Oj{h:List aK}{n b:Nat}{o:aK}(hb:h[b]?=some o)(ho:pY n o=o):(h.map (pY n))[b]?=some o:=by rw[aQ,hb,bn,ho]
theorem Jj(n:Nat){o:aK}(h:o.es.all (λe=>match e with|.agg cs=>cs.all (λc=>match c with|.v _=>true|.list _ _=>true|.any=>true|_=>false)|.v _=>true|_=>false)=true):pY n o=o:=by
 unfold pY
 split
 .rfl
 ·have key:∀ e ∈ o.es,og n e=e:=fun e he=>by
   have he:=aR.1 h e he
   cases e with
   |agg cs =>
    have:cs.map (nI n)=cs:=(kN (λc hc=>by
     have hc:=aR.1 he c hc
     cases c<;>first|rfl|cases hc)).trans (List.map_id' cs)
    show AV.agg (cs.map (nI n))=_
    rw[this]
   |v x=>rfl
   |_=>cases he
  have:o.es.map (og n)=o.es:=(kN key).trans (List.map_id' o.es)
  rw[this]
theorem Vy {h:List aK} {b1 b2:Nat} {v:Int} {a':Value} {nx':List AV} {cs:List Int} {t1 t2:Nat} (h1:h[b1]?=some ⟨t1,1,0,false,[.v (.int .i64 v)]⟩) (h2:h[b2]?=some ⟨t2,3,0,false,[.agg [.v a',.list 1 (cs.map e64),.list 1 nx']]⟩) (hs:cs.Pairwise (· < ·)) (hl:cs.length<=4000000000) :
  jH Tryd.prog Gl 70 h [.v (.int .i64 (cs.length:Int)),.clo 71 [.ptr b1 1 0 0,.ptr b2 1 0 0]] λres h'=>res=.v (.int .i64 (brK cs v:Nat))/\h'=h.map (pY h.length):=by
 have hb1:b1<h.length:=(aj.1 h1).1
 have hb2:b2<h.length:=(aj.1 h2).1
 have YH:((h.map (pY h.length)).take h.length).map (pY h.length)=h.map (pY h.length):=Wu rfl
 have g1:=Oj (n:=h.length) h1 (Jj _ rfl)
 have g2:=Oj (n:=h.length) h2 (Jj _ rfl)
 refine F70.Gd jm (t:=[.v (.int .i64 (cs.length:Int)),.clo 71 [.ptr b1 1 0 0,.ptr b2 1 0 0],.any,.any,.any,.any,.any,.any,.any,.any,.any,.any,.any,.any,.any,.any,.any,.any,.any,.any,.any,.any,.any,.any,.any,.any]) rfl ?_
 simp only[bsX,bsU,simprocAttr,AQ,zf,c70]
 refine N9 [2,3,7,8,9,10,11,12,13,14,15,16,17,18,19,20,21,22,23,24,25] [] h.length (λτ=>∃i j:Nat,i<=j/\j<=cs.length/\(∀k,k<i->cs.getD k 0<=v)/\(∀k,j<=k->k<cs.length->v<cs.getD k 0)/\τ=⟨[.v (.int .i64 (cs.length:Int)),.clo 71 [.ptr b1 1 0 0,.ptr b2 1 0 0],.any,.any,.v (.int .i64 0),.v (.int .i64 (i:Nat)),.v (.int .i64 (j:Nat)),.any,.any,.any,.any,.any,.any,.any,.any,.any,.any,.any,.any,.any,.any,.any,.any,.any,.any,.any],h.map (pY h.length)⟩) (λτ=>sn τ 6-sn τ 5) (bM _) ⟨0,cs.length,by omega,by omega,λk hk=>by omega,λk hk hk2=>by omega,?_⟩ ?_
 .simp only[bsX,bsU,simprocAttr,AQ,zf,c70]
  rw[gM (bM _)]
  simp[hb1,hb2]
 .rintro _ ⟨i,j,hij,hj,hlo,hhi,rfl⟩
  simp only[bsX,bsU,simprocAttr,AQ,zf,c70]
  refine uf rfl (λhc=>?_) (λhc=>?_)
  .have hc:=bW hc
   have hm:IntKind.i64.wrap ((IntKind.u64.wrap (IntKind.i64.wrap ((i:Int)+(j:Int)))).fdiv (2^min 1 IntKind.u64.bits))=(((i+j)/2:Nat):Int):=by
    have e1:IntKind.i64.wrap ((i:Int)+(j:Int))=((i+j:Nat):Int):=by rw[wrap64 (by omega) (by omega)];omega
    have e2:IntKind.u64.wrap ((i+j:Nat):Int)=((i+j:Nat):Int):=IntWalk.u64_in _ ⟨by omega,by omega⟩
    rw[e1,e2]
    have e3:((i+j:Nat):Int).fdiv (2^min 1 IntKind.u64.bits)=(((i+j)/2:Nat):Int):=by
     show((i+j:Nat):Int).fdiv 2=_
     rw[Int.fdiv_eq_ediv_of_nonneg _ (by omega)]
     omega
    rw[e3]
    exact wrap64 (by omega) (by omega)
   simp only[bsX,bsU,simprocAttr,AQ,zf,c70]
   simp only[hm]
   refine .inl ⟨rfl,71,_,rfl,F71.callable,(a8m g1 g2 (i:=(((i+j)/2:Nat):Int)) ⟨by omega,by omega⟩).mono ?_⟩
   rintro _ _ ⟨rfl,rfl⟩
   rw[bH]
   simp only[bsX,bsU,simprocAttr,AQ,zf,c70]
   have hmid:i<=(i+j)/2/\(i+j)/2<j:=by omega
   generalize (i+j)/2=k at hm hmid
   have mono:∀a b,a<=b->b<cs.length->cs.getD a 0<=cs.getD b 0:=λa b hab hb=>by
    rcases aS a b with q|q
    .have:=je.1 hs a b (by omega) hb q
     rw[aM,aM,ah (by omega),ah hb]
     exact Al this
    .have:a=b:=by omega
     subst this;exact nY _
   refine uf rfl (λhc2=>?_) (λhc2=>?_)
   .have hc2:¬v<cs.getD k 0:=by simpa using hc2
    have e1:IntKind.i64.wrap ((k:Int)+1)=((k+1:Nat):Int):=by rw[wrap64 (by omega) (by omega)];omega
    simp only[bsX,bsU,simprocAttr,AQ,zf,c70]
    simp only[e1]
    refine⟨⟨k+1,j,by omega,hj,λq hq=>?_,hhi,?_⟩,?_⟩
    .have:=mono q k (by omega) (by omega);omega
    .simp only[YH]
     simp[hb1,hb2]
    .simp only[bsX,bsU,simprocAttr,sn]
     omega
   .have hc2:v<cs.getD k 0:=by simpa using hc2
    simp only[bsX,bsU,simprocAttr,AQ,zf,c70]
    refine⟨⟨i,k,by omega,by omega,hlo,λq hq hq2=>?_,?_⟩,?_⟩
    .have:=mono k q (by omega) (by omega);omega
    .simp only[YH]
     simp[hb1,hb2]
    .simp only[bsX,bsU,simprocAttr,sn]
     omega
  .have hc:=tX hc
   have:i=j:=by omega
   subst this
   have hk:=Ac cs v i hj hlo (by rcases aS i cs.length with q|q;exact .inr (hhi i (by omega) q);exact .inl (by omega))
   rw[hk]
   simp only[bsX,bsU,simprocAttr,AQ,zf,c70]
   refine sF trivial ?_
   simp only[bsX,bsU,simprocAttr,CZ,pq,p9]
section
variable{P:Program}{N:Nat}{Q:Exit->St->Prop}{σ:St}{K:St->Prop}
theorem JF{l:List (Nat×Ins)}(U:List Nat)(h:iG P Gl σ.h.length U (Q .normal) l σ):awp P Gl N (.wu l) Q σ:=⟨U,h⟩
theorem jf{N:Nat}{U:List Nat}:iG P Gl N U K [] σ=K σ:=rfl
theorem lW{N:Nat}{U:List Nat}{i:Ins}{r:List (Nat×Ins)}:iG P Gl N U K ((0,i)::r) σ=gY P Gl true σ i (iG P Gl N U K r):=rfl
theorem lV{N:Nat}{U:List Nat}{i:Ins}{r:List (Nat×Ins)}:iG P Gl N U K ((1,i)::r) σ=((wants σ i->∀id∈i.i.ids Gl σ,id<N/\id∉U)/\gY P Gl true σ i (iG P Gl N U K r)):=rfl
theorem lU{N:Nat}{U:List Nat}{i:Ins}{r:List (Nat×Ins)}:iG P Gl N U K ((2,i)::r) σ=gY P Gl false σ i λρ=>agree N U σ.h ρ.h/\iG P Gl N U K r ρ:=rfl
theorem lT{d:Bool}{dst:Option Nat}{f xs}:fV P Gl d σ dst K (.clo f xs)=jL Gl σ dst K (.clo f xs):=rfl
theorem a5g{d:Bool}{dst:Option Nat}{t n}:fV P Gl d σ dst K (.mmk t n)=jL Gl σ dst K (.mmk t n):=rfl
theorem a2b{d:Bool}{dst:Option Nat}{kt ok z m k}:fV P Gl d σ dst K (.tY kt ok z m k)=jL Gl σ dst K (.tY kt ok z m k):=rfl
theorem a19{d:Bool}{dst:Option Nat}{kt m k v}:fV P Gl d σ dst K (.uI kt m k v)=jL Gl σ dst K (.uI kt m k v):=rfl
theorem AP{f:Nat}{args:List Opd}{us:List AV}{res:AV}{d:Bool}{dst:Option Nat}(hcb:callable P f=true)(hk:iF σ.h (args.map (σ.val Gl))=some us)(hP:Pure P Gl f us res)(hsc:scalar res=true)(hK:K (St.put ⟨σ.t,σ.h⟩ dst res)):fV P Gl d σ dst K (.call (.fn f) args) :=
 .inr ⟨f,rfl,hcb,.inl ⟨us,res,hk,hP,λ_=>by rw[ak hsc],by rw[ak hsc];exact hK⟩⟩
theorem Ui{f:Nat}{args:List Opd}{dst:Option Nat}(hcb:callable P f=true)(hP:jH P Gl f σ.h (args.map (σ.val Gl)) λres h'=>K (St.put ⟨σ.t,h'⟩ dst res)):fV P Gl false σ dst K (.call (.fn f) args) :=
 .inr ⟨f,rfl,hcb,.inr ⟨rfl,hP⟩⟩
end
def ZY(x:ND)(f:List Int):Prop:=0<=x.1/\x.1<f.length/\x.2.1.Pairwise (·<·)/\x.2.1.length<=4000000000/\x.2.2.1.length=x.2.1.length+1
def nextR(ns:List ND)(f:List Int)(r:Int):Int:=(kids ns r.toNat).getD (brK (ns.getD r.toNat zN).2.1 (f.getD (ns.getD r.toNat zN).1.toNat 0)) 0
def sV(ns:List ND)(f:List Int):Nat->Int->Prop
 |0,r=>-256<=r/\r<0
 |n+1,r=>-256<=r/\(0<=r->r<ns.length/\ZY (ns.getD r.toNat zN) f/\sV ns f n (nextR ns f r))
theorem sV.lo{ns:List ND}{f:List Int}{n:Nat}{r:Int}(h:sV ns f n r):-256<=r:=by cases n<;>exact h.1
theorem sV.step{ns:List ND}{f:List Int}{n:Nat}{r:Int}(h:sV ns f n r)(h0:0<=r):∃m,n=m+1/\r<ns.length/\ZY (ns.getD r.toNat zN) f/\sV ns f m (nextR ns f r):=by
 cases n with
 |zero=>have:=h.2;omega
 |succ m=>exact⟨m,rfl,h.2 h0⟩
theorem F4{ns:List ND}{f:List Int}{n:Nat}{r:Int}(h0:0<=r):vlF ns (n+1) r f=vlF ns n (nextR ns f r) f:=by
 simp only[vlF]
 rw[au (by omega)];rfl
theorem zL{ns:List ND}{f:List Int}{n:Nat}{r:Int}(h0:r<0):vlF ns n r f=-1-r:=by
 cases n with
 |zero=>rfl
 |succ n=>simp only[vlF];rw[ak h0]
theorem zW{p:Nat->Prop}(h:∃n,p n):∃n,p n/\∀m,p m->n<=m:=by
 obtain⟨n,hn⟩:=h
 induction n using Nat.strongRecOn with
 |_ n ih =>
  by_cases q:∃m,m<n/\p m
  .obtain⟨m,h1,h2⟩:=q;exact ih m h1 h2
  ·exact ⟨n,hn,fun m hm=>by
    rcases aS m n with r|r
    .exact absurd ⟨m,r,hm⟩ q
    .exact r⟩
open Classical in
def FH(ns:List ND)(f:List Int)(r:Int):Nat:=if h:∃n,sV ns f n r then Classical.choose (zW h) else 0
theorem a4V{ns:List ND}{f:List Int}{n:Nat}{r:Int}(h:sV ns f n r)(h0:0<=r):FH ns f (nextR ns f r)<FH ns f r:=by
 have hr:∃n,sV ns f n r:=⟨n,h⟩
 have e1:FH ns f r=Classical.choose (zW hr):=by unfold FH;rw[zH hr]
 obtain⟨m,hm,_,_,hP⟩:=(rU (zW hr)).1.step h0
 have h2:∃n,sV ns f n (nextR ns f r):=⟨m,hP⟩
 have e2:FH ns f (nextR ns f r)=Classical.choose (zW h2):=by unfold FH;rw[zH h2]
 have:=(rU (zW h2)).2 m hP
 rw[e1,e2];omega
def jU(x:ND):AV:=.agg [.v (.int .i64 x.1),.list 1 (x.2.1.map e64),.list 1 (x.2.2.1.map e64)]
theorem a5L {sL:List AV} {ns:List ND} {root:Int} {f:List Int} {sz:Nat} {e0 v e:Int} {b1 b2:Bool} {S D Fa:AV} (hS:S=.agg [.list sz sL]) (hD:D=.agg [.list 3 (ns.map jU),.v (.int .i64 root)]) (hFa:Fa=.list 1 (f.map e64))
  (c38:callable Tryd.prog 38=true) (c31:callable Tryd.prog 31=true) (c69:callable Tryd.prog 69=true) (c72:callable Tryd.prog 72=true)
  (h38:Pure Tryd.prog Gl 38 [S] (.v (.int .i64 e0))) (h31:e0=0->Pure Tryd.prog Gl 31 [S,D] (.v (.bool b1))) (h69:e0=0->b1=true->Pure Tryd.prog Gl 69 [S,Fa] (.v (.bool b2))) (h72:∀r:Int,-256<=r->r<0->Pure Tryd.prog Gl 72 [.v (.int .i64 r)] (.v (.int .i64 (-1-r))))
  (hr:(e0≠0/\v=0/\e=e0)\/(e0=0/\b1=false/\v=0/\e=21)\/(e0=0/\b1=true/\b2=false/\v=0/\e=16)\/(e0=0/\b1=true/\b2=true/\(∃n,sV ns f n root/\v=vlF ns n root f)/\e=0)) :
  Pure Tryd.prog Gl 35 [S,D,Fa] (.tup [.v (.int .i64 v),.v (.int .i64 e)]):=by
 subst hS hD hFa
 refine F35.pure jm (t:=[.agg [.list sz sL],.agg [.list 3 (ns.map jU),.v (.int .i64 root)],.list 1 (f.map e64),.any,.any,.any,.any,.any,.any,.any,.any,.any,.any,.any,.any,.any,.any,.any,.any,.any,.any,.any,.any,.any,.any,.any,.any,.any,.any,.any,.any,.any,.any,.any,.any,.any,.any,.any,.any,.any,.any,.any,.any,.any,.any,.any,.any,.any,.any,.any]) rfl ?_
 simp only[bsX,bsU,simprocAttr,oG,lT,jf,lW,lV,lU,nV,c35]
 refine AP c38 ?_ h38 rfl ?_;rfl
 simp only[bsX,bsU,simprocAttr,oG,lT,jf,lW,lV,lU,nV,c35]
 refine uf rfl (λhc=>?_) (λhc=>?_)
 .have hc:e0≠0:=by simpa using hc
  obtain⟨rfl,rfl⟩:v=0/\e=e0:=by
   rcases hr with h|h|h|h
   .exact h.2
   .exact absurd h.1 hc
   .exact absurd h.1 hc
   .exact absurd h.1 hc
  simp only[bsX,bsU,simprocAttr,oG,lT,jf,lW,lV,lU,nV,c35]
  refine zq trivial ?_
  simp only[bsX,bsU,simprocAttr,IX,Iw,pq,p9,zk]
  exact Wk.of_eq rfl
 have hc:e0=0:=by simpa using hc
 subst hc
 simp only[ne_eq,bG,gK,fZ,iq]at hr
 simp only[bsX,bsU,simprocAttr,oG,lT,jf,lW,lV,lU,nV,c35]
 refine AP c31 ?_ (h31 rfl) rfl ?_;rfl
 simp only[bsX,bsU,simprocAttr,oG,lT,jf,lW,lV,lU,nV,c35]
 refine uf rfl (λhc=>?_) (λhc=>?_)
 .have hc:b1=false:=by cases b1<;>first|rfl|cases hc
  subst hc
  obtain⟨rfl,rfl⟩:v=0/\e=21:=by
   rcases hr with h|h|h
   .exact h.2
   .exact absurd h.1 (by decide)
   .exact absurd h.1 (by decide)
  simp only[bsX,bsU,simprocAttr,oG,lT,jf,lW,lV,lU,nV,c35]
  refine zq trivial ?_
  simp only[bsX,bsU,simprocAttr,IX,Iw,pq,p9,zk]
  exact Wk.of_eq rfl
 have hc:b1=true:=by cases b1<;>first|rfl|cases hc
 subst hc
 simp only[dn,gK,fZ,iq]at hr
 simp only[bsX,bsU,simprocAttr,oG,lT,jf,lW,lV,lU,nV,c35]
 refine AP c69 ?_ (h69 rfl rfl) rfl ?_;rfl
 simp only[bsX,bsU,simprocAttr,oG,lT,jf,lW,lV,lU,nV,c35]
 refine uf rfl (λhc=>?_) (λhc=>?_)
 .have hc:b2=false:=by cases b2<;>first|rfl|cases hc
  subst hc
  obtain⟨rfl,rfl⟩:v=0/\e=16:=by
   rcases hr with h|h
   .exact h.2
   .exact absurd h.1 (by decide)
  simp only[bsX,bsU,simprocAttr,oG,lT,jf,lW,lV,lU,nV,c35]
  refine zq trivial ?_
  simp only[bsX,bsU,simprocAttr,IX,Iw,pq,p9,zk]
  exact Wk.of_eq rfl
 have hc:b2=true:=by cases b2<;>first|rfl|cases hc
 subst hc
 simp only[dn,gK,fZ,iq]at hr
 obtain⟨⟨n,hP,hv⟩,rfl⟩:=hr
 simp only[bsX,bsU,simprocAttr,oG,lT,jf,lW,lV,lU,nV,c35]
 refine N9 [0,1,5,8,10,11,12,13,14,15,16,17,18,19,20,21,22,23,24,25,26,27,28,29,30,31,32,33,34,35,36,37,38,39,40,41,42,43,44,45,46,47,48,49] [] 2 (λτ=>∃n r,sV ns f n r/\v=vlF ns n r f/\τ=⟨[.any,.any,.list 1 (f.map e64),.ptr 0 1 0 0,.ptr 1 1 0 0,.any,.v (.int .i64 0),.v (.int .i64 0),.any,.v (.int .i64 r),.any,.any,.any,.any,.any,.any,.any,.any,.any,.any,.any,.any,.any,.any,.any,.any,.any,.any,.any,.any,.any,.any,.any,.any,.any,.any,.any,.any,.any,.any,.any,.any,.any,.any,.any,.any,.any,.any,.any,.any],[⟨24,1,0,false,[.agg [.list sz sL]]⟩,⟨28,2,0,false,[.agg [.list 3 (ns.map jU),.v (.int .i64 root)]]⟩]⟩) (λτ=>match τ.t.getD 9 .any with|.v (.int _ r)=>FH ns f r|_=>0) (by omega) ⟨n,root,hP,hv,?_⟩ ?_
 .simp only[bsX,bsU,simprocAttr,oG,lT,jf,lW,lV,lU,nV,c35]
 rintro _ ⟨n,r,hP,hv,rfl⟩
 simp only[bsX,bsU,simprocAttr,oG,lT,jf,lW,lV,lU,nV,c35]
 refine uf rfl (λhc=>?_) (λhc=>?_)
 .have hc:0<=r:=by simpa using hc
  obtain⟨m,rfl,h1,⟨x1,x2,x3,x4,x5⟩,h2⟩:=hP.step hc
  have zl:(ns.map jU).getD r.toNat .any=jU (ns.getD r.toNat zN):=getD_map jU zN ns (by omega)
  rw[F4 hc]at hv
  have hnx:nextR ns f r=(kids ns r.toNat).getD (brK (ns.getD r.toNat zN).2.1 (f.getD (ns.getD r.toNat zN).1.toNat 0)) 0:=rfl
  have hk:kids ns r.toNat=(ns.getD r.toNat zN).2.2.1:=rfl
  rw[hk]at hnx
  have hlt:=a4V hP hc
  generalize ns.getD r.toNat zN=x at *
  simp only[bsX,bsU,simprocAttr,oG,lT,jf,lW,lV,lU,nV,c35]
  refine⟨⟨hc,by simpa using h1⟩,?_⟩
  simp only[zl,jU]
  simp only[bsX,bsU,simprocAttr,oG,lT,jf,lW,lV,lU,nV,c35]
  refine⟨⟨x1,by simpa using x2⟩,?_⟩
  simp only[DL (show x.1.toNat<f.length by omega)]
  simp only[bsX,bsU,simprocAttr,oG,lT,jf,lW,lV,lU,nV,c35]
  refine JF [] ?_
  simp only[bsX,bsU,simprocAttr,oG,lT,jf,lW,lV,lU,nV,c35]
  refine⟨λ_ id hid=>?_,?_⟩
  .simp only[I.ids,St.val,nO,lK,bI]at hid
   subst hid
   exact⟨by decide,by simp⟩
  refine Ui F70.callable ?_
  refine jH.mono (Vy (b1:=3) (b2:=2) (t1:=3) (t2:=70) (a':=.int .i64 x.1) (nx':=x.2.2.1.map e64) (v:=f.getD x.1.toNat 0) (cs:=x.2.1) (by rfl) (by rfl) x3 x4) ?_
  rintro _ _ ⟨rfl,rfl⟩
  have hbl:=uT x.2.1 (f.getD x.1.toNat 0)
  refine⟨λid _ _=>rfl,?_⟩
  simp only[bsX,bsU,simprocAttr,oG,lT,jf,lW,lV,lU,nV,c35]
  refine⟨⟨by omega,by omega⟩,?_⟩
  simp only[DL (show brK x.2.1 (f.getD x.1.toNat 0)<x.2.2.1.length by omega)]
  simp only[bsX,bsU,simprocAttr,oG,lT,jf,lW,lV,lU,nV,c35]
  rw[<- hnx]
  exact⟨⟨m,nextR ns f r,h2,hv,rfl⟩,hlt⟩
 .have hc:r<0:=by simpa using hc
  rw[zL hc]at hv
  subst hv
  simp only[bsX,bsU,simprocAttr,oG,lT,jf,lW,lV,lU,nV,c35]
  refine AP c72 ?_ (h72 r hP.lo hc) rfl ?_;rfl
  simp only[bsX,bsU,simprocAttr,oG,lT,jf,lW,lV,lU,nV,c35]
  refine zq trivial ?_
  simp only[bsX,bsU,simprocAttr,IX,Iw,pq,p9,zk]
  exact Wk.of_eq rfl
end
section
open Go.RowKit
section
variable{P:Program}{Gl:Nat->Option (List AV)}{F:Addr->Option Value}{own:List Ent}{B:Nat}{w0:W0}{σ:St}{act:Act}{w:World}{K:Exit->St->Prop}{code:Code}
def WPx(P:Program)(Gl:Nat->Option (List AV))(B:Nat)(w0:W0)(code:Code)(K:Exit->St->Prop)(σ:St):Prop :=
 ∀F own act w,Inv Gl F own B w0 σ act w->code.wp P (λe a w=>NG e/\nK Gl B w0 (K e) a w) act w
theorem a2C(hm:P.follows .mixedOrders=true){hl:List Nat}{c:C}(hc:cC P hl code=some c)(ha:awp P Gl w0.N c K σ):WPx P Gl B w0 code K σ :=
 λF own act w hI=>CX hm rfl code c hc K σ F own act w ha hI
theorem a0e{K':Exit->St->Prop}(h:WPx P Gl B w0 code K σ)(hk:∀e τ,K e τ->K' e τ):WPx P Gl B w0 code K' σ :=
 λF own act w hI=>wp_mono (h F own act w hI) λe a w ⟨ng,F1,fU,τ,h1,h2⟩=>⟨ng,F1,fU,τ,h1,hk e τ h2⟩
def a8u(P:Program)(Gl:Nat->Option (List AV))(B:Nat)(w0:W0)(b:Code)(K:Exit->St->Prop)(e:Exit)(τ:St):Prop:=match e with|.normal=>WPx P Gl B w0 b K τ|e=>K e τ
theorem a2A{a b:Code}(h:WPx P Gl B w0 a (a8u P Gl B w0 b K) σ):WPx P Gl B w0 (.seq a b) K σ:=λF own act w hI=>by
 refine wp_seq (wp_mono (h F own act w hI) ?_)
 rintro e a1 w1 ⟨ng,F1,fU,τ,hI1,hK⟩
 cases e with
 |normal=>exact hK F1 fU a1 w1 hI1
 |_=>exact⟨ng,F1,fU,τ,hI1,hK⟩
theorem UK{id:Nat}{b:Code}(h:WPx P Gl B w0 b (zI id K) σ):WPx P Gl B w0 (.block id b) K σ:=λF own act w hI=>by
 refine wp_block (wp_mono (h F own act w hI) ?_)
 rintro e a1 w1 ⟨ng,F1,fU,τ,hI1,hK⟩
 cases e with
 |exit i =>
  simp only[Exit.inBlock]
  have hK:(if i=id then K .normal τ else K (.exit i) τ):=hK
  by_cases hi:i=id
  .rw[ak hi]at hK;rw[ak hi];exact⟨o9,F1,fU,τ,hI1,hK⟩
  .rw[au hi]at hK;rw[au hi];exact⟨BJ _,F1,fU,τ,hI1,hK⟩
 |_=>exact⟨ng,F1,fU,τ,hI1,hK⟩
def He(J:Nat->St->Prop)(K:Exit->St->Prop)(n:Nat)(e:Exit)(τ:St):Prop:=match e with|.normal=>∃m,n=m+1/\J m τ|e=>K e τ
theorem JM{J:Nat->St->Prop}{n:Nat}{τ:St}:He J K n .normal τ=∃m,n=m+1/\J m τ:=rfl
theorem NI{J:Nat->St->Prop}{n i:Nat}{τ:St}:He J K n (.exit i) τ=K (.exit i) τ:=rfl
theorem a0f{b:Code}(J:Nat->St->Prop)(n:Nat)(h0:J n σ)(hr:∀m τ,J m τ->WPx P Gl B w0 b (He J K m) τ):WPx P Gl B w0 (.loop b) K σ:=λF own act w hI=>by
 have key:∀(n:Nat) (τ:St) (F:Addr->Option Value) (own:List Ent) (act:Act) (w:World),J n τ->Inv Gl F own B w0 τ act w->Code.rounds P b (λe a w=>NG e/\nK Gl B w0 (K e) a w) (n+1) act w:=by
  intro n
  induction n with
  |zero =>
   intro τ F own act w hJ hI
   rw[rounds_succ]
   refine wp_mono (hr 0 τ hJ F own act w hI) ?_
   rintro e a1 w1 ⟨ng,F1,fU,ρ,hI1,hK⟩
   cases e with
   |normal=>obtain⟨m,q,_⟩:=hK;omega
   |_=>exact⟨ng,F1,fU,ρ,hI1,hK⟩
  |succ n ih =>
   intro τ F own act w hJ hI
   rw[rounds_succ]
   refine wp_mono (hr (n+1) τ hJ F own act w hI) ?_
   rintro e a1 w1 ⟨ng,F1,fU,ρ,hI1,hK⟩
   cases e with
   |normal =>
    obtain⟨m,q,hJ1⟩:=hK
    obtain rfl:m=n:=by omega
    exact ih ρ F1 fU a1 w1 hJ1 hI1
   |_=>exact⟨ng,F1,fU,ρ,hI1,hK⟩
 exact wp_loop_rounds (n+1) (key n σ F own act w h0 hI)
theorem Ce(h:∀F own act w,Inv Gl F own B w0 σ act w->∃F' own' τ,Inv Gl F' own' B w0 τ act w/\WPx P Gl B w0 code K τ):WPx P Gl B w0 code K σ:=λF own act w hI=>by
 obtain⟨F',own',τ,hI',h'⟩:=h F own act w hI
 exact h' F' own' act w hI'
def W0.rem(w0:W0)(n:Nat)(x:Value)(a:AV):W0:=⟨w0.w,w0.F,max w0.N n,(n,x,a)::w0.fr,λq hq=>by
 rcases bU.1 hq with rfl|hq
 .exact Af _ _
 .exact dh (w0.hfr q hq) (wQ _ _),w0.pd,w0.pdn⟩
theorem Inv.rem (h:Inv Gl F own B w0 σ act w) {x:Value} {a:AV} (hR:R F own x a):Inv Gl F own B (w0.rem σ.h.length x a) σ act w :=
  { tl:=h.tl,tr:=h.tr,defers:=h.defers,sub:=h.sub,hl:=h.hl,objs:=h.objs,inj:=h.inj,below:=h.below,base:=h.base,gl:=h.gl,gw:=h.gw,room:=h.room,ext:=h.ext,nJ:=h.nJ,
    nl:=Nat.max_le.2 ⟨h.nl,bM _⟩,
    fr:=fun q hq=>by
      rcases bU.1 hq with rfl|hq
      · show R F (own.take σ.h.length) x a
        rw[gM (by rw[h.hl];exact bM _)];exact hR
      .exact h.fr q hq,
    pd:=h.pd }
theorem Inv.a5C {n:Nat} {x:Value} {a:AV} (h:Inv Gl F own B (w0.rem n x a) σ act w):Inv Gl F own B w0 σ act w :=
  { tl:=h.tl,tr:=h.tr,defers:=h.defers,sub:=h.sub,hl:=h.hl,objs:=h.objs,inj:=h.inj,below:=h.below,base:=h.base,gl:=h.gl,gw:=h.gw,room:=h.room,ext:=h.ext,nJ:=h.nJ,
    nl:=dh (wQ _ _) h.nl,
    fr:=λq hq=>h.fr q (jJ _ hq),
    pd:=h.pd }
theorem Inv.slot (h:Inv Gl F own B w0 σ act w) {i:Nat} {a:AV} (hR:∀ x,act.tmps[i]?=some x->R F own x a):Inv Gl F own B w0 ⟨σ.t.set i a,σ.h⟩ act w :=
  { tl:=by simpa using h.tl,
    tr:=fun j x b p q=>by
      have q:(σ.t.set i a)[j]?=some b:=q
      by_cases hj:i=j
      · subst hj
        rw[dX]at q
        split at q
        · split at q
          .cases q;exact hR x p
          .cases q
        .rename_i hne;exact absurd rfl hne
      .rw[aD hj]at q;exact h.tr j x b p q,
    defers:=h.defers,sub:=h.sub,hl:=h.hl,objs:=h.objs,inj:=h.inj,below:=h.below,base:=h.base,gl:=h.gl,gw:=h.gw,room:=h.room,ext:=h.ext,nJ:=h.nJ,nl:=h.nl,fr:=h.fr,pd:=h.pd }
theorem a2D(i:Nat)(h:WPx P Gl B w0 code K ⟨σ.t.set i .any,σ.h⟩):WPx P Gl B w0 code K σ :=
 Ce λF own act w hI=>⟨F,own,_,hI.slot λx _=>.pure (.any x),h⟩
theorem a2B(l:List Nat):∀{σ:St},WPx P Gl B w0 code K ⟨clr l σ.t,σ.h⟩->WPx P Gl B w0 code K σ:=by
 induction l with
 |nil=>intro σ h;exact h
 |cons i l ih=>intro σ h;exact a2D i (ih (σ:=⟨σ.t.set i .any,σ.h⟩) h)
theorem UJ{t:List AV}{h:List aK}{i id G sz off len:Nat}(hi:t[i]?=some (.row id G sz off len))(H:∀x:Value,x.oneCell'=true->WPx P Gl B (w0.rem h.length x (.row id G sz off len)) code K ⟨t.set i (.v x),h⟩):WPx P Gl B w0 code K ⟨t,h⟩:=λF own act w hI=>by
 have hlt:i<act.tmps.size:=by have:=(aj.1 hi).1;have:=hI.tl;simp only at this;omega
 have hR:=hI.tr i act.tmps[i] _ (aF hlt) hi
 have h1:act.tmps[i].oneCell'=true:=by
  obtain⟨_,_,_,⟨A,c,e,_⟩,_⟩:=hR.mD
  rw[e];rfl
 have hI1:=(hI.rem hR).slot (i:=i) (a:=.v act.tmps[i]) λx hx=>by
  rw[aF hlt]at hx;cases hx;exact .pure (.v _)
 refine wp_mono (H _ h1 F own act w hI1) ?_
 rintro e a1 w1 ⟨ng,F1,fU,τ,hI2,hK⟩
 exact⟨ng,F1,fU,τ,hI2.a5C,hK⟩
theorem PN{t:List AV}{h:List aK}{i n:Nat}{x:Value}{a:AV}(hf:(n,x,a)∈w0.fr)(hi:t[i]?=some (.v x))(H:WPx P Gl B w0 code K ⟨t.set i a,h⟩):WPx P Gl B w0 code K ⟨t,h⟩ :=
 Ce λF own act w hI=>⟨F,own,_,hI.slot λy hy=>by
  have:y=x:=(hI.tr i y _ hy hi).dK
  subst this
  exact(hI.fr _ hf).mono (λ_ _ q=>q) (Le.Ic own n),H⟩
theorem Inv.obj (h:Inv Gl F own B w0 σ act w) {k:Nat} {ob:aK} {es:List AV} (hob:σ.h[k]?=some ob) (h0:0 < ob.sz) (hl:es.length=ob.es.length) (hc:∀ (i:Nat) (x y:AV),ob.es[i]?=some x->es[i]?=some y->y.cells.length=x.cells.length/\∀ (j:Nat) (a b:AV),x.cells[j]?=some a->y.cells[j]?=some b->∀ v,RC F own ob.pr v a->RC F own ob.pr v b) :
  Inv Gl F own B w0 ⟨σ.t,σ.h.set k { ob with es:=es }⟩ act w:=by
 have hk:k<σ.h.length:=(aj.1 hob).1
 refine h.turn (λ_ _ q=>q) (Le.refl _) h.sub (by simp[h.hl]) (λid e o' p q=>?_) h.inj h.below h.base
 have q:(σ.h.set k { ob with es:=es })[id]?=some o':=q
 by_cases hid:k=id
 .subst hid
  rw[aW hk]at q
  cases q
  obtain⟨k1,k2,k3,k4,k5,k6,k7,k8⟩:=(h.objs k e ob p hob).c h0
  have ex:∀(i:Nat) (y:AV),es[i]?=some y->∃x,ob.es[i]?=some x:=λi y hy=>⟨_,ah (by have:=(aj.1 hy).1;omega)⟩
  refine oN.r ⟨by rw[k1];exact hl.symm,k2,k3,k4,⟨k5.1,λq=>by rw[k5.2 q];exact hl.symm⟩,by rw[hl];exact k6,λi y hy=>?_,?_⟩
  .obtain⟨x,hx⟩:=ex i y hy
   rw[(hc i x y hx hy).1];exact k7 i x hx
  .cases hg:e.g with
   |none=>rw[hg]at k8;exact k8
   |some g =>
    rw[hg]at k8
    obtain⟨cs,⟨fr,a1,af⟩,a2,a3,a4⟩:=k8
    refine⟨cs,⟨fr,a1,by rw[hl];exact af⟩,a2,λi j y b r s=>?_,a4⟩
    obtain⟨x,hx⟩:=ex i y r
    obtain⟨q1,q2⟩:=hc i x y hx r
    have hj:j<x.cells.length:=by rw[<- q1];exact(aj.1 s).1
    obtain⟨v,b1,b2,b3⟩:=a3 i j x _ hx (ah hj)
    exact⟨v,b1,b2,q2 j _ b (ah hj) s v b3⟩
 .rw[aD hid]at q
  exact h.objs id e o' p q
theorem a0g {t:List AV} {h:List aK} {n id id2 G k:Nat} {x:Value} {or o2:aK} {p q:AV} (hf:(n,x,.row id G 1 0 G) ∈ w0.fr) (hor:h[id]?=some or) (c1:or.es.length=G) (c2:or.sz=1) (c3:or.pr=true) (ho2:h[id2]?=some o2) (hne:id2 ≠ id) (h2:o2.pr=true) (h3:0 < o2.sz) (hk:o2.es[k]?=some (.agg [p,q,.v x]))
  (H:WPx P Gl B w0 code K ⟨t,(h.set id { or with fz:=or.es.length }).set id2 { o2 with es:=o2.es.set k (.agg [p,q,.list 1 or.es]) }⟩):WPx P Gl B w0 code K ⟨t,h⟩ :=
 Ce λF own act w hI=>by
  obtain⟨F',hF,hI1,hkp⟩:=hI.Ez hor
  have hR:R F own x (.row id G 1 0 G):=(hI.fr _ hf).mono (λ_ _ q=>q) (Le.Ic own n)
  have hRP:=L9 hI hF hR hkp hor c1 c2 c3
  rw[kJ,gM (by omega)]at hRP
  have a9N:(h.set id { or with fz:=or.es.length })[id2]?=some o2:=by rw[aD (λe=>hne e.symm)];exact ho2
  refine⟨F',own,_,hI1.obj (k:=id2) (ob:=o2) (es:=o2.es.set k (.agg [p,q,.list 1 or.es])) a9N h3 (by simp) λi u y hu hy=>?_,H⟩
  by_cases hik:k=i
  .subst hik
   rw[hk]at hu;cases hu
   rw[aW (aj.1 hk).1]at hy;cases hy
   refine⟨rfl,λj a b r s v hv=>?_⟩
   match j,r,s with
   |0,r,s=>cases r;cases s;exact hv
   |1,r,s=>cases r;cases s;exact hv
   |2,r,s =>
    cases r;cases s
    have hv:=hv.r.dK
    subst hv
    unfold RC
    rw[ak h2]
    exact hRP
  .rw[aD hik,hu]at hy
   cases hy
   exact⟨rfl,λj a b r s v hv=>by rw[r]at s;cases s;exact hv⟩
theorem EZ{b:Code}(h:WPx P Gl B w0 b K σ):WPx P Gl B w0 (.scope b) K σ:=λF own act w hI=>by
 refine wp_scope_straight (wp_mono (h F own act w hI) ?_)
 rintro e a1 w1 ⟨ng,hK⟩
 cases e with
 |goto l=>exact absurd rfl (ng l)
 |_=>exact⟨ng,hK⟩
def WPc(P:Program)(Gl:Nat->Option (List AV))(B:Nat)(w0:W0)(c:C)(K:Exit->St->Prop)(σ:St):Prop:=∀(hl:List Nat) (code:Code),cC P hl code=some c->WPx P Gl B w0 code K σ
def Kn(P:Program)(Gl:Nat->Option (List AV))(B:Nat)(w0:W0)(b:C)(K:Exit->St->Prop)(e:Exit)(τ:St):Prop:=match e with|.normal=>WPc P Gl B w0 b K τ|e=>K e τ
theorem Nj{b:C}{τ:St}:Kn P Gl B w0 b K .normal τ=WPc P Gl B w0 b K τ:=rfl
theorem Us{b:C}{τ:St}:Kn P Gl B w0 b K .ret τ=K .ret τ:=rfl
theorem Rz{b:C}{i:Nat}{τ:St}:Kn P Gl B w0 b K (.exit i) τ=K (.exit i) τ:=rfl
theorem kV(hm:P.follows .mixedOrders=true){c:C}(ha:awp P Gl w0.N c K σ):WPc P Gl B w0 c K σ:=λhl code hc=>a2C hm hc ha
theorem lM{a b:C}(h:WPc P Gl B w0 a (Kn P Gl B w0 b K) σ):WPc P Gl B w0 (.seq a b) K σ:=by
 intro hl code
 induction code with
 |seq ca cb _ _ =>
  intro hc
  simp only[cC]at hc
  split at hc
  .rename_i x y hxa hyb
   cases hc
   refine a2A (a0e (h hl ca hxa) λe τ hk=>?_)
   cases e with
   |normal=>exact hk hl cb hyb
   |_=>exact hk
  .cases hc
 |scope b ih=>intro hc;exact EZ (ih hc)
 |region id ops draw =>
  intro hc
  cases draw<;>simp only[cC]at hc
  .cases hq:cL P false ops ops.toList<;>rw[hq]at hc<;>cases hc
  .repeat' split at hc
   all_goals cases hc
 |cond c a b _ _ =>
  intro hc
  simp only[cC]at hc
  split at hc<;>cases hc
 |block id b _=>intro hc;simp only[cC]at hc;cases hq:cC P hl b<;>rw[hq]at hc<;>cases hc
 |loop b _=>intro hc;simp only[cC]at hc;cases hq:cC P hl b<;>rw[hq]at hc<;>cases hc
 |_=>intro hc;cases hc
theorem KL{id:Nat}{b:C}(h:WPc P Gl B w0 b (zI id K) σ):WPc P Gl B w0 (.block id b) K σ:=by
 intro hl code
 induction code with
 |block id' cb _ =>
  intro hc
  simp only[cC]at hc
  cases hq:cC P hl cb with
  |none=>rw[hq]at hc;cases hc
  |some x=>rw[hq]at hc;cases hc;exact UK (h hl cb hq)
 |scope b ih=>intro hc;exact EZ (ih hc)
 |region id ops draw =>
  intro hc
  cases draw<;>simp only[cC]at hc
  .cases hq:cL P false ops ops.toList<;>rw[hq]at hc<;>cases hc
  .repeat' split at hc
   all_goals cases hc
 |cond c a b _ _ =>
  intro hc
  simp only[cC]at hc
  split at hc<;>cases hc
 |seq a b _ _ =>
  intro hc
  simp only[cC]at hc
  split at hc<;>cases hc
 |loop b _=>intro hc;simp only[cC]at hc;cases hq:cC P hl b<;>rw[hq]at hc<;>cases hc
 |_=>intro hc;cases hc
theorem a0j{b:C}(J:Nat->St->Prop)(n:Nat)(h0:J n σ)(hr:∀m τ,J m τ->WPc P Gl B w0 b (He J K m) τ):WPc P Gl B w0 (.loop b) K σ:=by
 intro hl code
 induction code with
 |loop cb _ =>
  intro hc
  simp only[cC]at hc
  cases hq:cC P hl cb with
  |none=>rw[hq]at hc;cases hc
  |some x=>rw[hq]at hc;cases hc;exact a0f J n h0 λm τ hJ=>hr m τ hJ hl cb hq
 |scope b ih=>intro hc;exact EZ (ih hc)
 |region id ops draw =>
  intro hc
  cases draw<;>simp only[cC]at hc
  .cases hq:cL P false ops ops.toList<;>rw[hq]at hc<;>cases hc
  .repeat' split at hc
   all_goals cases hc
 |cond c a b _ _ =>
  intro hc
  simp only[cC]at hc
  split at hc<;>cases hc
 |seq a b _ _ =>
  intro hc
  simp only[cC]at hc
  split at hc<;>cases hc
 |block id b _=>intro hc;simp only[cC]at hc;cases hq:cC P hl b<;>rw[hq]at hc<;>cases hc
 |_=>intro hc;cases hc
theorem jH.ofX {f:FuncId} {fn:Func} {code:Code} {rs:List RV} (hf:P.funcs[f]?=some fn) (hb:fn.body=some code) (hr:xQ P fn.results.toList=some rs) {h0:List aK} {us:List AV} {Q:AV->List aK->Prop}
  (h:∀(B:Nat) (w0:W0),w0.N=h0.length->WPx P Gl B w0 code (EN Gl rs Q) ⟨us++List.replicate (fn.ntmps-us.length) .any,h0⟩):jH P Gl f h0 us Q :=
 jH.ofW hf hb hr λF own B w0 act w hN hI=>wp_mono (h B w0 hN F own act w hI) λe a w q=>q.2
theorem jH.ofC(hm:P.follows .mixedOrders=true){f n:Nat}{c:C}{rs:List RV}(h:Fn P f n c rs){us:List AV}{h0:List aK}{Q:AV->List aK->Prop}{t:List AV}(ht:us++List.replicate (n-us.length) .any=t)(ha:∀(B:Nat) (w0:W0),WPc P Gl B w0 c (EN Gl rs Q) ⟨t,h0⟩):jH P Gl f h0 us Q:=by
 obtain⟨fn,hl,h1,h2,h3,rfl,_⟩:=h
 cases hb:fn.body with
 |none=>rw[hb]at h2;cases h2
 |some code =>
  rw[hb]at h2
  subst ht
  exact jH.ofX h1 hb h3 λB w0 hN=>ha B w0 hl code h2
theorem KJ(l:List Nat)(t':List AV){c:C}{t:List AV}{h:List aK}(e:clr l t=t')(H:WPc P Gl B w0 c K ⟨t',h⟩):WPc P Gl B w0 c K ⟨t,h⟩:=λhl code hc=>a2B l (by rw[e];exact H hl code hc)
theorem UO{c:C}{t:List AV}{h:List aK}{i id G sz off len:Nat}(hi:t[i]?=some (.row id G sz off len))(H:∀x:Value,x.oneCell'=true->WPc P Gl B (w0.rem h.length x (.row id G sz off len)) c K ⟨t.set i (.v x),h⟩):WPc P Gl B w0 c K ⟨t,h⟩:=λhl code hc=>UJ hi λx hx=>H x hx hl code hc
theorem PO{c:C}{t:List AV}{h:List aK}{i n:Nat}{x:Value}{a:AV}(hf:(n,x,a)∈w0.fr)(hi:t[i]?=some (.v x))(H:WPc P Gl B w0 c K ⟨t.set i a,h⟩):WPc P Gl B w0 c K ⟨t,h⟩:=λhl code hc=>PN hf hi (H hl code hc)
theorem a0k {c:C} {t:List AV} {h:List aK} {n id id2 G k:Nat} {x:Value} {or o2:aK} {p q:AV} (hf:(n,x,.row id G 1 0 G) ∈ w0.fr) (hor:h[id]?=some or) (c1:or.es.length=G) (c2:or.sz=1) (c3:or.pr=true) (ho2:h[id2]?=some o2) (hne:id2 ≠ id) (h2:o2.pr=true) (h3:0 < o2.sz) (hk:o2.es[k]?=some (.agg [p,q,.v x]))
  (H:WPc P Gl B w0 c K ⟨t,(h.set id { or with fz:=or.es.length }).set id2 { o2 with es:=o2.es.set k (.agg [p,q,.list 1 or.es]) }⟩):WPc P Gl B w0 c K ⟨t,h⟩:=λhl code hc=>a0g hf hor c1 c2 c3 ho2 hne h2 h3 hk (H hl code hc)
theorem UN{c:C}(h:∀F own act w,Inv Gl F own B w0 σ act w->∃F' own' τ,Inv Gl F' own' B w0 τ act w/\WPc P Gl B w0 c K τ):WPc P Gl B w0 c K σ:=λhl code hc=>Ce λF own act w hI=>by
 obtain⟨F',own',τ,h1,h2⟩:=h F own act w hI
 exact⟨F',own',τ,h1,h2 hl code hc⟩
end
def bsY:=And.intro @lT (And.intro @a5g (And.intro @a2b (And.intro @a19 (And.intro @jf (And.intro @lW (And.intro @lV (And.intro @lU (And.intro @Nj (And.intro @Us (@Rz))))))))))
end
set_option maxRecDepth 100000
def iV(g:List Nat->Int->List Nat×List ND)(s:List Nat×List Int×List ND)(c:Int):List Nat×List Int×List ND:=((g s.1 c).1,s.2.1++[eF (g s.1 c).1 c],s.2.2++(g s.1 c).2)
def fI (ns:List ND):Nat->List Nat->Int->List Nat × List ND
  |0,ord,_=>(ord,[])
  | f + 1, ord, r => if r < 0 \/ r.toNat ∈ ord then (ord, []) else
      (((kids ns r.toNat).foldl (iV (fI ns f)) (ord++[r.toNat],[],[])).1,
       ((ns.getD r.toNat zN).1,(ns.getD r.toNat zN).2.1,((kids ns r.toNat).foldl (iV (fI ns f)) (ord++[r.toNat],[],[])).2.1,())::((kids ns r.toNat).foldl (iV (fI ns f)) (ord++[r.toNat],[],[])).2.2)
theorem Cg(ns:List ND)(f:Nat)(ord:List Nat){r:Int}(h:r<0):fI ns f ord r=(ord,[]):=by
 cases f with
 |zero=>rfl
 |succ f=>simp only[fI];rw[ak (.inl h)]
theorem a0l(ns:List ND)(f:Nat)(ord:List Nat){r:Int}(h:r.toNat∈ord):fI ns f ord r=(ord,[]):=by
 cases f with
 |zero=>rfl
 |succ f=>simp only[fI];rw[ak (.inr h)]
theorem DK{g:List Nat->Int->List Nat×List ND}(hg:∀o c,∃t,(g o c).1=o++t/\(g o c).2.length=t.length):∀(l:List Int) (s:List Nat×List Int×List ND),∃t,(l.foldl (iV g) s).1=s.1++t/\(l.foldl (iV g) s).2.2.length=s.2.2.length+t.length/\(l.foldl (iV g) s).2.1.length=s.2.1.length+l.length:=by
 intro l
 induction l with
 |nil=>intro s;exact⟨[],by simp,by simp,by simp⟩
 |cons c l ih =>
  intro s
  rw[dx]
  obtain⟨t,h1,h2,h3⟩:=ih (iV g s c)
  obtain⟨u,k1,k2⟩:=hg s.1 c
  refine⟨u++t,?_,?_,?_⟩
  .rw[h1];show(g s.1 c).1++t=_;rw[k1,bq]
  .rw[h2];show(s.2.2++(g s.1 c).2).length+_=_;rw[aB,aB,k2];omega
  .rw[h3];show(s.2.1++[_]).length+_=_;rw[aB,bF,cZ,bF];omega
theorem KO(ns:List ND):∀(f:Nat) (ord:List Nat) (r:Int),∃t,(fI ns f ord r).1=ord++t/\(fI ns f ord r).2.length=t.length:=by
 intro f
 induction f with
 |zero=>intro ord r;exact⟨[],by simp[fI],rfl⟩
 |succ f ih =>
  intro ord r
  simp only[fI]
  split
  .exact⟨[],by simp,rfl⟩
  .obtain⟨t,h1,h2,_⟩:=DK (g:=fI ns f) (λo c=>ih o c) (kids ns r.toNat) (ord++[r.toNat],[],[])
   refine⟨r.toNat::t,?_,?_⟩
   .rw[h1];simp
   .rw[bF,h2];simp
theorem Ir{β:Type}(g:β->Int->β)(s:β)(l:List Int)(i:Nat)(h:i<l.length):(l.take (i+1)).foldl g s=g ((l.take i).foldl g s) (l.getD i 0):=by
 rw[cK h,jC,aM,ah h]
 rfl
def yL(ord:List Nat):List AV:=ord.zipIdx.map λq=>.agg [.v (.int .i64 (q.1:Int)),.v (.int .i64 (q.2:Int))]
theorem TD(ord:List Nat)(r:Nat):yL (ord++[r])=yL ord++[.agg [.v (.int .i64 (r:Int)),.v (.int .i64 (ord.length:Int))]]:=by
 unfold yL
 rw[List.zipIdx_append]
 simp
theorem Ik(ord:List Nat):(yL ord).all (KT.int .i64).zo=true:=by
 refine aR.2 λa ha=>?_
 obtain⟨q,_,rfl⟩:=dU.1 ha
 rfl
theorem U2(r:Nat):∀(ord:List Nat) (k i:Nat),oD 1 [.v (.int .i64 (r:Int))] ((ord.zipIdx k).map λq=>.agg [.v (.int .i64 (q.1:Int)),.v (.int .i64 (q.2:Int))]) i=if r∈ord then some (i+ord.idxOf r,.v (.int .i64 ((k+ord.idxOf r:Nat):Int))) else none:=by
 intro ord
 induction ord with
 |nil=>intro k i;rfl
 |cons a ord ih =>
  intro k i
  rw[vL,dw]
  simp only[oD]
  by_cases h:a=r
  .subst h
   rw[ak (by simp[r9,eqC]),ak (by simp)]
   simp
  .rw[au (by simp only[List.take_succ_cons,mG,r9,eqC,j3];simp;omega),ih]
   by_cases hm:r∈ord
   .rw[ak hm,ak (by simp[hm]),List.idxOf_cons]
    have:(a==r)=false:=by simpa using h
    rw[this]
    simp only[cond_false]
    congr 2
    .omega
    .congr 2;omega
   .rw[au hm,au (by simp only[bU,not_or];exact⟨λe=>h e.symm,hm⟩)]
structure Ids where
 m:Nat
 nb:Nat
 dB:Nat
 tB:Nat
 vB:Nat
 cB:Nat
 rB:Nat
 n0:Nat
 x0:AV
 x1:AV
 x2:AV
 x3:AV
 x5:AV
 fz:Nat
structure RD (I:Ids):Prop where
 m:I.m≠I.nb/\I.m≠I.dB/\I.m≠I.tB/\I.m≠I.vB/\I.m≠I.cB/\I.m≠I.rB/\I.m≠I.n0
 d:I.dB≠I.nb/\I.dB≠I.tB/\I.dB≠I.vB/\I.dB≠I.cB/\I.dB≠I.rB/\I.dB≠I.n0
 n:I.n0≠I.nb/\I.n0≠I.tB/\I.n0≠I.vB/\I.n0≠I.cB/\I.n0≠I.rB
structure VH (h:List aK) (I:Ids) (ns:List ND) (ord:List Nat) (nd:List AV):Prop where
 a1:h[I.nb]?=some ⟨82,1,0,false,[.mp I.m]⟩
 a2:h[I.m]?=some ⟨82,0,0,true,yL ord⟩
 a3:h[I.dB]?=some ⟨28,2,0,false,[.agg [.row I.n0 nd.length 3 0 nd.length,.v (.int .i64 0)]]⟩
 a4:h[I.n0]?=some ⟨70,3,0,true,nd⟩
 a5:h[I.tB]?=some ⟨123,1,0,false,[.ptr I.cB 1 0 4]⟩
 a6:h[I.cB]?=some ⟨107,6,0,false,[.agg [I.x0,I.x1,I.x2,I.x3,.row I.rB ns.length 3 0 ns.length,I.x5]]⟩
 a7:h[I.rB]?=some ⟨70,3,I.fz,true,ns.map jU⟩
 a8:h[I.vB]?=some ⟨68,1,0,false,[.clo 87 [.ptr I.nb 1 0 0,.ptr I.dB 1 0 0,.ptr I.tB 1 0 0,.ptr I.vB 1 0 0]]⟩
def qh(I:Ids)(h h':List aK):Prop:=h.length<=h'.length/\∀j,j<h.length->j≠I.m->j≠I.dB->j≠I.n0->h'[j]?=h[j]?
theorem qh.refl(I:Ids)(h:List aK):qh I h h:=⟨bM _,λ_ _ _ _ _=>rfl⟩
theorem qh.trans{I:Ids}{a b c:List aK}(h:qh I a b)(k:qh I b c):qh I a c:=⟨dh h.1 k.1,λj hj h1 h2 h3=>(k.2 j (qQ hj h.1) h1 h2 h3).trans (h.2 j hj h1 h2 h3)⟩
theorem j5{h:List aK}{i:Nat}{o:aK}(e:h[i]?=some o):i<h.length:=(aj.1 e).1
theorem VH.of{h h':List aK}{I:Ids}{ns:List ND}{ord a3i:List Nat}{nd nd':List AV}(hI:RD I)(hV:VH h I ns ord nd)(hs:qh I h h')(e2:h'[I.m]?=some ⟨82,0,0,true,yL a3i⟩)(e3:h'[I.dB]?=some ⟨28,2,0,false,[.agg [.row I.n0 nd'.length 3 0 nd'.length,.v (.int .i64 0)]]⟩)(e4:h'[I.n0]?=some ⟨70,3,0,true,nd'⟩):VH h' I ns a3i nd':=by
 obtain⟨⟨m1,m2,m3,m4,m5,m6,m7⟩,⟨d1,d2,d3,d4,d5,d6⟩,⟨n1,n2,n3,n4,n5⟩⟩:=hI
 have go:∀{j:Nat} {o:aK},h[j]?=some o->I.m≠j->I.dB≠j->I.n0≠j->h'[j]?=some o:=λe q1 q2 q3=>(hs.2 _ (j5 e) (λe=>q1 e.symm) (λe=>q2 e.symm) (λe=>q3 e.symm)).trans e
 exact⟨go hV.a1 m1 d1 n1,e2,e3,e4,go hV.a5 m3 d2 n2,go hV.a6 m5 d4 n4,go hV.a7 m6 d5 n5,go hV.a8 m4 d3 n3⟩
theorem VH.set{h:List aK}{I:Ids}{ns:List ND}{ord:List Nat}{nd:List AV}(hV:VH h I ns ord nd){j:Nat}(hj:j≠I.m/\j≠I.nb/\j≠I.dB/\j≠I.tB/\j≠I.vB/\j≠I.cB/\j≠I.rB/\j≠I.n0)(o:aK):VH (h.set j o) I ns ord nd:=by
 obtain⟨q1,q2,q3,q4,q5,q6,q7,q8⟩:=hj
 exact⟨by rw[aD q2];exact hV.a1,by rw[aD q1];exact hV.a2,by rw[aD q3];exact hV.a3,by rw[aD q8];exact hV.a4,by rw[aD q4];exact hV.a5,by rw[aD q6];exact hV.a6,by rw[aD q7];exact hV.a7,by rw[aD q5];exact hV.a8⟩
section
variable{Gl:Nat->Option (List AV)}
def a8t(h:List aK)(I:Ids)(ns:List ND)(O:List Nat)(idx:Int)(nd:List AV)(res:AV)(h':List aK):Prop:=res=.v (.int .i64 idx)/\VH h' I ns O nd/\qh I h h'
def a4W:List Nat:=[0,5,7,8,12,13,14,15,16,17,18,19,20,21,22,23,24,25,26,27,28,29,30,31,32,33,34,35,36,37,38,39,40,41,42,43,44,45,46,47,48,49,50,51,52,53,54,58,59,60,61,62,63,64,65,66,67,68,69]
def a2R(I:Ids)(n fi:Nat)(ks:List Int)(i:Nat):List AV:=[.any,.ptr I.nb 1 0 0,.ptr I.dB 1 0 0,.ptr I.tB 1 0 0,.ptr I.vB 1 0 0,.any,.v (.int .i64 0),.any,.any,.v (.int .i64 (n:Int)),.ptr fi 1 0 0,.row (fi+1) ks.length 1 0 ks.length,.any,.any,.any,.any,.any,.any,.any,.any,.any,.any,.any,.any,.any,.any,.any,.any,.any,.any,.any,.any,.any,.any,.any,.any,.any,.any,.any,.any,.any,.any,.any,.any,.any,.any,.any,.any,.any,.any,.any,.any,.any,.any,.any,.list 1 (ks.map e64),.v (.int .i64 (ks.length:Int)),.v (.int .i64 (i:Nat)),.any,.any,.any,.any,.any,.any,.any,.any,.any,.any,.any,.any]
set_option maxHeartbeats 4000000 in
theorem a2J {I:Ids} (hI:RD I) {ns:List ND} (hns:∀ i,i < ns.length->∀ c ∈ kids ns i,-1000000000<=c/\c < (i:Int)) (hlen:∀ x ∈ ns,x.2.1.length<=2000000001/\x.2.2.1.length<=2000000001) (hn:ns.length<=1000000) :
  ∀(f:Nat) (ord:List Nat) (nd:List AV) (h:List aK) (r:Int),r<(f:Int)->-1000000000<=r->r<(ns.length:Int)->VH h I ns ord nd->nd.length=ord.length->(fI ns f ord r).1.length<=1000000->
  jH Tryd.prog Gl 87 h [.v (.int .i64 r),.ptr I.nb 1 0 0,.ptr I.dB 1 0 0,.ptr I.tB 1 0 0,.ptr I.vB 1 0 0] (a8t h I ns (fI ns f ord r).1 (eF (fI ns f ord r).1 r) (nd++(fI ns f ord r).2.map jU)):=by
 intro f
 induction f with
 |zero =>
  intro ord nd h r hr hr1 hr2 hV hl hb
  rw[Cg ns 0 ord (by omega)]
  refine F87.Gd jm (t:=[.v (.int .i64 r),.ptr I.nb 1 0 0,.ptr I.dB 1 0 0,.ptr I.tB 1 0 0,.ptr I.vB 1 0 0,.any,.any,.any,.any,.any,.any,.any,.any,.any,.any,.any,.any,.any,.any,.any,.any,.any,.any,.any,.any,.any,.any,.any,.any,.any,.any,.any,.any,.any,.any,.any,.any,.any,.any,.any,.any,.any,.any,.any,.any,.any,.any,.any,.any,.any,.any,.any,.any,.any,.any,.any,.any,.any,.any,.any,.any,.any,.any,.any,.any,.any,.any,.any,.any,.any]) rfl ?_
  simp only[bsX,bsU,simprocAttr,EL,bsY,c87]
  refine uf rfl (λhc=>?_) (λhc=>?_)
  rotate_left
  .have:=tX hc;omega
  simp only[bsX,bsU,simprocAttr,EL,bsY]
  refine sF trivial ?_
  simp only[bsX,bsU,simprocAttr,CZ,pq,p9]
  have e:eF ord r=r:=by unfold eF;rw[ak (by omega)]
  exact⟨by rw[e],hV,qh.refl I h⟩
 |succ f ih =>
  intro ord nd h r hr hr1 hr2 hV hl hb
  by_cases h0:r<0
  .rw[Cg ns _ ord h0]
   refine F87.Gd jm (t:=[.v (.int .i64 r),.ptr I.nb 1 0 0,.ptr I.dB 1 0 0,.ptr I.tB 1 0 0,.ptr I.vB 1 0 0,.any,.any,.any,.any,.any,.any,.any,.any,.any,.any,.any,.any,.any,.any,.any,.any,.any,.any,.any,.any,.any,.any,.any,.any,.any,.any,.any,.any,.any,.any,.any,.any,.any,.any,.any,.any,.any,.any,.any,.any,.any,.any,.any,.any,.any,.any,.any,.any,.any,.any,.any,.any,.any,.any,.any,.any,.any,.any,.any,.any,.any,.any,.any,.any,.any]) rfl ?_
   simp only[bsX,bsU,simprocAttr,EL,bsY,c87]
   refine uf rfl (λhc=>?_) (λhc=>?_)
   rotate_left
   .have:=tX hc;omega
   simp only[bsX,bsU,simprocAttr,EL,bsY]
   refine sF trivial ?_
   simp only[bsX,bsU,simprocAttr,CZ,pq,p9]
   have e:eF ord r=r:=by unfold eF;rw[ak (by omega)]
   exact⟨by rw[e],hV,qh.refl I h⟩
  obtain⟨k,rfl⟩:=Int.eq_ofNat_of_zero_le (show 0<=r by omega)
  have hfind:=U2 k ord 0 0
  have hfind:oD 1 [.v (.int .i64 (k:Int))] (yL ord) 0=_:=hfind
  by_cases hm:k∈ord
  .rw[a0l ns _ ord (by simpa using hm)]
   rw[ak hm]at hfind
   refine F87.Gd jm (t:=[.v (.int .i64 (k:Int)),.ptr I.nb 1 0 0,.ptr I.dB 1 0 0,.ptr I.tB 1 0 0,.ptr I.vB 1 0 0,.any,.any,.any,.any,.any,.any,.any,.any,.any,.any,.any,.any,.any,.any,.any,.any,.any,.any,.any,.any,.any,.any,.any,.any,.any,.any,.any,.any,.any,.any,.any,.any,.any,.any,.any,.any,.any,.any,.any,.any,.any,.any,.any,.any,.any,.any,.any,.any,.any,.any,.any,.any,.any,.any,.any,.any,.any,.any,.any,.any,.any,.any,.any,.any,.any]) rfl ?_
   simp only[bsX,bsU,simprocAttr,EL,bsY,c87]
   refine uf rfl (λhc=>?_) (λhc=>?_)
   .have:=bW hc;omega
   simp only[bsX,bsU,simprocAttr,EL,bsY,hV.a1,hV.a2,hfind,Ik,KT.ok,okI,KT.n,FC]
   refine sF trivial ?_
   simp only[bsX,bsU,simprocAttr,CZ,pq,p9]
   have e:eF ord (k:Int)=((ord.idxOf k:Nat):Int):=by unfold eF;rw[au (by omega),bH]
   exact⟨by rw[e],hV,qh.refl I h⟩
  rw[au hm]at hfind
  have hb1:=j5 hV.a1
  have hb2:=j5 hV.a2
  have hb3:=j5 hV.a3
  have hb4:=j5 hV.a4
  have hb5:=j5 hV.a5
  have hb6:=j5 hV.a6
  have hb7:=j5 hV.a7
  have hb8:=j5 hV.a8
  have hm1:=hI.m
  have hd1:=hI.d
  have hn1:=hI.n
  have hkl:k<ns.length:=by omega
  have zl:(ns.map jU).getD k .any=jU (ns.getD k zN):=getD_map jU zN ns hkl
  have hx:ns.getD k zN∈ns:=by rw[aM,ah hkl];exact aV _
  obtain⟨hx1,hx2⟩:=hlen _ hx
  have hks:kids ns k=(ns.getD k zN).2.2.1:=rfl
  have QO:(kids ns k).length=(ns.getD k zN).2.2.1.length:=rfl
  have hkc:=hns k hkl
  generalize hv0:fI ns (f+1) ord (k:Int)=V at hb ⊢
  have hV0:V=(((kids ns k).foldl (iV (fI ns f)) (ord++[k],[],[])).1,((ns.getD k zN).1,(ns.getD k zN).2.1,((kids ns k).foldl (iV (fI ns f)) (ord++[k],[],[])).2.1,())::((kids ns k).foldl (iV (fI ns f)) (ord++[k],[],[])).2.2):=by
   rw[<- hv0]
   simp only[fI]
   rw[au (by simp only[bH];rintro(q|q);omega;exact hm q),bH]
  subst hV0
  clear hv0
  generalize hx0:ns.getD k zN=x at *
  refine jH.ofC jm F87 (t:=[.v (.int .i64 (k:Int)),.ptr I.nb 1 0 0,.ptr I.dB 1 0 0,.ptr I.tB 1 0 0,.ptr I.vB 1 0 0,.any,.any,.any,.any,.any,.any,.any,.any,.any,.any,.any,.any,.any,.any,.any,.any,.any,.any,.any,.any,.any,.any,.any,.any,.any,.any,.any,.any,.any,.any,.any,.any,.any,.any,.any,.any,.any,.any,.any,.any,.any,.any,.any,.any,.any,.any,.any,.any,.any,.any,.any,.any,.any,.any,.any,.any,.any,.any,.any,.any,.any,.any,.any,.any,.any]) rfl λB w0=>?_
  show WPc _ _ _ _ c87 _ _
  unfold c87
  refine lM (kV jm ?_)
  simp only[bsX,bsU,simprocAttr,bsY,Qq]
  refine lM (kV jm ?_)
  simp only[bsX,bsU,simprocAttr,bsY,Qp]
  refine uf rfl (λhc=>?_) (λhc=>?_)
  .have:=bW hc;omega
  simp only[bsX,bsU,simprocAttr,bsY]
  refine lM (kV jm ?_)
  simp only[bsX,bsU,simprocAttr,bsY,Qo,Qn,hV.a1,hV.a2,hfind,Ik,KT.ok,okI,KT.n,FC]
  refine lM (kV jm ?_)
  simp only[bsX,bsU,simprocAttr,bsY,Qm,hV.a3]
  refine lM (kV jm ?_)
  simp only[bsX,bsU,simprocAttr,bsY,Ql,hV.a1,hV.a2,hfind,Ik,KT.ok,okI,KT.n,FC]
  have s1:qh I h (h.set I.m ⟨82,0,0,true,yL (ord++[k])⟩):=⟨by simp,λj hj q1 q2 q3=>by rw[aD (λe=>q1 e.symm)]⟩
  have V1:VH (h.set I.m ⟨82,0,0,true,yL (ord++[k])⟩) I ns (ord++[k]) nd:=VH.of hI hV s1 (aW hb2) (by rw[aD (by omega)];exact hV.a3) (by rw[aD (by omega)];exact hV.a4)
  rw[show yL ord++[AV.agg [.v (.int .i64 (k:Int)),.v (.int .i64 (nd.length:Int))]]=yL (ord++[k]) by rw[TD,hl]]
  generalize h.set I.m ⟨82,0,0,true,yL (ord++[k])⟩=h1 at s1 V1
  have hb3:=j5 V1.a3
  have hb4:=j5 V1.a4
  refine lM (kV jm ?_)
  simp only[bsX,bsU,simprocAttr,bsY,Qk,V1.a5,V1.a6,V1.a7,dJ,kL]
  refine⟨⟨by omega,by omega⟩,hkl,?_⟩
  simp only[zl,jU]
  simp only[bsX,bsU,simprocAttr,bsY,dJ,kL]
  generalize hfb:(⟨70,3,0,false,[AV.agg [.v (.int .i64 x.1),.list 1 (x.2.1.map e64),.list 1 (x.2.2.1.map e64)]]⟩:aK)=fb
  have hfe:fb.es=[AV.agg [.v (.int .i64 x.1),.list 1 (x.2.1.map e64),.list 1 (x.2.2.1.map e64)]]:=by rw[<- hfb]
  have hfs:fb.sz=3:=by rw[<- hfb]
  refine lM (kV jm ?_)
  simp only[bsX,bsU,simprocAttr,bsY,Qj,dJ,kL,hfe,hfs]
  refine⟨⟨by omega,by unfold lN;omega,by omega⟩,?_⟩
  refine KJ [5,7,8,12,13,14,15,16,17,18,19,20,21,22,23,24,25,26,27,28,29,30,31,32,33,34,35,36,37,38,39,40,41,42,43,44,45,46,47,48,49,50,51,52,53,54,55,56,57,58,59,60,61,62,63,64,65,66,67,68,69] [.v (.int .i64 (k:Int)),.ptr I.nb 1 0 0,.ptr I.dB 1 0 0,.ptr I.tB 1 0 0,.ptr I.vB 1 0 0,.any,.v (.int .i64 0),.any,.any,.v (.int .i64 (nd.length:Int)),.ptr h1.length 1 0 0,.row (h1++[fb]).length x.2.2.1.length 1 0 x.2.2.1.length,.any,.any,.any,.any,.any,.any,.any,.any,.any,.any,.any,.any,.any,.any,.any,.any,.any,.any,.any,.any,.any,.any,.any,.any,.any,.any,.any,.any,.any,.any,.any,.any,.any,.any,.any,.any,.any,.any,.any,.any,.any,.any,.any,.any,.any,.any,.any,.any,.any,.any,.any,.any,.any,.any,.any,.any,.any,.any] ?_ ?_
  .kernel_rfl
  have hN1:(h1++[fb]++[(⟨3,1,0,true,List.replicate x.2.2.1.length (.v (.int .i64 0))⟩:aK)]).length=h1.length+2:=by simp
  have hS3:qh I h1 (h1++[fb]++[(⟨3,1,0,true,List.replicate x.2.2.1.length (.v (.int .i64 0))⟩:aK)]):=⟨by omega,λj hj _ _ _=>by rw[bq,aJ hj]⟩
  have hlow:∀j,j<h1.length->(h1++[fb]++[(⟨3,1,0,true,List.replicate x.2.2.1.length (.v (.int .i64 0))⟩:aK)])[j]?=h1[j]?:=λj hj=>by rw[bq,aJ hj]
  have V3:=VH.of hI V1 hS3 ((hlow _ (j5 V1.a2)).trans V1.a2) ((hlow _ hb3).trans V1.a3) ((hlow _ hb4).trans V1.a4)
  have hfi:(h1++[fb]++[(⟨3,1,0,true,List.replicate x.2.2.1.length (.v (.int .i64 0))⟩:aK)])[h1.length]?=some fb:=by rw[bq,aL (bM _)];simp
  have hni:(h1++[fb]++[(⟨3,1,0,true,List.replicate x.2.2.1.length (.v (.int .i64 0))⟩:aK)])[h1.length+1]?=some ⟨3,1,0,true,List.replicate x.2.2.1.length (.v (.int .i64 0))⟩:=by rw[aL (by simp)];simp
  rw[show(h1++[fb]).length=h1.length+1 by simp]
  have a4E:=s1.trans hS3
  generalize h1++[fb]++[(⟨3,1,0,true,List.replicate x.2.2.1.length (.v (.int .i64 0))⟩:aK)]=h3 at hN1 hfi hni V3 a4E
  have Mk:I.m<h1.length/\I.nb<h1.length/\I.dB<h1.length/\I.tB<h1.length/\I.vB<h1.length/\I.cB<h1.length/\I.rB<h1.length/\I.n0<h1.length:=⟨j5 V1.a2,j5 V1.a1,j5 V1.a3,j5 V1.a5,j5 V1.a8,j5 V1.a6,j5 V1.a7,j5 V1.a4⟩
  have hh1:h.length<=h1.length:=s1.1
  clear hlow hS3 s1
  generalize h1.length=fi at *
  refine UO (i:=11) (by rfl) λxv hxv=>?_
  refine lM (kV jm (JF [] ?_))
  have hq4:∀a b:aK,(h3++[a]++[b])[I.n0]?=some ⟨70,3,0,true,nd⟩:=λa b=>by rw[bq,aJ (by omega)];exact V3.a4
  have hq3:∀a b o:aK,((h3++[a]++[b]).set I.n0 o)[I.dB]?=some ⟨28,2,0,false,[.agg [.row I.n0 nd.length 3 0 nd.length,.v (.int .i64 0)]]⟩:=λa b o=>by rw[aD (by omega),bq,aJ (by omega)];exact V3.a3
  simp only[bsX,bsU,simprocAttr,bsY,Lr,dJ,kL,hfe,hfs,hfi,V3.a3,hxv]
  refine⟨λ_ id hid=>?_,?_⟩
  .simp only[Abs.I.ids,St.val,nO,lK,bI]at hid
   subst hid
   exact⟨by omega,by simp⟩
  refine⟨λ_ id hid=>?_,?_⟩
  .simp only[Abs.I.ids,St.val,nO,lK,bI]at hid
   subst hid
   exact⟨by omega,by simp⟩
  have hL1:∀c:aK,(h3++[c]).length=h3.length+1:=λc=>by simp
  have hq5:∀a b:aK,(h3++[a]++[b])[h3.length+1]?=some b:=λa b=>by rw[aL (by simp)];simp
  have htk:List.take x.2.1.length (x.2.1.map e64)=x.2.1.map e64:=by rw[gM (by simp)]
  have a4k:=hxv
  simp only[Value.oneCell']at a4k
  simp only[bsX,bsU,simprocAttr,bsY,yQ,dJ,kL,hfe,hfs,hfi,V3.a3,hxv,hq3,hq4,kJ,eY,Ah]
  refine⟨⟨by unfold lN;omega,by omega⟩,λid hid _=>aJ hid,?_⟩
  simp only[bsX,bsU,simprocAttr,bsY,yQ,dJ,kL,hfe,hfs,hfi,V3.a3,hxv,a4k,hL1,hq5,htk,hq3,hq4,kJ,eY,Ah]
  refine⟨λid hid _=>by rw[bq,aJ hid,aJ hid],?_⟩
  have hpre:=DK (g:=fI ns f) (λo c=>KO ns f o c)
  have hfin:=hpre (kids ns k) (ord++[k],[],[])
  have hL0:ord.length+1<=1000000:=by
   obtain⟨t,q1,q2,q3⟩:=hfin
   have q4:(((kids ns k).foldl (iV (fI ns f)) (ord++[k],[],[])).1).length<=1000000:=hb
   rw[q1]at q4
   simp only[aB,bF,cZ]at q4
   omega
  refine⟨⟨by unfold lN;omega,by omega⟩,?_⟩
  generalize hP:(AV.agg [.v (.int .i64 x.1),.list 1 (x.2.1.map e64),.v xv]:AV)=Pv
  have b0k:=j5 V3.a3
  have b0j:=j5 V3.a4
  generalize hh4:(((h3++[(⟨3,1,x.2.1.length,true,x.2.1.map e64⟩:aK)]++[(⟨70,3,0,true,[Pv]⟩:aK)]).set I.n0 (⟨70,3,0,true,nd++[Pv]⟩:aK)).set I.dB (⟨28,2,0,false,[AV.agg [AV.row I.n0 (nd.length+1) 3 0 (nd.length+1),.v (.int .i64 0)]]⟩:aK))=h4
  have hlow:∀j,j<h3.length->j≠I.n0->j≠I.dB->h4[j]?=h3[j]?:=λj hj q1 q2=>by
   rw[<- hh4,aD (λe=>q2 e.symm),aD (λe=>q1 e.symm),bq,aJ hj]
  have hl4:h4.length=h3.length+2:=by rw[<- hh4];simp
  have a4D:qh I h3 h4:=⟨by omega,λj hj q1 q2 q3=>hlow j hj q3 q2⟩
  have V4:VH h4 I ns (ord++[k]) (nd++[Pv]):=VH.of hI V3 a4D ((hlow _ (by omega) (by omega) (by omega)).trans V3.a2)
   (by rw[<- hh4,aW (by simp;omega)];simp)
   (by rw[<- hh4,aD (by omega),aW (by simp;omega)])
  have a4y:h4[fi]?=some fb:=(hlow _ (by omega) (by omega) (by omega)).trans hfi
  have a9O:h4[fi+1]?=some ⟨3,1,0,true,List.replicate x.2.2.1.length (.v (.int .i64 0))⟩:=(hlow _ (by omega) (by omega) (by omega)).trans hni
  have hS4:=a4E.trans a4D
  clear hh4 hlow
  refine PO (i:=11) (List.Mem.head _) (by rfl) ?_
  refine KJ [5,7,8,12,13,14,15,16,17,18,19,20,21,22,23,24,25,26,27,28,29,30,31,32,33,34,35,36,37,38,39,40,41,42,43,44,45,46,47,48,49,50,51,52,53,54,55,56,57,58,59,60,61,62,63,64,65,66,67,68,69] [.v (.int .i64 (k:Int)),.ptr I.nb 1 0 0,.ptr I.dB 1 0 0,.ptr I.tB 1 0 0,.ptr I.vB 1 0 0,.any,.v (.int .i64 0),.any,.any,.v (.int .i64 (nd.length:Int)),.ptr fi 1 0 0,.row (fi+1) x.2.2.1.length 1 0 x.2.2.1.length,.any,.any,.any,.any,.any,.any,.any,.any,.any,.any,.any,.any,.any,.any,.any,.any,.any,.any,.any,.any,.any,.any,.any,.any,.any,.any,.any,.any,.any,.any,.any,.any,.any,.any,.any,.any,.any,.any,.any,.any,.any,.any,.any,.any,.any,.any,.any,.any,.any,.any,.any,.any,.any,.any,.any,.any,.any,.any] ?_ ?_
  .kernel_rfl
  have hmem:(h3.length,xv,AV.row (fi+1) x.2.2.1.length 1 0 x.2.2.1.length)∈(w0.rem h3.length xv (AV.row (fi+1) x.2.2.1.length 1 0 x.2.2.1.length)).fr:=List.Mem.head _
  generalize w0.rem h3.length xv (AV.row (fi+1) x.2.2.1.length 1 0 x.2.2.1.length)=w1 at hmem ⊢
  refine lM (lM (kV jm ?_))
  simp only[bsX,bsU,simprocAttr,bsY,Lp,a4y,hfe,hfs]
  obtain⟨J,hJ⟩:∃J:Nat->St->Prop,∀m τ,J m τ↔(∃i hh,i<=(kids ns k).length/\m=(kids ns k).length-i/\VH hh I ns (((kids ns k).take i).foldl (iV (fI ns f)) (ord++[k],[],[])).1 (nd++[Pv]++(((kids ns k).take i).foldl (iV (fI ns f)) (ord++[k],[],[])).2.2.map jU)/\hh[fi]?=some fb/\hh[fi+1]?=some ⟨3,1,0,true,((((kids ns k).take i).foldl (iV (fI ns f)) (ord++[k],[],[])).2.1++List.replicate ((kids ns k).length-i) 0).map e64⟩/\qh I h hh/\clr a4W τ.t=a2R I nd.length fi x.2.2.1 i/\τ.h=hh):=⟨_,λ_ _=>Iff.rfl⟩
  refine KL (a0j J (kids ns k).length ((hJ _ _).2 ⟨0,h4,by omega,by omega,?_,a4y,?_,hS4,?_,rfl⟩) ?_)
  .simpa using V4
  .rw[a9O,hks];simp[e64]
  .kernel_rfl
  intro m τ hJm
  obtain⟨i,hh,hi,hmi,V5,WL,DJ,hS5,htt,rfl⟩:=(hJ _ _).1 hJm
  clear hJm
  obtain⟨tt,hh⟩:=τ
  replace V5:VH hh _ _ _ _:=V5
  replace WL:hh[fi]?=_:=WL
  replace DJ:hh[fi+1]?=_:=DJ
  replace hS5:qh I h hh:=hS5
  replace htt:clr a4W tt=_:=htt
  refine KJ _ _ htt ?_
  unfold a2R
  show WPc _ _ _ _ Ma _ _
  unfold Ma
  have Kj:∀j,j<=(kids ns k).length->(((kids ns k).take j).foldl (iV (fI ns f)) (ord++[k],[],[])).1.length<=1000000:=λj hj=>by
   have q4:(((kids ns k).foldl (iV (fI ns f)) (ord++[k],[],[])).1).length<=1000000:=hb
   rw[<- oI j (kids ns k),jC]at q4
   obtain⟨t,q1,_,_⟩:=hpre ((kids ns k).drop j) (((kids ns k).take j).foldl (iV (fI ns f)) (ord++[k],[],[]))
   rw[q1,aB]at q4
   omega
  obtain⟨tp,p1,p2,p3⟩:=hpre ((kids ns k).take i) (ord++[k],[],[])
  refine lM (kV jm ?_)
  simp only[bsX,bsU,simprocAttr,bsY,Lm]
  refine lM (kV jm ?_)
  refine uf rfl (λhc=>?_) (λhc=>?_)
  .have hc:(i:Int)<((x.2.2.1.length:Nat):Int):=bW hc
   have hc:i<x.2.2.1.length:=by omega
   simp only[bsX,bsU,simprocAttr,bsY]
   refine lM (KL (lM (kV jm ?_)))
   simp only[bsX,bsU,simprocAttr,bsY,Ll]
   refine⟨⟨by omega,by omega⟩,?_⟩
   simp only[DL hc]
   simp only[bsX,bsU,simprocAttr,bsY,dJ,kL]
   have hcm:x.2.2.1.getD i 0∈kids ns k:=by rw[hks,aM,ah hc];exact aV _
   obtain⟨c1,c2⟩:=hkc _ hcm
   have hstep:=Ir (iV (fI ns f)) (ord++[k],[],[]) (kids ns k) i (by rw[hks];exact hc)
   rw[show(kids ns k).getD i 0=x.2.2.1.getD i 0 by rw[hks]]at hstep
   have hf1:=Kj (i+1) (by rw[hks];omega)
   rw[hstep]at hf1
   have hih:=ih (((kids ns k).take i).foldl (iV (fI ns f)) (ord++[k],[],[])).1 _ hh (x.2.2.1.getD i 0) (by omega) c1 (by omega) V5 (by rw[p1];simp only[aB,bR,bF,cZ,p2];omega) hf1
   generalize (((kids ns k).take i).foldl (iV (fI ns f)) (ord++[k],[],[]))=S at hstep hih V5 DJ p1 p2 p3
   generalize x.2.2.1.getD i 0=c at hstep hih c1 c2 hcm
   have hV8:=V5.a8
   refine kV jm ?_
   simp only[bsX,bsU,simprocAttr,bsY,Lj,hV8]
   refine .inl ⟨rfl,87,_,rfl,F87.callable,?_⟩
   refine jH.mono hih ?_
   rintro _ h5 ⟨rfl,V6,hS6⟩
   have a9P:=j5 DJ
   have hn6:=(hS6.2 (fi+1) a9P (by omega) (by omega) (by omega)).trans DJ
   have hf6:=(hS6.2 fi (by omega) (by omega) (by omega) (by omega)).trans WL
   have hSl:S.2.1.length=i:=by rw[p3];simp only[bL,cZ];omega
   have hsc:(iV (fI ns f) S c).2.1=S.2.1++[eF (fI ns f S.1 c).1 c]:=rfl
   have hsc1:(iV (fI ns f) S c).1=(fI ns f S.1 c).1:=rfl
   have hsc2:(iV (fI ns f) S c).2.2=S.2.2++(fI ns f S.1 c).2:=rfl
   have hes:((S.2.1++List.replicate ((kids ns k).length-i) 0).map e64).set i (.v (.int .i64 (eF (fI ns f S.1 c).1 c)))=((iV (fI ns f) S c).2.1++List.replicate ((kids ns k).length-(i+1)) 0).map e64:=by
    rw[hsc,dS,dS,dS,vX _ _ (by rw[bR];omega),bR,hSl,ou,hks,show x.2.2.1.length-i=(x.2.2.1.length-(i+1))+1 by omega,List.replicate_succ,dw,yA,bq]
    rfl
   have hel:((S.2.1++List.replicate ((kids ns k).length-i) 0).map e64).length=x.2.2.1.length:=by rw[bR,aB,bV,hSl,hks];omega
   have heg:((S.2.1++List.replicate ((kids ns k).length-i) 0).map e64).getD i .any=.v (.int .i64 ((S.2.1++List.replicate ((kids ns k).length-i) 0).getD i 0)):=DL (by rw[aB,bV,hSl,hks];omega)
   generalize (S.2.1++List.replicate ((kids ns k).length-i) 0).map e64=es6 at hn6 hes hel heg
   have e1:IntKind.i64.wrap ((i:Int)+1)=((i+1:Nat):Int):=by rw[wrap64 (by omega) (by omega)];omega
   simp only[bsX,bsU,simprocAttr,bsY,Li,hn6,hel,heg]
   refine⟨⟨by omega,by omega⟩,⟨hc,by omega⟩,?_⟩
   simp only[bsX,bsU,simprocAttr,bsY,hes]
   refine kV jm ?_
   simp only[bsX,bsU,simprocAttr,bsY,JM]
   rw[e1]
   have V7:VH (h5.set (fi+1) ⟨3,1,0,true,((iV (fI ns f) S c).2.1++List.replicate ((kids ns k).length-(i+1)) 0).map e64⟩) I ns (iV (fI ns f) S c).1 (nd++[Pv]++(iV (fI ns f) S c).2.2.map jU):=by
    rw[hsc1,hsc2,dS (f:=jU),<- bq]
    exact V6.set (by omega) _
   have a4C:=hS5.trans hS6
   refine⟨m-1,by omega,(hJ _ _).2 ⟨i+1,_,by omega,by omega,?_,?_,?_,?_,by kernel_rfl,rfl⟩⟩
   .rw[hstep];exact V7
   .show(h5.set (fi+1) _)[fi]?=_
    rw[aD (by omega)];exact hf6
   .show(h5.set (fi+1) _)[fi+1]?=_
    rw[aW (j5 hn6),hstep]
   .show qh I h (h5.set (fi+1) _)
    exact⟨by rw[bT];exact a4C.1,λj hj q1 q2 q3=>by rw[aD (by omega)];exact a4C.2 j hj q1 q2 q3⟩
  .have hc:¬(i:Int)<((x.2.2.1.length:Nat):Int):=tX hc
   obtain rfl:i=(kids ns k).length:=by omega
   rw[eY]at V5 DJ p1 p2 p3
   rw[ou,List.replicate_zero,bS]at DJ
   generalize (kids ns k).foldl (iV (fI ns f)) (ord++[k],[],[])=S at *
   simp only[bsX,bsU,simprocAttr,bsY,NI]
   have hSl:S.2.1.length=x.2.2.1.length:=by rw[p3];simp only[cZ];omega
   have hat:(nd++[Pv]++S.2.2.map jU)[nd.length]?=some (AV.agg [.v (.int .i64 x.1),.list 1 (x.2.1.map e64),.v xv]):=by
    rw[bq,aL (bM _),ou,hP];rfl
   refine a0k hmem DJ (by simp only[bR];omega) rfl rfl V5.a4 (by omega) rfl (show 0<3 by decide) hat ?_
   have hes:(nd++[Pv]++S.2.2.map jU).set nd.length (AV.agg [.v (.int .i64 x.1),.list 1 (x.2.1.map e64),.list 1 (S.2.1.map e64)])=nd++AV.agg [.v (.int .i64 x.1),.list 1 (x.2.1.map e64),.list 1 (S.2.1.map e64)]::S.2.2.map jU:=by
    rw[bq,vX _ _ (bM _),ou];rfl
   have V6:=V5.set (j:=fi+1) (by omega) (⟨3,1,S.2.1.length,true,S.2.1.map e64⟩:aK)
   have hS6:qh I h ((hh.set (fi+1) (⟨3,1,S.2.1.length,true,S.2.1.map e64⟩:aK)).set I.n0 (⟨70,3,0,true,nd++AV.agg [.v (.int .i64 x.1),.list 1 (x.2.1.map e64),.list 1 (S.2.1.map e64)]::S.2.2.map jU⟩:aK)):=⟨by rw[bT,bT];exact hS5.1,λj hj q1 q2 q3=>by rw[aD (λe=>q3 e.symm),aD (by omega)];exact hS5.2 j hj q1 q2 q3⟩
   have V7:VH ((hh.set (fi+1) (⟨3,1,S.2.1.length,true,S.2.1.map e64⟩:aK)).set I.n0 (⟨70,3,0,true,nd++AV.agg [.v (.int .i64 x.1),.list 1 (x.2.1.map e64),.list 1 (S.2.1.map e64)]::S.2.2.map jU⟩:aK)) I ns S.1 (nd++AV.agg [.v (.int .i64 x.1),.list 1 (x.2.1.map e64),.list 1 (S.2.1.map e64)]::S.2.2.map jU):=by
    refine VH.of hI V6 ⟨by simp,λj _ _ _ q3=>by rw[aD (λe=>q3 e.symm)]⟩ (by rw[aD (by omega)];exact V6.a2) ?_ (aW (j5 V6.a4))
    rw[aD (by omega),V6.a3]
    simp
   rw[show(⟨3,1,0,true,S.2.1.map e64⟩:aK).es=S.2.1.map e64 from rfl,show(⟨70,3,0,true,nd++[Pv]++S.2.2.map jU⟩:aK).es=nd++[Pv]++S.2.2.map jU from rfl,hes]
   refine kV jm ?_
   simp only[bsX,bsU,simprocAttr,bsY,Lh]
   refine sF trivial ?_
   simp only[bsX,bsU,simprocAttr,CZ,pq,p9]
   refine⟨?_,V7,hS6⟩
   have hid:S.1.idxOf k=ord.length:=by
    rw[p1]
    show((ord++[k])++tp).idxOf k=_
    rw[bq,uL,au hm]
    simp
   have e:eF S.1 (k:Int)=(ord.length:Int):=by unfold eF;rw[au (by omega),bH,hid]
   rw[e,hl]
end
set_option maxRecDepth 100000
section
variable{Gl:Nat->Option (List AV)}
theorem a2H {P:Program} {B:Nat} {w0:W0} {K:Exit->St->Prop} {c:C} {t:List AV} {h:List aK} {k o ty sz:Nat} {ob:aK} {e0:AV} (hob:h[k]?=some ob) (hes:ob.es=[e0]) (hpr:ob.pr=false) (ho:e0.cells[o]?=some (.v (.slice none 0 0))) (hz:0 < sz)
  (H:WPc P Gl B w0 c K ⟨t,(h++[(⟨ty,sz,0,true,[]⟩:aK)]).set k { ob with es:=[Dg e0 o (.row h.length 0 sz 0 0)] }⟩):WPc P Gl B w0 c K ⟨t,h⟩:=UN λF own act w hI=>by
 have hrow:R F (own++[(⟨none,0,sz,0⟩:Ent)]) (.slice none 0 0) (.row h.length 0 sz 0 0):=by
  have e:own.length=h.length:=hI.hl
  rw[<- e]
  exact .row _ _ _ _ _ _ _ lF (by simp) ⟨_,_,rfl,by simp,λq=>by simp at q⟩ (λ_=>⟨rfl,by simp,λ_=>⟨_,iH (dR _),by simp⟩⟩) (by first|assumption|(show 0<sz;omega)|(show 0<_;assumption))
 have hk:k<h.length:=j5 hob
 exact⟨F,_,_,(hI.Dv ty sz true hz).P7 (by show(h++[_])[k]?=_;rw[aJ hk];exact hob) hes hpr ho hrow rfl,H⟩
set_option maxHeartbeats 4000000 in
theorem a8k {ns:List ND} (hns:∀ i,i < ns.length->∀ c ∈ kids ns i,-1000000000<=c/\c < (i:Int)) (hlen:∀ x ∈ ns,x.2.1.length<=2000000001/\x.2.2.1.length<=2000000001) (hn:ns.length<=1000000) {h:List aK} {cB rB fz:Nat} {x0 x1 x2 x3 x5:AV}
  (hc:h[cB]?=some ⟨107,6,0,false,[.agg [x0,x1,x2,x3,.row rB ns.length 3 0 ns.length,x5]]⟩) (hr:h[rB]?=some ⟨70,3,fz,true,ns.map jU⟩) {r:Int} (hr1:-1000000000<=r) (hr2:r<(ns.length:Int)) (hb:(fI ns ns.length [] r).1.length<=1000000) :
  jH Tryd.prog Gl 68 h [.ptr cB 1 0 4,.v (.int .i64 r)] (λres h'=>∃n0,h.length<=n0/\h.length<=h'.length/\(∀j,j<h.length->h'[j]?=h[j]?)/\h'[n0]?=some ⟨70,3,0,true,(fI ns ns.length [] r).2.map jU⟩/\res=.agg [.row n0 (fI ns ns.length [] r).2.length 3 0 (fI ns ns.length [] r).2.length,.v (.int .i64 (eF (fI ns ns.length [] r).1 r))]):=by
 have hcl:=j5 hc
 have hrl:=j5 hr
 have hne:cB≠rB:=λe=>by rw[e,hr]at hc;cases hc
 refine jH.ofC jm F68 (t:=[.ptr cB 1 0 4,.v (.int .i64 r),.any,.any,.any,.any,.any,.any,.any,.any,.any,.any,.any,.any,.any,.any,.any,.any,.any,.any]) rfl λB w0=>?_
 show WPc _ _ _ _ c68 _ _
 unfold c68
 refine lM (kV jm ?_)
 simp only[bsX,bsU,simprocAttr,bsY,Y2,dJ,kL]
 refine lM (kV jm ?_)
 simp only[bsX,bsU,simprocAttr,bsY,Y1,dJ,kL]
 have k0:∀a b c:aK,(h++[a]++[b]++[c])[h.length]?=some a:=λa b c=>by rw[bq,bq,aL (bM _)];simp
 have kc:∀a b c:aK,(h++[a]++[b]++[c])[cB]?=_:=λa b c=>by rw[bq,bq,aJ hcl]
 refine lM (kV jm ?_)
 simp only[bsX,bsU,simprocAttr,bsY,Y0,dJ,kL,k0,kc,hc]
 refine lM (kV jm ?_)
 simp only[bsX,bsU,simprocAttr,bsY,XZ,dJ,kL]
 refine lM (kV jm ?_)
 simp only[bsX,bsU,simprocAttr,bsY,XY,dJ,kL]
 have e1:(h++[(⟨123,1,0,false,[AV.ptr cB 1 0 4]⟩:aK)]).length=h.length+1:=by simp
 have e2:∀a:aK,(h++[(⟨123,1,0,false,[AV.ptr cB 1 0 4]⟩:aK)]++[a]).length=h.length+2:=λa=>by simp
 have e3:∀a b:aK,(h++[(⟨123,1,0,false,[AV.ptr cB 1 0 4]⟩:aK)]++[a]++[b]).length=h.length+3:=λa b=>by simp
 have e4:∀a b c:aK,(h++[(⟨123,1,0,false,[AV.ptr cB 1 0 4]⟩:aK)]++[a]++[b]++[c]).length=h.length+4:=λa b c=>by simp
 have e5:∀a b c d:aK,(h++[(⟨123,1,0,false,[AV.ptr cB 1 0 4]⟩:aK)]++[a]++[b]++[c]++[d]).length=h.length+5:=λa b c d=>by simp
 simp only[e1,e2,e3,e4,e5]
 clear e1 e2 e3 e4 e5
 generalize hH:h++[(⟨123,1,0,false,[AV.ptr cB 1 0 4]⟩:aK)]++[(⟨28,2,0,false,[AV.agg [AV.v (.slice none 0 0),AV.v (.int .i64 0)]]⟩:aK)]++[(⟨28,2,0,false,[AV.agg [AV.v (.slice none 0 0),AV.v (.int .i64 0)]]⟩:aK)]++[(⟨82,0,0,true,[]⟩:aK)]++[(⟨82,1,0,false,[AV.mp (h.length+3)]⟩:aK)]++[(⟨68,1,0,false,[AV.clo 87 [.ptr (h.length+4) 1 0 0,.ptr (h.length+2) 1 0 0,.ptr h.length 1 0 0,.ptr (h.length+5) 1 0 0]]⟩:aK)]=H6
 have hlow:∀j,j<h.length->H6[j]?=h[j]?:=λj hj=>by rw[<- hH];simp only[bq];rw[aJ hj]
 have hl6:H6.length=h.length+6:=by rw[<- hH];simp
 have hat:∀k,H6[h.length+k]?=([(⟨123,1,0,false,[AV.ptr cB 1 0 4]⟩:aK),⟨28,2,0,false,[AV.agg [AV.v (.slice none 0 0),AV.v (.int .i64 0)]]⟩,⟨28,2,0,false,[AV.agg [AV.v (.slice none 0 0),AV.v (.int .i64 0)]]⟩,⟨82,0,0,true,[]⟩,⟨82,1,0,false,[AV.mp (h.length+3)]⟩,⟨68,1,0,false,[AV.clo 87 [.ptr (h.length+4) 1 0 0,.ptr (h.length+2) 1 0 0,.ptr h.length 1 0 0,.ptr (h.length+5) 1 0 0]]⟩]:List aK)[k]?:=λk=>by
  rw[<- hH];simp only[bq,mq,fP];rw[aL (by omega),uz]
 clear hH k0 kc
 refine a2H (k:=h.length+2) (o:=0) (ty:=70) (sz:=3) (hat 2) rfl rfl rfl (by decide) ?_
 show WPc _ _ _ _ _ _ ⟨_,(H6++[(⟨70,3,0,true,[]⟩:aK)]).set (h.length+2) ⟨28,2,0,false,[AV.agg [AV.row H6.length 0 3 0 0,.v (.int .i64 0)]]⟩⟩
 rw[hl6]
 have hl7:((H6++[(⟨70,3,0,true,[]⟩:aK)]).set (h.length+2) (⟨28,2,0,false,[AV.agg [AV.row (h.length+6) 0 3 0 0,.v (.int .i64 0)]]⟩:aK)).length=h.length+7:=by simp[hl6]
 have g6:((H6++[(⟨70,3,0,true,[]⟩:aK)]).set (h.length+2) (⟨28,2,0,false,[AV.agg [AV.row (h.length+6) 0 3 0 0,.v (.int .i64 0)]]⟩:aK))[h.length+6]?=some ⟨70,3,0,true,[]⟩:=by
  rw[aD (by omega),aL (by omega),hl6,ou];rfl
 have g2:((H6++[(⟨70,3,0,true,[]⟩:aK)]).set (h.length+2) (⟨28,2,0,false,[AV.agg [AV.row (h.length+6) 0 3 0 0,.v (.int .i64 0)]]⟩:aK))[h.length+2]?=some ⟨28,2,0,false,[AV.agg [AV.row (h.length+6) 0 3 0 0,.v (.int .i64 0)]]⟩:=by
  rw[aW (by simp;omega)]
 have gk:∀k,k<6->k≠2->((H6++[(⟨70,3,0,true,[]⟩:aK)]).set (h.length+2) (⟨28,2,0,false,[AV.agg [AV.row (h.length+6) 0 3 0 0,.v (.int .i64 0)]]⟩:aK))[h.length+k]?=H6[h.length+k]?:=λk h1 h2=>by
  rw[aD (by omega),aJ (by omega)]
 have gl:∀j,j<h.length->((H6++[(⟨70,3,0,true,[]⟩:aK)]).set (h.length+2) (⟨28,2,0,false,[AV.agg [AV.row (h.length+6) 0 3 0 0,.v (.int .i64 0)]]⟩:aK))[j]?=h[j]?:=λj hj=>by
  rw[aD (by omega),aJ (by omega)];exact hlow j hj
 generalize (H6++[(⟨70,3,0,true,[]⟩:aK)]).set (h.length+2) (⟨28,2,0,false,[AV.agg [AV.row (h.length+6) 0 3 0 0,.v (.int .i64 0)]]⟩:aK)=H7 at *
 have hIK:RD ⟨h.length+3,h.length+4,h.length+2,h.length,h.length+5,cB,rB,h.length+6,x0,x1,x2,x3,x5,fz⟩:=⟨by simp only;omega,by simp only;omega,by simp only;omega⟩
 have V7:VH H7 ⟨h.length+3,h.length+4,h.length+2,h.length,h.length+5,cB,rB,h.length+6,x0,x1,x2,x3,x5,fz⟩ ns [] [] :=
  ⟨(gk 4 (by omega) (by omega)).trans (hat 4),(gk 3 (by omega) (by omega)).trans (hat 3),g2,g6,(gk 0 (by omega) (by omega)).trans (hat 0),(gl cB hcl).trans hc,(gl rB hrl).trans hr,(gk 5 (by omega) (by omega)).trans (hat 5)⟩
 have g5:H7[h.length+5]?=_:=V7.a8
 have g1:H7[h.length+1]?=_:=(gk 1 (by omega) (by omega)).trans (hat 1)
 refine lM (kV jm ?_)
 simp only[bsX,bsU,simprocAttr,bsY,XW,dJ,kL,g5]
 refine .inl ⟨rfl,87,_,rfl,F87.callable,?_⟩
 refine jH.mono (a2J hIK hns hlen hn ns.length [] [] H7 r hr2 hr1 hr2 V7 rfl hb) ?_
 rintro _ h5 ⟨rfl,V6,hS6⟩
 rw[fP]at V6
 have f3:h5[h.length+2]?=_:=V6.a3
 have f1:h5[h.length+1]?=_:=(hS6.2 (h.length+1) (by omega) (by simp only;omega) (by simp only;omega) (by simp only;omega)).trans g1
 have f4:h5[h.length+6]?=_:=V6.a4
 have f0:∀j,j<h.length->h5[j]?=h[j]?:=λj hj=>(hS6.2 j (by omega) (by simp only;omega) (by simp only;omega) (by simp only;omega)).trans (gl j hj)
 have f6:=hS6.1
 simp only[bsX,bsU,simprocAttr,bsY,dJ,kL,f3]
 have q2:∀o:aK,(h5.set (h.length+2) o)[h.length+2]?=some o:=λo=>aW (by omega)
 have f1:h5[h.length+1]?=some ⟨28,2,0,false,[AV.agg [AV.v (.slice none 0 0),AV.v (.int .i64 0)]]⟩:=f1
 have q1:∀o:aK,(h5.set (h.length+2) o)[h.length+1]?=some ⟨28,2,0,false,[AV.agg [AV.v (.slice none 0 0),AV.v (.int .i64 0)]]⟩:=λo=>by rw[aD (by omega)];exact f1
 refine lM (kV jm ?_)
 simp only[bsX,bsU,simprocAttr,bsY,XU,dJ,kL,q1,q2]
 refine kV jm ?_
 simp only[bsX,bsU,simprocAttr,bsY,dJ,kL]
 have q3:∀o o':aK,((h5.set (h.length+2) o).set (h.length+1) o')[h.length+1]?=some o':=λo o'=>aW (by rw[bT];omega)
 refine sF trivial ?_
 simp only[bsX,bsU,simprocAttr,bsY,CZ,pq,p9,q3]
 refine⟨h.length+6,by omega,by rw[bT,bT];omega,λj hj=>?_,?_,rfl⟩
 .rw[aD (by omega),aD (by omega)];exact f0 j hj
 .rw[aD (by omega),aD (by omega)];exact f4
end
def imS(ns:List ND)(O:List Nat)(l:List Nat):List ND:=l.map (imN ns O)
theorem VG{O t:List Nat}{c:Int}(h:0<=c->c.toNat∈O):eF (O++t) c=eF O c:=by
 unfold eF
 split
 .rfl
 .rw[uL,ak (h (by omega))]
theorem UR(ns:List ND)(f:Nat)(ord:List Nat){r:Int}(h0:0<=r):r.toNat∈(fI ns (f+1) ord r).1:=by
 simp only[fI]
 by_cases h:r.toNat∈ord
 .rw[ak (.inr h)];exact h
 .rw[au (by rintro(q|q);omega;exact h q)]
  obtain⟨t,h1,_,_⟩:=DK (g:=fI ns f) (λo c=>KO ns f o c) (kids ns r.toNat) (ord++[r.toNat],[],[])
  rw[h1];simp
theorem UQ(ns:List ND):∀(f:Nat) (ord:List Nat) (r:Int),(fI ns f ord r).1=dL ns f ord r:=by
 intro f
 induction f with
 |zero=>intro ord r;rfl
 |succ f ih =>
  intro ord r
  simp only[fI,dL]
  split
  .rfl
  ·have key:∀ (l:List Int) (s:List Nat × List Int × List ND),(l.foldl (iV (fI ns f)) s).1=l.foldl (dL ns f) s.1:=by
    intro l
    induction l with
    |nil=>intro s;rfl
    |cons c l ih2=>intro s;rw[dx,dx,ih2,<- ih s.1 c];rfl
   exact key _ _
theorem a0m {ns:List ND} (hns:∀ i,i < ns.length->∀ c ∈ kids ns i,c < (i:Int)):∀ (f:Nat) (ord:List Nat) (r:Int),r < (f:Int)->r < (ns.length:Int)->∀ t,∃ l,(fI ns f ord r).1=ord ++ l/\(fI ns f ord r).2=imS ns ((fI ns f ord r).1 ++ t) l:=by
  intro f
  induction f with
  |zero=>intro ord r hr _ t;exact⟨[],by rw[Cg _ _ _ (by omega)];simp,by rw[Cg _ _ _ (by omega)];rfl⟩
  | succ f ih =>
    intro ord r hr hl t
    by_cases hc:r<0\/r.toNat∈ord
    .simp only[fI];rw[ak hc];exact⟨[],by simp,rfl⟩
    have hv:fI ns (f + 1) ord r=(((kids ns r.toNat).foldl (iV (fI ns f)) (ord ++ [r.toNat],[],[])).1,
       ((ns.getD r.toNat zN).1,(ns.getD r.toNat zN).2.1,((kids ns r.toNat).foldl (iV (fI ns f)) (ord++[r.toNat],[],[])).2.1,())::((kids ns r.toNat).foldl (iV (fI ns f)) (ord++[r.toNat],[],[])).2.2):=by
      simp only[fI];rw[au hc]
    rw[hv]
    have key:∀ (cs:List Int),(∀ c ∈ cs,c < (f:Int)/\c < (ns.length:Int))->∀ (s:List Nat × List Int × List ND) (u:List Nat),∃ l,(cs.foldl (iV (fI ns f)) s).1=s.1 ++ l/\(cs.foldl (iV (fI ns f)) s).2.1=s.2.1 ++ cs.map (eF ((cs.foldl (iV (fI ns f)) s).1 ++ u))/\(cs.foldl (iV (fI ns f)) s).2.2=s.2.2 ++ imS ns ((cs.foldl (iV (fI ns f)) s).1 ++ u) l:=by
      intro cs
      induction cs with
      |nil=>intro _ s u;exact⟨[],by simp,by simp,by simp[imS]⟩
      | cons c cs ih2 =>
        intro hcs s u
        rw[dx]
        obtain⟨l2,a1,a2,a3⟩:=ih2 (λx hx=>hcs x (by simp[hx])) (iV (fI ns f) s c) u
        obtain⟨hcf,hcl⟩:=hcs c (by simp)
        obtain⟨l1,b1,b2⟩:=ih s.1 c hcf hcl (l2++u)
        have e1:(iV (fI ns f) s c).1=(fI ns f s.1 c).1:=rfl
        rw[e1]at a1
        refine⟨l1++l2,by rw[a1,b1,bq],?_,?_⟩
        · rw [a2]
          show(s.2.1++[eF (fI ns f s.1 c).1 c])++_=_
          have:eF (fI ns f s.1 c).1 c=eF ((cs.foldl (iV (fI ns f)) (iV (fI ns f) s c)).1 ++ u) c:=by
            rw[a1,bq]
            refine(VG λh0=>?_).symm
            obtain⟨g,rfl⟩:∃g,f=g+1:=⟨f-1,by omega⟩
            exact UR ns g s.1 h0
          rw[this,dw];simp
        · rw [a3]
          show(s.2.2++(fI ns f s.1 c).2)++_=_
          rw[b2,a1,bq,<- bq ((fI ns f s.1 c).1)]
          simp[imS]
    have h0:0<=r:=by
      rcases fu r 0 with q|q
      .exact absurd (.inl q) hc
      .exact q
    obtain⟨l,c1,c2,c3⟩:=key (kids ns r.toNat) (λc hc'=>by have:=hns r.toNat (by omega) c hc';omega) (ord++[r.toNat],[],[]) t
    refine⟨r.toNat::l,?_,?_⟩
    · show _=_
      rw[c1];simp
    · show _ :: _=_
      rw[c2,c3,fP,fP]
      rfl
theorem UU{ns:List ND}(hns:∀i,i<ns.length->∀c∈kids ns i,c<(i:Int))(r:Int)(hl:r<(ns.length:Int)):fI ns ns.length [] r=(dL ns ns.length [] r,o8 ns (dL ns ns.length [] r)):=by
 obtain⟨l,h1,h2⟩:=a0m hns ns.length [] r hl hl []
 rw[fP]at h1
 rw[bS,<- h1]at h2
 rw[<- UQ]
 exact sG rfl h2
theorem a1i{ns:List ND}(hns:∀i,i<ns.length->∀c∈kids ns i,c<(i:Int)):∀(f:Nat) (r:Int) (ord:List Nat),r<(ns.length:Int)->ord.Nodup->(∀x∈ord,x<ns.length)->(dL ns f ord r).Nodup/\∀x∈dL ns f ord r,x<ns.length:=by
 intro f
 induction f with
 |zero=>intro r ord _ h1 h2;exact⟨h1,h2⟩
 |succ f ih =>
  intro r ord hr h1 h2
  simp only[dL]
  split
  .exact⟨h1,h2⟩
  .rename_i hc
   have hc0:¬r<0:=λq=>hc (.inl q)
   have hcm:r.toNat∉ord:=λq=>hc (.inr q)
   have key:∀(cs:List Int),(∀c∈cs,c<(ns.length:Int))->∀o:List Nat,o.Nodup->(∀x∈o,x<ns.length)->(cs.foldl (dL ns f) o).Nodup/\∀x∈cs.foldl (dL ns f) o,x<ns.length:=by
    intro cs
    induction cs with
    |nil=>intro _ o q1 q2;exact⟨q1,q2⟩
    |cons c cs ih2 =>
     intro hcs o q1 q2
     rw[dx]
     obtain⟨z1,z2⟩:=ih c o (hcs c (by simp)) q1 q2
     exact ih2 (λx hx=>hcs x (by simp[hx])) _ z1 z2
   refine key _ (λc hc'=>by have:=hns r.toNat (by omega) c hc';omega) _ ?_ (λx hx=>?_)
   .rw[nA]
    refine⟨h1,by simp,λa ha b hb e=>?_⟩
    obtain rfl:=bI.1 hb
    exact hcm (e▸ha)
   .rcases aX.1 hx with q|q
    .exact h2 x q
    .obtain rfl:=bI.1 q;omega
theorem Wh:∀(n:Nat) (l:List Nat),l.Nodup->(∀x∈l,x<n)->l.length<=n:=by
 intro n
 induction n with
 |zero =>
  intro l _ h
  cases l with
  |nil=>simp
  |cons x l=>exact absurd (h x (by simp)) (by omega)
 |succ n ih =>
  intro l hd h
  have h1:=ih (l.erase n) (hd.erase n) (λx hx=>by
   have:=h x (List.mem_of_mem_erase hx)
   have:x≠n:=λe=>by
    subst e
    exact(List.Nodup.mem_erase_iff hd).1 hx |>.1 rfl
   omega)
  have:=List.length_erase (a:=n) (l:=l)
  split at this<;>omega
def tN:Ty:=.tup [.int .i64,.list (.int .i64),.list (.int .i64)]
def obD:List SO:=[.box 107 [.d (.list tN),.d (.list tN),.d (.int .i64),.mp 1,.row 2,.mp 3],.map 102 (.tup [.int .i64,.int .i64]) (.int .i64),.row 70 tN false,.map 103 .str (.int .i64)]
def Io:Sh:=⟨2,[(1,.int .i64)],[(0,.ptr 0 0 4)],obD⟩
def a9y:Sh:=⟨1,[(0,.tup [.list tN,.int .i64])],[],obD⟩
def a0b(ns:List ND)(r:Int):Prop:=ns.length<=1000000/\-1000000000<=r/\r<(ns.length:Int)/\(∀i,i<ns.length->∀c∈kids ns i,-1000000000<=c/\c<(i:Int))/\∀x∈ns,(x.2.1≠[]/\x.2.1.length<=2000000001)/\x.2.2.1≠[]/\x.2.2.1.length<=2000000001
open Classical in
def LW(r:Int)(a b:List ND)(op:Int)(me:List ((Int×Int×Unit)×Int×Unit))(ns:List ND)(ix:List (ByteArray×Int×Unit)):Option ((List ND×Int×Unit)×List ND×List ND×Int×List ((Int×Int×Unit)×Int×Unit)×List ND×List (ByteArray×Int×Unit)×Unit) :=
 if a0b ns r then some ((o8 ns (dL ns ns.length [] r),eF (dL ns ns.length [] r) r,()),a,b,op,me,ns,ix,()) else none
def a4F:HI:=⟨68,Io,a9y,λx=>LW x.1 x.2.1 x.2.2.1 x.2.2.2.1 x.2.2.2.2.1 x.2.2.2.2.2.1 x.2.2.2.2.2.2.1,[]⟩
theorem a2E{us:List AV}{xs:List Int}(h:bP Wp us (xs.map (Ty.enc (.int .i64)))):us=xs.map e64:=by
 have:=E9 (k:=.i64) h (aR.2 λa ha=>by obtain⟨z,_,rfl⟩:=dU.1 ha;rfl)
 rw[this];rfl
theorem a0h{a:AV}{x:ND}(h:Wp a (Ty.enc tN x))(h1:x.2.1≠[])(h2:x.2.2.1≠[]):a=jU x:=by
 have h:Wp a (.agg [.v (.int .i64 x.1),.list 1 (x.2.1.map (Ty.enc (.int .i64))),.list 1 (x.2.2.1.map (Ty.enc (.int .i64)))]):=h
 obtain⟨xs,rfl,hx⟩:=h.iw
 obtain⟨a1,r1,rfl,w1,t1⟩:=hx.cons_right
 obtain⟨a2,r2,rfl,w2,t2⟩:=t1.cons_right
 obtain⟨a3,r3,rfl,w3,t3⟩:=t2.cons_right
 obtain rfl:=t3.vT
 rw[w1.dK]
 have ls:∀{b:AV} {zs:List Int},Wp b (.list 1 (zs.map (Ty.enc (.int .i64))))->zs≠[]->b=.list 1 (zs.map e64):=λw hz=>by
  rcases w.jZ with⟨_,q⟩|⟨ys,rfl,q⟩
  .exact absurd (wW.1 q) hz
  .rw[a2E q]
 rw[ls w2 h1,ls w3 h2];rfl
def Rb(x:ND):AV:=Ty.enc tN x
theorem UL{us:List AV}{ns:List ND}(h:bP Wp us (ns.map Rb))(hn:∀x∈ns,x.2.1≠[]/\x.2.2.1≠[]):us=ns.map jU:=by
 apply gH
 intro i
 rcases aS i ns.length with q|q
 .have hl:us.length=ns.length:=by have:=h.1;simpa using this
  have e1:=ah (l:=us) (i:=i) (by omega)
  have e2:(ns.map Rb)[i]?=some (Rb ns[i]):=by rw[aQ,ah q];rfl
  have w:=h.2 i _ _ e1 e2
  obtain⟨q1,q2⟩:=hn _ (aV q)
  rw[e1,aQ,ah q,a0h w q1 q2];rfl
 .have hl:us.length=ns.length:=by have:=h.1;simpa using this
  rw[aZ (by omega),aZ (by rw[bR];omega)]
theorem Wy{h':List aK}{n0:Nat}{out:List ND}{rt:Int}(g4:h'[n0]?=some ⟨70,3,0,true,out.map jU⟩):lI h' (.agg [.row n0 out.length 3 0 out.length,.v (.int .i64 rt)])=some (.agg [.list 3 (out.map jU),.v (.int .i64 rt)]):=by
 simp only[lI,lY,lJ,g4,bn,bR,kJ,Value.oneCell',fZ,vK,bY,reduceIte]
 rw[gM (by simp)]
theorem Iq{H h':List aK}{n0:Nat}{out:List ND}{rt:Int}(g4:h'[n0]?=some ⟨70,3,0,true,out.map jU⟩)(g1:H.length<=n0)(g2:H.length<=h'.length)(g3:∀j,j<H.length->h'[j]?=H[j]?):H.length<=(freeze h' (gV (.agg [.row n0 out.length 3 0 out.length,.v (.int .i64 rt)]))).length/\∀j,j<H.length->(freeze h' (gV (.agg [.row n0 out.length 3 0 out.length,.v (.int .i64 rt)])))[j]?=H[j]?:=by
 simp only[gV,dY,List.flatMap_nil,nU,bS,freeze,dx,List.foldl_nil,g4]
 refine⟨by rw[bT];exact g2,λj hj=>?_⟩
 rw[aD (by omega)]
 exact g3 j hj
theorem a3t{GX:GXT}:HOk Tryd.prog (gx GX) a4F:=by
 refine⟨by kernel_rfl,λx y hy H ρ av hS=>?_⟩
 obtain⟨r,a,b,op,me,ns,ix,⟨⟩⟩:=x
 have hy:LW r a b op me ns ix=some y:=hy
 unfold LW at hy
 split at hy
 case isFalse=>cases hy
 rename_i hD
 obtain rfl:=aI hy
 obtain⟨d1,d2,d3,d4,d5⟩:=hD
 have hS:Sim ρ (emb Io (r,a,b,op,me,ns,ix,())) ⟨av,H⟩:=hS
 have ht:bP (VT ρ (emb Io (r,a,b,op,me,ns,ix,())).h) [.ptr 0 0 4,.d (.int .i64) r] av:=hS.t
 obtain⟨a0,av1,rfl,w0,t1⟩:=ht.iQ
 obtain⟨a1,av2,rfl,w1,t2⟩:=t1.iQ
 obtain rfl:=t2.mh
 obtain⟨o,ho,rfl⟩:∃o:XO,(emb Io (r,a,b,op,me,ns,ix,())).h[0]?=some o/\a0=.ptr (ρ.getD 0 0) o.len 0 4:=w0
 have h0:(emb Io (r,a,b,op,me,ns,ix,())).h[0]?=some (.box 107 [.d (.list tN) a,.d (.list tN) b,.d (.int .i64) op,.mp 1,.row 2,.mp 3]):=rfl
 have h2:(emb Io (r,a,b,op,me,ns,ix,())).h[2]?=some (.row 70 tN false ns):=rfl
 rw[h0]at ho
 obtain rfl:=aI ho
 obtain rfl:a1=.v (.int .i64 r):=Wp.dK w1
 obtain⟨O0,hO0,b1,b2,b3,b4,e,hes,hc⟩:=hS.h.hr 0 _ h0
 obtain⟨O2,hO2,r1,r2,r3,r4,r5⟩:=hS.h.hr 2 _ h2
 have r5:bP Wp O2.es (ns.map Rb):=r5
 have hnd:=UL r5 λx hx=>⟨(d5 x hx).1.1,(d5 x hx).2.1⟩
 obtain⟨c0,cr,hcs,v0,hc1⟩:=hc.iQ
 obtain⟨c1,cr1,rfl,v1,hc2⟩:=hc1.iQ
 obtain⟨c2,cr2,rfl,v2,hc3⟩:=hc2.iQ
 obtain⟨c3,cr3,rfl,v3,hc4⟩:=hc3.iQ
 obtain⟨c4,cr4,rfl,v4,hc5⟩:=hc4.iQ
 obtain⟨c5,cr5,rfl,v5,hc6⟩:=hc5.iQ
 obtain rfl:=hc6.mh
 have hagg:e=.agg [c0,c1,c2,c3,c4,c5]:=by
  cases e with
  |agg l=>exact kM AV.agg hcs
  |_=>simp[AV.cells]at hcs
 subst hagg
 obtain⟨ty,T,fz,es,he1,rfl⟩:=v4
 rw[h2]at he1
 cases he1
 have a6V:H[ρ.getD 0 0]?=some ⟨107,6,0,false,[.agg [c0,c1,c2,c3,.row (ρ.getD 2 0) ns.length 3 0 ns.length,c5]]⟩:=by
  rw[hO0]
  obtain⟨q1,q2,q3,q4,q5⟩:=O0
  have b1:q1=107:=b1
  have b2:q2=6:=b2
  have b3:q4=false:=b3
  have b4:q3=0:=b4
  have hes:q5=_:=hes
  subst b1 b2 b3 b4 hes
  rfl
 have a6U:H[ρ.getD 2 0]?=some ⟨70,3,0,true,ns.map jU⟩:=by
  rw[hO2]
  obtain⟨q1,q2,q3,q4,q5⟩:=O2
  have r1:q1=70:=r1
  have r2:q2=3:=r2
  have r3:q4=true:=r3
  have r4:q3=0:=r4
  have hnd:q5=_:=hnd
  subst r1 r2 r3 r4 hnd
  rfl
 have d4':∀i,i<ns.length->∀c∈kids ns i,c<(i:Int):=λi hi c hc=>(d4 i hi c hc).2
 have a4l:=UU d4' r d3
 have hnl:=a1i d4' ns.length r [] d3 lu (λx hx=>by cases hx)
 have hbd:=Wh _ _ hnl.1 hnl.2
 have hC:=a8k (Gl:=gx GX) (h:=H) d4 (λx hx=>⟨(d5 x hx).1.2,(d5 x hx).2.2⟩) d1 a6V a6U d2 d3 (by rw[a4l];show(dL ns ns.length [] r).length<=_;omega)
 rw[a4l]at hC
 refine jH.kz hC ?_
 rintro res h' ⟨n0,g1,g2,g3,g4,rfl⟩
 dsimp only at g4 ⊢
 have hk:=Wy (rt:=eF (dL ns ns.length [] r) r) g4
 refine⟨_,hk,ρ,[_],⟨?_,?_⟩,rfl,?_⟩
 .refine .cons ?_ .nil
  exact Wp.refl _
 .have hfz:=(Iq (rt:=eF (dL ns ns.length [] r) r) g4 g1 g2 g3).2
  refine⟨hS.h.rl,hS.h.nd,λi o ho=>?_⟩
  obtain⟨O,hO,hob⟩:=hS.h.hr i o ho
  refine⟨O,?_,hob⟩
  rw[<- hO]
  exact hfz _ (aj.1 hO).1
 .exact⟨⟨[],by simp,by simp⟩,(Iq (rt:=eF (dL ns ns.length [] r) r) g4 g1 g2 g3).1,λj hj _=>(Iq (rt:=eF (dL ns ns.length [] r) r) g4 g1 g2 g3).2 j hj⟩
def tD:Ty:=.tup [.list tN,.int .i64]
open Classical in
def Gq{S:Type}(v38:S->Option (Int×Unit))(v31:S->(List ND×Int×Unit)->Option (Bool×Unit))(v69:S->List Int->Option (Bool×Unit))(s:S)(d:List ND×Int×Unit)(f:List Int):Option (Int×Int×Unit) :=
 (v38 s).bind λe0=>if e0.1≠0 then some (0,e0.1,()) else(v31 s d).bind λb1=>if b1.1=false then some (0,21,()) else(v69 s f).bind λb2=>if b2.1=false then some (0,16,()) else if h:∃n,sV d.1 f n d.2.1 then some (vlF d.1 (Classical.choose h) d.2.1 f,0,()) else none
theorem a3L {GX:GXT} {T0:Ty} {v38:Ty.den (.tup [.list T0])->Option (Int × Unit)} {v31:Ty.den (.tup [.list T0])->(List ND × Int × Unit)->Option (Bool × Unit)} {v69:Ty.den (.tup [.list T0])->List Int->Option (Bool × Unit)}
  (h38:POk Tryd.prog (gx GX) ⟨38,[.tup [.list T0]],[.int .i64],λx=>v38 x.1⟩) (h31:POk Tryd.prog (gx GX) ⟨31,[.tup [.list T0],tD],[.bool],λx=>v31 x.1 x.2.1⟩) (h69:POk Tryd.prog (gx GX) ⟨69,[.tup [.list T0],.list (.int .i64)],[.bool],λx=>v69 x.1 x.2.1⟩) (h72:POk Tryd.prog (gx GX) ⟨72,[.int .i64],[.int .i64],λx=>some (gP .i64 (-1) x.1,())⟩) :
  POk Tryd.prog (gx GX) ⟨35,[.tup [.list T0],tD,.list (.int .i64)],[.int .i64,.int .i64],λx=>Gq v38 v31 v69 x.1 x.2.1 x.2.2.1⟩:=by
 refine⟨by kernel_rfl,λx y hy=>?_⟩
 obtain⟨s,⟨ns,root,⟨⟩⟩,f,⟨⟩⟩:=x
 have hy:Gq v38 v31 v69 s (ns,root,()) f=some y:=hy
 unfold Gq at hy
 cases e38:v38 s with
 |none=>rw[e38]at hy;cases hy
 |some z0 =>
  rw[e38]at hy
  obtain⟨e0,⟨⟩⟩:=z0
  simp only[ku]at hy
  have p38:=h38.2 (s,()) (e0,()) e38
  have F6:∀r:Int,-256<=r->r<0->Pure Tryd.prog (gx GX) 72 [.v (.int .i64 r)] (.v (.int .i64 (-1-r))):=λr q1 q2=>by
   have:=h72.2 (r,()) (-1-r,()) (by show some (gP .i64 (-1) r,())=_;rw[fE (by omega) (by omega)];rfl)
   exact this
  have fin:∀ (v e:Int) (b1 b2:Bool),y=(v,e,())->(e0=0->Pure Tryd.prog (gx GX) 31 [Ty.enc (.tup [.list T0]) s,Ty.enc tD (ns,root,())] (.v (.bool b1)))->(e0=0->b1=true->Pure Tryd.prog (gx GX) 69 [Ty.enc (.tup [.list T0]) s,Ty.enc (.list (.int .i64)) f] (.v (.bool b2))) ->
    ((e0≠0/\v=0/\e=e0)\/(e0=0/\b1=false/\v=0/\e=21)\/(e0=0/\b1=true/\b2=false/\v=0/\e=16)\/(e0=0/\b1=true/\b2=true/\(∃n,sV ns f n root/\v=vlF ns n root f)/\e=0))->
    Pure Tryd.prog (gx GX) 35 (encs [.tup [.list T0],tD,.list (.int .i64)] (s,(ns,root,()),f,())) (tV (encs [.int .i64,.int .i64] y)):=λv e b1 b2 hy q31 q69 hr=>by
   subst hy
   exact a5L (ns:=ns) (root:=root) (f:=f) rfl rfl rfl h38.1 h31.1 h69.1 h72.1 p38 q31 q69 F6 hr
  by_cases h0:e0≠0
  .rw[ak h0]at hy
   exact fin 0 e0 false false (aI hy).symm (λq=>absurd q h0) (λq=>absurd q h0) (.inl ⟨h0,rfl,rfl⟩)
  .rw[au h0]at hy
   have h0:e0=0:=by omega
   cases e31:v31 s (ns,root,()) with
   |none=>rw[e31]at hy;cases hy
   |some z1 =>
    rw[e31]at hy
    obtain⟨b1,⟨⟩⟩:=z1
    simp only[ku]at hy
    have p31:=h31.2 (s,(ns,root,()),()) (b1,()) e31
    cases b1 with
    |false =>
     rw[ak rfl]at hy
     exact fin 0 21 false false (aI hy).symm (λ_=>p31) (λ_ q=>by cases q) (.inr (.inl ⟨h0,rfl,rfl,rfl⟩))
    |true =>
     rw[au (by simp)]at hy
     cases e69:v69 s f with
     |none=>rw[e69]at hy;cases hy
     |some z2 =>
      rw[e69]at hy
      obtain⟨b2,⟨⟩⟩:=z2
      simp only[ku]at hy
      have p69:=h69.2 (s,f,()) (b2,()) e69
      cases b2 with
      |false =>
       rw[ak rfl]at hy
       exact fin 0 16 true false (aI hy).symm (λ_=>p31) (λ_ _=>p69) (.inr (.inr (.inl ⟨h0,rfl,rfl,rfl,rfl⟩)))
      |true =>
       rw[au (by simp)]at hy
       split at hy
       .rename_i h
        exact fin _ 0 true true (aI hy).symm (λ_=>p31) (λ_ _=>p69) (.inr (.inr (.inr ⟨h0,rfl,rfl,⟨_,rU h,rfl⟩,rfl⟩)))
       .cases hy
end
end Abs
end Go.Proofs.YtgfnhpadmifiiaaDoor
