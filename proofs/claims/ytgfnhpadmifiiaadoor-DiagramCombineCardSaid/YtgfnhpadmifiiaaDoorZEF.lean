/- Merged and trimmed by a program: Shelf DK DQ DC DR DH DG DI DJ DS. -/
import Derived.Test.YtgfnhpadmifiiaaDoorZEE
import Derived.Shelf.Strconv.Itoa0
import Derived.Shelf.Strconv.Itoa1
import Derived.Shelf.LaysM
import Derived.Shelf.Strconv.Itoa2
import Derived.Shelf.Strconv.AppendUint10
import Derived.Shelf.Strconv.AppendInt10
import Derived.Shelf.Strconv.AppendIntPublic10
import Derived.Test.YtgfnhpadmifiiaaDoorProg
import Derived.Lib.AppendIntMem
import Derived.Lib.LaidTab
import Derived.Lib.ItoaLen
import Derived.KernelRfl
import Derived.WalkSmall
import Derived.Deep.AppendLies
import Derived.Maps.Range
import Derived.Laws.BytesArg
set_option linter.unusedVariables false
set_option linter.unusedSimpArgs false
set_option linter.defProp false
section
namespace Go.Proofs
open Go.Shelf
def Tryd.laysM176_ren:Go.Shelf.Ren:=⟨fun|176=>83|249=>98|288=>105|283=>108|284=>109|285=>110|286=>111|129=>113|317=>112|318=>114|319=>115|320=>116|337=>117|338=>118|n=>n,fun|37=>118|2=>2|3=>3|53=>130|4=>4|9=>9|171=>134|0=>0|173=>137|212=>140|51=>141|5=>5|20=>20|213=>142|46=>124|232=>145|233=>146|n=>n,fun|17=>0|18=>1|19=>2|n=>n⟩
theorem Tryd.laysM176:Go.Proofs.LaysM.n176 Tryd.prog Tryd.laysM176_ren:={
 mixed:=by kernel_rfl
 f129:=Tryd.func113.trans (congrArg some (by kernel_rfl))
 f176:=Tryd.func83.trans (congrArg some (by kernel_rfl))
 f249:=Tryd.func98.trans (congrArg some (by kernel_rfl))
 f283:=Tryd.func108.trans (congrArg some (by kernel_rfl))
 f284:=Tryd.func109.trans (congrArg some (by kernel_rfl))
 f285:=Tryd.func110.trans (congrArg some (by kernel_rfl))
 f286:=Tryd.func111.trans (congrArg some (by kernel_rfl))
 f288:=Tryd.func105.trans (congrArg some (by kernel_rfl))
 f317:=Tryd.func112.trans (congrArg some (by kernel_rfl))
 f318:=Tryd.func114.trans (congrArg some (by kernel_rfl))
 f319:=Tryd.func115.trans (congrArg some (by kernel_rfl))
 f320:=Tryd.func116.trans (congrArg some (by kernel_rfl))
 f337:=Tryd.func117.trans (congrArg some (by kernel_rfl))
 f338:=Tryd.func118.trans (congrArg some (by kernel_rfl))
 t0:=Tryd.underlying0
 a0:=Tryd.isAgg0
 z0:=Tryd.sizeOf0
 v0:=Tryd.zeroValue0
 t2:=Tryd.underlying2
 a2:=Tryd.isAgg2
 z2:=Tryd.sizeOf2
 v2:=Tryd.zeroValue2
 t3:=Tryd.underlying3
 a3:=Tryd.isAgg3
 z3:=Tryd.sizeOf3
 v3:=Tryd.zeroValue3
 t4:=Tryd.underlying4
 a4:=Tryd.isAgg4
 z4:=Tryd.sizeOf4
 v4:=Tryd.zeroValue4
 t5:=Tryd.underlying5
 a5:=Tryd.isAgg5
 z5:=Tryd.sizeOf5
 v5:=Tryd.zeroValue5
 t9:=Tryd.underlying9
 a9:=Tryd.isAgg9
 z9:=Tryd.sizeOf9
 v9:=Tryd.zeroValue9
 t20:=Tryd.underlying20
 a20:=Tryd.isAgg20
 z20:=Tryd.sizeOf20
 v20:=Tryd.zeroValue20
 t37:=Tryd.underlying118
 a37:=Tryd.isAgg118
 z37:=Tryd.sizeOf118
 v37:=Tryd.zeroValue118
 t46:=Tryd.underlying124
 a46:=Tryd.isAgg124
 z46:=Tryd.sizeOf124
 v46:=Tryd.zeroValue124
 t51:=Tryd.underlying141
 a51:=Tryd.isAgg141
 z51:=Tryd.sizeOf141
 v51:=Tryd.zeroValue141
 t53:=Tryd.underlying130
 a53:=Tryd.isAgg130
 z53:=Tryd.sizeOf130
 v53:=Tryd.zeroValue130
 t171:=Tryd.underlying134
 a171:=Tryd.isAgg134
 z171:=Tryd.sizeOf134
 v171:=Tryd.zeroValue134
 t173:=Tryd.underlying137
 a173:=Tryd.isAgg137
 z173:=Tryd.sizeOf137
 v173:=Tryd.zeroValue137
 t212:=Tryd.underlying140
 a212:=Tryd.isAgg140
 z212:=Tryd.sizeOf140
 v212:=Tryd.zeroValue140
 t213:=Tryd.underlying142
 a213:=Tryd.isAgg142
 z213:=Tryd.sizeOf142
 t232:=Tryd.underlying145
 a232:=Tryd.isAgg145
 z232:=Tryd.sizeOf145
 v232:=Tryd.zeroValue145
 t233:=Tryd.underlying146
 a233:=Tryd.isAgg146
 z233:=Tryd.sizeOf146
 v233:=Tryd.zeroValue146
 g17:=by kernel_rfl
 g18:=by kernel_rfl
 g19:=by kernel_rfl
 i0:=by kernel_rfl
 i2:=by kernel_rfl
 i3:=by kernel_rfl
 i4:=by kernel_rfl
 i5:=by kernel_rfl
 i9:=by kernel_rfl
 i20:=by kernel_rfl
 i37:=by kernel_rfl
 i46:=by kernel_rfl
 i51:=by kernel_rfl
 i53:=by kernel_rfl
 i171:=by kernel_rfl
 i173:=by kernel_rfl
 i212:=by kernel_rfl
 i232:=by kernel_rfl
 i233:=by kernel_rfl
 m17:=by kernel_rfl
 m18:=by kernel_rfl
 m19:=by kernel_rfl }
open Go.RowKit Go.Sort Go.Lib in
theorem Tryd.strconv_AppendInt_10(B n:Nat)(i:Int)(h0:-9223372036854775808<=i)(h1:i<=9223372036854775807)(sv:Value)(xs:List Value)(w:World)(hown:w.ownsRow B 5 1 sv n xs)(hBw:B<=w.heap.size)(hlim:n+21<=140737488355328) (htab:Lib.TabBelow Tryd.prog B w "internal/strconv.uint64pow10" .u64 Lib.pow10Tab) :
  Calls Tryd.prog 83 #[sv,.int .i64 i,.int .i64 10] w λe w'=>∃v',e=.returned v'/\w'.ownsRow B 5 1 v' (n+(Lib.itoa i).length) (xs++Lib.byteCells (Lib.itoa i))/\Below B w w'/\Lib.OthersKept 5 none w w':=Any.strconv_AppendInt_10 Tryd.laysM176 B n i h0 h1 sv xs w hown hBw hlim htab
end Go.Proofs
end
namespace Go.Proofs.YtgfnhpadmifiiaaDoor
namespace Abs
noncomputable section
section
open Go.RowKit
def wS(a:Int)(cs ns:List Int):List UInt8:=Lib.itoa a++(cs.flatMap λc=>44::Lib.itoa c)++59::(ns.flatMap λc=>44::Lib.itoa c)
def AU(n:Int):Bool:=decide (-9223372036854775808<=n/\n<=9223372036854775807)
def SlI(w:World)(v:Value)(cs:List Int):Prop:=∃ao cap,v=.slice ao cs.length cap/\∀k (hk:k<cs.length),∃ad,ao=some ad/\w.cell? (ad.add k)=some (.int .i64 cs[k])
def fl(cs:List Int):List UInt8:=cs.flatMap λc=>44::Lib.itoa c
theorem Oy(cs:List Int)(k:Nat)(hk:k<cs.length):fl (cs.take (k+1))=fl (cs.take k)++44::Lib.itoa cs[k]:=by
 unfold fl
 rw[bU hk,List.flatMap_append];simp
theorem TI:∀(cs:List Int),(∀c∈cs,AU c=true)->(fl cs).length<=22*cs.length:=by
 intro cs
 induction cs with
 |nil=>intro _;simp[fl]
 |cons c cs ih =>
  intro h
  have h1:=of_decide_eq_true (h c (by simp))
  have h2:=Lib.itoa_length_le c h1.1 h1.2
  have h3:=ih (λx hx=>h x (by simp[hx]))
  have:fl (c::cs)=44::Lib.itoa c++fl cs:=by simp[fl]
  rw[this,ak,bI,bI];omega
theorem a6A:(Tryd.prog.info? 5).map (λi=>(i.zero,i.size,i.bytes))=some (some (.int .u8 0),1,1):=by kernel_rfl
theorem Rh(Y:List UInt8):strOfNums (Y.map fun(b:UInt8)=>(b.toNat:Int))=⟨Y.toArray⟩:=by
 have h:(Y.map fun(b:UInt8)=>(b.toNat:Int)).map (λn=>UInt8.ofNat n.toNat)=Y:=by
  induction Y with
  |nil=>rfl
  |cons b Y ih =>
   rw[dn,dn,ih,aZ,UInt8.ofNat_toNat]
 unfold strOfNums
 rw[h]
set_option maxHeartbeats 4000000 in
set_option maxRecDepth 100000 in
theorem a1d (a:Int) (cs ns:List Int) (w0:World) (cv nv:Value) (hc:SlI w0 cv cs) (hn:SlI w0 nv ns) (ha:-9223372036854775808<=a/\a<=9223372036854775807) (hcs:∀ c ∈ cs,AU c=true) (hns:∀ c ∈ ns,AU c=true) (hl:cs.length + ns.length<=1099511627776)
  (htab:Lib.TabIs Tryd.prog w0 "internal/strconv.uint64pow10" .u64 Lib.pow10Tab):Calls Tryd.prog 61 #[.int .i64 a,cv,nv] w0 λe w'=>e=.returned (.string ⟨(wS a cs ns).toArray⟩)/\Below w0.heap.size w0 w':=by
 obtain⟨co,b0s,rfl,hcc⟩:=hc
 obtain⟨no,b0k,rfl,hnc⟩:=hn
 obtain⟨i0,hI,hI0,hI1,hI2⟩:=info_parts a6A
 have HCC:=Lib.hid hcc
 have HNC:=Lib.hid hnc
 have HCS:=Lib.hid hcs
 have HNS:=Lib.hid hns
 have HT:=Lib.hid htab
 have hA:=Lib.itoa_length_le a ha.1 ha.2
 have hF1:=λk=>TI (cs.take k) (λc hc=>hcs c (mY hc))
 have hF2:=λk=>TI (ns.take k) (λc hc=>hns c (mY hc))
 have HF1:=Lib.hid hF1
 have HF2:=Lib.hid hF2
 clear hcc hnc hcs hns htab hF1 hF2
 go_enter Tryd.func61,Tryd.ntmps61
 go_wp2_with fail
 refine(Tryd.strconv_AppendInt_10 w0.heap.size 0 a ha.1 ha.2 (.slice none 0 0) [] w0 (World.ownsRow_nil _ _ _ _) (bF _) (by omega) (Lib.tabBelow_of_tabIs HT.out)).mono ?_
 rintro e w1 ⟨v1,rfl,hown1,hb1,_⟩
 have HO1:=Lib.hid hown1
 have HB1:=Lib.hid hb1
 have hs1:=hb1.size
 clear hown1 hb1
 go_wp2
 go_loopw [7,16] (λv i wr=>∃k:Nat,k<=cs.length/\i=.int .i64 (k:Int)/\Hid (wr.ownsRow w0.heap.size 5 1 v (Lib.itoa a++fl (cs.take k)).length (Lib.byteCells (Lib.itoa a++fl (cs.take k))))/\Hid (Below w0.heap.size w0 wr)/\w0.heap.size<=wr.heap.size) (λ_ i _=>cs.length-(intOf i).toNat)
 case atStart=>exact⟨0,by omega,rfl,by simpa[fl,Lib.hid]using HO1,HB1,hs1⟩
 case round =>
  obtain⟨k,hk,rfl,HO,HB,hsr⟩:=hrel
  have hFk:=HF1.out k
  have hlen:(Lib.itoa a++fl (cs.take k)).length=(Lib.itoa a).length+(fl (cs.take k)).length:=ak
  have htk:(cs.take k).length=k:=by rw[bH];omega
  rw[htk]at hFk
  by_cases hlt:k<cs.length
  .obtain⟨ad,rfl,hcell⟩:=HCC.out k hlt
   have q1:decide ((k:Int)<(cs.length:Int))=true:=gF (by omega)
   have hcr:wr.cell? (ad.add k)=some (.int .i64 cs[k]):=by
    have hbk:=World.block_lt_of_cell? w0 (ad.add k) hcell
    rw[World.cell?_of_block (w:=w0) (HB.out.block _ hbk)]
    exact hcell
   have hri:=of_decide_eq_true (HCS.out cs[k] (aJ hlt))
   have hit:=Lib.itoa_length_le cs[k] hri.1 hri.2
   have HRI:=Lib.hid hri
   have esn:=Oy cs k hlt
   generalize hck:cs[k]=c at hcr hri hit HRI esn
   have ESN:=Lib.hid esn
   clear hcell esn hri
   have HXE:=Lib.hid (show Lib.itoa a++fl (cs.take (k+1))=(Lib.itoa a++fl (cs.take k))++44::Lib.itoa c by rw[ESN.out];simp only[aX])
   generalize hX:Lib.itoa a++fl (cs.take k)=X at HO hlen HXE
   clear hX
   have HLT:=Lib.hid (λg hg=>(HO.out.lt g hg).1)
   go_wp2_with (first|(at_builtin;refine wpList_append_own _ rfl _ _ 118 rfl w0.heap.size 5 i0 (.int .u8 0) 1 1 Tryd.underlying118 hI hI0 hI1 hI2 rfl (by decide) _ _ _ rfl (HO.out.alloc _) ⟨wr.heap.size,0,none⟩ 1 1 [.int .u8 44] rfl rfl (by intro j u' hj;match j,hj with|0,hj=>simp at hj;subst hj;simp[Addr.add]) (by intro u' hu';simp at hu';subst hu';rfl) (by unfold maxLen;omega) (by omega) (by simp;omega) ?_;intro v' w3 hown' hgrow3 hnil3))
   have HO3:=Lib.hid hown'
   have hs3:wr.heap.size<=w3.heap.size:=by have:=hgrow3.size;simp at this;omega
   have HB3:=Lib.hid (Below.grown (HB.out.alloc (by omega) _) hgrow3 (by simp;omega) (λj hj=>HLT.out j hj))
   clear hown' hgrow3 hnil3
   go_wp2_with fail
   refine(Tryd.strconv_AppendInt_10 w0.heap.size (X.length+1) c HRI.out.1 HRI.out.2 v' _ w3 HO3.out (by omega) (by omega) ((Lib.tabBelow_of_tabIs HT.out).on HB3.out)).mono ?_
   rintro e w4 ⟨v4,rfl,Gp,hb4,_⟩
   have HO4:=Lib.hid Gp
   have hs4:=hb4.size
   have HB4:=Lib.hid (HB3.out.trans hb4)
   clear Gp hb4
   go_wp2
   go_roundw
   case rel =>
    refine⟨k+1,by omega,by go_num,?_,HB4,by omega⟩
    have e1:Lib.byteCells (X++44::Lib.itoa c)=Lib.byteCells X++[.int .u8 44]++Lib.byteCells (Lib.itoa c):=by simp[Lib.byteCells]
    have e2:(X++44::Lib.itoa c).length=X.length+1+(Lib.itoa c).length:=by rw[ak,bI];omega
    rw[HXE.out,e1,e2]
    exact HO4
   case measure=>simp[intOf];omega
  .have q1:decide ((k:Int)<(cs.length:Int))=false:=jh (by omega)
   obtain rfl:k=cs.length:=by omega
   rw[dV]at HO
   have hFk:=HF1.out cs.length
   rw[dV]at hFk hlen
   clear htk
   generalize hX:Lib.itoa a++fl cs=X at HO hlen
   have HX:=Lib.hid hX
   clear hX
   have HLT:=Lib.hid (λg hg=>(HO.out.lt g hg).1)
   go_wp2_with (first|(at_builtin;refine wpList_append_own _ rfl _ _ 118 rfl w0.heap.size 5 i0 (.int .u8 0) 1 1 Tryd.underlying118 hI hI0 hI1 hI2 rfl (by decide) _ _ _ rfl (HO.out.alloc _) ⟨wr.heap.size,0,none⟩ 1 1 [.int .u8 59] rfl rfl (by intro j u' hj;match j,hj with|0,hj=>simp at hj;subst hj;simp[Addr.add]) (by intro u' hu';simp at hu';subst hu';rfl) (by unfold maxLen;omega) (by omega) (by simp;omega) ?_;intro v' w3 hown' hgrow3 hnil3))
   have HO3:=Lib.hid hown'
   have hs3:wr.heap.size<=w3.heap.size:=by have:=hgrow3.size;simp at this;omega
   have HB3:=Lib.hid (Below.grown (HB.out.alloc (by omega) _) hgrow3 (by simp;omega) (λj hj=>HLT.out j hj))
   clear hown' hgrow3 hnil3
   go_wp2
   have hpl:(Lib.itoa a++fl cs++[59]).length=X.length+1:=by rw[HX.out,ak];rfl
   go_loopw [7,31] (λv i wr=>∃k:Nat,k<=ns.length/\i=.int .i64 (k:Int)/\Hid (wr.ownsRow w0.heap.size 5 1 v (Lib.itoa a++fl cs++[59]++fl (ns.take k)).length (Lib.byteCells (Lib.itoa a++fl cs++[59]++fl (ns.take k))))/\Hid (Below w0.heap.size w0 wr)/\w0.heap.size<=wr.heap.size) (λ_ i _=>ns.length-(intOf i).toNat)
   case atStart =>
    refine⟨0,by omega,rfl,?_,HB3,by omega⟩
    have e1:Lib.byteCells (X++[59])=Lib.byteCells X++[.int .u8 59]:=by simp[Lib.byteCells]
    have e2:(X++[59]).length=X.length+1:=by rw[ak];rfl
    have e3:Lib.itoa a++fl cs++[59]++fl (ns.take 0)=X++[59]:=by rw[HX.out];simp[fl]
    rw[e3,e1,e2]
    exact HO3
   case round =>
    obtain⟨k,hk,rfl,HO,HB,hsr⟩:=hrel
    have hFk:=HF2.out k
    have hlen:(Lib.itoa a++fl cs++[59]++fl (ns.take k)).length=(Lib.itoa a++fl cs++[59]).length+(fl (ns.take k)).length:=ak
    have htk:(ns.take k).length=k:=by rw[bH];omega
    rw[htk]at hFk
    by_cases hlt:k<ns.length
    .obtain⟨ad,rfl,hcell⟩:=HNC.out k hlt
     have q1:decide ((k:Int)<(ns.length:Int))=true:=gF (by omega)
     have hcr:wr.cell? (ad.add k)=some (.int .i64 ns[k]):=by
      have hbk:=World.block_lt_of_cell? w0 (ad.add k) hcell
      rw[World.cell?_of_block (w:=w0) (HB.out.block _ hbk)]
      exact hcell
     have hri:=of_decide_eq_true (HNS.out ns[k] (aJ hlt))
     have hit:=Lib.itoa_length_le ns[k] hri.1 hri.2
     have HRI:=Lib.hid hri
     have esn:=Oy ns k hlt
     generalize hck:ns[k]=c at hcr hri hit HRI esn
     have ESN:=Lib.hid esn
     clear hcell esn hri
     have HXE:=Lib.hid (show Lib.itoa a++fl cs++[59]++fl (ns.take (k+1))=(Lib.itoa a++fl cs++[59]++fl (ns.take k))++44::Lib.itoa c by rw[ESN.out];simp only[aX])
     generalize hX:Lib.itoa a++fl cs++[59]++fl (ns.take k)=X at HO hlen HXE
     clear hX
     have HLT:=Lib.hid (λg hg=>(HO.out.lt g hg).1)
     go_wp2_with (first|(at_builtin;refine wpList_append_own _ rfl _ _ 118 rfl w0.heap.size 5 i0 (.int .u8 0) 1 1 Tryd.underlying118 hI hI0 hI1 hI2 rfl (by decide) _ _ _ rfl (HO.out.alloc _) ⟨wr.heap.size,0,none⟩ 1 1 [.int .u8 44] rfl rfl (by intro j u' hj;match j,hj with|0,hj=>simp at hj;subst hj;simp[Addr.add]) (by intro u' hu';simp at hu';subst hu';rfl) (by unfold maxLen;omega) (by omega) (by simp;omega) ?_;intro v' w3 hown' hgrow3 hnil3))
     have HO3:=Lib.hid hown'
     have hs3:wr.heap.size<=w3.heap.size:=by have:=hgrow3.size;simp at this;omega
     have HB3:=Lib.hid (Below.grown (HB.out.alloc (by omega) _) hgrow3 (by simp;omega) (λj hj=>HLT.out j hj))
     clear hown' hgrow3 hnil3
     go_wp2_with fail
     refine(Tryd.strconv_AppendInt_10 w0.heap.size (X.length+1) c HRI.out.1 HRI.out.2 v' _ w3 HO3.out (by omega) (by omega) ((Lib.tabBelow_of_tabIs HT.out).on HB3.out)).mono ?_
     rintro e w4 ⟨v4,rfl,Gp,hb4,_⟩
     have HO4:=Lib.hid Gp
     have hs4:=hb4.size
     have HB4:=Lib.hid (HB3.out.trans hb4)
     clear Gp hb4
     go_wp2
     go_roundw
     case rel =>
      refine⟨k+1,by omega,by go_num,?_,HB4,by omega⟩
      have e1:Lib.byteCells (X++44::Lib.itoa c)=Lib.byteCells X++[.int .u8 44]++Lib.byteCells (Lib.itoa c):=by simp[Lib.byteCells]
      have e2:(X++44::Lib.itoa c).length=X.length+1+(Lib.itoa c).length:=by rw[ak,bI];omega
      rw[HXE.out,e1,e2]
      exact HO4
     case measure=>simp[intOf];omega
    .have q1:decide ((k:Int)<(ns.length:Int))=false:=jh (by omega)
     obtain rfl:k=ns.length:=by omega
     rw[dV]at HO
     have hFk:=HF2.out ns.length
     rw[dV]at hFk hlen
     clear htk
     have a5n:=Lib.hid (show wS a cs ns=(Lib.itoa a++fl cs++[59])++fl ns by simp[wS,fl])
     obtain⟨g,cap,hv,hgs⟩:∃g cap,u7=.slice (some ⟨g,0,none⟩) (Lib.itoa a++fl cs++[59]++fl ns).length cap/\(∀i,i<(Lib.itoa a++fl cs++[59]++fl ns).length->wr.cell? ⟨g,0+i,none⟩=some (.int .u8 (((Lib.itoa a++fl cs++[59]++fl ns).map fun(b:UInt8)=>(b.toNat:Int)).getD i 0))):=by
      have h0:0<(Lib.itoa a++fl cs++[59]++fl ns).length:=by simp only[ak,bI,bV];omega
      obtain⟨hxl,hx|⟨g,cap,cur,hv,_⟩⟩:=HO.out
      .exfalso
       have:=hx.2
       simp at this
      refine⟨g,cap,hv,λi hi=>?_⟩
      have hca:=World.ownsRow.cellAt (h:=(hv▸HO.out)) i (by omega)
      rw[dJ,hca]
      unfold Lib.byteCells
      rw[aS,ah hi,aQ,aS,ah hi]
      rfl
     generalize hY:Lib.itoa a++fl cs++[59]++fl ns=Y at hv hgs a5n
     have HBE:=Lib.hid HB.out
     clear hY HO
     subst hv
     have b0j:=run_convert_bytes_arg (P:=Tryd.prog) wr 118 5 Tryd.underlying118 Tryd.underlying5 g 0 _ cap (Y.map fun(b:UInt8)=>(b.toNat:Int)) (by simp) hgs 9 Tryd.underlying9
     go_wp2
     first|go_ret|go_ret2
     refine⟨?_,HBE.out⟩
     rw[a5n.out,Rh];rfl
theorem a0C {P:Program} {F:Addr->Option Value} {w:World} {f:Nat} {xs:Array Value} {v:Value} {res:AV} (hF:∀ a x,F a=some x->w.cell? a=some x) (hR:RP F v res) (h:Calls P f xs w fun e w'=>e=.returned v/\Below w.heap.size w w') :
  Calls P f xs w λe w'=>∃v F',e=.returned v/\(∀ad y,F ad=some y->F' ad=some y)/\(∀ad y,F' ad=some y->w'.cell? ad=some y)/\(∀ad y,F' ad=some y->F ad=some y\/w.heap.size<=ad.block)/\RP F' v res/\Below w.heap.size w w':=by
 refine h.mono ?_
 rintro e w' ⟨rfl,hb⟩
 refine⟨v,F,rfl,λ_ _ q=>q,λad y q=>?_,λ_ _ q=>.inl q,hR,hb⟩
 rw[World.cell?_of_block (w:=w) (hb.block _ (World.block_lt_of_cell? w ad (hF ad y q)))]
 exact hF ad y q
theorem a2E{P:Program}{Gl:Nat->Option (List AV)}{F:Addr->Option Value}{w:World}{g B:Nat}{k:IntKind}{zs:List Int}{name:String}(hF:∀a x,F a=some x->w.cell? a=some x)(hG:Nb Gl F)(hW:GlW Gl B w)(hg:Gl g=some (zs.map λz=>.v (.int k z)))(hn:P.globalNamed name=some g):Lib.TabIs P w name k zs:=by
 obtain⟨_,vs,ty,fr,h1,h2⟩:=hW g _ hg
 unfold Lib.TabIs World.var?
 rw[hn]
 simp only[nQ,h1]
 congr 1
 apply Array.ext
 .simpa using h2
 .intro j hj hj2
  have hz:j<zs.length:=by simpa using hj2
  have hr:=hG g _ hg
  cases hr with
  |jZ _ _ cv c1 c2 =>
   have ha:(zs.map λz=>AV.v (.int k z))[j]?=some (.v (.int k zs[j])):=by rw[aS,ah hz];rfl
   obtain⟨d1,_⟩:=c1 j _ ha
   have d2:=c2 j _ ha
   have e:cv j=.int k zs[j]:=by generalize cv j=q at d2;cases d2;rfl
   have e2:(Addr.add ⟨g,0,none⟩ j:Addr)=⟨g,j,none⟩:=by simp[Addr.add];intro h;exact h.symm
   rw[e,e2]at d1
   have d3:=hF _ _ d1
   rw[Lib.cell_of_heap h1,aD hj]at d3
   simpa using Option.some.inj d3
theorem Me:Tryd.prog.globalNamed "internal/strconv.uint64pow10"=some 0:=by kernel_rfl
theorem Xy{F:Addr->Option Value}{w:World}{x:Value}{cs:List Int}(hF:∀a x,F a=some x->w.cell? a=some x)(hx:RP F x (.list 1 (cs.map λz=>.v (.int .i64 z)))):SlI w x cs:=by
 generalize hz:(cs.map λz=>AV.v (.int .i64 z))=zs at hx
 cases hx with
 |nil =>
  obtain rfl:cs=[]:=wD.1 hz
  exact⟨none,0,rfl,λk hk=>by cases hk⟩
 |list ad n cap _ _ cv hn hc hsz hFc hR =>
  subst hz
  rw[bR]at hn
  subst hn
  refine⟨some ad,cap,rfl,λk hk=>⟨ad,rfl,?_⟩⟩
  have ha:(cs.map λz=>AV.v (.int .i64 z))[k]?=some (.v (.int .i64 cs[k])):=by rw[aS,ah hk];rfl
  have d1:=(hFc k 0 _ _ ha rfl).1
  have d2:=hR k 0 _ _ ha rfl
  rw[lJ,jO]at d1 d2
  have e:cv k=.int .i64 cs[k]:=by generalize cv k=q at d2;cases d2;rfl
  rw[e]at d1
  exact hF _ _ d1
def Fe(a:Int)(cs ns:List Int):Option (ByteArray×Unit):=if AU a=true/\cs.all AU=true/\ns.all AU=true/\cs.length+ns.length<=1099511627776 then some (⟨(wS a cs ns).toArray⟩,()) else none
def QD:PI:=⟨61,[.int .i64,.list (.int .i64),.list (.int .i64)],[.str],λx=>Fe x.1 x.2.1 x.2.2.1⟩
theorem a3g{GX:GXT}(hg:gx GX 0=some (Lib.pow10Tab.map λz=>.v (.int .u64 z))):POk Tryd.prog (gx GX) QD:=by
 refine⟨by kernel_rfl,?_⟩
 rintro⟨a,cs,ns,⟨⟩⟩ y hy
 have hy:Fe a cs ns=some y:=hy
 unfold Fe at hy
 split at hy
 .rename_i hb
  cases hy
  intro w F xs hF hG hW hxs
  obtain⟨h1,h2⟩:=hxs
  have hl:xs.size=3:=h1
  have h0:=h2 0 xs[0] (.v (.int .i64 a)) (aD _) rfl
  have h3:=h2 1 xs[1] (.list 1 (cs.map λz=>.v (.int .i64 z))) (aD _) rfl
  have h4:=h2 2 xs[2] (.list 1 (ns.map λz=>.v (.int .i64 z))) (aD _) rfl
  have e0:xs[0]=.int .i64 a:=by generalize xs[0]=q at h0;cases h0;rfl
  have ex:xs=#[.int .i64 a,xs[1],xs[2]]:=by
   apply Array.ext
   .exact hl
   .intro i p q;have:i=0\/i=1\/i=2:=by omega
    rcases this with rfl|rfl|rfl
    .exact e0
    .rfl
    .rfl
  rw[ex]
  exact a0C hF (.v _) (a1d a cs ns w _ _ (Xy hF h3) (Xy hF h4) (by simpa[AU]using hb.1) (λc hc=>aU.1 hb.2.1 c hc) (λc hc=>aU.1 hb.2.2.1 c hc) hb.2.2.2 (a2E hF hG hW hg Me))
 .cases hy
end
abbrev ND:Type:=Int×List Int×List Int×Unit
def zN:ND:=(0,[],[],())
def kids(ns:List ND)(r:Nat):List Int:=(ns.getD r zN).2.2.1
def cK(ns:List ND):Nat->List Nat->Int->List Nat
 |0,ord,_=>ord
 |f+1,ord,r=>if r<0\/r.toNat∈ord then ord else(kids ns r.toNat).foldl (cK ns f) (ord++[r.toNat])
def dR(O:List Nat)(c:Int):Int:=if c<0 then c else(O.idxOf c.toNat:Int)
def imN(ns:List ND)(O:List Nat)(r:Nat):ND:=((ns.getD r zN).1,(ns.getD r zN).2.1,(kids ns r).map (dR O),())
def lF(ns:List ND)(O:List Nat):List ND:=O.map (imN ns O)
def brK:List Int->Int->Nat
 |[],_=>0
 |c::cs,v=>if c<=v then brK cs v+1 else 0
theorem BH:∀(cs:List Int) (v:Int) (k:Nat),k<=cs.length->(∀j,j<k->cs.getD j 0<=v)->(k=cs.length\/v<cs.getD k 0)->brK cs v=k:=by
 intro cs
 induction cs with
 |nil=>intro v k h _ _;simp at h;subst h;rfl
 |cons c cs ih =>
  intro v k hk h1 h2
  simp only[brK]
  cases k with
  |zero =>
   rcases h2 with q|q
   .cases q
   .rw[if_neg (by simpa using q)]
  |succ k =>
   have:=h1 0 (by omega)
   rw[if_pos (by simpa using this),ih v k (by simpa using hk) (λj hj=>by have:=h1 (j+1) (by omega);simpa using this) (by rcases h2 with q|q;left;simpa using q;right;simpa using q)]
theorem sZ:∀(cs:List Int) (v:Int),brK cs v<=cs.length:=by
 intro cs
 induction cs with
 |nil=>intro v;exact bF _
 |cons c cs ih=>intro v;simp only[brK];split;have:=ih v;simp;omega;simp
def vlF(ns:List ND):Nat->Int->List Int->Int
 |0,r,_=>-1-r
 |f+1,r,fs=>if r<0 then -1-r else vlF ns f ((kids ns r.toNat).getD (brK (ns.getD r.toNat zN).2.1 (fs.getD (ns.getD r.toNat zN).1.toNat 0)) 0) fs
def bsX:=And.intro @a1W (And.intro @a1Y (And.intro @Xj (And.intro @Ue (And.intro @Xk (And.intro @a1X (And.intro @Rm (And.intro @Rn (And.intro @Nu (And.intro @Ul (And.intro @Xu (And.intro @Iw (And.intro @Na (And.intro @Ny (And.intro @Js (And.intro @Nw (And.intro @Ru (And.intro @Xr (And.intro @Ui (And.intro @Rq (And.intro @Xn (And.intro @Xo (And.intro @Xq (And.intro @Xp (And.intro @a4T (And.intro @a1O (And.intro @a5b (And.intro @a5c (And.intro @a1P (And.intro @a5e (And.intro @a8h (And.intro @a1V (And.intro @a4X (And.intro @a4Y (And.intro @Xf (And.intro @Xe (And.intro @a1U (And.intro @Xc (And.intro @Xd (And.intro @Ub (And.intro @a4V (And.intro @a1N (And.intro @a4S (And.intro @a4W (And.intro @a5d (And.intro @Uc (And.intro @Xh (And.intro @Xg (And.intro @a5a (And.intro @Xi (And.intro @a8i (And.intro @a1R (And.intro @a1T (And.intro @List.set_cons_zero.{0} (And.intro @List.set_cons_succ.{0} (And.intro @List.getD_cons_zero.{0} (And.intro @List.getD_cons_succ.{0} (And.intro @List.getElem?_cons_zero.{0} (And.intro @List.getElem?_cons_succ.{0} (And.intro @Option.map_none.{0,0} (And.intro @Option.map_some.{0,0} (And.intro @List.map_cons.{0,0} (And.intro @List.map_nil.{0,0} (And.intro @List.length_cons.{0} (And.intro @List.length_nil.{0} (And.intro @List.length_map.{0,0} (And.intro @List.all_cons.{0} (And.intro @List.all_nil.{0} (And.intro @List.head?_cons.{0} (And.intro @List.take_succ_cons.{0} (And.intro @List.take_zero.{0} (And.intro @List.take_nil.{0} (And.intro @List.drop_succ_cons.{0} (And.intro @List.drop_zero.{0} (And.intro @List.drop_nil.{0} (And.intro @List.cons_append.{0} (And.intro @List.nil_append.{0} (And.intro @List.append_nil.{0} (And.intro @List.flatMap_cons.{0,0} (And.intro @List.flatMap_nil.{0,0} (And.intro @List.foldl_cons.{0,0} (And.intro @List.foldl_nil.{0,0} (And.intro @true_and (And.intro @and_true (And.intro @true_or (And.intro @or_true (And.intro @beq_self_eq_true.{0} (And.intro @Bool.and_true (And.intro @Bool.and_false (And.intro @Bool.true_and (And.intro @Bool.and_self (And.intro @Bool.not_true (And.intro @Bool.not_false (And.intro @if_true.{0} (And.intro @ite_true.{0} (And.intro @ite_false.{0} (And.intro @Bool.false_eq_true (And.intro @Nat.zero_add (And.intro @Nat.add_zero (And.intro @Nat.sub_zero (And.intro @decide_true (And.intro @decide_false (And.intro @ne_eq.{0} (And.intro @not_false_eq_true (And.intro @List.toList_toArray.{0} (And.intro @List.size_toArray.{0} (And.intro @List.headD_cons.{0} (And.intro @Int.toNat_natCast (And.intro @Int.toNat_zero (And.intro @Int.cast_ofNat_Int (And.intro @Int.natCast_zero (@Int.natCast_one)))))))))))))))))))))))))))))))))))))))))))))))))))))))))))))))))))))))))))))))))))))))))))))))))))))))))))))))
def bsU:=And.intro @jF.eq_1 (And.intro @step.eq_1 (And.intro @step.eq_2 (And.intro @step.eq_3 (And.intro @step.eq_4 (And.intro @step.eq_5 (And.intro @step.eq_6 (And.intro @step.eq_7 (And.intro @step.eq_8 (And.intro @step.eq_9 (And.intro @step.eq_10 (And.intro @step.eq_11 (And.intro @step.eq_12 (And.intro @step.eq_13 (And.intro @step.eq_14 (And.intro @step.eq_15 (And.intro @step.eq_16 (And.intro @step.eq_17 (And.intro @step.eq_18 (And.intro @step.eq_19 (And.intro @step.eq_20 (And.intro @step.eq_21 (And.intro @step.eq_22 (And.intro @step.eq_23 (And.intro @step.eq_24 (And.intro @step.eq_25 (And.intro @step.eq_26 (And.intro @step.eq_27 (And.intro @step.eq_28 (And.intro @step.eq_29 (And.intro @step.eq_30 (And.intro @step.eq_31 (And.intro @step.eq_32 (And.intro @step.eq_33 (And.intro @step.eq_34 (And.intro @step.eq_35 (And.intro @step.eq_36 (And.intro @step.eq_37 (And.intro @step.eq_38 (And.intro @step.eq_39 (And.intro @step.eq_40 (And.intro @step.eq_41 (And.intro @step.eq_42 (And.intro @step.eq_43 (And.intro @step.eq_44 (And.intro @step.eq_45 (And.intro @step.eq_46 (And.intro @step.eq_47 (And.intro @step.eq_48 (And.intro @St.val.eq_1 (And.intro @St.val.eq_2 (And.intro @St.val.eq_3 (And.intro @St.put.eq_1 (And.intro @St.put.eq_2 (And.intro @mJ.eq_1 (And.intro @mJ.eq_2 (And.intro @mJ.eq_3 (And.intro @mJ.eq_4 (And.intro @asN.eq_1 (And.intro @asN.eq_2 (And.intro @kZ.eq_1 (And.intro @kZ.eq_2 (And.intro @kZ.eq_3 (And.intro @kZ.eq_4 (And.intro @kZ.eq_5 (And.intro @kZ.eq_6 (And.intro @kZ.eq_7 (And.intro @kZ.eq_8 (And.intro @kZ.eq_9 (And.intro @kZ.eq_10 (And.intro @kZ.eq_11 (And.intro @kZ.eq_12 (And.intro @kZ.eq_13 (And.intro @kZ.eq_14 (And.intro @kZ.eq_15 (And.intro @kZ.eq_16 (And.intro @kZ.eq_17 (And.intro @kZ.eq_18 (And.intro @kZ.eq_19 (And.intro @kZ.eq_20 (And.intro @kZ.eq_21 (And.intro @kZ.eq_22 (And.intro @kZ.eq_23 (And.intro @kZ.eq_24 (And.intro @unV.eq_1 (And.intro @unV.eq_2 (And.intro @unV.eq_3 (And.intro @jL.eq_1 (And.intro @jL.eq_2 (And.intro @jL.eq_3 (And.intro @jL.eq_4 (And.intro @jo.eq_1 (And.intro @jo.eq_2 (And.intro @st1.eq_1 (And.intro @st1.eq_2 (And.intro @st1.eq_3 (And.intro @st1.eq_4 (And.intro @st1.eq_5 (And.intro @st1.eq_6 (And.intro @st1.eq_7 (And.intro @st1.eq_8 (And.intro @setCells.eq_1 (And.intro @setCells.eq_2 (And.intro @pE.eq_1 (And.intro @pE.eq_2 (And.intro @eqA.eq_1 (And.intro @eqA.eq_2 (And.intro @eq1.eq_1 (And.intro @eq1.eq_2 (And.intro @eq1.eq_3 (And.intro @eq1.eq_4 (And.intro @AV.cells.eq_1 (And.intro @AV.cells.eq_2 (And.intro @gu.eq_1 (And.intro @gu.eq_2 (And.intro @Value.cells.eq_1 (And.intro @Value.cells.eq_2 (And.intro @Value.oneCell'.eq_1 (And.intro @Value.oneCell'.eq_2 (And.intro @Value.oneCell'.eq_3 (And.intro @iE.eq_1 (And.intro @iE.eq_2 (And.intro @kV.eq_1 (And.intro @kV.eq_2 (And.intro @lN.eq_1 (And.intro @lN.eq_2 (And.intro @lC.eq_1 (And.intro @lC.eq_2 (And.intro @lC.eq_3 (And.intro @lC.eq_4 (And.intro @lC.eq_5 (And.intro @lC.eq_6 (And.intro @nS.eq_1 (And.intro @nS.eq_2 (And.intro @gL.eq_1 (And.intro @gL.eq_2 (And.intro @freeze.eq_1 (And.intro @scalar.eq_1 (And.intro @scalar.eq_2 (And.intro @scalar.eq_3 (And.intro @scalar.eq_4 (And.intro @qb.eq_1 (And.intro @qb.eq_2 (And.intro @norm.eq_1 (And.intro @clr.eq_1 (And.intro @Dt.eq_1 (And.intro @Dt.eq_2 (And.intro @sD.eq_1 (And.intro @sD.eq_2 (And.intro @uR.eq_1 (And.intro @uR.eq_2 (And.intro @qI.eq_1 (And.intro @qI.eq_2 (And.intro @qI.eq_3 (And.intro @qI.eq_4 (And.intro @qI.eq_5 (And.intro @qI.eq_6 (And.intro @qI.eq_7 (And.intro @qI.eq_8 (And.intro @Fg.eq_1 (@ghost.eq_1))))))))))))))))))))))))))))))))))))))))))))))))))))))))))))))))))))))))))))))))))))))))))))))))))))))))))))))))))))))))))))))))))))))))))))))))))))))))))))))))
set_option maxRecDepth 100000
def a4o:List Nat:=[18,19,24,29,45,51,55,58,66,67,68,70,80,81,86,97,127,128,129,130,131,134]
def XL:List Ins:=[⟨some 2,none,.box 123 1 (.t 0)⟩,
 ⟨some 4,none,.alloc 28 (.agg #[.slice none 0 0,.int .i64 0])⟩]
def XK:List Ins:=[⟨some 5,none,.alloc 28 (.agg #[.slice none 0 0,.int .i64 0])⟩]
def XJ:List Ins:=[⟨some 8,none,.load 1 false (.t 2)⟩,
 ⟨some 9,none,.nck (.t 8)⟩,
 ⟨some 10,none,.oU 0 (.t 9)⟩,
 ⟨some 11,none,.load 1 false (.t 10)⟩,
 ⟨some 12,none,.len (.t 11)⟩,
 ⟨some 13,none,.mmk 82 (some (.t 12))⟩,
 ⟨some 6,none,.alloc 82 (.map none)⟩,
 ⟨none,none,.store 1 (.t 6) (.t 13)⟩]
def XI:List Ins:=[⟨some 7,none,.alloc 68 (.nilFunc)⟩]
def XH:List Ins:=[⟨some 14,none,.clo 87 [(.t 6),(.t 5),(.t 2),(.t 7)]⟩,
 ⟨none,none,.store 1 (.t 7) (.t 14)⟩]
def XG:List Ins:=[⟨some 15,none,.load 1 false (.t 7)⟩,
 ⟨some 16,none,.mov (.t 1)⟩,
 ⟨some 17,none,.call (.t 15) [(.t 16)]⟩,
 ⟨some 18,none,.oU 1 (.t 5)⟩,
 ⟨none,none,.store 1 (.t 18) (.t 17)⟩]
def XF:List Ins:=[⟨some 19,none,.load 2 true (.t 5)⟩,
 ⟨none,none,.store 2 (.t 4) (.t 19)⟩]
def c68:C:=(.seq (.ops false XL) (.seq (.ops false XK) (.seq (.ops false XJ) (.seq (.ops false XI) (.seq (.ops false XH) (.seq (.ops false XG) (.seq (.ops false XF) .ret)))))))
theorem F68:Fn Tryd.prog 68 20 c68 [.c 4 2 true]:=⟨Tryd.f68,a4o,Tryd.func68,by kernel_rfl,by kernel_rfl,by kernel_rfl,by kernel_rfl⟩
def Qh:List Ins:=[⟨some 6,none,.mov (.k (.int .i64 0))⟩]
def Qg:List Ins:=[⟨some 14,none,.mov (.t 0)⟩,
 ⟨some 15,none,.bin .lss (.t 14) (.k (.int .i64 0))⟩]
def XE:List Ins:=[⟨some 16,none,.mov (.t 0)⟩,
 ⟨some 6,none,.mov (.t 16)⟩]
def Qf:List Ins:=[⟨some 18,none,.load 1 false (.t 1)⟩,
 ⟨some 19,none,.mov (.t 0)⟩,
 ⟨some 20,none,.sU (.int .i64) true (.int .i64 0) (.t 18) (.t 19)⟩,
 ⟨some 17,none,.mov (.t 20)⟩,
 ⟨some 21,none,.ext 0 (.t 17)⟩,
 ⟨some 22,none,.ext 1 (.t 17)⟩,
 ⟨some 7,none,.mov (.t 21)⟩,
 ⟨some 8,none,.mov (.t 22)⟩]
def Qe:List Ins:=[⟨some 23,none,.mov (.t 8)⟩]
def XD:List Ins:=[⟨some 24,none,.mov (.t 7)⟩,
 ⟨some 6,none,.mov (.t 24)⟩]
def Qd:List Ins:=[⟨some 25,none,.oU 0 (.t 2)⟩,
 ⟨some 26,none,.load 1 false (.t 25)⟩,
 ⟨some 27,none,.len (.t 26)⟩,
 ⟨some 9,none,.mov (.t 27)⟩]
def Qc:List Ins:=[⟨some 28,none,.load 1 false (.t 1)⟩,
 ⟨some 29,none,.mov (.t 0)⟩,
 ⟨some 30,none,.mov (.t 9)⟩,
 ⟨none,none,.tY (.int .i64) (.t 28) (.t 29) (.t 30)⟩]
def Qb:List Ins:=[⟨some 31,none,.load 1 false (.t 3)⟩,
 ⟨some 32,none,.nck (.t 31)⟩,
 ⟨some 33,none,.oU 0 (.t 32)⟩,
 ⟨some 34,none,.load 1 false (.t 33)⟩,
 ⟨some 35,none,.mov (.t 0)⟩,
 ⟨some 36,none,.rJ 3 (.t 34) (.t 35)⟩,
 ⟨some 37,none,.load 3 true (.t 36)⟩,
 ⟨some 10,none,.alloc 70 (.agg #[.int .i64 0,.slice none 0 0,.slice none 0 0])⟩,
 ⟨none,none,.store 3 (.t 10) (.t 37)⟩]
def Qa:List Ins:=[⟨some 38,none,.oU 2 (.t 10)⟩,
 ⟨some 39,none,.load 1 false (.t 38)⟩,
 ⟨some 40,none,.len (.t 39)⟩,
 ⟨some 41,none,.mk 3 1 8 (.int .i64 0) (.t 40)⟩,
 ⟨some 11,none,.mov (.t 41)⟩]
def L9:List (Nat×Ins):=[(0,⟨some 42,none,.oU 0 (.t 2)⟩),
 (1,⟨some 43,none,.load 1 false (.t 42)⟩),
 (0,⟨some 44,none,.oU 0 (.t 10)⟩),
 (1,⟨some 45,none,.load 1 false (.t 44)⟩),
 (0,⟨some 46,none,.oU 1 (.t 10)⟩),
 (0,⟨some 47,none,.load 1 false (.t 46)⟩),
 (2,⟨some 48,none,.app 3 1 8 (.k (.slice none 0 0)) (.t 47)⟩),
 (0,⟨some 49,none,.mov (.t 11)⟩),
 (0,⟨some 50,none,.build [.int .i64 0,.slice none 0 0,.slice none 0 0] [(0,1,(.t 45)),(1,1,(.t 48)),(2,1,(.t 49))]⟩),
 (2,⟨some 51,none,.qy 70 3 [(.t 50)]⟩),
 (0,⟨some 52,none,.app 70 3 56 (.t 43) (.t 51)⟩),
 (0,⟨some 53,none,.oU 0 (.t 2)⟩),
 (0,⟨none,none,.store 1 (.t 53) (.t 52)⟩)]
def L8:List Ins:=[⟨some 54,none,.oU 2 (.t 10)⟩,
 ⟨some 55,none,.load 1 false (.t 54)⟩,
 ⟨some 56,none,.len (.t 55)⟩,
 ⟨some 57,none,.mov (.k (.int .i64 0))⟩]
def L6:List Ins:=[⟨some 58,none,.bin .lss (.t 57) (.t 56)⟩]
def KZ:List Ins:=[⟨some 59,none,.mov (.t 57)⟩,
 ⟨some 60,none,.rJ 1 (.t 55) (.t 57)⟩,
 ⟨some 61,none,.load 1 false (.t 60)⟩,
 ⟨some 12,none,.mov (.t 59)⟩,
 ⟨some 13,none,.mov (.t 61)⟩]
def KY:List Ins:=[⟨some 62,none,.mov (.t 11)⟩,
 ⟨some 63,none,.mov (.t 12)⟩,
 ⟨some 64,none,.load 1 false (.t 4)⟩,
 ⟨some 65,none,.mov (.t 13)⟩,
 ⟨some 66,none,.call (.t 64) [(.t 65)]⟩,
 ⟨some 67,none,.rJ 1 (.t 62) (.t 63)⟩,
 ⟨none,none,.store 1 (.t 67) (.t 66)⟩]
def KX:List Ins:=[⟨some 68,none,.bin .add (.t 57) (.k (.int .i64 1))⟩,
 ⟨some 57,none,.mov (.t 68)⟩]
def LW:C:=(.seq (.ops false L6) (.seq (.cond (.t 58) .skip (.exit 0)) (.seq (.block 1 (.seq (.ops false KZ) (.ops false KY))) (.ops false KX))))
def KW:List Ins:=[⟨some 69,none,.mov (.t 9)⟩,
 ⟨some 6,none,.mov (.t 69)⟩]
def c87:C:=(.seq (.ops false Qh) (.seq (.seq (.ops false Qg) (.cond (.t 15) (.seq (.ops false XE) .ret) .skip)) (.seq (.seq (.ops false Qf) (.seq (.ops false Qe) (.cond (.t 23) (.seq (.ops false XD) .ret) .skip))) (.seq (.ops false Qd) (.seq (.ops false Qc) (.seq (.ops false Qb) (.seq (.ops false Qa) (.seq (.wN L9) (.seq (.seq (.ops false L8) (.block 0 (.loop LW))) (.seq (.ops false KW) .ret))))))))))
theorem F87:Fn Tryd.prog 87 70 c87 [.t 6]:=⟨Tryd.f87,a4o,Tryd.func87,by kernel_rfl,by kernel_rfl,by kernel_rfl,by kernel_rfl⟩
theorem jG:Tryd.prog.follows .mixedOrders=true:=by kernel_rfl
def EB:=And.intro @Qh.eq_1 (And.intro @Qg.eq_1 (And.intro @XE.eq_1 (And.intro @Qf.eq_1 (And.intro @Qe.eq_1 (And.intro @XD.eq_1 (And.intro @Qd.eq_1 (And.intro @Qc.eq_1 (And.intro @Qb.eq_1 (And.intro @Qa.eq_1 (And.intro @L9.eq_1 (And.intro @L8.eq_1 (And.intro @L6.eq_1 (And.intro @KZ.eq_1 (And.intro @KY.eq_1 (And.intro @KX.eq_1 (@KW.eq_1))))))))))))))))
set_option maxRecDepth 100000
section
variable{Gl:Nat->Option (List AV)}
section
variable{P:Program}{N:Nat}{Q:Exit->St->Prop}{σ:St}{K:St->Prop}
theorem Ud{l:List (Nat×Ins)}(U:List Nat)(h:iD P Gl σ.h.length U (Q .normal) l σ):awp P Gl N (.wN l) Q σ:=⟨U,h⟩
theorem Uj{N:Nat}{U:List Nat}:iD P Gl N U K [] σ=K σ:=rfl
theorem a5l{N:Nat}{U:List Nat}{i:Ins}{r:List (Nat×Ins)}:iD P Gl N U K ((0,i)::r) σ=gV P Gl true σ i (iD P Gl N U K r):=rfl
theorem a5k{N:Nat}{U:List Nat}{i:Ins}{r:List (Nat×Ins)}:iD P Gl N U K ((1,i)::r) σ=((wants σ i->∀id∈i.i.ids Gl σ,id<N/\id∉U)/\gV P Gl true σ i (iD P Gl N U K r)):=rfl
theorem a5j{N:Nat}{U:List Nat}{i:Ins}{r:List (Nat×Ins)}:iD P Gl N U K ((2,i)::r) σ=gV P Gl false σ i λρ=>agree N U σ.h ρ.h/\iD P Gl N U K r ρ:=rfl
theorem a4Z{d:Bool}{dst:Option Nat}{f xs}:gy P Gl d σ dst K (.clo f xs)=jF Gl σ dst K (.clo f xs):=rfl
theorem a4U{d:Bool}{dst:Option Nat}{t n}:gy P Gl d σ dst K (.mmk t n)=jF Gl σ dst K (.mmk t n):=rfl
theorem a1S{d:Bool}{dst:Option Nat}{kt ok z m k}:gy P Gl d σ dst K (.sU kt ok z m k)=jF Gl σ dst K (.sU kt ok z m k):=rfl
theorem a1Q{d:Bool}{dst:Option Nat}{kt m k v}:gy P Gl d σ dst K (.tY kt m k v)=jF Gl σ dst K (.tY kt m k v):=rfl
end
def ZJ(x:ND)(f:List Int):Prop:=0<=x.1/\x.1<f.length/\x.2.1.Pairwise (·<·)/\x.2.1.length<=4000000000/\x.2.2.1.length=x.2.1.length+1
def nextR(ns:List ND)(f:List Int)(r:Int):Int:=(kids ns r.toNat).getD (brK (ns.getD r.toNat zN).2.1 (f.getD (ns.getD r.toNat zN).1.toNat 0)) 0
def Iq(ns:List ND)(f:List Int):Nat->Int->Prop
 |0,r=>-256<=r/\r<0
 |n+1,r=>-256<=r/\(0<=r->r<ns.length/\ZJ (ns.getD r.toNat zN) f/\Iq ns f n (nextR ns f r))
theorem Iq.lo{ns:List ND}{f:List Int}{n:Nat}{r:Int}(h:Iq ns f n r):-256<=r:=by cases n<;>exact h.1
theorem Iq.step{ns:List ND}{f:List Int}{n:Nat}{r:Int}(h:Iq ns f n r)(h0:0<=r):∃m,n=m+1/\r<ns.length/\ZJ (ns.getD r.toNat zN) f/\Iq ns f m (nextR ns f r):=by
 cases n with
 |zero=>have:=h.2;omega
 |succ m=>exact⟨m,rfl,h.2 h0⟩
def lM(x:ND):AV:=.agg [.v (.int .i64 x.1),.list 1 (x.2.1.map e64),.list 1 (x.2.2.1.map e64)]
end
section
open Go.RowKit
section
variable{P:Program}{Gl:Nat->Option (List AV)}{F:Addr->Option Value}{own:List Ent}{B:Nat}{w0:W0}{σ:St}{act:Act}{w:World}{K:Exit->St->Prop}{code:Code}
def WPx(P:Program)(Gl:Nat->Option (List AV))(B:Nat)(w0:W0)(code:Code)(K:Exit->St->Prop)(σ:St):Prop :=
 ∀F own act w,Inv Gl F own B w0 σ act w->code.wp P (λe a w=>NG e/\nG Gl B w0 (K e) a w) act w
theorem a2q(hm:P.follows .mixedOrders=true){hl:List Nat}{c:C}(hc:cC P hl code=some c)(ha:awp P Gl w0.N c K σ):WPx P Gl B w0 code K σ :=
 λF own act w hI=>CK hm rfl code c hc K σ F own act w ha hI
theorem ZO{K':Exit->St->Prop}(h:WPx P Gl B w0 code K σ)(hk:∀e τ,K e τ->K' e τ):WPx P Gl B w0 code K' σ :=
 λF own act w hI=>wp_mono (h F own act w hI) λe a w ⟨ng,F1,fQ,τ,h1,h2⟩=>⟨ng,F1,fQ,τ,h1,hk e τ h2⟩
def a8l(P:Program)(Gl:Nat->Option (List AV))(B:Nat)(w0:W0)(b:Code)(K:Exit->St->Prop)(e:Exit)(τ:St):Prop:=match e with|.normal=>WPx P Gl B w0 b K τ|e=>K e τ
theorem a2o{a b:Code}(h:WPx P Gl B w0 a (a8l P Gl B w0 b K) σ):WPx P Gl B w0 (.seq a b) K σ:=λF own act w hI=>by
 refine wp_seq (wp_mono (h F own act w hI) ?_)
 rintro e a1 w1 ⟨ng,F1,fQ,τ,hI1,hK⟩
 cases e with
 |normal=>exact hK F1 fQ a1 w1 hI1
 |_=>exact⟨ng,F1,fQ,τ,hI1,hK⟩
theorem UN{id:Nat}{b:Code}(h:WPx P Gl B w0 b (yZ id K) σ):WPx P Gl B w0 (.block id b) K σ:=λF own act w hI=>by
 refine wp_block (wp_mono (h F own act w hI) ?_)
 rintro e a1 w1 ⟨ng,F1,fQ,τ,hI1,hK⟩
 cases e with
 |exit i =>
  simp only[Exit.inBlock]
  have hK:(if i=id then K .normal τ else K (.exit i) τ):=hK
  by_cases hi:i=id
  .rw[if_pos hi]at hK;rw[if_pos hi];exact⟨nY,F1,fQ,τ,hI1,hK⟩
  .rw[if_neg hi]at hK;rw[if_neg hi];exact⟨Bn _,F1,fQ,τ,hI1,hK⟩
 |_=>exact⟨ng,F1,fQ,τ,hI1,hK⟩
def GK(J:Nat->St->Prop)(K:Exit->St->Prop)(n:Nat)(e:Exit)(τ:St):Prop:=match e with|.normal=>∃m,n=m+1/\J m τ|e=>K e τ
theorem Jr{J:Nat->St->Prop}{n:Nat}{τ:St}:GK J K n .normal τ=∃m,n=m+1/\J m τ:=rfl
theorem Nv{J:Nat->St->Prop}{n i:Nat}{τ:St}:GK J K n (.exit i) τ=K (.exit i) τ:=rfl
theorem ZP{b:Code}(J:Nat->St->Prop)(n:Nat)(h0:J n σ)(hr:∀m τ,J m τ->WPx P Gl B w0 b (GK J K m) τ):WPx P Gl B w0 (.loop b) K σ:=λF own act w hI=>by
 have key:∀(n:Nat) (τ:St) (F:Addr->Option Value) (own:List Ent) (act:Act) (w:World),J n τ->Inv Gl F own B w0 τ act w->Code.rounds P b (λe a w=>NG e/\nG Gl B w0 (K e) a w) (n+1) act w:=by
  intro n
  induction n with
  |zero =>
   intro τ F own act w hJ hI
   rw[rounds_succ]
   refine wp_mono (hr 0 τ hJ F own act w hI) ?_
   rintro e a1 w1 ⟨ng,F1,fQ,ρ,hI1,hK⟩
   cases e with
   |normal=>obtain⟨m,q,_⟩:=hK;omega
   |_=>exact⟨ng,F1,fQ,ρ,hI1,hK⟩
  |succ n ih =>
   intro τ F own act w hJ hI
   rw[rounds_succ]
   refine wp_mono (hr (n+1) τ hJ F own act w hI) ?_
   rintro e a1 w1 ⟨ng,F1,fQ,ρ,hI1,hK⟩
   cases e with
   |normal =>
    obtain⟨m,q,hJ1⟩:=hK
    obtain rfl:m=n:=by omega
    exact ih ρ F1 fQ a1 w1 hJ1 hI1
   |_=>exact⟨ng,F1,fQ,ρ,hI1,hK⟩
 exact wp_loop_rounds (n+1) (key n σ F own act w h0 hI)
theorem BO(h:∀F own act w,Inv Gl F own B w0 σ act w->∃F' own' τ,Inv Gl F' own' B w0 τ act w/\WPx P Gl B w0 code K τ):WPx P Gl B w0 code K σ:=λF own act w hI=>by
 obtain⟨F',own',τ,hI',h'⟩:=h F own act w hI
 exact h' F' own' act w hI'
def W0.rem(w0:W0)(n:Nat)(x:Value)(a:AV):W0:=⟨w0.w,w0.F,max w0.N n,(n,x,a)::w0.fr,λq hq=>by
 rcases bT.1 hq with rfl|hq
 .exact zP _ _
 .exact cZ (w0.hfr q hq) (wm _ _),w0.pd,w0.pdn⟩
theorem Inv.rem (h:Inv Gl F own B w0 σ act w) {x:Value} {a:AV} (hR:R F own x a):Inv Gl F own B (w0.rem σ.h.length x a) σ act w :=
  { tl:=h.tl,tr:=h.tr,defers:=h.defers,sub:=h.sub,hl:=h.hl,objs:=h.objs,inj:=h.inj,below:=h.below,base:=h.base,gl:=h.gl,gw:=h.gw,room:=h.room,ext:=h.ext,nC:=h.nC,
    nl:=Nat.max_le.2 ⟨h.nl,bF _⟩,
    fr:=fun q hq=>by
      rcases bT.1 hq with rfl|hq
      · show R F (own.take σ.h.length) x a
        rw[iH (by rw[h.hl];exact bF _)];exact hR
      .exact h.fr q hq,
    pd:=h.pd }
theorem Inv.a5t {n:Nat} {x:Value} {a:AV} (h:Inv Gl F own B (w0.rem n x a) σ act w):Inv Gl F own B w0 σ act w :=
  { tl:=h.tl,tr:=h.tr,defers:=h.defers,sub:=h.sub,hl:=h.hl,objs:=h.objs,inj:=h.inj,below:=h.below,base:=h.base,gl:=h.gl,gw:=h.gw,room:=h.room,ext:=h.ext,nC:=h.nC,
    nl:=cZ (wm _ _) h.nl,
    fr:=λq hq=>h.fr q (j6 _ hq),
    pd:=h.pd }
theorem Inv.slot (h:Inv Gl F own B w0 σ act w) {i:Nat} {a:AV} (hR:∀ x,act.tmps[i]?=some x->R F own x a):Inv Gl F own B w0 ⟨σ.t.set i a,σ.h⟩ act w :=
  { tl:=by simpa using h.tl,
    tr:=fun j x b p q=>by
      have q:(σ.t.set i a)[j]?=some b:=q
      by_cases hj:i=j
      · subst hj
        rw[dY]at q
        split at q
        · split at q
          .cases q;exact hR x p
          .cases q
        .rename_i hne;exact absurd rfl hne
      .rw[aB hj]at q;exact h.tr j x b p q,
    defers:=h.defers,sub:=h.sub,hl:=h.hl,objs:=h.objs,inj:=h.inj,below:=h.below,base:=h.base,gl:=h.gl,gw:=h.gw,room:=h.room,ext:=h.ext,nC:=h.nC,nl:=h.nl,fr:=h.fr,pd:=h.pd }
theorem a2r(i:Nat)(h:WPx P Gl B w0 code K ⟨σ.t.set i .any,σ.h⟩):WPx P Gl B w0 code K σ :=
 BO λF own act w hI=>⟨F,own,_,hI.slot λx _=>.pure (.any x),h⟩
theorem a2p(l:List Nat):∀{σ:St},WPx P Gl B w0 code K ⟨clr l σ.t,σ.h⟩->WPx P Gl B w0 code K σ:=by
 induction l with
 |nil=>intro σ h;exact h
 |cons i l ih=>intro σ h;exact a2r i (ih (σ:=⟨σ.t.set i .any,σ.h⟩) h)
theorem UM{t:List AV}{h:List aL}{i id G sz off len:Nat}(hi:t[i]?=some (.row id G sz off len))(H:∀x:Value,x.oneCell'=true->WPx P Gl B (w0.rem h.length x (.row id G sz off len)) code K ⟨t.set i (.v x),h⟩):WPx P Gl B w0 code K ⟨t,h⟩:=λF own act w hI=>by
 have hlt:i<act.tmps.size:=by have:=(aj.1 hi).1;have:=hI.tl;simp only at this;omega
 have hR:=hI.tr i act.tmps[i] _ (aD hlt) hi
 have h1:act.tmps[i].oneCell'=true:=by
  obtain⟨_,_,_,⟨A,c,e,_⟩,_⟩:=hR.lX
  rw[e];rfl
 have hI1:=(hI.rem hR).slot (i:=i) (a:=.v act.tmps[i]) λx hx=>by
  rw[aD hlt]at hx;cases hx;exact .pure (.v _)
 refine wp_mono (H _ h1 F own act w hI1) ?_
 rintro e a1 w1 ⟨ng,F1,fQ,τ,hI2,hK⟩
 exact⟨ng,F1,fQ,τ,hI2.a5t,hK⟩
theorem Py{t:List AV}{h:List aL}{i n:Nat}{x:Value}{a:AV}(hf:(n,x,a)∈w0.fr)(hi:t[i]?=some (.v x))(H:WPx P Gl B w0 code K ⟨t.set i a,h⟩):WPx P Gl B w0 code K ⟨t,h⟩ :=
 BO λF own act w hI=>⟨F,own,_,hI.slot λy hy=>by
  have:y=x:=(hI.tr i y _ hy hi).dK
  subst this
  exact(hI.fr _ hf).mono (λ_ _ q=>q) (Le.Hu own n),H⟩
theorem Inv.obj (h:Inv Gl F own B w0 σ act w) {k:Nat} {ob:aL} {es:List AV} (hob:σ.h[k]?=some ob) (h0:0 < ob.sz) (hl:es.length=ob.es.length) (hc:∀ (i:Nat) (x y:AV),ob.es[i]?=some x->es[i]?=some y->y.cells.length=x.cells.length/\∀ (j:Nat) (a b:AV),x.cells[j]?=some a->y.cells[j]?=some b->∀ v,RC F own ob.pr v a->RC F own ob.pr v b) :
  Inv Gl F own B w0 ⟨σ.t,σ.h.set k { ob with es:=es }⟩ act w:=by
 have hk:k<σ.h.length:=(aj.1 hob).1
 refine h.turn (λ_ _ q=>q) (Le.refl _) h.sub (by simp[h.hl]) (λid e o' p q=>?_) h.inj h.below h.base
 have q:(σ.h.set k { ob with es:=es })[id]?=some o':=q
 by_cases hid:k=id
 .subst hid
  rw[aW hk]at q
  cases q
  obtain⟨k1,k2,k3,k4,k5,k6,k7,k8⟩:=(h.objs k e ob p hob).c h0
  have ex:∀(i:Nat) (y:AV),es[i]?=some y->∃x,ob.es[i]?=some x:=λi y hy=>⟨_,ah (by have:=(aj.1 hy).1;omega)⟩
  refine oF.r ⟨by rw[k1];exact hl.symm,k2,k3,k4,⟨k5.1,λq=>by rw[k5.2 q];exact hl.symm⟩,by rw[hl];exact k6,λi y hy=>?_,?_⟩
  .obtain⟨x,hx⟩:=ex i y hy
   rw[(hc i x y hx hy).1];exact k7 i x hx
  .cases hg:e.g with
   |none=>rw[hg]at k8;exact k8
   |some g =>
    rw[hg]at k8
    obtain⟨cs,⟨fr,a1,af⟩,a2,a3,a4⟩:=k8
    refine⟨cs,⟨fr,a1,by rw[hl];exact af⟩,a2,λi j y b r s=>?_,a4⟩
    obtain⟨x,hx⟩:=ex i y r
    obtain⟨q1,q2⟩:=hc i x y hx r
    have hj:j<x.cells.length:=by rw[<- q1];exact(aj.1 s).1
    obtain⟨v,b1,b2,b3⟩:=a3 i j x _ hx (ah hj)
    exact⟨v,b1,b2,q2 j _ b (ah hj) s v b3⟩
 .rw[aB hid]at q
  exact h.objs id e o' p q
theorem ZQ {t:List AV} {h:List aL} {n id id2 G k:Nat} {x:Value} {or o2:aL} {p q:AV} (hf:(n,x,.row id G 1 0 G) ∈ w0.fr) (hor:h[id]?=some or) (c1:or.es.length=G) (c2:or.sz=1) (c3:or.pr=true) (ho2:h[id2]?=some o2) (hne:id2 ≠ id) (h2:o2.pr=true) (h3:0 < o2.sz) (hk:o2.es[k]?=some (.agg [p,q,.v x]))
  (H:WPx P Gl B w0 code K ⟨t,(h.set id { or with fz:=or.es.length }).set id2 { o2 with es:=o2.es.set k (.agg [p,q,.list 1 or.es]) }⟩):WPx P Gl B w0 code K ⟨t,h⟩ :=
 BO λF own act w hI=>by
  obtain⟨F',hF,hI1,hkp⟩:=hI.Ep hor
  have hR:R F own x (.row id G 1 0 G):=(hI.fr _ hf).mono (λ_ _ q=>q) (Le.Hu own n)
  have hRP:=KN hI hF hR hkp hor c1 c2 c3
  rw[jg,iH (by omega)]at hRP
  have a9S:(h.set id { or with fz:=or.es.length })[id2]?=some o2:=by rw[aB (λe=>hne e.symm)];exact ho2
  refine⟨F',own,_,hI1.obj (k:=id2) (ob:=o2) (es:=o2.es.set k (.agg [p,q,.list 1 or.es])) a9S h3 (by simp) λi u y hu hy=>?_,H⟩
  by_cases hik:k=i
  .subst hik
   rw[hk]at hu;cases hu
   rw[aW (aj.1 hk).1]at hy;cases hy
   refine⟨rfl,λj a b r s v hv=>?_⟩
   match j,r,s with
   |0,r,s=>cases r;cases s;exact hv
   |1,r,s=>cases r;cases s;exact hv
   |2,r,s =>
    cases r;cases s
    have hv:=hv.r.dK
    subst hv
    unfold RC
    rw[if_pos h2]
    exact hRP
  .rw[aB hik,hu]at hy
   cases hy
   exact⟨rfl,λj a b r s v hv=>by rw[r]at s;cases s;exact hv⟩
theorem ER{b:Code}(h:WPx P Gl B w0 b K σ):WPx P Gl B w0 (.scope b) K σ:=λF own act w hI=>by
 refine wp_scope_straight (wp_mono (h F own act w hI) ?_)
 rintro e a1 w1 ⟨ng,hK⟩
 cases e with
 |goto l=>exact absurd rfl (ng l)
 |_=>exact⟨ng,hK⟩
def WPc(P:Program)(Gl:Nat->Option (List AV))(B:Nat)(w0:W0)(c:C)(K:Exit->St->Prop)(σ:St):Prop:=∀(hl:List Nat) (code:Code),cC P hl code=some c->WPx P Gl B w0 code K σ
def JZ(P:Program)(Gl:Nat->Option (List AV))(B:Nat)(w0:W0)(b:C)(K:Exit->St->Prop)(e:Exit)(τ:St):Prop:=match e with|.normal=>WPc P Gl B w0 b K τ|e=>K e τ
theorem N8{b:C}{τ:St}:JZ P Gl B w0 b K .normal τ=WPc P Gl B w0 b K τ:=rfl
theorem Um{b:C}{τ:St}:JZ P Gl B w0 b K .ret τ=K .ret τ:=rfl
theorem Rs{b:C}{i:Nat}{τ:St}:JZ P Gl B w0 b K (.exit i) τ=K (.exit i) τ:=rfl
theorem kN(hm:P.follows .mixedOrders=true){c:C}(ha:awp P Gl w0.N c K σ):WPc P Gl B w0 c K σ:=λhl code hc=>a2q hm hc ha
theorem lD{a b:C}(h:WPc P Gl B w0 a (JZ P Gl B w0 b K) σ):WPc P Gl B w0 (.seq a b) K σ:=by
 intro hl code
 induction code with
 |seq ca cb _ _ =>
  intro hc
  simp only[cC]at hc
  split at hc
  .rename_i x y hxa hyb
   cases hc
   refine a2o (ZO (h hl ca hxa) λe τ hk=>?_)
   cases e with
   |normal=>exact hk hl cb hyb
   |_=>exact hk
  .cases hc
 |scope b ih=>intro hc;exact ER (ih hc)
 |region id ops draw =>
  intro hc
  cases draw<;>simp only[cC]at hc
  .cases hq:cL P false ops ops.toList<;>rw[hq]at hc<;>cases hc
  .repeat' split at hc
   all_goals cases hc
 |cond c a b _ _ =>
  intro hc
  simp only[cC]at hc
  split at hc<;>cases hc
 |block id b _=>intro hc;simp only[cC]at hc;cases hq:cC P hl b<;>rw[hq]at hc<;>cases hc
 |loop b _=>intro hc;simp only[cC]at hc;cases hq:cC P hl b<;>rw[hq]at hc<;>cases hc
 |_=>intro hc;cases hc
theorem Kt{id:Nat}{b:C}(h:WPc P Gl B w0 b (yZ id K) σ):WPc P Gl B w0 (.block id b) K σ:=by
 intro hl code
 induction code with
 |block id' cb _ =>
  intro hc
  simp only[cC]at hc
  cases hq:cC P hl cb with
  |none=>rw[hq]at hc;cases hc
  |some x=>rw[hq]at hc;cases hc;exact UN (h hl cb hq)
 |scope b ih=>intro hc;exact ER (ih hc)
 |region id ops draw =>
  intro hc
  cases draw<;>simp only[cC]at hc
  .cases hq:cL P false ops ops.toList<;>rw[hq]at hc<;>cases hc
  .repeat' split at hc
   all_goals cases hc
 |cond c a b _ _ =>
  intro hc
  simp only[cC]at hc
  split at hc<;>cases hc
 |seq a b _ _ =>
  intro hc
  simp only[cC]at hc
  split at hc<;>cases hc
 |loop b _=>intro hc;simp only[cC]at hc;cases hq:cC P hl b<;>rw[hq]at hc<;>cases hc
 |_=>intro hc;cases hc
theorem ZU{b:C}(J:Nat->St->Prop)(n:Nat)(h0:J n σ)(hr:∀m τ,J m τ->WPc P Gl B w0 b (GK J K m) τ):WPc P Gl B w0 (.loop b) K σ:=by
 intro hl code
 induction code with
 |loop cb _ =>
  intro hc
  simp only[cC]at hc
  cases hq:cC P hl cb with
  |none=>rw[hq]at hc;cases hc
  |some x=>rw[hq]at hc;cases hc;exact ZP J n h0 λm τ hJ=>hr m τ hJ hl cb hq
 |scope b ih=>intro hc;exact ER (ih hc)
 |region id ops draw =>
  intro hc
  cases draw<;>simp only[cC]at hc
  .cases hq:cL P false ops ops.toList<;>rw[hq]at hc<;>cases hc
  .repeat' split at hc
   all_goals cases hc
 |cond c a b _ _ =>
  intro hc
  simp only[cC]at hc
  split at hc<;>cases hc
 |seq a b _ _ =>
  intro hc
  simp only[cC]at hc
  split at hc<;>cases hc
 |block id b _=>intro hc;simp only[cC]at hc;cases hq:cC P hl b<;>rw[hq]at hc<;>cases hc
 |_=>intro hc;cases hc
theorem jJ.ofX {f:FuncId} {fn:Func} {code:Code} {rs:List RV} (hf:P.funcs[f]?=some fn) (hb:fn.body=some code) (hr:wZ P fn.results.toList=some rs) {h0:List aL} {us:List AV} {Q:AV->List aL->Prop}
  (h:∀(B:Nat) (w0:W0),w0.N=h0.length->WPx P Gl B w0 code (EF Gl rs Q) ⟨us++List.replicate (fn.ntmps-us.length) .any,h0⟩):jJ P Gl f h0 us Q :=
 jJ.ofW hf hb hr λF own B w0 act w hN hI=>wp_mono (h B w0 hN F own act w hI) λe a w q=>q.2
theorem jJ.ofC(hm:P.follows .mixedOrders=true){f n:Nat}{c:C}{rs:List RV}(h:Fn P f n c rs){us:List AV}{h0:List aL}{Q:AV->List aL->Prop}{t:List AV}(ht:us++List.replicate (n-us.length) .any=t)(ha:∀(B:Nat) (w0:W0),WPc P Gl B w0 c (EF Gl rs Q) ⟨t,h0⟩):jJ P Gl f h0 us Q:=by
 obtain⟨fn,hl,h1,h2,h3,rfl,_⟩:=h
 cases hb:fn.body with
 |none=>rw[hb]at h2;cases h2
 |some code =>
  rw[hb]at h2
  subst ht
  exact jJ.ofX h1 hb h3 λB w0 hN=>ha B w0 hl code h2
theorem Kr(l:List Nat)(t':List AV){c:C}{t:List AV}{h:List aL}(e:clr l t=t')(H:WPc P Gl B w0 c K ⟨t',h⟩):WPc P Gl B w0 c K ⟨t,h⟩:=λhl code hc=>a2p l (by rw[e];exact H hl code hc)
theorem UU{c:C}{t:List AV}{h:List aL}{i id G sz off len:Nat}(hi:t[i]?=some (.row id G sz off len))(H:∀x:Value,x.oneCell'=true->WPc P Gl B (w0.rem h.length x (.row id G sz off len)) c K ⟨t.set i (.v x),h⟩):WPc P Gl B w0 c K ⟨t,h⟩:=λhl code hc=>UM hi λx hx=>H x hx hl code hc
theorem Pz{c:C}{t:List AV}{h:List aL}{i n:Nat}{x:Value}{a:AV}(hf:(n,x,a)∈w0.fr)(hi:t[i]?=some (.v x))(H:WPc P Gl B w0 c K ⟨t.set i a,h⟩):WPc P Gl B w0 c K ⟨t,h⟩:=λhl code hc=>Py hf hi (H hl code hc)
theorem ZV {c:C} {t:List AV} {h:List aL} {n id id2 G k:Nat} {x:Value} {or o2:aL} {p q:AV} (hf:(n,x,.row id G 1 0 G) ∈ w0.fr) (hor:h[id]?=some or) (c1:or.es.length=G) (c2:or.sz=1) (c3:or.pr=true) (ho2:h[id2]?=some o2) (hne:id2 ≠ id) (h2:o2.pr=true) (h3:0 < o2.sz) (hk:o2.es[k]?=some (.agg [p,q,.v x]))
  (H:WPc P Gl B w0 c K ⟨t,(h.set id { or with fz:=or.es.length }).set id2 { o2 with es:=o2.es.set k (.agg [p,q,.list 1 or.es]) }⟩):WPc P Gl B w0 c K ⟨t,h⟩:=λhl code hc=>ZQ hf hor c1 c2 c3 ho2 hne h2 h3 hk (H hl code hc)
theorem UR{c:C}(h:∀F own act w,Inv Gl F own B w0 σ act w->∃F' own' τ,Inv Gl F' own' B w0 τ act w/\WPc P Gl B w0 c K τ):WPc P Gl B w0 c K σ:=λhl code hc=>BO λF own act w hI=>by
 obtain⟨F',own',τ,h1,h2⟩:=h F own act w hI
 exact⟨F',own',τ,h1,h2 hl code hc⟩
end
def bsY:=And.intro @a4Z (And.intro @a4U (And.intro @a1S (And.intro @a1Q (And.intro @Uj (And.intro @a5l (And.intro @a5k (And.intro @a5j (And.intro @N8 (And.intro @Um (@Rs))))))))))
end
set_option maxRecDepth 100000
def iQ(g:List Nat->Int->List Nat×List ND)(s:List Nat×List Int×List ND)(c:Int):List Nat×List Int×List ND:=((g s.1 c).1,s.2.1++[dR (g s.1 c).1 c],s.2.2++(g s.1 c).2)
def fK (ns:List ND):Nat->List Nat->Int->List Nat × List ND
  |0,ord,_=>(ord,[])
  | f + 1, ord, r => if r < 0 \/ r.toNat ∈ ord then (ord, []) else
      (((kids ns r.toNat).foldl (iQ (fK ns f)) (ord++[r.toNat],[],[])).1,
       ((ns.getD r.toNat zN).1,(ns.getD r.toNat zN).2.1,((kids ns r.toNat).foldl (iQ (fK ns f)) (ord++[r.toNat],[],[])).2.1,())::((kids ns r.toNat).foldl (iQ (fK ns f)) (ord++[r.toNat],[],[])).2.2)
theorem BP(ns:List ND)(f:Nat)(ord:List Nat){r:Int}(h:r<0):fK ns f ord r=(ord,[]):=by
 cases f with
 |zero=>rfl
 |succ f=>simp only[fK];rw[if_pos (.inl h)]
theorem ZW(ns:List ND)(f:Nat)(ord:List Nat){r:Int}(h:r.toNat∈ord):fK ns f ord r=(ord,[]):=by
 cases f with
 |zero=>rfl
 |succ f=>simp only[fK];rw[if_pos (.inr h)]
theorem DC{g:List Nat->Int->List Nat×List ND}(hg:∀o c,∃t,(g o c).1=o++t/\(g o c).2.length=t.length):∀(l:List Int) (s:List Nat×List Int×List ND),∃t,(l.foldl (iQ g) s).1=s.1++t/\(l.foldl (iQ g) s).2.2.length=s.2.2.length+t.length/\(l.foldl (iQ g) s).2.1.length=s.2.1.length+l.length:=by
 intro l
 induction l with
 |nil=>intro s;exact⟨[],by simp,by simp,by simp⟩
 |cons c l ih =>
  intro s
  rw[d9]
  obtain⟨t,h1,h2,h3⟩:=ih (iQ g s c)
  obtain⟨u,k1,k2⟩:=hg s.1 c
  refine⟨u++t,?_,?_,?_⟩
  .rw[h1];show(g s.1 c).1++t=_;rw[k1,aX]
  .rw[h2];show(s.2.2++(g s.1 c).2).length+_=_;rw[ak,ak,k2];omega
  .rw[h3];show(s.2.1++[_]).length+_=_;rw[ak,bI,bV,bI];omega
theorem Kv(ns:List ND):∀(f:Nat) (ord:List Nat) (r:Int),∃t,(fK ns f ord r).1=ord++t/\(fK ns f ord r).2.length=t.length:=by
 intro f
 induction f with
 |zero=>intro ord r;exact⟨[],by simp[fK],rfl⟩
 |succ f ih =>
  intro ord r
  simp only[fK]
  split
  .exact⟨[],by simp,rfl⟩
  .obtain⟨t,h1,h2,_⟩:=DC (g:=fK ns f) (λo c=>ih o c) (kids ns r.toNat) (ord++[r.toNat],[],[])
   refine⟨r.toNat::t,?_,?_⟩
   .rw[h1];simp
   .rw[bI,h2];simp
theorem I8{β:Type}(g:β->Int->β)(s:β)(l:List Int)(i:Nat)(h:i<l.length):(l.take (i+1)).foldl g s=g ((l.take i).foldl g s) (l.getD i 0):=by
 rw[bU h,jr,aQ,ah h]
 rfl
def yj(ord:List Nat):List AV:=ord.zipIdx.map λq=>.agg [.v (.int .i64 (q.1:Int)),.v (.int .i64 (q.2:Int))]
theorem Tj(ord:List Nat)(r:Nat):yj (ord++[r])=yj ord++[.agg [.v (.int .i64 (r:Int)),.v (.int .i64 (ord.length:Int))]]:=by
 unfold yj
 rw[List.zipIdx_append]
 simp
theorem HY(ord:List Nat):(yj ord).all (KT.int .i64).yR=true:=by
 refine aU.2 λa ha=>?_
 obtain⟨q,_,rfl⟩:=dW.1 ha
 rfl
theorem TK(r:Nat):∀(ord:List Nat) (k i:Nat),oh 1 [.v (.int .i64 (r:Int))] ((ord.zipIdx k).map λq=>.agg [.v (.int .i64 (q.1:Int)),.v (.int .i64 (q.2:Int))]) i=if r∈ord then some (i+ord.idxOf r,.v (.int .i64 ((k+ord.idxOf r:Nat):Int))) else none:=by
 intro ord
 induction ord with
 |nil=>intro k i;rfl
 |cons a ord ih =>
  intro k i
  rw[uX,dn]
  simp only[oh]
  by_cases h:a=r
  .subst h
   rw[if_pos (by simp[qJ,eqC]),if_pos (by simp)]
   simp
  .rw[if_neg (by simp only[List.take_succ_cons,ku,qJ,eqC,jA];simp;omega),ih]
   by_cases hm:r∈ord
   .rw[if_pos hm,if_pos (by simp[hm]),List.idxOf_cons]
    have:(a==r)=false:=by simpa using h
    rw[this]
    simp only[cond_false]
    congr 2
    .omega
    .congr 2;omega
   .rw[if_neg hm,if_neg (by simp only[bT,not_or];exact⟨λe=>h e.symm,hm⟩)]
structure Ids where
 m:Nat
 nb:Nat
 dB:Nat
 tB:Nat
 vB:Nat
 cB:Nat
 rB:Nat
 n0:Nat
 x0:AV
 x1:AV
 x2:AV
 x3:AV
 x5:AV
 fz:Nat
structure Rv (I:Ids):Prop where
 m:I.m≠I.nb/\I.m≠I.dB/\I.m≠I.tB/\I.m≠I.vB/\I.m≠I.cB/\I.m≠I.rB/\I.m≠I.n0
 d:I.dB≠I.nb/\I.dB≠I.tB/\I.dB≠I.vB/\I.dB≠I.cB/\I.dB≠I.rB/\I.dB≠I.n0
 n:I.n0≠I.nb/\I.n0≠I.tB/\I.n0≠I.vB/\I.n0≠I.cB/\I.n0≠I.rB
structure VH (h:List aL) (I:Ids) (ns:List ND) (ord:List Nat) (nd:List AV):Prop where
 a1:h[I.nb]?=some ⟨82,1,0,false,[.mp I.m]⟩
 a2:h[I.m]?=some ⟨82,0,0,true,yj ord⟩
 a3:h[I.dB]?=some ⟨28,2,0,false,[.agg [.row I.n0 nd.length 3 0 nd.length,.v (.int .i64 0)]]⟩
 a4:h[I.n0]?=some ⟨70,3,0,true,nd⟩
 a5:h[I.tB]?=some ⟨123,1,0,false,[.ptr I.cB 1 0 4]⟩
 a6:h[I.cB]?=some ⟨107,6,0,false,[.agg [I.x0,I.x1,I.x2,I.x3,.row I.rB ns.length 3 0 ns.length,I.x5]]⟩
 a7:h[I.rB]?=some ⟨70,3,I.fz,true,ns.map lM⟩
 a8:h[I.vB]?=some ⟨68,1,0,false,[.clo 87 [.ptr I.nb 1 0 0,.ptr I.dB 1 0 0,.ptr I.tB 1 0 0,.ptr I.vB 1 0 0]]⟩
def pI(I:Ids)(h h':List aL):Prop:=h.length<=h'.length/\∀j,j<h.length->j≠I.m->j≠I.dB->j≠I.n0->h'[j]?=h[j]?
theorem pI.refl(I:Ids)(h:List aL):pI I h h:=⟨bF _,λ_ _ _ _ _=>rfl⟩
theorem pI.trans{I:Ids}{a b c:List aL}(h:pI I a b)(k:pI I b c):pI I a c:=⟨cZ h.1 k.1,λj hj h1 h2 h3=>(k.2 j (qz hj h.1) h1 h2 h3).trans (h.2 j hj h1 h2 h3)⟩
theorem iZ{h:List aL}{i:Nat}{o:aL}(e:h[i]?=some o):i<h.length:=(aj.1 e).1
theorem VH.of{h h':List aL}{I:Ids}{ns:List ND}{ord a2W:List Nat}{nd nd':List AV}(hI:Rv I)(hV:VH h I ns ord nd)(hs:pI I h h')(e2:h'[I.m]?=some ⟨82,0,0,true,yj a2W⟩)(e3:h'[I.dB]?=some ⟨28,2,0,false,[.agg [.row I.n0 nd'.length 3 0 nd'.length,.v (.int .i64 0)]]⟩)(e4:h'[I.n0]?=some ⟨70,3,0,true,nd'⟩):VH h' I ns a2W nd':=by
 obtain⟨⟨m1,m2,m3,m4,m5,m6,m7⟩,⟨d1,d2,d3,d4,d5,d6⟩,⟨n1,n2,n3,n4,n5⟩⟩:=hI
 have go:∀{j:Nat} {o:aL},h[j]?=some o->I.m≠j->I.dB≠j->I.n0≠j->h'[j]?=some o:=λe q1 q2 q3=>(hs.2 _ (iZ e) (λe=>q1 e.symm) (λe=>q2 e.symm) (λe=>q3 e.symm)).trans e
 exact⟨go hV.a1 m1 d1 n1,e2,e3,e4,go hV.a5 m3 d2 n2,go hV.a6 m5 d4 n4,go hV.a7 m6 d5 n5,go hV.a8 m4 d3 n3⟩
theorem VH.set{h:List aL}{I:Ids}{ns:List ND}{ord:List Nat}{nd:List AV}(hV:VH h I ns ord nd){j:Nat}(hj:j≠I.m/\j≠I.nb/\j≠I.dB/\j≠I.tB/\j≠I.vB/\j≠I.cB/\j≠I.rB/\j≠I.n0)(o:aL):VH (h.set j o) I ns ord nd:=by
 obtain⟨q1,q2,q3,q4,q5,q6,q7,q8⟩:=hj
 exact⟨by rw[aB q2];exact hV.a1,by rw[aB q1];exact hV.a2,by rw[aB q3];exact hV.a3,by rw[aB q8];exact hV.a4,by rw[aB q4];exact hV.a5,by rw[aB q6];exact hV.a6,by rw[aB q7];exact hV.a7,by rw[aB q5];exact hV.a8⟩
section
variable{Gl:Nat->Option (List AV)}
def a8k(h:List aL)(I:Ids)(ns:List ND)(O:List Nat)(idx:Int)(nd:List AV)(res:AV)(h':List aL):Prop:=res=.v (.int .i64 idx)/\VH h' I ns O nd/\pI I h h'
def a4L:List Nat:=[0,5,7,8,12,13,14,15,16,17,18,19,20,21,22,23,24,25,26,27,28,29,30,31,32,33,34,35,36,37,38,39,40,41,42,43,44,45,46,47,48,49,50,51,52,53,54,58,59,60,61,62,63,64,65,66,67,68,69]
def a2F(I:Ids)(n fi:Nat)(ks:List Int)(i:Nat):List AV:=[.any,.ptr I.nb 1 0 0,.ptr I.dB 1 0 0,.ptr I.tB 1 0 0,.ptr I.vB 1 0 0,.any,.v (.int .i64 0),.any,.any,.v (.int .i64 (n:Int)),.ptr fi 1 0 0,.row (fi+1) ks.length 1 0 ks.length,.any,.any,.any,.any,.any,.any,.any,.any,.any,.any,.any,.any,.any,.any,.any,.any,.any,.any,.any,.any,.any,.any,.any,.any,.any,.any,.any,.any,.any,.any,.any,.any,.any,.any,.any,.any,.any,.any,.any,.any,.any,.any,.any,.list 1 (ks.map e64),.v (.int .i64 (ks.length:Int)),.v (.int .i64 (i:Nat)),.any,.any,.any,.any,.any,.any,.any,.any,.any,.any,.any,.any]
set_option maxHeartbeats 4000000 in
theorem a2x {I:Ids} (hI:Rv I) {ns:List ND} (hns:∀ i,i < ns.length->∀ c ∈ kids ns i,-1000000000<=c/\c < (i:Int)) (hlen:∀ x ∈ ns,x.2.1.length<=2000000001/\x.2.2.1.length<=2000000001) (hn:ns.length<=1000000) :
  ∀(f:Nat) (ord:List Nat) (nd:List AV) (h:List aL) (r:Int),r<(f:Int)->-1000000000<=r->r<(ns.length:Int)->VH h I ns ord nd->nd.length=ord.length->(fK ns f ord r).1.length<=1000000->
  jJ Tryd.prog Gl 87 h [.v (.int .i64 r),.ptr I.nb 1 0 0,.ptr I.dB 1 0 0,.ptr I.tB 1 0 0,.ptr I.vB 1 0 0] (a8k h I ns (fK ns f ord r).1 (dR (fK ns f ord r).1 r) (nd++(fK ns f ord r).2.map lM)):=by
 intro f
 induction f with
 |zero =>
  intro ord nd h r hr hr1 hr2 hV hl hb
  rw[BP ns 0 ord (by omega)]
  refine F87.Qi jG (t:=[.v (.int .i64 r),.ptr I.nb 1 0 0,.ptr I.dB 1 0 0,.ptr I.tB 1 0 0,.ptr I.vB 1 0 0,.any,.any,.any,.any,.any,.any,.any,.any,.any,.any,.any,.any,.any,.any,.any,.any,.any,.any,.any,.any,.any,.any,.any,.any,.any,.any,.any,.any,.any,.any,.any,.any,.any,.any,.any,.any,.any,.any,.any,.any,.any,.any,.any,.any,.any,.any,.any,.any,.any,.any,.any,.any,.any,.any,.any,.any,.any,.any,.any,.any,.any,.any,.any,.any,.any]) rfl ?_
  simp only[bsX,bsU,simprocAttr,EB,bsY,c87]
  refine DN rfl (λhc=>?_) (λhc=>?_)
  rotate_left
  .have:=of_decide_eq_false hc;omega
  simp only[bsX,bsU,simprocAttr,EB,bsY]
  refine vX trivial ?_
  simp only[bsX,bsU,simprocAttr,FK,sP,su]
  have e:dR ord r=r:=by unfold dR;rw[if_pos (by omega)]
  exact⟨by rw[e],hV,pI.refl I h⟩
 |succ f ih =>
  intro ord nd h r hr hr1 hr2 hV hl hb
  by_cases h0:r<0
  .rw[BP ns _ ord h0]
   refine F87.Qi jG (t:=[.v (.int .i64 r),.ptr I.nb 1 0 0,.ptr I.dB 1 0 0,.ptr I.tB 1 0 0,.ptr I.vB 1 0 0,.any,.any,.any,.any,.any,.any,.any,.any,.any,.any,.any,.any,.any,.any,.any,.any,.any,.any,.any,.any,.any,.any,.any,.any,.any,.any,.any,.any,.any,.any,.any,.any,.any,.any,.any,.any,.any,.any,.any,.any,.any,.any,.any,.any,.any,.any,.any,.any,.any,.any,.any,.any,.any,.any,.any,.any,.any,.any,.any,.any,.any,.any,.any,.any,.any]) rfl ?_
   simp only[bsX,bsU,simprocAttr,EB,bsY,c87]
   refine DN rfl (λhc=>?_) (λhc=>?_)
   rotate_left
   .have:=of_decide_eq_false hc;omega
   simp only[bsX,bsU,simprocAttr,EB,bsY]
   refine vX trivial ?_
   simp only[bsX,bsU,simprocAttr,FK,sP,su]
   have e:dR ord r=r:=by unfold dR;rw[if_pos (by omega)]
   exact⟨by rw[e],hV,pI.refl I h⟩
  obtain⟨k,rfl⟩:=Int.eq_ofNat_of_zero_le (show 0<=r by omega)
  have hfind:=TK k ord 0 0
  have hfind:oh 1 [.v (.int .i64 (k:Int))] (yj ord) 0=_:=hfind
  by_cases hm:k∈ord
  .rw[ZW ns _ ord (by simpa using hm)]
   rw[if_pos hm]at hfind
   refine F87.Qi jG (t:=[.v (.int .i64 (k:Int)),.ptr I.nb 1 0 0,.ptr I.dB 1 0 0,.ptr I.tB 1 0 0,.ptr I.vB 1 0 0,.any,.any,.any,.any,.any,.any,.any,.any,.any,.any,.any,.any,.any,.any,.any,.any,.any,.any,.any,.any,.any,.any,.any,.any,.any,.any,.any,.any,.any,.any,.any,.any,.any,.any,.any,.any,.any,.any,.any,.any,.any,.any,.any,.any,.any,.any,.any,.any,.any,.any,.any,.any,.any,.any,.any,.any,.any,.any,.any,.any,.any,.any,.any,.any,.any]) rfl ?_
   simp only[bsX,bsU,simprocAttr,EB,bsY,c87]
   refine DN rfl (λhc=>?_) (λhc=>?_)
   .have:=of_decide_eq_true hc;omega
   simp only[bsX,bsU,simprocAttr,EB,bsY,hV.a1,hV.a2,hfind,HY,KT.ok,okI,KT.n,Fw]
   refine vX trivial ?_
   simp only[bsX,bsU,simprocAttr,FK,sP,su]
   have e:dR ord (k:Int)=((ord.idxOf k:Nat):Int):=by unfold dR;rw[if_neg (by omega),aZ]
   exact⟨by rw[e],hV,pI.refl I h⟩
  rw[if_neg hm]at hfind
  have hb1:=iZ hV.a1
  have hb2:=iZ hV.a2
  have hb3:=iZ hV.a3
  have hb4:=iZ hV.a4
  have hb5:=iZ hV.a5
  have hb6:=iZ hV.a6
  have hb7:=iZ hV.a7
  have hb8:=iZ hV.a8
  have hm1:=hI.m
  have hd1:=hI.d
  have hn1:=hI.n
  have hkl:k<ns.length:=by omega
  have Cq:(ns.map lM).getD k .any=lM (ns.getD k zN):=getD_map lM zN ns hkl
  have hx:ns.getD k zN∈ns:=by rw[aQ,ah hkl];exact aJ _
  obtain⟨hx1,hx2⟩:=hlen _ hx
  have hks:kids ns k=(ns.getD k zN).2.2.1:=rfl
  have Dz:(kids ns k).length=(ns.getD k zN).2.2.1.length:=rfl
  have hkc:=hns k hkl
  generalize hv0:fK ns (f+1) ord (k:Int)=V at hb ⊢
  have hV0:V=(((kids ns k).foldl (iQ (fK ns f)) (ord++[k],[],[])).1,((ns.getD k zN).1,(ns.getD k zN).2.1,((kids ns k).foldl (iQ (fK ns f)) (ord++[k],[],[])).2.1,())::((kids ns k).foldl (iQ (fK ns f)) (ord++[k],[],[])).2.2):=by
   rw[<- hv0]
   simp only[fK]
   rw[if_neg (by simp only[aZ];rintro(q|q);omega;exact hm q),aZ]
  subst hV0
  clear hv0
  generalize hx0:ns.getD k zN=x at *
  refine jJ.ofC jG F87 (t:=[.v (.int .i64 (k:Int)),.ptr I.nb 1 0 0,.ptr I.dB 1 0 0,.ptr I.tB 1 0 0,.ptr I.vB 1 0 0,.any,.any,.any,.any,.any,.any,.any,.any,.any,.any,.any,.any,.any,.any,.any,.any,.any,.any,.any,.any,.any,.any,.any,.any,.any,.any,.any,.any,.any,.any,.any,.any,.any,.any,.any,.any,.any,.any,.any,.any,.any,.any,.any,.any,.any,.any,.any,.any,.any,.any,.any,.any,.any,.any,.any,.any,.any,.any,.any,.any,.any,.any,.any,.any,.any]) rfl λB w0=>?_
  show WPc _ _ _ _ c87 _ _
  unfold c87
  refine lD (kN jG ?_)
  simp only[bsX,bsU,simprocAttr,bsY,Qh]
  refine lD (kN jG ?_)
  simp only[bsX,bsU,simprocAttr,bsY,Qg]
  refine DN rfl (λhc=>?_) (λhc=>?_)
  .have:=of_decide_eq_true hc;omega
  simp only[bsX,bsU,simprocAttr,bsY]
  refine lD (kN jG ?_)
  simp only[bsX,bsU,simprocAttr,bsY,Qf,Qe,hV.a1,hV.a2,hfind,HY,KT.ok,okI,KT.n,Fw]
  refine lD (kN jG ?_)
  simp only[bsX,bsU,simprocAttr,bsY,Qd,hV.a3]
  refine lD (kN jG ?_)
  simp only[bsX,bsU,simprocAttr,bsY,Qc,hV.a1,hV.a2,hfind,HY,KT.ok,okI,KT.n,Fw]
  have s1:pI I h (h.set I.m ⟨82,0,0,true,yj (ord++[k])⟩):=⟨by simp,λj hj q1 q2 q3=>by rw[aB (λe=>q1 e.symm)]⟩
  have V1:VH (h.set I.m ⟨82,0,0,true,yj (ord++[k])⟩) I ns (ord++[k]) nd:=VH.of hI hV s1 (aW hb2) (by rw[aB (by omega)];exact hV.a3) (by rw[aB (by omega)];exact hV.a4)
  rw[show yj ord++[AV.agg [.v (.int .i64 (k:Int)),.v (.int .i64 (nd.length:Int))]]=yj (ord++[k]) by rw[Tj,hl]]
  generalize h.set I.m ⟨82,0,0,true,yj (ord++[k])⟩=h1 at s1 V1
  have hb3:=iZ V1.a3
  have hb4:=iZ V1.a4
  refine lD (kN jG ?_)
  simp only[bsX,bsU,simprocAttr,bsY,Qb,V1.a5,V1.a6,V1.a7,dI,kD]
  refine⟨⟨by omega,by omega⟩,hkl,?_⟩
  simp only[Cq,lM]
  simp only[bsX,bsU,simprocAttr,bsY,dI,kD]
  generalize hfb:(⟨70,3,0,false,[AV.agg [.v (.int .i64 x.1),.list 1 (x.2.1.map e64),.list 1 (x.2.2.1.map e64)]]⟩:aL)=fb
  have hfe:fb.es=[AV.agg [.v (.int .i64 x.1),.list 1 (x.2.1.map e64),.list 1 (x.2.2.1.map e64)]]:=by rw[<- hfb]
  have hfs:fb.sz=3:=by rw[<- hfb]
  refine lD (kN jG ?_)
  simp only[bsX,bsU,simprocAttr,bsY,Qa,dI,kD,hfe,hfs]
  refine⟨⟨by omega,by unfold lG;omega,by omega⟩,?_⟩
  refine Kr [5,7,8,12,13,14,15,16,17,18,19,20,21,22,23,24,25,26,27,28,29,30,31,32,33,34,35,36,37,38,39,40,41,42,43,44,45,46,47,48,49,50,51,52,53,54,55,56,57,58,59,60,61,62,63,64,65,66,67,68,69] [.v (.int .i64 (k:Int)),.ptr I.nb 1 0 0,.ptr I.dB 1 0 0,.ptr I.tB 1 0 0,.ptr I.vB 1 0 0,.any,.v (.int .i64 0),.any,.any,.v (.int .i64 (nd.length:Int)),.ptr h1.length 1 0 0,.row (h1++[fb]).length x.2.2.1.length 1 0 x.2.2.1.length,.any,.any,.any,.any,.any,.any,.any,.any,.any,.any,.any,.any,.any,.any,.any,.any,.any,.any,.any,.any,.any,.any,.any,.any,.any,.any,.any,.any,.any,.any,.any,.any,.any,.any,.any,.any,.any,.any,.any,.any,.any,.any,.any,.any,.any,.any,.any,.any,.any,.any,.any,.any,.any,.any,.any,.any,.any,.any] ?_ ?_
  .kernel_rfl
  have hN1:(h1++[fb]++[(⟨3,1,0,true,List.replicate x.2.2.1.length (.v (.int .i64 0))⟩:aL)]).length=h1.length+2:=by simp
  have hS3:pI I h1 (h1++[fb]++[(⟨3,1,0,true,List.replicate x.2.2.1.length (.v (.int .i64 0))⟩:aL)]):=⟨by omega,λj hj _ _ _=>by rw[aX,aH hj]⟩
  have hlow:∀j,j<h1.length->(h1++[fb]++[(⟨3,1,0,true,List.replicate x.2.2.1.length (.v (.int .i64 0))⟩:aL)])[j]?=h1[j]?:=λj hj=>by rw[aX,aH hj]
  have V3:=VH.of hI V1 hS3 ((hlow _ (iZ V1.a2)).trans V1.a2) ((hlow _ hb3).trans V1.a3) ((hlow _ hb4).trans V1.a4)
  have hfi:(h1++[fb]++[(⟨3,1,0,true,List.replicate x.2.2.1.length (.v (.int .i64 0))⟩:aL)])[h1.length]?=some fb:=by rw[aX,aK (bF _)];simp
  have hni:(h1++[fb]++[(⟨3,1,0,true,List.replicate x.2.2.1.length (.v (.int .i64 0))⟩:aL)])[h1.length+1]?=some ⟨3,1,0,true,List.replicate x.2.2.1.length (.v (.int .i64 0))⟩:=by rw[aK (by simp)];simp
  rw[show(h1++[fb]).length=h1.length+1 by simp]
  have a4t:=s1.trans hS3
  generalize h1++[fb]++[(⟨3,1,0,true,List.replicate x.2.2.1.length (.v (.int .i64 0))⟩:aL)]=h3 at hN1 hfi hni V3 a4t
  have M9:I.m<h1.length/\I.nb<h1.length/\I.dB<h1.length/\I.tB<h1.length/\I.vB<h1.length/\I.cB<h1.length/\I.rB<h1.length/\I.n0<h1.length:=⟨iZ V1.a2,iZ V1.a1,iZ V1.a3,iZ V1.a5,iZ V1.a8,iZ V1.a6,iZ V1.a7,iZ V1.a4⟩
  have hh1:h.length<=h1.length:=s1.1
  clear hlow hS3 s1
  generalize h1.length=fi at *
  refine UU (i:=11) (by rfl) λxv hxv=>?_
  refine lD (kN jG (Ud [] ?_))
  have hq4:∀a b:aL,(h3++[a]++[b])[I.n0]?=some ⟨70,3,0,true,nd⟩:=λa b=>by rw[aX,aH (by omega)];exact V3.a4
  have hq3:∀a b o:aL,((h3++[a]++[b]).set I.n0 o)[I.dB]?=some ⟨28,2,0,false,[.agg [.row I.n0 nd.length 3 0 nd.length,.v (.int .i64 0)]]⟩:=λa b o=>by rw[aB (by omega),aX,aH (by omega)];exact V3.a3
  simp only[bsX,bsU,simprocAttr,bsY,L9,dI,kD,hfe,hfs,hfi,V3.a3,hxv]
  refine⟨λ_ id hid=>?_,?_⟩
  .simp only[Abs.I.ids,St.val,kF,nK,bG]at hid
   subst hid
   exact⟨by omega,by simp⟩
  refine⟨λ_ id hid=>?_,?_⟩
  .simp only[Abs.I.ids,St.val,kF,nK,bG]at hid
   subst hid
   exact⟨by omega,by simp⟩
  have hL1:∀c:aL,(h3++[c]).length=h3.length+1:=λc=>by simp
  have hq5:∀a b:aL,(h3++[a]++[b])[h3.length+1]?=some b:=λa b=>by rw[aK (by simp)];simp
  have htk:List.take x.2.1.length (x.2.1.map e64)=x.2.1.map e64:=by rw[iH (by simp)]
  have a3X:=hxv
  simp only[Value.oneCell']at a3X
  simp only[bsX,bsU,simprocAttr,bsY,yA,dI,kD,hfe,hfs,hfi,V3.a3,hxv,hq3,hq4,jg,dV,zT]
  refine⟨⟨by unfold lG;omega,by omega⟩,λid hid _=>aH hid,?_⟩
  simp only[bsX,bsU,simprocAttr,bsY,yA,dI,kD,hfe,hfs,hfi,V3.a3,hxv,a3X,hL1,hq5,htk,hq3,hq4,jg,dV,zT]
  refine⟨λid hid _=>by rw[aX,aH hid,aH hid],?_⟩
  have hpre:=DC (g:=fK ns f) (λo c=>Kv ns f o c)
  have hfin:=hpre (kids ns k) (ord++[k],[],[])
  have hL0:ord.length+1<=1000000:=by
   obtain⟨t,q1,q2,q3⟩:=hfin
   have q4:(((kids ns k).foldl (iQ (fK ns f)) (ord++[k],[],[])).1).length<=1000000:=hb
   rw[q1]at q4
   simp only[ak,bI,bV]at q4
   omega
  refine⟨⟨by unfold lG;omega,by omega⟩,?_⟩
  generalize hP:(AV.agg [.v (.int .i64 x.1),.list 1 (x.2.1.map e64),.v xv]:AV)=Pv
  have b0r:=iZ V3.a3
  have b0q:=iZ V3.a4
  generalize hh4:(((h3++[(⟨3,1,x.2.1.length,true,x.2.1.map e64⟩:aL)]++[(⟨70,3,0,true,[Pv]⟩:aL)]).set I.n0 (⟨70,3,0,true,nd++[Pv]⟩:aL)).set I.dB (⟨28,2,0,false,[AV.agg [AV.row I.n0 (nd.length+1) 3 0 (nd.length+1),.v (.int .i64 0)]]⟩:aL))=h4
  have hlow:∀j,j<h3.length->j≠I.n0->j≠I.dB->h4[j]?=h3[j]?:=λj hj q1 q2=>by
   rw[<- hh4,aB (λe=>q2 e.symm),aB (λe=>q1 e.symm),aX,aH hj]
  have hl4:h4.length=h3.length+2:=by rw[<- hh4];simp
  have a4s:pI I h3 h4:=⟨by omega,λj hj q1 q2 q3=>hlow j hj q3 q2⟩
  have V4:VH h4 I ns (ord++[k]) (nd++[Pv]):=VH.of hI V3 a4s ((hlow _ (by omega) (by omega) (by omega)).trans V3.a2)
   (by rw[<- hh4,aW (by simp;omega)];simp)
   (by rw[<- hh4,aB (by omega),aW (by simp;omega)])
  have a4m:h4[fi]?=some fb:=(hlow _ (by omega) (by omega) (by omega)).trans hfi
  have a9T:h4[fi+1]?=some ⟨3,1,0,true,List.replicate x.2.2.1.length (.v (.int .i64 0))⟩:=(hlow _ (by omega) (by omega) (by omega)).trans hni
  have hS4:=a4t.trans a4s
  clear hh4 hlow
  refine Pz (i:=11) (List.Mem.head _) (by rfl) ?_
  refine Kr [5,7,8,12,13,14,15,16,17,18,19,20,21,22,23,24,25,26,27,28,29,30,31,32,33,34,35,36,37,38,39,40,41,42,43,44,45,46,47,48,49,50,51,52,53,54,55,56,57,58,59,60,61,62,63,64,65,66,67,68,69] [.v (.int .i64 (k:Int)),.ptr I.nb 1 0 0,.ptr I.dB 1 0 0,.ptr I.tB 1 0 0,.ptr I.vB 1 0 0,.any,.v (.int .i64 0),.any,.any,.v (.int .i64 (nd.length:Int)),.ptr fi 1 0 0,.row (fi+1) x.2.2.1.length 1 0 x.2.2.1.length,.any,.any,.any,.any,.any,.any,.any,.any,.any,.any,.any,.any,.any,.any,.any,.any,.any,.any,.any,.any,.any,.any,.any,.any,.any,.any,.any,.any,.any,.any,.any,.any,.any,.any,.any,.any,.any,.any,.any,.any,.any,.any,.any,.any,.any,.any,.any,.any,.any,.any,.any,.any,.any,.any,.any,.any,.any,.any] ?_ ?_
  .kernel_rfl
  have hmem:(h3.length,xv,AV.row (fi+1) x.2.2.1.length 1 0 x.2.2.1.length)∈(w0.rem h3.length xv (AV.row (fi+1) x.2.2.1.length 1 0 x.2.2.1.length)).fr:=List.Mem.head _
  generalize w0.rem h3.length xv (AV.row (fi+1) x.2.2.1.length 1 0 x.2.2.1.length)=w1 at hmem ⊢
  refine lD (lD (kN jG ?_))
  simp only[bsX,bsU,simprocAttr,bsY,L8,a4m,hfe,hfs]
  obtain⟨J,hJ⟩:∃J:Nat->St->Prop,∀m τ,J m τ↔(∃i hh,i<=(kids ns k).length/\m=(kids ns k).length-i/\VH hh I ns (((kids ns k).take i).foldl (iQ (fK ns f)) (ord++[k],[],[])).1 (nd++[Pv]++(((kids ns k).take i).foldl (iQ (fK ns f)) (ord++[k],[],[])).2.2.map lM)/\hh[fi]?=some fb/\hh[fi+1]?=some ⟨3,1,0,true,((((kids ns k).take i).foldl (iQ (fK ns f)) (ord++[k],[],[])).2.1++List.replicate ((kids ns k).length-i) 0).map e64⟩/\pI I h hh/\clr a4L τ.t=a2F I nd.length fi x.2.2.1 i/\τ.h=hh):=⟨_,λ_ _=>Iff.rfl⟩
  refine Kt (ZU J (kids ns k).length ((hJ _ _).2 ⟨0,h4,by omega,by omega,?_,a4m,?_,hS4,?_,rfl⟩) ?_)
  .simpa using V4
  .rw[a9T,hks];simp[e64]
  .kernel_rfl
  intro m τ hJm
  obtain⟨i,hh,hi,hmi,V5,WH,Dy,hS5,htt,rfl⟩:=(hJ _ _).1 hJm
  clear hJm
  obtain⟨tt,hh⟩:=τ
  replace V5:VH hh _ _ _ _:=V5
  replace WH:hh[fi]?=_:=WH
  replace Dy:hh[fi+1]?=_:=Dy
  replace hS5:pI I h hh:=hS5
  replace htt:clr a4L tt=_:=htt
  refine Kr _ _ htt ?_
  unfold a2F
  show WPc _ _ _ _ LW _ _
  unfold LW
  have JU:∀j,j<=(kids ns k).length->(((kids ns k).take j).foldl (iQ (fK ns f)) (ord++[k],[],[])).1.length<=1000000:=λj hj=>by
   have q4:(((kids ns k).foldl (iQ (fK ns f)) (ord++[k],[],[])).1).length<=1000000:=hb
   rw[<- ou j (kids ns k),jr]at q4
   obtain⟨t,q1,_,_⟩:=hpre ((kids ns k).drop j) (((kids ns k).take j).foldl (iQ (fK ns f)) (ord++[k],[],[]))
   rw[q1,ak]at q4
   omega
  obtain⟨tp,p1,p2,p3⟩:=hpre ((kids ns k).take i) (ord++[k],[],[])
  refine lD (kN jG ?_)
  simp only[bsX,bsU,simprocAttr,bsY,L6]
  refine lD (kN jG ?_)
  refine DN rfl (λhc=>?_) (λhc=>?_)
  .have hc:(i:Int)<((x.2.2.1.length:Nat):Int):=of_decide_eq_true hc
   have hc:i<x.2.2.1.length:=by omega
   simp only[bsX,bsU,simprocAttr,bsY]
   refine lD (Kt (lD (kN jG ?_)))
   simp only[bsX,bsU,simprocAttr,bsY,KZ]
   refine⟨⟨by omega,by omega⟩,?_⟩
   simp only[TS hc]
   simp only[bsX,bsU,simprocAttr,bsY,dI,kD]
   have hcm:x.2.2.1.getD i 0∈kids ns k:=by rw[hks,aQ,ah hc];exact aJ _
   obtain⟨c1,c2⟩:=hkc _ hcm
   have hstep:=I8 (iQ (fK ns f)) (ord++[k],[],[]) (kids ns k) i (by rw[hks];exact hc)
   rw[show(kids ns k).getD i 0=x.2.2.1.getD i 0 by rw[hks]]at hstep
   have hf1:=JU (i+1) (by rw[hks];omega)
   rw[hstep]at hf1
   have hih:=ih (((kids ns k).take i).foldl (iQ (fK ns f)) (ord++[k],[],[])).1 _ hh (x.2.2.1.getD i 0) (by omega) c1 (by omega) V5 (by rw[p1];simp only[ak,bR,bI,bV,p2];omega) hf1
   generalize (((kids ns k).take i).foldl (iQ (fK ns f)) (ord++[k],[],[]))=S at hstep hih V5 Dy p1 p2 p3
   generalize x.2.2.1.getD i 0=c at hstep hih c1 c2 hcm
   have hV8:=V5.a8
   refine kN jG ?_
   simp only[bsX,bsU,simprocAttr,bsY,KY,hV8]
   refine .inl ⟨rfl,87,_,rfl,F87.callable,?_⟩
   refine jJ.mono hih ?_
   rintro _ h5 ⟨rfl,V6,hS6⟩
   have a9U:=iZ Dy
   have hn6:=(hS6.2 (fi+1) a9U (by omega) (by omega) (by omega)).trans Dy
   have hf6:=(hS6.2 fi (by omega) (by omega) (by omega) (by omega)).trans WH
   have hSl:S.2.1.length=i:=by rw[p3];simp only[bH,bV];omega
   have hsc:(iQ (fK ns f) S c).2.1=S.2.1++[dR (fK ns f S.1 c).1 c]:=rfl
   have hsc1:(iQ (fK ns f) S c).1=(fK ns f S.1 c).1:=rfl
   have hsc2:(iQ (fK ns f) S c).2.2=S.2.2++(fK ns f S.1 c).2:=rfl
   have hes:((S.2.1++List.replicate ((kids ns k).length-i) 0).map e64).set i (.v (.int .i64 (dR (fK ns f S.1 c).1 c)))=((iQ (fK ns f) S c).2.1++List.replicate ((kids ns k).length-(i+1)) 0).map e64:=by
    rw[hsc,dP,dP,dP,vG _ _ (by rw[bR];omega),bR,hSl,o8,hks,show x.2.2.1.length-i=(x.2.2.1.length-(i+1))+1 by omega,List.replicate_succ,dn,xS,aX]
    rfl
   have hel:((S.2.1++List.replicate ((kids ns k).length-i) 0).map e64).length=x.2.2.1.length:=by rw[bR,ak,bW,hSl,hks];omega
   have heg:((S.2.1++List.replicate ((kids ns k).length-i) 0).map e64).getD i .any=.v (.int .i64 ((S.2.1++List.replicate ((kids ns k).length-i) 0).getD i 0)):=TS (by rw[ak,bW,hSl,hks];omega)
   generalize (S.2.1++List.replicate ((kids ns k).length-i) 0).map e64=es6 at hn6 hes hel heg
   have e1:IntKind.i64.wrap ((i:Int)+1)=((i+1:Nat):Int):=by rw[wrap64 (by omega) (by omega)];omega
   simp only[bsX,bsU,simprocAttr,bsY,KX,hn6,hel,heg]
   refine⟨⟨by omega,by omega⟩,⟨hc,by omega⟩,?_⟩
   simp only[bsX,bsU,simprocAttr,bsY,hes]
   refine kN jG ?_
   simp only[bsX,bsU,simprocAttr,bsY,Jr]
   rw[e1]
   have V7:VH (h5.set (fi+1) ⟨3,1,0,true,((iQ (fK ns f) S c).2.1++List.replicate ((kids ns k).length-(i+1)) 0).map e64⟩) I ns (iQ (fK ns f) S c).1 (nd++[Pv]++(iQ (fK ns f) S c).2.2.map lM):=by
    rw[hsc1,hsc2,dP (f:=lM),<- aX]
    exact V6.set (by omega) _
   have a4r:=hS5.trans hS6
   refine⟨m-1,by omega,(hJ _ _).2 ⟨i+1,_,by omega,by omega,?_,?_,?_,?_,by kernel_rfl,rfl⟩⟩
   .rw[hstep];exact V7
   .show(h5.set (fi+1) _)[fi]?=_
    rw[aB (by omega)];exact hf6
   .show(h5.set (fi+1) _)[fi+1]?=_
    rw[aW (iZ hn6),hstep]
   .show pI I h (h5.set (fi+1) _)
    exact⟨by rw[bK];exact a4r.1,λj hj q1 q2 q3=>by rw[aB (by omega)];exact a4r.2 j hj q1 q2 q3⟩
  .have hc:¬(i:Int)<((x.2.2.1.length:Nat):Int):=of_decide_eq_false hc
   obtain rfl:i=(kids ns k).length:=by omega
   rw[dV]at V5 Dy p1 p2 p3
   rw[o8,List.replicate_zero,bL]at Dy
   generalize (kids ns k).foldl (iQ (fK ns f)) (ord++[k],[],[])=S at *
   simp only[bsX,bsU,simprocAttr,bsY,Nv]
   have hSl:S.2.1.length=x.2.2.1.length:=by rw[p3];simp only[bV];omega
   have hat:(nd++[Pv]++S.2.2.map lM)[nd.length]?=some (AV.agg [.v (.int .i64 x.1),.list 1 (x.2.1.map e64),.v xv]):=by
    rw[aX,aK (bF _),o8,hP];rfl
   refine ZV hmem Dy (by simp only[bR];omega) rfl rfl V5.a4 (by omega) rfl (show 0<3 by decide) hat ?_
   have hes:(nd++[Pv]++S.2.2.map lM).set nd.length (AV.agg [.v (.int .i64 x.1),.list 1 (x.2.1.map e64),.list 1 (S.2.1.map e64)])=nd++AV.agg [.v (.int .i64 x.1),.list 1 (x.2.1.map e64),.list 1 (S.2.1.map e64)]::S.2.2.map lM:=by
    rw[aX,vG _ _ (bF _),o8];rfl
   have V6:=V5.set (j:=fi+1) (by omega) (⟨3,1,S.2.1.length,true,S.2.1.map e64⟩:aL)
   have hS6:pI I h ((hh.set (fi+1) (⟨3,1,S.2.1.length,true,S.2.1.map e64⟩:aL)).set I.n0 (⟨70,3,0,true,nd++AV.agg [.v (.int .i64 x.1),.list 1 (x.2.1.map e64),.list 1 (S.2.1.map e64)]::S.2.2.map lM⟩:aL)):=⟨by rw[bK,bK];exact hS5.1,λj hj q1 q2 q3=>by rw[aB (λe=>q3 e.symm),aB (by omega)];exact hS5.2 j hj q1 q2 q3⟩
   have V7:VH ((hh.set (fi+1) (⟨3,1,S.2.1.length,true,S.2.1.map e64⟩:aL)).set I.n0 (⟨70,3,0,true,nd++AV.agg [.v (.int .i64 x.1),.list 1 (x.2.1.map e64),.list 1 (S.2.1.map e64)]::S.2.2.map lM⟩:aL)) I ns S.1 (nd++AV.agg [.v (.int .i64 x.1),.list 1 (x.2.1.map e64),.list 1 (S.2.1.map e64)]::S.2.2.map lM):=by
    refine VH.of hI V6 ⟨by simp,λj _ _ _ q3=>by rw[aB (λe=>q3 e.symm)]⟩ (by rw[aB (by omega)];exact V6.a2) ?_ (aW (iZ V6.a4))
    rw[aB (by omega),V6.a3]
    simp
   rw[show(⟨3,1,0,true,S.2.1.map e64⟩:aL).es=S.2.1.map e64 from rfl,show(⟨70,3,0,true,nd++[Pv]++S.2.2.map lM⟩:aL).es=nd++[Pv]++S.2.2.map lM from rfl,hes]
   refine kN jG ?_
   simp only[bsX,bsU,simprocAttr,bsY,KW]
   refine vX trivial ?_
   simp only[bsX,bsU,simprocAttr,FK,sP,su]
   refine⟨?_,V7,hS6⟩
   have hid:S.1.idxOf k=ord.length:=by
    rw[p1]
    show((ord++[k])++tp).idxOf k=_
    rw[aX,ug,if_neg hm]
    simp
   have e:dR S.1 (k:Int)=(ord.length:Int):=by unfold dR;rw[if_neg (by omega),aZ,hid]
   rw[e,hl]
end
set_option maxRecDepth 100000
section
variable{Gl:Nat->Option (List AV)}
theorem a2v {P:Program} {B:Nat} {w0:W0} {K:Exit->St->Prop} {c:C} {t:List AV} {h:List aL} {k o ty sz:Nat} {ob:aL} {e0:AV} (hob:h[k]?=some ob) (hes:ob.es=[e0]) (hpr:ob.pr=false) (ho:e0.cells[o]?=some (.v (.slice none 0 0))) (hz:0 < sz)
  (H:WPc P Gl B w0 c K ⟨t,(h++[(⟨ty,sz,0,true,[]⟩:aL)]).set k { ob with es:=[D7 e0 o (.row h.length 0 sz 0 0)] }⟩):WPc P Gl B w0 c K ⟨t,h⟩:=UR λF own act w hI=>by
 have hrow:R F (own++[(⟨none,0,sz,0⟩:Ent)]) (.slice none 0 0) (.row h.length 0 sz 0 0):=by
  have e:own.length=h.length:=hI.hl
  rw[<- e]
  exact .row _ _ _ _ _ _ _ lg (by simp) ⟨_,_,rfl,by simp,λq=>by simp at q⟩ (λ_=>⟨rfl,by simp,λ_=>⟨_,gU (dJ _),by simp⟩⟩) (by first|assumption|(show 0<sz;omega)|(show 0<_;assumption))
 have hk:k<h.length:=iZ hob
 exact⟨F,_,_,(hI.Dn ty sz true hz).OX (by show(h++[_])[k]?=_;rw[aH hk];exact hob) hes hpr ho hrow rfl,H⟩
set_option maxHeartbeats 4000000 in
theorem a8d {ns:List ND} (hns:∀ i,i < ns.length->∀ c ∈ kids ns i,-1000000000<=c/\c < (i:Int)) (hlen:∀ x ∈ ns,x.2.1.length<=2000000001/\x.2.2.1.length<=2000000001) (hn:ns.length<=1000000) {h:List aL} {cB rB fz:Nat} {x0 x1 x2 x3 x5:AV}
  (hc:h[cB]?=some ⟨107,6,0,false,[.agg [x0,x1,x2,x3,.row rB ns.length 3 0 ns.length,x5]]⟩) (hr:h[rB]?=some ⟨70,3,fz,true,ns.map lM⟩) {r:Int} (hr1:-1000000000<=r) (hr2:r<(ns.length:Int)) (hb:(fK ns ns.length [] r).1.length<=1000000) :
  jJ Tryd.prog Gl 68 h [.ptr cB 1 0 4,.v (.int .i64 r)] (λres h'=>∃n0,h.length<=n0/\h.length<=h'.length/\(∀j,j<h.length->h'[j]?=h[j]?)/\h'[n0]?=some ⟨70,3,0,true,(fK ns ns.length [] r).2.map lM⟩/\res=.agg [.row n0 (fK ns ns.length [] r).2.length 3 0 (fK ns ns.length [] r).2.length,.v (.int .i64 (dR (fK ns ns.length [] r).1 r))]):=by
 have hcl:=iZ hc
 have hrl:=iZ hr
 have hne:cB≠rB:=λe=>by rw[e,hr]at hc;cases hc
 refine jJ.ofC jG F68 (t:=[.ptr cB 1 0 4,.v (.int .i64 r),.any,.any,.any,.any,.any,.any,.any,.any,.any,.any,.any,.any,.any,.any,.any,.any,.any,.any]) rfl λB w0=>?_
 show WPc _ _ _ _ c68 _ _
 unfold c68
 refine lD (kN jG ?_)
 simp only[bsX,bsU,simprocAttr,bsY,XL,dI,kD]
 refine lD (kN jG ?_)
 simp only[bsX,bsU,simprocAttr,bsY,XK,dI,kD]
 have k0:∀a b c:aL,(h++[a]++[b]++[c])[h.length]?=some a:=λa b c=>by rw[aX,aX,aK (bF _)];simp
 have kc:∀a b c:aL,(h++[a]++[b]++[c])[cB]?=_:=λa b c=>by rw[aX,aX,aH hcl]
 refine lD (kN jG ?_)
 simp only[bsX,bsU,simprocAttr,bsY,XJ,dI,kD,k0,kc,hc]
 refine lD (kN jG ?_)
 simp only[bsX,bsU,simprocAttr,bsY,XI,dI,kD]
 refine lD (kN jG ?_)
 simp only[bsX,bsU,simprocAttr,bsY,XH,dI,kD]
 have e1:(h++[(⟨123,1,0,false,[AV.ptr cB 1 0 4]⟩:aL)]).length=h.length+1:=by simp
 have e2:∀a:aL,(h++[(⟨123,1,0,false,[AV.ptr cB 1 0 4]⟩:aL)]++[a]).length=h.length+2:=λa=>by simp
 have e3:∀a b:aL,(h++[(⟨123,1,0,false,[AV.ptr cB 1 0 4]⟩:aL)]++[a]++[b]).length=h.length+3:=λa b=>by simp
 have e4:∀a b c:aL,(h++[(⟨123,1,0,false,[AV.ptr cB 1 0 4]⟩:aL)]++[a]++[b]++[c]).length=h.length+4:=λa b c=>by simp
 have e5:∀a b c d:aL,(h++[(⟨123,1,0,false,[AV.ptr cB 1 0 4]⟩:aL)]++[a]++[b]++[c]++[d]).length=h.length+5:=λa b c d=>by simp
 simp only[e1,e2,e3,e4,e5]
 clear e1 e2 e3 e4 e5
 generalize hH:h++[(⟨123,1,0,false,[AV.ptr cB 1 0 4]⟩:aL)]++[(⟨28,2,0,false,[AV.agg [AV.v (.slice none 0 0),AV.v (.int .i64 0)]]⟩:aL)]++[(⟨28,2,0,false,[AV.agg [AV.v (.slice none 0 0),AV.v (.int .i64 0)]]⟩:aL)]++[(⟨82,0,0,true,[]⟩:aL)]++[(⟨82,1,0,false,[AV.mp (h.length+3)]⟩:aL)]++[(⟨68,1,0,false,[AV.clo 87 [.ptr (h.length+4) 1 0 0,.ptr (h.length+2) 1 0 0,.ptr h.length 1 0 0,.ptr (h.length+5) 1 0 0]]⟩:aL)]=H6
 have hlow:∀j,j<h.length->H6[j]?=h[j]?:=λj hj=>by rw[<- hH];simp only[aX];rw[aH hj]
 have hl6:H6.length=h.length+6:=by rw[<- hH];simp
 have hat:∀k,H6[h.length+k]?=([(⟨123,1,0,false,[AV.ptr cB 1 0 4]⟩:aL),⟨28,2,0,false,[AV.agg [AV.v (.slice none 0 0),AV.v (.int .i64 0)]]⟩,⟨28,2,0,false,[AV.agg [AV.v (.slice none 0 0),AV.v (.int .i64 0)]]⟩,⟨82,0,0,true,[]⟩,⟨82,1,0,false,[AV.mp (h.length+3)]⟩,⟨68,1,0,false,[AV.clo 87 [.ptr (h.length+4) 1 0 0,.ptr (h.length+2) 1 0 0,.ptr h.length 1 0 0,.ptr (h.length+5) 1 0 0]]⟩]:List aL)[k]?:=λk=>by
  rw[<- hH];simp only[aX,lW,fq];rw[aK (by omega),tO]
 clear hH k0 kc
 refine a2v (k:=h.length+2) (o:=0) (ty:=70) (sz:=3) (hat 2) rfl rfl rfl (by decide) ?_
 show WPc _ _ _ _ _ _ ⟨_,(H6++[(⟨70,3,0,true,[]⟩:aL)]).set (h.length+2) ⟨28,2,0,false,[AV.agg [AV.row H6.length 0 3 0 0,.v (.int .i64 0)]]⟩⟩
 rw[hl6]
 have hl7:((H6++[(⟨70,3,0,true,[]⟩:aL)]).set (h.length+2) (⟨28,2,0,false,[AV.agg [AV.row (h.length+6) 0 3 0 0,.v (.int .i64 0)]]⟩:aL)).length=h.length+7:=by simp[hl6]
 have g6:((H6++[(⟨70,3,0,true,[]⟩:aL)]).set (h.length+2) (⟨28,2,0,false,[AV.agg [AV.row (h.length+6) 0 3 0 0,.v (.int .i64 0)]]⟩:aL))[h.length+6]?=some ⟨70,3,0,true,[]⟩:=by
  rw[aB (by omega),aK (by omega),hl6,o8];rfl
 have g2:((H6++[(⟨70,3,0,true,[]⟩:aL)]).set (h.length+2) (⟨28,2,0,false,[AV.agg [AV.row (h.length+6) 0 3 0 0,.v (.int .i64 0)]]⟩:aL))[h.length+2]?=some ⟨28,2,0,false,[AV.agg [AV.row (h.length+6) 0 3 0 0,.v (.int .i64 0)]]⟩:=by
  rw[aW (by simp;omega)]
 have gk:∀k,k<6->k≠2->((H6++[(⟨70,3,0,true,[]⟩:aL)]).set (h.length+2) (⟨28,2,0,false,[AV.agg [AV.row (h.length+6) 0 3 0 0,.v (.int .i64 0)]]⟩:aL))[h.length+k]?=H6[h.length+k]?:=λk h1 h2=>by
  rw[aB (by omega),aH (by omega)]
 have gl:∀j,j<h.length->((H6++[(⟨70,3,0,true,[]⟩:aL)]).set (h.length+2) (⟨28,2,0,false,[AV.agg [AV.row (h.length+6) 0 3 0 0,.v (.int .i64 0)]]⟩:aL))[j]?=h[j]?:=λj hj=>by
  rw[aB (by omega),aH (by omega)];exact hlow j hj
 generalize (H6++[(⟨70,3,0,true,[]⟩:aL)]).set (h.length+2) (⟨28,2,0,false,[AV.agg [AV.row (h.length+6) 0 3 0 0,.v (.int .i64 0)]]⟩:aL)=H7 at *
 have hIK:Rv ⟨h.length+3,h.length+4,h.length+2,h.length,h.length+5,cB,rB,h.length+6,x0,x1,x2,x3,x5,fz⟩:=⟨by simp only;omega,by simp only;omega,by simp only;omega⟩
 have V7:VH H7 ⟨h.length+3,h.length+4,h.length+2,h.length,h.length+5,cB,rB,h.length+6,x0,x1,x2,x3,x5,fz⟩ ns [] [] :=
  ⟨(gk 4 (by omega) (by omega)).trans (hat 4),(gk 3 (by omega) (by omega)).trans (hat 3),g2,g6,(gk 0 (by omega) (by omega)).trans (hat 0),(gl cB hcl).trans hc,(gl rB hrl).trans hr,(gk 5 (by omega) (by omega)).trans (hat 5)⟩
 have g5:H7[h.length+5]?=_:=V7.a8
 have g1:H7[h.length+1]?=_:=(gk 1 (by omega) (by omega)).trans (hat 1)
 refine lD (kN jG ?_)
 simp only[bsX,bsU,simprocAttr,bsY,XG,dI,kD,g5]
 refine .inl ⟨rfl,87,_,rfl,F87.callable,?_⟩
 refine jJ.mono (a2x hIK hns hlen hn ns.length [] [] H7 r hr2 hr1 hr2 V7 rfl hb) ?_
 rintro _ h5 ⟨rfl,V6,hS6⟩
 rw[fq]at V6
 have f3:h5[h.length+2]?=_:=V6.a3
 have f1:h5[h.length+1]?=_:=(hS6.2 (h.length+1) (by omega) (by simp only;omega) (by simp only;omega) (by simp only;omega)).trans g1
 have f4:h5[h.length+6]?=_:=V6.a4
 have f0:∀j,j<h.length->h5[j]?=h[j]?:=λj hj=>(hS6.2 j (by omega) (by simp only;omega) (by simp only;omega) (by simp only;omega)).trans (gl j hj)
 have f6:=hS6.1
 simp only[bsX,bsU,simprocAttr,bsY,dI,kD,f3]
 have q2:∀o:aL,(h5.set (h.length+2) o)[h.length+2]?=some o:=λo=>aW (by omega)
 have f1:h5[h.length+1]?=some ⟨28,2,0,false,[AV.agg [AV.v (.slice none 0 0),AV.v (.int .i64 0)]]⟩:=f1
 have q1:∀o:aL,(h5.set (h.length+2) o)[h.length+1]?=some ⟨28,2,0,false,[AV.agg [AV.v (.slice none 0 0),AV.v (.int .i64 0)]]⟩:=λo=>by rw[aB (by omega)];exact f1
 refine lD (kN jG ?_)
 simp only[bsX,bsU,simprocAttr,bsY,XF,dI,kD,q1,q2]
 refine kN jG ?_
 simp only[bsX,bsU,simprocAttr,bsY,dI,kD]
 have q3:∀o o':aL,((h5.set (h.length+2) o).set (h.length+1) o')[h.length+1]?=some o':=λo o'=>aW (by rw[bK];omega)
 refine vX trivial ?_
 simp only[bsX,bsU,simprocAttr,bsY,FK,sP,su,q3]
 refine⟨h.length+6,by omega,by rw[bK,bK];omega,λj hj=>?_,?_,rfl⟩
 .rw[aB (by omega),aB (by omega)];exact f0 j hj
 .rw[aB (by omega),aB (by omega)];exact f4
end
def imS(ns:List ND)(O:List Nat)(l:List Nat):List ND:=l.map (imN ns O)
theorem VF{O t:List Nat}{c:Int}(h:0<=c->c.toNat∈O):dR (O++t) c=dR O c:=by
 unfold dR
 split
 .rfl
 .rw[ug,if_pos (h (by omega))]
theorem UY(ns:List ND)(f:Nat)(ord:List Nat){r:Int}(h0:0<=r):r.toNat∈(fK ns (f+1) ord r).1:=by
 simp only[fK]
 by_cases h:r.toNat∈ord
 .rw[if_pos (.inr h)];exact h
 .rw[if_neg (by rintro(q|q);omega;exact h q)]
  obtain⟨t,h1,_,_⟩:=DC (g:=fK ns f) (λo c=>Kv ns f o c) (kids ns r.toNat) (ord++[r.toNat],[],[])
  rw[h1];simp
theorem UW(ns:List ND):∀(f:Nat) (ord:List Nat) (r:Int),(fK ns f ord r).1=cK ns f ord r:=by
 intro f
 induction f with
 |zero=>intro ord r;rfl
 |succ f ih =>
  intro ord r
  simp only[fK,cK]
  split
  .rfl
  ·have key:∀ (l:List Int) (s:List Nat × List Int × List ND),(l.foldl (iQ (fK ns f)) s).1=l.foldl (cK ns f) s.1:=by
    intro l
    induction l with
    |nil=>intro s;rfl
    |cons c l ih2=>intro s;rw[d9,d9,ih2,<- ih s.1 c];rfl
   exact key _ _
theorem ZX {ns:List ND} (hns:∀ i,i < ns.length->∀ c ∈ kids ns i,c < (i:Int)):∀ (f:Nat) (ord:List Nat) (r:Int),r < (f:Int)->r < (ns.length:Int)->∀ t,∃ l,(fK ns f ord r).1=ord ++ l/\(fK ns f ord r).2=imS ns ((fK ns f ord r).1 ++ t) l:=by
  intro f
  induction f with
  |zero=>intro ord r hr _ t;exact⟨[],by rw[BP _ _ _ (by omega)];simp,by rw[BP _ _ _ (by omega)];rfl⟩
  | succ f ih =>
    intro ord r hr hl t
    by_cases hc:r<0\/r.toNat∈ord
    .simp only[fK];rw[if_pos hc];exact⟨[],by simp,rfl⟩
    have hv:fK ns (f + 1) ord r=(((kids ns r.toNat).foldl (iQ (fK ns f)) (ord ++ [r.toNat],[],[])).1,
       ((ns.getD r.toNat zN).1,(ns.getD r.toNat zN).2.1,((kids ns r.toNat).foldl (iQ (fK ns f)) (ord++[r.toNat],[],[])).2.1,())::((kids ns r.toNat).foldl (iQ (fK ns f)) (ord++[r.toNat],[],[])).2.2):=by
      simp only[fK];rw[if_neg hc]
    rw[hv]
    have key:∀ (cs:List Int),(∀ c ∈ cs,c < (f:Int)/\c < (ns.length:Int))->∀ (s:List Nat × List Int × List ND) (u:List Nat),∃ l,(cs.foldl (iQ (fK ns f)) s).1=s.1 ++ l/\(cs.foldl (iQ (fK ns f)) s).2.1=s.2.1 ++ cs.map (dR ((cs.foldl (iQ (fK ns f)) s).1 ++ u))/\(cs.foldl (iQ (fK ns f)) s).2.2=s.2.2 ++ imS ns ((cs.foldl (iQ (fK ns f)) s).1 ++ u) l:=by
      intro cs
      induction cs with
      |nil=>intro _ s u;exact⟨[],by simp,by simp,by simp[imS]⟩
      | cons c cs ih2 =>
        intro hcs s u
        rw[d9]
        obtain⟨l2,a1,a2,a3⟩:=ih2 (λx hx=>hcs x (by simp[hx])) (iQ (fK ns f) s c) u
        obtain⟨hcf,hcl⟩:=hcs c (by simp)
        obtain⟨l1,b1,b2⟩:=ih s.1 c hcf hcl (l2++u)
        have e1:(iQ (fK ns f) s c).1=(fK ns f s.1 c).1:=rfl
        rw[e1]at a1
        refine⟨l1++l2,by rw[a1,b1,aX],?_,?_⟩
        · rw [a2]
          show(s.2.1++[dR (fK ns f s.1 c).1 c])++_=_
          have:dR (fK ns f s.1 c).1 c=dR ((cs.foldl (iQ (fK ns f)) (iQ (fK ns f) s c)).1 ++ u) c:=by
            rw[a1,aX]
            refine(VF λh0=>?_).symm
            obtain⟨g,rfl⟩:∃g,f=g+1:=⟨f-1,by omega⟩
            exact UY ns g s.1 h0
          rw[this,dn];simp
        · rw [a3]
          show(s.2.2++(fK ns f s.1 c).2)++_=_
          rw[b2,a1,aX,<- aX ((fK ns f s.1 c).1)]
          simp[imS]
    have h0:0<=r:=by
      rcases eZ r 0 with q|q
      .exact absurd (.inl q) hc
      .exact q
    obtain⟨l,c1,c2,c3⟩:=key (kids ns r.toNat) (λc hc'=>by have:=hns r.toNat (by omega) c hc';omega) (ord++[r.toNat],[],[]) t
    refine⟨r.toNat::l,?_,?_⟩
    · show _=_
      rw[c1];simp
    · show _ :: _=_
      rw[c2,c3,fq,fq]
      rfl
theorem UZ{ns:List ND}(hns:∀i,i<ns.length->∀c∈kids ns i,c<(i:Int))(r:Int)(hl:r<(ns.length:Int)):fK ns ns.length [] r=(cK ns ns.length [] r,lF ns (cK ns ns.length [] r)):=by
 obtain⟨l,h1,h2⟩:=ZX hns ns.length [] r hl hl []
 rw[fq]at h1
 rw[bL,<- h1]at h2
 rw[<- UW]
 exact lV rfl h2
theorem a00{ns:List ND}(hns:∀i,i<ns.length->∀c∈kids ns i,c<(i:Int)):∀(f:Nat) (r:Int) (ord:List Nat),r<(ns.length:Int)->ord.Nodup->(∀x∈ord,x<ns.length)->(cK ns f ord r).Nodup/\∀x∈cK ns f ord r,x<ns.length:=by
 intro f
 induction f with
 |zero=>intro r ord _ h1 h2;exact⟨h1,h2⟩
 |succ f ih =>
  intro r ord hr h1 h2
  simp only[cK]
  split
  .exact⟨h1,h2⟩
  .rename_i hc
   have hc0:¬r<0:=λq=>hc (.inl q)
   have hcm:r.toNat∉ord:=λq=>hc (.inr q)
   have key:∀(cs:List Int),(∀c∈cs,c<(ns.length:Int))->∀o:List Nat,o.Nodup->(∀x∈o,x<ns.length)->(cs.foldl (cK ns f) o).Nodup/\∀x∈cs.foldl (cK ns f) o,x<ns.length:=by
    intro cs
    induction cs with
    |nil=>intro _ o q1 q2;exact⟨q1,q2⟩
    |cons c cs ih2 =>
     intro hcs o q1 q2
     rw[d9]
     obtain⟨z1,z2⟩:=ih c o (hcs c (by simp)) q1 q2
     exact ih2 (λx hx=>hcs x (by simp[hx])) _ z1 z2
   refine key _ (λc hc'=>by have:=hns r.toNat (by omega) c hc';omega) _ ?_ (λx hx=>?_)
   .rw[ni]
    refine⟨h1,by simp,λa ha b hb e=>?_⟩
    obtain rfl:=bG.1 hb
    exact hcm (e▸ha)
   .rcases aV.1 hx with q|q
    .exact h2 x q
    .obtain rfl:=bG.1 q;omega
theorem Wh:∀(n:Nat) (l:List Nat),l.Nodup->(∀x∈l,x<n)->l.length<=n:=by
 intro n
 induction n with
 |zero =>
  intro l _ h
  cases l with
  |nil=>simp
  |cons x l=>exact absurd (h x (by simp)) (by omega)
 |succ n ih =>
  intro l hd h
  have h1:=ih (l.erase n) (hd.erase n) (λx hx=>by
   have:=h x (List.mem_of_mem_erase hx)
   have:x≠n:=λe=>by
    subst e
    exact(List.Nodup.mem_erase_iff hd).1 hx |>.1 rfl
   omega)
  have:=List.length_erase (a:=n) (l:=l)
  split at this<;>omega
def tN:Ty:=.tup [.int .i64,.list (.int .i64),.list (.int .i64)]
def obD:List SO:=[.box 107 [.d (.list tN),.d (.list tN),.d (.int .i64),.mp 1,.row 2,.mp 3],.map 102 (.tup [.int .i64,.int .i64]) (.int .i64),.row 70 tN false,.map 103 .str (.int .i64)]
def I5:Sh:=⟨2,[(1,.int .i64)],[(0,.ptr 0 0 4)],obD⟩
def a9z:Sh:=⟨1,[(0,.tup [.list tN,.int .i64])],[],obD⟩
def ZL(ns:List ND)(r:Int):Prop:=ns.length<=1000000/\-1000000000<=r/\r<(ns.length:Int)/\(∀i,i<ns.length->∀c∈kids ns i,-1000000000<=c/\c<(i:Int))/\∀x∈ns,(x.2.1≠[]/\x.2.1.length<=2000000001)/\x.2.2.1≠[]/\x.2.2.1.length<=2000000001
open Classical in
def LB(r:Int)(a b:List ND)(op:Int)(me:List ((Int×Int×Unit)×Int×Unit))(ns:List ND)(ix:List (ByteArray×Int×Unit)):Option ((List ND×Int×Unit)×List ND×List ND×Int×List ((Int×Int×Unit)×Int×Unit)×List ND×List (ByteArray×Int×Unit)×Unit) :=
 if ZL ns r then some ((lF ns (cK ns ns.length [] r),dR (cK ns ns.length [] r) r,()),a,b,op,me,ns,ix,()) else none
def a4v:HI:=⟨68,I5,a9z,λx=>LB x.1 x.2.1 x.2.2.1 x.2.2.2.1 x.2.2.2.2.1 x.2.2.2.2.2.1 x.2.2.2.2.2.2.1,[]⟩
theorem a2s{us:List AV}{xs:List Int}(h:bQ Wp us (xs.map (Ty.enc (.int .i64)))):us=xs.map e64:=by
 have:=DX (k:=.i64) h (aU.2 λa ha=>by obtain⟨z,_,rfl⟩:=dW.1 ha;rfl)
 rw[this];rfl
theorem ZR{a:AV}{x:ND}(h:Wp a (Ty.enc tN x))(h1:x.2.1≠[])(h2:x.2.2.1≠[]):a=lM x:=by
 have h:Wp a (.agg [.v (.int .i64 x.1),.list 1 (x.2.1.map (Ty.enc (.int .i64))),.list 1 (x.2.2.1.map (Ty.enc (.int .i64)))]):=h
 obtain⟨xs,rfl,hx⟩:=h.gY
 obtain⟨a1,r1,rfl,w1,t1⟩:=hx.cons_right
 obtain⟨a2,r2,rfl,w2,t2⟩:=t1.cons_right
 obtain⟨a3,r3,rfl,w3,t3⟩:=t2.cons_right
 obtain rfl:=t3.vD
 rw[w1.dK]
 have ls:∀{b:AV} {zs:List Int},Wp b (.list 1 (zs.map (Ty.enc (.int .i64))))->zs≠[]->b=.list 1 (zs.map e64):=λw hz=>by
  rcases w.jU with⟨_,q⟩|⟨ys,rfl,q⟩
  .exact absurd (wD.1 q) hz
  .rw[a2s q]
 rw[ls w2 h1,ls w3 h2];rfl
def QZ(x:ND):AV:=Ty.enc tN x
theorem UO{us:List AV}{ns:List ND}(h:bQ Wp us (ns.map QZ))(hn:∀x∈ns,x.2.1≠[]/\x.2.2.1≠[]):us=ns.map lM:=by
 apply gG
 intro i
 rcases aM i ns.length with q|q
 .have hl:us.length=ns.length:=by have:=h.1;simpa using this
  have e1:=ah (l:=us) (i:=i) (by omega)
  have e2:(ns.map QZ)[i]?=some (QZ ns[i]):=by rw[aS,ah q];rfl
  have w:=h.2 i _ _ e1 e2
  obtain⟨q1,q2⟩:=hn _ (aJ q)
  rw[e1,aS,ah q,ZR w q1 q2];rfl
 .have hl:us.length=ns.length:=by have:=h.1;simpa using this
  rw[bg (by omega),bg (by rw[bR];omega)]
theorem Ww{h':List aL}{n0:Nat}{out:List ND}{rt:Int}(g4:h'[n0]?=some ⟨70,3,0,true,out.map lM⟩):kV h' (.agg [.row n0 out.length 3 0 out.length,.v (.int .i64 rt)])=some (.agg [.list 3 (out.map lM),.v (.int .i64 rt)]):=by
 simp only[kV,lN,lC,g4,bE,bR,jg,Value.oneCell',true_and,uV,if_true,reduceIte]
 rw[iH (by simp)]
theorem I7{H h':List aL}{n0:Nat}{out:List ND}{rt:Int}(g4:h'[n0]?=some ⟨70,3,0,true,out.map lM⟩)(g1:H.length<=n0)(g2:H.length<=h'.length)(g3:∀j,j<H.length->h'[j]?=H[j]?):H.length<=(freeze h' (gL (.agg [.row n0 out.length 3 0 out.length,.v (.int .i64 rt)]))).length/\∀j,j<H.length->(freeze h' (gL (.agg [.row n0 out.length 3 0 out.length,.v (.int .i64 rt)])))[j]?=H[j]?:=by
 simp only[gL,dZ,List.flatMap_nil,nS,bL,freeze,d9,List.foldl_nil,g4]
 refine⟨by rw[bK];exact g2,λj hj=>?_⟩
 rw[aB (by omega)]
 exact g3 j hj
theorem a3h{GX:GXT}:HOk Tryd.prog (gx GX) a4v:=by
 refine⟨by kernel_rfl,λx y hy H ρ av hS=>?_⟩
 obtain⟨r,a,b,op,me,ns,ix,⟨⟩⟩:=x
 have hy:LB r a b op me ns ix=some y:=hy
 unfold LB at hy
 split at hy
 case isFalse=>cases hy
 rename_i hD
 obtain rfl:=aI hy
 obtain⟨d1,d2,d3,d4,d5⟩:=hD
 have hS:Sim ρ (emb I5 (r,a,b,op,me,ns,ix,())) ⟨av,H⟩:=hS
 have ht:bQ (VT ρ (emb I5 (r,a,b,op,me,ns,ix,())).h) [.ptr 0 0 4,.d (.int .i64) r] av:=hS.t
 obtain⟨a0,av1,rfl,w0,t1⟩:=ht.iF
 obtain⟨a1,av2,rfl,w1,t2⟩:=t1.iF
 obtain rfl:=t2.lq
 obtain⟨o,ho,rfl⟩:∃o:XO,(emb I5 (r,a,b,op,me,ns,ix,())).h[0]?=some o/\a0=.ptr (ρ.getD 0 0) o.len 0 4:=w0
 have h0:(emb I5 (r,a,b,op,me,ns,ix,())).h[0]?=some (.box 107 [.d (.list tN) a,.d (.list tN) b,.d (.int .i64) op,.mp 1,.row 2,.mp 3]):=rfl
 have h2:(emb I5 (r,a,b,op,me,ns,ix,())).h[2]?=some (.row 70 tN false ns):=rfl
 rw[h0]at ho
 obtain rfl:=aI ho
 obtain rfl:a1=.v (.int .i64 r):=Wp.dK w1
 obtain⟨O0,hO0,b1,b2,b3,b4,e,hes,hc⟩:=hS.h.hr 0 _ h0
 obtain⟨O2,hO2,r1,r2,r3,r4,r5⟩:=hS.h.hr 2 _ h2
 have r5:bQ Wp O2.es (ns.map QZ):=r5
 have hnd:=UO r5 λx hx=>⟨(d5 x hx).1.1,(d5 x hx).2.1⟩
 obtain⟨c0,cr,hcs,v0,hc1⟩:=hc.iF
 obtain⟨c1,cr1,rfl,v1,hc2⟩:=hc1.iF
 obtain⟨c2,cr2,rfl,v2,hc3⟩:=hc2.iF
 obtain⟨c3,cr3,rfl,v3,hc4⟩:=hc3.iF
 obtain⟨c4,cr4,rfl,v4,hc5⟩:=hc4.iF
 obtain⟨c5,cr5,rfl,v5,hc6⟩:=hc5.iF
 obtain rfl:=hc6.lq
 have hagg:e=.agg [c0,c1,c2,c3,c4,c5]:=by
  cases e with
  |agg l=>exact jW AV.agg hcs
  |_=>simp[AV.cells]at hcs
 subst hagg
 obtain⟨ty,T,fz,es,he1,rfl⟩:=v4
 rw[h2]at he1
 cases he1
 have a6J:H[ρ.getD 0 0]?=some ⟨107,6,0,false,[.agg [c0,c1,c2,c3,.row (ρ.getD 2 0) ns.length 3 0 ns.length,c5]]⟩:=by
  rw[hO0]
  obtain⟨q1,q2,q3,q4,q5⟩:=O0
  have b1:q1=107:=b1
  have b2:q2=6:=b2
  have b3:q4=false:=b3
  have b4:q3=0:=b4
  have hes:q5=_:=hes
  subst b1 b2 b3 b4 hes
  rfl
 have a6I:H[ρ.getD 2 0]?=some ⟨70,3,0,true,ns.map lM⟩:=by
  rw[hO2]
  obtain⟨q1,q2,q3,q4,q5⟩:=O2
  have r1:q1=70:=r1
  have r2:q2=3:=r2
  have r3:q4=true:=r3
  have r4:q3=0:=r4
  have hnd:q5=_:=hnd
  subst r1 r2 r3 r4 hnd
  rfl
 have d4':∀i,i<ns.length->∀c∈kids ns i,c<(i:Int):=λi hi c hc=>(d4 i hi c hc).2
 have a3Y:=UZ d4' r d3
 have hnl:=a00 d4' ns.length r [] d3 kC (λx hx=>by cases hx)
 have hbd:=Wh _ _ hnl.1 hnl.2
 have hC:=a8d (Gl:=gx GX) (h:=H) d4 (λx hx=>⟨(d5 x hx).1.2,(d5 x hx).2.2⟩) d1 a6J a6I d2 d3 (by rw[a3Y];show(cK ns ns.length [] r).length<=_;omega)
 rw[a3Y]at hC
 refine jJ.kz hC ?_
 rintro res h' ⟨n0,g1,g2,g3,g4,rfl⟩
 dsimp only at g4 ⊢
 have hk:=Ww (rt:=dR (cK ns ns.length [] r) r) g4
 refine⟨_,hk,ρ,[_],⟨?_,?_⟩,rfl,?_⟩
 .refine .cons ?_ .nil
  exact Wp.refl _
 .have hfz:=(I7 (rt:=dR (cK ns ns.length [] r) r) g4 g1 g2 g3).2
  refine⟨hS.h.rl,hS.h.nd,λi o ho=>?_⟩
  obtain⟨O,hO,hob⟩:=hS.h.hr i o ho
  refine⟨O,?_,hob⟩
  rw[<- hO]
  exact hfz _ (aj.1 hO).1
 .exact⟨⟨[],by simp,by simp⟩,(I7 (rt:=dR (cK ns ns.length [] r) r) g4 g1 g2 g3).1,λj hj _=>(I7 (rt:=dR (cK ns ns.length [] r) r) g4 g1 g2 g3).2 j hj⟩
end
end Abs
end Go.Proofs.YtgfnhpadmifiiaaDoor
