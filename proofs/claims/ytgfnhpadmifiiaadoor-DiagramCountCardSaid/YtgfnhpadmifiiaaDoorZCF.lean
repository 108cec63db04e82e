/- Merged and trimmed by a program: Shelf DK. -/
import Derived.Test.YtgfnhpadmifiiaaDoorZCE
import Derived.Shelf.Strconv.Itoa0
import Derived.Shelf.Strconv.Itoa1
import Derived.Shelf.LaysM
import Derived.Shelf.Strconv.Itoa2
import Derived.Shelf.Strconv.AppendUint10
import Derived.Shelf.Strconv.AppendInt10
import Derived.Shelf.Strconv.AppendIntPublic10
import Derived.Test.YtgfnhpadmifiiaaDoorProg
import Derived.Lib.AppendIntMem
import Derived.Lib.LaidTab
import Derived.Lib.ItoaLen
import Derived.KernelRfl
import Derived.WalkSmall
import Derived.Deep.AppendLies
import Derived.Maps.Range
import Derived.Laws.BytesArg
set_option linter.unusedVariables false
set_option linter.unusedSimpArgs false
section
namespace Go.Proofs
open Go.Shelf
def Tryd.laysM176_ren:Go.Shelf.Ren:=⟨fun | 176=>83 | 249=>98 | 288=>105 | 283=>108 | 284=>109 | 285=>110 | 286=>111 | 129=>113 | 317=>112 | 318=>114 | 319=>115 | 320=>116 | 337=>117 | 338=>118 | n=>n,fun | 37=>118 | 2=>2 | 3=>3 | 53=>130 | 4=>4 | 9=>9 | 171=>134 | 0=>0 | 173=>137 | 212=>140 | 51=>141 | 5=>5 | 20=>20 | 213=>142 | 46=>124 | 232=>145 | 233=>146 | n=>n,fun | 17=>0 | 18=>1 | 19=>2 | n=>n⟩
theorem Tryd.laysM176:Go.Proofs.LaysM.n176 Tryd.prog Tryd.laysM176_ren:={
 mixed:=by kernel_rfl
 f129:=Tryd.func113.trans (congrArg some (by kernel_rfl))
 f176:=Tryd.func83.trans (congrArg some (by kernel_rfl))
 f249:=Tryd.func98.trans (congrArg some (by kernel_rfl))
 f283:=Tryd.func108.trans (congrArg some (by kernel_rfl))
 f284:=Tryd.func109.trans (congrArg some (by kernel_rfl))
 f285:=Tryd.func110.trans (congrArg some (by kernel_rfl))
 f286:=Tryd.func111.trans (congrArg some (by kernel_rfl))
 f288:=Tryd.func105.trans (congrArg some (by kernel_rfl))
 f317:=Tryd.func112.trans (congrArg some (by kernel_rfl))
 f318:=Tryd.func114.trans (congrArg some (by kernel_rfl))
 f319:=Tryd.func115.trans (congrArg some (by kernel_rfl))
 f320:=Tryd.func116.trans (congrArg some (by kernel_rfl))
 f337:=Tryd.func117.trans (congrArg some (by kernel_rfl))
 f338:=Tryd.func118.trans (congrArg some (by kernel_rfl))
 t0:=Tryd.underlying0
 a0:=Tryd.isAgg0
 z0:=Tryd.sizeOf0
 v0:=Tryd.zeroValue0
 t2:=Tryd.underlying2
 a2:=Tryd.isAgg2
 z2:=Tryd.sizeOf2
 v2:=Tryd.zeroValue2
 t3:=Tryd.underlying3
 a3:=Tryd.isAgg3
 z3:=Tryd.sizeOf3
 v3:=Tryd.zeroValue3
 t4:=Tryd.underlying4
 a4:=Tryd.isAgg4
 z4:=Tryd.sizeOf4
 v4:=Tryd.zeroValue4
 t5:=Tryd.underlying5
 a5:=Tryd.isAgg5
 z5:=Tryd.sizeOf5
 v5:=Tryd.zeroValue5
 t9:=Tryd.underlying9
 a9:=Tryd.isAgg9
 z9:=Tryd.sizeOf9
 v9:=Tryd.zeroValue9
 t20:=Tryd.underlying20
 a20:=Tryd.isAgg20
 z20:=Tryd.sizeOf20
 v20:=Tryd.zeroValue20
 t37:=Tryd.underlying118
 a37:=Tryd.isAgg118
 z37:=Tryd.sizeOf118
 v37:=Tryd.zeroValue118
 t46:=Tryd.underlying124
 a46:=Tryd.isAgg124
 z46:=Tryd.sizeOf124
 v46:=Tryd.zeroValue124
 t51:=Tryd.underlying141
 a51:=Tryd.isAgg141
 z51:=Tryd.sizeOf141
 v51:=Tryd.zeroValue141
 t53:=Tryd.underlying130
 a53:=Tryd.isAgg130
 z53:=Tryd.sizeOf130
 v53:=Tryd.zeroValue130
 t171:=Tryd.underlying134
 a171:=Tryd.isAgg134
 z171:=Tryd.sizeOf134
 v171:=Tryd.zeroValue134
 t173:=Tryd.underlying137
 a173:=Tryd.isAgg137
 z173:=Tryd.sizeOf137
 v173:=Tryd.zeroValue137
 t212:=Tryd.underlying140
 a212:=Tryd.isAgg140
 z212:=Tryd.sizeOf140
 v212:=Tryd.zeroValue140
 t213:=Tryd.underlying142
 a213:=Tryd.isAgg142
 z213:=Tryd.sizeOf142
 t232:=Tryd.underlying145
 a232:=Tryd.isAgg145
 z232:=Tryd.sizeOf145
 v232:=Tryd.zeroValue145
 t233:=Tryd.underlying146
 a233:=Tryd.isAgg146
 z233:=Tryd.sizeOf146
 v233:=Tryd.zeroValue146
 g17:=by kernel_rfl
 g18:=by kernel_rfl
 g19:=by kernel_rfl
 i0:=by kernel_rfl
 i2:=by kernel_rfl
 i3:=by kernel_rfl
 i4:=by kernel_rfl
 i5:=by kernel_rfl
 i9:=by kernel_rfl
 i20:=by kernel_rfl
 i37:=by kernel_rfl
 i46:=by kernel_rfl
 i51:=by kernel_rfl
 i53:=by kernel_rfl
 i171:=by kernel_rfl
 i173:=by kernel_rfl
 i212:=by kernel_rfl
 i232:=by kernel_rfl
 i233:=by kernel_rfl
 m17:=by kernel_rfl
 m18:=by kernel_rfl
 m19:=by kernel_rfl }
open Go.RowKit Go.Sort Go.Lib in
theorem Tryd.strconv_AppendInt_10 (B n:Nat) (i:Int) (h0:-9223372036854775808≤i) (h1:i≤9223372036854775807) (sv:Value) (xs:List Value) (w:World) (hown:w.ownsRow B 5 1 sv n xs) (hBw:B≤w.heap.size) (hlim:n + 21≤140737488355328) (htab:Lib.TabBelow Tryd.prog B w "internal/strconv.uint64pow10" .u64 Lib.pow10Tab) :
  Calls Tryd.prog 83 #[sv,.int .i64 i,.int .i64 10] w fun e w'=>∃ v',e=.returned v'∧w'.ownsRow B 5 1 v' (n + (Lib.itoa i).length) (xs ++ Lib.byteCells (Lib.itoa i))∧Below B w w'∧Lib.OthersKept 5 none w w':=Any.strconv_AppendInt_10 Tryd.laysM176 B n i h0 h1 sv xs w hown hBw hlim htab
end Go.Proofs
end
section
namespace Go.Proofs.YtgfnhpadmifiiaaDoor
namespace Abs
open Go.RowKit
def keyL (a:Int) (cs ns:List Int):List UInt8:=Lib.itoa a ++ (cs.flatMap fun c=>44 :: Lib.itoa c) ++ 59 :: (ns.flatMap fun c=>44 :: Lib.itoa c)
def i64B (n:Int):Bool:=decide (-9223372036854775808≤n∧n≤9223372036854775807)
def SlI (w:World) (v:Value) (cs:List Int):Prop:=∃ ao cap,v=.slice ao cs.length cap∧∀ k (hk:k < cs.length),∃ ad,ao=some ad∧w.cell? (ad.add k)=some (.int .i64 cs[k])
def fl (cs:List Int):List UInt8:=cs.flatMap fun c=>44 :: Lib.itoa c
theorem fl_snoc (cs:List Int) (k:Nat) (hk:k < cs.length):fl (cs.take (k + 1))=fl (cs.take k) ++ 44 :: Lib.itoa cs[k]:=by
 unfold fl
 rw [List.take_succ_eq_append_getElem hk,List.flatMap_append]; simp
theorem fl_len:∀ (cs:List Int),(∀ c ∈ cs,i64B c=true)→(fl cs).length≤22 * cs.length:=by
 intro cs
 induction cs with
 | nil=>intro _; simp [fl]
 | cons c cs ih =>
  intro h
  have h1:=of_decide_eq_true (h c (by simp))
  have h2:=Lib.itoa_length_le c h1.1 h1.2
  have h3:=ih (fun x hx=>h x (by simp [hx]))
  have:fl (c :: cs)=44 :: Lib.itoa c ++ fl cs:=by simp [fl]
  rw [this,List.length_append,List.length_cons,List.length_cons]; omega
theorem infoB:(Tryd.prog.info? 5).map (fun i=>(i.zero,i.size,i.bytes))=some (some (.int .u8 0),1,1):=by kernel_rfl
theorem bytes_back (Y:List UInt8):strOfNums (Y.map fun (b:UInt8)=>(b.toNat:Int))=⟨Y.toArray⟩:=by
 have h:(Y.map fun (b:UInt8)=>(b.toNat:Int)).map (fun n=>UInt8.ofNat n.toNat)=Y:=by
  induction Y with
  | nil=>rfl
  | cons b Y ih =>
   rw [List.map_cons,List.map_cons,ih,Int.toNat_natCast,UInt8.ofNat_toNat]
 unfold strOfNums
 rw [h]
set_option maxHeartbeats 4000000 in
set_option maxRecDepth 100000 in
theorem key_run (a:Int) (cs ns:List Int) (w0:World) (cv nv:Value) (hc:SlI w0 cv cs) (hn:SlI w0 nv ns) (ha:-9223372036854775808≤a∧a≤9223372036854775807) (hcs:∀ c ∈ cs,i64B c=true) (hns:∀ c ∈ ns,i64B c=true) (hl:cs.length + ns.length≤1099511627776)
  (htab:Lib.TabIs Tryd.prog w0 "internal/strconv.uint64pow10" .u64 Lib.pow10Tab):Calls Tryd.prog 61 #[.int .i64 a,cv,nv] w0 fun e w'=>e=.returned (.string ⟨(keyL a cs ns).toArray⟩)∧Below w0.heap.size w0 w':=by
 obtain ⟨co,ccap,rfl,hcc⟩:=hc
 obtain ⟨no,ncap,rfl,hnc⟩:=hn
 obtain ⟨i0,hI,hI0,hI1,hI2⟩:=info_parts infoB
 have HCC:=Lib.hid hcc
 have HNC:=Lib.hid hnc
 have HCS:=Lib.hid hcs
 have HNS:=Lib.hid hns
 have HT:=Lib.hid htab
 have hA:=Lib.itoa_length_le a ha.1 ha.2
 have hF1:=fun k=>fl_len (cs.take k) (fun c hc=>hcs c (List.mem_of_mem_take hc))
 have hF2:=fun k=>fl_len (ns.take k) (fun c hc=>hns c (List.mem_of_mem_take hc))
 have HF1:=Lib.hid hF1
 have HF2:=Lib.hid hF2
 clear hcc hnc hcs hns htab hF1 hF2
 go_enter Tryd.func61,Tryd.ntmps61
 go_wp2_with fail
 refine (Tryd.strconv_AppendInt_10 w0.heap.size 0 a ha.1 ha.2 (.slice none 0 0) [] w0 (World.ownsRow_nil _ _ _ _) (Nat.le_refl _) (by omega) (Lib.tabBelow_of_tabIs HT.out)).mono ?_
 rintro e w1 ⟨v1,rfl,hown1,hb1,_⟩
 have HO1:=Lib.hid hown1
 have HB1:=Lib.hid hb1
 have hs1:=hb1.size
 clear hown1 hb1
 go_wp2
 go_loopw [7,16] (fun v i wr=>∃ k:Nat,k≤cs.length∧i=.int .i64 (k:Int)∧Hid (wr.ownsRow w0.heap.size 5 1 v (Lib.itoa a ++ fl (cs.take k)).length (Lib.byteCells (Lib.itoa a ++ fl (cs.take k))))∧Hid (Below w0.heap.size w0 wr)∧w0.heap.size≤wr.heap.size) (fun _ i _=>cs.length - (intOf i).toNat)
 case atStart=>exact ⟨0,by omega,rfl,by simpa [fl,Lib.hid] using HO1,HB1,hs1⟩
 case round =>
  obtain ⟨k,hk,rfl,HO,HB,hsr⟩:=hrel
  have hFk:=HF1.out k
  have hlen:(Lib.itoa a ++ fl (cs.take k)).length=(Lib.itoa a).length + (fl (cs.take k)).length:=List.length_append
  have htk:(cs.take k).length=k:=by rw [List.length_take]; omega
  rw [htk] at hFk
  by_cases hlt:k < cs.length
  ·obtain ⟨ad,rfl,hcell⟩:=HCC.out k hlt
   have q1:decide ((k:Int) < (cs.length:Int))=true:=decide_eq_true (by omega)
   have hcr:wr.cell? (ad.add k)=some (.int .i64 cs[k]):=by
    have hbk:=World.block_lt_of_cell? w0 (ad.add k) hcell
    rw [World.cell?_of_block (w:=w0) (HB.out.block _ hbk)]
    exact hcell
   have hri:=of_decide_eq_true (HCS.out cs[k] (List.getElem_mem hlt))
   have hit:=Lib.itoa_length_le cs[k] hri.1 hri.2
   have HRI:=Lib.hid hri
   have esn:=fl_snoc cs k hlt
   generalize hck:cs[k]=c at hcr hri hit HRI esn
   have ESN:=Lib.hid esn
   clear hcell esn hri
   have HXE:=Lib.hid (show Lib.itoa a ++ fl (cs.take (k + 1))=(Lib.itoa a ++ fl (cs.take k)) ++ 44 :: Lib.itoa c by rw [ESN.out]; simp only [List.append_assoc])
   generalize hX:Lib.itoa a ++ fl (cs.take k)=X at HO hlen HXE
   clear hX
   have HLT:=Lib.hid (fun g hg=>(HO.out.lt g hg).1)
   go_wp2_with (first | (at_builtin; refine wpList_append_own _ rfl _ _ 118 rfl w0.heap.size 5 i0 (.int .u8 0) 1 1 Tryd.underlying118 hI hI0 hI1 hI2 rfl (by decide) _ _ _ rfl (HO.out.alloc _) ⟨wr.heap.size,0,none⟩ 1 1 [.int .u8 44] rfl rfl (by intro j u' hj; match j,hj with | 0,hj=>simp at hj; subst hj; simp [Addr.add]) (by intro u' hu'; simp at hu'; subst hu'; rfl) (by unfold maxLen; omega) (by omega) (by simp; omega) ?_; intro v' w3 hown' hgrow3 hnil3))
   have HO3:=Lib.hid hown'
   have hs3:wr.heap.size≤w3.heap.size:=by have:=hgrow3.size; simp at this; omega
   have HB3:=Lib.hid (Below.grown (HB.out.alloc (by omega) _) hgrow3 (by simp; omega) (fun j hj=>HLT.out j hj))
   clear hown' hgrow3 hnil3
   go_wp2_with fail
   refine (Tryd.strconv_AppendInt_10 w0.heap.size (X.length + 1) c HRI.out.1 HRI.out.2 v' _ w3 HO3.out (by omega) (by omega) ((Lib.tabBelow_of_tabIs HT.out).on HB3.out)).mono ?_
   rintro e w4 ⟨v4,rfl,hown4,hb4,_⟩
   have HO4:=Lib.hid hown4
   have hs4:=hb4.size
   have HB4:=Lib.hid (HB3.out.trans hb4)
   clear hown4 hb4
   go_wp2
   go_roundw
   case rel =>
    refine ⟨k + 1,by omega,by go_num,?_,HB4,by omega⟩
    have e1:Lib.byteCells (X ++ 44 :: Lib.itoa c)=Lib.byteCells X ++ [.int .u8 44] ++ Lib.byteCells (Lib.itoa c):=by simp [Lib.byteCells]
    have e2:(X ++ 44 :: Lib.itoa c).length=X.length + 1 + (Lib.itoa c).length:=by rw [List.length_append,List.length_cons]; omega
    rw [HXE.out,e1,e2]
    exact HO4
   case measure=>simp [intOf]; omega
  ·have q1:decide ((k:Int) < (cs.length:Int))=false:=decide_eq_false (by omega)
   obtain rfl:k=cs.length:=by omega
   rw [List.take_length] at HO
   have hFk:=HF1.out cs.length
   rw [List.take_length] at hFk hlen
   clear htk
   generalize hX:Lib.itoa a ++ fl cs=X at HO hlen
   have HX:=Lib.hid hX
   clear hX
   have HLT:=Lib.hid (fun g hg=>(HO.out.lt g hg).1)
   go_wp2_with (first | (at_builtin; refine wpList_append_own _ rfl _ _ 118 rfl w0.heap.size 5 i0 (.int .u8 0) 1 1 Tryd.underlying118 hI hI0 hI1 hI2 rfl (by decide) _ _ _ rfl (HO.out.alloc _) ⟨wr.heap.size,0,none⟩ 1 1 [.int .u8 59] rfl rfl (by intro j u' hj; match j,hj with | 0,hj=>simp at hj; subst hj; simp [Addr.add]) (by intro u' hu'; simp at hu'; subst hu'; rfl) (by unfold maxLen; omega) (by omega) (by simp; omega) ?_; intro v' w3 hown' hgrow3 hnil3))
   have HO3:=Lib.hid hown'
   have hs3:wr.heap.size≤w3.heap.size:=by have:=hgrow3.size; simp at this; omega
   have HB3:=Lib.hid (Below.grown (HB.out.alloc (by omega) _) hgrow3 (by simp; omega) (fun j hj=>HLT.out j hj))
   clear hown' hgrow3 hnil3
   go_wp2
   have hpl:(Lib.itoa a ++ fl cs ++ [59]).length=X.length + 1:=by rw [HX.out,List.length_append]; rfl
   go_loopw [7,31] (fun v i wr=>∃ k:Nat,k≤ns.length∧i=.int .i64 (k:Int)∧Hid (wr.ownsRow w0.heap.size 5 1 v (Lib.itoa a ++ fl cs ++ [59] ++ fl (ns.take k)).length (Lib.byteCells (Lib.itoa a ++ fl cs ++ [59] ++ fl (ns.take k))))∧Hid (Below w0.heap.size w0 wr)∧w0.heap.size≤wr.heap.size) (fun _ i _=>ns.length - (intOf i).toNat)
   case atStart =>
    refine ⟨0,by omega,rfl,?_,HB3,by omega⟩
    have e1:Lib.byteCells (X ++ [59])=Lib.byteCells X ++ [.int .u8 59]:=by simp [Lib.byteCells]
    have e2:(X ++ [59]).length=X.length + 1:=by rw [List.length_append]; rfl
    have e3:Lib.itoa a ++ fl cs ++ [59] ++ fl (ns.take 0)=X ++ [59]:=by rw [HX.out]; simp [fl]
    rw [e3,e1,e2]
    exact HO3
   case round =>
    obtain ⟨k,hk,rfl,HO,HB,hsr⟩:=hrel
    have hFk:=HF2.out k
    have hlen:(Lib.itoa a ++ fl cs ++ [59] ++ fl (ns.take k)).length=(Lib.itoa a ++ fl cs ++ [59]).length + (fl (ns.take k)).length:=List.length_append
    have htk:(ns.take k).length=k:=by rw [List.length_take]; omega
    rw [htk] at hFk
    by_cases hlt:k < ns.length
    ·obtain ⟨ad,rfl,hcell⟩:=HNC.out k hlt
     have q1:decide ((k:Int) < (ns.length:Int))=true:=decide_eq_true (by omega)
     have hcr:wr.cell? (ad.add k)=some (.int .i64 ns[k]):=by
      have hbk:=World.block_lt_of_cell? w0 (ad.add k) hcell
      rw [World.cell?_of_block (w:=w0) (HB.out.block _ hbk)]
      exact hcell
     have hri:=of_decide_eq_true (HNS.out ns[k] (List.getElem_mem hlt))
     have hit:=Lib.itoa_length_le ns[k] hri.1 hri.2
     have HRI:=Lib.hid hri
     have esn:=fl_snoc ns k hlt
     generalize hck:ns[k]=c at hcr hri hit HRI esn
     have ESN:=Lib.hid esn
     clear hcell esn hri
     have HXE:=Lib.hid (show Lib.itoa a ++ fl cs ++ [59] ++ fl (ns.take (k + 1))=(Lib.itoa a ++ fl cs ++ [59] ++ fl (ns.take k)) ++ 44 :: Lib.itoa c by rw [ESN.out]; simp only [List.append_assoc])
     generalize hX:Lib.itoa a ++ fl cs ++ [59] ++ fl (ns.take k)=X at HO hlen HXE
     clear hX
     have HLT:=Lib.hid (fun g hg=>(HO.out.lt g hg).1)
     go_wp2_with (first | (at_builtin; refine wpList_append_own _ rfl _ _ 118 rfl w0.heap.size 5 i0 (.int .u8 0) 1 1 Tryd.underlying118 hI hI0 hI1 hI2 rfl (by decide) _ _ _ rfl (HO.out.alloc _) ⟨wr.heap.size,0,none⟩ 1 1 [.int .u8 44] rfl rfl (by intro j u' hj; match j,hj with | 0,hj=>simp at hj; subst hj; simp [Addr.add]) (by intro u' hu'; simp at hu'; subst hu'; rfl) (by unfold maxLen; omega) (by omega) (by simp; omega) ?_; intro v' w3 hown' hgrow3 hnil3))
     have HO3:=Lib.hid hown'
     have hs3:wr.heap.size≤w3.heap.size:=by have:=hgrow3.size; simp at this; omega
     have HB3:=Lib.hid (Below.grown (HB.out.alloc (by omega) _) hgrow3 (by simp; omega) (fun j hj=>HLT.out j hj))
     clear hown' hgrow3 hnil3
     go_wp2_with fail
     refine (Tryd.strconv_AppendInt_10 w0.heap.size (X.length + 1) c HRI.out.1 HRI.out.2 v' _ w3 HO3.out (by omega) (by omega) ((Lib.tabBelow_of_tabIs HT.out).on HB3.out)).mono ?_
     rintro e w4 ⟨v4,rfl,hown4,hb4,_⟩
     have HO4:=Lib.hid hown4
     have hs4:=hb4.size
     have HB4:=Lib.hid (HB3.out.trans hb4)
     clear hown4 hb4
     go_wp2
     go_roundw
     case rel =>
      refine ⟨k + 1,by omega,by go_num,?_,HB4,by omega⟩
      have e1:Lib.byteCells (X ++ 44 :: Lib.itoa c)=Lib.byteCells X ++ [.int .u8 44] ++ Lib.byteCells (Lib.itoa c):=by simp [Lib.byteCells]
      have e2:(X ++ 44 :: Lib.itoa c).length=X.length + 1 + (Lib.itoa c).length:=by rw [List.length_append,List.length_cons]; omega
      rw [HXE.out,e1,e2]
      exact HO4
     case measure=>simp [intOf]; omega
    ·have q1:decide ((k:Int) < (ns.length:Int))=false:=decide_eq_false (by omega)
     obtain rfl:k=ns.length:=by omega
     rw [List.take_length] at HO
     have hFk:=HF2.out ns.length
     rw [List.take_length] at hFk hlen
     clear htk
     have HEND:=Lib.hid (show keyL a cs ns=(Lib.itoa a ++ fl cs ++ [59]) ++ fl ns by simp [keyL,fl])
     obtain ⟨g,cap,hv,hgs⟩:∃ g cap,u7=.slice (some ⟨g,0,none⟩) (Lib.itoa a ++ fl cs ++ [59] ++ fl ns).length cap∧(∀ i,i < (Lib.itoa a ++ fl cs ++ [59] ++ fl ns).length→wr.cell? ⟨g,0 + i,none⟩=some (.int .u8 (((Lib.itoa a ++ fl cs ++ [59] ++ fl ns).map fun (b:UInt8)=>(b.toNat:Int)).getD i 0))):=by
      have h0:0 < (Lib.itoa a ++ fl cs ++ [59] ++ fl ns).length:=by simp only [List.length_append,List.length_cons,List.length_nil]; omega
      obtain ⟨hxl,hx | ⟨g,cap,cur,hv,_⟩⟩:=HO.out
      ·exfalso
       have:=hx.2
       simp at this
      refine ⟨g,cap,hv,fun i hi=>?_⟩
      have hca:=World.ownsRow.cellAt (h:=(hv ▸ HO.out)) i (by omega)
      rw [Nat.zero_add,hca]
      unfold Lib.byteCells
      rw [List.getElem?_map,List.getElem?_eq_getElem hi,List.getD_eq_getElem?_getD,List.getElem?_map,List.getElem?_eq_getElem hi]
      rfl
     generalize hY:Lib.itoa a ++ fl cs ++ [59] ++ fl ns=Y at hv hgs HEND
     have HBE:=Lib.hid HB.out
     clear hY HO
     subst hv
     have hconv:=run_convert_bytes_arg (P:=Tryd.prog) wr 118 5 Tryd.underlying118 Tryd.underlying5 g 0 _ cap (Y.map fun (b:UInt8)=>(b.toNat:Int)) (by simp) hgs 9 Tryd.underlying9
     go_wp2
     first | go_ret | go_ret2
     refine ⟨?_,HBE.out⟩
     rw [HEND.out,bytes_back]; rfl
theorem pure_of {P:Program} {F:Addr→Option Value} {w:World} {f:Nat} {xs:Array Value} {v:Value} {res:AV} (hF:∀ a x,F a=some x→w.cell? a=some x) (hR:RP F v res) (h:Calls P f xs w fun e w'=>e=.returned v∧Below w.heap.size w w') :
  Calls P f xs w fun e w'=>∃ v F',e=.returned v∧(∀ ad y,F ad=some y→F' ad=some y)∧(∀ ad y,F' ad=some y→w'.cell? ad=some y)∧(∀ ad y,F' ad=some y→F ad=some y∨w.heap.size≤ad.block)∧RP F' v res∧Below w.heap.size w w':=by
 refine h.mono ?_
 rintro e w' ⟨rfl,hb⟩
 refine ⟨v,F,rfl,fun _ _ q=>q,fun ad y q=>?_,fun _ _ q=>.inl q,hR,hb⟩
 rw [World.cell?_of_block (w:=w) (hb.block _ (World.block_lt_of_cell? w ad (hF ad y q)))]
 exact hF ad y q
theorem tab_of {P:Program} {Gl:Nat→Option (List AV)} {F:Addr→Option Value} {w:World} {g B:Nat} {k:IntKind} {zs:List Int} {name:String} (hF:∀ a x,F a=some x→w.cell? a=some x) (hG:GlOk Gl F) (hW:GlW Gl B w) (hg:Gl g=some (zs.map fun z=>.v (.int k z))) (hn:P.globalNamed name=some g):Lib.TabIs P w name k zs:=by
 obtain ⟨_,vs,ty,fr,h1,h2⟩:=hW g _ hg
 unfold Lib.TabIs World.var?
 rw [hn]
 simp only [Option.bind_some,h1]
 congr 1
 apply Array.ext
 ·simpa using h2
 ·intro j hj hj2
  have hz:j < zs.length:=by simpa using hj2
  have hr:=hG g _ hg
  cases hr with
  | lptr _ _ cv c1 c2 =>
   have ha:(zs.map fun z=>AV.v (.int k z))[j]?=some (.v (.int k zs[j])):=by rw [List.getElem?_map,List.getElem?_eq_getElem hz]; rfl
   obtain ⟨d1,_⟩:=c1 j _ ha
   have d2:=c2 j _ ha
   have e:cv j=.int k zs[j]:=by generalize cv j=q at d2; cases d2; rfl
   have e2:(Addr.add ⟨g,0,none⟩ j:Addr)=⟨g,j,none⟩:=by simp [Addr.add]; intro h; exact h.symm
   rw [e,e2] at d1
   have d3:=hF _ _ d1
   rw [Lib.cell_of_heap h1,Array.getElem?_eq_getElem hj] at d3
   simpa using Option.some.inj d3
theorem gPow:Tryd.prog.globalNamed "internal/strconv.uint64pow10"=some 0:=by kernel_rfl
theorem sl_of {F:Addr→Option Value} {w:World} {x:Value} {cs:List Int} (hF:∀ a x,F a=some x→w.cell? a=some x) (hx:RP F x (.list 1 (cs.map fun z=>.v (.int .i64 z)))):SlI w x cs:=by
 generalize hz:(cs.map fun z=>AV.v (.int .i64 z))=zs at hx
 cases hx with
 | nil =>
  obtain rfl:cs=[]:=List.map_eq_nil_iff.1 hz
  exact ⟨none,0,rfl,fun k hk=>by cases hk⟩
 | list ad n cap _ _ cv hn hc hsz hFc hR =>
  subst hz
  rw [List.length_map] at hn
  subst hn
  refine ⟨some ad,cap,rfl,fun k hk=>⟨ad,rfl,?_⟩⟩
  have ha:(cs.map fun z=>AV.v (.int .i64 z))[k]?=some (.v (.int .i64 cs[k])):=by rw [List.getElem?_map,List.getElem?_eq_getElem hk]; rfl
  have d1:=(hFc k 0 _ _ ha rfl).1
  have d2:=hR k 0 _ _ ha rfl
  rw [Nat.mul_one,Nat.add_zero] at d1 d2
  have e:cv k=.int .i64 cs[k]:=by generalize cv k=q at d2; cases d2; rfl
  rw [e] at d1
  exact hF _ _ d1
def mKey (a:Int) (cs ns:List Int):Option (ByteArray × Unit):=if i64B a=true∧cs.all i64B=true∧ns.all i64B=true∧cs.length + ns.length≤1099511627776 then some (⟨(keyL a cs ns).toArray⟩,()) else none
def iKey:PI:=⟨61,[.int .i64,.list (.int .i64),.list (.int .i64)],[.str],fun x=>mKey x.1 x.2.1 x.2.2.1⟩
theorem okhKey {GX:GXT} (hg:gx GX 0=some (Lib.pow10Tab.map fun z=>.v (.int .u64 z))):POk Tryd.prog (gx GX) iKey:=by
 refine ⟨by kernel_rfl,?_⟩
 rintro ⟨a,cs,ns,⟨⟩⟩ y hy
 have hy:mKey a cs ns=some y:=hy
 unfold mKey at hy
 split at hy
 ·rename_i hb
  cases hy
  intro w F xs hF hG hW hxs
  obtain ⟨h1,h2⟩:=hxs
  have hl:xs.size=3:=h1
  have h0:=h2 0 xs[0] (.v (.int .i64 a)) (Array.getElem?_eq_getElem _) rfl
  have h3:=h2 1 xs[1] (.list 1 (cs.map fun z=>.v (.int .i64 z))) (Array.getElem?_eq_getElem _) rfl
  have h4:=h2 2 xs[2] (.list 1 (ns.map fun z=>.v (.int .i64 z))) (Array.getElem?_eq_getElem _) rfl
  have e0:xs[0]=.int .i64 a:=by generalize xs[0]=q at h0; cases h0; rfl
  have ex:xs=#[.int .i64 a,xs[1],xs[2]]:=by
   apply Array.ext
   ·exact hl
   ·intro i p q; have:i=0∨i=1∨i=2:=by omega
    rcases this with rfl | rfl | rfl
    ·exact e0
    ·rfl
    ·rfl
  rw [ex]
  exact pure_of hF (.v _) (key_run a cs ns w _ _ (sl_of hF h3) (sl_of hF h4) (by simpa [i64B] using hb.1) (fun c hc=>List.all_eq_true.1 hb.2.1 c hc) (fun c hc=>List.all_eq_true.1 hb.2.2.1 c hc) hb.2.2.2 (tab_of hF hG hW hg gPow))
 ·cases hy
end Abs
end Go.Proofs.YtgfnhpadmifiiaaDoor
end
