/- Merged and trimmed by a program: Shelf PIR BD0 BD1 BD2. -/
import Derived.Test.YtnhgeocdffhkjaaGreatDoorZHD
import Derived.Shelf.Strings.Builder1
import Derived.Shelf.Strings.Builder2
import Derived.Shelf.Strings.BuilderF
import Derived.Shelf.Strconv.Itoa0
import Derived.Shelf.Strconv.Itoa1
import Derived.Shelf.LaysM
import Derived.Shelf.Strconv.Itoa2
import Derived.Shelf.Strconv.Itoa3
import Derived.Shelf.Strings.Prefix
import Derived.Shelf.Bits.Mul64
import Derived.Shelf.Strings.Repeat
import Derived.Test.YtnhgeocdffhkjaaGreatDoorProg
import Derived.Lib.AppendIntMem
import Derived.Lib.LaidTab
import Derived.Lib.Builder
import Derived.Lib.UnsafeStr
import Derived.WalkKit
import Derived.Below
set_option linter.unusedVariables false
set_option linter.unusedSimpArgs false
set_option linter.defProp false
section
namespace Go.Proofs
open Go.Shelf
def Tryz.laysM171_ren:Go.Shelf.Ren:=⟨fun|171=>152|243=>176|246=>187|283=>194|284=>195|285=>196|286=>197|129=>208|317=>207|318=>209|319=>210|320=>211|337=>222|338=>223|n=>n,fun|3=>3|9=>9|2=>2|4=>4|171=>216|0=>0|53=>217|37=>77|5=>5|173=>220|212=>230|51=>231|20=>20|213=>232|46=>222|232=>247|233=>248|n=>n,fun|17=>2|18=>3|19=>4|n=>n⟩
theorem Tryz.laysM171:Go.Proofs.LaysM.n171 Tryz.prog Tryz.laysM171_ren:={
 mixed:=by kernel_rfl
 f129:=Tryz.func208.trans (congrArg some (by kernel_rfl))
 f171:=Tryz.func152.trans (congrArg some (by kernel_rfl))
 f243:=Tryz.func176.trans (congrArg some (by kernel_rfl))
 f246:=Tryz.func187.trans (congrArg some (by kernel_rfl))
 f283:=Tryz.func194.trans (congrArg some (by kernel_rfl))
 f284:=Tryz.func195.trans (congrArg some (by kernel_rfl))
 f285:=Tryz.func196.trans (congrArg some (by kernel_rfl))
 f286:=Tryz.func197.trans (congrArg some (by kernel_rfl))
 f317:=Tryz.func207.trans (congrArg some (by kernel_rfl))
 f318:=Tryz.func209.trans (congrArg some (by kernel_rfl))
 f319:=Tryz.func210.trans (congrArg some (by kernel_rfl))
 f320:=Tryz.func211.trans (congrArg some (by kernel_rfl))
 f337:=Tryz.func222.trans (congrArg some (by kernel_rfl))
 f338:=Tryz.func223.trans (congrArg some (by kernel_rfl))
 t0:=Tryz.underlying0
 a0:=Tryz.isAgg0
 z0:=Tryz.sizeOf0
 v0:=Tryz.zeroValue0
 t2:=Tryz.underlying2
 a2:=Tryz.isAgg2
 z2:=Tryz.sizeOf2
 v2:=Tryz.zeroValue2
 t3:=Tryz.underlying3
 a3:=Tryz.isAgg3
 z3:=Tryz.sizeOf3
 v3:=Tryz.zeroValue3
 t4:=Tryz.underlying4
 a4:=Tryz.isAgg4
 z4:=Tryz.sizeOf4
 v4:=Tryz.zeroValue4
 t5:=Tryz.underlying5
 a5:=Tryz.isAgg5
 z5:=Tryz.sizeOf5
 v5:=Tryz.zeroValue5
 t9:=Tryz.underlying9
 a9:=Tryz.isAgg9
 z9:=Tryz.sizeOf9
 v9:=Tryz.zeroValue9
 t20:=Tryz.underlying20
 a20:=Tryz.isAgg20
 z20:=Tryz.sizeOf20
 v20:=Tryz.zeroValue20
 t37:=Tryz.underlying77
 a37:=Tryz.isAgg77
 z37:=Tryz.sizeOf77
 v37:=Tryz.zeroValue77
 t46:=Tryz.underlying222
 a46:=Tryz.isAgg222
 z46:=Tryz.sizeOf222
 v46:=Tryz.zeroValue222
 t51:=Tryz.underlying231
 a51:=Tryz.isAgg231
 z51:=Tryz.sizeOf231
 v51:=Tryz.zeroValue231
 t53:=Tryz.underlying217
 a53:=Tryz.isAgg217
 z53:=Tryz.sizeOf217
 v53:=Tryz.zeroValue217
 t171:=Tryz.underlying216
 a171:=Tryz.isAgg216
 z171:=Tryz.sizeOf216
 v171:=Tryz.zeroValue216
 t173:=Tryz.underlying220
 a173:=Tryz.isAgg220
 z173:=Tryz.sizeOf220
 v173:=Tryz.zeroValue220
 t212:=Tryz.underlying230
 a212:=Tryz.isAgg230
 z212:=Tryz.sizeOf230
 v212:=Tryz.zeroValue230
 t213:=Tryz.underlying232
 a213:=Tryz.isAgg232
 z213:=Tryz.sizeOf232
 t232:=Tryz.underlying247
 a232:=Tryz.isAgg247
 z232:=Tryz.sizeOf247
 v232:=Tryz.zeroValue247
 t233:=Tryz.underlying248
 a233:=Tryz.isAgg248
 z233:=Tryz.sizeOf248
 v233:=Tryz.zeroValue248
 g17:=by kernel_rfl
 g18:=by kernel_rfl
 g19:=by kernel_rfl
 i0:=by kernel_rfl
 i2:=by kernel_rfl
 i3:=by kernel_rfl
 i4:=by kernel_rfl
 i5:=by kernel_rfl
 i9:=by kernel_rfl
 i20:=by kernel_rfl
 i37:=by kernel_rfl
 i46:=by kernel_rfl
 i51:=by kernel_rfl
 i53:=by kernel_rfl
 i171:=by kernel_rfl
 i173:=by kernel_rfl
 i212:=by kernel_rfl
 i232:=by kernel_rfl
 i233:=by kernel_rfl
 m17:=by kernel_rfl
 m18:=by kernel_rfl
 m19:=by kernel_rfl }
open Go.RowKit Go.Sort Go.Lib in
theorem Tryz.strconv_Itoa(n:Int)(h0:-9223372036854775808<=n)(h1:n<=9223372036854775807)(w:World) (htab:Lib.TabIs Tryz.prog w "internal/strconv.uint64pow10" .u64 Lib.pow10Tab) :
  Calls Tryz.prog 152 #[.int .i64 n] w λe w'=>e=.returned (.string ⟨(Lib.itoa n).toArray⟩)/\∃k os,w'=grow (w.drewN k) os:=Any.strconv_Itoa Tryz.laysM171 n h0 h1 w htab
def Tryz.lays105_ren:Go.Shelf.Ren:=⟨fun|105=>189|212=>198|99=>199|165=>200|166=>69|170=>71|169=>42|263=>212|264=>213|206=>214|240=>108|241=>215|276=>154|277=>224|n=>n,fun|9=>9|3=>3|4=>4|20=>20|0=>0|46=>222|109=>223|5=>5|72=>79|76=>121|51=>231|146=>234|53=>217|148=>236|70=>76|37=>77|75=>120|127=>125|164=>179|80=>87|n=>n,fun|n=>n⟩
theorem Tryz.lays105:Go.Proofs.Lays.n105 Tryz.prog Tryz.lays105_ren:={
 mixed:=by kernel_rfl
 f99:=Tryz.func199.trans (congrArg some (by kernel_rfl))
 f105:=Tryz.func189.trans (congrArg some (by kernel_rfl))
 f165:=Tryz.func200.trans (congrArg some (by kernel_rfl))
 f166:=Tryz.func69.trans (congrArg some (by kernel_rfl))
 f169:=Tryz.func42.trans (congrArg some (by kernel_rfl))
 f170:=Tryz.func71.trans (congrArg some (by kernel_rfl))
 f206:=Tryz.func214.trans (congrArg some (by kernel_rfl))
 f212:=Tryz.func198.trans (congrArg some (by kernel_rfl))
 f240:=Tryz.func108.trans (congrArg some (by kernel_rfl))
 f241:=Tryz.func215.trans (congrArg some (by kernel_rfl))
 f263:=Tryz.func212.trans (congrArg some (by kernel_rfl))
 f264:=Tryz.func213.trans (congrArg some (by kernel_rfl))
 f276:=Tryz.func154.trans (congrArg some (by kernel_rfl))
 f277:=Tryz.func224.trans (congrArg some (by kernel_rfl))
 t0:=Tryz.underlying0
 a0:=Tryz.isAgg0
 z0:=Tryz.sizeOf0
 v0:=Tryz.zeroValue0
 t3:=Tryz.underlying3
 a3:=Tryz.isAgg3
 z3:=Tryz.sizeOf3
 v3:=Tryz.zeroValue3
 t4:=Tryz.underlying4
 a4:=Tryz.isAgg4
 z4:=Tryz.sizeOf4
 v4:=Tryz.zeroValue4
 t5:=Tryz.underlying5
 a5:=Tryz.isAgg5
 z5:=Tryz.sizeOf5
 v5:=Tryz.zeroValue5
 t9:=Tryz.underlying9
 a9:=Tryz.isAgg9
 z9:=Tryz.sizeOf9
 v9:=Tryz.zeroValue9
 t20:=Tryz.underlying20
 a20:=Tryz.isAgg20
 z20:=Tryz.sizeOf20
 v20:=Tryz.zeroValue20
 t37:=Tryz.underlying77
 a37:=Tryz.isAgg77
 z37:=Tryz.sizeOf77
 v37:=Tryz.zeroValue77
 t46:=Tryz.underlying222
 a46:=Tryz.isAgg222
 z46:=Tryz.sizeOf222
 v46:=Tryz.zeroValue222
 t51:=Tryz.underlying231
 a51:=Tryz.isAgg231
 z51:=Tryz.sizeOf231
 v51:=Tryz.zeroValue231
 t53:=Tryz.underlying217
 a53:=Tryz.isAgg217
 z53:=Tryz.sizeOf217
 v53:=Tryz.zeroValue217
 t70:=Tryz.underlying76
 a70:=Tryz.isAgg76
 z70:=Tryz.sizeOf76
 v70:=Tryz.zeroValue76
 t72:=Tryz.underlying79
 a72:=Tryz.isAgg79
 z72:=Tryz.sizeOf79
 v72:=Tryz.zeroValue79
 t75:=Tryz.underlying120
 a75:=Tryz.isAgg120
 z75:=Tryz.sizeOf120
 v75:=Tryz.zeroValue120
 t76:=Tryz.underlying121
 a76:=Tryz.isAgg121
 z76:=Tryz.sizeOf121
 v76:=Tryz.zeroValue121
 t109:=Tryz.underlying223
 a109:=Tryz.isAgg223
 z109:=Tryz.sizeOf223
 v109:=Tryz.zeroValue223
 t127:=Tryz.underlying125
 a127:=Tryz.isAgg125
 z127:=Tryz.sizeOf125
 v127:=Tryz.zeroValue125
 t146:=Tryz.underlying234
 a146:=Tryz.isAgg234
 z146:=Tryz.sizeOf234
 v146:=Tryz.zeroValue234
 t148:=Tryz.underlying236
 a148:=Tryz.isAgg236
 z148:=Tryz.sizeOf236
 v148:=Tryz.zeroValue236
 t164:=Tryz.underlying179
 a164:=Tryz.isAgg179
 z164:=Tryz.sizeOf179
 v164:=Tryz.zeroValue179 }
theorem Tryz.Builder_Extra_105:Builder.Extra Tryz.prog Tryz.lays105_ren:={
 sizeBuilder:=by kernel_rfl
 liesBuilder:=by kernel_rfl
 t5:=Tryz.underlying5
 a5:=Tryz.isAgg5
 z5:=Tryz.sizeOf5
 v5:=Tryz.zeroValue5
 infoByte:=by kernel_rfl
 cellsByte:=by kernel_rfl
 sizeByte:=by kernel_rfl
 neB5:=by decide }
open Go.RowKit Go.Lib in
theorem Tryz.strings_Repeat(s:ByteArray)(c:Nat)(w:World)(hc:c<=9223372036854775807)(hlen:s.size*c<=140737488355328) :
  Calls Tryz.prog 189 #[.string s,.int .i64 c] w λe w'=>e=.returned (.string ⟨(Lib.repeatL s.data.toList c).toArray⟩)/\Below w.heap.size w w':=Any.strings_Repeat Tryz.lays105 Tryz.Builder_Extra_105 s c w hc hlen
end Go.Proofs
end
namespace Go.Proofs.YtnhgeocdffhkjaaGreatDoor
namespace Abs
noncomputable section
section
open Go.RowKit
theorem Rt{P:Program}{F:Addr->Option Value}{w:World}{f:Nat}{xs:Array Value}{v:Value}{res:AV}(hF:∀a x,F a=some x->w.cell? a=some x)(hR:RP F v res)(h:Calls P f xs w λe w'=>e=.returned v/\Below w.heap.size w w') :
  Calls P f xs w λe w'=>∃v F',e=.returned v/\(∀ad y,F ad=some y->F' ad=some y)/\(∀ad y,F' ad=some y->w'.cell? ad=some y)/\(∀ad y,F' ad=some y->F ad=some y\/w.heap.size<=ad.block)/\RP F' v res/\Below w.heap.size w w':=by
 refine h.mono ?_
 rintro e w' ⟨rfl,hb⟩
 refine⟨v,F,rfl,λ_ _ q=>q,λad y q=>?_,λ_ _ q=>.inl q,hR,hb⟩
 rw[World.cell?_of_block (w:=w) (hb.block _ (World.block_lt_of_cell? w ad (hF ad y q)))]
 exact hF ad y q
theorem a9n{P:Program}{Gl:Nat->Option (List AV)}{F:Addr->Option Value}{w:World}{g B:Nat}{k:IntKind}{zs:List Int}{name:String}(hF:∀a x,F a=some x->w.cell? a=some x)(hG:KD Gl F)(hW:GlW Gl B w)(hg:Gl g=some (zs.map λz=>.v (.int k z)))(hn:P.globalNamed name=some g):Lib.TabIs P w name k zs:=by
 obtain⟨_,vs,ty,fr,h1,h2⟩:=hW g _ hg
 unfold Lib.TabIs World.var?
 rw[hn]
 simp only[iL,h1]
 congr 1
 apply Az
 .simpa using h2
 .intro j hj hj2
  have hz:j<zs.length:=by simpa using hj2
  have hr:=hG g _ hg
  cases hr with
  |iF _ _ cv c1 c2 =>
   have ha:(zs.map λz=>AV.v (.int k z))[j]?=some (.v (.int k zs[j])):=by rw[aT,ah hz];rfl
   obtain⟨d1,_⟩:=c1 j _ ha
   have d2:=c2 j _ ha
   have e:cv j=.int k zs[j]:=by generalize cv j=q at d2;cases d2;rfl
   have e2:(Addr.add ⟨g,0,none⟩ j:Addr)=⟨g,j,none⟩:=by simp[Addr.add];intro h;exact h.symm
   rw[e,e2]at d1
   have d3:=hF _ _ d1
   rw[Lib.cell_of_heap h1,aF hj]at d3
   simpa using Option.some.inj d3
def jd(n:Int):ByteArray:=⟨(Lib.itoa n).toArray⟩
def y7(n:Int):Option (ByteArray×Unit):=if -9223372036854775808<=n/\n<=9223372036854775807 then some (jd n,()) else none
def a4x:PI:=⟨152,[.int .i64],[.str],λx=>y7 x.1⟩
theorem c01:Tryz.prog.globalNamed "internal/strconv.uint64pow10"=some 2:=by kernel_rfl
theorem a5S{GX:GXT}(hg:gx GX 2=some (Lib.pow10Tab.map λz=>.v (.int .u64 z))):POk Tryz.prog (gx GX) a4x:=by
 refine⟨by kernel_rfl,?_⟩
 rintro⟨n,⟨⟩⟩ y hy
 have hy:y7 n=some y:=hy
 unfold y7 at hy
 split at hy
 .rename_i hb
  cases hy
  intro w F xs hF hG hW hxs
  obtain⟨h1,h2⟩:=hxs
  have hl:xs.size=1:=h1
  have h0:=h2 0 xs[0] (.v (.int .i64 n)) (aF _) rfl
  have e0:xs[0]=.int .i64 n:=by generalize xs[0]=q at h0;cases h0;rfl
  have ex:xs=#[.int .i64 n]:=by
   apply Az
   .exact hl
   .intro i a b;have:i=0:=by omega
    subst this;exact e0
  rw[ex]
  refine Rt hF (.v _) ((Tryz.strconv_Itoa n hb.1 hb.2 w (a9n hF hG hW hg c01)).mono ?_)
  rintro e w' ⟨he,k,os,hw⟩
  exact⟨he,by rw[hw];exact Lib.below_grow _ w (aS _) k os⟩
 .cases hy
def Oi(s:ByteArray)(n:Nat):ByteArray:=⟨(Lib.repeatL s.data.toList n).toArray⟩
def JL(s:ByteArray)(n:Int):Option (ByteArray×Unit):=if 0<=n/\n<=9223372036854775807/\s.size*n.toNat<=140737488355328 then some (Oi s n.toNat,()) else none
def b2x:PI:=⟨189,[.str,.int .i64],[.str],λx=>JL x.1 x.2.1⟩
theorem b08{GX:GXT}:POk Tryz.prog (gx GX) b2x:=by
 refine⟨by kernel_rfl,?_⟩
 rintro⟨s,n,⟨⟩⟩ y hy
 have hy:JL s n=some y:=hy
 unfold JL at hy
 split at hy
 .rename_i hb
  cases hy
  intro w F xs hF hG hW hxs
  obtain⟨h1,h2⟩:=hxs
  have hl:xs.size=2:=h1
  have h0:=h2 0 xs[0] (.v (.string s)) (aF _) rfl
  have h1:=h2 1 xs[1] (.v (.int .i64 n)) (aF _) rfl
  have e0:xs[0]=.string s:=by generalize xs[0]=q at h0;cases h0;rfl
  have e1:xs[1]=.int .i64 n:=by generalize xs[1]=q at h1;cases h1;rfl
  have ex:xs=#[.string s,.int .i64 ((n.toNat:Nat):Int)]:=by
   apply Az
   .exact hl
   .intro i a b;have:i=0\/i=1:=by omega
    rcases this with rfl|rfl
    .exact e0
    .rw[e1];show Value.int .i64 n=Value.int .i64 ((n.toNat:Nat):Int);congr 1;omega
  rw[ex]
  exact Rt hF (.v _) (Tryz.strings_Repeat s n.toNat w (by omega) hb.2.2)
 .cases hy
end
end
end Abs
end Go.Proofs.YtnhgeocdffhkjaaGreatDoor
section
namespace Go.Proofs.YtnhgeocdffhkjaaGreatDoor
open Go.RowKit
theorem a3Q:(Tryz.prog.info? 79).map (·.size)=some 2:=by kernel_rfl
set_option maxRecDepth 100000 in
theorem Zg(b:Nat)(w:World)(h0:w.cell? ⟨b,0,none⟩=some (.pointer (some ⟨b,0,none⟩))) :
  Calls Tryz.prog 108 #[.pointer (some ⟨b,0,none⟩)] w λe w'=>e=.returned (.tuple #[])/\w'=w:=by
 obtain⟨j,hj,_⟩:=Option.map_eq_some_iff.1 a3Q
 go_enter Tryz.func108,Tryz.ntmps108
 go_wp2
 rw[Lib.run_neq_ptr_same w _ Tryz.underlying76 hj]
 go_wp2
 go_end0
 exact⟨rfl,rfl⟩
set_option maxRecDepth 100000 in
theorem Vr(b T n:Nat)(w:World)(h0:w.cell? ⟨b,0,none⟩=some (.pointer none))(hsh:w.shape? b=some (T,n))(hn:0<n)(hfz:w.frozen? ⟨b,0,none⟩=false)(hl:liesAt Tryz.prog Tryz.prog.depth T (n/Tryz.prog.cellsOf T) 0 79 1=true) :
  Calls Tryz.prog 108 #[.pointer (some ⟨b,0,none⟩)] w λe w'=>e=.returned (.tuple #[])/\w'=w.setCell ⟨b,0,none⟩ (.pointer (some ⟨b,0,none⟩)):=by
 obtain⟨j,hj,hjs⟩:=Option.map_eq_some_iff.1 a3Q
 go_enter Tryz.func108,Tryz.ntmps108
 go_wp2
 rw[Lib.run_to_unsafe w ⟨b,0,none⟩ Tryz.underlying76 Tryz.underlying179 hj (by rw[hjs];decide) hsh hn]
 simp only[Result.andThen]
 rw[Oper.upon_value]
 go_wp2
 rw[run_callFunc_extern Tryz.func154 (by kernel_rfl) (by kernel_rfl) (by kernel_rfl) (e:=Extern.AbiNoEscape.same) (by kernel_rfl)]
 rw[Lib.run_noEscape]
 simp only[Result.andThen]
 rw[Oper.upon_value]
 go_wp2
 rw[Lib.run_from_unsafe w ⟨b,0,none⟩ Tryz.underlying179 Tryz.underlying76 hj hsh hl]
 simp only[Result.andThen]
 rw[Oper.upon_value]
 go_wp2
 go_end0
 exact⟨rfl,rfl⟩
theorem L8{P:Program}(w:World):∀(l:List Int) (a:Addr) (acc:ByteArray),(∀j x,l[j]?=some x->w.cell? (a.add j)=some (.int .u8 x))->
  (loadBytes a acc l.length).run P w=.ok ⟨acc.data++(l.map λn=>UInt8.ofNat n.toNat).toArray⟩ w
 |[],a,acc,_=>by simp[loadBytes]
 |x::l,a,acc,h=>by
  have h0:w.cell? a=some (.int .u8 x):=by
   have:=h 0 x rfl
   simpa[Addr.add]using this
  have ih:=L8 (P:=P) w l (a.add 1) (acc.push x.toNat.toUInt8) (λj y hy=>by
   have:=h (j+1) y (by simpa using hy)
   have e:(a.add 1).add j=a.add (j+1):=by
    unfold Addr.add
    by_cases hj:j=0
    .subst hj;simp
    .simp[hj];omega
   rw[e];exact this)
  simp only[List.length_cons,loadBytes,Sem.run_bind,run_load,h0,Result.andThen]
  rw[ih]
  congr 1
  apply ByteArray.ext
  simp[ByteArray.push]
theorem QT{P:Program}(w:World)(pt it ty e:TypeId)(hp:P.underlying pt=some (.pointer e))(hc:P.cellsOf e=1)(g cells:Nat)(hsh:w.shape? g=some (e,cells))(l:List Int)(h0:l≠[])(hn:l.length<=cells)(h63:l.length<=9223372036854775807)
  (hcell:∀j x,l[j]?=some x->w.cell? ((⟨g,0,none⟩:Addr).add j)=some (.int .u8 x)) :
  (Builtin.unsafeString_ #[pt,it] ty #[.pointer (some ⟨g,0,none⟩),.int .i64 l.length]).run P w=.ok (.string ⟨(l.map λn=>UInt8.ofNat n.toNat).toArray⟩) (w.freeze ⟨g,0,none⟩ l.length):=by
 have hl:l.length≠0:=by simpa using h0
 have hlb:=L8 (P:=P) w l ⟨g,0,none⟩ .empty hcell
 have hlies:=Lib.liesAt_bytes (P:=P) hc (cells/P.cellsOf e) l.length (by rw[hc];simpa using hn)
 have h63':¬(9223372036854775807:Int)<(l.length:Int):=by omega
 have hdef:Builtin.unsafeString_ #[pt,it] ty #[.pointer (some ⟨g,0,none⟩),.int .i64 l.length] =
   (do
    let n <- asInt (.int .i64 l.length)
    if n<0 then runtimePanic (.error "unsafe.String: len out of range")
    if n>IntKind.i64.max then unsupported (.unsafePointer "String: a length above the largest int")
    if n=0 then pure (.string .empty)
    else if <- variablesAt ⟨g,0,none⟩ (<- elemOf pt) n.toNat then do
     let s <- loadBytes ⟨g,0,none⟩ .empty n.toNat
     freeze ⟨g,0,none⟩ n.toNat
     pure (.string s)
    else unsupported (.unsafePointer "String: not so many bytes at ptr")):=rfl
 rw[hdef]
 have hmax:IntKind.i64.max=9223372036854775807:=rfl
 have hneg:¬(l.length:Int)<0:=by omega
 simp[asInt,asIntOf,hmax,h63',hneg,hl,variablesAt,hsh,elemOf,run_underlying hp,hlies,hlb]
theorem IC:Tryz.prog.follows .mixedOrders=true:=by kernel_rfl
theorem cellsByte:Tryz.prog.cellsOf 5=1:=by kernel_rfl
theorem Gf(W:World)(q:Option Addr):(Builtin.unsafeString_ #[125,3] 9 #[.pointer q,.int .i64 0]).run Tryz.prog W=.ok (.string .empty) W:=Lib.run_unsafeString_none W _ _ _ q
set_option maxHeartbeats 2000000 in
set_option maxRecDepth 100000 in
theorem a5a(b c:Nat)(w:World)(h1:w.cell? ⟨b,1,none⟩=some (.slice none 0 c)) :
  Calls Tryz.prog 42 #[.pointer (some ⟨b,0,none⟩)] w λe w'=>e=.returned (.string ⟨#[]⟩)/\Below w.heap.size w w':=by
 have mixed:=IC
 have hUS:=Gf
 have c1:w.drew.cell? ⟨b,1,none⟩=some (.slice none 0 c):=h1
 have hSD:(Builtin.unsafeSliceData_ #[77] 125 #[.slice none 0 c]).run Tryz.prog w.drew=.ok (.pointer none) w.drew:=rfl
 go_enter Tryz.func42,Tryz.ntmps42
 go_wp2
 go_region_o
 all_goals(go_wp2;go_ret;exact⟨rfl,Below.drew (Below.refl _ w)⟩)
set_option maxHeartbeats 2000000 in
set_option maxRecDepth 100000 in
theorem a08(b g c:Nat)(w:World)(hc:c≠0)(h1:w.cell? ⟨b,1,none⟩=some (.slice (some ⟨g,0,none⟩) 0 c)) :
  Calls Tryz.prog 42 #[.pointer (some ⟨b,0,none⟩)] w λe w'=>e=.returned (.string ⟨#[]⟩)/\Below w.heap.size w w':=by
 have mixed:=IC
 have hUS:=Gf
 have c1:w.drew.cell? ⟨b,1,none⟩=some (.slice (some ⟨g,0,none⟩) 0 c):=h1
 have hSD:(Builtin.unsafeSliceData_ #[77] 125 #[.slice (some ⟨g,0,none⟩) 0 c]).run Tryz.prog w.drew=.ok (.pointer (some ⟨g,0,none⟩)) w.drew:=Lib.run_unsafeSliceData_row _ _ _ _ _ _ hc
 clear hc
 go_enter Tryz.func42,Tryz.ntmps42
 go_wp2
 go_region_o
 all_goals(go_wp2;go_ret;exact⟨rfl,Below.drew (Below.refl _ w)⟩)
set_option maxHeartbeats 2000000 in
set_option maxRecDepth 100000 in
theorem TM(b g:Nat)(w:World)(hb:b<w.heap.size)(sh:TypeId×Nat)(hg:w.shape? g=some sh)(h1:w.cell? ⟨b,1,none⟩=some (.slice (some ⟨g,0,none⟩) 0 0)) :
  Calls Tryz.prog 42 #[.pointer (some ⟨b,0,none⟩)] w λe w'=>e=.returned (.string ⟨#[]⟩)/\Below w.heap.size w w':=by
 have mixed:=IC
 have hUS:=Gf
 have c1:w.drew.cell? ⟨b,1,none⟩=some (.slice (some ⟨g,0,none⟩) 0 0):=h1
 have hSD:(Builtin.unsafeSliceData_ #[77] 125 #[.slice (some ⟨g,0,none⟩) 0 0]).run Tryz.prog w.drew=.ok (.pointer (some ⟨w.drew.heap.size,0,none⟩)) (w.drew.alloc (.view ⟨g,0,none⟩ 5)) :=
  Lib.run_unsafeSliceData_zero w.drew _ _ 5 Tryz.underlying125 ⟨g,0,none⟩ 0 sh hg
 have c2:(w.drew.alloc (.view ⟨g,0,none⟩ 5)).cell? ⟨b,1,none⟩=some (.slice (some ⟨g,0,none⟩) 0 0):=by
  rw[World.cell?_alloc_lt _ _ _ hb];exact c1
 have c3:(w.alloc (.view ⟨g,0,none⟩ 5)).drew.cell? ⟨b,1,none⟩=some (.slice (some ⟨g,0,none⟩) 0 0):=c2
 go_enter Tryz.func42,Tryz.ntmps42
 go_wp2
 go_region_o
 all_goals(go_wp2;go_ret;exact⟨rfl,(Below.drew (Below.refl _ w)).alloc (Nat.le_refl _) _⟩)
set_option maxHeartbeats 2000000 in
set_option maxRecDepth 100000 in
theorem a07(b g c cells:Nat)(l:List Int)(w:World)(h0:l≠[])(h1:w.cell? ⟨b,1,none⟩=some (.slice (some ⟨g,0,none⟩) l.length c))(hc:l.length<=c)(hm:l.length<=9223372036854775807)(hsh:w.shape? g=some (5,cells))(hn:l.length<=cells)
  (hcell:∀j x,l[j]?=some x->w.cell? ((⟨g,0,none⟩:Addr).add j)=some (.int .u8 x)) :
  Calls Tryz.prog 42 #[.pointer (some ⟨b,0,none⟩)] w λe w'=>e=.returned (.string ⟨(l.map λn=>UInt8.ofNat n.toNat).toArray⟩)/\w'=w.drew.freeze ⟨g,0,none⟩ l.length:=by
 have mixed:=IC
 have hpos:0<l.length:=List.length_pos_iff.2 h0
 have c1:w.drew.cell? ⟨b,1,none⟩=some (.slice (some ⟨g,0,none⟩) l.length c):=h1
 have hSD:(Builtin.unsafeSliceData_ #[77] 125 #[.slice (some ⟨g,0,none⟩) l.length c]).run Tryz.prog w.drew=.ok (.pointer (some ⟨g,0,none⟩)) w.drew:=Lib.run_unsafeSliceData_row _ _ _ _ _ _ (by omega)
 have hUS:(Builtin.unsafeString_ #[125,3] 9 #[.pointer (some ⟨g,0,none⟩),.int .i64 l.length]).run Tryz.prog w.drew=.ok (.string ⟨(l.map λn=>UInt8.ofNat n.toNat).toArray⟩) (w.drew.freeze ⟨g,0,none⟩ l.length) :=
  QT w.drew 125 3 9 5 Tryz.underlying125 cellsByte g cells hsh l h0 hn hm hcell
 go_enter Tryz.func42,Tryz.ntmps42
 go_wp2
 go_region_o
 all_goals(go_wp2;go_ret;exact⟨rfl,rfl⟩)
end Go.Proofs.YtnhgeocdffhkjaaGreatDoor
end
namespace Go.Proofs.YtnhgeocdffhkjaaGreatDoor
namespace Abs
noncomputable section
section
open Go.RowKit
def a1k(tB:Nat)(cs:List SC)(fz:Bool):List SO:=[.box tB (.me 0::.row 1::cs),.row 5 (.int .u8) fz]
def Cg(tB:Nat)(cs:List SC):Sh:=⟨1,[],[(0,.ptr 0 0 0)],a1k tB cs false⟩
def b9p(tB:Nat)(cs:List SC):Sh:=⟨0,[],[],a1k tB cs false⟩
def TT(tB:Nat)(cs:List SC):Sh:=⟨1,[(0,.str)],[],a1k tB cs true⟩
def iG(cs:List SC)(x:Ty.bO (SC.tys cs [.list (.int .u8)])):List Int:=(jg cs [.list (.int .u8)] x).2.1
def Vb(tB:Nat)(cs:List SC):HI:=⟨108,Cg tB cs,b9p tB cs,λx=>some x,[]⟩
def a2k(tB:Nat)(cs:List SC):HI:=⟨42,Cg tB cs,TT tB cs,λx=>some (bsI (iG cs x),x),[]⟩
section
variable{P:Program}{Gl:Nat->Option (List AV)}{F:Addr->Option Value}{own:List Ent}{B:Nat}{w0:W0}{σ:St}{act:Act}{w:World}
theorem Inv.shut(h:Inv Gl F own B w0 σ act w){w':World}{id:Nat}{e:Ent}{o:aH}{g:Nat}(he:own[id]?=some e)(ho:σ.h[id]?=some o)(hge:e.g=some g)(hfz:o.fz=o.es.length)(h0:0<o.es.length)(h1:w'.os=w.os)(h2:w'.tape=w.tape)(h3:w'.output=w.output)(hoth:∀k,k≠g->w'.heap[k]?=w.heap[k]?)
  (hg:∃cs ty fr fr',w.heap[g]?=some (.cells cs ty fr)/\w'.heap[g]?=some (.cells cs ty fr')/\w.heap.size=w'.heap.size):Inv Gl F own B w0 σ act w':=by
 obtain⟨cs,ty,fr,fr',e1,e2,e4⟩:=hg
 have hB:B<=g:=h.base id e g he hge
 have hc:∀a,w'.cell? a=w.cell? a:=λa=>by
  unfold World.cell?
  by_cases q:a.block=g
  .rw[q,e1,e2]
  .rw[hoth _ q]
 refine h.turn (h':=σ.h) (λ_ _ q=>q) (Le.refl _) (λa x q=>(hc a).trans (h.sub a x q)) h.hl (λid2 e' o' p q=>?_) h.inj ?_ h.base (hpw:=λk _ hk=>hoth k λq=>hk id e he (by rw[hge,q]))
 .have k:=h.objs id2 e' o' p q
  have k:=k
  obtain⟨k1,k2,k3,k4,k5,k6,k7,k8⟩:=k
  refine⟨k1,k2,k3,k4,k5,k6,k7,?_⟩
  cases K9:e'.g with
  |none=>rw[K9]at k8;exact k8
  |some g' =>
   rw[K9]at k8
   obtain⟨cs',⟨fr1,a1,af⟩,a2,a3,a4⟩:=k8
   by_cases hgg:g'=g
   .subst hgg
    rw[e1]at a1;cases a1
    have hid:=h.inj id2 id e' e g' p he K9 hge
    subst hid
    have q:σ.h[id2]?=some o':=q
    rw[ho]at q;cases q
    exact⟨cs,⟨fr',e2,.inr ⟨hfz,h0⟩⟩,a2,a3,a4⟩
   .exact⟨cs',⟨fr1,by rw[hoth _ hgg];exact a1,af⟩,a2,a3,a4⟩
 .exact⟨h1.trans h.below.os,h2.trans h.below.tape,h3.trans h.below.output,by rw[<- e4];exact h.below.size,λk hk=>by rw[hoth k (by omega)];exact h.below.block k hk⟩
theorem Inv.beyond(h:Inv Gl F own B w0 σ act w){w':World}(hb:Below w.heap.size w w'):Inv Gl F own B w0 σ act w' :=
 h.call (λ_ _ q=>q) (λad y q=>by rw[World.cell?_of_block (w:=w) (hb.block _ (h.Ah q))];exact h.sub ad y q) (λ_ _ q=>.inl q) hb
end
theorem a2L:∀(cs:List SC) (r:List Ty) (x:Ty.bO (SC.tys cs r)),(jg cs r x).1.length=cs.length:=by
 intro cs
 induction cs with
 |nil=>intro r x;rfl
 |cons c cs ih =>
  intro r x
  cases c<;>exact dn Nat.succ (ih r _)
theorem found{Gl:Nat->Option (List AV)}{tB:Nat}(hi:rz tB=false){cs:List SC}{x:Ty.bO (SC.tys cs [.list (.int .u8)])}{ρ:List Nat}{av:List AV}{H:List aH}(hS:Sim ρ (emb (Cg tB cs) x) ⟨av,H⟩)
  {F:Addr->Option Value} {own:List Ent} {B:Nat} {w0:W0} {t:List AV} {act:Act} {w:World} {xs:Array Value} (hI:Inv Gl F own B w0 ⟨t,H⟩ act w) (hxs:RL F own xs av) :
  ∃(O0 O1:aH) (E0 E1:Ent) (g:Nat) (c0 c1:AV) (rest:List AV) (cur:Array Value) (fr:Nat×Nat) (y0 y1:Value),
   H[ρ.getD 0 0]?=some O0/\H[ρ.getD 1 0]?=some O1/\own[ρ.getD 0 0]?=some E0/\own[ρ.getD 1 0]?=some E1/\E0.g=some g/\xs=#[.pointer (some ⟨g,0,none⟩)]/\
   O0.ty=tB/\O0.sz=2+cs.length/\O0.pr=false/\O0.fz=0/\O0.es=[.agg (c0::c1::rest)]/\E0.sz=O0.sz/\
   w.heap[g]?=some (.cells cur tB fr)/\KA fr cur.size/\cur.size=2+cs.length/\cur[0]?=some y0/\cur[1]?=some y1/\
   ((c0=.v (.pointer none)/\y0=.pointer none)\/y0=.pointer (some ⟨g,0,none⟩))/\R F own y1 c1/\c1=.row (ρ.getD 1 0) (iG cs x).length 1 0 (iG cs x).length/\
   og F own w E0 O0/\og F own w E1 O1/\bn (V1 ρ (emb (Cg tB cs) x).h) (.me 0::.row 1::(jg cs [.list (.int .u8)] x).1) (c0::c1::rest):=by
 have ht:bn (VT ρ (emb (Cg tB cs) x).h) [.ptr 0 0 0] av:=hS.t
 obtain⟨a,av2,rfl,ha,ht2⟩:=ht.cZ
 obtain rfl:=ht2.gT
 obtain⟨o,ho,rfl⟩:∃o:XO,(emb (Cg tB cs) x).h[0]?=some o/\a=.ptr (ρ.getD 0 0) o.len 0 0:=ha
 obtain rfl:o=.box tB (.me 0::.row 1::(jg cs [.list (.int .u8)] x).1):=(aI ho).symm
 obtain⟨O0,hO0,b1,b2,b3,b4,e,hes,hc⟩:=hS.h.hr 0 _ rfl
 obtain⟨O1,hO1,r1,r2,r3,r4,r5⟩:=hS.h.hr 1 (.row 5 (.int .u8) false (iG cs x)) rfl
 obtain⟨E0,hE0,hR0⟩:=hI.xE hO0
 obtain⟨E1,hE1,hR1⟩:=hI.xE hO1
 have hsz:xs.size=1:=hxs.1
 have hx0:=hxs.2 0 xs[0] _ (aF (by omega)) rfl
 obtain⟨e',he',hG,hst,hx⟩:=hx0.nR
 rw[hE0]at he';cases he'
 have IZ:O0.es.length=1:=by rw[hes];rfl
 obtain⟨g,hg,ex⟩:=hx (by rw[hR0.1,IZ];rfl)
 obtain⟨cur,fr,hblk,hnf,hcsz,hcell⟩:=hR0.blk hg (.inl b4)
 have hcap:E0.cap=1:=by rw[hR0.2.2.2.2.1.2 b3 (by rw[b1];exact hi),IZ]
 have hcl:=hc.1
 obtain⟨c0,cr,b2N,hv0,hc2⟩:=hc.cZ
 obtain⟨c1,rest,rfl,hv1,hc3⟩:=hc2.cZ
 have hagg:e=.agg (c0::c1::rest):=by
  cases e with
  |agg l=>exact dn AV.agg b2N
  |_=>simp[AV.cells]at b2N
 subst hagg
 have hel:(jg cs [.list (.int .u8)] x).1.length=cs.length:=by
  exact a2L cs _ x
 have hsz0:O0.sz=2+cs.length:=by
  have b2':O0.sz=(XV.me 0::XV.row 1::(jg cs [.list (.int .u8)] x).1).length:=b2
  rw[b2',aL,aL,hel];omega
 obtain⟨y0,d1,_,d3⟩:=hcell 0 0 _ c0 (by rw[hes];rfl) rfl
 obtain⟨y1,f1,_,f3⟩:=hcell 0 1 _ c1 (by rw[hes];rfl) rfl
 simp only[jP,dD]at d1 f1
 have d3:=d3.r
 refine⟨O0,O1,E0,E1,g,c0,c1,rest,cur,fr,y0,y1,hO0,hO1,hE0,hE1,hg,?_,b1,hsz0,b3,b4,hes,hR0.2.1,by rw[<- b1];exact hblk,hnf,by rw[hcsz,hcap,hsz0];omega,d1,f1,?_,f3.r,?_,hR0,hR1,.cons hv0 (.cons hv1 hc3)⟩
 .apply Az
  .rw[hsz];rfl
  .intro i h1 h2
   have:i=0:=by omega
   subst this
   rw[ex];simp
 .rcases hv0 with rfl|⟨o,ho2,rfl⟩
  .exact .inl ⟨rfl,d3.dK⟩
  .obtain rfl:o=.box tB (.me 0::.row 1::(jg cs [.list (.int .u8)] x).1):=(aI ho2).symm
   obtain⟨e2,he2,_,_,hx2⟩:=d3.nR
   rw[hE0]at he2;cases he2
   obtain⟨g2,hg2,ey⟩:=hx2 (by rw[hR0.1,IZ];rfl)
   rw[hg]at hg2;cases hg2
   refine .inr ?_
   rw[ey];simp
 .obtain⟨ty,T,fz,es,he1,rfl⟩:=hv1
  have q:=aI (show some (XO.row 5 (.int .u8) false (iG cs x))=some (.row ty T fz es) from he1)
  cases q
  rfl
theorem Rz{GX:GXT}(tB:Nat)(cs:List SC)(hl:liesAt Tryz.prog Tryz.prog.depth tB ((2+cs.length)/Tryz.prog.cellsOf tB) 0 79 1=true)(hi:rz tB=false:=by rfl):HOk Tryz.prog (gx GX) (Vb tB cs):=by
 refine⟨by kernel_rfl,λx y hy H ρ av hS=>?_⟩
 obtain rfl:x=y:=aI hy
 intro F own B w0 t act w xs hI hxs
 obtain⟨O0,O1,E0,E1,g,c0,c1,rest,cur,fr,y0,y1,hO0,hO1,hE0,hE1,hg,rfl,b1,b2,b3,b4,hes,hsz,hblk,hnf,hcs,d0,d1,hy0,hR1,hc1,hr0,hr1,hall⟩:=found hi hS hI hxs
 have hcell0:w.cell? ⟨g,0,none⟩=some y0:=by rw[Lib.cell_of_heap hblk];exact d0
 rcases hy0 with⟨rfl,rfl⟩|rfl
 .refine(Vr g tB (2+cs.length) w hcell0 (by simp[World.shape?,hblk,hcs]) (by omega) ?_ hl).mono ?_
  .have:=hnf 0 (by omega)
   simp only[World.frozen?,hblk]
   simp
   intro q
   by_cases r:0<fr.2
   .exact absurd ⟨by omega,r⟩ this
   .omega
  .rintro e w' ⟨rfl,rfl⟩
   rw[setCell_eq_setRow w g 0 cur tB fr _ hblk]
   have hsz0:cur.size=E0.cap*O0.sz:=by
    have hcap:E0.cap=1:=by rw[hr0.2.2.2.2.1.2 b3 (by rw[b1];exact hi),hes];rfl
    rw[hcs,hcap,b2];omega
   have hI2:=hI.set (ob':={ O0 with es:=[.agg (.ptr (ρ.getD 0 0) 1 0 0 :: c1 :: rest)] }) hE0 hO0 hg (by rw [hr0.2.1]; exact hr0.2.2.1) (cur.setIfInBounds 0 (.pointer (some ⟨g,0,none⟩))) rfl rfl rfl rfl (by rw [hes]; rfl) (fun i z hz=>by
     have hz:([AV.agg (.ptr (ρ.getD 0 0) 1 0 0::c1::rest)]:List AV)[i]?=some z:=hz
     match i,hz with
     |0,hz =>
      cases hz
      have:=hr0.2.2.2.2.2.2.1 0 _ (by rw[hes];rfl)
      exact this)
    (by rw[Array.size_setIfInBounds];exact hsz0) (λj z hj hz=>by rw[b4]at hj;omega) (λi j z a hz hb=>by
     have hz:([AV.agg (.ptr (ρ.getD 0 0) 1 0 0::c1::rest)]:List AV)[i]?=some z:=hz
     match i,hz with
     |0,hz =>
      cases hz
      obtain⟨c06,fr2,q1,q2,q3,hcell⟩:=hr0.blk hg (.inl b4)
      rw[b1,hblk]at q1
      obtain⟨rfl,_⟩:cur=c06/\fr=fr2:=by cases q1;exact⟨rfl,rfl⟩
      cases j with
      |zero =>
       cases hb
       refine⟨.pointer (some ⟨g,0,none⟩),?_,rfl,?_⟩
       .rw[jP,jc,if_pos rfl,if_pos (by omega)]
       .unfold RC
        rw[b3,if_neg (by simp)]
        exact .ptr _ _ _ _ _ E0 hE0 (by rw[hr0.1,hes];exact aS _) ⟨_,rfl⟩ (λ_=>⟨g,hg,by simp⟩) (by rw[hr0.2.1];exact hr0.2.2.1)
      |succ j =>
       obtain⟨v,a1,a2,a3⟩:=hcell 0 (j+1) (.agg (.v (.pointer none)::c1::rest)) a (by rw[hes];rfl) hb
       refine⟨v,?_,a2,a3⟩
       rw[jc,if_neg (by omega)];exact a1)
   have he:(emb (Cg tB cs) x).h[0]?=some (.box tB (.me 0::.row 1::(jg cs [.list (.int .u8)] x).1)):=rfl
   have hlen:(XO.box tB (.me 0::.row 1::(jg cs [.list (.int .u8)] x).1)).len=1:=rfl
   have u:=Upd.set hS.h (o':=.box tB (.me 0::.row 1::(jg cs [.list (.int .u8)] x).1)) (O':={ O0 with es:=[.agg (.ptr (ρ.getD 0 0) 1 0 0::c1::rest)] }) he (tX.refl _) (by
    obtain⟨O0',b2T,p1,p2,p3,p4,_⟩:=hS.h.hr 0 _ he
    rw[hO0]at b2T;cases b2T
    exact⟨p1,p2,p3,p4,_,rfl,.cons (.inr ⟨_,he,rfl⟩) hall.tail⟩)
   refine⟨.tuple #[],.tup [],_,F,own,rfl,hI2,.pure (.tup #[] [] rfl (λj x a p _=>by simp at p)),ρ,[],⟨.nil,?_⟩,rfl,(Frm.refl H ρ).upd hS.h.rl u⟩
   exact u.hs
 .refine(Zg g w hcell0).mono ?_
  rintro e w' ⟨rfl,rfl⟩
  exact⟨.tuple #[],.tup [],H,F,own,rfl,hI,.pure (.tup #[] [] rfl (λj x a p _=>by simp at p)),ρ,[],⟨.nil,hS.h⟩,rfl,Frm.refl H ρ⟩
theorem a2y(w:World)(g n:Nat){cs:Array Value}{ty:TypeId}{fr:Nat×Nat}(h:w.heap[g]?=some (.cells cs ty fr)):∃fr',(w.freeze ⟨g,0,none⟩ n).heap[g]?=some (.cells cs ty fr'):=by
 unfold World.freeze
 by_cases hn:n=0
 .rw[if_pos hn];exact⟨fr,h⟩
 .rw[if_neg hn]
  obtain⟨lo,hi⟩:=fr
  refine⟨if lo==hi then(0,0+n) else(min lo 0,max hi (0+n)),?_⟩
  show(w.heap.modify g _)[g]?=_
  rw[Array.getElem?_modify,if_pos rfl,h];rfl
theorem YX(w:World)(g n k:Nat)(hk:k≠g):(w.freeze ⟨g,0,none⟩ n).heap[k]?=w.heap[k]?:=by
 unfold World.freeze
 by_cases hn:n=0
 .rw[if_pos hn]
 .rw[if_neg hn]
  show(w.heap.modify g _)[k]?=_
  rw[Array.getElem?_modify,if_neg (λq=>hk q.symm)]
theorem a2z(w:World)(g n:Nat):(w.freeze ⟨g,0,none⟩ n).os=w.os/\(w.freeze ⟨g,0,none⟩ n).tape=w.tape/\(w.freeze ⟨g,0,none⟩ n).output=w.output/\(w.freeze ⟨g,0,none⟩ n).heap.size=w.heap.size:=by
 unfold World.freeze
 by_cases hn:n=0
 .rw[if_pos hn];exact⟨rfl,rfl,rfl,rfl⟩
 .rw[if_neg hn];exact⟨rfl,rfl,rfl,Array.size_modify⟩
theorem Yf{GX:GXT}(tB:Nat)(cs:List SC)(hi:rz tB=false:=by rfl):HOk Tryz.prog (gx GX) (a2k tB cs):=by
 refine⟨by kernel_rfl,λx y hy H ρ av hS=>?_⟩
 obtain rfl:(bsI (iG cs x),x)=y:=aI hy
 intro F own B w0 t act w xs hI hxs
 obtain⟨O0,O1,E0,E1,g,c0,c1,rest,cur,fr,y0,y1,hO0,hO1,hE0,hE1,hg,rfl,b1,b2,b3,b4,hes,hsz,hblk,hnf,hcs,d0,d1,hy0,hR1,rfl,hr0,hr1,hall⟩:=found hi hS hI hxs
 have hcell1:w.cell? ⟨g,1,none⟩=some y1:=by rw[Lib.cell_of_heap hblk];exact d1
 obtain⟨e1,he1,hG,hst,hx⟩:=hR1.ny
 rw[hE1]at he1;cases he1
 have hrow:(emb (Cg tB cs) x).h[1]?=some (.row 5 (.int .u8) false (iG cs x)):=rfl
 obtain⟨O1',b2S,r1,r2,r3,r4,r5⟩:=hS.h.hr 1 _ hrow
 rw[hO1]at b2S;cases b2S
 have r6:bn Wp O1.es (List.map (λz:Int=>AV.v (.int .u8 z)) (iG cs x)):=r5
 have hlen1:O1.es.length=(iG cs x).length:=by have:=r6.1;rw[bA]at this;exact this
 obtain⟨x1,x2,x3⟩:=hx (by rw[hr1.1,hlen1])
 obtain⟨cp,q1,q2⟩:=x3 (.inr rfl)
 obtain⟨a0,cap0,s1,s2,_⟩:=hst
 have hcp:(iG cs x).length<=cp:=by rw[s1]at q2;cases q2;exact s2
 have c0z:(emb (TT tB cs) (bsI (iG cs x),x)).h=(emb (Cg tB cs) x).h.set 1 (.row 5 (.int .u8) true (iG cs x)):=rfl
 have fin:∀ (O':aH) (s:ByteArray),O'.ty=O1.ty->O'.sz=O1.sz->O'.pr=O1.pr->O'.es=O1.es->O'.fz=O1.es.length->s=bsI (iG cs x) ->
   ∃ρ' rs,Sim ρ' (emb (TT tB cs) (bsI (iG cs x),x)) ⟨rs,H.set (ρ.getD 1 0) O'⟩/\jX rs=.v (.string s)/\Frm H ρ ρ' (H.set (ρ.getD 1 0) O'):=by
  intro O' s p1 p2 p3 p4 p5 p6
  have u:=Upd.set hS.h (o':=.row 5 (.int .u8) true (iG cs x)) (O':=O') hrow ⟨rfl,rfl,rfl⟩ ⟨by rw[p1];exact r1,by rw[p2];exact r2,by rw[p3];exact r3,by rw[p5,hlen1];rfl,by rw[p4];exact r5⟩
  refine⟨ρ,[.v (.string s)],⟨.cons ?_ .nil,by rw[c0z];exact u.hs⟩,rfl,(Frm.refl H ρ).upd hS.h.rl u⟩
  show Wp (.v (.string s)) (Ty.enc .str (bsI (iG cs x)))
  rw[p6];exact .refl _
 have hset:H.set (ρ.getD 1 0) O1=H:=by
  apply gX
  intro k
  by_cases hk:ρ.getD 1 0=k
  .subst hk;rw[aK (aj.1 hO1).1];exact hO1.symm
  .rw[aC hk]
 have a2H:iG cs x=[]->∀(e:Ending) (w':World),(e=.returned (.string ⟨#[]⟩)/\Below w.heap.size w w')->∃v res h' F' own',e=.returned v/\Inv (gx GX) F' own' B w0 ⟨t,h'⟩ act w'/\R F' own' v res/\∃ρ' rs,Sim ρ' (emb (TT tB cs) (bsI (iG cs x),x)) ⟨rs,h'⟩/\jX rs=res/\Frm H ρ ρ' h':=by
  rintro hb e w' ⟨rfl,hbel⟩
  have h0:O1.es.length=0:=by rw[hlen1,hb];rfl
  obtain⟨ρ',rs,f1,f2,f3⟩:=fin O1 ⟨#[]⟩ rfl rfl rfl rfl (by rw[r4];simp[h0]) (by rw[hb];rfl)
  rw[hset]at f1 f3
  exact⟨_,.v (.string ⟨#[]⟩),H,F,own,rfl,hI.beyond hbel,.pure (.v _),ρ',rs,f1,f2,f3⟩
 by_cases hb:iG cs x=[]
 .have hl0:(iG cs x).length=0:=by rw[hb];rfl
  cases hg1:E1.g with
  |none =>
   rw[hg1,hl0]at q2
   exact(a5a g cp w (by rw[hcell1,q2];rfl)).mono (a2H hb)
  |some g1 =>
   rw[hg1,hl0]at q2
   have q2:y1=.slice (some ⟨g1,0,none⟩) 0 cp:=by rw[q2];simp
   by_cases hc0:cp=0
   .subst hc0
    obtain⟨Qs,fr1,k1,_⟩:=hr1.EB hg1
    exact(TM g g1 w (World.block_lt_of_cell? w _ hcell1) (O1.ty,Qs.size) (by simp[World.shape?,k1]) (by rw[hcell1,q2])).mono (a2H hb)
   .exact(a08 g g1 cp w hc0 (by rw[hcell1,q2])).mono (a2H hb)
 .have hpos:0<(iG cs x).length:=List.length_pos_iff.2 hb
  cases hg1:E1.g with
  |none =>
   have:=hr1.2.2.2.2.2.2.2
   rw[hg1]at this
   have:E1.cap=0:=this
   omega
  |some g1 =>
   rw[hg1]at q2
   have q2:y1=.slice (some ⟨g1,0,none⟩) (iG cs x).length cp:=by rw[q2];simp
   obtain⟨Qs,fr1,k1,_,k2,k3⟩:=hr1.EB hg1
   have hsz1:O1.sz=1:=r2
   have hcap:=hr1.2.2.2.2.1.1
   have hGc:=hr1.2.2.2.1
   rw[hr1.1,hlen1]at hGc
   have hmx:(iG cs x).length<=9223372036854775807:=by unfold maxLen at hcap;omega
   refine(a07 g g1 cp Qs.size (iG cs x) w hb (by rw[hcell1,q2]) hcp hmx (by simp[World.shape?,k1,r1]) (by rw[k2,hsz1];omega) ?_).mono ?_
   .intro j z hz
    have hj:j<(iG cs x).length:=(aj.1 hz).1
    have ha:=ah (show j<O1.es.length by omega)
    have hw:=r6.2 j O1.es[j] (.v (.int .u8 z)) ha (by rw[aT,hz];rfl)
    have hv:O1.es[j]=.v (.int .u8 z):=hw.dK
    rw[hv]at ha
    obtain⟨y,a1,_,a3⟩:=k3 j 0 _ (.v (.int .u8 z)) ha rfl
    have hy:y=.int .u8 z:=a3.r.dK
    rw[hsz1,Nat.mul_one,jQ,hy]at a1
    have ead:(Addr.add ⟨g1,0,none⟩ j:Addr)=⟨g1,j,none⟩:=by simp[Addr.add];intro h;exact h.symm
    rw[ead,Lib.cell_of_heap k1];exact a1
   .rintro e w' ⟨rfl,rfl⟩
    obtain⟨F',hF,hI2,_⟩:=hI.RO hO1
    have hI3:=hI2.same (w':=w.drew) rfl rfl rfl rfl
    obtain⟨z1,z2,z3,z4⟩:=a2z w.drew g1 (iG cs x).length
    have hI4:=hI3.shut (w':=w.drew.freeze ⟨g1,0,none⟩ (iG cs x).length) hE1 (by
     show(H.set (ρ.getD 1 0) _)[ρ.getD 1 0]?=_
     rw[aK (aj.1 hO1).1]) hg1 rfl (by show 0<O1.es.length;omega) z1 z2 z3 (λk hk=>YX _ _ _ _ hk) (by
     have k1:w.drew.heap[g1]?=some (.cells Qs O1.ty fr1):=k1
     obtain⟨fr',hf⟩:=a2y w.drew g1 (iG cs x).length k1
     exact⟨Qs,O1.ty,fr1,fr',k1,hf,z4.symm⟩)
    obtain⟨ρ',rs,f1,f2,f3⟩:=fin { O1 with fz:=O1.es.length } ⟨((iG cs x).map λn=>UInt8.ofNat n.toNat).toArray⟩ rfl rfl rfl rfl rfl rfl
    exact⟨_,_,_,F',own,rfl,hI4,.pure (.v _),ρ',rs,f1,f2,f3⟩
end
end
end Abs
end Go.Proofs.YtnhgeocdffhkjaaGreatDoor
