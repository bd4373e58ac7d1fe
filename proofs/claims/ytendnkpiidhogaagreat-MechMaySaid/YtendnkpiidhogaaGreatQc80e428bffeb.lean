/- The reference's table of mechanisms. -/
import Derived.Test.YtendnkpiidhogaaGreatQ471530afd422
import Derived.Deep.DeepCutAuto
import Derived.Lib.Hide
import Derived.WalkMore
import Derived.BigQuiet
import Derived.Deep.QuietTactic
import Derived.Laws.Bits128
set_option maxRecDepth 100000
set_option maxHeartbeats 16000000
namespace Go.Proofs.YtendnkpiidhogaaGreat
open Go.RowKit Mc
theorem kind_cases (kind:Int):kind=0∨kind=1∨kind=9∨kind=13∨kind=64∨kind=67∨kind=544∨kind=592∨kind=593∨kind=608∨kind=624∨kind=848∨kind=4160∨kind=4161∨kind=4164∨kind=4176∨kind=4224∨kind=4225∨kind=4226∨kind=4229∨kind=4230∨kind=4231∨kind=4234∨kind=8457∨((kind==0)=false∧(kind==1)=false∧(kind==9)=false∧(kind==13)=false∧(kind==64)=false∧(kind==67)=false∧(kind==544)=false∧(kind==592)=false∧(kind==593)=false∧(kind==608)=false∧(kind==624)=false∧(kind==848)=false∧(kind==4160)=false∧(kind==4161)=false∧(kind==4164)=false∧(kind==4176)=false∧(kind==4224)=false∧(kind==4225)=false∧(kind==4226)=false∧(kind==4229)=false∧(kind==4230)=false∧(kind==4231)=false∧(kind==4234)=false∧(kind==8457)=false∧mechOf kind=⟨0,0,-1,false,none⟩):=by
 by_cases h0:kind=0
 · exact .inl h0
 by_cases h1:kind=1
 · exact .inr (.inl h1)
 by_cases h9:kind=9
 · exact .inr (.inr (.inl h9))
 by_cases h13:kind=13
 · exact .inr (.inr (.inr (.inl h13)))
 by_cases h64:kind=64
 · exact .inr (.inr (.inr (.inr (.inl h64))))
 by_cases h67:kind=67
 · exact .inr (.inr (.inr (.inr (.inr (.inl h67)))))
 by_cases h544:kind=544
 · exact .inr (.inr (.inr (.inr (.inr (.inr (.inl h544))))))
 by_cases h592:kind=592
 · exact .inr (.inr (.inr (.inr (.inr (.inr (.inr (.inl h592)))))))
 by_cases h593:kind=593
 · exact .inr (.inr (.inr (.inr (.inr (.inr (.inr (.inr (.inl h593))))))))
 by_cases h608:kind=608
 · exact .inr (.inr (.inr (.inr (.inr (.inr (.inr (.inr (.inr (.inl h608)))))))))
 by_cases h624:kind=624
 · exact .inr (.inr (.inr (.inr (.inr (.inr (.inr (.inr (.inr (.inr (.inl h624))))))))))
 by_cases h848:kind=848
 · exact .inr (.inr (.inr (.inr (.inr (.inr (.inr (.inr (.inr (.inr (.inr (.inl h848)))))))))))
 by_cases h4160:kind=4160
 · exact .inr (.inr (.inr (.inr (.inr (.inr (.inr (.inr (.inr (.inr (.inr (.inr (.inl h4160))))))))))))
 by_cases h4161:kind=4161
 · exact .inr (.inr (.inr (.inr (.inr (.inr (.inr (.inr (.inr (.inr (.inr (.inr (.inr (.inl h4161)))))))))))))
 by_cases h4164:kind=4164
 · exact .inr (.inr (.inr (.inr (.inr (.inr (.inr (.inr (.inr (.inr (.inr (.inr (.inr (.inr (.inl h4164))))))))))))))
 by_cases h4176:kind=4176
 · exact .inr (.inr (.inr (.inr (.inr (.inr (.inr (.inr (.inr (.inr (.inr (.inr (.inr (.inr (.inr (.inl h4176)))))))))))))))
 by_cases h4224:kind=4224
 · exact .inr (.inr (.inr (.inr (.inr (.inr (.inr (.inr (.inr (.inr (.inr (.inr (.inr (.inr (.inr (.inr (.inl h4224))))))))))))))))
 by_cases h4225:kind=4225
 · exact .inr (.inr (.inr (.inr (.inr (.inr (.inr (.inr (.inr (.inr (.inr (.inr (.inr (.inr (.inr (.inr (.inr (.inl h4225)))))))))))))))))
 by_cases h4226:kind=4226
 · exact .inr (.inr (.inr (.inr (.inr (.inr (.inr (.inr (.inr (.inr (.inr (.inr (.inr (.inr (.inr (.inr (.inr (.inr (.inl h4226))))))))))))))))))
 by_cases h4229:kind=4229
 · exact .inr (.inr (.inr (.inr (.inr (.inr (.inr (.inr (.inr (.inr (.inr (.inr (.inr (.inr (.inr (.inr (.inr (.inr (.inr (.inl h4229)))))))))))))))))))
 by_cases h4230:kind=4230
 · exact .inr (.inr (.inr (.inr (.inr (.inr (.inr (.inr (.inr (.inr (.inr (.inr (.inr (.inr (.inr (.inr (.inr (.inr (.inr (.inr (.inl h4230))))))))))))))))))))
 by_cases h4231:kind=4231
 · exact .inr (.inr (.inr (.inr (.inr (.inr (.inr (.inr (.inr (.inr (.inr (.inr (.inr (.inr (.inr (.inr (.inr (.inr (.inr (.inr (.inr (.inl h4231)))))))))))))))))))))
 by_cases h4234:kind=4234
 · exact .inr (.inr (.inr (.inr (.inr (.inr (.inr (.inr (.inr (.inr (.inr (.inr (.inr (.inr (.inr (.inr (.inr (.inr (.inr (.inr (.inr (.inr (.inl h4234))))))))))))))))))))))
 by_cases h8457:kind=8457
 · exact .inr (.inr (.inr (.inr (.inr (.inr (.inr (.inr (.inr (.inr (.inr (.inr (.inr (.inr (.inr (.inr (.inr (.inr (.inr (.inr (.inr (.inr (.inr (.inl h8457)))))))))))))))))))))))
 refine .inr (.inr (.inr (.inr (.inr (.inr (.inr (.inr (.inr (.inr (.inr (.inr (.inr (.inr (.inr (.inr (.inr (.inr (.inr (.inr (.inr (.inr (.inr (.inr (⟨by simpa using h0,by simpa using h1,by simpa using h9,by simpa using h13,by simpa using h64,by simpa using h67,by simpa using h544,by simpa using h592,by simpa using h593,by simpa using h608,by simpa using h624,by simpa using h848,by simpa using h4160,by simpa using h4161,by simpa using h4164,by simpa using h4176,by simpa using h4224,by simpa using h4225,by simpa using h4226,by simpa using h4229,by simpa using h4230,by simpa using h4231,by simpa using h4234,by simpa using h8457,?_⟩))))))))))))))))))))))))
 refine mechOf_none fun i hi=>?_
 have hall:∀ r∈mtab,r.kind≠kind:=by
  intro r hr e
  have:r.kind∈mtab.map (·.kind):=List.mem_map_of_mem hr
  rw [e] at this
  simp [mtab] at this
  omega
 exact hall _ (List.mem_of_getElem? (mrow_at hi))
def modeP (kind:Int):Int:=if kind=4225 then 1 else if kind=4226 then 2 else if kind=4229 then 3 else if kind=4230 then 4 else if kind=4231 then 5 else 0
theorem refUses_any (kind:Int) (w:World):Calls Tryz.prog 67 #[.int .i64 kind] w fun e w'=>e=.returned (.int .i64 (mechOf kind).uses)∧w=w':=by
 rcases kind_cases kind with rfl | rfl | rfl | rfl | rfl | rfl | rfl | rfl | rfl | rfl | rfl | rfl | rfl | rfl | rfl | rfl | rfl | rfl | rfl | rfl | rfl | rfl | rfl | rfl | ⟨e0,e1,e9,e13,e64,e67,e544,e592,e593,e608,e624,e848,e4160,e4161,e4164,e4176,e4224,e4225,e4226,e4229,e4230,e4231,e4234,e8457,hm⟩
 any_goals
  go_enter Tryz.func67,Tryz.ntmps67
  go_wp2
  go_ret
  exact ⟨rfl,rfl⟩
 rw [hm]
 clear hm
 go_enter Tryz.func67,Tryz.ntmps67
 go_wp2
 go_ret
 exact ⟨rfl,rfl⟩
theorem refKey_any (kind:Int) (w:World):Calls Tryz.prog 68 #[.int .i64 kind] w fun e w'=>e=.returned (.tuple #[.int .i64 (keyP kind).1,.bool (keyP kind).2])∧w=w':=by
 rcases kind_cases kind with rfl | rfl | rfl | rfl | rfl | rfl | rfl | rfl | rfl | rfl | rfl | rfl | rfl | rfl | rfl | rfl | rfl | rfl | rfl | rfl | rfl | rfl | rfl | rfl | ⟨e0,e1,e9,e13,e64,e67,e544,e592,e593,e608,e624,e848,e4160,e4161,e4164,e4176,e4224,e4225,e4226,e4229,e4230,e4231,e4234,e8457,hm⟩
 any_goals
  go_enter Tryz.func68,Tryz.ntmps68
  go_wp2
  go_ret2
  exact ⟨rfl,rfl⟩
 rw [keyP,hm]
 clear hm
 go_enter Tryz.func68,Tryz.ntmps68
 go_wp2
 go_ret2
 exact ⟨rfl,rfl⟩
theorem mode_any (kind:Int) (w:World):Calls Tryz.prog 110 #[.int .i64 kind] w fun e w'=>e=.returned (.int .i64 (modeP kind))∧w=w':=by
 rcases kind_cases kind with rfl | rfl | rfl | rfl | rfl | rfl | rfl | rfl | rfl | rfl | rfl | rfl | rfl | rfl | rfl | rfl | rfl | rfl | rfl | rfl | rfl | rfl | rfl | rfl | ⟨e0,e1,e9,e13,e64,e67,e544,e592,e593,e608,e624,e848,e4160,e4161,e4164,e4176,e4224,e4225,e4226,e4229,e4230,e4231,e4234,e8457,hm⟩
 any_goals
  go_enter Tryz.func110,Tryz.ntmps110
  go_wp2
  go_ret
  exact ⟨rfl,rfl⟩
 rw [modeP,if_neg (by simpa using e4225),if_neg (by simpa using e4226),if_neg (by simpa using e4229),if_neg (by simpa using e4230),if_neg (by simpa using e4231)]
 clear hm
 go_enter Tryz.func110,Tryz.ntmps110
 go_wp2
 go_ret
 exact ⟨rfl,rfl⟩
end Go.Proofs.YtendnkpiidhogaaGreat

namespace Go.Proofs.YtendnkpiidhogaaGreat
open Go.RowKit Mc
def p6 (m:Int) (bs:List Nat):Bool:=if m=1 then decide (bs.length=0) else if m=2∨m=3 then decide (bs.length=16) else if m=4 then counterB bs else gcmB bs
theorem refParam6_any (m:Int) (hm:m=1∨m=2∨m=3∨m=4∨m=5) (P:Nat→Prop) (A:Option Addr) (c:Nat) (bs:List Nat) (w:World) (h:RB w P A c bs):Calls Tryz.prog 111 #[.int .i64 m,.slice A bs.length c] w fun e w'=>e=.returned (.bool (p6 m bs))∧Ext w w':=by
 obtain ⟨l1,l2,l3⟩:=h.cap
 obtain ⟨r,hr⟩:∃ r,p6 m bs=r:=⟨_,rfl⟩
 rw [hr]
 have short:∀ k:Nat,(k=0∨k=16)→r=decide (bs.length=k)→(((bs.length:Nat):Int)==(k:Int))=r:=fun k _ e=>by rw [e];by_cases h:bs.length=k <;> simp [h] <;> omega
 rcases hm with rfl | rfl | rfl | rfl | rfl
 · have e1:=short 0 (.inl rfl) hr.symm
   obtain ⟨n,hn⟩:∃ n,bs.length=n:=⟨_,rfl⟩
   rw [hn] at l1 l3 e1 ⊢
   clear short hr hn h
   have e2:((n:Int)==0)=r:=e1
   clear e1
   go_enter Tryz.func111,Tryz.ntmps111
   go_wp2
   go_ret
   exact ⟨rfl,Ext.refl _⟩
 · have e1:=short 16 (.inr rfl) hr.symm
   obtain ⟨n,hn⟩:∃ n,bs.length=n:=⟨_,rfl⟩
   rw [hn] at l1 l3 e1 ⊢
   clear short hr hn h
   have e2:((n:Int)==16)=r:=e1
   clear e1
   go_enter Tryz.func111,Tryz.ntmps111
   go_wp2
   go_ret
   exact ⟨rfl,Ext.refl _⟩
 · have e1:=short 16 (.inr rfl) hr.symm
   obtain ⟨n,hn⟩:∃ n,bs.length=n:=⟨_,rfl⟩
   rw [hn] at l1 l3 e1 ⊢
   clear short hr hn h
   have e2:((n:Int)==16)=r:=e1
   clear e1
   go_enter Tryz.func111,Tryz.ntmps111
   go_wp2
   go_ret
   exact ⟨rfl,Ext.refl _⟩
 · clear short
   have hr:counterB bs=r:=hr
   by_cases h17:bs.length=17
   · obtain ⟨ad,rfl,hc,hx⟩:=h.dg (i:=0) (by omega)
     rw [show ad.add 0=ad by simp [Addr.add]] at hc
     obtain ⟨x,hxe⟩:∃ x,dg bs 0=x:=⟨_,rfl⟩
     rw [hxe] at hc hx
     have hr':r=(decide (1≤x) && decide (x≤128)):=by rw [←hr,counterB,h17,hxe];rfl
     have Hr:=Lib.hid hr'
     rw [h17]
     clear hr hr' hxe h17 h l1 l3
     by_cases a:1≤x
     · have a1:decide ((1:Int)≤x)=true:=decide_eq_true (by omega)
       by_cases b:x≤128
       · have b1:decide ((x:Int)≤128)=true:=decide_eq_true (by omega)
         obtain rfl:r=true:=by rw [Hr.out,decide_eq_true a,decide_eq_true b];rfl
         go_enter Tryz.func111,Tryz.ntmps111
         go_wp2
         go_ret
         exact ⟨rfl,Ext.refl _⟩
       · have b1:decide ((x:Int)≤128)=false:=decide_eq_false (by omega)
         obtain rfl:r=false:=by rw [Hr.out,decide_eq_true a,decide_eq_false b];rfl
         go_enter Tryz.func111,Tryz.ntmps111
         go_wp2
         go_ret
         exact ⟨rfl,Ext.refl _⟩
     · have a1:decide ((1:Int)≤x)=false:=decide_eq_false (by omega)
       obtain rfl:r=false:=by rw [Hr.out,decide_eq_false a];rfl
       go_enter Tryz.func111,Tryz.ntmps111
       go_wp2
       go_ret
       exact ⟨rfl,Ext.refl _⟩
   · obtain rfl:r=false:=by rw [←hr,counterB,decide_eq_false h17];rfl
     obtain ⟨n,hn⟩:∃ n,bs.length=n:=⟨_,rfl⟩
     rw [hn] at l1 l3 h17 ⊢
     have e1:((n:Int)==17)=false:=by simp;omega
     clear hr hn
     go_enter Tryz.func111,Tryz.ntmps111
     go_wp2
     go_ret
     exact ⟨rfl,Ext.refl _⟩
 · clear short
   have hr:gcmB bs=r:=hr
   obtain ⟨n,hn⟩:∃ n,bs.length=n:=⟨_,rfl⟩
   by_cases h0:2≤n
   · obtain ⟨ad,rfl,hc,hx⟩:=h.dg (i:=0) (by omega)
     rw [show ad.add 0=ad by simp [Addr.add]] at hc
     obtain ⟨x,hxe⟩:∃ x,dg bs 0=x:=⟨_,rfl⟩
     rw [hxe] at hc hx
     have hr':r=(decide (0<x) && decide (1+x≤n)):=by rw [←hr,gcmB,hn,hxe,decide_eq_true (show 0<n by omega)];rfl
     have Hr:=Lib.hid hr'
     rw [hn] at l1 l3 ⊢
     clear hr hr' hxe hn h
     have w1:IntKind.i64.wrap ((n:Int) - 1)=n - 1:=IntWalk.i64_in _ (by omega)
     have n2:decide ((2:Int)≤n)=true:=decide_eq_true (by omega)
     by_cases a:0<x
     · have a1:decide ((1:Int)≤x)=true:=decide_eq_true (by omega)
       by_cases b:1+x≤n
       · have b1:decide ((x:Int)≤(n:Int) - 1)=true:=decide_eq_true (by omega)
         obtain rfl:r=true:=by rw [Hr.out,decide_eq_true a,decide_eq_true b];rfl
         go_enter Tryz.func111,Tryz.ntmps111
         go_wp2
         go_ret
         exact ⟨rfl,Ext.refl _⟩
       · have b1:decide ((x:Int)≤(n:Int) - 1)=false:=decide_eq_false (by omega)
         obtain rfl:r=false:=by rw [Hr.out,decide_eq_true a,decide_eq_false b];rfl
         go_enter Tryz.func111,Tryz.ntmps111
         go_wp2
         go_ret
         exact ⟨rfl,Ext.refl _⟩
     · obtain rfl:x=0:=by omega
       obtain rfl:r=false:=by rw [Hr.out];rfl
       go_enter Tryz.func111,Tryz.ntmps111
       go_wp2
       go_ret
       exact ⟨rfl,Ext.refl _⟩
   · obtain rfl:r=false:=by
      rw [←hr,gcmB,hn]
      by_cases a:0<dg bs 0
      · rw [decide_eq_false (show ¬ (1+dg bs 0≤n) by omega),Bool.and_false,Bool.and_false]
      · rw [decide_eq_false a,Bool.false_and,Bool.and_false]
     rw [hn]
     have n2:decide ((2:Int)≤n)=false:=decide_eq_false (by omega)
     clear hr hn
     go_enter Tryz.func111,Tryz.ntmps111
     go_wp2
     go_ret
     exact ⟨rfl,Ext.refl _⟩
def pointC (bs:List Nat):Int:=if somewhere c256 bs=true then 1 else if somewhere c384 bs=true then 2 else 0
theorem end_tp {fn:Func} {R:Ending→World→Prop} {a:Act} {W:World} {p u:Tmp} {g:Nat} {ty:TypeId} {fr:Nat×Nat} {x0 x1 x2 v:Value} (hr:fn.results=#[.tmp u,.cell p 92]) (hp:a.tmps.getD p undef=.pointer (some ⟨g,0,none⟩)) (hu:a.tmps.getD u undef=v) (hd:a.defers=[])
 (hg:W.heap[g]?=some (.cells #[x0,x1,x2] ty fr)) (hR:R (.returned (.tuple #[v,.agg #[x0,x1,x2]])) W):bodyPost Tryz.prog fn R .ret a W:=by
 refine bodyPost_ret (v:=.tuple #[v,.agg #[x0,x1,x2]]) ?_ hd hR
 have hp':a.tmps[p]?.getD undef=.pointer (some ⟨g,0,none⟩):=by simpa using hp
 have hu':a.tmps[u]?.getD undef=v:=by simpa using hu
 simp [results,hr,hp',hu',asAddr,run_loadVar_row W g ty 92 #[x0,x1,x2] fr _ hg Tryz.underlying92 rfl infoRP,Result.andThen]
theorem refDec_no {C:Crv} (hF:C.Fine) (P:Nat→Prop) (A:Option Addr) (c:Nat) (bs:List Nat) (w:World) (h:RB w P A c bs) (hP:∀ b,P b→b<w.heap.size) (hs:somewhere C bs=false) :
 ∃ b,∀ X v,Ext w X→RC X C v→Calls Tryz.prog 113 #[v,.slice A bs.length c] X fun e w'=>e=.returned (.tuple #[infV,.bool b])∧Ext X w':=by
 refine ⟨(decC C bs).isSome,fun X v hX hc=>(refDecode_any hF P A c bs X hc (h.below hX hP) (fun b hb=>Nat.lt_of_lt_of_le (hP b hb) hX.bsize)).mono ?_⟩
 rintro e w' ⟨u,rfl,hu,hE⟩
 rw [somewhere] at hs
 match hd:decC C bs,hs,hu with
 | none,_,hu=>rw [show u=infV from hu];exact ⟨rfl,hE⟩
 | some none,_,hu=>rw [show u=infV from hu];exact ⟨rfl,hE⟩
theorem refDec_yes {C:Crv} (hF:C.Fine) (P:Nat→Prop) (A:Option Addr) (c:Nat) (bs:List Nat) (w:World) (h:RB w P A c bs) (hP:∀ b,P b→b<w.heap.size) (hs:somewhere C bs=true) :
 ∀ X v,Ext w X→RC X C v→Calls Tryz.prog 113 #[v,.slice A bs.length c] X fun e w'=>(∃ A1 n1 c1 A2 n2 c2,e=.returned (.tuple #[.agg #[.bool false,.slice A1 n1 c1,.slice A2 n2 c2],.bool true]))∧Ext X w':=by
 intro X v hX hc
 refine (refDecode_any hF P A c bs X hc (h.below hX hP) (fun b hb=>Nat.lt_of_lt_of_le (hP b hb) hX.bsize)).mono ?_
 rintro e w' ⟨u,rfl,hu,hE⟩
 rw [somewhere] at hs
 match hd:decC C bs,hs,hu with
 | some (some p),_,hu =>
  obtain ⟨A1,c1,A2,c2,rfl,_,_⟩:=hu
  exact ⟨⟨_,_,_,_,_,_,rfl⟩,hE⟩
theorem refPoint_any (P:Nat→Prop) (A:Option Addr) (c:Nat) (bs:List Nat) (w:World) (h:RB w P A c bs) (hP:∀ b,P b→b<w.heap.size):Calls Tryz.prog 70 #[.slice A bs.length c] w fun e w'=>(∃ b A1 n1 c1 A2 n2 c2,e=.returned (.tuple #[.int .i64 (pointC bs),.agg #[.bool b,.slice A1 n1 c1,.slice A2 n2 c2]]))∧Ext w w':=by
 have o1:=Lib.hid (fun X=>refOf_c (c:=1) (C:=c256) (.inl ⟨rfl,rfl⟩) X)
 have o2:=Lib.hid (fun X=>refOf_c (c:=2) (C:=c384) (.inr ⟨rfl,rfl⟩) X)
 have F1:c256.Fine:=(show IsC 1 c256 from .inl ⟨rfl,rfl⟩).fine
 have F2:c384.Fine:=(show IsC 2 c384 from .inr ⟨rfl,rfl⟩).fine
 obtain ⟨r,hr⟩:∃ r,pointC bs=r:=⟨_,rfl⟩
 rw [hr]
 rw [pointC] at hr
 by_cases s1:somewhere c256 bs=true
 · obtain rfl:r=1:=by rw [←hr,if_pos s1]
   have d1:=Lib.hid (refDec_yes F1 P A c bs w h hP s1)
   obtain ⟨n,hn⟩:∃ n,bs.length=n:=⟨_,rfl⟩
   rw [hn] at d1 ⊢
   clear hr s1 hn h
   go_enter Tryz.func70,Tryz.ntmps70
   go_wp2
   refine wp_loop_rounds 1 ?_
   rw [rounds_succ]
   have hE0:=Ext.alloc w (.cells #[.bool false,.slice none 0 0,.slice none 0 0] 92)
   have hb0:=heap_alloc_new w (.cells #[.bool false,.slice none 0 0,.slice none 0 0] 92)
   go_wp2_with (first
    | (go_at_call 112;refine (o1.out _).mono ?_;rintro e w1 ⟨v1,rfl,hc1,hE1⟩)
    | (go_at_call 113;refine (d1.out _ v1 (hE0.trans hE1) hc1).mono ?_;rintro e x1 ⟨⟨A1,n1,c1,A2,n2,c2,rfl⟩,hD1⟩;have hq1:=(hE0.trans hE1).trans hD1;have hb1:=(hE1.trans hD1).at_ hb0))
   have hp1:=heap_alloc_new x1 (.cells #[.bool false,.slice A1 n1 c1,.slice A2 n2 c2] 92)
   refine Par.region_ext (by kernel_rfl) 3 [0,0,1,7] [] (fun j f X=>match j with
    | 0=>f 0=.int .i64 1
    | 1=>f 1=.agg #[.bool false,.slice A1 n1 c1,.slice A2 n2 c2]
    | 2=>f 2=.int .i64 1
    | _=>True) (by kernel_rfl) [(24,0),(25,1),(2,2)] (by kernel_rfl) ?_
   refine Par.S 1 2 [(25,1)] (fun f X hX hR K hK=>?_) ?_
   · simp only [yA,yB,yC,yD,yE]
     refine ⟨?_⟩
     go_simp
     exact Par.k hK (s:=by simp only [yA,yB,yC,yD,yE])
   refine Par.S 2 1 [(24,0),(2,2)] (fun f X hX hR K hK=>?_) ?_
   · simp only [yA,yB,yC,yD,yE]
     refine ⟨Par.want (by kernel_rfl) (wp_loadV 92 (.tmp 5) rfl rfl (hX.at_ hp1) Tryz.underlying92 rfl infoRP rfl ?_)⟩
     exact Par.k hK (s:=by simp only [yA,yB,yC,yD,yE])
   refine Par.S 3 0 [(24,0),(25,1)] (fun f X hX hR K hK=>?_) ?_
   · have e0:f 0=_:=hR.out 0 rfl
     simp only [yA,yB,yC,yD,yE,e0]
     refine ⟨?_⟩
     go_simp
     exact Par.k hK (s:=by simp only [yA,yB,yC,yD,yE,e0])
   refine Par.AllOps.fin ⟨fun f X hX hR hal hap=>?_⟩
   have e0:f 0=_:=hR 0 (by decide)
   have e1:f 1=_:=hR 1 (by decide)
   have e2:f 2=_:=hR 2 (by decide)
   simp only [yA,yB,yD,yE,e0,e1,e2]
   clear hR hal hap e0 e1 e2
   refine Par.Chain.next (fun K hK=>⟨Par.want (by kernel_rfl) (wp_storeV 92 (.tmp 3) (.tmp 25) rfl rfl rfl rfl (hX.at_ ((Ext.alloc _ _).at_ hb1)) infoRP rfl (pt_one _ _ _ _ _ _ _) (fun Y1 g1 g2 g3=>hK.out _ _ ?_))⟩)
   refine Par.Chain.done ?_
   go_wp2
   exact end_tp rfl rfl rfl rfl g1 ⟨⟨_,_,_,_,_,_,_,rfl⟩,g2.ext ((hq1.trans (Ext.alloc _ _)).trans hX) (Nat.le_refl _)⟩
 · have s1':somewhere c256 bs=false:=by simpa using s1
   obtain ⟨b1,d1⟩:=refDec_no F1 P A c bs w h hP s1'
   by_cases s2:somewhere c384 bs=true
   · obtain rfl:r=2:=by rw [←hr,if_neg s1,if_pos s2]
     have d2:=Lib.hid (refDec_yes F2 P A c bs w h hP s2)
     have D1:=Lib.hid d1
     obtain ⟨n,hn⟩:∃ n,bs.length=n:=⟨_,rfl⟩
     rw [hn] at d2 D1 ⊢
     clear hr s1 s1' s2 hn h d1
     cases b1
     all_goals
      go_enter Tryz.func70,Tryz.ntmps70
      go_wp2
      refine wp_loop_rounds 2 ?_
      rw [rounds_succ]
      have hE0:=Ext.alloc w (.cells #[.bool false,.slice none 0 0,.slice none 0 0] 92)
      have hb0:=heap_alloc_new w (.cells #[.bool false,.slice none 0 0,.slice none 0 0] 92)
      go_wp2_with (first
       | (go_at_call 112;refine (o1.out _).mono ?_;rintro e w1 ⟨v1,rfl,hc1,hE1⟩)
       | (go_at_call 113;refine (D1.out _ v1 (hE0.trans hE1) hc1).mono ?_;rintro e x1 ⟨rfl,hD1⟩;have hq1:=(hE0.trans hE1).trans hD1;have hb1:=(hE1.trans hD1).at_ hb0))
      rw [rounds_succ]
      go_wp2_with (first
       | (go_at_call 112;refine (o2.out _).mono ?_;rintro e w2 ⟨v2,rfl,hc2,hE2⟩)
       | (go_at_call 113;refine (d2.out _ v2 ((hq1.trans (Ext.alloc _ _)).trans hE2) hc2).mono ?_;rintro e x2 ⟨⟨A1,n1,c1,A2,n2,c2,rfl⟩,hD2⟩;have hq2:=((hq1.trans (Ext.alloc _ _)).trans hE2).trans hD2;have hb2:=(hE2.trans hD2).at_ ((Ext.alloc _ _).at_ hb1)))
      have hp2:=heap_alloc_new x2 (.cells #[.bool false,.slice A1 n1 c1,.slice A2 n2 c2] 92)
      refine Par.region_ext (by kernel_rfl) 3 [0,0,1,7] [] (fun j f X=>match j with
       | 0=>f 0=.int .i64 2
       | 1=>f 1=.agg #[.bool false,.slice A1 n1 c1,.slice A2 n2 c2]
       | 2=>f 2=.int .i64 2
       | _=>True) (by kernel_rfl) [(24,0),(25,1),(2,2)] (by kernel_rfl) ?_
      refine Par.S 1 2 [(25,1)] (fun f X hX hR K hK=>?_) ?_
      · simp only [yA,yB,yC,yD,yE]
        refine ⟨?_⟩
        go_simp
        exact Par.k hK (s:=by simp only [yA,yB,yC,yD,yE])
      refine Par.S 2 1 [(24,0),(2,2)] (fun f X hX hR K hK=>?_) ?_
      · simp only [yA,yB,yC,yD,yE]
        refine ⟨Par.want (by kernel_rfl) (wp_loadV 92 (.tmp 5) rfl rfl (hX.at_ hp2) Tryz.underlying92 rfl infoRP rfl ?_)⟩
        exact Par.k hK (s:=by simp only [yA,yB,yC,yD,yE])
      refine Par.S 3 0 [(24,0),(25,1)] (fun f X hX hR K hK=>?_) ?_
      · have e0:f 0=_:=hR.out 0 rfl
        simp only [yA,yB,yC,yD,yE,e0]
        refine ⟨?_⟩
        go_simp
        exact Par.k hK (s:=by simp only [yA,yB,yC,yD,yE,e0])
      refine Par.AllOps.fin ⟨fun f X hX hR hal hap=>?_⟩
      have e0:f 0=_:=hR 0 (by decide)
      have e1:f 1=_:=hR 1 (by decide)
      have e2:f 2=_:=hR 2 (by decide)
      simp only [yA,yB,yD,yE,e0,e1,e2]
      clear hR hal hap e0 e1 e2
      refine Par.Chain.next (fun K hK=>⟨Par.want (by kernel_rfl) (wp_storeV 92 (.tmp 3) (.tmp 25) rfl rfl rfl rfl (hX.at_ ((Ext.alloc _ _).at_ hb2)) infoRP rfl (pt_one _ _ _ _ _ _ _) (fun Y1 g1 g2 g3=>hK.out _ _ ?_))⟩)
      refine Par.Chain.done ?_
      go_wp2
      exact end_tp rfl rfl rfl rfl g1 ⟨⟨_,_,_,_,_,_,_,rfl⟩,g2.ext ((hq2.trans (Ext.alloc _ _)).trans hX) (Nat.le_refl _)⟩
   · have s2':somewhere c384 bs=false:=by simpa using s2
     obtain rfl:r=0:=by rw [←hr,if_neg s1,if_neg s2]
     obtain ⟨b2,d2⟩:=refDec_no F2 P A c bs w h hP s2'
     have D1:=Lib.hid d1
     have D2:=Lib.hid d2
     obtain ⟨n,hn⟩:∃ n,bs.length=n:=⟨_,rfl⟩
     rw [hn] at D2 D1 ⊢
     clear hr s1 s1' s2 s2' hn h d1 d2
     cases b1 <;> cases b2
     all_goals
      go_enter Tryz.func70,Tryz.ntmps70
      go_wp2
      refine wp_loop_rounds 3 ?_
      rw [rounds_succ]
      have hE0:=Ext.alloc w (.cells #[.bool false,.slice none 0 0,.slice none 0 0] 92)
      have hb0:=heap_alloc_new w (.cells #[.bool false,.slice none 0 0,.slice none 0 0] 92)
      go_wp2_with (first
       | (go_at_call 112;refine (o1.out _).mono ?_;rintro e w1 ⟨v1,rfl,hc1,hE1⟩)
       | (go_at_call 113;refine (D1.out _ v1 (hE0.trans hE1) hc1).mono ?_;rintro e x1 ⟨rfl,hD1⟩;have hq1:=(hE0.trans hE1).trans hD1;have hb1:=(hE1.trans hD1).at_ hb0))
      rw [rounds_succ]
      go_wp2_with (first
       | (go_at_call 112;refine (o2.out _).mono ?_;rintro e w2 ⟨v2,rfl,hc2,hE2⟩)
       | (go_at_call 113;refine (D2.out _ v2 ((hq1.trans (Ext.alloc _ _)).trans hE2) hc2).mono ?_;rintro e x2 ⟨rfl,hD2⟩;have hq2:=((hq1.trans (Ext.alloc _ _)).trans hE2).trans hD2;have hb2:=(hE2.trans hD2).at_ ((Ext.alloc _ _).at_ hb1)))
      rw [rounds_succ]
      have hb3:=(Ext.alloc x2 (.cells #[.bool true,.slice none 0 0,.slice none 0 0] 92)).at_ hb2
      obtain ⟨z0,z1,z2,f0,f1,f2⟩:=pt_facts hb3
      go_wp2
      exact end_tp rfl rfl rfl rfl (pt_set hb3 _ _ _) ⟨⟨_,_,_,_,_,_,_,rfl⟩,pt_ext (hq2.trans (Ext.alloc _ _)) (Nat.le_refl _) _ _ _⟩
end Go.Proofs.YtendnkpiidhogaaGreat

namespace Go.Proofs.YtendnkpiidhogaaGreat
open Go.RowKit Mc
theorem pointC_ne (bs:List Nat):(pointC bs != 0)=pointB bs:=by
 unfold pointC pointB
 cases somewhere c256 bs <;> cases somewhere c384 bs <;> rfl
theorem modeP_of {kind:Int} (h:kind=4225∨kind=4226∨kind=4229∨kind=4230∨kind=4231) (bs:List Nat):(modeP kind=1∨modeP kind=2∨modeP kind=3∨modeP kind=4∨modeP kind=5)∧p6 (modeP kind) bs=parB kind bs:=by
 rcases h with rfl | rfl | rfl | rfl | rfl
 · exact ⟨.inl rfl,rfl⟩
 · exact ⟨.inr (.inl rfl),rfl⟩
 · exact ⟨.inr (.inr (.inl rfl)),rfl⟩
 · exact ⟨.inr (.inr (.inr (.inl rfl))),rfl⟩
 · exact ⟨.inr (.inr (.inr (.inr rfl))),rfl⟩
theorem refParam_mode {kind:Int} (h:kind=4225∨kind=4226∨kind=4229∨kind=4230∨kind=4231) (P:Nat→Prop) (A:Option Addr) (c:Nat) (bs:List Nat) (w:World) (hb:RB w P A c bs) (hP:∀ b,P b→b<w.heap.size) :
 Calls Tryz.prog 69 #[.agg #[.int .i64 kind,.slice A bs.length c]] w fun e w'=>e=.returned (.bool (parB kind bs))∧Ext w w':=by
 obtain ⟨h1,h2⟩:=modeP_of h bs
 obtain ⟨m,hm⟩:∃ m,modeP kind=m:=⟨_,rfl⟩
 rw [hm] at h1 h2
 rw [←h2]
 have hm0:(m != 0)=true:=by rcases h1 with rfl | rfl | rfl | rfl | rfl <;> rfl
 have hmo:=Lib.hid (fun X=>show Calls Tryz.prog 110 #[.int .i64 kind] X fun e w'=>e=.returned (.int .i64 m)∧X=w' by rw [←hm];exact mode_any kind X)
 have hp:=Lib.hid (fun X (hX:Ext w X)=>refParam6_any m h1 P A c bs X (hb.below hX hP))
 obtain ⟨r,hr⟩:∃ r,p6 m bs=r:=⟨_,rfl⟩
 rw [hr] at hp ⊢
 obtain ⟨n,hn⟩:∃ n,bs.length=n:=⟨_,rfl⟩
 rw [hn] at hp ⊢
 obtain ⟨W0,hW0⟩:∃ W0,W0=w.alloc (.cells #[.int .i64 kind,.slice A n c] 46):=⟨_,rfl⟩
 obtain ⟨q,hq⟩:∃ q,w.heap.size=q:=⟨_,rfl⟩
 have hE0:Ext w W0:=by rw [hW0];exact Ext.alloc _ _
 have hcb:W0.heap[q]?=some (.cells #[.int .i64 kind,.slice A n c] 46 (0,0)):=by rw [hW0,←hq];exact heap_alloc_new w _
 have b0:W0.cell? ⟨q,0,none⟩=some (.int .i64 kind):=blk_cell hcb 0
 have b1:W0.cell? ⟨q,1,none⟩=some (.slice A n c):=blk_cell hcb 1
 have HE0:=Lib.hid hE0
 clear h h1 h2 hm hr hn hE0 hb hP hcb
 go_enter Tryz.func69,Tryz.ntmps69
 go_upto_region 3 with (go_at_call 110;refine (hmo.out _).mono ?_;rintro e w' ⟨rfl,rfl⟩)
 rw [←hW0]
 have HW0:=Lib.hid hW0
 have Hq:=Lib.hid hq
 clear hW0 hq
 refine Par.region_ext (by kernel_rfl) 7 [0,1,3,0,8,31,63] [] (fun j f X=>match j with
  | 0=>f 0=.pointer (some ⟨q,0,none⟩)
  | 1=>f 1=.int .i64 kind
  | 2=>f 2=.int .i64 m
  | 3=>f 3=.pointer (some ⟨q,1,none⟩)
  | 4=>f 4=.slice A n c
  | 5=>f 5=.bool r
  | 6=>f 6=.bool r
  | _=>True) (by kernel_rfl) [(13,0),(14,1),(15,2),(16,3),(17,4),(18,5),(2,6)] (by kernel_rfl) ?_
 refine Par.S 1 6 [(16,3),(17,4)] (fun f X hX hR K hK=>?_) ?_
 · simp only [yA,yB,yC,yD,yE]
   refine ⟨?_⟩
   go_simp
   exact Par.k hK (s:=by simp only [yA,yB,yC,yD,yE])
 refine Par.S 2 5 [(13,0),(16,3),(17,4)] (fun f X hX hR K hK=>?_) ?_
 · have e0:f 0=_:=hR.out 0 rfl
   have x0:=hX.cell b0
   simp only [yA,yB,yC,yD,yE,e0]
   refine ⟨?_⟩
   go_simp
   exact Par.k hK (s:=by simp only [yA,yB,yC,yD,yE,e0])
 refine Par.S 3 4 [(13,0),(14,1),(16,3),(17,4)] (fun f X hX hR K hK=>?_) ?_
 · have e1:f 1=_:=hR.out 1 rfl
   simp only [yA,yB,yC,yD,yE,e1]
   refine ⟨?_⟩
   go_simp
   refine (hmo.out X).mono ?_
   rintro e w' ⟨rfl,rfl⟩
   exact Par.k hK (s:=by simp only [yA,yB,yC,yD,yE,e1])
 refine Par.S 4 3 [(13,0),(14,1),(15,2)] (fun f X hX hR K hK=>?_) ?_
 · simp only [yA,yB,yC,yD,yE]
   refine ⟨?_⟩
   go_simp
   exact Par.k hK (s:=by simp only [yA,yB,yC,yD,yE])
 refine Par.S 5 2 [(13,0),(14,1),(15,2),(16,3)] (fun f X hX hR K hK=>?_) ?_
 · have e3:f 3=_:=hR.out 3 rfl
   have x0:=hX.cell b1
   simp only [yA,yB,yC,yD,yE,e3]
   refine ⟨?_⟩
   go_simp
   exact Par.k hK (s:=by simp only [yA,yB,yC,yD,yE,e3])
 refine Par.S 6 1 [(13,0),(14,1),(15,2),(16,3),(17,4)] (fun f X hX hR K hK=>?_) ?_
 · have e2:f 2=_:=hR.out 2 rfl
   have e4:f 4=_:=hR.out 4 rfl
   simp only [yA,yB,yC,yD,yE,e2,e4]
   refine ⟨?_⟩
   go_simp
   refine (hp.out X (HE0.out.trans hX)).mono ?_
   rintro e w' ⟨rfl,hB⟩
   exact hK.out _ (.bool r) _ (by simp only [yA,yB,yC,yD,yE,e2,e4]) hB trivial (fun _ _=>rfl)
 refine Par.S 7 0 [(13,0),(14,1),(15,2),(16,3),(17,4),(18,5)] (fun f X hX hR K hK=>?_) ?_
 · have e5:f 5=_:=hR.out 5 rfl
   simp only [yA,yB,yC,yD,yE,e5]
   refine ⟨?_⟩
   go_simp
   exact Par.k hK (s:=by simp only [yA,yB,yC,yD,yE,e5])
 refine Par.AllOps.fin ⟨fun f X hX hR hal hap=>?_⟩
 have e0:f 0=_:=hR 0 (by decide)
 have e1:f 1=_:=hR 1 (by decide)
 have e2:f 2=_:=hR 2 (by decide)
 have e3:f 3=_:=hR 3 (by decide)
 have e4:f 4=_:=hR 4 (by decide)
 have e5:f 5=_:=hR 5 (by decide)
 have e6:f 6=_:=hR 6 (by decide)
 simp only [yA,yB,yD,yE,e0,e1,e2,e3,e4,e5,e6]
 clear hR hal hap e0 e1 e2 e3 e4 e5 e6
 refine Par.Chain.done ?_
 go_wp2
 go_ret
 exact ⟨rfl,HE0.out.trans hX⟩
theorem refParam_any (kind:Int) (P:Nat→Prop) (A:Option Addr) (c:Nat) (bs:List Nat) (w:World) (hb:RB w P A c bs) (hP:∀ b,P b→b<w.heap.size) :
 Calls Tryz.prog 69 #[.agg #[.int .i64 kind,.slice A bs.length c]] w fun e w'=>e=.returned (.bool (parB kind bs))∧Ext w w':=by
 by_cases h:kind=4225∨kind=4226∨kind=4229∨kind=4230∨kind=4231
 · exact refParam_mode h P A c bs w hb hP
 obtain ⟨l1,l2,l3⟩:=hb.cap
 have hpt:=Lib.hid (fun X (hX:Ext w X)=>refPoint_any P A c bs X (hb.below hX hP) (fun b hb=>Nat.lt_of_lt_of_le (hP b hb) hX.bsize))
 have hpn:=pointC_ne bs
 obtain ⟨pc,hpc⟩:∃ pc,pointC bs=pc:=⟨_,rfl⟩
 obtain ⟨r,hr⟩:∃ r,parB kind bs=r:=⟨_,rfl⟩
 rw [hpc] at hpt hpn
 rw [hr]
 obtain ⟨n,hn⟩:∃ n,bs.length=n:=⟨_,rfl⟩
 have hm0:modeP kind=0:=by
  simp only [not_or] at h
  rw [modeP,if_neg h.1,if_neg h.2.1,if_neg h.2.2.1,if_neg h.2.2.2.1,if_neg h.2.2.2.2]
 have e0:((n:Int)==0)=decide (n=0):=by by_cases e:n=0 <;> simp [e]
 have e1:((n:Int)==1)=decide (n=1):=by by_cases e:n=1 <;> simp [e];omega
 have e255:decide ((n:Int)≤255)=decide (n≤255):=decide_eq_decide.2 (by omega)
 rw [hn] at hpt l1 l3 ⊢
 rcases kind_cases kind with rfl | rfl | rfl | rfl | rfl | rfl | rfl | rfl | rfl | rfl | rfl | rfl | rfl | rfl | rfl | rfl | rfl | hk | hk | hk | hk | hk | rfl | rfl | ⟨e0',e1',e9',e13',e64',e67',e544',e592',e593',e608',e624',e848',e4160',e4161',e4164',e4176',e4224',e4225',e4226',e4229',e4230',e4231',e4234',e8457',hm⟩
 · have hv:r=decide (n=0):=by rw [←hr,←hn];rfl
   rw [←hv] at e0
   clear hr hn hb hv h e1 e255 hpn
   go_enter Tryz.func69,Tryz.ntmps69
   go_wp2_with (first | (go_at_call 110;refine (mode_any _ _).mono ?_;rintro e w' ⟨rfl,rfl⟩) | (go_at_call 70;refine (hpt.out _ (Ext.alloc _ _)).mono ?_;rintro e w2 ⟨⟨vb,v1,v2,v3,v4,v5,v6,rfl⟩,hE2⟩) | (go_at_call 67;refine (refUses_any _ _).mono ?_;rintro e w' ⟨rfl,rfl⟩))
   go_ret
   exact ⟨rfl,by first | exact ((Ext.alloc _ _).trans hE2).trans (Ext.alloc _ _) | exact Ext.alloc _ _⟩
 · have hv:r=decide (n=0):=by rw [←hr,←hn];rfl
   rw [←hv] at e0
   clear hr hn hb hv h e1 e255 hpn
   go_enter Tryz.func69,Tryz.ntmps69
   go_wp2_with (first | (go_at_call 110;refine (mode_any _ _).mono ?_;rintro e w' ⟨rfl,rfl⟩) | (go_at_call 70;refine (hpt.out _ (Ext.alloc _ _)).mono ?_;rintro e w2 ⟨⟨vb,v1,v2,v3,v4,v5,v6,rfl⟩,hE2⟩) | (go_at_call 67;refine (refUses_any _ _).mono ?_;rintro e w' ⟨rfl,rfl⟩))
   go_ret
   exact ⟨rfl,by first | exact ((Ext.alloc _ _).trans hE2).trans (Ext.alloc _ _) | exact Ext.alloc _ _⟩
 · have hv:r=decide (n≤255):=by rw [←hr,←hn];rfl
   rw [←hv] at e255
   clear hr hn hb hv h e0 e1 hpn
   go_enter Tryz.func69,Tryz.ntmps69
   go_wp2_with (first | (go_at_call 110;refine (mode_any _ _).mono ?_;rintro e w' ⟨rfl,rfl⟩) | (go_at_call 70;refine (hpt.out _ (Ext.alloc _ _)).mono ?_;rintro e w2 ⟨⟨vb,v1,v2,v3,v4,v5,v6,rfl⟩,hE2⟩) | (go_at_call 67;refine (refUses_any _ _).mono ?_;rintro e w' ⟨rfl,rfl⟩))
   go_ret
   exact ⟨rfl,by first | exact ((Ext.alloc _ _).trans hE2).trans (Ext.alloc _ _) | exact Ext.alloc _ _⟩
 · have hv:r=decide (n=1):=by rw [←hr,←hn];rfl
   rw [←hv] at e1
   clear hr hn hb hv h e0 e255 hpn
   go_enter Tryz.func69,Tryz.ntmps69
   go_wp2_with (first | (go_at_call 110;refine (mode_any _ _).mono ?_;rintro e w' ⟨rfl,rfl⟩) | (go_at_call 70;refine (hpt.out _ (Ext.alloc _ _)).mono ?_;rintro e w2 ⟨⟨vb,v1,v2,v3,v4,v5,v6,rfl⟩,hE2⟩) | (go_at_call 67;refine (refUses_any _ _).mono ?_;rintro e w' ⟨rfl,rfl⟩))
   go_ret
   exact ⟨rfl,by first | exact ((Ext.alloc _ _).trans hE2).trans (Ext.alloc _ _) | exact Ext.alloc _ _⟩
 · have hv:r=decide (n=0):=by rw [←hr,←hn];rfl
   rw [←hv] at e0
   clear hr hn hb hv h e1 e255 hpn
   go_enter Tryz.func69,Tryz.ntmps69
   go_wp2_with (first | (go_at_call 110;refine (mode_any _ _).mono ?_;rintro e w' ⟨rfl,rfl⟩) | (go_at_call 70;refine (hpt.out _ (Ext.alloc _ _)).mono ?_;rintro e w2 ⟨⟨vb,v1,v2,v3,v4,v5,v6,rfl⟩,hE2⟩) | (go_at_call 67;refine (refUses_any _ _).mono ?_;rintro e w' ⟨rfl,rfl⟩))
   go_ret
   exact ⟨rfl,by first | exact ((Ext.alloc _ _).trans hE2).trans (Ext.alloc _ _) | exact Ext.alloc _ _⟩
 · have hv:r=decide (n=1):=by rw [←hr,←hn];rfl
   rw [←hv] at e1
   clear hr hn hb hv h e0 e255 hpn
   go_enter Tryz.func69,Tryz.ntmps69
   go_wp2_with (first | (go_at_call 110;refine (mode_any _ _).mono ?_;rintro e w' ⟨rfl,rfl⟩) | (go_at_call 70;refine (hpt.out _ (Ext.alloc _ _)).mono ?_;rintro e w2 ⟨⟨vb,v1,v2,v3,v4,v5,v6,rfl⟩,hE2⟩) | (go_at_call 67;refine (refUses_any _ _).mono ?_;rintro e w' ⟨rfl,rfl⟩))
   go_ret
   exact ⟨rfl,by first | exact ((Ext.alloc _ _).trans hE2).trans (Ext.alloc _ _) | exact Ext.alloc _ _⟩
 · have hv:r=decide (n=0):=by rw [←hr,←hn];rfl
   rw [←hv] at e0
   clear hr hn hb hv h e1 e255 hpn
   go_enter Tryz.func69,Tryz.ntmps69
   go_wp2_with (first | (go_at_call 110;refine (mode_any _ _).mono ?_;rintro e w' ⟨rfl,rfl⟩) | (go_at_call 70;refine (hpt.out _ (Ext.alloc _ _)).mono ?_;rintro e w2 ⟨⟨vb,v1,v2,v3,v4,v5,v6,rfl⟩,hE2⟩) | (go_at_call 67;refine (refUses_any _ _).mono ?_;rintro e w' ⟨rfl,rfl⟩))
   go_ret
   exact ⟨rfl,by first | exact ((Ext.alloc _ _).trans hE2).trans (Ext.alloc _ _) | exact Ext.alloc _ _⟩
 · have hv:r=decide (n=0):=by rw [←hr,←hn];rfl
   rw [←hv] at e0
   clear hr hn hb hv h e1 e255 hpn
   go_enter Tryz.func69,Tryz.ntmps69
   go_wp2_with (first | (go_at_call 110;refine (mode_any _ _).mono ?_;rintro e w' ⟨rfl,rfl⟩) | (go_at_call 70;refine (hpt.out _ (Ext.alloc _ _)).mono ?_;rintro e w2 ⟨⟨vb,v1,v2,v3,v4,v5,v6,rfl⟩,hE2⟩) | (go_at_call 67;refine (refUses_any _ _).mono ?_;rintro e w' ⟨rfl,rfl⟩))
   go_ret
   exact ⟨rfl,by first | exact ((Ext.alloc _ _).trans hE2).trans (Ext.alloc _ _) | exact Ext.alloc _ _⟩
 · have hv:r=decide (n=0):=by rw [←hr,←hn];rfl
   rw [←hv] at e0
   clear hr hn hb hv h e1 e255 hpn
   go_enter Tryz.func69,Tryz.ntmps69
   go_wp2_with (first | (go_at_call 110;refine (mode_any _ _).mono ?_;rintro e w' ⟨rfl,rfl⟩) | (go_at_call 70;refine (hpt.out _ (Ext.alloc _ _)).mono ?_;rintro e w2 ⟨⟨vb,v1,v2,v3,v4,v5,v6,rfl⟩,hE2⟩) | (go_at_call 67;refine (refUses_any _ _).mono ?_;rintro e w' ⟨rfl,rfl⟩))
   go_ret
   exact ⟨rfl,by first | exact ((Ext.alloc _ _).trans hE2).trans (Ext.alloc _ _) | exact Ext.alloc _ _⟩
 · have hv:r=decide (n=0):=by rw [←hr,←hn];rfl
   rw [←hv] at e0
   clear hr hn hb hv h e1 e255 hpn
   go_enter Tryz.func69,Tryz.ntmps69
   go_wp2_with (first | (go_at_call 110;refine (mode_any _ _).mono ?_;rintro e w' ⟨rfl,rfl⟩) | (go_at_call 70;refine (hpt.out _ (Ext.alloc _ _)).mono ?_;rintro e w2 ⟨⟨vb,v1,v2,v3,v4,v5,v6,rfl⟩,hE2⟩) | (go_at_call 67;refine (refUses_any _ _).mono ?_;rintro e w' ⟨rfl,rfl⟩))
   go_ret
   exact ⟨rfl,by first | exact ((Ext.alloc _ _).trans hE2).trans (Ext.alloc _ _) | exact Ext.alloc _ _⟩
 · have hv:r=decide (n=0):=by rw [←hr,←hn];rfl
   rw [←hv] at e0
   clear hr hn hb hv h e1 e255 hpn
   go_enter Tryz.func69,Tryz.ntmps69
   go_wp2_with (first | (go_at_call 110;refine (mode_any _ _).mono ?_;rintro e w' ⟨rfl,rfl⟩) | (go_at_call 70;refine (hpt.out _ (Ext.alloc _ _)).mono ?_;rintro e w2 ⟨⟨vb,v1,v2,v3,v4,v5,v6,rfl⟩,hE2⟩) | (go_at_call 67;refine (refUses_any _ _).mono ?_;rintro e w' ⟨rfl,rfl⟩))
   go_ret
   exact ⟨rfl,by first | exact ((Ext.alloc _ _).trans hE2).trans (Ext.alloc _ _) | exact Ext.alloc _ _⟩
 · have hv:r=decide (n=0):=by rw [←hr,←hn];rfl
   rw [←hv] at e0
   clear hr hn hb hv h e1 e255 hpn
   go_enter Tryz.func69,Tryz.ntmps69
   go_wp2_with (first | (go_at_call 110;refine (mode_any _ _).mono ?_;rintro e w' ⟨rfl,rfl⟩) | (go_at_call 70;refine (hpt.out _ (Ext.alloc _ _)).mono ?_;rintro e w2 ⟨⟨vb,v1,v2,v3,v4,v5,v6,rfl⟩,hE2⟩) | (go_at_call 67;refine (refUses_any _ _).mono ?_;rintro e w' ⟨rfl,rfl⟩))
   go_ret
   exact ⟨rfl,by first | exact ((Ext.alloc _ _).trans hE2).trans (Ext.alloc _ _) | exact Ext.alloc _ _⟩
 · have hv:r=decide (n=0):=by rw [←hr,←hn];rfl
   rw [←hv] at e0
   clear hr hn hb hv h e1 e255 hpn
   go_enter Tryz.func69,Tryz.ntmps69
   go_wp2_with (first | (go_at_call 110;refine (mode_any _ _).mono ?_;rintro e w' ⟨rfl,rfl⟩) | (go_at_call 70;refine (hpt.out _ (Ext.alloc _ _)).mono ?_;rintro e w2 ⟨⟨vb,v1,v2,v3,v4,v5,v6,rfl⟩,hE2⟩) | (go_at_call 67;refine (refUses_any _ _).mono ?_;rintro e w' ⟨rfl,rfl⟩))
   go_ret
   exact ⟨rfl,by first | exact ((Ext.alloc _ _).trans hE2).trans (Ext.alloc _ _) | exact Ext.alloc _ _⟩
 · have hv:r=decide (n=0):=by rw [←hr,←hn];rfl
   rw [←hv] at e0
   clear hr hn hb hv h e1 e255 hpn
   go_enter Tryz.func69,Tryz.ntmps69
   go_wp2_with (first | (go_at_call 110;refine (mode_any _ _).mono ?_;rintro e w' ⟨rfl,rfl⟩) | (go_at_call 70;refine (hpt.out _ (Ext.alloc _ _)).mono ?_;rintro e w2 ⟨⟨vb,v1,v2,v3,v4,v5,v6,rfl⟩,hE2⟩) | (go_at_call 67;refine (refUses_any _ _).mono ?_;rintro e w' ⟨rfl,rfl⟩))
   go_ret
   exact ⟨rfl,by first | exact ((Ext.alloc _ _).trans hE2).trans (Ext.alloc _ _) | exact Ext.alloc _ _⟩
 · have hv:r=decide (n=0):=by rw [←hr,←hn];rfl
   rw [←hv] at e0
   clear hr hn hb hv h e1 e255 hpn
   go_enter Tryz.func69,Tryz.ntmps69
   go_wp2_with (first | (go_at_call 110;refine (mode_any _ _).mono ?_;rintro e w' ⟨rfl,rfl⟩) | (go_at_call 70;refine (hpt.out _ (Ext.alloc _ _)).mono ?_;rintro e w2 ⟨⟨vb,v1,v2,v3,v4,v5,v6,rfl⟩,hE2⟩) | (go_at_call 67;refine (refUses_any _ _).mono ?_;rintro e w' ⟨rfl,rfl⟩))
   go_ret
   exact ⟨rfl,by first | exact ((Ext.alloc _ _).trans hE2).trans (Ext.alloc _ _) | exact Ext.alloc _ _⟩
 · have hv:r=pointB bs:=by rw [←hr];rfl
   rw [←hv] at hpn
   clear hr hn hb hv h e0 e1 e255
   go_enter Tryz.func69,Tryz.ntmps69
   go_wp2_with (first | (go_at_call 110;refine (mode_any _ _).mono ?_;rintro e w' ⟨rfl,rfl⟩) | (go_at_call 70;refine (hpt.out _ (Ext.alloc _ _)).mono ?_;rintro e w2 ⟨⟨vb,v1,v2,v3,v4,v5,v6,rfl⟩,hE2⟩) | (go_at_call 67;refine (refUses_any _ _).mono ?_;rintro e w' ⟨rfl,rfl⟩))
   go_ret
   exact ⟨rfl,by first | exact ((Ext.alloc _ _).trans hE2).trans (Ext.alloc _ _) | exact Ext.alloc _ _⟩
 · have hv:r=decide (n=0):=by rw [←hr,←hn];rfl
   rw [←hv] at e0
   clear hr hn hb hv h e1 e255 hpn
   go_enter Tryz.func69,Tryz.ntmps69
   go_wp2_with (first | (go_at_call 110;refine (mode_any _ _).mono ?_;rintro e w' ⟨rfl,rfl⟩) | (go_at_call 70;refine (hpt.out _ (Ext.alloc _ _)).mono ?_;rintro e w2 ⟨⟨vb,v1,v2,v3,v4,v5,v6,rfl⟩,hE2⟩) | (go_at_call 67;refine (refUses_any _ _).mono ?_;rintro e w' ⟨rfl,rfl⟩))
   go_ret
   exact ⟨rfl,by first | exact ((Ext.alloc _ _).trans hE2).trans (Ext.alloc _ _) | exact Ext.alloc _ _⟩
 · exact absurd (.inl hk) h
 · exact absurd (.inr (.inl hk)) h
 · exact absurd (.inr (.inr (.inl hk))) h
 · exact absurd (.inr (.inr (.inr (.inl hk)))) h
 · exact absurd (.inr (.inr (.inr (.inr hk)))) h
 · have hv:r=decide (n=0):=by rw [←hr,←hn];rfl
   rw [←hv] at e0
   clear hr hn hb hv h e1 e255 hpn
   go_enter Tryz.func69,Tryz.ntmps69
   go_wp2_with (first | (go_at_call 110;refine (mode_any _ _).mono ?_;rintro e w' ⟨rfl,rfl⟩) | (go_at_call 70;refine (hpt.out _ (Ext.alloc _ _)).mono ?_;rintro e w2 ⟨⟨vb,v1,v2,v3,v4,v5,v6,rfl⟩,hE2⟩) | (go_at_call 67;refine (refUses_any _ _).mono ?_;rintro e w' ⟨rfl,rfl⟩))
   go_ret
   exact ⟨rfl,by first | exact ((Ext.alloc _ _).trans hE2).trans (Ext.alloc _ _) | exact Ext.alloc _ _⟩
 · have hv:r=decide (n=0):=by rw [←hr,←hn];rfl
   rw [←hv] at e0
   clear hr hn hb hv h e1 e255 hpn
   go_enter Tryz.func69,Tryz.ntmps69
   go_wp2_with (first | (go_at_call 110;refine (mode_any _ _).mono ?_;rintro e w' ⟨rfl,rfl⟩) | (go_at_call 70;refine (hpt.out _ (Ext.alloc _ _)).mono ?_;rintro e w2 ⟨⟨vb,v1,v2,v3,v4,v5,v6,rfl⟩,hE2⟩) | (go_at_call 67;refine (refUses_any _ _).mono ?_;rintro e w' ⟨rfl,rfl⟩))
   go_ret
   exact ⟨rfl,by first | exact ((Ext.alloc _ _).trans hE2).trans (Ext.alloc _ _) | exact Ext.alloc _ _⟩
 · have hv:r=false:=by rw [←hr,parB,if_pos (by rw [hm])]
   subst hv
   have hu:(mechOf kind).uses=0:=by rw [hm]
   clear hr hn hb h e0 e1 e255 hpn hm
   go_enter Tryz.func69,Tryz.ntmps69
   go_wp2_with (first | (go_at_call 110;refine (mode_any _ _).mono ?_;rintro e w' ⟨rfl,rfl⟩) | (go_at_call 70;refine (hpt.out _ (Ext.alloc _ _)).mono ?_;rintro e w2 ⟨⟨vb,v1,v2,v3,v4,v5,v6,rfl⟩,hE2⟩) | (go_at_call 67;refine (refUses_any _ _).mono ?_;rintro e w' ⟨rfl,rfl⟩))
   go_ret
   exact ⟨rfl,Ext.alloc _ _⟩
end Go.Proofs.YtendnkpiidhogaaGreat

namespace Go.Proofs.YtendnkpiidhogaaGreat
open Go.RowKit Mc
theorem RB.take_ {w:World} {P:Nat→Prop} {A:Option Addr} {c:Nat} {bs:List Nat} (h:RB w P A c bs) (n:Nat):RB w P A c (bs.take n):=by
 by_cases hn:n≤bs.length
 · have:=h.1.pre hn
   rw [Nat.mul_one] at this
   refine ⟨?_,fun b hb=>h.2.1 b (List.mem_of_mem_take hb),by rw [List.length_take];have:=h.2.2;omega⟩
   rw [List.length_take,Nat.min_eq_left hn]
   have e:bys (bs.take n)=(bys bs).take n:=by simp [bys]
   rw [e];exact this
 · rw [List.take_of_length_le (by omega)];exact h
theorem short_g (P:Nat→Prop) (A:Option Addr) (c n:Nat) (bs:List Nat) (w:World) (h:RB w P A c bs) (hn:n≤4611686018427387904) :
 Calls Tryz.prog 62 #[.slice A bs.length c,.int .i64 n] w fun e w'=>e=.returned (.slice A (bs.take n).length c)∧w=w':=by
 obtain ⟨h1,h2,h3⟩:=h.cap
 by_cases hlt:n<bs.length
 · have e:(bs.take n).length=n:=by simp;omega
   rw [e]
   clear e
   go_enter Tryz.func62,Tryz.ntmps62
   go_wp2
   go_ret
   exact ⟨rfl,rfl⟩
 · have e:(bs.take n).length=bs.length:=by simp;omega
   rw [e]
   clear e
   go_enter Tryz.func62,Tryz.ntmps62
   go_wp2
   go_ret
   exact ⟨rfl,rfl⟩
theorem infoM:(Tryz.prog.info? 46).map (·.size)=some 2:=by kernel_rfl
theorem mech_one (k:Int) (A:Option Addr) (n c:Nat):(#[Value.int .i64 k,.slice A n c]:Array Value).all (·.oneCell')=true:=by simp [Value.oneCell']
theorem end_m {fn:Func} {R:Ending→World→Prop} {a:Act} {W:World} {p:Tmp} {g:Nat} {ty:TypeId} {fr:Nat×Nat} {x0 x1:Value} (hr:fn.results=#[.cell p 46]) (hp:a.tmps.getD p undef=.pointer (some ⟨g,0,none⟩)) (hd:a.defers=[])
 (hg:W.heap[g]?=some (.cells #[x0,x1] ty fr)) (hR:R (.returned (.agg #[x0,x1])) W):bodyPost Tryz.prog fn R .ret a W :=
 bodyPost_ret (results_cell_row hr a.tmps W g _ _ _ _ hp hg Tryz.underlying46 rfl infoM) hd hR
theorem mechOfLaw_any (kind:Int) (P:Nat→Prop) (A:Option Addr) (c:Nat) (bs:List Nat) (w:World) (hb:RB w P A c bs) (hP:∀ b,P b→b<w.heap.size) :
 Calls Tryz.prog 28 #[.agg #[.int .i64 kind,.slice A bs.length c]] w fun e w'=>e=.returned (.agg #[.int .i64 kind,.slice A (bs.take 300).length c])∧Ext w w':=by
 have hs:=Lib.hid (fun X (hX:Ext w X)=>short_g P A c 300 bs X (hb.below hX hP) (by omega))
 obtain ⟨n,hn⟩:∃ n,bs.length=n:=⟨_,rfl⟩
 obtain ⟨m,hm⟩:∃ m,(bs.take 300).length=m:=⟨_,rfl⟩
 rw [hn,hm] at hs
 rw [hn,hm]
 obtain ⟨W0,hW0⟩:∃ W0,W0=(w.alloc (.cells #[.int .i64 kind,.slice A n c] 46)).alloc (.cells #[.int .i64 0,.slice none 0 0] 46):=⟨_,rfl⟩
 obtain ⟨q,hq⟩:∃ q,w.heap.size=q:=⟨_,rfl⟩
 obtain ⟨g1,g2,g3⟩:=two_at w (.cells #[.int .i64 kind,.slice A n c] 46) (.cells #[.int .i64 0,.slice none 0 0] 46)
 rw [←hW0,hq] at g1 g2 g3
 have hE0:Ext w W0:=by rw [hW0];exact (Ext.alloc _ _).trans (Ext.alloc _ _)
 have b0:W0.cell? ⟨q,0,none⟩=some (.int .i64 kind):=blk_cell g1 0
 have b1:W0.cell? ⟨q,1,none⟩=some (.slice A n c):=blk_cell g1 1
 have HE0:=Lib.hid hE0
 have G3:=Lib.hid g3
 clear hn hm hE0 hb hP g3
 go_enter Tryz.func28,Tryz.ntmps28
 go_upto_region 1 with fail
 rw [←hW0]
 have Hq:=Lib.hid hq
 clear hW0 hq
 refine Par.region_ext (by kernel_rfl) 6 [0,1,0,4,12,31,63] [] (fun j f X=>match j with
  | 0=>f 0=.pointer (some ⟨q,0,none⟩)
  | 1=>f 1=.int .i64 kind
  | 2=>f 2=.pointer (some ⟨q,1,none⟩)
  | 3=>f 3=.slice A n c
  | 4=>f 4=.slice A m c
  | 5=>f 5=.agg #[.int .i64 kind,.slice A m c]
  | _=>True) (by kernel_rfl) [(3,0),(4,1),(5,2),(6,3),(7,4),(8,5)] (by kernel_rfl) ?_
 refine Par.S 1 5 [(5,2),(6,3),(7,4)] (fun f X hX hR K hK=>?_) ?_
 · simp only [yA,yB,yC,yD,yE]
   refine ⟨?_⟩
   go_simp
   exact Par.k hK (s:=by simp only [yA,yB,yC,yD,yE])
 refine Par.S 2 4 [(3,0),(5,2),(6,3),(7,4)] (fun f X hX hR K hK=>?_) ?_
 · have e0:f 0=_:=hR.out 0 rfl
   have x0:=hX.cell b0
   simp only [yA,yB,yC,yD,yE,e0]
   refine ⟨?_⟩
   go_simp
   exact Par.k hK (s:=by simp only [yA,yB,yC,yD,yE,e0])
 refine Par.S 3 3 [(3,0),(4,1)] (fun f X hX hR K hK=>?_) ?_
 · simp only [yA,yB,yC,yD,yE]
   refine ⟨?_⟩
   go_simp
   exact Par.k hK (s:=by simp only [yA,yB,yC,yD,yE])
 refine Par.S 4 2 [(3,0),(4,1),(5,2)] (fun f X hX hR K hK=>?_) ?_
 · have e2:f 2=_:=hR.out 2 rfl
   have x0:=hX.cell b1
   simp only [yA,yB,yC,yD,yE,e2]
   refine ⟨?_⟩
   go_simp
   exact Par.k hK (s:=by simp only [yA,yB,yC,yD,yE,e2])
 refine Par.S 5 1 [(3,0),(4,1),(5,2),(6,3)] (fun f X hX hR K hK=>?_) ?_
 · have e3:f 3=_:=hR.out 3 rfl
   simp only [yA,yB,yC,yD,yE,e3]
   refine ⟨?_⟩
   go_simp
   refine (hs.out X (HE0.out.trans hX)).mono ?_
   rintro e w' ⟨rfl,rfl⟩
   exact Par.k hK (s:=by simp only [yA,yB,yC,yD,yE,e3])
 refine Par.S 6 0 [(3,0),(4,1),(5,2),(6,3),(7,4)] (fun f X hX hR K hK=>?_) ?_
 · have e1:f 1=_:=hR.out 1 rfl
   have e4:f 4=_:=hR.out 4 rfl
   simp only [yA,yB,yC,yD,yE,e1,e4]
   refine ⟨?_⟩
   go_simp
   exact Par.k hK (s:=by simp only [yA,yB,yC,yD,yE,e1,e4])
 refine Par.AllOps.fin ⟨fun f X hX hR hal hap=>?_⟩
 have e0:f 0=_:=hR 0 (by decide)
 have e1:f 1=_:=hR 1 (by decide)
 have e2:f 2=_:=hR 2 (by decide)
 have e3:f 3=_:=hR 3 (by decide)
 have e4:f 4=_:=hR 4 (by decide)
 have e5:f 5=_:=hR 5 (by decide)
 simp only [yA,yB,yD,yE,e0,e1,e2,e3,e4,e5]
 clear hR hal hap e0 e1 e2 e3 e4 e5
 refine Par.Chain.next (fun K hK=>⟨Par.want (by kernel_rfl) (wp_storeV 46 (.tmp 2) (.tmp 8) rfl rfl rfl rfl (hX.at_ g2) infoM rfl (mech_one _ _ _ _) (fun Y1 j1 j2 j3=>hK.out _ _ ?_))⟩)
 refine Par.Chain.done ?_
 go_wp2
 exact end_m rfl rfl rfl j1 ⟨rfl,j2.ext (HE0.out.trans hX) (by have:=Hq.out;omega)⟩
end Go.Proofs.YtendnkpiidhogaaGreat

namespace Go.Proofs.YtendnkpiidhogaaGreat
open Go.RowKit
theorem info8:(Tryz.prog.info? 5).map (fun i=>(i.zero,i.size,i.bytes))=some (some (.int .u8 0),1,1):=by kernel_rfl
def Blk8 (w:World) (g:Nat) (l:List Nat):Prop:=w.heap[g]?=some (.cells (bys l).toArray 5 (0,0))
section
variable {w w':World} {g:Nat} {l:List Nat}
theorem bys_get {l:List Nat} {i:Nat} (h:i<l.length):(bys l)[i]?=some (.int .u8 (dg l i:Int)):=by
 rw [dg,getD_eq' h];simp [bys,List.getElem?_eq_getElem h]
theorem Blk8.cell (h:Blk8 w g l) {i:Nat} (hi:i<l.length):w.cell? ⟨g,i,none⟩=some (.int .u8 (dg l i:Int)):=by
 rw [blk_cell h i,List.getElem?_toArray,bys_get hi]
theorem Blk8.free (h:Blk8 w g l) (i:Nat):w.frozen? ⟨g,i,none⟩=false:=blk_free h i
theorem Blk8.set (h:Blk8 w g l) (i:Nat) (x:Nat):Blk8 (w.setCell ⟨g,i,none⟩ (.int .u8 (x:Int))) g (l.set i x):=by
 unfold Blk8 at *
 simp [World.setCell,Array.getElem?_modify,h,bys]
theorem Blk8.made (w:World) (n:Nat):Blk8 (w.alloc (.cells (madeCells #[.int .u8 0] n) 5)) w.heap.size (List.replicate n 0):=by
 unfold Blk8
 rw [heap_alloc_new]
 congr 1
 congr 1
 apply Array.ext_getElem?
 intro i
 by_cases hi:i<n
 · have hs:i<(madeCells #[Value.int .u8 0] n).size:=by rw [size_madeCells];simpa using hi
   rw [Array.getElem?_eq_getElem hs]
   simp [madeCells,bys,hi,Nat.mod_one]
 · rw [Array.getElem?_eq_none (by rw [size_madeCells];omega),Array.getElem?_eq_none (by simp [bys];omega)]
theorem Blk8.rb {P:Nat→Prop} (h:Blk8 w g l) (hP:P g) (hl:∀ b∈l,b<256) (hn:l.length≤1000000):RB w P (some ⟨g,0,none⟩) l.length l:=by
 refine ⟨⟨Nat.le_refl _,by unfold maxLen;omega,by simp [bys],fun _=>⟨_,rfl,hP,fun j u hu=>?_⟩⟩,hl,by omega⟩
 rw [add_blk,blk_cell h j,List.getElem?_toArray]
 exact hu
end
def BytesAt (x n:Nat) (o:List Nat) (k:Nat):Prop:=o.length=n∧(∀ j,j<k→dg o j=x / 2 ^ (8*(n - 1 - j)) % 256)∧(∀ j,k≤j→dg o j=0)∧∀ b∈o,b<256
theorem BytesAt.zero (x n:Nat):BytesAt x n (List.replicate n 0) 0:=by
 refine ⟨by simp,fun j hj=>by omega,fun j _=>?_,fun b hb=>by simp at hb;omega⟩
 rw [dg,List.getD_eq_getElem?_getD,List.getElem?_replicate]
 split <;> rfl
theorem BytesAt.step {x n:Nat} {o:List Nat} {k b:Nat} (h:BytesAt x n o k) (hk:k<n) (hb:x / 2 ^ (8*(n - 1 - k)) % 256=b):BytesAt x n (o.set k b) (k+1):=by
 obtain ⟨h1,h2,h3,h4⟩:=h
 refine ⟨by simpa using h1,fun j hj=>?_,fun j hj=>by rw [getD_set_ne (by omega)];exact h3 j (by omega),set_lt h4 (by omega)⟩
 rcases Nat.lt_or_ge j k with h | h
 · rw [getD_set_ne (by omega)];exact h2 j h
 · obtain rfl:j=k:=by omega
   rw [getD_set_eq (by omega)];exact hb.symm
theorem BytesAt.skip {x n:Nat} {o:List Nat} {k:Nat} (h:BytesAt x n o k) (hb:x / 2 ^ (8*(n - 1 - k)) % 256=0):BytesAt x n o (k+1):=by
 obtain ⟨h1,h2,h3,h4⟩:=h
 refine ⟨h1,fun j hj=>?_,fun j hj=>h3 j (by omega),h4⟩
 rcases Nat.lt_or_ge j k with h | h
 · exact h2 j h
 · obtain rfl:j=k:=by omega
   rw [hb];exact h3 j h
theorem BytesAt.fin {x n:Nat} {o:List Nat} (h:BytesAt x n o n):o=bytesOf x n:=by
 obtain ⟨h1,h2,_⟩:=h
 apply List.ext_getElem (by rw [h1,bytesOf_length])
 intro i h3 h4
 have:=h2 i (by omega)
 rw [dg,getD_eq' h3] at this
 rw [this]
 simp [bytesOf]
end Go.Proofs.YtendnkpiidhogaaGreat

namespace Go.Proofs.YtendnkpiidhogaaGreat.Der
inductive DN where
 | mk (tag:Nat) (bs:List Nat) (kids:List DN)
theorem gD {α:Type} (l:List α) (d:α) {i:Nat} (h:i<l.length):l.getD i d=l[i]:=by simp [List.getD_eq_getElem?_getD,List.getElem?_eq_getElem h]
def be:Nat→List Nat→Nat
 | n,[]=>n
 | n,x :: r=>be (256*n+x) r
def nameF:Bool→List Nat→Bool
 | bg,[]=>bg
 | bg,x :: r=>if bg && x==128 then false else nameF (decide (x<128)) r
def nameOf (b:List Nat):Bool:=decide (0<b.length) && nameF true b
def plainOf (tag:Nat) (b:List Nat):Bool :=
 if tag=2 then decide (0<b.length) && decide (b.getD 0 0<128) && (decide (0<b.getD 0 0) || b.length==1 || decide (128≤b.getD 1 0))
 else if tag=3 then decide (0<b.length) && b.getD 0 0==0
 else if tag=4 then true
 else if tag=5 then b.length==0
 else if tag=6 then nameOf b
 else false
def cutAt (t n:Nat) (rest:List Nat):Option (Nat×List Nat×List Nat):=if rest.length<n then none else some (t,rest.take n,rest.drop n)
def headOf:List Nat→Option (Nat×List Nat×List Nat)
  | t :: n :: rest =>
    if n<128 then cutAt t n rest
    else if n - 128<1∨3<n - 128∨rest.length<n - 128∨rest.getD 0 0=0 then none
    else if be 0 (rest.take (n - 128))<128 then none
    else cutAt t (be 0 (rest.take (n - 128))) (rest.drop (n - 128))
  | _=>none
def kidsOn (rd:Nat→List Nat→Option (DN×List Nat×Nat)):Nat→Nat→List DN→List Nat→Option (List DN×Nat)
  | 0,left,acc,b=>if b=[] then some (acc,left) else none
  | f + 1, left, acc, b => if b = [] then some (acc, left) else match rd left b with
    | none=>none
    | some (k,r,l)=>kidsOn rd f l (acc++[k]) r
def nodeOf:Nat→Nat→List Nat→Option (DN×List Nat×Nat)
  | 0,_,_=>none
  | d + 1, left, b =>
    if left=0 then none
    else match headOf b with
      | none=>none
      | some (t, h, r) =>
        if t≠48 then (if plainOf t h then some (.mk t h [],r,left - 1) else none)
        else match kidsOn (nodeOf d) h.length (left - 1) [] h with
          | none=>none
          | some (ks,l)=>some (.mk 48 [] ks,r,l)
theorem cutAt_some {t n:Nat} {b:List Nat} {x:Nat×List Nat×List Nat} (h:cutAt t n b=some x):x=(t,b.take n,b.drop n)∧n≤b.length:=by
 unfold cutAt at h
 split at h
 · cases h
 · cases h;exact ⟨rfl,by omega⟩
theorem head_len {b:List Nat} {t:Nat} {h r:List Nat} (e:headOf b=some (t,h,r)):h.length+r.length+2≤b.length:=by
 unfold headOf at e
 split at e
 · rename_i t0 n rest
   split at e
   · obtain ⟨e,hl⟩:=cutAt_some e
     cases e
     simp;omega
   split at e
   · cases e
   split at e
   · cases e
   obtain ⟨e,hl⟩:=cutAt_some e
   simp only [Prod.mk.injEq] at e
   have e1:=congrArg List.length e.2.1
   have e2:=congrArg List.length e.2.2
   clear e
   rw [List.length_take] at e1
   rw [List.length_drop] at e2
   rw [List.length_drop] at hl e1 e2
   generalize be 0 (List.take (n - 128) rest)=m at *
   simp only [List.length_cons]
   omega
 · cases e
theorem node_len:∀ {d left:Nat} {b:List Nat} {k:DN} {r:List Nat} {l:Nat},nodeOf d left b=some (k,r,l)→r.length+2≤b.length
  | 0,_,_,_,_,_,e=>by simp [nodeOf] at e
  | d + 1, left, b, k, r, l, e => by
    rw [nodeOf] at e
    split at e
    · cases e
    split at e
    · cases e
    rename_i t h r' hh
    have:=head_len hh
    split at e
    · split at e
      · cases e;omega
      · cases e
    · split at e
      · cases e
      · cases e;omega
theorem kids_left {rd:Nat→List Nat→Option (DN×List Nat×Nat)} (hr:∀ {left b k r l},rd left b=some (k,r,l)→l<left):∀ {f left:Nat} {acc:List DN} {b:List Nat} {ks:List DN} {l:Nat},kidsOn rd f left acc b=some (ks,l)→l≤left
  | 0, left, acc, b, ks, l, e => by
    unfold kidsOn at e
    split at e
    · cases e;exact Nat.le_refl _
    · cases e
  | f + 1, left, acc, b, ks, l, e => by
    unfold kidsOn at e
    split at e
    · cases e;exact Nat.le_refl _
    split at e
    · cases e
    rename_i k r l' hk
    have:=kids_left hr e
    have:=hr hk
    omega
theorem node_left:∀ {d left:Nat} {b:List Nat} {k:DN} {r:List Nat} {l:Nat},nodeOf d left b=some (k,r,l)→l<left
  | 0,_,_,_,_,_,e=>by simp [nodeOf] at e
  | d + 1, left, b, k, r, l, e => by
    rw [nodeOf] at e
    split at e
    · cases e
    rename_i hl
    split at e
    · cases e
    split at e
    · split at e
      · cases e;omega
      · cases e
    · split at e
      · cases e
      · rename_i hk
        cases e
        have:=kids_left (rd:=nodeOf d) (fun h=>node_left h) hk
        omega
theorem name_step {bg:Bool} {b:List Nat} {k:Nat} (hk:k<b.length) {x:Nat} (hx:b[k]=x):nameF bg (b.drop k)=if bg && x==128 then false else nameF (decide (x<128)) (b.drop (k+1)):=by
 rw [List.drop_eq_getElem_cons hk,hx,nameF]
end Go.Proofs.YtendnkpiidhogaaGreat.Der

namespace Go.Proofs.YtendnkpiidhogaaGreat
open Go.RowKit
def OW (w:World) (base:Nat) (A:Option Addr) (c:Nat) (bs:List Nat):Prop:=w.ownsRow base 5 1 (.slice A bs.length c) bs.length (bys bs)∧∀ b∈bs,b<256
theorem own_base {w:World} {base n size:Nat} {e:TypeId} {v:Value} {cs:List Value} (h:w.ownsRow base e size v n cs) (k:Nat) (hk:v.ownBlock=some k):base≤k:=by
 rcases h.2 with ⟨rfl,rfl⟩ | ⟨g,cap,cur,rfl,hg,_⟩
 · cases hk
 · simp [Value.ownBlock] at hk
   omega
theorem OW.rb {w:World} {base:Nat} {A:Option Addr} {c:Nat} {bs:List Nat} (h:OW w base A c bs) (hl:bs.length≤100000000):RB w (In base w.heap.size) A c bs:=⟨RS.of_own h.1,h.2,by omega⟩
theorem OW.lit (w:World) (b:Nat) (hb:b<256):OW (w.alloc (.cells #[.int .u8 (b:Int)] 5)) w.heap.size (some ⟨w.heap.size,0,none⟩) 1 [b] :=
 ⟨World.ownsRow_lit w #[.int .u8 (b:Int)] 1 (Nat.le_refl _) (by unfold maxLen;omega) rfl,by simp;exact hb⟩
theorem OW.ext {w X:World} {base:Nat} {A:Option Addr} {c:Nat} {bs:List Nat} (h:OW w base A c bs) (hE:w.grownBy X none):OW X base A c bs:=⟨own_kept h.1 hE,h.2⟩
section
variable {w:World} {ops:Array Oper} {rest:List Oper} {o:Oper} {a:Act} {Q:Exit→Act→World→Prop}
theorem app8 (hgd:o.guard=none) (s x:Operand) (ho:o.op=.call { callee:=.builtin .append,args:=#[s,x],argTypes:=#[33,33] }) (base:Nat) {A Au:Option Addr} {c cu:Nat} {bs cs:List Nat} {B:Nat→Prop}
 (hs:a.eval s=.slice A bs.length c) (hown:OW w base A c bs) (hx:a.eval x=.slice Au cs.length cu) (hr:RB w B Au cu cs) (hl:bs.length+cs.length≤100000000) (hbase:base≤w.heap.size)
 (h:∀ A' c' w',OW w' base A' c' (bs++cs)→Below base w w'→wpList Tryz.prog ops Q rest (a.put o.dst (.slice A' (bs++cs).length c')) w'):wpList Tryz.prog ops Q (o :: rest) a w:=by
 obtain ⟨i0,hi,hz0,hz1,hz2⟩:=info_parts info8
 refine wpList_append_rs w hgd s x 33 ho base 5 i0 (.int .u8 0) 1 1 Tryz.underlying33 hi hz0 hz1 hz2 rfl (by decide) _ bs.length (bys bs) hs hown.1 B Au cs.length cu (bys cs) hx hr.1 (by intro u hu;obtain ⟨b,_,rfl⟩:=List.mem_map.1 hu;rfl) (bs.length+cs.length) rfl (by unfold maxLen;omega) (by omega) hbase ?_
 intro A' c' w' h1 h2 h3
 have hlen:(bs++cs).length=bs.length+cs.length:=List.length_append
 refine (hlen▸h A' c' w' ⟨?_,?_⟩ ?_:_)
 · rw [hlen,show bys (bs++cs)=bys bs++bys cs by simp [bys]]
   exact h1
 · intro b hb
   rcases List.mem_append.1 hb with hb | hb
   · exact hown.2 b hb
   · exact hr.2.1 b hb
 · exact Below.grown (Below.refl base w) h2 hbase (own_base hown.1)
end
end Go.Proofs.YtendnkpiidhogaaGreat

namespace Go.Proofs.YtendnkpiidhogaaGreat.Der
open Go.RowKit Go.Shelf
attribute [local go_sem] Oper.semAt_some
theorem RB.getD {w:World} {P:Nat→Prop} {A:Option Addr} {c:Nat} {bs:List Nat} (h:RB w P A c bs) {i:Nat} (hi:i<bs.length):∃ ad,A=some ad∧P ad.block∧w.cell? (ad.add i)=some (.int .u8 (bs.getD i 0:Nat))∧bs.getD i 0<256:=by
 obtain ⟨ad,h1,h2,h3,h4⟩:=h.at_ hi
 rw [gD _ _ hi]
 exact ⟨ad,h1,h2,h3,by omega⟩
theorem RB.get0 {w:World} {P:Nat→Prop} {A:Option Addr} {c:Nat} {bs:List Nat} (h:RB w P A c bs) (hi:0<bs.length):∃ ad,A=some ad∧P ad.block∧w.cell? ad=some (.int .u8 (bs.getD 0 0:Nat))∧bs.getD 0 0<256:=by
 obtain ⟨ad,h1,h2,h3,h4⟩:=RB.getD h hi
 exact ⟨ad,h1,h2,by simpa [Addr.add] using h3,h4⟩
theorem RB.get1 {w:World} {P:Nat→Prop} {ad:Addr} {c:Nat} {bs:List Nat} (h:RB w P (some ad) c bs) (hi:1<bs.length):w.cell? ⟨ad.block,ad.off+1,none⟩=some (.int .u8 (bs.getD 1 0:Nat))∧bs.getD 1 0<256:=by
 obtain ⟨ad',h1,h2,h3,h4⟩:=RB.getD h hi
 injection h1 with h1
 subst h1
 exact ⟨by simpa [Addr.add] using h3,h4⟩
theorem name_any (P:Nat→Prop) (A:Option Addr) (c:Nat) (b:List Nat) (w:World) (h:RB w P A c b) :
 Calls Tryz.prog 239 #[.slice A b.length c] w fun e w'=>e=.returned (.bool (nameOf b))∧∃ d,w'=w.drewN d:=by
 obtain ⟨hlc,hc,hl⟩:=h.cap
 have H:=Lib.hid h
 obtain ⟨R,hR⟩:∃ R,nameOf b=R:=⟨_,rfl⟩
 rw [hR]
 have HR:=Lib.hid hR
 clear h hR
 go_enter Tryz.func239,Tryz.ntmps239
 go_wp2
 go_loopw [3,8] (fun v i wr=>∃ (k:Nat) (bg:Bool),k≤b.length∧i=.int .i64 k∧v=.bool bg∧nameF true b=nameF bg (b.drop k)∧∃ d,wr=w.drewN d) (fun _ i _=>b.length - (intOf i).toNat)
 case atStart=>exact ⟨0,true,by omega,rfl,rfl,by simp,0,rfl⟩
 case round =>
  obtain ⟨k,bg,hk,rfl,rfl,hN,d,rfl⟩:=hrel
  by_cases hlt:k<b.length
  · obtain ⟨ad,rfl,-,hx,hx2⟩:=(H.out.keep (w':=w.drewN d) fun _ _=>rfl).at_ hlt
    obtain ⟨x,hxe⟩:∃ x,b[k]=x:=⟨_,rfl⟩
    rw [hxe] at hx hx2
    have HN:=Lib.hid (hN.trans (name_step hlt hxe))
    have q1:(k:Int)<(b.length:Int):=by omega
    clear hN hxe
    by_cases h1:bg=true∧x=128
    · obtain ⟨rfl,rfl⟩:=h1
      have hR:false=R:=by rw [←HR.out];unfold nameOf;rw [HN.out];simp
      subst hR
      go_wp2
      go_ret
      exact ⟨rfl,d,rfl⟩
    · have hN2:=Lib.hid (HN.out.trans (if_neg (by simpa using h1)))
      have g2:((x:Int)<128)=(x<128):=by simp;omega
      cases bg
      · go_wp2
        go_roundw
        case rel=>exact ⟨k+1,decide (x<128),by omega,by go_num,by simp [],hN2.out,d,rfl⟩
        case measure=>simp [intOf];omega
      · have g1:¬ (x:Int)=128:=by simp at h1;omega
        have g1':((x:Int)==128)=false:=by simpa using g1
        go_wp2
        go_roundw
        case rel=>exact ⟨k+1,decide (x<128),by omega,by go_num,by simp [],hN2.out,d,rfl⟩
        case measure=>simp [intOf];omega
  · obtain rfl:k=b.length:=by omega
    have hR:(decide (0<b.length) && bg)=R:=by rw [←HR.out];unfold nameOf;rw [hN];simp [nameF]
    clear hN
    by_cases h0:0<b.length
    · have hR':bg=R:=by simpa [h0] using hR
      subst hR'
      have h0':(0:Int)<(b.length:Int):=by omega
      go_wp2
      go_ret
      exact ⟨rfl,d,rfl⟩
    · have hR':false=R:=by simpa [h0] using hR
      subst hR'
      have h0':¬ (0:Int)<(b.length:Int):=by omega
      go_wp2
      go_ret
      exact ⟨rfl,d,rfl⟩
end Go.Proofs.YtendnkpiidhogaaGreat.Der

namespace Go.Proofs.YtendnkpiidhogaaGreat.Der
open Go.RowKit Go.Shelf
attribute [local go_sem] Oper.semAt_some
theorem plain_any (P:Nat→Prop) (A:Option Addr) (c tag:Nat) (b:List Nat) (w:World) (h:RB w P A c b) :
 Calls Tryz.prog 234 #[.int .i64 tag,.slice A b.length c] w fun e w'=>e=.returned (.bool (plainOf tag b))∧∃ d,w'=w.drewN d:=by
 obtain ⟨hlc,hc,hl⟩:=h.cap
 have H:=Lib.hid h
 have HN:=Lib.hid (name_any P A c b w h)
 obtain ⟨R,hR⟩:∃ R,plainOf tag b=R:=⟨_,rfl⟩
 rw [hR]
 have fin:∀ {v:Bool},v=R→Ending.returned (.bool v)=Ending.returned (.bool R)∧∃ d,w=w.drewN d:=fun h=>⟨by rw [h],0,rfl⟩
 obtain ⟨n,hn⟩:∃ n,b.length=n:=⟨_,rfl⟩
 rw [hn] at hlc hl HN ⊢
 have Hn:=Lib.hid hn
 clear h hn
 obtain ⟨z,hz⟩:∃ z:Int,(tag:Int)=z:=⟨_,rfl⟩
 rw [hz]
 by_cases t2:tag=2
 · subst t2
   obtain rfl:z=2:=hz.symm
   clear hz
   unfold plainOf at hR
   rw [if_pos rfl,Hn.out] at hR
   by_cases h0:n=0
   · have hR':false=R:=by rw [←hR];simp [h0]
     subst h0
     clear hR
     subst hR'
     go_enter Tryz.func234,Tryz.ntmps234
     go_wp2
     go_ret
     exact fin rfl
   have h0':(0:Int)<(n:Int):=by omega
   have h0'':0<n:=by omega
   obtain ⟨ad,rfl,-,x0,y0⟩:=RB.get0 H.out (by rw [Hn.out];omega)
   obtain ⟨b0,hb0⟩:∃ x,b.getD 0 0=x:=⟨_,rfl⟩
   rw [hb0] at x0 y0 hR
   by_cases h1:b0<128
   rotate_left
   · have hR':false=R:=by rw [←hR];simp [h1]
     have h1':¬ (b0:Int)<128:=by omega
     clear hR
     subst hR'
     go_enter Tryz.func234,Tryz.ntmps234
     go_wp2
     go_ret
     exact fin rfl
   have h1':(b0:Int)<128:=by omega
   by_cases h2:0<b0
   · have hR':true=R:=by rw [←hR];simp [h0'',h1,h2]
     have h2':(0:Int)<(b0:Int):=by omega
     clear hR
     subst hR'
     go_enter Tryz.func234,Tryz.ntmps234
     go_wp2
     go_ret
     exact fin rfl
   have h2':¬ (0:Int)<(b0:Int):=by omega
   by_cases h3:n=1
   · have hR':true=R:=by rw [←hR];simp [h1,h2,h3]
     subst h3
     clear hR
     subst hR'
     go_enter Tryz.func234,Tryz.ntmps234
     go_wp2
     go_ret
     exact fin rfl
   have h3':((n:Int)==1)=false:=beq_eq_false_iff_ne.2 (by omega)
   have h4:1<n:=by omega
   have h4':(1:Int)<(n:Int):=by omega
   obtain ⟨x1,y1⟩:=RB.get1 H.out (by rw [Hn.out];omega)
   obtain ⟨b1,hb1⟩:∃ x,b.getD 1 0=x:=⟨_,rfl⟩
   rw [hb1] at x1 y1 hR
   have hR':decide (128≤b1)=R:=by rw [←hR];simp [h0'',h1,h2,h3]
   by_cases h5:128≤b1
   · have h5':(128:Int)≤(b1:Int):=by omega
     have hR2:true=R:=by rw [←hR'];simp [h5]
     clear hR hR'
     subst hR2
     go_enter Tryz.func234,Tryz.ntmps234
     go_wp2
     go_ret
     exact fin rfl
   · have h5':¬ (128:Int)≤(b1:Int):=by omega
     have hR2:false=R:=by rw [←hR'];simp [h5]
     clear hR hR'
     subst hR2
     go_enter Tryz.func234,Tryz.ntmps234
     go_wp2
     go_ret
     exact fin rfl
 have t2':(z==2)=false:=beq_eq_false_iff_ne.2 (by omega)
 by_cases t3:tag=3
 · subst t3
   obtain rfl:z=3:=hz.symm
   clear hz
   unfold plainOf at hR
   rw [if_neg (by omega),if_pos rfl,Hn.out] at hR
   by_cases h0:n=0
   · have hR':false=R:=by rw [←hR];simp [h0]
     subst h0
     clear hR t2 t2'
     subst hR'
     go_enter Tryz.func234,Tryz.ntmps234
     go_wp2
     go_ret
     exact fin rfl
   have h0':(0:Int)<(n:Int):=by omega
   have h0'':0<n:=by omega
   obtain ⟨ad,rfl,-,x0,y0⟩:=RB.get0 H.out (by rw [Hn.out];omega)
   obtain ⟨b0,hb0⟩:∃ x,b.getD 0 0=x:=⟨_,rfl⟩
   rw [hb0] at x0 y0 hR
   have hR':(b0==0)=R:=by rw [←hR];simp [h0'']
   by_cases h5:b0=0
   · subst h5
     have hR2:true=R:=by rw [←hR'];simp
     clear hR hR' t2 t2'
     subst hR2
     go_enter Tryz.func234,Tryz.ntmps234
     go_wp2
     go_ret
     exact fin rfl
   · have h5':((b0:Int)==0)=false:=by simp;omega
     have hR2:false=R:=by rw [←hR'];simp [h5]
     clear hR hR' t2 t2'
     subst hR2
     go_enter Tryz.func234,Tryz.ntmps234
     go_wp2
     go_ret
     exact fin rfl
 have t3':(z==3)=false:=beq_eq_false_iff_ne.2 (by omega)
 by_cases t4:tag=4
 · subst t4
   obtain rfl:z=4:=hz.symm
   clear hz
   have hR2:true=R:=by rw [←hR];rfl
   clear hR t2 t2' t3 t3'
   subst hR2
   go_enter Tryz.func234,Tryz.ntmps234
   go_wp2
   go_ret
   exact fin rfl
 have t4':(z==4)=false:=beq_eq_false_iff_ne.2 (by omega)
 by_cases t5:tag=5
 · subst t5
   obtain rfl:z=5:=hz.symm
   clear hz
   have hR':(n==0)=R:=by rw [←hR,←Hn.out];rfl
   clear hR t2 t2' t3 t3' t4 t4'
   by_cases h0:n=0
   · subst h0
     have hR2:true=R:=by rw [←hR'];simp
     clear hR'
     subst hR2
     go_enter Tryz.func234,Tryz.ntmps234
     go_wp2
     go_ret
     exact fin rfl
   · have h0':((n:Int)==0)=false:=beq_eq_false_iff_ne.2 (by omega)
     have hR2:false=R:=by rw [←hR'];simp [h0]
     clear hR'
     subst hR2
     go_enter Tryz.func234,Tryz.ntmps234
     go_wp2
     go_ret
     exact fin rfl
 have t5':(z==5)=false:=beq_eq_false_iff_ne.2 (by omega)
 by_cases t6:tag=6
 · subst t6
   obtain rfl:z=6:=hz.symm
   clear hz
   have hR':nameOf b=R:=by rw [←hR];rfl
   rw [hR'] at HN
   clear hR t2 t2' t3 t3' t4 t4' t5 t5' hR'
   go_enter Tryz.func234,Tryz.ntmps234
   go_wp2_with fail
   refine HN.out.mono ?_
   rintro e w1 ⟨rfl,d,rfl⟩
   go_wp2
   go_ret
   exact ⟨rfl,d,rfl⟩
 have t6':(z==6)=false:=beq_eq_false_iff_ne.2 (by omega)
 have hR2:false=R:=by rw [←hR];unfold plainOf;rw [if_neg t2,if_neg t3,if_neg t4,if_neg t5,if_neg t6]
 clear hR t2 t3 t4 t5 t6 hz
 subst hR2
 go_enter Tryz.func234,Tryz.ntmps234
 go_wp2
 go_ret
 exact fin rfl
end Go.Proofs.YtendnkpiidhogaaGreat.Der

namespace Go.Proofs.YtendnkpiidhogaaGreat.Der
open Go.RowKit Go.Shelf
attribute [local go_sem] Oper.semAt_some
theorem or_i64 (a x:Nat) (ha:a<4294967296) (hx:x<256):bits .or .i64 ((a:Int)*256) (x:Int)=((256*a+x:Nat):Int):=by
 have h1:(BitVec.ofInt 64 ((a:Int)*256)).toNat=a*256:=by
  rw [show (a:Int)*256=((a*256:Nat):Int) by omega,BitVec.ofInt_natCast,BitVec.toNat_ofNat];exact Nat.mod_eq_of_lt (by omega)
 have h2:(BitVec.ofInt 64 (x:Int)).toNat=x:=by
  rw [BitVec.ofInt_natCast,BitVec.toNat_ofNat];exact Nat.mod_eq_of_lt (by omega)
 have h3:a*256 ||| x=256*a+x:=by
  have:=Nat.shiftLeft_add_eq_or_of_lt (b:=x) (i:=8) (by omega) a
  rw [Nat.shiftLeft_eq] at this
  rw [←this];omega
 show IntKind.i64.wrap ((BitVec.ofInt 64 ((a:Int)*256) ||| BitVec.ofInt 64 (x:Int)).toNat:Int)=_
 rw [BitVec.toNat_or,h1,h2,h3,IntKind.wrap_i64]
 omega
def HeadP (R:Option (Nat×List Nat×List Nat)) (P:Nat→Prop) (e:Ending) (w':World):Prop :=
 match R with
 | none=>e=.returned (.tuple #[.int .i64 0,.slice none 0 0,.slice none 0 0,.bool false])
 | some (t,h,r)=>∃ A1 c1 A2 c2,e=.returned (.tuple #[.int .i64 t,.slice A1 h.length c1,.slice A2 r.length c2,.bool true])∧RB w' P A1 c1 h∧RB w' P A2 c2 r∧t<256
theorem rb_mid {w:World} {P:Nat→Prop} {A:Option Addr} {c:Nat} {bs:List Nat} (h:RB w P A c bs) {k m c':Nat} (hkm:k≤m) (hm:m≤bs.length) (hc:m - k≤c') (hc':c'≤maxLen) {A':Option Addr} (hA:k<m→A'=A.map (·.add k)):RB w P A' c' ((bs.drop k).take (m - k)):=by
 have h1:=h.1.sub hkm hm hc hc' (A':=A') (by simpa using hA)
 have e:((bys bs).drop (k*1)).take ((m - k)*1)=bys ((bs.drop k).take (m - k)):=by simp [bys,List.map_take,List.map_drop]
 rw [e] at h1
 have hl:((bs.drop k).take (m - k)).length=m - k:=by rw [List.length_take,List.length_drop];omega
 refine ⟨by rw [hl];exact h1,fun b hb=>h.2.1 b (List.mem_of_mem_drop (List.mem_of_mem_take hb)),by rw [hl];have:=h.2.2;omega⟩
theorem rb_from {w:World} {P:Nat→Prop} {A:Option Addr} {c:Nat} {bs:List Nat} (h:RB w P A c bs) {k c':Nat} (hk:k≤bs.length) (hc:bs.length - k≤c') (hc':c'≤maxLen) {A':Option Addr} (hA:k<bs.length→A'=A.map (·.add k)):RB w P A' c' (bs.drop k):=by
 have:=rb_mid h hk (Nat.le_refl _) hc hc' hA
 rwa [List.take_of_length_le (by simp)] at this
theorem slice_from {w:World} {P:Nat→Prop} {A:Option Addr} {c N:Nat} {b:List Nat} (h:RB w P A c b) (hN:b.length=N) {k m:Nat} (hk:N=k+m):∃ A2,(∀ W,(Instr.slice 33 (.slice A N c) (some (.int .i64 (k:Int))) none none).run Tryz.prog W=.ok (.slice A2 m (c - k)) W)∧RB w P A2 (c - k) (b.drop k):=by
 obtain ⟨h1,h2,h3⟩:=h.cap
 refine ⟨if c=k then A else A.map (·.add k),fun W=>?_,rb_from h (by omega) (by omega) (by unfold maxLen;omega) (fun hlt=>by rw [if_neg (by omega)])⟩
 rw [run_slice_l W 33 A N c (by kernel_rfl) .i64 (k:Int) (by omega) (by omega)]
 rw [show ((sizeOf (Tryz.prog.elem 33)).run Tryz.prog W)=.ok 1 W by kernel_rfl]
 simp only [Result.andThen_ok,sliced,Int.toNat_natCast,Nat.mul_one]
 rw [show N - k=m by omega]
theorem slice_to {w:World} {P:Nat→Prop} {A:Option Addr} {c N:Nat} {b:List Nat} (h:RB w P A c b) (hN:b.length=N) {k:Nat} (hk:k≤N):(∀ W,(Instr.slice 33 (.slice A N c) none (some (.int .i64 (k:Int))) none).run Tryz.prog W=.ok (.slice A k c) W)∧RB w P A c (b.take k):=by
 obtain ⟨h1,h2,h3⟩:=h.cap
 refine ⟨fun W=>?_,?_⟩
 · rw [run_slice_h W 33 A N c (by kernel_rfl) .i64 (k:Int) (by omega) (by omega)]
   rw [show ((sizeOf (Tryz.prog.elem 33)).run Tryz.prog W)=.ok 1 W by kernel_rfl]
   have e:(if c=0 then A else A.map (·.add (0*1)))=A:=by
    split
    · rfl
    · cases A <;> simp [Addr.add]
   simp only [Result.andThen_ok,sliced,Int.toNat_natCast,e,Nat.sub_zero]
 · have:=rb_mid h (k:=0) (m:=k) (c':=c) (A':=A) (by omega) (by omega) (by omega) (by unfold maxLen;omega) (fun _=>by cases A <;> simp [Addr.add])
   simpa using this
theorem be_take {b:List Nat} {k:Nat} (hk:k<b.length) (n:Nat):be n (b.take (k+1))=256*be n (b.take k)+b.getD k 0:=by
 have happ:∀ (l:List Nat) (n x:Nat),be n (l++[x])=256*be n l+x:=by
  intro l
  induction l with
  | nil=>intro n x;rfl
  | cons y l ih=>intro n x;rw [List.cons_append,be,ih,be]
 rw [List.take_succ_eq_append_getElem hk,happ,gD _ _ hk]
theorem headP_some {R:Option (Nat×List Nat×List Nat)} {P:Nat→Prop} {w':World} {t n m:Nat} {rest:List Nat} {A1 A2:Option Addr} {c1 c2:Nat} (hR:R=some (t,rest.take n,rest.drop n)) (hm:rest.length=m) (hn:n≤m) (ht:t<256) (h1:RB w' P A1 c1 (rest.take n)) (h2:RB w' P A2 c2 (rest.drop n)) :
 HeadP R P (.returned (.tuple #[.int .i64 t,.slice A1 n c1,.slice A2 (m - n) c2,.bool true])) w':=by
 subst hR
 refine ⟨A1,c1,A2,c2,?_,h1,h2,ht⟩
 rw [List.length_take,List.length_drop,hm,Nat.min_eq_left hn]
theorem head_short {t n:Nat} {rest:List Nat} (h:n<128):headOf (t :: n :: rest)=cutAt t n rest:=if_pos h
theorem head_bad {t n:Nat} {rest:List Nat} (h:¬ n<128) (h2:n - 128<1∨3<n - 128∨rest.length<n - 128∨rest.getD 0 0=0):headOf (t :: n :: rest)=none:=(if_neg h).trans (if_pos h2)
theorem head_low {t n z:Nat} {rest:List Nat} (h:¬ n<128) (h2:¬ (n - 128<1∨3<n - 128∨rest.length<n - 128∨rest.getD 0 0=0)) (hz:be 0 (rest.take (n - 128))=z) (h3:z<128):headOf (t :: n :: rest)=none:=(if_neg h).trans ((if_neg h2).trans (by rw [hz,if_pos h3]))
theorem head_long {t n z:Nat} {rest:List Nat} (h:¬ n<128) (h2:¬ (n - 128<1∨3<n - 128∨rest.length<n - 128∨rest.getD 0 0=0)) (hz:be 0 (rest.take (n - 128))=z) (h3:¬ z<128):headOf (t :: n :: rest)=cutAt t z (rest.drop (n - 128)):=(if_neg h).trans ((if_neg h2).trans (by rw [hz,if_neg h3]))
theorem cutAt_no {t n:Nat} {rest:List Nat} (h:rest.length<n):cutAt t n rest=none:=if_pos h
theorem cutAt_yes {t n:Nat} {rest:List Nat} (h:n≤rest.length):cutAt t n rest=some (t,rest.take n,rest.drop n):=if_neg (by omega)
theorem head_any (P:Nat→Prop) (A:Option Addr) (c:Nat) (b:List Nat) (w:World) (h:RB w P A c b) (_hP:∀ q,P q→q<w.heap.size) :
 Calls Tryz.prog 233 #[.slice A b.length c] w fun e w'=>HeadP (headOf b) P e w'∧Below w.heap.size w w':=by
 obtain ⟨hlc,hc,hl⟩:=h.cap
 obtain ⟨R,hR⟩:∃ R,headOf b=R:=⟨_,rfl⟩
 rw [hR]
 by_cases hsh:b.length<2
 · have hR2:none=R:=by
    rw [←hR]
    rcases b with _ | ⟨x,_ | ⟨y,r⟩⟩
    · rfl
    · rfl
    · simp at hsh;omega
   subst hR2
   obtain ⟨N,hN⟩:∃ N,b.length=N:=⟨_,rfl⟩
   rw [hN] at hsh ⊢
   have hsh':(N:Int)<2:=by omega
   clear h hR hN hlc hl
   go_enter Tryz.func233,Tryz.ntmps233
   go_wp2
   refine bodyPost_ret (v:=.tuple #[.int .i64 0,.slice none 0 0,.slice none 0 0,.bool false]) (by simp [results,Tryz.results233,go_sem]) rfl ?_
   exact ⟨rfl,Below.refl _ _⟩
 obtain ⟨t,n,rest,rfl⟩:∃ t n rest,b=t :: n :: rest:=by
  rcases b with _ | ⟨x,_ | ⟨y,r⟩⟩
  · simp at hsh
  · simp at hsh
  · exact ⟨x,y,r,rfl⟩
 obtain ⟨ad,rfl,-,x0,y0⟩:=RB.get0 h (by simp)
 obtain ⟨x1,y1⟩:=RB.get1 h (by simp)
 simp only [List.getD_cons_zero,List.getD_cons_succ] at x0 y0 x1 y1
 obtain ⟨m,hm⟩:∃ m,rest.length=m:=⟨_,rfl⟩
 obtain ⟨N,hN⟩:∃ N,(t :: n :: rest).length=N:=⟨_,rfl⟩
 have hNm:N=2+m:=by rw [←hN,←hm];simp;omega
 obtain ⟨A2,hs2,hr2⟩:=slice_from h hN (k:=2) (m:=m) hNm
 have hr2:RB w P A2 (c - 2) rest:=hr2
 obtain ⟨c2,hc2⟩:∃ c2,c - 2=c2:=⟨_,rfl⟩
 rw [hc2] at hs2 hr2
 have hs2:∀ (W:World),(Instr.slice 33 (.slice (some ad) N c) (some (.int .i64 2)) none none).run Tryz.prog W=.ok (.slice A2 m c2) W:=hs2
 rw [hN] at hlc hl hsh ⊢
 have g0:¬ (N:Int)<2:=by omega
 have g1:(0:Int)<(N:Int):=by omega
 have g2:(1:Int)<(N:Int):=by omega
 have HR2:=Lib.hid hr2
 have HRe:=Lib.hid hR
 have Hm:=Lib.hid hm
 clear hR hm hN hc2 h hr2 hNm hsh
 obtain ⟨lc2,mc2,ll2⟩:=HR2.out.cap
 rw [Hm.out] at lc2 ll2
 go_enter Tryz.func233,Tryz.ntmps233
 go_wp2
 go_quiet (fail)
 have HD:=Lib.hid (below_drewN (Below.refl w.heap.size w) nq)
 have HR3:=Lib.hid (HR2.out.keep (w':=w.drewN nq) fun _ _=>rfl)
 have Hy0:=Lib.hid (show t<256 by omega)
 clear x0 x1 hs2 g0 g1 g2 HR2 _hP
 generalize w.drewN nq=w1 at *
 by_cases hn:n<128
 · have HRn:=Lib.hid (HRe.out.symm.trans (head_short hn))
   have hn1:¬ (128:Int)≤(n:Int):=by omega
   by_cases hmn:m<n
   · have hR:R=none:=HRn.out.trans (cutAt_no (by rw [Hm.out];exact hmn))
     subst hR
     have hmn':(m:Int)<(n:Int):=by omega
     go_wp2
     refine bodyPost_ret (v:=.tuple #[.int .i64 0,.slice none 0 0,.slice none 0 0,.bool false]) (by simp [results,Tryz.results233,go_sem]) rfl ?_
     exact ⟨rfl,HD.out⟩
   have hmn':¬ (m:Int)<(n:Int):=by omega
   have hR:R=some (t,rest.take n,rest.drop n):=HRn.out.trans (cutAt_yes (by rw [Hm.out];omega))
   obtain ⟨s1,q1⟩:=slice_to HR3.out Hm.out (k:=n) (by omega)
   obtain ⟨A5,s2,q2⟩:=slice_from HR3.out Hm.out (k:=n) (m:=m - n) (by omega)
   obtain ⟨c5,hc5⟩:∃ c5,c2 - n=c5:=⟨_,rfl⟩
   rw [hc5] at s2 q2
   obtain ⟨m5,hm5⟩:∃ m5,m - n=m5:=⟨_,rfl⟩
   rw [hm5] at s2
   have Q1:=Lib.hid q1
   have Q2:=Lib.hid q2
   have HRR:=Lib.hid hR
   have Hm5:=Lib.hid hm5
   clear q1 q2 hR hc5 hm5
   go_wp2
   go_quiet (fail)
   go_wp2
   refine bodyPost_ret (v:=.tuple #[.int .i64 t,.slice A2 n c2,.slice A5 m5 c5,.bool true]) (by simp [results,Tryz.results233,go_sem]) rfl ?_
   refine ⟨?_,below_drewN HD.out _⟩
   rw [←Hm5.out]
   exact headP_some HRR.out Hm.out (by omega) Hy0.out (Q1.out.keep fun _ _=>rfl) (Q2.out.keep fun _ _=>rfl)
 have hn1:(128:Int)≤(n:Int):=by omega
 obtain ⟨k,hk⟩:∃ k,n - 128=k:=⟨_,rfl⟩
 have hk1:(n:Int) - 128=(k:Int):=by omega
 have hbd:=fun h2=>head_bad (t:=t) (n:=n) (rest:=rest) hn h2
 have hlo:=fun z h2 hz h3=>head_low (t:=t) (n:=n) (z:=z) (rest:=rest) hn h2 hz h3
 have hlg:=fun z h2 hz h3=>head_long (t:=t) (n:=n) (z:=z) (rest:=rest) hn h2 hz h3
 rw [HRe.out,hk,Hm.out] at hbd
 simp only [HRe.out,hk,Hm.out] at hlo hlg
 have HBd:=Lib.hid hbd
 have HLo:=Lib.hid hlo
 have HLg:=Lib.hid hlg
 have Hk:=Lib.hid hk
 have k128:k<128:=by omega
 clear hbd hlo hlg hn hk HRe
 by_cases k1:k<1
 · have hR:R=none:=HBd.out (.inl k1)
   subst hR
   have k1':(k:Int)<1:=by omega
   go_wp2
   refine bodyPost_ret (v:=.tuple #[.int .i64 0,.slice none 0 0,.slice none 0 0,.bool false]) (by simp [results,Tryz.results233,go_sem]) rfl ?_
   exact ⟨rfl,HD.out⟩
 have k1':¬ (k:Int)<1:=by omega
 by_cases k3:3<k
 · have hR:R=none:=HBd.out (.inr (.inl k3))
   subst hR
   have k3':(3:Int)<(k:Int):=by omega
   go_wp2
   refine bodyPost_ret (v:=.tuple #[.int .i64 0,.slice none 0 0,.slice none 0 0,.bool false]) (by simp [results,Tryz.results233,go_sem]) rfl ?_
   exact ⟨rfl,HD.out⟩
 have k3':¬ (3:Int)<(k:Int):=by omega
 by_cases km:m<k
 · have hR:R=none:=HBd.out (.inr (.inr (.inl km)))
   subst hR
   have km':(m:Int)<(k:Int):=by omega
   go_wp2
   refine bodyPost_ret (v:=.tuple #[.int .i64 0,.slice none 0 0,.slice none 0 0,.bool false]) (by simp [results,Tryz.results233,go_sem]) rfl ?_
   exact ⟨rfl,HD.out⟩
 have km':¬ (m:Int)<(k:Int):=by omega
 have hm1:(0:Int)<(m:Int):=by omega
 obtain ⟨ar,rfl,-,x0,y0⟩:=RB.get0 HR3.out (by rw [Hm.out];omega)
 obtain ⟨r0,hr0⟩:∃ r0,rest.getD 0 0=r0:=⟨_,rfl⟩
 rw [hr0] at x0 y0 HBd
 simp only [hr0] at HLo HLg
 by_cases k0:r0=0
 · subst k0
   have hR:R=none:=HBd.out (.inr (.inr (.inr rfl)))
   subst hR
   have x0':w1.cell? ar=some (.int .u8 0):=x0
   clear x0
   go_wp2
   refine bodyPost_ret (v:=.tuple #[.int .i64 0,.slice none 0 0,.slice none 0 0,.bool false]) (by simp [results,Tryz.results233,go_sem]) rfl ?_
   exact ⟨rfl,HD.out⟩
 have k0':((r0:Int)==0)=false:=beq_eq_false_iff_ne.2 (by omega)
 have hno:¬ (k<1∨3<k∨m<k∨r0=0):=by omega
 obtain ⟨s1,q1⟩:=slice_to HR3.out Hm.out (k:=k) (by omega)
 have Q1:=Lib.hid q1
 have Hno:=Lib.hid hno
 clear q1 hno hr0 HBd
 go_wp2
 go_loopw [7,51] (fun v i wr=>∃ j:Nat,j≤k∧i=.int .i64 j∧v=.int .i64 (be 0 (rest.take j):Nat)∧be 0 (rest.take j)<256 ^ j∧wr=w1) (fun _ i _=>k - (intOf i).toNat)
 case atStart=>exact ⟨0,by omega,rfl,rfl,by simp [be],rfl⟩
 case round =>
  obtain ⟨j,hj,rfl,rfl,hb,rfl⟩:=hrel
  by_cases hlt:j<k
  · obtain ⟨ar',er,-,xj,yj⟩:=RB.getD HR3.out (i:=j) (by rw [Hm.out];omega)
    injection er with er
    subst er
    obtain ⟨z,hz⟩:∃ z,be 0 (rest.take j)=z:=⟨_,rfl⟩
    have hz2:=be_take (b:=rest) (k:=j) (by rw [Hm.out];omega) 0
    obtain ⟨x,hx⟩:∃ x,rest.getD j 0=x:=⟨_,rfl⟩
    rw [hx] at xj yj hz2
    rw [hz] at hz2 hb ⊢
    have hp:(256:Nat) ^ j≤65536:=by
     have h3:j≤2:=by omega
     exact Nat.pow_le_pow_right (by omega) h3
    have h1:IntKind.i64.wrap ((z:Int)*256)=(z:Int)*256:=by rw [IntKind.wrap_i64];omega
    have h2:=or_i64 z x (by omega) (by omega)
    have hlt':(j:Int)<(k:Int):=by omega
    have Hz2:=Lib.hid hz2
    have Hb2:=Lib.hid (show 256*z+x<256 ^ (j+1) by rw [Nat.pow_succ];omega)
    clear hz hx hz2 hb hp
    go_wp2
    go_roundw
    case rel=>exact ⟨j+1,by omega,by go_num,by rw [Hz2.out];simp,by rw [Hz2.out];exact Hb2.out,by first | trivial | rfl⟩
    case measure=>simp [intOf];omega
  · obtain rfl:j=k:=by omega
    obtain ⟨z,hz⟩:∃ z,be 0 (rest.take j)=z:=⟨_,rfl⟩
    rw [hz]
    have HLo2:=HLo.out z Hno.out hz
    have HLg2:=HLg.out z Hno.out hz
    have hz3:z<16777216:=by
     rw [hz] at hb
     have:(256:Nat) ^ j≤256 ^ 3:=Nat.pow_le_pow_right (by omega) (by omega)
     omega
    clear hz hb HLo HLg hlt hj
    by_cases hz1:z<128
    · have hR:R=none:=HLo2 hz1
      subst hR
      have hz1':(z:Int)<128:=by omega
      clear HLo2 HLg2
      go_wp2
      refine bodyPost_ret (v:=.tuple #[.int .i64 0,.slice none 0 0,.slice none 0 0,.bool false]) (by simp [results,Tryz.results233,go_sem]) rfl ?_
      exact ⟨rfl,HD.out⟩
    have hz1':¬ (z:Int)<128:=by omega
    have HRn:=Lib.hid (HLg2 hz1)
    clear HLo2 HLg2 s1 Q1
    obtain ⟨A3,s3,q3⟩:=slice_from HR3.out Hm.out (k:=j) (m:=m - j) (by omega)
    obtain ⟨c3,hc3⟩:∃ c3,c2 - j=c3:=⟨_,rfl⟩
    rw [hc3] at s3 q3
    have hm3:(rest.drop j).length=m - j:=by rw [List.length_drop,Hm.out]
    obtain ⟨m3,hm3'⟩:∃ m3,m - j=m3:=⟨_,rfl⟩
    rw [hm3'] at s3 hm3
    obtain ⟨rest3,hr3⟩:∃ r3,rest.drop j=r3:=⟨_,rfl⟩
    rw [hr3] at q3 hm3 HRn
    have Q3:=Lib.hid q3
    have Hm3:=Lib.hid hm3
    obtain ⟨lc3,mc3,ll3⟩:=q3.cap
    rw [hm3] at lc3 ll3
    clear q3 hm3 hc3 hm3' hr3
    go_upto_region 17 with fail
    clear s3
    by_cases hmn:m3<z
    · have hR:R=none:=HRn.out.trans (cutAt_no (by rw [Hm3.out];exact hmn))
      subst hR
      have hmn':(m3:Int)<(z:Int):=by omega
      go_wp2
      refine bodyPost_ret (v:=.tuple #[.int .i64 0,.slice none 0 0,.slice none 0 0,.bool false]) (by simp [results,Tryz.results233,go_sem]) rfl ?_
      exact ⟨rfl,HD.out⟩
    have hmn':¬ (m3:Int)<(z:Int):=by omega
    have hR:R=some (t,rest3.take z,rest3.drop z):=HRn.out.trans (cutAt_yes (by rw [Hm3.out];omega))
    obtain ⟨s1,q1⟩:=slice_to Q3.out Hm3.out (k:=z) (by omega)
    obtain ⟨A5,s2,q2⟩:=slice_from Q3.out Hm3.out (k:=z) (m:=m3 - z) (by omega)
    obtain ⟨c5,hc5⟩:∃ c5,c3 - z=c5:=⟨_,rfl⟩
    rw [hc5] at s2 q2
    obtain ⟨m5,hm5⟩:∃ m5,m3 - z=m5:=⟨_,rfl⟩
    rw [hm5] at s2
    have Q1:=Lib.hid q1
    have Q2:=Lib.hid q2
    have HRR:=Lib.hid hR
    have Hm5:=Lib.hid hm5
    clear q1 q2 hR hc5 hm5
    go_wp2
    go_quiet (fail)
    go_wp2
    refine bodyPost_ret (v:=.tuple #[.int .i64 t,.slice A3 z c3,.slice A5 m5 c5,.bool true]) (by simp [results,Tryz.results233,go_sem]) rfl ?_
    refine ⟨?_,below_drewN HD.out _⟩
    rw [←Hm5.out]
    exact headP_some HRR.out Hm3.out (by omega) Hy0.out (Q1.out.keep fun _ _=>rfl) (Q2.out.keep fun _ _=>rfl)
end Go.Proofs.YtendnkpiidhogaaGreat.Der

namespace Go.Proofs.YtendnkpiidhogaaGreat.Der
open Go.RowKit Go.Shelf
attribute [local go_sem] Oper.semAt_some
mutual
def RD (w:World) (P:Nat→Prop):DN→Value→Prop
 | .mk tag bs kids,v=>∃ A c Ak ck cs,v=.agg #[.int .i64 (tag:Int),.slice A bs.length c,.slice Ak kids.length ck]∧RB w P A c bs∧(tag=48→A=none∧c=0)∧RS w P 3 Ak kids.length ck cs∧RDs w P kids cs
def RDs (w:World) (P:Nat→Prop):List DN→List Value→Prop
 | [],cs=>cs=[]
 | k :: ks,cs=>∃ a b c rest,cs=a :: b :: c :: rest∧RD w P k (.agg #[a,b,c])∧RDs w P ks rest
end
mutual
theorem RD.keep {w w':World} {P:Nat→Prop} (hk:∀ p:Addr,P p.block→w'.cell? p=w.cell? p):∀ {t:DN} {v:Value},RD w P t v→RD w' P t v
  | .mk tag bs kids, v, h => by
    unfold RD at h ⊢
    obtain ⟨A,c,Ak,ck,cs,h1,h2,h3,h4,h5⟩:=h
    exact ⟨A,c,Ak,ck,cs,h1,h2.keep hk,h3,h4.keep hk,RDs.keep hk h5⟩
theorem RDs.keep {w w':World} {P:Nat→Prop} (hk:∀ p:Addr,P p.block→w'.cell? p=w.cell? p):∀ {ks:List DN} {cs:List Value},RDs w P ks cs→RDs w' P ks cs
  | [],cs,h=>by unfold RDs at h ⊢;exact h
  | k :: ks, cs, h => by
    unfold RDs at h ⊢
    obtain ⟨a,b,c,rest,h1,h2,h3⟩:=h
    exact ⟨a,b,c,rest,h1,RD.keep hk h2,RDs.keep hk h3⟩
end
mutual
theorem RD.mono {w:World} {P P':Nat→Prop} (hp:∀ b,P b→P' b):∀ {t:DN} {v:Value},RD w P t v→RD w P' t v
  | .mk tag bs kids, v, h => by
    unfold RD at h ⊢
    obtain ⟨A,c,Ak,ck,cs,h1,h2,h3,h4,h5⟩:=h
    exact ⟨A,c,Ak,ck,cs,h1,h2.mono hp,h3,h4.mono hp,RDs.mono hp h5⟩
theorem RDs.mono {w:World} {P P':Nat→Prop} (hp:∀ b,P b→P' b):∀ {ks:List DN} {cs:List Value},RDs w P ks cs→RDs w P' ks cs
  | [],cs,h=>by unfold RDs at h ⊢;exact h
  | k :: ks, cs, h => by
    unfold RDs at h ⊢
    obtain ⟨a,b,c,rest,h1,h2,h3⟩:=h
    exact ⟨a,b,c,rest,h1,RD.mono hp h2,RDs.mono hp h3⟩
end
theorem RDs.length {w:World} {P:Nat→Prop} : ∀ {ks:List DN} {cs:List Value},RDs w P ks cs→cs.length=ks.length*3
  | [],cs,h=>by unfold RDs at h;simp [h]
  | k :: ks, cs, h => by
    unfold RDs at h
    obtain ⟨a,b,c,rest,rfl,h2,h3⟩:=h
    have:=RDs.length h3
    simp only [List.length_cons]
    omega
theorem RDs.snoc {w:World} {P:Nat→Prop} {a b c:Value} {k:DN} (hk:RD w P k (.agg #[a,b,c])):∀ {ks:List DN} {cs:List Value},RDs w P ks cs→RDs w P (ks++[k]) (cs++[a,b,c])
  | [], cs, h => by
    unfold RDs at h
    subst h
    show RDs w P [k] [a,b,c]
    unfold RDs
    exact ⟨a,b,c,[],rfl,hk,by unfold RDs;rfl⟩
  | k' :: ks, cs, h => by
    unfold RDs at h
    obtain ⟨a',b',c',rest,rfl,h2,h3⟩:=h
    show RDs w P (k' :: (ks++[k])) _
    unfold RDs
    exact ⟨a',b',c',rest++[a,b,c],rfl,h2,RDs.snoc hk h3⟩
theorem RD.shape {w:World} {P:Nat→Prop} {t:DN} {v:Value} (h:RD w P t v):∃ a B1 n1 d1 B2 n2 d2,v=.agg #[.int .i64 a,.slice B1 n1 d1,.slice B2 n2 d2]:=by
 cases t
 unfold RD at h
 obtain ⟨A,c,Ak,ck,cs,h1,-⟩:=h
 exact ⟨_,_,_,_,_,_,_,h1⟩
theorem RD.below {w w':World} {P:Nat→Prop} {t:DN} {v:Value} {B:Nat} (h:RD w P t v) (hb:Below B w w') (hB:∀ q,P q→q<B):RD w' P t v:=RD.keep (fun _ hp=>hb.cell (hB _ hp)) h
structure Bb (s g:Nat) (w w':World):Prop where
 os:w'.os=w.os
 tape:w'.tape=w.tape
 output:w'.output=w.output
 size:w.heap.size≤w'.heap.size
 block:∀ b,b<s→b≠g→w'.heap[b]?=w.heap[b]?
theorem Bb.refl (s g:Nat) (w:World):Bb s g w w:=⟨rfl,rfl,rfl,Nat.le_refl _,fun _ _ _=>rfl⟩
theorem Bb.trans {s g:Nat} {a b c:World} (h:Bb s g a b) (k:Bb s g b c):Bb s g a c :=
 ⟨k.os.trans h.os,k.tape.trans h.tape,k.output.trans h.output,Nat.le_trans h.size k.size,fun i hi hn=>(k.block i hi hn).trans (h.block i hi hn)⟩
theorem Bb.mono {s s' g:Nat} {a b:World} (h:Bb s g a b) (hs:s'≤s):Bb s' g a b:=⟨h.os,h.tape,h.output,h.size,fun i hi hn=>h.block i (Nat.lt_of_lt_of_le hi hs) hn⟩
theorem below_bb {s:Nat} {w w':World} (h:Below s w w') (g:Nat):Bb s g w w':=⟨h.os,h.tape,h.output,h.size,fun b hb _=>h.block b hb⟩
theorem Bb.set {s g:Nat} {a b:World} (h:Bb s g a b) (i:Nat) (v:Value):Bb s g a (b.setCell ⟨g,i,none⟩ v) :=
 ⟨h.os,h.tape,h.output,by simpa [World.setCell] using h.size,fun i hi hn=>(Below.heap_setCell _ _ _ _ (by exact hn)).trans (h.block i hi hn)⟩
theorem Bb.setCell {s g:Nat} {a b:World} (h:Bb s g a b) {p:Addr} (hp:s≤p.block) (v:Value):Bb s g a (b.setCell p v) :=
 ⟨h.os,h.tape,h.output,by simpa [World.setCell] using h.size,fun i hi hn=>(Below.heap_setCell _ _ _ _ (by omega)).trans (h.block i hi hn)⟩
theorem Bb.alloc {s g:Nat} {a b:World} (h:Bb s g a b) (hs:s≤b.heap.size) (o:Obj):Bb s g a (b.alloc o):=h.trans (below_bb ((Below.refl s b).alloc hs o) g)
theorem Bb.cell {s g:Nat} {w w':World} (h:Bb s g w w') {p:Addr} (hp:p.block<s) (hn:p.block≠g):w'.cell? p=w.cell? p:=World.cell?_of_block (h.block _ hp hn)
theorem Bb.rb {s g:Nat} {w w':World} {P:Nat→Prop} {A:Option Addr} {c:Nat} {bs:List Nat} (h:RB w P A c bs) (hb:Bb s g w w') (hP:∀ q,P q→q<s∧q≠g):RB w' P A c bs:=h.keep fun _ hp=>hb.cell (hP _ hp).1 (hP _ hp).2
theorem bset {w:World} {g:Nat} {t:TypeId} {cs:Array Value} (h:w.heap[g]?=some (.cells cs t (0,0))) (i:Nat) (u:Value):(w.setCell ⟨g,i,none⟩ u).heap[g]?=some (.cells (cs.setIfInBounds i u) t (0,0)):=by
 simp [World.setCell,Array.getElem?_modify,h]
theorem set3 {w:World} {s:Nat} {t:TypeId} {a b c:Value} (h:w.heap[s]?=some (.cells #[a,b,c] t (0,0))) (u v x:Value):(((w.setCell ⟨s,0,none⟩ u).setCell ⟨s,1,none⟩ v).setCell ⟨s,2,none⟩ x).heap[s]?=some (.cells #[u,v,x] t (0,0)):=by
 simpa using bset (bset (bset h 0 u) 1 v) 2 x
theorem bclone_any (P:Nat→Prop) (A:Option Addr) (c:Nat) (bs:List Nat) (w:World) (h:RB w P A c bs) (hP:∀ b,P b→b<w.heap.size) :
 Calls Tryz.prog 83 #[.slice A bs.length c] w fun e w'=>∃ A' c',e=.returned (.slice A' bs.length c')∧RB w' (In w.heap.size w'.heap.size) A' c' bs∧Below w.heap.size w w':=by
 obtain ⟨i0,hi,hz0,hz1,hz2⟩:=info_parts info8
 have q22:∀ (w:World) (a:Option Addr) (n c n' c':Nat),(binOp .eql 33 (.slice a n c) (.slice none n' c')).run Tryz.prog w=.ok (.bool a.isNone) w:=fun w a n c n' c'=>Lib.run_eql_slice_nil w _ _ a n c n' c' Tryz.underlying33
 obtain ⟨h1,h2,h3⟩:=h.cap
 have hc0:=h.2.1
 rcases A with _ | ad
 · have hl:bs.length=0:=by
    rcases Nat.eq_zero_or_pos bs.length with h0 | h0
    · exact h0
    · obtain ⟨ad,h,_⟩:=h.1.2.2.2 h0
      cases h
   obtain rfl:=List.eq_nil_of_length_eq_zero hl
   clear hl
   go_enter Tryz.func83,Tryz.ntmps83
   go_wp2
   go_ret
   exact ⟨none,0,rfl,RB.nil_ _ _,Below.refl _ _⟩
 · have h':RS (w.alloc (.cells #[] 5)) P 1 (some ad) bs.length c (bys bs):=h.1.keep fun p hp=>World.cell?_alloc_lt w _ p (hP _ hp)
   clear h
   go_enter Tryz.func83,Tryz.ntmps83
   go_wp2_with (at_builtin;refine wpList_append_rs _ rfl _ _ 33 rfl w.heap.size 5 i0 (.int .u8 0) 1 1 Tryz.underlying33 hi hz0 hz1 hz2 rfl (by decide) _ _ _ rfl (World.ownsRow_made w #[] 0 (Nat.le_refl _) (Nat.zero_le _) rfl) P (some ad) bs.length c (bys bs) rfl h' (by intro u hu;obtain ⟨x,_,rfl⟩:=List.mem_map.1 hu;rfl) bs.length (by omega) (by unfold maxLen;omega) (by omega) (by simp) ?_)
   intro A' c' w1 hown hgrow _
   go_wp2
   go_ret
   exact ⟨A',c',rfl,⟨RS.of_own (by simpa using hown),hc0,h3⟩,((Below.refl _ w).alloc (Nat.le_refl _) _).grown hgrow (by simp) (by intro k hk;simp [Value.ownBlock] at hk;omega)⟩
theorem info_node:(Tryz.prog.info? 172).map (fun i=>(i.zero,i.size,i.bytes))=some (some (.agg #[.int .i64 0,.slice none 0 0,.slice none 0 0]),3,56):=by kernel_rfl
end Go.Proofs.YtendnkpiidhogaaGreat.Der

namespace Go.Proofs.YtendnkpiidhogaaGreat.Der
open Go.RowKit Go.Shelf
attribute [local go_sem] Oper.semAt_some
def NodeP (R:Option (DN×List Nat×Nat)) (P:Nat→Prop) (g s:Nat) (e:Ending) (w':World):Prop :=
  ∃ lf : Int, w'.heap[g]? = some (.cells #[.int .i64 lf] 241 (0, 0)) ∧
    match R with
    | none=>∃ x B1 n1 d1 B2 n2 d2 v2,e=.returned (.tuple #[.agg #[.int .i64 x,.slice B1 n1 d1,.slice B2 n2 d2],v2,.bool false])
    | some (t,r,l)=>lf=(l:Int)∧∃ v A c,e=.returned (.tuple #[v,.slice A r.length c,.bool true])∧RD w' (In s w'.heap.size) t v∧RB w' P A c r
theorem nodeP_none {P:Nat→Prop} {g s n1 d1 n2 d2:Nat} {lf x:Int} {B1 B2:Option Addr} {v2:Value} {w':World} (h:w'.heap[g]?=some (.cells #[.int .i64 lf] 241 (0,0))):NodeP none P g s (.returned (.tuple #[.agg #[.int .i64 x,.slice B1 n1 d1,.slice B2 n2 d2],v2,.bool false])) w':=⟨lf,h,x,B1,n1,d1,B2,n2,d2,v2,rfl⟩
theorem gone3 {w:World} {g s:Nat} {o:Obj} (h:w.heap[g]?=some o) (hn:g≠s) (u v x:Value):(((w.setCell ⟨s,0,none⟩ u).setCell ⟨s,1,none⟩ v).setCell ⟨s,2,none⟩ x).heap[g]?=some o :=
 (Below.heap_setCell _ _ _ _ hn).trans ((Below.heap_setCell _ _ _ _ hn).trans ((Below.heap_setCell _ _ _ _ hn).trans h))
theorem node_stop (z n:Int) (g:Nat) (P:Nat→Prop) (A:Option Addr) (c N:Nat) (w:World) (hz:n=0∨z=16) (hn:0≤n∧n≤1024) (h:w.heap[g]?=some (.cells #[.int .i64 n] 241 (0,0))) :
 Calls Tryz.prog 218 #[.pointer (some ⟨g,0,none⟩),.slice A N c,.int .i64 z] w fun e w'=>NodeP none P g w.heap.size e w'∧Bb w.heap.size g w w':=by
 have hg:=blk_lt h
 have x0:=(Below.heap_alloc w (.cells #[.int .i64 0,.slice none 0 0,.slice none 0 0] 172) g hg).trans h
 have y0:=blk_cell x0 0
 have f0:=blk_free x0 0
 simp at y0
 have x1:=bset x0 0 (.int .i64 (n - 1))
 have hr:=heap_alloc_new w (.cells #[.int .i64 0,.slice none 0 0,.slice none 0 0] 172)
 have hr1:=(Below.heap_setCell (w.alloc (.cells #[.int .i64 0,.slice none 0 0,.slice none 0 0] 172)) ⟨g,0,none⟩ (.int .i64 (n - 1)) w.heap.size (Nat.ne_of_gt hg)).trans hr
 have hB0:Bb w.heap.size g w ((w.alloc (.cells #[.int .i64 0,.slice none 0 0,.slice none 0 0] 172)).setCell ⟨g,0,none⟩ (.int .i64 (n - 1))):=((Bb.refl w.heap.size g w).alloc (Nat.le_refl _) _).set 0 _
 have HB0:=Lib.hid hB0
 have Hr:=Lib.hid hr1
 have Hx1:Hid (((w.alloc (.cells #[.int .i64 0,.slice none 0 0,.slice none 0 0] 172)).setCell ⟨g,0,none⟩ (.int .i64 (n - 1))).heap[g]?=some (.cells #[.int .i64 (n - 1)] 241 (0,0))):=Lib.hid (by simpa using x1)
 have Hsz:Hid (((w.alloc (.cells #[.int .i64 0,.slice none 0 0,.slice none 0 0] 172)).setCell ⟨g,0,none⟩ (.int .i64 (n - 1))).heap.size=w.heap.size+1):=Lib.hid (by simp [World.setCell])
 obtain ⟨s,hs⟩:∃ s,w.heap.size=s:=⟨_,rfl⟩
 rw [hs] at Hr HB0 Hsz hg ⊢
 have Hs:=Lib.hid hs
 clear x0 x1 h hr hr1 hB0 hs
 have z0:=blk_cell Hx1.out 0
 simp at z0
 by_cases h0:n - 1<0
 · go_enter Tryz.func218,Tryz.ntmps218
   go_wp2
   go_step3
   go_upto_region 3 with fail
   rw [Hs.out]
   generalize (w.alloc (.cells #[.int .i64 0,.slice none 0 0,.slice none 0 0] 172)).setCell ⟨g,0,none⟩ (.int .i64 (n - 1))=W1 at *
   have q0:=blk_cell Hr.out 0
   have q1:=blk_cell Hr.out 1
   have q2:=blk_cell Hr.out 2
   have p0:=blk_free Hr.out 0
   have p1:=blk_free Hr.out 1
   have p2:=blk_free Hr.out 2
   simp only [List.getElem?_toArray,List.getElem?_cons_zero,List.getElem?_cons_succ] at q0 q1 q2
   go_wp2
   have r:=set3 Hr.out (.int .i64 0) (.slice none 0 0) (.slice none 0 0)
   have r0:=blk_cell r 0
   have r1:=blk_cell r 1
   have r2:=blk_cell r 2
   simp only [List.getElem?_toArray,List.getElem?_cons_zero,List.getElem?_cons_succ] at r0 r1 r2
   rw [Exit.noGoto_ret]
   refine bodyPost_ret (v:=.tuple #[.agg #[.int .i64 0,.slice none 0 0,.slice none 0 0],.slice none 0 0,.bool false]) (by simp [results,Tryz.results218,go_sem,r0,r1,r2]) rfl ⟨nodeP_none (gone3 Hx1.out (by omega) _ _ _),?_⟩
   exact ((HB0.out.setCell (p:=⟨s,0,none⟩) (Nat.le_refl _) _).setCell (p:=⟨s,1,none⟩) (Nat.le_refl _) _).setCell (p:=⟨s,2,none⟩) (Nat.le_refl _) _
 · have hz16:z=16:=by omega
   subst hz16
   go_enter Tryz.func218,Tryz.ntmps218
   go_wp2
   go_step3
   go_upto_region 3 with fail
   rw [Hs.out]
   generalize (w.alloc (.cells #[.int .i64 0,.slice none 0 0,.slice none 0 0] 172)).setCell ⟨g,0,none⟩ (.int .i64 (n - 1))=W1 at *
   have q0:=blk_cell Hr.out 0
   have q1:=blk_cell Hr.out 1
   have q2:=blk_cell Hr.out 2
   have p0:=blk_free Hr.out 0
   have p1:=blk_free Hr.out 1
   have p2:=blk_free Hr.out 2
   simp only [List.getElem?_toArray,List.getElem?_cons_zero,List.getElem?_cons_succ] at q0 q1 q2
   go_wp2
   have r:=set3 Hr.out (.int .i64 0) (.slice none 0 0) (.slice none 0 0)
   have r0:=blk_cell r 0
   have r1:=blk_cell r 1
   have r2:=blk_cell r 2
   simp only [List.getElem?_toArray,List.getElem?_cons_zero,List.getElem?_cons_succ] at r0 r1 r2
   rw [Exit.noGoto_ret]
   refine bodyPost_ret (v:=.tuple #[.agg #[.int .i64 0,.slice none 0 0,.slice none 0 0],.slice none 0 0,.bool false]) (by simp [results,Tryz.results218,go_sem,r0,r1,r2]) rfl ⟨nodeP_none (gone3 Hx1.out (by omega) _ _ _),?_⟩
   exact ((HB0.out.setCell (p:=⟨s,0,none⟩) (Nat.le_refl _) _).setCell (p:=⟨s,1,none⟩) (Nat.le_refl _) _).setCell (p:=⟨s,2,none⟩) (Nat.le_refl _) _
end Go.Proofs.YtendnkpiidhogaaGreat.Der
