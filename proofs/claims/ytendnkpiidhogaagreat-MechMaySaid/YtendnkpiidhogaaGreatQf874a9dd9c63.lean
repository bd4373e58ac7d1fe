/- The append laws at this program's types. -/
import Derived.Test.YtendnkpiidhogaaGreatQ34a0945ac559
import Derived.Lib.AppendZerosOnto
import Derived.Lib.Overlaps
import Derived.Laws.IdiomCopy
import Derived.Laws.Externs
import Derived.Laws.CopyOwn
import Derived.Deep.RegionLaw
import Derived.TacticsInMore
import Derived.LoopNIn
import Derived.LoopIn
import Derived.ControlIn
import Derived.Shelf.Abstract
import Derived.Deep.RegionHeld3
import Derived.Stop.RegionWithIn
set_option maxRecDepth 100000
set_option maxHeartbeats 16000000
namespace Go.Proofs.YtendnkpiidhogaaGreat.At
open Go.RowKit
theorem _root_.Go.Proofs.YtendnkpiidhogaaGreat.RS.drewN {w:World} {P:Nat→Prop} {size:Nat} {A:Option Addr} {n c:Nat} {cs:List Value} (h:RS w P size A n c cs) (d:Nat):RS (w.drewN d) P size A n c cs:=h
section
variable {w:World} {ops:Array Oper} {rest:List Oper} {o:Oper} {a:Act} {Q:Exit→Act→World→Prop}
theorem app48 (hgd:o.guard=none) (s x:Operand) (ho:o.op=.call { callee:=.builtin .append,args:=#[s,x],argTypes:=#[24,24] }) (base:Nat)
 (v:Value) (n:Nat) (xs:List Value) (hs:a.eval s=v) (hown:w.ownsRow base 37 2 v n xs)
 (B:Nat→Prop) (A:Option Addr) (m c:Nat) (news:List Value) (hx:a.eval x=.slice A m c) (hr:RS w B 2 A m c news) (h1:∀ u∈news,u.oneCell'=true) (k:Nat) (hk:n+m=k) (hb:k≤1099511627776) (hbase:base≤w.heap.size)
 (h:∀ A' c' w',w'.ownsRow base 37 2 (.slice A' k c') k (xs++news)→w.grownBy w' v.ownBlock→((Value.slice A' k c').ownBlock=v.ownBlock∨(Value.slice A' k c').ownBlock=some w.heap.size)→wpList Tryz.prog ops Q rest (a.put o.dst (.slice A' k c')) w'):wpList Tryz.prog ops Q (o :: rest) a w:=by
 obtain ⟨i1,hj,hy0,hy1,hy2⟩:=info_parts info48
 exact wpList_append_rs w hgd s x 24 ho base 37 i1 _ 2 32 Tryz.underlying24 hj hy0 hy1 hy2 rfl (by decide) v n xs hs hown B A m c news hx hr h1 k hk (by unfold maxLen;omega) (by omega) hbase h
theorem app48one {w0:World} {y z:Value} (hgd:o.guard=none) (s x:Operand) (ho:o.op=.call { callee:=.builtin .append,args:=#[s,x],argTypes:=#[24,24] }) (base:Nat)
 (v:Value) (n:Nat) (xs:List Value) (hs:a.eval s=v) (hown:w0.ownsRow base 37 2 v n xs) (d:Nat) (hw:w=(w0.alloc (.cells #[y,z] 37)).drewN d)
 (hx:a.eval x=.slice (some ⟨w0.heap.size,0,none⟩) 1 1) (h1:y.oneCell'=true∧z.oneCell'=true) (hb:n+1≤1099511627776) (hbase:base≤w0.heap.size)
 (h:∀ A' c' w',w'.ownsRow base 37 2 (.slice A' (n+1) c') (n+1) (xs++[y,z])→(w0.alloc (.cells #[y,z] 37)).grownBy w' v.ownBlock→((Value.slice A' (n+1) c').ownBlock=v.ownBlock∨(Value.slice A' (n+1) c').ownBlock=some (w0.alloc (.cells #[y,z] 37)).heap.size)→wpList Tryz.prog ops Q rest (a.put o.dst (.slice A' (n+1) c')) w'):wpList Tryz.prog ops Q (o :: rest) a w:=by
 subst hw
 exact app48 hgd s x ho base v n xs hs (show (w0.alloc _).ownsRow _ _ _ _ _ _ from hown.alloc _) (fun _=>True) _ 1 1 [y,z] hx (RS.drewN (RS.fresh (P:=fun _=>True) #[y,z] 37 2 1 rfl (by unfold maxLen;omega) trivial) d) (by simp [h1]) (n+1) rfl hb (by simp;omega)
  (fun A' c' w' h2 h3 h4=>h A' c' w' h2 ⟨h3.os,h3.tape,h3.output,h3.size,h3.block⟩ h4)
end
def OV (w:World) (base:Nat) (V:Nat→Prop) (A:Option Addr) (c:Nat) (l:List (Int×List Nat)) (cs:List Value):Prop :=
 w.ownsRow base 37 2 (.slice A l.length c) l.length cs∧(∀ b,V b→b<base)∧∀ j x,l[j]?=some x→cs[j*2]?=some (.int .i64 x.1) ∧
  ∃ A' c',cs[j*2+1]?=some (.slice A' x.2.length c')∧RB w V A' c' x.2
theorem OV.nil_ (w:World) (base:Nat) (V:Nat→Prop) (hV:∀ b,V b→b<base):OV w base V none 0 [] []:=⟨World.ownsRow_nil _ _ _ _,hV,by simp⟩
theorem OV.snoc {wr W2 W3:World} {base:Nat} {V:Nat→Prop} {A A':Option Addr} {c c':Nat} {l:List (Int×List Nat)} {cs:List Value} {m:Nat} (h:OV wr base V A c l cs) (hm:l.length=m) (hb:Below wr.heap.size wr W2) {x:Int×List Nat} {Au:Option Addr} {cu:Nat}
 (hu:RB wr V Au cu x.2) (hbase:base≤wr.heap.size)
 (hown:W3.ownsRow base 37 2 (.slice A' (m+1) c') (m+1) (cs++[.int .i64 x.1,.slice Au x.2.length cu])) (hg:W2.grownBy W3 (Value.slice A m c).ownBlock) :
 OV W3 base V A' c' (l++[x]) (cs++[.int .i64 x.1,.slice Au x.2.length cu])∧Below base wr W3:=by
 subst hm
 have hl:=h.1.1
 have hlt:=h.1.lt
 have hs:=hb.size
 have hB3:Below base wr W3:=(hb.mono hbase).grown hg (by omega) (fun g hg=>(hlt g hg).1)
 refine ⟨⟨by simpa using hown,h.2.1,fun j y hy=>?_⟩,hB3⟩
 rcases Nat.lt_or_ge j l.length with hj | hj
 · rw [List.getElem?_append_left hj] at hy
   obtain ⟨h1,A1,c1,h2,h3⟩:=h.2.2 j y hy
   rw [List.getElem?_append_left (by omega),List.getElem?_append_left (by omega)]
   exact ⟨h1,A1,c1,h2,h3.below hB3 h.2.1⟩
 · have hjl:j=l.length:=by
    have:=(List.getElem?_eq_some_iff.1 hy).1
    simp at this
    omega
   subst hjl
   simp at hy
   subst hy
   rw [List.getElem?_append_right (by omega),List.getElem?_append_right (by omega),hl]
   exact ⟨by simp,Au,cu,by simp,hu.below hB3 h.2.1⟩
theorem OV.keep {w w':World} {base:Nat} {V:Nat→Prop} {A:Option Addr} {c:Nat} {l:List (Int×List Nat)} {cs:List Value} (h:OV w base V A c l cs) (hb:Below w.heap.size w w') (hbase:base≤w.heap.size):OV w' base V A c l cs:=by
 refine ⟨own_kept h.1 ⟨hb.os,hb.tape,hb.output,hb.size,fun k hk _=>hb.block k hk⟩,h.2.1,fun j x hx=>?_⟩
 obtain ⟨h1,A',c',h2,h3⟩:=h.2.2 j x hx
 exact ⟨h1,A',c',h2,h3.below hb fun b hb=>Nat.lt_of_lt_of_le (h.2.1 b hb) hbase⟩
theorem OV.ra {w:World} {base:Nat} {V:Nat→Prop} {A:Option Addr} {c:Nat} {l:List (Int×List Nat)} {cs:List Value} (h:OV w base V A c l cs):RA w (fun b=>V b∨In base w.heap.size b) A c l :=
 ⟨cs, (RS.of_own h.1).mono fun b hb => .inr hb, fun j x hx => by
  obtain ⟨h1,A',c',h2,h3⟩:=h.2.2 j x hx
  exact ⟨h1,A',c',h2,h3.mono fun b hb=>.inl hb⟩⟩
def ins (a:Int×List Nat):List (Int×List Nat)→List (Int×List Nat)
 | []=>[a]
 | x :: r=>if a.1<x.1 then a :: x :: r else x :: ins a r
def others (t:Int) (l:List (Int×List Nat)):List (Int×List Nat):=l.filter fun x=>!(x.1==t)
def putOf (l:List (Int×List Nat)) (a:Int×List Nat):List (Int×List Nat):=ins a (others a.1 l)
theorem others_skip {t:Int} {l:List (Int×List Nat)} {k:Nat} (hk:k<l.length) (h:(l[k].1==t)=true):others t (l.drop k)=others t (l.drop (k+1)):=by
 rw [List.drop_eq_getElem_cons hk,others,List.filter_cons,h];rfl
theorem others_take {t:Int} {l:List (Int×List Nat)} {k:Nat} (hk:k<l.length) (h:(l[k].1==t)=false):others t (l.drop k)=l[k] :: others t (l.drop (k+1)):=by
 rw [List.drop_eq_getElem_cons hk,others,List.filter_cons,h];rfl
theorem length_ins (a:Int×List Nat) (l:List (Int×List Nat)):(ins a l).length=l.length+1:=by
 induction l with
 | nil=>rfl
 | cons x r ih=>unfold ins;split <;> simp [ih]
theorem length_putOf (l:List (Int×List Nat)) (a:Int×List Nat):(putOf l a).length≤l.length+1:=by
 rw [putOf,length_ins,others]
 have:=List.length_filter_le (fun x=>!(x.1==a.1)) l
 omega
def putInv (l:List (Int×List Nat)) (a:Int×List Nat) (k:Nat) (out:List (Int×List Nat)) (d:Bool):Prop :=
 putOf l a=out++(if d then others a.1 (l.drop k) else ins a (others a.1 (l.drop k)))
theorem putInv_zero (l:List (Int×List Nat)) (a:Int×List Nat):putInv l a 0 [] false:=by simp [putInv,putOf]
theorem putInv_skip {l:List (Int×List Nat)} {a:Int×List Nat} {k:Nat} {out:List (Int×List Nat)} {d:Bool} (h:putInv l a k out d) (hk:k<l.length) (he:(l[k].1==a.1)=true):putInv l a (k+1) out d:=by
 rw [putInv,others_skip hk he] at h;exact h
theorem putInv_done {l:List (Int×List Nat)} {a:Int×List Nat} {k:Nat} {out:List (Int×List Nat)} (h:putInv l a k out true) (hk:k<l.length) (he:(l[k].1==a.1)=false):putInv l a (k+1) (out++[l[k]]) true:=by
 rw [putInv,others_take hk he] at h;rw [putInv,h];simp
theorem putInv_lo {l:List (Int×List Nat)} {a:Int×List Nat} {k:Nat} {out:List (Int×List Nat)} (h:putInv l a k out false) (hk:k<l.length) (he:(l[k].1==a.1)=false) (hl:¬ a.1<l[k].1):putInv l a (k+1) (out++[l[k]]) false:=by
 rw [putInv,others_take hk he] at h;rw [putInv,h];simp [ins,hl]
theorem putInv_hi {l:List (Int×List Nat)} {a:Int×List Nat} {k:Nat} {out:List (Int×List Nat)} (h:putInv l a k out false) (hk:k<l.length) (he:(l[k].1==a.1)=false) (hl:a.1<l[k].1):putInv l a (k+1) ((out++[a])++[l[k]]) true:=by
 rw [putInv,others_take hk he] at h;rw [putInv,h];simp [ins,hl]
theorem putInv_end_done {l:List (Int×List Nat)} {a:Int×List Nat} {k:Nat} {out:List (Int×List Nat)} (h:putInv l a k out true) (hk:¬ k<l.length):putOf l a=out:=by
 rw [putInv,List.drop_eq_nil_of_le (by omega)] at h;simpa [others] using h
theorem putInv_end {l:List (Int×List Nat)} {a:Int×List Nat} {k:Nat} {out:List (Int×List Nat)} (h:putInv l a k out false) (hk:¬ k<l.length):putOf l a=out++[a]:=by
 rw [putInv,List.drop_eq_nil_of_le (by omega)] at h;simpa [others,ins] using h
def putAt (l:List (Int×List Nat)) (a:Int×List Nat) (k:Nat) (out:List (Int×List Nat)) (p:Nat):Prop :=
 p≤out.length∧putOf l a=out.take p++a :: (out.drop p++others a.1 (l.drop k))
theorem putAt_skip {l:List (Int×List Nat)} {a:Int×List Nat} {k:Nat} {out:List (Int×List Nat)} {p:Nat} (h:putAt l a k out p) (hk:k<l.length) (he:(l[k].1==a.1)=true):putAt l a (k+1) out p:=by
 obtain ⟨h1,h2⟩:=h;rw [others_skip hk he] at h2;exact ⟨h1,h2⟩
theorem putAt_more {l:List (Int×List Nat)} {a:Int×List Nat} {k:Nat} {out:List (Int×List Nat)} {p:Nat} (h:putAt l a k out p) (hk:k<l.length) (he:(l[k].1==a.1)=false):putAt l a (k+1) (out++[l[k]]) p:=by
 obtain ⟨h1,h2⟩:=h
 rw [others_take hk he] at h2
 refine ⟨by simp;omega,?_⟩
 rw [h2,List.take_append_of_le_length h1,List.drop_append_of_le_length h1]
 simp
theorem putAt_hi {l:List (Int×List Nat)} {a:Int×List Nat} {k:Nat} {out:List (Int×List Nat)} (h:putInv l a k out false) (hk:k<l.length) (he:(l[k].1==a.1)=false) (hl:a.1<l[k].1):putAt l a (k+1) (out++[l[k]]) out.length:=by
 rw [putInv,others_take hk he] at h
 refine ⟨by simp,?_⟩
 rw [h]
 simp [ins,hl]
theorem putAt_end {l:List (Int×List Nat)} {a:Int×List Nat} {k:Nat} {out:List (Int×List Nat)} {p:Nat} (h:putAt l a k out p) (hk:¬ k<l.length):putOf l a=out.take p++a :: out.drop p:=by
 obtain ⟨h1,h2⟩:=h
 rw [List.drop_eq_nil_of_le (by omega:l.length≤k)] at h2
 simpa [others] using h2
end Go.Proofs.YtendnkpiidhogaaGreat.At

namespace Go.Proofs.YtendnkpiidhogaaGreat.At
open Go.RowKit
theorem refPut_any (P:Nat→Prop) (A:Option Addr) (c:Nat) (l:List (Int×List Nat)) (a:Int×List Nat) (Aa:Option Addr) (ca:Nat) (w:World) (hv:RA w P A c l) (ha:RB w P Aa ca a.2) (hP:∀ b,P b→b<w.heap.size) (hl:l.length≤1000000) :
 Calls Tryz.prog 18 #[.slice A l.length c,.agg #[.int .i64 a.1,.slice Aa a.2.length ca]] w fun e w'=>∃ A' c' cs,e=.returned (.slice A' (putOf l a).length c')∧OV w' (w.heap.size+1) P A' c' (putOf l a) cs∧Below w.heap.size w w':=by
 obtain ⟨hlc,hc⟩:=hv.cap
 go_enter Tryz.func18,Tryz.ntmps18
 go_wp2
 obtain ⟨w1,hw1⟩:∃ w1,w.alloc (.cells #[.int .i64 a.1,.slice Aa a.2.length ca] 37)=w1:=⟨_,rfl⟩
 have hsz:w1.heap.size=w.heap.size+1:=by rw [←hw1];simp
 have hb1:w1.heap[w.heap.size]?=some (.cells #[.int .i64 a.1,.slice Aa a.2.length ca] 37):=by rw [←hw1];exact heap_alloc_new w _
 have hBw:Below w.heap.size w w1:=by rw [←hw1];exact (Below.refl _ _).alloc (Nat.le_refl _) _
 rw [hw1]
 have Hsz:=Lib.hid hsz
 have Hb1:=Lib.hid hb1
 clear hw1 hsz hb1
 go_loopw [5,6,7] (fun v d i wr=>∃ (k:Nat) (A':Option Addr) (c' n:Nat) (cs:List Value) (out:List (Int×List Nat)) (dn:Bool),k≤l.length∧n≤k+1∧out.length=n∧v=.slice A' n c'∧d=.bool dn∧i=.int .i64 k∧OV wr (w.heap.size+1) P A' c' out cs∧Below (w.heap.size+1) w1 wr∧putInv l a k out dn∧(dn=false→n≤k)) (fun _ _ i _=>l.length - (intOf i).toNat)
 case atStart=>exact ⟨0,none,0,0,[],[],false,Nat.zero_le _,by omega,rfl,rfl,rfl,rfl,OV.nil_ _ _ _ (fun b hb=>by have:=hP b hb;omega),Below.refl _ _,putInv_zero l a,by omega⟩
 case round =>
  obtain ⟨k,A',c',n,cs,out,dn,hk,hn,hout,rfl,rfl,rfl,hO,hB,hI,hdn⟩:=hrel
  have Hout:=Lib.hid hout
  clear hout
  have hs:w.heap.size+1≤wr.heap.size:=by have:=hB.size;have:=Hsz.out;omega
  have hbox:=(hB.block w.heap.size (by omega)).trans Hb1.out
  have x0:=blk_cell hbox 0
  have x1:=blk_cell hbox 1
  simp at x0 x1
  have HI:=Lib.hid hI
  have HO:=Lib.hid hO
  have Hbox:=Lib.hid hbox
  have hBw':=hBw.trans (hB.mono (by omega))
  clear hI hbox
  by_cases hlt:k<l.length
  · obtain ⟨ad,Au,cu,rfl,hb,hc1,hc2,hu⟩:=(hv.below hBw' hP).at_ hlt
    obtain ⟨x,hx⟩:∃ x,l[k]=x:=⟨_,rfl⟩
    rw [hx] at hc1 hc2 hu
    have Hx:=Lib.hid hx
    clear hx
    by_cases he:x.1=a.1
    · have he':(x.1==a.1)=true:=by simp [he]
      have hi:=Lib.hid (putInv_skip HI.out hlt (by rw [Hx.out];exact he'))
      clear he
      go_wp2_with fail
      go_quiet (fail)
      go_wp2
      go_roundw
      case rel=>exact ⟨k+1,A',c',n,cs,out,dn,by omega,by omega,Hout.out,rfl,rfl,by go_num,HO.out,below_drewN hB _,hi.out,fun h=>by have:=hdn h;omega⟩
      case measure=>simp [intOf];omega
    · have he':(x.1==a.1)=false:=by simp [he]
      clear he
      have har:RB wr P Aa ca a.2:=ha.below hBw' hP
      have hadlt:=hP _ hb
      cases dn
      · have hn2:n≤k:=hdn rfl
        by_cases hgt:a.1<x.1
        · have hi:=Lib.hid (putInv_hi HI.out hlt (by rw [Hx.out];exact he') (by rw [Hx.out];exact hgt))
          rw [Hx.out] at hi
          go_wp2_with fail
          go_quiet (fail)
          go_wp2_with fail
          go_quiet (fail)
          go_wp2_with (first
           | (at_builtin;refine app48one (w0:=wr) rfl (.tmp 34) (.tmp 36) rfl (w.heap.size+1) (.slice A' n c') n cs rfl (Hout.out▸HO.out.1) _ rfl rfl ⟨rfl,rfl⟩ (by omega) hs ?_;intro A1 c1 w2 hown2 hg2 hor2;have hW2:=OV.snoc (x:=a) HO.out Hout.out ((Below.refl wr.heap.size wr).alloc (Nat.le_refl _) _) har hs hown2 hg2;clear hown2 hg2 hor2;have y1:w2.cell? (ad.add (k*2))=some (.int .i64 x.1):=(hW2.2.cell (by rw [block_of_add];omega)).trans hc1;have y2:w2.cell? ⟨(ad.add (k*2)).block,(ad.add (k*2)).off+1,none⟩=some (.slice Au x.2.length cu):=(hW2.2.cell (by show (ad.add (k*2)).block<_;rw [block_of_add];omega)).trans hc2;have hs2:=hW2.2.size;have Hl2:=Lib.hid (show (out++[a]).length=n+1 by rw [List.length_append,Hout.out];rfl))
           | (at_builtin;refine app48one (w0:=w2) rfl (.tmp 38) (.tmp 43) rfl (w.heap.size+1) (.slice A1 (n+1) c1) (n+1) _ rfl (Hl2.out▸hW2.1.1) 0 rfl rfl ⟨rfl,rfl⟩ (by omega) (by omega) ?_;intro A2 c2 w3 hown3 hg3 hor3;have hW3:=OV.snoc (x:=x) hW2.1 Hl2.out ((Below.refl w2.heap.size w2).alloc (Nat.le_refl _) _) (hu.below hW2.2 fun b hb=>by have:=hP b hb;omega) (by omega) hown3 hg3;clear hown3 hg3 hor3))
          go_roundw
          case rel=>exact ⟨k+1,A2,c2,n+1+1,_,_,true,by omega,by omega,by simp [Hout.out],rfl,rfl,by go_num,hW3.1,(hB.trans hW2.2).trans hW3.2,hi.out,by simp⟩
          case measure=>simp [intOf];omega
        · have hi:=Lib.hid (putInv_lo HI.out hlt (by rw [Hx.out];exact he') (by rw [Hx.out];exact hgt))
          rw [Hx.out] at hi
          go_wp2_with fail
          go_quiet (fail)
          go_wp2_with fail
          go_quiet (fail)
          go_wp2_with (at_builtin;refine app48one (w0:=wr) rfl (.tmp 38) (.tmp 43) rfl (w.heap.size+1) (.slice A' n c') n cs rfl (Hout.out▸HO.out.1) _ rfl rfl ⟨rfl,rfl⟩ (by omega) hs ?_;intro A1 c1 w2 hown2 hg2 hor2;have hW2:=OV.snoc (x:=x) HO.out Hout.out ((Below.refl wr.heap.size wr).alloc (Nat.le_refl _) _) hu hs hown2 hg2;clear hown2 hg2 hor2)
          go_roundw
          case rel=>exact ⟨k+1,A1,c1,n+1,_,_,false,by omega,by omega,by simp [Hout.out],rfl,rfl,by go_num,hW2.1,hB.trans hW2.2,hi.out,by omega⟩
          case measure=>simp [intOf];omega
      · have hi:=Lib.hid (putInv_done HI.out hlt (by rw [Hx.out];exact he'))
        rw [Hx.out] at hi
        go_wp2_with fail
        go_quiet (fail)
        go_wp2_with fail
        go_quiet (fail)
        go_wp2_with (at_builtin;refine app48one (w0:=wr) rfl (.tmp 38) (.tmp 43) rfl (w.heap.size+1) (.slice A' n c') n cs rfl (Hout.out▸HO.out.1) _ rfl rfl ⟨rfl,rfl⟩ (by omega) hs ?_;intro A1 c1 w2 hown2 hg2 hor2;have hW2:=OV.snoc (x:=x) HO.out Hout.out ((Below.refl wr.heap.size wr).alloc (Nat.le_refl _) _) hu hs hown2 hg2;clear hown2 hg2 hor2)
        go_roundw
        case rel=>exact ⟨k+1,A1,c1,n+1,_,_,true,by omega,by omega,by simp [Hout.out],rfl,rfl,by go_num,hW2.1,hB.trans hW2.2,hi.out,by simp⟩
        case measure=>simp [intOf];omega
  · have har:RB wr P Aa ca a.2:=ha.below hBw' hP
    cases dn
    · have hi:=Lib.hid (putInv_end HI.out hlt)
      go_wp2_with (at_builtin;refine app48one (w0:=wr) rfl (.tmp 47) (.tmp 49) rfl (w.heap.size+1) (.slice A' n c') n cs rfl (Hout.out▸HO.out.1) 0 rfl rfl ⟨rfl,rfl⟩ (by omega) hs ?_;intro A1 c1 w2 hown2 hg2 hor2;have hW2:=OV.snoc (x:=a) HO.out Hout.out ((Below.refl wr.heap.size wr).alloc (Nat.le_refl _) _) har hs hown2 hg2;clear hown2 hg2 hor2)
      go_ret
      have hW3:=hW2.1
      rw [←hi.out] at hW3
      exact ⟨A1,c1,by rw [hi.out,List.length_append,Hout.out];rfl,⟨_,hW3⟩,hBw'.trans (hW2.2.mono (by omega))⟩
    · have hi:=Lib.hid (putInv_end_done HI.out hlt)
      go_wp2
      go_ret
      refine ⟨A',c',cs,?_,?_,hBw'⟩
      · rw [hi.out,Hout.out];rfl
      · rw [hi.out];exact HO.out
end Go.Proofs.YtendnkpiidhogaaGreat.At

namespace Go.Proofs.YtendnkpiidhogaaGreat.At
open Go.RowKit
theorem copied_any (P:Nat→Prop) (a:Int×List Nat) (Aa:Option Addr) (ca:Nat) (w:World) (ha:RB w P Aa ca a.2) (hP:∀ b,P b→b<w.heap.size) :
 Calls Tryz.prog 126 #[.agg #[.int .i64 a.1,.slice Aa a.2.length ca]] w fun e w'=>∃ A' c',e=.returned (.agg #[.int .i64 a.1,.slice A' a.2.length c'])∧RB w' (In w.heap.size w'.heap.size) A' c' a.2∧Below w.heap.size w w':=by
 go_enter Tryz.func126,Tryz.ntmps126
 go_wp2_with fail
 obtain ⟨W,hW⟩:∃ W,(w.alloc (.cells #[.int .i64 a.1,.slice Aa a.2.length ca] 37)).alloc (.cells #[.int .i64 0,.slice none 0 0] 37)=W:=⟨_,rfl⟩
 have hb0:W.heap[w.heap.size]?=some (.cells #[.int .i64 a.1,.slice Aa a.2.length ca] 37):=by
  rw [←hW];exact (Below.heap_alloc _ _ _ (by simp)).trans (heap_alloc_new w _)
 have hb1:W.heap[w.heap.size+1]?=some (.cells #[.int .i64 0,.slice none 0 0] 37):=by
  rw [←hW];have:=heap_alloc_new (w.alloc (.cells #[.int .i64 a.1,.slice Aa a.2.length ca] 37)) (.cells #[.int .i64 0,.slice none 0 0] 37);rwa [World.size_alloc] at this
 have hsz:W.heap.size=w.heap.size+2:=by rw [←hW];simp
 have hBW:Below w.heap.size w W:=by rw [←hW];exact ((Below.refl _ w).alloc (Nat.le_refl _) _).alloc (by simp) _
 rw [hW]
 have x0:=blk_cell hb0 0
 have x1:=blk_cell hb0 1
 have y0:=blk_cell hb1 0
 have y1:=blk_cell hb1 1
 have f0:=blk_free hb1 0
 have f1:=blk_free hb1 1
 simp at x0 x1 y0 y1
 have haW:RB W P Aa ca a.2:=ha.below hBW hP
 have Hcall:=Lib.hid (fun V (hV:RB V P Aa ca a.2) (hs:∀ b,P b→b<V.heap.size)=>clone_any P Aa ca a.2 V hV hs)
 have hPW:∀ b,P b→b<W.heap.size:=fun b hb=>by have:=hP b hb;omega
 have Hsz:=Lib.hid hsz
 have hlt0:w.heap.size<W.heap.size:=by omega
 have hlt1:w.heap.size+1<W.heap.size:=by omega
 clear hW hsz hb0 hb1
 go_region_held3 (fun w'=>w'.cell? ⟨w.heap.size,0,none⟩=some (.int .i64 a.1)∧w'.cell? ⟨w.heap.size,1,none⟩=some (.slice Aa a.2.length ca))
  (first
   | go_keep
   | ((try dsimp only);refine ⟨(hB1.cell (by simp;omega)).trans x0,(hB1.cell (by simp;omega)).trans x1⟩))
  (first
   | (go_at_call 83;refine (Hcall.out _ (by exact haW) (by exact hPW)).mono ?_;rintro e w1 ⟨A1,c1,rfl,hr,hB1⟩;have z0:=(hB1.cell (p:=⟨w.heap.size+1,0,none⟩) (by simp;omega)).trans y0;have z1:=(hB1.cell (p:=⟨w.heap.size+1,1,none⟩) (by simp;omega)).trans y1;have g0:=(hB1.frozen (p:=⟨w.heap.size+1,0,none⟩) (by simp;omega)).trans f0;have g1:=(hB1.frozen (p:=⟨w.heap.size+1,1,none⟩) (by simp;omega)).trans f1;have hs1:=hB1.size))
 go_wp2
 have hs1':W.heap.size≤w1.heap.size:=by simpa using hs1
 have hB1':Below W.heap.size W w1:=⟨hB1.os,hB1.tape,hB1.output,hB1.size,hB1.block⟩
 have hr':RB w1 (In W.heap.size w1.heap.size) A1 c1 a.2:=hr
 refine bodyPost_ret (v:=.agg #[.int .i64 a.1,.slice A1 a.2.length c1]) (by simp [results,Tryz.results126,go_sem,z0,z1]) rfl ⟨A1,c1,rfl,?_,?_⟩
 · refine ((hr'.setCell (p:=⟨w.heap.size+1,0,none⟩) (fun h=>by have:=h.1;simp at this;omega) _).setCell (p:=⟨w.heap.size+1,1,none⟩) (fun h=>by have:=h.1;simp at this;omega) _).mono fun b hb=>⟨by have:=hb.1;omega,by have:=hb.2;simpa [World.setCell] using this⟩
 · exact ((hBW.trans (hB1'.mono (by omega))).setCell (p:=⟨w.heap.size+1,0,none⟩) (by simp) _).setCell (p:=⟨w.heap.size+1,1,none⟩) (by simp) _
end Go.Proofs.YtendnkpiidhogaaGreat.At

namespace Go.Proofs.YtendnkpiidhogaaGreat.At
open Go.RowKit
theorem run_copy_rowN {P:Program} (w:World) (dT sT ty elem:TypeId) (g o dLen dCap:Nat) (a:Addr) (sLen sCap size n:Nat) (cur:Array Value) (t:TypeId) (cs:List Value)
    (hu:P.underlying dT=some (.slice elem)) (hs:(P.info? elem).map (·.size)=some size)
    (hg:w.heap[g]?=some (.cells cur t (0,0))) (hn:n=Nat.min sLen dLen) (hl:cs.length=n*size)
    (hsrc:∀ j v,cs[j]?=some v→w.cell? (a.add j)=some v) (hfit:o+cs.length≤cur.size) (h1:∀ v∈cs,v.oneCell'=true) :
    (Builtin.copy_ #[dT,sT] ty #[.slice (some ⟨g,o,none⟩) dLen dCap,.slice (some a) sLen sCap]).run P w =
      .ok (goInt n) (w.setRow g (cur.toList.take o++cs++cur.toList.drop (o+cs.length)).toArray):=by
  have hld:=run_loadCells_list (P:=P) w a cs hsrc
  have hst:=run_storeCells_at P g o t cs 0 cur w hg (by simpa using hfit) h1
  cases hq:P.info? elem with
  | none=>simp [hq] at hs
  | some i =>
    have hi:i.size=size:=by simpa [hq] using hs
    rw [hl] at hld
    simp [Builtin.copy_,run_underlying hu,Builtin.lenOf,Builtin.firstCells,sizeOf,typeInfo,hq,hi,←hn,hld,hst]
theorem wp_copy_eq {P:Program} (w:World) {o:Oper} {a:Act} {K:Act→World→Prop} {Q:Exit→Act→World→Prop} (d s:Operand) (t t':TypeId)
 (ho:o.op=.call { callee:=.builtin .copy,args:=#[d,s],argTypes:=#[t,t'] }) (v u:Value) (hd:a.eval d=v) (hs:a.eval s=u) {v':Value} {w':World}
 (hr:(Builtin.copy_ #[t,t'] o.type #[v,u]).run P w=.ok v' w') (h:K (a.put o.dst v') w'):o.wp P a w K Q:=by
 unfold Oper.wp execOp
 simp only [ho,resolve,invoke,builtin,Sem.run_bind,Sem.run_pure,Result.andThen_ok,List.map_toArray,List.map_cons,List.map_nil,hd,hs,hr]
 exact h
theorem wpList_copy_eq {P:Program} (w:World) {ops:Array Oper} {rest:List Oper} {o:Oper} {a:Act} {Q:Exit→Act→World→Prop} (hgd:o.guard=none) (d s:Operand) (t t':TypeId)
 (ho:o.op=.call { callee:=.builtin .copy,args:=#[d,s],argTypes:=#[t,t'] }) (v u:Value) (hd:a.eval d=v) (hs:a.eval s=u) {v':Value} {w':World}
 (hr:(Builtin.copy_ #[t,t'] o.type #[v,u]).run P w=.ok v' w') (h:wpList P ops Q rest (a.put o.dst v') w'):wpList P ops Q (o :: rest) a w :=
 wpList_plain hgd fun _ hK=>wp_copy_eq w d s t t' ho v u hd hs hr (hK _ _ h)
theorem step_copy_eq {P:Program} {ops:Array Oper} {o:Oper} {a:Act} {w:World} {K:Act→World→Prop} {Q:Exit→Act→World→Prop} {E:Prop}
 (hg:o.guard=none) (d x:Operand) (dT sT:TypeId) (hop:o.op=Op.call { callee:=Callee.builtin Builtin.copy,args:=#[d,x],argTypes:=#[dT,sT] })
 (v u:Value) (hd:a.eval d=v) (hx:a.eval x=u) {v':Value} {w':World} (hr:(Builtin.copy_ #[dT,sT] o.type #[v,u]).run P w=.ok v' w') (hK:K (a.put o.dst v') w') :
 if Region.wanted o (yielded ops a.tmps)=true then Oper.wp P o a w K Q else E:=by
 have hw:Region.wanted o (yielded ops a.tmps)=true:=by simp [Region.wanted,hg]
 rw [if_pos hw]
 exact wp_copy_eq w d x dT sT hop v u hd hx hr hK
theorem grownBy_setRow {w w1:World} {g:Nat} (h:w.grownBy w1 (some g)) (cs:Array Value):w.grownBy (w1.setRow g cs) (some g) :=
 ⟨h.os,h.tape,h.output,by simpa [World.setRow] using h.size,fun k hk hne=>(setRow_other w1 g k cs (fun e=>hne (by rw [e]))).trans (h.block k hk hne)⟩
def insCells (cur:List Value) (i n:Nat) (y z:Value):List Value :=
 let X1:=cur.take ((i+1)*2)++(cur.drop (i*2)).take ((n - i)*2)++cur.drop ((i+1)*2+(n - i)*2)
 X1.take (i*2)++[y,z]++X1.drop (i*2+2)
theorem insCells_take (cur:List Value) (i n:Nat) (y z:Value) (hi:i<n) (hn:(n+1)*2≤cur.length) :
 (insCells cur i n y z).take ((n+1)*2)=(cur.take (n*2)).take (i*2)++[y,z]++(cur.take (n*2)).drop (i*2):=by
 have h1:(cur.take ((i+1)*2)).length=(i+1)*2:=by simp;omega
 have h2:((cur.drop (i*2)).take ((n - i)*2)).length=(n - i)*2:=by simp;omega
 unfold insCells
 have e1:∀ A B C:List Value,A.length=(i+1)*2→(A++B++C).take (i*2)=A.take (i*2):=fun A B C h=>by
  rw [List.append_assoc,List.take_append_of_le_length (by omega)]
 have e2:∀ A B C:List Value,A.length=(i+1)*2→(A++B++C).drop (i*2+2)=B++C:=fun A B C h=>by
  rw [show i*2+2=A.length by omega,List.append_assoc,List.drop_left]
 simp only [e1 _ _ _ h1,e2 _ _ _ h1]
 rw [List.take_take,show min (i*2) ((i+1)*2)=i*2 by omega,List.take_take,show min (i*2) (n*2)=i*2 by omega]
 have h3:(cur.take (i*2)).length=i*2:=by simp;omega
 rw [←List.append_assoc,List.take_append_of_le_length (by simp;omega),List.take_of_length_le (by simp;omega)]
 congr 1
 rw [List.drop_take]
 congr 1
 omega
theorem insert_room (g n c i G:Nat) (cur:List Value) (y z:Value) (w:World) (hi:i<n) (hroom:n+1≤c) (hn:n≤1000000)
 (hg:w.heap[g]?=some (.cells cur.toArray 37 (0,0))) (hcur:cur.length=c*2) (hG:w.heap[G]?=some (.cells #[y,z] 37 (0,0))) (hne:G≠g) (h1:∀ v∈cur.take (n*2),v.oneCell'=true) (hy:y.oneCell'=true∧z.oneCell'=true) :
 Calls Tryz.prog 127 #[.slice (some ⟨g,0,none⟩) n c,.int .i64 i,.slice (some ⟨G,0,none⟩) 1 1] w fun e w'=>e=.returned (.slice (some ⟨g,0,none⟩) (n+1) c)∧w'.heap[g]?=some (.cells (insCells cur i n y z).toArray 37 (0,0))∧w.grownBy w' (some g):=by
 have hov:∀ (A:Addr) lb cb (W:World),A.block=g→W.shape? G=some (37,2)→W.shape? g=some (37,c*2)→W.frozen? ⟨G,0,none⟩=false→W.frozen? ⟨G,2,none⟩=false→(callFunc 161 #[.slice (some ⟨G,0,none⟩) 1 1,.slice (some A) lb cb]).run Tryz.prog W=.ok (.value (.bool false)) W:=fun A lb cb W hA s1 s2 f1 f2=>by
  rw [run_callFunc_extern Tryz.func161 (by kernel_rfl) (by kernel_rfl) (by kernel_rfl) (e:=Extern.SlicesOverlaps.overlaps #[24,24] #[4]) (by kernel_rfl),
   Lib.run_overlaps_apart W 24 4 37 Tryz.underlying24 2 (fun w=>by kernel_rfl) ⟨G,0,none⟩ A 1 1 lb cb (by rw [hA];exact hne) 37 37 2 (c*2) s1 (by rw [hA];exact s2) (by omega) f1 f2]
  rfl
 have s1:w.shape? G=some (37,2):=by simp [World.shape?,hG]
 have s2:w.shape? g=some (37,c*2):=by simp [World.shape?,hg,hcur]
 have f1:w.frozen? ⟨G,0,none⟩=false:=blk_free hG 0
 have f2:w.frozen? ⟨G,2,none⟩=false:=blk_free hG 2
 have hov1:=fun off lb cb=>hov ⟨g,off,none⟩ lb cb w rfl s1 s2 f1 f2
 have hi48:(Tryz.prog.info? 37).map (·.size)=some 2:=by
  obtain ⟨i1,hj,hy0,hy1,hy2⟩:=info_parts info48
  rw [hj];simp [hy1]
 obtain ⟨X1,hX1⟩:∃ X1,X1=cur.take ((i+1)*2)++(cur.drop (i*2)).take ((n - i)*2)++cur.drop ((i+1)*2+(n - i)*2):=⟨_,rfl⟩
 have hl1:X1.length=c*2:=by rw [hX1];simp;omega
 have hl2:((cur.drop (i*2)).take ((n - i)*2)).length=(n - i)*2:=by simp;omega
 have hX2:insCells cur i n y z=X1.take (i*2)++[y,z]++X1.drop (i*2+2):=by rw [hX1];rfl
 have hcp1:∀ ty,(Builtin.copy_ #[24,24] ty #[.slice (some ⟨g,(i+1)*2,none⟩) (n - i) (c - (i+1)),.slice (some ⟨g,i*2,none⟩) (n+1 - i) (c - i)]).run Tryz.prog w.drew=.ok (goInt ((n - i:Nat):Int)) (w.drew.setRow g X1.toArray):=fun ty=>by
  have:=run_copy_rowN (P:=Tryz.prog) w.drew 24 24 ty 37 g ((i+1)*2) (n - i) (c - (i+1)) ⟨g,i*2,none⟩ (n+1 - i) (c - i) 2 (n - i) cur.toArray 37 ((cur.drop (i*2)).take ((n - i)*2)) Tryz.underlying24 hi48 hg
   (by show n - i = min (n + 1 - i) (n - i); omega) hl2 (fun j v hj => by
    have hadd:(⟨g,i*2,none⟩:Addr).add j=⟨g,i*2+j,none⟩:=by unfold Addr.add;split <;> simp_all
    rw [hadd,show w.drew.cell? _=w.cell? _ from rfl,blk_cell hg]
    rw [List.getElem?_take] at hj
    split at hj
    · rw [List.getElem?_drop] at hj;simpa using hj
    · cases hj) (by rw [hl2];simp;omega) (fun v hv=>h1 v (by rw [show (n - i)*2=n*2 - i*2 by omega,←List.drop_take] at hv;exact List.mem_of_mem_drop hv))
  rw [this,hX1,hl2]
 have hcp2:∀ ty dl dc,1≤dl→(Builtin.copy_ #[24,24] ty #[.slice (some ⟨g,i*2,none⟩) dl dc,.slice (some ⟨G,0,none⟩) 1 1]).run Tryz.prog (w.drew.setRow g X1.toArray)=.ok (goInt 1) ((w.drew.setRow g X1.toArray).setRow g (insCells cur i n y z).toArray):=fun ty dl dc hdl=>by
  have:=run_copy_rowN (P:=Tryz.prog) (w.drew.setRow g X1.toArray) 24 24 ty 37 g (i*2) dl dc ⟨G,0,none⟩ 1 1 2 1 X1.toArray 37 [y,z] Tryz.underlying24 hi48 (setRow_heap w.drew g _ _ 37 _ hg)
   (by show 1=min 1 dl;omega) rfl (World.news_of_block ((setRow_other w.drew g G _ hne).trans hG)) (by simp [hl1];omega) (by simp [hy])
  rw [this,hX2]
  rfl
 have hz2:((i:Int)==(n:Int))=false:=by simp;omega
 have hw1:IntKind.i64.wrap ((i:Int)+1)=(i:Int)+1:=by rw [IntKind.wrap_i64];omega
 have hw2:IntKind.i64.wrap ((n:Int)+1)=(n:Int)+1:=by rw [IntKind.wrap_i64];omega
 have htn:((i:Int)+1).toNat=i+1:=by omega
 have htm:((n:Int)+1).toNat=n+1:=by omega
 have hb1:¬ c=i:=by omega
 have hb2:¬ c=i+1:=by omega
 have hb3:i≤n:=by omega
 have hb4:(0:Int)≤(i:Int)+1:=by omega
 have hb5:(i:Int)+1≤(n:Int)+1:=by omega
 have hb6:(i:Int)≤(n:Int)+1:=by omega
 have Hg:=Lib.hid hg
 have hfin:Hid ((((w.drew.setRow g X1.toArray).setRow g (insCells cur i n y z).toArray)).heap[g]?=some (.cells (insCells cur i n y z).toArray 37 (0,0))∧w.grownBy ((w.drew.setRow g X1.toArray).setRow g (insCells cur i n y z).toArray) (some g)):=⟨setRow_heap _ g _ _ 37 _ (setRow_heap w.drew g _ _ 37 _ hg),grownBy_setRow (grownBy_setRow (⟨rfl,rfl,rfl,Nat.le_refl _,fun _ _ _=>rfl⟩:w.grownBy w.drew (some g)) _) _⟩
 clear hov s1 s2 f1 f2 hG hg hX2 hl1 hl2 hX1
 go_enter Tryz.func127,Tryz.ntmps127
 go_wp2_with fail
 go_region_law (refine step_copy_eq rfl _ _ 24 24 rfl _ _ (by simp [Act.eval,Act.put]) (by simp [Act.eval,Act.put]) (hcp1 _) ?_)
 go_wp2_with (refine wpList_copy_eq _ rfl (.tmp 80) (.tmp 81) 24 24 rfl _ _ rfl rfl (hcp2 _ _ _ (by omega)) ?_)
 go_ret
 exact ⟨rfl,hfin.out⟩
end Go.Proofs.YtendnkpiidhogaaGreat.At

namespace Go.Proofs.YtendnkpiidhogaaGreat.At
open Go.RowKit
theorem wpList_append_eq {P:Program} (w:World) {ops:Array Oper} {rest:List Oper} {o:Oper} {a:Act} {Q:Exit→Act→World→Prop} (hgd:o.guard=none) (d s:Operand) (t t':TypeId)
 (ho:o.op=.call { callee:=.builtin .append,args:=#[d,s],argTypes:=#[t,t'] }) (v u:Value) (hd:a.eval d=v) (hs:a.eval s=u) {v':Value} {w':World}
 (hr:(Builtin.append_ #[t,t'] o.type #[v,u]).run P w=.ok v' w') (h:wpList P ops Q rest (a.put o.dst v') w'):wpList P ops Q (o :: rest) a w :=
 wpList_plain hgd fun K hK=>by
  unfold Oper.wp execOp
  simp only [ho,resolve,invoke,builtin,Sem.run_bind,Sem.run_pure,Result.andThen_ok,List.map_toArray,List.map_cons,List.map_nil,hd,hs,hr]
  exact hK _ _ h
def insNew (R D:List Value) (i:Nat) (y z:Value):List Value :=
 let X1:=R.take (i*2)++[y,z]++R.drop (i*2+2)
 X1.take ((i+1)*2)++D++X1.drop ((i+1)*2+D.length)
theorem insNew_take (R D:List Value) (i n:Nat) (y z:Value) (hi:i<n) (hR:(n+1)*2≤R.length) (hD:D.length=(n - i)*2) :
 (insNew R D i y z).take ((n+1)*2)=R.take (i*2)++[y,z]++D:=by
 unfold insNew
 have h3:(R.take (i*2)).length=i*2:=by simp;omega
 have e1:(R.take (i*2)++[y,z]++R.drop (i*2+2)).take ((i+1)*2)=R.take (i*2)++[y,z]:=by
  rw [List.take_append_of_le_length (by simp;omega),List.take_of_length_le (by simp;omega)]
 simp only [e1]
 rw [List.take_append_of_le_length (by simp;omega),List.take_of_length_le (by simp;omega)]
theorem insert_grow (g n c i G:Nat) (cs:List Value) (y z:Value) (w:World) (hi:i<n) (hnc:n≤c) (hroom:c<n+1) (hn:n≤1000000)
 (hcs:∀ j v,cs[j]?=some v→w.cell? ⟨g,j,none⟩=some v) (hcl:cs.length=n*2) (hgl:g<w.heap.size) (hG:w.heap[G]?=some (.cells #[y,z] 37 (0,0))) (h1:∀ v∈cs,v.oneCell'=true) (hy:y.oneCell'=true∧z.oneCell'=true) :
 Calls Tryz.prog 127 #[.slice (some ⟨g,0,none⟩) n c,.int .i64 i,.slice (some ⟨G,0,none⟩) 1 1] w fun e w'=>∃ c' R,e=.returned (.slice (some ⟨w.heap.size,0,none⟩) (n+1) c')∧n+1≤c'∧c'≤maxLen∧R.length=c'*2∧R.take (i*2)=cs.take (i*2) ∧
  w'.heap[w.heap.size]?=some (.cells (insNew R (cs.drop (i*2)) i y z).toArray 37 (0,0))∧w.grownBy w' none:=by
 obtain ⟨i1,hj,hy0,hy1,hy2⟩:=info_parts info48
 have hi48:(Tryz.prog.info? 37).map (·.size)=some 2:=by rw [hj];simp [hy1]
 have hGl:=blk_lt hG
 obtain ⟨c',hc'⟩:∃ c',c'=grownCap w (n+1) c 37:=⟨_,rfl⟩
 have hc1:n+1≤c':=by rw [hc'];exact grownCap_ge w _ _ _
 have hc2:c'≤maxLen:=by rw [hc'];exact grownCap_le_maxLen w (n+1) c 37 (by unfold maxLen;omega)
 obtain ⟨R,hR⟩:∃ R:List Value,R=cs.take (i*2)++(Builtin.zeroCells (Value.agg #[.int .i64 0,.slice none 0 0]).cells (n+1 - i)).toList++(Builtin.zeroCells (Value.agg #[.int .i64 0,.slice none 0 0]).cells (c' - (n+1))).toList:=⟨_,rfl⟩
 have hRa:(cs.take (i*2)).toArray++Builtin.zeroCells (Value.agg #[.int .i64 0,.slice none 0 0]).cells (n+1 - i)++Builtin.zeroCells (Value.agg #[.int .i64 0,.slice none 0 0]).cells (c' - (n+1))=R.toArray:=by
  rw [hR];apply Array.ext';simp
 have hz2c:(Value.agg #[.int .i64 0,.slice none 0 0]).cells.size=2:=rfl
 have hRl:R.length=c'*2:=by
  rw [hR];simp [size_zeroCells,hz2c];omega
 have hRt:R.take (i*2)=cs.take (i*2):=by
  rw [hR,List.append_assoc,List.take_append_of_le_length (by simp;omega),List.take_take]
  simp
 have hDl:(cs.drop (i*2)).length=(n - i)*2:=by simp;omega
 have hgH:g≠w.heap.size:=by omega
 have hGH:G≠w.heap.size:=by omega
 have hrz:∀ ty,(Builtin.append_ #[24,3] ty #[.slice (some ⟨g,0,none⟩) i c,.int .i64 ((n:Int)+1 - (i:Int))]).run Tryz.prog w =
  .ok (.slice (some ⟨w.heap.size,0,none⟩) (n+1) c') (w.drew.alloc (.cells R.toArray 37)):=fun ty=>by
  have hold:(Builtin.firstCells i1.size i (.slice (some ⟨g,0,none⟩) i c)).run Tryz.prog w.drew=.ok (cs.take (i*2)).toArray w.drew:=by
   rw [hy1]
   exact run_firstCells_some w.drew 2 i ⟨g,0,none⟩ i c (cs.take (i*2)) (by simp;omega) (fun j v hj=>by
    have hadd:(⟨g,0,none⟩:Addr).add j=⟨g,j,none⟩:=by unfold Addr.add;split <;> simp_all
    rw [hadd]
    rw [List.getElem?_take] at hj
    split at hj
    · exact hcs j v hj
    · cases hj)
  have h:=Lib.run_append_grow_zeros w 24 3 ty 37 i1 _ .i64 .i64 Tryz.underlying24 Tryz.underlying3 hj hy0 (some ⟨g,0,none⟩) i c (cs.take (i*2)) hold (n+1 - i) (by omega) (by omega) (by omega) (by omega) (by rw [hy2];omega) (by rw [hy2,show i+(n+1 - i)=n+1 by omega];exact growslice_fits hroom (by omega))
  rw [show i+(n+1 - i)=n+1 by omega,←hc',hRa] at h
  rw [show (n:Int)+1 - (i:Int)=((n+1 - i:Nat):Int) by omega]
  exact h
 obtain ⟨X1,hX1⟩:∃ X1,X1=R.take (i*2)++[y,z]++R.drop (i*2+2):=⟨_,rfl⟩
 have hl1:X1.length=c'*2:=by rw [hX1];simp;omega
 have hX2:insNew R (cs.drop (i*2)) i y z=X1.take ((i+1)*2)++cs.drop (i*2)++X1.drop ((i+1)*2+(cs.drop (i*2)).length):=by rw [hX1];rfl
 have hcpA:∀ (W:World),W.heap[w.heap.size]?=some (.cells R.toArray 37 (0,0))→W.heap[G]?=some (.cells #[y,z] 37 (0,0))→∀ ty dl dc,1≤dl→(Builtin.copy_ #[24,24] ty #[.slice (some ⟨w.heap.size,i*2,none⟩) dl dc,.slice (some ⟨G,0,none⟩) 1 1]).run Tryz.prog W=.ok (goInt 1) (W.setRow w.heap.size X1.toArray):=fun W hW hWG ty dl dc hdl=>by
  have:=run_copy_rowN (P:=Tryz.prog) W 24 24 ty 37 w.heap.size (i*2) dl dc ⟨G,0,none⟩ 1 1 2 1 R.toArray 37 [y,z] Tryz.underlying24 hi48 hW
   (by show 1=min 1 dl;omega) rfl (World.news_of_block hWG) (by simp [hRl];omega) (by simp [hy])
  rw [this,hX1]
  rfl
 have hcpB:∀ (W:World),W.heap[w.heap.size]?=some (.cells X1.toArray 37 (0,0))→(∀ j v,cs[j]?=some v→W.cell? ⟨g,j,none⟩=some v)→∀ ty dc,(Builtin.copy_ #[24,24] ty #[.slice (some ⟨w.heap.size,(i+1)*2,none⟩) (n - i) dc,.slice (some ⟨g,i*2,none⟩) (n - i) (c - i)]).run Tryz.prog W=.ok (goInt ((n - i:Nat):Int)) (W.setRow w.heap.size (insNew R (cs.drop (i*2)) i y z).toArray):=fun W hW hWc ty dc=>by
  have:=run_copy_rowN (P:=Tryz.prog) W 24 24 ty 37 w.heap.size ((i+1)*2) (n - i) dc ⟨g,i*2,none⟩ (n - i) (c - i) 2 (n - i) X1.toArray 37 (cs.drop (i*2)) Tryz.underlying24 hi48 hW
   (by show n - i = min (n - i) (n - i); omega) hDl (fun j v hj => by
    have hadd:(⟨g,i*2,none⟩:Addr).add j=⟨g,i*2+j,none⟩:=by unfold Addr.add;split <;> simp_all
    rw [hadd]
    rw [List.getElem?_drop] at hj
    exact hWc _ v hj) (by rw [hDl];simp [hl1];omega) (fun v hv=>h1 v (List.mem_of_mem_drop hv))
  rw [this,hX2]
 obtain ⟨W1,hW1⟩:∃ W1,W1=(w.alloc (.cells R.toArray 37)).drew:=⟨_,rfl⟩
 have hA1:W1.heap[w.heap.size]?=some (.cells R.toArray 37 (0,0)):=by rw [hW1];exact heap_alloc_new w _
 have hA2:W1.heap[G]?=some (.cells #[y,z] 37 (0,0)):=by rw [hW1];exact (Below.heap_alloc w _ G hGl).trans hG
 have hA3:∀ j v,cs[j]?=some v→W1.cell? ⟨g,j,none⟩=some v:=fun j v h=>by rw [hW1];exact (World.cell?_alloc_lt w _ ⟨g,j,none⟩ hgl).trans (hcs j v h)
 have hA4:w.grownBy W1 (some w.heap.size):=by rw [hW1];exact ⟨rfl,rfl,rfl,by show w.heap.size≤(w.alloc _).heap.size;simp,fun k hk _=>Below.heap_alloc w _ k hk⟩
 have hrz':∀ ty,(Builtin.append_ #[24,3] ty #[.slice (some ⟨g,0,none⟩) i c,.int .i64 ((n:Int)+1 - (i:Int))]).run Tryz.prog w=.ok (.slice (some ⟨w.heap.size,0,none⟩) (n+1) c') W1:=fun ty=>by rw [hW1];exact hrz ty
 clear hrz hW1
 have hcA:=fun ty dl dc h=>hcpA W1 hA1 hA2 ty dl dc h
 have hB1:(W1.setRow w.heap.size X1.toArray).drew.heap[w.heap.size]?=some (.cells X1.toArray 37 (0,0)):=setRow_heap W1 _ _ _ 37 _ hA1
 have hB2:∀ j v,cs[j]?=some v→(W1.setRow w.heap.size X1.toArray).drew.cell? ⟨g,j,none⟩=some v:=fun j v h=>(World.cell?_of_block (w:=W1) (setRow_other W1 _ g _ hgH)).trans (hA3 j v h)
 have hcB:=fun ty dc=>hcpB _ hB1 hB2 ty dc
 have hfin:Hid (((W1.setRow w.heap.size X1.toArray).drew.setRow w.heap.size (insNew R (cs.drop (i*2)) i y z).toArray).heap[w.heap.size]?=some (.cells (insNew R (cs.drop (i*2)) i y z).toArray 37 (0,0))∧w.grownBy ((W1.setRow w.heap.size X1.toArray).drew.setRow w.heap.size (insNew R (cs.drop (i*2)) i y z).toArray) none):=by
  refine ⟨setRow_heap _ _ _ _ 37 _ hB1,?_⟩
  have h2:=grownBy_setRow hA4 X1.toArray
  have h3:w.grownBy (W1.setRow w.heap.size X1.toArray).drew (some w.heap.size):=⟨h2.os,h2.tape,h2.output,h2.size,h2.block⟩
  have h4:=grownBy_setRow h3 (insNew R (cs.drop (i*2)) i y z).toArray
  exact ⟨h4.os,h4.tape,h4.output,h4.size,fun k hk _=>h4.block k hk (by intro e;injection e with e;omega)⟩
 have hz2:((i:Int)==(n:Int))=false:=by simp;omega
 have hw1:IntKind.i64.wrap ((i:Int)+1)=(i:Int)+1:=by rw [IntKind.wrap_i64];omega
 have hw2:IntKind.i64.wrap ((n:Int)+1)=(n:Int)+1:=by rw [IntKind.wrap_i64];omega
 have hw3:IntKind.i64.wrap ((n:Int)+1 - (i:Int))=(n:Int)+1 - (i:Int):=by rw [IntKind.wrap_i64];omega
 have htn:((i:Int)+1).toNat=i+1:=by omega
 have hb1:¬ c=i:=by omega
 have hb1':¬ c'=i:=by omega
 have hb2':¬ c'=i+1:=by omega
 have hb3:i≤n:=by omega
 have hb4:(0:Int)≤(i:Int)+1:=by omega
 have hb5:(i:Int)+1≤(n:Int)+1:=by omega
 have hb6:(i:Int)≤(n:Int)+1:=by omega
 have hb7:(i:Int)≤(n:Int):=by omega
 have hc263:c'≤9223372036854775807:=hc2
 have Hpost:=Lib.hid (And.intro hc1 (And.intro hc2 (And.intro hRl hRt)))
 clear hcpA hcpB hA1 hA2 hA3 hA4 hB1 hB2 hc2 hRl hRt hX1 hX2 hl1 hR hRa hc' hG hcs hcl hDl
 go_enter Tryz.func127,Tryz.ntmps127
 go_wp2_with (first
  | (at_builtin;refine wpList_append_eq _ rfl (.tmp 34) (.tmp 39) 24 3 rfl _ _ rfl rfl (hrz' _) ?_)
  | (refine wpList_copy_eq _ rfl (.tmp 43) (.tmp 44) 24 24 rfl _ _ rfl rfl (hcA _ _ _ (by omega)) ?_))
 go_region_law (refine step_copy_eq rfl _ _ 24 24 rfl _ _ (by simp [Act.eval,Act.put]) (by simp [Act.eval,Act.put]) (hcB _ _) ?_)
 go_wp2
 go_ret
 exact ⟨c',R,rfl,Hpost.out.1,Hpost.out.2.1,Hpost.out.2.2.1,Hpost.out.2.2.2,hfin.out.1,hfin.out.2⟩
theorem insert_end (base n c G:Nat) (A:Option Addr) (cs:List Value) (y z:Value) (w:World) (hn:n≤1000000) (hown:w.ownsRow base 37 2 (.slice A n c) n cs) (hbase:base≤w.heap.size)
 (hG:w.heap[G]?=some (.cells #[y,z] 37 (0,0))) (hy:y.oneCell'=true∧z.oneCell'=true) :
 Calls Tryz.prog 127 #[.slice A n c,.int .i64 n,.slice (some ⟨G,0,none⟩) 1 1] w fun e w'=>∃ A' c',e=.returned (.slice A' (n+1) c')∧w'.ownsRow base 37 2 (.slice A' (n+1) c') (n+1) (cs++[y,z])∧w.grownBy w' (Value.slice A n c).ownBlock ∧
  ((Value.slice A' (n+1) c').ownBlock=(Value.slice A n c).ownBlock∨(Value.slice A' (n+1) c').ownBlock=some w.heap.size):=by
 have hr:RS w (fun _=>True) 2 (some ⟨G,0,none⟩) 1 1 [y,z]:=⟨Nat.le_refl _,by unfold maxLen;omega,rfl,fun _=>⟨_,rfl,trivial,World.news_of_block hG⟩⟩
 have hnc:n≤c∧c≤maxLen:=by have:=RS.of_own hown;exact ⟨this.1,this.2.1⟩
 have hc1:=hnc.1
 have hc2:c≤9223372036854775807:=hnc.2
 clear hG hnc
 by_cases hcn:c=n
 · subst hcn
   go_enter Tryz.func127,Tryz.ntmps127
   go_wp2_with (at_builtin;refine app48 rfl (.tmp 23) (.tmp 24) rfl base (.slice A c c) c cs rfl hown (fun _=>True) (some ⟨G,0,none⟩) 1 1 [y,z] rfl hr (by simp [hy]) (c+1) rfl (by omega) hbase ?_;intro A' c' w1 h2 h3 h4)
   go_ret
   exact ⟨A',c',rfl,h2,h3,h4⟩
 · go_enter Tryz.func127,Tryz.ntmps127
   go_wp2_with (at_builtin;refine app48 rfl (.tmp 23) (.tmp 24) rfl base (.slice A n c) n cs rfl hown (fun _=>True) (some ⟨G,0,none⟩) 1 1 [y,z] rfl hr (by simp [hy]) (n+1) rfl (by omega) hbase ?_;intro A' c' w1 h2 h3 h4)
   go_ret
   exact ⟨A',c',rfl,h2,h3,h4⟩
theorem insert_any (base n c p G:Nat) (A:Option Addr) (cs:List Value) (y z:Value) (w:World) (hp:p≤n) (hn:n≤1000000) (hown:w.ownsRow base 37 2 (.slice A n c) n cs) (hbase:base≤w.heap.size)
 (hG:w.heap[G]?=some (.cells #[y,z] 37 (0,0))) (hne:(Value.slice A n c).ownBlock≠some G) (h1:∀ v∈cs,v.oneCell'=true) (hy:y.oneCell'=true∧z.oneCell'=true) :
 Calls Tryz.prog 127 #[.slice A n c,.int .i64 p,.slice (some ⟨G,0,none⟩) 1 1] w fun e w'=>∃ A' c',e=.returned (.slice A' (n+1) c')∧w'.ownsRow base 37 2 (.slice A' (n+1) c') (n+1) (cs.take (p*2)++[y,z]++cs.drop (p*2))∧w.grownBy w' (Value.slice A n c).ownBlock ∧
  ((Value.slice A' (n+1) c').ownBlock=(Value.slice A n c).ownBlock∨(Value.slice A' (n+1) c').ownBlock=some w.heap.size):=by
 have hl:=hown.1
 by_cases hpn:p=n
 · subst hpn
   rw [List.take_of_length_le (by omega),List.drop_eq_nil_of_le (by omega),List.append_nil]
   exact insert_end base p c G A cs y z w hn hown hbase hG hy
 · obtain ⟨_,⟨e,h0⟩ | ⟨g,cap,cur,e,hg,hh,h5,h6,h7,h8⟩⟩:=hown
   · omega
   · injection e with e1 e2 e3
     subst e1 e3
     have hgl:=blk_lt hh
     by_cases hroom:n+1≤c
     · have hh':w.heap[g]?=some (.cells cur.toList.toArray 37 (0,0)):=by simpa using hh
       refine (insert_room g n c p G cur.toList y z w (by omega) hroom hn hh' (by simpa using h7) hG (by intro e;exact hne (by rw [e];rfl)) (by rw [h8];exact h1) hy).mono ?_
       rintro e w' ⟨rfl,h9,h10⟩
       refine ⟨_,_,rfl,⟨by simp;omega,.inr ⟨g,c,_,rfl,hg,h9,hroom,h6,?_,?_⟩⟩,h10,.inl rfl⟩
       · simp [insCells];omega
       · rw [List.toList_toArray,insCells_take _ _ _ _ _ (by omega) (by simp;omega),h8]
     · refine (insert_grow g n c p G cs y z w (by omega) h5 (by omega) hn (fun j v hj=>?_) hl hgl hG h1 hy).mono ?_
       · rw [blk_cell hh]
         have:cur.toList[j]?=some v:=by
          rw [←h8] at hj
          rw [List.getElem?_take] at hj
          split at hj
          · exact hj
          · cases hj
         simpa using this
       · rintro e w' ⟨c',R,rfl,h9,h10,h11,h12,h13,h14⟩
         refine ⟨_,_,rfl,⟨by simp;omega,.inr ⟨w.heap.size,c',_,rfl,hbase,h13,h9,h10,?_,?_⟩⟩,⟨h14.os,h14.tape,h14.output,h14.size,fun k hk _=>h14.block k hk (by simp)⟩,.inr rfl⟩
         · simp [insNew];omega
         · rw [List.toList_toArray,insNew_take _ _ _ n _ _ (by omega) (by omega) (by simp;omega),h12]
end Go.Proofs.YtendnkpiidhogaaGreat.At

namespace Go.Proofs.YtendnkpiidhogaaGreat.At
open Go.RowKit
def CA (w:World) (V:Nat→Prop) (l:List (Int×List Nat)) (cs:List Value):Prop :=
 ∀ j x,l[j]?=some x→cs[j*2]?=some (.int .i64 x.1)∧∃ A' c',cs[j*2+1]?=some (.slice A' x.2.length c')∧RB w V A' c' x.2
section
variable {w w':World} {V V':Nat→Prop} {l l':List (Int×List Nat)} {cs cs':List Value}
theorem CA.app (h:CA w V l cs) (h':CA w V l' cs') (hl:cs.length=l.length*2):CA w V (l++l') (cs++cs'):=by
 intro j x hx
 rcases Nat.lt_or_ge j l.length with hj | hj
 · rw [List.getElem?_append_left hj] at hx
   rw [List.getElem?_append_left (by omega),List.getElem?_append_left (by omega)]
   exact h j x hx
 · rw [List.getElem?_append_right hj] at hx
   rw [List.getElem?_append_right (by omega),List.getElem?_append_right (by omega),hl,show j*2 - l.length*2=(j - l.length)*2 by omega,show j*2+1 - l.length*2=(j - l.length)*2+1 by omega]
   exact h' _ x hx
theorem CA.take (h:CA w V l cs) (n:Nat):CA w V (l.take n) (cs.take (n*2)):=by
 intro j x hx
 rw [List.getElem?_take] at hx
 split at hx
 · rw [List.getElem?_take,List.getElem?_take,if_pos (by omega),if_pos (by omega)]
   exact h j x hx
 · cases hx
theorem CA.drop (h:CA w V l cs) (n:Nat):CA w V (l.drop n) (cs.drop (n*2)):=by
 intro j x hx
 rw [List.getElem?_drop] at hx
 rw [List.getElem?_drop,List.getElem?_drop,show n*2+j*2=(n+j)*2 by omega,show n*2+(j*2+1)=(n+j)*2+1 by omega]
 exact h _ x hx
theorem CA.keep (h:CA w V l cs) (hk:∀ p:Addr,V p.block→w'.cell? p=w.cell? p) (hV:∀ b,V b→V' b):CA w' V' l cs:=by
 intro j x hx
 obtain ⟨h1,A',c',h2,h3⟩:=h j x hx
 exact ⟨h1,A',c',h2,(h3.keep hk).mono hV⟩
theorem CA.single {x:Int×List Nat} {A:Option Addr} {c:Nat} (h:RB w V A c x.2):CA w V [x] [.int .i64 x.1,.slice A x.2.length c]:=by
 intro j y hy
 have hj:j=0:=by
  have:=(List.getElem?_eq_some_iff.1 hy).1
  simp at this
  omega
 subst hj
 simp at hy
 subst hy
 exact ⟨rfl,A,c,rfl,h⟩
theorem CA.one (h:CA w V l cs) (hl:cs.length=l.length*2):∀ u∈cs,u.oneCell'=true:=by
 intro u hu
 obtain ⟨j,hj⟩:=List.getElem?_of_mem hu
 have hjl:=(List.getElem?_eq_some_iff.1 hj).1
 obtain ⟨h1,A',c',h2,h3⟩:=h (j / 2) _ (List.getElem?_eq_getElem (by omega))
 rcases Nat.mod_two_eq_zero_or_one j with e | e
 · rw [show j / 2*2=j by omega,hj] at h1
   injection h1 with h1
   subst h1
   rfl
 · rw [show j / 2*2+1=j by omega,hj] at h2
   injection h2 with h2
   subst h2
   rfl
end
theorem OA.inserted {wr W2 W3:World} {base:Nat} {A A':Option Addr} {c c':Nat} {l:List (Int×List Nat)} {cs:List Value} {m p:Nat} (h:OA wr base A c l cs) (hm:l.length=m) (hb:Below wr.heap.size wr W2) {x:Int×List Nat} {Au:Option Addr} {cu:Nat}
 (hu:RB W2 (In wr.heap.size W2.heap.size) Au cu x.2) (hbase:base≤wr.heap.size) (hp:p≤m)
 (hown:W3.ownsRow base 37 2 (.slice A' (m+1) c') (m+1) (cs.take (p*2)++[.int .i64 x.1,.slice Au x.2.length cu]++cs.drop (p*2))) (hg:W2.grownBy W3 (Value.slice A m c).ownBlock)
 (hor:(Value.slice A' (m+1) c').ownBlock=(Value.slice A m c).ownBlock∨(Value.slice A' (m+1) c').ownBlock=some W2.heap.size) :
 OA W3 base A' c' (l.take p++[x]++l.drop p) (cs.take (p*2)++[.int .i64 x.1,.slice Au x.2.length cu]++cs.drop (p*2)):=by
 subst hm
 have hl:=h.1.1
 have hlt:=h.1.lt
 have hs:=hb.size
 have hs':=hg.size
 have elen:(l.take p++[x]++l.drop p).length=l.length+1:=by simp;omega
 have kept:∀ (b:Nat),b<W2.heap.size→(Value.slice A l.length c).ownBlock≠some b→W3.heap[b]?=W2.heap[b]?:=fun b h1 h2=>hg.block b h1 (fun e=>h2 e.symm)
 have hold:CA W3 (fun b=>base≤b∧b<W3.heap.size∧(Value.slice A' (l.length+1) c').ownBlock≠some b) l cs:=CA.keep (w:=wr) (V:=fun b=>base≤b∧b<wr.heap.size∧(Value.slice A l.length c).ownBlock≠some b) h.2
  (fun q hq=>(World.cell?_of_block (kept _ (by omega) hq.2.2)).trans (hb.cell hq.2.1))
  (fun b hq => ⟨hq.1, by omega, by
   rcases hor with e | e
   · rw [e];exact hq.2.2
   · rw [e];intro e';injection e' with e';omega⟩)
 have hnew:RB W3 (fun b=>base≤b∧b<W3.heap.size∧(Value.slice A' (l.length+1) c').ownBlock≠some b) Au cu x.2:=by
  refine (hu.keep fun q hq=>?_).mono fun b hq=>?_
  · refine World.cell?_of_block (kept _ hq.2 fun e=>?_)
    have:=(hlt _ e).2
    have:=hq.1
    omega
  · have h1:=hq.1
    have h2:=hq.2
    refine ⟨by omega,by omega,?_⟩
    rcases hor with e | e
    · rw [e];intro e';have:=(hlt _ e').2;omega
    · rw [e];intro e';injection e' with e';omega
 rw [OA,elen]
 exact ⟨hown,((hold.take p).app (CA.single hnew) (by simp;omega)).app (hold.drop p) (by simp;omega)⟩
theorem put_any (P:Nat→Prop) (A:Option Addr) (c:Nat) (l:List (Int×List Nat)) (a:Int×List Nat) (Aa:Option Addr) (ca:Nat) (w:World) (hv:RA w P A c l) (ha:RB w P Aa ca a.2) (hP:∀ b,P b→b<w.heap.size) (hl:l.length≤100000) :
 Calls Tryz.prog 86 #[.slice A l.length c,.agg #[.int .i64 a.1,.slice Aa a.2.length ca]] w fun e w'=>∃ A' c' cs,e=.returned (.slice A' (putOf l a).length c')∧OA w' (w.heap.size+1) A' c' (putOf l a) cs∧Below w.heap.size w w':=by
 obtain ⟨hlc,hc⟩:=hv.cap
 go_enter Tryz.func86,Tryz.ntmps86
 go_wp2
 obtain ⟨w1,hw1⟩:∃ w1,w.alloc (.cells #[.int .i64 a.1,.slice Aa a.2.length ca] 37)=w1:=⟨_,rfl⟩
 have hsz:w1.heap.size=w.heap.size+1:=by rw [←hw1];simp
 have hb1:w1.heap[w.heap.size]?=some (.cells #[.int .i64 a.1,.slice Aa a.2.length ca] 37):=by rw [←hw1];exact heap_alloc_new w _
 have hBw:Below w.heap.size w w1:=by rw [←hw1];exact (Below.refl _ _).alloc (Nat.le_refl _) _
 rw [hw1]
 have Hsz:=Lib.hid hsz
 have Hb1:=Lib.hid hb1
 clear hw1 hsz hb1
 go_loopw [5,6,11] (fun v d i wr=>∃ (k:Nat) (A':Option Addr) (c' n:Nat) (cs:List Value) (out:List (Int×List Nat)) (q:Option Nat),k≤l.length∧n≤k∧out.length=n∧v=.slice A' n c'∧d=.int .i64 (match q with | none=>-1 | some p=>(p:Int))∧i=.int .i64 k∧OA wr (w.heap.size+1) A' c' out cs∧Below (w.heap.size+1) w1 wr∧(match q with | none=>putInv l a k out false | some p=>putAt l a k out p)) (fun _ _ i _=>l.length - (intOf i).toNat)
 case atStart=>exact ⟨0,none,0,0,[],[],none,Nat.zero_le _,by omega,rfl,rfl,rfl,rfl,OA.nil_ _ _,Below.refl _ _,putInv_zero l a⟩
 case round =>
  obtain ⟨k,A',c',n,cs,out,q,hk,hn,hout,rfl,rfl,rfl,hO,hB,hI⟩:=hrel
  have Hout:=Lib.hid hout
  clear hout
  have hs:w.heap.size+1≤wr.heap.size:=by have:=hB.size;have:=Hsz.out;omega
  have hbox:=(hB.block w.heap.size (by omega)).trans Hb1.out
  have x0:=blk_cell hbox 0
  have x1:=blk_cell hbox 1
  simp at x0 x1
  have HO:=Lib.hid hO
  have hBw':=hBw.trans (hB.mono (by omega))
  have hlt0:w.heap.size<wr.heap.size:=by omega
  clear hbox
  by_cases hlt:k<l.length
  · obtain ⟨ad,Au,cu,rfl,hb,hc1,hc2,hu⟩:=(hv.below hBw' hP).at_ hlt
    have hP1:∀ b,P b→b<wr.heap.size:=fun b hb=>by have:=hP b hb;omega
    obtain ⟨x,hx⟩:∃ x,l[k]=x:=⟨_,rfl⟩
    rw [hx] at hc1 hc2 hu
    have Hx:=Lib.hid hx
    clear hx
    by_cases he:x.1=a.1
    · have he':(x.1==a.1)=true:=by simp [he]
      have he2:(l[k].1==a.1)=true:=by rw [Hx.out];exact he'
      have He:=Lib.hid he2
      clear he he2
      have HI:=Lib.hid hI
      clear hI
      cases q
      · have hi:=Lib.hid (putInv_skip HI.out hlt He.out)
        go_wp2
        go_roundw
        case rel=>exact ⟨k+1,A',c',n,cs,out,none,by omega,by omega,Hout.out,rfl,rfl,by go_num,HO.out.below ((Below.refl _ wr).alloc (Nat.le_refl _) _),hB.alloc (by omega) _,hi.out⟩
        case measure=>simp [intOf];omega
      · rename_i p
        have hi:=Lib.hid (putAt_skip HI.out hlt He.out)
        go_wp2
        go_roundw
        case rel=>exact ⟨k+1,A',c',n,cs,out,some p,by omega,by omega,Hout.out,rfl,rfl,by go_num,HO.out.below ((Below.refl _ wr).alloc (Nat.le_refl _) _),hB.alloc (by omega) _,hi.out⟩
        case measure=>simp [intOf];omega
    · have he':(x.1==a.1)=false:=by simp [he]
      have He:=Lib.hid (show (l[k].1==a.1)=false by rw [Hx.out];exact he')
      clear he
      have HI:=Lib.hid hI
      clear hI
      cases q
      · by_cases hgt:a.1<x.1
        · have hi:=Lib.hid (putAt_hi HI.out hlt He.out (by rw [Hx.out];exact hgt))
          rw [Hx.out] at hi
          go_wp2_with fail
          refine (copied_any P x Au cu _ (hu.keep fun p hp=>World.cell?_alloc_lt wr _ p (hP1 _ hp)) (fun b hb=>by have:=hP1 b hb;simp;omega)).mono ?_
          rintro e w2 ⟨A1,c1,rfl,hr,hB2⟩
          have hb2:Below wr.heap.size wr w2:=((Below.refl _ wr).alloc (Nat.le_refl _) _).trans (hB2.mono (by simp))
          have hO2:=HO.out.below hb2
          have hs2:=hb2.size
          clear hB2
          go_wp2_with (at_builtin;refine app48one (w0:=w2) rfl (.tmp 31) (.tmp 34) rfl (w.heap.size+1) (.slice A' n c') n cs rfl (Hout.out▸hO2.1) 0 rfl rfl ⟨rfl,rfl⟩ (by omega) (by omega) ?_;intro A3 c3 w3 hown3 hg3 hor3)
          have hO3:=OA.snoc (x:=x) HO.out Hout.out (hb2.alloc hs2 _) ((hr.keep fun p hp=>World.cell?_alloc_lt w2 _ p hp.2).mono fun b hb=>⟨by have:=hb.1;simp at this;omega,by have:=hb.2;simp;omega⟩) hs hown3 hg3 hor3
          have hB3:=(hB.trans ((hb2.mono hs).alloc (by omega) _)).grown hg3 (by simp;omega) (fun g hg=>by rw [←Hout.out] at hg;exact (HO.out.1.lt g hg).1)
          clear hown3 hg3 hor3 hr
          go_roundw
          case rel=>exact ⟨k+1,A3,c3,n+1,_,_,some out.length,by omega,by omega,by simp [Hout.out],rfl,by rw [Hout.out],by go_num,hO3,hB3,hi.out⟩
          case measure=>simp [intOf];omega
        · have hi:=Lib.hid (putInv_lo HI.out hlt He.out (by rw [Hx.out];exact hgt))
          rw [Hx.out] at hi
          go_wp2_with fail
          refine (copied_any P x Au cu _ (hu.keep fun p hp=>World.cell?_alloc_lt wr _ p (hP1 _ hp)) (fun b hb=>by have:=hP1 b hb;simp;omega)).mono ?_
          rintro e w2 ⟨A1,c1,rfl,hr,hB2⟩
          have hb2:Below wr.heap.size wr w2:=((Below.refl _ wr).alloc (Nat.le_refl _) _).trans (hB2.mono (by simp))
          have hO2:=HO.out.below hb2
          have hs2:=hb2.size
          clear hB2
          go_wp2_with (at_builtin;refine app48one (w0:=w2) rfl (.tmp 31) (.tmp 34) rfl (w.heap.size+1) (.slice A' n c') n cs rfl (Hout.out▸hO2.1) 0 rfl rfl ⟨rfl,rfl⟩ (by omega) (by omega) ?_;intro A3 c3 w3 hown3 hg3 hor3)
          have hO3:=OA.snoc (x:=x) HO.out Hout.out (hb2.alloc hs2 _) ((hr.keep fun p hp=>World.cell?_alloc_lt w2 _ p hp.2).mono fun b hb=>⟨by have:=hb.1;simp at this;omega,by have:=hb.2;simp;omega⟩) hs hown3 hg3 hor3
          have hB3:=(hB.trans ((hb2.mono hs).alloc (by omega) _)).grown hg3 (by simp;omega) (fun g hg=>by rw [←Hout.out] at hg;exact (HO.out.1.lt g hg).1)
          clear hown3 hg3 hor3 hr
          go_roundw
          case rel=>exact ⟨k+1,A3,c3,n+1,_,_,none,by omega,by omega,by simp [Hout.out],rfl,rfl,by go_num,hO3,hB3,hi.out⟩
          case measure=>simp [intOf];omega
      · rename_i p
        have hi:=Lib.hid (putAt_more HI.out hlt He.out)
        rw [Hx.out] at hi
        have hp0:¬ (p:Int)<0:=by omega
        go_wp2_with fail
        refine (copied_any P x Au cu _ (hu.keep fun p hp=>World.cell?_alloc_lt wr _ p (hP1 _ hp)) (fun b hb=>by have:=hP1 b hb;simp;omega)).mono ?_
        rintro e w2 ⟨A1,c1,rfl,hr,hB2⟩
        have hb2:Below wr.heap.size wr w2:=((Below.refl _ wr).alloc (Nat.le_refl _) _).trans (hB2.mono (by simp))
        have hO2:=HO.out.below hb2
        have hs2:=hb2.size
        clear hB2
        go_wp2_with (at_builtin;refine app48one (w0:=w2) rfl (.tmp 31) (.tmp 34) rfl (w.heap.size+1) (.slice A' n c') n cs rfl (Hout.out▸hO2.1) 0 rfl rfl ⟨rfl,rfl⟩ (by omega) (by omega) ?_;intro A3 c3 w3 hown3 hg3 hor3)
        have hO3:=OA.snoc (x:=x) HO.out Hout.out (hb2.alloc hs2 _) ((hr.keep fun p hp=>World.cell?_alloc_lt w2 _ p hp.2).mono fun b hb=>⟨by have:=hb.1;simp at this;omega,by have:=hb.2;simp;omega⟩) hs hown3 hg3 hor3
        have hB3:=(hB.trans ((hb2.mono hs).alloc (by omega) _)).grown hg3 (by simp;omega) (fun g hg=>by rw [←Hout.out] at hg;exact (HO.out.1.lt g hg).1)
        clear hown3 hg3 hor3 hr
        go_roundw
        case rel=>exact ⟨k+1,A3,c3,n+1,_,_,some p,by omega,by omega,by simp [Hout.out],rfl,rfl,by go_num,hO3,hB3,hi.out⟩
        case measure=>simp [intOf];omega
  · have har:RB wr P Aa ca a.2:=ha.below hBw' hP
    have hP1:∀ b,P b→b<wr.heap.size:=fun b hb=>by have:=hP b hb;omega
    have HI:=Lib.hid hI
    clear hI
    cases q
    · have hi:=putInv_end HI.out hlt
      have hi:=Lib.hid hi
      go_wp2_with fail
      refine (copied_any P a Aa ca _ har hP1).mono ?_
      rintro e w2 ⟨A1,c1,rfl,hr,hb2⟩
      have hO2:=HO.out.below hb2
      have hs2:=hb2.size
      have hne2:(Value.slice A' n c').ownBlock≠some w2.heap.size:=fun e=>by have:=HO.out.1.lt _ (by rw [Hout.out];exact e);omega
      have hins:=Lib.hid (insert_any (w.heap.size+1) n c' n w2.heap.size A' cs (.int .i64 a.1) (.slice A1 a.2.length c1) (w2.alloc (.cells #[.int .i64 a.1,.slice A1 a.2.length c1] 37)) (Nat.le_refl _) (by omega) (Hout.out▸hO2.1.alloc _) (by simp;omega) (heap_alloc_new w2 _) hne2 (CA.one (w:=wr) HO.out.2 (by have:=HO.out.1.1;omega)) ⟨rfl,rfl⟩)
      go_wp2_with fail
      refine hins.out.mono ?_
      rintro e w3 ⟨A3,c3,rfl,hown3,hg3,hor3⟩
      have hO3:=OA.inserted (x:=a) (p:=n) HO.out Hout.out (hb2.alloc hs2 _) ((hr.keep fun p hp=>World.cell?_alloc_lt w2 _ p hp.2).mono fun b hb=>⟨hb.1,by have:=hb.2;simp;omega⟩) hs (Nat.le_refl _) hown3 hg3 hor3
      have hB3:=(hb2.alloc hs2 (.cells #[.int .i64 a.1,.slice A1 a.2.length c1] 37)).mono hs
      have hB4:=hB3.grown hg3 (by simp;omega) (fun g hg=>by rw [←Hout.out] at hg;exact (HO.out.1.lt g hg).1)
      have he:=Lib.hid (show putOf l a=out.take n++[a]++out.drop n by rw [hi.out,List.take_of_length_le (by rw [Hout.out];omega),List.drop_eq_nil_of_le (by rw [Hout.out];omega),List.append_nil])
      rw [←he.out] at hO3
      have hl3:=Lib.hid (show (putOf l a).length=n+1 by rw [he.out];simp [Hout.out] <;> omega)
      clear hown3 hg3 hor3 hins hB3
      go_wp2
      go_ret
      exact ⟨A3,c3,_,by rw [hl3.out];rfl,hO3,hBw'.trans (hB4.mono (by omega))⟩
    · rename_i p
      have hp0:¬ (p:Int)<0:=by omega
      have hpn:p≤n:=by have:=HI.out.1;have:=Hout.out;omega
      have hi:=Lib.hid (putAt_end HI.out hlt)
      go_wp2_with fail
      refine (copied_any P a Aa ca _ har hP1).mono ?_
      rintro e w2 ⟨A1,c1,rfl,hr,hb2⟩
      have hO2:=HO.out.below hb2
      have hs2:=hb2.size
      have hne2:(Value.slice A' n c').ownBlock≠some w2.heap.size:=fun e=>by have:=HO.out.1.lt _ (by rw [Hout.out];exact e);omega
      have hins:=Lib.hid (insert_any (w.heap.size+1) n c' p w2.heap.size A' cs (.int .i64 a.1) (.slice A1 a.2.length c1) (w2.alloc (.cells #[.int .i64 a.1,.slice A1 a.2.length c1] 37)) hpn (by omega) (Hout.out▸hO2.1.alloc _) (by simp;omega) (heap_alloc_new w2 _) hne2 (CA.one (w:=wr) HO.out.2 (by have:=HO.out.1.1;omega)) ⟨rfl,rfl⟩)
      go_wp2_with fail
      refine hins.out.mono ?_
      rintro e w3 ⟨A3,c3,rfl,hown3,hg3,hor3⟩
      have hO3:=OA.inserted (x:=a) (p:=p) HO.out Hout.out (hb2.alloc hs2 _) ((hr.keep fun p hp=>World.cell?_alloc_lt w2 _ p hp.2).mono fun b hb=>⟨hb.1,by have:=hb.2;simp;omega⟩) hs hpn hown3 hg3 hor3
      have hB3:=(hb2.alloc hs2 (.cells #[.int .i64 a.1,.slice A1 a.2.length c1] 37)).mono hs
      have hB4:=hB3.grown hg3 (by simp;omega) (fun g hg=>by rw [←Hout.out] at hg;exact (HO.out.1.lt g hg).1)
      have he:=Lib.hid (show putOf l a=out.take p++[a]++out.drop p by rw [hi.out];simp)
      rw [←he.out] at hO3
      have hl3:=Lib.hid (show (putOf l a).length=n+1 by rw [he.out];simp [Hout.out] <;> omega)
      clear hown3 hg3 hor3 hins hB3
      go_wp2
      go_ret
      exact ⟨A3,c3,_,by rw [hl3.out];rfl,hO3,hBw'.trans (hB4.mono (by omega))⟩
end Go.Proofs.YtendnkpiidhogaaGreat.At

namespace Go.Proofs.YtendnkpiidhogaaGreat.At
open Go.RowKit
theorem ret_ib {k:IntKind} {a b:Int} {c:Bool} (h:a=b):Ending.returned (.tuple #[.int k a,.bool c])=.returned (.tuple #[.int k b,.bool c]):=by rw [h]
theorem or_shift (i a b:Nat) (h:b<2 ^ i):a*2 ^ i ||| b=a*2 ^ i+b:=by
 rw [Nat.mul_comm,←Nat.two_pow_add_eq_or_of_lt h]
theorem or32a (x y i j:Nat) (hi:x*2 ^ i<4294967296) (hy:y*2 ^ j<2 ^ i) (hi32:i≤32):bits .or .u32 ((x:Int)*2 ^ i) ((y:Int)*2 ^ j)=((x*2 ^ i+y*2 ^ j:Nat):Int):=by
 have h2:(2:Nat) ^ i≤2 ^ 32:=Nat.pow_le_pow_right (by omega) hi32
 have:=u32_or_nat (x*2 ^ i) (y*2 ^ j) hi (by omega)
 rw [or_shift i x _ hy] at this
 rw [←this]
 simp
theorem ofInt_i64 (a:Nat) (ha:a<9223372036854775808):(BitVec.ofInt 64 (a:Int)).toNat=a:=by
 rw [BitVec.ofInt_natCast,BitVec.toNat_ofNat];exact Nat.mod_eq_of_lt (by omega)
theorem i64_or_nat (a b:Nat) (ha:a<9223372036854775808) (hb:b<9223372036854775808):bits .or .i64 (a:Int) (b:Int)=((a ||| b:Nat):Int):=by
 have hx:a ||| b<2 ^ 63:=Nat.or_lt_two_pow (by omega) (by omega)
 show IntKind.i64.wrap ((BitVec.ofInt 64 (a:Int) ||| BitVec.ofInt 64 (b:Int)).toNat:Int)=_
 rw [BitVec.toNat_or,ofInt_i64 a ha,ofInt_i64 b hb,IntKind.wrap_i64]
 omega
theorem or64a (x y i j:Nat) (hi:x*2 ^ i<9223372036854775808) (hy:y*2 ^ j<2 ^ i) (hi63:i≤62):bits .or .i64 ((x:Int)*2 ^ i) ((y:Int)*2 ^ j)=((x*2 ^ i+y*2 ^ j:Nat):Int):=by
 have h2:(2:Nat) ^ i≤2 ^ 62:=Nat.pow_le_pow_right (by omega) hi63
 have:=i64_or_nat (x*2 ^ i) (y*2 ^ j) hi (by omega)
 rw [or_shift i x _ hy] at this
 rw [←this]
 simp
def be4 (x y z t:Nat):Nat:=x*16777216+y*65536+z*256+t
theorem or4_u32 (x y z t:Nat) (hx:x<256) (hy:y<256) (hz:z<256) (ht:t<256) :
 bits .or .u32 (bits .or .u32 (bits .or .u32 ((x:Int)*16777216) ((y:Int)*65536)) ((z:Int)*256)) (t:Int)=(be4 x y z t:Int):=by
 have h1:=or32a x y 24 16 (by omega) (by omega) (by omega)
 have h2:=or32a (x*256+y) z 16 8 (by omega) (by omega) (by omega)
 have h3:=or32a (x*65536+y*256+z) t 8 0 (by omega) (by omega) (by omega)
 simp at h1 h2 h3
 rw [h1,show (x:Int)*16777216+(y:Int)*65536=((x:Int)*256+y)*65536 by omega,h2,show ((x:Int)*256+y)*65536+(z:Int)*256=((x:Int)*65536+y*256+z)*256 by omega,h3]
 unfold be4
 omega
theorem or4_i64 (x y z t:Nat) (hx:x<256) (hy:y<256) (hz:z<256) (ht:t<256) :
 bits .or .i64 (bits .or .i64 (bits .or .i64 ((x:Int)*16777216) ((y:Int)*65536)) ((z:Int)*256)) (t:Int)=(be4 x y z t:Int):=by
 have h1:=or64a x y 24 16 (by omega) (by omega) (by omega)
 have h2:=or64a (x*256+y) z 16 8 (by omega) (by omega) (by omega)
 have h3:=or64a (x*65536+y*256+z) t 8 0 (by omega) (by omega) (by omega)
 simp at h1 h2 h3
 rw [h1,show (x:Int)*16777216+(y:Int)*65536=((x:Int)*256+y)*65536 by omega,h2,show ((x:Int)*256+y)*65536+(z:Int)*256=((x:Int)*65536+y*256+z)*256 by omega,h3]
 unfold be4
 omega
theorem get32_any (P:Nat→Prop) (A:Option Addr) (c:Nat) (x y z t:Nat) (w:World) (h:RB w P A c [x,y,z,t]) :
 Calls Tryz.prog 84 #[.slice A 4 c] w fun e w'=>e=.returned (.int .u32 (be4 x y z t:Int))∧∃ m,w'=w.drewN m:=by
 obtain ⟨ad,rfl,hp,hc0,hb0⟩:=h.at_ (i:=0) (by simp)
 obtain ⟨ad',e,_,hc1,hb1⟩:=h.at_ (i:=1) (by simp)
 injection e with e;subst e
 obtain ⟨ad',e,_,hc2,hb2⟩:=h.at_ (i:=2) (by simp)
 injection e with e;subst e
 obtain ⟨ad',e,_,hc3,hb3⟩:=h.at_ (i:=3) (by simp)
 injection e with e;subst e
 simp [Addr.add] at hc0 hc1 hc2 hc3
 simp at hb0 hb1 hb2 hb3
 go_enter Tryz.func84,Tryz.ntmps84
 go_wp2_with fail
 go_quiet (fail)
 go_wp2
 go_ret
 exact ⟨ret_int (or4_u32 x y z t (by omega) (by omega) (by omega) (by omega)),_,rfl⟩
def intO:Option (List Nat)→Option Nat
 | some [x,y,z,t]=>some (be4 x y z t)
 | _=>none
theorem intO_no {bs:List Nat} (h:bs.length≠4):intO (some bs)=none:=by
 match bs,h with
 | [],_=>rfl
 | [_],_=>rfl
 | [_,_],_=>rfl
 | [_,_,_],_=>rfl
 | [_,_,_,_],h=>simp at h
 | _ :: _ :: _ :: _ :: _ :: _,_=>rfl
def intOf' (l:List (Int×List Nat)) (t:Int):Option Nat:=intO (seek l t)
theorem int_any (P:Nat→Prop) (A:Option Addr) (c:Nat) (l:List (Int×List Nat)) (t:Int) (w:World) (hv:RA w P A c l) (hP:∀ b,P b→b<w.heap.size) :
 Calls Tryz.prog 44 #[.slice A l.length c,.int .i64 t] w fun e w'=>e=.returned (.tuple #[.int .i64 ((intOf' l t).getD 0:Nat),.bool (intOf' l t).isSome])∧Below w.heap.size w w':=by
 have hg:=Lib.hid (get_any P A c l t w hv hP)
 unfold intOf'
 obtain ⟨o,ho⟩:∃ o,seek l t=o:=⟨_,rfl⟩
 rw [ho] at hg ⊢
 clear ho
 rcases o with _ | bs
 · go_enter Tryz.func44,Tryz.ntmps44
   go_wp2_with fail
   refine hg.out.mono ?_
   rintro e w1 ⟨A1,c1,rfl,hr,hB⟩
   go_wp2
   go_ret2
   exact ⟨rfl,hB⟩
 · by_cases h1:bs.length=4
   · obtain ⟨x,y,z,u,rfl⟩:∃ x y z u,bs=[x,y,z,u]:=by
      match bs,h1 with
      | [x,y,z,u],_=>exact ⟨x,y,z,u,rfl⟩
     clear h1
     go_enter Tryz.func44,Tryz.ntmps44
     go_wp2_with fail
     refine hg.out.mono ?_
     rintro e w1 ⟨A1,c1,rfl,hr,hB⟩
     have hlt:be4 x y z u<4294967296:=by
      have h1:=hr.2.1 x (by simp)
      have h2:=hr.2.1 y (by simp)
      have h3:=hr.2.1 z (by simp)
      have h4:=hr.2.1 u (by simp)
      unfold be4
      omega
     go_wp2_with fail
     refine (get32_any _ A1 c1 x y z u w1 hr).mono ?_
     rintro e w2 ⟨rfl,m,rfl⟩
     go_wp2
     go_ret2
     exact ⟨rfl,below_drewN hB m⟩
   · have h1':((bs.length:Int) != 4)=true:=by rw [bne_iff_ne];omega
     have hi:=Lib.hid (intO_no h1)
     go_enter Tryz.func44,Tryz.ntmps44
     go_wp2_with fail
     refine hg.out.mono ?_
     rintro e w1 ⟨A1,c1,rfl,hr,hB⟩
     simp only [Option.getD_some]
     go_wp2
     go_ret2
     exact ⟨by rw [hi.out];rfl,hB⟩
theorem refInt_any (P:Nat→Prop) (A:Option Addr) (c:Nat) (l:List (Int×List Nat)) (t:Int) (w:World) (hv:RA w P A c l) :
 Calls Tryz.prog 46 #[.slice A l.length c,.int .i64 t] w fun e w'=>e=.returned (.tuple #[.int .i64 ((intOf' l t).getD 0:Nat),.bool (intOf' l t).isSome])∧∃ m,w'=w.drewN m:=by
 have hg:=Lib.hid (refGet_any P A c l t w hv)
 unfold intOf'
 obtain ⟨o,ho⟩:∃ o,seek l t=o:=⟨_,rfl⟩
 rw [ho] at hg ⊢
 clear ho
 rcases o with _ | bs
 · go_enter Tryz.func46,Tryz.ntmps46
   go_wp2_with fail
   refine hg.out.mono ?_
   rintro e w1 ⟨A1,c1,rfl,hr,rfl⟩
   go_wp2
   go_ret2
   exact ⟨rfl,0,rfl⟩
 · by_cases h1:bs.length=4
   · obtain ⟨x,y,z,u,rfl⟩:∃ x y z u,bs=[x,y,z,u]:=by
      match bs,h1 with
      | [x,y,z,u],_=>exact ⟨x,y,z,u,rfl⟩
     clear h1
     go_enter Tryz.func46,Tryz.ntmps46
     go_wp2_with fail
     refine hg.out.mono ?_
     rintro e w1 ⟨A1,c1,rfl,hr,rfl⟩
     obtain ⟨ad,rfl,hp,hc0,hb0⟩:=hr.at_ (i:=0) (by simp)
     obtain ⟨ad',e,_,hc1,hb1⟩:=hr.at_ (i:=1) (by simp)
     injection e with e;subst e
     obtain ⟨ad',e,_,hc2,hb2⟩:=hr.at_ (i:=2) (by simp)
     injection e with e;subst e
     obtain ⟨ad',e,_,hc3,hb3⟩:=hr.at_ (i:=3) (by simp)
     injection e with e;subst e
     simp [Addr.add] at hc0 hc1 hc2 hc3
     simp at hb0 hb1 hb2 hb3
     have hor:=Lib.hid (or4_i64 x y z u (by omega) (by omega) (by omega) (by omega))
     go_wp2_with fail
     go_quiet (fail)
     go_wp2
     go_ret2
     exact ⟨ret_ib hor.out,_,rfl⟩
   · have h1':((bs.length:Int) != 4)=true:=by rw [bne_iff_ne];omega
     have hi:=Lib.hid (intO_no h1)
     go_enter Tryz.func46,Tryz.ntmps46
     go_wp2_with fail
     refine hg.out.mono ?_
     rintro e w1 ⟨A1,c1,rfl,hr,rfl⟩
     simp only [Option.getD_some]
     go_wp2
     go_ret2
     exact ⟨by rw [hi.out];rfl,0,rfl⟩
end Go.Proofs.YtendnkpiidhogaaGreat.At

namespace Go.Proofs.YtendnkpiidhogaaGreat.At
open Go.RowKit
def formOf (t:Int):Int :=
 if t∈[1,2,259,260,261,262,263,264,266,268,354,355,356,357,368,369] then 1
 else if t∈[0,256,289,353] then 2
 else if t∈[3,17,258,384,385] then 3
 else if t∈[288,290,291,292,293] then 4
 else 0
theorem formOf_cases (t:Int):formOf t=0∨formOf t=1∨formOf t=2∨formOf t=3∨formOf t=4:=by
 unfold formOf
 repeat' split
 all_goals simp
theorem refForm_any (t:Int) (w:World) :
 Calls Tryz.prog 104 #[.int .i64 t] w fun e w'=>e=.returned (.int .i64 (formOf t))∧w=w':=by
 go_enter Tryz.func104,Tryz.ntmps104
 go_wp2
 all_goals (go_ret;exact ⟨ret_int (by simp_all [formOf]),rfl⟩)
def fineF (f:Int) (bs:List Nat):Bool :=
 if f=1 then bs.length==1 && decide (bs.getD 0 0<2)
 else if f=2 then bs.length==4
 else if f=3 then decide (bs.length≤16384)
 else if f=4 then decide (0<bs.length) && decide (bs.length≤512) && !(bs.getD 0 0==0)
 else false
def fineOf (a:Int×List Nat):Bool:=fineF (formOf a.1) a.2
theorem refFine_any (P:Nat→Prop) (a:Int×List Nat) (A:Option Addr) (c:Nat) (w:World) (ha:RB w P A c a.2) (hP:∀ b,P b→b<w.heap.size) :
    Calls Tryz.prog 105 #[.agg #[.int .i64 a.1,.slice A a.2.length c]] w fun e w'=>e=.returned (.bool (fineOf a))∧Below w.heap.size w w':=by
  obtain ⟨t,bs⟩:=a
  have hcap:=ha.cap
  obtain ⟨h1,h2,h3⟩:=hcap
  have hB:∀ o:Obj,Below w.heap.size w (w.alloc o):=fun o=>(Below.refl _ w).alloc (Nat.le_refl _) o
  have hcell:0<bs.length→∃ ad x r,A=some ad∧bs=x :: r∧ad.block<w.heap.size∧w.cell? ad=some (.int .u8 (x:Int)):=fun h=>by
    obtain ⟨ad,e,hp,hc,_⟩:=ha.at_ (i:=0) h
    match bs,h with
    | x :: r, _ =>
      simp [Addr.add] at hc
      exact ⟨ad,x,r,e,rfl,hP _ hp,hc⟩
  have Hcell:=Lib.hid hcell
  clear hcell
  have Hp:∀ b,Hid (fineF (formOf t) bs=b)→fineOf (t,bs)=b:=fun b h=>h.out
  have HP:=Lib.hid Hp
  clear Hp
  have hfm:=Lib.hid (refForm_any t)
  rcases formOf_cases t with hf | hf | hf | hf | hf
  all_goals
    have Hf:=hfm
    rw [hf] at Hf HP
    clear hf hfm
  · have hr:=Lib.hid (HP.out false (show _=_ from rfl))
    go_enter Tryz.func105,Tryz.ntmps105
    go_wp2_with fail
    refine (Hf.out _).mono ?_
    rintro e w1 ⟨rfl,rfl⟩
    go_wp2
    go_ret
    exact ⟨by rw [hr.out];first | rfl | (simp;omega),hB _⟩
  · by_cases hl:bs.length=1
    · obtain ⟨ad,x,r,rfl,rfl,had,hc⟩:=Hcell.out (by omega)
      obtain rfl:r=[]:=by simpa using hl
      clear hl
      by_cases hx:x<2
      · have hr:=Lib.hid (HP.out true (show _=_ by simp [fineF,hx]))
        go_enter Tryz.func105,Tryz.ntmps105
        go_wp2_with fail
        refine (Hf.out _).mono ?_
        rintro e w1 ⟨rfl,rfl⟩
        go_wp2
        go_ret
        exact ⟨by rw [hr.out];first | rfl | (simp;omega),hB _⟩
      · have hr:=Lib.hid (HP.out false (show _=_ by simp [fineF,hx]))
        go_enter Tryz.func105,Tryz.ntmps105
        go_wp2_with fail
        refine (Hf.out _).mono ?_
        rintro e w1 ⟨rfl,rfl⟩
        go_wp2
        go_ret
        exact ⟨by rw [hr.out];first | rfl | (simp;omega),hB _⟩
    · have hl':((bs.length:Int)==1)=false:=by simp;omega
      have hr:=Lib.hid (HP.out false (show _=_ by simp [fineF,hl]))
      go_enter Tryz.func105,Tryz.ntmps105
      go_wp2_with fail
      refine (Hf.out _).mono ?_
      rintro e w1 ⟨rfl,rfl⟩
      go_wp2
      go_ret
      exact ⟨by rw [hr.out];first | rfl | (simp;omega),hB _⟩
  · by_cases hl:bs.length=4
    · have hr:=Lib.hid (HP.out true (show _=_ by simp [fineF,hl]))
      have hl':((bs.length:Int)==4)=true:=by simp;omega
      clear hl
      go_enter Tryz.func105,Tryz.ntmps105
      go_wp2_with fail
      refine (Hf.out _).mono ?_
      rintro e w1 ⟨rfl,rfl⟩
      go_wp2
      go_ret
      exact ⟨by rw [hr.out];first | rfl | (simp;omega),hB _⟩
    · have hl':((bs.length:Int)==4)=false:=by simp;omega
      have hr:=Lib.hid (HP.out false (show _=_ by simp [fineF,hl]))
      go_enter Tryz.func105,Tryz.ntmps105
      go_wp2_with fail
      refine (Hf.out _).mono ?_
      rintro e w1 ⟨rfl,rfl⟩
      go_wp2
      go_ret
      exact ⟨by rw [hr.out];first | rfl | (simp;omega),hB _⟩
  · by_cases hl:bs.length≤16384
    · have hr:=Lib.hid (HP.out true (show _=_ by simp [fineF,hl]))
      have hl':decide ((bs.length:Int)≤16384)=true:=by simp;omega
      go_enter Tryz.func105,Tryz.ntmps105
      go_wp2_with fail
      refine (Hf.out _).mono ?_
      rintro e w1 ⟨rfl,rfl⟩
      go_wp2
      go_ret
      exact ⟨by rw [hr.out];first | rfl | (simp;omega),hB _⟩
    · have hl':decide ((bs.length:Int)≤16384)=false:=by simp;omega
      have hr:=Lib.hid (HP.out false (show _=_ by simp [fineF,hl]))
      go_enter Tryz.func105,Tryz.ntmps105
      go_wp2_with fail
      refine (Hf.out _).mono ?_
      rintro e w1 ⟨rfl,rfl⟩
      go_wp2
      go_ret
      exact ⟨by rw [hr.out];first | rfl | (simp;omega),hB _⟩
  · by_cases hl0:0<bs.length
    · by_cases hl:bs.length≤512
      · obtain ⟨ad,x,r,rfl,rfl,had,hc⟩:=Hcell.out hl0
        have hl5:(r.length:Int)+1≤512:=by simp at hl;omega
        by_cases hx:x=0
        · have hr:=Lib.hid (HP.out false (show _=_ by simp [fineF,hx]))
          subst hx
          go_enter Tryz.func105,Tryz.ntmps105
          go_wp2_with fail
          refine (Hf.out _).mono ?_
          rintro e w1 ⟨rfl,rfl⟩
          go_wp2
          go_ret
          exact ⟨by rw [hr.out];first | rfl | (simp;omega),hB _⟩
        · have hr:=Lib.hid (HP.out true (show _=_ by simp at hl;simp [fineF,hx];omega))
          have hx':((x:Int) != 0)=true:=by rw [bne_iff_ne];omega
          have hx2:((x:Int)==0)=false:=by simp;omega
          clear hx
          go_enter Tryz.func105,Tryz.ntmps105
          go_wp2_with fail
          refine (Hf.out _).mono ?_
          rintro e w1 ⟨rfl,rfl⟩
          go_wp2
          go_ret
          exact ⟨by rw [hr.out];first | rfl | (simp;omega),hB _⟩
      · have hr:=Lib.hid (HP.out false (show _=_ by simp [fineF,hl]))
        go_enter Tryz.func105,Tryz.ntmps105
        go_wp2_with fail
        refine (Hf.out _).mono ?_
        rintro e w1 ⟨rfl,rfl⟩
        go_wp2
        go_ret
        exact ⟨by rw [hr.out];first | rfl | (simp;omega),hB _⟩
    · have hr:=Lib.hid (HP.out false (show _=_ by simp [fineF,hl0]))
      go_enter Tryz.func105,Tryz.ntmps105
      go_wp2_with fail
      refine (Hf.out _).mono ?_
      rintro e w1 ⟨rfl,rfl⟩
      go_wp2
      go_ret
      exact ⟨by rw [hr.out];first | rfl | (simp;omega),hB _⟩
end Go.Proofs.YtendnkpiidhogaaGreat.At

namespace Go.Proofs.YtendnkpiidhogaaGreat.At
open Go.RowKit
attribute [local go_sem] Oper.semAt_some
def formed (t:Nat):Bool:=decide (formOf (t:Int)≠0)
def tysTo (n:Nat):List Nat:=(List.range n).filter formed
def cnt (n:Nat):Nat:=(tysTo n).length
theorem tysTo_succ (n:Nat):tysTo (n+1)=tysTo n++if formed n then [n] else []:=by
 simp only [tysTo,List.range_succ,List.filter_append,List.filter_cons,List.filter_nil]
theorem cnt_yes {n:Nat} (h:formed n=true):cnt (n+1)=cnt n+1:=by simp [cnt,tysTo_succ,h]
theorem tysTo_pre {n m:Nat} (h:n≤m):∃ l,tysTo m=tysTo n++l:=by
  induction m with
  | zero => obtain rfl : n = 0 := by omega
            exact ⟨[],by simp⟩
  | succ m ih =>
    rcases Nat.lt_or_ge m n with h1 | h1
    · obtain rfl:n=m+1:=by omega
      exact ⟨[],by simp⟩
    · obtain ⟨l,hl⟩:=ih h1
      rw [tysTo_succ,hl,List.append_assoc]
      exact ⟨_,rfl⟩
theorem cnt_mono {m n:Nat} (h:m≤n):cnt m≤cnt n:=by
 obtain ⟨l,hl⟩:=tysTo_pre h
 rw [cnt,cnt,hl];simp
theorem cnt_lt {t:Nat} (h:formed t=true) (ht:t<386):cnt t<cnt 386:=by
 have h1:=cnt_yes h
 have h2:=cnt_mono (show t+1≤386 by omega)
 omega
end Go.Proofs.YtendnkpiidhogaaGreat.At

namespace Go.Proofs.YtendnkpiidhogaaGreat.At
abbrev Attrs:=List (Int×List Nat)
def together (c k:Int):Bool :=
 if c=0 then true else if c=4 then k==16 || k==31 else if c=2∨c=3 then k==0 || k==3 else false
def ownRow (c k:Int):List Int :=
 if c=4 then [17,353,260,261,264,266,262,263,268]
 else if c=2 then (if k=0 then [260,266,262,288,289,290] else [260,266,262,384,385])
 else if k=0 then [261,264,263,268,288,290,291,292,293] else [261,264,263,268,384,17]
def rowsOf (c k:Int):List (List Int) :=
 if together c k=false then [] else if c=0 then [[0,1,2,3,368,369],[17]]
 else if c=2 then [[0,1,2,3,368,369],[256,258,355],ownRow c k]
 else [[0,1,2,3,368,369],[256,258,355],ownRow c k,[259,354,357,356]]
def hasOf (c k t:Int):Bool:=(rowsOf c k).any fun r=>decide (t∈r)
def came (l:Attrs) (t:Int):Bool:=(seek l t).isSome
def kindsOf (l:Attrs) (class_ key:Int):Int×Int×Int :=
 if class_=-1 then
  if !came l 0 || (!(intOf' l 0==some 0) && !came l 256) then (0,0,208)
  else if intOf' l 0=some 0 then (0,0,0)
  else match intOf' l 0,intOf' l 256 with
   | some c,some k=>if together c k then (c,k,0) else (0,0,19)
   | _,_=>(0,0,19)
 else
  if came l 0 && !((intOf' l 0).map (fun n:Nat=>(n:Int))==some class_) || came l 256 && !((intOf' l 256).map (fun n:Nat=>(n:Int))==some (if class_=0 then 0 else key)) then (0,0,209)
  else (class_,if class_=0 then 0 else key,0)
def refHasOf (c k t:Int):Bool :=
 if together c k=false then false
 else if t∈[0,1,2,3,368,369] then true
 else if c=0 then t==17
 else if t∈[256,258,355] then true
 else if c=4 then decide (t∈[17,353,259,354,357,356,260,261,264,266,262,263,268])
 else if c=2 then
  if t∈[260,266,262] then true
  else if k=0 then decide (t∈[288,289,290]) else decide (t∈[384,385])
 else if t∈[259,354,357,356,261,264,263,268] then true
 else if k=0 then decide (t∈[288,290,291,292,293]) else decide (t∈[384,17])
theorem refHas_eq (c k t:Int):refHasOf c k t=hasOf c k t:=by
 unfold refHasOf hasOf rowsOf
 by_cases hw:together c k=false
 · simp [hw]
 · rw [if_neg hw,if_neg hw]
   have hc:c=0∨c=4∨c=2∨c=3:=by unfold together at hw;split at hw <;> (try split at hw) <;> (try split at hw) <;> simp_all
   rcases hc with rfl | rfl | rfl | rfl
   all_goals
    by_cases hk:k=0
    all_goals
     simp only [ownRow,hk,List.any_cons,List.any_nil,List.mem_cons,List.not_mem_nil,or_false,if_true,if_false,Int.reduceEq]
     rw [Bool.eq_iff_iff]
     repeat' split
     all_goals (try simp only [Bool.or_eq_true,decide_eq_true_eq,Bool.or_false,beq_iff_eq,true_iff])
     all_goals (first | omega | simp)
end Go.Proofs.YtendnkpiidhogaaGreat.At

namespace Go.Proofs.YtendnkpiidhogaaGreat.At
open Go.RowKit Go.Shelf
attribute [local go_sem] Oper.semAt_some
def its (l:List Int):List Value:=l.map fun x=>.int .i64 x
def RI (w:World) (P:Nat→Prop) (A:Option Addr) (c:Nat) (l:List Int):Prop:=RS w P 1 A l.length c (its l)∧l.length≤17592186044416
section
variable {w w':World} {P P':Nat→Prop} {A:Option Addr} {c:Nat} {l:List Int}
theorem RI.keep (h:RI w P A c l) (hk:∀ p:Addr,P p.block→w'.cell? p=w.cell? p):RI w' P A c l:=⟨h.1.keep hk,h.2⟩
theorem RI.mono (h:RI w P A c l) (hp:∀ b,P b→P' b):RI w P' A c l:=⟨h.1.mono hp,h.2⟩
theorem RI.below {B:Nat} (h:RI w P A c l) (hb:Below B w w') (hB:∀ b,P b→b<B):RI w' P A c l:=⟨h.1.below hb hB,h.2⟩
theorem RI.cap (h:RI w P A c l):l.length≤c∧c≤9223372036854775807:=⟨h.1.1,h.1.2.1⟩
theorem RI.at_ (h:RI w P A c l) {i:Nat} (hi':i<l.length):∃ ad,A=some ad∧P ad.block∧w.cell? (ad.add i)=some (.int .i64 (l.getD i 0)):=by
 obtain ⟨⟨h1,h2,h3,h4⟩,_⟩:=h
 obtain ⟨ad,rfl,hb,hc⟩:=h4 (by omega)
 exact ⟨ad,rfl,hb,hc _ _ (by simp [its,List.getD_eq_getElem?_getD,List.getElem?_eq_getElem hi'])⟩
end
def RAA (w:World) (P:Nat→Prop) (A:Option Addr) (c:Nat) (ls:List (List (Int×List Nat))) (cs:List Value):Prop :=
 RS w P 1 A ls.length c cs∧∀ (j:Nat) x,ls[j]?=some x→∃ A' c',cs[j]?=some (.slice A' x.length c')∧RA w P A' c' x
section
variable {w w':World} {P P':Nat→Prop} {A:Option Addr} {c:Nat} {ls:List (List (Int×List Nat))} {cs:List Value}
theorem RAA.keep (h:RAA w P A c ls cs) (hk:∀ p:Addr,P p.block→w'.cell? p=w.cell? p):RAA w' P A c ls cs :=
 ⟨h.1.keep hk,fun j x hx=>by obtain ⟨A',c',h1,h2⟩:=h.2 j x hx;exact ⟨A',c',h1,h2.keep hk⟩⟩
theorem RAA.mono (h:RAA w P A c ls cs) (hp:∀ b,P b→P' b):RAA w P' A c ls cs :=
 ⟨h.1.mono hp,fun j x hx=>by obtain ⟨A',c',h1,h2⟩:=h.2 j x hx;exact ⟨A',c',h1,h2.mono hp⟩⟩
theorem RAA.below {B:Nat} (h:RAA w P A c ls cs) (hb:Below B w w') (hB:∀ b,P b→b<B):RAA w' P A c ls cs:=h.keep fun _ hp=>hb.cell (hB _ hp)
theorem RAA.cap (h:RAA w P A c ls cs):ls.length≤c∧c≤9223372036854775807:=⟨h.1.1,h.1.2.1⟩
theorem RAA.at_ (h:RAA w P A c ls cs) {i:Nat} (hi':i<ls.length):∃ ad A' c',A=some ad∧P ad.block∧w.cell? (ad.add i)=some (.slice A' ls[i].length c')∧cs.getD i undef=.slice A' ls[i].length c'∧RA w P A' c' ls[i]:=by
 obtain ⟨⟨h1,h2,h3,h4⟩,h5⟩:=h
 obtain ⟨ad,rfl,hb,hc⟩:=h4 (by omega)
 obtain ⟨A',c',h6,h7⟩:=h5 i _ (List.getElem?_eq_getElem hi')
 exact ⟨ad,A',c',rfl,hb,hc _ _ h6,by rw [List.getD_eq_getElem?_getD,h6];rfl,h7⟩
end
structure BelowBut (n₀ cb:Nat) (w w':World):Prop where
 os:w'.os=w.os
 tape:w'.tape=w.tape
 output:w'.output=w.output
 size:w.heap.size≤w'.heap.size
 block:∀ b,b<n₀→b≠cb→w'.heap[b]?=w.heap[b]?
theorem BelowBut.refl (n₀ cb:Nat) (w:World):BelowBut n₀ cb w w:=⟨rfl,rfl,rfl,Nat.le_refl _,fun _ _ _=>rfl⟩
theorem BelowBut.trans {n₀ cb:Nat} {a b c:World} (h:BelowBut n₀ cb a b) (k:BelowBut n₀ cb b c):BelowBut n₀ cb a c :=
 ⟨k.os.trans h.os,k.tape.trans h.tape,k.output.trans h.output,Nat.le_trans h.size k.size,fun i hi hn=>(k.block i hi hn).trans (h.block i hi hn)⟩
theorem BelowBut.set {n₀ cb:Nat} {a b:World} (h:BelowBut n₀ cb a b) (v:Value):BelowBut n₀ cb a (b.setCell ⟨cb,0,none⟩ v) :=
 ⟨h.os,h.tape,h.output,by simpa [World.setCell] using h.size,fun i hi hn=>(Below.heap_setCell _ _ _ _ (by exact hn)).trans (h.block i hi hn)⟩
theorem BelowBut.cell {n₀ cb:Nat} {w w':World} (h:BelowBut n₀ cb w w') {p:Addr} (hp:p.block<n₀) (hn:p.block≠cb):w'.cell? p=w.cell? p:=World.cell?_of_block (h.block _ hp hn)
end Go.Proofs.YtendnkpiidhogaaGreat.At

namespace Go.Proofs.YtendnkpiidhogaaGreat.At
open Go.RowKit
theorem refTogether_any (c k:Int) (w:World) :
 Calls Tryz.prog 38 #[.int .i64 c,.int .i64 k] w fun e w'=>e=.returned (.bool (together c k))∧w=w':=by
 go_enter Tryz.func38,Tryz.ntmps38
 go_wp2
 all_goals (go_ret;exact ⟨ret_bool (by simp_all [together]),rfl⟩)
def noInt (l:List Int) (t:Int) (k:Nat):Prop:=∀ j,j<k→l.getD j 0≠t
theorem noInt_succ {l:List Int} {t:Int} {k:Nat} (h:noInt l t k) (hne:l.getD k 0≠t):noInt l t (k+1):=fun j hj=>by
 rcases Nat.lt_or_ge j k with h1 | h1
 · exact h j h1
 · obtain rfl:j=k:=by omega
   exact hne
theorem noInt_all {l:List Int} {t:Int} (h:noInt l t l.length):t∉l:=fun hm=>by
 obtain ⟨i,hi,he⟩:=List.getElem_of_mem hm
 refine h i hi ?_
 rw [List.getD_eq_getElem?_getD,List.getElem?_eq_getElem hi]
 exact he
theorem int_mem {l:List Int} {t:Int} {k:Nat} (hk:k<l.length) (h:l.getD k 0=t):t∈l:=by
 rw [List.getD_eq_getElem?_getD,List.getElem?_eq_getElem hk] at h
 exact h▸List.getElem_mem hk
theorem among_any (P:Nat→Prop) (A:Option Addr) (c:Nat) (l:List Int) (t:Int) (w:World) (h:RI w P A c l) :
 Calls Tryz.prog 39 #[.int .i64 t,.slice A l.length c] w fun e w'=>e=.returned (.bool (decide (t∈l)))∧∃ d,w'=w.drewN d:=by
 obtain ⟨hlc,hc⟩:=h.cap
 go_enter Tryz.func39,Tryz.ntmps39
 go_wp2
 go_loopw [5] (fun i wr=>∃ k:Nat,k≤l.length∧i=.int .i64 k∧noInt l t k∧∃ d,wr=w.drewN d) (fun i _=>l.length - (intOf i).toNat)
 case atStart=>exact ⟨0,Nat.zero_le _,rfl,fun j hj=>absurd hj (by omega),0,rfl⟩
 case round =>
  obtain ⟨k,hk,rfl,hno,d,rfl⟩:=hrel
  by_cases hlt:k<l.length
  · obtain ⟨ad,rfl,hb,hx⟩:=h.at_ hlt
    have hx':(w.drewN d).cell? (ad.add k)=some (.int .i64 (l.getD k 0)):=hx
    obtain ⟨x,hxe⟩:∃ x,l.getD k 0=x:=⟨_,rfl⟩
    rw [hxe] at hx'
    have Hx:=Lib.hid hxe
    clear hxe hx
    by_cases he:x=t
    · subst he
      have ht:=Lib.hid (int_mem hlt Hx.out)
      go_wp2
      go_ret
      exact ⟨ret_bool (by simp [ht.out]),_,rfl⟩
    · have he':(x==t)=false:=by simpa using he
      have hn:=Lib.hid (noInt_succ hno (by rw [Hx.out];exact he))
      clear he
      go_wp2
      go_roundw
      case rel=>exact ⟨k+1,by omega,by go_num,hn.out,_,rfl⟩
      case measure=>simp [intOf];omega
  · have ht:=Lib.hid (noInt_all ((show k=l.length by omega)▸hno))
    go_wp2
    go_ret
    exact ⟨ret_bool (by simp [ht.out]),_,rfl⟩
end Go.Proofs.YtendnkpiidhogaaGreat.At

namespace Go.Proofs.YtendnkpiidhogaaGreat.At
open Go.RowKit Go.Shelf
attribute [local go_sem] Oper.semAt_some
theorem RI.fresh {P:Nat→Prop} (w:World) (cs:Array Value) (t:TypeId) (l:List Int) (n:Nat) (h:cs.toList=its l) (hn:l.length=n) (hs:n≤1000) (hP:P w.heap.size):RI (w.alloc (.cells cs t)) P (some ⟨w.heap.size,0,none⟩) n l:=by
 have h1:=congrArg List.length h
 simp [its] at h1
 have:=RS.fresh (w:=w) (P:=P) cs t 1 n (by omega) (by unfold maxLen;omega) hP
 rw [h] at this
 subst hn
 exact ⟨this,by omega⟩
end Go.Proofs.YtendnkpiidhogaaGreat.At

namespace Go.Proofs.YtendnkpiidhogaaGreat.At
open Go.RowKit Go.Shelf
theorem among_b (P:Nat→Prop) (A:Option Addr) (c:Nat) (l:List Int) (n:Nat) (t:Int) (b:Bool) (w:World) (hb:decide (t∈l)=b) (hn:l.length=n) (h:RI w P A c l) :
 Calls Tryz.prog 39 #[.int .i64 t,.slice A n c] w fun e w'=>e=.returned (.bool b)∧∃ d,w'=w.drewN d:=by
 subst hb hn;exact among_any P A c l t w h
theorem among_r {w0 X:World} (cs:Array Value) (ty:TypeId) (l:List Int) (n:Nat) (t:Int) (b:Bool) (hB:Below w0.heap.size w0 X) (hb:decide (t∈l)=b) (hn:l.length=n) (hcs:cs.toList=its l) (hs:n≤1000) :
 Calls Tryz.prog 39 #[.int .i64 t,.slice (some ⟨X.heap.size,0,none⟩) n n] (X.alloc (.cells cs ty)) fun e w'=>e=.returned (.bool b)∧Below w0.heap.size w0 w':=by
 refine (among_b (fun _=>True) _ n l n t b _ hb hn (RI.fresh X cs ty l n hcs hn hs trivial)).mono ?_
 rintro e w1 ⟨rfl,d,rfl⟩
 exact ⟨rfl,below_drewN (hB.alloc hB.size _) d⟩
theorem of_b {p:Prop} [Decidable p] {b:Bool} (h:Hid (decide p=b)):p↔b=true:=by rw [←h.out];simp
theorem refHas_c0 (k t:Int) (w:World) (HW:Hid (together 0 k=true)):Calls Tryz.prog 11 #[.int .i64 0,.int .i64 k,.int .i64 t] w fun e w'=>e=.returned (.bool (refHasOf 0 k t))∧Below w.heap.size w w':=by
 obtain ⟨bA,hA⟩:∃ b,decide (t∈([0,1,2,3,368,369]:List Int))=b:=⟨_,rfl⟩
 have HA:=Lib.hid hA
 clear hA
 obtain ⟨X0,hX0⟩:∃ X0,X0=w:=⟨_,rfl⟩
 have hB0:Below w.heap.size w X0:=by rw [hX0];exact Below.refl _ w
 rw [show Calls Tryz.prog 11 #[.int .i64 0,.int .i64 k,.int .i64 t] w=Calls Tryz.prog 11 #[.int .i64 0,.int .i64 k,.int .i64 t] X0 by rw [hX0]]
 clear hX0
 go_enter Tryz.func11,Tryz.ntmps11
 go_wp2_with fail
 refine (refTogether_any _ _ X0).mono ?_
 rw [HW.out]
 rintro e w1 ⟨rfl,rfl⟩
 go_wp2_with fail
 refine (among_r _ _ [0,1,2,3,368,369] 6 t bA hB0 HA.out rfl rfl (by omega)).mono ?_
 rintro e X1 ⟨rfl,hB1⟩
 cases bA
 rotate_left
 · go_wp2
   go_ret
   exact ⟨ret_bool (by simp [HW.out,refHasOf,of_b HA]),hB1⟩
 go_wp2
 go_ret
 exact ⟨ret_bool (by simp [HW.out,refHasOf,eq_comm,of_b HA]),hB1⟩
theorem refHas_c4 (k t:Int) (w:World) (HW:Hid (together 4 k=true)):Calls Tryz.prog 11 #[.int .i64 4,.int .i64 k,.int .i64 t] w fun e w'=>e=.returned (.bool (refHasOf 4 k t))∧Below w.heap.size w w':=by
 obtain ⟨bA,hA⟩:∃ b,decide (t∈([0,1,2,3,368,369]:List Int))=b:=⟨_,rfl⟩
 have HA:=Lib.hid hA
 clear hA
 obtain ⟨bB,hB⟩:∃ b,decide (t∈([256,258,355]:List Int))=b:=⟨_,rfl⟩
 have HB:=Lib.hid hB
 clear hB
 obtain ⟨bS,hS⟩:∃ b,decide (t∈([17,353,259,354,357,356,260,261,264,266,262,263,268]:List Int))=b:=⟨_,rfl⟩
 have HS:=Lib.hid hS
 clear hS
 obtain ⟨X0,hX0⟩:∃ X0,X0=w:=⟨_,rfl⟩
 have hB0:Below w.heap.size w X0:=by rw [hX0];exact Below.refl _ w
 rw [show Calls Tryz.prog 11 #[.int .i64 4,.int .i64 k,.int .i64 t] w=Calls Tryz.prog 11 #[.int .i64 4,.int .i64 k,.int .i64 t] X0 by rw [hX0]]
 clear hX0
 go_enter Tryz.func11,Tryz.ntmps11
 go_wp2_with fail
 refine (refTogether_any _ _ X0).mono ?_
 rw [HW.out]
 rintro e w1 ⟨rfl,rfl⟩
 go_wp2_with fail
 refine (among_r _ _ [0,1,2,3,368,369] 6 t bA hB0 HA.out rfl rfl (by omega)).mono ?_
 rintro e X1 ⟨rfl,hB1⟩
 cases bA
 rotate_left
 · go_wp2
   go_ret
   exact ⟨ret_bool (by simp [HW.out,refHasOf,of_b HA]),hB1⟩
 go_wp2_with fail
 refine (among_r _ _ [256,258,355] 3 t bB hB1 HB.out rfl rfl (by omega)).mono ?_
 rintro e X2 ⟨rfl,hB2⟩
 cases bB
 rotate_left
 · go_wp2
   go_ret
   exact ⟨ret_bool (by simp [HW.out,refHasOf,of_b HA,of_b HB]),hB2⟩
 go_wp2_with fail
 refine (among_r _ _ [17,353,259,354,357,356,260,261,264,266,262,263,268] 13 t bS hB2 HS.out rfl rfl (by omega)).mono ?_
 rintro e X3 ⟨rfl,hB3⟩
 go_wp2
 go_ret
 exact ⟨ret_bool (by simp [HW.out,refHasOf,of_b HA,of_b HB,of_b HS]),hB3⟩
theorem refHas_c20 (t:Int) (w:World) (HW:Hid (together 2 0=true)):Calls Tryz.prog 11 #[.int .i64 2,.int .i64 0,.int .i64 t] w fun e w'=>e=.returned (.bool (refHasOf 2 0 t))∧Below w.heap.size w w':=by
 obtain ⟨bA,hA⟩:∃ b,decide (t∈([0,1,2,3,368,369]:List Int))=b:=⟨_,rfl⟩
 have HA:=Lib.hid hA
 clear hA
 obtain ⟨bB,hB⟩:∃ b,decide (t∈([256,258,355]:List Int))=b:=⟨_,rfl⟩
 have HB:=Lib.hid hB
 clear hB
 obtain ⟨bC,hC⟩:∃ b,decide (t∈([260,266,262]:List Int))=b:=⟨_,rfl⟩
 have HC:=Lib.hid hC
 clear hC
 obtain ⟨bP,hP⟩:∃ b,decide (t∈([288,289,290]:List Int))=b:=⟨_,rfl⟩
 have HP:=Lib.hid hP
 clear hP
 obtain ⟨X0,hX0⟩:∃ X0,X0=w:=⟨_,rfl⟩
 have hB0:Below w.heap.size w X0:=by rw [hX0];exact Below.refl _ w
 rw [show Calls Tryz.prog 11 #[.int .i64 2,.int .i64 0,.int .i64 t] w=Calls Tryz.prog 11 #[.int .i64 2,.int .i64 0,.int .i64 t] X0 by rw [hX0]]
 clear hX0
 go_enter Tryz.func11,Tryz.ntmps11
 go_wp2_with fail
 refine (refTogether_any _ _ X0).mono ?_
 rw [HW.out]
 rintro e w1 ⟨rfl,rfl⟩
 go_wp2_with fail
 refine (among_r _ _ [0,1,2,3,368,369] 6 t bA hB0 HA.out rfl rfl (by omega)).mono ?_
 rintro e X1 ⟨rfl,hB1⟩
 cases bA
 rotate_left
 · go_wp2
   go_ret
   exact ⟨ret_bool (by simp [HW.out,refHasOf,of_b HA]),hB1⟩
 go_wp2_with fail
 refine (among_r _ _ [256,258,355] 3 t bB hB1 HB.out rfl rfl (by omega)).mono ?_
 rintro e X2 ⟨rfl,hB2⟩
 cases bB
 rotate_left
 · go_wp2
   go_ret
   exact ⟨ret_bool (by simp [HW.out,refHasOf,of_b HA,of_b HB]),hB2⟩
 go_wp2_with fail
 refine (among_r _ _ [260,266,262] 3 t bC hB2 HC.out rfl rfl (by omega)).mono ?_
 rintro e X3 ⟨rfl,hB3⟩
 cases bC
 rotate_left
 · go_wp2
   go_ret
   exact ⟨ret_bool (by simp [HW.out,refHasOf,of_b HA,of_b HB,of_b HC]),hB3⟩
 go_wp2_with fail
 refine (among_r _ _ [288,289,290] 3 t bP hB3 HP.out rfl rfl (by omega)).mono ?_
 rintro e X4 ⟨rfl,hB4⟩
 go_wp2
 go_ret
 exact ⟨ret_bool (by simp [HW.out,refHasOf,of_b HA,of_b HB,of_b HC,of_b HP]),hB4⟩
theorem refHas_c2 (k t:Int) (w:World) (Hk:Hid (¬ k=0)) (HW:Hid (together 2 k=true)):Calls Tryz.prog 11 #[.int .i64 2,.int .i64 k,.int .i64 t] w fun e w'=>e=.returned (.bool (refHasOf 2 k t))∧Below w.heap.size w w':=by
 obtain ⟨bA,hA⟩:∃ b,decide (t∈([0,1,2,3,368,369]:List Int))=b:=⟨_,rfl⟩
 have HA:=Lib.hid hA
 clear hA
 obtain ⟨bB,hB⟩:∃ b,decide (t∈([256,258,355]:List Int))=b:=⟨_,rfl⟩
 have HB:=Lib.hid hB
 clear hB
 obtain ⟨bC,hC⟩:∃ b,decide (t∈([260,266,262]:List Int))=b:=⟨_,rfl⟩
 have HC:=Lib.hid hC
 clear hC
 obtain ⟨bQ,hQ⟩:∃ b,decide (t∈([384,385]:List Int))=b:=⟨_,rfl⟩
 have HQ:=Lib.hid hQ
 clear hQ
 have hk:(k==0)=false:=by simpa using Hk.out
 obtain ⟨X0,hX0⟩:∃ X0,X0=w:=⟨_,rfl⟩
 have hB0:Below w.heap.size w X0:=by rw [hX0];exact Below.refl _ w
 rw [show Calls Tryz.prog 11 #[.int .i64 2,.int .i64 k,.int .i64 t] w=Calls Tryz.prog 11 #[.int .i64 2,.int .i64 k,.int .i64 t] X0 by rw [hX0]]
 clear hX0
 go_enter Tryz.func11,Tryz.ntmps11
 go_wp2_with fail
 refine (refTogether_any _ _ X0).mono ?_
 rw [HW.out]
 rintro e w1 ⟨rfl,rfl⟩
 go_wp2_with fail
 refine (among_r _ _ [0,1,2,3,368,369] 6 t bA hB0 HA.out rfl rfl (by omega)).mono ?_
 rintro e X1 ⟨rfl,hB1⟩
 cases bA
 rotate_left
 · go_wp2
   go_ret
   exact ⟨ret_bool (by simp [HW.out,refHasOf,of_b HA]),hB1⟩
 go_wp2_with fail
 refine (among_r _ _ [256,258,355] 3 t bB hB1 HB.out rfl rfl (by omega)).mono ?_
 rintro e X2 ⟨rfl,hB2⟩
 cases bB
 rotate_left
 · go_wp2
   go_ret
   exact ⟨ret_bool (by simp [HW.out,refHasOf,of_b HA,of_b HB]),hB2⟩
 go_wp2_with fail
 refine (among_r _ _ [260,266,262] 3 t bC hB2 HC.out rfl rfl (by omega)).mono ?_
 rintro e X3 ⟨rfl,hB3⟩
 cases bC
 rotate_left
 · go_wp2
   go_ret
   exact ⟨ret_bool (by simp [HW.out,refHasOf,of_b HA,of_b HB,of_b HC]),hB3⟩
 go_wp2_with fail
 refine (among_r _ _ [384,385] 2 t bQ hB3 HQ.out rfl rfl (by omega)).mono ?_
 rintro e X4 ⟨rfl,hB4⟩
 go_wp2
 go_ret
 exact ⟨ret_bool (by simp [HW.out,refHasOf,Hk.out,of_b HA,of_b HB,of_b HC,of_b HQ]),hB4⟩
theorem refHas_c30 (t:Int) (w:World) (HW:Hid (together 3 0=true)):Calls Tryz.prog 11 #[.int .i64 3,.int .i64 0,.int .i64 t] w fun e w'=>e=.returned (.bool (refHasOf 3 0 t))∧Below w.heap.size w w':=by
 obtain ⟨bA,hA⟩:∃ b,decide (t∈([0,1,2,3,368,369]:List Int))=b:=⟨_,rfl⟩
 have HA:=Lib.hid hA
 clear hA
 obtain ⟨bB,hB⟩:∃ b,decide (t∈([256,258,355]:List Int))=b:=⟨_,rfl⟩
 have HB:=Lib.hid hB
 clear hB
 obtain ⟨bD,hD⟩:∃ b,decide (t∈([259,354,357,356,261,264,263,268]:List Int))=b:=⟨_,rfl⟩
 have HD:=Lib.hid hD
 clear hD
 obtain ⟨bF,hF⟩:∃ b,decide (t∈([288,290,291,292,293]:List Int))=b:=⟨_,rfl⟩
 have HF:=Lib.hid hF
 clear hF
 obtain ⟨X0,hX0⟩:∃ X0,X0=w:=⟨_,rfl⟩
 have hB0:Below w.heap.size w X0:=by rw [hX0];exact Below.refl _ w
 rw [show Calls Tryz.prog 11 #[.int .i64 3,.int .i64 0,.int .i64 t] w=Calls Tryz.prog 11 #[.int .i64 3,.int .i64 0,.int .i64 t] X0 by rw [hX0]]
 clear hX0
 go_enter Tryz.func11,Tryz.ntmps11
 go_wp2_with fail
 refine (refTogether_any _ _ X0).mono ?_
 rw [HW.out]
 rintro e w1 ⟨rfl,rfl⟩
 go_wp2_with fail
 refine (among_r _ _ [0,1,2,3,368,369] 6 t bA hB0 HA.out rfl rfl (by omega)).mono ?_
 rintro e X1 ⟨rfl,hB1⟩
 cases bA
 rotate_left
 · go_wp2
   go_ret
   exact ⟨ret_bool (by simp [HW.out,refHasOf,of_b HA]),hB1⟩
 go_wp2_with fail
 refine (among_r _ _ [256,258,355] 3 t bB hB1 HB.out rfl rfl (by omega)).mono ?_
 rintro e X2 ⟨rfl,hB2⟩
 cases bB
 rotate_left
 · go_wp2
   go_ret
   exact ⟨ret_bool (by simp [HW.out,refHasOf,of_b HA,of_b HB]),hB2⟩
 go_wp2_with fail
 refine (among_r _ _ [259,354,357,356,261,264,263,268] 8 t bD hB2 HD.out rfl rfl (by omega)).mono ?_
 rintro e X3 ⟨rfl,hB3⟩
 cases bD
 rotate_left
 · go_wp2
   go_ret
   exact ⟨ret_bool (by simp [HW.out,refHasOf,of_b HA,of_b HB,of_b HD]),hB3⟩
 go_wp2_with fail
 refine (among_r _ _ [288,290,291,292,293] 5 t bF hB3 HF.out rfl rfl (by omega)).mono ?_
 rintro e X4 ⟨rfl,hB4⟩
 go_wp2
 go_ret
 exact ⟨ret_bool (by simp [HW.out,refHasOf,of_b HA,of_b HB,of_b HD,of_b HF]),hB4⟩
theorem refHas_c3 (k t:Int) (w:World) (Hk:Hid (¬ k=0)) (HW:Hid (together 3 k=true)):Calls Tryz.prog 11 #[.int .i64 3,.int .i64 k,.int .i64 t] w fun e w'=>e=.returned (.bool (refHasOf 3 k t))∧Below w.heap.size w w':=by
 obtain ⟨bA,hA⟩:∃ b,decide (t∈([0,1,2,3,368,369]:List Int))=b:=⟨_,rfl⟩
 have HA:=Lib.hid hA
 clear hA
 obtain ⟨bB,hB⟩:∃ b,decide (t∈([256,258,355]:List Int))=b:=⟨_,rfl⟩
 have HB:=Lib.hid hB
 clear hB
 obtain ⟨bD,hD⟩:∃ b,decide (t∈([259,354,357,356,261,264,263,268]:List Int))=b:=⟨_,rfl⟩
 have HD:=Lib.hid hD
 clear hD
 obtain ⟨bG,hG⟩:∃ b,decide (t∈([384,17]:List Int))=b:=⟨_,rfl⟩
 have HG:=Lib.hid hG
 clear hG
 have hk:(k==0)=false:=by simpa using Hk.out
 obtain ⟨X0,hX0⟩:∃ X0,X0=w:=⟨_,rfl⟩
 have hB0:Below w.heap.size w X0:=by rw [hX0];exact Below.refl _ w
 rw [show Calls Tryz.prog 11 #[.int .i64 3,.int .i64 k,.int .i64 t] w=Calls Tryz.prog 11 #[.int .i64 3,.int .i64 k,.int .i64 t] X0 by rw [hX0]]
 clear hX0
 go_enter Tryz.func11,Tryz.ntmps11
 go_wp2_with fail
 refine (refTogether_any _ _ X0).mono ?_
 rw [HW.out]
 rintro e w1 ⟨rfl,rfl⟩
 go_wp2_with fail
 refine (among_r _ _ [0,1,2,3,368,369] 6 t bA hB0 HA.out rfl rfl (by omega)).mono ?_
 rintro e X1 ⟨rfl,hB1⟩
 cases bA
 rotate_left
 · go_wp2
   go_ret
   exact ⟨ret_bool (by simp [HW.out,refHasOf,of_b HA]),hB1⟩
 go_wp2_with fail
 refine (among_r _ _ [256,258,355] 3 t bB hB1 HB.out rfl rfl (by omega)).mono ?_
 rintro e X2 ⟨rfl,hB2⟩
 cases bB
 rotate_left
 · go_wp2
   go_ret
   exact ⟨ret_bool (by simp [HW.out,refHasOf,of_b HA,of_b HB]),hB2⟩
 go_wp2_with fail
 refine (among_r _ _ [259,354,357,356,261,264,263,268] 8 t bD hB2 HD.out rfl rfl (by omega)).mono ?_
 rintro e X3 ⟨rfl,hB3⟩
 cases bD
 rotate_left
 · go_wp2
   go_ret
   exact ⟨ret_bool (by simp [HW.out,refHasOf,of_b HA,of_b HB,of_b HD]),hB3⟩
 go_wp2_with fail
 refine (among_r _ _ [384,17] 2 t bG hB3 HG.out rfl rfl (by omega)).mono ?_
 rintro e X4 ⟨rfl,hB4⟩
 go_wp2
 go_ret
 exact ⟨ret_bool (by simp [HW.out,refHasOf,Hk.out,of_b HA,of_b HB,of_b HD,of_b HG]),hB4⟩
theorem refHas_any (c k t:Int) (w:World):Calls Tryz.prog 11 #[.int .i64 c,.int .i64 k,.int .i64 t] w fun e w'=>e=.returned (.bool (hasOf c k t))∧Below w.heap.size w w':=by
 rw [←refHas_eq]
 by_cases hw:together c k=false
 · have hr:=Lib.hid (show refHasOf c k t=false by simp [refHasOf,hw])
   have HW:=Lib.hid hw
   clear hw
   go_enter Tryz.func11,Tryz.ntmps11
   go_wp2_with fail
   refine (refTogether_any _ _ w).mono ?_
   rw [HW.out]
   rintro e w1 ⟨rfl,rfl⟩
   go_wp2
   go_ret
   exact ⟨ret_bool (by rw [hr.out]),Below.refl _ _⟩
 · rw [Bool.not_eq_false] at hw
   have hc:c=0∨c=4∨c=2∨c=3:=by unfold together at hw;split at hw <;> (try split at hw) <;> (try split at hw) <;> simp_all
   rcases hc with rfl | rfl | rfl | rfl
   · exact refHas_c0 k t w (Lib.hid hw)
   · exact refHas_c4 k t w (Lib.hid hw)
   · by_cases hk:k=0
     · subst hk;exact refHas_c20 t w (Lib.hid hw)
     · exact refHas_c2 k t w (Lib.hid hk) (Lib.hid hw)
   · by_cases hk:k=0
     · subst hk;exact refHas_c30 t w (Lib.hid hw)
     · exact refHas_c3 k t w (Lib.hid hk) (Lib.hid hw)
end Go.Proofs.YtendnkpiidhogaaGreat.At

namespace Go.Proofs.YtendnkpiidhogaaGreat.At
open Go.RowKit Go.Shelf
attribute [local go_sem] Oper.semAt_some
theorem bset {w:World} {g:Nat} {t:TypeId} {cs:Array Value} (h:w.heap[g]?=some (.cells cs t (0,0))) (i:Nat) (u:Value):(w.setCell ⟨g,i,none⟩ u).heap[g]?=some (.cells (cs.setIfInBounds i u) t (0,0)):=by
 simp [World.setCell,Array.getElem?_modify,h]
end Go.Proofs.YtendnkpiidhogaaGreat.At

namespace Go.Proofs.YtendnkpiidhogaaGreat.At
open Go.RowKit
theorem ret_3 {k1 k2 k3:IntKind} {a b c a' b' c':Int} (h:(a,b,c)=(a',b',c')):Ending.returned (.tuple #[.int k1 a,.int k2 b,.int k3 c])=.returned (.tuple #[.int k1 a',.int k2 b',.int k3 c']):=by cases h;rfl
theorem RA.take {w:World} {P:Nat→Prop} {A:Option Addr} {c:Nat} {l:Attrs} (h:RA w P A c l) {m:Nat} (hm:m≤l.length):RA w P A c (l.take m):=by
 obtain ⟨cs,h1,h2⟩:=h
 refine ⟨cs.take (m*2),by rw [List.length_take,Nat.min_eq_left hm];exact h1.pre hm,fun j x hx=>?_⟩
 rw [List.getElem?_take] at hx
 split at hx
 · rw [List.getElem?_take,List.getElem?_take,if_pos (by omega),if_pos (by omega)]
   exact h2 j x hx
 · cases hx
theorem RA.lit {w:World} {V P:Nat→Prop} (cs:Array Value) (t:TypeId) (l:Attrs) (n H:Nat) (h:CA w V l cs.toList) (hn:l.length=n) (hc:cs.size=n*2) (hs:n≤1000) (hH:w.heap.size=H) (hV:∀ b,V b→b<H) (hP:P H) (hVP:∀ b,V b→P b) :
 RA (w.alloc (.cells cs t)) P (some ⟨H,0,none⟩) n l:=by
 subst hn hH
 refine ⟨cs.toList,RS.fresh cs t 2 l.length hc (by unfold maxLen;omega) hP,fun j x hx=>?_⟩
 obtain ⟨h1,A',c',h2,h3⟩:=h j x hx
 exact ⟨h1,A',c',h2,(h3.keep fun p hp=>World.cell?_alloc_lt w _ p (hV _ hp)).mono hVP⟩
end Go.Proofs.YtendnkpiidhogaaGreat.At

namespace Go.Proofs.YtendnkpiidhogaaGreat.At
open Go.RowKit Go.Shelf
def kindsF (b1 b2:Bool) (o1 o2:Option Nat) (class_ key:Int):Int×Int×Int :=
 if class_=-1 then
  if !b1 || (!(o1==some 0) && !b2) then (0,0,208)
  else if o1=some 0 then (0,0,0)
  else match o1,o2 with
   | some c,some k=>if together c k then (c,k,0) else (0,0,19)
   | _,_=>(0,0,19)
 else
  if b1 && !(o1.map (fun n:Nat=>(n:Int))==some class_) || b2 && !(o2.map (fun n:Nat=>(n:Int))==some (if class_=0 then 0 else key)) then (0,0,209)
  else (class_,if class_=0 then 0 else key,0)
theorem kinds_eq (l:Attrs) (class_ key:Int):kindsOf l class_ key=kindsF (came l 0) (came l 256) (intOf' l 0) (intOf' l 256) class_ key:=rfl
end Go.Proofs.YtendnkpiidhogaaGreat.At

namespace Go.Proofs.YtendnkpiidhogaaGreat.At
open Go.RowKit Go.Shelf
attribute [local go_sem] Oper.semAt_some
def WithP (R:Attrs ⊕ Int) (base:Nat) (e:Ending) (w':World):Prop :=
 match R with
 | .inl x=>∃ A c,e=.returned (.tuple #[.slice A x.length c,.int .i64 0])∧RA w' (In base w'.heap.size) A c x
 | .inr r=>e=.returned (.tuple #[.slice none 0 0,.int .i64 r])
theorem withP_no {R:Attrs ⊕ Int} {r:Int} {base:Nat} {w':World} (h:R=.inr r):WithP R base (.returned (.tuple #[.slice none 0 0,.int .i64 r])) w':=by rw [h];rfl
theorem withP_yes {R:Attrs ⊕ Int} {x:Attrs} {n:Nat} {A:Option Addr} {c:Nat} {base:Nat} {w':World} (h:R=.inl x) (hn:x.length=n) (hx:RA w' (In base w'.heap.size) A c x):WithP R base (.returned (.tuple #[.slice A n c,.int .i64 0])) w':=by
 rw [h];exact ⟨A,c,by rw [hn],hx⟩
end Go.Proofs.YtendnkpiidhogaaGreat.At
