/- Laws that the proof rests on. -/
import Derived.Test.YtaemogcomplhiaaGreatDoorQ4a974a98d655
set_option maxRecDepth 100000
set_option maxHeartbeats 16000000
namespace Go.Proofs.YtaemogcomplhiaaGreatDoor
open Go.RowKit
open Sha
theorem KW.ne {w:World}{b:Nat}{k v:List Nat}{n:Int}(h:KW w)(hd:DR w b k v n):3≠b:=by
 intro e;obtain⟨z,h1,h2⟩:=h 0 (by omega);obtain⟨Ak,ck,Av,cv,h3,_⟩:=hd;rw[e]at h1;rw[zQ h3 0]at h1;simp at h1
theorem KW.dr {w X:World}{b F:Nat}{k v:List Nat}{n:Int}(h:KW w)(hd:DR w b k v n)(hf:Fr b F w X)(hF:w.heap.size≤F):KW X:=fun i hi=>by
 obtain⟨z,h1,h2⟩:=h i hi;exact⟨z,(qH (hf.block _ (zI h.lt hF) (h.ne hd))).trans h1,h2⟩
theorem DR.vcell {w:World}{b:Nat}{k v:List Nat}{n:Int}(h:DR w b k v n):∃ Av cv,w.cell? ⟨b,1,none⟩=some (.slice Av 32 cv):=by
 obtain⟨Ak,ck,Av,cv,h1,_⟩:=h;exact⟨Av,cv,zQ h1 1⟩
theorem DR.free {w:World}{b:Nat}{k v:List Nat}{n:Int}(h:DR w b k v n)(i:Nat):w.frozen? ⟨b,i,none⟩=false:=by
 obtain⟨Ak,ck,Av,cv,h1,_⟩:=h;exact qu h1 i
theorem DR.kcell {w:World}{b:Nat}{k v:List Nat}{n:Int}(h:DR w b k v n):∃ Av cv,w.cell? ⟨b,0,none⟩=some (.slice Av 32 cv):=by
 obtain⟨Ak,ck,Av,cv,h1,_⟩:=h;exact⟨Ak,ck,zQ h1 0⟩
theorem zCv {w w1:World}{b:Nat}{k v k':List Nat}{n:Int}{A:Option Addr}{c:Nat}(hd:DR w b k v n)(hE:Ext w w1)(ho:OW w1 w.heap.size A c k')(hl:k'.length=32) :
 DR (w1.setCell ⟨b,0,none⟩ (.slice A 32 c)) b k' v n∧Fr b w.heap.size w (w1.setCell ⟨b,0,none⟩ (.slice A 32 c)) :=
 ⟨(hd.ext hE).setK (ho.rb' (by omega)) hl,(vq hE (zG _)).trans (Fr.just ((jk b w1).set 0 _) hE.bsize)⟩
theorem zCu {w w1:World}{b:Nat}{k v v':List Nat}{n:Int}{A:Option Addr}{c:Nat}(hd:DR w b k v n)(hE:Ext w w1)(ho:OW w1 w.heap.size A c v')(hl:v'.length=32) :
 DR (w1.setCell ⟨b,1,none⟩ (.slice A 32 c)) b k v' n∧Fr b w.heap.size w (w1.setCell ⟨b,1,none⟩ (.slice A 32 c)) :=
 ⟨(hd.ext hE).setV (ho.rb' (by omega)) hl,(vq hE (zG _)).trans (Fr.just ((jk b w1).set 1 _) hE.bsize)⟩
theorem DR.v0 {w:World}{b:Nat}{k v:List Nat}{n:Int}{y:Value}(h:DR w b k v n)(hv:w.cell? ⟨b,1,none⟩=some y)(u:Value):(w.setCell ⟨b,0,none⟩ u).cell? ⟨b,1,none⟩=some y:=by
 obtain⟨Ak,ck,Av,cv,h1,_⟩:=h;have e1:=zQ h1 1;rw[hv]at e1;rw[zQ (jM h1 0 u) 1,e1];rfl
theorem cL {b:Nat}{k v d:List Nat}{n:Int}{P:Nat→Prop}{A:Option Addr}{c:Nat}(w:World)(hk:KW w)(hd:DR w b k v n)(hp:RB w P A c d)(hP:∀ k,P k→k<w.heap.size)(hl:d.length≤200000) :
 Calls Tryz.prog 33 #[.pointer (some ⟨b,0,none⟩),.slice A d.length c] w fun e w'=>e=.returned (.tuple #[])∧DR w' b (gc k v d).1 (gc k v d).2 n∧Fr b w.heap.size w w':=by
 obtain⟨Av,cv,vc⟩:=hd.vcell
 have h1:=mac3 (x:=0) w hk hd (by omega) hp hP hl vc
 rw[show((0:Nat):Int)=0 from rfl]at h1
 have H1:=zF h1
 obtain⟨Ak,ck,kc⟩:=hd.kcell
 clear h1
 have HK:=zF hk
 have HD:=zF hd
 have HP:=zF hp
 have HPP:=zF hP
 clear hk hd hp hP
 go_enter Tryz.func33,Tryz.ntmps33
 go_wp2_with fail
 refine H1.out.mono ?_
 rintro e w1 ⟨A1,c1,rfl,ho,hE⟩
 obtain⟨hd1,hf1⟩:=zCv HD.out hE ho (uL _ _)
 have fr1:=(HD.out.ext hE).free 0
 have vc1:=hE.cell vc
 have kc1:=hE.cell kc
 have HK1:=zF (HK.out.dr HD.out hf1 (zG _))
 have vcs:=(HD.out.ext hE).v0 vc1 (.slice A1 32 c1)
 have HD1:=zF hd1
 have HF1:=zF hf1
 clear hd1 hf1 hE ho vc vc1 H1 kc
 go_upto_region 1 with fail
 obtain⟨X1,hX1⟩:=eV (w1.setCell ⟨b,0,none⟩ (.slice A1 32 c1))
 rw[hX1]at HK1 HD1 HF1 vcs ⊢
 clear hX1 fr1 kc1
 have H2:=zF (zDx _ HK1.out HD1.out vcs)
 go_wp2_with fail
 refine H2.out.mono ?_
 rintro e w2 ⟨A2,c2,rfl,ho,hE⟩
 obtain⟨hd2,hf2⟩:=zCu HD1.out hE ho (uL _ _)
 have fr2:=(HD1.out.ext hE).free 1
 have vc2:=hE.cell vcs
 have hff:=HF1.out.trans (hf2.mono HF1.out.size)
 have HK2:=zF (HK.out.dr HD.out hff (zG _))
 have HP2:=zF (HP.out.dr HPP.out HD.out hff)
 have HD2:=zF hd2
 have HF2:=zF hff
 clear hd2 hf2 hff hE ho vcs H2 HK1 HD1 HF1 HK HP
 go_upto_region 2 with fail
 obtain⟨X2,hX2⟩:=eV (w2.setCell ⟨b,1,none⟩ (.slice A2 32 c2))
 rw[hX2]at HK2 HD2 HF2 HP2 ⊢
 clear hX2 fr2 vc2
 by_cases h0:d.length=0
 · have l0:¬(0:Int)<(d.length:Int):=by omega
   go_wp2_with fail;have hu:gc k v d=oG k v d 0:=qg h0;have hfin:DR X2 b (gc k v d).1 (gc k v d).2 n:=by rw[hu];exact HD2.out
   go_end0;exact⟨rfl,hfin,HF2.out⟩
 · have l0:(0:Int)<(d.length:Int):=by omega
   have H3:=zF (HD2.out);obtain⟨Av',cv',vc⟩:=HD2.out.vcell;obtain⟨Ak',ck',kc⟩:=HD2.out.kcell;have hlt2:∀ k,P k→k<X2.heap.size:=fun k hk=>zI (HPP.out k hk) HF2.out.size;have h1:=mac3 (x:=1) X2 HK2.out HD2.out (by omega) HP2.out hlt2 hl vc;rw[show((1:Nat):Int)=1 from rfl]at h1;have H1:=zF h1;clear h1 hlt2;go_wp2_with fail;refine H1.out.mono ?_;rintro e w3 ⟨A3,c3,rfl,ho,hE⟩;obtain⟨hd1,hf1⟩:=zCv HD2.out hE ho (uL _ _);have fr1:=(HD2.out.ext hE).free 0;have vc1:=hE.cell vc;have kc1:=hE.cell kc;have HK1:=zF (HK2.out.dr HD2.out hf1 (zG _));have vcs:=(HD2.out.ext hE).v0 vc1 (.slice A3 32 c3);have HD1:=zF hd1;have HF1:=zF (HF2.out.trans (hf1.mono HF2.out.size));clear hd1 hf1 hE ho vc vc1 H1 kc;go_upto_region 4 with fail;obtain⟨X1,hX1⟩:=eV (w3.setCell ⟨b,0,none⟩ (.slice A3 32 c3));rw[hX1]at HK1 HD1 HF1 vcs ⊢;clear hX1 fr1 kc1;have H2:=zF (zDx _ HK1.out HD1.out vcs);go_wp2_with fail;refine H2.out.mono ?_;rintro e w4 ⟨A4,c4,rfl,ho,hE⟩;obtain⟨hd2,hf2⟩:=zCu HD1.out hE ho (uL _ _);have fr2:=(HD1.out.ext hE).free 1;have vc2:=hE.cell vcs;have hff:=HF1.out.trans (hf2.mono HF1.out.size);have hu:gc k v d=oG (oG k v d 0).1 (oG k v d 0).2 d 1:=ql h0;have Hfin:=zF (show DR (w4.setCell ⟨b,1,none⟩ (.slice A4 32 c4)) b (gc k v d).1 (gc k v d).2 n by rw[hu];exact hd2);have HF2':=zF hff;clear hd2 hf2 hff hE ho vcs H2 HK1 HD1 HF1 hu;go_wp2_with fail;go_end0;exact⟨rfl,Hfin.out,HF2'.out⟩
def dvs (k v:List Nat):Nat→List Nat
 | 0=>v
 | m+1=>bu k (dvs k v m)
def xM (k v:List Nat):Nat→List Nat
 | 0=>[]
 | m+1=>xM k v m++dvs k v (m+1)
theorem aY (k v:List Nat)(m:Nat):(xM k v m).length=32*m:=by
 induction m with
 | zero=>rfl
 | succ m ih=>rw[xM,zz,ih,dvs,uL];omega
def BL (w:World) (F b:Nat) (k v:List Nat) (n:Int) (A:Option Addr) (c:Nat) (out:List Nat):Prop :=
 ∃ Ak ck Av cv,w.heap[b]?=some (.cells #[.slice Ak 32 ck,.slice Av 32 cv,.int .i64 n] 70 (0,0))∧RB w (fun g=>g<F) Ak ck k∧F≤w.heap.size∧RB w (fun g=>g<w.heap.size) Av cv v∧k.length=32∧v.length=32∧OW w F A c out
theorem BL.dr {w:World}{F b c:Nat}{k v out:List Nat}{n:Int}{A:Option Addr}(h:BL w F b k v n A c out):DR w b k v n:=by
 obtain⟨Ak,ck,Av,cv,h1,h2,hF,h3,h4,h5,_⟩:=h;exact⟨Ak,ck,Av,cv,h1,h2.mono fun _ hg=>zI hg hF,h3,h4,h5⟩
theorem BL.ow {w:World}{F b c:Nat}{k v out:List Nat}{n:Int}{A:Option Addr}(h:BL w F b k v n A c out):OW w F A c out:=let ⟨_,_,_,_,_,_,_,_,_,_,h⟩:=h;h
theorem DR.bl {w:World}{b:Nat}{k v:List Nat}{n:Int}(h:DR w b k v n):BL w w.heap.size b k v n none 0 []:=by
 obtain⟨Ak,ck,Av,cv,h1,h2,h3,h4,h5⟩:=h;exact⟨Ak,ck,Av,cv,h1,h2,zG _,h3,h4,h5,⟨⟨by simp[bys],.inl ⟨rfl,rfl⟩⟩,by simp⟩⟩
theorem OW.drb {w X:World}{b:Nat}{cs:Array Value}{A:Option Addr}{c base:Nat}{l:List Nat}(h:OW w base A c l)(hj:jQ b w X)(hb:w.heap[b]?=some (.cells cs 70 (0,0))):OW X base A c l :=
 h.same fun g _ cs' hk=>hj.at_ (fun e=>by
  rw[e,hb]at hk
  injection jX hk with _ e2
  exact absurd e2 (by decide)) hk
theorem zDZ {w:World}{b g base c:Nat}{cs:Array Value}{A:Option Addr}{l:List Nat}(hb:w.heap[b]?=some (.cells cs 70 (0,0)))(h:OW w base A c l)(hg:(Value.slice A l.length c).ownBlock=some g):b≠g:=by
 intro e;obtain⟨_,cs',hc⟩:=h.own hg;rw[←e,hb]at hc;injection jX hc with _ e2
 exact absurd e2 (by decide)
theorem BL.turn {w w1:World}{F b c c':Nat}{k v v' out:List Nat}{n:Int}{A A':Option Addr}(h:BL w F b k v n A c out)(hE:Ext w w1)(ho:OW w1 w.heap.size A' c' v')(hl:v'.length=32) :
 BL (w1.setCell ⟨b,1,none⟩ (.slice A' 32 c')) F b k v' n A c out∧OW (w1.setCell ⟨b,1,none⟩ (.slice A' 32 c')) w.heap.size A' c' v'∧(w1.setCell ⟨b,1,none⟩ (.slice A' 32 c')).cell? ⟨b,1,none⟩=some (.slice A' 32 c')∧(∀ g,(Value.slice A out.length c).ownBlock=some g→g<w.heap.size):=by
 have hd:=h.dr.ext hE
 obtain⟨Ak,ck,Av,cv,h1,h2,hF,h3,h4,h5,h6⟩:=h
 have j:=(jk b w1).set 1 (.slice A' 32 c')
 have h1':=hE.at_ h1
 have ho':=ho.drb j h1'
 exact⟨⟨Ak,ck,A',c',jM h1' 1 _,(h2.below hE (fun _ hg=>zI hg hF)).dr (fun _ hg=>zI hg (zK hF hE.bsize)) hd (DR.frS _ _),zK hF (zK hE.bsize (DR.frS (b:=b) 1 (.slice A' 32 c')).size),ho'.rb' (by omega),h4,hl,(h6.same fun g _ cs hk=>hE.at_ hk).drb j h1'⟩,ho',by rw[zQ (jM h1' 1 _) 1];rfl,fun g hg=>let ⟨_,cs,hc⟩:=h6.own hg;qr hc⟩
theorem OW.keepOwn {w w':World}{base:Nat}{A:Option Addr}{c:Nat}{bs:List Nat}(h:OW w base A c bs)(hk:∀ g cs,(Value.slice A bs.length c).ownBlock=some g→w.heap[g]?=some (.cells cs 5 (0,0))→w'.heap[g]?=some (.cells cs 5 (0,0))):OW w' base A c bs:=by
 obtain⟨⟨h1,h2⟩,h3⟩:=h;refine⟨⟨h1,?_⟩,h3⟩;rcases h2 with h2|⟨g,cap,cur,e,hg,hb,h4⟩
 · exact .inl h2
 · exact .inr ⟨g,cap,cur,e,hg,hk g _ (by rw[e];simp[Value.ownBlock]) hb,h4⟩
theorem BL.app {w w':World}{F B b c c2:Nat}{k v out:List Nat}{n:Int}{A A' A2:Option Addr}{c':Nat}(h:BL w F b k v n A c out)(hv:OW w B A' c' v)(hc:w.cell? ⟨b,1,none⟩=some (.slice A' 32 c'))(hB:∀ g,(Value.slice A out.length c).ownBlock=some g→g<B)
 (hg:w.grownBy w' (Value.slice A out.length c).ownBlock) (ho:OW w' F A2 c2 (out++v)):BL w' F b k v n A2 c2 (out++v):=by
 obtain⟨Ak,ck,Av,cv,h1,h2,hF,h3,h4,h5,h6⟩:=h
 have e1:=zQ h1 1
 rw[hc]at e1
 simp only[zR,zi,qo,Option.some.injEq,Value.slice.injEq]at e1
 obtain⟨rfl,_,rfl⟩:=e1
 have k1:=(hg.block b (qr h1) (fun e=>zDZ h1 h6 e.symm rfl)).trans h1
 refine⟨Ak,ck,A',c',k1,h2.keep fun p hp=>qH (hg.block _ (zI hp hF) (fun e=>?_)),zK hF hg.size,(hv.keepOwn fun g cs hq hk=>(hg.block g (qr hk) (fun e=>?_)).trans hk).rb' (by omega),h4,h5,ho⟩
 · have h8:=(h6.own e.symm).1;omega
 · have h7:=(hv.own hq).1;have h8:=hB g e.symm;omega
theorem OW.blk {w:World}{base:Nat}{A:Option Addr}{c:Nat}{bs:List Nat}(h:OW w base A c bs)(h0:0<bs.length):∃ g cs,A=some ⟨g,0,none⟩∧w.heap[g]?=some (.cells cs 5 (0,0)):=by
 obtain⟨⟨h1,h2⟩,h3⟩:=h;rcases h2 with⟨e,hn⟩|⟨g,cap,cur,e,hg,hb,h4⟩
 · injection e with e1 e2 e3
   omega
 · injection e with e1 e2 e3
   exact⟨g,_,e1,hb⟩
theorem pZ {b m:Nat}{k v:List Nat}{num:Int}(w:World)(hk:KW w)(hd:DR w b k v num)(hm:0<m)(hm2:m≤65536)(hn:0≤num)(hn2:num<1000000000) :
 Calls Tryz.prog 96 #[.pointer (some ⟨b,0,none⟩),.int .i64 (m:Int)] w fun e w'=>∃ A c,e=.returned (.slice A m c)∧RB w' (In w.heap.size w'.heap.size) A c ((xM k v ((m+31)/32)).take m)∧DR w' b (gc k (dvs k v ((m+31)/32)) []).1 (gc k (dvs k v ((m+31)/32)) []).2 (num+1)∧Fr b w.heap.size w w'∧∃ g cs,A=some ⟨g,0,none⟩∧w'.heap[g]?=some (.cells cs 5 (0,0)):=by
 have HB0:=zF hd.bl
 have HK:=zF hk
 have HD:=zF hd
 have m1:¬(m:Int)<1:=by omega
 have m2:¬(65536:Int)<(m:Int):=by omega
 clear hk hd
 go_enter Tryz.func96,Tryz.ntmps96
 go_wp2_with fail
 go_loopw [5] (fun sv wr=>∃(q:Nat) (A:Option Addr) (c:Nat),sv=.slice A (xM k v q).length c∧32*q<m+32∧Hid (BL wr w.heap.size b k (dvs k v q) num A c (xM k v q))∧Hid (Fr b w.heap.size w wr)) (fun sv _=>m+32-(match sv with | .slice _ l _=>l|_=>0))
 case atStart=>exact⟨0,none,0,rfl,by omega,HB0,zF (Fr.refl _ _ _)⟩
 case round =>
  clear HB0;obtain⟨q,A,c,rfl,hq,HB,HF⟩:=hrel;have hql:=aY k v q;obtain⟨Av,cv,vc⟩:=HB.out.dr.vcell;by_cases hlt:32*q<m
  · have hl1:((xM k v q).length:Int)<(m:Int):=by omega
    have HKr:=zF (HK.out.dr HD.out HF.out (zG _));have H2:=zF (zDx _ HKr.out HB.out.dr vc);have Hql:=zF hql;have fsz:=HF.out.size;clear hql HKr;go_wp2_with fail;refine H2.out.mono ?_;rintro e w1 ⟨A1,c1,rfl,ho,hE⟩;obtain⟨v',hv'⟩:=eV (bu k (dvs k v q));have hvl:v'.length=32:=by rw[←hv'];exact uL _ _
    rw[hv']at ho;obtain⟨hb1,hv1,hc1,hown⟩:=HB.out.turn hE ho hvl;have fr:=(HB.out.dr.ext hE).free 1;have vc1:=hE.cell vc;have hf1:=(vq hE (zG _)).trans (Fr.just ((jk b w1).set 1 (.slice A1 32 c1)) hE.bsize);have HF1:=zF (HF.out.trans (hf1.mono fsz));have HB1:=zF hb1;have HV1:=zF hv1;have Hown:=zF hown;have Hvl:=zF hvl;have Hv':=zF hv';clear hb1 hv1 hown hvl hv' hf1 hE ho vc H2 HB HF;go_upto_region 6 with fail;obtain⟨X1,hX1⟩:=eV (w1.setCell ⟨b,1,none⟩ (.slice A1 32 c1));rw[hX1]at HF1 HB1 HV1 hc1 ⊢;clear hX1 fr vc1;have hO1:=zF HB1.out.ow;have hP1:=zF (HV1.out.rb (by rw[Hvl.out];omega));have hlen:=zF (show(xM k v q).length+v'.length≤100000000 by rw[Hvl.out,Hql.out];omega);have hbase:=zF HF1.out.size;go_wp2_with (at_builtin;refine zDB rfl (.tmp 30) (.tmp 34) rfl w.heap.size rfl hO1.out (by rw[Hvl.out];rfl) hP1.out hlen.out hbase.out ?_;intro A2 c2 W2 ho2 hg2;have HO2:=zF ho2;have HG2:=zF hg2;clear ho2 hg2);have e1:xM k v q++v'=xM k v (q+1):=by rw[xM,dvs,Hv'.out]
    have e2:v'=dvs k v (q+1):=by rw[dvs,Hv'.out]
    have hba:=HB1.out.app HV1.out hc1 Hown.out HG2.out HO2.out;rw[e1,e2]at hba;have HBn:=zF hba;have HFn:=zF (HF1.out.trans (vq (b:=b) (Below.grown (zl w.heap.size X1) HG2.out hbase.out (nW hO1.out.1)) (zG _)));have E1:=zF e1;clear hba e1 e2;go_roundw;case rel=>exact⟨q+1,A2,c2,by rw[←E1.out,zz],by omega,HBn,HFn⟩
    case measure=>simp only[Hql.out,Hvl.out];omega
  · obtain⟨M,hM⟩:=eV ((m+31)/32);obtain rfl:q=M:=by omega
    have HM:=zF hM;have hl1:¬((xM k v q).length:Int)<(m:Int):=by omega
    have hkr:=HK.out.dr HD.out HF.out (zG _);have H2:=zF (cL (d:=[]) wr hkr HB.out.dr (RB.nil_ wr (fun _=>False)) (fun _ h=>h.elim) (by simp));have Hql:=zF hql;have hrb:=HB.out.ow.rb (by omega);obtain⟨g,cs,eA,hgc⟩:=HB.out.ow.blk (by omega);have HG:=zF hgc;have HA:=zF eA;have fsz:=HF.out.size;have HDB:=zF HB.out.dr;clear hql hkr hM vc hgc eA;go_wp2_with fail;refine H2.out.mono ?_;rintro e w1 ⟨rfl,hd1,hf1⟩;have hR1:=zF (hrb.dr (fun _ hk=>hk.2) HB.out.dr hf1);have HF1:=zF (HF.out.trans (hf1.mono fsz));obtain⟨Ak,ck,Av',cv',h1,_⟩:=id hd1;have nc:=zQ h1 2;simp only[zR,zi,qo]at nc;have fr:=hd1.free 2;have hd2:=hd1.setN (num+1);have hf2:=HF1.out.trans ((Fr.just (b:=b) ((jk b w1).set 2 (.int .i64 (num+1))) (zG _)).mono HF1.out.size);have hR2:=hR1.out.dr (fun _ hk=>zI hk.2 hf1.size) hd1 (Fr.just (b:=b) ((jk b w1).set 2 (.int .i64 (num+1))) (zG _));have hgb:g≠b:=by
     obtain⟨_,_,_,_,hb0,_⟩:=HDB.out;intro e;have hx:=HG.out;rw[e,hb0]at hx;injection jX hx with _ e2
     exact absurd e2 (by decide)
    have HG2:=zF (((jk b w1).set 2 (.int .i64 (num+1))).at_ hgb (hf1.at_ (qr HG.out) hgb HG.out));have HD2:=zF hd2;have HF2:=zF hf2;have HR2:=zF hR2;have hc:=hrb.cap;have b1:(0:Int)≤(m:Int):=by omega
    have b2:(m:Int)≤(c:Int):=by have:=Hql.out;omega
    have hwz:=jW (num+1) (by omega);have fz2:wr.heap.size≤(w1.setCell ⟨b,2,none⟩ (.int .i64 (num+1))).heap.size:=by simpa[World.setCell]using hf1.size
    clear hd1 hf1 hd2 hf2 hR2 h1 hrb H2 HB HF hR1 HF1 hgb HG HDB;go_upto_region 9 with fail;go_wp2_with fail;go_ret;rw[HM.out];have hsl:=HR2.out.mid' (k:=0) (m:=m) (c':=m) (by omega) (by have:=Hql.out;omega) (by omega) (by unfold maxLen;omega) (A':=A) (fun _=>by cases A<;>simp[Addr.add]);rw[List.drop_zero,Nat.sub_zero]at hsl;exact⟨A,m,rfl,hsl.mono fun g hg=>⟨hg.1,zI hg.2 fz2⟩,HD2.out,HF2.out,g,_,HA.out,HG2.out⟩
theorem pb {b m:Nat}{k v:List Nat}{num:Int}(w:World)(hk:KW w)(hd:DR w b k v num)(hm:0<m)(hm2:m≤65536)(hn:0≤num)(hn2:num<1000000000) :
 Calls Tryz.prog 96 #[.pointer (some ⟨b,0,none⟩),.int .i64 (m:Int)] w fun e w'=>∃ A c,e=.returned (.slice A m c)∧RB w' (In w.heap.size w'.heap.size) A c ((xM k v ((m+31)/32)).take m)∧DR w' b (gc k (dvs k v ((m+31)/32)) []).1 (gc k (dvs k v ((m+31)/32)) []).2 (num+1)∧Fr b w.heap.size w w' :=
 (pZ w hk hd hm hm2 hn hn2).mono fun _ _ ⟨A,c,h1,h2,h3,h4,_⟩=>⟨A,c,h1,h2,h3,h4⟩
theorem pd {b q:Nat}{P:Nat→Prop}{A:Option Addr}{c:Nat}{a k v:List Nat}{num:Int}(w:World)(hk:KW w)(hd:DR w b k v num)(h:RN w P A c a)(hP:∀ b,P b→b<w.heap.size)(hPb:¬ P b)(hal:a.length<90000)(hq:zu (val 18446744073709551616 a)=q)(hq0:0<q)(hq1:q≤4096)(hv0:0<val 18446744073709551616 a)(hn:0≤num)(hn2:num<1000000000) :
 Calls Tryz.prog 68 #[.pointer (some ⟨b,0,none⟩),.slice A a.length c] w fun e w'=>∃ A2 c2 r m,m=(q+71)/8∧r=vR ((xM k v ((m+31)/32)).take m)%val 18446744073709551616 a∧e=.returned (.tuple #[.slice A2 (digs 18446744073709551616 r).length c2,.bool true]) ∧
  OB w' w.heap.size A2 c2 (digs 18446744073709551616 r)∧DR w' b (gc k (dvs k v ((m+31)/32)) []).1 (gc k (dvs k v ((m+31)/32)) []).2 (num+1)∧Fr b w.heap.size w w':=by
 have H:=zF (vK P A c a w h)
 rw[hq]at H
 obtain⟨m,hm⟩:=eV ((q+71)/8)
 have hmi:((q:Int)+64+7)/8=(m:Int):=by omega
 have HB:=zF (pb (m:=m) w hk hd (by omega) (by omega) hn hn2)
 have q0:((q:Int)==0)=false:=by rw[beq_eq_false_iff_ne];omega
 have q1:decide ((4096:Int)<(q:Int))=false:=jF (by omega)
 have HM:=zF hm
 have HR:=zF h
 have HD:=zF hd
 have HPP:=zF hP
 clear hk hd h hP hm hn hn2
 go_enter Tryz.func68,Tryz.ntmps68
 go_wp2_with fail
 refine H.out.mono ?_
 rintro e w1 ⟨rfl,rfl⟩
 clear H
 go_wp2_with fail
 refine HB.out.mono ?_
 rintro e w2 ⟨A1,c1,rfl,hr,hd2,hf2⟩
 have hlm:((xM k v ((m+31)/32)).take m).length=m:=by rw[zo,aY];omega
 obtain⟨bs,hbs⟩:=eV ((xM k v ((m+31)/32)).take m)
 rw[hbs]at hr hlm
 have H3:=zF (xf _ A1 c1 bs w2 hr (fun g hg=>hg.2) (by omega))
 rw[hlm]at H3
 have HD2:=zF hd2
 have HF2:=zF hf2
 have HBS:=zF hbs
 have hbl:=hr.2.1
 clear hr hd2 hf2 hbs HB
 go_wp2_with fail
 refine H3.out.mono ?_
 rintro e w3 ⟨A2,c2,rfl,ho3,hb3⟩
 have hl2:(digs 18446744073709551616 (vR bs)).length≤m:=qR (by omega) (zI (zAm hbl) (by rw[hlm];exact Nat.pow_le_pow_left (by omega) m))
 have hr2:RN w2 P A c a:=HR.out.keep fun p hp=>qH (HF2.out.block _ (HPP.out _ hp) (fun e=>hPb (e▸hp)))
 have hP2:∀ g,P g→g<w2.heap.size:=fun g hg=>zI (HPP.out g hg) HF2.out.size
 have H4:=zF (fN _ P A2 A c2 c _ a w3 ho3.rn (hr2.below hb3 hP2) (fun g hg=>hg.2) (fun g hg=>zI (hP2 g hg) hb3.size) (by have:=HM.out;omega) hal hv0)
 rw[zd (by omega)]at H4
 have HB3:=zF hb3
 clear ho3 hb3 hr2 hP2 H3
 go_wp2_with fail
 refine H4.out.mono ?_
 rintro e w4 ⟨A3,c3,A4,c4,rfl,_,ho4,hb4⟩
 have HO4:=zF ho4
 have HD4:=zF ((HD2.out.ext HB3.out).ext hb4)
 have hs1:=HF2.out.size
 have hs2:=HB3.out.size
 have HF4:=zF ((HF2.out.trans (vq (b:=b) HB3.out hs1)).trans (vq (b:=b) hb4 (zK hs1 hs2)))
 clear ho4 hb4 H4
 go_wp2_with fail
 go_ret2
 exact⟨A4,c4,_,m,HM.out.symm,by rw[HBS.out],rfl,HO4.out.mono (zK hs1 hs2),HD4.out,HF4.out⟩
end Go.Proofs.YtaemogcomplhiaaGreatDoor
namespace Go.Proofs.YtaemogcomplhiaaGreatDoor
open Go.RowKit
theorem uu (P P':Nat→Prop)(A A':Option Addr)(c c':Nat)(a b:List Nat)(w:World)(h:RN w P A c a)(h':RN w P' A' c' b)(hP:∀ b,P b→b<w.heap.size)(hP':∀ b,P' b→b<w.heap.size)(hl:a.length<90000)(hl':b.length<90000)(h0:0<val 18446744073709551616 b) :
 Calls Tryz.prog 118 #[.slice A a.length c,.slice A' b.length c'] w fun e w'=>∃ A1 c1,e=.returned (.slice A1 (digs 18446744073709551616 (val 18446744073709551616 a%val 18446744073709551616 b)).length c1) ∧
  OB w' w.heap.size A1 c1 (digs 18446744073709551616 (val 18446744073709551616 a%val 18446744073709551616 b))∧Below w.heap.size w w':=by
 have hq:=zF (fN P P' A A' c c' a b w h h' hP hP' hl hl' h0)
 generalize val 18446744073709551616 a%val 18446744073709551616 b=r at *
 generalize val 18446744073709551616 a/val 18446744073709551616 b=q at *
 clear h0 hl hl'
 go_enter Tryz.func118,Tryz.ntmps118
 go_wp2_with fail
 refine hq.out.mono ?_
 rintro e w1 ⟨A1,c1,A2,c2,rfl,_,hO,hB⟩
 go_wp2
 go_ret
 exact⟨A2,c2,rfl,hO,hB⟩
def RNN (w:World) (P:Nat→Prop) (A:Option Addr) (c:Nat) (ls:List (List Nat)) (cs:List Value):Prop :=
 RS w P 1 A ls.length c cs∧ls.length≤1000∧∀(j:Nat) l,ls[j]?=some l→∃ A' c',cs[j]?=some (.slice A' l.length c')∧RN w P A' c' l
theorem mQ (P:Nat→Prop)(A:Option Addr)(c:Nat)(ls:List (List Nat))(cs:List Value)(w:World)(h:RNN w P A c ls cs) :
 Calls Tryz.prog 117 #[.slice A ls.length c] w fun e w'=>e=.returned (.bool (ls.all fun l=>decide (zu (val 18446744073709551616 l)≤4096)))∧w=w':=by
 obtain⟨⟨h1,h2,h3,h4⟩,h5,h6⟩:=h
 go_enter Tryz.func117,Tryz.ntmps117
 go_wp2_with fail
 go_loopw [7] (fun iv wr=>∃ k:Nat,iv=.int .i64 (k:Int)∧k≤ls.length∧Hid ((ls.all fun l=>decide (zu (val 18446744073709551616 l)≤4096))=((ls.drop k).all fun l=>decide (zu (val 18446744073709551616 l)≤4096)))∧w=wr) (fun iv _=>ls.length-(intOf iv).toNat)
 case atStart=>exact⟨0,rfl,by omega,zF (by simp),rfl⟩
 case round =>
  obtain⟨k,rfl,hk,hall,rfl⟩:=hrel;by_cases hlt:k<ls.length
  · obtain⟨ad,rfl,_,hc⟩:=h4 (by omega);obtain⟨A1,c1,e1,hr⟩:=h6 k _ (qO hlt);have hx:=hc _ _ e1;have hb:=zF (vK P A1 c1 ls[k] w hr);have hd:(ls.drop k).all (fun l=>decide (zu (val 18446744073709551616 l)≤4096))=(decide (zu (val 18446744073709551616 ls[k])≤4096)&&(ls.drop (k+1)).all fun l=>decide (zu (val 18446744073709551616 l)≤4096)):=by
     rw[qa hlt,List.all_cons]
    obtain⟨l,hl⟩:=eV (ls[k]);rw[hl]at hx hb hd;obtain⟨nb,hnb⟩:=eV (zu (val 18446744073709551616 l));rw[hnb]at hb hd;have Hall:=hall;have Hd:=zF hd;clear hd hl hr e1 hc h4 h6 hnb hall;go_wp2_with fail;refine hb.out.mono ?_;rintro e w' ⟨rfl,rfl⟩;by_cases hbig:4096<nb
    · have hf:=zF (show(ls.all fun l=>decide (zu (val 18446744073709551616 l)≤4096))=false from Hall.out.trans (by rw[Hd.out,jF (by omega:¬ nb≤4096),Bool.false_and]));have t1:decide ((4096:Int)<(nb:Int))=true:=qZ (by omega);clear Hall Hd;go_wp2;go_ret;exact⟨by rw[hf.out];rfl,rfl⟩
    · have hf:=Hall.out.trans (by rw[Hd.out,qZ (by omega:nb≤4096),Bool.true_and]);have Hf:=zF hf;have t1:decide ((4096:Int)<(nb:Int))=false:=jF (by omega);clear Hall Hd hf;go_wp2;go_roundw;case rel=>exact⟨k+1,by go_num,by omega,Hf,by first|rfl|trivial⟩
      case measure=>simp[intOf];omega
  · have hf:=zF (show(ls.all fun l=>decide (zu (val 18446744073709551616 l)≤4096))=true from hall.out.trans (by rw[List.drop_of_length_le (by omega),List.all_nil]));clear hall h4 h6;go_wp2;go_ret;exact⟨by rw[hf.out];rfl,rfl⟩
def gU (w:World) (v:Value):Nat:=match v with
 | .slice (some a) n _=>val 18446744073709551616 ((List.range n).map fun i=>match w.cell? (a.add i)with|some (.int _ z)=>z.toNat|_=>0)
 | _=>0
theorem RN.read {w:World}{P:Nat→Prop}{A:Option Addr}{c:Nat}{l:List Nat}(h:RN w P A c l):gU w (.slice A l.length c)=val 18446744073709551616 l:=by
 rcases zT l.length with h0|h0
 · obtain rfl:=qQ h0;cases A<;>simp[gU]
 · obtain⟨ad,rfl,_,_⟩:=h.at_ h0;simp only[gU];congr 1;apply List.ext_getElem?;intro i;rw[List.getElem?_map];by_cases hi:i<l.length
   · rw[List.getElem?_range hi,qO hi,yM,h.cells i hi,yt hi];simp
   · rw[jL (by simp;omega),jL (by omega)];rfl
theorem mh (P P':Nat→Prop)(A A':Option Addr)(c c':Nat)(a b:List Nat)(w:World)(h:RN w P A c a)(h':RN w P' A' c' b)(hP:∀ b,P b→b<w.heap.size)(hP':∀ b,P' b→b<w.heap.size)(hl:a.length<100000)(hl':b.length<100000) :
 Calls Tryz.prog 63 #[.slice A a.length c,.slice A' b.length c'] w fun e w'=>∃ A1 c1,e=.returned (.slice A1 (digs 18446744073709551616 (val 18446744073709551616 a+val 18446744073709551616 b)).length c1) ∧
  OB w' w.heap.size A1 c1 (digs 18446744073709551616 (val 18446744073709551616 a+val 18446744073709551616 b))∧Below w.heap.size w w':=by
 have ta:=zF (jT P A c a w h)
 have tb:=zF (jT P' A' c' b w h')
 have la:=qz (B:=18446744073709551616) (by omega) h.2.1
 have lb:=qz (B:=18446744073709551616) (by omega) h'.2.1
 replace h:=h.trim
 replace h':=h'.trim
 generalize val 18446744073709551616 a=x at *
 generalize val 18446744073709551616 b=y at *
 have hx:=zd (B:=18446744073709551616) (by omega) x
 have hy:=zd (B:=18446744073709551616) (by omega) y
 generalize digs 18446744073709551616 x=l at *
 generalize digs 18446744073709551616 y=m at *
 have la':l.length<100000:=by omega
 have lb':m.length<100000:=by omega
 clear la lb hl hl'
 have Hx:=zF hx
 have Hy:=zF hy
 clear hx hy
 go_enter Tryz.func63,Tryz.ntmps63
 go_wp2_with fail
 refine ta.out.mono ?_
 rintro e w1 ⟨rfl,rfl⟩
 go_wp2_with fail
 refine tb.out.mono ?_
 rintro e w1 ⟨rfl,rfl⟩
 go_upto_if 17 with fail
 go_cut [0,1] (fun s0 s1 wx=>∃(A c:_) (l:List Nat) (A' c':_) (m:List Nat),s0=.slice A l.length c∧s1=.slice A' m.length c'∧m.length≤l.length∧l.length<100000 ∧
  RN w (fun b=>b<w.heap.size) A c l∧RN w (fun b=>b<w.heap.size) A' c' m∧Hid (val 18446744073709551616 l+val 18446744073709551616 m=x+y)∧w=wx)
 case first =>
  by_cases hs:l.length<m.length
  · go_wp2_with fail;go_meet;case rel=>exact⟨A',c',m,A,c,l,rfl,rfl,by omega,by omega,h'.mono hP',h.mono hP,zF (by rw[Hx.out,Hy.out,vp]),rfl⟩
  · go_wp2_with fail;go_meet;case rel=>exact⟨A,c,l,A',c',m,rfl,rfl,by omega,by omega,h.mono hP,h'.mono hP',zF (by rw[Hx.out,Hy.out]),rfl⟩
 case rest =>
  clear ta tb h h' hP hP' Hx Hy la' lb';clear A A' c c' l m;obtain⟨A,c,l,A',c',m,rfl,rfl,hle,hlen,h,h',Hv,rfl⟩:=hcut;obtain⟨h1,h2,h3⟩:=h.cap;obtain⟨g1,g2,g3⟩:=h'.cap;have hmk:=jD (P:=Tryz.prog) 24 65 (.int .u64 0) 8 Tryz.underlying24 kS rfl .i64 .i64 (l.length+1) (by omega) (by omega);simp only[vX,qW]at hmk;go_wp2;go_loopw [6,26] (fun cv iv wr=>∃(k cr:Nat) (o:List Nat),iv=.int .i64 (k:Int)∧cv=.int .u64 (cr:Int)∧k≤l.length∧cr≤1∧wk 18446744073709551616 l m o k cr∧Hid (o.length=l.length+1)∧Lim o∧Blk wr w.heap.size o∧Below w.heap.size w wr) (fun _ iv _=>l.length-(intOf iv).toNat);case atStart=>exact⟨0,0,List.replicate (l.length+1) 0,rfl,rfl,by omega,by omega,wk.zero _ _ _ _,zF (by simp),⟨by simp,by simp;omega⟩,wK w _,(zl _ w).alloc (zG _) _⟩
  case round =>
   obtain⟨k,cr,o,rfl,rfl,hk,hcr,hA,Ho,hLo,hblk,hB⟩:=hrel;by_cases hlt:k<l.length
   · obtain⟨ad,rfl,_,q1⟩:=(h.below hB (fun b hb=>hb)).at_ hlt;obtain⟨s,cr',hs,hcr',he⟩:=ye (dg l k) (dg m k) cr (h.2.dgLt k) (h'.2.dgLt k) hcr;have hok:k<o.length:=by have:=Ho.out;omega
     have q3:=hblk.cell hok;have q4:=hblk.free k;have hA':=hA.step hok he;have hblk':=hblk.set k s;have hLo':=hLo.set k s hs;have hB':=hB.setCell (p:=⟨w.heap.size,k,none⟩) (zG _) (.int .u64 (s:Int));have Ho':Hid ((o.set k s).length=l.length+1):=zF (by rw[jw];exact Ho.out);by_cases hm:k<m.length
     · obtain⟨ae,rfl,_,q2⟩:=(h'.below hB (fun b hb=>hb)).at_ hm;have hadd:=fun w=>kJ (dg l k) (dg m k) cr s cr' hcr hs he w;clear he hA hblk hLo hB;go_wp2;go_roundw;case rel=>exact⟨k+1,cr',o.set k s,by go_num,rfl,by omega,hcr',hA',Ho',hLo',hblk',hB'⟩
       case measure=>simp[intOf];omega
     · have hadd:=fun w=>kJ (dg l k) 0 cr s cr' hcr hs (by rw[km (by omega:m.length≤k)]at he;exact he) w;simp only[qW]at hadd;clear he hA hblk hLo hB;go_wp2;go_roundw;case rel=>exact⟨k+1,cr',o.set k s,by go_num,rfl,by omega,hcr',hA',Ho',hLo',hblk',hB'⟩
       case measure=>simp[intOf];omega
   · obtain rfl:k=l.length:=by omega
     have hfin:=hA.fin (by rw[Ho.out]) (zG _) hle;rw[Hv.out]at hfin;have q4:=hblk.free l.length;have q3:=hblk.cell (i:=l.length) (by have:=Ho.out;omega);have hblk':=hblk.set l.length cr;have hLo':=hLo.set l.length cr (by omega);have hB':=hB.setCell (p:=⟨w.heap.size,l.length,none⟩) (zG _) (.int .u64 (cr:Int));have Ho':Hid ((o.set l.length cr).length=l.length+1):=zF (by rw[jw];exact Ho.out);obtain⟨o',ho'⟩:=eV (o.set l.length cr);rw[ho']at hfin hblk' hLo' Ho';have hOB:OB (wr.setCell ⟨w.heap.size,l.length,none⟩ (.int .u64 (cr:Int))) w.heap.size (some ⟨w.heap.size,0,none⟩) (l.length+1) o':=kq hblk' (zG _) hLo' (by have:=Ho'.out;omega) (by unfold maxLen;omega);have ht:=jT _ _ _ _ _ hOB.rn;have hOB':=hOB.trim;rw[hfin,Ho'.out]at ht;rw[hfin]at hOB';have Ht:=zF ht;clear hA hblk hLo hB ht hfin hOB hblk' hLo' ho';go_wp2_with fail;refine Ht.out.mono ?_;rintro e w1 ⟨rfl,rfl⟩;go_wp2;go_ret;exact⟨_,_,rfl,hOB',hB'⟩
end Go.Proofs.YtaemogcomplhiaaGreatDoor
namespace Go.Proofs.YtaemogcomplhiaaGreatDoor
def jp (m r s t u:Nat):Nat×Nat:=if _h:s=0 then(r,t)else jp m s (r%s) u ((t+m-r/s*u%m)%m)
termination_by s
decreasing_by exact qL _ (by omega)
theorem vP (m r t u:Nat):jp m r 0 t u=(r,t):=by rw[jp];simp
theorem xD {m r s t u:Nat}(h:s≠0):jp m r s t u=jp m s (r%s) u ((t+m-r/s*u%m)%m):=by rw[jp];simp[h]
def xE (x m:Nat):List Nat×Bool:=if(jp m m (x%m) 0 1).1=1 then(digs 18446744073709551616 (jp m m (x%m) 0 1).2,true)else([],false)
end Go.Proofs.YtaemogcomplhiaaGreatDoor
namespace Go.Proofs.YtaemogcomplhiaaGreatDoor
open Go.RowKit
theorem RNN.two {w:World}{P P':Nat→Prop}{A A':Option Addr}{c c':Nat}{a b:List Nat}(h:RN w P A c a)(h':RN w P' A' c' b)(hP:∀ b,P b→b<w.heap.size)(hP':∀ b,P' b→b<w.heap.size) :
 RNN (w.alloc (.cells #[.slice A a.length c,.slice A' b.length c'] 24)) (fun _=>True) (some ⟨w.heap.size,0,none⟩) 2 [a,b] [.slice A a.length c,.slice A' b.length c']:=by
 have hB:Below w.heap.size w (w.alloc (.cells #[.slice A a.length c,.slice A' b.length c'] 24)):=(zl _ w).alloc (zG _) _
 refine⟨RS.fresh (w:=w) (P:=fun _=>True) #[.slice A a.length c,.slice A' b.length c'] 24 1 2 rfl (by unfold maxLen;omega) trivial,by simp,fun j l hl=>?_⟩
 match j,hl with
 | 0,hl=>simp at hl;subst hl;exact⟨A,c,rfl,(h.below hB hP).mono fun _ _=>trivial⟩
 | 1,hl=>simp at hl;subst hl;exact⟨A',c',rfl,(h'.below hB hP').mono fun _ _=>trivial⟩
 | j+2,hl=>simp at hl
theorem oF (P P':Nat→Prop)(A A':Option Addr)(c c':Nat)(a b:List Nat)(X M:Nat)(w:World)(h:RN w P A c a)(h':RN w P' A' c' b)(hP:∀ b,P b→b<w.heap.size)(hP':∀ b,P' b→b<w.heap.size)(hX:val 18446744073709551616 a=X)(hM:val 18446744073709551616 b=M)(hM2:2≤M)
 (hla:a.length<40000) (hlb:b.length<40000) (hmay:zu X≤4096∧zu M≤4096) :
 Calls Tryz.prog 86 #[.slice A a.length c,.slice A' b.length c'] w fun e w'=>∃ A1 c1,e=.returned (.tuple #[.slice A1 (xE X M).1.length c1,.bool (xE X M).2])∧OB w' w.heap.size A1 c1 (xE X M).1∧Below w.heap.size w w':=by
 have hb:=vK P' A' c' b w h'
 have hlM:(digs 18446744073709551616 M).length≤40000:=by have:=qz (B:=18446744073709551616) (by omega) h'.2.1;rw[hM]at this;omega
 have hnb:2≤zu M:=by
  rcases qF (zu M) 2 with h0|h0
  · have:=yr (x:=M) (k:=1) (by omega);omega
  · exact h0
 rw[hM]at hb
 have t1:decide ((zu M:Int)<2)=false:=jF (by omega)
 have hmy:=mQ _ _ _ _ _ _ (RNN.two h h' hP hP')
 rw[show(([a,b]:List (List Nat)).all fun l=>decide (zu (val 18446744073709551616 l)≤4096))=true by simp[hX,hM,hmay.1,hmay.2]]at hmy
 simp only[jZ,kA,jH,Nat.reduceAdd]at hmy
 have hB0:Below w.heap.size w (w.alloc (.cells #[.slice A a.length c,.slice A' b.length c'] 24)):=(zl _ w).alloc (zG _) _
 have hz0:(w.alloc (.cells #[.slice A a.length c,.slice A' b.length c'] 24)).heap.size=w.heap.size+1:=by simp
 have Hb:=zF hb
 have Hmy:=zF hmy
 clear hb hmy hmay hnb
 go_enter Tryz.func86,Tryz.ntmps86
 go_wp2_with fail
 refine Hb.out.mono ?_
 rintro e w' ⟨rfl,rfl⟩
 go_wp2_with fail
 refine Hmy.out.mono ?_
 rintro e w' ⟨rfl,rfl⟩
 generalize w.alloc (.cells #[.slice A a.length c,.slice A' b.length c'] 24)=W0 at *
 have hn1:=yW P' A' c' b W0 (h'.below hB0 hP')
 rw[hM]at hn1
 have Hn1:=zF hn1
 clear hn1
 go_wp2_with fail
 refine Hn1.out.mono ?_
 rintro e w1 ⟨A1,c1,rfl,hO1,hB1⟩
 have hB01:=hB0.trans (hB1.mono (by omega))
 have hr1:=uu P P' A A' c c' a b w1 (h.below hB01 hP) (h'.below hB01 hP') (fun b hb=>by have:=hP b hb;have:=hB01.size;omega) (fun b hb=>by have:=hP' b hb;have:=hB01.size;omega) (by omega) (by omega) (by omega)
 rw[hX,hM]at hr1
 have Hr1:=zF hr1
 clear hr1
 go_wp2_with fail
 refine Hr1.out.mono ?_
 rintro e w2 ⟨A2,c2,rfl,hO2,hB2⟩
 have hB02:=hB01.trans (hB2.mono hB01.size)
 have hof:=zF (gq 1 w2 (by omega))
 go_wp2_with fail
 refine hof.out.mono ?_
 rintro e w3 ⟨A3,c3,rfl,hO3,hB3⟩
 have hB03:=hB02.trans (hB3.mono hB02.size)
 have hz1:=hB01.size
 have hz2:=hB02.size
 have hz3:=hB03.size
 have zA:OB w3 w.heap.size A1 c1 (digs 18446744073709551616 M):=((hO1.below hB2 (zG _)).below hB3 (zG _)).mono (by omega)
 have zB:OB w3 w.heap.size A2 c2 (digs 18446744073709551616 (X%M)):=(hO2.below hB3 (zG _)).mono (by omega)
 have zC:OB w3 w.heap.size A3 c3 (digs 18446744073709551616 1):=hO3.mono (by omega)
 have hXm:=qL X (show 0<M by omega)
 clear hO1 hO2 hO3 hB0 hB1 hB2 hB3 hB01 hB02 Hn1 Hr1 hof h
 go_wp2_with fail
 go_loopw [6,7,8,9] (fun rv sv tv uv wr=>∃(A1 A2 A3 A4:Option Addr) (c1 c2 c3 c4 r s t u:Nat),rv=.slice A1 (digs 18446744073709551616 r).length c1∧sv=.slice A2 (digs 18446744073709551616 s).length c2∧tv=.slice A3 (digs 18446744073709551616 t).length c3∧uv=.slice A4 (digs 18446744073709551616 u).length c4 ∧
  OB wr w.heap.size A1 c1 (digs 18446744073709551616 r)∧OB wr w.heap.size A2 c2 (digs 18446744073709551616 s)∧OB wr w.heap.size A3 c3 (digs 18446744073709551616 t)∧OB wr w.heap.size A4 c4 (digs 18446744073709551616 u)∧r≤M∧s≤M∧t≤M∧u≤M∧Hid (jp M r s t u=jp M M (X%M) 0 1)∧Below w.heap.size w wr)
  (fun _ sv _ _ wr=>gU wr sv)
 case atStart=>exact⟨A1,A2,none,A3,c1,c2,0,c3,M,X%M,0,1,rfl,rfl,by rw[qV];rfl,rfl,zA,zB,by rw[qV];exact OB.nil_ _ _,zC,by omega,by omega,by omega,by omega,zF rfl,hB03⟩
 case round =>
  clear zA zB zC hB03 hXm;obtain⟨A1,A2,A3,A4,c1,c2,c3,c4,r,s,t,u,rfl,rfl,rfl,rfl,zA,zB,zC,zD,hr,hs,ht,hu,hI,hB⟩:=hrel;have zw:=hB.size;by_cases h0:s=0
  · subst h0;have hI':=hI.out;rw[vP]at hI';have hbr:=zF (vK _ A1 c1 _ wr zA.rn);rw[zd (by omega)]at hbr;rw[qV]at *;have hlr:(r:Nat)=1↔zu r=1:=by
     constructor
     · rintro rfl;decide
     · intro h;have h1:=yr (x:=r) (k:=1) (by omega);rcases zT r with h2|h2
       · subst h2;rw[wW]at h;omega
       · omega
    by_cases h1:r=1
    · have hn1:zu r=1:=hlr.1 h1;have hans:xE X M=(digs 18446744073709551616 t,true):=by rw[xE,←hI',qg h1]
      rw[hn1]at hbr;have Hans:=zF hans;clear hans hI hI' hlr h1 hn1;go_wp2_with fail;refine hbr.out.mono ?_;rintro e w' ⟨rfl,rfl⟩;go_wp2;go_ret2;exact⟨A3,c3,by rw[Hans.out];rfl,by rw[Hans.out];exact zC,hB⟩
    · have hn1:((zu r:Nat):Int)≠1:=fun e=>h1 (hlr.2 (by omega));have hans:xE X M=([],false):=by rw[xE,←hI',ql h1]
      have t2:(((zu r:Nat):Int) != 1)=true:=by simpa using hn1
      have Hans:=zF hans;clear hans hI hI' hlr h1 hn1;go_wp2_with fail;refine hbr.out.mono ?_;rintro e w' ⟨rfl,rfl⟩;go_wp2;go_ret2;exact⟨none,0,by rw[Hans.out];rfl,by rw[Hans.out];exact OB.nil_ _ _,hB⟩
  · have kp:(0:Int)<((digs 18446744073709551616 s).length:Int):=by
     have:0<(digs 18446744073709551616 s).length:=by rw[jj (by omega) (by omega)];simp
     omega
    have zm:=h'.below hB hP';have ltm:∀ X:World,Below w.heap.size w X→∀ b,P' b→b<X.heap.size:=fun X hX b hb=>by have:=hP' b hb;have:=hX.size;omega
    have vd:=fun v=>zd (B:=18446744073709551616) (by omega) v;have hq1:=fN _ _ A1 A2 c1 c2 _ _ wr zA.rn zB.rn (fun b hb=>hb.2) (fun b hb=>hb.2) (by have:=gX hr hlM;omega) (by have:=gX hs hlM;omega) (by rw[vd];omega);rw[vd,vd]at hq1;have hqM:r/s≤M:=zK (vV _ _) hr;have hlM2:r%s≤M:=zK (Nat.mod_le _ _) hr;have Hq1:=zF hq1;have hrd:=zB.rn.read;rw[vd]at hrd;have Hrd:=zF hrd;have hmod:=qL r (show 0<s by omega);have hstep:=zF (show jp M s (r%s) u ((t+M-r/s*u%M)%M)=jp M M (X%M) 0 1 by rw[←hI.out,xD h0]);clear hq1 hrd hI;go_wp2_with fail;refine Hq1.out.mono ?_;rintro e w4 ⟨A5,c5,A6,c6,rfl,y5,y6,hB4⟩;have s4:=hB4.size;have zD4:=zD.below hB4 (zG _);have hm1:=mP _ _ A5 A4 c5 c4 _ _ w4 y5.rn zD4.rn (fun b hb=>hb.2) (fun b hb=>hb.2) (by have:=gX hqM hlM;omega) (by have:=gX hu hlM;omega);rw[vd,vd]at hm1;have Hm1:=zF hm1;clear hm1;go_wp2_with fail;refine Hm1.out.mono ?_;rintro e w5 ⟨A7,c7,rfl,y7,hB5⟩;have hB45:=hB4.trans (hB5.mono s4);have hBw5:=hB.trans (hB45.mono zw);have hr5:=uu _ P' A7 A' c7 c' _ b w5 y7.rn (h'.below hBw5 hP') (fun b hb=>hb.2) (ltm w5 hBw5) (by have:=sF hqM hu hlM;omega) (by omega) (by omega);rw[vd,hM]at hr5;have hlessM:=qL (r/s*u) (show 0<M by omega);generalize r/s*u%M=df at *;have Hr5:=zF hr5;clear hr5;go_wp2_with fail;refine Hr5.out.mono ?_;rintro e w6 ⟨A8,c8,rfl,y8,hB6⟩;have hBw6:=hBw5.trans (hB6.mono (by have:=hBw5.size;omega));have hB46:=hB45.trans (hB6.mono (by have:=hB45.size;omega));have zC6:=zC.below hB46 (zG _);have ha6:=mh _ P' A3 A' c3 c' _ b w6 zC6.rn (h'.below hBw6 hP') (fun b hb=>hb.2) (ltm w6 hBw6) (by have:=gX ht hlM;omega) (by omega);rw[vd,hM]at ha6;have Ha6:=zF ha6;clear ha6;go_wp2_with fail;refine Ha6.out.mono ?_;rintro e w7 ⟨A9,c9,rfl,y9,hB7⟩;have y8':=y8.below hB7 (zG _);have hs7:=az _ _ A9 A8 c9 c8 _ _ w7 y9.rn y8'.rn (fun b hb=>hb.2) (fun b hb=>hb.2) (by have:=sG ht (zG M) hlM;omega) (by rw[vd,vd];omega);rw[vd,vd]at hs7;have hdif:t+M-df≤M+M:=by omega
    have hlast:=sG (zG M) (zG M) hlM;have hld:=gX hdif hlast;generalize t+M-df=dif at *;have Hs7:=zF hs7;clear hs7;have hBw7:=hBw6.trans (hB7.mono hBw6.size);go_wp2_with fail;refine Hs7.out.mono ?_;rintro e w8 ⟨A10,c10,rfl,y10,hB8⟩;have hBw8:=hBw7.trans (hB8.mono hBw7.size);have hr8:=uu _ P' A10 A' c10 c' _ b w8 y10.rn (h'.below hBw8 hP') (fun b hb=>hb.2) (ltm w8 hBw8) (by omega) (by omega) (by omega);rw[vd,hM]at hr8;have hdm:=qL dif (show 0<M by omega);have Hr8:=zF hr8;clear hr8;go_wp2_with fail;refine Hr8.out.mono ?_;rintro e w9 ⟨A11,c11,rfl,y11,hB9⟩;have hB79:=hB8.trans (hB9.mono hB8.size);have hB49:Below wr.heap.size wr w9:=(hB46.trans (hB7.mono hB46.size)).trans (hB79.mono (by have:=hB46.size;have:=hB7.size;omega));have hBw9:=hB.trans (hB49.mono zw);have f2:=(zB.below hB49 (zG _))
    have f6:OB w9 w.heap.size A6 c6 (digs 18446744073709551616 (r%s)):=(y6.below (B:=w4.heap.size) (((hB5.trans (hB6.mono hB5.size)).trans (hB7.mono (by have:=hB5.size;have:=hB6.size;omega))).trans (hB79.mono (by have:=hB5.size;have:=hB6.size;have:=hB7.size;omega))) (zG _)).mono zw;have f4:=(zD.below hB49 (zG _))
    have f11:=y11.mono (base':=w.heap.size) hBw8.size;have hrd9:=f6.rn.read;rw[vd]at hrd9;have Hrd9:=zF hrd9;clear hrd9;go_wp2;go_roundw;case rel=>exact⟨A2,A6,A4,A11,c2,c6,c4,c11,s,r%s,u,dif%M,rfl,rfl,rfl,rfl,f2,f6,f4,f11,hs,hlM2,hu,by omega,hstep,hBw9⟩
    case measure=>rw[Hrd.out,Hrd9.out];exact hmod
theorem RNN.three {w:World}{P P' P'':Nat→Prop}{A A' A'':Option Addr}{c c' c'':Nat}{a b d:List Nat}(h:RN w P A c a)(h':RN w P' A' c' b)(h'':RN w P'' A'' c'' d)(hP:∀ b,P b→b<w.heap.size)(hP':∀ b,P' b→b<w.heap.size)(hP'':∀ b,P'' b→b<w.heap.size) :
 RNN (w.alloc (.cells #[.slice A a.length c,.slice A' b.length c',.slice A'' d.length c''] 24)) (fun _=>True) (some ⟨w.heap.size,0,none⟩) 3 [a,b,d] [.slice A a.length c,.slice A' b.length c',.slice A'' d.length c'']:=by
 have hB:Below w.heap.size w (w.alloc (.cells #[.slice A a.length c,.slice A' b.length c',.slice A'' d.length c''] 24)):=(zl _ w).alloc (zG _) _
 refine⟨RS.fresh (w:=w) (P:=fun _=>True) #[.slice A a.length c,.slice A' b.length c',.slice A'' d.length c''] 24 1 3 rfl (by unfold maxLen;omega) trivial,by simp,fun j l hl=>?_⟩
 match j,hl with
 | 0,hl=>simp at hl;subst hl;exact⟨A,c,rfl,(h.below hB hP).mono fun _ _=>trivial⟩
 | 1,hl=>simp at hl;subst hl;exact⟨A',c',rfl,(h'.below hB hP').mono fun _ _=>trivial⟩
 | 2,hl=>simp at hl;subst hl;exact⟨A'',c'',rfl,(h''.below hB hP'').mono fun _ _=>trivial⟩
 | j+3,hl=>simp at hl
theorem zCo {a b:List Nat}{X Y:Nat}(hX:val 18446744073709551616 a=X)(hY:val 18446744073709551616 b=Y) :
 (([a,b]:List (List Nat)).all fun l=>decide (zu (val 18446744073709551616 l)≤4096))=(decide (zu X≤4096)&&decide (zu Y≤4096)):=by simp[hX,hY]
theorem tX {a b d:List Nat}{X Y Z:Nat}(hX:val 18446744073709551616 a=X)(hY:val 18446744073709551616 b=Y)(hZ:val 18446744073709551616 d=Z) :
 (([a,b,d]:List (List Nat)).all fun l=>decide (zu (val 18446744073709551616 l)≤4096))=(decide (zu X≤4096)&&decide (zu Y≤4096)&&decide (zu Z≤4096)):=by simp[hX,hY,hZ,Bool.and_assoc]
theorem tP {x y j k:Nat}(hx:(digs 18446744073709551616 x).length≤j)(hy:(digs 18446744073709551616 y).length≤k):(digs 18446744073709551616 (x*y)).length≤j+k:=by
 have h1:=jB (B:=18446744073709551616) (by omega) x;have h2:=jB (B:=18446744073709551616) (by omega) y;have h3:18446744073709551616 ^(digs 18446744073709551616 x).length≤18446744073709551616^j:=zv (by omega) hx;have h4:18446744073709551616 ^(digs 18446744073709551616 y).length≤18446744073709551616^k:=zv (by omega) hy;refine qR (by omega) ?_;rw[qP];exact Nat.mul_lt_mul'' (by omega) (by omega)
theorem yP {M:Nat}(h:0<M):0<zu M:=by
 rcases zT (zu M)with h0|h0
 · have:=yr (x:=M) (k:=0) (by omega);omega
 · exact h0
theorem zCK (A A':Option Addr)(c c':Nat)(a b:List Nat)(X M:Nat)(w:World)(h:RU w A c a)(h':RU w A' c' b)(hX:val 18446744073709551616 a=X)(hM:val 18446744073709551616 b=M)(hla:a.length<90000)(hlb:b.length<90000) :
   Calls Tryz.prog 88 #[.slice A a.length c,.slice A' b.length c'] w fun e w'=>Below w.heap.size w w' ∧
     ((¬ (0 < M ∧ zu X ≤ 4096 ∧ zu M ≤ 4096) ∧ e = .returned (.tuple #[.slice none 0 0, .bool false])) ∨
      (0<M∧zu X≤4096∧zu M≤4096∧∃ A1 c1,e=.returned (.tuple #[.slice A1 (digs 18446744073709551616 (X%M)).length c1,.bool true])∧OB w' w.heap.size A1 c1 (digs 18446744073709551616 (X%M)))):=by
 have hb:=vK _ A' c' b w h';rw[hM]at hb;rcases zT M with h0|h0
 · have hn:zu M=0:=by rw[h0];exact wW
   rw[hn]at hb;have Hb:=zF hb;have Hno:=zF (show ¬(0<M∧zu X≤4096∧zu M≤4096) by omega);clear hb hn h0;go_enter Tryz.func88,Tryz.ntmps88;go_wp2_with fail;refine Hb.out.mono ?_;rintro e w' ⟨rfl,rfl⟩;go_wp2;go_ret2;exact⟨zl _ _,.inl ⟨Hno.out,rfl⟩⟩
 · have hnp:=yP h0;have hng:((zu M:Int)==0)=false:=eqB (by omega);have hmy:=mQ _ _ _ _ _ _ (RNN.two h h' xB xB);rw[zCo hX hM]at hmy;simp only[jZ,kA,jH,Nat.reduceAdd]at hmy;have hB0:Below w.heap.size w (w.alloc (.cells #[.slice A a.length c,.slice A' b.length c'] 24)):=(zl _ w).alloc (zG _) _;obtain⟨ok,hok⟩:=eV ((decide (zu X≤4096)&&decide (zu M≤4096)));rw[hok]at hmy;have Hb:=zF hb;have Hmy:=zF hmy;have Hok:=zF hok;have H0:=zF h0;clear hb hmy hok hnp;cases ok
   · have Hno:=zF (show ¬(0<M∧zu X≤4096∧zu M≤4096)from fun h=>by have:=Hok.out;simp[h.2.1,h.2.2]at this);clear Hok;go_enter Tryz.func88,Tryz.ntmps88;go_wp2_with fail;refine Hb.out.mono ?_;rintro e w' ⟨rfl,rfl⟩;go_wp2_with fail;refine Hmy.out.mono ?_;rintro e w' ⟨rfl,rfl⟩;go_wp2;go_ret2;exact⟨hB0,.inl ⟨Hno.out,rfl⟩⟩
   · have hyes:zu X≤4096∧zu M≤4096:=by have:=Hok.out;simpa using this
     have Hyes:=zF hyes;clear Hok hyes;have hz0:(w.alloc (.cells #[.slice A a.length c,.slice A' b.length c'] 24)).heap.size=w.heap.size+1:=by simp
     have hr:=uu _ _ A A' c c' a b (w.alloc (.cells #[.slice A a.length c,.slice A' b.length c'] 24)) (h.up hB0) (h'.up hB0) xB xB hla hlb (by rw[hM];exact h0);rw[hX,hM,hz0]at hr;have Hr:=zF hr;clear hr hng;have hng:((zu M:Int)==0)=false:=eqB (by have:=yP H0.out;omega);clear h0;go_enter Tryz.func88,Tryz.ntmps88;go_wp2_with fail;refine Hb.out.mono ?_;rintro e w' ⟨rfl,rfl⟩;go_wp2_with fail;refine Hmy.out.mono ?_;rintro e w' ⟨rfl,rfl⟩;go_wp2_with fail;refine Hr.out.mono ?_;rintro e w' ⟨A1,c1,rfl,hO,hB⟩;go_wp2;go_ret2;exact⟨hB0.trans (hB.mono (by omega)),.inr ⟨H0.out,Hyes.out.1,Hyes.out.2,A1,c1,rfl,hO.mono (by omega)⟩⟩
theorem zAv (A A' A'':Option Addr)(c c' c'':Nat)(a d b:List Nat)(X Y M:Nat)(w:World)(h:RU w A c a)(hd:RU w A'' c'' d)(h':RU w A' c' b)(hX:val 18446744073709551616 a=X)(hY:val 18446744073709551616 d=Y)(hM:val 18446744073709551616 b=M)(hla:a.length<40000)(hld:d.length<40000)(hlb:b.length<40000) :
   Calls Tryz.prog 87 #[.slice A a.length c,.slice A'' d.length c'',.slice A' b.length c'] w fun e w'=>Below w.heap.size w w' ∧
     ((¬ (0 < M ∧ zu X ≤ 4096 ∧ zu Y ≤ 4096 ∧ zu M ≤ 4096) ∧ e = .returned (.tuple #[.slice none 0 0, .bool false])) ∨
      (0<M∧zu X≤4096∧zu Y≤4096∧zu M≤4096∧∃ A1 c1,e=.returned (.tuple #[.slice A1 (digs 18446744073709551616 (X*Y%M)).length c1,.bool true])∧OB w' w.heap.size A1 c1 (digs 18446744073709551616 (X*Y%M)))):=by
 have hb:=vK _ A' c' b w h';rw[hM]at hb;rcases zT M with h0|h0
 · have hn:zu M=0:=by rw[h0];exact wW
   rw[hn]at hb;have Hb:=zF hb;have Hno:=zF (show ¬(0<M∧zu X≤4096∧zu Y≤4096∧zu M≤4096) by omega);clear hb hn h0;go_enter Tryz.func87,Tryz.ntmps87;go_wp2_with fail;refine Hb.out.mono ?_;rintro e w' ⟨rfl,rfl⟩;go_wp2;go_ret2;exact⟨zl _ _,.inl ⟨Hno.out,rfl⟩⟩
 · have hmy:=mQ _ _ _ _ _ _ (RNN.three h hd h' xB xB xB);rw[tX hX hY hM]at hmy;simp only[jZ,kA,jH,Nat.reduceAdd]at hmy;have hB0:Below w.heap.size w (w.alloc (.cells #[.slice A a.length c,.slice A'' d.length c'',.slice A' b.length c'] 24)):=(zl _ w).alloc (zG _) _;obtain⟨ok,hok⟩:=eV ((decide (zu X≤4096)&&decide (zu Y≤4096)&&decide (zu M≤4096)));rw[hok]at hmy;have Hb:=zF hb;have Hmy:=zF hmy;have Hok:=zF hok;have H0:=zF h0;clear hb hmy hok;cases ok
   · have Hno:=zF (show ¬(0<M∧zu X≤4096∧zu Y≤4096∧zu M≤4096)from fun h=>by have:=Hok.out;simp[h.2.1,h.2.2.1,h.2.2.2]at this);have hng:((zu M:Int)==0)=false:=eqB (by have:=yP H0.out;omega);clear Hok h0;go_enter Tryz.func87,Tryz.ntmps87;go_wp2_with fail;refine Hb.out.mono ?_;rintro e w' ⟨rfl,rfl⟩;go_wp2_with fail;refine Hmy.out.mono ?_;rintro e w' ⟨rfl,rfl⟩;go_wp2;go_ret2;exact⟨hB0,.inl ⟨Hno.out,rfl⟩⟩
   · have hyes:(zu X≤4096∧zu Y≤4096)∧zu M≤4096:=by have:=Hok.out;simpa using this
     have Hyes:=zF hyes;clear Hok hyes;have hz0:(w.alloc (.cells #[.slice A a.length c,.slice A'' d.length c'',.slice A' b.length c'] 24)).heap.size=w.heap.size+1:=by simp
     have hm:=mP _ _ A A'' c c'' a d _ (h.up hB0) (hd.up hB0) xB xB (by omega) (by omega);rw[hX,hY,hz0]at hm;have Hm:=zF hm;have hlp:(digs 18446744073709551616 (X*Y)).length<90000:=by
       have h1:=qz (B:=18446744073709551616) (by omega) h.2.1;have h2:=qz (B:=18446744073709551616) (by omega) hd.2.1;rw[hX]at h1;rw[hY]at h2;have h3:=tP (zG (digs 18446744073709551616 X).length) (zG (digs 18446744073709551616 Y).length);omega
     have hrest:=fun(V:World) (hV:Below w.heap.size w V) A1 c1 (hO:RU V A1 c1 (digs 18446744073709551616 (X*Y)))=>uu _ _ A1 A' c1 c' (digs 18446744073709551616 (X*Y)) b V hO (h'.up hV) xB xB hlp (by omega) (by rw[hM];exact h0);simp only[hM,zd (show 2≤18446744073709551616 by omega)]at hrest;have Hrest:=zF hrest;have hng:((zu M:Int)==0)=false:=eqB (by have:=yP H0.out;omega);clear hm hrest h0 hlp;go_enter Tryz.func87,Tryz.ntmps87;go_wp2_with fail;refine Hb.out.mono ?_;rintro e w' ⟨rfl,rfl⟩;go_wp2_with fail;refine Hmy.out.mono ?_;rintro e w' ⟨rfl,rfl⟩;go_wp2_with fail;refine Hm.out.mono ?_;rintro e w1 ⟨A1,c1,rfl,hO1,hB1⟩;have hB01:=hB0.trans (hB1.mono (by omega));have Hr:=zF (Hrest.out w1 hB01 A1 c1 hO1.ru);go_wp2_with fail;refine Hr.out.mono ?_;rintro e w2 ⟨A2,c2,rfl,hO2,hB2⟩;go_wp2;go_ret2;exact⟨hB01.trans (hB2.mono hB01.size),.inr ⟨H0.out,Hyes.out.1.1,Hyes.out.1.2,Hyes.out.2,A2,c2,rfl,hO2.mono hB01.size⟩⟩
end Go.Proofs.YtaemogcomplhiaaGreatDoor
namespace Go.Proofs.YtaemogcomplhiaaGreatDoor.Ec
open Go.RowKit Go.Shelf
open Sha
attribute [local go_sem] Oper.semAt_some
abbrev wA (C:Crv):Nat:=val 18446744073709551616 C.nl
theorem aM {c:Int}{C:Crv}(h:IsC c C):2<wA C∧0<zu (wA C-1)∧zu (wA C-1)≤384∧C.nl.length≤6∧zu (wA C)≤384∧wA C<256^C.size:=by
 rcases h with⟨_,rfl⟩|⟨_,rfl⟩
 · have e1:zu (wA kU-1)=256:=gH (k:=255) (by decide +kernel) (by decide +kernel);have e2:zu (wA kU)=256:=gH (k:=255) (by decide +kernel) (by decide +kernel);exact⟨by decide +kernel,by omega,by omega,by decide,by omega,by decide +kernel⟩
 · have e1:zu (wA bT-1)=384:=gH (k:=383) (by decide +kernel) (by decide +kernel);have e2:zu (wA bT)=384:=gH (k:=383) (by decide +kernel) (by decide +kernel);exact⟨by decide +kernel,by omega,by omega,by decide,by omega,by decide +kernel⟩
def aK (C:Crv):Nat:=(zu (wA C-1)+71)/8
def um (C:Crv) (k v:List Nat):Nat:=vR ((xM k v ((aK C+31)/32)).take (aK C))%(wA C-1)+1
def cq (C:Crv) (k v:List Nat):List Nat×List Nat:=gc k (dvs k v ((aK C+31)/32)) []
theorem sr {c:Int}{C:Crv}(h:IsC c C)(k v:List Nat):kY C (um C k v)=true:=by
 have h1:=(aM h).1;have h2:um C k v<wA C:=by
  unfold um;have:=qL (vR ((xM k v ((aK C+31)/32)).take (aK C))) (show wA C-1>0 by omega);omega
 unfold kY;rw[qZ (show 0<um C k v by unfold um;omega),qZ h2];rfl
theorem zBJ:digs 18446744073709551616 1=[1]:=by rw[jj (by omega) (by omega),show 1/18446744073709551616=0 from rfl,qV]
theorem yv {x k:Nat}(h:zu x≤64*k):(digs 18446744073709551616 x).length≤k:=by
 by_cases h0:x=0
 · subst h0;rw[qV];simp
 · refine qR (by omega) (zI (wB h0).2.1 ?_);rw[show(18446744073709551616:Nat)=2^64 from rfl,←kr];exact zv (by omega) h
theorem nU {c:Int}{C:Crv}(hC:IsC c C){b:Nat}{k v:List Nat}{num:Int}(w:World)(hk:KW w)(hd:DR w b k v num)(hn:0≤num)(hn2:num<1000000000) :
 Calls Tryz.prog 31 #[.int .i64 c,.pointer (some ⟨b,0,none⟩)] w fun e w'=>∃ A c,e=.returned (.slice A (digs 18446744073709551616 (um C k v)).length c)∧OB w' w.heap.size A c (digs 18446744073709551616 (um C k v))∧DR w' b (cq C k v).1 (cq C k v).2 (num+1)∧Fr b w.heap.size w w':=by
 obtain⟨n1,n2,n3,n4,n5,n6⟩:=aM hC
 have hbl:=hd.lt
 have HO:=zF (fQ hC w)
 have HK:=zF hk
 have HD:=zF hd
 have HL:=zF n4
 have HN:=zF (And.intro n1 (And.intro n2 n3))
 have HB:=zF hbl
 have Hn:=zF (And.intro hn hn2)
 clear hk hd n1 n2 n3 n4 n5 n6 hbl hn hn2 hC
 go_enter Tryz.func31,Tryz.ntmps31
 go_wp2_with fail
 refine HO.out.mono ?_
 rintro e w1 ⟨A1,c1,rfl,r1,E1⟩
 have R1:=zF r1
 have HE1:=zF E1
 have H2:=zF (gq 1 w1 (by omega))
 clear r1 E1 HO
 go_wp2_with fail
 refine H2.out.mono ?_
 rintro e w2 ⟨A2,c2,rfl,o2,B2⟩
 have h3:=az _ _ A1 A2 c1 c2 C.nl (digs 18446744073709551616 1) w2 (zL R1.out B2) o2.ru (fun _ h=>h) (fun _ h=>h) (by have:=HL.out;omega) (by rw[zd (by omega)];exact zK (by decide:1≤3) HN.out.1)
 rw[zd (by omega)]at h3
 have H3:=zF h3
 have HE2:=zF (jb HE1.out B2)
 clear h3 o2 B2 H2 HE1 R1
 go_wp2_with fail
 refine H3.out.mono ?_
 rintro e w3 ⟨A3,c3,rfl,o3,B3⟩
 have HE3:=zF (jb HE2.out B3)
 have h4:=pd (q:=zu (wA C-1)) (a:=digs 18446744073709551616 (wA C-1)) w3 (HK.out.ext HE3.out) (HD.out.ext HE3.out) o3.rn (fun _ h=>h.2) (fun h=>by have:=h.1;have:=HE2.out.bsize;have:=HB.out;omega) (by have:=yv (x:=wA C-1) (k:=6) HN.out.2.2;omega) (by rw[zd (by omega)]) HN.out.2.1 (by have:=HN.out.2.2;omega) (by rw[zd (by omega)];have:=HN.out.1;omega) Hn.out.1 Hn.out.2
 have H4:=zF h4
 clear o3 B3 h4 H3 HE2
 go_wp2_with fail
 refine H4.out.mono ?_
 rintro e w4 ⟨A4,c4,r,m,hm,hr,rfl,o4,d4,f4⟩
 rw[zd (by omega)]at hr
 have hrl:(digs 18446744073709551616 r).length≤6:=zK (jK (by omega) (jV (by rw[hr];exact qL _ (by have:=HN.out.1;omega)))) (yv (x:=wA C-1) (k:=6) HN.out.2.2)
 have HRL:=zF hrl
 have hpm:m=aK C:=hm
 subst hpm
 have hr':r+1=um C k v:=by rw[hr];rfl
 have HR:=zF hr'
 have HD4:=zF d4
 have HF4:=zF ((vq (b:=b) HE3.out (zG _)).trans (f4.mono HE3.out.bsize))
 have O4:=zF o4
 have H5:=zF (gq 1 w4 (by omega))
 clear hm hr hr' hrl d4 f4 o4 H4
 go_wp2_with fail
 refine H5.out.mono ?_
 rintro e w5 ⟨A5,c5,rfl,o5,B5⟩
 have h6:=mh _ _ A4 A5 c4 c5 (digs 18446744073709551616 r) (digs 18446744073709551616 1) w5 (zL O4.out.ru B5) o5.ru (fun _ h=>h) (fun _ h=>h) (by have:=HRL.out;omega) (by rw[zBJ];simp)
 rw[zd (by omega),zd (by omega),HR.out]at h6
 have H6:=zF h6
 have HD5:=zF (HD4.out.ext B5)
 have HF5:=zF (HF4.out.trans (vq (b:=b) B5 HF4.out.size))
 clear o5 B5 h6 H5 HD4 HF4
 go_wp2_with fail
 refine H6.out.mono ?_
 rintro e w6 ⟨A6,c6,rfl,o6,B6⟩
 have HD6:=zF (HD5.out.ext B6)
 have HF6:=zF (HF5.out.trans (vq (b:=b) B6 HF5.out.size))
 have O6:=zF o6
 clear o6 B6 H6
 go_wp2
 go_ret
 exact⟨A6,c6,rfl,O6.out.mono HF5.out.size,HD6.out,HF6.out⟩
theorem xS {c:Int}{C:Crv}(hC:IsC c C){A B:Option Addr}{ca cb x y:Nat}(w:World)(ha:RU w A ca (digs 18446744073709551616 x))(hb:RU w B cb (digs 18446744073709551616 y))(hx:zu x≤4000)(hy:zu y≤4000) :
 Calls Tryz.prog 55 #[.int .i64 c,.slice A (digs 18446744073709551616 x).length ca,.slice B (digs 18446744073709551616 y).length cb] w fun e w'=>∃ A c,e=.returned (.slice A (digs 18446744073709551616 (x*y%wA C)).length c)∧RU w' A c (digs 18446744073709551616 (x*y%wA C))∧Ext w w':=by
 obtain⟨n1,n2,n3,n4,n5,n6⟩:=aM hC
 have HO:=zF (fQ hC w)
 have HA:=zF ha
 have HB:=zF hb
 have HN:=zF (And.intro n1 (And.intro n4 n5))
 have HX:=zF (And.intro hx hy)
 have HL:=zF (And.intro (show(digs 18446744073709551616 x).length<40000 by have:=yv (x:=x) (k:=63) (by omega);omega) (show(digs 18446744073709551616 y).length<40000 by have:=yv (x:=y) (k:=63) (by omega);omega))
 clear ha hb n1 n2 n3 n4 n5 n6 hx hy hC
 go_enter Tryz.func55,Tryz.ntmps55
 go_wp2_with fail
 refine HO.out.mono ?_
 rintro e w1 ⟨A1,c1,rfl,r1,E1⟩
 have H2:=zF (zAv A A1 B ca c1 cb _ _ C.nl x y (wA C) w1 (zL HA.out E1) (zL HB.out E1) r1 (zd (by omega) x) (zd (by omega) y) rfl HL.out.1 HL.out.2 (by have:=HN.out.2.1;omega))
 have HE1:=zF E1
 clear r1 E1 HO
 go_wp2_with fail
 refine H2.out.mono ?_
 rintro e w2 ⟨B2,⟨h0,_⟩|⟨_,_,_,_,A2,c2,rfl,o2⟩⟩
 · exact absurd ⟨by have:=HN.out.1;omega,by have:=HX.out.1;omega,by have:=HX.out.2;omega,by have:=HN.out.2.2;omega⟩ h0
 have O2:=zF o2
 have HE2:=zF (jb HE1.out B2)
 clear o2 B2 H2
 go_wp2
 go_ret
 exact⟨A2,c2,rfl,O2.out.ru,HE2.out⟩
theorem fR {c:Int}{C:Crv}(hC:IsC c C){P:Nat→Prop}{ad:Addr}{cap n:Nat}{bs:List Nat}(w:World)(h:RB w P (some ad) cap bs)(hP:∀ b,P b→b<w.heap.size)(hn:bs.length=n)(hl:n≤C.size)(h0:0<n) :
 Calls Tryz.prog 56 #[.int .i64 c,.slice (some ad) n cap] w fun e w'=>∃ A c,e=.returned (.slice A (digs 18446744073709551616 (vR bs)).length c)∧OB w' w.heap.size A c (digs 18446744073709551616 (vR bs))∧Ext w w':=by
 obtain⟨l1,l2,l3⟩:=h.cap
 rw[hn]at l1 l3
 have hs:=hC.fine.small
 obtain⟨s,hs'⟩:=eV C.size
 have HS:=zF (fv hC w)
 rw[hs']at HS hl hs
 have HB:=zF h
 have HP:=zF hP
 have HN:=zF hn
 have hmin:min (n:Int) (s:Int)=n:=by omega
 have hlt:¬(s:Int)<n:=by omega
 have hle:(n:Int)≤(s:Int):=by omega
 have hcap:(n:Int)≤cap:=by omega
 have hn0:(0:Int)≤n:=by omega
 have Hs:=zF hs
 have Hl:=zF hl
 clear h hP hn hs hs' l2 l3 hl hC
 go_enter Tryz.func56,Tryz.ntmps56
 go_wp2_with fail
 refine HS.out.mono ?_
 rintro e w1 ⟨rfl,E1⟩
 have hf:=xf P (some ad) cap bs w1 (HB.out.below E1 HP.out) (fun b hb=>zI (HP.out b hb) E1.bsize) (by rw[HN.out];have:=Hs.out;have:=Hl.out;omega)
 rw[HN.out]at hf
 have HF:=zF hf
 have HE1:=zF E1
 clear hf E1 HS
 go_wp2_with fail
 refine HF.out.mono ?_
 rintro e w2 ⟨A2,c2,rfl,o2,B2⟩
 have O2:=zF o2
 have HE2:=zF (jb HE1.out B2)
 clear o2 B2 HF
 go_wp2
 go_ret
 exact⟨A2,c2,rfl,O2.out.mono HE1.out.bsize,HE2.out⟩
theorem zBC {c:Int}{C:Crv}(hC:IsC c C){A:Option Addr}{ca x y:Nat}(w:World)(ha:RU w A ca (digs 18446744073709551616 x))(hx:zu x≤4000)(hy:xE x (wA C)=(digs 18446744073709551616 y,true)) :
 Calls Tryz.prog 54 #[.int .i64 c,.slice A (digs 18446744073709551616 x).length ca] w fun e w'=>∃ A c,e=.returned (.slice A (digs 18446744073709551616 y).length c)∧RU w' A c (digs 18446744073709551616 y)∧Ext w w':=by
 obtain⟨n1,n2,n3,n4,n5,n6⟩:=aM hC
 have HO:=zF (fQ hC w)
 have HA:=zF ha
 have HN:=zF (And.intro n1 (And.intro n4 n5))
 have HX:=zF hx
 have HY:=zF hy
 have HL:=zF (show(digs 18446744073709551616 x).length<40000 by have:=yv (x:=x) (k:=63) (by omega);omega)
 clear ha n1 n2 n3 n4 n5 n6 hx hC hy
 go_enter Tryz.func54,Tryz.ntmps54
 go_wp2_with fail
 refine HO.out.mono ?_
 rintro e w1 ⟨A1,c1,rfl,r1,E1⟩
 have h2:=oF _ _ A A1 ca c1 _ C.nl x (wA C) w1 (zL HA.out E1) r1 (fun _ h=>h) (fun _ h=>h) (zd (by omega) x) rfl (by have:=HN.out.1;omega) HL.out (by have:=HN.out.2.1;omega) ⟨by have:=HX.out;omega,by have:=HN.out.2.2;omega⟩
 rw[HY.out]at h2
 have H2:=zF h2
 have HE1:=zF E1
 clear r1 E1 HO h2
 go_wp2_with fail
 refine H2.out.mono ?_
 rintro e w2 ⟨A2,c2,rfl,o2,B2⟩
 have O2:=zF o2
 have HE2:=zF (jb HE1.out B2)
 clear o2 B2 H2
 go_wp2
 go_ret
 exact⟨A2,c2,rfl,O2.out.ru,HE2.out⟩
end Go.Proofs.YtaemogcomplhiaaGreatDoor.Ec
namespace Go.Proofs.YtaemogcomplhiaaGreatDoor.Ec
open Go.RowKit Go.Shelf
theorem dp {c:Int}{C:Crv}(hC:IsC c C){A B:Option Addr}{ca cb x y z lx ly:Nat}(w:World)(ha:RU w A ca (digs 18446744073709551616 x))(hb:RU w B cb (digs 18446744073709551616 y))(hx:zu x≤4000)(hy:zu y≤4000)(hz:x*y%wA C=z)(hlx:(digs 18446744073709551616 x).length=lx)(hly:(digs 18446744073709551616 y).length=ly) :
 Calls Tryz.prog 55 #[.int .i64 c,.slice A lx ca,.slice B ly cb] w fun e w'=>∃ A c,e=.returned (.slice A (digs 18446744073709551616 z).length c)∧RU w' A c (digs 18446744073709551616 z)∧Ext w w':=by
 subst hz hlx hly
 exact xS hC w ha hb hx hy
theorem add_l {A B:Option Addr}{ca cb x y z lx ly:Nat}(w:World)(ha:RU w A ca (digs 18446744073709551616 x))(hb:RU w B cb (digs 18446744073709551616 y))(hx:zu x≤4000)(hy:zu y≤4000)(hz:x+y=z)(hlx:(digs 18446744073709551616 x).length=lx)(hly:(digs 18446744073709551616 y).length=ly) :
 Calls Tryz.prog 63 #[.slice A lx ca,.slice B ly cb] w fun e w'=>∃ A c,e=.returned (.slice A (digs 18446744073709551616 z).length c)∧RU w' A c (digs 18446744073709551616 z)∧Ext w w':=by
 subst hz hlx hly
 have h1:=yv (x:=x) (k:=63) (by omega)
 have h2:=yv (x:=y) (k:=63) (by omega)
 have h:=mh _ _ A B ca cb (digs 18446744073709551616 x) (digs 18446744073709551616 y) w ha hb (fun _ h=>h) (fun _ h=>h) (by omega) (by omega)
 rw[zd (by omega),zd (by omega)]at h
 refine h.mono ?_
 rintro e w' ⟨A',c',rfl,o,B'⟩
 exact⟨A',c',rfl,o.ru,B'⟩
theorem zBB {c:Int}{C:Crv}(hC:IsC c C){A:Option Addr}{ca x y lx:Nat}(w:World)(ha:RU w A ca (digs 18446744073709551616 x))(hx:zu x≤4000)(hy:xE x (wA C)=(digs 18446744073709551616 y,true))(hlx:(digs 18446744073709551616 x).length=lx) :
 Calls Tryz.prog 54 #[.int .i64 c,.slice A lx ca] w fun e w'=>∃ A c,e=.returned (.slice A (digs 18446744073709551616 y).length c)∧RU w' A c (digs 18446744073709551616 y)∧Ext w w':=by
 subst hlx
 exact zBC hC w ha hx hy
theorem me {A:Option Addr}{ca x n lx:Nat}(w:World)(ha:RU w A ca (digs 18446744073709551616 x))(hn:n≤65536)(hx:zu x≤8*n)(hlx:(digs 18446744073709551616 x).length=lx) :
 Calls Tryz.prog 60 #[.slice A lx ca,.int .i64 (n:Int)] w fun e w'=>∃ A1,e=.returned (.tuple #[.slice A1 n n,.bool true])∧RB w' (fun q=>q<w'.heap.size) A1 n (bytesOf x n)∧Ext w w':=by
 subst hlx
 have h:=tW _ A ca (digs 18446744073709551616 x) n w ha (fun _ h=>h) hn (by rw[zd (by omega)];exact hx)
 rw[zd (by omega)]at h
 refine h.mono ?_
 rintro e w' ⟨A1,rfl,r,B⟩
 exact⟨A1,rfl,r.mono fun q hq=>hq.2,B⟩
theorem zD9 {A:Option Addr}{ca x lx:Nat}(w:World)(ha:RU w A ca (digs 18446744073709551616 x))(hlx:(digs 18446744073709551616 x).length=lx) :
 Calls Tryz.prog 62 #[.slice A lx ca] w fun e w'=>e=.returned (.int .i64 (zu x:Int))∧w=w':=by
 subst hlx
 have h:=vK _ A ca _ w ha
 rw[zd (by omega)]at h
 exact h
end Go.Proofs.YtaemogcomplhiaaGreatDoor.Ec
namespace Go.Proofs.YtaemogcomplhiaaGreatDoor.Ec
open Go.RowKit Go.Shelf
attribute [local go_sem] Oper.semAt_some
theorem aV {c:Int}{C:Crv}(hC:IsC c C){A B:Option Addr}{ca cb x y lx ly:Nat}(bi:Bool)(w:World)(ha:RU w A ca (digs 18446744073709551616 x))(hx:zu x≤4000)(hy:x%wA C=y)(hlx:(digs 18446744073709551616 x).length=lx) :
 Calls Tryz.prog 59 #[.int .i64 c,.agg #[.bool bi,.slice A lx ca,.slice B ly cb]] w fun e w'=>∃ A c,e=.returned (.slice A (digs 18446744073709551616 y).length c)∧RU w' A c (digs 18446744073709551616 y)∧Ext w w':=by
 subst hlx
 obtain⟨n1,n2,n3,n4,n5,n6⟩:=aM hC
 obtain⟨W0,hW0⟩:=eW (w.alloc (.cells #[.bool bi,.slice A (digs 18446744073709551616 x).length ca,.slice B ly cb] 33))
 obtain⟨s,hs⟩:=eV w.heap.size
 have hq0:=zS w (.cells #[.bool bi,.slice A (digs 18446744073709551616 x).length ca,.slice B ly cb] 33)
 have hE:Ext w W0:=by rw[hW0];exact zO _ _
 rw[←hW0,hs]at hq0
 have HO:=zF (fun W=>fQ hC W)
 have hl:(digs 18446744073709551616 x).length<40000:=by have:=yv (x:=x) (k:=63) (by omega);omega
 have HM:=zF (fun X (hX:Ext W0 X) A3 c3 (r3:RU X A3 c3 C.nl)=>show Calls Tryz.prog 88 #[.slice A (digs 18446744073709551616 x).length ca,.slice A3 C.nl.length c3] X fun e w'=>∃ A c,e=.returned (.tuple #[.slice A (digs 18446744073709551616 y).length c,.bool true])∧RU w' A c (digs 18446744073709551616 y)∧Ext X w' from by
  refine(zCK A A3 ca c3 _ C.nl x (wA C) X (zL ha (hE.trans hX)) r3 (zd (by omega) x) rfl (by omega) (by omega)).mono ?_
  rintro e w' ⟨hB,⟨h0,_⟩|⟨_,_,_,A2,c2,rfl,o2⟩⟩
  · exact absurd ⟨by omega,by omega,by omega⟩ h0
  · rw[hy]at o2 ⊢
    exact⟨A2,c2,rfl,o2.ru,hB⟩)
 obtain⟨lx,hlx⟩:=eV ((digs 18446744073709551616 x).length)
 rw[hlx]at HM hq0 hW0 ⊢
 have HE:=zF hE
 have Hs:=zF hs
 obtain⟨y0,y1,y2,f0,f1,f2⟩:=jG hq0
 clear ha hq0 hE hs n1 n2 n3 n4 n5 n6 hx hy hl hlx hC
 go_enter Tryz.func59,Tryz.ntmps59
 go_upto_region 1 with fail
 rw[←hW0,Hs.out]
 clear hW0
 refine zh (by kernel_rfl) 10 [0,1,0,4,15,31,63,63,127,511] [] (fun j f X=>match j with
  | 0=>f 0=.pointer (some ⟨s,1,none⟩)
  | 1=>f 1=.slice A lx ca
  | 2=>f 2=.int .i64 c
  | 3=>∃ A c,f 3=.slice A C.nl.length c∧RU X A c C.nl
  | 4=>∃ A c,f 4=.tuple #[.slice A (digs 18446744073709551616 y).length c,.bool true]∧RU X A c (digs 18446744073709551616 y)
  | 5=>∃ A c,f 5=.tuple #[.slice A (digs 18446744073709551616 y).length c,.bool true]∧RU X A c (digs 18446744073709551616 y)
  | 6=>∃ A c,f 6=.slice A (digs 18446744073709551616 y).length c∧RU X A c (digs 18446744073709551616 y)
  | 7=>f 7=.bool true
  | 8=>∃ A c,f 8=.slice A (digs 18446744073709551616 y).length c∧RU X A c (digs 18446744073709551616 y)
  | 9=>f 9=.bool true
  | _=>True) (by kernel_rfl) [(8,0),(9,1),(10,2),(11,3),(12,4),(7,5),(13,6),(14,7),(5,8),(6,9)] (by kernel_rfl) ?_
 refine zJ 1 9 ?_
 refine qK 2 8 0 y1 ?_
 refine zJ 3 7 ?_
 refine qI 4 6 (fun f=>#[f 2]) (F':=66) (fun f X hX hR=>?_) ?_
 · have e2:f 2=_:=hR.out 2 rfl;simp only[e2];refine(HO.out X).mono ?_;rintro e w2 ⟨A,c,rfl,h,hB⟩;exact⟨(.slice A C.nl.length c),rfl,hB,fun Y hY=>⟨A,c,rfl,zL h hY⟩⟩
 refine qI 5 5 (fun f=>#[f 1,f 3]) (F':=88) (fun f X hX hR=>?_) ?_
 · have e1:f 1=_:=hR.out 1 rfl;obtain⟨A3,c3,(e3:f 3=_),r3⟩:=hR.out 3 rfl;simp only[e1,e3];refine(HM.out X hX A3 c3 r3).mono ?_;rintro e w2 ⟨A,c,rfl,h,hB⟩;exact⟨(.tuple #[.slice A (digs 18446744073709551616 y).length c,.bool true]),rfl,hB,fun Y hY=>⟨A,c,rfl,zL h hY⟩⟩
 refine zt 6 4 [(8,0),(9,1),(10,2),(11,3),(12,4)] (fun f X hX hR K hK=>?_) ?_
 · obtain⟨A4,c4,(e4:f 4=_),r4⟩:=hR.out 4 rfl;simp only[yZ,e4];refine⟨?_⟩;go_simp;exact hK.out _ _ _ (by simp only[yZ,e4]) (zX _) trivial (fun Y hY=>⟨A4,c4,rfl,zL r4 hY⟩)
 refine zt 7 3 [(8,0),(9,1),(10,2),(11,3),(12,4),(7,5),(14,7)] (fun f X hX hR K hK=>?_) ?_
 · obtain⟨A5,c5,(e5:f 5=_),r5⟩:=hR.out 5 rfl;simp only[yZ,e5];refine⟨?_⟩;go_simp;exact hK.out _ _ _ (by simp only[yZ,e5]) (zX _) trivial (fun Y hY=>⟨A5,c5,rfl,zL r5 hY⟩)
 refine zt 8 2 [(8,0),(9,1),(10,2),(11,3),(12,4),(7,5),(13,6),(5,8)] (fun f X hX hR K hK=>?_) ?_
 · obtain⟨A5,c5,(e5:f 5=_),r5⟩:=hR.out 5 rfl;simp only[yZ,e5];refine⟨?_⟩;go_simp;exact qd hK (s:=by simp only[yZ,e5])
 refine zt 9 1 [(8,0),(9,1),(10,2),(11,3),(12,4),(7,5),(13,6),(14,7)] (fun f X hX hR K hK=>?_) ?_
 · obtain⟨A6,c6,(e6:f 6=_),r6⟩:=hR.out 6 rfl;simp only[yZ,e6];refine⟨?_⟩;go_simp;exact hK.out _ _ _ (by simp only[yZ,e6]) (zX _) trivial (fun Y hY=>⟨A6,c6,rfl,zL r6 hY⟩)
 refine qN 10 0 7 ?_
 refine yF ⟨fun f X hX hR hal hap=>?_⟩
 obtain⟨A3,c3,(e3:f 3=_),r3⟩:=hR 3 (by decide)
 obtain⟨A4,c4,(e4:f 4=_),r4⟩:=hR 4 (by decide)
 obtain⟨A5,c5,(e5:f 5=_),r5⟩:=hR 5 (by decide)
 obtain⟨A6,c6,(e6:f 6=_),r6⟩:=hR 6 (by decide)
 obtain⟨A8,c8,(e8:f 8=_),r8⟩:=hR 8 (by decide)
 simp only[yZ,e3,e4,e5,e6,e8]
 clear hR hal hap e3 e4 e5 e6 e8
 refine zH ?_
 have HE2:=zF (jb HE.out hX)
 clear hX y0 y1 y2 f0 f1 f2 r3 r4 r5 r6
 go_wp2
 go_ret
 exact⟨A8,c8,rfl,r8,HE2.out⟩
end Go.Proofs.YtaemogcomplhiaaGreatDoor.Ec
namespace Go.Proofs.YtaemogcomplhiaaGreatDoor.Ec
def fz {α:Type} (n:Nat) (f:Nat→α):α:=match n with|0=>f 0|k+1=>f (k+1)
theorem oH {α:Type}(n:Nat)(f:Nat→α):fz n f=f n:=by cases n<;>rfl
def f3 {α:Type} (s:Nat×Nat×Nat) (f:Nat→Nat→Nat→α):α:=fz s.1 fun x=>fz s.2.1 fun y=>fz s.2.2 fun z=>f x y z
theorem zC4 {α:Type}(s:Nat×Nat×Nat)(f:Nat→Nat→Nat→α):f3 s f=f s.1 s.2.1 s.2.2:=by unfold f3;simp only[oH]
def zAs (M:Nat) (p:Nat×Nat×Nat) (E:Nat):Nat→Nat→Nat→Nat→Nat→Nat→(Nat×Nat×Nat)×Nat
  | 0,_,x,y,z,d=>((x,y,z),d)
  | n + 1, i, x, y, z, d =>
    if(jn E i).1%4=0 then f3 (gh M (x,y,z)) fun a b c=>f3 (od M p (2*d+(jn E i).2)) fun t u v=>f3 (uo M (a,b,c) (t,u,v)) fun x y z=>fz (i+1) fun i=>zAs M p E n i x y z 0
    else f3 (gh M (x,y,z)) fun x y z=>fz (2*d+(jn E i).2) fun d=>fz (i+1) fun i=>zAs M p E n i x y z d
theorem rY (M:Nat)(p:Nat×Nat×Nat)(E:Nat):∀ n i,zAs M p E n i (kI M p E i).1.1 (kI M p E i).1.2.1 (kI M p E i).1.2.2 (kI M p E i).2=kI M p E (i+n)
 | 0,i=>rfl
 | n + 1, i => by
   rw[show i+(n+1)=(i+1)+n by omega,←rY M p E n (i+1),zAs];simp only[zC4,oH];have e:kI M p E (i+1)=if(jn E i).1%4=0 then(uo M (gh M (kI M p E i).1) (od M p (2*(kI M p E i).2+(jn E i).2)),0)else(gh M (kI M p E i).1,2*(kI M p E i).2+(jn E i).2):=rfl
   rw[e];split<;>rfl
def pwF (m a:Nat):Nat→Nat→Nat
 | 0,_=>1%m
 | k+1,e=>if e%2=1 then pwF m a k (e/2)*pwF m a k (e/2)%m*a%m else pwF m a k (e/2)*pwF m a k (e/2)%m
theorem zAY {m a:Nat} : ∀ k e,e<2^k→pwF m a k e=a^e%m
 | 0, e, h => by
   have:e=0:=by omega
   subst this;rfl
 | k + 1, e, h => by
   have hd:e/2<2^k:=by rw[zp]at h;omega
   have h1:=jY e 2;simp only[pwF];rw[zAY k (e/2) hd];have sq:a ^(e/2)%m*(a ^(e/2)%m)%m=a ^(2*(e/2))%m:=by
     rw[←ks,←qP];congr 2;omega
   split
   · rename_i ho;rw[sq,yN,←zp];congr 2;omega
   · rw[sq];congr 2;omega
def sE (M:Nat) (p:Nat×Nat×Nat):Option (Nat×Nat):=fz (pwF M p.2.2 256 (M-2)) fun u=>if p.2.2%M=0 then none else some (p.1*(u*u%M)%M%M,p.2.1*(u*u%M*u%M)%M%M)
theorem oN {M:Nat}(p:Nat×Nat×Nat)(hM:M-2<2^256):sE M p=yu M p:=by
 unfold sE yu bQ;rw[oH,zAY 256 _ hM];generalize p.2.2 ^(M-2)=u;simp only[mm];have e1:u%M*(u%M)%M=u*u%M:=(ks u u M).symm;have e2:u*u%M*(u%M)%M=u*u%M*u%M:=by rw[ks,vu,vu,←ks,yN]
 rw[e1,e2]
def mulF (C:Crv) (x y E:Nat):Option (Option (Nat×Nat)):=if onB C.M C.bb x y=true then some (sE C.M (zAs C.M (x,y,1) E (zu E) 0 1 1 0 0).1)else none
theorem cB {C:Crv}{x y E:Nat}(hM:C.M-2<2^256)(hE:zu E≤4096):yY C false x y E=mulF C x y E:=by
 have h:=rY C.M (x,y,1) E (zu E) 0;rw[jH]at h;unfold yY mulF;rw[qg hE,oN _ hM,show upP false x y=(x,y,1)from rfl,←h];rfl
def addF (C:Crv) (x y u v:Nat):Option (Option (Nat×Nat)):=if onB C.M C.bb x y=true then(if onB C.M C.bb u v=true then some (f3 (uo C.M (x,y,1) (u,v,1)) fun a b c=>sE C.M (a,b,c))else none)else none
theorem zCq {C:Crv}{x y u v:Nat}(hM:C.M-2<2^256):aA C false x y false u v=addF C x y u v:=by
 unfold aA addF;rw[zC4,oN _ hM];rfl
theorem fe:kU.M-2<2^256:=by decide +kernel
abbrev mV:Nat:=110066130015802009474046148371272023593080024477183009805587143031252073655978
abbrev eKk:Nat:=107779323474988826052224347888305060046280763634212666574931899910345441668288
abbrev eR':Nat:=25977288503853393716652032588498566305194343633991309518364746196609453180960
abbrev eT:Nat:=37770117932026156049172039120758503168212124412985157458423084762336719498901
abbrev eI:Nat:=106754667409752053512634815028296606224892078111964034758566215503536184417907
abbrev eS:Nat:=31672600657996915719765063915927342923876227216746519456348864979464926653788
abbrev eWv:Nat:=49088283842224337010804296858261905727516148431712012627153600141367233559220
abbrev eU1:Nat:=4949614300662615366786766246518171094738549107753278794478061035640248286102
abbrev eU2:Nat:=70558983771563734067621506605741236500576238817182598477487461413852045656991
abbrev eQ:Nat×Nat:=(113515001384046449164058056303279658808511266657878524928823703426351177434559,21176059819131940777825660752100379636750046115576985156935838526979906288476)
abbrev eR:Nat×Nat:=(25977288503853393716652032588498566305194343633991309518364746196609453180960,48582944771377152531173521449928515070586091585768012822087481791582739959474)
abbrev eA:Nat×Nat:=(102213660801912738577355430096833939953099284759535322292499151633381134001761,92409874442633145953552628655564808589168729286431245618439694300415881872152)
abbrev eB:Nat×Nat:=(80679172271377021265122162203278303360540964236662578313438880791368623190110,75015912442229030464259426553784456458409526620579227854056504289374120725388)
theorem zCI:yY kU false (val 18446744073709551616 kU.xl) (val 18446744073709551616 kU.yl) mV=some (some eQ):=by
 rw[cB fe (by decide +kernel)];decide +kernel
theorem zDt:yY kU false (val 18446744073709551616 kU.xl) (val 18446744073709551616 kU.yl) eKk=some (some eR):=by
 rw[cB fe (by decide +kernel)];decide +kernel
theorem zDr:yY kU false (val 18446744073709551616 kU.xl) (val 18446744073709551616 kU.yl) eU1=some (some eA):=by
 rw[cB fe (by decide +kernel)];decide +kernel
theorem zDq:yY kU false eQ.1 eQ.2 eU2=some (some eB):=by
 rw[cB fe (by decide +kernel)];decide +kernel
theorem zEB:aA kU false eA.1 eA.2 false eB.1 eB.2=some (some eR):=by
 rw[zCq fe];decide +kernel
theorem e_r:eR.1%val 18446744073709551616 kU.nl=eR':=by decide +kernel
theorem e_t:eR'*mV%val 18446744073709551616 kU.nl=eT:=by decide +kernel
theorem dN:vR [104,97,115,104]*eWv%val 18446744073709551616 kU.nl=eU1:=by decide +kernel
theorem dM:eR'*eWv%val 18446744073709551616 kU.nl=eU2:=by decide +kernel
def zCQ (m:Nat):Nat→Nat→Nat→Nat→Nat→Option (Nat×Nat)
 | 0,_,_,_,_=>none
 | n+1,r,s,t,u=>if s=0 then some (r,t)else fz (r%s) fun a=>fz ((t+m-r/s*u%m)%m) fun b=>zCQ m n s a u b
theorem ro {m:Nat}{p:Nat×Nat} : ∀ n r s t u,zCQ m n r s t u=some p→jp m r s t u=p
 | 0,_,_,_,_,h=>by cases h
 | n + 1, r, s, t, u, h => by
   rw[zCQ]at h;by_cases h0:s=0
   · rw[qg h0]at h;subst h0;rw[vP];exact jX h
   · rw[ql h0,oH,oH]at h;rw[xD h0];exact ro n _ _ _ _ h
theorem rm {x m y:Nat}(h:zCQ m 400 m (x%m) 0 1=some (1,y)):xE x m=(digs 18446744073709551616 y,true):=by
 unfold xE;rw[ro 400 _ _ _ _ h,qg rfl]
theorem zD0:xE eKk (val 18446744073709551616 kU.nl)=(digs 18446744073709551616 eI,true):=rm (by decide +kernel)
theorem inv_s:xE eS (val 18446744073709551616 kU.nl)=(digs 18446744073709551616 eWv,true):=rm (by decide +kernel)
end Go.Proofs.YtaemogcomplhiaaGreatDoor.Ec
namespace Go.Proofs.YtaemogcomplhiaaGreatDoor
open Go.RowKit
open Sha
theorem oi (w:World)(n:Nat)(hn:n≤281474976710656):∃ cs,(callFunc 70 #[.int .i64 (n:Int)]).run Tryz.prog w=.ok (.value (.slice (some ⟨w.heap.size,0,none⟩) n cs.size)) ((w.drew.drew).alloc (.cells cs 5))∧n≤cs.size∧cs.size≤maxLen:=by
 obtain⟨cs,h1,h2,h3⟩:=Lib.run_makeNoZero (P:=Tryz.prog) w #[3] 22 5 Tryz.underlying22 n hn;refine⟨cs,?_,h2,h3 (by unfold maxLen;omega)⟩;rw[run_callFunc_extern (e:=Extern.BytealgMakeNoZero.makeNoZero #[3] #[22]) Tryz.func70 (by kernel_rfl) (by kernel_rfl) (by kernel_rfl) (by kernel_rfl),h1];rfl
theorem n9 (w:World):Calls Tryz.prog 69 #[.int .u64 1,.int .u64 32] w fun e w'=>e=.returned (.tuple #[.int .u64 0,.int .u64 32])∧w'=w:=by
 have H:=zF (ya 1 32 0 32 (by omega) (by omega) (by omega) (by omega));go_enter Tryz.func69,Tryz.ntmps69;go_wp2_with fail;refine(H.out w).mono ?_;rintro e w1 ⟨rfl,rfl⟩;go_wp2;go_ret2;exact⟨rfl,rfl⟩
theorem yO {w:World}{g p k dl dc sl sc:Nat}{a:Addr}{cur:Array Value}(hb:w.heap[g]?=some (.cells cur 5 (0,0)))(ho:∀ j,j<p→cur[j]?=some (.int .u8 1))(hs:∀ j,j<k→w.cell? (a.add j)=some (.int .u8 1))(hk:k=min sl dl)(hle:p+k≤cur.size) :
 ∃ W' cur',(Builtin.copy_ #[22,22] 3 #[.slice (some ⟨g,p,none⟩) dl dc,.slice (some a) sl sc]).run Tryz.prog w=.ok (.int .i64 (k:Int)) W'∧W'.heap[g]?=some (.cells cur' 5 (0,0))∧cur'.size=cur.size∧(∀ j,j<p+k→cur'[j]?=some (.int .u8 1))∧jQ g w W':=by
 have hcl:(List.replicate k (Value.int .u8 1)).length=k:=List.length_replicate
 have hr:=run_copy_row (P:=Tryz.prog) w 22 22 3 5 g p dl dc a sl sc cur 5 (List.replicate k (.int .u8 1)) Tryz.underlying22 (by kernel_rfl) hb (by rw[hcl];exact hk) (fun j v hv=>by
  obtain⟨h1,h2⟩:=List.getElem?_eq_some_iff.1 hv
  rw[hcl]at h1
  rw[hs j h1,←h2,List.getElem_replicate]) (by rw[hcl];exact hle) (by intro v hv;rw[(List.mem_replicate.1 hv).2];rfl)
 rw[hcl]at hr
 refine⟨_,_,hr,Go.setRow_heap w g _ _ 5 _ hb,?_,?_,⟨rfl,rfl,rfl,by simp[World.setRow],fun k _ hk=>Go.setRow_other w g k _ hk⟩⟩
 · simp;omega
 · intro j hj;have hpl:(cur.toList.take p).length=p:=by simp;omega
   rw[zR,List.append_assoc];by_cases h:j<p
   · rw[wZ (by omega),List.getElem?_take_of_lt h];simpa using ho j h
   · rw[uF (by omega),hpl,wZ (by rw[hcl];omega),List.getElem?_replicate_of_lt (by omega)]
theorem oo {g:Nat}(w:World)(hg:w.heap[g]?=some (.cells #[.int .u8 1] 5 (0,0))) :
 Calls Tryz.prog 32 #[.slice (some ⟨g,0,none⟩) 1 1,.int .i64 32] w fun e w'=>∃ A,e=.returned (.slice A 32 32)∧RB w' (fun k=>k<w'.heap.size) A 32 (List.replicate 32 1)∧Ext w w':=by
 obtain⟨cs,hrun,hcs,hcm⟩:=oi w 32 (by omega)
 rw[show((32:Nat):Int)=32 from rfl]at hrun
 obtain⟨W1,hW1⟩:=eV ((w.drew.drew).alloc (.cells cs 5))
 have hb:W1.heap[w.heap.size]?=some (.cells cs 5 (0,0)):=by rw[←hW1];exact zS w.drew.drew _
 have hE:Ext w W1:=by rw[←hW1];exact((Ext.drew w).trans (Ext.drew _)).trans (zO _ _)
 rw[hW1]at hrun
 have c32:(32:Int)≤(cs.size:Int):=by omega
 obtain⟨W2,cs2,hcp,hb2,hz2,hon,hj2⟩:=yO (p:=0) (k:=1) (dl:=32) (dc:=32) (sl:=1) (sc:=1) (a:=⟨g,0,none⟩) hb (by omega) (by
  intro j hj
  obtain rfl:j=0:=by omega
  exact zQ (hE.at_ hg) 0) rfl (by omega)
 have Hb2:=zF hb2
 have Hon:=zF hon
 have HE2:=zF (hj2.ext hE (zG _))
 have hz:=zF (show 32≤cs2.size by omega)
 clear hb hE hW1 hg hb2 hon hj2 hz2 hcm
 go_enter Tryz.func32,Tryz.ntmps32
 go_upto_region 6 with(go_at_call 69;refine(n9 _).mono ?_;rintro e w1 ⟨rfl,rfl⟩)
 go_upto_region 18 with fail
 clear hrun hcp
 go_loopw [10] (fun iv wr=>∃(p:Nat) (cur:Array Value),iv=.int .i64 (p:Int)∧(p=1∨p=2∨p=4∨p=8∨p=16∨p=32)∧Hid (wr.heap[w1.heap.size]?=some (.cells cur 5 (0,0)))∧Hid (∀ j,j<p→cur[j]?=some (.int .u8 1))∧Hid (32≤cur.size)∧Hid (Ext w1 wr)) (fun iv _=>(32-intOf iv).toNat)
 case atStart=>exact⟨1,cs2,rfl,.inl rfl,Hb2,Hon,hz,HE2⟩
 case round =>
  clear Hb2 Hon hz HE2;obtain⟨p,cur,rfl,hp,HB,HO,HZ,HE⟩:=hrel;rcases hp with rfl|rfl|rfl|rfl|rfl|rfl
  · obtain⟨X,cur',hc,hbx,hzx,hox,hjx⟩:=yO (w:=wr.drew) (p:=1) (k:=1) (dl:=31) (dc:=31) (sl:=1) (sc:=32) (a:=⟨w1.heap.size,0,none⟩) (show wr.drew.heap[w1.heap.size]?=some (.cells cur 5 (0,0))from HB.out) HO.out (by
     intro j hj
     rw[show Addr.add ⟨w1.heap.size,0,none⟩ j=⟨w1.heap.size,j,none⟩ by unfold Addr.add;split<;>simp_all,zQ (show wr.drew.heap[w1.heap.size]?=some (.cells cur 5 (0,0))from HB.out) j]
     exact HO.out j hj) rfl (by have:=HZ.out;omega)
    rw[show((1:Nat):Int)=1 from rfl]at hc ⊢;have HBn:=zF hbx;have HOn:=zF (show ∀ j,j<2→cur'[j]?=some (.int .u8 1)from hox);have HEn:=zF (hjx.ext (HE.out.trans (Ext.drew _)) (zG _));have HZn:=zF (show 32≤cur'.size by have:=HZ.out;omega);clear hbx hzx hox hjx HB HO HE HZ;go_upto_region 20 with fail;rw[show min (1:Int) 32=1 from by decide];go_region_with fail
    all_goals
     go_roundw;case rel =>
      have hR:∃(p:Nat) (cur:Array Value),Value.int .i64 2=.int .i64 (p:Int)∧(p=1∨p=2∨p=4∨p=8∨p=16∨p=32)∧Hid (X.heap[w1.heap.size]?=some (.cells cur 5 (0,0)))∧Hid (∀ j,j<p→cur[j]?=some (.int .u8 1))∧Hid (32≤cur.size)∧Hid (Ext w1 X):=⟨2,cur',rfl,by omega,HBn,HOn,HZn,HEn⟩
      first|exact⟨_,_,_,_,_,_,_,_,_,_,_,_,_,_,_,hR,rfl⟩|exact⟨_,_,_,_,_,_,_,_,_,_,_,_,_,_,_,_,hR,rfl⟩|exact⟨_,_,_,_,_,_,_,_,_,_,_,_,_,_,_,_,_,hR,rfl⟩|exact⟨_,_,_,_,_,_,_,_,_,_,_,_,_,_,_,_,_,_,hR,rfl⟩|exact⟨_,_,_,_,_,_,_,_,_,_,_,_,_,_,_,_,_,_,_,hR,rfl⟩|exact⟨_,_,_,_,_,_,_,_,_,_,_,_,_,_,_,_,_,_,_,_,hR,rfl⟩|exact⟨_,_,_,_,_,_,_,_,_,_,_,_,_,_,_,_,_,_,_,_,_,hR,rfl⟩|exact⟨_,_,_,_,_,_,_,_,_,_,_,_,_,_,_,_,_,_,_,_,_,_,hR,rfl⟩|exact⟨_,_,_,_,_,_,_,_,_,_,_,_,_,_,_,_,_,_,_,_,_,_,_,hR,rfl⟩
     case measure=>change (32-(2:Int)).toNat<(32-(1:Int)).toNat;decide
  · obtain⟨X,cur',hc,hbx,hzx,hox,hjx⟩:=yO (w:=wr.drew) (p:=2) (k:=2) (dl:=30) (dc:=30) (sl:=2) (sc:=32) (a:=⟨w1.heap.size,0,none⟩) (show wr.drew.heap[w1.heap.size]?=some (.cells cur 5 (0,0))from HB.out) HO.out (by
     intro j hj
     rw[show Addr.add ⟨w1.heap.size,0,none⟩ j=⟨w1.heap.size,j,none⟩ by unfold Addr.add;split<;>simp_all,zQ (show wr.drew.heap[w1.heap.size]?=some (.cells cur 5 (0,0))from HB.out) j]
     exact HO.out j hj) rfl (by have:=HZ.out;omega)
    rw[show((2:Nat):Int)=2 from rfl]at hc ⊢;have HBn:=zF hbx;have HOn:=zF (show ∀ j,j<4→cur'[j]?=some (.int .u8 1)from hox);have HEn:=zF (hjx.ext (HE.out.trans (Ext.drew _)) (zG _));have HZn:=zF (show 32≤cur'.size by have:=HZ.out;omega);clear hbx hzx hox hjx HB HO HE HZ;go_upto_region 20 with fail;rw[show min (2:Int) 32=2 from by decide];go_region_with fail
    all_goals
     go_roundw;case rel =>
      have hR:∃(p:Nat) (cur:Array Value),Value.int .i64 4=.int .i64 (p:Int)∧(p=1∨p=2∨p=4∨p=8∨p=16∨p=32)∧Hid (X.heap[w1.heap.size]?=some (.cells cur 5 (0,0)))∧Hid (∀ j,j<p→cur[j]?=some (.int .u8 1))∧Hid (32≤cur.size)∧Hid (Ext w1 X):=⟨4,cur',rfl,by omega,HBn,HOn,HZn,HEn⟩
      first|exact⟨_,_,_,_,_,_,_,_,_,_,_,_,_,_,_,hR,rfl⟩|exact⟨_,_,_,_,_,_,_,_,_,_,_,_,_,_,_,_,hR,rfl⟩|exact⟨_,_,_,_,_,_,_,_,_,_,_,_,_,_,_,_,_,hR,rfl⟩|exact⟨_,_,_,_,_,_,_,_,_,_,_,_,_,_,_,_,_,_,hR,rfl⟩|exact⟨_,_,_,_,_,_,_,_,_,_,_,_,_,_,_,_,_,_,_,hR,rfl⟩|exact⟨_,_,_,_,_,_,_,_,_,_,_,_,_,_,_,_,_,_,_,_,hR,rfl⟩|exact⟨_,_,_,_,_,_,_,_,_,_,_,_,_,_,_,_,_,_,_,_,_,hR,rfl⟩|exact⟨_,_,_,_,_,_,_,_,_,_,_,_,_,_,_,_,_,_,_,_,_,_,hR,rfl⟩|exact⟨_,_,_,_,_,_,_,_,_,_,_,_,_,_,_,_,_,_,_,_,_,_,_,hR,rfl⟩
     case measure=>change (32-(4:Int)).toNat<(32-(2:Int)).toNat;decide
  · obtain⟨X,cur',hc,hbx,hzx,hox,hjx⟩:=yO (w:=wr.drew) (p:=4) (k:=4) (dl:=28) (dc:=28) (sl:=4) (sc:=32) (a:=⟨w1.heap.size,0,none⟩) (show wr.drew.heap[w1.heap.size]?=some (.cells cur 5 (0,0))from HB.out) HO.out (by
     intro j hj
     rw[show Addr.add ⟨w1.heap.size,0,none⟩ j=⟨w1.heap.size,j,none⟩ by unfold Addr.add;split<;>simp_all,zQ (show wr.drew.heap[w1.heap.size]?=some (.cells cur 5 (0,0))from HB.out) j]
     exact HO.out j hj) rfl (by have:=HZ.out;omega)
    rw[show((4:Nat):Int)=4 from rfl]at hc ⊢;have HBn:=zF hbx;have HOn:=zF (show ∀ j,j<8→cur'[j]?=some (.int .u8 1)from hox);have HEn:=zF (hjx.ext (HE.out.trans (Ext.drew _)) (zG _));have HZn:=zF (show 32≤cur'.size by have:=HZ.out;omega);clear hbx hzx hox hjx HB HO HE HZ;go_upto_region 20 with fail;rw[show min (4:Int) 32=4 from by decide];go_region_with fail
    all_goals
     go_roundw;case rel =>
      have hR:∃(p:Nat) (cur:Array Value),Value.int .i64 8=.int .i64 (p:Int)∧(p=1∨p=2∨p=4∨p=8∨p=16∨p=32)∧Hid (X.heap[w1.heap.size]?=some (.cells cur 5 (0,0)))∧Hid (∀ j,j<p→cur[j]?=some (.int .u8 1))∧Hid (32≤cur.size)∧Hid (Ext w1 X):=⟨8,cur',rfl,by omega,HBn,HOn,HZn,HEn⟩
      first|exact⟨_,_,_,_,_,_,_,_,_,_,_,_,_,_,_,hR,rfl⟩|exact⟨_,_,_,_,_,_,_,_,_,_,_,_,_,_,_,_,hR,rfl⟩|exact⟨_,_,_,_,_,_,_,_,_,_,_,_,_,_,_,_,_,hR,rfl⟩|exact⟨_,_,_,_,_,_,_,_,_,_,_,_,_,_,_,_,_,_,hR,rfl⟩|exact⟨_,_,_,_,_,_,_,_,_,_,_,_,_,_,_,_,_,_,_,hR,rfl⟩|exact⟨_,_,_,_,_,_,_,_,_,_,_,_,_,_,_,_,_,_,_,_,hR,rfl⟩|exact⟨_,_,_,_,_,_,_,_,_,_,_,_,_,_,_,_,_,_,_,_,_,hR,rfl⟩|exact⟨_,_,_,_,_,_,_,_,_,_,_,_,_,_,_,_,_,_,_,_,_,_,hR,rfl⟩|exact⟨_,_,_,_,_,_,_,_,_,_,_,_,_,_,_,_,_,_,_,_,_,_,_,hR,rfl⟩
     case measure=>change (32-(8:Int)).toNat<(32-(4:Int)).toNat;decide
  · obtain⟨X,cur',hc,hbx,hzx,hox,hjx⟩:=yO (w:=wr.drew) (p:=8) (k:=8) (dl:=24) (dc:=24) (sl:=8) (sc:=32) (a:=⟨w1.heap.size,0,none⟩) (show wr.drew.heap[w1.heap.size]?=some (.cells cur 5 (0,0))from HB.out) HO.out (by
     intro j hj
     rw[show Addr.add ⟨w1.heap.size,0,none⟩ j=⟨w1.heap.size,j,none⟩ by unfold Addr.add;split<;>simp_all,zQ (show wr.drew.heap[w1.heap.size]?=some (.cells cur 5 (0,0))from HB.out) j]
     exact HO.out j hj) rfl (by have:=HZ.out;omega)
    rw[show((8:Nat):Int)=8 from rfl]at hc ⊢;have HBn:=zF hbx;have HOn:=zF (show ∀ j,j<16→cur'[j]?=some (.int .u8 1)from hox);have HEn:=zF (hjx.ext (HE.out.trans (Ext.drew _)) (zG _));have HZn:=zF (show 32≤cur'.size by have:=HZ.out;omega);clear hbx hzx hox hjx HB HO HE HZ;go_upto_region 20 with fail;rw[show min (8:Int) 32=8 from by decide];go_region_with fail
    all_goals
     go_roundw;case rel =>
      have hR:∃(p:Nat) (cur:Array Value),Value.int .i64 16=.int .i64 (p:Int)∧(p=1∨p=2∨p=4∨p=8∨p=16∨p=32)∧Hid (X.heap[w1.heap.size]?=some (.cells cur 5 (0,0)))∧Hid (∀ j,j<p→cur[j]?=some (.int .u8 1))∧Hid (32≤cur.size)∧Hid (Ext w1 X):=⟨16,cur',rfl,by omega,HBn,HOn,HZn,HEn⟩
      first|exact⟨_,_,_,_,_,_,_,_,_,_,_,_,_,_,_,hR,rfl⟩|exact⟨_,_,_,_,_,_,_,_,_,_,_,_,_,_,_,_,hR,rfl⟩|exact⟨_,_,_,_,_,_,_,_,_,_,_,_,_,_,_,_,_,hR,rfl⟩|exact⟨_,_,_,_,_,_,_,_,_,_,_,_,_,_,_,_,_,_,hR,rfl⟩|exact⟨_,_,_,_,_,_,_,_,_,_,_,_,_,_,_,_,_,_,_,hR,rfl⟩|exact⟨_,_,_,_,_,_,_,_,_,_,_,_,_,_,_,_,_,_,_,_,hR,rfl⟩|exact⟨_,_,_,_,_,_,_,_,_,_,_,_,_,_,_,_,_,_,_,_,_,hR,rfl⟩|exact⟨_,_,_,_,_,_,_,_,_,_,_,_,_,_,_,_,_,_,_,_,_,_,hR,rfl⟩|exact⟨_,_,_,_,_,_,_,_,_,_,_,_,_,_,_,_,_,_,_,_,_,_,_,hR,rfl⟩
     case measure=>change (32-(16:Int)).toNat<(32-(8:Int)).toNat;decide
  · obtain⟨X,cur',hc,hbx,hzx,hox,hjx⟩:=yO (w:=wr.drew) (p:=16) (k:=16) (dl:=16) (dc:=16) (sl:=16) (sc:=32) (a:=⟨w1.heap.size,0,none⟩) (show wr.drew.heap[w1.heap.size]?=some (.cells cur 5 (0,0))from HB.out) HO.out (by
     intro j hj
     rw[show Addr.add ⟨w1.heap.size,0,none⟩ j=⟨w1.heap.size,j,none⟩ by unfold Addr.add;split<;>simp_all,zQ (show wr.drew.heap[w1.heap.size]?=some (.cells cur 5 (0,0))from HB.out) j]
     exact HO.out j hj) rfl (by have:=HZ.out;omega)
    rw[show((16:Nat):Int)=16 from rfl]at hc ⊢;have HBn:=zF hbx;have HOn:=zF (show ∀ j,j<32→cur'[j]?=some (.int .u8 1)from hox);have HEn:=zF (hjx.ext (HE.out.trans (Ext.drew _)) (zG _));have HZn:=zF (show 32≤cur'.size by have:=HZ.out;omega);clear hbx hzx hox hjx HB HO HE HZ;go_upto_region 20 with fail;rw[show min (16:Int) 32=16 from by decide];go_region_with fail
    all_goals
     go_roundw;case rel =>
      have hR:∃(p:Nat) (cur:Array Value),Value.int .i64 32=.int .i64 (p:Int)∧(p=1∨p=2∨p=4∨p=8∨p=16∨p=32)∧Hid (X.heap[w1.heap.size]?=some (.cells cur 5 (0,0)))∧Hid (∀ j,j<p→cur[j]?=some (.int .u8 1))∧Hid (32≤cur.size)∧Hid (Ext w1 X):=⟨32,cur',rfl,by omega,HBn,HOn,HZn,HEn⟩
      first|exact⟨_,_,_,_,_,_,_,_,_,_,_,_,_,_,_,hR,rfl⟩|exact⟨_,_,_,_,_,_,_,_,_,_,_,_,_,_,_,_,hR,rfl⟩|exact⟨_,_,_,_,_,_,_,_,_,_,_,_,_,_,_,_,_,hR,rfl⟩|exact⟨_,_,_,_,_,_,_,_,_,_,_,_,_,_,_,_,_,_,hR,rfl⟩|exact⟨_,_,_,_,_,_,_,_,_,_,_,_,_,_,_,_,_,_,_,hR,rfl⟩|exact⟨_,_,_,_,_,_,_,_,_,_,_,_,_,_,_,_,_,_,_,_,hR,rfl⟩|exact⟨_,_,_,_,_,_,_,_,_,_,_,_,_,_,_,_,_,_,_,_,_,hR,rfl⟩|exact⟨_,_,_,_,_,_,_,_,_,_,_,_,_,_,_,_,_,_,_,_,_,_,hR,rfl⟩|exact⟨_,_,_,_,_,_,_,_,_,_,_,_,_,_,_,_,_,_,_,_,_,_,_,hR,rfl⟩
     case measure=>change (32-(32:Int)).toNat<(32-(16:Int)).toNat;decide
  · rw[show((32:Nat):Int)=32 from rfl];have hones:bys (List.replicate 32 1)=List.replicate 32 (Value.int .u8 1):=by simp[bys]
    have hRB:RB wr (fun k=>k<wr.heap.size) (some ⟨w1.heap.size,0,none⟩) 32 (List.replicate 32 1):=by
     refine⟨⟨by simp,by unfold maxLen;omega,by simp[bys],fun _=>⟨⟨w1.heap.size,0,none⟩,rfl,qr HB.out,fun j u hu=>?_⟩⟩,fun x hx=>by rw[(List.mem_replicate.1 hx).2];omega,by simp⟩;rw[hones]at hu;obtain⟨h1,h2⟩:=List.getElem?_eq_some_iff.1 hu;rw[List.length_replicate]at h1;rw[List.getElem_replicate]at h2;rw[show Addr.add ⟨w1.heap.size,0,none⟩ j=⟨w1.heap.size,j,none⟩ by unfold Addr.add;split<;>simp_all,zQ HB.out j,HO.out j h1,h2]
    have HRB:=zF hRB;clear hRB hones;go_wp2_with fail;go_ret;exact⟨_,rfl,HRB.out,HE.out⟩
theorem zDw (w:World):RB (w.alloc (.cells (madeCells #[.int .u8 0] 32) 5)) (fun k=>k<(w.alloc (.cells (madeCells #[.int .u8 0] 32) 5)).heap.size) (some ⟨w.heap.size,0,none⟩) 32 (List.replicate 32 0):=by
 have:=(vQ.made w 32).rb (P:=fun k=>k<(w.alloc (.cells (madeCells #[.int .u8 0] 32) 5)).heap.size) (by rw[qB];omega) (by simp) (by simp);rwa [List.length_replicate]at this
def uC (d:List Nat):List Nat×List Nat:=gc (List.replicate 32 0) (List.replicate 32 1) d
theorem zCF {P:Nat→Prop}{A:Option Addr}{c:Nat}{d:List Nat}(w:World)(hk:KW w)(hp:RB w P A c d)(hP:∀ k,P k→k<w.heap.size)(hl:d.length≤200000) :
 Calls Tryz.prog 11 #[.slice A d.length c] w fun e w'=>∃ b,e=.returned (.pointer (some ⟨b,0,none⟩))∧w.heap.size≤b∧DR w' b (uC d).1 (uC d).2 0∧Ext w w':=by
 have HK:=zF hk
 have HP:=zF hp
 have HPP:=zF hP
 clear hk hp hP
 go_enter Tryz.func11,Tryz.ntmps11
 go_upto_region 1 with fail
 refine zh (by kernel_rfl) 6 [0,0,2,7,15,31] [] (fun j f X=>match j with
  | 0=>∃ g,f 0=.slice (some ⟨g,0,none⟩) 32 32∧RB X (fun k=>k<X.heap.size) (some ⟨g,0,none⟩) 32 (List.replicate 32 0)
  | 1=>∃ g,f 1=.slice (some ⟨g,0,none⟩) 1 1∧X.heap[g]?=some (.cells #[.int .u8 1] 5 (0,0))
  | 2=>∃ A,f 2=.slice A 32 32∧RB X (fun k=>k<X.heap.size) A 32 (List.replicate 32 1)
  | 3=>∃ g A,f 3=.agg #[.slice (some ⟨g,0,none⟩) 32 32,.slice A 32 32,.int .i64 0]∧RB X (fun k=>k<X.heap.size) (some ⟨g,0,none⟩) 32 (List.replicate 32 0)∧RB X (fun k=>k<X.heap.size) A 32 (List.replicate 32 1)
  | 4=>∃ b,f 4=.pointer (some ⟨b,0,none⟩)∧w.heap.size≤b∧DR X b (List.replicate 32 0) (List.replicate 32 1) 0
  | 5=>∃ b,f 5=.pointer (some ⟨b,0,none⟩)∧w.heap.size≤b∧DR X b (List.replicate 32 0) (List.replicate 32 1) 0
  | _=>True) (by kernel_rfl) [(4,0),(5,1),(6,2),(7,3),(8,4),(3,5)] (by kernel_rfl) ?_
 refine zt 1 5 [(5,1),(6,2)] (fun f X hX hR K hK=>?_) ?_
 · have hmk:=jD (P:=Tryz.prog) 22 5 (.int .u8 0) 1 Tryz.underlying22 gn rfl .i64 .i64 32 (by omega) (by omega);simp only[qW]at hmk;simp only[yZ];refine⟨?_⟩;go_simp;exact hK.out _ _ _ (by simp only[yZ]) (zO _ _) trivial (fun Y hY=>⟨_,rfl,(zDw X).upE hY⟩)
 refine zt 2 4 [(4,0)] (fun f X hX hR K hK=>?_) ?_
 · simp only[yZ];refine⟨?_⟩;go_simp;exact hK.out _ _ _ (by simp only[yZ]) (zO _ _) trivial (fun Y hY=>⟨_,rfl,hY.at_ (zS _ _)⟩)
 refine qI 3 3 (fun f=>#[f 1,Value.int IntKind.i64 32]) (F':=32) (fun f X hX hR=>?_) ?_
 · obtain⟨g1,(e1:f 1=_),r1⟩:=hR.out 1 rfl;simp only[e1];refine(oo X r1).mono ?_;rintro e w2 ⟨A2,rfl,hr,hE⟩;exact⟨_,rfl,hE,fun Y hY=>⟨A2,rfl,hr.upE hY⟩⟩
 refine zt 4 2 [(4,0),(5,1),(6,2)] (fun f X hX hR K hK=>?_) ?_
 · obtain⟨g0,(e0:f 0=_),r0⟩:=hR.out 0 rfl;obtain⟨A2,(e2:f 2=_),r2⟩:=hR.out 2 rfl;simp only[yZ,e0,e2];refine⟨?_⟩;go_simp;exact hK.out _ _ _ (by simp only[yZ,e0,e2]) (zX _) trivial (fun Y hY=>⟨_,_,rfl,r0.upE hY,r2.upE hY⟩)
 refine zt 5 1 [(4,0),(5,1),(6,2),(7,3)] (fun f X hX hR K hK=>?_) ?_
 · obtain⟨g3,A3,(e3:f 3=_),r3,s3⟩:=hR.out 3 rfl;simp only[yZ,e3];refine⟨?_⟩;go_simp;exact hK.out _ _ _ (by simp only[yZ,e3]) (zO _ _) trivial (fun Y hY=>⟨_,rfl,hX.bsize,DR.ext ⟨_,_,_,_,zS _ _,r3.upE (zO _ _),s3.upE (zO _ _),by simp,by simp⟩ hY⟩)
 refine zt 6 0 [(4,0),(5,1),(6,2),(7,3),(8,4)] (fun f X hX hR K hK=>?_) ?_
 · obtain⟨b4,(e4:f 4=_),l4,d4⟩:=hR.out 4 rfl;simp only[yZ,e4];refine⟨?_⟩;go_simp;exact hK.out _ _ _ (by simp only[yZ,e4]) (zX _) trivial (fun Y hY=>⟨_,rfl,l4,d4.ext hY⟩)
 refine yF ⟨fun f X hX hR hal hap=>?_⟩
 obtain⟨g0,(e0:f 0=_),r0⟩:=hR 0 (by decide)
 obtain⟨g1,(e1:f 1=_),r1⟩:=hR 1 (by decide)
 obtain⟨A2,(e2:f 2=_),r2⟩:=hR 2 (by decide)
 obtain⟨g3,A3,(e3:f 3=_),r3,s3⟩:=hR 3 (by decide)
 obtain⟨b4,(e4:f 4=_),l4,d4⟩:=hR 4 (by decide)
 obtain⟨b,(e5:f 5=_),lb,db⟩:=hR 5 (by decide)
 simp only[yZ,e0,e1,e2,e3,e4,e5]
 clear hR hal hap e0 e1 e2 e3 e4 e5
 refine zH ?_
 have H:=zF (cL X (HK.out.ext hX) db (HP.out.below hX HPP.out) (fun k hk=>zI (HPP.out k hk) hX.bsize) hl)
 clear r0 r1 r2 r3 s3 l4 d4 db HP HPP
 have HX:=zF hX
 clear hX
 go_wp2_with fail
 refine H.out.mono ?_
 rintro e w1 ⟨rfl,hd,hf⟩
 have HD:=zF hd
 have HF:=zF (hf.ext' HX.out lb HX.out.bsize)
 clear hd hf H
 go_wp2_with fail
 go_ret
 exact⟨b,rfl,lb,HD.out,HF.out⟩
end Go.Proofs.YtaemogcomplhiaaGreatDoor
namespace Go.Proofs.YtaemogcomplhiaaGreatDoor.Ec
open Sha
abbrev eK0:List Nat:=[197,67,134,248,26,225,157,181,5,204,41,121,63,130,47,88,48,213,92,237,172,156,63,242,37,142,219,161,100,17,251,67]
abbrev eV0:List Nat:=[120,98,110,89,75,219,36,10,205,107,217,53,227,217,139,59,33,103,110,107,102,6,223,4,174,28,250,29,229,238,104,38]
abbrev eK1:List Nat:=[174,53,24,115,238,69,148,211,17,219,182,29,219,207,92,16,114,185,16,49,119,152,188,45,149,169,241,252,142,70,119,22]
abbrev eV1:List Nat:=[2,144,96,145,146,113,15,101,177,176,211,118,82,52,71,214,65,82,235,204,255,170,108,52,202,141,86,99,153,15,72,228]
theorem zDn:uC [120]=(eK0,eV0):=by decide +kernel
theorem zDW:um kU eK0 eV0=mV:=by decide +kernel
theorem st_1:cq kU eK0 eV0=(eK1,eV1):=by decide +kernel
theorem zDV:um kU eK1 eV1=eKk:=by decide +kernel
end Go.Proofs.YtaemogcomplhiaaGreatDoor.Ec
namespace Go.Proofs.YtaemogcomplhiaaGreatDoor.Ec
open Go.RowKit Go.Shelf
theorem zBU {w:World}{n m c:Nat}{P Q:Nat→Prop}{A B:Option Addr}{us bs:List Nat}(ha:RB w P A n us)(hn:us.length=n)(h0:0<n)(hb:RB w Q B c bs)(hm:bs.length=m)(h1:0<m)(hl:n+m≤1000000) :
 ∃ A' c' w',(∀ ty,(Builtin.append_ #[22,22] ty #[.slice A n n,.slice B m c]).run Tryz.prog w=.ok (.slice A' (n+m) c') w')∧Ext w w'∧RB w' (fun g=>g<w'.heap.size) A' c' (us++bs):=by
 obtain⟨i0,hi,hz0,hz1,hz2⟩:=info_parts gn
 subst hn hm
 obtain⟨ad,rfl,_,hc⟩:=ha.1.2.2.2 h0
 obtain⟨bd,rfl,_,hd⟩:=hb.1.2.2.2 h1
 have hs:(bys us).length=us.length:=by simp[bys]
 have ht:(bys bs).length=bs.length:=by simp[bys]
 have hf:Builtin.nextslicecap (us.length+bs.length) us.length*i0.bytes≤281474976710656:=growslice_fits (by omega) (by rw[hz2];omega)
 have hX:∀(o:Obj),Ext w (w.drew.alloc o):=fun o=>(jC (zl _ w) 1).alloc (zG _) o
 have hge:=grownCap_ge w (us.length+bs.length) us.length 5
 have hcm:grownCap w (us.length+bs.length) us.length 5≤maxLen:=grownCap_le_maxLen w (us.length+bs.length) us.length 5 (by unfold maxLen;omega)
 refine⟨_,_,_,fun ty=>run_append_grow (P:=Tryz.prog) w 22 ty 5 i0 (.int .u8 0) Tryz.underlying22 hi hz0 ad us.length us.length (bys us) (by rw[hs,hz1,jO]) hc bd bs.length c (bys bs) (by rw[ht,hz1,jO]) hd (by omega) (by omega) hf,hX _,?_⟩
 refine⟨⟨by rw[zz];omega,hcm,by simp[bys],fun _=>⟨_,rfl,?_,fun j v hj=>?_⟩⟩,fun b h=>?_,by rw[zz];omega⟩
 · simp
 · have hk:=zQ (zS w.drew (.cells ((bys us).toArray++(bys bs).toArray++Builtin.zeroCells (Value.int .u8 0).cells (grownCap w (us.length+bs.length) us.length 5-(us.length+bs.length))) 5)) j;have e:(⟨w.heap.size,0,none⟩:Addr).add j=⟨w.drew.heap.size,j,none⟩:=by simp[Addr.add];exact fun h=>h.symm
   have hb2:bys (us++bs)=bys us++bys bs:=by simp[bys]
   rw[hb2]at hj;rw[e,hk,←hj];have hlt:j<(bys us++bys bs).length:=by
    rcases qF j (bys us++bys bs).length with h|h
    · exact h
    · rw[jL h]at hj;cases hj
   have h2:(bys us).toArray++(bys bs).toArray=(bys us++bys bs).toArray:=by simp
   rw[h2,Array.getElem?_append_left (by simpa using hlt)];simp
 · rcases List.mem_append.1 h with h|h
   · exact ha.2.1 b h
   · exact hb.2.1 b h
theorem appF {w:World}{ops:Array Oper}{rest:List Oper}{o:Oper}{a:Act}{Q:Exit→Act→World→Prop}(hgd:o.guard=none)(s x:Operand)(ho:o.op=.call { callee:=.builtin .append,args:=#[s,x],argTypes:=#[22,22] })
 {n m c:Nat} {P R:Nat→Prop} {A B:Option Addr} {us bs:List Nat} (hs:a.eval s=.slice A n n) (hx:a.eval x=.slice B m c) (ha:RB w P A n us) (hn:us.length=n) (h0:0<n) (hb:RB w R B c bs) (hm:bs.length=m) (h1:0<m) (hl:n+m≤1000000)
 (h:∀ A' c' w',Ext w w'→RB w' (fun g=>g<w'.heap.size) A' c' (us++bs)→wpList Tryz.prog ops Q rest (a.put o.dst (.slice A' (n+m) c')) w'):wpList Tryz.prog ops Q (o::rest) a w:=by
 refine wpList_plain hgd fun _ hK=>?_
 obtain⟨A',c',w',hrun,hE,hr⟩:=zBU ha hn h0 hb hm h1 hl
 unfold Oper.wp execOp
 simp only[ho,resolve,invoke,builtin,vC,Sem.run_pure,qw,List.map_toArray,List.map_cons,List.map_nil,hs,hx,hrun]
 exact hK _ _ (h A' c' w' hE hr)
end Go.Proofs.YtaemogcomplhiaaGreatDoor.Ec
namespace Go.Proofs.YtaemogcomplhiaaGreatDoor.Ec
open Go.RowKit Go.Shelf
open Sha
attribute [local go_sem] Oper.semAt_some
abbrev eZT:Nat:=37770117932026156049172039120758503168212124412985157458423084762338470715901
theorem e_zt:1751217000+eT=eZT:=by decide +kernel
theorem e_s2:eZT*eI%wA kU=eS:=by decide +kernel
theorem gI:zu eR'≤8*32∧zu eS≤8*32∧zu eT≤4000∧zu eI≤4000∧zu eZT≤4000∧zu eKk≤4000∧zu 1751217000≤4000:=by decide +kernel
theorem dH:IsC 1 kU:=.inl ⟨rfl,rfl⟩
theorem zDp:zu mV≤256:=by decide +kernel
theorem zCO:kY kU mV=true:=by decide +kernel
theorem zDM {P:Nat→Prop}{b base:Nat}{A:Option Addr}{ad:Addr}{ca cb:Nat}{num:Int}(w:World)(hk:KW w)(hd:DR w b eK1 eV1 num)(ha:OB w base A ca (digs 18446744073709551616 mV))(hb:b<base)(hh:RB w P (some ad) cb [104,97,115,104])(hP:∀ q,P q→q<w.heap.size)(hn:0≤num)(hn2:num<1000000000) :
 Calls Tryz.prog 27 #[.int .i64 1,.slice A (digs 18446744073709551616 mV).length ca,.slice (some ad) 4 cb,.pointer (some ⟨b,0,none⟩)] w fun e w'=>∃ A c,e=.returned (.tuple #[.slice A 64 c,.int .i64 0])∧RB w' (fun q=>q<w'.heap.size) A c (bytesOf eR' 32++bytesOf eS 32)∧Fr b w.heap.size w w':=by
 obtain⟨lk,hlk⟩:=eV ((digs 18446744073709551616 mV).length)
 have hm:=uN (.inl dH) _ A ca _ w ha.rn (fun _ h=>h.2)
 rw[zd (by omega),zCO,hlk]at hm
 rw[hlk]
 have HM:=zF hm
 have HK:=zF hk
 have HD:=zF hd
 have HA:=zF ha
 have Hbb:=zF hb
 have HH:=zF hh
 have HP:=zF hP
 have Hn:=zF (And.intro hn hn2)
 have Hlk:=zF hlk
 clear hm hk hd ha hb hh hP hn hn2 hlk
 go_enter Tryz.func27,Tryz.ntmps27
 go_wp2
 go_step3
 go_wp2_with fail
 refine HM.out.mono ?_
 rintro e w1 ⟨rfl,E1⟩
 have HZ:=zF (fR dH (n:=4) w1 (HH.out.below E1 HP.out) (fun q hq=>zI (HP.out q hq) E1.bsize) rfl (by decide) (by decide))
 have HE1:=zF E1
 clear E1 HM
 go_wp2_with fail
 refine HZ.out.mono ?_
 rintro e w2 ⟨A2,c2,rfl,r2,E2⟩
 have R2:=zF r2
 have HE2:=zF (jb HE1.out E2)
 clear r2 E2 HZ
 have hz0:vR [104,97,115,104]=1751217000:=by decide +kernel
 rw[hz0]at R2 ⊢
 go_wp2
 try go_step3
 try go_wp2
 try go_step3
 go_loopw [11] (fun iv wr=>iv=undef∧wr=w2) (fun _ _=>0)
 case atStart=>exact⟨rfl,rfl⟩
 case round =>
  obtain⟨rfl,rfl⟩:=hrel;have h3:=nU dH (C:=kU) wr (HK.out.ext HE2.out) (HD.out.ext HE2.out) Hn.out.1 Hn.out.2;rw[zDV]at h3;have H3:=zF h3;clear h3;go_wp2_with fail;refine H3.out.mono ?_;rintro e w3 ⟨A3,c3,rfl,o3,d3,f3⟩;have hA3:RU w3 A ca (digs 18446744073709551616 mV):=((HA.out.below HE2.out (zG _)).rn.keep fun p hp=>qH (f3.block _ (zI hp.2 (zG _)) (by have:=hp.1;have:=Hbb.out;omega))).mono fun q hq=>zI hq.2 f3.size;have hZ3:RU w3 A2 c2 (digs 18446744073709551616 1751217000):=(R2.out.rn.keep fun p hp=>qH (f3.block _ hp.2 (by have:=hp.1;have:=HD.out.lt;have:=HE1.out.bsize;omega))).mono fun q hq=>zI hq.2 f3.size;have HA3:=zF hA3;have HZ3:=zF hZ3;have HK3:=zF o3.ru;have HF3:=zF ((vq (b:=b) HE2.out (zG _)).trans (f3.mono HE2.out.bsize));clear hA3 hZ3 o3 d3 f3 H3;go_wp2_with fail;refine(pm dH w3).mono ?_;rintro e w4 ⟨Ax,cx,Ay,cy,rfl,hx,hy,E4⟩;have h5:=oA dH w4 (show APt w4 (.agg #[.bool false,.slice Ax kU.xl.length cx,.slice Ay kU.yl.length cy]) false (val 18446744073709551616 kU.xl) (val 18446744073709551616 kU.yl)from⟨Ax,Ay,cx,cy,_,_,rfl,hx,hy,rfl,rfl⟩) (zL HK3.out E4) (zd (by omega) _);rw[zDt]at h5;have H5:=zF h5;have HE4:=zF E4;clear hx hy h5 E4;go_wp2_with fail;refine H5.out.mono ?_;rintro e w5 ⟨o,rfl,hv5,E5⟩;have hv5:PtV w5 w4.heap.size o (some eR):=hv5;obtain⟨Bx,dx,By,dy,rfl,ox,oy⟩:=hv5;obtain⟨lx,hlx⟩:=eV ((digs 18446744073709551616 eR.1).length);obtain⟨ly,hly⟩:=eV ((digs 18446744073709551616 eR.2).length);rw[hlx,hly];have hq6:=zS w5 (.cells #[.bool false,.slice Bx lx dx,.slice By ly dy] 33);have hA6:=zO w5 (.cells #[.bool false,.slice Bx lx dx,.slice By ly dy] 33);obtain⟨g,hg⟩:=eV w5.heap.size;rw[hg]at hq6;have HX6:=zF (zL ox.ru hA6);have HE6:=zF (jb HE4.out (jb E5 hA6));have Hg:=zF hg;have Hlx:=zF hlx;have HQ6:=zF hq6;clear ox oy hlx hly hg hq6 hA6 E5 HE4 H5;go_upto_region 6 with fail;rw[Hg.out];generalize w5.alloc (.cells #[.bool false,.slice Bx lx dx,.slice By ly dy] 33)=w6 at *;obtain⟨y0,y1,y2,f0,f1,f2⟩:=jG HQ6.out;have h7:=aV dH (B:=By) (cb:=dy) (ly:=ly) false w6 HX6.out (by decide +kernel) e_r Hlx.out;have H7:=zF h7;clear h7;go_wp2_with fail;refine H7.out.mono ?_;rintro e w7 ⟨A7,c7,rfl,r7,E7⟩;have h8:=vK _ A7 c7 _ w7 r7;rw[zd (by omega)]at h8;have H8:=zF h8;have R7:=zF r7;have HE7:=zF (jb HE6.out E7);have k0:((zu eR':Int)==0)=false:=by decide +kernel
  clear y0 y1 y2 f0 f1 f2 h8 r7 E7 H7 HX6 HQ6 HE6;go_wp2_with fail;refine H8.out.mono ?_;rintro e w8 ⟨rfl,rfl⟩;have h9:=dp dH w7 R7.out (zL HA3.out HE7.out) (zK gI.1 (by decide)) (zK zDp (by decide)) e_t rfl Hlk.out;have H9:=zF h9;clear h9 H8;go_wp2_with fail;refine H9.out.mono ?_;rintro e w9 ⟨A9,c9,rfl,r9,E9⟩;have h10:=add_l w9 (zL HZ3.out (HE7.out.trans E9)) r9 gI.2.2.2.2.2.2 gI.2.2.1 e_zt rfl rfl;have H10:=zF h10;have HE9:=zF (jb HE7.out E9);have R9:=zF (zL R7.out E9);clear h10 H9 r9 E9 HE7 R7;go_wp2_with fail;refine H10.out.mono ?_;rintro e w10 ⟨A10,c10,rfl,r10,E10⟩;have h11:=zBB dH w10 (zL HK3.out (HE9.out.trans E10)) gI.2.2.2.2.2.1 zD0 rfl;have H11:=zF h11;have HE10:=zF (jb HE9.out E10);have R10:=zF (And.intro r10 (zL R9.out E10));clear h11 H10 r10 E10 HE9 R9;go_wp2_with fail;refine H11.out.mono ?_;rintro e w11 ⟨A11,c11,rfl,r11,E11⟩;have h12:=dp dH w11 (zL R10.out.1 E11) r11 gI.2.2.2.2.1 gI.2.2.2.1 e_s2 rfl rfl;have H12:=zF h12;have HE11:=zF (jb HE10.out E11);have R11:=zF (zL R10.out.2 E11);clear h12 H11 r11 E11 HE10 R10;go_wp2_with fail;refine H12.out.mono ?_;rintro e w12 ⟨A12,c12,rfl,r12,E12⟩;have H13:=zF (zD9 w12 r12 rfl);have HE12:=zF (jb HE11.out E12);have R12:=zF (And.intro r12 (zL R11.out E12));have k1:((zu eS:Int)==0)=false:=by decide +kernel
  clear H12 r12 E12 HE11 R11;go_wp2_with fail;refine H13.out.mono ?_;rintro e w13 ⟨rfl,rfl⟩;clear H13;have h14:=fv dH w12;obtain⟨sz,hsz⟩:=eV kU.size;rw[hsz]at h14;obtain rfl:32=sz:=hsz;have H14:=zF h14;clear h14;go_wp2_with fail;refine H14.out.mono ?_;rintro e w14 ⟨rfl,E14⟩;have H15:=zF (me (n:=32) w14 (zL R12.out.2 E14) (by decide) gI.1 rfl);have HE14:=zF (jb HE12.out E14);have R14:=zF (zL R12.out.1 E14);clear E14 HE12 R12 H14;go_wp2_with fail;refine H15.out.mono ?_;rintro e w15 ⟨A15,rfl,r15,E15⟩;have H16:=zF (fv dH w15);have HE15:=zF (jb HE14.out E15);have R15:=zF (And.intro r15 (zL R14.out E15));clear r15 E15 HE14 R14 H15;go_wp2_with fail;refine H16.out.mono ?_;rintro e w16 ⟨rfl,E16⟩;have H17:=zF (me (n:=32) w16 (zL R15.out.2 E16) (by decide) gI.2.1 rfl);have HE16:=zF (jb HE15.out E16);have R16:=zF (RB.upE R15.out.1 E16);clear E16 HE15 R15 H16;go_wp2_with fail;refine H17.out.mono ?_;rintro e w17 ⟨A17,rfl,r17,E17⟩;have HE17:=zF (jb HE16.out E17);have R17:=zF (And.intro (RB.upE R16.out E17) r17);clear r17 E17 HE16 R16 H17;go_wp2_with (at_builtin;refine appF rfl (.tmp 76) (.tmp 77) rfl rfl rfl R17.out.1 (kV _ _) (by decide) R17.out.2 (kV _ _) (by decide) (by decide) ?_);intro A18 c18 w18 E18 r18;have HE18:=zF (jb HE17.out E18);have R18:=zF r18;clear E18 r18 HE17 R17;go_wp2
  first
   | rw[Exit.noGoto_ret]
   | skip
  go_ret2;exact⟨A18,c18,rfl,R18.out,HF3.out.trans (vq (b:=b) HE18.out HF3.out.size)⟩
end Go.Proofs.YtaemogcomplhiaaGreatDoor.Ec
namespace Go.Proofs.YtaemogcomplhiaaGreatDoor
open Go.RowKit
theorem zCy {c:Int}{C:Crv}(hC:IsC c C){p:Value}{bi:Bool}{x y:Nat}(w:World)(hp:APt w p bi x y) :
 Calls Tryz.prog 52 #[.int .i64 c,p] w fun e w'=>e=.returned (.bool (onQ C bi x y))∧Ext w w':=by
 obtain⟨p1,p2,rfl⟩:=fm hp
 obtain⟨W0,hW0⟩:=eW (w.alloc (.cells #[.bool bi,p1,p2] 33))
 obtain⟨q,hq⟩:=eV w.heap.size
 have hE0:Ext w W0:=by rw[hW0];exact zO _ _
 have h1:=zS w (.cells #[.bool bi,p1,p2] 33)
 rw[←hW0,hq]at h1
 have hp0:=zF (hp.ext hE0)
 have HE0:=zF hE0
 have HC:=zF hC
 obtain⟨res,hres⟩:=eV (onQ C bi x y)
 rw[hres]
 have Hres:=zF hres
 clear hp hE0 hC hres
 go_enter Tryz.func52,Tryz.ntmps52
 go_upto_region 1 with fail
 rw[←hW0]
 clear hW0 hq
 refine zh (by kernel_rfl) 5 [0,1,0,7,15] [] (fun j f X=>match j with
  | 0=>f 0=.int .i64 c
  | 1=>∃ k,f 1=.pointer (some ⟨k,0,none⟩)∧OfC C X k
  | 2=>f 2=.agg #[.bool bi,p1,p2]
  | 3=>f 3=.bool res
  | 4=>f 4=.bool res
  | _=>True) (by kernel_rfl) [(5,0),(6,1),(7,2),(8,3),(4,4)] (by kernel_rfl) ?_
 refine zJ 1 4 ?_
 refine qI 2 3 (fun f=>#[f 0]) (F':=64) (fun f X hX hR=>?_) ?_
 · have e0:f 0=.int .i64 c:=hR.out 0 rfl;simp only[e0];refine(pH HC.out X).mono ?_;rintro e w2 ⟨k,rfl,hk,hB⟩;exact⟨_,rfl,hB,fun Y hY=>⟨k,rfl,hk.ext hY⟩⟩
 refine lV0 3 2 h1 va ?_
 refine qI 4 1 (fun f=>#[f 1,f 2]) (F':=72) (fun f X hX hR=>?_) ?_
 · obtain⟨k1,e1,hk1⟩:∃ k,f 1=.pointer (some ⟨k,0,none⟩)∧OfC C X k:=hR.out 1 rfl;have e2:f 2=.agg #[.bool bi,p1,p2]:=hR.out 2 rfl;simp only[e1,e2];refine(mL hk1 HC.out.fine (hp0.out.ext hX)).mono ?_;rw[Hres.out];rintro e w2 ⟨rfl,hB⟩;exact⟨_,rfl,hB,fun _ _=>rfl⟩
 refine qN 5 0 3 ?_
 refine yF ⟨fun f X hX hR hal hap=>?_⟩
 obtain⟨k1,e1,hk1⟩:∃ k,f 1=.pointer (some ⟨k,0,none⟩)∧OfC C X k:=hR 1 (by decide)
 have e4:f 4=.bool res:=hR 4 (by decide)
 simp only[Par.vH,Act.put,ka,List.set_cons_succ,xw,e1,e4]
 clear hR hal hap e1 e4
 refine zH ?_
 go_wp2
 go_ret
 exact⟨rfl,HE0.out.trans hX⟩
end Go.Proofs.YtaemogcomplhiaaGreatDoor
namespace Go.Proofs.YtaemogcomplhiaaGreatDoor.Ec
open Go.RowKit Go.Shelf
attribute [local go_sem] Oper.semAt_some
def VY (C:Crv) (z r s x y:Nat):Prop:=∃(v u1 u2:Nat) (a b d:Nat×Nat),xE s (wA C)=(digs 18446744073709551616 v,true)∧zu v≤4000∧zu z≤4000∧zu d.1≤4000∧z*v%wA C=u1∧r*v%wA C=u2 ∧
 yY C false (val 18446744073709551616 C.xl) (val 18446744073709551616 C.yl) u1=some (some a)∧yY C false x y u2=some (some b)∧aA C false a.1 a.2 false b.1 b.2=some (some d)∧d.1%wA C=r
theorem zC2 {c:Int}{C:Crv}(hC:IsC c C){A:Option Addr}{ca x lx:Nat}{m:Bool}(w:World)(ha:RU w A ca (digs 18446744073709551616 x))(hlx:(digs 18446744073709551616 x).length=lx)(hm:kY C x=m) :
 Calls Tryz.prog 34 #[.int .i64 c,.slice A lx ca] w fun e w'=>e=.returned (.bool m)∧Ext w w':=by
 subst hlx hm
 have h:=uN (.inl hC) _ A ca _ w ha (fun _ h=>h)
 rw[zd (by omega)]at h
 exact h
theorem zAw {c:Int}{C:Crv}(hC:IsC c C){x:Nat}(h:kY C x=true):zu x≤4000:=by
 have h1:x<wA C:=by
  unfold kY at h;rw[ji]at h;exact ws h.2
 have h2:=(aM hC).2.2.2.2.1;by_cases h0:x=0
 · subst h0;rw[wW];omega
 · have b1:=(wB h0).1;have b2:=(wB (x:=wA C) (by omega)).2.1;have h3:2 ^(zu x-1)<2^zu (wA C):=jl b1 (Nat.lt_trans h1 b2);have:=(Nat.pow_lt_pow_iff_right (by omega:1<2)).1 h3;omega
theorem oX {c:Int}{C:Crv}(hC:IsC c C){p:Value}{x y z r s cap ch n nh:Nat}{P Q:Nat→Prop}{ad ah:Addr}{bs gs:List Nat}{V:Bool}(w:World)(hp:APt w p false x y)(ho:onQ C false x y=true)
 (hb:RB w P (some ad) cap bs) (hP:∀ q,P q→q<w.heap.size) (hn:bs.length=n) (hl:n=2*C.size) (hh:RB w Q (some ah) ch gs) (hQ:∀ q,Q q→q<w.heap.size) (hm:gs.length=nh) (hm0:0<nh) (hm1:nh≤C.size)
 (hz:vR gs=z) (hr:vR (bs.take C.size)=r) (hs:vR (bs.drop C.size)=s) (hV:((kY C r&&kY C s)=false∧V=false)∨(kY C r=true∧kY C s=true∧VY C z r s x y∧V=true)) :
 Calls Tryz.prog 24 #[.int .i64 c,p,.slice (some ah) nh ch,.slice (some ad) n cap] w fun e w'=>e=.returned (.bool V)∧Ext w w':=by
 obtain⟨p1,p2,rfl⟩:=fm hp
 obtain⟨t,ht⟩:=eV C.size
 have hF:=hC.fine
 have t1:32≤t:=by rw[←ht];exact hF.pos
 have t2:t≤48:=by rw[←ht];exact hF.small
 obtain⟨W0,hW0⟩:=eW (w.alloc (.cells #[.bool false,p1,p2] 33))
 obtain⟨q,hq⟩:=eV w.heap.size
 have hq0:=zS w (.cells #[.bool false,p1,p2] 33)
 have hE0:Ext w W0:=by rw[hW0];exact zO _ _
 rw[←hW0,hq]at hq0
 have HSz:=zF (fv hC W0)
 rw[ht]at HSz hl hr hs hm1
 obtain⟨l1,l2,l3⟩:=hb.cap
 rw[hn]at l1 l3
 have ht0:((t:Int)==0)=false:=by simp;omega
 have hn2:((n:Int) != 2*(t:Int))=false:=by simp;omega
 have w1:IntKind.i64.wrap (2*(t:Int))=2*t:=jW _ (by omega)
 have HC:=zF hC
 have HPt:=zF (hp.ext hE0)
 have HO:=zF ho
 have HB:=zF (hb.below hE0 hP)
 have HP:=zF (fun q hq=>zI (hP q hq) hE0.bsize)
 have HH:=zF (hh.below hE0 hQ)
 have HQ:=zF (fun q hq=>zI (hQ q hq) hE0.bsize)
 have Hn:=zF hn
 have Hl:=zF hl
 have Hm:=zF (And.intro hm (And.intro hm0 (And.intro hm1 ht)))
 have Hz:=zF hz
 have Hr:=zF hr
 have Hs:=zF hs
 have HV:=zF hV
 have HE0:=zF hE0
 have Hq:=zF hq
 clear hC hp ho hb hP hh hQ hn hl hm hm0 hm1 hz hr hs hV hE0 hq hF ht
 go_enter Tryz.func24,Tryz.ntmps24
 go_upto_region 1 with fail
 rw[←hW0,Hq.out]
 clear hW0
 go_upto_region 2 with(go_at_call 29;refine HSz.out.mono ?_;rintro e wa ⟨rfl,Ea⟩)
 have hqa:=Ea.at_ hq0
 obtain⟨z0,z1,z2,f0,f1,f2⟩:=jG hqa
 have hon:=zCy HC.out wa (HPt.out.ext Ea)
 rw[HO.out]at hon
 have Hon:=zF hon
 have HEa:=zF Ea
 clear hq0 Ea hon HSz
 go_upto_region 4 with(go_at_call 52;refine Hon.out.mono ?_;rintro e wb ⟨rfl,Eb⟩)
 have HEb:=zF (HEa.out.trans Eb)
 have hqb:=Eb.at_ hqa
 obtain⟨B1,hB1⟩:=eV (bs.take t)
 obtain⟨B2,hB2⟩:=eV (bs.drop t)
 have hlen1:B1.length=t:=by rw[←hB1,zo,Hn.out,Hl.out];omega
 have hlen2:B2.length=t:=by rw[←hB2,qn,Hn.out,Hl.out];omega
 have hr1:=zF (fun X (hX:Ext wb X)=>show RB X P (some ad) cap B1 by
  have:=(HB.out.below (HEb.out.trans hX) HP.out).takeS t
  rw[hB1]at this
  exact this)
 have hr2:=zF (fun X (hX:Ext wb X)=>show RB X P (some (ad.add t)) (cap-t) B2 by
  have:=(HB.out.below (HEb.out.trans hX) HP.out).mid (k:=t) (m:=bs.length) (c':=cap-t) (A':=some (ad.add t)) (by rw[Hn.out,Hl.out];omega) (zG _) (by rw[Hn.out];omega) (by unfold maxLen;omega) (fun _=>rfl)
  rw[zx (by rw[qn];omega),hB2]at this
  exact this)
 have HPX:=zF (fun X (hX:Ext wb X) (q:Nat) (hq:P q)=>zI (HP.out q hq) (HEb.out.trans hX).bsize)
 have L1:=zF hlen1
 have L2:=zF hlen2
 have N1:=zF (show vR B1=r from by rw[←hB1];exact Hr.out)
 have N2:=zF (show vR B2=s from by rw[←hB2];exact Hs.out)
 have c1i:(t:Int)≤cap:=by have:=Hl.out;omega
 have c4i:(t:Int)≤n:=by have:=Hl.out;omega
 have c5i:(0:Int)≤(t:Int):=by omega
 have c7:¬ cap=t:=by have:=Hl.out;omega
 have c1:t≤cap:=by have:=Hl.out;omega
 have c3:n-t=t:=by have:=Hl.out;omega
 have c4:t≤n:=by have:=Hl.out;omega
 clear hlen1 hlen2 hB1 hB2 hqa z0 z1 z2 f0 f1 f2 Hon HEa Eb
 refine zh (by kernel_rfl) 10 [0,0,3,7,0,0,48,127,255,511] [] (fun j f X=>match j with
  | 0=>f 0=.slice (some ad) n cap
  | 1=>f 1=.int .i64 (t:Int)
  | 2=>f 2=.slice (some ad) t cap
  | 3=>∃ A k,f 3=.slice A (digs 18446744073709551616 r).length k∧RU X A k (digs 18446744073709551616 r)
  | 4=>f 4=.slice (some ad) n cap
  | 5=>f 5=.int .i64 (t:Int)
  | 6=>f 6=.slice (some (ad.add t)) t (cap-t)
  | 7=>∃ A k,f 7=.slice A (digs 18446744073709551616 s).length k∧RU X A k (digs 18446744073709551616 s)
  | 8=>∃ A k,f 8=.slice A (digs 18446744073709551616 r).length k∧RU X A k (digs 18446744073709551616 r)
  | 9=>∃ A k,f 9=.slice A (digs 18446744073709551616 s).length k∧RU X A k (digs 18446744073709551616 s)
  | _=>True) (by kernel_rfl) [(40,0),(41,1),(42,2),(43,3),(44,4),(45,5),(46,6),(47,7),(10,8),(11,9)] (by kernel_rfl) ?_
 refine zJ 1 9 ?_
 refine zJ 2 8 ?_
 refine zt 3 7 [(40,0),(41,1),(44,4),(45,5),(46,6)] (fun f X hX hR K hK=>?_) ?_
 · have e0:f 0=_:=hR.out 0 rfl;have e1:f 1=_:=hR.out 1 rfl;simp only[yZ,e0,e1];refine⟨?_⟩;go_simp;exact qd hK (s:=by simp only[yZ,e0,e1])
 refine qI 4 6 (fun f=>#[f 2]) (F':=53) (fun f X hX hR=>?_) ?_
 · have e2:f 2=_:=hR.out 2 rfl;simp only[e2];have hf:=xf P _ _ B1 X (hr1.out X hX) (HPX.out X hX) (by rw[L1.out];omega);rw[L1.out,N1.out]at hf;refine hf.mono ?_;rintro e w2 ⟨A1,k1,rfl,hO,hB⟩;exact⟨(.slice A1 (digs 18446744073709551616 r).length k1),rfl,hB,fun Y hY=>⟨A1,k1,rfl,zL hO.ru hY⟩⟩
 refine zJ 5 5 ?_
 refine zJ 6 4 ?_
 refine zt 7 3 [(40,0),(41,1),(42,2),(43,3),(44,4),(45,5)] (fun f X hX hR K hK=>?_) ?_
 · have e4:f 4=_:=hR.out 4 rfl;have e5:f 5=_:=hR.out 5 rfl;simp only[yZ,e4,e5];refine⟨?_⟩;go_simp;exact qd hK (s:=by simp only[yZ,e4,e5])
 refine qI 8 2 (fun f=>#[f 6]) (F':=53) (fun f X hX hR=>?_) ?_
 · have e6:f 6=_:=hR.out 6 rfl;simp only[e6];have hf:=xf P _ _ B2 X (hr2.out X hX) (HPX.out X hX) (by rw[L2.out];omega);rw[L2.out,N2.out]at hf;refine hf.mono ?_;rintro e w2 ⟨A1,k1,rfl,hO,hB⟩;exact⟨(.slice A1 (digs 18446744073709551616 s).length k1),rfl,hB,fun Y hY=>⟨A1,k1,rfl,zL hO.ru hY⟩⟩
 refine zt 9 1 [(40,0),(41,1),(42,2),(43,3),(44,4),(45,5),(46,6),(47,7)] (fun f X hX hR K hK=>?_) ?_
 · obtain⟨A3,k3,(e3:f 3=_),r3⟩:=hR.out 3 rfl;simp only[yZ,e3];refine⟨?_⟩;go_simp;exact hK.out _ _ _ (by simp only[yZ,e3]) (zX _) trivial (fun Y hY=>⟨A3,k3,rfl,zL r3 hY⟩)
 refine zt 10 0 [(40,0),(41,1),(42,2),(43,3),(44,4),(45,5),(46,6),(47,7),(10,8)] (fun f X hX hR K hK=>?_) ?_
 · obtain⟨A7,k7,(e7:f 7=_),r7⟩:=hR.out 7 rfl;simp only[yZ,e7];refine⟨?_⟩;go_simp;exact hK.out _ _ _ (by simp only[yZ,e7]) (zX _) trivial (fun Y hY=>⟨A7,k7,rfl,zL r7 hY⟩)
 refine yF ⟨fun f X hX hR hal hap=>?_⟩
 obtain⟨A3,k3,(e3:f 3=_),r3⟩:=hR 3 (by decide)
 obtain⟨A7,k7,(e7:f 7=_),r7⟩:=hR 7 (by decide)
 obtain⟨A8,k8,(e8:f 8=_),r8⟩:=hR 8 (by decide)
 obtain⟨A9,k9,(e9:f 9=_),r9⟩:=hR 9 (by decide)
 simp only[yZ,e3,e7,e8,e9]
 clear hR hal hap e3 e7 e8 e9
 refine zH ?_
 have hqx:=hX.at_ hqb
 have HEX:=zF (HEb.out.trans hX)
 have R8:=zF r8
 have R9:=zF r9
 clear hqb hX r3 r7 r8 r9 c1i c4i c5i c7 c1 c3 c4 HEb hr1 hr2 L1 L2 N1 N2 HPX w1 ht0 hn2 l1 l2 l3
 obtain⟨m1,hm1⟩:=eV (kY C r)
 obtain⟨m2,hm2⟩:=eV (kY C s)
 have H5:=zF (zC2 HC.out X R8.out rfl hm1)
 have H6:=zF (fun Y (hY:Ext X Y)=>zC2 HC.out Y (zL R9.out hY) rfl hm2)
 have hv:=HV.out
 rw[hm1,hm2]at hv
 have Hm1:=zF hm1
 have Hm2:=zF hm2
 clear hm1 hm2 HV
 cases m1
 · obtain rfl:V=false:=by
    rcases hv with h|h
    · exact h.2
    · exact absurd h.1 (by decide)
   clear hv;go_wp2_with fail;refine H5.out.mono ?_;rintro e wc ⟨rfl,Ec⟩;have HEc:=zF (HE0.out.trans (HEX.out.trans Ec));clear Ec;go_wp2;go_ret;exact⟨rfl,HEc.out⟩
 cases m2
 · obtain rfl:V=false:=by
    rcases hv with h|h
    · exact h.2
    · exact absurd h.2.1 (by decide)
   clear hv;go_wp2_with fail;refine H5.out.mono ?_;rintro e wc ⟨rfl,Ec⟩;go_wp2_with fail;refine(H6.out _ Ec).mono ?_;rintro e wd ⟨rfl,Ed⟩;have HEd:=zF (HE0.out.trans (HEX.out.trans (Ec.trans Ed)));clear Ec Ed;go_wp2;go_ret;exact⟨rfl,HEd.out⟩
 obtain⟨rfl,hy⟩:V=true∧VY C z r s x y:=by
  rcases hv with h|h
  · exact absurd h.1 (by decide)
  · exact⟨h.2.2.2,h.2.2.1⟩
 obtain⟨v,u1,u2,a,b,d,yi,nv,nz,nd,y1,y2,g1,g2,g3,yd⟩:=hy
 have HY:=zF (And.intro yi (And.intro y1 (And.intro y2 (And.intro g1 (And.intro g2 (And.intro g3 yd))))))
 have HN:=zF (And.intro nv (And.intro nz nd))
 clear hv yi nv nz nd y1 y2 g1 g2 g3 yd
 go_wp2_with fail
 refine H5.out.mono ?_
 rintro e wc ⟨rfl,Ec⟩
 go_wp2_with fail
 refine(H6.out _ Ec).mono ?_
 rintro e wd ⟨rfl,Ed⟩
 have H7:=zF (zBB HC.out wd (zL R9.out (Ec.trans Ed)) (zAw HC.out Hm2.out) HY.out.1 rfl)
 have HEd:=zF (Ec.trans Ed)
 clear Ec Ed H5 H6
 go_wp2_with fail
 refine H7.out.mono ?_
 rintro e we ⟨A12,k12,rfl,r12,Ee⟩
 have hEe:=HEX.out.trans (HEd.out.trans Ee)
 have h8:=fR HC.out we (HH.out.below hEe HQ.out) (fun q hq=>zI (HQ.out q hq) hEe.bsize) Hm.out.1 (by rw[Hm.out.2.2.2];exact Hm.out.2.2.1) Hm.out.2.1
 rw[Hz.out]at h8
 have H8:=zF h8
 have HEe:=zF (HEd.out.trans Ee)
 have R12:=zF r12
 clear h8 hEe Ee r12 H7 HEd
 go_wp2_with fail
 refine H8.out.mono ?_
 rintro e w1 ⟨A1,k1,rfl,o1,E1⟩
 have H1:=zF (dp HC.out w1 o1.ru (zL R12.out E1) HN.out.2.1 HN.out.1 HY.out.2.1 rfl rfl)
 have HE1:=zF (HEe.out.trans E1)
 have R1:=zF (zL R12.out E1)
 clear o1 E1 H8 HEe R12
 go_wp2_with fail
 refine H1.out.mono ?_
 rintro e w2 ⟨A2,k2,rfl,r2,E2⟩
 have HE2:=zF (HE1.out.trans E2)
 have R2:=zF (And.intro r2 (zL R1.out E2))
 clear r2 E2 HE1 R1 H1
 go_wp2_with fail
 refine(pm HC.out w2).mono ?_
 rintro e w3 ⟨Ax,cx,Ay,cy,rfl,hx,hy,E3⟩
 have h3:=oA HC.out w3 (show APt w3 (.agg #[.bool false,.slice Ax C.xl.length cx,.slice Ay C.yl.length cy]) false (val 18446744073709551616 C.xl) (val 18446744073709551616 C.yl)from⟨Ax,Ay,cx,cy,_,_,rfl,hx,hy,rfl,rfl⟩) (zL R2.out.1 E3) (zd (by omega) _)
 rw[HY.out.2.2.2.1]at h3
 have H3:=zF h3
 have HE3:=zF (HE2.out.trans E3)
 have R3:=zF (zL R2.out.2 E3)
 clear hx hy h3 E3 HE2 R2
 go_wp2_with fail
 refine H3.out.mono ?_
 rintro e w4 ⟨o,rfl,hv4,E4⟩
 have hv4:PtV w4 w3.heap.size o (some a):=hv4
 obtain⟨Bx,dx,By,dy,rfl,ox,oy⟩:=hv4
 have hq5:=zS w4 (.cells #[.bool false,.slice Bx (digs 18446744073709551616 a.1).length dx,.slice By (digs 18446744073709551616 a.2).length dy] 33)
 have hA5:=zO w4 (.cells #[.bool false,.slice Bx (digs 18446744073709551616 a.1).length dx,.slice By (digs 18446744073709551616 a.2).length dy] 33)
 obtain⟨ga,hga⟩:=eV w4.heap.size
 rw[hga]at hq5
 have Ra:=zF (And.intro (zL ox.ru hA5) (zL oy.ru hA5))
 have HE5:=zF (HEX.out.trans (HE3.out.trans (E4.trans hA5)))
 have R5:=zF (zL R3.out (E4.trans hA5))
 have R8:=zF (zL R8.out (HE3.out.trans (E4.trans hA5)))
 have hqp:=(HE3.out.trans (E4.trans hA5)).at_ hqx
 have Hg:=zF hga
 clear ox oy hga hA5 E4 HE3 H3 R3 hqx HEX R9
 go_upto_region 9 with fail
 rw[Hg.out]
 generalize w4.alloc (.cells #[.bool false,.slice Bx (digs 18446744073709551616 a.1).length dx,.slice By (digs 18446744073709551616 a.2).length dy] 33)=w5 at *
 have HP5:=zF (HPt.out.ext HE5.out)
 have HL:=zF (And.intro (zAw HC.out Hm1.out) HN.out.1)
 refine Par.ot (by kernel_rfl) 11 9 (.bool true) [0,0,0,0,14,0,63,127,255,255,0,1535,4095] [10] (fun j f X=>match j with
  | 0=>f 0=.int .i64 c
  | 1=>f 1=.int .i64 c
  | 2=>f 2=.slice A8 (digs 18446744073709551616 r).length k8
  | 3=>f 3=.slice A12 (digs 18446744073709551616 v).length k12
  | 4=>∃ A k,f 4=.slice A (digs 18446744073709551616 u2).length k∧RU X A k (digs 18446744073709551616 u2)
  | 5=>f 5=.agg #[.bool false,p1,p2]
  | 6=>∃ A k B m,f 6=.tuple #[.agg #[.bool false,.slice A (digs 18446744073709551616 b.1).length k,.slice B (digs 18446744073709551616 b.2).length m],.bool true]∧RU X A k (digs 18446744073709551616 b.1)∧RU X B m (digs 18446744073709551616 b.2)
  | 7=>∃ A k B m,f 7=.tuple #[.agg #[.bool false,.slice A (digs 18446744073709551616 b.1).length k,.slice B (digs 18446744073709551616 b.2).length m],.bool true]∧RU X A k (digs 18446744073709551616 b.1)∧RU X B m (digs 18446744073709551616 b.2)
  | 8=>∃ A k B m,f 8=.agg #[.bool false,.slice A (digs 18446744073709551616 b.1).length k,.slice B (digs 18446744073709551616 b.2).length m]∧RU X A k (digs 18446744073709551616 b.1)∧RU X B m (digs 18446744073709551616 b.2)
  | 9=>f 9=.bool true
  | 10=>∃ b,f 10=.pointer (some ⟨b,0,none⟩)∧w5.heap.size≤b∧X.heap[b]?=some (.cells #[.bool false,.slice none 0 0,.slice none 0 0] 33 (0,0))
  | _=>True) (fun f Y=>∃(g:Nat) (A:Option Addr) (k:Nat) (B:Option Addr) (m:Nat),f 10=.pointer (some ⟨g,0,none⟩)∧Ext w5 Y∧Y.heap[g]?=some (.cells #[.bool false,.slice A (digs 18446744073709551616 b.1).length k,.slice B (digs 18446744073709551616 b.2).length m] 33 (0,0))∧RU Y A k (digs 18446744073709551616 b.1)∧RU Y B m (digs 18446744073709551616 b.2)) (by kernel_rfl) (by kernel_rfl) (fun _ _=>Iff.rfl) [(75,0),(76,1),(77,2),(78,3),(79,4),(80,5),(81,6),(74,7),(82,8),(83,9),(15,10)] (by kernel_rfl) (by kernel_rfl) ?_
 refine vB 1 10 rfl rfl (Par.yg.step rfl (vh [(76,1),(77,2),(78,3),(79,4),(80,5),(15,10)] (by kernel_rfl) (fun f X hX hR K hK=>?_))) ?_
 · simp only[yZ];refine⟨?_⟩;go_simp;exact qd hK (s:=by simp only[yZ])
 refine vB 2 9 rfl rfl (Par.yg.step rfl (vh [(75,0),(77,2),(78,3),(80,5),(15,10)] (by kernel_rfl) (fun f X hX hR K hK=>?_))) ?_
 · simp only[yZ];refine⟨?_⟩;go_simp;exact qd hK (s:=by simp only[yZ])
 refine vB 3 8 rfl rfl (Par.yg.step rfl (vh [(75,0),(76,1),(78,3),(80,5),(15,10)] (by kernel_rfl) (fun f X hX hR K hK=>?_))) ?_
 · simp only[yZ];refine⟨?_⟩;go_simp;exact qd hK (s:=by simp only[yZ])
 refine vB 4 7 rfl rfl (Par.yg.step rfl (vh [(75,0),(76,1),(77,2),(80,5),(15,10)] (by kernel_rfl) (fun f X hX hR K hK=>?_))) ?_
 · simp only[yZ];refine⟨?_⟩;go_simp;exact qd hK (s:=by simp only[yZ])
 refine vB 5 6 rfl rfl (Par.yg.step rfl (vh [(75,0),(76,1),(77,2),(78,3),(80,5),(15,10)] (by kernel_rfl) (fun f X hX hR K hK=>?_))) ?_
 · have e1:f 1=_:=hR.out 1 rfl;have e2:f 2=_:=hR.out 2 rfl;have e3:f 3=_:=hR.out 3 rfl;simp only[yZ,e1,e2,e3];refine⟨?_⟩;go_simp;refine(dp HC.out X (zL R8.out hX) (zL R5.out hX) HL.out.1 HL.out.2 HY.out.2.2.1 rfl rfl).mono ?_;rintro e w2 ⟨A,c,rfl,h,hB⟩;exact hK.out _ (.slice A (digs 18446744073709551616 u2).length c) _ (by simp only[yZ,e1,e2,e3]) hB trivial (fun Y hY=>⟨A,c,rfl,zL h hY⟩)
 refine vB 6 5 rfl rfl (Par.yg.step rfl (vh [(75,0),(76,1),(77,2),(78,3),(79,4),(15,10)] (by kernel_rfl) (fun f X hX hR K hK=>?_))) ?_
 · simp only[yZ];refine⟨zU (by kernel_rfl) (kB (v:=.agg #[.bool false,p1,p2]) (t:=33) 33 (.tmp 5) rfl rfl (hX.at_ hqp) Tryz.underlying33 rfl va rfl ?_)⟩;exact qd hK (s:=by simp only[yZ])
 refine vB 7 4 rfl rfl (Par.yg.step rfl (vh [(75,0),(76,1),(77,2),(78,3),(79,4),(80,5),(15,10)] (by kernel_rfl) (fun f X hX hR K hK=>?_))) ?_
 · have e0:f 0=_:=hR.out 0 rfl;obtain⟨A4,c4,(e4:f 4=_),h4⟩:=hR.out 4 rfl;have e5:f 5=_:=hR.out 5 rfl;simp only[yZ,e0,e4,e5];refine⟨?_⟩;go_simp;have hm:=oA HC.out X (HP5.out.ext hX) h4 (zd (by omega) _);rw[HY.out.2.2.2.2.1,show(some (some b)).isSome=true from rfl,show(some (some b)).join=some b from rfl]at hm;refine hm.mono ?_;rintro e w2 ⟨o,rfl,⟨A,k,B,m,rfl,o1,o2⟩,hB⟩;exact hK.out _ (.tuple #[.agg #[.bool false,.slice A (digs 18446744073709551616 b.1).length k,.slice B (digs 18446744073709551616 b.2).length m],.bool true]) _ (by simp only[yZ,e0,e4,e5]) hB trivial (fun Y hY=>⟨A,k,B,m,rfl,zL o1.ru hY,zL o2.ru hY⟩)
 refine vB 8 3 rfl rfl (Par.yg.step rfl (vh [(75,0),(76,1),(77,2),(78,3),(79,4),(80,5),(81,6),(15,10)] (by kernel_rfl) (fun f X hX hR K hK=>?_))) ?_
 · obtain⟨A6,c6,B6,d6,(e6:f 6=_),h6,i6⟩:=hR.out 6 rfl;simp only[yZ,e6];refine⟨?_⟩;go_simp;exact hK.out _ _ _ (by simp only[yZ,e6]) (zX _) trivial (fun Y hY=>⟨A6,c6,B6,d6,rfl,zL h6 hY,zL i6 hY⟩)
 refine vB 9 2 rfl rfl (Par.yg.step rfl (vh [(75,0),(76,1),(77,2),(78,3),(79,4),(80,5),(81,6),(74,7),(83,9),(15,10)] (by kernel_rfl) (fun f X hX hR K hK=>?_))) ?_
 · obtain⟨A7,c7,B7,d7,(e7:f 7=_),h7,i7⟩:=hR.out 7 rfl;simp only[yZ,e7];refine⟨?_⟩;go_simp;exact hK.out _ _ _ (by simp only[yZ,e7]) (zX _) trivial (fun Y hY=>⟨A7,c7,B7,d7,rfl,zL h7 hY,zL i7 hY⟩)
 refine vB 10 1 rfl rfl (Par.yg.pure (Par.PuO.intro [(75,0),(76,1),(77,2),(78,3),(79,4),(80,5),(81,6),(74,7),(82,8),(15,10)] (by kernel_rfl) (fun f X X1 hX hR K hK=>?_))) ?_
 · obtain⟨A7,c7,B7,d7,(e7:f 7=_),h7,i7⟩:=hR.out 7 rfl;simp only[yZ,e7];refine⟨?_⟩;go_simp;exact Par.zDS hK (by simp only[yZ,e7])
 refine vB 11 0 rfl rfl (Par.yg.step rfl (vh [(75,0),(76,1),(77,2),(78,3),(79,4),(80,5),(81,6),(74,7),(82,8),(83,9)] (by kernel_rfl) (fun f X hX hR K hK=>?_))) ?_
 · simp only[yZ];refine⟨?_⟩;go_simp;exact hK.out _ _ _ (by simp only[yZ]) (zO _ _) ⟨rfl,by simp⟩ (fun Y hY=>⟨_,rfl,hX.bsize,hY.at_ (zS _ _)⟩)
 refine Par.qT.fin (Par.zCt.intro (fun f X hX hR hal K hK=>?_) (fun f Ym hfu hS=>?_))
 · obtain⟨A8,c8,B8,d8,(e8:f 8=_),h8,i8⟩:=hR.out 8 rfl;obtain⟨bm10,(e10:f 10=_),lm10,hm10⟩:=hR.out 10 rfl;simp only[yZ,e8,e10];refine⟨zU (by kernel_rfl) (jJ (cs':=#[.bool false,.slice A8 (digs 18446744073709551616 b.1).length c8,.slice B8 (digs 18446744073709551616 b.2).length d8]) (t:=33) 33 (.tmp 15) (.tmp 82) rfl rfl rfl rfl hm10 va rfl (yT _ _ _ _ _ _ _) (fun Y h1 h2 h3=>?_))⟩;refine Par.zBp hK (by simp only[yZ,e8,e10]) ⟨_,A8,c8,B8,d8,e10,h2.ext hX lm10,h1,h8.offJ h2 hm10 (by kernel_rfl),i8.offJ h2 hm10 (by kernel_rfl)⟩
 obtain⟨gb,Ab,kb,Bb,mb,e10,hEm,hqm,ham,hbm⟩:∃(g:Nat) (A:Option Addr) (k:Nat) (B:Option Addr) (m:Nat),f 10=.pointer (some ⟨g,0,none⟩)∧Ext w5 Ym∧Ym.heap[g]?=some (.cells #[.bool false,.slice A (digs 18446744073709551616 b.1).length k,.slice B (digs 18446744073709551616 b.2).length m] 33 (0,0))∧RU Ym A k (digs 18446744073709551616 b.1)∧RU Ym B m (digs 18446744073709551616 b.2):=hS
 simp only[yZ,hfu,e10]
 clear hfu e10
 refine zP (fun K hK=>⟨zU (by kernel_rfl) ?_⟩)
 go_simp
 refine hK.out _ _ ?_
 refine zH ?_
 have hqa:=hEm.at_ hq5
 have h10:=add_c HC.out Ym (show APt Ym (.agg #[.bool false,.slice Bx (digs 18446744073709551616 a.1).length dx,.slice By (digs 18446744073709551616 a.2).length dy]) false a.1 a.2 from⟨Bx,By,dx,dy,_,_,rfl,zL Ra.out.1 hEm,zL Ra.out.2 hEm,zd (by omega) _,zd (by omega) _⟩) (show APt Ym (.agg #[.bool false,.slice Ab (digs 18446744073709551616 b.1).length kb,.slice Bb (digs 18446744073709551616 b.2).length mb]) false b.1 b.2 from⟨Ab,Bb,kb,mb,_,_,rfl,ham,hbm,zd (by omega) _,zd (by omega) _⟩)
 rw[HY.out.2.2.2.2.2.1]at h10
 have H10:=zF h10
 have HE6:=zF (HE5.out.trans hEm)
 have R6:=zF (zL R8.out hEm)
 obtain⟨y0,y1,y2,q0,q1,q2⟩:=jG hqa
 obtain⟨z0,z1,z2,f0,f1,f2⟩:=jG hqm
 clear hqa hqm hq5 hqp h10 ham hbm hEm HE5 R8 R5 Ra HP5 HL
 go_wp2_with fail
 refine H10.out.mono ?_
 rintro e w7 ⟨o,rfl,hv7,E7⟩
 have hv7:PtV w7 Ym.heap.size o (some d):=hv7
 obtain⟨Dx,ex,Dy,ey,rfl,ox,oy⟩:=hv7
 obtain⟨lx,hlx⟩:=eV ((digs 18446744073709551616 d.1).length)
 obtain⟨ly,hly⟩:=eV ((digs 18446744073709551616 d.2).length)
 rw[hlx,hly]
 have hq8:=zS w7 (.cells #[.bool false,.slice Dx lx ex,.slice Dy ly ey] 33)
 have hA8:=zO w7 (.cells #[.bool false,.slice Dx lx ex,.slice Dy ly ey] 33)
 obtain⟨gd,hgd⟩:=eV w7.heap.size
 rw[hgd]at hq8
 have RD:=zF (zL ox.ru hA8)
 have HE8:=zF (HE6.out.trans (E7.trans hA8))
 have R8:=zF (zL R6.out (E7.trans hA8))
 have Hgd:=zF hgd
 have Hlx:=zF hlx
 clear ox oy hlx hly hgd hA8 E7 HE6 H10 R6 y0 y1 y2 q0 q1 q2 z0 z1 z2 f0 f1 f2
 go_upto_region 11 with fail
 rw[Hgd.out]
 generalize w7.alloc (.cells #[.bool false,.slice Dx lx ex,.slice Dy ly ey] 33)=w8 at *
 have H11:=zF (aV HC.out (B:=Dy) (cb:=ey) (ly:=ly) false w8 RD.out HN.out.2.2 HY.out.2.2.2.2.2.2 Hlx.out)
 obtain⟨z0,z1,z2,f0,f1,f2⟩:=jG hq8
 clear hq8 RD
 go_wp2_with fail
 refine H11.out.mono ?_
 rintro e w9 ⟨A9,k9,rfl,r9,E9⟩
 have h12:=xH _ _ A9 A8 k9 k8 _ _ w9 r9 (zL R8.out E9)
 rw[zd (by omega),cF]at h12
 have H12:=zF h12
 have HE9:=zF (HE8.out.trans E9)
 clear r9 h12 E9 HE8 H11 R8
 go_wp2_with fail
 refine H12.out.mono ?_
 rintro e w10 ⟨rfl,nn,rfl⟩
 go_wp2
 go_ret
 exact⟨rfl,HE0.out.trans (HE9.out.trans (kW _ _))⟩
end Go.Proofs.YtaemogcomplhiaaGreatDoor.Ec
namespace Go.Proofs.YtaemogcomplhiaaGreatDoor.Ec
open Go.RowKit Go.Shelf
open Sha
attribute [local go_sem] Oper.semAt_some
theorem rP {w X:World}{g:Nat}{b:Bool}{A1 A2:Option Addr}{n1 c1 n2 c2:Nat}{T:TypeId}{P:Nat→Prop}{A:Option Addr}{c:Nat}{d:List Nat}(h:RB w P A c d)(hP:∀ k,P k→k<w.heap.size)(hg:w.heap[g]?=some (.cells #[.bool b,.slice A1 n1 c1,.slice A2 n2 c2] T (0,0)))(hj:jQ g w X):RB X P A c d :=
 h.by_ fun q u hq hc=>(qH (hj.block _ (hP _ hq) (fun e=>by
  unfold World.cell? at hc
  rw[e,hg]at hc
  simp only at hc
  split at hc
  · cases hc
  · have hm:=List.mem_of_getElem? (l:=[Value.bool b,.slice A1 n1 c1,.slice A2 n2 c2]) (i:=q.off) (by simpa using hc)
    simp at hm))).trans hc
theorem zCV {w X:World}{g:Nat}{b:Bool}{A1 A2:Option Addr}{n1 c1 n2 c2:Nat}{T:TypeId}{e:Nat}{k v:List Nat}{n:Int}(h:DR w e k v n)(hg:w.heap[g]?=some (.cells #[.bool b,.slice A1 n1 c1,.slice A2 n2 c2] T (0,0)))(hj:jQ g w X)(hn:e≠g):DR X e k v n:=by
 obtain⟨Ak,ck,Av,cv,h1,h2,h3,h4,h5⟩:=h;exact⟨Ak,ck,Av,cv,(hj.block e (qr h1) hn).trans h1,(rP h2 (fun _ h=>h) hg hj).mono (fun _ h=>zI h hj.size),(rP h3 (fun _ h=>h) hg hj).mono (fun _ h=>zI h hj.size),h4,h5⟩
theorem zDT {w:World}{base:Nat}{v:Value}{S:Option (Nat×Nat)}(h:PtV w base v S):∃ A c B d,v=.agg #[.bool S.isNone,.slice A (digs 18446744073709551616 (S.elim 0 (·.1))).length c,.slice B (digs 18446744073709551616 (S.elim 0 (·.2))).length d]∧OB w base A c (digs 18446744073709551616 (S.elim 0 (·.1)))∧OB w base B d (digs 18446744073709551616 (S.elim 0 (·.2))):=by
 cases S with
 | none =>
   obtain rfl:v=gL:=h;have e:(digs 18446744073709551616 (Option.elim (none:Option (Nat×Nat)) 0 (·.1)))=[]:=by rw[show Option.elim (none:Option (Nat×Nat)) 0 (·.1)=0 from rfl,qV]
   have e':(digs 18446744073709551616 (Option.elim (none:Option (Nat×Nat)) 0 (·.2)))=[]:=by rw[show Option.elim (none:Option (Nat×Nat)) 0 (·.2)=0 from rfl,qV]
   exact⟨none,0,none,0,by rw[e,e'];rfl,by rw[e];exact OB.nil_ w base,by rw[e'];exact OB.nil_ w base⟩
 | some p =>
   obtain⟨A,c,B,d,rfl,o1,o2⟩:=h;exact⟨A,c,B,d,rfl,o1,o2⟩
theorem sB {fn:Func}{R:Ending→World→Prop}{a:Act}{W:World}{u p t:Tmp}{g:Nat}{ty:TypeId}{fr:Nat×Nat}{x0 x1 x2 v v':Value}(hr:fn.results=#[.tmp u,.cell p 33,.tmp t])(hp:a.tmps.getD p undef=.pointer (some ⟨g,0,none⟩))(hu:a.tmps.getD u undef=v)(ht:a.tmps.getD t undef=v')(hd:a.defers=[])
 (hg:W.heap[g]?=some (.cells #[x0,x1,x2] ty fr)) (hR:R (.returned (.tuple #[v,.agg #[x0,x1,x2],v'])) W):bodyPost Tryz.prog fn R .ret a W:=by
 refine wI (v:=.tuple #[v,.agg #[x0,x1,x2],v']) ?_ hd hR
 have hp':a.tmps[p]?.getD undef=.pointer (some ⟨g,0,none⟩):=by simpa using hp
 have hu':a.tmps[u]?.getD undef=v:=by simpa using hu
 have ht':a.tmps[t]?.getD undef=v':=by simpa using ht
 simp[results,hr,hp',hu',ht',asAddr,run_loadVar_row W g ty 33 #[x0,x1,x2] fr _ hg Tryz.underlying33 rfl va,Result.andThen]
theorem gen_o {c:Int}{C:Crv}(hC:IsC c C){b x:Nat}{k v:List Nat}{num:Int}{S:Option (Nat×Nat)}(w:World)(hk:KW w)(hd:DR w b k v num)(hn:0≤num)(hn2:num<1000000000)(hx:um C k v=x)(hm:yY C false (val 18446744073709551616 C.xl) (val 18446744073709551616 C.yl) x=some S) :
 Calls Tryz.prog 10 #[.int .i64 c,.pointer (some ⟨b,0,none⟩)] w fun e w'=>∃ A1 c1 A2 c2 A3 c3,e=.returned (.tuple #[.slice A1 (digs 18446744073709551616 x).length c1,.agg #[.bool S.isNone,.slice A2 (digs 18446744073709551616 (S.elim 0 (·.1))).length c2,.slice A3 (digs 18446744073709551616 (S.elim 0 (·.2))).length c3],.int .i64 0]) ∧
  OB w' w.heap.size A1 c1 (digs 18446744073709551616 x)∧OB w' w.heap.size A2 c2 (digs 18446744073709551616 (S.elim 0 (·.1)))∧OB w' w.heap.size A3 c3 (digs 18446744073709551616 (S.elim 0 (·.2)))∧DR w' b (cq C k v).1 (cq C k v).2 (num+1)∧Fr b w.heap.size w w':=by
 obtain⟨t,ht⟩:=eV C.size
 have hF:=hC.fine
 have t1:32≤t:=by rw[←ht];exact hF.pos
 have ht0:((t:Int)==0)=false:=by simp;omega
 obtain⟨W0,hW0⟩:=eW (w.alloc (.cells #[.bool false,.slice none 0 0,.slice none 0 0] 33))
 have hr:=zS w (.cells #[.bool false,.slice none 0 0,.slice none 0 0] 33)
 have hE0:=zO w (.cells #[.bool false,.slice none 0 0,.slice none 0 0] 33)
 rw[←hW0]at hr hE0
 obtain⟨q,hq⟩:=eV w.heap.size
 rw[hq]at hr
 have HSz:=zF (fv hC W0)
 rw[ht]at HSz
 have hmay:=sr hC k v
 rw[hx]at hmay
 have hpub:nS C x=some S:=by unfold nS;rw[hmay];exact hm
 have HC:=zF hC
 have HK:=zF (hk.ext hE0)
 have HD:=zF (hd.ext hE0)
 have HB:=zF hd.lt
 have Hn:=zF (And.intro hn hn2)
 have Hx:=zF hx
 have HPb:=zF hpub
 have HE0:=zF hE0
 have Hq:=zF hq
 clear hC hk hd hn hn2 hx hm hmay hpub hE0 hq hF ht
 obtain⟨sb,hsb⟩:=eV S.isNone
 obtain⟨d1,hd1⟩:=eV (S.elim 0 (·.1))
 obtain⟨d2,hd2⟩:=eV (S.elim 0 (·.2))
 rw[hsb,hd1,hd2]
 have HSd:=zF (And.intro hsb (And.intro hd1 hd2))
 clear hsb hd1 hd2
 go_enter Tryz.func10,Tryz.ntmps10
 go_upto_region 1 with fail
 rw[←hW0,Hq.out]
 clear hW0
 go_upto_region 3 with(go_at_call 29;refine HSz.out.mono ?_;rintro e wa ⟨rfl,Ea⟩)
 have h3:=nU HC.out wa (HK.out.ext Ea) (HD.out.ext Ea) Hn.out.1 Hn.out.2
 rw[Hx.out]at h3
 have H3:=zF h3
 have HEa:=zF (HE0.out.trans Ea)
 have hra:=Ea.at_ hr
 clear h3 hr HSz Ea
 go_upto_region 4 with(go_at_call 31;refine H3.out.mono ?_;rintro e w3 ⟨A3,c3,rfl,o3,d3,f3⟩)
 have hr3:w3.heap[q]?=some (.cells #[.bool false,.slice none 0 0,.slice none 0 0] 33 (0,0)):=by
  rw[f3.block q (qr hra) (by have:=HB.out;have:=Hq.out;omega)];exact hra
 have h4:=pA (.inl HC.out) _ A3 c3 (digs 18446744073709551616 x) w3 o3.ru (fun _ h=>h)
 rw[zd (by omega),HPb.out]at h4
 have H4:=zF h4
 have O3:=zF o3
 have D3:=zF d3
 have F3:=zF ((vq (b:=b) HEa.out (zG _)).trans (f3.mono HEa.out.bsize))
 clear h4 o3 d3 f3 hra H3
 go_wp2_with fail
 refine H4.out.mono ?_
 rintro e w4 ⟨o,rfl,hv4,E4⟩
 obtain⟨Bx,dx,By,dy,rfl,ox,oy⟩:=zDT (S:=S) hv4
 rw[HSd.out.2.1]at ox
 rw[HSd.out.2.2]at oy
 rw[HSd.out.1,HSd.out.2.1,HSd.out.2.2]
 have hq5:=zS w4 (.cells #[.bool sb,.slice Bx (digs 18446744073709551616 d1).length dx,.slice By (digs 18446744073709551616 d2).length dy] 33)
 have hA5:=zO w4 (.cells #[.bool sb,.slice Bx (digs 18446744073709551616 d1).length dx,.slice By (digs 18446744073709551616 d2).length dy] 33)
 obtain⟨ga,hga⟩:=eV w4.heap.size
 rw[hga]at hq5
 have Ra:=zF (And.intro ((ox.below hA5 (zG _)).mono F3.out.size) ((oy.below hA5 (zG _)).mono F3.out.size))
 have HE5:=zF (E4.trans hA5)
 have Hg:=zF hga
 have hr5:=(E4.trans hA5).at_ hr3
 clear ox oy hga hA5 E4 H4 hr3
 go_upto_region 5 with fail
 rw[Hg.out]
 generalize w4.alloc (.cells #[.bool sb,.slice Bx (digs 18446744073709551616 d1).length dx,.slice By (digs 18446744073709551616 d2).length dy] 33)=w5 at *
 obtain⟨y0,y1,y2,q0,q1,q2⟩:=jG hq5
 obtain⟨z0,z1,z2,f0,f1,f2⟩:=jG hr5
 have Hr5:=zF hr5
 clear hr5 hq5
 go_region
 go_wp2
 generalize hY:((w5.setCell ⟨q,0,none⟩ (.bool sb)).setCell ⟨q,1,none⟩ (.slice Bx (digs 18446744073709551616 d1).length dx)).setCell ⟨q,2,none⟩ (.slice By (digs 18446744073709551616 d2).length dy)=Y
 have hqY:=xW Hr5.out (.bool sb) (.slice Bx (digs 18446744073709551616 d1).length dx) (.slice By (digs 18446744073709551616 d2).length dy)
 have hj:=mF w5 q (.bool sb) (.slice Bx (digs 18446744073709551616 d1).length dx) (.slice By (digs 18446744073709551616 d2).length dy)
 rw[hY]at hqY hj
 try rw[Exit.noGoto_ret]
 have he:b≠q:=by have:=HB.out;have:=Hq.out;omega
 have hqw:w.heap.size≤q:=by rw[Hq.out];exact zG _
 have hda:=zCV (DR.ext D3.out HE5.out) Hr5.out hj he
 have hka:=HE5.out
 have HF:=zF (F3.out.trans ((vq (b:=b) HE5.out F3.out.size).trans (Fr.justTo (b:=b) hj hqw (zK F3.out.size HE5.out.bsize))))
 have o5:=(O3.out.below HE5.out (zG _)).just hj Hr5.out (by decide)
 have r1:=Ra.out.1.just hj Hr5.out (by decide)
 have r2:=Ra.out.2.just hj Hr5.out (by decide)
 first
  | exact sB rfl rfl rfl rfl rfl hqY ⟨A3,c3,Bx,dx,By,dy,rfl,o5.mono HEa.out.bsize,r1,r2,hda,HF.out⟩
  | exact sB rfl rfl rfl rfl rfl (show Y.drew.heap[q]?=_ from hqY) ⟨A3,c3,Bx,dx,By,dy,rfl,(o5.below (jC (zl _ Y) 1) (zG _)).mono HEa.out.bsize,r1.below (jC (zl _ Y) 1) (zG _),r2.below (jC (zl _ Y) 1) (zG _),hda.ext (jC (zl _ Y) 1),HF.out.trans (vq (jC (zl _ Y) 1) HF.out.size)⟩
theorem zCS {c:Int}{C:Crv}(hC:IsC c C){b x:Nat}{k v:List Nat}{num:Int}{d:Nat×Nat}(w:World)(hk:KW w)(hd:DR w b k v num)(hn:0≤num)(hn2:num<1000000000)(hx:um C k v=x)(hm:yY C false (val 18446744073709551616 C.xl) (val 18446744073709551616 C.yl) x=some (some d)) :
 Calls Tryz.prog 10 #[.int .i64 c,.pointer (some ⟨b,0,none⟩)] w fun e w'=>∃ A1 c1 A2 c2 A3 c3,e=.returned (.tuple #[.slice A1 (digs 18446744073709551616 x).length c1,.agg #[.bool false,.slice A2 (digs 18446744073709551616 d.1).length c2,.slice A3 (digs 18446744073709551616 d.2).length c3],.int .i64 0]) ∧
  OB w' w.heap.size A1 c1 (digs 18446744073709551616 x)∧OB w' w.heap.size A2 c2 (digs 18446744073709551616 d.1)∧OB w' w.heap.size A3 c3 (digs 18446744073709551616 d.2)∧DR w' b (cq C k v).1 (cq C k v).2 (num+1)∧Fr b w.heap.size w w':=gen_o hC w hk hd hn hn2 hx hm
theorem litm (w:World)(bs:List Nat)(hb:∀ x∈bs,x<256)(hl:bs.length≤1000000){cs:Array Value}(hc:(bys bs).toArray=cs)(f:Nat×Nat) :
 RB (w.alloc (.cells cs 5 f)) (fun g=>g=w.heap.size) (some ⟨w.heap.size,0,none⟩) bs.length bs:=by
 subst hc
 refine⟨⟨zG _,by unfold maxLen;omega,by simp[bys],fun _=>⟨_,rfl,rfl,fun j u hu=>?_⟩⟩,hb,by omega⟩
 rw[yx,World.cell?,zS]
 simpa using hu
theorem cvm (w:World)(cs:Array Value)(n c:Nat):(convert 22 22 (.slice (some ⟨w.heap.size,0,none⟩) n c)).run Tryz.prog (w.alloc (.cells cs 5))=.ok (.slice (some ⟨w.heap.size,0,none⟩) n c) (w.alloc (.cells cs 5 (cs.size,cs.size+1))) :=
 Lib.run_convert_bytes_const (P:=Tryz.prog) w 22 5 cs n c Tryz.underlying22 Tryz.underlying5
theorem mR (w:World)(bs:List Nat)(hb:∀ x∈bs,x<256)(hl:bs.length≤1000000){cs:Array Value}(hc:(bys bs).toArray=cs) :
 ∃ W,w.alloc (.cells cs 5 (cs.size,cs.size+1))=W∧Ext w W∧RB W (fun g=>g<W.heap.size) (some ⟨w.heap.size,0,none⟩) bs.length bs∧w.heap.size<W.heap.size :=
 ⟨_,rfl,zO _ _,(litm w bs hb hl hc _).mono fun q hq=>by rw[qB];omega,by rw[qB];omega⟩
theorem on_q:onQ kU false eQ.1 eQ.2=true:=by decide +kernel
theorem n_r:vR ((bytesOf eR' 32++bytesOf eS 32).take kU.size)=eR':=by decide +kernel
theorem n_s:vR ((bytesOf eR' 32++bytesOf eS 32).drop kU.size)=eS:=by decide +kernel
theorem may_r:kY kU eR'=true:=by decide +kernel
theorem may_s:kY kU eS=true:=by decide +kernel
theorem zDo:zu eWv≤4000∧zu (vR [104,97,115,104])≤4000∧zu eR.1≤4000:=by decide +kernel
theorem rj:(bytesOf eR' 32++bytesOf eS 32).length=64:=by rw[zz,kV,kV]
theorem zCz {W X:World}{base b c:Nat}{A:Option Addr}{l:List Nat}(h:OB W base A c l)(hf:Fr b W.heap.size W X)(hb:b<base):RU X A c l :=
 (h.rn.keep fun p hp=>qH (hf.block _ hp.2 (by have:=hp.1;omega))).mono fun q hq=>zI hq.2 hf.size
theorem vy_x:VY kU (vR [104,97,115,104]) eR' eS eQ.1 eQ.2:=⟨eWv,eU1,eU2,eA,eB,eR,inv_s,zDo.1,zDo.2.1,zDo.2.2,dN,dM,zDr,zDq,zEB,e_r⟩
theorem oP (w:World)(hk:KW w):Calls Tryz.prog 6 #[] w fun e w'=>e=.returned (.bool true)∧Ext w w':=by
 obtain⟨W1,hW1,E1,rb1,hs1⟩:=mR w [120] (by decide) (by decide) (cs:=#[.int .u8 120]) rfl;have hcv:=cvm w #[.int .u8 120] 1 1;simp only[qX,jZ,kA,Nat.reduceAdd]at hcv hW1;rw[hW1]at hcv;have HN:=zF (zCF W1 (hk.ext E1) rb1 (fun _ h=>h) (by decide));rw[zDn]at HN;have HK:=zF hk;have HE1:=zF E1;clear rb1 hs1 E1 hk;go_enter Tryz.func6,Tryz.ntmps6;go_wp2_with fail;refine HN.out.mono ?_;rintro e w2 ⟨b,rfl,hb,hd,hE2⟩;have hEw:=HE1.out.trans hE2;have HE2:=zF hEw;have HB:=zF (zK HE1.out.bsize hb);have hbl:=hd.lt;have h3:=zCS dH w2 (HK.out.ext hEw) hd (by omega) (by omega) zDW zCI;rw[st_1]at h3;have H3:=zF h3;clear hcv hW1 hb hd h3 hE2 hEw HN HE1;go_wp2_with fail;refine H3.out.mono ?_;rintro e w3 ⟨A1,c1,A2,c2,A3,c3,rfl,o1,o2,o3,d3,f3⟩;obtain⟨lx,hlx⟩:=eV ((digs 18446744073709551616 eQ.1).length);obtain⟨ly,hly⟩:=eV ((digs 18446744073709551616 eQ.2).length);rw[hlx,hly];have hq4:=zS w3 (.cells #[.bool false,.slice A2 lx c2,.slice A3 ly c3] 33);have hA4:=zO w3 (.cells #[.bool false,.slice A2 lx c2,.slice A3 ly c3] 33);obtain⟨gp,hgp⟩:=eV w3.heap.size;rw[hgp]at hq4;have Hg:=zF hgp;have HF3:=zF f3;have HE4:=zF hA4;have HR:=zF (And.intro (o1.below hA4 (zG _)) (And.intro (o2.below hA4 (zG _)) (o3.below hA4 (zG _))));have HD:=zF (d3.ext hA4);have HL:=zF (And.intro hlx hly);have Hbl:=zF hbl;have HE3:=zF (f3.ext' HE2.out HB.out HE2.out.bsize);clear hlx hly hgp o1 o2 o3 d3 f3 hA4 H3 hbl;go_upto_region 3 with fail;rw[Hg.out];generalize w3.alloc (.cells #[.bool false,.slice A2 lx c2,.slice A3 ly c3] 33)=w4 at *;obtain⟨W5,hW5,E5,rb5,hs5⟩:=mR w4 [104,97,115,104] (by decide) (by decide) (cs:=#[.int .u8 104,.int .u8 97,.int .u8 115,.int .u8 104]) rfl;have hcv:=cvm w4 #[.int .u8 104,.int .u8 97,.int .u8 115,.int .u8 104] 4 4;simp only[qX,jZ,kA,Nat.reduceAdd]at hcv hW5;rw[hW5]at hcv;have h6:=zDM (b:=b) (base:=w2.heap.size) (num:=0+1) W5 (HK.out.ext (HE3.out.trans (HE4.out.trans E5))) (HD.out.ext E5) (HR.out.1.below E5 (zG _)) Hbl.out rb5 (fun _ h=>h) (by omega) (by omega);have H6:=zF h6;have Hq5:=zF (E5.at_ hq4);have HR5:=zF (And.intro (HR.out.2.1.below E5 (zG _)) (HR.out.2.2.below E5 (zG _)));have HE5:=zF (HE3.out.trans (HE4.out.trans E5));have Hgs:=zF (show w2.heap.size≤gp from by rw[←Hg.out];exact HF3.out.size);have HD5:=zF (show b<W5.heap.size from zI HD.out.lt E5.bsize);clear E5 rb5 hs5 h6 hq4 HR HE4 HE3 HD HF3;go_wp2_with fail;refine H6.out.mono ?_;rintro e w6 ⟨A6,c6,rfl,r6,f6⟩;obtain⟨ad,rfl,_⟩:=r6.at_ (i:=0) (by rw[rj];decide);have hq6:=f6.at_ (qr Hq5.out) (by have:=Hgs.out;have:=Hbl.out;omega) Hq5.out;have rx:=zCz HR5.out.1 f6 Hbl.out;have ry:=zCz HR5.out.2 f6 Hbl.out;have hE6:=f6.ext' HE5.out HB.out HE5.out.bsize;obtain⟨W7,hW7,E7,rb7,hs7⟩:=mR w6 [104,97,115,104] (by decide) (by decide) (cs:=#[.int .u8 104,.int .u8 97,.int .u8 115,.int .u8 104]) rfl;have hcv:=cvm w6 #[.int .u8 104,.int .u8 97,.int .u8 115,.int .u8 104] 4 4;simp only[qX,jZ,kA,Nat.reduceAdd]at hcv hW7;rw[hW7]at hcv
 have h7:=oX (V:=true) dH W7 (show APt W7 (.agg #[.bool false,.slice A2 lx c2,.slice A3 ly c3]) false eQ.1 eQ.2 from by
  rw[←HL.out.1,←HL.out.2]
  exact⟨A2,A3,c2,c3,_,_,rfl,zL rx E7,zL ry E7,zd (by omega) _,zd (by omega) _⟩) on_q (r6.below E7 (fun _ h=>h)) (fun q hq=>zI hq E7.bsize) rj rfl rb7 (fun _ h=>h) rfl (by decide) (by decide) rfl n_r n_s (.inr ⟨may_r,may_s,vy_x,rfl⟩)
 have H7:=zF h7;have HE7:=zF (hE6.trans E7);obtain⟨y0,y1,y2,q0,q1,q2⟩:=jG hq6;clear r6 f6 rx ry hE6 E7 rb7 hs7 h7 H6 hq6;go_wp2_with fail;refine H7.out.mono ?_;rintro e w8 ⟨rfl,E8⟩;have HE8:=zF (HE7.out.trans E8);go_wp2;go_ret;exact⟨rfl,HE8.out⟩
end Go.Proofs.YtaemogcomplhiaaGreatDoor.Ec
