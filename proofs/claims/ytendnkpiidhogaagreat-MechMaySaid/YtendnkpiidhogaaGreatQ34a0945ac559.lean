/- The reference's count and May: how many nodes, if they may be. -/
import Derived.Test.YtendnkpiidhogaaGreatQbd0852012357
import Derived.Test.YtendnkpiidhogaaGreatRows
import Derived.Laws.BytesArg
import Derived.Lib.Bytes
import Derived.BigQuiet
import Derived.Deep.QuietTactic
import Derived.Deep.RegionHeld3
import Derived.Deep.CutRange
import Derived.Deep.DeepCutAuto
import Derived.Deep.DeepMust
set_option maxRecDepth 100000
set_option maxHeartbeats 16000000
namespace Go.Proofs.YtendnkpiidhogaaGreat.Der
open Go.RowKit Go.Shelf
attribute [local go_sem] Oper.semAt_some
mutual
def cntR:Nat→DN→Option Nat
 | d,.mk tag bs kids=>if 16<d then none else if tag≠48 then (if kids≠[]∨plainOf tag bs=false then none else some 1) else if bs≠[] then none else cntRs (d+1) 1 kids
def cntRs:Nat→Nat→List DN→Option Nat
  | _,k,[]=>some k
  | d, k, x :: r => match cntR d x with
    | none=>none
    | some c=>if 1024<k+c then none else cntRs d (k+c) r
end
mutual
theorem cntR_pos:∀ {d:Nat} {t:DN} {c:Nat},cntR d t=some c→1≤c
  | d, .mk tag bs kids, c, h => by
    rw [cntR] at h
    split at h
    · cases h
    split at h
    · split at h
      · cases h
      · cases h;exact Nat.le_refl _
    split at h
    · cases h
    exact cntRs_pos h
theorem cntRs_pos:∀ {d k:Nat} {l:List DN} {c:Nat},cntRs d k l=some c→k≤c
  | d,k,[],c,h=>by rw [cntRs] at h;cases h;exact Nat.le_refl _
  | d, k, x :: r, c, h => by
    rw [cntRs] at h
    split at h
    · cases h
    split at h
    · cases h
    have:=cntRs_pos h
    omega
end
mutual
theorem cntR_le:∀ {d:Nat} {t:DN} {c:Nat},cntR d t=some c→c≤1024
  | d, .mk tag bs kids, c, h => by
    rw [cntR] at h
    split at h
    · cases h
    split at h
    · split at h
      · cases h
      · cases h;omega
    split at h
    · cases h
    exact cntRs_le (by omega) h
theorem cntRs_le:∀ {d k:Nat} {l:List DN} {c:Nat},k≤1024→cntRs d k l=some c→c≤1024
  | d,k,[],c,hk,h=>by rw [cntRs] at h;cases h;exact hk
  | d, k, x :: r, c, hk, h => by
    rw [cntRs] at h
    split at h
    · cases h
    split at h
    · cases h
    exact cntRs_le (by omega) h
end
def cntV:Option Nat→Int
 | none=>-1
 | some c=>(c:Int)
theorem RDs.get {w:World} {P:Nat→Prop} : ∀ {ks:List DN} {cs:List Value} {i:Nat} (hi:i<ks.length),RDs w P ks cs→∃ a b c,cs[i*3]?=some a∧cs[i*3+1]?=some b∧cs[i*3+2]?=some c∧RD w P ks[i] (.agg #[a,b,c])
  | [],_,i,hi,_=>absurd hi (by simp)
  | k :: ks, cs, 0, hi, h => by
    unfold RDs at h
    obtain ⟨a,b,c,rest,rfl,h2,h3⟩:=h
    exact ⟨a,b,c,rfl,rfl,rfl,h2⟩
  | k :: ks, cs, i + 1, hi, h => by
    unfold RDs at h
    obtain ⟨a,b,c,rest,rfl,h2,h3⟩:=h
    obtain ⟨a',b',c',e1,e2,e3,h4⟩:=RDs.get (i:=i) (by simpa using hi) h3
    refine ⟨a',b',c',?_,?_,?_,h4⟩
    · rw [show (i+1)*3=i*3+3 by omega];exact e1
    · rw [show (i+1)*3+1=i*3+1+3 by omega];exact e2
    · rw [show (i+1)*3+2=i*3+2+3 by omega];exact e3
theorem kid_at {w:World} {P:Nat→Prop} {A:Option Addr} {c:Nat} {ks:List DN} {cs:List Value} (h:RS w P 3 A ks.length c cs) (hd:RDs w P ks cs) {i:Nat} (hi:i<ks.length) :
 ∃ ad x B1 n1 d1 B2 n2 d2,A=some ad∧w.cell? (ad.add (i*3))=some (.int .i64 x)∧w.cell? ⟨(ad.add (i*3)).block,(ad.add (i*3)).off+1,none⟩=some (.slice B1 n1 d1)∧w.cell? ⟨(ad.add (i*3)).block,(ad.add (i*3)).off+2,none⟩=some (.slice B2 n2 d2)∧RD w P ks[i] (.agg #[.int .i64 x,.slice B1 n1 d1,.slice B2 n2 d2]):=by
 obtain ⟨h1,h2,h3,h4⟩:=h
 obtain ⟨ad,rfl,hb,hc⟩:=h4 (by omega)
 obtain ⟨a,b,c',e1,e2,e3,hr⟩:=RDs.get hi hd
 obtain ⟨x,B1,n1,d1,B2,n2,d2,he⟩:=hr.shape
 injection he with he
 simp only [Array.mk.injEq,List.cons.injEq,and_true] at he
 obtain ⟨rfl,rfl,rfl⟩:=he
 refine ⟨ad,x,B1,n1,d1,B2,n2,d2,rfl,hc _ _ e1,?_,?_,hr⟩
 · have:=hc _ _ e2;rwa [←add_of_add] at this
 · have:=hc _ _ e3;rwa [←add_of_add] at this
theorem RD.open_ {w:World} {P:Nat→Prop} {tag:Nat} {bs:List Nat} {kids:List DN} {v:Value} (h:RD w P (.mk tag bs kids) v):∃ A c Ak ck cs,v=.agg #[.int .i64 (tag:Int),.slice A bs.length c,.slice Ak kids.length ck]∧RB w P A c bs∧(tag=48→A=none∧c=0)∧RS w P 3 Ak kids.length ck cs∧RDs w P kids cs:=by
 unfold RD at h;exact h
def addR (d k:Nat) (r:List DN):Option Nat→Option Nat
 | none=>none
 | some c=>if 1024<k+c then none else cntRs d (k+c) r
theorem cntRs_step {d k:Nat} {l:List DN} {i:Nat} (hi:i<l.length) {o:Option Nat} (ho:cntR d l[i]=o):cntRs d k (l.drop i)=addR d k (l.drop (i+1)) o:=by
 subst ho
 rw [List.drop_eq_getElem_cons hi,cntRs]
 cases cntR d l[i] <;> rfl
theorem count_any (n:Nat):∀ (d:Nat) (P:Nat→Prop) (t:DN) (v:Value) (w:World),d+n=17→RD w P t v→(∀ q,P q→q<w.heap.size) →
    Calls Tryz.prog 241 #[v,.int .i64 (d:Int)] w fun e w'=>e=.returned (.int .i64 (cntV (cntR d t)))∧Below w.heap.size w w':=by
  induction n with
  | zero =>
    intro d P t v w hd h hP
    obtain rfl:d=17:=by omega
    obtain ⟨tag,bs,kids⟩:=t
    obtain ⟨A,c,Ak,ck,cs,rfl,-⟩:=h.open_
    have HR:=Lib.hid (show cntR 17 (.mk tag bs kids)=none by rw [cntR,if_pos (by omega)])
    have HB:=Lib.hid ((Below.refl w.heap.size w).alloc (Nat.le_refl _) (.cells #[.int .i64 (tag:Int),.slice A bs.length c,.slice Ak kids.length ck] 172))
    have h17:((17:Nat):Int)=17:=rfl
    rw [h17]
    clear h17 hP hd
    go_enter Tryz.func241,Tryz.ntmps241
    go_wp2
    go_ret
    exact ⟨by rw [HR.out];rfl,HB.out⟩
  | succ n ih =>
    intro d P t v w hd h hP
    obtain ⟨tag,bs,kids⟩:=t
    obtain ⟨A,c,Ak,ck,cs,rfl,hb,h48,hk,hds⟩:=h.open_
    obtain ⟨R,hR⟩:∃ R,cntR d (.mk tag bs kids)=R:=⟨_,rfl⟩
    rw [hR]
    rw [cntR,if_neg (show ¬ 16<d by omega)] at hR
    have hE:=(Below.refl w.heap.size w).alloc (Nat.le_refl _) (.cells #[.int .i64 (tag:Int),.slice A bs.length c,.slice Ak kids.length ck] 172)
    have hn:=heap_alloc_new w (.cells #[.int .i64 (tag:Int),.slice A bs.length c,.slice Ak kids.length ck] 172)
    have hz:(w.alloc (.cells #[.int .i64 (tag:Int),.slice A bs.length c,.slice Ak kids.length ck] 172)).heap.size=w.heap.size+1:=by simp
    have Hb:=Lib.hid (hb.below hE hP)
    have Hk:=Lib.hid (hk.below hE hP)
    have Hds:=Lib.hid (RDs.keep (fun p hp=>hE.cell (hP _ hp)) hds)
    have HE:=Lib.hid hE
    have Hn:=Lib.hid hn
    have Hz:=Lib.hid hz
    have HP:=Lib.hid hP
    obtain ⟨s,hs⟩:∃ s,w.heap.size=s:=⟨_,rfl⟩
    have Hs:=Lib.hid hs
    rw [hs] at HE Hn Hz HP
    have hd16:¬ (16:Int)<(d:Int):=by omega
    have H48:=Lib.hid h48
    have Hd:=Lib.hid (show d+1+n=17 by omega)
    obtain ⟨hlc,hlc2,hlb⟩:=hb.cap
    have hkl:=hk.1
    have hkc:ck≤9223372036854775807:=hk.2.1
    clear hE hn hz hb hk hds hP h h48 hs hd
    by_cases ht:tag=48
    rotate_left
    · rw [if_pos ht] at hR
      have ht':((tag:Int)==48)=false:=beq_eq_false_iff_ne.2 (by omega)
      by_cases hk0:kids=[]
      rotate_left
      · have hR2:R=none:=by rw [←hR,if_pos (.inl hk0)]
        subst hR2
        have hk1':=List.length_pos_iff.2 hk0
        obtain ⟨m,hm⟩:∃ m,kids.length=m:=⟨_,rfl⟩
        rw [hm] at hk1' Hn HE
        rw [hm]
        have hk1:(0:Int)<(m:Int):=by omega
        clear hk0 hR Hk Hds Hb Hz hkl hm ih
        go_enter Tryz.func241,Tryz.ntmps241
        go_wp2
        go_ret
        exact ⟨rfl,by rw [Hs.out];exact HE.out⟩
      · subst hk0
        have HC:=content_any P A c tag bs _ Hb.out
        obtain ⟨pb,hpb⟩:∃ pb,plainOf tag bs=pb:=⟨_,rfl⟩
        rw [hpb] at HC hR
        have HCo:=Lib.hid HC
        have HRR:=Lib.hid hR
        clear HC hpb hR
        go_enter Tryz.func241,Tryz.ntmps241
        go_wp2_with fail
        refine HCo.out.mono ?_
        rintro e w1 ⟨rfl,d1,rfl⟩
        have HE2:=Lib.hid (below_drewN HE.out d1)
        cases pb
        · have hR2:R=none:=by rw [←HRR.out,if_pos (.inr rfl)]
          subst hR2
          go_wp2
          go_ret
          exact ⟨rfl,by rw [Hs.out];exact HE2.out⟩
        · have hR2:R=some 1:=by rw [←HRR.out,if_neg (by simp)]
          subst hR2
          go_wp2
          go_ret
          exact ⟨rfl,by rw [Hs.out];exact HE2.out⟩
    subst ht
    rw [if_neg (by omega)] at hR
    obtain ⟨rfl,rfl⟩:=H48.out rfl
    by_cases hb0:bs=[]
    rotate_left
    · have hR2:R=none:=by rw [←hR,if_pos hb0]
      subst hR2
      have hb1':=List.length_pos_iff.2 hb0
      obtain ⟨m,hm⟩:∃ m,bs.length=m:=⟨_,rfl⟩
      rw [hm] at hb1' Hn HE
      rw [hm]
      have hb1:(0:Int)<(m:Int):=by omega
      clear Hk Hds Hb Hz hm ih hlc hlb hlc2 H48
      have c48:((48:Nat):Int)=48:=rfl
      rw [c48] at Hn HE ⊢
      clear hb0 hR c48
      go_enter Tryz.func241,Tryz.ntmps241
      go_wp2
      go_ret
      refine ⟨rfl,?_⟩
      rw [Hs.out];exact HE.out
    subst hb0
    rw [if_neg (by simp)] at hR
    have HRR:=Lib.hid hR
    have c48:((48:Nat):Int)=48:=rfl
    have l0:([]:List Nat).length=0:=rfl
    rw [c48,l0] at Hn HE Hb Hk Hds Hz
    rw [c48,l0]
    clear hR c48 l0 hlc hlc2 hlb H48 Hb
    go_enter Tryz.func241,Tryz.ntmps241
    go_wp2
    rw [Hs.out]
    generalize w.alloc (.cells #[.int .i64 48,.slice none 0 0,.slice Ak kids.length ck] 172)=W0 at *
    go_loopw [5,6] (fun v i wr=>∃ (k j:Nat),j≤kids.length∧i=.int .i64 (j:Int)∧v=.int .i64 (k:Int)∧k≤1024∧cntRs (d+1) k (kids.drop j)=R∧Below (s+1) W0 wr) (fun _ i _=>kids.length - (intOf i).toNat)
    case atStart=>exact ⟨1,0,by omega,rfl,rfl,by omega,HRR.out,Below.refl _ _⟩
    case round =>
      obtain ⟨k,j,hj,rfl,rfl,hk1,hR,hB⟩:=hrel
      have HB:=Lib.hid hB
      have hbx:=(hB.block s (by omega)).trans Hn.out
      have hsz:=Nat.le_trans (Nat.le_of_eq Hz.out.symm) hB.size
      have Hsz:=Lib.hid hsz
      have m2:=blk_cell hbx 2
      simp only [List.getElem?_toArray,List.getElem?_cons_zero,List.getElem?_cons_succ] at m2
      clear hbx hB hsz
      by_cases hlt:j<kids.length
      · obtain ⟨ad,x,B1,n1,d1,B2,n2,d2,rfl,x0,x1,x2,hrd⟩:=kid_at (RS.below Hk.out HB.out (fun q hq=>by have:=HP.out q hq;omega)) (RDs.keep (fun p hp=>HB.out.cell (by have:=HP.out _ hp;omega)) Hds.out) hlt
        have q1:(j:Int)<(kids.length:Int):=by omega
        obtain ⟨o,ho⟩:∃ o,cntR (d+1) kids[j]=o:=⟨_,rfl⟩
        have hst:=cntRs_step (k:=k) hlt ho
        rw [hst] at hR
        have HRR:=Lib.hid hR
        have IH:=ih (d+1) P kids[j] _ wr Hd.out hrd (fun q hq=>by have:=HP.out q hq;have:=Hsz.out;omega)
        rw [ho] at IH
        have Ho:=Lib.hid ho
        have hd1:((d+1:Nat):Int)=(d:Int)+1:=by omega
        rw [hd1] at IH
        have HIH:=Lib.hid IH
        have hw1:IntKind.i64.wrap ((d:Int)+1)=(d:Int)+1:=by have:=Hd.out;rw [IntKind.wrap_i64];omega
        clear hR hst ho IH hrd hd1
        go_wp2_with fail
        refine HIH.out.mono ?_
        rintro e w1 ⟨rfl,hB1⟩
        have HB1:=Lib.hid (HB.out.trans (hB1.mono Hsz.out))
        have hbx:=(HB1.out.block s (by omega)).trans Hn.out
        have m2':=blk_cell hbx 2
        simp only [List.getElem?_toArray,List.getElem?_cons_zero,List.getElem?_cons_succ] at m2'
        clear hB1 x0 x1 x2 m2 hbx HIH
        cases o with
        | none =>
          have hR2:R=none:=HRR.out.symm
          subst hR2
          have hm1:cntV none=-1:=rfl
          rw [hm1]
          clear hm1
          go_wp2
          go_ret
          exact ⟨rfl,by rw [Hs.out];exact HE.out.trans (HB1.out.mono (by omega))⟩
        | some cc =>
          have hm1:cntV (some cc)=(cc:Int):=rfl
          rw [hm1]
          have hc1:¬ (cc:Int)<0:=by omega
          have hw2:IntKind.i64.wrap ((k:Int)+(cc:Int))=((k+cc:Nat):Int):=by have:=cntR_le Ho.out;rw [IntKind.wrap_i64];omega
          have hRR:(if 1024<k+cc then none else cntRs (d+1) (k+cc) (kids.drop (j+1)))=R:=HRR.out
          obtain ⟨kc,hkc'⟩:∃ kc,k+cc=kc:=⟨_,rfl⟩
          rw [hkc'] at hw2 hRR
          clear hm1 hkc' HRR
          by_cases hb:1024<kc
          · rw [if_pos hb] at hRR
            subst hRR
            have hb':(1024:Int)<(kc:Int):=by omega
            go_wp2
            go_ret
            exact ⟨rfl,by rw [Hs.out];exact HE.out.trans (HB1.out.mono (by omega))⟩
          · rw [if_neg hb] at hRR
            have HRR2:=Lib.hid hRR
            have hb':¬ (1024:Int)<(kc:Int):=by omega
            clear hRR
            go_wp2
            go_roundw
            case rel=>exact ⟨kc,j+1,by omega,by go_num,rfl,by omega,HRR2.out,HB1.out⟩
            case measure=>simp [intOf];omega
      · obtain rfl:j=kids.length:=by omega
        rw [List.drop_of_length_le (Nat.le_refl _),cntRs] at hR
        subst hR
        have q1:¬ (kids.length:Int)<(kids.length:Int):=by omega
        go_wp2
        go_ret
        exact ⟨rfl,by rw [Hs.out];exact HE.out.trans (HB.out.mono (by omega))⟩
end Go.Proofs.YtendnkpiidhogaaGreat.Der

namespace Go.Proofs.YtendnkpiidhogaaGreat.Der
open Go.RowKit Go.Shelf
attribute [local go_sem] Oper.semAt_some
def up8:Nat→Nat→List Nat→List Nat
 | 0,_,out=>out
 | f+1,n,out=>if n=0 then out else up8 f (n / 256) (n % 256 :: out)
def beB (n:Nat):List Nat:=up8 9 n []
def lenB (n:Nat):List Nat:=if n<128 then [n] else (128+(beB n).length) :: beB n
def hdB (tag:Nat) (b:List Nat):List Nat:=tag % 256 :: (lenB b.length++b)
mutual
def enc:DN→List Nat
 | .mk tag bs kids=>hdB tag (if tag=48 then encs kids else bs)
def encs:List DN→List Nat
 | []=>[]
 | k :: ks=>enc k++encs ks
end
theorem encs_append:∀ (a b:List DN),encs (a++b)=encs a++encs b
 | [],b=>by rw [List.nil_append,encs];rfl
 | k :: a,b=>by rw [List.cons_append,encs,encs,encs_append a b,List.append_assoc]
theorem encs_take {l:List DN} {i:Nat} (h:i<l.length):encs (l.take (i+1))=encs (l.take i)++enc l[i]:=by
 rw [List.take_succ_eq_append_getElem h,encs_append,encs,encs,List.append_nil]
theorem encs_le {l:List DN} (i:Nat):(encs (l.take i)).length≤(encs l).length:=by
 conv=>rhs;rw [←List.take_append_drop i l,encs_append,List.length_append]
 omega
theorem kid_size {tag:Nat} {bs:List Nat} {kids:List DN} {x:DN} (h:x∈kids):SizeOf.sizeOf x<SizeOf.sizeOf (DN.mk tag bs kids):=by
 have:=List.sizeOf_lt_of_mem h
 simp only [DN.mk.sizeOf_spec]
 omega
theorem blk_lt1 {w:World} {g b:Nat} {c:Nat} {base:Nat} (h:OW w base (some ⟨g,0,none⟩) c [b]):g<w.heap.size:=(own_lt h.1 (q:=g) rfl).2
theorem hdB_len (tag:Nat) (b:List Nat):b.length≤(hdB tag b).length:=by simp [hdB];omega
section
variable {w:World} {ops:Array Oper} {rest:List Oper} {o:Oper} {a:Act} {Q:Exit→Act→World→Prop}
theorem app8g (hgd:o.guard=none) (s x:Operand) (ho:o.op=.call { callee:=.builtin .append,args:=#[s,x],argTypes:=#[33,33] }) (base:Nat) {A Au:Option Addr} {c cu:Nat} {bs cs:List Nat} {B:Nat→Prop}
 (hs:a.eval s=.slice A bs.length c) (hown:OW w base A c bs) (hx:a.eval x=.slice Au cs.length cu) (hr:RB w B Au cu cs) (hl:bs.length+cs.length≤100000000) (hbase:base≤w.heap.size)
 (h:∀ A' c' w',OW w' base A' c' (bs++cs)→w.grownBy w' (Value.slice A bs.length c).ownBlock→wpList Tryz.prog ops Q rest (a.put o.dst (.slice A' (bs++cs).length c')) w'):wpList Tryz.prog ops Q (o :: rest) a w:=by
 obtain ⟨i0,hi,hz0,hz1,hz2⟩:=info_parts info8
 refine wpList_append_rs w hgd s x 33 ho base 5 i0 (.int .u8 0) 1 1 Tryz.underlying33 hi hz0 hz1 hz2 rfl (by decide) _ bs.length (bys bs) hs hown.1 B Au cs.length cu (bys cs) hx hr.1 (by intro u hu;obtain ⟨b,_,rfl⟩:=List.mem_map.1 hu;rfl) (bs.length+cs.length) rfl (by unfold maxLen;omega) (by omega) hbase ?_
 intro A' c' w' h1 h2 h3
 have hlen:(bs++cs).length=bs.length+cs.length:=List.length_append
 refine (hlen▸h A' c' w' ⟨?_,?_⟩ h2:_)
 · rw [hlen,show bys (bs++cs)=bys bs++bys cs by simp [bys]]
   exact h1
 · intro b hb
   rcases List.mem_append.1 hb with hb | hb
   · exact hown.2 b hb
   · exact hr.2.1 b hb
end
theorem put_any (n:Nat):∀ (P:Nat→Prop) (t:DN) (v:Value) (w:World),SizeOf.sizeOf t≤n→(enc t).length≤10000000→RD w P t v→(∀ q,P q→q<w.heap.size) →
    Calls Tryz.prog 238 #[v] w fun e w'=>(∃ A1 c1,e=.returned (.slice A1 (enc t).length c1)∧OW w' w.heap.size A1 c1 (enc t))∧Below w.heap.size w w':=by
  induction n with
  | zero =>
    intro P t v w hd h hP
    obtain ⟨tag,bs,kids⟩:=t
    simp at hd
  | succ n ih =>
    intro P t v w hd hl h hP
    obtain ⟨tag,bs,kids⟩:=t
    obtain ⟨A,c,Ak,ck,cs,rfl,hb,h48,hk,hds⟩:=h.open_
    obtain ⟨T,hT⟩:∃ T,enc (.mk tag bs kids)=T:=⟨_,rfl⟩
    rw [hT] at hl ⊢
    rw [enc] at hT
    have hE:=(Below.refl w.heap.size w).alloc (Nat.le_refl _) (.cells #[.int .i64 (tag:Int),.slice A bs.length c,.slice Ak kids.length ck] 172)
    have hn:=heap_alloc_new w (.cells #[.int .i64 (tag:Int),.slice A bs.length c,.slice Ak kids.length ck] 172)
    have hz:(w.alloc (.cells #[.int .i64 (tag:Int),.slice A bs.length c,.slice Ak kids.length ck] 172)).heap.size=w.heap.size+1:=by simp
    have Hb:=Lib.hid (hb.below hE hP)
    have Hk:=Lib.hid (hk.below hE hP)
    have Hds:=Lib.hid (RDs.keep (fun p hp=>hE.cell (hP _ hp)) hds)
    have HE:=Lib.hid hE
    have Hn:=Lib.hid hn
    have Hz:=Lib.hid hz
    have HP:=Lib.hid hP
    obtain ⟨s,hs⟩:∃ s,w.heap.size=s:=⟨_,rfl⟩
    have Hs:=Lib.hid hs
    rw [hs] at HE Hn Hz HP
    have H48:=Lib.hid h48
    have Hd:=Lib.hid hd
    obtain ⟨hlc,hlc2,hlb⟩:=hb.cap
    have hkl:=hk.1
    have hkc:ck≤9223372036854775807:=hk.2.1
    clear hE hn hz hb hk hds hP h h48 hs hd
    by_cases ht:tag=48
    rotate_left
    · rw [if_neg ht] at hT
      have ht':((tag:Int)==48)=false:=beq_eq_false_iff_ne.2 (by omega)
      obtain ⟨b0,hb0,he0⟩:∃ b0:Nat,b0<256∧(tag:Int) % 256=(b0:Int):=⟨tag % 256,by omega,by omega⟩
      have Hb0:=Lib.hid (show tag % 256=b0 by omega)
      have HT:=Lib.hid hT.symm
      have HBl:Hid (bs.length≤10000000):=Lib.hid (by have:=hdB_len tag bs;rw [hT] at this;omega)
      clear hT ht H48 hl
      go_enter Tryz.func238,Tryz.ntmps238
      go_upto_region 9 with fail
      rw [Hs.out]
      generalize w.alloc (.cells #[.int .i64 (tag:Int),.slice A bs.length c,.slice Ak kids.length ck] 172)=W at *
      have m0:=blk_cell Hn.out 0
      simp only [List.getElem?_toArray,List.getElem?_cons_zero] at m0
      have HPb:Hid (∀ q,P q→q<W.heap.size):=Lib.hid (fun q hq=>by have:=HP.out q hq;have:=Hz.out;omega)
      have HsW:=Lib.hid (show s≤W.heap.size by have:=Hz.out;omega)
      have HEW:=HE
      have HRB:=Hb
      obtain ⟨B,hB⟩:∃ B,bs=B:=⟨_,rfl⟩
      rw [hB] at HRB HBl HT
      rw [hB]
      clear hB
      clear ih hlb
      obtain ⟨N,hN⟩:∃ N,B.length=N:=⟨_,rfl⟩
      have HNl:=Lib.hid hN
      have HN7:=Lib.hid (show N≤10000000 by rw [←hN];exact HBl.out)
      rw [hN]
      clear hN
      have hO1:OW (W.alloc (.cells #[.int .u8 (b0:Int)] 5)) W.heap.size (some ⟨W.heap.size,0,none⟩) 1 [b0]:=OW.lit W b0 hb0
      have HO1:=Lib.hid hO1
      obtain ⟨W1,hW1⟩:∃ W1,W.alloc (.cells #[.int .u8 (b0:Int)] 5)=W1:=⟨_,rfl⟩
      rw [hW1] at HO1
      have HB1:Hid (Below W.heap.size W W1):=Lib.hid (by rw [←hW1];exact (Below.refl _ W).alloc (Nat.le_refl _) _)
      have HW1:=Lib.hid hW1
      clear hO1 hW1
      by_cases h128:N<128
      · have h128':(N:Int)<128:=by omega
        have hN2:(N:Int) % 256=(N:Int):=by omega
        have hO2:=OW.lit W1 N (by omega)
        have HO2:=Lib.hid ((hO2.rb (by simp)).below (Below.refl _ _) (fun q hq=>hq.2))
        have HO3:=Lib.hid (ow_up HO1.out ((Below.refl W1.heap.size W1).alloc (Nat.le_refl _) (.cells #[.int .u8 (N:Int)] 5)))
        have HB2:=Lib.hid (HB1.out.trans ((Below.refl W.heap.size W1).alloc HB1.out.size (.cells #[.int .u8 (N:Int)] 5)))
        have HT2:=Lib.hid (show T=([b0]++[N])++B by rw [HT.out];unfold hdB lenB;rw [HNl.out,if_pos h128,Hb0.out];rfl)
        clear hO2 h128
        go_upto_region 11 with fail
        rw [HW1.out]
        clear HW1
        go_wp2_with (at_builtin;refine app8 rfl (.tmp 37) (.tmp 41) rfl W.heap.size (bs:=[b0]) (cs:=[N]) rfl HO3.out rfl HO2.out (by simp) HB2.out.size ?_)
        intro A2 c2 w3 hw3 hb3
        have HW3:=Lib.hid hw3
        have HB3:=Lib.hid (HB2.out.trans hb3)
        clear hw3 hb3
        go_wp2_with (at_builtin;refine app8 rfl (.tmp 65) (.tmp 66) rfl W.heap.size (bs:=[b0]++[N]) (cs:=B) rfl HW3.out (by rw [HNl.out];rfl) (HRB.out.below HB3.out HPb.out) (by rw [HNl.out];have:=HN7.out;simp;omega) HB3.out.size ?_)
        intro A4 c4 w4 hw4 hb4
        have HW4:=Lib.hid hw4
        have HB4:=Lib.hid (HEW.out.trans ((HB3.out.trans hb4).mono HsW.out))
        clear hw4 hb4
        go_wp2
        go_ret
        exact ⟨⟨A4,c4,(by rw [HT2.out];first | rfl | simp),by rw [HT2.out];exact ow_lower HW4.out (by have:=HsW.out;have:=Hs.out;omega)⟩,by rw [Hs.out];exact HB4.out⟩
      have h128':¬ (N:Int)<128:=by omega
      go_upto_region 12 with fail
      rw [HW1.out]
      clear HW1
      have hgo:=HB1.out.size
      go_wp2
      go_loopw [7,8] (fun v i wr=>∃ (x:Nat) (A:Option Addr) (c:Nat) (bs:List Nat),i=.int .i64 (x:Int)∧v=.slice A bs.length c∧OW wr W1.heap.size A c bs∧bs.length≤9∧x<256 ^ (9 - bs.length)∧x≤N∧up8 (9 - bs.length) x bs=up8 9 N []∧Below W1.heap.size W1 wr) (fun _ i _=>(intOf i).toNat)
      case atStart=>exact ⟨N,none,0,[],rfl,rfl,⟨World.ownsRow_nil _ _ _ _,by simp⟩,by simp,by have:=HN7.out;simp;omega,Nat.le_refl _,rfl,Below.refl _ _⟩
      case round =>
        obtain ⟨x,A,c,bs,rfl,rfl,hO,hl9,hx,hxN,hup,hB⟩:=hrel
        have HUp:=Lib.hid hup
        have HO:=Lib.hid hO
        have HB:=Lib.hid hB
        have hs:=hB.size
        clear hup hO hB
        by_cases hx0:0<x
        · have hl8:bs.length≤8:=by
            rcases Nat.lt_or_ge 8 bs.length with h | h
            · have:bs.length=9:=by omega
              rw [this] at hx
              simp at hx
              omega
            · exact h
          have HX:=Lib.hid (show x / 256<256 ^ (9 - (bs.length+1)) by
            rw [show 9 - bs.length=9 - (bs.length+1)+1 by omega,Nat.pow_succ] at hx
            exact Nat.div_lt_of_lt_mul (by rw [Nat.mul_comm];exact hx))
          obtain ⟨y,hy,hye⟩:∃ y:Nat,y<256∧(x:Int) % 256=(y:Int):=⟨x % 256,by omega,by omega⟩
          have HUp2:=Lib.hid (show up8 (9 - (bs.length+1)) (x / 256) (y :: bs)=up8 9 N [] by rw [show y=x % 256 by omega,←HUp.out,show 9 - bs.length=9 - (bs.length+1)+1 by omega,up8,if_neg (by omega)])
          have HL:=Lib.hid (OW.lit wr y hy)
          have HR:=Lib.hid ((HO.out.rb (by omega)).below ((Below.refl _ wr).alloc (Nat.le_refl _) (.cells #[.int .u8 (y:Int)] 5)) fun q hq=>hq.2)
          have hi:(0:Int)<(x:Int):=by omega
          have HN8:=Lib.hid (show x / 256≤N by omega)
          have Hw2:=Lib.hid (show wrap64 ((x:Int) / 256)=(x:Int) / 256 by have:=HN7.out;rw [←IntWalk.i64_left,IntKind.wrap_i64];omega)
          clear hx hxN
          go_wp2_with (at_builtin;refine app8 rfl (.tmp 52) (.tmp 53) rfl wr.heap.size (bs:=[y]) (cs:=bs) rfl HL.out rfl HR.out (by simp;omega) (by simp) ?_)
          intro A2 c2 w2 hw2 hb2
          have HB2:=Lib.hid ((HB.out.alloc hs (.cells #[.int .u8 (y:Int)] 5)).trans (hb2.mono hs))
          have HW2:=Lib.hid hw2
          clear hw2 hb2
          go_wp2
          go_roundw
          case rel=>exact ⟨x / 256,A2,c2,y :: bs,by first | (rw [Hw2.out];simp) | simp,rfl,ow_lower HW2.out hs,by simp;omega,by simpa using HX.out,HN8.out,by simpa using HUp2.out,HB2.out⟩
          case measure=>first | (rw [Hw2.out];simp [intOf];omega) | (simp [intOf];omega)
        · obtain rfl:x=0:=by omega
          have hlb:bs=beB N:=by rw [beB,←HUp.out];cases 9 - bs.length <;> simp [up8]
          have HT2:=Lib.hid (show T=(([b0]++[128+bs.length])++bs)++B by rw [HT.out];unfold hdB lenB;rw [HNl.out,if_neg h128,Hb0.out,hlb];simp)
          obtain ⟨L,hL⟩:∃ L,bs.length=L:=⟨_,rfl⟩
          have HL:=Lib.hid hL
          rw [hL]
          rw [hL] at hl9 HT2
          have hL2:(128+(L:Int)) % 256=((128+L:Nat):Int):=by omega
          have hL3:IntKind.i64.wrap (128+(L:Int))=128+(L:Int):=by rw [IntKind.wrap_i64];omega
          have hO4:=OW.lit wr (128+L) (by omega)
          have HO4:=Lib.hid ((hO4.rb (by simp)).below (Below.refl _ _) (fun q hq=>hq.2))
          have HO5:=Lib.hid (ow_up (ow_up HO1.out HB.out) ((Below.refl wr.heap.size wr).alloc (Nat.le_refl _) (.cells #[.int .u8 ((128+L:Nat):Int)] 5)))
          have HB5:=Lib.hid ((HB1.out.trans (HB.out.mono hgo)).alloc (Nat.le_trans hgo hs) (.cells #[.int .u8 ((128+L:Nat):Int)] 5))
          have HRl:=Lib.hid ((HO.out.rb (by omega)).below ((Below.refl _ wr).alloc (Nat.le_refl _) (.cells #[.int .u8 ((128+L:Nat):Int)] 5)) fun q hq=>hq.2)
          clear hlb hL hO4 hx hxN h128
          have hW1s:=HB1.out.size
          have HW1s:=Lib.hid (show W.heap.size<W1.heap.size from blk_lt1 HO1.out)
          go_wp2_with (at_builtin;refine app8g rfl (.tmp 55) (.tmp 60) rfl W.heap.size (bs:=[b0]) (cs:=[128+L]) rfl HO5.out rfl HO4.out (by simp) HB5.out.size ?_)
          intro A2 c2 w3 hw3 hg3
          have HW3:=Lib.hid hw3
          have HB3:=Lib.hid (HB5.out.grown hg3 HB5.out.size (by intro k hk;simp [Value.ownBlock] at hk;omega))
          have HRl3:=Lib.hid (HRl.out.keep (w':=w3) fun p hp=>World.cell?_of_block (hg3.block _ (by have:=hp.2;simp;omega) (by have:=hp.1;have:=HW1s.out;simp [Value.ownBlock];omega)))
          clear hw3 hg3
          go_wp2_with (at_builtin;refine app8 rfl (.tmp 62) (.tmp 63) rfl W.heap.size (bs:=[b0]++[128+L]) (cs:=bs) rfl HW3.out (by rw [HL.out];rfl) HRl3.out (by rw [HL.out];simp;omega) HB3.out.size ?_)
          intro A5 c5 w5 hw5 hb5
          have HW5:=Lib.hid hw5
          have HB5':=Lib.hid (HB3.out.trans hb5)
          clear hw5 hb5
          go_wp2_with (at_builtin;refine app8 rfl (.tmp 65) (.tmp 66) rfl W.heap.size (bs:=([b0]++[128+L])++bs) (cs:=B) rfl HW5.out (by rw [HNl.out];rfl) (HRB.out.below HB5'.out HPb.out) (by rw [HNl.out];have:=HN7.out;simp;rw [HL.out];omega) HB5'.out.size ?_)
          intro A4 c4 w4 hw4 hb4
          have HW4:=Lib.hid hw4
          have HB4:=Lib.hid (HEW.out.trans ((HB5'.out.trans hb4).mono HsW.out))
          clear hw4 hb4
          go_wp2
          go_ret
          exact ⟨⟨A4,c4,(by rw [HT2.out];first | rfl | simp),by rw [HT2.out];exact ow_lower HW4.out (by have:=HsW.out;have:=Hs.out;omega)⟩,by rw [Hs.out];exact HB4.out⟩
    subst ht
    rw [if_pos rfl] at hT
    obtain ⟨rfl,rfl⟩:=H48.out rfl
    have hbs0:bs=[]:=List.eq_nil_of_length_eq_zero (by omega)
    subst hbs0
    have HT0:=Lib.hid hT.symm
    have hkl7:(encs kids).length≤10000000:=by have:=hdB_len 48 (encs kids);rw [hT] at this;omega
    have HKl:=Lib.hid hkl7
    have c48:((48:Nat):Int)=48:=rfl
    have l0:([]:List Nat).length=0:=rfl
    rw [c48,l0] at Hn HE Hb Hk Hds Hz
    rw [c48,l0]
    clear hT c48 l0 hlc hlc2 hlb H48 Hb hl hkl7
    go_enter Tryz.func238,Tryz.ntmps238
    go_wp2
    rw [Hs.out]
    generalize w.alloc (.cells #[.int .i64 48,.slice none 0 0,.slice Ak kids.length ck] 172)=W0 at *
    go_loopw [3,4] (fun v i wr=>∃ (j:Nat) (A':Option Addr) (c':Nat) (acc:List Nat),j≤kids.length∧i=.int .i64 (j:Int)∧v=.slice A' acc.length c'∧OW wr W0.heap.size A' c' acc∧acc=encs (kids.take j)∧Below (s+1) W0 wr) (fun _ i _=>kids.length - (intOf i).toNat)
    case atStart=>exact ⟨0,none,0,[],by omega,rfl,rfl,⟨World.ownsRow_nil _ _ _ _,by simp⟩,by simp [encs],Below.refl _ _⟩
    case round =>
      obtain ⟨j,A',c',acc,hj,rfl,rfl,hO,hacc,hB⟩:=hrel
      have HB:=Lib.hid hB
      have HO:=Lib.hid hO
      have HAcc:=Lib.hid hacc
      have hbx:=(hB.block s (by omega)).trans Hn.out
      have Hsz:=Lib.hid (Nat.le_trans (Nat.le_of_eq Hz.out.symm) hB.size)
      have m2:=blk_cell hbx 2
      have m0:=blk_cell hbx 0
      simp only [List.getElem?_toArray,List.getElem?_cons_zero,List.getElem?_cons_succ] at m2 m0
      clear hB hO hacc
      by_cases hlt:j<kids.length
      · obtain ⟨ad,x,B1,n1,d1,B2,n2,d2,rfl,x0,x1,x2,hrd⟩:=kid_at (RS.below Hk.out HB.out (fun q hq=>by have:=HP.out q hq;omega)) (RDs.keep (fun p hp=>HB.out.cell (by have:=HP.out _ hp;omega)) Hds.out) hlt
        have q1:(j:Int)<(kids.length:Int):=by omega
        have htk:=encs_take hlt
        have hle:(encs (kids.take (j+1))).length≤(encs kids).length:=encs_le _
        have IH:=ih P kids[j] _ wr (by have:=kid_size (tag:=48) (bs:=[]) (List.getElem_mem hlt);have:=Hd.out;omega) (by rw [htk,List.length_append] at hle;have:=HKl.out;omega) hrd (fun q hq=>by have:=HP.out q hq;have:=Hsz.out;omega)
        rw [htk,←HAcc.out] at hle
        rw [←HAcc.out] at htk
        obtain ⟨wk,hwk⟩:∃ wk,enc kids[j]=wk:=⟨_,rfl⟩
        rw [hwk] at IH htk hle
        have HIH:=Lib.hid IH
        have HTk:=Lib.hid htk
        have HLe:=Lib.hid hle
        clear IH hrd htk hle hwk hbx m0
        go_wp2_with fail
        refine HIH.out.mono ?_
        rintro e w1 ⟨⟨A5,c5,rfl,hO5⟩,hB1⟩
        have HO5:=Lib.hid (hO5.rb (by have:=HLe.out;have:=HKl.out;rw [List.length_append] at *;omega))
        have HO6:=Lib.hid (ow_up HO.out hB1)
        have HB1:=Lib.hid (HB.out.trans (hB1.mono Hsz.out))
        have HW0:=Lib.hid (show W0.heap.size≤w1.heap.size from HB1.out.size)
        clear hO5 hB1 x0 x1 x2 m2 HIH
        go_wp2_with (at_builtin;refine app8 rfl (.tmp 27) (.tmp 28) rfl W0.heap.size (bs:=acc) (cs:=wk) rfl HO6.out rfl HO5.out (by have:=HLe.out;have:=HKl.out;rw [List.length_append] at *;omega) HW0.out ?_)
        intro A6 c6 w6 hw6 hb6
        have HW6:=Lib.hid hw6
        have HB6:=Lib.hid (HB1.out.trans (hb6.mono (by have:=Hz.out;omega)))
        have HT6:=Lib.hid (show acc++wk=encs (kids.take (j+1)) by rw [HTk.out])
        clear hw6 hb6
        go_wp2
        go_roundw
        case rel=>exact ⟨j+1,A6,c6,acc++wk,by omega,by go_num,by first | rfl | simp,HW6.out,HT6.out,HB6.out⟩
        case measure=>simp [intOf];omega
      · obtain rfl:j=kids.length:=by omega
        have hwk:acc=encs kids:=by rw [HAcc.out,List.take_of_length_le (Nat.le_refl _)]
        rw [←hwk] at HT0 HKl
        have HT:=HT0
        have HBl:=HKl
        have HRB:=Lib.hid (HO.out.rb (by have:=HKl.out;omega))
        have HPb:Hid (∀ q,In W0.heap.size wr.heap.size q→q<wr.heap.size):=Lib.hid (fun q hq=>hq.2)
        have HEW:=Lib.hid (HE.out.trans (HB.out.mono (by omega)))
        have HsW:=Lib.hid (show s≤wr.heap.size by have:=Hsz.out;omega)
        clear ih hbx hwk HT0 HKl
        obtain ⟨B,hBB⟩:∃ B,acc=B:=⟨_,rfl⟩
        rw [hBB] at HRB HBl HT
        rw [hBB]
        clear hBB HAcc HO
        generalize wr=W at *
        go_upto_region 9 with fail
        obtain ⟨N,hN⟩:∃ N,B.length=N:=⟨_,rfl⟩
        have HNl:=Lib.hid hN
        have HN7:=Lib.hid (show N≤10000000 by rw [←hN];exact HBl.out)
        rw [hN]
        clear hN
        have hO1:OW (W.alloc (.cells #[.int .u8 48] 5)) W.heap.size (some ⟨W.heap.size,0,none⟩) 1 [48]:=OW.lit W 48 (by omega)
        have HO1:=Lib.hid hO1
        obtain ⟨W1,hW1⟩:∃ W1,W.alloc (.cells #[.int .u8 48] 5)=W1:=⟨_,rfl⟩
        rw [hW1] at HO1
        have HB1:Hid (Below W.heap.size W W1):=Lib.hid (by rw [←hW1];exact (Below.refl _ W).alloc (Nat.le_refl _) _)
        have HW1:=Lib.hid hW1
        clear hO1 hW1
        by_cases h128:N<128
        · have h128':(N:Int)<128:=by omega
          have hN2:(N:Int) % 256=(N:Int):=by omega
          have hO2:=OW.lit W1 N (by omega)
          have HO2:=Lib.hid ((hO2.rb (by simp)).below (Below.refl _ _) (fun q hq=>hq.2))
          have HO3:=Lib.hid (ow_up HO1.out ((Below.refl W1.heap.size W1).alloc (Nat.le_refl _) (.cells #[.int .u8 (N:Int)] 5)))
          have HB2:=Lib.hid (HB1.out.trans ((Below.refl W.heap.size W1).alloc HB1.out.size (.cells #[.int .u8 (N:Int)] 5)))
          have HT2:=Lib.hid (show T=([48]++[N])++B by rw [HT.out];unfold hdB lenB;rw [HNl.out,if_pos h128];rfl)
          clear hO2 h128
          go_upto_region 11 with fail
          rw [HW1.out]
          clear HW1
          go_wp2_with (at_builtin;refine app8 rfl (.tmp 37) (.tmp 41) rfl W.heap.size (bs:=[48]) (cs:=[N]) rfl HO3.out rfl HO2.out (by simp) HB2.out.size ?_)
          intro A2 c2 w3 hw3 hb3
          have HW3:=Lib.hid hw3
          have HB3:=Lib.hid (HB2.out.trans hb3)
          clear hw3 hb3
          go_wp2_with (at_builtin;refine app8 rfl (.tmp 65) (.tmp 66) rfl W.heap.size (bs:=[48]++[N]) (cs:=B) rfl HW3.out (by rw [HNl.out];rfl) (HRB.out.below HB3.out HPb.out) (by rw [HNl.out];have:=HN7.out;simp;omega) HB3.out.size ?_)
          intro A4 c4 w4 hw4 hb4
          have HW4:=Lib.hid hw4
          have HB4:=Lib.hid (HEW.out.trans ((HB3.out.trans hb4).mono HsW.out))
          clear hw4 hb4
          go_wp2
          go_ret
          exact ⟨⟨A4,c4,(by rw [HT2.out];first | rfl | simp),by rw [HT2.out];exact ow_lower HW4.out (by have:=HsW.out;have:=Hs.out;omega)⟩,by rw [Hs.out];exact HB4.out⟩
        have h128':¬ (N:Int)<128:=by omega
        go_upto_region 12 with fail
        rw [HW1.out]
        clear HW1
        have hgo:=HB1.out.size
        go_wp2
        go_loopw [7,8] (fun v i wr=>∃ (x:Nat) (A:Option Addr) (c:Nat) (bs:List Nat),i=.int .i64 (x:Int)∧v=.slice A bs.length c∧OW wr W1.heap.size A c bs∧bs.length≤9∧x<256 ^ (9 - bs.length)∧x≤N∧up8 (9 - bs.length) x bs=up8 9 N []∧Below W1.heap.size W1 wr) (fun _ i _=>(intOf i).toNat)
        case atStart=>exact ⟨N,none,0,[],rfl,rfl,⟨World.ownsRow_nil _ _ _ _,by simp⟩,by simp,by have:=HN7.out;simp;omega,Nat.le_refl _,rfl,Below.refl _ _⟩
        case round =>
          obtain ⟨x,A,c,bs,rfl,rfl,hO,hl9,hx,hxN,hup,hB⟩:=hrel
          have HUp:=Lib.hid hup
          have HO:=Lib.hid hO
          have HB:=Lib.hid hB
          have hs:=hB.size
          clear hup hO hB
          by_cases hx0:0<x
          · have hl8:bs.length≤8:=by
              rcases Nat.lt_or_ge 8 bs.length with h | h
              · have:bs.length=9:=by omega
                rw [this] at hx
                simp at hx
                omega
              · exact h
            have HX:=Lib.hid (show x / 256<256 ^ (9 - (bs.length+1)) by
              rw [show 9 - bs.length=9 - (bs.length+1)+1 by omega,Nat.pow_succ] at hx
              exact Nat.div_lt_of_lt_mul (by rw [Nat.mul_comm];exact hx))
            obtain ⟨y,hy,hye⟩:∃ y:Nat,y<256∧(x:Int) % 256=(y:Int):=⟨x % 256,by omega,by omega⟩
            have HUp2:=Lib.hid (show up8 (9 - (bs.length+1)) (x / 256) (y :: bs)=up8 9 N [] by rw [show y=x % 256 by omega,←HUp.out,show 9 - bs.length=9 - (bs.length+1)+1 by omega,up8,if_neg (by omega)])
            have HL:=Lib.hid (OW.lit wr y hy)
            have HR:=Lib.hid ((HO.out.rb (by omega)).below ((Below.refl _ wr).alloc (Nat.le_refl _) (.cells #[.int .u8 (y:Int)] 5)) fun q hq=>hq.2)
            have hi:(0:Int)<(x:Int):=by omega
            have HN8:=Lib.hid (show x / 256≤N by omega)
            have Hw2:=Lib.hid (show wrap64 ((x:Int) / 256)=(x:Int) / 256 by have:=HN7.out;rw [←IntWalk.i64_left,IntKind.wrap_i64];omega)
            clear hx hxN
            go_wp2_with (at_builtin;refine app8 rfl (.tmp 52) (.tmp 53) rfl wr.heap.size (bs:=[y]) (cs:=bs) rfl HL.out rfl HR.out (by simp;omega) (by simp) ?_)
            intro A2 c2 w2 hw2 hb2
            have HB2:=Lib.hid ((HB.out.alloc hs (.cells #[.int .u8 (y:Int)] 5)).trans (hb2.mono hs))
            have HW2:=Lib.hid hw2
            clear hw2 hb2
            go_wp2
            go_roundw
            case rel=>exact ⟨x / 256,A2,c2,y :: bs,by first | (rw [Hw2.out];simp) | simp,rfl,ow_lower HW2.out hs,by simp;omega,by simpa using HX.out,HN8.out,by simpa using HUp2.out,HB2.out⟩
            case measure=>first | (rw [Hw2.out];simp [intOf];omega) | (simp [intOf];omega)
          · obtain rfl:x=0:=by omega
            have hlb:bs=beB N:=by rw [beB,←HUp.out];cases 9 - bs.length <;> simp [up8]
            have HT2:=Lib.hid (show T=(([48]++[128+bs.length])++bs)++B by rw [HT.out];unfold hdB lenB;rw [HNl.out,if_neg h128,hlb];simp)
            obtain ⟨L,hL⟩:∃ L,bs.length=L:=⟨_,rfl⟩
            have HL:=Lib.hid hL
            rw [hL]
            rw [hL] at hl9 HT2
            have hL2:(128+(L:Int)) % 256=((128+L:Nat):Int):=by omega
            have hL3:IntKind.i64.wrap (128+(L:Int))=128+(L:Int):=by rw [IntKind.wrap_i64];omega
            have hO4:=OW.lit wr (128+L) (by omega)
            have HO4:=Lib.hid ((hO4.rb (by simp)).below (Below.refl _ _) (fun q hq=>hq.2))
            have HO5:=Lib.hid (ow_up (ow_up HO1.out HB.out) ((Below.refl wr.heap.size wr).alloc (Nat.le_refl _) (.cells #[.int .u8 ((128+L:Nat):Int)] 5)))
            have HB5:=Lib.hid ((HB1.out.trans (HB.out.mono hgo)).alloc (Nat.le_trans hgo hs) (.cells #[.int .u8 ((128+L:Nat):Int)] 5))
            have HRl:=Lib.hid ((HO.out.rb (by omega)).below ((Below.refl _ wr).alloc (Nat.le_refl _) (.cells #[.int .u8 ((128+L:Nat):Int)] 5)) fun q hq=>hq.2)
            clear hlb hL hO4 hx hxN h128
            have hW1s:=HB1.out.size
            have HW1s:=Lib.hid (show W.heap.size<W1.heap.size from blk_lt1 HO1.out)
            go_wp2_with (at_builtin;refine app8g rfl (.tmp 55) (.tmp 60) rfl W.heap.size (bs:=[48]) (cs:=[128+L]) rfl HO5.out rfl HO4.out (by simp) HB5.out.size ?_)
            intro A2 c2 w3 hw3 hg3
            have HW3:=Lib.hid hw3
            have HB3:=Lib.hid (HB5.out.grown hg3 HB5.out.size (by intro k hk;simp [Value.ownBlock] at hk;omega))
            have HRl3:=Lib.hid (HRl.out.keep (w':=w3) fun p hp=>World.cell?_of_block (hg3.block _ (by have:=hp.2;simp;omega) (by have:=hp.1;have:=HW1s.out;simp [Value.ownBlock];omega)))
            clear hw3 hg3
            go_wp2_with (at_builtin;refine app8 rfl (.tmp 62) (.tmp 63) rfl W.heap.size (bs:=[48]++[128+L]) (cs:=bs) rfl HW3.out (by rw [HL.out];rfl) HRl3.out (by rw [HL.out];simp;omega) HB3.out.size ?_)
            intro A5 c5 w5 hw5 hb5
            have HW5:=Lib.hid hw5
            have HB5':=Lib.hid (HB3.out.trans hb5)
            clear hw5 hb5
            go_wp2_with (at_builtin;refine app8 rfl (.tmp 65) (.tmp 66) rfl W.heap.size (bs:=([48]++[128+L])++bs) (cs:=B) rfl HW5.out (by rw [HNl.out];rfl) (HRB.out.below HB5'.out HPb.out) (by rw [HNl.out];have:=HN7.out;simp;rw [HL.out];omega) HB5'.out.size ?_)
            intro A4 c4 w4 hw4 hb4
            have HW4:=Lib.hid hw4
            have HB4:=Lib.hid (HEW.out.trans ((HB5'.out.trans hb4).mono HsW.out))
            clear hw4 hb4
            go_wp2
            go_ret
            exact ⟨⟨A4,c4,(by rw [HT2.out];first | rfl | simp),by rw [HT2.out];exact ow_lower HW4.out (by have:=HsW.out;have:=Hs.out;omega)⟩,by rw [Hs.out];exact HB4.out⟩
end Go.Proofs.YtendnkpiidhogaaGreat.Der

namespace Go.Proofs.YtendnkpiidhogaaGreat.Der
open Go.RowKit Go.Shelf
attribute [local go_sem] Oper.semAt_some
def wrOf (t:DN):Option (List Nat):=if (cntR 1 t).isSome=false then none else if 65536<(enc t).length then none else some (enc t)
def WrP (R:Option (List Nat)) (s:Nat) (e:Ending) (w':World):Prop :=
 match R with
 | none=>e=.returned (.tuple #[.slice none 0 0,.bool false])
 | some b=>∃ A c,e=.returned (.tuple #[.slice A b.length c,.bool true])∧OW w' s A c b
theorem may11_any (P:Nat→Prop) (t:DN) (v:Value) (w:World) (h:RD w P t v) (hP:∀ q,P q→q<w.heap.size) :
    Calls Tryz.prog 237 #[v] w fun e w'=>e=.returned (.bool (cntR 1 t).isSome)∧Below w.heap.size w w':=by
  obtain ⟨xi,B1,n1,d1,B2,n2,d2,rfl⟩:=h.shape
  have hE:=(Below.refl w.heap.size w).alloc (Nat.le_refl _) (.cells #[.int .i64 xi,.slice B1 n1 d1,.slice B2 n2 d2] 172)
  have hc:=count_any 16 1 P t _ _ (by omega) (h.below hE hP) (fun q hq=>by have:=hP q hq;simp;omega)
  obtain ⟨R,hR⟩:∃ R,cntR 1 t=R:=⟨_,rfl⟩
  rw [hR] at hc ⊢
  have hpos:∀ c,R=some c→1≤c:=fun c h=>cntR_pos (hR.trans h)
  have HC:=Lib.hid hc
  have HE:=Lib.hid hE
  have HPos:=Lib.hid hpos
  clear hE hc h hR hpos
  go_enter Tryz.func237,Tryz.ntmps237
  go_wp2_with fail
  refine HC.out.mono ?_
  rintro e w1 ⟨rfl,hB1⟩
  have HB:=Lib.hid (HE.out.trans (hB1.mono (by simp)))
  clear hB1
  cases R with
  | none =>
    have hm:cntV none=-1:=rfl
    rw [hm]
    clear hm
    go_wp2
    go_ret
    exact ⟨rfl,HB.out⟩
  | some c =>
    have hm:cntV (some c)=(c:Int):=rfl
    rw [hm]
    have h1:(0:Int)<(c:Int):=by have:=HPos.out c rfl;omega
    have h1':0<c:=by have:=HPos.out c rfl;omega
    clear hm
    go_wp2
    go_ret
    exact ⟨rfl,HB.out⟩
theorem write11_any (P:Nat→Prop) (t:DN) (v:Value) (w:World) (h:RD w P t v) (hP:∀ q,P q→q<w.heap.size) (hl:(enc t).length≤10000000) :
 Calls Tryz.prog 222 #[v] w fun e w'=>WrP (wrOf t) w.heap.size e w'∧Below w.heap.size w w':=by
 obtain ⟨xi,B1,n1,d1,B2,n2,d2,rfl⟩:=h.shape
 have hE:=(Below.refl w.heap.size w).alloc (Nat.le_refl _) (.cells #[.int .i64 xi,.slice B1 n1 d1,.slice B2 n2 d2] 172)
 have hb:=h.below hE hP
 have hm:=may11_any P t _ _ hb (fun q hq=>by have:=hP q hq;simp;omega)
 have m0:(w.alloc (.cells #[.int .i64 xi,.slice B1 n1 d1,.slice B2 n2 d2] 172)).cell? ⟨w.heap.size,0,none⟩=some (.int .i64 xi):=by simp [go_sem]
 have m1:(w.alloc (.cells #[.int .i64 xi,.slice B1 n1 d1,.slice B2 n2 d2] 172)).cell? ⟨w.heap.size,1,none⟩=some (.slice B1 n1 d1):=by simp [go_sem]
 have m2:(w.alloc (.cells #[.int .i64 xi,.slice B1 n1 d1,.slice B2 n2 d2] 172)).cell? ⟨w.heap.size,2,none⟩=some (.slice B2 n2 d2):=by simp [go_sem]
 have HM:=Lib.hid hm
 have HE:=Lib.hid hE
 have HB:=Lib.hid hb
 have HP:=Lib.hid hP
 have Hz:=Lib.hid (show w.heap.size<(w.alloc (.cells #[.int .i64 xi,.slice B1 n1 d1,.slice B2 n2 d2] 172)).heap.size by simp)
 obtain ⟨R,hR⟩:∃ R,wrOf t=R:=⟨_,rfl⟩
 rw [hR]
 unfold wrOf at hR
 obtain ⟨p,hp⟩:∃ p,(cntR 1 t).isSome=p:=⟨_,rfl⟩
 rw [hp] at hR HM
 have HR:=Lib.hid hR.symm
 clear hE hb hm h hP hR hp
 go_enter Tryz.func222,Tryz.ntmps222
 go_wp2_with fail
 generalize w.alloc (.cells #[.int .i64 xi,.slice B1 n1 d1,.slice B2 n2 d2] 172)=W0 at *
 refine HM.out.mono ?_
 rintro e w1 ⟨rfl,hB1⟩
 have n0':=(hB1.cell (p:=⟨w.heap.size,0,none⟩) Hz.out).trans m0
 have n1':=(hB1.cell (p:=⟨w.heap.size,1,none⟩) Hz.out).trans m1
 have n2':=(hB1.cell (p:=⟨w.heap.size,2,none⟩) Hz.out).trans m2
 have hs1:=hB1.size
 have hsE:=HE.out.size
 have HB1:=Lib.hid (HE.out.trans (hB1.mono hsE))
 have hp:=put_any (SizeOf.sizeOf t) P t _ w1 (Nat.le_refl _) hl (RD.below HB.out hB1 (fun b hb=>Nat.lt_of_lt_of_le (HP.out b hb) hsE)) (fun b hb=>Nat.lt_of_lt_of_le (HP.out b hb) (Nat.le_trans hsE hs1))
 obtain ⟨E,hE⟩:∃ E,enc t=E:=⟨_,rfl⟩
 rw [hE] at hp hl HR
 have HPut:=Lib.hid hp
 clear hB1 m0 m1 m2 hp hE
 cases p
 · have hR:R=none:=HR.out.trans (if_pos rfl)
   subst hR
   go_wp2
   go_ret2
   exact ⟨rfl,HB1.out⟩
 go_wp2_with fail
 refine HPut.out.mono ?_
 rintro e w2 ⟨⟨A1,c1,rfl,hr1⟩,hB2⟩
 have HR1:=Lib.hid hr1
 have HB2:=Lib.hid (HB1.out.trans (hB2.mono (Nat.le_trans hsE hs1)))
 obtain ⟨L,hL⟩:∃ L,E.length=L:=⟨_,rfl⟩
 have HL:=Lib.hid hL
 rw [hL] at hl ⊢
 clear hr1 hB2 hL
 by_cases h6:65536<L
 · have hR:R=none:=HR.out.trans ((if_neg (by simp)).trans (if_pos (by rw [HL.out];exact h6)))
   subst hR
   have h6':(65536:Int)<(L:Int):=by omega
   go_wp2
   go_ret2
   exact ⟨rfl,HB2.out⟩
 · have hR:R=some E:=HR.out.trans ((if_neg (by simp)).trans (if_neg (by rw [HL.out];exact h6)))
   subst hR
   have h6':¬ (65536:Int)<(L:Int):=by omega
   go_wp2
   go_ret2
   exact ⟨⟨A1,c1,(by rw [HL.out];rfl),ow_lower HR1.out (Nat.le_trans hsE hs1)⟩,HB2.out⟩
theorem write12_any (P:Nat→Prop) (t:DN) (v:Value) (w:World) (h:RD w P t v) (hP:∀ q,P q→q<w.heap.size) (hl:(enc t).length≤10000000) :
    Calls Tryz.prog 191 #[v] w fun e w'=>WrP (wrOf t) w.heap.size e w'∧Below w.heap.size w w':=by
  obtain ⟨xi,B1,n1,d1,B2,n2,d2,rfl⟩:=h.shape
  have hE:=(Below.refl w.heap.size w).alloc (Nat.le_refl _) (.cells #[.int .i64 xi,.slice B1 n1 d1,.slice B2 n2 d2] 172)
  have hm:=write11_any P t _ _ (h.below hE hP) (fun b hb=>by have:=hP b hb;simp;omega) hl
  obtain ⟨R,hR⟩:∃ R,wrOf t=R:=⟨_,rfl⟩
  rw [hR] at hm ⊢
  have HM:=Lib.hid hm
  have HE:=Lib.hid hE
  clear hE hm h hP hR
  go_enter Tryz.func191,Tryz.ntmps191
  go_wp2_with fail
  refine HM.out.mono ?_
  rintro e w1 ⟨hW,hB1⟩
  have HB1:=Lib.hid (HE.out.trans (hB1.mono (by simp)))
  clear hB1
  cases R with
  | none =>
    unfold WrP at hW
    subst hW
    go_wp2
    go_ret2
    exact ⟨rfl,HB1.out⟩
  | some b =>
    obtain ⟨A1,c1,rfl,hr1⟩:=hW
    have HR1:=Lib.hid hr1
    clear hr1
    go_wp2
    go_ret2
    exact ⟨⟨A1,c1,rfl,ow_lower HR1.out (by simp)⟩,HB1.out⟩
end Go.Proofs.YtendnkpiidhogaaGreat.Der

namespace Go.Proofs.YtendnkpiidhogaaGreat.Der
open Go.RowKit Go.Shelf
attribute [local go_sem] Oper.semAt_some
theorem oid12_any (P:Nat→Prop) (g c:Nat) (l:List Int) (w:World) (hv:RZ w P (some ⟨g,0,none⟩) c l) (hP:∀ b,P b→b<w.heap.size) (hl:3≤l.length∧l.length≤12) (h0:l.getD 0 0=1) (h1:0≤l.getD 1 0∧l.getD 1 0≤39) (ha:∀ k,0≤l.getD k 0∧l.getD k 0<268435400) :
 Calls Tryz.prog 221 #[.slice (some ⟨g,0,none⟩) l.length c] w fun e w'=>(∃ A1 c1,e=.returned (.agg #[.int .i64 6,.slice A1 (oidOf l).length c1,.slice none 0 0])∧RB w' (In w.heap.size w'.heap.size) A1 c1 (oidOf l))∧Below w.heap.size w w':=by
 have hB:=(Below.refl w.heap.size w).alloc (Nat.le_refl _) (.cells #[.int .i64 0,.slice none 0 0,.slice none 0 0] 172)
 have hb:=heap_alloc_new w (.cells #[.int .i64 0,.slice none 0 0,.slice none 0 0] 172)
 have hz:(w.alloc (.cells #[.int .i64 0,.slice none 0 0,.slice none 0 0] 172)).heap.size=w.heap.size+1:=by simp
 have hO:=refOid_any P g c l _ (hv.below hB hP) (fun b hb=>by have:=hP b hb;rw [hz];omega) hl h0 h1 ha
 have HB:=Lib.hid hB
 have H0:=Lib.hid hb
 have Hz:=Lib.hid hz
 obtain ⟨bb,hbb⟩:∃ bb,oidOf l=bb:=⟨_,rfl⟩
 rw [hbb] at hO ⊢
 have HO:=Lib.hid hO
 clear hB hb hz hO hv hP hl h0 h1 ha hbb
 go_enter Tryz.func221,Tryz.ntmps221
 go_wp2_with fail
 obtain ⟨s,hs⟩:∃ s,w.heap.size=s:=⟨_,rfl⟩
 rw [hs] at HB H0 Hz ⊢
 have Hs:=Lib.hid hs
 clear hs
 generalize w.alloc (.cells #[.int .i64 0,.slice none 0 0,.slice none 0 0] 172)=W1 at *
 refine HO.out.mono ?_
 rintro e w2 ⟨⟨A1,c1,rfl,hr1⟩,hB2⟩
 obtain ⟨n,hn⟩:∃ n,bb.length=n:=⟨_,rfl⟩
 rw [hn]
 have Hn:=Lib.hid hn
 have Hr1:=Lib.hid hr1
 clear hn hr1
 have h2:=(hB2.block s (by have:=Hz.out;omega)).trans H0.out
 have hlt:s<w2.heap.size:=by have:=Hz.out;have:=hB2.size;omega
 have HB3:=Lib.hid (HB.out.trans (hB2.mono (by have:=Hz.out;omega)))
 have H2:=Lib.hid h2
 have q0:=blk_cell h2 0
 have q1:=blk_cell h2 1
 have q2:=blk_cell h2 2
 have p0:=blk_free h2 0
 have p1:=blk_free h2 1
 have p2:=blk_free h2 2
 simp only [List.getElem?_toArray,List.getElem?_cons_zero,List.getElem?_cons_succ] at q0 q1 q2
 clear h2 hB2 H0
 go_wp2
 have r:=set3a H2.out (.int .i64 6) (.slice A1 n c1) (.slice none 0 0) (.cells #[.int .i64 6,.slice A1 n c1,.slice none 0 0] 172)
 have r0:=blk_cell r 0
 have r1:=blk_cell r 1
 have r2:=blk_cell r 2
 simp only [List.getElem?_toArray,List.getElem?_cons_zero,List.getElem?_cons_succ] at r0 r1 r2
 refine bodyPost_ret (v:=.agg #[.int .i64 6,.slice A1 n c1,.slice none 0 0]) (by simp [results,Tryz.results221,go_sem,r0,r1,r2]) rfl ⟨⟨A1,c1,by rw [Hn.out],?_⟩,?_⟩
 · rw [Hs.out]
   refine (Hr1.out.keep fun p hp=>World.cell?_of_block ?_).mono fun q hq=>⟨by have:=hq.1;have:=Hz.out;omega,by have:=hq.2;simp [World.setCell];omega⟩
   have hq:p.block≠s:=by have:=hp.1;have:=Hz.out;omega
   have hq2:p.block<w2.heap.size:=hp.2
   exact (Below.heap_alloc _ _ _ (by simpa [World.setCell] using hq2)).trans ((Below.heap_setCell _ _ _ _ hq).trans ((Below.heap_setCell _ _ _ _ hq).trans (Below.heap_setCell _ _ _ _ hq)))
 · rw [Hs.out]
   exact (((HB3.out.setCell (p:=⟨s,0,none⟩) (by simp) _).setCell (p:=⟨s,1,none⟩) (by simp) _).setCell (p:=⟨s,2,none⟩) (by simp) _).alloc (by simp;omega) _
theorem all_small2 {l:List Int} (h:∀ x∈l,0≤x∧x<268435400) (k:Nat):0≤l.getD k 0∧l.getD k 0<268435400:=by
 rcases Nat.lt_or_ge k l.length with hk | hk
 · rw [List.getD_eq_getElem?_getD,List.getElem?_eq_getElem hk];exact h _ (List.getElem_mem hk)
 · rw [List.getD_eq_getElem?_getD,List.getElem?_eq_none hk];simp
theorem params12_1 (w:World):Calls Tryz.prog 190 #[.int .i64 1] w fun e w'=>(∃ A1 c1,e=.returned (.tuple #[.agg #[.int .i64 6,.slice A1 8 c1,.slice none 0 0],.bool true])∧RB w' (In w.heap.size w'.heap.size) A1 c1 oid1)∧Below w.heap.size w w':=by
 have hB:=((Below.refl w.heap.size w).alloc (Nat.le_refl _) (.cells #[.int .i64 0,.slice none 0 0,.slice none 0 0] 172)).alloc (by simp) (.cells #[.int .i64 1,.int .i64 2,.int .i64 840,.int .i64 10045,.int .i64 3,.int .i64 1,.int .i64 7] 3)
 have hb:=(Below.heap_alloc (w.alloc (.cells #[.int .i64 0,.slice none 0 0,.slice none 0 0] 172)) (.cells #[.int .i64 1,.int .i64 2,.int .i64 840,.int .i64 10045,.int .i64 3,.int .i64 1,.int .i64 7] 3) w.heap.size (by simp)).trans (heap_alloc_new w _)
 have hz:((w.alloc (.cells #[.int .i64 0,.slice none 0 0,.slice none 0 0] 172)).alloc (.cells #[.int .i64 1,.int .i64 2,.int .i64 840,.int .i64 10045,.int .i64 3,.int .i64 1,.int .i64 7] 3)).heap.size=w.heap.size+2:=by simp
 have hR:RZ _ (fun b=>b<w.heap.size+2) _ 7 [1,2,840,10045,3,1,7]:=RS.fresh (w:=(w.alloc (.cells #[.int .i64 0,.slice none 0 0,.slice none 0 0] 172))) (P:=fun b=>b<w.heap.size+2) #[.int .i64 1,.int .i64 2,.int .i64 840,.int .i64 10045,.int .i64 3,.int .i64 1,.int .i64 7] 3 1 7 rfl (by unfold maxLen;omega) (by simp)
 rw [World.size_alloc] at hR
 have hO:=oid12_any (fun b=>b<w.heap.size+2) (w.heap.size+1) 7 [1,2,840,10045,3,1,7] _ hR (fun b hb=>by rw [hz];exact hb) (by simp) rfl (by simp) (all_small2 (by simp))
 have HB:=Lib.hid hB
 have H0:=Lib.hid hb
 have Hz:=Lib.hid hz
 rw [oid1_eq] at hO
 have HO:=Lib.hid hO
 clear hB hb hz hO hR
 go_enter Tryz.func190,Tryz.ntmps190
 go_wp2_with fail
 obtain ⟨s,hs⟩:∃ s,w.heap.size=s:=⟨_,rfl⟩
 rw [hs] at HB H0 Hz HO ⊢
 have Hs:=Lib.hid hs
 clear hs
 generalize (w.alloc (.cells #[.int .i64 0,.slice none 0 0,.slice none 0 0] 172)).alloc (.cells #[.int .i64 1,.int .i64 2,.int .i64 840,.int .i64 10045,.int .i64 3,.int .i64 1,.int .i64 7] 3)=W1 at *
 refine HO.out.mono ?_
 rintro e w2 ⟨⟨A1,c1,rfl,hr1⟩,hB2⟩
 have Hr1:=Lib.hid hr1
 have hn:oid1.length=8:=rfl
 rw [hn]
 clear hr1 hn
 have h2:=(hB2.block s (by have:=Hz.out;omega)).trans H0.out
 have hlt:s<w2.heap.size:=by have:=Hz.out;have:=hB2.size;omega
 have HB3:=Lib.hid (HB.out.trans (hB2.mono (by have:=Hz.out;omega)))
 have H2:=Lib.hid h2
 have q0:=blk_cell h2 0
 have q1:=blk_cell h2 1
 have q2:=blk_cell h2 2
 have p0:=blk_free h2 0
 have p1:=blk_free h2 1
 have p2:=blk_free h2 2
 simp only [List.getElem?_toArray,List.getElem?_cons_zero,List.getElem?_cons_succ] at q0 q1 q2
 clear h2 hB2 H0
 go_wp2
 have r:=set3 H2.out (.int .i64 6) (.slice A1 8 c1) (.slice none 0 0)
 have r0:=blk_cell r 0
 have r1:=blk_cell r 1
 have r2:=blk_cell r 2
 simp only [List.getElem?_toArray,List.getElem?_cons_zero,List.getElem?_cons_succ] at r0 r1 r2
 refine bodyPost_ret (v:=.tuple #[.agg #[.int .i64 6,.slice A1 8 c1,.slice none 0 0],.bool true]) (by simp [results,Tryz.results190,go_sem,r0,r1,r2]) rfl ⟨⟨A1,c1,rfl,?_⟩,?_⟩
 · rw [Hs.out]
   refine (Hr1.out.keep fun p hp=>World.cell?_of_block ?_).mono fun q hq=>⟨by have:=hq.1;have:=Hz.out;omega,by have:=hq.2;simpa [World.setCell] using this⟩
   have hq:p.block≠s:=by have:=hp.1;have:=Hz.out;omega
   exact (Below.heap_setCell _ _ _ _ hq).trans ((Below.heap_setCell _ _ _ _ hq).trans (Below.heap_setCell _ _ _ _ hq))
 · rw [Hs.out]
   exact ((HB3.out.setCell (p:=⟨s,0,none⟩) (by simp) _).setCell (p:=⟨s,1,none⟩) (by simp) _).setCell (p:=⟨s,2,none⟩) (by simp) _
theorem params12_2 (w:World):Calls Tryz.prog 190 #[.int .i64 2] w fun e w'=>(∃ A1 c1,e=.returned (.tuple #[.agg #[.int .i64 6,.slice A1 5 c1,.slice none 0 0],.bool true])∧RB w' (In w.heap.size w'.heap.size) A1 c1 oid2)∧Below w.heap.size w w':=by
 have hB:=((Below.refl w.heap.size w).alloc (Nat.le_refl _) (.cells #[.int .i64 0,.slice none 0 0,.slice none 0 0] 172)).alloc (by simp) (.cells #[.int .i64 1,.int .i64 3,.int .i64 132,.int .i64 0,.int .i64 34] 3)
 have hb:=(Below.heap_alloc (w.alloc (.cells #[.int .i64 0,.slice none 0 0,.slice none 0 0] 172)) (.cells #[.int .i64 1,.int .i64 3,.int .i64 132,.int .i64 0,.int .i64 34] 3) w.heap.size (by simp)).trans (heap_alloc_new w _)
 have hz:((w.alloc (.cells #[.int .i64 0,.slice none 0 0,.slice none 0 0] 172)).alloc (.cells #[.int .i64 1,.int .i64 3,.int .i64 132,.int .i64 0,.int .i64 34] 3)).heap.size=w.heap.size+2:=by simp
 have hR:RZ _ (fun b=>b<w.heap.size+2) _ 5 [1,3,132,0,34]:=RS.fresh (w:=(w.alloc (.cells #[.int .i64 0,.slice none 0 0,.slice none 0 0] 172))) (P:=fun b=>b<w.heap.size+2) #[.int .i64 1,.int .i64 3,.int .i64 132,.int .i64 0,.int .i64 34] 3 1 5 rfl (by unfold maxLen;omega) (by simp)
 rw [World.size_alloc] at hR
 have hO:=oid12_any (fun b=>b<w.heap.size+2) (w.heap.size+1) 5 [1,3,132,0,34] _ hR (fun b hb=>by rw [hz];exact hb) (by simp) rfl (by simp) (all_small2 (by simp))
 have HB:=Lib.hid hB
 have H0:=Lib.hid hb
 have Hz:=Lib.hid hz
 rw [oid2_eq] at hO
 have HO:=Lib.hid hO
 clear hB hb hz hO hR
 go_enter Tryz.func190,Tryz.ntmps190
 go_wp2_with fail
 obtain ⟨s,hs⟩:∃ s,w.heap.size=s:=⟨_,rfl⟩
 rw [hs] at HB H0 Hz HO ⊢
 have Hs:=Lib.hid hs
 clear hs
 generalize (w.alloc (.cells #[.int .i64 0,.slice none 0 0,.slice none 0 0] 172)).alloc (.cells #[.int .i64 1,.int .i64 3,.int .i64 132,.int .i64 0,.int .i64 34] 3)=W1 at *
 refine HO.out.mono ?_
 rintro e w2 ⟨⟨A1,c1,rfl,hr1⟩,hB2⟩
 have Hr1:=Lib.hid hr1
 have hn:oid2.length=5:=rfl
 rw [hn]
 clear hr1 hn
 have h2:=(hB2.block s (by have:=Hz.out;omega)).trans H0.out
 have hlt:s<w2.heap.size:=by have:=Hz.out;have:=hB2.size;omega
 have HB3:=Lib.hid (HB.out.trans (hB2.mono (by have:=Hz.out;omega)))
 have H2:=Lib.hid h2
 have q0:=blk_cell h2 0
 have q1:=blk_cell h2 1
 have q2:=blk_cell h2 2
 have p0:=blk_free h2 0
 have p1:=blk_free h2 1
 have p2:=blk_free h2 2
 simp only [List.getElem?_toArray,List.getElem?_cons_zero,List.getElem?_cons_succ] at q0 q1 q2
 clear h2 hB2 H0
 go_wp2
 have r:=set3 H2.out (.int .i64 6) (.slice A1 5 c1) (.slice none 0 0)
 have r0:=blk_cell r 0
 have r1:=blk_cell r 1
 have r2:=blk_cell r 2
 simp only [List.getElem?_toArray,List.getElem?_cons_zero,List.getElem?_cons_succ] at r0 r1 r2
 refine bodyPost_ret (v:=.tuple #[.agg #[.int .i64 6,.slice A1 5 c1,.slice none 0 0],.bool true]) (by simp [results,Tryz.results190,go_sem,r0,r1,r2]) rfl ⟨⟨A1,c1,rfl,?_⟩,?_⟩
 · rw [Hs.out]
   refine (Hr1.out.keep fun p hp=>World.cell?_of_block ?_).mono fun q hq=>⟨by have:=hq.1;have:=Hz.out;omega,by have:=hq.2;simpa [World.setCell] using this⟩
   have hq:p.block≠s:=by have:=hp.1;have:=Hz.out;omega
   exact (Below.heap_setCell _ _ _ _ hq).trans ((Below.heap_setCell _ _ _ _ hq).trans (Below.heap_setCell _ _ _ _ hq))
 · rw [Hs.out]
   exact ((HB3.out.setCell (p:=⟨s,0,none⟩) (by simp) _).setCell (p:=⟨s,1,none⟩) (by simp) _).setCell (p:=⟨s,2,none⟩) (by simp) _
def kp1:List Nat:=6 :: 8 :: oid1
def kp2:List Nat:=6 :: 5 :: oid2
theorem kp1_eq:wrOf (.mk 6 oid1 [])=some kp1:=by decide +kernel
theorem kp2_eq:wrOf (.mk 6 oid2 [])=some kp2:=by decide +kernel
theorem rd_leaf {w:World} {P:Nat→Prop} {A:Option Addr} {c tag:Nat} {bs:List Nat} (ht:tag≠48) (h:RB w P A c bs):RD w P (.mk tag bs []) (.agg #[.int .i64 (tag:Int),.slice A bs.length c,.slice none 0 0]):=by
 unfold RD
 exact ⟨A,c,none,0,[],rfl,h,fun e=>absurd e ht,RS.nil_ _ _ _,by unfold RDs;rfl⟩
theorem Params12_1 (w:World):Calls Tryz.prog 155 #[.int .i64 1] w fun e w'=>(∃ A1 c1,e=.returned (.tuple #[.slice A1 kp1.length c1,.bool true])∧OW w' w.heap.size A1 c1 kp1)∧Below w.heap.size w w':=by
 go_enter Tryz.func155,Tryz.ntmps155
 go_wp2_with fail
 refine (params12_1 w).mono ?_
 rintro e w1 ⟨⟨A1,c1,rfl,hr⟩,hB1⟩
 have hs1:=hB1.size
 have hE:=(Below.refl w1.heap.size w1).alloc (Nat.le_refl _) (.cells #[.int .i64 6,.slice A1 8 c1,.slice none 0 0] 172)
 have hw:=write12_any _ (.mk 6 oid1 []) _ _ (rd_leaf (by decide) (hr.below hE fun b hb=>hb.2)) (fun b hb=>by have:=hb.2;simp;omega) (by decide)
 rw [kp1_eq] at hw
 have HW:=Lib.hid hw
 have HE:=Lib.hid (hB1.trans (hE.mono hs1))
 clear hw hE hB1 hr
 go_wp2_with fail
 refine HW.out.mono ?_
 rintro e w2 ⟨hW,hB2⟩
 obtain ⟨A2,c2,rfl,hr2⟩:=hW
 have HR2:=Lib.hid hr2
 have HB2:=Lib.hid (HE.out.trans (hB2.mono (by simp;omega)))
 clear hr2 hB2
 go_wp2
 go_ret2
 exact ⟨⟨A2,c2,rfl,ow_lower HR2.out (by simp;omega)⟩,HB2.out⟩
theorem Params12_2 (w:World):Calls Tryz.prog 155 #[.int .i64 2] w fun e w'=>(∃ A1 c1,e=.returned (.tuple #[.slice A1 kp2.length c1,.bool true])∧OW w' w.heap.size A1 c1 kp2)∧Below w.heap.size w w':=by
 go_enter Tryz.func155,Tryz.ntmps155
 go_wp2_with fail
 refine (params12_2 w).mono ?_
 rintro e w1 ⟨⟨A1,c1,rfl,hr⟩,hB1⟩
 have hs1:=hB1.size
 have hE:=(Below.refl w1.heap.size w1).alloc (Nat.le_refl _) (.cells #[.int .i64 6,.slice A1 5 c1,.slice none 0 0] 172)
 have hw:=write12_any _ (.mk 6 oid2 []) _ _ (rd_leaf (by decide) (hr.below hE fun b hb=>hb.2)) (fun b hb=>by have:=hb.2;simp;omega) (by decide)
 rw [kp2_eq] at hw
 have HW:=Lib.hid hw
 have HE:=Lib.hid (hB1.trans (hE.mono hs1))
 clear hw hE hB1 hr
 go_wp2_with fail
 refine HW.out.mono ?_
 rintro e w2 ⟨hW,hB2⟩
 obtain ⟨A2,c2,rfl,hr2⟩:=hW
 have HR2:=Lib.hid hr2
 have HB2:=Lib.hid (HE.out.trans (hB2.mono (by simp;omega)))
 clear hr2 hB2
 go_wp2
 go_ret2
 exact ⟨⟨A2,c2,rfl,ow_lower HR2.out (by simp;omega)⟩,HB2.out⟩
def rpOf (b:List Nat):Int:=if b=kp1 then 1 else if b=kp2 then 2 else 0
theorem readParams12_any (P:Nat→Prop) (A:Option Addr) (c:Nat) (bs:List Nat) (w:World) (h:RB w P A c bs) (hP:∀ b,P b→b<w.heap.size) :
 Calls Tryz.prog 114 #[.slice A bs.length c] w fun e w'=>e=.returned (.tuple #[.int .i64 (rpOf bs),.bool (decide (rpOf bs≠0))])∧Below w.heap.size w w':=by
 obtain ⟨R,hR⟩:∃ R,rpOf bs=R:=⟨_,rfl⟩
 rw [hR]
 have HR:=Lib.hid hR
 clear hR
 go_enter Tryz.func114,Tryz.ntmps114
 go_wp2
 go_loopw [4] (fun i wr=>∃ z:Int,i=.int .i64 z∧Below w.heap.size w wr∧(z=1∨z=2∨z=3)∧(z≠1→kp1≠bs)∧(z=3→kp2≠bs)) (fun i _=>3 - (intOf i).toNat)
 case atStart=>exact ⟨1,rfl,Below.refl _ _,.inl rfl,fun h=>absurd rfl h,fun h=>absurd h (by decide)⟩
 case round =>
  obtain ⟨z,rfl,hB,hz,hn1,hn2⟩:=hrel
  have HN1:=Lib.hid hn1
  have HN2:=Lib.hid hn2
  have hs:=hB.size
  clear hn1 hn2
  rcases hz with rfl | rfl | rfl
  · go_wp2_with fail
    refine (Params12_1 wr).mono ?_
    rintro e w1 ⟨⟨A1,c1,rfl,ho1⟩,hB1⟩
    have HB1:=Lib.hid (hB.trans (hB1.mono hs))
    have hu:=h.below HB1.out hP
    have hr1:=ho1.rb (by decide)
    have s1:=hr1.str (P:=Tryz.prog) 33 5 9 Tryz.underlying33 Tryz.underlying5 Tryz.underlying9
    have s2:=hu.str (P:=Tryz.prog) 33 5 9 Tryz.underlying33 Tryz.underlying5 Tryz.underlying9
    by_cases he:kp1=bs
    · have hR:R=1:=by rw [←HR.out,←he];decide
      subst hR
      subst he
      clear hB1 hr1 hu ho1
      go_wp2
      go_ret2
      exact ⟨rfl,HB1.out⟩
    · have hne:((strB kp1).toList==(strB bs).toList)=false:=by
       rw [beq_eq_false_iff_ne]
       exact fun h1=>he (strB_inj hr1.2.1 hu.2.1 h1)
      have He:=Lib.hid he
      have kl:kp1.length=10:=rfl
      rw [kl] at s1
      rw [kl]
      clear hB1 hr1 hu he ho1 kl
      go_wp2
      go_roundw
      case rel=>exact ⟨2,by go_num,HB1.out,.inr (.inl rfl),fun _=>He.out,fun h=>absurd h (by decide)⟩
      case measure=>first | (simp [intOf];done) | (simp [intOf];decide)
  · go_wp2_with fail
    refine (Params12_2 wr).mono ?_
    rintro e w1 ⟨⟨A1,c1,rfl,ho1⟩,hB1⟩
    have HB1:=Lib.hid (hB.trans (hB1.mono hs))
    have hu:=h.below HB1.out hP
    have hr1:=ho1.rb (by decide)
    have s1:=hr1.str (P:=Tryz.prog) 33 5 9 Tryz.underlying33 Tryz.underlying5 Tryz.underlying9
    have s2:=hu.str (P:=Tryz.prog) 33 5 9 Tryz.underlying33 Tryz.underlying5 Tryz.underlying9
    by_cases he:kp2=bs
    · have hR:R=2:=by rw [←HR.out,←he];decide
      subst hR
      subst he
      clear hB1 hr1 hu ho1
      go_wp2
      go_ret2
      exact ⟨rfl,HB1.out⟩
    · have hne:((strB kp2).toList==(strB bs).toList)=false:=by
       rw [beq_eq_false_iff_ne]
       exact fun h1=>he (strB_inj hr1.2.1 hu.2.1 h1)
      have He:=Lib.hid he
      have kl:kp2.length=7:=rfl
      rw [kl] at s1
      rw [kl]
      clear hB1 hr1 hu he ho1 kl
      go_wp2
      go_roundw
      case rel=>exact ⟨3,by go_num,HB1.out,.inr (.inr rfl),fun _=>HN1.out (by decide),fun _=>He.out⟩
      case measure=>first | (simp [intOf];done) | (simp [intOf];decide)
  · have hR:R=0:=by
     rw [←HR.out]
     unfold rpOf
     rw [if_neg (fun e=>HN1.out (by decide) e.symm),if_neg (fun e=>HN2.out rfl e.symm)]
    subst hR
    go_wp2
    go_ret2
    exact ⟨rfl,hB⟩
end Go.Proofs.YtendnkpiidhogaaGreat.Der

namespace Go.Proofs.YtendnkpiidhogaaGreat.Der
open Go.RowKit Go.Shelf
attribute [local go_sem] Oper.semAt_some
def whichOf (z:Int) (bs:List Nat):Int:=if z=6∧bs=oid1 then 1 else if z=6∧bs=oid2 then 2 else 0
theorem which_any (P:Nat→Prop) (z:Int) (A Ak:Option Addr) (c nk ck:Nat) (bs:List Nat) (w:World) (hb:RB w P A c bs) (hP:∀ q,P q→q<w.heap.size):Calls Tryz.prog 152 #[.agg #[.int .i64 z,.slice A bs.length c,.slice Ak nk ck]] w fun e w'=>e=.returned (.int .i64 (whichOf z bs))∧Below w.heap.size w w':=by
 have hB:=((Below.refl w.heap.size w).alloc (Nat.le_refl _) (.cells #[.int .i64 z,.slice A bs.length c,.slice Ak nk ck] 172)).alloc (by simp) (.cells #[.int .i64 1,.int .i64 2] 3)
 have hb':=(Below.heap_alloc (w.alloc (.cells #[.int .i64 z,.slice A bs.length c,.slice Ak nk ck] 172)) (.cells #[.int .i64 1,.int .i64 2] 3) w.heap.size (by simp)).trans (heap_alloc_new w _)
 have hc:=heap_alloc_new (w.alloc (.cells #[.int .i64 z,.slice A bs.length c,.slice Ak nk ck] 172)) (.cells #[.int .i64 1,.int .i64 2] 3)
 rw [World.size_alloc] at hc
 have HB:=Lib.hid hB
 have Hb:=Lib.hid hb'
 have Hc:=Lib.hid hc
 have HR:=Lib.hid hb
 have HP:=Lib.hid hP
 clear hB hb hc hb' hP
 obtain ⟨s,hs⟩:∃ s,w.heap.size=s:=⟨_,rfl⟩
 rw [hs] at HB Hb Hc HP
 have Hs:=Lib.hid hs
 clear hs
 go_enter Tryz.func152,Tryz.ntmps152
 go_wp2
 rw [Hs.out]
 go_loopw [9] (fun i wr=>∃ y:Int,i=.int .i64 y∧Below s w wr∧wr.heap[s]?=some (.cells #[.int .i64 z,.slice A bs.length c,.slice Ak nk ck] 172 (0,0))∧wr.heap[s+1]?=some (.cells #[.int .i64 1,.int .i64 2] 3 (0,0))∧(z=6→y≠0→bs≠oid1)∧(y=2→z=6→bs≠oid2)∧(y=0∨y=1∨y=2)) (fun i _=>2 - (intOf i).toNat)
 case atStart=>exact ⟨0,rfl,HB.out,Hb.out,Hc.out,fun _ h=>absurd rfl h,fun h=>absurd h (by decide),.inl rfl⟩
 case round =>
  clear HB Hb Hc
  obtain ⟨y,rfl,hB,hb,hc,hn1,hn2,hz⟩:=hrel
  have HN1:=Lib.hid hn1
  have HN2:=Lib.hid hn2
  clear hn1 hn2
  have x0:=blk_cell hc 0
  have x1:=blk_cell hc 1
  simp only [List.getElem?_toArray,List.getElem?_cons_zero,List.getElem?_cons_succ] at x0 x1
  have hl1:=blk_lt hc
  have hs1:=hB.size
  have HB:=Lib.hid hB
  have Hb:=Lib.hid hb
  have Hc:=Lib.hid hc
  clear hB hb hc
  rcases hz with rfl | rfl | rfl
  · go_wp2_with fail
    refine (params_1 wr).mono ?_
    rintro e w2 ⟨⟨A1,c1,rfl,hr1⟩,hB2⟩
    have h2:=(hB2.block s (by omega)).trans Hb.out
    have h3:=(hB2.block (s+1) hl1).trans Hc.out
    have hlt:s<w2.heap.size:=by have:=hB2.size;omega
    have hlt3:s+1<w2.heap.size:=by have:=hB2.size;omega
    have q0:=blk_cell h2 0
    have q1:=blk_cell h2 1
    simp only [List.getElem?_toArray,List.getElem?_cons_zero,List.getElem?_cons_succ] at q0 q1
    have HB3:=Lib.hid (HB.out.trans (hB2.mono (by omega)))
    have H2:=Lib.hid h2
    have H3:=Lib.hid h3
    have Hr1:=Lib.hid (hr1.keep (w':=w2.alloc (.cells #[.int .i64 6,.slice A1 8 c1,.slice none 0 0] 172)) fun p hp=>World.cell?_of_block (Below.heap_alloc _ _ _ hp.2))
    have HR2:=Lib.hid (HR.out.keep (w':=w2.alloc (.cells #[.int .i64 6,.slice A1 8 c1,.slice none 0 0] 172)) fun p hp=>World.cell?_of_block ((Below.heap_alloc _ _ _ (by have:=HP.out _ hp;omega)).trans ((hB2.block _ (by have:=HP.out _ hp;omega)).trans (HB.out.block _ (HP.out _ hp)))))
    clear h2 h3 hB2 x0 x1 hr1
    by_cases h6:z=6
    · subst h6
      have he:=bequal_any _ _ A A1 c c1 bs oid1 _ HR2.out Hr1.out
      rw [show oid1.length=8 from rfl] at he
      obtain ⟨d,hd⟩:∃ d,decide (bs=oid1)=d:=⟨_,rfl⟩
      rw [hd] at he
      have HE:=Lib.hid he
      have Hd:=Lib.hid hd
      clear he hd
      go_wp2_with fail
      refine HE.out.mono ?_
      rintro e w3 ⟨rfl,rfl⟩
      cases d
      · have hno:bs≠oid1:=by simpa using Hd.out
        have Hno:=Lib.hid hno
        clear hno
        go_wp2
        go_roundw
        case rel=>exact ⟨1,by go_num,HB3.out.alloc (by omega) _,(Below.heap_alloc _ _ _ hlt).trans H2.out,(Below.heap_alloc _ _ _ hlt3).trans H3.out,fun _ _=>Hno.out,fun h=>absurd h (by decide),.inr (.inl rfl)⟩
        case measure=>first | (simp [intOf];done) | (simp [intOf];decide)
      · have hyes:bs=oid1:=by simpa using Hd.out
        have HW:Hid (whichOf 6 bs=1):=Lib.hid (by rw [hyes];decide)
        clear hyes
        go_wp2
        go_ret
        exact ⟨(by rw [HW.out];rfl),by rw [Hs.out];exact HB3.out.alloc (by omega) _⟩
    · have h6':(z==6)=false:=by simpa using h6
      have H6:=Lib.hid h6
      clear h6
      go_wp2
      go_roundw
      case rel=>exact ⟨1,by go_num,HB3.out.alloc (by omega) _,(Below.heap_alloc _ _ _ hlt).trans H2.out,(Below.heap_alloc _ _ _ hlt3).trans H3.out,fun h=>absurd h H6.out,fun h=>absurd h (by decide),.inr (.inl rfl)⟩
      case measure=>first | (simp [intOf];done) | (simp [intOf];decide)
  · go_wp2_with fail
    refine (params_2 wr).mono ?_
    rintro e w2 ⟨⟨A1,c1,rfl,hr1⟩,hB2⟩
    have h2:=(hB2.block s (by omega)).trans Hb.out
    have h3:=(hB2.block (s+1) hl1).trans Hc.out
    have hlt:s<w2.heap.size:=by have:=hB2.size;omega
    have hlt3:s+1<w2.heap.size:=by have:=hB2.size;omega
    have q0:=blk_cell h2 0
    have q1:=blk_cell h2 1
    simp only [List.getElem?_toArray,List.getElem?_cons_zero,List.getElem?_cons_succ] at q0 q1
    have HB3:=Lib.hid (HB.out.trans (hB2.mono (by omega)))
    have H2:=Lib.hid h2
    have H3:=Lib.hid h3
    have Hr1:=Lib.hid (hr1.keep (w':=w2.alloc (.cells #[.int .i64 6,.slice A1 5 c1,.slice none 0 0] 172)) fun p hp=>World.cell?_of_block (Below.heap_alloc _ _ _ hp.2))
    have HR2:=Lib.hid (HR.out.keep (w':=w2.alloc (.cells #[.int .i64 6,.slice A1 5 c1,.slice none 0 0] 172)) fun p hp=>World.cell?_of_block ((Below.heap_alloc _ _ _ (by have:=HP.out _ hp;omega)).trans ((hB2.block _ (by have:=HP.out _ hp;omega)).trans (HB.out.block _ (HP.out _ hp)))))
    clear h2 h3 hB2 x0 x1 hr1
    by_cases h6:z=6
    · subst h6
      have he:=bequal_any _ _ A A1 c c1 bs oid2 _ HR2.out Hr1.out
      rw [show oid2.length=5 from rfl] at he
      obtain ⟨d,hd⟩:∃ d,decide (bs=oid2)=d:=⟨_,rfl⟩
      rw [hd] at he
      have HE:=Lib.hid he
      have Hd:=Lib.hid hd
      clear he hd
      go_wp2_with fail
      refine HE.out.mono ?_
      rintro e w3 ⟨rfl,rfl⟩
      cases d
      · have hno:bs≠oid2:=by simpa using Hd.out
        have Hno:=Lib.hid hno
        clear hno
        go_wp2
        go_roundw
        case rel=>exact ⟨2,by go_num,HB3.out.alloc (by omega) _,(Below.heap_alloc _ _ _ hlt).trans H2.out,(Below.heap_alloc _ _ _ hlt3).trans H3.out,fun h _=>HN1.out h (by decide),fun _ _=>Hno.out,.inr (.inr rfl)⟩
        case measure=>first | (simp [intOf];done) | (simp [intOf];decide)
      · have hyes:bs=oid2:=by simpa using Hd.out
        have HW:Hid (whichOf 6 bs=2):=Lib.hid (by rw [hyes];decide)
        clear hyes
        go_wp2
        go_ret
        exact ⟨(by rw [HW.out];rfl),by rw [Hs.out];exact HB3.out.alloc (by omega) _⟩
    · have h6':(z==6)=false:=by simpa using h6
      have H6:=Lib.hid h6
      clear h6
      go_wp2
      go_roundw
      case rel=>exact ⟨2,by go_num,HB3.out.alloc (by omega) _,(Below.heap_alloc _ _ _ hlt).trans H2.out,(Below.heap_alloc _ _ _ hlt3).trans H3.out,fun h=>absurd h H6.out,fun _ h=>absurd h H6.out,.inr (.inr rfl)⟩
      case measure=>first | (simp [intOf];done) | (simp [intOf];decide)
  · have hw:whichOf z bs=0:=by
     unfold whichOf
     rw [if_neg (fun h=>HN1.out h.1 (by decide) h.2),if_neg (fun h=>HN2.out rfl h.1 h.2)]
    have HW:=Lib.hid hw
    clear hw
    go_wp2
    go_ret
    exact ⟨(by rw [HW.out];rfl),by rw [Hs.out];exact HB.out⟩
end Go.Proofs.YtendnkpiidhogaaGreat.Der

namespace Go.Proofs.YtendnkpiidhogaaGreat.Der
open Go.RowKit Go.Shelf
attribute [local go_sem] Oper.semAt_some
theorem head_small {b h r:List Nat} {t:Nat} (e:headOf b=some (t,h,r)) (hh:h.length<128):b=t :: h.length :: (h++r):=by
 rcases b with _ | ⟨t0,_ | ⟨n,rest⟩⟩
 · cases e
 · cases e
 by_cases hn:n<128
 · rw [head_short hn] at e
   obtain ⟨e,hl⟩:=cutAt_some e
   simp only [Prod.mk.injEq] at e
   obtain ⟨rfl,rfl,rfl⟩:=e
   rw [List.take_append_drop,List.length_take,Nat.min_eq_left hl]
 · exfalso
   by_cases h2:n - 128<1∨3<n - 128∨rest.length<n - 128∨rest.getD 0 0=0
   · rw [head_bad hn h2] at e;cases e
   obtain ⟨z,hz⟩:∃ z,be 0 (rest.take (n - 128))=z:=⟨_,rfl⟩
   by_cases h3:z<128
   · rw [head_low hn h2 hz h3] at e;cases e
   · rw [head_long hn h2 hz h3] at e
     obtain ⟨e,hl⟩:=cutAt_some e
     have e1:=congrArg (fun q=>q.2.1.length) e
     simp only [List.length_take] at e1
     omega
theorem read_leaf {b bs:List Nat} {t:Nat} {ks:List DN} (e:readOf b=some (.mk t bs ks,b.length)) (ht:t≠48) (hb:bs.length<128):b=t :: bs.length :: bs:=by
 unfold readOf at e
 split at e
 · cases e
 rename_i tr r l hn
 split at e
 · cases e
 injection e with e
 simp only [Prod.mk.injEq] at e
 obtain ⟨rfl,e⟩:=e
 have hl:=node_len hn
 have hr:r=[]:=List.eq_nil_of_length_eq_zero (by omega)
 subst hr
 rw [nodeOf] at hn
 split at hn
 · cases hn
 split at hn
 · cases hn
 rename_i t' h r' hh
 split at hn
 · split at hn
   · simp only [Option.some.injEq,Prod.mk.injEq,DN.mk.injEq] at hn
     obtain ⟨⟨rfl,rfl,-⟩,rfl,-⟩:=hn
     have:=head_small hh hb
     simpa using this
   · cases hn
 · split at hn
   · cases hn
   · simp only [Option.some.injEq,Prod.mk.injEq,DN.mk.injEq] at hn
     exact absurd hn.1.1.symm ht
def kpOf (b:List Nat):Int :=
 match readOf b with
 | none=>0
 | some (.mk t bs _,n)=>if n=b.length then whichOf t bs else 0
theorem read_kp1:readOf kp1=some (.mk 6 oid1 [],10):=by kernel_rfl
theorem read_kp2:readOf kp2=some (.mk 6 oid2 [],7):=by kernel_rfl
theorem which_cases {z:Int} {bs:List Nat} (h:whichOf z bs≠0):(z=6∧bs=oid1)∨(z=6∧bs=oid2):=by
 unfold whichOf at h
 split at h
 · rename_i h1;exact .inl h1
 split at h
 · rename_i h1;exact .inr h1
 · exact absurd rfl h
theorem kpOf_eq (b:List Nat):kpOf b=rpOf b:=by
 unfold rpOf
 by_cases h1:b=kp1
 · subst h1
   rw [if_pos rfl]
   unfold kpOf
   rw [read_kp1]
   decide
 rw [if_neg h1]
 by_cases h2:b=kp2
 · subst h2
   rw [if_pos rfl]
   unfold kpOf
   rw [read_kp2]
   decide
 rw [if_neg h2]
 unfold kpOf
 split
 · rfl
 rename_i t bs ks n hr
 split
 · rename_i hn
   subst hn
   rcases Int.decEq (whichOf (t:Int) bs) 0 with hw | hw
   · exfalso
     rcases which_cases hw with ⟨ht,rfl⟩ | ⟨ht,rfl⟩
     · have:t=6:=by omega
       subst this
       exact h1 (read_leaf hr (by decide) (by decide))
     · have:t=6:=by omega
       subst this
       exact h2 (read_leaf hr (by decide) (by decide))
   · exact hw
 · rfl
theorem readParams_any (P:Nat→Prop) (A:Option Addr) (c:Nat) (b:List Nat) (w:World) (hb:RB w P A c b) (hP:∀ q,P q→q<w.heap.size) :
    Calls Tryz.prog 108 #[.slice A b.length c] w fun e w'=>e=.returned (.tuple #[.int .i64 (rpOf b),.bool (decide (rpOf b≠0))])∧Below w.heap.size w w':=by
  have HK:=Lib.hid (kread_any P A c b w hb hP)
  rw [←kpOf_eq]
  obtain ⟨R,hR⟩:∃ R,kpOf b=R:=⟨_,rfl⟩
  rw [hR]
  have HR:=Lib.hid hR
  clear hR hb hP
  go_enter Tryz.func108,Tryz.ntmps108
  go_wp2_with fail
  refine HK.out.mono ?_
  obtain ⟨R0,hR0⟩:∃ R0,readOf b=R0:=⟨_,rfl⟩
  rw [hR0]
  have HR0:=Lib.hid hR0
  clear hR0 HK
  rintro e w1 ⟨hKr,hB1⟩
  cases R0 with
  | none =>
    unfold KreadP at hKr
    subst hKr
    have hR:R=0:=by rw [←HR.out];unfold kpOf;rw [HR0.out]
    subst hR
    have hE:=(Below.refl w1.heap.size w1).alloc (Nat.le_refl _) (.cells #[.int .i64 0,.slice none 0 0,.slice none 0 0] 172)
    have hw:=which_any (fun _=>False) 0 none none 0 0 0 [] _ (RB.nil_ (w1.alloc (.cells #[.int .i64 0,.slice none 0 0,.slice none 0 0] 172)) _) (fun _ h=>h.elim)
    have HW:=Lib.hid hw
    have HB1:=Lib.hid (hB1.trans (hE.mono hB1.size))
    clear hw hE hB1
    go_wp2_with fail
    refine HW.out.mono ?_
    rintro e w2 ⟨rfl,hB2⟩
    have HB2:=Lib.hid (HB1.out.trans (hB2.mono HB1.out.size))
    have hw0:whichOf 0 []=0:=by decide
    rw [hw0]
    clear hB2 hw0
    go_wp2
    go_ret2
    exact ⟨rfl,HB2.out⟩
  | some q =>
    obtain ⟨⟨t,bs,ks⟩,n⟩:=q
    unfold KreadP at hKr
    obtain ⟨v,rfl,hRD⟩:=hKr
    obtain ⟨A2,c2,Ak,ck,cs,rfl,hrb,-⟩:=hRD.open_
    have hE:=(Below.refl w1.heap.size w1).alloc (Nat.le_refl _) (.cells #[.int .i64 (t:Int),.slice A2 bs.length c2,.slice Ak ks.length ck] 172)
    have hw:=which_any (In w.heap.size w1.heap.size) (t:Int) A2 Ak c2 ks.length ck bs _ (hrb.below hE (fun q hq=>hq.2)) (fun q hq=>by have:=hq.2;simp;omega)
    have hR:R=if n=b.length then whichOf t bs else 0:=by rw [←HR.out];unfold kpOf;rw [HR0.out]
    obtain ⟨W,hW⟩:∃ W,whichOf (t:Int) bs=W:=⟨_,rfl⟩
    rw [hW] at hw hR
    have HW:=Lib.hid hw
    have HB1:=Lib.hid (hB1.trans (hE.mono hB1.size))
    have hW3:W=0∨W=1∨W=2:=by
      rw [←hW];unfold whichOf
      split
      · exact .inr (.inl rfl)
      split
      · exact .inr (.inr rfl)
      · exact .inl rfl
    clear hw hE hB1 hrb hRD hW HR0 HR
    obtain ⟨N,hN⟩:∃ N,b.length=N:=⟨_,rfl⟩
    rw [hN] at hR ⊢
    clear hN
    by_cases hn:n=N
    · subst hn
      rw [if_pos rfl] at hR
      subst hR
      have hnn:(n==n)=true:=by simp
      rw [hnn]
      clear hnn
      go_wp2_with fail
      refine HW.out.mono ?_
      rintro e w2 ⟨rfl,hB2⟩
      have HB2:=Lib.hid (HB1.out.trans (hB2.mono HB1.out.size))
      clear hB2
      rcases hW3 with rfl | rfl | rfl
      all_goals
        go_wp2
        go_ret2
        exact ⟨rfl,HB2.out⟩
    · rw [if_neg hn] at hR
      subst hR
      have hnn:(n==N)=false:=by simpa using hn
      rw [hnn]
      clear hnn hn
      go_wp2_with fail
      refine HW.out.mono ?_
      rintro e w2 ⟨rfl,hB2⟩
      have HB2:=Lib.hid (HB1.out.trans (hB2.mono HB1.out.size))
      clear hB2
      go_wp2
      go_ret2
      exact ⟨rfl,HB2.out⟩
end Go.Proofs.YtendnkpiidhogaaGreat.Der

namespace Go.Proofs.YtendnkpiidhogaaGreat.At
open Go.RowKit
def seek (l:List (Int×List Nat)) (t:Int):Option (List Nat):=(l.find? fun x=>x.1==t).map (·.2)
def noneOf (l:List (Int×List Nat)) (t:Int) (k:Nat):Prop:=∀ x∈l.take k,(x.1==t)=false
theorem noneOf_zero (l:List (Int×List Nat)) (t:Int):noneOf l t 0:=by intro x hx;simp at hx
theorem noneOf_succ {l:List (Int×List Nat)} {t:Int} {k:Nat} (h:noneOf l t k) (hk:k<l.length) (hne:(l[k].1==t)=false):noneOf l t (k+1):=by
 intro x hx
 rw [List.take_succ_eq_append_getElem hk] at hx
 rcases List.mem_append.1 hx with hx | hx
 · exact h x hx
 · obtain rfl:=List.mem_singleton.1 hx
   exact hne
theorem seek_hit {l:List (Int×List Nat)} {t:Int} {k:Nat} (h:noneOf l t k) (hk:k<l.length) (he:(l[k].1==t)=true):seek l t=some l[k].2:=by
 have h1:l.find? (fun x=>x.1==t)=some l[k]:=by
  rw [List.find?_eq_some_iff_append]
  refine ⟨he,l.take k,l.drop (k+1),by rw [List.getElem_cons_drop,List.take_append_drop],fun x hx=>by simpa using h x hx⟩
 simp [seek,h1]
theorem seek_miss {l:List (Int×List Nat)} {t:Int} (h:noneOf l t l.length):seek l t=none:=by
 have h1:l.find? (fun x=>x.1==t)=none:=by
  rw [List.find?_eq_none]
  intro x hx
  have:=h x (by simpa using hx)
  simp [this]
 simp [seek,h1]
theorem refGet_any (P:Nat→Prop) (A:Option Addr) (c:Nat) (l:List (Int×List Nat)) (t:Int) (w:World) (hv:RA w P A c l) :
 Calls Tryz.prog 43 #[.slice A l.length c,.int .i64 t] w fun e w'=>∃ A' c',e=.returned (.tuple #[.slice A' ((seek l t).getD []).length c',.bool (seek l t).isSome])∧RB w P A' c' ((seek l t).getD [])∧w=w':=by
 obtain ⟨hlc,hc⟩:=hv.cap
 go_enter Tryz.func43,Tryz.ntmps43
 go_wp2
 go_loop [6] (fun i=>∃ k:Nat,k≤l.length∧i=.int .i64 k∧noneOf l t k) (fun i=>l.length - (intOf i).toNat)
 case atStart=>exact ⟨0,Nat.zero_le _,rfl,noneOf_zero l t⟩
 case round =>
  obtain ⟨k,hk,rfl,hno⟩:=hrel
  by_cases hlt:k<l.length
  · obtain ⟨ad,A',c',rfl,hb,hc1,hc2,hu⟩:=hv.at_ hlt
    go_wp2
    · go_ret2
      refine ⟨A',c',?_,?_,rfl⟩ <;> rw [seek_hit hno hlt (by assumption)]
      · rfl
      · exact hu
    · go_round
      case rel=>exact ⟨k+1,by omega,by go_num,noneOf_succ hno hlt (by assumption)⟩
      case measure=>simp [intOf];omega
  · have hm:seek l t=none:=seek_miss ((show k=l.length by omega)▸hno)
    have Hm:=Lib.hid hm
    clear hm
    go_wp2
    go_ret2
    refine ⟨none,0,?_,?_,rfl⟩ <;> rw [Hm.out]
    · rfl
    · exact RB.nil_ _ _
theorem info5:(Tryz.prog.info? 5).map (fun i=>(i.zero,i.size,i.bytes))=some (some (.int .u8 0),1,1):=by kernel_rfl
theorem oneCell_bys (bs:List Nat):∀ u∈bys bs,u.oneCell'=true:=by
 intro u hu
 obtain ⟨x,_,rfl⟩:=List.mem_map.1 hu
 rfl
theorem _root_.Go.Proofs.YtendnkpiidhogaaGreat.RB.of_own {w:World} {base:Nat} {e:TypeId} {A:Option Addr} {c:Nat} {bs:List Nat} (h:w.ownsRow base e 1 (.slice A bs.length c) bs.length (bys bs)) (hb:∀ b∈bs,b<256) (hl:bs.length≤140737488355328):RB w (In base w.heap.size) A c bs :=
 ⟨RS.of_own h,hb,hl⟩
theorem clone_any (P:Nat→Prop) (A:Option Addr) (c:Nat) (bs:List Nat) (w:World) (h:RB w P A c bs) (hP:∀ b,P b→b<w.heap.size) :
 Calls Tryz.prog 83 #[.slice A bs.length c] w fun e w'=>∃ A' c',e=.returned (.slice A' bs.length c')∧RB w' (In w.heap.size w'.heap.size) A' c' bs∧Below w.heap.size w w':=by
 obtain ⟨i0,hi,hz0,hz1,hz2⟩:=info_parts info5
 have q22:∀ (w:World) (a:Option Addr) (n c n' c':Nat),(binOp .eql 33 (.slice a n c) (.slice none n' c')).run Tryz.prog w=.ok (.bool a.isNone) w:=fun w a n c n' c'=>Lib.run_eql_slice_nil w _ _ a n c n' c' Tryz.underlying33
 obtain ⟨h1,h2,h3⟩:=h.cap
 have hc0:=h.2.1
 rcases A with _ | ad
 · have hl:bs.length=0:=by
    rcases Nat.eq_zero_or_pos bs.length with h0 | h0
    · exact h0
    · obtain ⟨ad,h,_⟩:=h.1.2.2.2 h0
      cases h
   obtain rfl:=List.eq_nil_of_length_eq_zero hl
   clear hl
   go_enter Tryz.func83,Tryz.ntmps83
   go_wp2
   go_ret
   exact ⟨none,0,rfl,RB.nil_ _ _,Below.refl _ _⟩
 · have h':RS (w.alloc (.cells #[] 5)) P 1 (some ad) bs.length c (bys bs):=h.1.keep fun p hp=>World.cell?_alloc_lt w _ p (hP _ hp)
   clear h
   go_enter Tryz.func83,Tryz.ntmps83
   go_wp2_with (at_builtin;refine wpList_append_rs _ rfl _ _ 33 rfl w.heap.size 5 i0 (.int .u8 0) 1 1 Tryz.underlying33 hi hz0 hz1 hz2 rfl (by decide) _ _ _ rfl (World.ownsRow_made w #[] 0 (Nat.le_refl _) (Nat.zero_le _) rfl) P (some ad) bs.length c (bys bs) rfl h' (oneCell_bys bs) bs.length (by omega) (by unfold maxLen;omega) (by omega) (by simp) ?_)
   intro A' c' w1 hown hgrow _
   go_wp2
   go_ret
   exact ⟨A',c',rfl,RB.of_own (by simpa using hown) hc0 h3,((Below.refl _ w).alloc (Nat.le_refl _) _).grown hgrow (by simp) (by intro k hk;simp [Value.ownBlock] at hk;omega)⟩
theorem get_any (P:Nat→Prop) (A:Option Addr) (c:Nat) (l:List (Int×List Nat)) (t:Int) (w:World) (hv:RA w P A c l) (hP:∀ b,P b→b<w.heap.size) :
 Calls Tryz.prog 42 #[.slice A l.length c,.int .i64 t] w fun e w'=>∃ A' c',e=.returned (.tuple #[.slice A' ((seek l t).getD []).length c',.bool (seek l t).isSome]) ∧
  RB w' (In w.heap.size w'.heap.size) A' c' ((seek l t).getD [])∧Below w.heap.size w w':=by
 obtain ⟨hlc,hc⟩:=hv.cap
 go_enter Tryz.func42,Tryz.ntmps42
 go_wp2
 go_loopw [10] (fun i wr=>∃ k:Nat,k≤l.length∧i=.int .i64 k∧noneOf l t k∧Below w.heap.size w wr) (fun i _=>l.length - (intOf i).toNat)
 case atStart=>exact ⟨0,Nat.zero_le _,rfl,noneOf_zero l t,Below.refl _ _⟩
 case round =>
  obtain ⟨k,hk,rfl,hno,hB⟩:=hrel
  by_cases hlt:k<l.length
  · have hv':=hv.below hB hP
    obtain ⟨ad,A',c',rfl,hb,hc1,hc2,hu⟩:=hv'.at_ hlt
    have hs:=hB.size
    go_wp2_with fail
    · refine (clone_any P _ _ _ _ (hu.keep fun p hp=>?_) fun b hb=>?_).mono ?_
      · have:=hP _ hp
        exact World.cell?_alloc_lt wr _ p (by omega)
      · have:=hP b hb
        simp;omega
      · rintro e w1 ⟨A1,c1,rfl,hr,hB1⟩
        go_wp2
        go_ret2
        refine ⟨A1,c1,?_,?_,?_⟩
        · rw [seek_hit hno hlt (by assumption)]
          rfl
        · rw [seek_hit hno hlt (by assumption)]
          refine hr.mono fun b hb=>⟨?_,hb.2⟩
          have:=hb.1
          simp at this
          omega
        · exact (hB.alloc hs _).trans (hB1.mono (by simp;omega))
    · go_roundw
      case rel=>exact ⟨k+1,by omega,by go_num,noneOf_succ hno hlt (by assumption),hB.alloc hs _⟩
      case measure=>simp [intOf];omega
  · have hm:seek l t=none:=seek_miss ((show k=l.length by omega)▸hno)
    have Hm:=Lib.hid hm
    clear hm
    go_wp2
    go_ret2
    refine ⟨none,0,?_,?_,hB⟩ <;> rw [Hm.out]
    · rfl
    · exact RB.nil_ _ _
end Go.Proofs.YtendnkpiidhogaaGreat.At

namespace Go.Proofs.YtendnkpiidhogaaGreat.At
open Go.RowKit
def strB (bs:List Nat):ByteArray:=strOfNums (bs.map fun b:Nat=>(b:Int))
theorem strB_inj {a b:List Nat} (ha:∀ x∈a,x<256) (hb:∀ x∈b,x<256) (h:(strB a).toList=(strB b).toList):a=b:=by
 have e:∀ l:List Nat,(∀ x∈l,x<256)→(strB l).toList.map UInt8.toNat=l:=by
  intro l hl
  rw [strB,Lib.strOfNums_toList,Lib.bytesOf]
  simp only [List.map_map]
  conv=>rhs;rw [←List.map_id l]
  apply List.map_congr_left
  intro x hx
  have:=hl x hx
  simp
  omega
 rw [←e a ha,←e b hb,h]
section
variable {w:World} {Q:Nat→Prop} {A:Option Addr} {c:Nat} {bs:List Nat}
theorem _root_.Go.Proofs.YtendnkpiidhogaaGreat.RB.strA {P:Program} (h:RB w Q A c bs) (src e dst:TypeId) (hs:P.underlying src=some (.slice e)) (he:P.underlying e=some (.int .u8)) (hd:P.underlying dst=some .string) :
 (convert src dst (.slice A bs.length c)).run P w=.ok (.string (strB bs)) w:=by
 rcases A with _ | ad
 · have hl:bs.length=0:=by
    rcases Nat.eq_zero_or_pos bs.length with h0 | h0
    · exact h0
    · obtain ⟨ad,h,_⟩:=h.1.2.2.2 h0
      cases h
   obtain rfl:=List.eq_nil_of_length_eq_zero hl
   rw [run_convert_bytes_nil w src e hs he _ _ dst hd]
   rfl
 · have hc:∀ j v,(bys bs)[j]?=some v→w.cell? (ad.add j)=some v:=by
    intro j v hj
    rcases Nat.eq_zero_or_pos bs.length with h0 | h0
    · obtain rfl:=List.eq_nil_of_length_eq_zero h0
      simp [bys] at hj
    · obtain ⟨ad',h,_,hc⟩:=h.1.2.2.2 h0
      injection h with h
      subst h
      exact hc j v hj
   have hl:(loadCells ad bs.length).run P w=.ok ((bs.map fun b:Nat=>(b:Int)).map (Value.int .u8)).toArray w:=by
    have:=run_loadCells_list (P:=P) w ad (bys bs) hc
    simpa [bys,Function.comp_def] using this
   rw [run_convert_bytes_string w src dst e _ _ c hs he hd,run_bytesToString w _ _ c _ hl,foldl_push_bytes]
   simp [strB,strOfNums,ByteArray.empty,ByteArray.emptyWithCapacity]
   rfl
end
def flagOf (l:List (Int×List Nat)) (t:Int):Bool:=decide ((seek l t)=some [1])
theorem flagOf_eq {l:List (Int×List Nat)} {t:Int} {o:Option (List Nat)} (h:seek l t=o):flagOf l t=decide (o=some [1]):=by rw [flagOf,h]
theorem flag_any (P:Nat→Prop) (A:Option Addr) (c:Nat) (l:List (Int×List Nat)) (t:Int) (w:World) (hv:RA w P A c l) (hP:∀ b,P b→b<w.heap.size) :
 Calls Tryz.prog 45 #[.slice A l.length c,.int .i64 t] w fun e w'=>e=.returned (.bool (flagOf l t))∧Below w.heap.size w w':=by
 have hg:=Lib.hid (get_any P A c l t w hv hP)
 obtain ⟨o,ho⟩:∃ o,seek l t=o:=⟨_,rfl⟩
 rw [flagOf_eq ho]
 rw [ho] at hg
 clear ho
 rcases o with _ | bs
 · go_enter Tryz.func45,Tryz.ntmps45
   go_wp2_with fail
   refine hg.out.mono ?_
   rintro e w1 ⟨A1,c1,rfl,hr,hB⟩
   go_wp2
   go_ret
   exact ⟨by simp,hB⟩
 · by_cases h1:bs.length=1
   · obtain ⟨x,rfl⟩:∃ x,bs=[x]:=by
      match bs,h1 with
      | [x],_=>exact ⟨x,rfl⟩
     clear h1
     by_cases hx:x=1
     · subst hx
       go_enter Tryz.func45,Tryz.ntmps45
       go_wp2_with fail
       refine hg.out.mono ?_
       rintro e w1 ⟨A1,c1,rfl,hr,hB⟩
       obtain ⟨ad,rfl,hp,hc,_⟩:=hr.at_ (i:=0) (by simp)
       simp [Addr.add] at hc
       go_wp2
       go_ret
       exact ⟨by simp,hB⟩
     · have hx':((x:Int)==1)=false:=by simp;omega
       go_enter Tryz.func45,Tryz.ntmps45
       go_wp2_with fail
       refine hg.out.mono ?_
       rintro e w1 ⟨A1,c1,rfl,hr,hB⟩
       obtain ⟨ad,rfl,hp,hc,_⟩:=hr.at_ (i:=0) (by simp)
       simp [Addr.add] at hc
       go_wp2
       go_ret
       exact ⟨by simp [hx],hB⟩
   · have h1':((bs.length:Int)==1)=false:=by simp;omega
     go_enter Tryz.func45,Tryz.ntmps45
     go_wp2_with fail
     refine hg.out.mono ?_
     rintro e w1 ⟨A1,c1,rfl,hr,hB⟩
     simp only [Option.getD_some]
     go_wp2
     go_ret
     exact ⟨by simp;intro e;simp [e] at h1,hB⟩
theorem refFlag_any (P:Nat→Prop) (A:Option Addr) (c:Nat) (l:List (Int×List Nat)) (t:Int) (w:World) (hv:RA w P A c l) :
 Calls Tryz.prog 26 #[.slice A l.length c,.int .i64 t] w fun e w'=>e=.returned (.bool (flagOf l t))∧w=w':=by
 have hg:=Lib.hid (refGet_any P A c l t w hv)
 obtain ⟨o,ho⟩:∃ o,seek l t=o:=⟨_,rfl⟩
 rw [flagOf_eq ho]
 rw [ho] at hg
 clear ho
 rcases o with _ | bs
 · go_enter Tryz.func26,Tryz.ntmps26
   go_wp2_with fail
   refine hg.out.mono ?_
   rintro e w1 ⟨A1,c1,rfl,hr,rfl⟩
   go_wp2
   go_ret
   exact ⟨by simp,rfl⟩
 · by_cases h1:bs.length=1
   · obtain ⟨x,rfl⟩:∃ x,bs=[x]:=by
      match bs,h1 with
      | [x],_=>exact ⟨x,rfl⟩
     clear h1
     by_cases hx:x=1
     · subst hx
       go_enter Tryz.func26,Tryz.ntmps26
       go_wp2_with fail
       refine hg.out.mono ?_
       rintro e w1 ⟨A1,c1,rfl,hr,rfl⟩
       obtain ⟨ad,rfl,hp,hc,_⟩:=hr.at_ (i:=0) (by simp)
       simp [Addr.add] at hc
       go_wp2
       go_ret
       exact ⟨by simp,rfl⟩
     · have hx':((x:Int)==1)=false:=by simp;omega
       go_enter Tryz.func26,Tryz.ntmps26
       go_wp2_with fail
       refine hg.out.mono ?_
       rintro e w1 ⟨A1,c1,rfl,hr,rfl⟩
       obtain ⟨ad,rfl,hp,hc,_⟩:=hr.at_ (i:=0) (by simp)
       simp [Addr.add] at hc
       go_wp2
       go_ret
       exact ⟨by simp [hx],rfl⟩
   · have h1':((bs.length:Int)==1)=false:=by simp;omega
     go_enter Tryz.func26,Tryz.ntmps26
     go_wp2_with fail
     refine hg.out.mono ?_
     rintro e w1 ⟨A1,c1,rfl,hr,rfl⟩
     simp only [Option.getD_some]
     go_wp2
     go_ret
     exact ⟨by simp;intro e;simp [e] at h1,rfl⟩
end Go.Proofs.YtendnkpiidhogaaGreat.At

namespace Go.Proofs.YtendnkpiidhogaaGreat.At
open Go.RowKit
def OA (w:World) (base:Nat) (A:Option Addr) (c:Nat) (l:List (Int×List Nat)) (cs:List Value):Prop :=
 w.ownsRow base 37 2 (.slice A l.length c) l.length cs∧∀ j x,l[j]?=some x→cs[j*2]?=some (.int .i64 x.1) ∧
  ∃ A' c',cs[j*2+1]?=some (.slice A' x.2.length c')∧RB w (fun b=>base≤b∧b<w.heap.size∧(Value.slice A l.length c).ownBlock≠some b) A' c' x.2
theorem OA.ra {w:World} {base:Nat} {A:Option Addr} {c:Nat} {l:List (Int×List Nat)} {cs:List Value} (h:OA w base A c l cs):RA w (In base w.heap.size) A c l :=
 ⟨cs, RS.of_own h.1, fun j x hx => by
  obtain ⟨h1,A',c',h2,h3⟩:=h.2 j x hx
  exact ⟨h1,A',c',h2,h3.mono fun b hb=>⟨hb.1,hb.2.1⟩⟩⟩
theorem OA.nil_ (w:World) (base:Nat):OA w base none 0 [] []:=⟨World.ownsRow_nil _ _ _ _,by simp⟩
theorem OA.below {w w':World} {base:Nat} {A:Option Addr} {c:Nat} {l:List (Int×List Nat)} {cs:List Value} (h:OA w base A c l cs) (hb:Below w.heap.size w w'):OA w' base A c l cs:=by
 refine ⟨h.1.kept ⟨hb.os,hb.tape,hb.output,hb.size,fun k hk _=>hb.block k hk⟩ (row:=none) ?_,fun j x hx=>?_⟩
 · cases (Value.slice A l.length c).ownBlock <;> simp
 · obtain ⟨h1,A',c',h2,h3⟩:=h.2 j x hx
   have:=hb.size
   exact ⟨h1,A',c',h2,(h3.below hb fun b hb=>hb.2.1).mono fun b hb=>⟨hb.1,by omega,hb.2.2⟩⟩
theorem OA.drewN {w:World} {base:Nat} {A:Option Addr} {c:Nat} {l:List (Int×List Nat)} {cs:List Value} (h:OA w base A c l cs) (n:Nat):OA (w.drewN n) base A c l cs:=h
theorem OA.snoc {wr W2 W3:World} {base:Nat} {A A':Option Addr} {c c':Nat} {l:List (Int×List Nat)} {cs:List Value} {m:Nat} (h:OA wr base A c l cs) (hm:l.length=m) (hb:Below wr.heap.size wr W2) {x:Int×List Nat} {Au:Option Addr} {cu:Nat}
 (hu:RB W2 (In wr.heap.size W2.heap.size) Au cu x.2) (hbase:base≤wr.heap.size)
 (hown:W3.ownsRow base 37 2 (.slice A' (m+1) c') (m+1) (cs++[.int .i64 x.1,.slice Au x.2.length cu])) (hg:W2.grownBy W3 (Value.slice A m c).ownBlock)
 (hor:(Value.slice A' (m+1) c').ownBlock=(Value.slice A m c).ownBlock∨(Value.slice A' (m+1) c').ownBlock=some W2.heap.size) :
 OA W3 base A' c' (l++[x]) (cs++[.int .i64 x.1,.slice Au x.2.length cu]):=by
 subst hm
 have hl:=h.1.1
 have hlt:=h.1.lt
 have hs:=hb.size
 have hs':=hg.size
 have eown:(Value.slice A' (l.length+1) c').ownBlock=(Value.slice A' (l++[x]).length c').ownBlock:=by cases A' <;> rfl
 rw [eown] at hor
 have kept:∀ (b:Nat),b<W2.heap.size→(Value.slice A l.length c).ownBlock≠some b→W3.heap[b]?=W2.heap[b]?:=fun b h1 h2=>hg.block b h1 (fun e=>h2 e.symm)
 refine ⟨by simpa using hown,fun j y hy=>?_⟩
 rcases Nat.lt_or_ge j l.length with hj | hj
 · rw [List.getElem?_append_left hj] at hy
   obtain ⟨h1,A1,c1,h2,h3⟩:=h.2 j y hy
   rw [List.getElem?_append_left (by omega),List.getElem?_append_left (by omega)]
   refine ⟨h1,A1,c1,h2,((h3.below hb fun b hb=>hb.2.1).keep fun p hp=>?_).mono fun b hp=>?_⟩
   · exact World.cell?_of_block (kept _ (by omega) hp.2.2)
   · refine ⟨hp.1,by omega,?_⟩
     rcases hor with e | e
     · rw [e];exact hp.2.2
     · rw [e];intro e';injection e' with e';omega
 · have hjl:j=l.length:=by
    have:=(List.getElem?_eq_some_iff.1 hy).1
    simp at this
    omega
   subst hjl
   simp at hy
   subst hy
   rw [List.getElem?_append_right (by omega),List.getElem?_append_right (by omega),hl]
   refine ⟨by simp,Au,cu,by simp,(hu.keep fun p hp=>?_).mono fun b hp=>?_⟩
   · refine World.cell?_of_block (kept _ hp.2 fun e=>?_)
     have:=(hlt _ e).2
     have:=hp.1
     omega
   · have h1:=hp.1
     have h2:=hp.2
     refine ⟨by omega,by omega,?_⟩
     rcases hor with e | e
     · rw [e];intro e';have:=(hlt _ e').2;omega
     · rw [e];intro e';injection e' with e';omega
theorem _root_.Go.Proofs.YtendnkpiidhogaaGreat.RB.take {w:World} {P:Nat→Prop} {A:Option Addr} {c:Nat} {bs:List Nat} (h:RB w P A c bs) (n:Nat):RB w P A c (bs.take n):=by
 have h1:=h.1.pre (m:=(bs.take n).length) (by simp;omega)
 have e:(bys bs).take ((bs.take n).length*1)=bys (bs.take n):=by
  simp [bys,List.map_take]
 rw [e] at h1
 exact ⟨h1,fun b hb=>h.2.1 b (List.mem_of_mem_take hb),by have:=h.2.2;simp;omega⟩
theorem short_any (P:Nat→Prop) (A:Option Addr) (c n:Nat) (bs:List Nat) (w:World) (h:RB w P A c bs) (hn:n≤4611686018427387904) :
 Calls Tryz.prog 62 #[.slice A bs.length c,.int .i64 n] w fun e w'=>e=.returned (.slice A (bs.take n).length c)∧w=w':=by
 obtain ⟨h1,h2,h3⟩:=h.cap
 by_cases hlt:n<bs.length
 · have e:(bs.take n).length=n:=by simp;omega
   rw [e]
   clear e
   go_enter Tryz.func62,Tryz.ntmps62
   go_wp2
   go_ret
   exact ⟨rfl,rfl⟩
 · have e:(bs.take n).length=bs.length:=by simp;omega
   rw [e]
   clear e
   go_enter Tryz.func62,Tryz.ntmps62
   go_wp2
   go_ret
   exact ⟨rfl,rfl⟩
theorem info48:(Tryz.prog.info? 37).map (fun i=>(i.zero,i.size,i.bytes))=some (some (.agg #[.int .i64 0,.slice none 0 0]),2,32):=by kernel_rfl
def cutOf (l:List (Int×List Nat)) (n b:Nat):List (Int×List Nat):=(l.take n).map fun x=>(x.1,x.2.take b)
theorem cutOf_succ {l:List (Int×List Nat)} {k b:Nat} (hk:k<l.length):cutOf l (k+1) b=cutOf l k b++[(l[k].1,l[k].2.take b)]:=by
 rw [cutOf,List.take_succ_eq_append_getElem hk,List.map_append];rfl
theorem cutOf_length (l:List (Int×List Nat)) (n b:Nat):(cutOf l n b).length=min n l.length:=by simp [cutOf]
theorem cut_any (P:Nat→Prop) (A:Option Addr) (c:Nat) (l:List (Int×List Nat)) (n b:Nat) (w:World) (hv:RA w P A c l) (hP:∀ b,P b→b<w.heap.size) (hn:n≤1000000) (hb:b≤1000000) :
 Calls Tryz.prog 47 #[.slice A l.length c,.int .i64 n,.int .i64 b] w fun e w'=>∃ A' c' cs,e=.returned (.slice A' (cutOf l n b).length c')∧OA w' w.heap.size A' c' (cutOf l n b) cs∧Below w.heap.size w w':=by
 obtain ⟨hlc,hc⟩:=hv.cap
 obtain ⟨i0,hi,hz0,hz1,hz2⟩:=info_parts info5
 obtain ⟨i1,hj,hy0,hy1,hy2⟩:=info_parts info48
 go_enter Tryz.func47,Tryz.ntmps47
 go_wp2
 go_loopw [7,8] (fun v i wr=>∃ (k:Nat) (A':Option Addr) (c':Nat) (cs:List Value),k≤l.length∧k≤n∧i=.int .i64 k∧v=.slice A' (cutOf l k b).length c'∧OA wr w.heap.size A' c' (cutOf l k b) cs∧Below w.heap.size w wr) (fun _ i _=>l.length - (intOf i).toNat)
 case atStart=>exact ⟨0,none,0,[],Nat.zero_le _,Nat.zero_le _,rfl,rfl,OA.nil_ _ _,Below.refl _ _⟩
 case round =>
  obtain ⟨k,A',c',cs,hk,hkn,rfl,rfl,hO,hB⟩:=hrel
  have hs:=hB.size
  by_cases hlt:k<l.length
  · by_cases hltn:k<n
    · obtain ⟨ad,Au,cu,rfl,hb,hc1,hc2,hu⟩:=(hv.below hB hP).at_ hlt
      have hP1:∀ b,P b→b<wr.heap.size:=fun b hb=>Nat.lt_of_lt_of_le (hP b hb) hs
      obtain ⟨bs,hbs⟩:∃ bs,l[k].2.take b=bs:=⟨_,rfl⟩
      obtain ⟨x,hx⟩:∃ x,l[k].1=x:=⟨_,rfl⟩
      have hub:RB wr P Au cu bs:=hbs▸hu.take b
      have hsucc:=Lib.hid (cutOf_succ (b:=b) hlt)
      rw [hx,hbs] at hsucc
      have hcall:∀ W,RB W P Au cu l[k].2→Calls Tryz.prog 62 #[.slice Au l[k].2.length cu,.int .i64 b] W fun e w'=>e=.returned (.slice Au bs.length cu)∧W=w':=fun W h=>hbs▸short_any P Au cu b _ W h (by omega)
      have Hcall:=Lib.hid hcall
      have hn1:(cutOf l k b).length≤1000000:=by rw [cutOf_length];omega
      obtain ⟨m,hm⟩:∃ m,(cutOf l k b).length=m:=⟨_,rfl⟩
      have hbs256:=hub.2.1
      have hbsl:bs.length≤1000000:=by rw [←hbs];simp;omega
      have hsz:(l[k].2.length:Int)≤9223372036854775807:=by have:=hu.cap;omega
      have hne:(Value.slice A' m c').ownBlock≠some ad.block:=by
       intro e
       have:=hO.1.lt _ (by rw [hm];exact e)
       have:=hP _ hb
       omega
      have hadlt:=hP1 _ hb
      have HO:=Lib.hid hO
      have Hm:=Lib.hid hm
      have hown:wr.ownsRow w.heap.size 37 2 (.slice A' m c') m cs:=hm▸hO.1
      rw [hx] at hc1
      rw [hm] at hn1
      rw [hm]
      clear hcall hbs hx hO hm
      go_wp2_with fail
      go_region_held3 (fun w'=>w'.cell? (ad.add (k*2))=some (.int .i64 x)∧w'.cell? ⟨(ad.add (k*2)).block,(ad.add (k*2)).off+1,none⟩=some (.slice Au l[k].2.length cu))
       (first
        | go_keep
        | ((try dsimp only);refine ⟨?_,?_⟩ <;> (first | go_keep | (rw [hg1.cell_far _ (by simp [block_of_add];omega) (by simp [Value.ownBlock])];assumption) | (go_split_ands;rw [hg2.cell_far _ (by have:=hg1.size;simp [block_of_add] at this ⊢;omega) (fun e=>hne (by simpa [block_of_add] using e.symm))];go_keep))))
       (first
        | (go_at_call 62;refine (Hcall.out _ (by exact hu)).mono ?_;rintro e w' ⟨rfl,rfl⟩)
        | (refine step_append_rs _ (by rfl) _ _ _ (by rfl) wr.heap.size 5 i0 _ 1 1 Tryz.underlying33 hi hz0 hz1 hz2 rfl (by omega) (.slice none 0 0) 0 [] (by rfl) (World.ownsRow_nil _ _ _ _) P Au bs.length cu (bys bs) (by rfl) hub.1 (oneCell_bys _) bs.length (by omega) (by unfold maxLen;omega) (by omega) (by simp) ?_;intro A1 c1 w1 hown1 hg1 hor1)
        | (have _t:=hg1;go_must (refine step_append_rs _ (by rfl) _ _ _ (by rfl) w.heap.size 37 i1 _ 2 32 Tryz.underlying24 hj hy0 hy1 hy2 rfl (by omega) (.slice A' m c') m cs (by rfl) ((own_kept (w:=wr.drew) hown hg1).alloc _) (fun _=>True) (some ⟨w1.heap.size,0,none⟩) 1 1 [.int .i64 x,.slice A1 bs.length c1] (by rfl) (RS.fresh #[.int .i64 x,.slice A1 bs.length c1] 37 2 1 rfl (by unfold maxLen;omega) trivial) (by simp [Value.oneCell']) (m+1) rfl (by unfold maxLen;omega) (by omega) (by have:=hg1.size;simp at this ⊢;omega) ?_;intro A2 c2 w2 hown2 hg2 hor2)))
      have hb1:Below wr.heap.size wr w1:=(Below.refl wr.heap.size wr).drew.grown hg1 (Nat.le_refl _) (by simp [Value.ownBlock])
      have hb2:=hb1.alloc hb1.size (.cells #[.int .i64 x,.slice A1 bs.length c1] 37)
      have hu1:RB w1 (In wr.heap.size w1.heap.size) A1 c1 bs:=RB.of_own (by simpa using hown1) hbs256 (by omega)
      have hO':=Lib.hid (OA.snoc (x:=(x,bs)) HO.out Hm.out hb2 ((hu1.keep fun p hp=>World.cell?_alloc_lt w1 _ p hp.2).mono fun b hb=>⟨hb.1,by have:=hb.2;simp;omega⟩) hs hown2 hg2 hor2)
      have hB':=(hB.trans (hb2.mono hs)).grown hg2 (by have:=hb1.size;simp;omega) (fun g hg=>by rw [←Hm.out] at hg;exact (HO.out.1.lt g hg).1)
      rw [←hsucc.out] at hO'
      have hlen:=Lib.hid (show (cutOf l (k+1) b).length=m+1 by rw [hsucc.out,List.length_append,Hm.out];rfl)
      clear hg1 hor1 hg2 hor2 hown1 hown2 hb1 hb2 hu1 _t
      go_wp2
      go_roundw
      case rel=>exact ⟨k+1,A2,c2,_,by omega,by omega,by go_num,by rw [hlen.out],hO'.out,hB'⟩
      case measure=>simp [intOf];omega
    · obtain rfl:k=n:=by omega
      go_wp2
      go_ret
      exact ⟨A',c',cs,rfl,hO,hB⟩
  · have e:cutOf l k b=cutOf l n b:=by
     have:k=l.length:=by omega
     subst this
     unfold cutOf
     rw [List.take_of_length_le (Nat.le_refl _),List.take_of_length_le (by omega)]
    have he:=Lib.hid e
    clear e
    by_cases hltn:k<n
    all_goals
     go_wp2
     go_ret
     exact ⟨A',c',cs,by rw [←he.out];rfl,by rw [←he.out];exact hO,hB⟩
end Go.Proofs.YtendnkpiidhogaaGreat.At

namespace Go.Proofs.YtendnkpiidhogaaGreat.At
open Go.RowKit
def num4 (v:Int):List Nat:=[(v / 16777216 % 256).toNat,(v / 65536 % 256).toNat,(v / 256 % 256).toNat,(v % 256).toNat]
theorem num4_lt (v:Int):∀ b∈num4 v,b<256:=by
 intro b hb
 simp [num4] at hb
 omega
theorem bys_num4 (v:Int):bys (num4 v)=[.int .u8 (v / 16777216 % 256),.int .u8 (v / 65536 % 256),.int .u8 (v / 256 % 256),.int .u8 (v % 256)]:=by
 simp [bys,num4]
 omega
theorem _root_.Go.Proofs.YtendnkpiidhogaaGreat.RB.setCell {w:World} {P:Nat→Prop} {A:Option Addr} {c:Nat} {bs:List Nat} (h:RB w P A c bs) {p:Addr} (hp:¬ P p.block) (u:Value):RB (w.setCell p u) P A c bs :=
 h.keep fun q hq=>World.cell?_setCell_other w p q u (fun e=>by subst e;exact hp hq)
theorem _root_.Go.Proofs.YtendnkpiidhogaaGreat.RB.fresh {w:World} {P:Nat→Prop} (cs:Array Value) (t:TypeId) (bs:List Nat) (n H:Nat) (h:cs.toList=bys bs) (hb:∀ b∈bs,b<256) (hn:bs.length=n) (hl:n≤1000000) (hH:w.heap.size=H) (hP:P H):RB (w.alloc (.cells cs t)) P (some ⟨H,0,none⟩) n bs:=by
 subst hH hn
 have h1:cs.size=bs.length*1:=by
  have:=congrArg List.length h
  simp [bys] at this
  omega
 have:=RS.fresh (w:=w) (P:=P) cs t 1 bs.length h1 (by unfold maxLen;omega) hP
 rw [h] at this
 exact ⟨this,hb,by omega⟩
theorem refNum_any (t v:Int) (w:World) :
 Calls Tryz.prog 31 #[.int .i64 t,.int .i64 v] w fun e w'=>∃ A c,e=.returned (.agg #[.int .i64 t,.slice A (num4 v).length c])∧RB w' (In w.heap.size w'.heap.size) A c (num4 v)∧Below w.heap.size w w':=by
 go_enter Tryz.func31,Tryz.ntmps31
 go_wp2
 refine bodyPost_ret (v:=.agg #[.int .i64 t,.slice (some ⟨w.heap.size+1,0,none⟩) 4 4]) (by simp [results,Tryz.results31,go_sem]) rfl ⟨_,_,rfl,?_,?_⟩
 · exact RB.fresh _ _ _ _ _ (by rw [bys_num4]) (num4_lt v) rfl (by decide) (by simp) ⟨by omega,by simp⟩
 · exact ((Below.refl _ w).alloc (Nat.le_refl _) _).alloc (by simp) _
theorem refBool_any (t:Int) (v:Bool) (w:World) :
 Calls Tryz.prog 34 #[.int .i64 t,.bool v] w fun e w'=>∃ A c,e=.returned (.agg #[.int .i64 t,.slice A 1 c])∧RB w' (In w.heap.size w'.heap.size) A c [v.toNat]∧Below w.heap.size w w':=by
 cases v
 all_goals
  go_enter Tryz.func34,Tryz.ntmps34
  go_wp2
  refine bodyPost_ret (v:=.agg #[.int .i64 t,.slice (some ⟨w.heap.size+1,0,none⟩) 1 1]) (by simp [results,Tryz.results34,go_sem]) rfl ⟨_,_,rfl,?_,?_⟩
  · exact RB.fresh _ _ _ _ _ rfl (by simp) rfl (by decide) (by simp) ⟨by omega,by simp⟩
  · exact ((Below.refl _ w).alloc (Nat.le_refl _) _).alloc (by simp) _
end Go.Proofs.YtendnkpiidhogaaGreat.At

namespace Go.Proofs.YtendnkpiidhogaaGreat.At
open Go.RowKit
theorem refClone_any (P:Nat→Prop) (A:Option Addr) (c:Nat) (l:List (Int×List Nat)) (w:World) (hv:RA w P A c l) (hP:∀ b,P b→b<w.heap.size) (hl:l.length≤1000000) :
 Calls Tryz.prog 21 #[.slice A l.length c] w fun e w'=>∃ A' c' cs,e=.returned (.slice A' l.length c')∧OA w' w.heap.size A' c' l cs∧Below w.heap.size w w':=by
 obtain ⟨hlc,hc⟩:=hv.cap
 obtain ⟨i0,hi,hz0,hz1,hz2⟩:=info_parts info5
 obtain ⟨i1,hj,hy0,hy1,hy2⟩:=info_parts info48
 go_enter Tryz.func21,Tryz.ntmps21
 go_wp2
 go_loopw [3,4] (fun v i wr=>∃ (k:Nat) (A':Option Addr) (c':Nat) (cs:List Value),k≤l.length∧i=.int .i64 k∧v=.slice A' k c'∧OA wr w.heap.size A' c' (l.take k) cs∧Below w.heap.size w wr) (fun _ i _=>l.length - (intOf i).toNat)
 case atStart=>exact ⟨0,none,0,[],Nat.zero_le _,rfl,rfl,OA.nil_ _ _,Below.refl _ _⟩
 case round =>
  obtain ⟨k,A',c',cs,hk,rfl,rfl,hO,hB⟩:=hrel
  have hs:=hB.size
  by_cases hlt:k<l.length
  · obtain ⟨ad,Au,cu,rfl,hb,hc1,hc2,hu⟩:=(hv.below hB hP).at_ hlt
    have hP1:∀ b,P b→b<wr.heap.size:=fun b hb=>Nat.lt_of_lt_of_le (hP b hb) hs
    obtain ⟨x,hx⟩:∃ x,l[k]=x:=⟨_,rfl⟩
    rw [hx] at hc1 hc2 hu
    have hu1:=hu.cap
    have Hm:=Lib.hid (show (l.take k).length=k by simp;omega)
    have Hs:=Lib.hid (show l.take (k+1)=l.take k++[x] by rw [List.take_succ_eq_append_getElem hlt,hx])
    have hown:wr.ownsRow w.heap.size 37 2 (.slice A' k c') k cs:=Hm.out▸hO.1
    have hne:(Value.slice A' k c').ownBlock≠some ad.block:=by
     intro e
     have:=hown.lt _ e
     have:=hP _ hb
     omega
    have hadlt:=hP1 _ hb
    have HO:=Lib.hid hO
    clear hx hO
    go_wp2_with fail
    go_region_held3 (fun w'=>w'.cell? (ad.add (k*2))=some (.int .i64 x.1)∧w'.cell? ⟨(ad.add (k*2)).block,(ad.add (k*2)).off+1,none⟩=some (.slice Au x.2.length cu))
     (first
      | go_keep
      | ((try dsimp only);refine ⟨?_,?_⟩ <;> (first | go_keep | (rw [hg1.cell_far _ (by simp [block_of_add];omega) (by simp [Value.ownBlock])];assumption) | (go_split_ands;rw [hg2.cell_far _ (by have:=hg1.size;simp [block_of_add] at this ⊢;omega) (fun e=>hne (by simpa [block_of_add] using e.symm))];go_keep))))
     (first
      | (refine step_append_rs _ (by rfl) _ _ _ (by rfl) wr.heap.size 5 i0 _ 1 1 Tryz.underlying33 hi hz0 hz1 hz2 rfl (by omega) (.slice none 0 0) 0 [] (by rfl) (World.ownsRow_nil _ _ _ _) P Au x.2.length cu (bys x.2) (by rfl) hu.1 (oneCell_bys _) x.2.length (by omega) (by unfold maxLen;omega) (by omega) (by simp) ?_;intro A1 c1 w1 hown1 hg1 hor1)
      | (have _t:=hg1;refine step_append_rs _ (by rfl) _ _ _ (by rfl) w.heap.size 37 i1 _ 2 32 Tryz.underlying24 hj hy0 hy1 hy2 rfl (by omega) (.slice A' k c') k cs (by rfl) ((own_kept (w:=wr.drew) hown hg1).alloc _) (fun _=>True) (some ⟨w1.heap.size,0,none⟩) 1 1 [.int .i64 x.1,.slice A1 x.2.length c1] (by rfl) (RS.fresh #[.int .i64 x.1,.slice A1 x.2.length c1] 37 2 1 rfl (by unfold maxLen;omega) trivial) (by simp [Value.oneCell']) (k+1) rfl (by unfold maxLen;omega) (by omega) (by have:=hg1.size;simp at this ⊢;omega) ?_;intro A2 c2 w2 hown2 hg2 hor2))
    have hb1:Below wr.heap.size wr w1:=(Below.refl wr.heap.size wr).drew.grown hg1 (Nat.le_refl _) (by simp [Value.ownBlock])
    have hb2:=hb1.alloc hb1.size (.cells #[.int .i64 x.1,.slice A1 x.2.length c1] 37)
    have hu2:RB w1 (In wr.heap.size w1.heap.size) A1 c1 x.2:=RB.of_own (by simpa using hown1) hu.2.1 (by omega)
    have hO':=Lib.hid (OA.snoc (x:=x) HO.out Hm.out hb2 ((hu2.keep fun p hp=>World.cell?_alloc_lt w1 _ p hp.2).mono fun b hb=>⟨hb.1,by have:=hb.2;simp;omega⟩) hs hown2 hg2 hor2)
    have hB':=(hB.trans (hb2.mono hs)).grown hg2 (by have:=hb1.size;simp;omega) (fun g hg=>(hown.lt g hg).1)
    rw [←Hs.out] at hO'
    clear hg1 hor1 hg2 hor2 hown1 hown2 hb1 hb2 hu2 _t
    go_wp2
    go_roundw
    case rel=>exact ⟨k+1,A2,c2,_,by omega,by go_num,rfl,hO'.out,hB'⟩
    case measure=>simp [intOf];omega
  · have e:=Lib.hid (show l.take k=l by rw [List.take_of_length_le (by omega)])
    have ek:=Lib.hid (show k=l.length by omega)
    go_wp2
    go_ret
    exact ⟨A',c',cs,by rw [←ek.out];rfl,by have:=hO;rwa [e.out] at this,hB⟩
end Go.Proofs.YtendnkpiidhogaaGreat.At
