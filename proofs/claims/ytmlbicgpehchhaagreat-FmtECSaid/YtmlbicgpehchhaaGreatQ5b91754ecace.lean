/- Laws that the proof rests on. -/
import Derived.Test.YtmlbicgpehchhaaGreatQ576a3079eec5
set_option maxRecDepth 100000
set_option maxHeartbeats 16000000
namespace Go.Proofs.YtmlbicgpehchhaaGreat.Der
open Go.RowKit Go.Shelf
attribute [local go_sem] Oper.semAt_some
mutual
def kr:Nat→DN→Option Nat
 | d,.mk tag bs kids=>if 16<d then none else if tag≠48 then (if kids≠[]∨jY tag bs=false then none else some 1) else if bs≠[] then none else vM (d+1) 1 kids
def vM:Nat→Nat→List DN→Option Nat
  | _,k,[]=>some k
  | d, k, x :: r => match kr d x with
    | none=>none
    | some c=>if 1024<k+c then none else vM d (k+c) r
end
mutual
theorem rg:∀ {d:Nat} {t:DN} {c:Nat},kr d t=some c→1≤c
  | d, .mk tag bs kids, c, h => by
    rw [kr] at h
    split at h
    · cases h
    split at h
    · split at h
      · cases h
      · cases h;exact zG _
    split at h
    · cases h
    exact uc h
theorem uc:∀ {d k:Nat} {l:List DN} {c:Nat},vM d k l=some c→k≤c
  | d,k,[],c,h=>by rw [vM] at h;cases h;exact zG _
  | d, k, x :: r, c, h => by
    rw [vM] at h
    split at h
    · cases h
    split at h
    · cases h
    have:=uc h
    omega
end
mutual
theorem ng:∀ {d:Nat} {t:DN} {c:Nat},kr d t=some c→c≤1024
  | d, .mk tag bs kids, c, h => by
    rw [kr] at h
    split at h
    · cases h
    split at h
    · split at h
      · cases h
      · cases h;omega
    split at h
    · cases h
    exact mA (by omega) h
theorem mA:∀ {d k:Nat} {l:List DN} {c:Nat},k≤1024→vM d k l=some c→c≤1024
  | d,k,[],c,hk,h=>by rw [vM] at h;cases h;exact hk
  | d, k, x :: r, c, hk, h => by
    rw [vM] at h
    split at h
    · cases h
    split at h
    · cases h
    exact mA (by omega) h
end
def rf:Option Nat→Int
 | none=>-1
 | some c=>(c:Int)
theorem RDs.get {w:World} {P:Nat→Prop} : ∀ {ks:List DN} {cs:List Value} {i:Nat} (hi:i<ks.length),RDs w P ks cs→∃ a b c,cs[i*3]?=some a∧cs[i*3+1]?=some b∧cs[i*3+2]?=some c∧RD w P ks[i] (.agg #[a,b,c])
  | [],_,i,hi,_=>absurd hi (by simp)
  | k :: ks, cs, 0, hi, h => by
    unfold RDs at h
    obtain ⟨a,b,c,rest,rfl,h2,h3⟩:=h
    exact ⟨a,b,c,rfl,rfl,rfl,h2⟩
  | k :: ks, cs, i + 1, hi, h => by
    unfold RDs at h
    obtain ⟨a,b,c,rest,rfl,h2,h3⟩:=h
    obtain ⟨a',b',c',e1,e2,e3,h4⟩:=RDs.get (i:=i) (by simpa using hi) h3
    refine ⟨a',b',c',?_,?_,?_,h4⟩
    · rw [show (i+1)*3=i*3+3 by omega];exact e1
    · rw [show (i+1)*3+1=i*3+1+3 by omega];exact e2
    · rw [show (i+1)*3+2=i*3+2+3 by omega];exact e3
theorem dJ {w:World} {P:Nat→Prop} {A:Option Addr} {c:Nat} {ks:List DN} {cs:List Value} (h:RS w P 3 A ks.length c cs) (hd:RDs w P ks cs) {i:Nat} (hi:i<ks.length) :
 ∃ ad x B1 n1 d1 B2 n2 d2,A=some ad∧w.cell? (ad.add (i*3))=some (.int .i64 x)∧w.cell? ⟨(ad.add (i*3)).block,(ad.add (i*3)).off+1,none⟩=some (.slice B1 n1 d1)∧w.cell? ⟨(ad.add (i*3)).block,(ad.add (i*3)).off+2,none⟩=some (.slice B2 n2 d2)∧RD w P ks[i] (.agg #[.int .i64 x,.slice B1 n1 d1,.slice B2 n2 d2]):=by
 obtain ⟨h1,h2,h3,h4⟩:=h
 obtain ⟨ad,rfl,hb,hc⟩:=h4 (by omega)
 obtain ⟨a,b,c',e1,e2,e3,hr⟩:=RDs.get hi hd
 obtain ⟨x,B1,n1,d1,B2,n2,d2,he⟩:=hr.shape
 injection he with he
 simp only [Array.mk.injEq,List.cons.injEq,and_true] at he
 obtain ⟨rfl,rfl,rfl⟩:=he
 refine ⟨ad,x,B1,n1,d1,B2,n2,d2,rfl,hc _ _ e1,?_,?_,hr⟩
 · have:=hc _ _ e2;rwa [←yv] at this
 · have:=hc _ _ e3;rwa [←yv] at this
theorem RD.open_ {w:World} {P:Nat→Prop} {tag:Nat} {bs:List Nat} {kids:List DN} {v:Value} (h:RD w P (.mk tag bs kids) v):∃ A c Ak ck cs,v=.agg #[.int .i64 (tag:Int),.slice A bs.length c,.slice Ak kids.length ck]∧RB w P A c bs∧(tag=48→A=none∧c=0)∧RS w P 3 Ak kids.length ck cs∧RDs w P kids cs:=by
 unfold RD at h;exact h
def addR (d k:Nat) (r:List DN):Option Nat→Option Nat
 | none=>none
 | some c=>if 1024<k+c then none else vM d (k+c) r
theorem m8 {d k:Nat} {l:List DN} {i:Nat} (hi:i<l.length) {o:Option Nat} (ho:kr d l[i]=o):vM d k (l.drop i)=addR d k (l.drop (i+1)) o:=by
 subst ho
 rw [qQ hi,vM]
 cases kr d l[i] <;> rfl
theorem oi (n:Nat):∀ (d:Nat) (P:Nat→Prop) (t:DN) (v:Value) (w:World),d+n=17→RD w P t v→(∀ q,P q→q<w.heap.size) →
    Calls Tryz.prog 176 #[v,.int .i64 (d:Int)] w fun e w'=>e=.returned (.int .i64 (rf (kr d t)))∧Below w.heap.size w w':=by
  induction n with
  | zero =>
    intro d P t v w hd h hP
    obtain rfl:d=17:=by omega
    obtain ⟨tag,bs,kids⟩:=t
    obtain ⟨A,c,Ak,ck,cs,rfl,-⟩:=h.open_
    have HR:=zF (show kr 17 (.mk tag bs kids)=none by rw [kr,qE (by omega)])
    have HB:=zF ((zQ w.heap.size w).alloc (zG _) (.cells #[.int .i64 (tag:Int),.slice A bs.length c,.slice Ak kids.length ck] 80))
    have h17:((17:Nat):Int)=17:=rfl
    rw [h17]
    clear h17 hP hd
    go_enter Tryz.func176,Tryz.ntmps176
    go_wp2
    go_ret
    exact ⟨by rw [HR.out];rfl,HB.out⟩
  | succ n ih =>
    intro d P t v w hd h hP
    obtain ⟨tag,bs,kids⟩:=t
    obtain ⟨A,c,Ak,ck,cs,rfl,hb,h48,hk,hds⟩:=h.open_
    obtain ⟨R,hR⟩:=eV (kr d (.mk tag bs kids))
    rw [hR]
    rw [kr,zr (show ¬ 16<d by omega)] at hR
    have hE:=(zQ w.heap.size w).alloc (zG _) (.cells #[.int .i64 (tag:Int),.slice A bs.length c,.slice Ak kids.length ck] 80)
    have hn:=zN w (.cells #[.int .i64 (tag:Int),.slice A bs.length c,.slice Ak kids.length ck] 80)
    have hz:(w.alloc (.cells #[.int .i64 (tag:Int),.slice A bs.length c,.slice Ak kids.length ck] 80)).heap.size=w.heap.size+1:=by simp
    have Hb:=zF (hb.below hE hP)
    have Hk:=zF (hk.below hE hP)
    have Hds:=zF (RDs.keep (fun p hp=>hE.cell (hP _ hp)) hds)
    have HE:=zF hE
    have Hn:=zF hn
    have Hz:=zF hz
    have HP:=zF hP
    obtain ⟨s,hs⟩:=eV w.heap.size
    have Hs:=zF hs
    rw [hs] at HE Hn Hz HP
    have hd16:¬ (16:Int)<(d:Int):=by omega
    have H48:=zF h48
    have Hd:=zF (show d+1+n=17 by omega)
    obtain ⟨hlc,hlc2,hlb⟩:=hb.cap
    have hkl:=hk.1
    have hkc:ck≤9223372036854775807:=hk.2.1
    clear hE hn hz hb hk hds hP h h48 hs hd
    by_cases ht:tag=48
    rotate_left
    · rw [qE ht] at hR
      have ht':((tag:Int)==48)=false:=beq_eq_false_iff_ne.2 (by omega)
      by_cases hk0:kids=[]
      rotate_left
      · have hR2:R=none:=by rw [←hR,qE (.inl hk0)]
        subst hR2
        have hk1':=List.length_pos_iff.2 hk0
        obtain ⟨m,hm⟩:=eV kids.length
        rw [hm] at hk1' Hn HE
        rw [hm]
        have hk1:(0:Int)<(m:Int):=by omega
        clear hk0 hR Hk Hds Hb Hz hkl hm ih
        go_enter Tryz.func176,Tryz.ntmps176
        go_wp2
        go_ret
        exact ⟨rfl,by rw [Hs.out];exact HE.out⟩
      · subst hk0
        have HC:=ax P A c tag bs _ Hb.out
        obtain ⟨pb,hpb⟩:=eV (jY tag bs)
        rw [hpb] at HC hR
        have HCo:=zF HC
        have HRR:=zF hR
        clear HC hpb hR
        go_enter Tryz.func176,Tryz.ntmps176
        go_wp2_with fail
        refine HCo.out.mono ?_
        rintro e w1 ⟨rfl,d1,rfl⟩
        have HE2:=zF (qT HE.out d1)
        cases pb
        · have hR2:R=none:=by rw [←HRR.out,qE (.inr rfl)]
          subst hR2
          go_wp2
          go_ret
          exact ⟨rfl,by rw [Hs.out];exact HE2.out⟩
        · have hR2:R=some 1:=by rw [←HRR.out,zr (by simp)]
          subst hR2
          go_wp2
          go_ret
          exact ⟨rfl,by rw [Hs.out];exact HE2.out⟩
    subst ht
    rw [zr (by omega)] at hR
    obtain ⟨rfl,rfl⟩:=H48.out rfl
    by_cases hb0:bs=[]
    rotate_left
    · have hR2:R=none:=by rw [←hR,qE hb0]
      subst hR2
      have hb1':=List.length_pos_iff.2 hb0
      obtain ⟨m,hm⟩:=eV bs.length
      rw [hm] at hb1' Hn HE
      rw [hm]
      have hb1:(0:Int)<(m:Int):=by omega
      clear Hk Hds Hb Hz hm ih hlc hlb hlc2 H48
      have c48:((48:Nat):Int)=48:=rfl
      rw [c48] at Hn HE ⊢
      clear hb0 hR c48
      go_enter Tryz.func176,Tryz.ntmps176
      go_wp2
      go_ret
      refine ⟨rfl,?_⟩
      rw [Hs.out];exact HE.out
    subst hb0
    rw [zr (by simp)] at hR
    have HRR:=zF hR
    have c48:((48:Nat):Int)=48:=rfl
    have l0:([]:List Nat).length=0:=rfl
    rw [c48,l0] at Hn HE Hb Hk Hds Hz
    rw [c48,l0]
    clear hR c48 l0 hlc hlc2 hlb H48 Hb
    go_enter Tryz.func176,Tryz.ntmps176
    go_wp2
    rw [Hs.out]
    generalize w.alloc (.cells #[.int .i64 48,.slice none 0 0,.slice Ak kids.length ck] 80)=W0 at *
    go_loopw [5,6] (fun v i wr=>∃ (k j:Nat),j≤kids.length∧i=.int .i64 (j:Int)∧v=.int .i64 (k:Int)∧k≤1024∧vM (d+1) k (kids.drop j)=R∧Below (s+1) W0 wr) (fun _ i _=>kids.length - (intOf i).toNat)
    case atStart=>exact ⟨1,0,by omega,rfl,rfl,by omega,HRR.out,zQ _ _⟩
    case round =>
      obtain ⟨k,j,hj,rfl,rfl,hk1,hR,hB⟩:=hrel
      have HB:=zF hB
      have hbx:=(hB.block s (by omega)).trans Hn.out
      have hsz:=zU (yY Hz.out.symm) hB.size
      have Hsz:=zF hsz
      have m2:=zH hbx 2
      simp only [zI,zJ,zL] at m2
      clear hbx hB hsz
      by_cases hlt:j<kids.length
      · obtain ⟨ad,x,B1,n1,d1,B2,n2,d2,rfl,x0,x1,x2,hrd⟩:=dJ (RS.below Hk.out HB.out (fun q hq=>by have:=HP.out q hq;omega)) (RDs.keep (fun p hp=>HB.out.cell (by have:=HP.out _ hp;omega)) Hds.out) hlt
        have q1:(j:Int)<(kids.length:Int):=by omega
        obtain ⟨o,ho⟩:=eV (kr (d+1) kids[j])
        have hst:=m8 (k:=k) hlt ho
        rw [hst] at hR
        have HRR:=zF hR
        have IH:=ih (d+1) P kids[j] _ wr Hd.out hrd (fun q hq=>by have:=HP.out q hq;have:=Hsz.out;omega)
        rw [ho] at IH
        have Ho:=zF ho
        have hd1:((d+1:Nat):Int)=(d:Int)+1:=by omega
        rw [hd1] at IH
        have HIH:=zF IH
        have hw1:IntKind.i64.wrap ((d:Int)+1)=(d:Int)+1:=by have:=Hd.out;rw [qm];omega
        clear hR hst ho IH hrd hd1
        go_wp2_with fail
        refine HIH.out.mono ?_
        rintro e w1 ⟨rfl,hB1⟩
        have HB1:=zF (HB.out.trans (hB1.mono Hsz.out))
        have hbx:=(HB1.out.block s (by omega)).trans Hn.out
        have m2':=zH hbx 2
        simp only [zI,zJ,zL] at m2'
        clear hB1 x0 x1 x2 m2 hbx HIH
        cases o with
        | none =>
          have hR2:R=none:=HRR.out.symm
          subst hR2
          have hm1:rf none=-1:=rfl
          rw [hm1]
          clear hm1
          go_wp2
          go_ret
          exact ⟨rfl,by rw [Hs.out];exact HE.out.trans (HB1.out.mono (by omega))⟩
        | some cc =>
          have hm1:rf (some cc)=(cc:Int):=rfl
          rw [hm1]
          have hc1:¬ (cc:Int)<0:=by omega
          have hw2:IntKind.i64.wrap ((k:Int)+(cc:Int))=((k+cc:Nat):Int):=by have:=ng Ho.out;rw [qm];omega
          have hRR:(if 1024<k+cc then none else vM (d+1) (k+cc) (kids.drop (j+1)))=R:=HRR.out
          obtain ⟨kc,hkc'⟩:=eV (k+cc)
          rw [hkc'] at hw2 hRR
          clear hm1 hkc' HRR
          by_cases hb:1024<kc
          · rw [qE hb] at hRR
            subst hRR
            have hb':(1024:Int)<(kc:Int):=by omega
            go_wp2
            go_ret
            exact ⟨rfl,by rw [Hs.out];exact HE.out.trans (HB1.out.mono (by omega))⟩
          · rw [zr hb] at hRR
            have HRR2:=zF hRR
            have hb':¬ (1024:Int)<(kc:Int):=by omega
            clear hRR
            go_wp2
            go_roundw
            case rel=>exact ⟨kc,j+1,by omega,by go_num,rfl,by omega,HRR2.out,HB1.out⟩
            case measure=>simp [intOf];omega
      · obtain rfl:j=kids.length:=by omega
        rw [List.drop_of_length_le (zG _),vM] at hR
        subst hR
        have q1:¬ (kids.length:Int)<(kids.length:Int):=by omega
        go_wp2
        go_ret
        exact ⟨rfl,by rw [Hs.out];exact HE.out.trans (HB.out.mono (by omega))⟩
def up8:Nat→Nat→List Nat→List Nat
 | 0,_,out=>out
 | f+1,n,out=>if n=0 then out else up8 f (n / 256) (n % 256 :: out)
def beB (n:Nat):List Nat:=up8 9 n []
def de (n:Nat):List Nat:=if n<128 then [n] else (128+(beB n).length) :: beB n
def hdB (tag:Nat) (b:List Nat):List Nat:=tag % 256 :: (de b.length++b)
mutual
def enc:DN→List Nat
 | .mk tag bs kids=>hdB tag (if tag=48 then js kids else bs)
def js:List DN→List Nat
 | []=>[]
 | k :: ks=>enc k++js ks
end
theorem uS:∀ (a b:List DN),js (a++b)=js a++js b
 | [],b=>by rw [List.nil_append,js];rfl
 | k :: a,b=>by rw [List.cons_append,js,js,uS a b,kH]
theorem gj {l:List DN} {i:Nat} (h:i<l.length):js (l.take (i+1))=js (l.take i)++enc l[i]:=by
 rw [vz h,uS,js,js,List.append_nil]
theorem bO {l:List DN} (i:Nat):(js (l.take i)).length≤(js l).length:=by
 conv=>rhs;rw [←List.take_append_drop i l,uS,zk]
 omega
theorem aY {tag:Nat} {bs:List Nat} {kids:List DN} {x:DN} (h:x∈kids):SizeOf.sizeOf x<SizeOf.sizeOf (DN.mk tag bs kids):=by
 have:=List.sizeOf_lt_of_mem h
 simp only [DN.mk.sizeOf_spec]
 omega
theorem bT {w:World} {g b:Nat} {c:Nat} {base:Nat} (h:OW w base (some ⟨g,0,none⟩) c [b]):g<w.heap.size:=(pk h.1 (q:=g) rfl).2
theorem gN (tag:Nat) (b:List Nat):b.length≤(hdB tag b).length:=by simp [hdB];omega
section
variable {w:World} {ops:Array Oper} {rest:List Oper} {o:Oper} {a:Act} {Q:Exit→Act→World→Prop}
theorem rq (hgd:o.guard=none) (s x:Operand) (ho:o.op=.call { callee:=.builtin .append,args:=#[s,x],argTypes:=#[34,34] }) (base:Nat) {A Au:Option Addr} {c cu:Nat} {bs cs:List Nat} {B:Nat→Prop}
 (hs:a.eval s=.slice A bs.length c) (hown:OW w base A c bs) (hx:a.eval x=.slice Au cs.length cu) (hr:RB w B Au cu cs) (hl:bs.length+cs.length≤100000000) (hbase:base≤w.heap.size)
 (h:∀ A' c' w',OW w' base A' c' (bs++cs)→w.grownBy w' (Value.slice A bs.length c).ownBlock→wpList Tryz.prog ops Q rest (a.put o.dst (.slice A' (bs++cs).length c')) w'):wpList Tryz.prog ops Q (o :: rest) a w:=by
 obtain ⟨i0,hi,hz0,hz1,hz2⟩:=info_parts cQ
 refine qz w hgd s x 34 ho base 5 i0 (.int .u8 0) 1 1 Tryz.underlying34 hi hz0 hz1 hz2 rfl (by decide) _ bs.length (bys bs) hs hown.1 B Au cs.length cu (bys cs) hx hr.1 (by intro u hu;obtain ⟨b,_,rfl⟩:=List.mem_map.1 hu;rfl) (bs.length+cs.length) rfl (by unfold maxLen;omega) (by omega) hbase ?_
 intro A' c' w' h1 h2 h3
 have hlen:(bs++cs).length=bs.length+cs.length:=zk
 refine (hlen▸h A' c' w' ⟨?_,?_⟩ h2:_)
 · rw [hlen,show bys (bs++cs)=bys bs++bys cs by simp [bys]]
   exact h1
 · intro b hb
   rcases List.mem_append.1 hb with hb | hb
   · exact hown.2 b hb
   · exact hr.2.1 b hb
end
theorem sa (n:Nat):∀ (P:Nat→Prop) (t:DN) (v:Value) (w:World),SizeOf.sizeOf t≤n→(enc t).length≤10000000→RD w P t v→(∀ q,P q→q<w.heap.size) →
    Calls Tryz.prog 147 #[v] w fun e w'=>(∃ A1 c1,e=.returned (.slice A1 (enc t).length c1)∧OW w' w.heap.size A1 c1 (enc t))∧Below w.heap.size w w':=by
  induction n with
  | zero =>
    intro P t v w hd h hP
    obtain ⟨tag,bs,kids⟩:=t
    simp at hd
  | succ n ih =>
    intro P t v w hd hl h hP
    obtain ⟨tag,bs,kids⟩:=t
    obtain ⟨A,c,Ak,ck,cs,rfl,hb,h48,hk,hds⟩:=h.open_
    obtain ⟨T,hT⟩:=eV (enc (.mk tag bs kids))
    rw [hT] at hl ⊢
    rw [enc] at hT
    have hE:=(zQ w.heap.size w).alloc (zG _) (.cells #[.int .i64 (tag:Int),.slice A bs.length c,.slice Ak kids.length ck] 80)
    have hn:=zN w (.cells #[.int .i64 (tag:Int),.slice A bs.length c,.slice Ak kids.length ck] 80)
    have hz:(w.alloc (.cells #[.int .i64 (tag:Int),.slice A bs.length c,.slice Ak kids.length ck] 80)).heap.size=w.heap.size+1:=by simp
    have Hb:=zF (hb.below hE hP)
    have Hk:=zF (hk.below hE hP)
    have Hds:=zF (RDs.keep (fun p hp=>hE.cell (hP _ hp)) hds)
    have HE:=zF hE
    have Hn:=zF hn
    have Hz:=zF hz
    have HP:=zF hP
    obtain ⟨s,hs⟩:=eV w.heap.size
    have Hs:=zF hs
    rw [hs] at HE Hn Hz HP
    have H48:=zF h48
    have Hd:=zF hd
    obtain ⟨hlc,hlc2,hlb⟩:=hb.cap
    have hkl:=hk.1
    have hkc:ck≤9223372036854775807:=hk.2.1
    clear hE hn hz hb hk hds hP h h48 hs hd
    by_cases ht:tag=48
    rotate_left
    · rw [zr ht] at hT
      have ht':((tag:Int)==48)=false:=beq_eq_false_iff_ne.2 (by omega)
      obtain ⟨b0,hb0,he0⟩:∃ b0:Nat,b0<256∧(tag:Int) % 256=(b0:Int):=⟨tag % 256,by omega,by omega⟩
      have Hb0:=zF (show tag % 256=b0 by omega)
      have HT:=zF hT.symm
      have HBl:Hid (bs.length≤10000000):=zF (by have:=gN tag bs;rw [hT] at this;omega)
      clear hT ht H48 hl
      go_enter Tryz.func147,Tryz.ntmps147
      go_upto_region 9 with fail
      rw [Hs.out]
      generalize w.alloc (.cells #[.int .i64 (tag:Int),.slice A bs.length c,.slice Ak kids.length ck] 80)=W at *
      have m0:=zH Hn.out 0
      simp only [zI,zJ] at m0
      have HPb:Hid (∀ q,P q→q<W.heap.size):=zF (fun q hq=>by have:=HP.out q hq;have:=Hz.out;omega)
      have HsW:=zF (show s≤W.heap.size by have:=Hz.out;omega)
      have HEW:=HE
      have HRB:=Hb
      obtain ⟨B,hB⟩:=eV bs
      rw [hB] at HRB HBl HT
      rw [hB]
      clear hB
      clear ih hlb
      obtain ⟨N,hN⟩:=eV B.length
      have HNl:=zF hN
      have HN7:=zF (show N≤10000000 by rw [←hN];exact HBl.out)
      rw [hN]
      clear hN
      have hO1:OW (W.alloc (.cells #[.int .u8 (b0:Int)] 5)) W.heap.size (some ⟨W.heap.size,0,none⟩) 1 [b0]:=xB W b0 hb0
      have HO1:=zF hO1
      obtain ⟨W1,hW1⟩:=eV (W.alloc (.cells #[.int .u8 (b0:Int)] 5))
      rw [hW1] at HO1
      have HB1:Hid (Below W.heap.size W W1):=zF (by rw [←hW1];exact (zQ _ W).alloc (zG _) _)
      have HW1:=zF hW1
      clear hO1 hW1
      by_cases h128:N<128
      · have h128':(N:Int)<128:=by omega
        have hN2:(N:Int) % 256=(N:Int):=by omega
        have hO2:=xB W1 N (by omega)
        have HO2:=zF ((hO2.rb (by simp)).below (zQ _ _) (fun q hq=>hq.2))
        have HO3:=zF (wv HO1.out ((zQ W1.heap.size W1).alloc (zG _) (.cells #[.int .u8 (N:Int)] 5)))
        have HB2:=zF (HB1.out.trans ((zQ W.heap.size W1).alloc HB1.out.size (.cells #[.int .u8 (N:Int)] 5)))
        have HT2:=zF (show T=([b0]++[N])++B by rw [HT.out];unfold hdB de;rw [HNl.out,qE h128,Hb0.out];rfl)
        clear hO2 h128
        go_upto_region 11 with fail
        rw [HW1.out]
        clear HW1
        go_wp2_with (at_builtin;refine wf rfl (.tmp 37) (.tmp 41) rfl W.heap.size (bs:=[b0]) (cs:=[N]) rfl HO3.out rfl HO2.out (by simp) HB2.out.size ?_)
        intro A2 c2 w3 hw3 hb3
        have HW3:=zF hw3
        have HB3:=zF (HB2.out.trans hb3)
        clear hw3 hb3
        go_wp2_with (at_builtin;refine wf rfl (.tmp 65) (.tmp 66) rfl W.heap.size (bs:=[b0]++[N]) (cs:=B) rfl HW3.out (by rw [HNl.out];rfl) (HRB.out.below HB3.out HPb.out) (by rw [HNl.out];have:=HN7.out;simp;omega) HB3.out.size ?_)
        intro A4 c4 w4 hw4 hb4
        have HW4:=zF hw4
        have HB4:=zF (HEW.out.trans ((HB3.out.trans hb4).mono HsW.out))
        clear hw4 hb4
        go_wp2
        go_ret
        exact ⟨⟨A4,c4,(by rw [HT2.out];first | rfl | simp),by rw [HT2.out];exact j6 HW4.out (by have:=HsW.out;have:=Hs.out;omega)⟩,by rw [Hs.out];exact HB4.out⟩
      have h128':¬ (N:Int)<128:=by omega
      go_upto_region 12 with fail
      rw [HW1.out]
      clear HW1
      have hgo:=HB1.out.size
      go_wp2
      go_loopw [7,8] (fun v i wr=>∃ (x:Nat) (A:Option Addr) (c:Nat) (bs:List Nat),i=.int .i64 (x:Int)∧v=.slice A bs.length c∧OW wr W1.heap.size A c bs∧bs.length≤9∧x<256 ^ (9 - bs.length)∧x≤N∧up8 (9 - bs.length) x bs=up8 9 N []∧Below W1.heap.size W1 wr) (fun _ i _=>(intOf i).toNat)
      case atStart=>exact ⟨N,none,0,[],rfl,rfl,⟨kV _ _ _ _,by simp⟩,by simp,by have:=HN7.out;simp;omega,zG _,rfl,zQ _ _⟩
      case round =>
        obtain ⟨x,A,c,bs,rfl,rfl,hO,hl9,hx,hxN,hup,hB⟩:=hrel
        have HUp:=zF hup
        have HO:=zF hO
        have HB:=zF hB
        have hs:=hB.size
        clear hup hO hB
        by_cases hx0:0<x
        · have hl8:bs.length≤8:=by
            rcases qB 8 bs.length with h | h
            · have:bs.length=9:=by omega
              rw [this] at hx
              simp at hx
              omega
            · exact h
          have HX:=zF (show x / 256<256 ^ (9 - (bs.length+1)) by
            rw [show 9 - bs.length=9 - (bs.length+1)+1 by omega,zv] at hx
            exact qP (by rw [zh];exact hx))
          obtain ⟨y,hy,hye⟩:∃ y:Nat,y<256∧(x:Int) % 256=(y:Int):=⟨x % 256,by omega,by omega⟩
          have HUp2:=zF (show up8 (9 - (bs.length+1)) (x / 256) (y :: bs)=up8 9 N [] by rw [show y=x % 256 by omega,←HUp.out,show 9 - bs.length=9 - (bs.length+1)+1 by omega,up8,zr (by omega)])
          have HL:=zF (xB wr y hy)
          have HR:=zF ((HO.out.rb (by omega)).below ((zQ _ wr).alloc (zG _) (.cells #[.int .u8 (y:Int)] 5)) fun q hq=>hq.2)
          have hi:(0:Int)<(x:Int):=by omega
          have HN8:=zF (show x / 256≤N by omega)
          have Hw2:=zF (show wrap64 ((x:Int) / 256)=(x:Int) / 256 by have:=HN7.out;rw [←IntWalk.i64_left,qm];omega)
          clear hx hxN
          go_wp2_with (at_builtin;refine wf rfl (.tmp 52) (.tmp 53) rfl wr.heap.size (bs:=[y]) (cs:=bs) rfl HL.out rfl HR.out (by simp;omega) (by simp) ?_)
          intro A2 c2 w2 hw2 hb2
          have HB2:=zF ((HB.out.alloc hs (.cells #[.int .u8 (y:Int)] 5)).trans (hb2.mono hs))
          have HW2:=zF hw2
          clear hw2 hb2
          go_wp2
          go_roundw
          case rel=>exact ⟨x / 256,A2,c2,y :: bs,by first | (rw [Hw2.out];simp) | simp,rfl,j6 HW2.out hs,by simp;omega,by simpa using HX.out,HN8.out,by simpa using HUp2.out,HB2.out⟩
          case measure=>first | (rw [Hw2.out];simp [intOf];omega) | (simp [intOf];omega)
        · obtain rfl:x=0:=by omega
          have hlb:bs=beB N:=by rw [beB,←HUp.out];cases 9 - bs.length <;> simp [up8]
          have HT2:=zF (show T=(([b0]++[128+bs.length])++bs)++B by rw [HT.out];unfold hdB de;rw [HNl.out,zr h128,Hb0.out,hlb];simp)
          obtain ⟨L,hL⟩:=eV bs.length
          have HL:=zF hL
          rw [hL]
          rw [hL] at hl9 HT2
          have hL2:(128+(L:Int)) % 256=((128+L:Nat):Int):=by omega
          have hL3:IntKind.i64.wrap (128+(L:Int))=128+(L:Int):=by rw [qm];omega
          have hO4:=xB wr (128+L) (by omega)
          have HO4:=zF ((hO4.rb (by simp)).below (zQ _ _) (fun q hq=>hq.2))
          have HO5:=zF (wv (wv HO1.out HB.out) ((zQ wr.heap.size wr).alloc (zG _) (.cells #[.int .u8 ((128+L:Nat):Int)] 5)))
          have HB5:=zF ((HB1.out.trans (HB.out.mono hgo)).alloc (zU hgo hs) (.cells #[.int .u8 ((128+L:Nat):Int)] 5))
          have HRl:=zF ((HO.out.rb (by omega)).below ((zQ _ wr).alloc (zG _) (.cells #[.int .u8 ((128+L:Nat):Int)] 5)) fun q hq=>hq.2)
          clear hlb hL hO4 hx hxN h128
          have hW1s:=HB1.out.size
          have HW1s:=zF (show W.heap.size<W1.heap.size from bT HO1.out)
          go_wp2_with (at_builtin;refine rq rfl (.tmp 55) (.tmp 60) rfl W.heap.size (bs:=[b0]) (cs:=[128+L]) rfl HO5.out rfl HO4.out (by simp) HB5.out.size ?_)
          intro A2 c2 w3 hw3 hg3
          have HW3:=zF hw3
          have HB3:=zF (HB5.out.grown hg3 HB5.out.size (by intro k hk;simp [Value.ownBlock] at hk;omega))
          have HRl3:=zF (HRl.out.keep (w':=w3) fun p hp=>zS (hg3.block _ (by have:=hp.2;simp;omega) (by have:=hp.1;have:=HW1s.out;simp [Value.ownBlock];omega)))
          clear hw3 hg3
          go_wp2_with (at_builtin;refine wf rfl (.tmp 62) (.tmp 63) rfl W.heap.size (bs:=[b0]++[128+L]) (cs:=bs) rfl HW3.out (by rw [HL.out];rfl) HRl3.out (by rw [HL.out];simp;omega) HB3.out.size ?_)
          intro A5 c5 w5 hw5 hb5
          have HW5:=zF hw5
          have HB5':=zF (HB3.out.trans hb5)
          clear hw5 hb5
          go_wp2_with (at_builtin;refine wf rfl (.tmp 65) (.tmp 66) rfl W.heap.size (bs:=([b0]++[128+L])++bs) (cs:=B) rfl HW5.out (by rw [HNl.out];rfl) (HRB.out.below HB5'.out HPb.out) (by rw [HNl.out];have:=HN7.out;simp;rw [HL.out];omega) HB5'.out.size ?_)
          intro A4 c4 w4 hw4 hb4
          have HW4:=zF hw4
          have HB4:=zF (HEW.out.trans ((HB5'.out.trans hb4).mono HsW.out))
          clear hw4 hb4
          go_wp2
          go_ret
          exact ⟨⟨A4,c4,(by rw [HT2.out];first | rfl | simp),by rw [HT2.out];exact j6 HW4.out (by have:=HsW.out;have:=Hs.out;omega)⟩,by rw [Hs.out];exact HB4.out⟩
    subst ht
    rw [qE rfl] at hT
    obtain ⟨rfl,rfl⟩:=H48.out rfl
    have hbs0:bs=[]:=qH (by omega)
    subst hbs0
    have HT0:=zF hT.symm
    have hkl7:(js kids).length≤10000000:=by have:=gN 48 (js kids);rw [hT] at this;omega
    have HKl:=zF hkl7
    have c48:((48:Nat):Int)=48:=rfl
    have l0:([]:List Nat).length=0:=rfl
    rw [c48,l0] at Hn HE Hb Hk Hds Hz
    rw [c48,l0]
    clear hT c48 l0 hlc hlc2 hlb H48 Hb hl hkl7
    go_enter Tryz.func147,Tryz.ntmps147
    go_wp2
    rw [Hs.out]
    generalize w.alloc (.cells #[.int .i64 48,.slice none 0 0,.slice Ak kids.length ck] 80)=W0 at *
    go_loopw [3,4] (fun v i wr=>∃ (j:Nat) (A':Option Addr) (c':Nat) (acc:List Nat),j≤kids.length∧i=.int .i64 (j:Int)∧v=.slice A' acc.length c'∧OW wr W0.heap.size A' c' acc∧acc=js (kids.take j)∧Below (s+1) W0 wr) (fun _ i _=>kids.length - (intOf i).toNat)
    case atStart=>exact ⟨0,none,0,[],by omega,rfl,rfl,⟨kV _ _ _ _,by simp⟩,by simp [js],zQ _ _⟩
    case round =>
      obtain ⟨j,A',c',acc,hj,rfl,rfl,hO,hacc,hB⟩:=hrel
      have HB:=zF hB
      have HO:=zF hO
      have HAcc:=zF hacc
      have hbx:=(hB.block s (by omega)).trans Hn.out
      have Hsz:=zF (zU (yY Hz.out.symm) hB.size)
      have m2:=zH hbx 2
      have m0:=zH hbx 0
      simp only [zI,zJ,zL] at m2 m0
      clear hB hO hacc
      by_cases hlt:j<kids.length
      · obtain ⟨ad,x,B1,n1,d1,B2,n2,d2,rfl,x0,x1,x2,hrd⟩:=dJ (RS.below Hk.out HB.out (fun q hq=>by have:=HP.out q hq;omega)) (RDs.keep (fun p hp=>HB.out.cell (by have:=HP.out _ hp;omega)) Hds.out) hlt
        have q1:(j:Int)<(kids.length:Int):=by omega
        have htk:=gj hlt
        have hle:(js (kids.take (j+1))).length≤(js kids).length:=bO _
        have IH:=ih P kids[j] _ wr (by have:=aY (tag:=48) (bs:=[]) (jX hlt);have:=Hd.out;omega) (by rw [htk,zk] at hle;have:=HKl.out;omega) hrd (fun q hq=>by have:=HP.out q hq;have:=Hsz.out;omega)
        rw [htk,←HAcc.out] at hle
        rw [←HAcc.out] at htk
        obtain ⟨wk,hwk⟩:=eV (enc kids[j])
        rw [hwk] at IH htk hle
        have HIH:=zF IH
        have HTk:=zF htk
        have HLe:=zF hle
        clear IH hrd htk hle hwk hbx m0
        go_wp2_with fail
        refine HIH.out.mono ?_
        rintro e w1 ⟨⟨A5,c5,rfl,hO5⟩,hB1⟩
        have HO5:=zF (hO5.rb (by have:=HLe.out;have:=HKl.out;rw [zk] at *;omega))
        have HO6:=zF (wv HO.out hB1)
        have HB1:=zF (HB.out.trans (hB1.mono Hsz.out))
        have HW0:=zF (show W0.heap.size≤w1.heap.size from HB1.out.size)
        clear hO5 hB1 x0 x1 x2 m2 HIH
        go_wp2_with (at_builtin;refine wf rfl (.tmp 27) (.tmp 28) rfl W0.heap.size (bs:=acc) (cs:=wk) rfl HO6.out rfl HO5.out (by have:=HLe.out;have:=HKl.out;rw [zk] at *;omega) HW0.out ?_)
        intro A6 c6 w6 hw6 hb6
        have HW6:=zF hw6
        have HB6:=zF (HB1.out.trans (hb6.mono (by have:=Hz.out;omega)))
        have HT6:=zF (show acc++wk=js (kids.take (j+1)) by rw [HTk.out])
        clear hw6 hb6
        go_wp2
        go_roundw
        case rel=>exact ⟨j+1,A6,c6,acc++wk,by omega,by go_num,by first | rfl | simp,HW6.out,HT6.out,HB6.out⟩
        case measure=>simp [intOf];omega
      · obtain rfl:j=kids.length:=by omega
        have hwk:acc=js kids:=by rw [HAcc.out,zx (zG _)]
        rw [←hwk] at HT0 HKl
        have HT:=HT0
        have HBl:=HKl
        have HRB:=zF (HO.out.rb (by have:=HKl.out;omega))
        have HPb:Hid (∀ q,In W0.heap.size wr.heap.size q→q<wr.heap.size):=zF (fun q hq=>hq.2)
        have HEW:=zF (HE.out.trans (HB.out.mono (by omega)))
        have HsW:=zF (show s≤wr.heap.size by have:=Hsz.out;omega)
        clear ih hbx hwk HT0 HKl
        obtain ⟨B,hBB⟩:=eV acc
        rw [hBB] at HRB HBl HT
        rw [hBB]
        clear hBB HAcc HO
        generalize wr=W at *
        go_upto_region 9 with fail
        obtain ⟨N,hN⟩:=eV B.length
        have HNl:=zF hN
        have HN7:=zF (show N≤10000000 by rw [←hN];exact HBl.out)
        rw [hN]
        clear hN
        have hO1:OW (W.alloc (.cells #[.int .u8 48] 5)) W.heap.size (some ⟨W.heap.size,0,none⟩) 1 [48]:=xB W 48 (by omega)
        have HO1:=zF hO1
        obtain ⟨W1,hW1⟩:=eV (W.alloc (.cells #[.int .u8 48] 5))
        rw [hW1] at HO1
        have HB1:Hid (Below W.heap.size W W1):=zF (by rw [←hW1];exact (zQ _ W).alloc (zG _) _)
        have HW1:=zF hW1
        clear hO1 hW1
        by_cases h128:N<128
        · have h128':(N:Int)<128:=by omega
          have hN2:(N:Int) % 256=(N:Int):=by omega
          have hO2:=xB W1 N (by omega)
          have HO2:=zF ((hO2.rb (by simp)).below (zQ _ _) (fun q hq=>hq.2))
          have HO3:=zF (wv HO1.out ((zQ W1.heap.size W1).alloc (zG _) (.cells #[.int .u8 (N:Int)] 5)))
          have HB2:=zF (HB1.out.trans ((zQ W.heap.size W1).alloc HB1.out.size (.cells #[.int .u8 (N:Int)] 5)))
          have HT2:=zF (show T=([48]++[N])++B by rw [HT.out];unfold hdB de;rw [HNl.out,qE h128];rfl)
          clear hO2 h128
          go_upto_region 11 with fail
          rw [HW1.out]
          clear HW1
          go_wp2_with (at_builtin;refine wf rfl (.tmp 37) (.tmp 41) rfl W.heap.size (bs:=[48]) (cs:=[N]) rfl HO3.out rfl HO2.out (by simp) HB2.out.size ?_)
          intro A2 c2 w3 hw3 hb3
          have HW3:=zF hw3
          have HB3:=zF (HB2.out.trans hb3)
          clear hw3 hb3
          go_wp2_with (at_builtin;refine wf rfl (.tmp 65) (.tmp 66) rfl W.heap.size (bs:=[48]++[N]) (cs:=B) rfl HW3.out (by rw [HNl.out];rfl) (HRB.out.below HB3.out HPb.out) (by rw [HNl.out];have:=HN7.out;simp;omega) HB3.out.size ?_)
          intro A4 c4 w4 hw4 hb4
          have HW4:=zF hw4
          have HB4:=zF (HEW.out.trans ((HB3.out.trans hb4).mono HsW.out))
          clear hw4 hb4
          go_wp2
          go_ret
          exact ⟨⟨A4,c4,(by rw [HT2.out];first | rfl | simp),by rw [HT2.out];exact j6 HW4.out (by have:=HsW.out;have:=Hs.out;omega)⟩,by rw [Hs.out];exact HB4.out⟩
        have h128':¬ (N:Int)<128:=by omega
        go_upto_region 12 with fail
        rw [HW1.out]
        clear HW1
        have hgo:=HB1.out.size
        go_wp2
        go_loopw [7,8] (fun v i wr=>∃ (x:Nat) (A:Option Addr) (c:Nat) (bs:List Nat),i=.int .i64 (x:Int)∧v=.slice A bs.length c∧OW wr W1.heap.size A c bs∧bs.length≤9∧x<256 ^ (9 - bs.length)∧x≤N∧up8 (9 - bs.length) x bs=up8 9 N []∧Below W1.heap.size W1 wr) (fun _ i _=>(intOf i).toNat)
        case atStart=>exact ⟨N,none,0,[],rfl,rfl,⟨kV _ _ _ _,by simp⟩,by simp,by have:=HN7.out;simp;omega,zG _,rfl,zQ _ _⟩
        case round =>
          obtain ⟨x,A,c,bs,rfl,rfl,hO,hl9,hx,hxN,hup,hB⟩:=hrel
          have HUp:=zF hup
          have HO:=zF hO
          have HB:=zF hB
          have hs:=hB.size
          clear hup hO hB
          by_cases hx0:0<x
          · have hl8:bs.length≤8:=by
              rcases qB 8 bs.length with h | h
              · have:bs.length=9:=by omega
                rw [this] at hx
                simp at hx
                omega
              · exact h
            have HX:=zF (show x / 256<256 ^ (9 - (bs.length+1)) by
              rw [show 9 - bs.length=9 - (bs.length+1)+1 by omega,zv] at hx
              exact qP (by rw [zh];exact hx))
            obtain ⟨y,hy,hye⟩:∃ y:Nat,y<256∧(x:Int) % 256=(y:Int):=⟨x % 256,by omega,by omega⟩
            have HUp2:=zF (show up8 (9 - (bs.length+1)) (x / 256) (y :: bs)=up8 9 N [] by rw [show y=x % 256 by omega,←HUp.out,show 9 - bs.length=9 - (bs.length+1)+1 by omega,up8,zr (by omega)])
            have HL:=zF (xB wr y hy)
            have HR:=zF ((HO.out.rb (by omega)).below ((zQ _ wr).alloc (zG _) (.cells #[.int .u8 (y:Int)] 5)) fun q hq=>hq.2)
            have hi:(0:Int)<(x:Int):=by omega
            have HN8:=zF (show x / 256≤N by omega)
            have Hw2:=zF (show wrap64 ((x:Int) / 256)=(x:Int) / 256 by have:=HN7.out;rw [←IntWalk.i64_left,qm];omega)
            clear hx hxN
            go_wp2_with (at_builtin;refine wf rfl (.tmp 52) (.tmp 53) rfl wr.heap.size (bs:=[y]) (cs:=bs) rfl HL.out rfl HR.out (by simp;omega) (by simp) ?_)
            intro A2 c2 w2 hw2 hb2
            have HB2:=zF ((HB.out.alloc hs (.cells #[.int .u8 (y:Int)] 5)).trans (hb2.mono hs))
            have HW2:=zF hw2
            clear hw2 hb2
            go_wp2
            go_roundw
            case rel=>exact ⟨x / 256,A2,c2,y :: bs,by first | (rw [Hw2.out];simp) | simp,rfl,j6 HW2.out hs,by simp;omega,by simpa using HX.out,HN8.out,by simpa using HUp2.out,HB2.out⟩
            case measure=>first | (rw [Hw2.out];simp [intOf];omega) | (simp [intOf];omega)
          · obtain rfl:x=0:=by omega
            have hlb:bs=beB N:=by rw [beB,←HUp.out];cases 9 - bs.length <;> simp [up8]
            have HT2:=zF (show T=(([48]++[128+bs.length])++bs)++B by rw [HT.out];unfold hdB de;rw [HNl.out,zr h128,hlb];simp)
            obtain ⟨L,hL⟩:=eV bs.length
            have HL:=zF hL
            rw [hL]
            rw [hL] at hl9 HT2
            have hL2:(128+(L:Int)) % 256=((128+L:Nat):Int):=by omega
            have hL3:IntKind.i64.wrap (128+(L:Int))=128+(L:Int):=by rw [qm];omega
            have hO4:=xB wr (128+L) (by omega)
            have HO4:=zF ((hO4.rb (by simp)).below (zQ _ _) (fun q hq=>hq.2))
            have HO5:=zF (wv (wv HO1.out HB.out) ((zQ wr.heap.size wr).alloc (zG _) (.cells #[.int .u8 ((128+L:Nat):Int)] 5)))
            have HB5:=zF ((HB1.out.trans (HB.out.mono hgo)).alloc (zU hgo hs) (.cells #[.int .u8 ((128+L:Nat):Int)] 5))
            have HRl:=zF ((HO.out.rb (by omega)).below ((zQ _ wr).alloc (zG _) (.cells #[.int .u8 ((128+L:Nat):Int)] 5)) fun q hq=>hq.2)
            clear hlb hL hO4 hx hxN h128
            have hW1s:=HB1.out.size
            have HW1s:=zF (show W.heap.size<W1.heap.size from bT HO1.out)
            go_wp2_with (at_builtin;refine rq rfl (.tmp 55) (.tmp 60) rfl W.heap.size (bs:=[48]) (cs:=[128+L]) rfl HO5.out rfl HO4.out (by simp) HB5.out.size ?_)
            intro A2 c2 w3 hw3 hg3
            have HW3:=zF hw3
            have HB3:=zF (HB5.out.grown hg3 HB5.out.size (by intro k hk;simp [Value.ownBlock] at hk;omega))
            have HRl3:=zF (HRl.out.keep (w':=w3) fun p hp=>zS (hg3.block _ (by have:=hp.2;simp;omega) (by have:=hp.1;have:=HW1s.out;simp [Value.ownBlock];omega)))
            clear hw3 hg3
            go_wp2_with (at_builtin;refine wf rfl (.tmp 62) (.tmp 63) rfl W.heap.size (bs:=[48]++[128+L]) (cs:=bs) rfl HW3.out (by rw [HL.out];rfl) HRl3.out (by rw [HL.out];simp;omega) HB3.out.size ?_)
            intro A5 c5 w5 hw5 hb5
            have HW5:=zF hw5
            have HB5':=zF (HB3.out.trans hb5)
            clear hw5 hb5
            go_wp2_with (at_builtin;refine wf rfl (.tmp 65) (.tmp 66) rfl W.heap.size (bs:=([48]++[128+L])++bs) (cs:=B) rfl HW5.out (by rw [HNl.out];rfl) (HRB.out.below HB5'.out HPb.out) (by rw [HNl.out];have:=HN7.out;simp;rw [HL.out];omega) HB5'.out.size ?_)
            intro A4 c4 w4 hw4 hb4
            have HW4:=zF hw4
            have HB4:=zF (HEW.out.trans ((HB5'.out.trans hb4).mono HsW.out))
            clear hw4 hb4
            go_wp2
            go_ret
            exact ⟨⟨A4,c4,(by rw [HT2.out];first | rfl | simp),by rw [HT2.out];exact j6 HW4.out (by have:=HsW.out;have:=Hs.out;omega)⟩,by rw [Hs.out];exact HB4.out⟩
def wH (t:DN):Option (List Nat):=if (kr 1 t).isSome=false then none else if 65536<(enc t).length then none else some (enc t)
def WrP (R:Option (List Nat)) (s:Nat) (e:Ending) (w':World):Prop :=
 match R with
 | none=>e=.returned (.tuple #[.slice none 0 0,.bool false])
 | some b=>∃ A c,e=.returned (.tuple #[.slice A b.length c,.bool true])∧OW w' s A c b
theorem oL (P:Nat→Prop) (t:DN) (v:Value) (w:World) (h:RD w P t v) (hP:∀ q,P q→q<w.heap.size) :
    Calls Tryz.prog 135 #[v] w fun e w'=>e=.returned (.bool (kr 1 t).isSome)∧Below w.heap.size w w':=by
  obtain ⟨xi,B1,n1,d1,B2,n2,d2,rfl⟩:=h.shape
  have hE:=(zQ w.heap.size w).alloc (zG _) (.cells #[.int .i64 xi,.slice B1 n1 d1,.slice B2 n2 d2] 80)
  have hc:=oi 16 1 P t _ _ (by omega) (h.below hE hP) (fun q hq=>by have:=hP q hq;simp;omega)
  obtain ⟨R,hR⟩:=eV (kr 1 t)
  rw [hR] at hc ⊢
  have hpos:∀ c,R=some c→1≤c:=fun c h=>rg (hR.trans h)
  have HC:=zF hc
  have HE:=zF hE
  have HPos:=zF hpos
  clear hE hc h hR hpos
  go_enter Tryz.func135,Tryz.ntmps135
  go_wp2_with fail
  refine HC.out.mono ?_
  rintro e w1 ⟨rfl,hB1⟩
  have HB:=zF (HE.out.trans (hB1.mono (by simp)))
  clear hB1
  cases R with
  | none =>
    have hm:rf none=-1:=rfl
    rw [hm]
    clear hm
    go_wp2
    go_ret
    exact ⟨rfl,HB.out⟩
  | some c =>
    have hm:rf (some c)=(c:Int):=rfl
    rw [hm]
    have h1:(0:Int)<(c:Int):=by have:=HPos.out c rfl;omega
    have h1':0<c:=by have:=HPos.out c rfl;omega
    clear hm
    go_wp2
    go_ret
    exact ⟨rfl,HB.out⟩
theorem bX (P:Nat→Prop) (t:DN) (v:Value) (w:World) (h:RD w P t v) (hP:∀ q,P q→q<w.heap.size) (hl:(enc t).length≤10000000) :
 Calls Tryz.prog 105 #[v] w fun e w'=>WrP (wH t) w.heap.size e w'∧Below w.heap.size w w':=by
 obtain ⟨xi,B1,n1,d1,B2,n2,d2,rfl⟩:=h.shape
 have hE:=(zQ w.heap.size w).alloc (zG _) (.cells #[.int .i64 xi,.slice B1 n1 d1,.slice B2 n2 d2] 80)
 have hb:=h.below hE hP
 have hm:=oL P t _ _ hb (fun q hq=>by have:=hP q hq;simp;omega)
 have m0:(w.alloc (.cells #[.int .i64 xi,.slice B1 n1 d1,.slice B2 n2 d2] 80)).cell? ⟨w.heap.size,0,none⟩=some (.int .i64 xi):=by simp [go_sem]
 have m1:(w.alloc (.cells #[.int .i64 xi,.slice B1 n1 d1,.slice B2 n2 d2] 80)).cell? ⟨w.heap.size,1,none⟩=some (.slice B1 n1 d1):=by simp [go_sem]
 have m2:(w.alloc (.cells #[.int .i64 xi,.slice B1 n1 d1,.slice B2 n2 d2] 80)).cell? ⟨w.heap.size,2,none⟩=some (.slice B2 n2 d2):=by simp [go_sem]
 have HM:=zF hm
 have HE:=zF hE
 have HB:=zF hb
 have HP:=zF hP
 have Hz:=zF (show w.heap.size<(w.alloc (.cells #[.int .i64 xi,.slice B1 n1 d1,.slice B2 n2 d2] 80)).heap.size by simp)
 obtain ⟨R,hR⟩:=eV (wH t)
 rw [hR]
 unfold wH at hR
 obtain ⟨p,hp⟩:=eV ((kr 1 t).isSome)
 rw [hp] at hR HM
 have HR:=zF hR.symm
 clear hE hb hm h hP hR hp
 go_enter Tryz.func105,Tryz.ntmps105
 go_wp2_with fail
 generalize w.alloc (.cells #[.int .i64 xi,.slice B1 n1 d1,.slice B2 n2 d2] 80)=W0 at *
 refine HM.out.mono ?_
 rintro e w1 ⟨rfl,hB1⟩
 have n0':=(hB1.cell (p:=⟨w.heap.size,0,none⟩) Hz.out).trans m0
 have n1':=(hB1.cell (p:=⟨w.heap.size,1,none⟩) Hz.out).trans m1
 have n2':=(hB1.cell (p:=⟨w.heap.size,2,none⟩) Hz.out).trans m2
 have hs1:=hB1.size
 have hsE:=HE.out.size
 have HB1:=zF (HE.out.trans (hB1.mono hsE))
 have hp:=sa (SizeOf.sizeOf t) P t _ w1 (zG _) hl (RD.below HB.out hB1 (fun b hb=>zP (HP.out b hb) hsE)) (fun b hb=>zP (HP.out b hb) (zU hsE hs1))
 obtain ⟨E,hE⟩:=eV (enc t)
 rw [hE] at hp hl HR
 have HPut:=zF hp
 clear hB1 m0 m1 m2 hp hE
 cases p
 · have hR:R=none:=HR.out.trans (qE rfl)
   subst hR
   go_wp2
   go_ret2
   exact ⟨rfl,HB1.out⟩
 go_wp2_with fail
 refine HPut.out.mono ?_
 rintro e w2 ⟨⟨A1,c1,rfl,hr1⟩,hB2⟩
 have HR1:=zF hr1
 have HB2:=zF (HB1.out.trans (hB2.mono (zU hsE hs1)))
 obtain ⟨L,hL⟩:=eV E.length
 have HL:=zF hL
 rw [hL] at hl ⊢
 clear hr1 hB2 hL
 by_cases h6:65536<L
 · have hR:R=none:=HR.out.trans ((zr (by simp)).trans (qE (by rw [HL.out];exact h6)))
   subst hR
   have h6':(65536:Int)<(L:Int):=by omega
   go_wp2
   go_ret2
   exact ⟨rfl,HB2.out⟩
 · have hR:R=some E:=HR.out.trans ((zr (by simp)).trans (zr (by rw [HL.out];exact h6)))
   subst hR
   have h6':¬ (65536:Int)<(L:Int):=by omega
   go_wp2
   go_ret2
   exact ⟨⟨A1,c1,(by rw [HL.out];rfl),j6 HR1.out (zU hsE hs1)⟩,HB2.out⟩
theorem uE (P:Nat→Prop) (t:DN) (v:Value) (w:World) (h:RD w P t v) (hP:∀ q,P q→q<w.heap.size) (hl:(enc t).length≤10000000) :
    Calls Tryz.prog 52 #[v] w fun e w'=>WrP (wH t) w.heap.size e w'∧Below w.heap.size w w':=by
  obtain ⟨xi,B1,n1,d1,B2,n2,d2,rfl⟩:=h.shape
  have hE:=(zQ w.heap.size w).alloc (zG _) (.cells #[.int .i64 xi,.slice B1 n1 d1,.slice B2 n2 d2] 80)
  have hm:=bX P t _ _ (h.below hE hP) (fun b hb=>by have:=hP b hb;simp;omega) hl
  obtain ⟨R,hR⟩:=eV (wH t)
  rw [hR] at hm ⊢
  have HM:=zF hm
  have HE:=zF hE
  clear hE hm h hP hR
  go_enter Tryz.func52,Tryz.ntmps52
  go_wp2_with fail
  refine HM.out.mono ?_
  rintro e w1 ⟨hW,hB1⟩
  have HB1:=zF (HE.out.trans (hB1.mono (by simp)))
  clear hB1
  cases R with
  | none =>
    unfold WrP at hW
    subst hW
    go_wp2
    go_ret2
    exact ⟨rfl,HB1.out⟩
  | some b =>
    obtain ⟨A1,c1,rfl,hr1⟩:=hW
    have HR1:=zF hr1
    clear hr1
    go_wp2
    go_ret2
    exact ⟨⟨A1,c1,rfl,j6 HR1.out (by simp)⟩,HB1.out⟩
end Go.Proofs.YtmlbicgpehchhaaGreat.Der
namespace Go.Proofs.YtmlbicgpehchhaaGreat.Der
mutual
def xu:Nat→Nat→DN→Option Nat
 | d,left,.mk tag bs kids=>if left=0∨d=0 then none else if tag≠48 then (if kids≠[]∨jY tag bs=false then none else some (left - 1)) else if bs≠[] then none else wy (d - 1) (left - 1) kids
def wy:Nat→Nat→List DN→Option Nat
  | _,left,[]=>some left
  | d, left, x :: r => match xu d left x with
    | none=>none
    | some l=>wy d l r
end
def dF (left:Nat):Option Nat→Option Nat
 | none=>none
 | some c=>if c≤left then some (left - c) else none
mutual
theorem nW:∀ {d d' left:Nat} {t:DN},d'+d=17→left≤1024→xu d left t=dF left (kr d' t)
  | d, d', left, .mk tag bs kids, hd, hl => by
    rw [xu,kr]
    by_cases h0:d=0
    · rw [qE (.inr h0),qE (by omega)];rfl
    rw [zr (show ¬ 16<d' by omega)]
    by_cases h1:left=0
    · rw [qE (.inl h1)]
      subst h1
      split
      · split
        · rfl
        · rfl
      split
      · rfl
      cases hc:vM (d'+1) 1 kids with
      | none=>rfl
      | some c=>have:=uc hc;simp only [dF];rw [zr (by omega)]
    rw [zr (by omega)]
    split
    · split
      · rfl
      · simp only [dF];rw [qE (by omega)]
    split
    · rfl
    exact aR (by omega) hl (by omega)
theorem aR:∀ {d d' left k L:Nat} {l:List DN},d'+d=17→L≤1024→left+k=L→wy d left l=dF L (vM d' k l)
  | d, d', left, k, L, [], hd, hL, hk => by
    rw [wy,vM]
    simp only [dF]
    rw [qE (by omega)]
    congr 1
    omega
  | d, d', left, k, L, x :: r, hd, hL, hk => by
    rw [wy,vM,nW hd (by omega)]
    cases hc:kr d' x with
    | none=>rfl
    | some c =>
      simp only [dF]
      by_cases h:c≤left
      · rw [qE h,zr (show ¬ 1024<k+c by omega)]
        exact aR hd hL (by omega)
      · rw [zr h]
        by_cases h2:1024<k+c
        · rw [qE h2]
        · rw [zr h2]
          cases hc2:vM d' (k+c) r with
          | none=>rfl
          | some c2=>have:=uc hc2;simp only [];rw [zr (by omega)]
end
mutual
theorem aS:∀ {d left l:Nat} {t:DN},xu d left t=some l→left≤1024→l≤1024
  | d, left, l, .mk tag bs kids, h, hl => by
    rw [xu] at h
    split at h
    · cases h
    split at h
    · split at h
      · cases h
      · cases h;omega
    split at h
    · cases h
    exact cM h (by omega)
theorem cM:∀ {d left l:Nat} {r:List DN},wy d left r=some l→left≤1024→l≤1024
  | d,left,l,[],h,hl=>by rw [wy] at h;cases h;exact hl
  | d, left, l, x :: r, h, hl => by
    rw [wy] at h
    cases hx:xu d left x with
    | none=>rw [hx] at h;cases h
    | some l1=>rw [hx] at h;exact cM h (aS hx hl)
end
theorem rC (t:DN):(xu 16 1024 t).isSome=(kr 1 t).isSome:=by
 rw [nW (d':=1) (by omega) (by omega)]
 cases h:kr 1 t with
 | none=>rfl
 | some c=>have:=ng h;simp only [dF];rw [qE this];rfl
theorem oK {n:Nat} (h:256≤n):qa n=qa (n / 256)+8:=by
 obtain ⟨h1,h2,h3⟩:=wL (x:=n) (by omega)
 have h9:9≤qa n:=by
  rcases qB (qa n) 9 with hh | hh
  · have:n<2 ^ 8:=go (by omega)
    omega
  · exact hh
 obtain ⟨k,hk⟩:∃ k,qa n=k+9:=⟨qa n - 9,by omega⟩
 rw [hk] at h1 h2 ⊢
 have e:qa (n / 256)=k+1:=by
  refine aP ?_ ?_
  · rw [Nat.le_div_iff_mul_le (by omega),show (256:Nat)=2 ^ 8 from rfl,←qM]
    exact h1
  · rw [Nat.div_lt_iff_lt_mul (by omega),show (256:Nat)=2 ^ 8 from rfl,←qM]
    exact h2
 omega
theorem bS (n k:Nat):bytesOf n (k+1)=bytesOf (n / 256) k++[n % 256]:=by
 unfold bytesOf
 rw [List.range_succ,List.map_append,List.map_cons,List.map_nil]
 congr 1
 · refine List.map_congr_left fun i hi=>?_
   have:=List.mem_range.1 hi
   rw [show k+1 - 1 - i=k - 1 - i+1 by omega,zl,kG,qM,←xM]
 · simp
theorem dn:∀ {f n:Nat} {out:List Nat},n<256 ^ f→up8 f n out=bytesOf n ((qa n+7) / 8)++out
  | 0, n, out, h => by
    obtain rfl:n=0:=by simpa using h
    rfl
  | f + 1, n, out, h => by
    rw [up8]
    by_cases h0:n=0
    · subst h0;rfl
    rw [zr h0,dn (by rw [zv] at h;exact qP (by rw [zh];exact h))]
    have e:(qa n+7) / 8=(qa (n / 256)+7) / 8+1:=by
      by_cases h1:256≤n
      · rw [oK h1];omega
      · have:qa n≤8:=ww (by omega)
        have:=(wL h0).2.2
        rw [show n / 256=0 by omega,uq]
        omega
    rw [e,bS,kH]
    rfl
theorem ou {n:Nat} (h:n<4294967296):beB n=bytesOf n ((qa n+7) / 8):=by
 rw [beB,dn (by omega),List.append_nil]
end Go.Proofs.YtmlbicgpehchhaaGreat.Der
namespace Go.Proofs.YtmlbicgpehchhaaGreat.Der
open Go.RowKit Go.Shelf
attribute [local go_sem] Oper.semAt_some
theorem oV {tag N b0:Nat} {B:List Nat} (hN:B.length=N) (h:N<128) (hb:tag % 256=b0):hdB tag B=([b0]++[N])++B:=by unfold hdB de;rw [hN,qE h,hb];rfl
theorem oW {tag N b0 k:Nat} {B:List Nat} (hN:B.length=N) (h:¬ N<128) (h2:N<4294967296) (hb:tag % 256=b0) (hk:(qa N+7) / 8=k):hdB tag B=(([b0]++[128+k])++bytesOf N k)++B:=by
 unfold hdB de
 rw [hN,zr h,hb,ou h2,hk,jF]
 simp
theorem dL (tag:Nat) (P:Nat→Prop) (A:Option Addr) (c:Nat) (B:List Nat) (w:World) (h:RB w P A c B) (hP:∀ q,P q→q<w.heap.size) (hl:B.length≤1000000) :
 Calls Tryz.prog 174 #[.int .i64 (tag:Int),.slice A B.length c] w fun e w'=>(∃ A1 c1,e=.returned (.slice A1 (hdB tag B).length c1)∧OW w' w.heap.size A1 c1 (hdB tag B))∧Below w.heap.size w w':=by
 obtain ⟨T,hT⟩:=eV (hdB tag B)
 rw [hT]
 obtain ⟨hlc,hlc2,hlb⟩:=h.cap
 obtain ⟨b0,hb0,he0⟩:∃ b0:Nat,b0<256∧(tag:Int) % 256=(b0:Int):=⟨tag % 256,by omega,by omega⟩
 have hb1:tag % 256=b0:=by omega
 have HRB:=zF (fun X (hX:Below w.heap.size w X)=>(show RB X P A c B from h.below hX hP))
 have HP:=zF hP
 obtain ⟨N,hN⟩:=eV B.length
 rw [hN] at hl hlc
 have HN:=zF hN
 have HNl:=zF hl
 have hO1:OW (w.alloc (.cells #[.int .u8 (b0:Int)] 5)) w.heap.size (some ⟨w.heap.size,0,none⟩) 1 [b0]:=xB w b0 hb0
 obtain ⟨W1,hW1⟩:=eV (w.alloc (.cells #[.int .u8 (b0:Int)] 5))
 rw [hW1] at hO1
 have HO1:=zF hO1
 have HB1:Hid (Below w.heap.size w W1):=zF (by rw [←hW1];exact (zQ _ w).alloc (zG _) _)
 have HW1:=zF hW1
 rw [hN]
 by_cases h128:N<128
 · have HT2:=zF (show T=([b0]++[N])++B from hT.symm.trans (oV hN h128 hb1))
   have h128':(N:Int)<128:=by omega
   have hN2:(N:Int) % 256=(N:Int):=by omega
   have hO2:=xB W1 N (by omega)
   have HO2:=zF ((hO2.rb (by simp)).below (zQ _ _) (fun q hq=>hq.2))
   have HO3:=zF (wv HO1.out ((zQ W1.heap.size W1).alloc (zG _) (.cells #[.int .u8 (N:Int)] 5)))
   have HB2:=zF (HB1.out.trans ((zQ w.heap.size W1).alloc HB1.out.size (.cells #[.int .u8 (N:Int)] 5)))
   clear hO2 h128 hO1 hW1 hT hN hb1 h hP hl hlb hlc2 hlc
   go_enter Tryz.func174,Tryz.ntmps174
   go_upto_region 4 with fail
   rw [HW1.out]
   clear HW1
   go_wp2_with (at_builtin;refine wf rfl (.tmp 16) (.tmp 19) rfl w.heap.size (bs:=[b0]) (cs:=[N]) rfl HO3.out rfl HO2.out (by simp) HB2.out.size ?_)
   intro A2 c2 w3 hw3 hb3
   have HW3:=zF hw3
   have HB3:=zF (HB2.out.trans hb3)
   clear hw3 hb3
   go_wp2_with (at_builtin;refine wf rfl (.tmp 43) (.tmp 44) rfl w.heap.size (bs:=[b0]++[N]) (cs:=B) rfl HW3.out (by rw [HN.out];rfl) ((HRB.out _ HB3.out).below (zQ _ _) (fun q hq=>zP (HP.out q hq) HB3.out.size)) (by rw [HN.out];have:=HNl.out;simp;omega) HB3.out.size ?_)
   intro A4 c4 w4 hw4 hb4
   have HW4:=zF hw4
   have HB4:=zF (HB3.out.trans hb4)
   clear hw4 hb4
   go_wp2
   go_ret
   exact ⟨⟨A4,c4,(by rw [HT2.out];first | rfl | simp),by rw [HT2.out];exact HW4.out⟩,HB4.out⟩
 · obtain ⟨k,hk⟩:=eV ((qa N+7) / 8)
   obtain ⟨n,hn⟩:=eV (qa N)
   have hn20:n≤20:=by rw [←hn];exact ww (by omega)
   have HT2:=zF (show T=(([b0]++[128+k])++bytesOf N k)++B from hT.symm.trans (oW hN h128 (by omega) hb1 hk))
   rw [hn] at hk
   have hk4:k≤4:=by omega
   have h128':¬ (N:Int)<128:=by omega
   have hN3:(N:Int) % 18446744073709551616=(N:Int):=by omega
   have hq1:Int.tdiv ((n:Int)+7) 8=(k:Int):=by rw [je (by omega)];omega
   have hq2:((n:Int)+7) / 8=(k:Int):=by omega
   have hk2:(128+(k:Int)) % 256=((128+k:Nat):Int):=by omega
   have HOf:=zF (fun X=>ge N X (by omega))
   have hvN:val 18446744073709551616 (digs 18446744073709551616 N)=N:=z7 (by decide) N
   have HBi:=zF (fun (P:Nat→Prop) (A:Option Addr) (c:Nat) X (h:RN X P A c (digs 18446744073709551616 N))=>xZ P A c (digs 18446744073709551616 N) X h)
   have HBy:=zF (fun (P:Nat→Prop) (A:Option Addr) (c:Nat) X (h:RN X P A c (digs 18446744073709551616 N)) (hP:∀ b,P b→b<X.heap.size)=>yS P A c (digs 18446744073709551616 N) k X h hP (by omega) (by rw [hvN,hn];omega))
   rw [hvN,hn] at HBi
   rw [hvN] at HBy
   have HK4:=zF hk4
   clear hO1 hW1 hT hN hb1 h hP hl hlb hlc2 hlc h128 hvN hn hk
   go_enter Tryz.func174,Tryz.ntmps174
   go_upto_region 5 with fail
   rw [HW1.out]
   clear HW1
   go_wp2_with fail
   refine (HOf.out _).mono ?_
   rintro e w2 ⟨A2,c2,rfl,hO2,hB2⟩
   have HE2:=zF (show Ext W1 w2 from hB2)
   have HO2:=zF hO2
   clear hB2 hO2
   go_wp2_with fail
   refine (HOf.out _).mono ?_
   rintro e w3 ⟨A3,c3,rfl,hO3,hB3⟩
   have HE3:=zF (show Ext W1 w3 from HE2.out.trans hB3)
   have HBi3:=zF (HBi.out _ A3 c3 w3 hO3.rn)
   have HO3:=zF (HO2.out.below hB3 (zG _))
   clear hO3 hB3 HO2 HE2
   go_wp2_with fail
   refine HBi3.out.mono ?_
   rintro e w4 ⟨rfl,rfl⟩
   have HBy3:=zF (HBy.out _ A2 c2 w3 HO3.out.rn (fun q hq=>hq.2))
   go_wp2_with fail
   refine HBy3.out.mono ?_
   rintro e w5 ⟨Al,rfl,hL,hB5⟩
   have HL:=zF hL
   have HE5:=zF (show Ext W1 w5 from HE3.out.trans hB5)
   have hlL:(bytesOf N k).length=k:=jF N k
   have HlL:=zF hlL
   have HsW1:=zF (show w3.heap.size≤w5.heap.size from hB5.size)
   clear hL hB5 HBy3 HBi3 hlL
   have hO4:=xB w5 (128+k) (by omega)
   have HO4:=zF ((hO4.rb (by simp)).below (zQ _ _) (fun q hq=>hq.2))
   have hsz1:w.heap.size≤w5.heap.size:=zU HB1.out.size HE5.out.bsize
   have HB5:=zF ((HB1.out.trans (HE5.out.mono HB1.out.size)).alloc hsz1 (.cells #[.int .u8 ((128+k:Nat):Int)] 5))
   have HO5:=zF (wv (wv HO1.out HE5.out) ((zQ w5.heap.size w5).alloc (zG _) (.cells #[.int .u8 ((128+k:Nat):Int)] 5)))
   have HRl:=zF (HL.out.below ((zQ _ w5).alloc (zG _) (.cells #[.int .u8 ((128+k:Nat):Int)] 5)) fun q hq=>hq.2)
   have HW1s:=zF (show w.heap.size<W1.heap.size from bT HO1.out)
   have HE3s:=zF HE3.out.bsize
   clear hO4 hsz1
   go_wp2_with (at_builtin;refine rq rfl (.tmp 34) (.tmp 39) rfl w.heap.size (bs:=[b0]) (cs:=[128+k]) rfl HO5.out rfl HO4.out (by simp) HB5.out.size ?_)
   intro A6 c6 w6 hw6 hg6
   have HW6:=zF hw6
   have HB6:=zF (HB5.out.grown hg6 HB5.out.size (by intro k hk;simp [Value.ownBlock] at hk;omega))
   have HRl6:=zF (HRl.out.keep (w':=w6) fun p hp=>zS (hg6.block _ (by have:=hp.2;simp;omega) (by have:=hp.1;have:=HW1s.out;have:=HE3s.out;simp [Value.ownBlock];omega)))
   clear hw6 hg6
   go_wp2_with (at_builtin;refine wf rfl (.tmp 40) (.tmp 41) rfl w.heap.size (bs:=[b0]++[128+k]) (cs:=bytesOf N k) rfl HW6.out (by rw [HlL.out];rfl) HRl6.out (by rw [HlL.out];have:=HK4.out;simp;omega) HB6.out.size ?_)
   intro A7 c7 w7 hw7 hb7
   have HW7:=zF hw7
   have HB7:=zF (HB6.out.trans hb7)
   clear hw7 hb7
   go_wp2_with (at_builtin;refine wf rfl (.tmp 43) (.tmp 44) rfl w.heap.size (bs:=([b0]++[128+k])++bytesOf N k) (cs:=B) rfl HW7.out (by rw [HN.out];rfl) ((HRB.out _ HB7.out).below (zQ _ _) (fun q hq=>zP (HP.out q hq) HB7.out.size)) (by rw [HN.out];have:=HNl.out;simp;rw [HlL.out];have:=HK4.out;omega) HB7.out.size ?_)
   intro A8 c8 w8 hw8 hb8
   have HW8:=zF hw8
   have HB8:=zF (HB7.out.trans hb8)
   clear hw8 hb8
   go_wp2
   go_ret
   exact ⟨⟨A8,c8,(by rw [HT2.out];first | rfl | simp),by rw [HT2.out];exact HW8.out⟩,HB8.out⟩
def tZ (R:Option Nat) (g:Nat) (e:Ending) (w':World):Prop :=
 ∃ lf:Int,e=.returned (.bool R.isSome)∧w'.heap[g]?=some (.cells #[.int .i64 lf] 3 (0,0))∧∀ l,R=some l→lf=(l:Int)
theorem ua {g:Nat} {w':World} {lf:Int} (h:w'.heap[g]?=some (.cells #[.int .i64 lf] 3 (0,0))):tZ none g (.returned (.bool false)) w':=⟨lf,rfl,h,fun l h=>by cases h⟩
theorem aT {g l:Nat} {w':World} (h:w'.heap[g]?=some (.cells #[.int .i64 (l:Int)] 3 (0,0))):tZ (some l) g (.returned (.bool true)) w':=⟨_,rfl,h,fun l' h=>by cases h;rfl⟩
def addM (d:Nat) (r:List DN):Option Nat→Option Nat
 | none=>none
 | some l=>wy d l r
theorem mb {d lf:Nat} {l:List DN} {i:Nat} (hi:i<l.length) {o:Option Nat} (ho:xu d lf l[i]=o):wy d lf (l.drop i)=addM d (l.drop (i+1)) o:=by
 subst ho
 rw [qQ hi,wy]
 cases xu d lf l[i] <;> rfl
theorem tA (d:Nat):∀ (z:Int) (left g:Nat) (P:Nat→Prop) (t:DN) (v:Value) (w:World),0≤z→z+d=16→left≤1024→w.heap[g]?=some (.cells #[.int .i64 left] 3 (0,0))→RD w P t v→(∀ q,P q→q<w.heap.size∧q≠g) →
    Calls Tryz.prog 173 #[v,.int .i64 z,.pointer (some ⟨g,0,none⟩)] w fun e w'=>tZ (xu d left t) g e w'∧Bb w.heap.size g w w':=by
  induction d with
  | zero =>
    intro z left g P t v w hz0 hz hl h hd hP
    obtain ⟨tag,bs,kids⟩:=t
    obtain ⟨A,c,Ak,ck,cs,rfl,-⟩:=hd.open_
    rw [show xu 0 left (.mk tag bs kids)=none by rw [xu,qE (.inr rfl)]]
    obtain rfl:z=16:=by omega
    obtain ⟨n,hn⟩:∃ n:Int,(left:Int)=n:=⟨_,rfl⟩
    rw [hn] at h
    have hn0:0≤n:=by omega
    have hn1:n≤1024:=by omega
    have hg:=ql h
    have x0:=(zm w (.cells #[.int .i64 (tag:Int),.slice A bs.length c,.slice Ak kids.length ck] 80) g hg).trans h
    have y0:=zH x0 0
    have f0:=zp x0 0
    simp at y0
    have x1:=mB x0 0 (.int .i64 (n - 1))
    have HB0:=zF (show Bb w.heap.size g w ((w.alloc (.cells #[.int .i64 (tag:Int),.slice A bs.length c,.slice Ak kids.length ck] 80)).setCell ⟨g,0,none⟩ (.int .i64 (n - 1))) from ((Bb.refl w.heap.size g w).alloc (zG _) _).set 0 _)
    have Hx1:Hid (((w.alloc (.cells #[.int .i64 (tag:Int),.slice A bs.length c,.slice Ak kids.length ck] 80)).setCell ⟨g,0,none⟩ (.int .i64 (n - 1))).heap[g]?=some (.cells #[.int .i64 (n - 1)] 3 (0,0))):=zF (by simpa using x1)
    have z0:=zH Hx1.out 0
    simp at z0
    clear x0 x1 h hn hl hz hz0 hd hP hg
    by_cases hk1:n - 1<0
    · go_enter Tryz.func173,Tryz.ntmps173
      go_upto_region 3 with fail
      generalize (w.alloc (.cells #[.int .i64 (tag:Int),.slice A bs.length c,.slice Ak kids.length ck] 80)).setCell ⟨g,0,none⟩ (.int .i64 (n - 1))=W0 at *
      clear y0 f0
      go_wp2
      go_ret
      exact ⟨ua Hx1.out,HB0.out⟩
    · go_enter Tryz.func173,Tryz.ntmps173
      go_upto_region 3 with fail
      generalize (w.alloc (.cells #[.int .i64 (tag:Int),.slice A bs.length c,.slice Ak kids.length ck] 80)).setCell ⟨g,0,none⟩ (.int .i64 (n - 1))=W0 at *
      clear y0 f0
      go_wp2
      go_ret
      exact ⟨ua Hx1.out,HB0.out⟩
  | succ d ih =>
    intro z left g P t v w hz0 hz hl h hd hP
    obtain ⟨tag,bs,kids⟩:=t
    obtain ⟨A,c,Ak,ck,cs,rfl,hb,h48,hk,hds⟩:=hd.open_
    obtain ⟨n,hn⟩:∃ n:Int,(left:Int)=n:=⟨_,rfl⟩
    rw [hn] at h
    have hn0:0≤n:=by omega
    have hn1:n≤1024:=by omega
    have hg:=ql h
    have x0:=(zm w (.cells #[.int .i64 (tag:Int),.slice A bs.length c,.slice Ak kids.length ck] 80) g hg).trans h
    have y0:=zH x0 0
    have f0:=zp x0 0
    simp at y0
    have x1:=mB x0 0 (.int .i64 (n - 1))
    have hr:=zN w (.cells #[.int .i64 (tag:Int),.slice A bs.length c,.slice Ak kids.length ck] 80)
    have hr1:=(zO (w.alloc (.cells #[.int .i64 (tag:Int),.slice A bs.length c,.slice Ak kids.length ck] 80)) ⟨g,0,none⟩ (.int .i64 (n - 1)) w.heap.size (Nat.ne_of_gt hg)).trans hr
    have hB0:Bb w.heap.size g w ((w.alloc (.cells #[.int .i64 (tag:Int),.slice A bs.length c,.slice Ak kids.length ck] 80)).setCell ⟨g,0,none⟩ (.int .i64 (n - 1))):=((Bb.refl w.heap.size g w).alloc (zG _) _).set 0 _
    have HB0:=zF hB0
    have Hr:=zF hr1
    have Hx1:Hid (((w.alloc (.cells #[.int .i64 (tag:Int),.slice A bs.length c,.slice Ak kids.length ck] 80)).setCell ⟨g,0,none⟩ (.int .i64 (n - 1))).heap[g]?=some (.cells #[.int .i64 (n - 1)] 3 (0,0))):=zF (by simpa using x1)
    have Hsz:Hid (((w.alloc (.cells #[.int .i64 (tag:Int),.slice A bs.length c,.slice Ak kids.length ck] 80)).setCell ⟨g,0,none⟩ (.int .i64 (n - 1))).heap.size=w.heap.size+1):=zF (by simp [World.setCell])
    obtain ⟨s,hs⟩:=eV w.heap.size
    rw [hs] at Hr HB0 Hsz hg hP ⊢
    have Hs:=zF hs
    have HP:=zF hP
    have Hb:=zF (Bb.rb hb HB0.out hP)
    have Hk:=zF (hk.keep (w':=(w.alloc (.cells #[.int .i64 (tag:Int),.slice A bs.length c,.slice Ak kids.length ck] 80)).setCell ⟨g,0,none⟩ (.int .i64 (n - 1))) fun p hp=>HB0.out.cell (hP _ hp).1 (hP _ hp).2)
    have Hds:=zF (RDs.keep (w':=(w.alloc (.cells #[.int .i64 (tag:Int),.slice A bs.length c,.slice Ak kids.length ck] 80)).setCell ⟨g,0,none⟩ (.int .i64 (n - 1))) (fun p hp=>HB0.out.cell (hP _ hp).1 (hP _ hp).2) hds)
    have H48:=zF h48
    obtain ⟨hlc,hlc2,hlb⟩:=hb.cap
    have hkl:=hk.1
    have hkc:ck≤9223372036854775807:=hk.2.1
    have z0:=zH Hx1.out 0
    simp at z0
    obtain ⟨R,hR⟩:=eV (xu (d+1) left (.mk tag bs kids))
    rw [hR]
    rw [xu] at hR
    clear x0 x1 h hr hr1 hB0 hs hb hk hds hd h48 hP
    by_cases hk1:n - 1<0
    · rw [qE (.inl (by omega))] at hR
      subst hR
      clear ih hn hl hz
      go_enter Tryz.func173,Tryz.ntmps173
      go_upto_region 3 with fail
      rw [Hs.out]
      generalize (w.alloc (.cells #[.int .i64 (tag:Int),.slice A bs.length c,.slice Ak kids.length ck] 80)).setCell ⟨g,0,none⟩ (.int .i64 (n - 1))=W0 at *
      clear y0 f0
      go_wp2
      go_ret
      exact ⟨ua Hx1.out,HB0.out⟩
    rw [zr (by omega)] at hR
    obtain ⟨m,hm⟩:∃ m:Nat,left - 1=m:=⟨_,rfl⟩
    have hnm:n - 1=(m:Int):=by omega
    rw [hm] at hR
    have Hm:=zF (show m≤1024 by omega)
    have HZ:=zF (show z+1+(d:Int)=16 by push_cast at hz;omega)
    have hk2:¬ 16≤z:=by push_cast at hz;omega
    have hw1:IntKind.i64.wrap (z+1)=z+1:=by push_cast at hz;rw [qm];omega
    have m0:=zH Hr.out 0
    have m1:=zH Hr.out 1
    have m2:=zH Hr.out 2
    simp only [zI,zJ,zL] at m0 m1 m2
    have Hnm:=zF hnm
    clear hm hnm hn hl hz
    by_cases ht:tag=48
    rotate_left
    · rw [qE ht] at hR
      have ht':((tag:Int)==48)=false:=beq_eq_false_iff_ne.2 (by omega)
      by_cases hk0:kids=[]
      rotate_left
      · have hR2:R=none:=by rw [←hR,qE (.inl hk0)]
        subst hR2
        have hk1':=List.length_pos_iff.2 hk0
        obtain ⟨mk,hmk⟩:=eV kids.length
        rw [hmk] at hk1' Hr HB0 Hx1 m0 m1 m2 y0 f0 z0 hkl
        rw [hmk]
        have hk1z:((mk:Int)==0)=false:=beq_eq_false_iff_ne.2 (by omega)
        clear hk0 hR Hk Hds Hb Hsz hkl hmk ih
        go_enter Tryz.func173,Tryz.ntmps173
        go_upto_region 4 with fail
        rw [Hs.out]
        generalize (w.alloc (.cells #[.int .i64 (tag:Int),.slice A bs.length c,.slice Ak mk ck] 80)).setCell ⟨g,0,none⟩ (.int .i64 (n - 1))=W0 at *
        clear y0 f0
        go_wp2
        go_ret
        exact ⟨ua Hx1.out,HB0.out⟩
      · subst hk0
        have l0:([]:List DN).length=0:=rfl
        rw [l0] at Hr HB0 Hx1 m0 m1 m2 y0 f0 z0 Hb Hsz Hk Hds
        rw [l0]
        have HC:=zF (dw P A c tag bs _ Hb.out)
        obtain ⟨pb,hpb⟩:=eV (jY tag bs)
        rw [hpb] at HC hR
        have HRR:=zF hR
        clear hpb hR ih l0 Hk Hds
        go_enter Tryz.func173,Tryz.ntmps173
        go_upto_region 4 with fail
        rw [Hs.out]
        generalize (w.alloc (.cells #[.int .i64 (tag:Int),.slice A bs.length c,.slice Ak 0 ck] 80)).setCell ⟨g,0,none⟩ (.int .i64 (n - 1))=W0 at *
        clear y0 f0
        go_wp2_with fail
        refine HC.out.mono ?_
        rintro e w1 ⟨rfl,d1,rfl⟩
        cases pb
        · have hR2:R=none:=by rw [←HRR.out,qE (.inr rfl)]
          subst hR2
          go_wp2
          go_ret
          exact ⟨ua (show _=_ from Hx1.out),HB0.out.trans (wO (qT (zQ s _) d1) g)⟩
        · have hR2:R=some m:=by rw [←HRR.out,zr (by simp)]
          subst hR2
          go_wp2
          go_ret
          exact ⟨aT (show _=_ by rw [←Hnm.out];exact Hx1.out),HB0.out.trans (wO (qT (zQ s _) d1) g)⟩
    subst ht
    rw [zr (by omega)] at hR
    obtain ⟨rfl,rfl⟩:=H48.out rfl
    have hbs0:bs=[]:=qH (by omega)
    subst hbs0
    rw [zr (by simp),jC] at hR
    have HRR:=zF hR
    have c48:((48:Nat):Int)=48:=rfl
    have l0:([]:List Nat).length=0:=rfl
    rw [c48,l0] at Hr HB0 Hx1 m0 m1 m2 y0 f0 z0 Hk Hds Hsz
    rw [c48,l0]
    clear hR c48 l0 hlc hlc2 hlb H48 Hb
    go_enter Tryz.func173,Tryz.ntmps173
    go_upto_region 4 with fail
    rw [Hs.out]
    generalize (w.alloc (.cells #[.int .i64 48,.slice none 0 0,.slice Ak kids.length ck] 80)).setCell ⟨g,0,none⟩ (.int .i64 (n - 1))=W0 at *
    rw [Hnm.out] at Hx1
    clear y0 f0 z0
    go_wp2
    go_loopw [43] (fun i wr=>∃ (lf j:Nat),j≤kids.length∧i=.int .i64 (j:Int)∧lf≤1024∧wy d lf (kids.drop j)=R∧wr.heap[g]?=some (.cells #[.int .i64 (lf:Int)] 3 (0,0))∧Bb (s+1) g W0 wr) (fun i _=>kids.length - (intOf i).toNat)
    case atStart=>exact ⟨m,0,by omega,rfl,Hm.out,HRR.out,Hx1.out,Bb.refl _ _ _⟩
    case round =>
      obtain ⟨lf,j,hj,rfl,hlf,hR,hgx,hB⟩:=hrel
      have HB:=zF hB
      have Hgx:=zF hgx
      have Hsz2:=zF (show s+1≤wr.heap.size from zU (yY Hsz.out.symm) hB.size)
      clear hB hgx
      by_cases hlt:j<kids.length
      · obtain ⟨ad,x,B1,n1,d1,B2,n2,d2,rfl,x0,x1,x2,hrd⟩:=dJ (RS.keep Hk.out fun p hp=>HB.out.cell (by have:=(HP.out _ hp).1;omega) (HP.out _ hp).2) (RDs.keep (fun p hp=>HB.out.cell (by have:=(HP.out _ hp).1;omega) (HP.out _ hp).2) Hds.out) hlt
        have q1:(j:Int)<(kids.length:Int):=by omega
        obtain ⟨o,ho⟩:=eV (xu d lf kids[j])
        have hst:=mb hlt ho
        rw [hst] at hR
        have HRR:=zF hR
        have hB5:Below wr.heap.size wr (wr.alloc (.cells #[.int .i64 x,.slice B1 n1 d1,.slice B2 n2 d2] 80)):=(zQ _ wr).alloc (zG _) _
        have hgw:=ql Hgx.out
        have hz5:(wr.alloc (.cells #[.int .i64 x,.slice B1 n1 d1,.slice B2 n2 d2] 80)).heap.size=wr.heap.size+1:=by simp
        have IH:=ih (z+1) lf g P kids[j] _ (wr.alloc (.cells #[.int .i64 x,.slice B1 n1 d1,.slice B2 n2 d2] 80)) (by omega) HZ.out hlf ((hB5.block g hgw).trans Hgx.out) (hrd.below hB5 (fun q hq=>by have:=(HP.out q hq).1;have:=Hsz2.out;omega)) (fun q hq=>⟨by have:=(HP.out q hq).1;have:=Hsz2.out;omega,(HP.out q hq).2⟩)
        rw [ho] at IH
        have Ho:=zF ho
        have HIH:=zF IH
        have HB5:=zF (HB.out.trans (wO (hB5.mono Hsz2.out) g))
        have Hz5:=zF hz5
        clear hR hst ho IH hrd hB5 hz5 hgw
        go_wp2_with fail
        refine HIH.out.mono ?_
        rintro e w1 ⟨⟨lf1,rfl,hg1,hl1⟩,hB1⟩
        have HB1:=zF (HB5.out.trans (hB1.mono (by have:=Hz5.out;have:=Hsz2.out;omega)))
        have Hg1:=zF hg1
        clear hB1 x0 x1 x2 HIH hg1
        cases o with
        | none =>
          have hR2:R=none:=HRR.out.symm
          subst hR2
          have hm1:(none:Option Nat).isSome=false:=rfl
          rw [hm1]
          clear hm1
          go_wp2
          go_ret
          exact ⟨ua Hg1.out,HB0.out.trans (HB1.out.mono (by omega))⟩
        | some l1 =>
          have hm1:(some l1).isSome=true:=rfl
          rw [hm1]
          obtain rfl:=hl1 l1 rfl
          have HRR2:=zF (show wy d l1 (kids.drop (j+1))=R from HRR.out)
          have Hl1:=zF (show l1≤1024 from aS Ho.out hlf)
          clear hm1 hl1
          go_wp2
          go_roundw
          case rel=>exact ⟨l1,j+1,by omega,by go_num,Hl1.out,HRR2.out,Hg1.out,HB1.out⟩
          case measure=>simp [intOf];omega
      · obtain rfl:j=kids.length:=by omega
        rw [List.drop_of_length_le (zG _),wy] at hR
        subst hR
        have q1:¬ (kids.length:Int)<(kids.length:Int):=by omega
        go_wp2
        go_ret
        exact ⟨aT Hgx.out,HB0.out.trans (HB.out.mono (by omega))⟩
theorem Bb.below {s g:Nat} {w w':World} (h:Bb s g w w') (hg:s≤g):Below s w w':=⟨h.os,h.tape,h.output,h.size,fun i hi=>h.block i hi (by omega)⟩
theorem mt (P:Nat→Prop) (t:DN) (v:Value) (w:World) (h:RD w P t v) (hP:∀ q,P q→q<w.heap.size) :
 Calls Tryz.prog 131 #[v] w fun e w'=>e=.returned (.bool (kr 1 t).isSome)∧Below w.heap.size w w':=by
 obtain ⟨xi,B1,n1,d1,B2,n2,d2,rfl⟩:=h.shape
 obtain ⟨W0,hW0⟩:=eW ((w.alloc (.cells #[.int .i64 xi,.slice B1 n1 d1,.slice B2 n2 d2] 80)).alloc (.cells #[.int .i64 1024] 3))
 have hE:Below w.heap.size w W0:=by rw [hW0];exact ((zQ w.heap.size w).alloc (zG _) _).alloc (by simp) _
 have hz:W0.heap.size=w.heap.size+2:=by rw [hW0];simp
 have hn:W0.heap[w.heap.size+1]?=some (.cells #[.int .i64 1024] 3 (0,0)):=by rw [hW0];have:=zN (w.alloc (.cells #[.int .i64 xi,.slice B1 n1 d1,.slice B2 n2 d2] 80)) (.cells #[.int .i64 1024] 3);rwa [zu] at this
 have hn0:W0.heap[w.heap.size]?=some (.cells #[.int .i64 xi,.slice B1 n1 d1,.slice B2 n2 d2] 80 (0,0)):=by rw [hW0];exact (zm _ _ _ (by simp)).trans (zN w _)
 have hc:=tA 16 0 1024 (w.heap.size+1) P t _ W0 (by omega) (by omega) (by omega) hn (h.below hE hP) (fun q hq=>⟨by have:=hP q hq;omega,by have:=hP q hq;omega⟩)
 have hm:∀ e w',(tZ (xu 16 1024 t) (w.heap.size+1) e w'∧Bb W0.heap.size (w.heap.size+1) W0 w')→e=.returned (.bool (kr 1 t).isSome)∧Below w.heap.size w w':=fun e w' ⟨⟨lf,h1,_,_⟩,h2⟩=>⟨by rw [h1,rC],hE.trans (Bb.below (h2.mono (show w.heap.size≤W0.heap.size by omega)) (by omega))⟩
 have hc2:=zF (Calls.mono hc hm)
 obtain ⟨s,hs⟩:=eV w.heap.size
 rw [hs] at hn0 hc2 ⊢
 have Hs:=zF hs
 have m0:=zH hn0 0
 have m1:=zH hn0 1
 have m2:=zH hn0 2
 simp only [zI,zJ,zL] at m0 m1 m2
 clear hc hm hn hn0 hz hE h hP hs
 go_enter Tryz.func131,Tryz.ntmps131
 go_upto_region 2 with fail
 rw [←hW0]
 clear hW0
 simp only [Hs.out]
 go_wp2_with fail
 refine hc2.out.mono ?_
 rintro e w1 ⟨rfl,hB1⟩
 have HB1:=zF hB1
 clear hB1
 go_wp2
 go_ret
 exact ⟨rfl,HB1.out⟩
def wrQ (t:DN):Option (List Nat):=if (enc t).length≤65536 then some (enc t) else none
def WrQ (R:Option (List Nat)) (s:Nat) (e:Ending) (w':World):Prop :=
 match R with
 | none=>∃ A n c,e=.returned (.tuple #[.slice A n c,.bool false])
 | some b=>∃ A c,e=.returned (.tuple #[.slice A b.length c,.bool true])∧OW w' s A c b
theorem re {d tag:Nat} {bs:List Nat} {kids:List DN} (h:(kr d (.mk tag bs kids)).isSome=true) (ht:tag≠48):kids=[]:=by
 rw [kr] at h
 split at h
 · cases h
 split at h
 · cases h
 · rename_i h2
   exact Classical.byContradiction fun h3=>h2 (.inl h3)
theorem tO {d tag:Nat} {bs:List Nat} {kids:List DN} (h:(kr d (.mk tag bs kids)).isSome=true) {x:DN} (hx:x∈kids):(kr (d+1) x).isSome=true:=by
  rw [kr] at h
  split at h
  · cases h
  split at h
  · split at h
    · cases h
    · rename_i h2
      exact absurd hx (by rw [Classical.byContradiction fun h3=>h2 (.inl h3)];simp)
  split at h
  · cases h
  have key:∀ {l:List DN} {k:Nat},(vM (d+1) k l).isSome=true→x∈l→(kr (d+1) x).isSome=true:=by
    intro l
    induction l with
    | nil=>intro k _ hx;cases hx
    | cons y r ih =>
      intro k h hx
      rw [vM] at h
      cases hy:kr (d+1) y with
      | none=>rw [hy] at h;cases h
      | some c =>
        rw [hy] at h
        simp only [] at h
        split at h
        · cases h
        · rcases List.mem_cons.1 hx with rfl | hx
          · rw [hy];rfl
          · exact ih h hx
  exact key h hx
theorem rO {l:List DN} {i:Nat} (h:i<l.length):(enc l[i]).length≤(js l).length:=by
 have h1:=bO (l:=l) (i+1)
 rw [gj h,zk] at h1
 omega
theorem bQ (n:Nat):∀ (d:Nat) (P:Nat→Prop) (t:DN) (v:Value) (w:World),SizeOf.sizeOf t≤n→(kr d t).isSome=true→RD w P t v→(∀ q,P q→q<w.heap.size) →
    Calls Tryz.prog 132 #[v] w fun e w'=>WrQ (wrQ t) w.heap.size e w'∧Below w.heap.size w w':=by
  induction n with
  | zero =>
    intro d P t v w hd hc h hP
    obtain ⟨tag,bs,kids⟩:=t
    simp at hd
  | succ n ih =>
    intro d P t v w hd hc h hP
    obtain ⟨tag,bs,kids⟩:=t
    obtain ⟨A,c,Ak,ck,cs,rfl,hb,h48,hk,hds⟩:=h.open_
    obtain ⟨R,hR⟩:=eV (wrQ (.mk tag bs kids))
    rw [hR]
    rw [wrQ,enc] at hR
    have hE:=(zQ w.heap.size w).alloc (zG _) (.cells #[.int .i64 (tag:Int),.slice A bs.length c,.slice Ak kids.length ck] 80)
    have hn:=zN w (.cells #[.int .i64 (tag:Int),.slice A bs.length c,.slice Ak kids.length ck] 80)
    have hz:(w.alloc (.cells #[.int .i64 (tag:Int),.slice A bs.length c,.slice Ak kids.length ck] 80)).heap.size=w.heap.size+1:=by simp
    have Hb:=zF (hb.below hE hP)
    have Hk:=zF (hk.below hE hP)
    have Hds:=zF (RDs.keep (fun p hp=>hE.cell (hP _ hp)) hds)
    have HE:=zF hE
    have Hn:=zF hn
    have Hz:=zF hz
    have HP:=zF hP
    obtain ⟨s,hs⟩:=eV w.heap.size
    have Hs:=zF hs
    rw [hs] at HE Hn Hz HP ⊢
    have H48:=zF h48
    have Hd:=zF hd
    have Hcn:=zF hc
    obtain ⟨hlc,hlc2,hlb⟩:=hb.cap
    have hkl:=hk.1
    have hkc:ck≤9223372036854775807:=hk.2.1
    clear hE hn hz hb hk hds hP h h48 hs hd hc
    by_cases ht:tag=48
    rotate_left
    · rw [zr ht] at hR
      have hk0:=re Hcn.out ht
      subst hk0
      have l0:([]:List DN).length=0:=rfl
      rw [l0] at Hn HE Hb Hk Hds Hz
      rw [l0]
      have HRR:=zF hR
      clear hR ih Hk Hds H48 hkl hkc Hcn Hd ht l0
      go_enter Tryz.func132,Tryz.ntmps132
      go_upto_region 1 with fail
      rw [Hs.out]
      generalize w.alloc (.cells #[.int .i64 (tag:Int),.slice A bs.length c,.slice Ak 0 ck] 80)=W0 at *
      have m0:=zH Hn.out 0
      have m1:=zH Hn.out 1
      have m2:=zH Hn.out 2
      simp only [zI,zJ,zL] at m0 m1 m2
      go_wp2
      go_loopw [4,15] (fun v i wr=>v=.slice A bs.length c∧i=.int .i64 0∧wr=W0) (fun _ _ _=>0)
      case atStart=>exact ⟨rfl,rfl,rfl⟩
      case round =>
        obtain ⟨rfl,rfl,rfl⟩:=hrel
        by_cases hl:65536<bs.length
        · have hR2:R=none:=by rw [←HRR.out,zr (by have:=gN tag bs;omega)]
          subst hR2
          have hl':(65536:Int)<(bs.length:Int):=by omega
          go_wp2
          go_ret2
          exact ⟨⟨_,_,_,rfl⟩,HE.out⟩
        · have hl':¬ (65536:Int)<(bs.length:Int):=by omega
          have HHd:=zF (dL tag P A c bs wr Hb.out (fun q hq=>by have:=HP.out q hq;have:=Hz.out;omega) (by omega))
          go_wp2_with fail
          refine HHd.out.mono ?_
          rintro e w1 ⟨⟨A1,c1,rfl,hO1⟩,hB1⟩
          have HO1:=zF hO1
          have HB1:=zF (HE.out.trans (hB1.mono (show s≤wr.heap.size by have:=Hz.out;omega)))
          obtain ⟨T,hT⟩:=eV (hdB tag bs)
          rw [hT] at HO1 HRR
          rw [hT]
          clear hT hO1 hB1 HHd
          by_cases h2:T.length≤65536
          · have hR2:R=some T:=by rw [←HRR.out,qE h2]
            subst hR2
            have h2':(T.length:Int)≤(65536:Int):=by omega
            go_wp2
            go_ret2
            exact ⟨⟨A1,c1,rfl,j6 HO1.out (by have:=Hz.out;omega)⟩,HB1.out⟩
          · have hR2:R=none:=by rw [←HRR.out,zr h2]
            subst hR2
            have h2':decide ((T.length:Int)≤(65536:Int))=false:=qp (by omega)
            go_wp2
            go_ret2
            exact ⟨⟨_,_,_,rfl⟩,HB1.out⟩
    subst ht
    rw [qE rfl] at hR
    obtain ⟨rfl,rfl⟩:=H48.out rfl
    have hbs0:bs=[]:=qH (by omega)
    subst hbs0
    have HRR:=zF hR
    have c48:((48:Nat):Int)=48:=rfl
    have l0:([]:List Nat).length=0:=rfl
    rw [c48,l0] at Hn HE Hb Hk Hds Hz
    rw [c48,l0]
    clear hR l0 hlc hlc2 hlb H48 Hb
    go_enter Tryz.func132,Tryz.ntmps132
    go_upto_region 1 with fail
    rw [Hs.out]
    generalize w.alloc (.cells #[.int .i64 48,.slice none 0 0,.slice Ak kids.length ck] 80)=W0 at *
    have m0:=zH Hn.out 0
    have m1:=zH Hn.out 1
    have m2:=zH Hn.out 2
    simp only [zI,zJ,zL] at m0 m1 m2
    go_wp2
    go_loopw [4,15] (fun v i wr=>∃ (j:Nat) (A':Option Addr) (c':Nat) (acc:List Nat),j≤kids.length∧i=.int .i64 (j:Int)∧v=.slice A' acc.length c'∧OW wr W0.heap.size A' c' acc∧acc=js (kids.take j)∧acc.length≤65536∧Below (s+1) W0 wr) (fun _ i _=>kids.length - (intOf i).toNat)
    case atStart=>exact ⟨0,none,0,[],by omega,rfl,rfl,⟨kV _ _ _ _,by simp⟩,by simp [js],by simp,zQ _ _⟩
    case round =>
      obtain ⟨j,A',c',acc,hj,rfl,rfl,hO,hacc,hal,hB⟩:=hrel
      have HB:=zF hB
      have HO:=zF hO
      have HAcc:=zF hacc
      have HAl:=zF hal
      have hbx:=(hB.block s (by omega)).trans Hn.out
      have Hsz:=zF (zU (yY Hz.out.symm) hB.size)
      clear m0 m1 m2
      have m0:=zH hbx 0
      simp only [zI,zJ] at m0
      clear hB hO hacc hal hbx
      by_cases hlt:j<kids.length
      · obtain ⟨ad,x,B1,n1,d1,B2,n2,d2,rfl,x0,x1,x2,hrd⟩:=dJ (RS.below Hk.out HB.out (fun q hq=>by have:=HP.out q hq;omega)) (RDs.keep (fun p hp=>HB.out.cell (by have:=HP.out _ hp;omega)) Hds.out) hlt
        have q1:(j:Int)<(kids.length:Int):=by omega
        have htk:=gj hlt
        have hle:(js (kids.take (j+1))).length≤(js kids).length:=bO _
        have hke:=rO hlt
        have hhd:=gN 48 (js kids)
        have hB5:Below wr.heap.size wr (wr.alloc (.cells #[.int .i64 x,.slice B1 n1 d1,.slice B2 n2 d2] 80)):=(zQ _ wr).alloc (zG _) _
        have hz5:(wr.alloc (.cells #[.int .i64 x,.slice B1 n1 d1,.slice B2 n2 d2] 80)).heap.size=wr.heap.size+1:=by simp
        have IH:=ih (d+1) P kids[j] _ (wr.alloc (.cells #[.int .i64 x,.slice B1 n1 d1,.slice B2 n2 d2] 80)) (by have:=aY (tag:=48) (bs:=[]) (jX hlt);have:=Hd.out;omega) (tO Hcn.out (jX hlt)) (hrd.below hB5 (fun q hq=>by have:=HP.out q hq;have:=Hsz.out;omega)) (fun q hq=>by have:=HP.out q hq;have:=Hsz.out;omega)
        rw [htk,←HAcc.out] at hle
        rw [←HAcc.out] at htk
        rw [wrQ] at IH
        obtain ⟨wk,hwk⟩:=eV (enc kids[j])
        rw [hwk] at IH htk hle hke
        have HIH:=zF IH
        have HTk:=zF htk
        have HLe:=zF hle
        have HNo:=zF (show 65536<wk.length∨65536<(acc++wk).length→R=none from fun h=>by rw [←HRR.out,zr (by omega)])
        have HB5:=zF (HB.out.trans (hB5.mono Hsz.out))
        have HO5:=zF (wv HO.out hB5)
        have Hz5:=zF hz5
        clear IH hrd htk hle hwk hke hhd hB5 hz5 HO
        go_wp2_with fail
        refine HIH.out.mono ?_
        rintro e w1 ⟨hW,hB1⟩
        have HB1:=zF (HB5.out.trans (hB1.mono (by have:=Hz5.out;have:=Hsz.out;omega)))
        have HO6:=zF (wv HO5.out hB1)
        clear hB1 x0 x1 x2 HIH HO5
        by_cases hk6:wk.length≤65536
        rotate_left
        · rw [zr hk6] at hW
          obtain ⟨A6,n6,c6,rfl⟩:=hW
          have hR2:=HNo.out (.inl (by omega))
          subst hR2
          go_wp2
          go_ret2
          exact ⟨⟨_,_,_,rfl⟩,HE.out.trans (HB1.out.mono (by omega))⟩
        rw [qE hk6] at hW
        obtain ⟨A6,c6,rfl,hO6⟩:=hW
        have HR6:=zF (hO6.rb (by omega))
        have HW0:=zF (show W0.heap.size≤w1.heap.size from HB1.out.size)
        clear hO6
        go_wp2_with (at_builtin;refine wf rfl (.tmp 26) (.tmp 27) rfl W0.heap.size (bs:=acc) (cs:=wk) rfl HO6.out rfl HR6.out (by have:=HAl.out;omega) HW0.out ?_)
        intro A7 c7 w7 hw7 hb7
        have HW7:=zF hw7
        have HB7:=zF (HB1.out.trans (hb7.mono (by have:=Hz.out;omega)))
        have HT7:=zF (show acc++wk=js (kids.take (j+1)) by rw [HTk.out])
        clear hw7 hb7
        have hal:(acc++wk).length=acc.length+wk.length:=zk
        by_cases h7:65536<(acc++wk).length
        · have hR2:=HNo.out (.inr h7)
          subst hR2
          have h7':(65536:Int)<((acc++wk).length:Int):=by omega
          have h7'':(65536:Int)<(acc.length:Int)+(wk.length:Int):=by omega
          clear hal
          go_wp2
          go_ret2
          exact ⟨⟨_,_,_,rfl⟩,HE.out.trans (HB7.out.mono (by omega))⟩
        · have h7':¬ (65536:Int)<((acc++wk).length:Int):=by omega
          have h7'':¬ (65536:Int)<(acc.length:Int)+(wk.length:Int):=by omega
          clear hal
          go_wp2
          go_roundw
          case rel=>exact ⟨j+1,A7,c7,acc++wk,by omega,by go_num,by first | rfl | simp,HW7.out,HT7.out,by omega,HB7.out⟩
          case measure=>simp [intOf];omega
      · obtain rfl:j=kids.length:=by omega
        have hwk:acc=js kids:=by rw [HAcc.out,zx (zG _)]
        rw [←hwk] at HRR
        have q1:¬ (kids.length:Int)<(kids.length:Int):=by omega
        have hl':¬ (65536:Int)<(acc.length:Int):=by have:=HAl.out;omega
        have HHd:=dL 48 _ A' c' acc wr (HO.out.rb (by have:=HAl.out;omega)) (fun q hq=>hq.2) (by have:=HAl.out;omega)
        rw [c48] at HHd
        have HHd:=zF HHd
        clear hwk
        go_wp2_with fail
        refine HHd.out.mono ?_
        rintro e w1 ⟨⟨A1,c1,rfl,hO1⟩,hB1⟩
        have HO1:=zF hO1
        have HB1:=zF (HE.out.trans ((HB.out.mono (show s≤s+1 by omega)).trans (hB1.mono (show s≤wr.heap.size by have:=Hsz.out;omega))))
        obtain ⟨T,hT⟩:=eV (hdB 48 acc)
        rw [hT] at HO1 HRR
        rw [hT]
        clear hT hO1 hB1 HHd
        by_cases h2:T.length≤65536
        · have hR2:R=some T:=by rw [←HRR.out,qE h2]
          subst hR2
          have h2':(T.length:Int)≤(65536:Int):=by omega
          go_wp2
          go_ret2
          exact ⟨⟨A1,c1,rfl,j6 HO1.out (by have:=Hsz.out;omega)⟩,HB1.out⟩
        · have hR2:R=none:=by rw [←HRR.out,zr h2]
          subst hR2
          have h2':decide ((T.length:Int)≤(65536:Int))=false:=qp (by omega)
          go_wp2
          go_ret2
          exact ⟨⟨_,_,_,rfl⟩,HB1.out⟩
theorem xQ (P:Nat→Prop) (t:DN) (v:Value) (w:World) (h:RD w P t v) (hP:∀ q,P q→q<w.heap.size) :
    Calls Tryz.prog 85 #[v] w fun e w'=>WrP (wH t) w.heap.size e w'∧Below w.heap.size w w':=by
  obtain ⟨xi,B1,n1,d1,B2,n2,d2,rfl⟩:=h.shape
  obtain ⟨s,hs⟩:=eV w.heap.size
  obtain ⟨W0,hW0⟩:=eW (w.alloc (.cells #[.int .i64 xi,.slice B1 n1 d1,.slice B2 n2 d2] 80))
  have hE:Below s w W0:=by rw [hW0];exact (zQ s w).alloc (by omega) _
  have hz:W0.heap.size=s+1:=by rw [hW0];simp [hs]
  have hn:W0.heap[s]?=some (.cells #[.int .i64 xi,.slice B1 n1 d1,.slice B2 n2 d2] 80 (0,0)):=by rw [hW0,←hs];exact zN w _
  have hb:=h.below hE (fun q hq=>by have:=hP q hq;omega)
  have HM:=mt P t _ W0 hb (fun q hq=>by have:=hP q hq;omega)
  have HWr:=zF (fun X (hX:Below W0.heap.size W0 X) (hc:(kr 1 t).isSome=true)=>bQ (SizeOf.sizeOf t) 1 P t _ X (zG _) hc (hb.below hX (fun q hq=>by have:=hP q hq;omega)) (fun q hq=>by have:=hP q hq;have:=hX.size;omega))
  obtain ⟨R,hR⟩:=eV (wH t)
  rw [hR,hs]
  have h1:(kr 1 t).isSome=false→R=none:=fun h=>hR.symm.trans (qE h)
  have h2:(kr 1 t).isSome=true→R=wrQ t:=fun h=>by
    rw [←hR]
    unfold wH wrQ
    rw [zr (by rw [h];decide)]
    by_cases hh:65536<(enc t).length
    · rw [qE hh,zr (by omega)]
    · rw [zr hh,qE (by omega)]
  obtain ⟨p,hp⟩:=eV ((kr 1 t).isSome)
  simp only [hp] at HM HWr h1 h2
  obtain ⟨RQ,hRQ⟩:=eV (wrQ t)
  simp only [hRQ] at HWr h2
  have Hs:=zF hs
  have HE:=zF hE
  have Hz:=zF hz
  have HMa:=zF HM
  have H1:=zF h1
  have H2:=zF h2
  have Hn:=zF hn
  have m0:=zH hn 0
  have m1:=zH hn 1
  have m2:=zH hn 2
  simp only [zI,zJ,zL] at m0 m1 m2
  clear h hP hs hE hz hn hb HM hR hp hRQ h1 h2
  go_enter Tryz.func85,Tryz.ntmps85
  go_upto_region 1 with fail
  rw [←hW0,Hs.out]
  clear hW0
  go_wp2_with fail
  refine HMa.out.mono ?_
  rintro e w1 ⟨rfl,hB1⟩
  have HB1:=zF hB1
  have HF1:=zF (HE.out.trans (hB1.mono (show s≤W0.heap.size by have:=Hz.out;omega)))
  have hn1:=(hB1.block s (by have:=Hz.out;omega)).trans Hn.out
  clear hB1 m0 m1 m2 HMa
  have m0:=zH hn1 0
  have m1:=zH hn1 1
  have m2:=zH hn1 2
  simp only [zI,zJ,zL] at m0 m1 m2
  clear hn1
  cases p
  · have hR:=H1.out rfl
    subst hR
    go_wp2
    go_ret2
    exact ⟨rfl,HF1.out⟩
  have hR:=H2.out rfl
  subst hR
  have HW2:=zF (HWr.out w1 HB1.out rfl)
  go_wp2_with fail
  refine HW2.out.mono ?_
  rintro e w2 ⟨hW,hB2⟩
  have HF2:=zF (HF1.out.trans (hB2.mono (show s≤w1.heap.size by have:=HB1.out.size;have:=Hz.out;omega)))
  have Hsz:=zF (show s≤w1.heap.size by have:=HB1.out.size;have:=Hz.out;omega)
  clear hB2 HW2 HWr H1 H2
  cases R with
  | none =>
    obtain ⟨A2,n2',c2,rfl⟩:=hW
    go_wp2
    go_ret2
    exact ⟨rfl,HF2.out⟩
  | some b =>
    obtain ⟨A2,c2,rfl,hO⟩:=hW
    have HO:=zF hO
    clear hO
    go_wp2
    go_ret2
    exact ⟨⟨A2,c2,rfl,j6 HO.out Hsz.out⟩,HF2.out⟩
end Go.Proofs.YtmlbicgpehchhaaGreat.Der
namespace Go.Proofs.YtmlbicgpehchhaaGreat
open Go.RowKit
theorem RN.one (w:World) (x:Nat) (hx:x<18446744073709551616):RN (w.alloc (.cells #[.int .u64 (x:Int)] 69)) (In w.heap.size (w.heap.size+1)) (some ⟨w.heap.size,0,none⟩) 1 [x] :=
 ⟨jW #[.int .u64 (x:Int)] 69 1 1 rfl (by unfold maxLen;omega) ⟨zG _,by omega⟩,by simpa [Lim] using hx⟩
abbrev RU (w:World) (A:Option Addr) (c:Nat) (l:List Nat):Prop:=RN w (fun b=>b<w.heap.size) A c l
theorem RN.up {w w':World} {A:Option Addr} {c:Nat} {l:List Nat} (h:RU w A c l) (hB:Below w.heap.size w w'):RU w' A c l :=
 (h.below hB fun _ hb=>hb).mono fun _ hb=>zP hb hB.size
theorem OB.ru {w:World} {base:Nat} {A:Option Addr} {c:Nat} {l:List Nat} (h:OB w base A c l):RU w A c l:=h.rn.mono fun _ hb=>hb.2
theorem RN.ud {w:World} {A:Option Addr} {c:Nat} {l:List Nat} (h:RU w A c l) (n:Nat):RU (w.drewN n) A c l:=h
end Go.Proofs.YtmlbicgpehchhaaGreat
namespace Go.Proofs.YtmlbicgpehchhaaGreat
theorem zb:type_of% @RN.up:=@RN.up
end Go.Proofs.YtmlbicgpehchhaaGreat
namespace Go.Proofs.YtmlbicgpehchhaaGreat
open Go.ChangeShapes Go.WideShapes Go.ChangeAt Go.RowKit Go.Deep Go.Joins
section
variable {H:Type} {enc:TypeId×Value→H} {w:World}
theorem tP:Tryz.prog.cellsOf 69=1:=by kernel_rfl
theorem tR:Tryz.prog.bytesOf 69=8:=by kernel_rfl
def Fits (t:TypeId) (d:DataW H):Prop:=∀ k∈DataW.weights Tryz.prog t d,k≤reachBytes
theorem cD {fuel:Nat} {v:Value} {x:DataW H×List MemPlace} (h:DataW.trod enc Tryz.prog w 0 (fun _=>true) true fuel 23 [v]=some x) (hw:Fits 23 x.1) :
 ∃ A c l,v=.slice A l.length c∧RL w (fun b=>b<w.heap.size) A c l:=by
 rcases open_ints Tryz.underlying23 Tryz.underlying69 tP h with ⟨hcs,_⟩ | ⟨a,len,cap,zs,hcs,_,hl,hm,hz,hx,hcell,hwz⟩
 · simp at hcs
   exact ⟨none,0,[],by simpa using hcs,RS.nil_ _ _ _,by simp,by simp⟩
 · simp at hcs hz
   have hb:zs.length*8≤reachBytes:=by
    subst hx
    have:=hw (((lits (H:=H) .u64 (zs.take len)).length+(lits (H:=H) .u64 (zs.drop len)).length)*8) (by simp [DataW.weights,Tryz.underlying23,tR])
    simp [lits] at this
    omega
   unfold reachBytes at hb
   have hwf:∀ i (hi:i<zs.length),0≤zs[i]∧zs[i]<18446744073709551616:=fun i hi=>by
    have:=bounds_u64 (hwz _ (jX hi))
    omega
   refine ⟨some a,cap,(zs.take len).map Int.toNat,?_,⟨by simp;omega,hm,by simp [nts],fun hn=>⟨a,rfl,?_,fun j u hu=>?_⟩⟩,?_,by simp;omega⟩
   · rw [hcs];simp;omega
   · have h0:=hcell 0 (by simp at hn;omega)
     have:=World.block_lt_of_cell? w _ h0
     rwa [yt] at this
   · have hj:j<len:=by
      have:=(List.getElem?_eq_some_iff.1 hu).1
      simp [nts] at this
      omega
     have hjz:j<zs.length:=by omega
     rw [hcell j hjz]
     have:=hwf j hjz
     simp [nts,hj,qK hjz] at hu
     rw [←hu]
     simp [List.getD,qK hjz]
     omega
   · intro b hb
     obtain ⟨z,hz,rfl⟩:=List.mem_map.1 hb
     obtain ⟨i,hi,rfl⟩:=List.getElem_of_mem (qI hz)
     have:=hwf i hi
     omega
end
end Go.Proofs.YtmlbicgpehchhaaGreat
namespace Go.Proofs.YtmlbicgpehchhaaGreat
def kT (bs:List Nat):Nat:=val 256 bs.reverse
theorem ma (bs:List Nat) (c:Nat):kT (bs++[c])=c+256*kT bs:=by
 simp [kT]
theorem ga (k:Nat):256 ^ k=2 ^ (8*k):=by rw [vw]
theorem dW (f:Nat→Nat) (n:Nat):val 256 ((List.range (n+1)).map f)=val 256 ((List.range n).map f)+256 ^ n*f n:=by
 rw [List.range_succ,List.map_append,jp]
 simp
theorem nv (x n:Nat):val 256 ((List.range n).map fun i=>x / 2 ^ (8*i) % 256)=x % 256 ^ n:=by
 induction n with
 | zero=>simp [Nat.mod_one]
 | succ n ih=>rw [dW,ih,zv,Nat.mod_mul,ga]
theorem fF (x n:Nat):(bytesOf x n).reverse=(List.range n).map fun i=>x / 2 ^ (8*i) % 256:=by
 apply List.ext_getElem
 · simp [bytesOf]
 · intro i h1 h2
   simp [bytesOf] at h1 ⊢
   rw [show n - 1 - (n - 1 - i)=i by omega]
theorem uk {x n:Nat} (h:x<2 ^ (8*n)):kT (bytesOf x n)=x:=by
 rw [kT,fF,nv,ga,qJ h]
theorem oe {m j q k c:Nat} {o:List Nat} {V:Nat} (ho:∀ x∈o,x<2 ^ m) (hq:q<o.length) (hk:m*q+j=8*k) (hj:j+8≤m) (hc:c<256) (hv:val (2 ^ m) o=256 ^ (k+1)*V) :
 c*2 ^ j<2 ^ m∧dg o q+c*2 ^ j<2 ^ m∧(dg o q ||| c*2 ^ j)=dg o q+c*2 ^ j∧val (2 ^ m) (o.set q (dg o q+c*2 ^ j))=256 ^ k*(c+256*V):=by
 obtain ⟨r,hr⟩:=uZ o ho q 0 (by omega)
 have hlt:dg o q<2 ^ m:=jE (qN (by omega)) ho q
 rw [qt,Nat.pow_zero,Nat.div_one,Nat.sub_zero,hv,ga,show 8*(k+1)=m*q+(j+8) by omega,qM,zf,Nat.mul_div_cancel_left _ (qN (by omega))] at hr
 have hcj:c*2 ^ j<2 ^ (j+8):=by
  rw [qM,zh]
  exact kF hc (qN (by omega))
 have em:2 ^ m=2 ^ (j+8)*2 ^ (m - (j+8)):=by rw [←qM,show j+8+(m - (j+8))=m by omega]
 obtain ⟨t,ht⟩:∃ t,dg o q=t*2 ^ (j+8):=by
  refine ⟨V - 2 ^ (m - (j+8))*r,?_⟩
  rw [em,zf] at hr
  rw [zh,Nat.mul_sub,hr]
  omega
 have htlt:t<2 ^ (m - (j+8)):=by
  rw [ht,em,zh] at hlt
  exact Nat.lt_of_mul_lt_mul_left hlt
 have hsum:dg o q+c*2 ^ j<2 ^ m:=by
  have h1:(t+1)*2 ^ (j+8)≤2 ^ (m - (j+8))*2 ^ (j+8):=qb _ htlt
  rw [zh (2 ^ (m - (j+8))),←em,qZ,←ht] at h1
  omega
 refine ⟨by omega,hsum,?_,?_⟩
 · rw [ht,zh t,Nat.two_pow_add_eq_or_of_lt hcj]
 · have h2:=wI (2 ^ m) hq (dg o q+c*2 ^ j)
   have h3:(2 ^ m) ^ q*(c*2 ^ j)=256 ^ k*c:=by
    rw [ga,←hk,qM,vw,zf,zh c]
   rw [zl,h3,hv] at h2
   rw [zl,←zf,←zv]
   generalize 256 ^ (k+1)*V=E at *
   generalize 256 ^ k*c=F at *
   generalize (2 ^ m) ^ q*dg o q=G at *
   generalize val (2 ^ m) (o.set q (dg o q+c*2 ^ j))=H at *
   clear hr hlt hcj em ht htlt hsum hv h3
   omega
end Go.Proofs.YtmlbicgpehchhaaGreat
namespace Go.Proofs.YtmlbicgpehchhaaGreat
open Go.RowKit
theorem RB.cells {w:World} {P:Nat→Prop} {ad:Addr} {c:Nat} {bs:List Nat} (h:RB w P (some ad) c bs):∀ i,i<bs.length→w.cell? (ad.add i)=some (.int .u8 (dg bs i:Int)):=by
 intro i hi
 obtain ⟨ad',e,_,hc,_⟩:=h.at_ hi
 cases e
 rw [dg,q9 hi]
 exact hc
theorem RB.dg {w:World} {P:Nat→Prop} {A:Option Addr} {c:Nat} {bs:List Nat} (h:RB w P A c bs) {i:Nat} (hi:i<bs.length):∃ ad,A=some ad∧w.cell? (ad.add i)=some (.int .u8 (Go.Proofs.YtmlbicgpehchhaaGreat.dg bs i:Int))∧Go.Proofs.YtmlbicgpehchhaaGreat.dg bs i<256:=by
 obtain ⟨ad,rfl,_,hc,hb⟩:=h.at_ hi
 refine ⟨ad,rfl,h.cells i hi,?_⟩
 rw [Go.Proofs.YtmlbicgpehchhaaGreat.dg,q9 hi]
 omega
theorem xw (P:Nat→Prop) (A:Option Addr) (c:Nat) (bs:List Nat) (w:World) (h:RB w P A c bs) (hP:∀ b,P b→b<w.heap.size) (hl:bs.length≤100000) :
 Calls Tryz.prog 65 #[.slice A bs.length c] w fun e w'=>∃ A1 c1,e=.returned (.slice A1 (digs 18446744073709551616 (kT bs)).length c1) ∧
  OB w' w.heap.size A1 c1 (digs 18446744073709551616 (kT bs))∧Below w.heap.size w w':=by
 obtain ⟨h1,h2,h3⟩:=h.cap
 obtain ⟨n,hn⟩:=eV bs.length
 rw [hn] at h1 h3 hl ⊢
 obtain ⟨N,hN,hN1,hN2⟩:∃ N:Nat,((n:Int)+7) / 8=(N:Int)∧N≤100000∧n≤8*N:=⟨(n+7) / 8,by omega,by omega,by omega⟩
 have hmk:=jJ (P:=Tryz.prog) 23 69 (.int .u64 0) 8 Tryz.underlying23 j9 rfl .i64 .i64 N (by omega) (by omega)
 have Hn:=zF hn
 clear hn
 go_enter Tryz.func65,Tryz.ntmps65
 go_wp2
 go_loopw [14] (fun iv wr=>∃ (i:Nat) (o:List Nat),iv=.int .i64 (i:Int)∧i≤n∧Hid (o.length=N)∧Lim o∧val 18446744073709551616 o=256 ^ (n - i)*kT (bs.take i)∧Blk wr w.heap.size o∧Below w.heap.size w wr) (fun iv _=>n - (intOf iv).toNat)
 case atStart=>exact ⟨0,List.replicate N 0,rfl,by omega,zF (by simp),⟨by simp,by simp;omega⟩,by rw [kP];simp [kT],vT w _,(zQ _ w).alloc (zG _) _⟩
 case round =>
  obtain ⟨i,o,rfl,hi,Ho,hLo,hv,hblk,hB⟩:=hrel
  by_cases hlt:i<n
  · obtain ⟨ad,rfl,q1,hc⟩:=(h.below hB hP).dg (i:=i) (by rw [Hn.out];exact hlt)
    obtain ⟨k,q,r,hk,hr,hkq⟩:∃ k q r,k=n - 1 - i∧r<8∧k=8*q+r:=⟨n - 1 - i,(n - 1 - i) / 8,(n - 1 - i) % 8,rfl,by omega,by omega⟩
    have hqo:q<o.length:=by have:=Ho.out;omega
    obtain ⟨s1,s2,s3,s4⟩:=oe (m:=64) (j:=r*8) (q:=q) (k:=k) hLo.1 hqo (by omega) (by omega) hc (by rw [show n - i=k+1 by omega] at hv;exact hv)
    rw [←ma,←ya (by rw [Hn.out];exact hlt),show k=n - (i+1) by omega] at s4
    obtain ⟨z,hz⟩:=eV (dg bs i*2 ^ (r*8))
    rw [hz] at s1 s2 s3 s4
    obtain ⟨y,hy⟩:=eV (dg o q+z)
    rw [hy] at s2 s3 s4
    have e1:(n:Int) - 1 - (i:Int)=(k:Int):=by omega
    have e2:(k:Int) / 8=(q:Int):=by omega
    have e3:(k:Int) % 8=(r:Int):=by omega
    have e4:IntKind.u64.wrap ((dg bs i:Int)*2 ^ (r*8))=(z:Int):=by
     rw [show (dg bs i:Int)*2 ^ (r*8)=(z:Int) by rw [←hz];simp]
     exact qg _ (by omega)
    have e5:bits .or .u64 (dg o q:Int) (z:Int)=(y:Int):=by
     rw [bits_or_u64_nat _ _ (hLo.dgLt q) s1,s3]
    have q3:=hblk.cell hqo
    have q4:=hblk.free q
    have hblk':=hblk.set q y
    have hLo':=hLo.set q y s2
    have hB':=hB.setCell (p:=⟨w.heap.size,q,none⟩) (zG _) (.int .u64 (y:Int))
    have Ho':Hid ((o.set q y).length=N):=zF (by rw [kO];exact Ho.out)
    have k1:(q:Int)<(N:Int):=by have:=Ho.out;omega
    have k2:(r:Int)<8:=by omega
    have k3:(dg bs i:Int)<256:=by omega
    have S4:=zF s4
    clear s4 s3 s2 s1 hz hy hk hkq hqo hblk hLo hB hv hc
    go_wp2_with fail
    go_region
    go_wp2
    go_roundw
    case rel=>exact ⟨i+1,o.set q y,by go_num,by omega,Ho',hLo',S4.out,hblk',qT hB' 1⟩
    case measure=>simp [intOf];omega
  · obtain rfl:i=n:=by omega
    rw [Nat.sub_self,Nat.pow_zero,xE,zx (by rw [Hn.out];omega)] at hv
    have hOB:OB wr w.heap.size (some ⟨w.heap.size,0,none⟩) N o:=kj hblk (zG _) hLo (by have:=Ho.out;omega) (by unfold maxLen;omega)
    have ht:=jN _ _ _ _ _ hOB.rn
    have hOB':=hOB.trim
    rw [hv,Ho.out] at ht
    rw [hv] at hOB'
    have Ht:=zF ht
    clear hblk hLo ht hv hOB
    go_wp2_with fail
    refine Ht.out.mono ?_
    rintro e w1 ⟨rfl,rfl⟩
    go_wp2
    go_ret
    exact ⟨_,_,rfl,hOB',hB⟩
theorem df {x:Nat} (hx:0<x):0<dg (digs 4294967296 x) ((digs 4294967296 x).length - 1):=by
 have hne:digs 4294967296 x≠[]:=by rw [jP (by omega) hx];simp
 have h:=yQ (B:=4294967296) (by omega) x hne
 have hpos:=List.length_pos_iff.2 hne
 rw [List.getLast_eq_getElem] at h
 rw [dg,q9 (by omega)]
 omega
theorem oX (t k:Nat):t / 2 ^ k / 2=t / 2 ^ (k+1):=by rw [xM,zv]
theorem uF (P:Nat→Prop) (A:Option Addr) (c:Nat) (x:Nat) (w:World) (h:RN w P A c (digs 4294967296 x)) :
 Calls Tryz.prog 92 #[.slice A (digs 4294967296 x).length c] w fun e w'=>e=.returned (.int .i64 (qa x:Int))∧w=w':=by
 rcases zo x with rfl | hx
 · rw [qY]
   go_enter Tryz.func92,Tryz.ntmps92
   go_wp2
   go_ret
   exact ⟨rfl,rfl⟩
 · have htop:=fun k hk h1 h2=>cJ (m:=32) (by omega) hx (k:=k) hk h1 h2
   have hpos:=df hx
   have hD:=vS x
   obtain ⟨h1,h2,h3⟩:=h.cap
   have hne:0<(digs 4294967296 x).length:=by rw [jP (by omega) hx];simp
   rw [show (2:Nat) ^ 32=4294967296 by decide] at htop
   generalize digs 4294967296 x=l at *
   obtain ⟨n,hn⟩:∃ n,l.length=n+1:=⟨l.length - 1,by omega⟩
   obtain ⟨ad,rfl,_,q1⟩:=h.at_ (i:=n) (by omega)
   rw [hn,jC] at htop hpos
   have hl:=hD.dgLt n
   generalize dg l n=t at *
   rw [hn] at h1 h3 ⊢
   have Htop:=zF htop
   have Hpos:=zF hpos
   clear htop hpos hx hn hne h hD
   have Hl:=zF hl
   clear hl
   go_enter Tryz.func92,Tryz.ntmps92
   go_wp2
   go_loop [4,5] (fun kv tv=>∃ k z:Nat,kv=.int .i64 (k:Int)∧tv=.int .u64 (z:Int)∧Hid (z=t / 2 ^ k)∧Hid (z<4294967296)∧k≤32∧(k=0∨2 ^ (k - 1)≤t)) (fun kv _=>(33 - intOf kv).toNat)
   case atStart=>exact ⟨0,t,rfl,rfl,zF (by simp),Hl,by omega,.inl rfl⟩
   case round =>
    obtain ⟨k,z,rfl,rfl,hz,hzl,hk,hor⟩:=hrel
    have Hor:=zF hor
    clear hor
    by_cases h0:z=0
    · have hfin:qa x=32*n+k:=by
       have e:=hz.out
       rw [h0] at e
       have hlt:t<2 ^ k:=by
        rcases qB t (2 ^ k) with h | h
        · exact h
        · have:=Nat.div_pos h (qN (by omega));omega
       have hk0:0<k:=by
        rcases zo k with rfl | h
        · have:=Hpos.out;simp at hlt;omega
        · exact h
       rcases Hor.out with h | h
       · omega
       · exact Htop.out k hk0 h hlt
      have Hfin:=zF hfin
      subst h0
      clear hfin
      go_wp2
      go_ret
      exact ⟨fI (by rw [Hfin.out];simp),rfl⟩
    · have hk':k<32:=by
       rcases qB k 32 with h | h
       · exact h
       · exfalso
         apply h0
         rw [hz.out]
         exact qj (zP Hl.out (by rw [show (4294967296:Nat)=2 ^ 32 by decide];exact zy (by omega) h))
      have hge:2 ^ k≤t:=by
       rcases qB t (2 ^ k) with h | h
       · exfalso;apply h0;rw [hz.out];exact qj h
       · exact h
      have Hge:=zF hge
      obtain ⟨z',hz',e1⟩:∃ z':Nat,z / 2=z'∧(z:Int) / 2=(z':Int):=⟨z / 2,rfl,by omega⟩
      have hzz:Hid (z'=t / 2 ^ (k+1)):=zF (by rw [←hz',hz.out,oX])
      have hzl':Hid (z'<4294967296):=zF (by have:=hzl.out;omega)
      have p1:(0:Int)<(z:Int):=by omega
      clear hge hz' h0
      go_wp2
      go_round
      case rel=>exact ⟨k+1,z',by go_num,by first | rfl | exact congrArg (Value.int .u64) (qg _ (by have:=hzl'.out;omega)),hzz,hzl',by omega,.inr (by rw [jC];exact Hge.out)⟩
      case measure=>simp [intOf];omega
theorem tmod2 (d j:Nat):((d:Int) / 2 ^ j).tmod 2=((d / 2 ^ j % 2:Nat):Int):=by
 rw [show (d:Int) / 2 ^ j=((d / 2 ^ j:Nat):Int) by simp]
 generalize d / 2 ^ j=z
 rw [Int.tmod_eq_emod_of_nonneg (by omega)]
 omega
theorem mod2 (d j:Nat):IntKind.u64.wrap ((d:Int) / 2 ^ j % 2)=((d / 2 ^ j % 2:Nat):Int):=by
 rw [show (d:Int) / 2 ^ j % 2=((d / 2 ^ j % 2:Nat):Int) by simp]
 generalize d / 2 ^ j=z
 exact qg _ (by omega)
theorem mP (P:Nat→Prop) (A:Option Addr) (c:Nat) (x:Nat) (i:Int) (w:World) (h:RN w P A c (digs 4294967296 x)) (hi:i≤9223372036854775807) :
 Calls Tryz.prog 94 #[.slice A (digs 4294967296 x).length c,.int .i64 i] w fun e w'=>e=.returned (.int .u64 (xo x i:Int))∧w=w':=by
 obtain ⟨h1,h2,h3⟩:=h.cap
 have hv:=z7 (B:=4294967296) (by omega) x
 have hD:=vS x
 generalize digs 4294967296 x=a at *
 by_cases h0:i<0
 · have hb:=zF (show xo x i=0 by simp [xo,h0])
   go_enter Tryz.func94,Tryz.ntmps94
   go_wp2
   go_ret
   rw [hb.out]
   exact ⟨rfl,rfl⟩
 · obtain ⟨n,rfl⟩:∃ n:Nat,i=(n:Int):=⟨i.toNat,by omega⟩
   obtain ⟨k,j,hj,hn⟩:∃ k j,j<32∧n=32*k+j:=⟨n / 32,n % 32,by omega,by omega⟩
   have hb:xo x (n:Int)=dg a k / 2 ^ j % 2:=by
    have:=nE (m:=32) a hD k j hj
    rw [show (2:Nat) ^ 32=4294967296 by decide,hv] at this
    rw [xo,zr h0,ku,hn]
    exact this
   have e1:(n:Int) / 32=(k:Int):=by omega
   have e2:(n:Int) % 32=(j:Int):=by omega
   have e4:IntKind.i64.wrap ((n:Int) / 32)=(k:Int):=by rw [e1];exact wE _ (by omega)
   by_cases hk:k<a.length
   · obtain ⟨ad,rfl,_,q1⟩:=h.at_ hk
     have hd:=h.2.dgLt k
     have e3:=mod2 (dg a k) j
     have hj':(j:Int)<32:=by omega
     have hk':(k:Int)<(a.length:Int):=by omega
     have Hb:=zF hb
     clear hb hn hd h hi hD
     go_enter Tryz.func94,Tryz.ntmps94
     go_wp2
     go_ret
     exact ⟨fI (by rw [Hb.out];exact tmod2 _ _),rfl⟩
   · have hd:dg a k=0:=kY (by omega)
     rw [hd,Nat.zero_div] at hb
     have Hb:=zF hb
     have hk':¬ (k:Int)<(a.length:Int):=by omega
     have hk2:(a.length:Int)≤(k:Int):=by omega
     have hkb:(k:Int)≤288230376151711743:=by omega
     clear hb hn hd h hi hD
     go_enter Tryz.func94,Tryz.ntmps94
     go_wp2
     go_ret
     rw [Hb.out]
     exact ⟨rfl,rfl⟩
def yz (x n:Nat) (o:List Nat) (k:Nat):Prop:=o.length=n∧(∀ j,j<n→n - 1 - j<k→dg o j=x / 2 ^ (8*(n - 1 - j)) % 256)∧(∀ j,k≤n - 1 - j→dg o j=0)∧∀ b∈o,b<256
theorem yz.zero (x n:Nat):yz x n (List.replicate n 0) 0:=by
 refine ⟨by simp,fun j _ hj=>by omega,fun j _=>?_,fun b hb=>by simp at hb;omega⟩
 rw [dg,zi,List.getElem?_replicate]
 split <;> rfl
theorem yz.step {x n:Nat} {o:List Nat} {k b:Nat} (h:yz x n o k) (hk:k<n) (hb:x / 2 ^ (8*k) % 256=b):yz x n (o.set (n - 1 - k) b) (k+1):=by
 obtain ⟨h1,h2,h3,h4⟩:=h
 refine ⟨by simpa using h1,fun j hjn hj=>?_,fun j hj=>by rw [getD_set_ne (by omega)];exact h3 j (by omega),wJ h4 (by omega)⟩
 rcases qB (n - 1 - j) k with h | h
 · rw [getD_set_ne (by omega)];exact h2 j hjn h
 · obtain rfl:j=n - 1 - k:=by omega
   rw [vH (by omega),show n - 1 - (n - 1 - k)=k by omega];exact hb.symm
theorem yz.fin {x n:Nat} {o:List Nat} {k:Nat} (h:yz x n o k) (hk:∀ j,k≤j→j<n→x / 2 ^ (8*j) % 256=0):o=bytesOf x n:=by
 obtain ⟨h1,h2,h3,_⟩:=h
 apply List.ext_getElem (by rw [h1,jF])
 intro i h4 h5
 have e:dg o i=x / 2 ^ (8*(n - 1 - i)) % 256:=by
  rcases qB (n - 1 - i) k with h | h
  · exact h2 i (by omega) h
  · rw [h3 i h,hk _ h (by omega)]
 rw [dg,q9 h4] at e
 rw [e]
 simp [bytesOf]
theorem xO (P:Nat→Prop) (A:Option Addr) (c:Nat) (x:Nat) (n:Nat) (w:World) (h:RN w P A c (digs 4294967296 x)) (hP:∀ b,P b→b<w.heap.size) (hn:n≤65536) (hn':qa x≤8*n) :
 Calls Tryz.prog 51 #[.slice A (digs 4294967296 x).length c,.int .i64 (n:Int)] w fun e w'=>∃ A1,e=.returned (.tuple #[.slice A1 n n,.bool true]) ∧
  RB w' (In w.heap.size w'.heap.size) A1 n (bytesOf x n)∧Below w.heap.size w w':=by
 obtain ⟨h1,h2,h3⟩:=h.cap
 have hb:=zF (uF P A c x w h)
 have hv:=z7 (B:=4294967296) (by omega) x
 have hD:=vS x
 generalize digs 4294967296 x=a at *
 have hby:=fun k j hj=>bZ (m:=32) a hD k j hj
 rw [show (2:Nat) ^ 32=4294967296 by decide,hv] at hby
 generalize qa x=k0 at *
 have hk0:(k0:Int)≤8*(n:Int):=by omega
 have Hby:=zF hby
 clear hby hv hn' hD
 have hmk:=jJ (P:=Tryz.prog) 34 5 (.int .u8 0) 1 Tryz.underlying34 cQ rfl .i64 .i64 n (by omega) (by omega)
 go_enter Tryz.func51,Tryz.ntmps51
 go_wp2_with fail
 refine hb.out.mono ?_
 rintro e w1 ⟨rfl,rfl⟩
 clear hb
 go_wp2
 go_loopw [7] (fun iv wr=>∃ (k:Nat) (o:List Nat),iv=.int .i64 (k:Int)∧k≤n∧yz x n o k∧uX wr w.heap.size o∧Below w.heap.size w wr) (fun iv _=>n - (intOf iv).toNat)
 case atStart=>exact ⟨0,List.replicate n 0,rfl,by omega,yz.zero x n,uX.made w n,(zQ _ w).alloc (zG _) _⟩
 case round =>
  obtain ⟨k,o,rfl,hk,hA,hblk,hB⟩:=hrel
  obtain ⟨q,r,hr,hkq⟩:∃ q r,r<4∧k=4*q+r:=⟨k / 4,k % 4,by omega,by omega⟩
  have e2:(k:Int) / 4=(q:Int):=by omega
  have e3:(k:Int) % 4=(r:Int):=by omega
  have hfin:(k=n∨a.length≤q)→RB wr (In w.heap.size wr.heap.size) (some ⟨w.heap.size,0,none⟩) n (bytesOf x n):=fun hor=>by
   have he:o=bytesOf x n:=by
    refine hA.fin fun j hj hjn=>?_
    rcases hor with rfl | hor
    · omega
    · have:=Hby.out (j / 4) (8*(j % 4)) (by omega)
      rw [show 32*(j / 4)+8*(j % 4)=8*j by omega,kY (by omega:a.length≤j / 4),Nat.zero_div] at this
      exact this
   have hrb:=hblk.rb (P:=In w.heap.size wr.heap.size) ⟨zG _,ql hblk⟩ hA.2.2.2 (by have:=hA.1;omega)
   rw [hA.1,he] at hrb
   exact hrb
  have Hfin:=zF hfin
  clear hfin
  by_cases hlt:k<n
  · by_cases hq:q<a.length
    · obtain ⟨ad,rfl,had,q1⟩:=(h.below hB hP).at_ hq
      have hbv:=Hby.out q (8*r) (by omega)
      rw [show 32*q+8*r=8*k by omega] at hbv
      obtain ⟨b,hbb⟩:=eV (dg a q / 2 ^ (8*r) % 256)
      rw [hbb] at hbv
      have e4:=cq (dg a q) (8*r)
      rw [hbb] at e4
      have hA':=hA.step hlt hbv
      obtain ⟨m,hm,e1⟩:∃ m,n - 1 - k=m∧(n:Int) - 1 - (k:Int)=(m:Int):=⟨n - 1 - k,rfl,by omega⟩
      rw [hm] at hA'
      have q3:=hblk.cell (i:=m) (by rw [hA.1];omega)
      have q4:=hblk.free m
      have hblk':=hblk.set m b
      have hB':=hB.setCell (p:=⟨w.heap.size,m,none⟩) (zG _) (.int .u8 (b:Int))
      have k2:(q:Int)<(a.length:Int):=by omega
      have k3:(r:Int)<4:=by omega
      have k1:(m:Int)<(n:Int):=by omega
      clear hbb hbv hA hblk hB hkq hm Hfin
      go_wp2
      go_roundw
      case rel=>exact ⟨k+1,o.set m b,by go_num,by omega,hA',hblk',hB'⟩
      case measure=>simp [intOf];omega
    · have hrb:=Hfin.out (.inr (by omega))
      have k2:¬ (q:Int)<(a.length:Int):=by omega
      clear hA hblk hkq Hfin
      go_wp2
      go_ret2
      exact ⟨_,rfl,hrb,hB⟩
  · have hrb:=Hfin.out (.inl (by omega))
    clear hA hblk hkq Hfin
    go_wp2
    go_ret2
    exact ⟨_,rfl,hrb,hB⟩
end Go.Proofs.YtmlbicgpehchhaaGreat
