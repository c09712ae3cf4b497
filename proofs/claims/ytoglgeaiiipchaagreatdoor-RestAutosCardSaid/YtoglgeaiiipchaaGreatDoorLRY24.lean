import Derived.Test.YtoglgeaiiipchaaGreatDoorLRY23
import Derived.Lib.LaidTab
import Derived.LaidSub
import Derived.Shelf.Vars
import Derived.SizedLaws
import Derived.ProofKit
import Derived.OpenShut
import Derived.ShutString
import Derived.ChangeOld
import Derived.Carry
import Derived.Deep.Slices
import Derived.Deep.Fields
set_option linter.unusedSimpArgs false
set_option linter.unusedVariables false
set_option maxRecDepth 100000
set_option maxHeartbeats 8000000
namespace Go.Proofs.YtoglgeaiiipchaaGreatDoor
section
open Go Go.RowKit Go.Sort
theorem zH9 (a:Au) (A B C:Option Addr) (ca cb cc:Nat) (w:World) (hr:zM w 0 a A B C ca cb cc) (hck:ckA a=0):
  Calls Tryz.prog 19 #[.agg #[a.st,a.le,.slice A a.fs.length ca,.slice B a.gs.length cb,.slice C a.ss.length cc]] w (rO w (yW a)):=by
 have ho:=(yP.1 hck).1;obtain⟨N,hN⟩:=Int.eq_ofNat_of_zero_le (show 0<=a.st by have:=ho.st1;omega)
 have hN3:N<=300:=by have:=ho.st2;omega
 have hmk:=jV a.st N hN.symm (by omega)
 have hmi:=bL a.st N hN.symm (by omega)
 have HN:=hId hN;have HO:=hId ho;have HCK:=hId hck;have HFL:=hId ho.fs_le;have HW:=jN w a A B C ca cb cc
 have hb0:Below w w ((auW w a A B C ca cb cc).alloc (.cells #[(0:Int),(0:Int),(),(),()] 31)):=HW.below.alloc (by rw[HW.size];omega) _
 have HV0:yG ((auW w a A B C ca cb cc).alloc (.cells #[(0:Int),(0:Int),(),(),()] 31)) w.heap.size a A B C ca cb cc:=HW.at.below (bLa) (by rw[HW.size];omega)
 have hobj:((auW w a A B C ca cb cc).alloc (.cells #[(0:Int),(0:Int),(),(),()] 31)).heap[w.heap.size+1]?=some (.cells #[(0:Int),(0:Int),(),(),()] 31 (0,0)):=by
  rw[<-HW.size];show((auW w a A B C ca cb cc).heap.push _)[(auW w a A B C ca cb cc).heap.size]?=_
  simp
 have hsz:((auW w a A B C ca cb cc).alloc (.cells #[(0:Int),(0:Int),(),(),()] 31)).heap.size=w.heap.size+1+1:=by simp[HW.size]
 clear HW hN ho hck;unfold auW at hb0 HV0 hobj hsz
 go_enter Tryz.func19,Tryz.ntmps19
 go_upto_region 1 with fail
 obtain⟨V,hV⟩:∃V,V=w.heap.size:=⟨_,rfl⟩;rw[<-hV] at HV0 hobj hsz ⊢
 generalize (w.alloc (.cells #[a.st,a.le,.slice A a.fs.length ca,.slice B a.gs.length cb,.slice C a.ss.length cc] 31)).alloc (.cells #[(0:Int),(0:Int),(),(),()] 31)=W0 at *
 obtain⟨I,hI⟩:∃I,I=W0.heap.size:=⟨_,rfl⟩;have hVI:V+1<I:=by omega
 have hba:Below I W0 (W0.alloc (.cells (madeCells #[Value.bool false] N) 4)):=by rw[hI];exact bLa
 have HV:=hId (HV0.below hba (by omega))
 have HOB:=hId ((hba.block (V+1) hVI).trans hobj);have HB1:Hid (Below w w (W0.alloc (.cells (madeCells #[Value.bool false] N) 4))):=zA hb0 (hba.mono nLe) (by rw[hI];exact hb0.size)
 have HRD:=hId hr;have HI0:Hid (zU (W0.alloc (.cells (madeCells #[Value.bool false] N) 4)) I (List.replicate N false)):=by rw[hI];exact zU.new W0 N
 have hsz1:(W0.alloc (.cells (madeCells #[Value.bool false] N) 4)).heap.size=I+1:=by rw[hI];simp
 have HVV:=hId hV;obtain⟨_,c0,c1,c2,c3,c4⟩:=HV0;clear hb0 hobj hsz hr hV
 go_upto_block 0 with fail
 rw[<-hI];clear c0 c1 c2 c3 c4 hmk hI hba;generalize W0.alloc (.cells (madeCells #[Value.bool false] N) 4)=W1 at *
 have HK:Hid (∀ W,W1.grownBy W (some I)->yG W V a A B C ca cb cc/\zM W 0 a A B C ca cb cc):=fun W hg=>by
  have hblk:∀k,k<W1.heap.size->k≠I->W.heap[k]?=W1.heap[k]?:=fun k hk hn=>hg.block k hk (by simpa using hn)
  have e:=hblk V (by omega) (by omega)
  have c:=fun o=>World.cell?_of_block (w:=W1) (w':=W) (a:=⟨V,o,none⟩) e
  have hb:Below w w W:=HB1.o.grown hg HB1.o.size (fun k hk=>by have:=HVV.o;simp at hk;omega)
  exact⟨⟨Nat.lt_of_lt_of_le HV.o.lt hg.size,(c 0).trans HV.o.c0,(c 1).trans HV.o.c1,(c 2).trans HV.o.c2,(c 3).trans HV.o.c3,(c 4).trans HV.o.c4⟩,HRD.o.below hb⟩
 go_cut [] (fun wx=>Hid (zU wx I (qM a.fs (List.replicate N false)))/\Hid (W1.grownBy wx (some I)))
 case first=>
  go_wp2_with fail
  go_loopw [4] (fun s4 wr=>∃k:Nat,k<=a.fs.length/\s4=(k:Int)/\Hid (zU wr I (qM (a.fs.take k) (List.replicate N false)))/\Hid (W1.grownBy wr (some I))) (fun s4 _=>a.fs.length-(intOf s4).toNat)
  case atStart=>exact⟨0,Nat.zero_le _,rfl,HI0.o,World.grownBy.refl _ _⟩
  obtain⟨k,hk,rfl,HM,HG⟩:=hrel;obtain⟨hV1,hRR⟩:=HK.o wr HG.o;have hF1:=hRR.fs;clear hRR;obtain⟨_,c0,c1,c2,c3,c4⟩:=hV1;have hca:=hF1.le;have hfl3:a.fs.length<=300:=by have:=HFL.o;have:=HN.o;omega
  by_cases hkl:k<a.fs.length
  ·have q1:(k:Int)<(a.fs.length:Int):=by omega
   obtain⟨b,off,rfl,_,_,y0⟩:=zE.at_ hF1 hkl;have hfx:=HO.o.fr _ (List.getElem_mem hkl)
   have HST:Hid (qM (a.fs.take (k+1)) (List.replicate N false)=(qM (a.fs.take k) (List.replicate N false)).set (a.fs[k]).toNat true):=by
    show _=_;rw[List.take_succ_eq_append_getElem hkl,aI]
   obtain⟨x,hx⟩:∃x,x=a.fs[k]:=⟨_,rfl⟩;rw[<-hx] at y0 hfx HST;clear hx;obtain⟨x,rfl⟩:=Int.eq_ofNat_of_zero_le hfx.1;rw[Int.toNat_natCast] at HST;have hxN:(x:Int)<(N:Int):=by have:=HN.o;omega
   obtain⟨z1,z2⟩:=HM.o.getD_ (i:=x) (by rw[pA,List.length_replicate];omega) false
   have O:=hId (HM.o.set_ x true);rw[<-HST.o] at O;have HG2:=hId (zO HG.o (yQ wr I x (.bool true)));clear hfx hF1
   go_wp2_with fail
   go_roundw
   case rel=>exact⟨k+1,by omega,by go_num,O.o,HG2.o⟩
   case measure=>simp[intOf];omega
  have q1:¬(k:Int)<(a.fs.length:Int):=by omega
  have hkk:a.fs.take k=a.fs:=List.take_of_length_le (by omega)
  rw[hkk] at HM;clear hF1 hkk
  go_wp2_with fail
  go_meet
  exact⟨HM.o,HG.o⟩
 obtain⟨HM0,HG0⟩:=hcut
 go_upto_block 2 with fail
 go_cut [] (fun wx=>∃d,Hid (zU wx I d)/\Hid (W1.grownBy wx (some I))/\Hid (nK a d))
 case first=>
  go_wp2_with fail
  go_loopg [5,6] (N+2) (fun g s5 _ wr=>∃(c:Bool) (xs:List Bool),s5=.bool c/\Hid (zU wr I xs)/\Hid (W1.grownBy wr (some I))/\Hid (TrI a N xs)/\Hid (c=false->∀s∈a.ss,kp xs s.f=true->kp xs s.t=true)/\Hid (xs.count false+(if c=true then 1 else 0)<=g))
  case atStart=>
   have ht:=TrI.start HO.o HN.o.symm
   exact⟨true,_,rfl,HM0.o,HG0.o,ht,(fun h=>(by cases h)),by show _+_<=_;have:=List.count_le_length (a:=false) (l:=qM a.fs (List.replicate N false));rw[ht.len] at this;simp;omega⟩
  obtain⟨c,xs,rfl,HM,HG,HT,HC,HGG⟩:=hrel
  cases c with
  |false=>
   go_wp2_with fail
   go_meet
   exact⟨xs,HM.o,HG.o,HT.o.done HO.o HN.o.symm (HC.o (by first|rfl|trivial))⟩
  |true=>
   go_wp2_with fail
   go_loopw [5,6] (fun s5 s6 wr=>∃(c2:Bool) (i:Nat) (ys:List Bool),s5=.bool c2/\s6=(i:Int)/\i<=a.ss.length/\Hid (zU wr I ys)/\Hid (W1.grownBy wr (some I))/\Hid (TrI a N ys)/\Hid (c2=true->ys.count false<xs.count false)/\Hid (c2=false->ys=xs/\∀j,j<i->(hj:j<a.ss.length)->kp xs a.ss[j].f=true->kp xs a.ss[j].t=true)) (fun _ s6 _=>a.ss.length-(intOf s6).toNat)
   case atStart=>exact⟨false,0,xs,rfl,rfl,Nat.zero_le _,HM.o,HG.o,HT.o,(fun h=>(by cases h)),fun _=>⟨rfl,fun j h=>absurd h (by omega)⟩⟩
   obtain⟨c2,i,ys,rfl,rfl,hi,HMy,HGy,HTy,HD,HE⟩:=hrel;obtain⟨hV1,hRR⟩:=HK.o wr HGy.o;have hS1:=hRR.ss;clear hRR;obtain⟨_,c0,c1,c2',c3,c4⟩:=hV1;have hcl:=hS1.le;have hsl:=HO.o.sl
   by_cases hil:i<a.ss.length
   ·have q1:(i:Int)<(a.ss.length:Int):=by omega
    obtain⟨b,off,rfl,_,_,y0,y1,y2⟩:=jZ.at_ hS1 hil;have U:=HO.o.sr _ (List.getElem_mem hil);have HMEM:=hId (List.getElem_mem hil);obtain⟨f,hf⟩:=Int.eq_ofNat_of_zero_le U.1.1
    obtain⟨t,ht⟩:=Int.eq_ofNat_of_zero_le U.2.1.1;have hfN:f<N:=by have:=HN.o;omega
    have htN:t<N:=by have:=HN.o;omega
    have hfN':(f:Int)<(N:Int):=by omega
    have htN':(t:Int)<(N:Int):=by omega
    rw[hf] at y0;rw[ht] at y2;obtain⟨z1,z2⟩:=HMy.o.getD_ (i:=f) (by rw[HTy.o.len];exact hfN) false
    obtain⟨u1,u2⟩:=HMy.o.getD_ (i:=t) (by rw[HTy.o.len];exact htN) false
    have HF:Hid (kp ys a.ss[i].f=ys.getD f false):=by show _=_;unfold kp;rw[hf];rfl
    have HTT:Hid (kp ys a.ss[i].t=ys.getD t false):=by show _=_;unfold kp;rw[ht];rfl
    have HTE:Hid (a.ss[i].t.toNat=t):=by show _=_;rw[ht];rfl
    have HX:=hId hil
    have HSK:Hid (¬ (kp ys a.ss[i].f=true/\kp ys a.ss[i].t=false)->(c2=false->ys=xs/\∀j,j<i+1->(hj:j<a.ss.length)->kp xs a.ss[j].f=true->kp xs a.ss[j].t=true)):=fun hn hc=>by
     obtain⟨e,hh⟩:=HE.o hc;refine⟨e,fun j hj hjl hk=>?_⟩
     rcases Nat.lt_or_ge j i with h1|h1
     ·exact hh j h1 hjl hk
     obtain rfl:j=i:=by omega
     rw[<-e] at hk ⊢
     cases hx:kp ys a.ss[j].t with
     |true=>rfl
     |false=>exact absurd ⟨hk,hx⟩ hn
    clear U hf ht hS1 y1
    cases hkf:ys.getD f false with
    |false=>
     rw[hkf] at z1;have HE2:=hId (HSK.o (fun h=>by have e:=HF.o.symm.trans h.1;rw[hkf] at e;cases e))
     clear hkf HSK
     go_wp2_with fail
     go_roundw
     case rel=>exact⟨c2,i+1,ys,rfl,by go_num,HX.o,HMy.o,HGy.o,HTy.o,HD.o,HE2.o⟩
     case measure=>simp[intOf];have:=HX.o;omega
    |true=>
     rw[hkf] at z1
     cases hkt:ys.getD t false with
     |true=>
      rw[hkt] at u1;have HE2:=hId (HSK.o (fun h=>by have e:=HTT.o.symm.trans h.2;rw[hkt] at e;cases e))
      clear hkf hkt HSK
      go_wp2_with fail
      go_roundw
      case rel=>exact⟨c2,i+1,ys,rfl,by go_num,HX.o,HMy.o,HGy.o,HTy.o,HD.o,HE2.o⟩
      case measure=>simp[intOf];have:=HX.o;omega
     |false=>
      rw[hkt] at u1;have HT2:=hId (HTy.o.set HO.o HN.o.symm HMEM.o (by rw[HF.o,hkf]))
      rw[HTE.o] at HT2;have O:=hId (HMy.o.set_ t true);have HG2:=hId (zO HGy.o (yQ wr I t (.bool true)))
      have HCN:Hid ((ys.set t true).count false<xs.count false):=by
       have h1:=lT (out:=ys) (i:=t) (by rw[HTy.o.len];exact htN) hkt
       show _<_
       cases hc:c2 with
       |true=>have:=HD.o hc;omega
       |false=>have e:=(HE.o hc).1;rw[e] at h1 ⊢;omega
      clear hkf hkt HSK
      go_wp2_with fail
      go_roundw
      case rel=>exact⟨true,i+1,ys.set t true,rfl,by go_num,HX.o,O.o,HG2.o,HT2.o,fun _=>HCN.o,fun h=>(by cases h)⟩
      case measure=>simp[intOf];have:=HX.o;omega
   have q1:¬(i:Int)<(a.ss.length:Int):=by omega
   have HCL:Hid (c2=false->∀s∈a.ss,kp ys s.f=true->kp ys s.t=true):=fun hc s hs hk=>by
    obtain⟨e,hh⟩:=HE.o hc;obtain⟨j,hj,rfl⟩:=List.getElem_of_mem hs;rw[e] at hk ⊢;exact hh j (by omega) hj hk
   have HLT:Hid (ys.count false+(if c2=true then 1 else 0)<xs.count false+1):=by
    show _<_
    cases hc:c2 with
    |true=>have:=HD.o hc;simp;omega
    |false=>have e:=(HE.o hc).1;rw[e];simp
   have hgg:xs.count false+1<=_:=HGG.o
   have hlt:ys.count false+(if c2=true then 1 else 0)<xs.count false+1:=HLT.o
   have HLL:=hId hlt;clear hS1 hlt
   go_wp2_with fail
   go_roundg (ys.count false+(if c2=true then 1 else 0))
   case measure=>have:=HLL.o;omega
   case rel=>exact⟨c2,ys,rfl,HMy.o,HGy.o,HTy.o,HCL.o,nLe⟩
 obtain⟨d,HM1,HG1,HRCH⟩:=hcut;clear HM0 HG0;obtain⟨hV1,hRx⟩:=HK.o _ HG1.o;have HLEN:Hid (d.length=N):=by show _=_;have:=HRCH.o.len;have:=HN.o;omega
 have HTV:Hid (yW a=qD a d):=zA8 HCK.o HRCH.o
 have HFST:Hid (∀ q∈a.fs,kp d q=true):=fun q hq=>(HRCH.o.iff q (HO.o.fr q hq).1 (HO.o.fr q hq).2).2 (.first hq)
 have HVx:=hId hV1;have HOBx:Hid (wc.heap[V+1]?=some (.cells #[(0:Int),(0:Int),(),(),()] 31 (0,0))):=(HG1.o.block (V+1) (by omega) (by simp;omega)).trans HOB.o
 have HBx:Hid (Below w w wc):=HB1.o.grown HG1.o HB1.o.size (fun k hk=>by have:=HVV.o;simp at hk;omega)
 have hszx:I+1<=wc.heap.size:=by have:=HG1.o.size;omega
 obtain⟨_,c0,c1,c2,c3,c4⟩:=hV1;clear hRx HK HG1 HRCH HI0 HB1 HOB HV hsz1;generalize wc=wB at *;obtain⟨G,hG⟩:∃G,G=wB.heap.size:=⟨_,rfl⟩
 go_upto_block 6 with fail
 rw[<-hG];clear c0 c1 c2 c3 c4 hmi
 have hbc:Below G wB ((wB.alloc (.cells #[(0:Int),a.le,(),(),()] 31)).alloc (.cells (madeCells #[Value.int .i64 0] N) 3)):=by rw[hG];exact(bLa).alloc (by simp) _
 have HM0:Hid (TfM ((wB.alloc (.cells #[(0:Int),a.le,(),(),()] 31)).alloc (.cells (madeCells #[Value.int .i64 0] N) 3)) (G+1) G (G+2) (xS d N 0) (pos d 0:Nat) a.le [] (zY a.gs d 0) [] () () () ((wB.alloc (.cells #[(0:Int),a.le,(),(),()] 31)).alloc (.cells (madeCells #[Value.int .i64 0] N) 3))):=by
  have h1:=vU.new (wB.alloc (.cells #[(0:Int),a.le,(),(),()] 31)) N
  rw[show(wB.alloc (.cells #[(0:Int),a.le,(),(),()] 31)).heap.size=G+1 by rw[hG];simp] at h1
  refine⟨Far.refl _ _ _,by omega,by omega,by omega,?_,⟨by simp[hG],?_,World.ownsRow_nil _ _ _ _,World.ownsRow_nil _ _ _ _,World.ownsRow_nil _ _ _ _⟩⟩
  ·rw[zCo];exact h1
  rw[Below.heap_alloc _ _ _ (by simp;omega),hG]
  show(wB.heap.push _)[wB.heap.size]?=_
  simp[pos]
 have HVy:=hId (HVx.o.below hbc (by omega))
 have HOBy:=hId ((hbc.block (V+1) (by omega)).trans HOBx.o)
 have HINN:=hId (HM1.o.below hbc (by omega))
 have HBy:Hid (Below w w ((wB.alloc (.cells #[(0:Int),a.le,(),(),()] 31)).alloc (.cells (madeCells #[Value.int .i64 0] N) 3))):=HBx.o.trans (hbc.mono (by rw[hG];exact HBx.o.size))
 have hwG:w.heap.size<=G:=by rw[hG];exact HBx.o.size
 have hVG:V+1<G/\I<G:=by omega
 obtain⟨hVG,hIG⟩:=hVG;clear HVx HOBx HM1 HBx hbc hG hszx;generalize (wB.alloc (.cells #[(0:Int),a.le,(),(),()] 31)).alloc (.cells (madeCells #[Value.int .i64 0] N) 3)=W3 at *
 have HVW:Hid (∀ W,Far (G+2) [G+1,G] W3 W->yG W V a A B C ca cb cc):=fun W h=>h.au HVy.o (by omega) (by simp;omega)
 have HIW:Hid (∀ W,Far (G+2) [G+1,G] W3 W->zU W I d):=fun W h=>h.blk (by omega) (by simp;omega) HINN.o
 have HBW:Hid (∀ W,Far (G+2) [G+1,G] W3 W->Below w w W):=fun W h=>HBy.o.trans (h.to (B:=w.heap.size) (by omega) (by simp;omega))
 have HRW:Hid (∀ W,Far (G+2) [G+1,G] W3 W->zM W 0 a A B C ca cb cc):=fun W h=>HRD.o.below (HBW.o W h)
 have HOW:Hid (∀ W,Far (G+2) [G+1,G] W3 W->W.heap[V+1]?=some (.cells #[(0:Int),(0:Int),(),(),()] 31 (0,0))):=fun W h=>h.blk (by omega) (by simp;omega) HOBy.o
 clear HVy HOBy HINN HBy
 go_cut [] (fun wx=>∃gv,Hid (TfM W3 (G+1) G (G+2) (xS d N N) (pos d N:Nat) a.le [] (zY a.gs d N) [] () gv () wx))
 case first=>
  go_wp2_with fail
  go_loopw [9] (fun i wr=>∃(k:Nat) (gv:Value),k<=N/\i=(k:Int)/\Hid (TfM W3 (G+1) G (G+2) (xS d N k) (pos d k:Nat) a.le [] (zY a.gs d k) [] () gv () wr)) (fun i _=>N-(intOf i).toNat)
  case atStart=>exact⟨0,_,Nat.zero_le _,rfl,HM0.o⟩
  obtain⟨k,gv,hk,rfl,HM⟩:=hrel;clear HM0;obtain⟨_,v0,v1,v2,v3,v4⟩:=HVW.o _ HM.o.far
  by_cases hkN:k<N
  ·have q1:(k:Int)<a.st:=by have:=HN.o;omega
   have q2:(k:Int)<(N:Int):=by omega
   obtain⟨y0,-⟩:=(HIW.o _ HM.o.far).getD_ (i:=k) (by rw[HLEN.o];exact hkN) false
   have hpk:pos d k<=300:=by
    have:pos d k<=k:=by unfold pos;exact Nat.le_trans (List.count_le_length ..) (by simp;omega)
    omega
   have HPS:=hId (sM (keep:=d) (i:=k) (by rw[HLEN.o];exact hkN))
   have HGS:=hId (bG a.gs d k);have HGLN:Hid ((zY a.gs d k).length=pos d k):=fJ (by rw[HLEN.o];omega)
   have HX:=hId hkN
   cases hkv:d.getD k false with
   |false=>
    rw[hkv] at y0;have hp1:pos d (k+1)=pos d k:=by rw[HPS.o,hkv];rfl
    have hg1:zY a.gs d (k+1)=zY a.gs d k:=by rw[HGS.o,hkv];simp
    have HMR:Hid (TfM W3 (G+1) G (G+2) (xS d N (k+1)) (pos d (k+1):Nat) a.le [] (zY a.gs d (k+1)) [] () gv () wr):=by unfold Hid;rw[hp1,hg1,zCH d hkv];exact HM.o
    clear hkv hp1 hg1 HM;generalize pos d k=p at *
    go_wp2_with fail
    go_roundw
    case rel=>exact⟨k+1,gv,HX.o,by go_num,HMR.o⟩
    case measure=>simp[intOf];omega
   |true=>
    rw[hkv] at y0;have hp1:pos d (k+1)=pos d k+1:=by rw[HPS.o,hkv];rfl
    have hg1:zY a.gs d (k+1)=zY a.gs d k++[a.gs.getD k false]:=by rw[HGS.o,hkv];simp
    obtain⟨g0,g1,g2,g3,g4,gf0,gf1,gf2,gf3,gf4⟩:=zZ HM.o.au.obj;obtain⟨z1,z2⟩:=HM.o.row.getD_ (i:=k) (by rw[aR];exact hkN)
    have O:=hId (HM.o.put k (pos d k:Nat));rw[zDl d hkv] at O;have HM3:=hId (O.o.states ((pos d k:Nat)+1));obtain⟨G0,-,-,-,-,Gf0,-,-,-,-⟩:=zZ O.o.au.obj
    go_upto_region 22 with fail
    clear g0 g1 g2 g3 g4 gf0 gf1 gf2 gf3 gf4 z1 z2 HM v0 v1 v2 v3 v4 y0;generalize wr.setCell ⟨G+1,k,none⟩ (.int .i64 ((pos d k:Nat):Int))=W2 at *
    go_upto_region 23 with fail
    clear G0 Gf0 O hkv;generalize W2.setCell ⟨G,0,none⟩ (.int .i64 (((pos d k:Nat):Int)+1))=W4 at *;have hdw:Below W4 W4 W4.drew:=bRf.drew;have J:=hId (HM3.o.on hdw)
    obtain⟨T,c,rfl,hlc,hcm,T3,c3,w5,hrun,q4,f4,-,hAU⟩:=J.o.au.appG (a.gs.getD k false) (by rw[HGLN.o];omega)
    have HM5:=hId (J.o.step hAU);obtain⟨gb,go_,hB,_,_,z0⟩:=xG.at_ (HRW.o _ J.o.far).gs (k:=k) (by have:=HO.o.gl;have:=HN.o;omega)
    have hkg:a.gs[k]'(by have:=HO.o.gl;have:=HN.o;omega)=a.gs.getD k false:=by rw[List.getD_eq_getElem?_getD,List.getElem?_eq_getElem];rfl
    rw[hkg] at z0;subst hB;have q5:(k:Int)<(a.gs.length:Int):=by have:=HO.o.gl;have:=HN.o;omega
    obtain⟨g0,g1,g2,g3,g4,gf0,gf1,gf2,gf3,gf4⟩:=zZ J.o.au.obj;have hGl:G<W4.heap.size:=J.o.au.lt
    have hb6:Below W4 W4 (W4.alloc (.cells #[.bool (a.gs.getD k false)] 4)).drew:=((Below.refl _ W4).alloc nLe _).drew
    have g3':(W4.alloc (.cells #[.bool (a.gs.getD k false)] 4)).drew.cell? ⟨G,3,none⟩=some (.slice T (zY a.gs d k).length c):=(hb6.cell (p:=⟨G,3,none⟩) hGl).trans g3
    obtain⟨_,v0,v1,v2,v3,v4⟩:=HVW.o _ J.o.far
    have HRUN:Hid ((Builtin.append_ #[28,28] 28 #[.slice T (zY a.gs d k).length c,.slice (some ⟨W4,0,none⟩) 1 1]).run Tryz.prog (W4.alloc (.cells #[.bool (a.gs.getD k false)] 4)).drew=.ok (.slice T3 ((zY a.gs d k).length+1) c3) w5):=hrun
    have HMR:Hid (TfM W3 (G+1) G (G+2) (xS d N (k+1)) (pos d (k+1):Nat) a.le [] (zY a.gs d (k+1)) [] () (.slice T3 ((zY a.gs d k).length+1) c3) () (w5.setCell ⟨G,3,none⟩ (.slice T3 ((zY a.gs d k).length+1) c3))):=by unfold Hid;rw[hp1,hg1];exact HM5.o
    clear g0 g1 g2 g4 gf0 gf1 gf2 gf3 gf4 v0 v1 v2 v4 hrun hAU hp1 hg1 hkg hb6 hdw J HM3 HM5 HGLN HPS HGS;generalize (zY a.gs d k).length=gn at *;generalize a.gs.getD k false=gk at *
    go_region_law ((refine wM rfl (.tmp 93) (.tmp 99) _ _ rfl (.slice T gn c) (.slice (some ⟨W4,0,none⟩) 1 1) (.slice T3 (gn+1) c3) (by go_simp) (by go_simp) HRUN.o ?_))
    all_goals
     have HMR2:=hId HMR.o;go_simp
     go_wp2_with fail
     go_roundw
     case rel=>exact⟨k+1,_,HX.o,by go_num,HMR2.o⟩
     case measure=>simp[intOf];omega
  have q1:¬(k:Int)<a.st:=by have:=HN.o;omega
  obtain rfl:k=N:=by omega
  go_wp2_with fail
  go_meet
  exact⟨gv,HM.o⟩
 obtain⟨gv,HM1⟩:=hcut;clear HM0;obtain⟨_,v0,v1,v2,v3,v4⟩:=HVW.o _ HM1.o.far;obtain⟨g0,g1,g2,g3,g4,gf0,gf1,gf2,gf3,gf4⟩:=zZ HM1.o.au.obj
 by_cases hp:pos d N=0
 ·have e1:(((pos d N:Nat):Int)==0)=true:=by simp[hp]
  have hba:Below wc wc (wc.alloc (.cells #[false] 4)):=bLa
  have hM2:=HM1.o.on hba;obtain⟨r0,r1,r2,r3,r4,rf0,rf1,rf2,rf3,rf4⟩:=zZ (HOW.o _ hM2.far);have hmade:qD a d=⟨1,a.le,[],[false],[]⟩:=by unfold qD;rw[if_pos (by rw[HN.o];exact hp)]
  have hwz:=hM2.au.sz
  have hrd:zM (wc.alloc (.cells #[false] 4)) (V+1+1) ⟨1,a.le,[],[false],[]⟩ none (some ⟨wc,0,none⟩) none 0 1 0:=by
   refine⟨⟨nLe,by omega,by simp,Rd.nil,Fz.no⟩,⟨by simp,by omega,by simp,fun _=>⟨wc.heap.size,0,rfl,by have:=HM1.o.au.sz;omega,by simp,fun j u hu=>?_⟩,fun _ b off hA j _=>by injection hA with hA;injection hA with e1 e2;subst e1;have h9:(wc.alloc (.cells #[false] 4)).heap[wc.heap.size]?=some (.cells #[false] 4):=(by show(wc.heap.push _)[wc.heap.size]?=_;simp);unfold World.frozen?;dsimp only;rw[h9];simp⟩,⟨nLe,by omega,by simp,Rd.nil,Fz.no⟩⟩
   have h:(wc.alloc (.cells #[false] 4)).heap[wc.heap.size]?=some (.cells #[false] 4):=by
    show(wc.heap.push _)[wc.heap.size]?=_
    simp
   simp only[World.cell?,h,Nat.zero_add]
   simpa using hu
  have HP:Hid (rO w (yW a) (.returned (.agg #[(1:Int),a.le,(),.slice (some ⟨wc,0,none⟩) 1 1,()])) (set5 (wc.alloc (.cells #[false] 4)) (V+1) (.int .i64 1) a.le () (.slice (some ⟨wc,0,none⟩) 1 1) ())):=by
   rw[HTV.o,hmade];exact⟨none,some ⟨wc,0,none⟩,none,0,1,0,rfl,(hrd.set5_ (Nat.lt_succ_self _) _ _ _ _ _).low (by have:=HVV.o;omega),zS (HBW.o _ hM2.far) (by have:=HVV.o;omega) _ _ _ _ _⟩
  have HOO:=hId (zW (HOW.o _ hM2.far) (.int .i64 1) a.le () (.slice (some ⟨wc,0,none⟩) 1 1) ());clear hp hba hM2 hmade hrd hwz
  go_wp2_with fail
  exact bodyPost_ret (zF2 Tryz.results19 _ _ (V+1) rfl HOO.o) rfl HP.o
 have e1:(((pos d N:Nat):Int)==0)=false:=by simp;omega
 have hmade:qD a d=⟨(pos d N:Nat),a.le,yF a d a.fs.length,zY a.gs d N,yD a d a.ss.length⟩:=by
  unfold qD;rw[HN.o,Int.toNat_natCast,if_neg hp]
 have HMD:=hId hmade;have HPN:=hId hp;clear hp hmade
 have HTL:Hid (∀ q:Int,0<=q->q<a.st->kp d q=true->∀W,vU W (G+1) (xS d N N)->W.cell? ⟨G+1,q.toNat,none⟩=some (.int .i64 (xI d q))/\W.frozen? ⟨G+1,q.toNat,none⟩=false):=fun q h0 h1 hk W hW=>by
  have hq:q.toNat<N:=by have:=HN.o;omega
  have h:=hW.getD_ (i:=q.toNat) (by rw[aR];exact hq)
  rw[zCZ d hq hk] at h;exact h
 have HKQ:Hid (∀ q:Int,0<=q->q<a.st->∀W,Far (G+2) [G+1,G] W3 W->W.cell? ⟨I,q.toNat,none⟩=some (.bool (kp d q))):=fun q h0 h1 W hW=>
  ((HIW.o W hW).getD_ (i:=q.toNat) (by rw[HLEN.o];have:=HN.o;omega) false).1
 go_upto_block 8 with fail
 clear v0 v1 v2 v3 v4 g0 g1 g2 g3 g4 gf0 gf1 gf2 gf3 gf4 e1
 go_cut [] (fun wx=>∃fv,Hid (TfM W3 (G+1) G (G+2) (xS d N N) (pos d N:Nat) a.le (yF a d a.fs.length) (zY a.gs d N) [] fv gv () wx))
 case first=>
  go_wp2_with fail
  go_loopw [10] (fun i wr=>∃(k:Nat) (fv:Value),k<=a.fs.length/\i=(k:Int)/\Hid (TfM W3 (G+1) G (G+2) (xS d N N) (pos d N:Nat) a.le (yF a d k) (zY a.gs d N) [] fv gv () wr)) (fun i _=>a.fs.length-(intOf i).toNat)
  case atStart=>exact⟨0,_,Nat.zero_le _,rfl,HM1.o⟩
  obtain⟨k,fv,hk,rfl,HM⟩:=hrel;clear HM1;obtain⟨_,v0,v1,v2,v3,v4⟩:=HVW.o _ HM.o.far;have hrdf:=(HRW.o _ HM.o.far).fs;have hca:=hrdf.le;have hfl3:a.fs.length<=300:=by have:=HFL.o;have:=HN.o;omega
  by_cases hkN:k<a.fs.length
  ·have q1:(k:Int)<(a.fs.length:Int):=by omega
   obtain⟨fb,fo,hA,_,_,x0⟩:=zE.at_ hrdf hkN;have hfr:=HO.o.fr _ (List.getElem_mem hkN);have hkq:=HFST.o _ (List.getElem_mem hkN);have HKS:=hId (iL a d hkN)
   have hfl2:(yF a d k).length<=300:=by
    unfold yF;rw[List.length_map];have:=List.length_filter_le (kp d) (a.fs.take k);have:=List.length_take_le k a.fs;omega
   obtain⟨q,hq⟩:∃q,q=a.fs[k]:=⟨_,rfl⟩;have HQE:=hId hq;rw[<-hq] at x0 hfr HKS hkq;clear hq hrdf;have hTL:=HTL.o q hfr.1 hfr.2 hkq;have HTQ:=hId hTL;obtain⟨n,rfl⟩:=Int.eq_ofNat_of_zero_le hfr.1
   rw[Int.toNat_natCast] at HTQ;subst hA;have q4:(n:Int)<(N:Int):=by have:=HN.o;omega
   have HX:=hId hkN;have hg1:yF a d (k+1)=yF a d k++[xI d n]:=by rw[HKS.o,hkq];simp
   clear hTL hfr hkq HKS
   go_upto_region 29 with fail
   clear v0 v1 v2 v3 v4 x0;have hdw:Below wr wr wr.drew:=bRf.drew;have J:=hId (HM.o.on hdw);obtain⟨T,c,rfl,hlc,hcm,T3,c3,w5,hrun,p4,f4,-,hAU⟩:=J.o.au.appF (xI d n) (by omega)
   have HM5:=hId (J.o.step hAU);obtain⟨z0,_⟩:=HTQ.o _ J.o.row;obtain⟨fb2,fo2,hA,_,_,x0⟩:=zE.at_ (HRW.o _ J.o.far).fs hkN;obtain⟨rfl,rfl⟩:fb=fb2/\fo=fo2:=by simpa using hA
   rw[<-HQE.o] at x0;obtain⟨_,v0,v1,v2,v3,v4⟩:=HVW.o _ J.o.far;obtain⟨g0,g1,g2,g3,g4,gf0,gf1,gf2,gf3,gf4⟩:=zZ J.o.au.obj;have hGl:G<wr.heap.size:=J.o.au.lt
   have hb6:Below wr wr (wr.alloc (.cells #[(xI d n)] 3)).drew:=((Below.refl _ wr).alloc nLe _).drew
   have g2':(wr.alloc (.cells #[(xI d n)] 3)).drew.cell? ⟨G,2,none⟩=some (.slice T (yF a d k).length c):=(hb6.cell (p:=⟨G,2,none⟩) hGl).trans g2
   have HRUN:Hid ((Builtin.append_ #[22,22] 22 #[.slice T (yF a d k).length c,.slice (some ⟨wr,0,none⟩) 1 1]).run Tryz.prog (wr.alloc (.cells #[(xI d n)] 3)).drew=.ok (.slice T3 ((yF a d k).length+1) c3) w5):=hrun
   have HMR:Hid (TfM W3 (G+1) G (G+2) (xS d N N) (pos d N:Nat) a.le (yF a d (k+1)) (zY a.gs d N) [] (.slice T3 ((yF a d k).length+1) c3) gv () (w5.setCell ⟨G,2,none⟩ (.slice T3 ((yF a d k).length+1) c3))):=by unfold Hid;rw[hg1];exact HM5.o
   clear g0 g1 g3 g4 gf0 gf1 gf2 gf3 gf4 v0 v1 v3 v4 hrun hAU hg1 hb6 hdw J HM5 hA HM;generalize (yF a d k).length=gn at *;generalize xI d (n:Int)=gk at *
   go_region_law ((refine wM rfl (.tmp 117) (.tmp 126) _ _ rfl (.slice T gn c) (.slice (some ⟨wr,0,none⟩) 1 1) (.slice T3 (gn+1) c3) (by go_simp) (by go_simp) HRUN.o ?_))
   all_goals
    have HMR2:=hId HMR.o;go_simp
    go_wp2_with fail
    go_roundw
    case rel=>exact⟨k+1,_,HX.o,by go_num,HMR2.o⟩
    case measure=>simp[intOf];omega
  have q1:¬(k:Int)<(a.fs.length:Int):=by omega
  obtain rfl:k=a.fs.length:=by omega
  go_wp2_with fail
  go_meet
  exact⟨fv,HM.o⟩
 obtain⟨fv,O⟩:=hcut;clear HM1;obtain⟨_,v0,v1,v2,v3,v4⟩:=HVW.o _ O.o.far
 go_upto_block 10 with fail
 clear v0 v1 v2 v3 v4
 go_cut [] (fun wx=>∃sv,Hid (TfM W3 (G+1) G (G+2) (xS d N N) (pos d N:Nat) a.le (yF a d a.fs.length) (zY a.gs d N) (yD a d a.ss.length) fv gv sv wx))
 case first=>
  have hsl:=HO.o.sl
  go_wp2_with fail
  go_loopw [11,12] (fun i _ wr=>∃(k:Nat) (sv:Value),k<=a.ss.length/\i=(k:Int)/\Hid (TfM W3 (G+1) G (G+2) (xS d N N) (pos d N:Nat) a.le (yF a d a.fs.length) (zY a.gs d N) (yD a d k) fv gv sv wr)) (fun i _ _=>a.ss.length-(intOf i).toNat)
  case atStart=>exact⟨0,_,Nat.zero_le _,rfl,O.o⟩
  obtain⟨k,sv,hk,rfl,HM⟩:=hrel;clear O;obtain⟨_,v0,v1,v2,v3,v4⟩:=HVW.o _ HM.o.far;have hrds:=(HRW.o _ HM.o.far).ss;have hca:=hrds.le
  by_cases hkN:k<a.ss.length
  ·have q1:(k:Int)<(a.ss.length:Int):=by omega
   obtain⟨sb,so,hC,_,_,x0,x1,x2⟩:=jZ.at_ hrds hkN;have U:=HO.o.sr _ (List.getElem_mem hkN);have HKS:=hId (eQ a d hkN)
   have hfl2:(yD a d k).length<=6000:=by
    unfold yD;rw[List.length_map];have:=List.length_filter_le (fun s=>kp d s.f&&kp d s.t) (a.ss.take k)
    have:=List.length_take_le k a.ss;omega
   obtain⟨s,hs⟩:∃s,s=a.ss[k]:=⟨_,rfl⟩;rw[<-hs] at x0 x1 x2 U HKS;clear hs hrds;obtain⟨sf,sl,st⟩:=s;simp only at x0 x1 x2 U HKS
   have hba:Below wr wr (wr.alloc (.cells #[sf,sl,st] 80)):=bLa
   have O:=hId (HM.o.on hba);have hS0:(wr.alloc (.cells #[sf,sl,st] 80)).cell? ⟨wr,0,none⟩=some (.int .i64 sf):=by go_simp
   have hS1:(wr.alloc (.cells #[sf,sl,st] 80)).cell? ⟨wr.heap.size,1,none⟩=some (.int .i64 sl):=by go_simp
   have hS2:(wr.alloc (.cells #[sf,sl,st] 80)).cell? ⟨wr.heap.size,2,none⟩=some (.int .i64 st):=by go_simp
   have hSl:wr.heap.size<(wr.alloc (.cells #[sf,sl,st] 80)).heap.size:=by simp
   subst hC
   go_upto_region 34 with fail
   obtain⟨S,hSS⟩:∃S,S=wr.heap.size:=⟨_,rfl⟩;rw[<-hSS] at hS0 hS1 hS2 hSl ⊢;generalize wr.alloc (.cells #[sf,sl,st] 80)=W2 at *
   have hSV:some S≠sv.ownBlock:=fun e=>by have:=(HM.o.au.s.lt S e.symm).2;omega
   have hSt:G+1<S:=by have:=HM.o.row.lt;omega
   clear hSS hba HM x0 x1 x2 v0 v1 v2 v3 v4;have y0:=HKQ.o sf U.1.1 U.1.2 W2 O.o.far;have y1:=HKQ.o st U.2.1.1 U.2.1.2 W2 O.o.far;have HTF:=hId (HTL.o sf U.1.1 U.1.2);have HTT:=hId (HTL.o st U.2.1.1 U.2.1.2)
   obtain⟨nf,rfl⟩:=Int.eq_ofNat_of_zero_le U.1.1;obtain⟨nt,rfl⟩:=Int.eq_ofNat_of_zero_le U.2.1.1;rw[Int.toNat_natCast] at y0 y1 HTF HTT;have q4:(nf:Int)<(N:Int):=by have:=HN.o;omega
   have q6:(nt:Int)<(N:Int):=by have:=HN.o;omega
   have HX:=hId hkN;clear U
   have HNO:Hid ((kp d (nf:Int)&&kp d (nt:Int))=false->TfM W3 (G+1) G (G+2) (xS d N N) (pos d N:Nat) a.le (yF a d a.fs.length) (zY a.gs d N) (yD a d (k+1)) fv gv sv W2):=fun h=>by
    have hg1:yD a d (k+1)=yD a d k:=by rw[HKS.o,h];simp
    rw[hg1];exact O.o
   cases hkv:kp d (nf:Int) with
   |false=>
    rw[hkv] at y0;have HMR:=hId (HNO.o (by rw[hkv];rfl))
    clear hkv HNO y1 hS1 hS2
    go_wp2_with fail
    go_roundw
    case rel=>exact⟨k+1,sv,HX.o,by go_num,HMR.o⟩
    case measure=>simp[intOf];omega
   |true=>
    rw[hkv] at y0
    cases hkw:kp d (nt:Int) with
    |false=>
     rw[hkw] at y1;have HMR:=hId (HNO.o (by rw[hkv,hkw];rfl))
     clear hkv hkw HNO hS1
     go_wp2_with fail
     go_roundw
     case rel=>exact⟨k+1,sv,HX.o,by go_num,HMR.o⟩
     case measure=>simp[intOf];omega
    |true=>
     rw[hkw] at y1;have hg1:yD a d (k+1)=yD a d k++[⟨xI d nf,sl,xI d nt⟩]:=by rw[HKS.o,hkv,hkw];rfl
     have HTF2:=hId (HTF.o hkv);have HTT2:=hId (HTT.o hkw)
     go_upto_region 35 with fail
     clear y0 y1 hkv hkw HNO HTF HTT;have hdw:Below W2 W2 W2.drew:=bRf.drew;have J:=hId (O.o.on hdw);obtain⟨T,c,rfl,hlc,hcm,T3,c3,w5,hrun,p4,f4,hgr,hAU⟩:=J.o.au.appS ⟨xI d nf,sl,xI d nt⟩ (by omega)
     have HM5:=hId (J.o.step hAU);obtain⟨z0,_⟩:=HTF2.o _ J.o.row;obtain⟨z1,_⟩:=HTT2.o _ J.o.row;obtain⟨g0,g1,g2,g3,g4,gf0,gf1,gf2,gf3,gf4⟩:=zZ J.o.au.obj;have hGl:G<W2.heap.size:=J.o.au.lt
     have hb6:Below W2 W2 (W2.alloc (.cells #[(xI d nf),sl,(xI d nt)] 80)).drew:=((Below.refl _ W2).alloc nLe _).drew
     have g4':(W2.alloc (.cells #[(xI d nf),sl,(xI d nt)] 80)).drew.cell? ⟨G,4,none⟩=some (.slice T (yD a d k).length c):=(hb6.cell (p:=⟨G,4,none⟩) hGl).trans g4
     have s0:W2.drew.cell? ⟨S,0,none⟩=some (.int .i64 (nf:Int)):=hS0
     have s1:W2.drew.cell? ⟨S,1,none⟩=some (.int .i64 sl):=hS1
     have s2:W2.drew.cell? ⟨S,2,none⟩=some (.int .i64 (nt:Int)):=hS2
     have hne:∀b o u,b<W2.heap.size->some b≠(Value.slice T (yD a d k).length c).ownBlock->W2.drew.cell? ⟨b,o,none⟩=some u->w5.cell? ⟨b,o,none⟩=some u:=fun b o u hb hn hc=>hgr.cell ((hb6.cell (p:=⟨b,o,none⟩) hb).trans hc) hn
     have htV:some (G+1)≠(Value.slice T (yD a d k).length c).ownBlock:=rE J.o.au.s (by omega)
     have htl:G+1<W2.heap.size:=by omega
     have s05:=hne _ _ _ hSl hSV s0;have s15:=hne _ _ _ hSl hSV s1;have s25:=hne _ _ _ hSl hSV s2;have z05:=hne _ _ _ htl htV z0;have z15:=hne _ _ _ htl htV z1;have s06:=(hb6.cell (p:=⟨S,0,none⟩) hSl).trans s0
     have s16:=(hb6.cell (p:=⟨S,1,none⟩) hSl).trans s1;have s26:=(hb6.cell (p:=⟨S,2,none⟩) hSl).trans s2;have z06:=(hb6.cell (p:=⟨G+1,nf,none⟩) htl).trans z0
     have z16:=(hb6.cell (p:=⟨G+1,nt,none⟩) htl).trans z1;have hS1:S≠G:=by omega
     have HRUN:Hid ((Builtin.append_ #[29,29] 29 #[.slice T (yD a d k).length c,.slice (some ⟨W2,0,none⟩) 1 1]).run Tryz.prog (W2.alloc (.cells #[(xI d nf),sl,(xI d nt)] 80)).drew=.ok (.slice T3 ((yD a d k).length+1) c3) w5):=hrun
     have HMR:Hid (TfM W3 (G+1) G (G+2) (xS d N N) (pos d N:Nat) a.le (yF a d a.fs.length) (zY a.gs d N) (yD a d (k+1)) fv gv (.slice T3 ((yD a d k).length+1) c3) (w5.setCell ⟨G,4,none⟩ (.slice T3 ((yD a d k).length+1) c3))):=by unfold Hid;rw[hg1];exact HM5.o
     clear g0 g1 g2 g3 gf0 gf1 gf2 gf3 gf4 hrun hAU hg1 hb6 hdw J HM5 hS0 hS2 hgr hne htV hSV;generalize (yD a d k).length=gn at *;generalize xI d (nf:Int)=gk at *;generalize xI d (nt:Int)=gk2 at *
     refine mJ (fun w'=>w'.cell? ⟨G,4,none⟩=some (.slice T gn c)/\w'.cell? ⟨S,0,none⟩=some (.int .i64 (nf:Int))/\w'.cell? ⟨S,1,none⟩=some (.int .i64 sl)/\w'.cell? ⟨S,2,none⟩=some (.int .i64 (nt:Int))/\w'.cell? ⟨G+1,nf,none⟩=some (.int .i64 gk)/\w'.cell? ⟨G+1,nt,none⟩=some (.int .i64 gk2)) 18 (by kernel_rfl) ?_
     refine tY 0 ?v0 ?hy0 ⟨g4,s0,s1,s2,z0,z1⟩ ?rest0
     case hy0=>(intro w' m;obtain⟨h0,h1,h2,h3,h4,h5⟩:=m;go_simp;(try with_reducible rfl))
     (try simp only[lAy])
     refine tY 1 ?v1 ?hy1 ⟨g4,s0,s1,s2,z0,z1⟩ ?rest1
     case hy1=>(intro w' m;obtain⟨h0,h1,h2,h3,h4,h5⟩:=m;go_simp;(try with_reducible rfl))
     (try simp only[lAy])
     refine tY 2 ?v2 ?hy2 ⟨g4,s0,s1,s2,z0,z1⟩ ?rest2
     case hy2=>(intro w' m;obtain⟨h0,h1,h2,h3,h4,h5⟩:=m;go_simp;(try with_reducible rfl))
     (try simp only[lAy])
     refine tY 3 ?v3 ?hy3 ⟨g4,s0,s1,s2,z0,z1⟩ ?rest3
     case hy3=>(intro w' m;obtain⟨h0,h1,h2,h3,h4,h5⟩:=m;go_simp;(try with_reducible rfl))
     (try simp only[lAy])
     refine tY 4 ?v4 ?hy4 ⟨g4,s0,s1,s2,z0,z1⟩ ?rest4
     case hy4=>(intro w' m;obtain⟨h0,h1,h2,h3,h4,h5⟩:=m;go_simp;(try with_reducible rfl))
     (try simp only[lAy])
     refine tY 5 ?v5 ?hy5 ⟨g4,s0,s1,s2,z0,z1⟩ ?rest5
     case hy5=>(intro w' m;obtain⟨h0,h1,h2,h3,h4,h5⟩:=m;go_simp;(try with_reducible rfl))
     (try simp only[lAy])
     refine tY 6 ?v6 ?hy6 ⟨g4,s0,s1,s2,z0,z1⟩ ?rest6
     case hy6=>(intro w' m;obtain⟨h0,h1,h2,h3,h4,h5⟩:=m;go_simp;(try with_reducible rfl))
     (try simp only[lAy])
     refine tY 7 ?v7 ?hy7 ⟨g4,s0,s1,s2,z0,z1⟩ ?rest7
     case hy7=>(intro w' m;obtain⟨h0,h1,h2,h3,h4,h5⟩:=m;go_simp;(try with_reducible rfl))
     (try simp only[lAy])
     refine tY 8 ?v8 ?hy8 ⟨g4,s0,s1,s2,z0,z1⟩ ?rest8
     case hy8=>(intro w' m;obtain⟨h0,h1,h2,h3,h4,h5⟩:=m;go_simp;(try with_reducible rfl))
     (try simp only[lAy])
     refine tY 9 ?v9 ?hy9 ⟨g4,s0,s1,s2,z0,z1⟩ ?rest9
     case hy9=>(intro w' m;obtain⟨h0,h1,h2,h3,h4,h5⟩:=m;go_simp;(try with_reducible rfl))
     (try simp only[lAy])
     refine tY 10 ?v10 ?hy10 ⟨g4,s0,s1,s2,z0,z1⟩ ?rest10
     case hy10=>(intro w' m;obtain⟨h0,h1,h2,h3,h4,h5⟩:=m;go_simp;(try with_reducible rfl))
     (try simp only[lAy])
     refine tY 11 ?v11 ?hy11 ⟨g4,s0,s1,s2,z0,z1⟩ ?rest11
     case hy11=>(intro w' m;obtain⟨h0,h1,h2,h3,h4,h5⟩:=m;go_simp;(try with_reducible rfl))
     (try simp only[lAy])
     refine tY 12 ?v12 ?hy12 ⟨g4,s0,s1,s2,z0,z1⟩ ?rest12
     case hy12=>(intro w' m;obtain⟨h0,h1,h2,h3,h4,h5⟩:=m;go_simp;(try with_reducible rfl))
     (try simp only[lAy])
     refine tY 13 ?v13 ?hy13 ⟨g4,s0,s1,s2,z0,z1⟩ ?rest13
     case hy13=>(intro w' m;obtain⟨h0,h1,h2,h3,h4,h5⟩:=m;go_simp;(try with_reducible rfl))
     (try simp only[lAy])
     refine tY 14 ?v14 ?hy14 ⟨g4,s0,s1,s2,z0,z1⟩ ?rest14
     case hy14=>(intro w' m;obtain⟨h0,h1,h2,h3,h4,h5⟩:=m;go_simp;(try with_reducible rfl))
     (try simp only[lAy])
     refine jQ (i:=15) rfl (by kernel_rfl) (fun K hK=>?_)
     go_simp
     refine hK.out _ _ (.inr ⟨g4',s06,s16,s26,z06,z16⟩) ?_;clear hK K
     (try simp only[lAy])
     refine jQ (i:=16) rfl (by kernel_rfl) (fun K hK=>?_)
     refine wM rfl (.tmp 154) (.tmp 168) _ _ rfl (.slice T gn c) (.slice (some ⟨W2,0,none⟩) 1 1) (.slice T3 (gn+1) c3) (by go_simp) (by go_simp) HRUN.o ?_
     refine hK.out _ _ (.inr ⟨p4,s05,s15,s25,z05,z15⟩) ?_;clear hK K
     (try simp only[lAy])
     refine tY 17 ?v17 ?hy17 ⟨p4,s05,s15,s25,z05,z15⟩ ?rest17
     case hy17=>(intro w' m;obtain⟨h0,h1,h2,h3,h4,h5⟩:=m;go_simp;(try with_reducible rfl))
     (try simp only[lAy])
     refine jQ (i:=18) rfl (by kernel_rfl) (fun K hK=>?_)
     go_simp
     refine hK.out _ _ (.inl rfl) ?_;clear hK K;refine mS (by kernel_rfl) ?_ _
     go_wp2_with fail
     go_roundw
     case rel=>exact⟨k+1,_,HX.o,by go_num,HMR.o⟩
     case measure=>simp[intOf];omega
  have q1:¬(k:Int)<(a.ss.length:Int):=by omega
  obtain rfl:k=a.ss.length:=by omega
  clear hrds
  go_wp2_with fail
  go_meet
  exact⟨sv,HM.o⟩
 obtain⟨sv,HM3⟩:=hcut;clear O;obtain⟨g0,g1,g2,g3,g4,gf0,gf1,gf2,gf3,gf4⟩:=zZ HM3.o.au.obj;obtain⟨r0,r1,r2,r3,r4,rf0,rf1,rf2,rf3,rf4⟩:=zZ (HOW.o _ HM3.o.far)
 obtain⟨A',B',C',ca',cb',cc',rfl,rfl,rfl,hrd⟩:=HM3.o.au.rd (by
   unfold yF;rw[List.length_map];have:=List.length_filter_le (kp d) (a.fs.take a.fs.length);have:=List.length_take_le a.fs.length a.fs;have:=HFL.o;have:=HN.o
   omega) (by
    rw[fJ (by rw[HLEN.o];exact nLe)];have:pos d N<=N:=by{unfold pos;exact Nat.le_trans (List.count_le_length ..) (by simp;omega)}
    omega) (by
   unfold yD;rw[List.length_map];have:=List.length_filter_le (fun s=>kp d s.f&&kp d s.t) (a.ss.take a.ss.length)
   have:=List.length_take_le a.ss.length a.ss;have:=HO.o.sl;omega)
 have HP:Hid (rO w (yW a) (.returned (.agg #[(pos d N:Nat),a.le,.slice A' (yF a d a.fs.length).length ca',.slice B' (zY a.gs d N).length cb',.slice C' (yD a d a.ss.length).length cc'])) (set5 wc (V+1) (.int .i64 (pos d N:Nat)) a.le (.slice A' (yF a d a.fs.length).length ca') (.slice B' (zY a.gs d N).length cb') (.slice C' (yD a d a.ss.length).length cc'))):=by
  rw[HTV.o,HMD.o];exact⟨A',B',C',ca',cb',cc',rfl,(hrd.set5_ (by omega) _ _ _ _ _).low (by omega),zS (HBW.o _ HM3.o.far) (by have:=HVV.o;omega) _ _ _ _ _⟩
 have HOO:=hId (zW (HOW.o _ HM3.o.far) (.int .i64 (pos d N:Nat)) a.le (.slice A' (yF a d a.fs.length).length ca') (.slice B' (zY a.gs d N).length cb') (.slice C' (yD a d a.ss.length).length cc'));clear hrd HM3
 generalize (yF a d a.fs.length).length=n1 at *;generalize (zY a.gs d N).length=n2 at *;generalize (yD a d a.ss.length).length=n3 at *
 go_wp2_with fail
 exact bodyPost_ret (zF2 Tryz.results19 _ _ (V+1) rfl HOO.o) rfl HP.o
variable {a b:Au} {l:La} {f:List Nd} {p q t:Ad} {V X Y Z TR:Nat} {W:World} {g3 v9 v10 v11 v12 v13 v14:Value} {Kn:Act->World->Prop} {Q:Exit->Act->World->Prop} {ac:Act}
theorem zLO (HL:Hid (xR W)) (HK:Hid (∀ m W',RaP V g3 v9 v10 v11 v12 v13 v14 m->Below W W W'->Kn m W')) (ha:RaP V g3 v9 v10 v11 v12 v13 v14 ac):Code.wp Tryz.prog (zL (raC 1)) (Exit.then Kn Q) ac W:=by
 obtain⟨u,rfl⟩:=ha;unfold raF
 conv=>arg 2;whnf
 go_wp2_with fail
 refine(zD1 W HL.o).mono ?_;rintro e w1 ⟨rfl,s⟩;have d:=hId s;clear s HL
 go_wp2_with fail
 refine(zD9 w1).mono ?_;rintro e w2 ⟨rfl,J⟩;have g:=hId (zA d.o J d.o.size);clear J d
 go_wp2_with fail
 refine(oP w2).mono ?_;rintro e w3 ⟨rfl,K⟩;have h:=hId (zA g.o K g.o.size);clear K g
 go_wp2_with fail
 refine(zB3 w3).mono ?_;rintro e w4 ⟨rfl,N⟩;have i:=hId (zA h.o N h.o.size);clear N h
 go_wp2_with fail
 refine(zDz w4).mono ?_;rintro e w5 ⟨rfl,O⟩;have j:=hId (zA i.o O i.o.size);clear O i
 go_wp2_with fail
 refine(oO w5).mono ?_;rintro e w6 ⟨rfl,U⟩;have h0:=hId (zA j.o U j.o.size);clear U j
 go_wp2_with fail
 exact HK.o _ _ (RaP.mk rfl) h0.o
theorem zLD (j:Hid (Nds W 0 p.FA p.fc f)) (J:Hid (∀ g W' h i,RaP V (.slice p.FA f.length p.fc) v9 v10 v11 (.slice h f.length i) v13 v14 g->W'.ownsRow W.heap.size 63 4 (.slice h f.length i) f.length (f.flatMap Nd.cells)->Below W W W'->Kn g W')) (O:RaP V (.slice p.FA f.length p.fc) v9 v10 v11 v12 v13 v14 ac):
  Code.wp Tryz.prog (zL (raC 4)) (Exit.then Kn Q) ac W:=by
 obtain⟨u,rfl⟩:=O;unfold raF
 conv=>arg 2;whnf
 obtain⟨h,i,U,e,d,m⟩:=zG9 j.o;have N:=hId e;have K:=hId d;have s:=hId m;clear e d m j
 go_wp2_with (at_builtin;refine zQ rfl (.tmp 71) (.tmp 72) _ _ rfl _ _ _ rfl rfl N.o ?_)
 exact J.o _ _ _ _ (RaP.mk rfl) K.o s.o
theorem zL1 (j:Hid (RaE a b l f p V W)) (m:Hid (∀ d W',RaP V g3 v9 v10 v11 v12 (.int .i64 (ckA a)) v14 d->Below W W W'->Kn d W')) (U:RaP V g3 v9 v10 v11 v12 v13 v14 ac):Code.wp Tryz.prog (zL (raC 5)) (Exit.then Kn Q) ac W:=by
 obtain⟨u,rfl⟩:=U;unfold raF
 conv=>arg 2;whnf
 have i:=hId (zCW a p.A p.B p.C p.ca p.cb p.cc W j.o.ra);obtain⟨_,s,J,K,N,O⟩:=j.o.aa
 go_wp2_with fail
 refine i.o.mono ?_;rintro e w1 ⟨rfl,g⟩;have h:=hId g;clear g s J K N O i
 go_wp2_with fail
 exact m.o _ _ (RaP.mk rfl) h.o
theorem zMd (e:Hid (∀ d,RaP V g3 v9 v10 v11 v12 v13 (.pointer (some ⟨W,0,none⟩)) d->Kn d (W.alloc (.cells #[(0:Int),(0:Int),(),(),()] 31)))) (g:RaP V g3 v9 v10 v11 v12 v13 v14 ac):Code.wp Tryz.prog (zL (raC 6)) (Exit.then Kn Q) ac W:=by
 obtain⟨u,rfl⟩:=g;unfold raF
 conv=>arg 2;whnf
 go_wp2_with fail
 exact e.o _ (RaP.mk rfl)
theorem zL4 (HE:Hid (RaE a b l f p V W)) (HT:Hid (W.heap[TR]?=some (.cells #[(0:Int),(0:Int),(),(),()] 31 (0,0)))) (HK:Hid (∀ J W' A B C ca cb cc,RaP V g3 v9 v10 v11 v12 (.int .i64 (ckA a)) (.pointer (some ⟨TR,0,none⟩)) J->yG W' TR (yW a) A B C ca cb cc->zM W' 0 (yW a) A B C ca cb cc->Below TR W W'->(∀ k,k<W.heap.size->k≠TR->W'.heap[k]?=W.heap[k]?)->Kn J W')) (ha:RaP V g3 v9 v10 v11 v12 (.int .i64 (ckA a)) (.pointer (some ⟨TR,0,none⟩)) ac):
  Code.wp Tryz.prog (zL (raC 7)) (Exit.then Kn Q) ac W:=by
 obtain⟨u,rfl⟩:=ha;unfold raF
 conv=>arg 2;whnf
 by_cases m:ckA a=0
 ·have HC:=hId (zH9 a p.A p.B p.C p.ca p.cb p.cc W HE.o.ra m)
  obtain⟨_,c0,c1,c2,c3,c4⟩:=HE.o.aa;rw[m] at HK ⊢;have d:Hid (TR<W.heap.size):=(gLt HT.o);clear m;generalize yW a=tv at *
  go_wp2_with fail
  refine HC.o.mono ?_;rintro e w1 ⟨N,O,U,g,h,i,rfl,K,j⟩;have s:=(j.block TR d.o).trans HT.o
  have HO:=hId (wY (zW s tv.st tv.le (.slice N tv.fs.length g) (.slice O tv.gs.length h) (.slice U tv.ss.length i)))
  have HR:=hId ((K.set5_ d.o tv.st tv.le (.slice N tv.fs.length g) (.slice O tv.gs.length h) (.slice U tv.ss.length i)).low (Nat.zero_le _))
  have HB:=hId (zS (j.mono (Nat.le_of_lt d.o)) (Nat.le_refl TR) tv.st tv.le (.slice N tv.fs.length g) (.slice O tv.gs.length h) (.slice U tv.ss.length i))
  have HF:Hid (∀ k,k<W.heap.size->k≠TR->(set5 w1 TR tv.st tv.le (.slice N tv.fs.length g) (.slice O tv.gs.length h) (.slice U tv.ss.length i)).heap[k]?=W.heap[k]?):=fun k m hne=>(pB _ _ _ _ _ _ _ hne).trans (j.block k m)
  obtain⟨d0,d1,d2,d3,d4,f0,f1,f2,f3,f4⟩:=zZ s;clear K j s c0 c1 c2 c3 c4 HC HT d
  go_wp2_with fail
  exact HK.o _ _ _ _ _ _ _ _ (RaP.mk rfl) HO.o HR.o HB.o HF.o
 have hn:(ckA a==0)=false:=by simp[m]
 have ht:=zBp m;rw[ht] at HK;have HO:Hid (yG W TR qR none none none 0 0 0):=wY (p:=qR) HT.o;clear m ht;generalize ckA a=ck at *
 go_wp2_with fail
 exact HK.o _ _ _ _ _ _ _ _ (RaP.mk rfl) HO.o (zDJ _) bRf (fun _ _ _=>rfl)
end
section
open Go Go.RowKit Go.Sort
variable {a b:Au} {l:La} {f:List Nd} {p q t:Ad} {V X Y Z TR:Nat} {it:Int} {WL W:World} {g3 v9 v10 v11 v12 v13 v14:Value} {Kn:Act->World->Prop} {Q:Exit->Act->World->Prop} {ac:Act}
theorem zKA (h:Hid (RaE a b l f p V W)) (ha:RaP V (.slice p.FA f.length p.fc) v9 v10 v11 v12 v13 v14 ac) (HK:Hid (∀ j W' q t X Y Z TR,RaP V (.slice p.FA f.length p.fc) (.pointer (some ⟨X,0,none⟩)) (.pointer (some ⟨Y,0,none⟩)) (.pointer (some ⟨Z,0,none⟩)) (.slice q.FA f.length q.fc) (.int .i64 (ckA a)) (.pointer (some ⟨TR,0,none⟩)) j->RaM a b l f p q t V X Y Z TR W'->Below W W W'->Code.wp Tryz.prog (raC 8) Q j W')):Code.wp Tryz.prog (raC 2) Q ac W:=by
 rw[show raC 2=.seq (zL (raC 2)) (raC 3) from rfl];refine wp_seq (zLH h (hId fun ac W2 A B C ca cb cc D E F cd ce cf X Y h2 d=>?_) ha)
 rw[show raC 3=.seq (zL (raC 3)) (raC 4) from rfl];refine wp_seq (zLZ (hId (h.o.on d.below)) (hId fun ac W3 G1 cg1 K1 ck1 Z h3 g=>?_) h2)
 have b3:=zA d.below g.below d.below.size;rw[show raC 4=.seq (zL (raC 4)) (raC 5) from rfl];refine wp_seq (zLD (hId (h.o.on b3).fr) (hId fun ac W4 GA gc h4 o4 u=>?_) h3)
 have b4:=zA b3 u b3.size;rw[show raC 5=.seq (zL (raC 5)) (raC 6) from rfl];refine wp_seq (zL1 (hId (h.o.on b4)) (hId fun ac i h5 J=>?_) h4)
 have b5:=zA b4 J b4.size;rw[show raC 6=.seq (zL (raC 6)) (raC 7) from rfl];refine wp_seq (zMd (hId fun ac h6=>?_) h5)
 have c6:Below i i (i.alloc (.cells #[(0:Int),(0:Int),(),(),()] 31)):=bLa
 rw[show raC 7=.seq (zL (raC 7)) (raC 8) from rfl]
 refine wp_seq (zL4 (hId (h.o.on (zA b5 c6 b5.size))) (hId (World.alloc_heap_new i (.cells #[(0:Int),(0:Int),(),(),()] 31))) (hId fun ac U A' B' C' K N O h7 ht hr c7 _=>?_) h6)
 have d5:Below i i U:=c6.trans c7
 have d4:=zA J d5 J.size;have s:=zA u d4 u.size;have m:=zA g.below s g.below.size;have b7:=zA d.below m d.below.size;have e:=h.o;have k1:=e.ra.fs.max;have k2:=e.ra.gs.max;have k3:=e.ra.ss.max;have k4:=e.rb.fs.max
 have k5:=e.rb.gs.max;have k6:=e.rb.ss.max;have ox:=((d.ra.on m).rd k1 k2 k3).low (Nat.zero_le _);have oy:=((d.rb.on m).rd k4 k5 k6).low (Nat.zero_le _)
 obtain⟨_,_,e1,r1⟩:=SlE.of_own (enc:=viL) (bt:=8) (zD g.rh s) e.lh.max;obtain⟨_,_,e2,r2⟩:=SlE.of_own (enc:=viL) (bt:=8) (zD g.rl s) e.ll.max
 obtain⟨_,_,e3,r3⟩:=SlE.of_own (enc:=Nd.cells) (bt:=32) (zD o4 d4) e.fr.max;simp only[Value.slice.injEq] at e1 e2 e3;obtain⟨rfl,_,rfl⟩:=e1;obtain⟨rfl,_,rfl⟩:=e2;obtain⟨rfl,_,rfl⟩:=e3
 exact HK.o ac U ⟨A,B,C,D,E,F,G1,K1,GA,ca,cb,cc,cd,ce,cf,cg1,ck1,gc⟩ ⟨A',B',C',none,none,none,none,none,none,K,N,O,0,0,0,0,0,0⟩ X Y Z _ h7
  ⟨e.on b7,(wY d.x).below m (wY d.x).lt,(wY d.y).below m (wY d.y).lt,(s.block _ (gLt g.z)).trans g.z,ox,oy,r1.zero,r2.zero,r3.zero,ht,hr⟩ b7
theorem zFW (d:Hid (∀ W,Below WL WL W->RaM a b l f p q t V X Y Z TR W)) (HB:Hid (Below WL WL W)) (ha:RaG V X Y Z TR f.length p q (ckA a) it ac) (HK:Hid (∀ j W',RaG V X Y Z TR f.length p q (ckA a) it j->Below WL WL W'->Q .normal j W')):Code.wp Tryz.prog raB Q ac W:=by
 obtain⟨v16,v17,v18,v20,v22,v25,v27,v29,v31,v33,v34,v35,h0⟩:=ha.q;have O:=HB.o;have hp:0<W.heap.size:=by have:=(d.o _ O).ax.lt;omega
 rw[show raB=.seq (zL (yU 0)) (yU 1) from rfl];refine wp_seq (zK3 d HB (hId fun ac W1 T h1 b1 t1=>?_) h0)
 have B1:=zA O b1 O.size;rw[show yU 1=.seq (zL (yU 1)) (yU 2) from rfl];refine wp_seq (zLg d (hId B1) (hId fun ac W2 P2 h2 b2 s2=>?_) h1)
 have U:=zA B1 b2 B1.size;rw[show yU 2=.seq (zL (yU 2)) (yU 3) from rfl];refine wp_seq (zLx d (hId U) (hId fun ac W3 Q2 h3 b3 s3=>?_) h2)
 have B3:=zA U b3 U.size;rw[show yU 3=.seq (zL (yU 3)) (yU 4) from rfl];refine wp_seq (zLv d (hId B3) (hId fun ac W4 S2 h4 b4 s4=>?_) h3)
 have B4:=zA B3 b4 B3.size;rw[show yU 4=.seq (zL (yU 4)) (yU 5) from rfl];refine wp_seq (zKY d (hId B4) (hId fun ac W5 K2 h5 b5 s5=>?_) h4)
 have B5:=zA B4 b5 B4.size;rw[show yU 5=.seq (zL (yU 5)) (yU 6) from rfl];refine wp_seq (zKI d (hId B5) (hId fun ac W6 N2 h6 b6 s6=>?_) h5)
 have B6:=zA B5 b6 B5.size;rw[show yU 6=.seq (zL (yU 6)) (yU 7) from rfl];refine wp_seq (zLz d (hId B6) (hId fun ac W7 Z2 h7 b7 s7=>?_) h6)
 have B7:=zA B6 b7 B6.size;rw[show yU 7=.seq (zL (yU 7)) (yU 8) from rfl];refine wp_seq (zKZ d (hId B7) (hId fun ac W8 H2 h8 b8 s8=>?_) h7)
 have B8:=zA B7 b8 B7.size;have e8:Below W8 W8 W8:=bRf;have e7:=zA b8 e8 b8.size;have e6:=zA b7 e7 b7.size;have e5:=zA b6 e6 b6.size;have e4:=zA b5 e5 b5.size;have e3:=zA b4 e4 b4.size
 have e2:=zA b3 e3 b3.size;have e1:=zA b2 e2 b2.size;rw[show yU 8=.seq (zL (yU 8)) (yU 9) from rfl];obtain⟨A,B,C,ca,cb,cc,ta,tr⟩:=t1
 refine wp_seq (zKL d (hId B8) (hId rfl) (hId ⟨A,B,C,ca,cb,cc,ta.below e1 ta.lt,tr.below e1⟩) (hId fun ac W9 h9 b9=>?_) h8)
 have B9:=zA B8 b9 B8.size;have hL:=B9.size;have f1:=zA e1 b9 e1.size;have sT:AuS WL.heap.size W9 T:=zAD (ta.below f1 ta.lt) (tr.below f1) hp O.size;have s2:=s2.spl (Spl.of (zA e2 b9 e2.size) U.size)
 have s3:=s3.spl (Spl.of (zA e3 b9 e3.size) B3.size);have s4:=s4.spl (Spl.of (zA e4 b9 e4.size) B4.size);have s5:=s5.spl (Spl.of (zA e5 b9 e5.size) B5.size);have s6:=s6.spl (Spl.of (zA e6 b9 e6.size) B6.size)
 have s7:=s7.spl (Spl.of (zA e7 b9 e7.size) B7.size);have s8:=s8.spl (Spl.of (zA e8 b9 e8.size) B8.size);have g9:Spl WL.heap.size W9 W9:=Spl.refl _ _;rw[show yU 9=.seq (zL (yU 9)) (yU 10) from rfl]
 refine wp_seq (zK4 (hId (Nat.le_trans hL g9.below.size)) (hId (sT.spl g9)) (hId fun ac W10 h10 k10=>?_) h9)
 have e:=g9.trans k10;rw[show yU 10=.seq (zL (yU 10)) (yU 11) from rfl];refine wp_seq (zKP (hId (Nat.le_trans hL e.below.size)) (hId (s2.spl e)) (hId fun ac W11 h11 k11=>?_) h10)
 have h:=e.trans k11;rw[show yU 11=.seq (zL (yU 11)) (yU 12) from rfl];refine wp_seq (zKS (hId (Nat.le_trans hL h.below.size)) (hId (s3.spl h)) (hId fun ac W12 h12 k12=>?_) h11)
 have i:=h.trans k12;rw[show yU 12=.seq (zL (yU 12)) (yU 13) from rfl];refine wp_seq (zKJ (hId (Nat.le_trans hL i.below.size)) (hId (s7.spl i)) (hId fun ac W13 h13 k13=>?_) h12)
 have m:=i.trans k13;rw[show yU 13=.seq (zL (yU 13)) (yU 14) from rfl];refine wp_seq (zLj (hId (s4.spl m)) (hId fun ac W14 h14 k14=>?_) h13)
 have s:=m.trans k14;rw[show yU 14=.seq (zL (yU 14)) (yU 15) from rfl];refine wp_seq (zKV (hId (s4.spl s)) (hId fun ac W15 h15 k15=>?_) h14)
 have u:=s.trans k15;rw[show yU 15=.seq (zL (yU 15)) (yU 16) from rfl];refine wp_seq (zK6 (hId (s5.spl u)) (hId fun ac W16 h16 k16=>?_) h15)
 have J:=u.trans k16;rw[show yU 16=.seq (zL (yU 16)) (yU 17) from rfl];refine wp_seq (zK1 (hId (s5.spl J)) (hId fun ac W17 h17 k17=>?_) h16)
 have K:=J.trans k17;rw[show yU 17=.seq (zL (yU 17)) (yU 18) from rfl];refine wp_seq (zLl (hId (s6.spl K)) (hId fun ac W18 v h18 k18=>?_) h17)
 have N:=K.trans k18;refine zLi (hId (s8.spl N)) (hId fun ac W19 v v' h19 k19=>?_) h18
 exact HK.o _ _ h19.g (B9.trans (N.trans k19).below)
def zIJ:Code->Code
 | .seq _ (.block _ (.loop (.seq x _)))=>x
 |c=>c
def zIm:Code->Code
 | .seq _ (.block _ (.loop (.seq _ (.seq _ r))))=>r
 |c=>c
noncomputable def zI8:Code:=zL (zL (raC 8))
noncomputable def zHu:Code:=zIJ (zL (raC 8))
noncomputable def zG5:Code:=zIm (zL (raC 8))
theorem RaG.slot {d:Nat} {ue:Int} (h:RaG V X Y Z TR d p q ue it ac):ac.tmps.getD 15 undef=.int .i64 it:=by
 obtain⟨u,rfl⟩:=h;rfl
theorem zKK (e:Hid (∀ d,RaG V X Y Z TR f.length p q (ckA a) 0 d->Kn d W)) (g:RaP V (.slice p.FA f.length p.fc) (.pointer (some ⟨X,0,none⟩)) (.pointer (some ⟨Y,0,none⟩)) (.pointer (some ⟨Z,0,none⟩)) (.slice q.FA f.length q.fc) (.int .i64 (ckA a)) (.pointer (some ⟨TR,0,none⟩)) ac):Code.wp Tryz.prog zI8 (Exit.then Kn Q) ac W:=by
 obtain⟨u,rfl⟩:=g;unfold raF
 conv=>arg 2;whnf
 generalize ckA a=ck at *
 go_wp2_with fail
 exact e.o _ (RaG.mk rfl)
theorem zKz (h:it<2) (e:Hid (∀ d,RaG V X Y Z TR f.length p q (ckA a) it d->Kn d W)) (g:RaG V X Y Z TR f.length p q (ckA a) it ac):Code.wp Tryz.prog zHu (Exit.then Kn Q) ac W:=by
 obtain⟨u,rfl⟩:=g;unfold raG
 conv=>arg 2;whnf
 generalize ckA a=ck at *
 go_wp2_with fail
 exact e.o _ (RaG.mk rfl)
theorem zJP (h:¬it<2) (e:Hid (∀ d,RaG V X Y Z TR f.length p q (ckA a) it d->Q (.exit 0) d W)) (g:RaG V X Y Z TR f.length p q (ckA a) it ac):Code.wp Tryz.prog zHu (Exit.then Kn Q) ac W:=by
 obtain⟨u,rfl⟩:=g;unfold raG
 conv=>arg 2;whnf
 generalize ckA a=ck at *
 go_wp2_with fail
 exact e.o _ (RaG.mk rfl)
theorem zLw (h:0<=it) (i:it<2) (e:Hid (∀ d,RaG V X Y Z TR f.length p q (ckA a) (it+1) d->Kn d W)) (g:RaG V X Y Z TR f.length p q (ckA a) it ac):Code.wp Tryz.prog zG5 (Exit.then Kn Q) ac W:=by
 obtain⟨u,rfl⟩:=g;unfold raG
 conv=>arg 2;whnf
 generalize ckA a=ck at *;have j:IntKind.i64.wrap (it+1)=it+1:=zFG (by omega) (by omega)
 go_wp2_with fail
 exact e.o _ (RaG.mk rfl)
theorem zL2 (K:Hid (∀ W',Below W W W'->RaM a b l f p q t V X Y Z TR W')) (N:Hid (∀ d W',RaG V X Y Z TR f.length p q (ckA a) 2 d->Below W W W'->Kn d W')) (ha:RaP V (.slice p.FA f.length p.fc) (.pointer (some ⟨X,0,none⟩)) (.pointer (some ⟨Y,0,none⟩)) (.pointer (some ⟨Z,0,none⟩)) (.slice q.FA f.length q.fc) (.int .i64 (ckA a)) (.pointer (some ⟨TR,0,none⟩)) ac):Code.wp Tryz.prog (zL (raC 8)) (Exit.then Kn Q) ac W:=by
 rw[show zL (raC 8)=.seq zI8 (.block 0 (.loop (.seq zHu (.seq (.block 1 raB) zG5)))) from rfl];refine wp_seq (zKK (hId fun ac h=>?_) ha)
 refine wp_block (wp_loop (fun d W'=>∃k:Nat,k<=2/\RaG V X Y Z TR f.length p q (ckA a) (k:Int) d/\Below W W W') (fun d _=>2-(intOf (d.tmps.getD 15 undef)).toNat) ⟨0,by decide,h,bRf⟩ ?_)
 rintro U W1 ⟨k,hk,j,J⟩;refine wp_seq ?_
 by_cases k2:k<2
 ·refine zKz (by omega) (hId fun g m=>?_) j
  refine wp_seq (wp_block (zFW K (hId J) m (hId fun i O h3 s=>?_)))
  show Code.wp Tryz.prog zG5 _ i O;refine zLw (by omega) (by omega) (hId fun h0 u=>?_) h3
  refine⟨⟨k+1,by omega,u,s⟩,?_⟩
  rw[u.slot,j.slot];simp only[intOf];omega
 refine zJP (by omega) (hId fun g m=>?_) j
 have e:k=2:=by omega
 subst e;show Exit.inBlock 0 (Exit.then Kn Q) (.exit 0) g W1
 simp only[Exit.inBlock,if_true];exact N.o _ _ m J
theorem zLY {w:World} (d:Hid (Below w w W)) (g:RaG V X Y Z TR f.length p q (ckA a) it ac):Code.wp Tryz.prog (raC 9) (bodyPost Tryz.prog Tryz.f4 (xX w true)) ac W:=by
 obtain⟨u,rfl⟩:=g;unfold raG
 conv=>arg 2;whnf
 generalize ckA a=ck at *;have e:Hid (xX w true (.returned (.bool true)) W):=⟨rfl,d.o⟩
 go_wp2_with fail
 go_ret
 exact e.o
def zEV (w:World) (a b:Au) (l:La) (p:Ad):World:=(bT w a b p.A p.B p.C p.D p.E p.F p.ca p.cb p.cc p.cd p.ce p.cf).alloc (.cells #[.slice p.G l.h.length p.cg,.slice p.K l.l.length p.ck] 27)
theorem zKD {w:World} (i:zM w 0 a p.A p.B p.C p.ca p.cb p.cc) (j:zM w 0 b p.D p.E p.F p.cd p.ce p.cf) (s:zE w 0 p.G p.cg l.h) (u:zE w 0 p.K p.ck l.l) (m:Nds w 0 p.FA p.fc f):RaE a b l f p w.heap.size (zEV w a b l p)/\Below w w (zEV w a b l p):=by
 have h:=cJ w a b p.A p.B p.C p.D p.E p.F p.ca p.cb p.cc p.cd p.ce p.cf
 have d:Below (bT w a b p.A p.B p.C p.D p.E p.F p.ca p.cb p.cc p.cd p.ce p.cf).heap.size (bT w a b p.A p.B p.C p.D p.E p.F p.ca p.cb p.cc p.cd p.ce p.cf) (zEV w a b l p):=bLa
 have g:(zEV w a b l p).heap[(bT w a b p.A p.B p.C p.D p.E p.F p.ca p.cb p.cc p.cd p.ce p.cf).heap.size]?=_:=World.alloc_heap_new _ _
 rw[h.size] at g;have e:=zA h.below d h.below.size;exact⟨⟨h.at1.below d h.at1.lt,h.at2.below d h.at2.lt,g,i.below e,j.below e,s.below e,u.below e,m.below e⟩,e⟩
theorem zDp (a b:Au) (l:La) (f:List Nd) (p:Ad) (w:World) (s:zM w 0 a p.A p.B p.C p.ca p.cb p.cc) (u:zM w 0 b p.D p.E p.F p.cd p.ce p.cf) (N:zE w 0 p.G p.cg l.h) (O:zE w 0 p.K p.ck l.l) (J:Nds w 0 p.FA p.fc f) (m:xR w):
  Calls Tryz.prog 4 #[.agg #[a.st,a.le,.slice p.A a.fs.length p.ca,.slice p.B a.gs.length p.cb,.slice p.C a.ss.length p.cc],.agg #[b.st,b.le,.slice p.D b.fs.length p.cd,.slice p.E b.gs.length p.ce,.slice p.F b.ss.length p.cf],.agg #[.slice p.G l.h.length p.cg,.slice p.K l.l.length p.ck],.slice p.FA f.length p.fc] w (xX w true):=by
 have e:=hId (zKD s u N O J);have HL:=hId m;clear s u N O J m
 go_enter Tryz.func4,Tryz.ntmps4
 change Code.wp Tryz.prog (raC 0) _ _ _;rw[show raC 0=.seq (zL (raC 0)) (raC 1) from rfl];refine wp_seq ?_
 conv=>arg 2;whnf
 go_wp2_with fail
 change Code.wp Tryz.prog (raC 1) _ _ (zEV w a b l p);generalize zEV w a b l p=W0 at *;obtain⟨V,g⟩:∃V,V=w.heap.size:=⟨_,rfl⟩;have U:Hid (RaE a b l f p V W0):=by rw[g];exact e.o.1
 have d:=hId e.o.2;rw[show w.heap.size+1+1=V+2 by omega,show w.heap.size+1=V+1 by omega,<-g]
 clear g e;rw[show raC 1=.seq (zL (raC 1)) (raC 2) from rfl];refine wp_seq (zLO (hId (HL.o.below d.o nLe)) (hId fun ac W1 h1 j=>?_) (RaP.mk rfl))
 have b1:=zA d.o j d.o.size;refine zKA (hId (U.o.on j)) h1 (hId fun ac W2 q t X Y Z TR h2 m2 c2=>?_)
 have i:=zA b1 c2 b1.size;rw[show raC 8=.seq (zL (raC 8)) (raC 9) from rfl];refine wp_seq (zL2 (hId fun W' h=>m2.on h) (hId fun ac W3 h3 c3=>?_) h2)
 exact zLY (hId (zA i c3 i.size)) h3
end
section
open Go Go.RowKit
theorem oN {H:Type} {enc:TypeId×Value->H} {P:Program} {w:World} {base:Nat} {sp:Nat->Bool} {held:Bool} {d:Nat} {t:TypeId} {cs:List Value} {y:DataW H×List MemPlace} {g:Array (String×TypeId)}
  (e:P.underlying t=some (.interface g)) (h:DataW.trod enc P w base sp held d t cs=some y):∃v,cs=[v]/\(v=.nilIface\/∃j i,v=.iface j i):=by
 cases d with
 |zero=>cases h
 |succ d=>
  unfold DataW.trod at h;rw[e] at h
  split at h<;>simp_all
theorem sI {P:Program} {w:World} {e:String} {d:DataW Unit} {g:Nat} {t:TypeId} {ms:Array (String×TypeId)} (K:P.globalNamed e=some g) (u:(P.globals[g]?).map (·.type)=some t) (ht:P.underlying t=some (.interface ms))
  (h:laidMet P [(e,d)] w):∃j,w.cell? ⟨g,0,none⟩=some j/\(j=.nilIface\/∃te pe,j=.iface te pe):=by
 obtain⟨ps,⟨g',t',cs,J,p,q,m,s,i,O,_,_⟩,_⟩:=h;obtain rfl:=Option.some.inj (K.symm.trans m);obtain rfl:=Option.some.inj (u.symm.trans s);obtain⟨v,hv,U⟩:=oN ht O;refine⟨v,?_,U⟩
 have N:cs=#[v]:=by cases cs;simp_all
 subst N;exact(World.var?_cell K i 0).trans (by simp)
theorem zIe {W:World} (K:W.ShapedOpen Tryz.prog) (i:List (String×DataW Unit)) (h:laidMetH Tryz.prog i W)
  (J:((i.filter fun x=>x.1== "internal/strconv.uint64pow10").filter fun x=>x.2.handleName?.isNone)=[("internal/strconv.uint64pow10",Lib.tabData .u64 Lib.pow10Tab)])
  (j:∃d,((i.filter fun x=>x.1== "strconv.ErrSyntax").filter fun x=>x.2.handleName?.isNone)=[("strconv.ErrSyntax",d)])
  (m:∃d,((i.filter fun x=>x.1== "strconv.ErrRange").filter fun x=>x.2.handleName?.isNone)=[("strconv.ErrRange",d)]):xR W:=by
 have s:=(laidMetH_iff.1 (h.filter fun x=>x.1== "internal/strconv.uint64pow10")).1
 have u:=(laidMetH_iff.1 (h.filter fun x=>x.1== "strconv.ErrSyntax")).1
 have g3:=(laidMetH_iff.1 (h.filter fun x=>x.1== "strconv.ErrRange")).1
 obtain⟨N,j⟩:=j;obtain⟨O,m⟩:=m;rw[J] at s;rw[j] at u;rw[m] at g3
 exact⟨Lib.tabIs_of_head (g:=1) (t:=246) (e:=199) (n:=20) (by kernel_rfl) (by kernel_rfl) Tryz.underlying246 Tryz.underlying199 (by kernel_rfl) (by kernel_rfl) s,
  cell_of_shapedOpen_int (t:=3) (zero:=#[.int .i64 0]) K (of_decide_eq_true (by kernel_rfl)) (by kernel_rfl) (by rfl) (by kernel_rfl) (by kernel_rfl) Tryz.underlying3,
  sI (t:=142) (by kernel_rfl) (by kernel_rfl) Tryz.underlying142 u,sI (t:=142) (by kernel_rfl) (by kernel_rfl) Tryz.underlying142 g3⟩
theorem oL {H:Type} {enc:TypeId×Value->H} {a:Assume} {C:Checked} {os:Os} {f:FuncId} {N:Func} {s:ChangeSpec} {K:List PathCond} {d O m J:Bool} {X:World->Array Value->Prop}
  (hX:∀(w w':World) (args:Array Value),w.heap=w'.heap->X w args->X w' args)
  (own:ownKnob C.prog.godebug=none) (U:os.Started) (h2:C.prog.inits.idxOf? f=none) (hfn:C.prog.funcs[f]?=some N)
  (h0:∃(w:World) (g:Tape) (i:Input),w.os=os/\(w.forCall g i).Shaped C.prog/\i.vars=[]/\Input.okWide C.prog (w.forCall g i) .any w.heap.size f i/\
   ((s.pre enc C.prog N K d (w.forCall g i).memory i.args/\X (w.forCall g i).memory i.args)/\sizedMet enc C.prog N (OpenSpec.ofChange s) d (w.forCall g i).memory i.args)/\a.holds C.prog (lone (Frame.enter C.prog f i.args .normal) [] (w.forCall g i)))
  (u:∀(W:World) (base:Nat) (args:Array Value) (ds gs:List (DataW H)) (h:List MemPlace),W.ShapedOpen C.prog->
   (∀ (j:Nat) t v,N.params[j]?=some t->args[j]?=some v->Value.okWide C.prog W .any base t v)->
   DataW.Whole enc C.prog N.params.toList s.vars d W args.toList ds gs h->
   (DataW.weightsEach C.prog (N.params.toList++s.plain.varTypes C.prog) (ds++gs)).all (·<=reachBytes)=true->X W args->
   Calls C.prog f args W fun e W'=>∃v,e=.returned v/\s.post enc C.prog N d O m J W args v W'):
  ReturnsInHanded a C os f .any (fun w args=>(s.pre enc C.prog N K d w args/\X w args)/\sizedMet enc C.prog N (OpenSpec.ofChange s) d w args) (s.post enc C.prog N d O m J):=by
 refine returnsInHanded_of_calls own U h2 h0 ?_;intro w g i _ h1 _ hok h4 _;obtain⟨_,_,_,fn',h3,_,_,_,_,h5⟩:=hok;obtain rfl:fn'=N:=Option.some.inj (h3.symm.trans hfn);obtain⟨⟨⟨ds,gs,h,hw,_⟩,hx⟩,hz⟩:=h4
 refine(u (w.forCall g i) w.heap.size i.args ds gs h h1 h5 (DataW.Whole.of_heap (w':=w.forCall g i) (by rfl) hw) (hz.weights hw) (hX _ _ _ (by rfl) hx)).mono fun e W' ⟨v,he,hp⟩=>?_
 subst he;exact ChangeSpec.post_blind hp
end
section
open Go Go.ChangeShapes Go.WideShapes Go.ChangeAt Go.RowKit Go.Deep Go.Joins
theorem zEd {α:Type} {enc:α->List Value} {sz:Nat} (d:∀x,(enc x).length=sz) {w:World} {b:Nat}:∀(xs:List α) (off:Nat),
  (∀ (k:Nat) (e:k<xs.length) (i:Nat) (u:Value),(enc xs[k])[i]?=some u->w.cell? ⟨b,off+(k*sz+i),none⟩=some u)->
  ∀(j:Nat) (u:Value),(xs.flatMap enc)[j]?=some u->w.cell? ⟨b,off+j,none⟩=some u
 |[],_,_,j,u,hu=>by simp at hu
 |x::r,off,h,j,u,hu=>by
  rw[List.flatMap_cons] at hu
  rcases Nat.lt_or_ge j sz with hj|hj
  ·rw[List.getElem?_append_left (by rw[d];exact hj)] at hu
   have:=h 0 (by simp) j u (by simpa using hu)
   simpa using this
  rw[List.getElem?_append_right (by rw[d];exact hj),d] at hu
  have:=zEd d r (off+sz) (fun k e i v g=>by
   have:=h (k+1) (by simpa using e) i v (by simpa using g)
   rw[show off+sz+(k*sz+i)=off+((k+1)*sz+i) by rw[Nat.add_mul];omega]
   exact this) (j-sz) u hu
  rw[show off+sz+(j-sz)=off+j by omega] at this
  exact this
theorem zAZ {α:Type} {enc:α->List Value} {sz bt:Nat} (m:∀x,(enc x).length=sz) (hp:0<sz) {w:World} {a:Addr} {d e:Nat} (hl:d<=e) (hm:e<=maxLen) (hb:d*bt<=140737488351232)
  (hx:∀i,i<d->∃x:α,∀j u,(enc x)[j]?=some u->w.cell? (a.add (i*sz+j))=some u):∃xs:List α,xs.length=d/\SlE enc bt w 0 (some a) e xs:=by
 have J:∀i:Fin d,∃x:α,∀j u,(enc x)[j]?=some u->w.cell? (a.add (i.1*sz+j))=some u:=fun i=>hx i.1 i.2
 refine⟨List.ofFn fun i=>(J i).choose,by simp,⟨by simpa using hl,hm,by simpa using hb,fun O=>?_,Fz.zero⟩⟩
 have g:0<d:=by
  rcases Nat.eq_zero_or_pos d with h|h
  ·subst h;simp at O
  exact h
 obtain⟨b,off,s⟩:=a;have U:=(J ⟨0,g⟩).choose_spec 0 _ (List.getElem?_eq_getElem (by rw[m];exact hp))
 have N:=World.block_lt_of_cell? _ _ U
 have hs:s=none:=by
  have:=World.cell?_spot U
  simpa[Addr.add] using this
 subst hs;refine⟨b,off,rfl,Nat.zero_le _,by simpa[Addr.add] using N,zEd m _ off fun k hk i u hu=>?_⟩
 have K:k<d:=by simpa using hk
 have:=(J ⟨k,K⟩).choose_spec i u (by simpa using hu)
 rw[qI] at this;exact this
section
variable {H:Type} {enc:TypeId×Value->H} {P:Program} {w:World} {spare:Nat->Bool} {held:Bool}
theorem vB {e:TypeId} {fs:Array Field} {n base:Nat} {cs:List Value} {y:DataW H×List MemPlace} (J:P.underlying e=some (.struct fs)) (h:DataW.trod enc P w base spare held n e cs=some y) (j:Nat) (f:Field)
  (i:fs[j]?=some f) (ho:f.offset=j) (u:P.cellsOf f.type=1) (N:P.underlying f.type=some (.int .i64)):∃z,cs[j]?=some (.int .i64 z):=by
 obtain⟨ys,n',U,hy,m,g,K⟩:=DataW.trod_struct J h;have d:=K j f i;rw[ho,u] at d;have O:j<ys.length:=by rw[g];exact(gLt i)
 rw[List.getElem?_eq_getElem O] at d;obtain⟨z,hz,_⟩:=DataW.trod_int N d;have s:=congrArg (fun l=>l[0]?) hz
 exact⟨z,by simpa using s⟩
theorem zAT {t e:TypeId} {n:Nat} {v:Value} {y:DataW H×List MemPlace} (K:P.underlying t=some (.slice e)) (O:P.underlying e=some (.int .i64)) (N:P.cellsOf e=1) (d:P.bytesOf e=8)
  (h:DataW.trod enc P w 0 spare held n t [v]=some y) (hw:∀k∈y.1.weights P t,k<=reachBytes):∃A c xs,v=.slice A xs.length c/\zE w 0 A c xs:=by
 rcases open_ints K O N h with⟨hcs,_⟩|⟨a,len,cap,zs,hcs,_,hl,hm,hz,hx,hcell,_⟩
 ·simp only[List.cons.injEq,and_true] at hcs
  exact⟨none,0,[],hcs,⟨by simp,by omega,by simp,Rd.nil,Fz.no⟩⟩
 simp only[List.cons.injEq,and_true] at hcs;have hzl:len<=zs.length:=by rw[hz];split<;>omega
 have m:=hw (zs.length*8) (by
  rw[hx];simp only[DataW.weights,K,lits,List.length_map,List.length_take,List.length_drop,d];rw[show min len zs.length+(zs.length-len)=zs.length by omega]
  simp)
 obtain⟨xs,s,J⟩:=zAZ (enc:=fun n:Int=>[Value.int .i64 n]) (sz:=1) (bt:=8) (fun _=>rfl) (by decide) (w:=w) (a:=a) hl hm (by simp only[reachBytes] at m;omega) (fun i hi=>⟨zs.getD i 0,fun j u g=>by
  have U:j=0:=by
   have:=(List.getElem?_eq_some_iff.1 g).1
   simp at this
   exact this
  subst U
  simp at g
  subst g
  simpa using hcell i (by omega)⟩)
 exact⟨some a,cap,xs,by rw[hcs,s],J⟩
theorem zJv {t e K:TypeId} {n:Nat} {v:Value} {y:DataW H×List MemPlace} {O U f2 f3:Field} (ht:P.underlying t=some (.slice e)) (he:P.underlying e=some (.struct #[O,U,f2,f3])) (hc:P.cellsOf e=4) (hby:P.bytesOf e=32)
  (hi:P.underlying K=some (.int .i64)) (s:P.cellsOf K=1) (t0:O.type=K) (t1:U.type=K) (t2:f2.type=K) (t3:f3.type=K) (o0:O.offset=0) (o1:U.offset=1) (o2:f2.offset=2) (o3:f3.offset=3)
  (h:DataW.trod enc P w 0 spare held n t [v]=some y) (hw:∀k∈y.1.weights P t,k<=reachBytes):∃A c xs,v=.slice A xs.length c/\Nds w 0 A c xs:=by
 rcases open_slice ht h with⟨hcs,_⟩|⟨a,len,cap,m,n',D,Pl,hcs,_,hl,hm,hmm,hx,hel⟩
 ·simp only[List.cons.injEq,and_true] at hcs
  exact⟨none,0,[],hcs,⟨by simp,by omega,by simp,Rd.nil,Fz.no⟩⟩
 simp only[List.cons.injEq,and_true] at hcs;have hml:len<=m:=by rw[hmm];split<;>omega
 have hwt:=hw (m*32) (by
  rw[hx];simp only[DataW.weights,ht,List.length_map,List.length_range,hby];rw[show len+(m-len)=m by omega]
  simp)
 obtain⟨xs,hxl,hxs⟩:=zAZ (enc:=Nd.cells) (sz:=4) (bt:=32) (fun _=>rfl) (by decide) (w:=w) (a:=a) hl hm (by simp only[reachBytes] at hwt;omega) (fun i hi'=>by
  obtain⟨cs',N,J⟩:=hel i (by omega)
  rw[hc] at N;obtain⟨_,hcl,g⟩:=World.cells?_some N;obtain⟨z0,e0⟩:=vB he J 0 O rfl o0 (by rw[t0];exact s) (by rw[t0];exact hi)
  obtain⟨z1,e1⟩:=vB he J 1 U rfl o1 (by rw[t1];exact s) (by rw[t1];exact hi)
  obtain⟨z2,e2⟩:=vB he J 2 f2 rfl o2 (by rw[t2];exact s) (by rw[t2];exact hi)
  obtain⟨z3,e3⟩:=vB he J 3 f3 rfl o3 (by rw[t3];exact s) (by rw[t3];exact hi)
  refine⟨⟨z0,z1,z2,z3⟩,fun j u d=>?_⟩
  rw[<-Go.Deep.add_add]
  match j,d with
  |0,d=>rw[g 0 (by decide),e0];simpa[Nd.cells] using d
  |1,d=>rw[g 1 (by decide),e1];simpa[Nd.cells] using d
  |2,d=>rw[g 2 (by decide),e2];simpa[Nd.cells] using d
  |3,d=>rw[g 3 (by decide),e3];simpa[Nd.cells] using d
  |j+4,d=>simp[Nd.cells] at d)
 exact⟨some a,cap,xs,by rw[hcs,hxl],hxs⟩
end
end
end Go.Proofs.YtoglgeaiiipchaaGreatDoor
