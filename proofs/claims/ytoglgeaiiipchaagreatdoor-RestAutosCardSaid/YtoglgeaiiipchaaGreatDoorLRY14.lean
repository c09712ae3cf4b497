import Derived.Test.YtoglgeaiiipchaaGreatDoorLRY13
import Derived.Deep.LoopGhost
set_option linter.unusedSimpArgs false
set_option linter.unusedVariables false
set_option maxRecDepth 100000
set_option maxHeartbeats 8000000
namespace Go.Proofs.YtoglgeaiiipchaaGreatDoor
section
open Go Go.RowKit Go.Maps Go.Shelf
attribute [local go_sem] Oper.semAt_some
def ffT (Fd X P:Nat) (fv v7 v8:Value) (u:Nat->Value):Array Value:=#[.pointer (some ⟨Fd,0,none⟩),fv,.func (.func 107) #[] #[(⟨X,0,none⟩:Addr)],.pointer (some ⟨P,0,none⟩),.pointer (some ⟨P+1,0,none⟩),.pointer (some ⟨P+2,0,none⟩),.pointer (some ⟨P+3,0,none⟩),v7,v8,u 9,u 10,u 11,u 12,u 13,u 14,u 15,u 16,u 17,u 18,u 19,u 20,u 21,u 22,u 23,u 24,u 25,u 26,u 27,u 28,u 29,u 30,u 31,u 32,u 33,u 34,u 35,u 36,u 37,u 38,u 39,u 40,u 41,u 42,u 43,u 44,u 45,u 46,u 47,u 48,u 49,u 50,u 51,u 52,u 53,u 54,u 55,u 56,u 57,u 58]
def FfP (Fd X P:Nat) (fv v7 v8:Value) (ds:List Deferred) (a:Act):Prop:=∃u:Nat->Value,a={tmps:=ffT Fd X P fv v7 v8 u,defers:=ds}
theorem FfP.mk {Fd X P:Nat} {fv e g:Value} {d:List Deferred} {a:Act} (h:a={tmps:=ffT Fd X P fv e g (fun i=>a.tmps.getD i undef),defers:=d}):FfP Fd X P fv e g d a:=⟨_,h⟩
def fdW (w:World) (Fd X:Nat) (fv:Value):World:=(((((w.alloc (.cells #[(⟨Fd,0,none⟩:Addr)] 158)).alloc (.cells #[fv] 22)).alloc (.cells #[(.func (.func 107) #[] #[(⟨X,0,none⟩:Addr)])] 77)).alloc (.cells #[(0:Int)] 3)).alloc (Obj.map #[] 0)).setCell ⟨Fd,1,none⟩ (.map (some (w.heap.size+4)))
structure FdW (w:World) (Fd X VA P:Nat) (fv:Value) (W:World):Prop where
 p:P=w.heap.size
 size:W.heap.size=P+5
 old:∀k,k<P->k≠Fd->W.heap[k]?=w.heap[k]?
 fd:W.heap[Fd]?=some (.cells #[(.func (.func 89) #[] #[(⟨VA,0,none⟩:Addr)]),.map (some (P+4))] 161 (0,0))
 p0:Boxed W P 158 (.pointer (some ⟨Fd,0,none⟩))
 q:Boxed W (P+1) 22 fv
 dn:Boxed W (P+2) 77 (.func (.func 107) #[] #[(⟨X,0,none⟩:Addr)])
 r:Boxed W (P+3) 3 (.int .i64 0)
 m:jL W (P+4) []
 os:W.os=w.os
 tape:W.tape=w.tape
 output:W.output=w.output
theorem zKr (w:World) (Fd X m:Nat) (fv j:Value) (g:w.heap[Fd]?=some (.cells #[(.func (.func 89) #[] #[(⟨m,0,none⟩:Addr)]),j] 161 (0,0))):FdW w Fd X m w.heap.size fv (fdW w Fd X fv):=by
 have J:Fd<w.heap.size:=(gLt g)
 unfold fdW;have N:=World.alloc_heap_new w (.cells #[(⟨Fd,0,none⟩:Addr)] 158);have b1:Below w w (w.alloc (.cells #[(⟨Fd,0,none⟩:Addr)] 158)):=bLa
 have s1:(w.alloc (.cells #[(⟨Fd,0,none⟩:Addr)] 158)).heap.size=w.heap.size+1:=by simp
 generalize w.alloc (.cells #[(⟨Fd,0,none⟩:Addr)] 158)=W1 at *;have O:=World.alloc_heap_new W1 (.cells #[fv] 22);have e:Below W1 W1 (W1.alloc (.cells #[fv] 22)):=bLa
 have s2:(W1.alloc (.cells #[fv] 22)).heap.size=W1.heap.size+1:=by simp
 generalize W1.alloc (.cells #[fv] 22)=W2 at *;have U:=World.alloc_heap_new W2 (.cells #[(.func (.func 107) #[] #[(⟨X,0,none⟩:Addr)])] 77)
 have b3:Below W2 W2 (W2.alloc (.cells #[(.func (.func 107) #[] #[(⟨X,0,none⟩:Addr)])] 77)):=bLa
 have s3:(W2.alloc (.cells #[(.func (.func 107) #[] #[(⟨X,0,none⟩:Addr)])] 77)).heap.size=W2.heap.size+1:=by simp
 generalize W2.alloc (.cells #[(.func (.func 107) #[] #[(⟨X,0,none⟩:Addr)])] 77)=W3 at *;have n4:=World.alloc_heap_new W3 (.cells #[(0:Int)] 3);have b4:Below W3 W3 (W3.alloc (.cells #[(0:Int)] 3)):=bLa
 have s4:(W3.alloc (.cells #[(0:Int)] 3)).heap.size=W3.heap.size+1:=by simp
 generalize W3.alloc (.cells #[(0:Int)] 3)=W4 at *;have n5:=World.alloc_heap_new W4 (Obj.map #[] 0);have b5:Below W4 W4 (W4.alloc (Obj.map #[] 0)):=bLa
 have s5:(W4.alloc (Obj.map #[] 0)).heap.size=W4.heap.size+1:=by simp
 have s:=jL.made W4;generalize W4.alloc (Obj.map #[] 0)=W5 at *;have d:∀k,k≠Fd->(W5.setCell ⟨Fd,1,none⟩ (.map (some (w.heap.size+4)))).heap[k]?=W5.heap[k]?:=fun k h=>Below.heap_setCell _ _ _ _ h
 have i:∀k,k<w.heap.size->W5.heap[k]?=w.heap[k]?:=fun k h=>by
  rw[b5.block k (by omega),b4.block k (by omega),b3.block k (by omega),e.block k (by omega),b1.block k h]
 refine⟨rfl,by simp[World.setCell];omega,fun k h K=>(d k K).trans (i k h),?_,?_,?_,?_,?_,?_,?_,?_,?_⟩
 ·have u:=(i Fd J).trans g
  simp[World.setCell,Array.getElem?_modify,u]
 ·show(W5.setCell _ _).heap[w.heap.size]?=_
  rw[d _ (by omega),b5.block _ (by omega),b4.block _ (by omega),b3.block _ (by omega),e.block _ (by omega)]
  exact N
 ·show(W5.setCell _ _).heap[w.heap.size+1]?=_
  rw[d _ (by omega),show w.heap.size+1=W1.heap.size by omega,b5.block _ (by omega),b4.block _ (by omega),b3.block _ (by omega)]
  exact O
 ·show(W5.setCell _ _).heap[w.heap.size+2]?=_
  rw[d _ (by omega),show w.heap.size+2=W2.heap.size by omega,b5.block _ (by omega),b4.block _ (by omega)]
  exact U
 ·show(W5.setCell _ _).heap[w.heap.size+3]?=_
  rw[d _ (by omega),show w.heap.size+3=W3.heap.size by omega,b5.block _ (by omega)]
  exact n4
 ·rw[show W4.heap.size=w.heap.size+4 by omega] at s
  obtain⟨es,c,x1,x2⟩:=s;exact⟨es,c,(d _ (by omega)).trans x1,x2⟩
 ·exact((((b5.os.trans b4.os).trans b3.os).trans e.os).trans b1.os)
 ·exact((((b5.tape.trans b4.tape).trans b3.tape).trans e.tape).trans b1.tape)
 exact((((b5.output.trans b4.output).trans b3.output).trans e.output).trans b1.output)
structure eZ (a:Au) (fr:List Int) (n:Int) (Fd VA:Nat) (fv:Value) (w:World) (e:Ending) (w':World):Prop where
 is:∃(r:Int) (D:List (Int×Stp)) (M:Nat),e=.returned r/\aK a fr (fun k=>k==n) r D/\jL w' M D/\w'.heap[Fd]?=some (.cells #[(.func (.func 89) #[] #[(⟨VA,0,none⟩:Addr)]),.map (some M)] 161 (0,0))/\w.heap.size<=M
 os:w'.os=w.os
 tape:w'.tape=w.tape
 output:w'.output=w.output
 size:w.heap.size<=w'.heap.size
 block:∀k,k<w.heap.size->k≠Fd->fv.ownBlock≠some k->w'.heap[k]?=w.heap[k]?
theorem iJ (a:Au) (fr:List Int) (n r:Int) (Fd J P:Nat) (fv:Value) (w W:World) (D:List (Int×Stp)) (K:List Deferred) (tmps:Array Value) (hp:tmps[6]?=some (.pointer (some ⟨P+3,0,none⟩))) (hP:P=w.heap.size)
  (hr:Boxed W (P+3) 3 r) (hb:jL W (P+4) D) (N:W.heap[Fd]?=some (.cells #[(.func (.func 89) #[] #[(⟨J,0,none⟩:Addr)]),.map (some (P+4))] 161 (0,0))) (hs:aK a fr (fun k=>k==n) r D)
  (ht:W.os=w.os/\W.tape=w.tape/\W.output=w.output/\w.heap.size<=W.heap.size/\∀k,k<w.heap.size->k≠Fd->fv.ownBlock≠some k->W.heap[k]?=w.heap[k]?) (hm:zBH (P+5) W K):
  LeavesInM Fence.wide 9 Tryz.prog Tryz.f108 tmps (eZ a fr n Fd J fv w) K .returning W:=by
 refine fH (v:=undef) (B:=P+5) (I:=fun _ W=>Boxed W (P+3) 3 r/\jL W (P+4) D/\W.heap[Fd]?=some (.cells #[(.func (.func 89) #[] #[(⟨J,0,none⟩:Addr)]),.map (some (P+4))] 161 (0,0))/\(W.os=w.os/\W.tape=w.tape/\W.output=w.output/\w.heap.size<=W.heap.size/\∀k,k<w.heap.size->k≠Fd->fv.ownBlock≠some k->W.heap[k]?=w.heap[k]?)) ?_ ?_ K W hm ⟨hr,hb,N,ht⟩
 ·rintro _ A' B' row ⟨m,O,s,U,i5,i6,u,i8⟩ d g
  have cl:∀{k:Nat} {o:Obj},A'.heap[k]?=some o->o.isCells=true->B'.heap[k]?=A'.heap[k]?:=fun{k o} h ho=>d.block k (gLt h) (fun e=>by
   obtain⟨_,o',i,j⟩:=g k e.symm;rw[h] at i;rw[<-Option.some.inj i,ho] at j
   cases j)
  exact⟨(cl m rfl).trans m,O.kept d (fun e=>by have:=(g _ e.symm).1;omega),(cl s rfl).trans s,d.os.trans U,d.tape.trans i5,d.output.trans i6,Nat.le_trans u d.size,fun k h i j=>(d.block k (Nat.lt_of_lt_of_le h u) (fun e=>by have:=(g k e.symm).1;omega)).trans (i8 k h i j)⟩
 rintro W ⟨m,O,s,U,i5,i6,u,i8⟩;refine⟨.int .i64 r,?_,⟨r,D,P+4,rfl,hs,O,s,by omega⟩,U,i5,i6,u,i8⟩
 have c:=m.cell
 simp[results,Tryz.results108,go_sem,hp,c]
theorem zKN (a:Au) (A B C:Option Addr) (ca cb cc VA Fd X:Nat) (n:Int) (fr:List Int) (fv byv:Value) (w0 w:World) (hb0:Below w0 w0 w) (hss:jZ w0 0 C cc a.ss) (hf:jT a) (hst:a.st<=1000000) (hsa:a.ss.length<=1000000) (hfl:fr.length<=1000000)
  (hAu:yG w VA a A B C ca cb cc) (hFd:w.heap[Fd]?=some (.cells #[(.func (.func 89) #[] #[(⟨VA,0,none⟩:Addr)]),byv] 161 (0,0))) (hX:w.cell? ⟨X,0,none⟩=some (.int .i64 n)) (hXl:X<w.heap.size) (hlF:w0.heap.size<=Fd)
  (hq:vH w w0.heap.size fv fr) (hnv:∀k∈[VA,Fd,X],fv.ownBlock≠some k) (hne:VA≠Fd/\X≠Fd):
  Calls Tryz.prog 108 #[(⟨Fd,0,none⟩:Addr),fv,.func (.func 107) #[] #[(⟨X,0,none⟩:Addr)]] w (eZ a fr n Fd VA fv w):=by
 obtain⟨fA,fc,rfl,hfc,hfc2⟩:=hq.form;have hmm:=@run_makeMap Tryz.prog;have HFW:=hId (zKr w Fd X VA (.slice fA fr.length fc) byv hFd)
 have hfd0:w.frozen? ⟨Fd,1,none⟩=false/\(w.cell? ⟨Fd,1,none⟩).isSome=true:=by simp[World.frozen?,World.cell?,hFd]
 have hFl:Fd<w.heap.size:=(gLt hFd)
 obtain⟨ff,fs⟩:=hfd0;have HSS:=hId hss;have HB0:=hId hb0;have HF:=hId hf;have HAU:=hId hAu;have HQ:=hId hq;have HX:=hId hX;have HNV:=hId hnv;have HNE:=hId hne
 have cfd:w.cell? ⟨Fd,1,none⟩=some byv:=by simp[World.cell?,hFd]
 have hbx:Below w w (((((w.alloc (.cells #[(⟨Fd,0,none⟩:Addr)] 158)).alloc (.cells #[.slice fA fr.length fc] 22)).alloc (.cells #[(.func (.func 107) #[] #[(⟨X,0,none⟩:Addr)])] 77)).alloc (.cells #[(0:Int)] 3)).alloc (Obj.map #[] 0)):=((((Below.refl _ w).alloc nLe _).alloc (by simp) _).alloc (by simp;omega) _).alloc (by simp;omega) _ |>.alloc (by simp;omega) _
 have cf5:=(hbx.cell (p:=⟨Fd,1,none⟩) hFl).trans cfd;have ff5:=(hbx.frozen (p:=⟨Fd,1,none⟩) hFl).trans ff;clear hss hb0 hf hAu hq hX hnv hne hFd hbx;refine(callsIn_wide (n:=9)).1 ?_
 refine callsIn_of_wp_marks Tryz.func108 rfl trivial ?_
 simp only[Tryz.ntmps108,List.size_toArray,List.length_cons,List.length_nil,Nat.reduceAdd,Nat.reduceSub,Array.replicate_succ,Array.replicate_zero,List.push_toArray,List.append_toArray,List.nil_append,List.cons_append]
 gi_wp2
 show Code.wpIn _ _ _ _ _ _ (fdW w Fd X (.slice fA fr.length fc));obtain⟨P,hP⟩:∃P,P=w.heap.size:=⟨_,rfl⟩;simp only[Nat.add_assoc,Nat.reduceAdd];rw[<-hP] at HFW ⊢;have HP:=hId hP;clear hP hmm cf5 ff5 cfd ff fs
 generalize fdW w Fd X (.slice fA fr.length fc)=W1 at *
 have HCO:Hid (FnC w0.heap.size (P+1) (P+4) (P+3) [] fr (.slice fA fr.length fc) W1):=by
  have hs:=HB0.o.size;have hp:=HP.o
  refine⟨HFW.o.q,HQ.o.heap fun k hk=>HFW.o.old k (by rw[hp];exact(HQ.o.lt k hk).2) (fun e=>HNV.o Fd (by simp) (by rw[hk,e])),HFW.o.m,⟨0,HFW.o.r⟩,by omega,by omega,by omega,fun e=>by have:=(HQ.o.lt _ e).2;omega⟩
 have HGD:Hid (∀ k,k∈[VA,Fd,X,P,P+2]->yC w0.heap.size [P+4,P+3] [P+1] W1 k):=fun k hk=>by
  have hp:=HP.o;have hsz:=HFW.o.size;have hva:=HAU.o.lt
  have key:k<W1.heap.size/\k≠P+4/\k≠P+3/\k≠P+1/\(Value.slice fA fr.length fc).ownBlock≠some k:=by
   simp only[List.mem_cons,List.not_mem_nil,or_false] at hk
   rcases hk with rfl|rfl|rfl|rfl|rfl
   ·exact⟨by omega,by omega,by omega,by omega,HNV.o _ (by simp)⟩
   ·exact⟨by omega,by omega,by omega,by omega,HNV.o _ (by simp)⟩
   ·exact⟨by omega,by omega,by omega,by omega,HNV.o _ (by simp)⟩
   ·exact⟨by omega,by omega,by omega,by omega,fun e=>by have:=(HQ.o.lt _ e).2;omega⟩
   exact⟨by omega,by omega,by omega,by omega,fun e=>by have:=(HQ.o.lt _ e).2;omega⟩
  obtain⟨k1,k2,k3,k4,k5⟩:=key
  exact⟨k1,fun hb=>by
   rcases HCO.o.bad.1 hb with h|h|h|h
   ·exact k2 h
   ·exact k3 h
   ·exact k4 h
   exact k5 h⟩
 have HLO:Hid (Below w0 w0 W1):=by
  have hp:=HP.o;have hsz:=HFW.o.size;have hs:=HB0.o.size;exact HB0.o.trans ⟨HFW.o.os,HFW.o.tape,HFW.o.output,by omega,fun k hk=>HFW.o.old k (by omega) (by omega)⟩
 have HKK:Hid (∀ W,Off w0.heap.size [P+4,P+3] [P+1] W1 W->yG W VA a A B C ca cb cc/\W.cell? ⟨X,0,none⟩=some (.int .i64 n)/\W.heap[Fd]?=some (.cells #[(.func (.func 89) #[] #[(⟨VA,0,none⟩:Addr)]),.map (some (P+4))] 161 (0,0))/\W.cell? ⟨P,0,none⟩=some (.pointer (some ⟨Fd,0,none⟩))/\W.cell? ⟨P+2,0,none⟩=some (.func (.func 107) #[] #[(⟨X,0,none⟩:Addr)])/\jZ W 0 C cc a.ss/\Below w0 w0 W):=fun W ho=>by
  have hp:=HP.o;have hva:=HAU.o.lt;have b1:=HLO.o.trans (ho.below HCO.o.sane HLO.o.size);have o1:∀k,k<P->k≠Fd->∀o,W1.cell? ⟨k,o,none⟩=w.cell? ⟨k,o,none⟩:=fun k hk hn o=>zP (HFW.o.old k hk hn) o
  have a1:yG W1 VA a A B C ca cb cc:=by
   have h:=fun o=>o1 VA (by omega) HNE.o.1 o
   exact⟨(HGD.o VA (by simp)).lt,(h 0).trans HAU.o.c0,(h 1).trans HAU.o.c1,(h 2).trans HAU.o.c2,(h 3).trans HAU.o.c3,(h 4).trans HAU.o.c4⟩
  refine⟨a1.off (HGD.o VA (by simp)) ho,((HGD.o X (by simp)).cell ho).trans ((o1 X (by omega) HNE.o.2 0).trans HX.o),(ho.block Fd (HGD.o Fd (by simp)).lt (HGD.o Fd (by simp)).not).trans HFW.o.fd,((HGD.o P (by simp)).cell ho).trans HFW.o.p0.cell,((HGD.o (P+2) (by simp)).cell ho).trans HFW.o.dn.cell,HSS.o.below b1,b1⟩
 have HTC:Hid (∀ W,Off w0.heap.size [P+4,P+3] [P+1] W1 W->W.os=w.os/\W.tape=w.tape/\W.output=w.output/\w.heap.size<=W.heap.size/\∀k,k<w.heap.size->k≠Fd->(Value.slice fA fr.length fc).ownBlock≠some k->W.heap[k]?=w.heap[k]?):=fun W ho=>by
  have hp:=HP.o;have hsz:=HFW.o.size
  refine⟨ho.os.trans HFW.o.os,ho.tape.trans HFW.o.tape,ho.output.trans HFW.o.output,by have:=ho.size;omega,fun k hk j J=>(ho.block k (by omega) fun hb=>?_).trans (HFW.o.old k (by omega) j)⟩
  rcases HCO.o.bad.1 hb with h|h|h|h
  ·omega
  ·omega
  ·omega
  exact J h
 refine wpIn_loop_ghost (fun gn aa W=>∃(D:List (Int×Stp)) (left:List Int) (v v7 v8:Value) (ds:List Deferred),FfP Fd X P (.slice fA fr.length fc) v7 v8 ds aa/\Hid (FnC w0.heap.size (P+1) (P+4) (P+3) D left v W)/\Hid (FnM a fr (fun k=>k==n) D left gn none)/\Hid (Off w0.heap.size [P+4,P+3] [P+1] W1 W)/\Hid (wO w0.heap.size (P+5) [P+4,P+3] [P+1] W ds)/\Hid (gn<=a.st.toNat+fr.length)) (a.st.toNat+fr.length)
  ⟨[],fr,(.slice fA fr.length fc),_,_,[],FfP.mk rfl,HCO.o,FnM.start a fr _,Off.refl HCO.o.sane,wO.nil _ _ _ _ _,nLe⟩ ?_
 rintro gn aa wr ⟨D,left,v,v7,v8,ds,hfr,HC,HM,HO,HMK,HGN⟩;obtain⟨u,rfl⟩:=hfr;unfold ffT
 cases left with
 |nil=>
  obtain⟨lA,lc,rfl,hlc,hlc2⟩:=HC.o.q.form;have cQ:=HC.o.box.cell;obtain⟨r0,hr0⟩:=HC.o.res;have cR:=hr0.cell;have fR:=hr0.frozen
  have HFI:Hid (∀ W,W=wr.setCell ⟨P+3,0,none⟩ (.int .i64 (-1))->Boxed W (P+3) 3 (.int .i64 (-1))/\jL W (P+4) D/\W.heap[Fd]?=some (.cells #[(.func (.func 89) #[] #[(⟨VA,0,none⟩:Addr)]),.map (some (P+4))] 161 (0,0))/\Off w0.heap.size [P+4,P+3] [P+1] W1 W/\wO w0.heap.size (P+5) [P+4,P+3] [P+1] W ds):=fun W hW=>by
   subst hW;have far:∀k,k≠P+3->(wr.setCell ⟨P+3,0,none⟩ (.int .i64 (-1))).heap[k]?=wr.heap[k]?:=fun k hk=>Below.heap_setCell _ _ _ _ hk
   have hb2:jL (wr.setCell ⟨P+3,0,none⟩ (.int .i64 (-1))) (P+4) D:=by
    obtain⟨es,c,x1,x2⟩:=HC.o.by_;exact⟨es,c,(far _ (by omega)).trans x1,x2⟩
   have hC2:FnC w0.heap.size (P+1) (P+4) (P+3) D [] (.slice lA 0 lc) (wr.setCell ⟨P+3,0,none⟩ (.int .i64 (-1))):=
    ⟨(far _ (by omega)).trans HC.o.box,HC.o.q.heap fun k hk=>far k (fun e=>HC.o.qr (by rw[hk,e])),hb2,⟨-1,hr0.set _⟩,HC.o.lQ,HC.o.lM,HC.o.lR,HC.o.qr⟩
   have ho2:Off w0.heap.size [P+4,P+3] [P+1] wr (wr.setCell ⟨P+3,0,none⟩ (.int .i64 (-1))):=HC.o.off hC2 rfl rfl rfl (by simp[World.setCell]) (fun k _ _ J _ _=>far k J) (.inl rfl)
   exact⟨hr0.set _,hb2,(HKK.o _ (HO.o.trans ho2)).2.2.1,HO.o.trans ho2,HMK.o.off ho2⟩
  have HFS:Hid (aK a fr (fun k=>k==n) (-1) D):=aK.no HM.o
  clear hr0
  gi_wp2
  obtain⟨f1,f2,f3,f4,f5⟩:=HFI.o _ rfl;exact iJ a fr n (-1) Fd VA P _ w _ D ds _ rfl HP.o f1 f2 f3 HFS.o (HTC.o _ f4) f5.marks
 |cons x q=>
  obtain⟨g,off,cap,rfl,hcap,hcap2,cx,hq2⟩:=HC.o.q.pop;have cQ:=HC.o.box.cell;have fQ:=HC.o.box.frozen;obtain⟨hM1,hg0⟩:=HM.o.pop;have HM1:=hId hM1;have HG0:=hId hg0;obtain⟨-,-,-,cP,-,-,-⟩:=HKK.o _ HO.o
  have hlq:q.length<=10000000:=by
   have j:=hM1.few;have J:=HGN.o;omega
  have hFP:Fd<P:=by have:=HP.o;omega
  have hsp:(cap=1/\vH wr w0.heap.size (Value.slice (some ⟨g,off,none⟩) 0 0) q)\/(cap≠1/\vH wr w0.heap.size (Value.slice (some ⟨g,off+1,none⟩) q.length (cap-1)) q):=by
   by_cases hc:cap=1
   ·subst hc
    rw[if_pos rfl,show q.length=0 by omega] at hq2
    exact .inl ⟨rfl,hq2⟩
   rw[if_neg hc] at hq2;exact .inr ⟨hc,hq2⟩
  clear hM1 hg0
  rcases hsp with⟨rfl,hq3⟩|⟨hc1,hq3⟩
  case' inl=>(
   have HC2:Hid (FnC w0.heap.size (P+1) (P+4) (P+3) D q (Value.slice (some ⟨g,off,none⟩) 0 0) (wr.setCell ⟨P+1,0,none⟩ (Value.slice (some ⟨g,off,none⟩) 0 0))):=HC.o.set hq3 rfl
   have HO2:Hid (Off w0.heap.size [P+4,P+3] [P+1] wr (wr.setCell ⟨P+1,0,none⟩ (Value.slice (some ⟨g,off,none⟩) 0 0))):=HC.o.off HC2.o rfl rfl rfl (by simp[World.setCell]) (fun k _ _ _ h3 _=>Below.heap_setCell _ _ _ _ h3) (.inl rfl)
   have cF2:(wr.setCell ⟨P+1,0,none⟩ (Value.slice (some ⟨g,off,none⟩) 0 0)).cell? ⟨Fd,0,none⟩=some (.func (.func 89) #[] #[(⟨VA,0,none⟩:Addr)]):=by
    have:=(HKK.o _ (HO.o.trans HO2.o)).2.2.1
    simp[World.cell?,this]
   clear hq3 hq2
   gi_wp2
   generalize (Value.slice (some ⟨g,off,none⟩) 0 0)=v2 at *)
  case' inr=>(
   have HC2:Hid (FnC w0.heap.size (P+1) (P+4) (P+3) D q (Value.slice (some ⟨g,off+1,none⟩) q.length (cap-1)) (wr.setCell ⟨P+1,0,none⟩ (Value.slice (some ⟨g,off+1,none⟩) q.length (cap-1)))):=HC.o.set hq3 rfl
   have HO2:Hid (Off w0.heap.size [P+4,P+3] [P+1] wr (wr.setCell ⟨P+1,0,none⟩ (Value.slice (some ⟨g,off+1,none⟩) q.length (cap-1)))):=HC.o.off HC2.o rfl rfl rfl (by simp[World.setCell]) (fun k _ _ _ h3 _=>Below.heap_setCell _ _ _ _ h3) (.inl rfl)
   have cF2:(wr.setCell ⟨P+1,0,none⟩ (Value.slice (some ⟨g,off+1,none⟩) q.length (cap-1))).cell? ⟨Fd,0,none⟩=some (.func (.func 89) #[] #[(⟨VA,0,none⟩:Addr)]):=by
    have:=(HKK.o _ (HO.o.trans HO2.o)).2.2.1
    simp[World.cell?,this]
   clear hq3 hq2
   gi_wp2
   generalize (Value.slice (some ⟨g,off+1,none⟩) q.length (cap-1))=v2 at *)
  all_goals
   refine⟨trivial,?_⟩;have HK2:=hId (HO.o.trans HO2.o);have hH2:=HKK.o _ HK2.o;refine(callsIn_wide.2 (zCg a A B C ca cb cc VA x (wr.setCell ⟨P+1,0,none⟩ v2) hH2.1 hH2.2.2.2.2.2.1 HF.o.so hsa)).mono ?_
   rintro e w3 ⟨X3,Y3,i3,rfl,hX3,hY3,hS3,hLB3,hb3⟩;have hF3:=Off.of_below HC2.o.sane hb3;have HO3:=hId (HK2.o.trans hF3);have HC3:=hId (HC2.o.on hb3);have HMK3:=hId ((HMK.o.off HO2.o).off hF3)
   have hH3:=HKK.o _ HO3.o;have HGVA3:=hId ((HGD.o VA (by simp)).off HO3.o)
   have HGX3:Hid (yC w0.heap.size [P+4,P+3] [P+1] w3 X3):=yC.new HC2.o.sane hb3 hX3 hS3.lx
   have HGY3:Hid (yC w0.heap.size [P+4,P+3] [P+1] w3 Y3):=yC.new HC2.o.sane hb3 hY3 hS3.ly
   have nb3:∀k,yC w0.heap.size [P+4,P+3] [P+1] w3 k->¬Bad [w3.heap.size+1,P+4,P+3] [P+1] w3 k:=fun k hk h=>h.of_cons.elim (fun h=>by have:=hk.lt;omega) hk.not
   have hQ3:P+1<w3.heap.size:=HC3.o.box.lt
   have hM3:P+4<w3.heap.size:=HC3.o.by_.lt
   have HSQ:=hId (pP a A B C ca cb cc VA X3 Y3 i3 x [w3.heap.size+1,P+4,P+3] [P+1] w0 w3 hH3.1 (nb3 _ HGVA3.o) HSS.o hH3.2.2.2.2.2.2 hS3.x hS3.y hS3.lx hS3.ly (fun k hk=>by rw[List.mem_singleton.1 hk];exact hQ3) (nb3 _ HGX3.o) (nb3 _ HGY3.o) HF.o.so hsa hLB3 8 (by omega))
   clear hX3 hY3 hS3 hLB3 hb3 hF3 hH2 hH3 cF2 cQ fQ cx cP
   gi_wp2
   refine wF (gf:=93) (lb:=#[.pointer (some ⟨VA,0,none⟩),.pointer (some ⟨X3,0,none⟩),.pointer (some ⟨Y3,0,none⟩)]) (by omega) rfl (enters_of Tryz.func93 (by kernel_rfl) rfl)
    HSQ.o
    (fun j J=>j.trans J) ?kb ?sane bRf (fun _=>rfl)
    (fun pre W'=>(∃ D left v,Hid (FnC w0.heap.size (P+1) (P+4) (P+3) D left v W')/\Hid (FnM a fr (fun k=>k==n) D left (gn-1) (some x))/\Hid (∀ y∈pre,y.t∈D.map Prod.fst))/\Hid (Off w0.heap.size [P+4,P+3] [P+1] w3 W'))
    (fun c pre W'=>c=.ret/\(∃r:Int,∃ D left v,Hid (FnC w0.heap.size (P+1) (P+4) (P+3) D left v W')/\Hid (Boxed W' (P+3) 3 r)/\Hid (aK a fr (fun k=>k==n) r D))/\Hid (Off w0.heap.size [P+4,P+3] [P+1] w3 W'))
    ?hI ?hIx ?h0
    (fun s a' W'=>∃Yb,kX w0.heap.size [P+4,P+3] [P+1] W'/\yC w0.heap.size [P+4,P+3] [P+1] W' Yb/\W'.heap[Yb]?=some (.cells #[s.f,s.l,s.t] 80)/\FfP Fd X P (.slice fA fr.length fc) x (.pointer (some ⟨Yb,0,none⟩)) [] a')
    ?hAx ?assign ?body ?done ?stop
   case kb=>
    intro W' r r' h hs;exact Off.put hs (List.mem_cons_self ..) h rfl rfl
   case sane=>
    intro r;have j:Below w3 w3 ((w3.alloc (.deferred (some []))).alloc (.loop r)):=(bLa).alloc (by simp) _
    exact(Off.of_below HO3.o.sane j).sane.cons (by have:=HLO.o.size;have:=HO3.o.size;omega) (by simp)
   case hI=>
    rintro pre A' B' rw⟨⟨D',l',v',j,J,h3⟩,O⟩ hg hrw;exact⟨⟨D',l',v',j.o.own hg (fun r hr=>⟨by have:=(hrw r hr).1;omega,(hrw r hr).2⟩),J,h3⟩,O.o.own (fun k hk=>by rw[List.mem_singleton.1 hk];exact hQ3) hg hrw⟩
   case hIx=>
    rintro c pre A' B' rw⟨hc,⟨r,D',l2,v2',j,J,h3⟩,O⟩ hg hrw
    refine⟨hc,⟨r,D',l2,v2',j.o.own hg (fun r hr=>⟨by have:=(hrw r hr).1;omega,(hrw r hr).2⟩),?_,h3⟩,O.o.own (fun k hk=>by rw[List.mem_singleton.1 hk];exact hQ3) hg hrw⟩
    have h2':A'.heap[P+3]?=_:=J.o
    exact(hg.block (P+3) J.o.lt (fun e=>by
     obtain⟨_,o',h5,h6⟩:=hrw _ e.symm;rw[h2'] at h5;rw[<-Option.some.inj h5] at h6
     cases h6)).trans h2'
   case h0=>exact⟨⟨D,q,v2,HC3.o,HM1.o,fun y hy=>by cases hy⟩,Off.refl HC3.o.sane⟩
   case hAx=>
    rintro s a' _ A' B' rw⟨Yb,h0,j,J,h3⟩ hg hrw;have hF:∀F∈[P+1],F<w3.heap.size:=fun k hk=>by rw[List.mem_singleton.1 hk];exact hQ3
    refine⟨Yb,h0.own hF hg hrw,j.own hF h0 hg hrw,(hg.block Yb j.lt fun e=>?_).trans J,h3⟩
    obtain⟨_,o',O,h5⟩:=hrw _ e.symm;rw[J] at O;rw[<-Option.some.inj O] at h5;cases h5
   case assign=>
    rintro l' pre s W' KK ⟨⟨D',l1,v',j,J,h3⟩,O⟩ hKK;have HKK2:=hId hKK;have hb1:Below W' W' (W'.alloc (.cells #[s.f,s.l,s.t] 80)):=bLa;have HF1:=hId (Off.of_below O.o.sane hb1)
    have HG1:Hid (yC w0.heap.size [P+4,P+3] [P+1] (W'.alloc (.cells #[s.f,s.l,s.t] 80)) W'.heap.size):=yC.new O.o.sane hb1 nLe (by simp)
    have HB1:=hId hb1;clear hKK hb1
    gi_wp2
    exact HKK2.o _ _ ((KeepsOthers.alloc _ _).from _) (KpO.of_below HB1.o) ⟨⟨D',l1,v',j.o.on HB1.o,J,h3⟩,O.o.trans HF1.o⟩ ⟨W'.heap.size,HF1.o.sane,HG1.o,World.alloc_heap_new _ _,FfP.mk rfl⟩
   case body=>
    rintro l' pre s a' W' hl' hrec ⟨⟨D',l1,v',j,J,h3⟩,O⟩ ⟨Yb,hsn,hgd,hyb,hfr⟩ hpre;obtain⟨u2,rfl⟩:=hfr;unfold ffT;have HO5:=hId (HO3.o.trans O.o);obtain⟨-,cX,hfd,cP,cDn,-,-⟩:=HKK.o _ HO5.o
    have cFd:W'.cell? ⟨Fd,1,none⟩=some (.map (some (P+4))):=by simp[World.cell?,hfd]
    have cY:W'.cell? ⟨Yb,2,none⟩=some (.int .i64 s.t):=by simp[World.cell?,hyb]
    have hPl:P<W'.heap.size:=by have:=HO5.o.size;have:=HFW.o.size;omega
    have hFl2:Fd<W'.heap.size:=by omega
    have hYl:=hgd.lt;obtain⟨hsa2,hsx⟩:=List.mem_filter.1 (hpre.subset (List.mem_append_right _ (List.mem_singleton.2 rfl)));have hsx2:s.f=x:=by simpa using hsx
    have hstr:=(HF.o.sr s hsa2).2.1;have hwf:(Lit.int .i64 s.t).wf=true:=WalkArith.wf_i64 (by omega)
    have HSA:=hId hsa2;have HSX:=hId hsx2;have HST:=hId hstr;have HC1:=hId j.o;have HMM:=hId J.o;have HPR:=hId h3.o;have HO1:=hId O.o;have HGY:=hId hgd;have HYB:=hId hyb;have hnd:=J.o.by_.nd
    clear hsn hgd hyb hpre hsa2 hsx hsx2 hstr j J h3 O hfd
    by_cases hm:s.t∈D'.map Prod.fst
    ·obtain⟨⟨k2,s2⟩,hp,hk2⟩:=List.mem_map.1 hm
     simp only at hk2;subst hk2;have HMEM:=hId hp
     have N:Hid (∀ w',Below W' W' w'->w'.cell? ⟨P,0,none⟩=some (.pointer (some ⟨Fd,0,none⟩))/\w'.cell? ⟨Fd,1,none⟩=some (.map (some (P+4)))/\w'.cell? ⟨Yb,2,none⟩=some (.int .i64 s.t)/\(Instr.lookup 159 (.map (some (P+4))) s.t true).run Tryz.prog w'=.ok (.tuple #[.agg #[s2.f,s2.l,s2.t],true]) w'):=fun w' hb'=>⟨(hb'.cell (p:=⟨P,0,none⟩) hPl).trans cP,(hb'.cell (p:=⟨Fd,1,none⟩) hFl2).trans cFd,(hb'.cell (p:=⟨Yb,2,none⟩) hYl).trans cY,(HC1.o.on hb').by_.hit hnd hwf HMEM.o⟩
     have U:Hid (Below W' W' W'.drew):=bRf.drew
     have HB4:Hid (Below W' W' (W'.drew.alloc (.cells #[(0:Int),(0:Int),(0:Int)] 80))):=zA U.o (bLa) nLe
     have HB5:Hid (Below W' W' (W'.drew.alloc (.cells #[s2.f,s2.l,s2.t] 80))):=zA U.o (bLa) nLe
     gi_wp2
     refine xK (fun w'=>w'.cell? ⟨P,0,none⟩=some (.pointer (some ⟨Fd,0,none⟩))/\w'.cell? ⟨Fd,1,none⟩=some (.map (some (P+4)))/\w'.cell? ⟨Yb,2,none⟩=some (.int .i64 s.t)/\(Instr.lookup 159 (.map (some (P+4))) s.t true).run Tryz.prog w'=.ok (.tuple #[.agg #[s2.f,s2.l,s2.t],true]) w') 12 (by kernel_rfl) ?_
     refine tZ 0 ?_ ?_ (N.o _ U.o) ?_
     rotate_left
     ·(intro w' d;obtain⟨j,J,h3,O⟩:=d;go_simp;(try with_reducible rfl))
     (try simp only[lAy])
     refine tZ 1 ?_ ?_ (N.o _ U.o) ?_
     rotate_left
     ·(intro w' d;obtain⟨j,J,h3,O⟩:=d;go_simp;(try with_reducible rfl))
     (try simp only[lAy])
     refine tZ 2 ?_ ?_ (N.o _ U.o) ?_
     rotate_left
     ·(intro w' d;obtain⟨j,J,h3,O⟩:=d;go_simp;(try with_reducible rfl))
     (try simp only[lAy])
     refine tZ 3 ?_ ?_ (N.o _ U.o) ?_
     rotate_left
     ·(intro w' d;obtain⟨j,J,h3,O⟩:=d;go_simp;(try with_reducible rfl))
     (try simp only[lAy])
     refine tZ 4 ?_ ?_ (N.o _ U.o) ?_
     rotate_left
     ·(intro w' d;obtain⟨j,J,h3,O⟩:=d;go_simp;(try with_reducible rfl))
     (try simp only[lAy])
     refine tZ 5 ?_ ?_ (N.o _ U.o) ?_
     rotate_left
     ·(intro w' d;obtain⟨j,J,h3,O⟩:=d;go_simp;(try with_reducible rfl))
     (try simp only[lAy])
     refine tZ 6 ?_ ?_ (N.o _ U.o) ?_
     rotate_left
     ·(intro w' d;obtain⟨j,J,h3,O⟩:=d;go_simp;(try with_reducible rfl))
     (try simp only[lAy])
     refine tZ 7 ?_ ?_ (N.o _ U.o) ?_
     rotate_left
     ·(intro w' d;obtain⟨j,J,h3,O⟩:=d;go_simp;(try with_reducible rfl))
     (try simp only[lAy])
     refine tZ 8 ?_ ?_ (N.o _ U.o) ?_
     rotate_left
     ·(intro w' d;obtain⟨j,J,h3,O⟩:=d;go_simp;(try with_reducible rfl))
     (try simp only[lAy])
     refine tZ 9 ?_ ?_ (N.o _ U.o) ?_
     rotate_left
     ·(intro w' d;obtain⟨j,J,h3,O⟩:=d;go_simp;(try with_reducible rfl))
     (try simp only[lAy])
     refine zI (i:=10) rfl (by kernel_rfl) rfl (fun K hK=>?_)
     go_simp
     refine hK.out _ _ (.inr (N.o _ HB4.o)) ?_;clear hK K
     (try simp only[lAy])
     refine zI (i:=11) rfl (by kernel_rfl) rfl (fun K hK=>?_)
     go_simp
     refine hK.out _ _ (.inr (N.o _ HB5.o)) ?_;clear hK K
     (try simp only[lAy])
     refine zI (i:=12) rfl (by kernel_rfl) rfl (fun K hK=>?_)
     go_simp
     refine hK.out _ _ (.inl rfl) ?_;clear hK K;refine xL (by kernel_rfl) (xB ?_) _
     have HMH:=hId hm;clear hp hm cX cDn cY cP cFd;have HOF:Hid (Off w0.heap.size [P+4,P+3] [P+1] W' (W'.drew.alloc (.cells #[s2.f,s2.l,s2.t] 80))):=Off.of_below HC1.o.sane HB5.o
     have HPP:Hid (KeepsFrom w3.heap.size W' (W'.drew.alloc (.cells #[s2.f,s2.l,s2.t] 80))/\KpO w0.heap.size [w3.heap.size+1,P+4,P+3] [P+1] W' (W'.drew.alloc (.cells #[s2.f,s2.l,s2.t] 80))/\(∃ D left v,Hid (FnC w0.heap.size (P+1) (P+4) (P+3) D left v (W'.drew.alloc (.cells #[s2.f,s2.l,s2.t] 80)))/\Hid (FnM a fr (fun k=>k==n) D left (gn-1) (some x))/\Hid (∀ y∈pre++[s],y.t∈D.map Prod.fst))/\Hid (Off w0.heap.size [P+4,P+3] [P+1] w3 (W'.drew.alloc (.cells #[s2.f,s2.l,s2.t] 80)))):=
      ⟨HOF.o.keeps HC1.o.sane (fun k hk=>by simp at hk;omega) (fun k hk=>by rw[List.mem_singleton.1 hk];exact hQ3),fun hs=>HOF.o.cons (by have:=HLO.o.size;have:=HO3.o.size;omega) (hs.bad _ (.inl (List.mem_cons_self ..))).2,⟨D',l1,v',HC1.o.on HB5.o,HMM.o,fun y hy=>(List.mem_append.1 hy).elim (HPR.o y) fun h=>by rw[List.mem_singleton.1 h];exact HMH.o⟩,HO1.o.trans HOF.o⟩
     gi_wp2
     exact HPP.o
    have HNM:=hId hm
    have N:Hid (∀ w',Below W' W' w'->w'.cell? ⟨P,0,none⟩=some (.pointer (some ⟨Fd,0,none⟩))/\w'.cell? ⟨Fd,1,none⟩=some (.map (some (P+4)))/\w'.cell? ⟨Yb,2,none⟩=some (.int .i64 s.t)/\(Instr.lookup 159 (.map (some (P+4))) s.t true).run Tryz.prog w'=.ok (.tuple #[.agg #[(0:Int),(0:Int),(0:Int)],false]) w'):=fun w' hb'=>⟨(hb'.cell (p:=⟨P,0,none⟩) hPl).trans cP,(hb'.cell (p:=⟨Fd,1,none⟩) hFl2).trans cFd,(hb'.cell (p:=⟨Yb,2,none⟩) hYl).trans cY,(HC1.o.on hb').by_.miss hwf hm⟩
    have U:Hid (Below W' W' W'.drew):=bRf.drew
    have HB4:Hid (Below W' W' (W'.drew.alloc (.cells #[(0:Int),(0:Int),(0:Int)] 80))):=zA U.o (bLa) nLe
    gi_wp2
    refine xK (fun w'=>w'.cell? ⟨P,0,none⟩=some (.pointer (some ⟨Fd,0,none⟩))/\w'.cell? ⟨Fd,1,none⟩=some (.map (some (P+4)))/\w'.cell? ⟨Yb,2,none⟩=some (.int .i64 s.t)/\(Instr.lookup 159 (.map (some (P+4))) s.t true).run Tryz.prog w'=.ok (.tuple #[.agg #[(0:Int),(0:Int),(0:Int)],false]) w') 12 (by kernel_rfl) ?_
    refine tZ 0 ?_ ?_ (N.o _ U.o) ?_
    rotate_left
    ·(intro w' d;obtain⟨j,J,h3,O⟩:=d;go_simp;(try with_reducible rfl))
    (try simp only[lAy])
    refine tZ 1 ?_ ?_ (N.o _ U.o) ?_
    rotate_left
    ·(intro w' d;obtain⟨j,J,h3,O⟩:=d;go_simp;(try with_reducible rfl))
    (try simp only[lAy])
    refine tZ 2 ?_ ?_ (N.o _ U.o) ?_
    rotate_left
    ·(intro w' d;obtain⟨j,J,h3,O⟩:=d;go_simp;(try with_reducible rfl))
    (try simp only[lAy])
    refine tZ 3 ?_ ?_ (N.o _ U.o) ?_
    rotate_left
    ·(intro w' d;obtain⟨j,J,h3,O⟩:=d;go_simp;(try with_reducible rfl))
    (try simp only[lAy])
    refine tZ 4 ?_ ?_ (N.o _ U.o) ?_
    rotate_left
    ·(intro w' d;obtain⟨j,J,h3,O⟩:=d;go_simp;(try with_reducible rfl))
    (try simp only[lAy])
    refine tZ 5 ?_ ?_ (N.o _ U.o) ?_
    rotate_left
    ·(intro w' d;obtain⟨j,J,h3,O⟩:=d;go_simp;(try with_reducible rfl))
    (try simp only[lAy])
    refine tZ 6 ?_ ?_ (N.o _ U.o) ?_
    rotate_left
    ·(intro w' d;obtain⟨j,J,h3,O⟩:=d;go_simp;(try with_reducible rfl))
    (try simp only[lAy])
    refine tZ 7 ?_ ?_ (N.o _ U.o) ?_
    rotate_left
    ·(intro w' d;obtain⟨j,J,h3,O⟩:=d;go_simp;(try with_reducible rfl))
    (try simp only[lAy])
    refine tZ 8 ?_ ?_ (N.o _ U.o) ?_
    rotate_left
    ·(intro w' d;obtain⟨j,J,h3,O⟩:=d;go_simp;(try with_reducible rfl))
    (try simp only[lAy])
    refine tZ 9 ?_ ?_ (N.o _ U.o) ?_
    rotate_left
    ·(intro w' d;obtain⟨j,J,h3,O⟩:=d;go_simp;(try with_reducible rfl))
    (try simp only[lAy])
    refine zI (i:=10) rfl (by kernel_rfl) rfl (fun K hK=>?_)
    go_simp
    refine hK.out _ _ (.inr (N.o _ HB4.o)) ?_;clear hK K
    (try simp only[lAy])
    refine zI (i:=11) rfl (by kernel_rfl) rfl (fun K hK=>?_)
    go_simp
    refine hK.out _ _ (.inr (N.o _ HB4.o)) ?_;clear hK K
    (try simp only[lAy])
    refine zI (i:=12) rfl (by kernel_rfl) rfl (fun K hK=>?_)
    go_simp
    refine hK.out _ _ (.inl rfl) ?_;clear hK K;refine xL (by kernel_rfl) (xB ?_) _
    clear cX cDn cY cP cFd hm;have HB4b:Hid (Below W' W' (W'.alloc (.cells #[(0:Int),(0:Int),(0:Int)] 80)).drew):=HB4.o
    have HO4a:Hid (Off w0.heap.size [P+4,P+3] [P+1] W' (W'.alloc (.cells #[(0:Int),(0:Int),(0:Int)] 80)).drew):=Off.of_below HC1.o.sane HB4b.o
    have HC4:=hId (HC1.o.on HB4b.o);clear HB4
    gi_wp2
    generalize (W'.alloc (.cells #[(0:Int),(0:Int),(0:Int)] 80)).drew=W5 at *;have hd5:Below W5 W5 W5.drew:=bRf.drew;have HO5d:=hId (HO4a.o.trans (Off.of_below HC4.o.sane hd5))
    have HC5:=hId (HC4.o.on hd5);have hDl:D'.length<=1000000:=by have:=HMM.o.by_.len HF.o;omega
    obtain⟨W6,hput,hB6,hg6⟩:=HC5.o.by_.put hDl hwf;have HC6:=hId (HC5.o.put hB6 hg6)
    have HO56:Hid (Off w0.heap.size [P+4,P+3] [P+1] W5.drew W6):=HC5.o.off HC6.o hg6.os hg6.tape hg6.output hg6.size (fun k hk j _ _ _=>hg6.block k hk (by simpa using j)) (.inl rfl)
    have HO6:=hId (HO5d.o.trans HO56.o)
    have hS9:∀w',Off w0.heap.size [P+4,P+3] [P+1] W' w'->w'.cell? ⟨P,0,none⟩=some (.pointer (some ⟨Fd,0,none⟩))/\w'.cell? ⟨Fd,1,none⟩=some (.map (some (P+4)))/\w'.cell? ⟨Yb,0,none⟩=some (.int .i64 s.f)/\w'.cell? ⟨Yb,1,none⟩=some (.int .i64 s.l)/\w'.cell? ⟨Yb,2,none⟩=some (.int .i64 s.t):=fun w' ho=>by
     obtain⟨-,-,hfd,cP,-,-,-⟩:=HKK.o _ (HO5.o.trans ho);have hyb:=(ho.block Yb HGY.o.lt HGY.o.not).trans HYB.o
     exact⟨cP,by simp[World.cell?,hfd],by simp[World.cell?,hyb],by simp[World.cell?,hyb],by simp[World.cell?,hyb]⟩
    have HS9:=hId hS9;clear hS9 hd5 hB6 hg6;unfold stV at hput
    refine xK (fun w'=>w'.cell? ⟨P,0,none⟩=some (.pointer (some ⟨Fd,0,none⟩))/\w'.cell? ⟨Fd,1,none⟩=some (.map (some (P+4)))/\w'.cell? ⟨Yb,0,none⟩=some (.int .i64 s.f)/\w'.cell? ⟨Yb,1,none⟩=some (.int .i64 s.l)/\w'.cell? ⟨Yb,2,none⟩=some (.int .i64 s.t)) 7 (by kernel_rfl) ?_
    refine tZ 0 ?_ ?_ (HS9.o _ HO5d.o) ?_
    rotate_left
    ·(intro w' d;obtain⟨j,J,h3,O,h5⟩:=d;go_simp;(try with_reducible rfl))
    (try simp only[lAy])
    refine tZ 1 ?_ ?_ (HS9.o _ HO5d.o) ?_
    rotate_left
    ·(intro w' d;obtain⟨j,J,h3,O,h5⟩:=d;go_simp;(try with_reducible rfl))
    (try simp only[lAy])
    refine tZ 2 ?_ ?_ (HS9.o _ HO5d.o) ?_
    rotate_left
    ·(intro w' d;obtain⟨j,J,h3,O,h5⟩:=d;go_simp;(try with_reducible rfl))
    (try simp only[lAy])
    refine tZ 3 ?_ ?_ (HS9.o _ HO5d.o) ?_
    rotate_left
    ·(intro w' d;obtain⟨j,J,h3,O,h5⟩:=d;go_simp;(try with_reducible rfl))
    (try simp only[lAy])
    refine tZ 4 ?_ ?_ (HS9.o _ HO5d.o) ?_
    rotate_left
    ·(intro w' d;obtain⟨j,J,h3,O,h5⟩:=d;go_simp;(try with_reducible rfl))
    (try simp only[lAy])
    refine tZ 5 ?_ ?_ (HS9.o _ HO5d.o) ?_
    rotate_left
    ·(intro w' d;obtain⟨j,J,h3,O,h5⟩:=d;go_simp;(try with_reducible rfl))
    (try simp only[lAy])
    refine tZ 6 ?_ ?_ (HS9.o _ HO5d.o) ?_
    rotate_left
    ·(intro w' d;obtain⟨j,J,h3,O,h5⟩:=d;go_simp;(try with_reducible rfl))
    (try simp only[lAy])
    refine zI (i:=7) rfl (by kernel_rfl) rfl (fun K hK=>?_)
    go_simp
    refine hK.out _ _ (.inl rfl) ?_;clear hK K;refine xL (by kernel_rfl) (xB ?_) _
    clear hput;obtain⟨-,cX,-,-,cDn,-,-⟩:=HKK.o _ (HO5.o.trans HO6.o);obtain⟨-,-,-,-,cY⟩:=HS9.o _ HO6.o
    gi_wp2
    refine⟨trivial,?_⟩;refine(show CallsIn (Fence.wide.inRound l') _ _ _ _ _ (bD _ _) from callsIn_wide.2 (is_ n s.t X W6 cX)).mono ?_;rintro e w7 ⟨rfl,rfl⟩;clear cX cDn
    cases hdn:(s.t==n) with
    |true=>
     obtain⟨hc7,hb7,ho7⟩:=HC6.o.setR s.t;obtain⟨r0,hr0⟩:=HC6.o.res;have cR:=hr0.cell;have fR:=hr0.frozen;have HOF:=hId (HO6.o.trans ho7)
     have HPP:Hid (KeepsFrom w3.heap.size W' (w7.setCell ⟨P+3,0,none⟩ s.t)/\KpO w0.heap.size [w3.heap.size+1,P+4,P+3] [P+1] W' (w7.setCell ⟨P+3,0,none⟩ s.t)/\Code.ret=Code.ret/\(∃r:Int,∃ D left v,Hid (FnC w0.heap.size (P+1) (P+4) (P+3) D left v (w7.setCell ⟨P+3,0,none⟩ s.t))/\Hid (Boxed (w7.setCell ⟨P+3,0,none⟩ s.t) (P+3) 3 r)/\Hid (aK a fr (fun k=>k==n) r D))/\Hid (Off w0.heap.size [P+4,P+3] [P+1] w3 (w7.setCell ⟨P+3,0,none⟩ s.t))):=
      ⟨HOF.o.keeps HC1.o.sane (fun k hk=>by simp at hk;omega) (fun k hk=>by rw[List.mem_singleton.1 hk];exact hQ3),fun hs=>HOF.o.cons (by have:=HLO.o.size;have:=HO3.o.size;omega) (hs.bad _ (.inl (List.mem_cons_self ..))).2,rfl,⟨s.t,(D'++[(s.t,s)]),l1,v',hc7,hb7,aK.yes HF.o HMM.o HSA.o HSX.o HNM.o hdn⟩,HO1.o.trans HOF.o⟩
     clear hc7 hb7 ho7 hr0 hdn
     gi_wp2
     exact⟨HPP.o.1,HPP.o.2.1,rfl,HPP.o.2.2.2⟩
    |false=>
     obtain⟨q0A,q0c,rfl,hq0,hq1⟩:=HC6.o.q.form;have cQ:=HC6.o.box.cell;have hal:Below w7 w7 (w7.alloc (.cells #[s.t] 3)):=bLa;have HC7:=hId (HC6.o.on hal)
     have hlow:w0.heap.size<=(w7.alloc (.cells #[s.t] 3)).heap.size:=by have:=HC6.o.lQ;have:=HC7.o.box.lt;omega
     have hl1:l1.length<=10000000:=by
      have j:=HMM.o.few;have J:=HGN.o;omega
     obtain⟨v3,W8,hrun,hq8,hg8,hat8⟩:=zBr (y:=s.t) (B:=w7.heap.size) 22 HC7.o.q (World.alloc_heap_new w7 _) hl1 hlow;obtain⟨hb8,hc8⟩:=HC7.o.app hq8 hg8 hat8
     have ho8:=HC7.o.off hc8 hg8.os hg8.tape hg8.output (Nat.le_trans hg8.size (grownBy_setCell' W8 (P+1) _).size) (fun k hk _ _ h3 O=>(Below.heap_setCell _ _ _ _ h3).trans (hg8.block k hk (fun e=>O e.symm))) (hat8.imp id fun h=>fun r hr=>by rw[h] at hr;simp at hr;simp;omega)
     obtain⟨A8,c8,rfl,_,_⟩:=hq8.form;have cQ8:=hb8.cell;have fQ8:=hb8.frozen;have HRUN:=hId hrun;have HOF:=hId (HO6.o.trans ((Off.of_below HC6.o.sane hal).trans ho8))
     have HPP:Hid (KeepsFrom w3.heap.size W' (W8.setCell ⟨P+1,0,none⟩ (.slice A8 (l1++[s.t]).length c8))/\KpO w0.heap.size [w3.heap.size+1,P+4,P+3] [P+1] W' (W8.setCell ⟨P+1,0,none⟩ (.slice A8 (l1++[s.t]).length c8))/\(∃ D left v,Hid (FnC w0.heap.size (P+1) (P+4) (P+3) D left v (W8.setCell ⟨P+1,0,none⟩ (.slice A8 (l1++[s.t]).length c8)))/\Hid (FnM a fr (fun k=>k==n) D left (gn-1) (some x))/\Hid (∀ y∈pre++[s],y.t∈D.map Prod.fst))/\Hid (Off w0.heap.size [P+4,P+3] [P+1] w3 (W8.setCell ⟨P+1,0,none⟩ (.slice A8 (l1++[s.t]).length c8)))):=
      ⟨HOF.o.keeps HC1.o.sane (fun k hk=>by simp at hk;omega) (fun k hk=>by rw[List.mem_singleton.1 hk];exact hQ3),fun hs=>HOF.o.cons (by have:=HLO.o.size;have:=HO3.o.size;omega) (hs.bad _ (.inl (List.mem_cons_self ..))).2,⟨(D'++[(s.t,s)]),l1++[s.t],_,hc8,HMM.o.add HF.o HSA.o HSX.o HNM.o hdn,fun y hy=>by
       rw[List.map_append]
       rcases List.mem_append.1 hy with h|h
       ·exact List.mem_append_left _ (HPR.o y h)
       rw[List.mem_singleton.1 h];exact List.mem_append_right _ (by simp)⟩,HO1.o.trans HOF.o⟩
     clear hrun hq8 hg8 hat8 hb8 hc8 ho8 hal hdn;generalize (l1++[s.t]).length=n8 at *
     gi_wp2_with (gi_at_builtin;refine gU rfl (.tmp 54) (.tmp 57) _ _ rfl _ _ _ rfl rfl HRUN.o ?_)
     exact HPP.o
   case done=>
    rintro Dm W' hDm ⟨⟨D',l1,v',j,J,h3⟩,O⟩ hD;have HMK4:=hId (HMK3.o.cons O.o hDm (by have:=HO3.o.size;have:=HFW.o.size;omega) (j.o.good_obj hD rfl (by omega)) hD)
    have HM4:Hid (FnM a fr (fun k=>k==n) D' l1 (gn-1) none):=J.o.shut fun s hs hx=>h3.o s (List.mem_filter.2 ⟨hs,by simpa using hx⟩)
    have HC4:=hId j.o;have HO4:=hId (HO3.o.trans O.o);have HG4:Hid (gn-1<gn/\gn-1<=a.st.toNat+fr.length):=⟨by have:=HG0.o;omega,by have:=HGN.o;omega⟩
    clear j J h3 O hD hDm
    gi_wp2
    exact⟨gn-1,HG4.o.1,D',l1,v',_,_,_,FfP.mk rfl,HC4.o,HM4.o,HO4.o,HMK4.o,HG4.o.2⟩
   case stop=>
    rintro Dm c pre W' hDm hpre ⟨rfl,⟨r,D',l2,v2',j,J,h3⟩,O⟩ hD;have HMK4:=hId (HMK3.o.cons O.o hDm (by have:=HO3.o.size;have:=HFW.o.size;omega) (j.o.good_obj hD rfl (by omega)) hD)
    have HO4:=hId (HO3.o.trans O.o);have HBY:=hId j.o.by_;clear j O hD hDm
    gi_wp2
    exact iJ a fr n r Fd VA P _ w _ D' _ _ rfl HP.o J.o HBY.o (HKK.o _ HO4.o).2.2.1 h3.o (HTC.o _ HO4.o) HMK4.o.marks
end
section
open Go Go.RowKit Go.Sort
theorem oF (l:List Int):(l.flatMap fun n:Int=>[Value.int .i64 n])=l.map (Value.int .i64):=by
 induction l with
 |nil=>rfl
 |cons x l ih=>rw[List.flatMap_cons,ih];rfl
theorem xD.holds {W:World} {lo g n d:Nat} {xs:List Int} (h:xD W lo (.slice (some ⟨g,0,none⟩) n d) xs):Holds (Value.int .i64) W g 0 xs.toArray:=by
 intro j J;obtain⟨K,m⟩:=h
 rcases m with⟨m,_⟩|⟨g',cap',cur,hv,hg,hh,hn,hc,hs,ht⟩
 ·cases m
 obtain⟨rfl,rfl,rfl⟩:g=g'/\n=xs.length/\d=cap':=by simpa using hv
 rw[oF] at ht;have i:j<xs.length:=by simpa using J
 have u:cur[j]?=some (.int .i64 xs[j]):=by
  have s:(cur.toList.take (xs.length*1))[j]?=some (.int .i64 xs[j]):=by rw[ht,List.getElem?_map,List.getElem?_eq_getElem i];rfl
  rw[List.getElem?_take,if_pos (by omega)] at s
  simpa using s
 have e:(xs.toArray)[j]! =xs[j]:=by simp[i]
 rw[Nat.zero_add,e];exact⟨by simp only[World.cell?,hh];simpa using u,by simp[World.frozen?,hh]⟩
def zJB (W:World) (lo:Nat) (v:Value) (xs:List Int) (e:Ending) (w':World):Prop:=e=.returned (.tuple #[])/\xD w' lo v xs.reverse/\W.grownBy w' v.ownBlock
theorem zHr (W:World) (lo g n d:Nat) (xs:List Int) (h:xD W lo (.slice (some ⟨g,0,none⟩) n d) xs) (hl:xs.length<=1000000000):
  Calls Tryz.prog 142 #[.slice (some ⟨g,0,none⟩) n d] W (zJB W lo (.slice (some ⟨g,0,none⟩) n d) xs):=by
 have u:=h.holds;obtain⟨O,j⟩:=h
 rcases j with⟨j,_⟩|⟨g',cap',cur,hv,hg,hh,hn,hc,hs,ht⟩
 ·cases j
 obtain⟨rfl,rfl,rfl⟩:g=g'/\n=xs.length/\d=cap':=by simpa using hv
 have:=Tryz.slices_Reverse_int g 0 d xs W u (by omega)
 change Calls Tryz.prog 142 _ _ _ at this;refine this.mono ?_;rintro e w' ⟨rfl,q,rfl⟩;have K:g<W.heap.size:=(gLt hh)
 have s:∀k,(putRow (Value.int .i64) (Sort.ahead W q) g 0 xs.reverse.toArray).heap[k]?=if k=g then some (.cells (putCells (Value.int .i64) 0 xs.reverse.toArray cur) 3 (0,0)) else W.heap[k]?:=by
  intro k;show((W.heap.modify g (onCells (putCells (Value.int .i64) 0 xs.reverse.toArray))))[k]?=_;rw[Array.getElem?_modify]
  by_cases e:g=k
  ·subst e;rw[if_pos rfl,if_pos rfl,hh];rfl
  rw[if_neg e,if_neg (fun x=>e x.symm)]
 refine⟨rfl,⟨by rw[oF];simp,.inr ⟨g,d,_,by simp,hg,by rw[s,if_pos rfl],by simpa using hn,hc,by simp[putCells];omega,?_⟩⟩,⟨rfl,rfl,rfl,Nat.le_of_eq (by show W.heap.size=(W.heap.modify g _).size;simp),fun k U m=>by rw[s,if_neg (fun e=>m (by rw[e];rfl))]⟩⟩
 rw[oF];refine List.ext_getElem (by simp[putCells];omega) fun i i1 N=>?_
 have J:i<xs.length:=by simpa using N
 rw[List.getElem_take];simp only[putCells,Array.getElem_toList,Array.getElem_mapIdx];rw[if_pos ⟨Nat.zero_le _,by simp;omega⟩,Nat.sub_zero,List.getElem_map]
 have:i<xs.reverse.toArray.size:=by simpa using J
 rw[getElem!_pos xs.reverse.toArray i this]
 simp
end
section
open Go Go.RowKit Go.Maps Go.Shelf
def zBa (w:World) (a:Au) (first:Int->Bool) (tg:Int) (N:Nat) (e:Ending) (w':World):Prop:=∃v ls,e=.returned v/\xD w' w.heap.size v ls/\zHP a first tg N ls/\Below w w w'
theorem zLX (a:Au) (hf:jT a) (hst:a.st<=1000000) (D:List (Int×Stp)) (fr:List Int) (hb:dF a fr D) (Fd M X:Nat) (fi:FuncId) (first:Int->Bool) (hfr:∀x∈fr,first x=true) (i:Nat) (hi:i<D.length) (w:World) (hFl:Fd<w.heap.size) (hF1:w.cell? ⟨Fd,1,none⟩=some (.map (some M))) (hM:jL w M D)
  (hen:∀args w,(callFunc fi args).run Tryz.prog w=.ok (.enter fi args) w)
  (hfn:∀W (k:Int),Below w w W->Calls Tryz.prog fi #[k,(⟨X,0,none⟩:Addr)] W (bD W (first k))):
  Calls Tryz.prog 109 #[(⟨Fd,0,none⟩:Addr),.int .i64 D[i].1,.func (.func fi) #[] #[(⟨X,0,none⟩:Addr)]] w (zBa w a first D[i].1 D.length):=by
 have HB:=hId hb;have HFN:=hId hfn;have HM:=hId hM;have HW0:=hId (uQ.start (a:=a) hi (rfl:D[i].1=D[i].1));have HDL:Hid (D.length<=1000000):=by have:=hb.len hf;show _<=_;omega
 have HFR:=hId hfr
 have HWF:Hid (∀ j (h:j<D.length),(Lit.int .i64 D[j].1).wf=true):=fun j h=>by
  obtain⟨a1,a2,_⟩:=hb.by_ j h;have:=(hf.sr _ a1).2.1;rw[a2] at this;exact WalkArith.wf_i64 (by omega)
 obtain⟨tg,h7⟩:∃t,t=D[i].1:=⟨_,rfl⟩;rw[<-h7] at HW0;have HTG:=hId h7;rw[<-h7];clear h7;clear hb hfn hM hf hfr
 go_enter Tryz.func109,Tryz.ntmps109
 go_wp2_with fail
 go_loopg [1,7] i (fun j v1 v7 wr=>∃(hj:j<D.length) (out:List Int),v1=.int .i64 (D[j]'hj).1/\Hid (uQ a D tg j out)/\Hid (xD wr w.heap.size v7 out)/\Hid (Below w w wr))
 case atStart=>exact⟨hi,[],by rw[HTG.o],HW0.o,World.ownsRow_nil _ _ _ _,bRf⟩
 obtain⟨hj,out,rfl,O,HOW,h3⟩:=hrel;have h6:=HWF.o gk hj;have g:D[gk]∈D:=List.getElem_mem hj;have h5:D[gk].2.t=D[gk].1:=(HB.o.by_ gk hj).2.1;have m:=hId (O.o.path HB.o)
 have d:=hId (fun hg=>O.o.step HB.o HFR.o hg)
 have K:=hId (fun hg=>O.o.o HB.o (first:=first) hg)
 have h4:=hId (O.o.len D[gk].2.l)
 revert d K h4 m h6 g h5
 generalize D[gk]=p;obtain⟨ky,s⟩:=p;intro h6 g h5 m d K h4;simp only at h6 g h5 m d K h4 ⊢;have h8:=jL.get (HM.o.on h3.o) HB.o.nd h6 g;unfold stV at h8;have cF:=(h3.o.cell (p:=⟨Fd,1,none⟩) hFl).trans hF1
 obtain⟨oA,oc,rfl,ho1,ho2,_⟩:=zF HOW.o;have hd:Below wr wr (wr.alloc (.cells #[s.f,s.l,s.t] 80)):=bLa
 have hs0:(wr.alloc (.cells #[s.f,s.l,s.t] 80)).cell? ⟨wr,0,none⟩=some (.int .i64 s.f):=by go_simp
 have hs1:(wr.alloc (.cells #[s.f,s.l,s.t] 80)).cell? ⟨wr.heap.size,1,none⟩=some (.int .i64 s.l):=by go_simp
 have hh:wr.heap.size<(wr.alloc (.cells #[s.f,s.l,s.t] 80)).heap.size:=by simp
 have hc:(wr.alloc (.cells #[s.f,s.l,s.t] 80)).heap[wr.heap.size]?=some (.cells #[s.f,s.l,s.t] 80):=World.alloc_heap_new _ _
 have ha:Hid (xD (wr.alloc (.cells #[s.f,s.l,s.t] 80)) w.heap.size (.slice oA out.length oc) out):=zD HOW.o hd
 have h0:=hId (zA h3.o hd h3.o.size);clear hd g h5
 go_upto_region 3 with fail
 clear cF h8;obtain⟨S,hS⟩:∃S,S=wr.heap.size:=⟨_,rfl⟩;rw[<-hS] at hs0 hs1 hh hc ⊢;clear hS;generalize wr.alloc (.cells #[s.f,s.l,s.t] 80)=W2 at *
 have u:Below W2 W2 (W2.alloc (.cells #[s.l] 3)):=bLa
 obtain⟨v3,W3,h9,J,he,hat3⟩:=pG (lo:=w.heap.size) (v:=.slice oA out.length oc) (xs:=out) (y:=s.l) (B:=W2.heap.size) 22 (zD ha.o u) (World.alloc_heap_new W2 _) (by have h1:=O.o.few;have:=HDL.o;omega) (Nat.le_trans h0.o.size u.size)
 have HRUN:=hId h9;have N:=hId J;have h2:Hid (Below w w W3):=(zA h0.o u h0.o.size).grown he (Nat.le_trans h0.o.size u.size) (fun k hk=>(ha.o.lt k hk).1)
 have hne:=wG ha.o hc (by decide)
 have hs03:W3.cell? ⟨S,0,none⟩=some (.int .i64 s.f):=(zP ((he.block S (Nat.lt_of_lt_of_le hh u.size) (fun e=>hne e.symm)).trans (u.block S hh)) 0).trans hs0
 obtain⟨gA,gc,rfl⟩:=ownsRow_succ (k:=out.length) (by have:=J;unfold xD at this;rw[List.length_append] at this;exact this)
 clear h9 J he hat3 u hne hc
 go_wp2_with (at_builtin;refine zQ rfl (.tmp 15) (.tmp 18) _ _ rfl _ _ _ rfl rfl HRUN.o ?_)
 refine(HFN.o W3 s.f h2.o).mono ?_;rintro e w4 ⟨rfl,rfl⟩;have HLQ:Hid ((out++[s.l]).length=out.length+1):=by show _=_;simp
 cases hfs:first s.f with
 |true=>
  have HW:=hId (K.o hfs);have HRV:=hId (zHr w4 w.heap.size gA (out.length+1) gc (out++[s.l]) N.o (by have:=h4.o;have:=HDL.o;omega))
  clear hfs
  go_wp2_with fail
  refine HRV.o.mono ?_;rintro e w5 ⟨rfl,U,hg5⟩;have HP:Hid (zBa w a first tg D.length (.returned (.slice (some ⟨gA,0,none⟩) (out.length+1) gc)) w5):=⟨_,_,rfl,U,HW.o,h2.o.grown hg5 h2.o.size (fun k hk=>(N.o.lt k hk).1)⟩
  clear U hg5
  go_wp2_with fail
  go_ret
  exact HP.o
 |false=>
  obtain⟨j,hj1,hj2,hj3,hj4⟩:=d.o hfs;have HW:=hId hj2;have HJ:=hId hj4;clear hfs hj2 hj4
  go_wp2_with fail
  go_roundg j
  case rel=>exact⟨hj3,_,by rw[HJ.o],HW.o,N.o,h2.o⟩
  case measure=>omega
theorem jT.rng {a:Au} (h:jT a):AuR a:=⟨h.st1,h.fr,h.fo,h.sr⟩
structure zBo (w:World) (a:Au) (e:Ending) (w':World):Prop where
 is:∃(H L:Option Addr) (ch cl:Nat) (hl ll:List Int) (b:Bool),e=.returned (.tuple #[.agg #[.slice H hl.length ch,.slice L ll.length cl],b])/\zE w' w.heap.size H ch hl/\zE w' w.heap.size L cl ll/\(if b=true then zDe a ⟨hl,ll⟩ else hl=[]/\ll=[]/\∀u,¬xJ a u)
 below:Below w w w'
structure WdC (a:Au) (A B C:Option Addr) (ca cb cc:Nat) (w:World) (V VA Fd G:Nat) (out:List Bool) (W:World):Prop where
 below:Below w w W
 at_:yG W V a A B C ca cb cc
 res:W.heap[V+1]?=some (.cells #[(),()] 27 (0,0))
 row:zU W G out
 va:yG W VA a A B C ca cb cc
 fd:∃byv,W.heap[Fd]?=some (.cells #[.func (.func 89) #[] #[(⟨VA,0,none⟩:Addr)],byv] 161 (0,0))
theorem WdC.on {a:Au} {A B C:Option Addr} {ca cb cc V g Fd G:Nat} {out:List Bool} {w W W':World} (h:WdC a A B C ca cb cc w V g Fd G out W) (d:Below W W W'):WdC a A B C ca cb cc w V g Fd G out W':=by
 obtain⟨e,i⟩:=h.fd;exact⟨zA h.below d h.below.size,h.at_.below d h.at_.lt,(d.block _ (gLt h.res)).trans h.res,h.row.below d h.row.lt,h.va.below d h.va.lt,e,(d.block _ (gLt i)).trans i⟩
theorem zGp {g:Func} (h:g.results=#[.cell 2 27,.tmp 3]) (tmps:Array Value) (w:World) (V:Nat) {d e x:Value} (j:tmps[2]?=some (.pointer (some ⟨V,0,none⟩))) (m:tmps[3]?=some x)
  (i:w.heap[V]?=some (.cells #[d,e] 27 (0,0))):(results g tmps).run Tryz.prog w=.ok (.tuple #[.agg #[d,e],x]) w:=by
 have s:w.cell? ⟨V,0,none⟩=some d:=by simp[World.cell?,i]
 have u:w.cell? ⟨V,1,none⟩=some e:=by simp[World.cell?,i]
 simp[results,h,go_sem,j,m,s,u]
def dY (w:World) (V:Nat) (v0 v1:Value):World:=(w.setCell ⟨V,0,none⟩ v0).setCell ⟨V,1,none⟩ v1
theorem dW {w:World} {V:Nat} {g i:Value} {t:TypeId} (h:w.heap[V]?=some (.cells #[g,i] t (0,0))) (d e:Value):(dY w V d e).heap[V]?=some (.cells #[d,e] t (0,0)):=by
 simp[dY,World.setCell,Array.getElem?_modify,h]
theorem zB0 (w:World) (V:Nat) (e g:Value) {k:Nat} (d:k≠V):(dY w V e g).heap[k]?=w.heap[k]?:=by
 unfold dY;rw[Below.heap_setCell _ ⟨V,1,none⟩ _ _ d,Below.heap_setCell _ ⟨V,0,none⟩ _ _ d]
theorem pI {B V:Nat} {a w:World} (h:Below B a w) (d:B<=V) (e g:Value):Below B a (dY w V e g):=(h.setCell (p:=⟨V,0,none⟩) d _).setCell (p:=⟨V,1,none⟩) d _
theorem WdC.find {a:Au} {A B C:Option Addr} {ca cb cc V i Fd G:Nat} {out:List Bool} {w W W':World} {O:List Int} {n:Int} {fv:Value} {e:Ending} (h:WdC a A B C ca cb cc w V i Fd G out W) (d:eZ a O n Fd i fv W e W')
  (g:V≠Fd/\V+1≠Fd/\G≠Fd/\i≠Fd) (hlo:w.heap.size<=Fd) (hf:∀k,fv.ownBlock=some k->V+1<k/\G<k/\i<k/\w.heap.size<=k):WdC a A B C ca cb cc w V i Fd G out W':=by
 have s:∀k,k<=V+1\/k<=G\/k<=i\/k<w.heap.size->fv.ownBlock≠some k:=fun k u e=>by have:=hf k e;omega
 have N:=h.at_.lt;have K:=h.va.lt;have hR:=(gLt h.res);have U:=h.row.lt;have m:=d.block V N g.1 (s V (.inl (by omega)))
 have j:=d.block i K g.2.2.2 (s i (.inr (.inr (.inl nLe))));obtain⟨r,D,M,_,_,_,J,_⟩:=d.is
 refine⟨⟨d.os.trans h.below.os,d.tape.trans h.below.tape,d.output.trans h.below.output,Nat.le_trans h.below.size d.size,fun k u=>(d.block k (Nat.lt_of_lt_of_le u h.below.size) (by omega) (s k (.inr (.inr (.inr u))))).trans (h.below.block k u)⟩,
  ⟨Nat.lt_of_lt_of_le N d.size,(zP m 0).trans h.at_.c0,(zP m 1).trans h.at_.c1,(zP m 2).trans h.at_.c2,(zP m 3).trans h.at_.c3,(zP m 4).trans h.at_.c4⟩,
  (d.block (V+1) hR g.2.1 (s (V+1) (.inl nLe))).trans h.res,(d.block G U g.2.2.1 (s G (.inr (.inl nLe)))).trans h.row,
  ⟨Nat.lt_of_lt_of_le K d.size,(zP j 0).trans h.va.c0,(zP j 1).trans h.va.c1,(zP j 2).trans h.va.c2,(zP j 3).trans h.va.c3,(zP j 4).trans h.va.c4⟩,_,J⟩
structure zLu (a:Au) (A B C:Option Addr) (ca cb cc:Nat) (w:World) (V VA Fd G:Nat) (out:List Bool) (X:Nat) (n:Int) (fr:List Int) (fv:Value) (Wa:World) (e:Ending) (W:World):Prop where
 is:∃(r:Int) (D:List (Int×Stp)) (M:Nat),e=.returned r/\aK a fr (fun x=>x==n) r D/\jL W M D/\W.cell? ⟨Fd,1,none⟩=some (.map (some M))
 wd:WdC a A B C ca cb cc w V VA Fd G out W
 x:W.cell? ⟨X,0,none⟩=some (.int .i64 n)
 xl:X<W.heap.size
 size:Wa.heap.size<=W.heap.size
 keep:∀k,k<Wa.heap.size->k≠Fd->fv.ownBlock≠some k->W.heap[k]?=Wa.heap[k]?
theorem xD.heap {W W':World} {lo:Nat} {v:Value} {xs:List Int} (h:xD W lo v xs) (i:∀k,v.ownBlock=some k->W'.heap[k]?=W.heap[k]?):xD W' lo v xs:=by
 obtain⟨e,d⟩:=h;refine⟨e,?_⟩
 rcases d with d|⟨g,cap,cur,hv,hg,hh,r⟩
 ·exact .inl d
 exact .inr ⟨g,cap,cur,hv,hg,(i g (by rw[hv];rfl)).trans hh,r⟩
theorem zEt (a:Au) (A B C:Option Addr) (ca cb cc:Nat) (w:World) (V m Fd G:Nat) (out:List Bool) (d:World) (X:Nat) (n:Int) (u:WdC a A B C ca cb cc w V m Fd G out d) (g:X<d.heap.size) (s:d.cell? ⟨X,0,none⟩=some (.int .i64 n))
  (hne:w.heap.size<=V/\V+1<G/\G<m/\m<Fd/\Fd<X) (h0:jZ w 0 C cc a.ss) (hf:jT a) (h5:a.st<=1000000) (U:a.ss.length<=1000000) (J:List Int) (fv:Value) (hq:vH d w.heap.size fv J) (i:∀x,fv.ownBlock=some x->X<x) (O:J.length<=1000000):
  Calls Tryz.prog 108 #[(⟨Fd,0,none⟩:Addr),fv,.func (.func 107) #[] #[(⟨X,0,none⟩:Addr)]] d (zLu a A B C ca cb cc w V m Fd G out X n J fv d):=by
 obtain⟨K,N⟩:=u.fd
 have h:=zKN a A B C ca cb cc m Fd X n J fv K w d u.below h0 hf h5 U O u.va N s g (by omega) hq (fun x hx e=>by
  have:=i x e;simp only[List.mem_cons,List.not_mem_nil,or_false] at hx;omega) (by omega)
 refine h.mono ?_;intro e W j;have hw:=u.find j (by omega) (by omega) (fun x e=>by have:=i x e;omega)
 obtain⟨r,D,M,h1,h2,h3,h4,_⟩:=j.is;refine⟨⟨r,D,M,h1,h2,h3,by simp[World.cell?,h4]⟩,hw,(zP (j.block X g (by omega) (fun e=>by have:=i _ e;omega)) 0).trans s,Nat.lt_of_lt_of_le g j.size,j.size,j.block⟩
theorem zG8 (a:Au) (hf:jT a) (N:a.st<=1000000) (D:List (Int×Stp)) (i:List Int) (hb:dF a i D) (Fd M X:Nat) (g:FuncId) (first:Int->Bool) (K:∀x∈i,first x=true) (r:Int) (O:∃d s,D=d++[(r,s)]) (w:World) (m:Fd<w.heap.size) (j:w.cell? ⟨Fd,1,none⟩=some (.map (some M))) (U:jL w M D)
  (u:∀args w,(callFunc g args).run Tryz.prog w=.ok (.enter g args) w)
  (J:∀W (k:Int),Below w w W->Calls Tryz.prog g #[k,(⟨X,0,none⟩:Addr)] W (bD W (first k))):
  Calls Tryz.prog 109 #[(⟨Fd,0,none⟩:Addr),r,.func (.func g) #[] #[(⟨X,0,none⟩:Addr)]] w (zBa w a first r D.length):=by
 obtain⟨d,s,rfl⟩:=O;have h:=zLX a hf N (d++[(r,s)]) i hb Fd M X g first K d.length (by simp) w m j U u J
 have e:(d++[(r,s)])[d.length].1=r:=by simp
 rwa[e] at h
theorem lU {W:World} {lo base V:Nat} {v:Value} {xs:List Int} (h:xD W lo v xs) (u:xs.length<=1000000) (i:V<lo) (s:base<=lo) (d g:Value):∃A c,v=.slice A xs.length c/\zE (dY W V d g) base A c xs:=by
 have j:xD (dY W V d g) lo v xs:=ownsRow_setCell_below (ownsRow_setCell_below h (a:=⟨V,0,none⟩) i d) (a:=⟨V,1,none⟩) i g
 obtain⟨A,c,e,m⟩:=SlE.of_own (bt:=8) j (by omega)
 exact⟨A,c,e,m.low s⟩
theorem uC {W:World} {base:Nat}:zE W base none 0 []:=⟨nLe,by omega,by simp,Rd.nil,Fz.no⟩
end
end Go.Proofs.YtoglgeaiiipchaaGreatDoor
