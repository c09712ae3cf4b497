import Derived.Test.YtoglgeaiiipchaaGreatDoorLRY4
import Derived.Laws.EntriesVeiled
import Derived.OrdersHeld
import Derived.Deep.RegionHeld
import Derived.Deep.CutBlock
import Derived.Deep.DeepCutAuto
import Derived.Test.YtoglgeaiiipchaaGreatDoorShR
import Derived.Lib.SmallJoins
import Derived.Lib.AppendIntMem
import Derived.Laws.IdiomStrings
set_option linter.unusedSimpArgs false
set_option linter.unusedVariables false
set_option maxRecDepth 100000
set_option maxHeartbeats 8000000
namespace Go.Proofs.YtoglgeaiiipchaaGreatDoor
section
open Go Go.RowKit Go.Sort Go.Shelf
theorem cL (n a b:Int) (w:World):Calls Tryz.prog 86 #[n,a,b] w fun e w'=>e=.returned (.bool (btw n a b))/\Below w w w':=
 (zED n a b w).mono fun _ _ ⟨d,g⟩=>⟨d,by rw[<-g];exact bRf⟩
theorem oW:Enters Tryz.prog 85:=enters_of Tryz.func85 (by kernel_rfl) rfl
theorem zFB:Enters Tryz.prog 87:=enters_of Tryz.func87 (by kernel_rfl) rfl
theorem zJT (st n:Int) (V:Nat) (w:World) (h:w.cell? ⟨V,0,none⟩=some (.int .i64 st)) (d:1<=st) (g:st<=300):
  Calls Tryz.prog 85 #[n,(⟨V,0,none⟩:Addr)] w fun e w'=>e=.returned (.bool (btw n 0 (st-1)))/\Below w w w':=by
 go_enter Tryz.func85,Tryz.ntmps85
 go_wp2_with (go_at_call 86;refine(zED _ _ _ _).mono ?_;rintro e w' ⟨rfl,rfl⟩)
 go_ret
 exact⟨rfl,bRf⟩
theorem zLE (st n:Int) (V X:Nat) (w:World) (i:w.cell? ⟨V,0,none⟩=some (.int .i64 st)) (m:w.cell? ⟨X,0,none⟩=some (.func (.func 85) #[] #[(⟨V,0,none⟩:Addr)])) (d:1<=st) (g:st<=300):
  Calls Tryz.prog 87 #[n,(⟨X,0,none⟩:Addr)] w fun e w'=>e=.returned (.bool (!btw n 0 (st-1)))/\Below w w w':=by
 have j:∀(args:Array Value) (w:World),(callFunc 85 args).run Tryz.prog w=.ok (.enter 85 args) w:=oW
 go_enter Tryz.func87,Tryz.ntmps87
 go_wp2_with (go_at_call 85;refine(zJT st n V _ i d g).mono ?_;rintro e w' ⟨rfl,h⟩)
 go_ret
 exact⟨rfl,h⟩
def zFf (w:World) (a:Au) (A B C:Option Addr) (ca cb cc:Nat):World:=
 (auW w a A B C ca cb cc).alloc (.cells #[.func (.func 85) #[] #[(⟨w,0,none⟩:Addr)]] 77)
structure zL7 (w W:World) (a:Au) (A B C:Option Addr) (ca cb cc V:Nat):Prop where
 below:Below w w W
 size:W.heap.size=V+1+1
 at_:yG W V a A B C ca cb cc
 f0:W.cell? ⟨V+1,0,none⟩=some (.func (.func 85) #[] #[(⟨V,0,none⟩:Addr)])
theorem zIZ (w:World) (a:Au) (A B C:Option Addr) (ca cb cc:Nat):zL7 w (zFf w a A B C ca cb cc) a A B C ca cb cc w.heap.size:=by
 have h:=jN w a A B C ca cb cc;have d:Below (auW w a A B C ca cb cc).heap.size (auW w a A B C ca cb cc) (zFf w a A B C ca cb cc):=bLa;refine⟨zA h.below d h.below.size,?_,h.at.below d (by rw[h.size];omega),?_⟩
 ·unfold zFf
  simp[h.size]
 unfold zFf auW;go_simp
theorem kQ (a:Au) (A B C:Option Addr) (ca cb cc:Nat) (w:World) (hr:zM w 0 a A B C ca cb cc):
  Calls Tryz.prog 48 #[.agg #[a.st,a.le,.slice A a.fs.length ca,.slice B a.gs.length cb,.slice C a.ss.length cc]] w (uI w (ckA a)):=by
 have HW:=hId (zIZ w a A B C ca cb cc);have HR:=hId (hr.below HW.o.below);have l1:=hr.fs.le;have l2:=hr.fs.max;have l3:=hr.gs.le;have l4:=hr.gs.max;have l5:=hr.ss.le;have l6:=hr.ss.max;clear hr
 have hgr:∀(args:Array Value) (w:World),(callFunc 85 args).run Tryz.prog w=.ok (.enter 85 args) w:=oW
 go_enter Tryz.func48,Tryz.ntmps48
 obtain⟨b1,hb1⟩:∃b,b=btw a.st 1 300:=⟨_,rfl⟩;obtain⟨b2,hb2⟩:∃b,b=btw a.le 1 8:=⟨_,rfl⟩;have K1:=hId (fun W=>cL a.st 1 300 W)
 have K2:=hId (fun W=>cL a.le 1 8 W)
 rw[<-hb1] at K1;rw[<-hb2] at K2;obtain⟨N,hck⟩:∃c,c=ckA a:=⟨_,rfl⟩;rw[<-hck];have h7:=hId hck;have H1:=hId hb1;have H2:=hId hb2;clear hck hb1 hb2
 go_wp2_with fail
 change Calls _ _ _ (zFf w a A B C ca cb cc) _;generalize zFf w a A B C ca cb cc=W0 at *;have HA:=hId HW.o.at_;have HFN:=hId HW.o.f0;have HSZ:=hId HW.o.size;obtain⟨V,hV⟩:∃V,V=w.heap.size:=⟨_,rfl⟩
 rw[<-hV] at HA HFN HSZ ⊢;have d:Hid (Below w w W0):=HW.o.below;have HVV:=hId hV;have K:=HA.o.lt;have hV1:V+1<W0.heap.size:=by rw[HSZ.o];omega
 clear hV HW;refine(K1.o _).mono ?_;rintro e w1 ⟨rfl,hx1⟩;have HB1:=hId hx1;obtain⟨_,c0,c1,c2,c3,c4⟩:=HA.o.below hx1 K;clear hx1
 cases b1 with
 |false=>
  have O:Hid (N=3):=by show N=3;rw[h7.o];exact zEu (by rw[<-H1.o];rfl)
  go_wp2_with fail
  go_ret
  exact⟨zJ O.o.symm,zA d.o HB1.o d.o.size⟩
 |true=>
  go_wp2_with fail
  refine(K2.o _).mono ?_;rintro e w2 ⟨rfl,hx2⟩;clear c0 c1 c2 c3 c4;have h0:Hid (Below W0 W0 w2):=zA HB1.o hx2 HB1.o.size;obtain⟨_,c0,c1,c2,c3,c4⟩:=HA.o.below h0.o K;clear hx2
  cases b2 with
  |false=>
   have O:Hid (N=3):=by show N=3;rw[h7.o];exact zEu (by rw[<-H1.o,<-H2.o];rfl)
   go_wp2_with fail
   go_ret
   exact⟨zJ O.o.symm,zA d.o h0.o d.o.size⟩
  |true=>
   have HOK:Hid (okR a):=by show(_||_)=false;rw[<-H1.o,<-H2.o];rfl
   have hst:1<=a.st/\a.st<=300:=(xH _ _ _).1 H1.o.symm
   have hle:1<=a.le/\a.le<=8:=(xH _ _ _).1 H2.o.symm
   obtain⟨hst1,hst2⟩:=hst;obtain⟨hle1,hle2⟩:=hle;clear K1 K2 H1 H2
   by_cases hg:(a.gs.length:Int)=a.st
   ·have hg1:((a.gs.length:Int) !=a.st)=false:=by simp[hg]
    have HG:=hId hg;clear hg
    by_cases h6:6000<(a.ss.length:Int)
    ·have O:Hid (N=2):=by show N=2;rw[h7.o];exact zJc HOK.o HG.o h6
     go_wp2_with fail
     go_ret
     exact⟨zJ O.o.symm,zA d.o h0.o d.o.size⟩
    have hns:a.ss.length<=6000:=by omega
    clear h6
    have HPV:Hid (∀ W,Below W0 W0 W->zEB Tryz.prog 87 #[(⟨V+1,0,none⟩:Addr)] (fun n=>!btw n 0 (a.st-1)) W):=fun W hW n W' hW'=>by
     have hb:=zA hW hW' hW.size;exact zLE a.st n V (V+1) W' (HA.o.below hb K).c0 ((zT hb hV1).trans HFN.o) hst1 hst2
    go_wp2_with fail
    refine(pH A ca a.fs 87 _ (fun n=>!btw n 0 (a.st-1)) w2 (HR.o.fs.below h0.o) zFB (HPV.o _ h0.o)).mono ?_
    rintro e w3 ⟨rfl,hx3⟩;have HB3:Hid (Below W0 W0 w3):=zA h0.o hx3 h0.o.size;clear c0 c1 c2 c3 c4;obtain⟨_,c0,c1,c2,c3,c4⟩:=HA.o.below HB3.o K;clear hx3
    obtain⟨fb,hfb⟩:∃fb,fb=nN (fun n=>!btw n 0 (a.st-1)) a.fs:=⟨_,rfl⟩
    rw[<-hfb];have HFB0:Hid (nJ a.st a.fs=fb):=by show _=_;rw[hfb];rfl
    clear hfb
    cases fb with
    |true=>
     have O:Hid (N=5):=by show N=5;rw[h7.o];exact zJm HOK.o HG.o (by omega) HFB0.o
     go_wp2_with fail
     go_ret
     exact⟨zJ O.o.symm,zA d.o HB3.o d.o.size⟩
    |false=>
     have HFB:Hid (nJ a.st a.fs=false):=HFB0.o
     clear HFB0 HPV
     go_wp2_with fail
     go_loopw [4] (fun i wr=>∃k:Nat,1<=k/\i=.int .i64 k/\Below W0 W0 wr/\Hid (k<=a.fs.length\/k=1)/\Hid (∀ j,1<=j->j<k->fT a.fs j=false)) (fun i _=>a.fs.length-(intOf i).toNat)
     case atStart=>exact⟨1,nLe,rfl,HB3.o,.inr rfl,fun j h1 h2=>absurd h2 (by omega)⟩
     obtain⟨k2,hk2,rfl,hx,HK2,m⟩:=hrel;have HB5:=hId hx;clear c0 c1 c2 c3 c4;obtain⟨_,c0,c1,c2,c3,c4⟩:=HA.o.below hx K;clear hx
     by_cases hkl2:k2<a.fs.length
     ·have hk9:k2<=1000000000000000000:=by omega
      obtain⟨b,o,hAA,_,_,q⟩:=zE.at_ (HR.o.fs.below HB5.o) hkl2;obtain⟨b',o',hAA',_,_,q'⟩:=zE.at_ (HR.o.fs.below HB5.o) (k:=k2-1) (by omega)
      obtain⟨rfl,rfl⟩:b=b'/\o=o':=by rw[hAA] at hAA';simpa using hAA'
      subst hAA;clear hAA';obtain⟨x,hxx⟩:∃x,x=a.fs[k2]:=⟨_,rfl⟩;obtain⟨y,hyy⟩:∃y,y=a.fs[k2-1]:=⟨_,rfl⟩;rw[<-hxx] at q;rw[<-hyy] at q'
      have HE:Hid (fT a.fs k2=decide (x<=y)):=by
       show fT _ _=_;unfold fT;rw[zX hkl2,zX (by omega),hxx,hyy]
      clear hxx hyy
      by_cases hxy:x<=y
      ·have O:Hid (N=4):=by
        show N=4;rw[h7.o];exact zJh HOK.o HG.o (by omega) HFB.o (oX (k:=k2) (by omega) (by omega) (by rw[HE.o];exact decide_eq_true hxy))
       go_wp2_with fail
       go_quiet (fail)
       have HB6:Hid (Below W0 W0 (wr.drewN nq)):=zC HB5.o nq
       generalize wr.drewN nq=w6 at *
       go_wp2_with fail
       go_ret
       exact⟨zJ O.o.symm,zA d.o HB6.o d.o.size⟩
      have HEF:Hid (fT a.fs k2=false):=by show _=_;rw[HE.o];exact decide_eq_false hxy
      go_wp2_with fail
      go_quiet (fail)
      have HB6:Hid (Below W0 W0 (wr.drewN nq)):=zC HB5.o nq
      generalize wr.drewN nq=w6 at *
      go_wp2_with fail
      go_roundw
      case rel=>
       refine⟨k2+1,by omega,by go_num,HB6.o,.inl (by omega),fun j h1 h2=>?_⟩
       rcases Nat.lt_or_ge j k2 with h3|h3
       ·exact m.o j h1 h3
       obtain rfl:j=k2:=by omega
       exact HEF.o
      case measure=>simp[intOf];omega
     have HFD:Hid (gP a.fs (a.fs.length-1) 1=false):=(kS _ _).2 fun j h1 h2=>m.o j h1 (by rcases HK2.o with h|h<;>omega)
     clear m HK2;have HCS:Hid (N=ckS a a.ss.length 0):=by show N=_;rw[h7.o];exact zJn HOK.o HG.o (by omega) HFB.o HFD.o
     go_wp2_with fail
     obtain⟨w7,rfl⟩:∃w7:World,w7=wr:=⟨_,rfl⟩
     go_loopw [5,6,58] (fun _ _ i wr=>∃k:Nat,k<=a.ss.length/\i=.int .i64 k/\Below W0 W0 wr/\Hid (∀ j,j<k->qB a j=0)) (fun _ _ i _=>a.ss.length-(intOf i).toNat)
     case atStart=>exact⟨0,Nat.zero_le _,rfl,HB5.o,fun j h=>absurd h (by omega)⟩
     obtain⟨U,hk3,rfl,hx,m⟩:=hrel;have h5:=hId hx;clear c0 c1 c2 c3 c4;obtain⟨_,c0,c1,c2,c3,c4⟩:=HA.o.below hx K;clear hx
     by_cases hkl3:U<a.ss.length
     ·obtain⟨b,o,hCC,_,hbl,q1,q2,q3⟩:=jZ.at_ (HR.o.ss.below h5.o) hkl3
      subst hCC;obtain⟨s,hs⟩:∃s,s=a.ss[U]:=⟨_,rfl⟩;rw[<-hs] at q1 q2 q3;have hs0:a.ss.getD U dQ=s:=by rw[zX hkl3,hs]
      have HS0:=hId hs0;have HS:=hId hs;clear hs hs0;obtain⟨bf,hbf⟩:∃b,b=btw s.f 0 (a.st-1):=⟨_,rfl⟩;obtain⟨bt,hbt⟩:∃b,b=btw s.t 0 (a.st-1):=⟨_,rfl⟩
      obtain⟨bl,hbl⟩:∃b,b=btw s.l 0 (a.le-1):=⟨_,rfl⟩
      have K1:Hid (∀ W,Below W0 W0 W->Calls Tryz.prog 85 #[s.f,(⟨V,0,none⟩:Addr)] W fun e w'=>e=.returned (.bool (btw s.f 0 (a.st-1)))/\Below W W w'):=fun W hW=>zJT a.st s.f V W (HA.o.below hW K).c0 hst1 hst2
      have K2:Hid (∀ W,Below W0 W0 W->Calls Tryz.prog 85 #[s.t,(⟨V,0,none⟩:Addr)] W fun e w'=>e=.returned (.bool (btw s.t 0 (a.st-1)))/\Below W W w'):=fun W hW=>zJT a.st s.t V W (HA.o.below hW K).c0 hst1 hst2
      have K3:=hId (fun W=>cL s.l 0 (a.le-1) W)
      rw[<-hbf] at K1;rw[<-hbt] at K2;rw[<-hbl] at K3;have h4:Hid (gJ a s=(!bf||!bt||!bl)):=by show gJ a s=_;rw[hbf,hbt,hbl];rfl
      clear hbf hbt hbl;have f0:=(zT h5.o hV1).trans HFN.o;have hV1r:V+1<wr.heap.size:=by have:=h5.o.size;omega
      have u:=hId (zD0 wr s)
      go_wp2_with fail
      change Calls _ _ _ (stW wr s) _;have HB8:Hid (Below W0 W0 (stW wr s)):=zA h5.o u.o.below h5.o.size;obtain⟨G,hG⟩:∃G,G=wr.heap.size:=⟨_,rfl⟩;rw[<-hG] at u ⊢
      have hGW:W0.heap.size<=G:=by rw[hG];exact h5.o.size
      generalize stW wr s=W8 at *;have HGG:=hId hG;clear c0 c1 c2 c3 c4 q1 q2 q3 hG f0;refine(K1.o _ HB8.o).mono ?_;rintro e w9 ⟨rfl,hx9⟩;have HB9:Hid (Below W0 W0 w9):=zA HB8.o hx9 HB8.o.size
      have HX9:=hId hx9;clear hx9
      have g:Hid (gJ a s=true->N=5):=by
       intro hb;have he:qB a U=5:=by unfold qB;rw[HS0.o,if_pos hb]
       rw[HCS.o,eP (k:=U) _ _ (Nat.zero_le _) (by omega) (fun j _ h=>m.o j h) (by rw[he];decide),he]
      cases bf with
      |false=>
       have O:Hid (N=5):=g.o (by rw[h4.o];rfl)
       clear g
       go_wp2_with fail
       go_ret
       exact⟨zJ O.o.symm,zA d.o HB9.o d.o.size⟩
      |true=>
       have g1:=(zT HX9.o (b:=G) (o:=2) (by rw[u.o.size];omega)).trans u.o.c2
       obtain⟨_,c0,c1,c2,c3,c4⟩:=HA.o.below HB9.o K;have f0:=(zT HB9.o hV1).trans HFN.o
       go_wp2_with fail
       refine(K2.o _ HB9.o).mono ?_;rintro e w10 ⟨rfl,hx10⟩;have HX10:Hid (Below W8 W8 w10):=zA HX9.o hx10 HX9.o.size;have HB10:Hid (Below W0 W0 w10):=zA HB9.o hx10 HB9.o.size
       clear hx10 g1 c0 c1 c2 c3 c4 f0
       cases bt with
       |false=>
        have O:Hid (N=5):=g.o (by rw[h4.o];rfl)
        clear g
        go_wp2_with fail
        go_ret
        exact⟨zJ O.o.symm,zA d.o HB10.o d.o.size⟩
       |true=>
        have g1:=(zT HX10.o (b:=G) (o:=1) (by rw[u.o.size];omega)).trans u.o.c1
        obtain⟨_,c0,c1,c2,c3,c4⟩:=HA.o.below HB10.o K
        go_wp2_with fail
        refine(K3.o _).mono ?_;rintro e w11 ⟨rfl,hx11⟩;have HX11:Hid (Below W8 W8 w11):=zA HX10.o hx11 HX10.o.size;have J:Hid (Below W0 W0 w11):=zA HB10.o hx11 HB10.o.size
        clear hx11 g1 c0 c1 c2 c3 c4
        cases bl with
        |false=>
         have O:Hid (N=5):=g.o (by rw[h4.o];rfl)
         clear g
         go_wp2_with fail
         go_ret
         exact⟨zJ O.o.symm,zA d.o J.o d.o.size⟩
        |true=>
         have HGOOD:Hid (gJ a s=false):=by show _=_;rw[h4.o];rfl
         clear g h4 K1 K2 K3;have g0:=(zT HX11.o (b:=G) (o:=0) (by rw[u.o.size];omega)).trans u.o.c0
         have g1:=(zT HX11.o (b:=G) (o:=1) (by rw[u.o.size];omega)).trans u.o.c1
         have g2:=(zT HX11.o (b:=G) (o:=2) (by rw[u.o.size];omega)).trans u.o.c2
         obtain⟨_,c0,c1,c2,c3,c4⟩:=HA.o.below J.o K;have e0:=cell_regrown g0;have e1:=cell_regrown g1;have e2:=cell_regrown g2;have e4:=cell_regrown c4
         by_cases hk0:0<U
         ·obtain⟨b',o',hCC',_,_,q1,q2,q3⟩:=jZ.at_ (HR.o.ss.below J.o) (k:=U-1) (by omega)
          obtain⟨rfl,rfl⟩:b=b'/\o=o':=by simpa using hCC'
          clear hCC';obtain⟨t,ht⟩:∃t,t=a.ss[U-1]:=⟨_,rfl⟩;rw[<-ht] at q1 q2 q3;have ht0:a.ss.getD (U-1) dQ=t:=by rw[zX (by omega),ht]
          obtain⟨lt2,hlt2⟩:∃b,b=qF t s:=⟨_,rfl⟩
          have HE:Hid (qB a U=if lt2=true then 0 else 4):=by
           show _=_;unfold qB;rw[HS0.o,ht0,if_neg (by rw[HGOOD.o];decide),<-hlt2]
           cases lt2<;>simp[hk0]
          obtain⟨ov,hov⟩:∃o,o=nX t s:=⟨_,rfl⟩;have hov1:(ov<0↔lt2=true):=by rw[hov,hlt2];exact zEH t s
          have C1:=hId (jM (w:=w11) fun W _=>zJF t s W)
          rw[<-hov] at C1;have HOV:=hId hov1;clear hov hov1;have f1:=cell_regrown q1;have f2:=cell_regrown q2;have f3:=cell_regrown q3;clear ht ht0 hlt2
          go_wp2_with fail
          refine wp_region_quiet_below (by kernel_rfl) (by kernel_rfl) ?_
          repeat(go_big_quiet_step (with_reducible exact C1.o _ _))
          refine wpQuiet_nil ?_;intro _ hw';obtain⟨⟨dq,osq⟩,hw''⟩:=hw';subst hw'';have HB12:=hId (wS J.o J.o.size dq osq);clear e0 e1 e2 e4 f1 f2 f3 q1 q2 q3;generalize grow (redrawn w11 dq) osq=w12 at *
          cases lt2 with
          |false=>
           have hov2:0<=ov:=by
            have:=HOV.o
            simp at this
            omega
           have O:Hid (N=4):=by
            have he:qB a U=4:=HE.o
            show N=4;rw[HCS.o,eP (k:=U) _ _ (Nat.zero_le _) (by omega) (fun j _ h=>m.o j h) (by rw[he];decide),he]
           go_wp2_with fail
           go_ret
           exact⟨zJ O.o.symm,zA d.o HB12.o d.o.size⟩
          |true=>
           have hov2:ov<0:=HOV.o.2 rfl
           go_wp2_with fail
           go_roundw
           case rel=>
            refine⟨U+1,by omega,by go_num,HB12.o,fun j h=>?_⟩
            rcases Nat.lt_or_ge j U with h1|h1
            ·exact m.o j h1
            obtain rfl:j=U:=by omega
            exact HE.o
           case measure=>simp[intOf];omega
         have HE:Hid (qB a U=0):=by
          show _=_;unfold qB;rw[HS0.o,if_neg (by rw[HGOOD.o];decide),if_neg (by simp[hk0])]
         have hk02:decide (0<U)=false:=decide_eq_false hk0
         go_wp2_with fail
         refine wp_region_quiet_below (by kernel_rfl) (by kernel_rfl) ?_
         repeat(go_big_quiet_step (fail))
         refine wpQuiet_nil ?_;intro _ hw';obtain⟨⟨dq,osq⟩,hw''⟩:=hw';subst hw'';have HB12:=hId (wS J.o J.o.size dq osq);clear e0 e1 e2 e4;generalize grow (redrawn w11 dq) osq=w12 at *
         go_wp2_with fail
         go_roundw
         case rel=>
          refine⟨U+1,by omega,by go_num,HB12.o,fun j h=>?_⟩
          rcases Nat.lt_or_ge j U with h1|h1
          ·exact m.o j h1
          obtain rfl:j=U:=by omega
          exact HE.o
         case measure=>simp[intOf];omega
     have O:Hid (N=0):=by
      show N=0;rw[HCS.o,nW];intro j h1 h2;exact m.o j (by omega)
     go_wp2_with fail
     go_ret
     exact⟨zJ O.o.symm,zA d.o h5.o d.o.size⟩
   have hg1:((a.gs.length:Int) !=a.st)=true:=by simpa using hg
   have O:Hid (N=1):=by show N=1;rw[h7.o];exact zJa HOK.o hg
   clear hg
   go_wp2_with fail
   go_ret
   exact⟨zJ O.o.symm,zA d.o h0.o d.o.size⟩
end
section
open Go
theorem wM {P:Program} {w w':World} {ops:Array Oper} {o:Oper} {a:Act} {K:Act->World->Prop} {Q:Exit->Act->World->Prop} {E:Prop} (e:o.guard=none) (s x:Operand) (t tn:TypeId)
  (g:o.op=.call {callee:=.builtin .append,args:=#[s,x],argTypes:=#[t,tn]}) (v u r:Value) (i:a.eval s=v) (m:a.eval x=u)
  (d:(Builtin.append_ #[t,tn] o.type #[v,u]).run P w=.ok r w') (h:K (a.put o.dst r) w'):
  if Region.wanted o (yielded ops a.tmps)=true then Oper.wp P o a w K Q else E:=by
 have j:Region.wanted o (yielded ops a.tmps)=true:=by simp[Region.wanted,e]
 rw[if_pos j];unfold Oper.wp execOp;simp only[g,resolve,invoke,builtin,Sem.run_bind,Sem.run_pure,Result.andThen_ok,List.map_toArray,List.map_cons,List.map_nil,i,m,d];exact h
section
variable {P:Program} {ops:Array Oper} {Q:Exit->Act->World->Prop} {md:Region.Mode} {S:World->Prop} {z:Nat}
def gL (P:Program) (md:Region.Mode) (ops:Array Oper) (Q:Exit->Act->World->Prop) (S:World->Prop) (z:Nat):Nat->Array Bool->Act->World->Prop
 |0,listed,a,w=>Region.ready md ops listed=[]/\Q .normal a w
 |fuel+1,listed,a,w=>(Region.ready md ops listed=[]->Q .normal a w)/\
  ∀i∈Region.ready md ops listed,wpOp P ops Q i (fun a' w'=>(i=z\/S w')/\gL P md ops Q S z fuel (listed.setIfInBounds i true) a' w') a w
theorem aX:∀(fuel:Nat) (d:Array Bool) (a:Act) (w:World),gL P md ops Q S z fuel d a w->wpAny P md ops Q fuel d a w
 |0,_,_,_,h=>h
 |fuel+1,_,_,_,h=>⟨h.1,fun i g=>wpOp_mono (fun a' w' e=>aX fuel _ a' w' e.2) (h.2 i g)⟩
def bK (md:Region.Mode) (ops:Array Oper) (listed:Array Bool):Prop:=
 ∀j oj,ops[j]?=some oj->listed.getD j false=true->∀e∈oj.after,Region.binds md e=true->listed.getD e.on false=true
theorem uW {d:Array Bool} {i k:Nat} (h:d.getD k false=true):(d.setIfInBounds i true).getD k false=true:=by
 by_cases hik:i=k
 ·subst hik
  rcases Nat.lt_or_ge i d.size with h1|h1
  ·simp[h1]
  simp[Array.getElem?_eq_none h1] at h
 rw[getD_set_ne false hik];exact h
theorem bK.set {d:Array Bool} {i:Nat} (h:bK md ops d) (O:i∈Region.ready md ops d):bK md ops (d.setIfInBounds i true):=by
 obtain⟨_,U,s,g⟩:=mem_ready.1 O;intro j N m K e J u
 by_cases hij:i=j
 ·subst hij
  have:N=U:=Option.some.inj (m.symm.trans s)
  subst this;exact uW (g e J u)
 rw[getD_set_ne false hij] at K;exact uW (h j N m K e J u)
def lK (md:Region.Mode) (ops:Array Oper) (listed:Array Bool):Bool:=
 (List.range ops.size).all fun j=>match ops[j]? with
  |some o=>!(listed.getD j false)||o.after.all fun e=>!(Region.binds md e)||listed.getD e.on false
  |none=>true
theorem cO {d:Array Bool} (h:lK md ops d=true):bK md ops d:=by
 intro j N g K e u s;have J:j<ops.size:=(gLt g);have i:=List.all_eq_true.1 h j (List.mem_range.2 J);rw[g] at i;simp only[K,Bool.not_true,Bool.false_or,Array.all_eq_true'] at i;have m:=i e u;rw[s] at m
 simpa using m
def bX (md:Region.Mode) (ops:Array Oper) (i:Nat):Nat->Nat->Bool
 |0,_=>false
 |n+1,j=>match ops[j]? with
  |some o=>o.after.any fun e=>Region.binds md e&&(e.on==i||bX md ops i n e.on)
  |none=>false
theorem bY {d:Array Bool} {i:Nat} (K:bK md ops d):∀(n j:Nat),bX md ops i n j=true->(∀ g,ops[j]?=some g->∀e∈g.after,Region.binds md e=true->d.getD e.on false=true)->d.getD i false=true
 |0,_,h,_=>by cases h
 |n+1,j,h,hj=>by
  unfold bX at h
  cases ho:ops[j]? with
  |none=>rw[ho] at h;cases h
  |some o=>
   rw[ho] at h;obtain⟨e,U,m⟩:=Array.any_eq_true'.1 h;simp only[Bool.and_eq_true,Bool.or_eq_true,beq_iff_eq] at m;have N:=hj o ho e U m.1
   rcases m.2 with h3|h3
   ·rw[<-h3];exact N
   exact bY K n e.on h3 fun g J O u s=>K e.on g J N O u s
theorem wD {d:Array Bool} {i:Nat} (g:i∈Region.ready md ops d):d.getD i false=false:=by
 have e:=(mem_ready.1 g).1
 rcases Nat.lt_or_ge i d.size with h'|h'
 ·simp[h'] at e ⊢;exact e
 simp[Array.getElem?_eq_none h']
theorem zBw {i:Nat} {oi:Oper} {v:Value} (hi:ops[i]?=some oi) (O:∀(j:Nat) (o:Oper) cs b,ops[j]?=some o->o.op≠.select cs b)
  (hQ:∀c a w,Q (.panic c) (a.put oi.dst v) w->Q (.panic c) a w) (n:Nat) (hz:bX md ops i n z=true):
  ∀(g:Nat) (d:Array Bool) (a:Act) (w:World),bK md ops d->
   (∀ j U,ops[j]?=some U->j≠i->d.getD j true=false->(∀ e∈U.after,Region.binds md e=true->e.on≠i)->oi.apart ops U=true)->
   i∈Region.ready md ops d->YieldsIf P ops S oi v a->S w->
   gL P md ops Q S z g (d.setIfInBounds i true) (a.put oi.dst v) w->gL P md ops Q S z (g+1) d a w:=by
 intro g
 induction g with
 |zero=>
  intro d a w _ _ N hy hS H;refine⟨fun h=>(by rw[h] at N;cases N),fun j hj=>?_⟩
  by_cases hji:j=i
  ·subst hji;exact hy.wpOp hi hS ⟨.inr hS,H⟩
  have:=ready_mono hj hji;rw[H.1] at this;cases this
 |succ g ih=>
  intro d a w hcl m N hy hS H;refine⟨fun h=>(by rw[h] at N;cases N),fun j hj=>?_⟩
  by_cases hji:j=i
  ·subst hji;exact hy.wpOp hi hS ⟨.inr hS,H⟩
  have h1:=H.2 j (ready_mono hj hji);obtain⟨K,U,u,J⟩:=mem_ready.1 hj
  have hjz:j≠z:=by
   rintro rfl
   have:=bY hcl n j hz fun oj' hoj'=>by
    obtain rfl:oj'=U:=Option.some.inj (hoj'.symm.trans u)
    exact J
   rw[wD N] at this;cases this
  have hnot:∀e∈U.after,Region.binds md e=true->e.on≠i:=fun e he hb heq=>by
   have h1:=J e he hb;rw[heq,wD N] at h1;cases h1
  have h2:=wpOp_putIf u (m j U u hji K hnot) (fun cs b=>O i oi cs b hi) (fun cs b=>O j U cs b u) hQ hy h1
  have s:∀k ok,ops[k]?=some ok->k≠i->(d.setIfInBounds j true).getD k true=false->
    (∀ e∈ok.after,Region.binds md e=true->e.on≠i)->oi.apart ops ok=true:=fun k ok hk hki hun hno=>by
   refine m k ok hk hki ?_ hno
   by_cases hjk:j=k
   ·subst hjk;exact K
   rw[getD_set_ne true hjk] at hun;exact hun
  refine wpOp_mono (fun a' w' h3=>⟨h3.2.1,ih (d.setIfInBounds j true) a' w' (hcl.set hj) s (ready_mono N (Ne.symm hji)) h3.1 (h3.2.1.resolve_left hjz) ?_⟩) h2
  rw[Array.setIfInBounds_comm _ _ hji];exact h3.2.2
theorem kT {l:List Oper} {i:Nat} {o:Oper} {d:List Oper} (h:l.drop i=o::d):l.toArray[i]?=some o:=by
 have:=congrArg (fun m:List Oper=>m[0]?) h
 simpa using this
theorem zCd {l g:List Oper} {i:Nat} {j:Oper} {v:Value} {e:Nat} {d:Array Bool} {a:Act} {w:World} (m:l.drop i=j::g)
  (O:Region.noSelect l.toArray=true) (K:Region.free md l.toArray d i=true) (N:(Region.ready md l.toArray d).contains i=true) (J:lK md l.toArray d=true) (hz:bX md l.toArray i l.length z=true)
  (s:∀c a w,Q (.panic c) (a.put j.dst v) w->Q (.panic c) a w) (U:YieldsIf P l.toArray S j v a) (u:S w)
  (h:gL P md l.toArray Q S z e (d.setIfInBounds i true) (a.put j.dst v) w):gL P md l.toArray Q S z (e+1) d a w:=
 zBw (kT m) (Region.noSelect_spec O) s l.length hz e d a w (cO J) (Region.free_spec (kT m) K) (by simpa using N) U u h
theorem tY {l j:List Oper} (i:Nat) (v:Value) {g:Oper} {e:Nat} {d:Array Bool} {a:Act} {w:World} (hy:∀w,S w->(execOp a.eval g).run P w=.ok (.value v) w) (s:S w)
  (h:gL P md l.toArray Q S z e (d.setIfInBounds i true) (a.put g.dst v) w) (K:l.drop i=g::j:=by rfl) (O:Region.noSelect l.toArray=true:=by kernel_rfl) (J:Region.free md l.toArray d i=true:=by kernel_rfl) (N:(Region.ready md l.toArray d).contains i=true:=by kernel_rfl) (u:lK md l.toArray d=true:=by kernel_rfl) (hz:bX md l.toArray i l.length z=true:=by kernel_rfl)
  (m:∀c a w,Q (.panic c) (a.put g.dst v) w->Q (.panic c) a w:=by exact fun _ _ _ h=>h) (U:Region.wanted g (yielded l.toArray a.tmps)=true:=by rfl):gL P md l.toArray Q S z (e+1) d a w:=
 zCd K O J N u hz m (.inl ⟨U,hy⟩) s h
theorem jQ {l m:List Oper} {i:Nat} {o:Oper} {e:Nat} {d:Array Bool} {a:Act} {w:World} (U:l.drop i=o::m) (J:Region.ready md l.toArray d=[i])
  (h:∀g:Act->World->Prop,Shut (∀ a w,(i=z\/S w)->gL P md l.toArray Q S z e (d.setIfInBounds i true) a w->g a w)->if Region.wanted o (yielded l.toArray a.tmps)=true then Oper.wp P o a w g Q else g (a.put o.dst undef) w):
  gL P md l.toArray Q S z (e+1) d a w:=by
 refine⟨fun s=>by rw[J] at s;simp at s,fun j u=>?_⟩
 rw[J] at u;obtain rfl:=List.mem_singleton.1 u;exact wpOp_step (kT U) (fun g K=>h g (fun a w N O=>K a w ⟨N,O⟩))
theorem mS {d:Array Bool} {a:Act} {w:World} (g:Region.ready md ops d=[]) (h:Q .normal a w):∀e,gL P md ops Q S z e d a w
 |0=>⟨g,h⟩
 |_+1=>⟨fun _=>h,by rw[g];simp⟩
theorem mJ {id:Nat} {a:Act} {w:World} (S:World->Prop) (z:Nat) (d:P.follows .mixedOrders=true)
  (h:gL P .any ops Q S z ops.size (Array.replicate ops.size false) a w.drew):(Code.region id ops true).wp P Q a w:=
 wp_region_any d (aX _ _ _ _ h)
end
end
section
open Go Go.RowKit Go.Sort
theorem zJj {d:Func} (h:d.results=#[.cell 4 31]) (tmps:Array Value) (w:World) (V:Nat) {e g i j m:Value} (u:tmps[4]?=some (.pointer (some ⟨V,0,none⟩)))
  (s:w.heap[V]?=some (.cells #[e,g,i,j,m] 31 (0,0))):(results d tmps).run Tryz.prog w=.ok (.agg #[e,g,i,j,m]) w:=by
 obtain⟨J,K,N,O,U,_⟩:=zZ s
 simp[results,h,go_sem,u,J,K,N,O,U]
def rO (w:World) (r:Au) (e:Ending) (w':World):Prop:=∃A B C ca cb cc,e=.returned (.agg #[r.st,r.le,.slice A r.fs.length ca,.slice B r.gs.length cb,.slice C r.ss.length cc])/\zM w' w.heap.size r A B C ca cb cc/\Below w w w'
theorem zI6 (a:Au) (keep:List Bool) (A B C D:Option Addr) (ca cb cc cd:Nat) (w:World) (hr:zM w 0 a A B C ca cb cc) (hk:xG w 0 D cd keep) (hkl:(keep.length:Int)=a.st) (ho:vG a):
  Calls Tryz.prog 62 #[.agg #[a.st,a.le,.slice A a.fs.length ca,.slice B a.gs.length cb,.slice C a.ss.length cc],.slice D keep.length cd] w (rO w (qD a keep)):=by
 obtain⟨N,hN⟩:=Int.eq_ofNat_of_zero_le (show 0<=a.st by have:=ho.st1;omega)
 have hN3:N<=300:=by have:=ho.st2;omega
 have hmk:=bL a.st N hN.symm (by omega)
 have HFL:=hId ho.fs_le;have HN:=hId hN;have HKL:Hid (keep.length=N):=by show _=_;omega
 clear hN hkl;have HW:=jN w a A B C ca cb cc
 have hb0:Below w w ((auW w a A B C ca cb cc).alloc (.cells #[(0:Int),(0:Int),(),(),()] 31)):=HW.below.alloc (by rw[HW.size];omega) _
 have HV0:yG ((auW w a A B C ca cb cc).alloc (.cells #[(0:Int),(0:Int),(),(),()] 31)) w.heap.size a A B C ca cb cc:=HW.at.below (bLa) (by rw[HW.size];omega)
 have hobj:((auW w a A B C ca cb cc).alloc (.cells #[(0:Int),(0:Int),(),(),()] 31)).heap[w.heap.size+1]?=some (.cells #[(0:Int),(0:Int),(),(),()] 31 (0,0)):=by
  rw[<-HW.size];show((auW w a A B C ca cb cc).heap.push _)[(auW w a A B C ca cb cc).heap.size]?=_
  simp
 have hsz:((auW w a A B C ca cb cc).alloc (.cells #[(0:Int),(0:Int),(),(),()] 31)).heap.size=w.heap.size+1+1:=by simp[HW.size]
 clear HW;unfold auW at hb0 HV0 hobj hsz
 go_enter Tryz.func62,Tryz.ntmps62
 go_upto_region 1 with fail
 obtain⟨V,hV⟩:∃V,V=w.heap.size:=⟨_,rfl⟩;rw[<-hV] at HV0 hobj hsz ⊢
 generalize (w.alloc (.cells #[a.st,a.le,.slice A a.fs.length ca,.slice B a.gs.length cb,.slice C a.ss.length cc] 31)).alloc (.cells #[(0:Int),(0:Int),(),(),()] 31)=W0 at *
 have HVA:=hId HV0;obtain⟨_,c0,c1,c2,c3,c4⟩:=HV0;have HB0:=hId hb0;have HSZ:=hId hsz;have HOB:=hId hobj;have HO:=hId ho;have HVL:Hid (V+1+1=W0.heap.size):=hsz.symm
 have HR:Hid (zM W0 0 a A B C ca cb cc):=hr.below hb0
 have HK:Hid (xG W0 0 D cd keep):=hk.below hb0
 have HVV:=hId hV
 have HM0:Hid (MdM W0 W0.heap.size (W0.heap.size+1) (jU keep N 0) 0 a.le [] [] [] () () () ((W0.alloc (.cells (madeCells #[Value.int .i64 0] N) 3)).alloc (.cells #[(0:Int),a.le,(),(),()] 31))):=by
  have h1:Below W0 W0 (W0.alloc (.cells (madeCells #[Value.int .i64 0] N) 3)):=bLa
  have h2:=AuM.new (W0.alloc (.cells (madeCells #[Value.int .i64 0] N) 3)) a.le;rw[show(W0.alloc (.cells (madeCells #[Value.int .i64 0] N) 3)).heap.size=W0.heap.size+1 by simp] at h2
  refine⟨h1.alloc (by simp) _,by omega,?_,h2⟩
  rw[zDF];exact(vU.new W0 N).below (bLa) (vU.new W0 N).lt
 clear hb0 hsz hobj hr hk ho hV
 go_upto_block 0 with fail
 clear c0 c1 c2 c3 c4 hmk;obtain⟨t,ht⟩:∃t,t=W0.heap.size:=⟨_,rfl⟩;rw[<-ht] at HM0 HVL HSZ ⊢;have HT:=hId ht;have HVW:Hid (∀ W,Below t W0 W->yG W V a A B C ca cb cc):=fun W h=>HVA.o.below h (by have:=HVL.o;omega)
 have HKW:Hid (∀ W,Below t W0 W->xG W 0 D cd keep):=fun W h=>HK.o.below h (by rw[ht];exact nLe)
 have HRW:Hid (∀ W,Below t W0 W->zM W 0 a A B C ca cb cc):=fun W h=>HR.o.below (by rw[<-ht];exact h)
 clear ht HK HR HVA;generalize (W0.alloc (.cells (madeCells #[Value.int .i64 0] N) 3)).alloc (.cells #[(0:Int),a.le,(),(),()] 31)=W1 at *
 go_cut [] (fun wx=>∃gv,Hid (MdM W0 t (t+1) (jU keep N N) (pos keep N:Nat) a.le [] (zY a.gs keep N) [] () gv () wx))
 case first=>
  go_wp2_with fail
  go_loopw [7,20] (fun _ i wr=>∃(k:Nat) (gv:Value),k<=N/\i=(k:Int)/\Hid (MdM W0 t (t+1) (jU keep N k) (pos keep k:Nat) a.le [] (zY a.gs keep k) [] () gv () wr)) (fun _ i _=>N-(intOf i).toNat)
  case atStart=>exact⟨0,_,Nat.zero_le _,rfl,HM0.o⟩
  obtain⟨k,gv,hk,rfl,HM⟩:=hrel;clear HM0
  by_cases hkN:k<N
  ·have q1:(k:Int)<a.st:=by have:=HN.o;omega
   have q2:(k:Int)<(N:Int):=by omega
   obtain⟨g0,g1,g2,g3,g4,gf0,gf1,gf2,gf3,gf4⟩:=zZ HM.o.au.obj;obtain⟨z1,z2⟩:=HM.o.row.getD_ (i:=k) (by rw[oZ];omega)
   have hpk:pos keep k<=300:=by
    have:pos keep k<=k:=by unfold pos;exact Nat.le_trans (List.count_le_length ..) (by simp;omega)
    omega
   have HTS:=hId (zDG keep hkN);have HPS:=hId (sM (keep:=keep) (i:=k) (by rw[HKL.o];exact hkN))
   have HGS:=hId (bG a.gs keep k);have HGLN:Hid ((zY a.gs keep k).length=pos keep k):=fJ (by rw[HKL.o];omega)
   have m:=hId (HM.o.put k (pos keep k:Nat));rw[HTS.o] at m;have HX:=hId hkN;generalize pos keep k=p at *
   go_upto_region 7 with fail
   clear g0 g1 g2 g3 g4 gf0 gf1 gf2 gf3 gf4 z1 z2 HM;generalize wr.setCell ⟨t,k,none⟩ (.int .i64 (p:Int))=W2 at *;obtain⟨kb,ko,hD,_,_,y0⟩:=xG.at_ (HKW.o _ m.o.below) (k:=k) (by rw[HKL.o];exact hkN)
   have hkg:keep[k]'(by rw[HKL.o];exact hkN)=keep.getD k false:=by rw[List.getD_eq_getElem?_getD,List.getElem?_eq_getElem];rfl
   rw[hkg] at y0;subst hD;have q3:(k:Int)<(keep.length:Int):=by rw[HKL.o];exact q2
   clear hkg
   cases hkv:keep.getD k false with
   |false=>
    rw[hkv] at y0;have hp1:pos keep (k+1)=p:=by rw[HPS.o,hkv];rfl
    have J:zY a.gs keep (k+1)=zY a.gs keep k:=by rw[HGS.o,hkv];simp
    have U:Hid (MdM W0 t (t+1) (jU keep N (k+1)) (pos keep (k+1):Nat) a.le [] (zY a.gs keep (k+1)) [] () gv () W2):=by unfold Hid;rw[hp1,J];exact m.o
    clear hkv hp1 J HGLN
    go_wp2_with fail
    go_roundw
    case rel=>exact⟨k+1,gv,HX.o,by go_num,U.o⟩
    case measure=>simp[intOf];omega
   |true=>
    rw[hkv] at y0;have hp1:pos keep (k+1)=p+1:=by rw[HPS.o,hkv];rfl
    have J:zY a.gs keep (k+1)=zY a.gs keep k++[a.gs.getD k false]:=by rw[HGS.o,hkv];simp
    have HM3:=hId (m.o.states ((p:Int)+1));obtain⟨g0,g1,g2,g3,g4,gf0,gf1,gf2,gf3,gf4⟩:=zZ m.o.au.obj
    go_upto_region 9 with fail
    clear g0 g1 g2 g3 g4 gf0 gf1 gf2 gf3 gf4 y0 hkv;generalize W2.setCell ⟨t+1,0,none⟩ (.int .i64 ((p:Int)+1))=W3 at *;have hdw:Below W3 W3 W3.drew:=bRf.drew;have g:=hId (HM3.o.on hdw)
    obtain⟨T,c,rfl,hlc,hcm,T3,c3,w5,h7,q4,f4,-,hAU,hBB⟩:=g.o.au.appG (a.gs.getD k false) (by rw[HGLN.o];omega)
    have HM5:=hId (g.o.step hAU hBB);obtain⟨gb,go_,hB,_,_,z0⟩:=xG.at_ (HRW.o _ g.o.below).gs (k:=k) (by have:=HO.o.gl;have:=HN.o;omega)
    have hkg:a.gs[k]'(by have:=HO.o.gl;have:=HN.o;omega)=a.gs.getD k false:=by rw[List.getD_eq_getElem?_getD,List.getElem?_eq_getElem];rfl
    rw[hkg] at z0;subst hB;have q5:(k:Int)<(a.gs.length:Int):=by have:=HO.o.gl;have:=HN.o;omega
    obtain⟨g0,g1,g2,g3,g4,gf0,gf1,gf2,gf3,gf4⟩:=zZ g.o.au.obj;have hGl:t+1<W3.heap.size:=g.o.au.lt
    have O:Below W3 W3 (W3.alloc (.cells #[.bool (a.gs.getD k false)] 4)).drew:=((Below.refl _ W3).alloc nLe _).drew
    have g3':(W3.alloc (.cells #[.bool (a.gs.getD k false)] 4)).drew.cell? ⟨t+1,3,none⟩=some (.slice T (zY a.gs keep k).length c):=(O.cell (p:=⟨t+1,3,none⟩) hGl).trans g3
    obtain⟨_,v0,v1,v2,v3,v4⟩:=HVW.o _ g.o.below
    have HRUN:Hid ((Builtin.append_ #[28,28] 28 #[.slice T (zY a.gs keep k).length c,.slice (some ⟨W3,0,none⟩) 1 1]).run Tryz.prog (W3.alloc (.cells #[.bool (a.gs.getD k false)] 4)).drew=.ok (.slice T3 ((zY a.gs keep k).length+1) c3) w5):=h7
    have U:Hid (MdM W0 t (t+1) (jU keep N (k+1)) (pos keep (k+1):Nat) a.le [] (zY a.gs keep (k+1)) [] () (.slice T3 ((zY a.gs keep k).length+1) c3) () (w5.setCell ⟨t+1,3,none⟩ (.slice T3 ((zY a.gs keep k).length+1) c3))):=by unfold Hid;rw[hp1,J];exact HM5.o
    clear g0 g1 g2 g4 gf0 gf1 gf2 gf3 gf4 v0 v1 v2 v4 h7 hAU hBB hp1 J hkg O hdw g HM3 m HM5 HGLN;generalize (zY a.gs keep k).length=gn at *;generalize a.gs.getD k false=gk at *
    go_region_law ((refine wM rfl (.tmp 37) (.tmp 43) _ _ rfl (.slice T gn c) (.slice (some ⟨W3,0,none⟩) 1 1) (.slice T3 (gn+1) c3) (by go_simp) (by go_simp) HRUN.o ?_))
    all_goals
     have HMR2:=hId U.o;go_simp
     go_wp2_with fail
     go_roundw
     case rel=>exact⟨k+1,_,HX.o,by go_num,HMR2.o⟩
     case measure=>simp[intOf];omega
  have q1:¬(k:Int)<a.st:=by have:=HN.o;omega
  obtain rfl:k=N:=by omega
  go_wp2_with fail
  go_meet
  exact⟨gv,HM.o⟩
 obtain⟨gv,HM0'⟩:=hcut;clear HM0;have HM0:=HM0';clear HM0'
 go_upto_region 11 with fail
 have HTL:Hid (∀ q:Int,0<=q->q<a.st->∀W,vU W t (jU keep N N)->W.cell? ⟨t,q.toNat,none⟩=some (.int .i64 (xI keep q))/\W.frozen? ⟨t,q.toNat,none⟩=false):=fun q h0 h1 W hW=>by
  have hq:q.toNat<N:=by have:=HN.o;omega
  have h:=hW.getD_ (i:=q.toNat) (by rw[oZ];exact hq)
  rw[zEP keep hq] at h;exact h
 have HKQ:Hid (∀ q:Int,0<=q->q<a.st->∀W,Below t W0 W->∃b o,D=some ⟨b,o,none⟩/\W.cell? ⟨b,o+q.toNat,none⟩=some (.bool (kp keep q))):=fun q h0 h1 W hW=>by
  have hq:q.toNat<keep.length:=by rw[HKL.o];have:=HN.o;omega
  obtain⟨kb,ko,hD,_,_,y0⟩:=xG.at_ (HKW.o W hW) hq;refine⟨kb,ko,hD,y0.trans ?_⟩;unfold kp;rw[List.getD_eq_getElem?_getD,List.getElem?_eq_getElem hq];rfl
 obtain⟨_,v0,v1,v2,v3,v4⟩:=HVW.o _ HM0.o.below
 go_upto_block 2 with fail
 clear v0 v1 v2 v3 v4
 go_cut [] (fun wx=>∃fv,Hid (MdM W0 t (t+1) (jU keep N N) (pos keep N:Nat) a.le (yF a keep a.fs.length) (zY a.gs keep N) [] fv gv () wx))
 case first=>
  go_wp2_with fail
  go_loopw [9,50] (fun _ i wr=>∃(k:Nat) (fv:Value),k<=a.fs.length/\i=(k:Int)/\Hid (MdM W0 t (t+1) (jU keep N N) (pos keep N:Nat) a.le (yF a keep k) (zY a.gs keep N) [] fv gv () wr)) (fun _ i _=>a.fs.length-(intOf i).toNat)
  case atStart=>exact⟨0,_,Nat.zero_le _,rfl,HM0.o⟩
  obtain⟨k,fv,hk,rfl,HM⟩:=hrel;clear HM0
  by_cases hkN:k<a.fs.length
  ·have q1:(k:Int)<(a.fs.length:Int):=by omega
   have hrdf:=(HRW.o _ HM.o.below).fs;have hca:=hrdf.le;obtain⟨fb,fo,hA,_,_,x0⟩:=zE.at_ hrdf hkN;have hfr:=HO.o.fr _ (List.getElem_mem hkN);have HKS:=hId (iL a keep hkN)
   have hfl2:(yF a keep k).length<=300:=by
    unfold yF;rw[List.length_map];have:=List.length_filter_le (kp keep) (a.fs.take k);have:=List.length_take_le k a.fs;have:=HFL.o;have:=HN.o;omega
   have hfl3:a.fs.length<=300:=by have:=HFL.o;have:=HN.o;omega
   obtain⟨q,hq⟩:∃q,q=a.fs[k]:=⟨_,rfl⟩;rw[<-hq] at x0 hfr HKS;clear hq hrdf;obtain⟨kb,ko,hD,y0⟩:=HKQ.o q hfr.1 hfr.2 wr HM.o.below;have hTL:=HTL.o q hfr.1 hfr.2;have HTQ:=hId hTL
   obtain⟨n,rfl⟩:=Int.eq_ofNat_of_zero_le hfr.1;rw[Int.toNat_natCast] at y0 HTQ;subst hA hD;have q3:(n:Int)<(keep.length:Int):=by rw[HKL.o];have:=HN.o;omega
   have q4:(n:Int)<(N:Int):=by have:=HN.o;omega
   have HX:=hId hkN;clear hTL hfr
   cases hkv:kp keep (n:Int) with
   |false=>
    rw[hkv] at y0;have J:yF a keep (k+1)=yF a keep k:=by rw[HKS.o,hkv];simp
    have U:Hid (MdM W0 t (t+1) (jU keep N N) (pos keep N:Nat) a.le (yF a keep (k+1)) (zY a.gs keep N) [] fv gv () wr):=by unfold Hid;rw[J];exact HM.o
    clear hkv J HM
    go_wp2_with fail
    go_roundw
    case rel=>exact⟨k+1,fv,HX.o,by go_num,U.o⟩
    case measure=>simp[intOf];omega
   |true=>
    rw[hkv] at y0;have J:yF a keep (k+1)=yF a keep k++[xI keep n]:=by rw[HKS.o,hkv];simp
    go_upto_region 15 with fail
    clear y0 hkv x0;have hdw:Below wr wr wr.drew:=bRf.drew;have g:=hId (HM.o.on hdw);obtain⟨T,c,rfl,hlc,hcm,T3,c3,w5,h7,p4,f4,-,hAU,hBB⟩:=g.o.au.appF (xI keep n) (by omega)
    have HM5:=hId (g.o.step hAU hBB);obtain⟨z0,_⟩:=HTQ.o _ g.o.row;obtain⟨g0,g1,g2,g3,g4,gf0,gf1,gf2,gf3,gf4⟩:=zZ g.o.au.obj;have hGl:t+1<wr.heap.size:=g.o.au.lt
    have O:Below wr wr (wr.alloc (.cells #[(xI keep n)] 3)).drew:=((Below.refl _ wr).alloc nLe _).drew
    have g2':(wr.alloc (.cells #[(xI keep n)] 3)).drew.cell? ⟨t+1,2,none⟩=some (.slice T (yF a keep k).length c):=(O.cell (p:=⟨t+1,2,none⟩) hGl).trans g2
    have HRUN:Hid ((Builtin.append_ #[22,22] 22 #[.slice T (yF a keep k).length c,.slice (some ⟨wr,0,none⟩) 1 1]).run Tryz.prog (wr.alloc (.cells #[(xI keep n)] 3)).drew=.ok (.slice T3 ((yF a keep k).length+1) c3) w5):=h7
    have U:Hid (MdM W0 t (t+1) (jU keep N N) (pos keep N:Nat) a.le (yF a keep (k+1)) (zY a.gs keep N) [] (.slice T3 ((yF a keep k).length+1) c3) gv () (w5.setCell ⟨t+1,2,none⟩ (.slice T3 ((yF a keep k).length+1) c3))):=by unfold Hid;rw[J];exact HM5.o
    clear g0 g1 g3 g4 gf0 gf1 gf2 gf3 gf4 h7 hAU hBB J O hdw g HM5;generalize (yF a keep k).length=gn at *;generalize xI keep (n:Int)=gk at *
    go_region_law ((refine wM rfl (.tmp 59) (.tmp 64) _ _ rfl (.slice T gn c) (.slice (some ⟨wr,0,none⟩) 1 1) (.slice T3 (gn+1) c3) (by go_simp) (by go_simp) HRUN.o ?_))
    all_goals
     have HMR2:=hId U.o;go_simp
     go_wp2_with fail
     go_roundw
     case rel=>exact⟨k+1,_,HX.o,by go_num,HMR2.o⟩
     case measure=>simp[intOf];omega
  have q1:¬(k:Int)<(a.fs.length:Int):=by omega
  obtain rfl:k=a.fs.length:=by omega
  go_wp2_with fail
  go_meet
  exact⟨fv,HM.o⟩
 obtain⟨fv,HM1⟩:=hcut;clear HM0
 go_upto_region 17 with fail
 obtain⟨_,v0,v1,v2,v3,v4⟩:=HVW.o _ HM1.o.below
 go_upto_block 4 with fail
 clear v0 v1 v2 v3 v4
 go_cut [] (fun wx=>∃sv,Hid (MdM W0 t (t+1) (jU keep N N) (pos keep N:Nat) a.le (yF a keep a.fs.length) (zY a.gs keep N) (yD a keep a.ss.length) fv gv sv wx))
 case first=>
  have hsl:=HO.o.sl
  go_wp2_with fail
  go_loopw [11,71] (fun _ i wr=>∃(k:Nat) (sv:Value),k<=a.ss.length/\i=(k:Int)/\Hid (MdM W0 t (t+1) (jU keep N N) (pos keep N:Nat) a.le (yF a keep a.fs.length) (zY a.gs keep N) (yD a keep k) fv gv sv wr)) (fun _ i _=>a.ss.length-(intOf i).toNat)
  case atStart=>exact⟨0,_,Nat.zero_le _,rfl,HM1.o⟩
  obtain⟨k,sv,hk,rfl,HM⟩:=hrel;clear HM1
  by_cases hkN:k<a.ss.length
  ·have q1:(k:Int)<(a.ss.length:Int):=by omega
   have hrds:=(HRW.o _ HM.o.below).ss;obtain⟨sb,so,hC,_,_,x0,x1,x2⟩:=jZ.at_ hrds hkN;have h6:=HO.o.sr _ (List.getElem_mem hkN);have HKS:=hId (eQ a keep hkN);have hca:=hrds.le
   have hfl2:(yD a keep k).length<=6000:=by
    unfold yD;rw[List.length_map];have:=List.length_filter_le (fun s=>kp keep s.f&&kp keep s.t) (a.ss.take k)
    have:=List.length_take_le k a.ss;omega
   obtain⟨s,hs⟩:∃s,s=a.ss[k]:=⟨_,rfl⟩;rw[<-hs] at x0 x1 x2 h6 HKS;clear hs hrds;obtain⟨sf,sl,st⟩:=s;simp only at x0 x1 x2 h6 HKS
   have hba:Below wr wr (wr.alloc (.cells #[sf,sl,st] 80)):=bLa
   have m:=hId (HM.o.on hba);have hS0:(wr.alloc (.cells #[sf,sl,st] 80)).cell? ⟨wr,0,none⟩=some (.int .i64 sf):=by go_simp
   have hS1:(wr.alloc (.cells #[sf,sl,st] 80)).cell? ⟨wr.heap.size,1,none⟩=some (.int .i64 sl):=by go_simp
   have hS2:(wr.alloc (.cells #[sf,sl,st] 80)).cell? ⟨wr.heap.size,2,none⟩=some (.int .i64 st):=by go_simp
   have hSl:wr.heap.size<(wr.alloc (.cells #[sf,sl,st] 80)).heap.size:=by simp
   subst hC
   go_upto_region 20 with fail
   obtain⟨S,hSS⟩:∃S,S=wr.heap.size:=⟨_,rfl⟩;rw[<-hSS] at hS0 hS1 hS2 hSl ⊢;generalize wr.alloc (.cells #[sf,sl,st] 80)=W2 at *
   have hSV:some S≠sv.ownBlock:=fun e=>by have:=(HM.o.au.s.lt S e.symm).2;omega
   have hSt:t+1<S:=by have:=HM.o.au.lt;omega
   clear hSS hba HM x0 x1 x2;obtain⟨kb,ko,hD,y0⟩:=HKQ.o sf h6.1.1 h6.1.2 W2 m.o.below;obtain⟨kb',ko',hD',y1⟩:=HKQ.o st h6.2.1.1 h6.2.1.2 W2 m.o.below;have HTF:=hId (HTL.o sf h6.1.1 h6.1.2)
   have HTT:=hId (HTL.o st h6.2.1.1 h6.2.1.2);obtain⟨nf,rfl⟩:=Int.eq_ofNat_of_zero_le h6.1.1;obtain⟨nt,rfl⟩:=Int.eq_ofNat_of_zero_le h6.2.1.1;rw[Int.toNat_natCast] at y0 y1 HTF HTT;subst hD
   obtain⟨rfl,rfl⟩:kb=kb'/\ko=ko':=by simpa using hD'
   have q3:(nf:Int)<(keep.length:Int):=by rw[HKL.o];have:=HN.o;omega
   have q4:(nf:Int)<(N:Int):=by have:=HN.o;omega
   have q5:(nt:Int)<(keep.length:Int):=by rw[HKL.o];have:=HN.o;omega
   have q6:(nt:Int)<(N:Int):=by have:=HN.o;omega
   have HX:=hId hkN;clear h6 hD'
   have HNO:Hid ((kp keep (nf:Int)&&kp keep (nt:Int))=false->MdM W0 t (t+1) (jU keep N N) (pos keep N:Nat) a.le (yF a keep a.fs.length) (zY a.gs keep N) (yD a keep (k+1)) fv gv sv W2):=fun h=>by
    have J:yD a keep (k+1)=yD a keep k:=by rw[HKS.o,h];simp
    rw[J];exact m.o
   cases hkv:kp keep (nf:Int) with
   |false=>
    rw[hkv] at y0;have U:=hId (HNO.o (by rw[hkv];rfl))
    clear hkv HNO y1 hS1 hS2
    go_wp2_with fail
    go_roundw
    case rel=>exact⟨k+1,sv,HX.o,by go_num,U.o⟩
    case measure=>simp[intOf];omega
   |true=>
    rw[hkv] at y0
    cases hkw:kp keep (nt:Int) with
    |false=>
     rw[hkw] at y1;have U:=hId (HNO.o (by rw[hkv,hkw];rfl))
     clear hkv hkw HNO hS1
     go_wp2_with fail
     go_roundw
     case rel=>exact⟨k+1,sv,HX.o,by go_num,U.o⟩
     case measure=>simp[intOf];omega
    |true=>
     rw[hkw] at y1;have J:yD a keep (k+1)=yD a keep k++[⟨xI keep nf,sl,xI keep nt⟩]:=by rw[HKS.o,hkv,hkw];rfl
     go_upto_region 21 with fail
     clear y0 y1 hkv hkw HNO;have hdw:Below W2 W2 W2.drew:=bRf.drew;have g:=hId (m.o.on hdw);obtain⟨T,c,rfl,hlc,hcm,T3,c3,w5,h7,p4,f4,hgr,hAU,hBB⟩:=g.o.au.appS ⟨xI keep nf,sl,xI keep nt⟩ (by omega)
     have HM5:=hId (g.o.step hAU hBB);obtain⟨z0,_⟩:=HTF.o _ g.o.row;obtain⟨z1,_⟩:=HTT.o _ g.o.row;obtain⟨g0,g1,g2,g3,g4,gf0,gf1,gf2,gf3,gf4⟩:=zZ g.o.au.obj;have hGl:t+1<W2.heap.size:=g.o.au.lt
     have O:Below W2 W2 (W2.alloc (.cells #[(xI keep nf),sl,(xI keep nt)] 80)).drew:=((Below.refl _ W2).alloc nLe _).drew
     have g4':(W2.alloc (.cells #[(xI keep nf),sl,(xI keep nt)] 80)).drew.cell? ⟨t+1,4,none⟩=some (.slice T (yD a keep k).length c):=(O.cell (p:=⟨t+1,4,none⟩) hGl).trans g4
     have s0:W2.drew.cell? ⟨S,0,none⟩=some (.int .i64 (nf:Int)):=hS0
     have s1:W2.drew.cell? ⟨S,1,none⟩=some (.int .i64 sl):=hS1
     have s2:W2.drew.cell? ⟨S,2,none⟩=some (.int .i64 (nt:Int)):=hS2
     have hne:∀b o u,b<W2.heap.size->some b≠(Value.slice T (yD a keep k).length c).ownBlock->W2.drew.cell? ⟨b,o,none⟩=some u->w5.cell? ⟨b,o,none⟩=some u:=fun b o u hb hn hc=>hgr.cell ((O.cell (p:=⟨b,o,none⟩) hb).trans hc) hn
     have htV:some t≠(Value.slice T (yD a keep k).length c).ownBlock:=rE g.o.au.s (by omega)
     have htl:t<W2.heap.size:=by omega
     have s05:=hne _ _ _ hSl hSV s0;have s15:=hne _ _ _ hSl hSV s1;have s25:=hne _ _ _ hSl hSV s2;have z05:=hne _ _ _ htl htV z0;have z15:=hne _ _ _ htl htV z1;have s06:=(O.cell (p:=⟨S,0,none⟩) hSl).trans s0
     have s16:=(O.cell (p:=⟨S,1,none⟩) hSl).trans s1;have s26:=(O.cell (p:=⟨S,2,none⟩) hSl).trans s2;have z06:=(O.cell (p:=⟨t,nf,none⟩) htl).trans z0;have z16:=(O.cell (p:=⟨t,nt,none⟩) htl).trans z1
     have hS1:S≠t+1:=by omega
     have HRUN:Hid ((Builtin.append_ #[29,29] 29 #[.slice T (yD a keep k).length c,.slice (some ⟨W2,0,none⟩) 1 1]).run Tryz.prog (W2.alloc (.cells #[(xI keep nf),sl,(xI keep nt)] 80)).drew=.ok (.slice T3 ((yD a keep k).length+1) c3) w5):=h7
     have U:Hid (MdM W0 t (t+1) (jU keep N N) (pos keep N:Nat) a.le (yF a keep a.fs.length) (zY a.gs keep N) (yD a keep (k+1)) fv gv (.slice T3 ((yD a keep k).length+1) c3) (w5.setCell ⟨t+1,4,none⟩ (.slice T3 ((yD a keep k).length+1) c3))):=by unfold Hid;rw[J];exact HM5.o
     clear g0 g1 g2 g3 gf0 gf1 gf2 gf3 gf4 h7 hAU hBB J O hdw g HM5 hS0 hS2 hgr hne htV hSV;generalize (yD a keep k).length=gn at *;generalize xI keep (nf:Int)=gk at *;generalize xI keep (nt:Int)=gk2 at *
     refine mJ (fun w'=>w'.cell? ⟨t+1,4,none⟩=some (.slice T gn c)/\w'.cell? ⟨S,0,none⟩=some (.int .i64 (nf:Int))/\w'.cell? ⟨S,1,none⟩=some (.int .i64 sl)/\w'.cell? ⟨S,2,none⟩=some (.int .i64 (nt:Int))/\w'.cell? ⟨t,nf,none⟩=some (.int .i64 gk)/\w'.cell? ⟨t,nt,none⟩=some (.int .i64 gk2)) 18 (by kernel_rfl) ?_
     refine tY 0 ?v0 ?hy0 ⟨g4,s0,s1,s2,z0,z1⟩ ?rest0
     case hy0=>(intro w' d;obtain⟨h0,h1,h2,h3,h4,h5⟩:=d;go_simp;(try with_reducible rfl))
     (try simp only[lAy])
     refine tY 1 ?v1 ?hy1 ⟨g4,s0,s1,s2,z0,z1⟩ ?rest1
     case hy1=>(intro w' d;obtain⟨h0,h1,h2,h3,h4,h5⟩:=d;go_simp;(try with_reducible rfl))
     (try simp only[lAy])
     refine tY 2 ?v2 ?hy2 ⟨g4,s0,s1,s2,z0,z1⟩ ?rest2
     case hy2=>(intro w' d;obtain⟨h0,h1,h2,h3,h4,h5⟩:=d;go_simp;(try with_reducible rfl))
     (try simp only[lAy])
     refine tY 3 ?v3 ?hy3 ⟨g4,s0,s1,s2,z0,z1⟩ ?rest3
     case hy3=>(intro w' d;obtain⟨h0,h1,h2,h3,h4,h5⟩:=d;go_simp;(try with_reducible rfl))
     (try simp only[lAy])
     refine tY 4 ?v4 ?hy4 ⟨g4,s0,s1,s2,z0,z1⟩ ?rest4
     case hy4=>(intro w' d;obtain⟨h0,h1,h2,h3,h4,h5⟩:=d;go_simp;(try with_reducible rfl))
     (try simp only[lAy])
     refine tY 5 ?v5 ?hy5 ⟨g4,s0,s1,s2,z0,z1⟩ ?rest5
     case hy5=>(intro w' d;obtain⟨h0,h1,h2,h3,h4,h5⟩:=d;go_simp;(try with_reducible rfl))
     (try simp only[lAy])
     refine tY 6 ?v6 ?hy6 ⟨g4,s0,s1,s2,z0,z1⟩ ?rest6
     case hy6=>(intro w' d;obtain⟨h0,h1,h2,h3,h4,h5⟩:=d;go_simp;(try with_reducible rfl))
     (try simp only[lAy])
     refine tY 7 ?v7 ?hy7 ⟨g4,s0,s1,s2,z0,z1⟩ ?rest7
     case hy7=>(intro w' d;obtain⟨h0,h1,h2,h3,h4,h5⟩:=d;go_simp;(try with_reducible rfl))
     (try simp only[lAy])
     refine tY 8 ?v8 ?hy8 ⟨g4,s0,s1,s2,z0,z1⟩ ?rest8
     case hy8=>(intro w' d;obtain⟨h0,h1,h2,h3,h4,h5⟩:=d;go_simp;(try with_reducible rfl))
     (try simp only[lAy])
     refine tY 9 ?v9 ?hy9 ⟨g4,s0,s1,s2,z0,z1⟩ ?rest9
     case hy9=>(intro w' d;obtain⟨h0,h1,h2,h3,h4,h5⟩:=d;go_simp;(try with_reducible rfl))
     (try simp only[lAy])
     refine tY 10 ?v10 ?hy10 ⟨g4,s0,s1,s2,z0,z1⟩ ?rest10
     case hy10=>(intro w' d;obtain⟨h0,h1,h2,h3,h4,h5⟩:=d;go_simp;(try with_reducible rfl))
     (try simp only[lAy])
     refine tY 11 ?v11 ?hy11 ⟨g4,s0,s1,s2,z0,z1⟩ ?rest11
     case hy11=>(intro w' d;obtain⟨h0,h1,h2,h3,h4,h5⟩:=d;go_simp;(try with_reducible rfl))
     (try simp only[lAy])
     refine tY 12 ?v12 ?hy12 ⟨g4,s0,s1,s2,z0,z1⟩ ?rest12
     case hy12=>(intro w' d;obtain⟨h0,h1,h2,h3,h4,h5⟩:=d;go_simp;(try with_reducible rfl))
     (try simp only[lAy])
     refine tY 13 ?v13 ?hy13 ⟨g4,s0,s1,s2,z0,z1⟩ ?rest13
     case hy13=>(intro w' d;obtain⟨h0,h1,h2,h3,h4,h5⟩:=d;go_simp;(try with_reducible rfl))
     (try simp only[lAy])
     refine tY 14 ?v14 ?hy14 ⟨g4,s0,s1,s2,z0,z1⟩ ?rest14
     case hy14=>(intro w' d;obtain⟨h0,h1,h2,h3,h4,h5⟩:=d;go_simp;(try with_reducible rfl))
     (try simp only[lAy])
     refine jQ (i:=15) rfl (by kernel_rfl) (fun K hK=>?_)
     go_simp
     refine hK.out _ _ (.inr ⟨g4',s06,s16,s26,z06,z16⟩) ?_;clear hK K
     (try simp only[lAy])
     refine jQ (i:=16) rfl (by kernel_rfl) (fun K hK=>?_)
     refine wM rfl (.tmp 88) (.tmp 102) _ _ rfl (.slice T gn c) (.slice (some ⟨W2,0,none⟩) 1 1) (.slice T3 (gn+1) c3) (by go_simp) (by go_simp) HRUN.o ?_
     refine hK.out _ _ (.inr ⟨p4,s05,s15,s25,z05,z15⟩) ?_;clear hK K
     (try simp only[lAy])
     refine tY 17 ?v17 ?hy17 ⟨p4,s05,s15,s25,z05,z15⟩ ?rest17
     case hy17=>(intro w' d;obtain⟨h0,h1,h2,h3,h4,h5⟩:=d;go_simp;(try with_reducible rfl))
     (try simp only[lAy])
     refine jQ (i:=18) rfl (by kernel_rfl) (fun K hK=>?_)
     go_simp
     refine hK.out _ _ (.inl rfl) ?_;clear hK K;refine mS (by kernel_rfl) ?_ _
     go_wp2_with fail
     go_roundw
     case rel=>exact⟨k+1,_,HX.o,by go_num,U.o⟩
     case measure=>simp[intOf];omega
  have q1:¬(k:Int)<(a.ss.length:Int):=by omega
  obtain rfl:k=a.ss.length:=by omega
  go_wp2_with fail
  go_meet
  exact⟨sv,HM.o⟩
 obtain⟨sv,m⟩:=hcut;clear HM1;obtain⟨_,v0,v1,v2,v3,v4⟩:=HVW.o _ m.o.below;obtain⟨g0,g1,g2,g3,g4,gf0,gf1,gf2,gf3,gf4⟩:=zZ m.o.au.obj;have hRt:V+1<t:=by have:=HVL.o;omega
 have hwt:t<wc.heap.size:=m.o.row.lt
 have hR:∀W,Below t W0 W->W.heap[V+1]?=some (.cells #[(0:Int),(0:Int),(),(),()] 31 (0,0)):=fun W h=>(h.block (V+1) hRt).trans HOB.o
 have HBF:Hid (∀ W,Below t W0 W->∀u0 u1 u2 u3 u4,Below w w (set5 W (V+1) u0 u1 u2 u3 u4)):=fun W h u0 u1 u2 u3 u4=>
  zS (zA HB0.o h (by have:=HVL.o;have:=HVV.o;omega)) (by have:=HVV.o;omega) _ _ _ _ _
 have HRR:=hId hR;clear hR
 by_cases hp:pos keep N=0
 ·have e1:(((pos keep N:Nat):Int)==0)=true:=by simp[hp]
  have hba:Below wc wc (wc.alloc (.cells #[false] 4)):=bLa
  have hb2:Below t W0 (wc.alloc (.cells #[false] 4)):=zA m.o.below hba (Nat.le_of_lt hwt)
  obtain⟨r0,r1,r2,r3,r4,rf0,rf1,rf2,rf3,rf4⟩:=zZ (HRR.o _ hb2);have hmade:qD a keep=⟨1,a.le,[],[false],[]⟩:=by unfold qD;rw[if_pos (by rw[HN.o];exact hp)]
  have hrd:zM (wc.alloc (.cells #[false] 4)) (V+1+1) ⟨1,a.le,[],[false],[]⟩ none (some ⟨wc,0,none⟩) none 0 1 0:=by
   refine⟨⟨nLe,by omega,by simp,Rd.nil,Fz.no⟩,⟨by simp,by omega,by simp,fun _=>⟨wc.heap.size,0,rfl,by omega,by simp,fun j u hu=>?_⟩,fun _ b off hA j _=>by injection hA with hA;injection hA with e1 e2;subst e1;have h9:(wc.alloc (.cells #[false] 4)).heap[wc.heap.size]?=some (.cells #[false] 4):=(by show(wc.heap.push _)[wc.heap.size]?=_;simp);unfold World.frozen?;dsimp only;rw[h9];simp⟩,⟨nLe,by omega,by simp,Rd.nil,Fz.no⟩⟩
   have h:(wc.alloc (.cells #[false] 4)).heap[wc.heap.size]?=some (.cells #[false] 4):=by
    show(wc.heap.push _)[wc.heap.size]?=_
    simp
   simp only[World.cell?,h,Nat.zero_add]
   simpa using hu
  have HP:Hid (rO w (qD a keep) (.returned (.agg #[(1:Int),a.le,(),.slice (some ⟨wc,0,none⟩) 1 1,()])) (set5 (wc.alloc (.cells #[false] 4)) (V+1) (.int .i64 1) a.le () (.slice (some ⟨wc,0,none⟩) 1 1) ())):=by
   rw[hmade];exact⟨none,some ⟨wc,0,none⟩,none,0,1,0,rfl,(hrd.set5_ (Nat.lt_succ_self _) _ _ _ _ _).low (by have:=HVV.o;omega),HBF.o _ hb2 _ _ _ _ _⟩
  have HOO:=hId (zW (HRR.o _ hb2) (.int .i64 1) a.le () (.slice (some ⟨wc,0,none⟩) 1 1) ());clear hp hba hb2 hmade hrd
  go_wp2_with fail
  exact bodyPost_ret (zJj Tryz.results62 _ _ (V+1) rfl HOO.o) rfl HP.o
 have e1:(((pos keep N:Nat):Int)==0)=false:=by simp;omega
 obtain⟨r0,r1,r2,r3,r4,rf0,rf1,rf2,rf3,rf4⟩:=zZ (HRR.o _ m.o.below)
 have hmade:qD a keep=⟨(pos keep N:Nat),a.le,yF a keep a.fs.length,zY a.gs keep N,yD a keep a.ss.length⟩:=by
  unfold qD;rw[HN.o,Int.toNat_natCast,if_neg hp]
 have hgl:(zY a.gs keep N).length=pos keep N:=fJ (by rw[HKL.o];exact nLe)
 have hpN:pos keep N<=N:=by unfold pos;exact Nat.le_trans (List.count_le_length ..) (by simp;omega)
 obtain⟨A',B',C',ca',cb',cc',rfl,rfl,rfl,hrd⟩:=m.o.au.rd (by
   unfold yF;rw[List.length_map];have:=List.length_filter_le (kp keep) (a.fs.take a.fs.length);have:=List.length_take_le a.fs.length a.fs;have:=HFL.o;have:=HN.o;omega) (by omega) (by
   unfold yD;rw[List.length_map];have:=List.length_filter_le (fun s=>kp keep s.f&&kp keep s.t) (a.ss.take a.ss.length)
   have:=List.length_take_le a.ss.length a.ss;have:=HO.o.sl;omega)
 have HP:Hid (rO w (qD a keep) (.returned (.agg #[(pos keep N:Nat),a.le,.slice A' (yF a keep a.fs.length).length ca',.slice B' (zY a.gs keep N).length cb',.slice C' (yD a keep a.ss.length).length cc'])) (set5 wc (V+1) (.int .i64 (pos keep N:Nat)) a.le (.slice A' (yF a keep a.fs.length).length ca') (.slice B' (zY a.gs keep N).length cb') (.slice C' (yD a keep a.ss.length).length cc'))):=by
  rw[hmade];exact⟨A',B',C',ca',cb',cc',rfl,(hrd.set5_ (by omega) _ _ _ _ _).low (by have:=HVV.o;omega),HBF.o _ m.o.below _ _ _ _ _⟩
 have HOO:=hId (zW (HRR.o _ m.o.below) (.int .i64 (pos keep N:Nat)) a.le (.slice A' (yF a keep a.fs.length).length ca') (.slice B' (zY a.gs keep N).length cb') (.slice C' (yD a keep a.ss.length).length cc'))
 clear hp hmade hrd hgl hpN;generalize (yF a keep a.fs.length).length=lf at *;generalize (zY a.gs keep N).length=lg at *;generalize (yD a keep a.ss.length).length=ls at *;generalize ((pos keep N:Nat):Int)=pn at *
 go_wp2_with fail
 exact bodyPost_ret (zJj Tryz.results62 _ _ (V+1) rfl HOO.o) rfl HP.o
end
section
open Go Go.RowKit
def sB (bs:List UInt8):ByteArray:=⟨bs.toArray⟩
theorem zAM (a b:List UInt8):sB a++sB b=sB (a++b):=by
 apply ByteArray.ext
 simp[sB,ByteArray.data_append]
theorem qQ (a:List UInt8):(sB a).size=a.length:=by simp[sB,ByteArray.size]
theorem qY (a:List UInt8):(sB a).data.toList=a:=by simp[sB]
theorem zJU (s:ByteArray):s=sB s.data.toList:=by apply ByteArray.ext;simp[sB]
structure xR (W:World):Prop where
 tab:Lib.TabIs Tryz.prog W "internal/strconv.uint64pow10" .u64 Lib.pow10Tab
 ml:∃m,W.cell? ⟨0,0,none⟩=some (.int .i64 m)
 es:∃ev,W.cell? ⟨2,0,none⟩=some ev/\(ev=.nilIface\/∃te pe,ev=.iface te pe)
 er:∃ev,W.cell? ⟨3,0,none⟩=some ev/\(ev=.nilIface\/∃te pe,ev=.iface te pe)
theorem xR.below {W W':World} {n:Nat} (h:xR W) (d:Below n W W') (e:W.heap.size<=n):xR W':=by
 obtain⟨K,⟨m,i⟩,⟨u,j,N⟩,⟨J,s,O⟩⟩:=h
 refine⟨Go.Joins.tab_stays (g:=1) (by kernel_rfl) K d e,⟨m,(d.cell (p:=⟨0,0,none⟩) ?_).trans i⟩,⟨u,(d.cell (p:=⟨2,0,none⟩) ?_).trans j,N⟩,⟨J,(d.cell (p:=⟨3,0,none⟩) ?_).trans s,O⟩⟩
 ·exact Nat.lt_of_lt_of_le (World.block_lt_of_cell? _ _ i) e
 ·exact Nat.lt_of_lt_of_le (World.block_lt_of_cell? _ _ j) e
 exact Nat.lt_of_lt_of_le (World.block_lt_of_cell? _ _ s) e
theorem zFJ (n:Int) (d:-9223372036854775808<=n) (g:n<=9223372036854775807) (w:World) (h:xR w):Calls Tryz.prog 82 #[n] w fun e w'=>e=.returned (.string (sB (Lib.itoa n)))/\Below w w w':=
 (Tryz.strconv_Itoa n d g w h.tab).mono fun e w' ⟨i,k,os,j⟩=>⟨i,by rw[j];exact Lib.below_grow _ _ nLe _ _⟩
theorem zDd (n:Int) (g:0<=n) (h:n<=999999) (w:World) (d:xR w):Calls Tryz.prog 82 #[n] w fun e w'=>e=.returned (.string (sB (dn n)))/\Below w w w':=by
 have:=zFJ n (by omega) (by omega) w d
 rwa[show Lib.itoa n=dn n by unfold Lib.itoa dn;rw[if_neg (by omega)]] at this
theorem zAA (B b:Nat) (g:List UInt8) (s:ByteArray) (w:World) (h:Lib.IsBuilder 140 5 B b (Lib.byteCells g) w) (d:g.length+s.size<=140737488355328) (i:B<=w.heap.size):
  Calls Tryz.prog 95 #[(⟨b,0,none⟩:Addr),.string s] w fun e w'=>e=.returned (.tuple #[s.size,.nilIface])/\Lib.IsBuilder 140 5 B b (Lib.byteCells (g++s.data.toList)) w'/\Below B w w':=
 (Any.Builder_WriteString {Tryz.lays156 with} Tryz.Builder_Extra_156 B b (Lib.byteCells g) s w h (by rw[Lib.byteCells_length];exact d) i).mono fun e w' ⟨m,j,u⟩=>⟨m,.inr (by rw[Lib.byteCells_append];exact j),u⟩
theorem zET (B b:Nat) (l:List UInt8) (w:World) (h:Lib.IsBuilder 140 5 B b (Lib.byteCells l) w) (d:B<=w.heap.size):
  Calls Tryz.prog 97 #[(⟨b,0,none⟩:Addr)] w fun e w'=>e=.returned (.string (sB l))/\Below B w w':=Tryz.Builder_String_any B b l w h d
theorem zJk (s d:List UInt8) (w:World) (g:xR w) (u:s.length<=1000000):
  Calls Tryz.prog 98 #[.string (sB s),.string (sB d)] w fun e w'=>e=.returned (.tuple #[.string (sB (Lib.cut s d).1),.string (sB (Lib.cut s d).2.1),.bool (Lib.cut s d).2.2])/\Below w w w':=by
 obtain⟨m,i⟩:=g.ml;have:=Tryz.strings_Cut (sB s) (sB d) m w (by rw[qQ];omega) i
 simp only[qY] at this;exact this.mono fun e w' ⟨h,k,j⟩=>⟨h,by rw[j];exact zC bRf k⟩
theorem zI2 (s p:List UInt8) (w:World):
  Calls Tryz.prog 162 #[.string (sB s),.string (sB p)] w fun e w'=>e=.returned (.tuple #[.string (sB (Lib.trimPrefix s p)),.bool (Lib.hasPrefix s p)])/\w'=w:=by
 have:=Tryz.strings_CutPrefix (sB s) (sB p) w;simp only[qY] at this;exact this
theorem zHc {s:List UInt8} {c:UInt8} (h:∀x∈s,x≠c):Lib.cut s [c]=(s,[],false):=by
 have:Lib.index s [c]=-1:=Lib.index_none fun j g=>by
  cases ho:Lib.occAt s [c] j with
  |false=>rfl
  |true=>
   have:=Lib.occAt_head (c:=c) (t:=[]) rfl ho;obtain⟨d,e⟩:=List.getElem?_eq_some_iff.1 this;exact absurd e (h _ (List.getElem_mem d))
 unfold Lib.cut;rw[if_neg (by omega)]
theorem oH {p r:List UInt8} {c:UInt8} (h:∀x∈p,x≠c):Lib.index (p++c::r) [c]=p.length:=by
 refine Lib.index_first (by simp) ?_ ?_
 ·rw[Lib.occAt_iff_take _ _ _ (by simp)]
  simp
 intro j g
 cases ho:Lib.occAt (p++c::r) [c] j with
 |false=>rfl
 |true=>
  have:=Lib.occAt_head (c:=c) (t:=[]) rfl ho;rw[List.getElem?_append_left g] at this;obtain⟨d,e⟩:=List.getElem?_eq_some_iff.1 this;exact absurd e (h _ (List.getElem_mem d))
theorem zJx {p r:List UInt8} {c:UInt8} (h:∀x∈p,x≠c):Lib.cut (p++c::r) [c]=(p,r,true):=by
 unfold Lib.cut;rw[oH h,if_pos (by omega)]
 simp
end
section
open Go Go.RowKit Go.Sort
theorem zIR:(Tryz.prog.info? 9).map (fun i=>(i.zero,i.size,i.bytes))=some (some (.string ByteArray.empty),1,16):=by kernel_rfl
def vD (W:World) (base:Nat) (v:Value) (xs:List (List UInt8)):Prop:=W.ownsRow base 9 1 v xs.length (xs.flatMap fun x=>[Value.string (sB x)])
theorem vD.nil (W:World) (base:Nat):vD W base () []:=World.ownsRow_nil _ _ _ _
theorem vD.one (w:World) (x:List UInt8):vD (w.alloc (.cells #[.string (sB x)] 9)) w.heap.size (.slice (some ⟨w,0,none⟩) 1 1) [x]:=by
 refine⟨rfl,.inr ⟨w.heap.size,1,#[.string (sB x)],rfl,nLe,?_,nLe,by simp[maxLen],rfl,rfl⟩⟩
 show(w.heap.push _)[w.heap.size]?=_
 simp
theorem gE (l:List UInt8):(sB l).toList.isEmpty=l.isEmpty:=by rw[Lib.toList_data,qY]
def pcs (word:List UInt8) (ns:List Int):List (List UInt8):=(if word=[] then[] else[word])++ns.map dn
def aA (word:List UInt8) (ns:List Int):List UInt8:=Lib.join (pcs word ns) [32]++[10]
theorem cZ (xs:List (List UInt8)):(xs.flatMap fun x=>[Value.string (sB x)])=xs.map fun x=>Value.string (sB x):=by
 induction xs with
 |nil=>rfl
 |cons x r ih=>rw[List.flatMap_cons,ih];rfl
theorem iY:∀(xs:List (List UInt8)),(∀ x∈xs,x.length<=10)->(Lib.join xs [32]).length<=11*xs.length
 |[],_=>by simp[Lib.join_nil]
 |[x],h=>by rw[Lib.join_one];have:=h x (by simp);simp;omega
 |x::y::r,h=>by
  have e:=iY (y::r) (fun z d=>h z (List.mem_cons_of_mem _ d))
  have g:=h x (by simp)
  have:Lib.join (x::y::r) [32]=x++32::Lib.join (y::r) [32]:=by simp[Lib.join,List.intercalate]
  rw[this,List.length_append,List.length_cons];simp only[List.length_cons] at e ⊢;omega
theorem zHU {W:World} {base:Nat} {v:Value} {xs:List (List UInt8)} (h:vD W base v xs) (d:0<xs.length):
  ∃g s,v=.slice (some ⟨g,0,none⟩) xs.length s/\xs.length<=s/\g<W.heap.size/\∀(j:Nat) x,xs[j]?=some x->W.cell? ⟨g,j,none⟩=some (.string (sB x)):=by
 obtain⟨A,c,rfl,u,O,i,U⟩:=zF h
 rcases h.2 with⟨h5,h6⟩|⟨g,cap,cur,h5,_⟩
 ·omega
 obtain⟨rfl,rfl⟩:A=some ⟨g,0,none⟩/\c=cap:=by simpa using h5
 rw[cZ] at i;obtain⟨b,off,m,_,J,K⟩:=i (by intro e;have:=congrArg List.length e;simp at this;rw[this] at d;simp at d)
 simp at m
 obtain⟨rfl,rfl⟩:=m;refine⟨_,c,rfl,u,J,fun j x N=>?_⟩
 have:=K j (.string (sB x)) (by rw[List.getElem?_map,N];rfl)
 rwa[Nat.zero_add] at this
theorem zGk (d:List UInt8) (A:Option Addr) (c:Nat) (m:List Int) (w:World) (hL:xR w) (O:zE w 0 A c m) (hn:∀n∈m,0<=n/\n<=999999) (hl:m.length<=1000) (hw:d.length<=10) (hne:d≠[]\/m≠[]):
  Calls Tryz.prog 96 #[.string (sB d),.slice A m.length c] w fun e w'=>e=.returned (.string (sB (aA d m)))/\Below w w w':=by
 obtain⟨i0,hi0,hz0,hz1,hz2⟩:=info_parts zIR;have HL:=hId hL;have HX:=hId O;have HN:=hId hn;have hle:=O.le;have hcp:=O.cap;have HW:=hId hw;have HNE:=hId hne;clear hL O hn hw hne
 go_enter Tryz.func96,Tryz.ntmps96
 go_upto_if 11 with fail
 go_cut [5] (fun s5 wx=>vD wx w.heap.size s5 (pcs d [])/\Hid (Below w w wx))
 case first=>
  have h1:=vD.one w d;have h0:=vD.nil (w.alloc (.cells #[.string (sB d)] 9)) w.heap.size;have hb:Hid (Below w w (w.alloc (.cells #[.string (sB d)] 9))):=bLa
  by_cases hwd:d=[]
  ·have e1:(sB d).toList.isEmpty=true:=by rw[gE,hwd];rfl
   have HP:Hid (vD (w.alloc (.cells #[.string (sB d)] 9)) w.heap.size () (pcs d [])):=by unfold Hid pcs;rw[if_pos hwd];exact h0
   clear h1 h0 hwd;rw[e1]
   go_wp2_with fail
   go_meet
   exact⟨HP.o,hb⟩
  have e1:(sB d).toList.isEmpty=false:=by rw[gE];simp[hwd]
  have HP:Hid (vD (w.alloc (.cells #[.string (sB d)] 9)) w.heap.size (.slice (some ⟨w,0,none⟩) 1 1) (pcs d [])):=by unfold Hid pcs;rw[if_neg hwd];exact h1
  clear h1 h0 hwd;rw[e1]
  go_wp2_with fail
  go_meet
  exact⟨HP.o,hb⟩
 obtain⟨h2,HB⟩:=hcut;have HO:=hId h2;clear h2
 go_wp2_with fail
 go_loopw [5,7,14] (fun v _ i wr=>∃k:Nat,k<=m.length/\i=(k:Int)/\Hid (vD wr w.heap.size v (pcs d (m.take k)))/\Hid (Below w w wr)) (fun _ _ i _=>m.length-(intOf i).toNat)
 case atStart=>exact⟨0,Nat.zero_le _,rfl,HO.o,HB.o⟩
 obtain⟨k,hk,rfl,K,s⟩:=hrel;clear HO
 by_cases hkl:k<m.length
 ·have q1:(k:Int)<(m.length:Int):=by omega
  obtain⟨b,o,rfl,_,_,y1⟩:=zE.at_ (HX.o.below s.o) hkl;have hr:=HN.o _ (List.getElem_mem hkl)
  have HT:Hid (pcs d (m.take (k+1))=pcs d (m.take k)++[dn m[k]]):=by
   show _=_;unfold pcs;rw[List.take_succ_eq_append_getElem hkl,List.map_append,List.append_assoc];rfl
  have hpl:(pcs d (m.take k)).length<=1001:=by
   unfold pcs;rw[List.length_append,List.length_map,List.length_take]
   split<;>simp<;>omega
  obtain⟨n,hnn⟩:∃n,n=m[k]:=⟨_,rfl⟩;rw[<-hnn] at y1 hr HT;clear hnn;generalize pcs d (m.take k)=ps at *;have HI:=hId (fun W hW=>zDd n hr.1 hr.2 W (HL.o.below (n:=w.heap.size) (zA s.o hW s.o.size) nLe))
  obtain⟨vA,vc,rfl,hvl,hvc,_,_⟩:=zF K.o
  go_wp2_with fail
  refine(HI.o wr bRf).mono ?_;rintro e w1 ⟨rfl,h4⟩;have U:=hId (zA s.o h4 s.o.size);have h6:Hid (vD (w1.alloc (.cells #[.string (sB (dn n))] 9)) w.heap.size (.slice vA ps.length vc) ps):=zD (zD K.o h4) (bLa)
  have HR:=hId (Rd.new w1 #[.string (sB (dn n))] 9);have h5:Hid (Below w w (w1.alloc (.cells #[.string (sB (dn n))] 9))):=U.o.alloc U.o.size _
  have h3:w.heap.size<=(w1.alloc (.cells #[.string (sB (dn n))] 9)).heap.size:=h5.o.size
  clear h4 HI y1
  go_wp2_with (at_builtin;refine qE _ rfl (.tmp 18) (.tmp 21) _ rfl w.heap.size 9 i0 _ 1 16 Tryz.underlying180 hi0 hz0 hz1 hz2 rfl (by decide) (.slice vA ps.length vc) ps.length _ rfl h6.o (some ⟨w1,0,none⟩) 1 1 [.string (sB (dn n))] rfl rfl HR.o (by simp[Value.oneCell']) (by simp only[maxLen];omega) (by omega) h3 ?_;intro v2 w2 N hg2 hat2)
  have HP:Hid (vD w2 w.heap.size v2 (pcs d (m.take (k+1)))):=by
   show vD _ _ _ _;rw[HT.o];unfold vD;rw[List.length_append,List.flatMap_append];exact N
  have HB5:=hId (qV h5.o hg2 h6.o nLe h3);clear N hg2 hat2
  go_wp2_with fail
  go_roundw
  case rel=>exact⟨k+1,by omega,by go_num,HP.o,HB5.o⟩
  case measure=>simp[intOf];omega
 have q1:¬(k:Int)<(m.length:Int):=by omega
 have hkk:m.take k=m:=List.take_of_length_le (by omega)
 rw[hkk] at K;clear hkk
 have hpn:0<(pcs d m).length:=by
  unfold pcs;rw[List.length_append,List.length_map]
  rcases HNE.o with h|h
  ·rw[if_neg h];simp;omega
  have:=List.length_pos_iff.2 h;omega
 have hpl:(pcs d m).length<=1001:=by
  unfold pcs;rw[List.length_append,List.length_map]
  split<;>simp<;>omega
 have hjl:(Lib.join (pcs d m) [32]).length<=20000:=by
  have:=iY (pcs d m) (fun x O=>by
   unfold pcs at O
   rcases List.mem_append.1 O with h|h
   ·split at h
    ·cases h
    rw[List.mem_singleton.1 h];exact HW.o
   obtain⟨n,h1,rfl⟩:=List.mem_map.1 h;have:=HN.o n h1;have:=xC (n:=n.toNat) (by omega)
   unfold dn;omega)
  omega
 have HF:Hid (Lib.join (pcs d m) [32]++[10]=aA d m):=rfl
 have hzl:¬9223372036854775807<(sB (Lib.join (pcs d m) [32])).size+1:=by rw[qQ];omega
 have HBW:=hId (HL.o.below (n:=w.heap.size) s.o nLe);obtain⟨g,vc,hv,hvl,hg,u⟩:=zHU K.o hpn;subst hv
 have HJ:=hId (Tryz.strings_Join g 0 vc ((pcs d m).map sB) (sB [32]) wr (fun j x O=>by
  obtain⟨y,hy,rfl⟩:=List.getElem?_map ..▸O |> fun h=>(by rw[List.getElem?_map] at O;exact Option.map_eq_some_iff.1 O:∃y,(pcs d m)[j]?=some y/\sB y=x)
  rw[Nat.zero_add];exact u j y hy) hg (by rw[List.length_map];omega) (by rw[List.length_map];exact hvl) (by rw[List.map_map];simp only[Function.comp_def,qY,List.map_id'];omega))
 rw[List.map_map] at HJ;simp only[Function.comp_def,qY,List.map_id',List.length_map] at HJ;generalize hjj:Lib.join (pcs d m) [32]=J at *
 have HJ2:Hid (Calls Tryz.prog 133 #[.slice (some ⟨g,0,none⟩) (pcs d m).length vc,.string ⟨#[32]⟩] wr fun e w'=>e=.returned (.string (sB J))/\Below wr wr w'):=HJ
 clear HJ hjj u K
 go_wp2_with fail
 refine HJ2.o.mono ?_;rintro e w3 ⟨rfl,hb3⟩;have U:=hId (zA s.o hb3 s.o.size);clear hb3
 go_wp2_with fail
 go_ret
 exact⟨by show Ending.returned (.string (sB J++sB [10]))=_;rw[zAM,HF.o],U.o⟩
end
section
open Go Go.RowKit

end
end Go.Proofs.YtoglgeaiiipchaaGreatDoor
