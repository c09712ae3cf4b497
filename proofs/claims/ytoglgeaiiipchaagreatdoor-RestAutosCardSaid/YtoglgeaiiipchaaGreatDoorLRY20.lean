import Derived.Test.YtoglgeaiiipchaaGreatDoorLRY19
import Derived.Maps.Views
import Derived.Defers
import Derived.Recover
import Derived.Laws.Pointers
set_option linter.unusedSimpArgs false
set_option linter.unusedVariables false
set_option maxRecDepth 100000
set_option maxHeartbeats 8000000
namespace Go.Proofs.YtoglgeaiiipchaaGreatDoor
section
open Go Go.RowKit Go.Shelf Go.Sort
theorem zGD {f:List Nd} {l:La} (h:ckT f l=0) (k:Nat) (g:k<(kU l f).length):(kU l f)[k].length<=9223372036854775807:=by
 have i:(kU l f)[k].length=l.n:=bO l f f.length _ (List.getElem_mem g)
 have e:ckL l 8=0:=by
  unfold ckT at h
  split at h
  ·exact h
  rename_i d;exact absurd h d
 obtain⟨d,j,_⟩:=lZ e;have m:l.n=l.h.length+l.l.length:=rfl;omega
theorem zJq {L:Nat} {W:World} {lo:Nat} {v:Value} {d:List (List Bool)} {gs:List Nat} (h:tT W lo v d gs) (U:L<=lo) (hr:∀(k:Nat) (hk:k<d.length),d[k].length<=9223372036854775807):TbS L W v:=by
 obtain⟨A,c,rfl,K,N,O,_⟩:=zF h.own;refine⟨A,d.length,c,rfl,K,N,fun i u=>?_⟩
 have hg:i<gs.length:=by rw[h.len];exact u
 have s:(gs.zipWith (fun g r=>Value.slice (some ⟨g,0,none⟩) r.length r.length) d).length=d.length:=by simp[h.len]
 obtain⟨b,off,e,_,hb,hc⟩:=O (fun e=>by rw[e] at s;simp at s;omega)
 have m:=h.row i u hg;refine⟨b,off,some ⟨gs[i],0,none⟩,d[i].length,d[i].length,e,hc i _ (by rw[List.getElem?_eq_getElem (by rw[s];exact u),List.getElem_zipWith]),?_,nLe,hr i u⟩
 intro _;refine⟨gs[i],0,rfl,Nat.le_trans U m.2.1,m.2.2,fun j J=>⟨⟨_,?_,⟨d[i][j],rfl⟩⟩,?_⟩⟩
 ·rw[Nat.zero_add];exact(m.1.cell J).1
 rw[Nat.zero_add];exact(m.1.cell J).2
variable {a b:Au} {l:La} {f:List Nd} {p q t:Ad} {V X Y Z TR:Nat} {ue it:Int} {WL W:World} {v16 v17 v18 v20 v22 v25 v27 v29 v31 v33 v34 v35:Value} {Kn:Act->World->Prop} {Qx:Exit->Act->World->Prop} {ac:Act}
theorem zK3 (HA:Hid (∀ W,Below WL WL W->RaM a b l f p q t V X Y Z TR W)) (HB:Hid (Below WL WL W)) (HK:Hid (∀ m W' T,RaQ V X Y Z TR f.length p q ue it (.pointer (some ⟨T,0,none⟩)) (.int .i64 (ckA a)) v18 v20 v22 v25 v27 v29 v31 v33 v34 v35 m->Below W W W'->(∃ A B C ca cb cc,yG W' T (yW a) A B C ca cb cc/\zM W' W.heap.size (yW a) A B C ca cb cc)->Kn m W')) (ha:RaQ V X Y Z TR f.length p q ue it v16 v17 v18 v20 v22 v25 v27 v29 v31 v33 v34 v35 ac):Code.wp Tryz.prog (zL (yU 0)) (Exit.then Kn Qx) ac W:=by
 obtain⟨u,rfl⟩:=ha;unfold raQ
 conv=>arg 2;whnf
 have HC:=hId (zGg a q.A q.B q.C q.ca q.cb q.cc W (HA.o _ HB.o).xa);obtain⟨_,c0,c1,c2,c3,c4⟩:=(HA.o _ HB.o).ax
 go_wp2_with fail
 refine HC.o.mono ?_;rintro e J ⟨K,N,O,d,g,h,rfl,s,j⟩;generalize yW a=tv at *
 have i:Below J J (J.alloc (.cells #[tv.st,tv.le,.slice K tv.fs.length d,.slice N tv.gs.length g,.slice O tv.ss.length h] 31)):=bLa
 have h1:Hid (yG (J.alloc (.cells #[tv.st,tv.le,.slice K tv.fs.length d,.slice N tv.gs.length g,.slice O tv.ss.length h] 31)) J.heap.size (tv) K N O d g h):=wY (World.alloc_heap_new _ _)
 have h0:=hId (s.below i);have U:=hId (zA j i j.size);clear s j i c0 c1 c2 c3 c4 HC;generalize ckA a=ck at *
 go_wp2_with fail
 exact HK.o _ _ _ (RaQ.mk rfl) U.o ⟨K,N,O,d,g,h,h1.o,h0.o⟩
theorem zLg (s:Hid (∀ W,Below WL WL W->RaM a b l f p q t V X Y Z TR W)) (m:Hid (Below WL WL W)) (HK:Hid (∀ J W' P,RaQ V X Y Z TR f.length p q ue it v16 v17 (.pointer (some ⟨P,0,none⟩)) v20 v22 v25 v27 v29 v31 v33 v34 v35 J->Below W W W'->AuS WL.heap.size W' P->Kn J W')) (ha:RaQ V X Y Z TR f.length p q ue it v16 v17 v18 v20 v22 v25 v27 v29 v31 v33 v34 v35 ac):Code.wp Tryz.prog (zL (yU 1)) (Exit.then Kn Qx) ac W:=by
 obtain⟨u,rfl⟩:=ha;unfold raQ
 conv=>arg 2;whnf
 have HC:=hId (zEF a b q.A q.B q.C q.D q.E q.F q.ca q.cb q.cc q.cd q.ce q.cf W (s.o _ m.o).xa (s.o _ m.o).xb);have HP0:Hid (0<W.heap.size):=by have:=(s.o _ m.o).ax.lt;show _<_;omega
 obtain⟨_,c0,c1,c2,c3,c4⟩:=(s.o _ m.o).ax;obtain⟨_,d0,d1,d2,d3,d4⟩:=(s.o _ m.o).ay
 go_wp2_with fail
 refine HC.o.mono ?_;rintro e N ⟨O,U,C1,d,g,h,rfl,K,j⟩;generalize qH a b=tv at *
 have i:Below N N (N.alloc (.cells #[tv.st,tv.le,.slice O tv.fs.length d,.slice U tv.gs.length g,.slice C1 tv.ss.length h] 31)):=bLa
 have HX1:Hid (yG (N.alloc (.cells #[tv.st,tv.le,.slice O tv.fs.length d,.slice U tv.gs.length g,.slice C1 tv.ss.length h] 31)) N.heap.size (tv) O U C1 d g h):=wY (World.alloc_heap_new _ _)
 have HR1:=hId (K.below i);have HB1:=hId (zA j i j.size);clear K j i c0 c1 c2 c3 c4 d0 d1 d2 d3 d4 HC;generalize fC a b=ck at *
 go_wp2_with fail
 exact HK.o _ _ _ (RaQ.mk rfl) HB1.o (zAD HX1.o HR1.o HP0.o m.o.size)
theorem zLx (s:Hid (∀ W,Below WL WL W->RaM a b l f p q t V X Y Z TR W)) (m:Hid (Below WL WL W)) (HK:Hid (∀ J W' P,RaQ V X Y Z TR f.length p q ue it v16 v17 v18 (.pointer (some ⟨P,0,none⟩)) v22 v25 v27 v29 v31 v33 v34 v35 J->Below W W W'->AuS WL.heap.size W' P->Kn J W')) (ha:RaQ V X Y Z TR f.length p q ue it v16 v17 v18 v20 v22 v25 v27 v29 v31 v33 v34 v35 ac):Code.wp Tryz.prog (zL (yU 2)) (Exit.then Kn Qx) ac W:=by
 obtain⟨u,rfl⟩:=ha;unfold raQ
 conv=>arg 2;whnf
 have HC:=hId (zJd a b q.A q.B q.C q.D q.E q.F q.ca q.cb q.cc q.cd q.ce q.cf W (s.o _ m.o).xa (s.o _ m.o).xb);have HP0:Hid (0<W.heap.size):=by have:=(s.o _ m.o).ax.lt;show _<_;omega
 obtain⟨_,c0,c1,c2,c3,c4⟩:=(s.o _ m.o).ax;obtain⟨_,d0,d1,d2,d3,d4⟩:=(s.o _ m.o).ay
 go_wp2_with fail
 refine HC.o.mono ?_;rintro e N ⟨O,U,C1,d,g,h,rfl,K,j⟩;generalize gH a b=tv at *
 have i:Below N N (N.alloc (.cells #[tv.st,tv.le,.slice O tv.fs.length d,.slice U tv.gs.length g,.slice C1 tv.ss.length h] 31)):=bLa
 have HX1:Hid (yG (N.alloc (.cells #[tv.st,tv.le,.slice O tv.fs.length d,.slice U tv.gs.length g,.slice C1 tv.ss.length h] 31)) N.heap.size (tv) O U C1 d g h):=wY (World.alloc_heap_new _ _)
 have HR1:=hId (K.below i);have HB1:=hId (zA j i j.size);clear K j i c0 c1 c2 c3 c4 d0 d1 d2 d3 d4 HC;generalize gW a b=ck at *
 go_wp2_with fail
 exact HK.o _ _ _ (RaQ.mk rfl) HB1.o (zAD HX1.o HR1.o HP0.o m.o.size)
theorem zLv (J:Hid (∀ W,Below WL WL W->RaM a b l f p q t V X Y Z TR W)) (m:Hid (Below WL WL W)) (HK:Hid (∀ h W' P,RaQ V X Y Z TR f.length p q ue it v16 v17 v18 v20 (.pointer (some ⟨P,0,none⟩)) v25 v27 v29 v31 v33 v34 v35 h->Below W W W'->LaS WL.heap.size W' P->Kn h W')) (ha:RaQ V X Y Z TR f.length p q ue it v16 v17 v18 v20 v22 v25 v27 v29 v31 v33 v34 v35 ac):Code.wp Tryz.prog (zL (yU 3)) (Exit.then Kn Qx) ac W:=by
 obtain⟨u,rfl⟩:=ha;unfold raQ
 conv=>arg 2;whnf
 have HC:=hId (zGF a q.A q.B q.C q.ca q.cb q.cc W (J.o _ m.o).xa);have N:Hid (0<W.heap.size):=by have:=(J.o _ m.o).ax.lt;show _<_;omega
 obtain⟨_,c0,c1,c2,c3,c4⟩:=(J.o _ m.o).ax
 go_wp2_with fail
 refine HC.o.mono ?_;rintro e s ⟨⟨U,B1,i,j,hl,ll,b,rfl,h1,h2,_⟩,g⟩;have d:Below s s (s.alloc (.cells #[.slice U hl.length i,.slice B1 ll.length j] 27)):=bLa
 have O:=hId (zHC (L:=WL.heap.size) (World.alloc_heap_new s (.cells #[.slice U hl.length i,.slice B1 ll.length j] 27)) (h1.below d) (h2.below d) N.o m.o.size);have K:=hId (zA g d g.size);clear h1 h2 g d c0 c1 c2 c3 c4 HC
 generalize ckA a=ck at *
 go_wp2_with fail
 exact HK.o _ _ _ (RaQ.mk rfl) K.o O.o
theorem zKY (N:Hid (∀ W,Below WL WL W->RaM a b l f p q t V X Y Z TR W)) (i:Hid (Below WL WL W)) (HK:Hid (∀ j W' P,RaQ V X Y Z TR f.length p q ue it v16 v17 v18 v20 v22 (.pointer (some ⟨P,0,none⟩)) v27 v29 v31 v33 v34 v35 j->Below W W W'->LaS WL.heap.size W' P->Kn j W')) (ha:RaQ V X Y Z TR f.length p q ue it v16 v17 v18 v20 v22 v25 v27 v29 v31 v33 v34 v35 ac):Code.wp Tryz.prog (zL (yU 4)) (Exit.then Kn Qx) ac W:=by
 obtain⟨u,rfl⟩:=ha;unfold raQ
 conv=>arg 2;whnf
 have HC:=hId (zG4 q.G q.K q.cg q.ck l 8 W (N.o _ i.o).wh (N.o _ i.o).wl);have h0:Hid (0<W.heap.size):=by have:=(N.o _ i.o).ax.lt;show _<_;omega
 obtain⟨c0,c1,_⟩:=vK (N.o _ i.o).az
 go_wp2_with fail
 refine HC.o.mono ?_;rintro e O ⟨A1,B1,s,J,rfl,h1,h2,g⟩;generalize zGu l 8=m at *;have d:Below O O (O.alloc (.cells #[.slice A1 m.h.length s,.slice B1 m.l.length J] 27)):=bLa
 have h3:=hId (zHC (L:=WL.heap.size) (World.alloc_heap_new O (.cells #[.slice A1 m.h.length s,.slice B1 m.l.length J] 27)) (h1.below d) (h2.below d) h0.o i.o.size);have U:=hId (zA g d g.size);clear h1 h2 g d c0 c1 HC
 generalize ckL l 8=ck at *
 go_wp2_with fail
 exact HK.o _ _ _ (RaQ.mk rfl) U.o h3.o
theorem zKI (s:Hid (∀ W,Below WL WL W->RaM a b l f p q t V X Y Z TR W)) (h:Hid (Below WL WL W)) (N:Hid (∀ d W' v,RaQ V X Y Z TR f.length p q ue it v16 v17 v18 v20 v22 v25 (v) v29 v31 v33 v34 v35 d->Below W W W'->NdS WL.heap.size W' v->Kn d W')) (O:RaQ V X Y Z TR f.length p q ue it v16 v17 v18 v20 v22 v25 v27 v29 v31 v33 v34 v35 ac):Code.wp Tryz.prog (zL (yU 5)) (Exit.then Kn Qx) ac W:=by
 obtain⟨u,rfl⟩:=O;unfold raQ
 conv=>arg 2;whnf
 have J:=hId (zEk q.FA q.fc f W (s.o _ h.o).gf);have j:Hid (0<W.heap.size):=by have:=(s.o _ h.o).ax.lt;show _<_;omega
 go_wp2_with fail
 refine J.o.mono ?_;rintro e w1 ⟨U,c1,rfl,K,g⟩;generalize zAH f=o at *;generalize zBm f=ck at *;have m:=hId (zKx (L:=WL.heap.size) K j.o h.o.size);have i:=hId g;clear K g J
 go_wp2_with fail
 exact N.o _ _ _ (RaQ.mk rfl) i.o m.o
theorem zLz (HA:Hid (∀ W,Below WL WL W->RaM a b l f p q t V X Y Z TR W)) (HB:Hid (Below WL WL W)) (HK:Hid (∀ s W' P,RaQ V X Y Z TR f.length p q ue it v16 v17 v18 v20 v22 v25 v27 (.pointer (some ⟨P,0,none⟩)) v31 v33 v34 v35 s->Below W W W'->AuS WL.heap.size W' P->Kn s W')) (ha:RaQ V X Y Z TR f.length p q ue it v16 v17 v18 v20 v22 v25 v27 v29 v31 v33 v34 v35 ac):Code.wp Tryz.prog (zL (yU 6)) (Exit.then Kn Qx) ac W:=by
 obtain⟨u,rfl⟩:=ha;unfold raQ
 conv=>arg 2;whnf
 have HC:=hId (iM f q.FA q.fc W (HA.o _ HB.o).gf);have HP0:Hid (0<W.heap.size):=by have:=(HA.o _ HB.o).ax.lt;show _<_;omega
 go_wp2_with fail
 refine HC.o.mono ?_;rintro e K ⟨d,N,O,U,g,h,i,_,_,rfl,J,m⟩;have j:Below K K (K.alloc (.cells #[d.st,d.le,.slice N d.fs.length g,.slice O d.gs.length h,.slice U d.ss.length i] 31)):=bLa
 have HX1:Hid (yG (K.alloc (.cells #[d.st,d.le,.slice N d.fs.length g,.slice O d.gs.length h,.slice U d.ss.length i] 31)) K.heap.size (d) N O U g h i):=wY (World.alloc_heap_new _ _)
 have HR1:=hId (J.below j);have HB1:=hId (zA m j m.size);clear J m j HC;generalize ckF f=ck at *
 go_wp2_with fail
 exact HK.o _ _ _ (RaQ.mk rfl) HB1.o (zAD HX1.o HR1.o HP0.o HB.o.size)
theorem zKZ (J:Hid (∀ W,Below WL WL W->RaM a b l f p q t V X Y Z TR W)) (h:Hid (Below WL WL W)) (U:Hid (∀ m W' v,RaQ V X Y Z TR f.length p q ue it v16 v17 v18 v20 v22 v25 v27 v29 (v) v33 v34 v35 m->Below W W W'->TbS WL.heap.size W' v->Kn m W')) (ha:RaQ V X Y Z TR f.length p q ue it v16 v17 v18 v20 v22 v25 v27 v29 v31 v33 v34 v35 ac):Code.wp Tryz.prog (zL (yU 7)) (Exit.then Kn Qx) ac W:=by
 obtain⟨u,rfl⟩:=ha;unfold raQ
 conv=>arg 2;whnf
 have O:=hId (zDO q.FA q.fc f q.G q.K q.cg q.ck l W (J.o _ h.o).gf (J.o _ h.o).wh (J.o _ h.o).wl);obtain⟨c0,c1,_⟩:=vK (J.o _ h.o).az
 go_wp2_with fail
 refine O.o.mono ?_;rintro e w1 ⟨s,N⟩;have j:=hId s;clear s c0 c1 O
 by_cases hk:ckT f l=0
 ·rw[if_pos hk] at N
  obtain⟨v,gs,rfl,d⟩:=N;have g:=hId (zJq d h.o.size (zGD hk));clear d hk
  go_wp2_with fail
  exact U.o _ _ _ (RaQ.mk rfl) j.o g.o
 rw[if_neg hk] at N;subst N;clear hk;have g:Hid (TbS WL.heap.size w1 ()):=⟨none,0,0,rfl,nLe,Nat.zero_le _,fun i hi=>absurd hi (Nat.not_lt_zero i)⟩
 generalize ckT f l=ck at *
 go_wp2_with fail
 exact U.o _ _ _ (RaQ.mk rfl) j.o g.o
end
section
open Go Go.RowKit Go.Sort
theorem dI (a:Au) (A B C D E F:Option Addr) (ca cb cc cd ce cf:Nat) (w:World) (ha:zM w 0 a A B C ca cb cc) (hb:zM w 0 a D E F cd ce cf):
  Calls Tryz.prog 28 #[.agg #[a.st,a.le,.slice A a.fs.length ca,.slice B a.gs.length cb,.slice C a.ss.length cc],.agg #[a.st,a.le,.slice D a.fs.length cd,.slice E a.gs.length ce,.slice F a.ss.length cf]] w fun e w'=>e=.returned (.bool true)/\Below w w w':=by
 have h1:=jN w a A B C ca cb cc;have h2:=jN (auW w a A B C ca cb cc) a D E F cd ce cf;have j:Hid (Below w w (auW (auW w a A B C ca cb cc) a D E F cd ce cf)):=zA h1.below h2.below h1.below.size
 have d:Hid (yG (auW (auW w a A B C ca cb cc) a D E F cd ce cf) w.heap.size a A B C ca cb cc):=h1.at.below h2.below h1.at.lt
 have g:Hid (yG (auW (auW w a A B C ca cb cc) a D E F cd ce cf) (w.heap.size+1) a D E F cd ce cf):=by have:=h2.at;rwa[h1.size] at this
 have u:=hId (ha.below j.o);have J:=hId (hb.below j.o);have l1:=ha.gs.max;have l2:=ha.ss.max;have l3:=hb.gs.le;have l4:=hb.ss.le;have l5:=ha.gs.le;have l6:=ha.ss.le;clear h1 h2 ha hb
 go_enter Tryz.func28,Tryz.ntmps28
 go_upto_region 1 with fail
 change Code.wp _ _ _ _ (auW (auW w a A B C ca cb cc) a D E F cd ce cf);generalize auW (auW w a A B C ca cb cc) a D E F cd ce cf=W0 at *;obtain⟨V,hV⟩:∃V,V=w.heap.size:=⟨_,rfl⟩;rw[<-hV] at d g ⊢;have HV:=hId hV;clear hV
 obtain⟨_,N,O,U,c3,c4⟩:=d.o;obtain⟨_,d0,d1,d2,d3,d4⟩:=g.o;have HS:=hId (uO A D ca cd a.fs a.fs W0 u.o.fs J.o.fs);rw[show decide (a.fs=a.fs)=true by simp] at HS
 go_wp2_with fail
 refine HS.o.mono ?_;rintro e w1 ⟨rfl,hb1⟩;have m:=hId hb1;clear hb1 N O U c3 c4 d0 d1 d2 d3 d4 HS;obtain⟨_,N,O,U,c3,c4⟩:=d.o.below m.o d.o.lt;obtain⟨_,d0,d1,d2,d3,d4⟩:=g.o.below m.o g.o.lt
 go_wp2_with fail
 go_loopw [5] (fun s5 wr=>∃i:Nat,i<=a.gs.length/\s5=(i:Int)/\Hid (Below W0 W0 wr)) (fun s5 _=>a.gs.length-(intOf s5).toNat)
 case atStart=>exact⟨0,Nat.zero_le _,rfl,m.o⟩
 obtain⟨i,hi,rfl,K⟩:=hrel;clear N O U c3 c4 d0 d1 d2 d3 d4;obtain⟨_,N,O,U,c3,c4⟩:=d.o.below K.o d.o.lt;obtain⟨_,d0,d1,d2,d3,d4⟩:=g.o.below K.o g.o.lt
 by_cases hil:i<a.gs.length
 ·have q1:(i:Int)<(a.gs.length:Int):=by omega
  obtain⟨b1,o1,rfl,_,_,y1⟩:=xG.at_ (u.o.gs.below K.o) (k:=i) hil;obtain⟨b2,o2,rfl,_,_,y2⟩:=xG.at_ (J.o.gs.below K.o) (k:=i) hil;generalize a.gs[i]'hil=x at *
  go_wp2_with fail
  go_quiet (fail)
  have s:=hId (zC K.o nq)
  go_wp2_with fail
  go_roundw
  case rel=>exact⟨i+1,by omega,by go_num,s.o⟩
  case measure=>simp[intOf];omega
 have q1:¬(i:Int)<(a.gs.length:Int):=by omega
 go_wp2_with fail
 go_loopw [6] (fun s6 wx=>∃k:Nat,k<=a.ss.length/\s6=(k:Int)/\Hid (Below W0 W0 wx)) (fun s6 _=>a.ss.length-(intOf s6).toNat)
 case atStart=>exact⟨0,Nat.zero_le _,rfl,K.o⟩
 obtain⟨k,hk,rfl,h⟩:=hrel;clear N O U c3 c4 d0 d1 d2 d3 d4;obtain⟨_,N,O,U,c3,c4⟩:=d.o.below h.o d.o.lt;obtain⟨_,d0,d1,d2,d3,d4⟩:=g.o.below h.o g.o.lt
 by_cases hkl:k<a.ss.length
 ·have q2:(k:Int)<(a.ss.length:Int):=by omega
  obtain⟨b1,o1,rfl,_,_,y0,y1,y2⟩:=jZ.at_ (u.o.ss.below h.o) hkl;obtain⟨b2,o2,rfl,_,_,z0,z1,z2⟩:=jZ.at_ (J.o.ss.below h.o) hkl;generalize a.ss[k]'hkl=x at *
  go_wp2_with fail
  go_quiet (fail)
  have s:=hId (zC h.o nq)
  go_wp2_with fail
  go_roundw
  case rel=>exact⟨k+1,by omega,by go_num,s.o⟩
  case measure=>simp[intOf];omega
 have q2:¬(k:Int)<(a.ss.length:Int):=by omega
 go_wp2_with fail
 go_ret
 exact⟨rfl,zA j.o h.o j.o.size⟩

end
section
open Go Go.RowKit
theorem dN (t:Fm):t.size<=t.show.length:=by
 induction t with
 |tt=>simp[Fm.size,Fm.show]
 |pr n=>simp[Fm.size,Fm.show]
 |no a ih=>simp[Fm.size,Fm.show];omega
 |nx a ih=>simp[Fm.size,Fm.show];omega
 |bi k x y ihx ihy=>simp[Fm.size,Fm.show];omega
theorem zJJ (s:List UInt8) (i:Nat) (h:i<(sb s).size):(sb s)[i]'h=chr s i:=by
 have d:i<s.length:=by rw[aM] at h;exact h
 unfold chr;rw[List.getD_eq_getElem?_getD,List.getElem?_eq_getElem d];rfl
theorem fM {s r:List UInt8} {c:UInt8} {i:Nat} (h:¬(i<s.length/\chr s i=c)):yY s (c::r) i=.error i:=by
 unfold yY;rw[if_neg h]
theorem kN {s r:List UInt8} {c:UInt8} {i:Nat} (h:i<s.length) (d:chr s i=c):yY s (c::r) i=yY s r (i+1):=by
 conv=>lhs;unfold yY
 rw[if_pos ⟨h,d⟩]
theorem zBT {w w':World} {row:Option Nat} (d:Below w w w'):w.grownBy w' row:=⟨d.os,d.tape,d.output,d.size,fun k e _=>d.block k e⟩
theorem wX {a n:UInt8} (h:¬a=n):((a.toNat:Int) !=(n.toNat:Int))=true/\((a.toNat:Int)==(n.toNat:Int))=false/\¬(a.toNat:Int)=(n.toNat:Int)/\¬a.toNat=n.toNat:=by
 have g:¬a.toNat=n.toNat:=fun e=>h (UInt8.toNat_inj.1 e)
 have d:¬(a.toNat:Int)=(n.toNat:Int):=fun e=>g (by omega)
 exact⟨by simpa using d,by simpa using d,d,g⟩
def zLb (r:Except Nat Nat):Except Nat (Fm×Nat):=match r with| .error e=>.error e| .ok j=>.ok (.tt,j)
def oY (s:List UInt8) (a:Fm) (kn:Int) (r:Except Nat (Fm×Nat)):Except Nat (Fm×Nat):=
 match r with
 | .error e=>.error e
 | .ok (b,j3)=>match yY s [41] j3 with| .error e=>.error e| .ok j4=>.ok (.bi kn a b,j4)
def mH (s:List UInt8) (m:Nat) (a:Fm) (j:Nat):Except Nat (Fm×Nat):=
 match yY s [32] j with
 | .error e=>.error e
 | .ok j1=>
  if j1<s.length/\kI (chr s j1)≠0 then
   (match yY s [32] (j1+1) with
   | .error e=>.error e
   | .ok j2=>oY s a (kI (chr s j1)) (prs s m j2))
  else .error j1
theorem zGt {s:List UInt8} {m i j:Nat} {a:Fm} (g:i<s.length) (d:chr s i=40) (u:prs s m (i+1)=.ok (a,j)):prs s (m+1) i=mH s m a j:=by
 unfold prs mH;rw[if_neg (by omega),if_neg (by rw[d];decide),if_neg (by rw[d];decide),if_neg (by rw[d];decide),if_neg (by rw[d];decide),if_pos d,u]
 simp only
 cases yY s [32] j with
 |error e=>rfl
 |ok j1=>
  simp only
  by_cases h:j1<s.length/\kI (chr s j1)≠0
  ·rw[if_pos h,if_pos h]
   cases yY s [32] (j1+1) with
   |error e=>rfl
   |ok j2=>
    simp only;unfold oY
    cases prs s m j2 with
    |error e=>rfl
    |ok q=>
     obtain⟨b,J⟩:=q;simp only
     cases yY s [41] J<;>rfl
  rw[if_neg h,if_neg h]
theorem zGV {s:List UInt8} {m j:Nat} {a:Fm} (d:j<s.length/\chr s j=32) (e:¬(j+1<s.length/\kI (chr s (j+1))≠0)):mH s m a j=.error (j+1):=by
 unfold mH;rw[kN d.1 d.2];simp only[yY];rw[if_neg e]
theorem zFT {s:List UInt8} {m j:Nat} {a:Fm} (d:j<s.length/\chr s j=32) (e:j+1<s.length) (g:kI (chr s (j+1))≠0) (h:¬(j+2<s.length/\chr s (j+2)=32)):mH s m a j=.error (j+2):=by
 unfold mH;rw[kN d.1 d.2];have:yY s [32] (j+1+1)=.error (j+2):=fM h;simp only[yY] at this ⊢;rw[if_pos ⟨e,g⟩,this]
theorem zGr {s:List UInt8} {m j:Nat} {a:Fm} (d:j<s.length/\chr s j=32) (g:j+1<s.length) (h:kI (chr s (j+1))≠0) (e:j+2<s.length/\chr s (j+2)=32):
  mH s m a j=oY s a (kI (chr s (j+1))) (prs s m (j+3)):=by
 unfold mH;rw[kN d.1 d.2];have:yY s [32] (j+1+1)=.ok (j+3):=(kN e.1 e.2).trans rfl;simp only[yY] at this ⊢;rw[if_pos ⟨g,h⟩,this]
end
section
open Go Go.RowKit Go.Sort
structure kP (X:Nat) (S:ByteArray) (i:Nat) (o:List Nd) (W:World):Prop where
 lt:X<W.heap.size
 c0:W.cell? ⟨X,0,none⟩=some (.string S)
 c1:W.cell? ⟨X,1,none⟩=some (.int .i64 (i:Int))
 f1:W.frozen? ⟨X,1,none⟩=false
 f2:W.frozen? ⟨X,2,none⟩=false
 own:∃T c,W.cell? ⟨X,2,none⟩=some (.slice T o.length c)/\W.ownsRow (X+1) 63 4 (.slice T o.length c) o.length (o.flatMap Nd.cells)
theorem kP.below {X:Nat} {S:ByteArray} {i:Nat} {o:List Nd} {W W':World} (h:kP X S i o W) (d:Below W W W'):kP X S i o W':=by
 obtain⟨T,c,e,g⟩:=h.own
 exact⟨Nat.lt_of_lt_of_le h.lt d.size,(d.cell (p:=⟨X,0,none⟩) h.lt).trans h.c0,(d.cell (p:=⟨X,1,none⟩) h.lt).trans h.c1,(d.frozen (p:=⟨X,1,none⟩) h.lt).trans h.f1,(d.frozen (p:=⟨X,2,none⟩) h.lt).trans h.f2,
  T,c,(d.cell (p:=⟨X,2,none⟩) h.lt).trans e,zD g d⟩
theorem kP.to {X:Nat} {S:ByteArray} {i:Nat} {o:List Nd} {W:World} (h:kP X S i o W) (j:Nat):kP X S j o (W.setCell ⟨X,1,none⟩ (.int .i64 (j:Int))):=by
 obtain⟨T,c,d,e⟩:=h.own;refine⟨by simpa[World.setCell] using h.lt,?_,?_,?_,?_,T,c,?_,?_⟩
 ·exact(World.cell?_setCell_other _ ⟨X,1,none⟩ ⟨X,0,none⟩ _ (by simp)).trans h.c0
 ·exact World.cell?_setCell_same' _ _ _ (by rw[h.c1];rfl)
 ·rw[World.frozen?_setCell];exact h.f1
 ·rw[World.frozen?_setCell];exact h.f2
 ·exact(World.cell?_setCell_other _ ⟨X,1,none⟩ ⟨X,2,none⟩ _ (by simp)).trans d
 exact ownsRow_setCell_below e (Nat.lt_succ_self X) _
theorem vS {X o:Nat} {W:World} (v:Value):Below X W (W.setCell ⟨X,o,none⟩ v):=(Below.refl X W).setCell (p:=⟨X,o,none⟩) nLe _
def gN (j:Nat):Ending:=.panicked [{v:=.iface 188 (.int .i64 (j:Int)),recovered:=false}]
theorem zBz (X:Nat) (s:List UInt8) (S:ByteArray) (O:S.size=s.length) (d:∀(i:Nat) (h:i<S.size),S[i]'h=chr s i) (U:s.length<=100000) (i:Nat) (o:List Nd) (W:World) (j:kP X S i o W):
  Calls Tryz.prog 164 #[(⟨X,0,none⟩:Addr)] W fun e w'=>e=.returned (.int .u8 ((chr s i).toNat:Int))/\Below W W w':=by
 obtain⟨hx,J,K,-,-,-⟩:=j
 by_cases hlt:i<s.length
 ·have g:(i:Int)<(s.length:Int):=by omega
  have b0:i<S.size:=by omega
  have N:=d i b0;clear d;generalize chr s i=ch at *
  go_enter Tryz.func164,Tryz.ntmps164
  go_wp2_with fail
  go_quiet (fail)
  go_wp2_with fail
  go_quiet (fail)
  go_wp2_with fail
  go_ret
  exact⟨rfl,zC (zC bRf _) _⟩
 have m:Hid (chr s i=0):=by
  show _=_;unfold chr;rw[List.getD_eq_getElem?_getD,List.getElem?_eq_none (by omega)]
  rfl
 have b1:(s.length:Int)<=(i:Int):=by omega
 have u:decide ((i:Int)<(s.length:Int))=false:=by simp;omega
 clear d
 go_enter Tryz.func164,Tryz.ntmps164
 go_wp2_with fail
 go_quiet (fail)
 go_wp2_with fail
 go_ret
 exact⟨by rw[m.o];rfl,zC bRf _⟩
def eN (X:Nat) (S:ByteArray) (o:List Nd) (W:World) (r:Except Nat Nat) (e:Ending) (w':World):Prop:=
 Below X W w'/\match r with
 | .ok j=>e=.returned (.tuple #[])/\kP X S j o w'
 | .error j=>e=gN j
theorem zDg {s r:List UInt8} {k i:Nat} (d:k<r.length):yY s (r.drop k) (i+k)=if i+k<s.length/\chr s (i+k)=chr r k then yY s (r.drop (k+1)) (i+k+1) else .error (i+k):=by
 have:chr r k=r[k]:=by
  unfold chr;rw[List.getD_eq_getElem?_getD,List.getElem?_eq_getElem d];rfl
 rw[List.drop_eq_getElem_cons d,this];rfl
theorem zI7 (X:Nat) (s:List UInt8) (S:ByteArray) (hS:S.size=s.length) (hG:∀(i:Nat) (h:i<S.size),S[i]'h=chr s i) (hs:s.length<=100000) (r:List UInt8) (R:ByteArray) (hR:R.size=r.length) (hGR:∀(i:Nat) (h:i<R.size),R[i]'h=chr r i) (hr:r.length<=100)
  (i:Nat) (o:List Nd) (W:World) (hi:i<=s.length) (hp:kP X S i o W):
  Calls Tryz.prog 165 #[(⟨X,0,none⟩:Addr),.string R] W (eN X S o W (yY s r i)):=by
 have HP:=hId hp;have HGR:=hId hGR;have HSG:=hId (fun i o W hp=>zBz X s S hS hG hs i o W hp)
 clear hp hG hGR
 go_enter Tryz.func165,Tryz.ntmps165
 go_wp2_with fail
 go_loopw [7] (fun s7 wr=>∃k:Nat,k<=r.length/\i+k<=s.length/\s7=(k:Int)/\Hid (kP X S (i+k) o wr/\Below X W wr/\yY s r i=yY s (r.drop k) (i+k))) (fun s7 _=>r.length-(intOf s7).toNat)
 case atStart=>exact⟨0,Nat.zero_le _,hi,rfl,HP.o,bRf,rfl⟩
 obtain⟨k,hk,hik,rfl,K⟩:=hrel
 by_cases hlt:k<r.length
 ·have q1:(k:Int)<(r.length:Int):=by omega
  have q2:k<R.size:=by omega
  have g1:=HGR.o k q2;have O:Hid (yY s r i=if i+k<s.length/\chr s (i+k)=chr r k then yY s (r.drop (k+1)) (i+k+1) else .error (i+k)):=K.o.2.2.trans (zDg hlt)
  have e:=hId (jM (w:=wr) fun W2 h2=>HSG.o (i+k) o W2 (K.o.1.below h2))
  obtain⟨hx,c0,U,f1,f2,-⟩:=K.o.1;obtain⟨p,hpe⟩:∃p,p=i+k:=⟨_,rfl⟩;rw[<-hpe] at O e hik U;have N:=hId hpe;clear hpe;have e1:=cell_regrown (w:=wr) (a:=⟨X,1,none⟩) (v:=.int .i64 (p:Int)) U
  have e0:=cell_regrown (w:=wr) (a:=⟨X,0,none⟩) (v:=.string S) c0
  have u:Hid (∀ w',Below wr wr w'->kP X S p o w'/\Below X W w'):=fun w' hb=>by rw[N.o];exact⟨K.o.1.below hb,zA K.o.2.1 hb (Nat.le_of_lt K.o.1.lt)⟩
  clear HSG HP
  by_cases hc:chr s p=chr r k
  ·rw[hc] at e
   rw[hc] at O;generalize chr r k=ch at *;have hd:((ch.toNat:Int) !=(ch.toNat:Int))=false:=by simp
   by_cases he:p=s.length
   ·have m:Hid (yY s r i=.error p):=by rw[O.o,if_neg (fun h=>by omega)];rfl
    have hq:((p:Int)==(s.length:Int))=true:=by simp[he]
    clear he O
    go_upto_region 3 with fail
    refine wp_region_quiet_below (by kernel_rfl) (by kernel_rfl) ?_
    repeat(go_big_quiet_step (first|with_reducible exact e.o _ _))
    refine wpQuiet_nil ?_;intro _ J;obtain⟨⟨dq,j⟩,g⟩:=J;subst g;have d:=hId (u.o _ (below_regrown wr dq j));clear e0 e1 c0 U f1 f2 e u;generalize grow (redrawn wr dq) j=w4 at *;have U:=d.o.1.c1
    go_wp2_with fail
    exact⟨rfl,d.o.2,by rw[m.o];rfl⟩
   have m:Hid (yY s r i=yY s (r.drop (k+1)) (p+1)):=by rw[O.o,if_pos ⟨by omega,rfl⟩];rfl
   have hq:((p:Int)==(s.length:Int))=false:=by simp;omega
   have hpl:p+1<=s.length:=by omega
   have d1:IntKind.i64.wrap ((p:Int)+1)=(p:Int)+1:=IntWalk.i64_in _ (by omega)
   clear he O
   go_upto_region 3 with fail
   refine wp_region_quiet_below (by kernel_rfl) (by kernel_rfl) ?_
   repeat(go_big_quiet_step (first|with_reducible exact e.o _ _))
   refine wpQuiet_nil ?_;intro _ J;obtain⟨⟨dq,j⟩,g⟩:=J;subst g;have d:=hId (u.o _ (below_regrown wr dq j));clear e0 e1 c0 U f1 f2 e u;generalize grow (redrawn wr dq) j=w4 at *;have U:=d.o.1.c1;have f1:=d.o.1.f1
   have HT:Hid (kP X S (i+(k+1)) o (w4.setCell ⟨X,1,none⟩ (.int .i64 ((p:Int)+1)))):=by
    have:=d.o.1.to (p+1);rw[show i+(k+1)=p+1 by have:=N.o;omega]
    exact this
   have HT2:Hid (Below X W (w4.setCell ⟨X,1,none⟩ (.int .i64 ((p:Int)+1)))):=d.o.2.trans (vS _)
   go_wp2_with fail
   go_roundw
   case rel=>exact⟨k+1,by omega,by have:=N.o;omega,by go_num,HT.o,HT2.o,by rw[m.o,show p+1=i+(k+1) by have:=N.o;omega]⟩
   case measure=>simp[intOf];omega
  have m:Hid (yY s r i=.error p):=by rw[O.o,if_neg (fun h=>hc h.2)];rfl
  have hq:(((chr s p).toNat:Int) !=((chr r k).toNat:Int))=true:=(wX hc).1
  clear O;generalize chr r k=ch at *;generalize chr s p=ch2 at *;clear hc
  go_upto_region 3 with fail
  refine wp_region_quiet_below (by kernel_rfl) (by kernel_rfl) ?_
  repeat(go_big_quiet_step (first|with_reducible exact e.o _ _))
  refine wpQuiet_nil ?_;intro _ J;obtain⟨⟨dq,j⟩,g⟩:=J;subst g;have d:=hId (u.o _ (below_regrown wr dq j));clear e0 e1 c0 U f1 f2 e u;generalize grow (redrawn wr dq) j=w4 at *;have U:=d.o.1.c1
  go_wp2_with fail
  exact⟨rfl,d.o.2,by rw[m.o];rfl⟩
 have m:Hid (yY s r i=.ok (i+k)):=by
  show _=_;rw[K.o.2.2,List.drop_of_length_le (by omega)]
  rfl
 have HRB:=hId K.o.2.1;have HRA:=hId K.o.1;have q1:¬(k:Int)<(r.length:Int):=by omega
 clear K
 go_wp2_with fail
 go_end0
 exact⟨HRB.o,by rw[m.o];exact⟨rfl,HRA.o⟩⟩
def zIa (X:Nat) (S:ByteArray) (i:Nat) (o:List Nd) (W:World) (e:Ending) (w':World):Prop:=
 e=.returned (.int .i64 ((o.length:Int)-1))/\kP X S i o w'/\Below X W w'
theorem zHA (X:Nat) (S:ByteArray) (i:Nat) (o:List Nd) (x:Nd) (W:World) (hl:o.length<=100000) (hp:kP X S i o W):
  Calls Tryz.prog 166 #[(⟨X,0,none⟩:Addr),.agg #[x.k,x.a,x.b,x.n]] W (zIa X S i (o++[x]) W):=by
 obtain⟨k,a,b,n⟩:=x;simp only;have HP0:=hId hp;have j:Below W W (W.alloc (.cells #[k,a,b,n] 63)):=bLa;have O:=hId (hp.below j);have HB1:=hId j
 have hx0:(W.alloc (.cells #[k,a,b,n] 63)).cell? ⟨W,0,none⟩=some (.int .i64 k):=by go_simp
 have hx1:(W.alloc (.cells #[k,a,b,n] 63)).cell? ⟨W.heap.size,1,none⟩=some (.int .i64 a):=by go_simp
 have hx2:(W.alloc (.cells #[k,a,b,n] 63)).cell? ⟨W.heap.size,2,none⟩=some (.int .i64 b):=by go_simp
 have hx3:(W.alloc (.cells #[k,a,b,n] 63)).cell? ⟨W.heap.size,3,none⟩=some (.int .i64 n):=by go_simp
 go_enter Tryz.func166,Tryz.ntmps166
 go_upto_region 1 with fail
 have hxl:W.heap.size<(W.alloc (.cells #[k,a,b,n] 63)).heap.size:=by simp
 generalize W.alloc (.cells #[k,a,b,n] 63)=w1 at *;obtain⟨hx,-,-,-,f2,T,c,c2,h⟩:=O.o
 have hO:wJ (X+1) w1.drew (Value.slice T o.length c).ownBlock w1.drew (.slice T o.length c) o:=wJ.refl (zGR h)
 obtain⟨u,J,K,h6,s,d⟩:=hO.app ⟨k,a,b,n⟩ (by omega) (by show X+1<=w1.heap.size;omega)
 have h3:=(hO.form (by omega))
 have U:=hId h6;have HO3:=hId s;have HG3:=hId d;have e:some X≠(Value.slice T o.length c).ownBlock:=rE h (Nat.lt_succ_self X)
 have HE:Hid (∀ w9:World,w9=K.setCell ⟨X,2,none⟩ (.slice u (o.length+1) J)->kP X S i (o++[⟨k,a,b,n⟩]) w9/\Below X W w9):=by
  rintro w9 rfl;have hd:Below w1 w1 w1.drew:=bRf.drew;have g:=O.o.below hd;have h4:(o++[(⟨k,a,b,n⟩:Nd)]).length=o.length+1:=by simp
  have h5:X<K.heap.size:=Nat.lt_of_lt_of_le g.lt d.size
  refine⟨⟨by simpa[World.setCell] using h5,?_,?_,?_,?_,u,J,?_,?_⟩,?_⟩
  ·exact(World.cell?_setCell_other _ ⟨X,2,none⟩ ⟨X,0,none⟩ _ (by simp)).trans (d.cell g.c0 e)
  ·exact(World.cell?_setCell_other _ ⟨X,2,none⟩ ⟨X,1,none⟩ _ (by simp)).trans (d.cell g.c1 e)
  ·rw[World.frozen?_setCell];exact(d.frozen_far ⟨X,1,none⟩ g.lt e).trans g.f1
  ·rw[World.frozen?_setCell];exact(d.frozen_far ⟨X,2,none⟩ g.lt e).trans g.f2
  ·rw[h4];exact World.cell?_setCell_same' _ _ _ (by rw[d.cell c2 e];rfl)
  ·exact ownsRow_setCell_below (by have:=s.own;rwa[h4] at this ⊢) (Nat.lt_succ_self X) _
  have h1:Below X W w1.drew:=(HB1.o.mono (Nat.le_of_lt HP0.o.lt)).drew
  exact(h1.grown d (Nat.le_of_lt g.lt) (fun k hk=>by have:=(h.lt k hk).1;omega)).trans (vS _)
 have h2:w1.drew.cell? ⟨X,2,none⟩=some (.slice T o.length c):=c2
 have h0:K.cell? ⟨X,2,none⟩=some (.slice T o.length c):=d.cell h2 e
 have f23:K.frozen? ⟨X,2,none⟩=false:=(d.frozen_far ⟨X,2,none⟩ hx e).trans f2
 clear h6 s d hO h;obtain⟨A0,cc0,h7,m⟩:=h3;obtain⟨rfl,_,rfl⟩:T=A0/\o.length=o.length/\c=cc0:=by simpa using h7
 have hle:=m.le;have hcp:=m.cap;clear m h7 e j
 go_region_law ((refine nO rfl (.tmp 9) (.tmp 11) _ _ rfl (.slice T o.length c) (.slice (some ⟨w1,0,none⟩) 1 1) (.slice u (o.length+1) J) (by go_simp) (by go_simp) U.o ?_))
 all_goals
  have N:=hId (HE.o _ rfl);have c9:(K.setCell ⟨X,2,none⟩ (.slice u (o.length+1) J)).cell? ⟨X,2,none⟩=some (.slice u (o.length+1) J):=World.cell?_setCell_same' _ _ _ (by rw[h0];rfl)
  clear HE U HO3 HG3 hx0 hx1 hx2 hx3 c2 h2 h0 f2 f23;generalize K.setCell ⟨X,2,none⟩ (.slice u (o.length+1) J)=w9 at *;go_simp
  go_wp2_with fail
  go_ret
  exact⟨zJ (by simp),N.o.1,N.o.2⟩
def lX (X:Nat) (S:ByteArray) (o:List Nd) (W:World) (r:Except Nat (Fm×Nat)) (e:Ending) (w':World):Prop:=
 Below X W w'/\match r with
 | .ok (t,j)=>e=.returned (.int .i64 (((t.flat o).length:Int)-1))/\kP X S j (t.flat o) w'
 | .error j=>e=gN j
def fX (s:List UInt8) (m i:Nat):Except Nat (Fm×Nat):=match prs s m i with| .error e=>.error e| .ok (a,j)=>mH s m a j
theorem sR (c:UInt8):keyOf Tryz.prog 5 (.int .u8 (c.toNat:Int))=some (.int .u8 (c.toNat:Int)):=Maps.keyOf_int_mk Tryz.underlying5 (by have:=UInt8.toNat_lt c;simp[Lit.wf,IntKind.min,IntKind.max,IntKind.signed,IntKind.bits];omega)
theorem zF4 (c:UInt8):(((((DataW.map (H:=Unit) []).put (.int .u8 38) (.lit (.int .i64 4))).put (.int .u8 124) (.lit (.int .i64 5))).put (.int .u8 85) (.lit (.int .i64 7))).put (.int .u8 82) (.lit (.int .i64 8))).atKey (.int .u8 (c.toNat:Int)) (.lit (.int .i64 0))=.lit (.int .i64 (kI c)):=by
 by_cases h1:c=38
 ·subst h1;rfl
 by_cases h2:c=124
 ·subst h2;rfl
 by_cases h3:c=85
 ·subst h3;rfl
 by_cases h4:c=82
 ·subst h4;rfl
 have m:=(wX h1).2.2.1;have s:=(wX h2).2.2.1;have u:=(wX h3).2.2.1;have J:=(wX h4).2.2.1;have j:kI c=0:=by unfold kI;rw[if_neg h1,if_neg h2,if_neg h3,if_neg h4]
 rw[j];have i:Lit.int .u8 (c.toNat:Int)≠Lit.int .u8 82:=fun d=>J (by injection d)
 have h:Lit.int .u8 (c.toNat:Int)≠Lit.int .u8 85:=fun d=>u (by injection d)
 have g:Lit.int .u8 (c.toNat:Int)≠Lit.int .u8 124:=fun d=>s (by injection d)
 have e:Lit.int .u8 (c.toNat:Int)≠Lit.int .u8 38:=fun d=>m (by injection d)
 rw[Maps.atKey_put_other i,Maps.atKey_put_other h,Maps.atKey_put_other g,Maps.atKey_put_other e];rfl
theorem zF0 (w:World):∃i j m w4:World,
  (Instr.mapUpdate 240 (.map (some w.heap.size)) (.int .u8 38) (.int .i64 4)).run Tryz.prog (w.alloc (.map #[] 0))=.ok () i/\
  (Instr.mapUpdate 240 (.map (some w.heap.size)) (.int .u8 124) (.int .i64 5)).run Tryz.prog i=.ok () j/\
  (Instr.mapUpdate 240 (.map (some w.heap.size)) (.int .u8 85) (.int .i64 7)).run Tryz.prog j=.ok () m/\
  (Instr.mapUpdate 240 (.map (some w.heap.size)) (.int .u8 82) (.int .i64 8)).run Tryz.prog m=.ok () w4/\
  Below w w w4/\w.heap.size<w4.heap.size/\∀(W:World) (c:UInt8),Below w4 w4 W->
   (Instr.lookup 240 (.map (some w.heap.size)) (.int .u8 (c.toNat:Int)) false).run Tryz.prog W=.ok (.int .i64 (kI c)) W:=by
 have K:=Maps.int_keyed (P:=Tryz.prog) Tryz.underlying5;have d:∀a:Int,(Lit.int .i64 a).wf=true->plainElem (H:=Unit) Tryz.prog 3 a=some (.lit a,[]):=fun a h=>plainElem_int Tryz.underlying3 h
 have o0:(w.alloc (.map #[] 0)).ownsMap Tryz.prog 5 (plainElem (H:=Unit) Tryz.prog 3) w.heap.size 0 (.map []):=World.ownsMap_made _ _ _ _
 obtain⟨i,r1,o1,J⟩:=o0.update K Tryz.underlying240 (by decide) (sR 38) (d 4 (by decide))
 obtain⟨j,r2,o2,N⟩:=o1.update K Tryz.underlying240 (by decide) (sR 124) (d 5 (by decide))
 obtain⟨m,r3,o3,g3⟩:=o2.update K Tryz.underlying240 (by decide) (sR 85) (d 7 (by decide))
 obtain⟨w4,r4,s,O⟩:=o3.update K Tryz.underlying240 (by decide) (sR 82) (d 8 (by decide))
 have u:Below w w w4:=by
  have U:Below w w (w.alloc (.map #[] 0)):=bLa
  have f:∀{A B:World},Below w w A->A.grownBy B (some w.heap.size)->Below w w B:=fun h g=>h.grown g h.size (fun k e=>by cases e;exact nLe)
  exact f (f (f (f U J) N) g3) O
 refine⟨i,j,m,w4,r1,r2,r3,r4,u,s.lt,fun W c hb=>?_⟩
 have o5:=s.kept (zBT (row:=none) hb) (by simp)
 obtain⟨x,r5,h5,-⟩:=o5.lookup_int K Tryz.underlying240 Tryz.underlying3 (by kernel_rfl) (sR c)
 rw[r5];have:=(zF4 c).symm.trans h5;simp only[DataW.lit.injEq,Lit.int.injEq,true_and] at this;rw[this]
theorem zKy (X:Nat) (s:List UInt8) (S:ByteArray) (e:S.size=s.length) (d:∀(i:Nat) (h:i<S.size),S[i]'h=chr s i) (m:s.length<=100000) (c:UInt8) (i:Nat) (o:List Nd) (W:World) (g:i<=s.length) (j:kP X S i o W):
  Calls Tryz.prog 165 #[(⟨X,0,none⟩:Addr),.string ⟨#[c]⟩] W (eN X S o W (yY s [c] i)):=
 zI7 X s S e d m [c] ⟨#[c]⟩ rfl (fun i h=>by have u:i<1:=h;obtain rfl:i=0:=(by omega);rfl) (by simp) i o W g j
theorem zK5 (X:Nat) (s:List UInt8) (S:ByteArray) (hS:S.size=s.length) (hG:∀(i:Nat) (h:i<S.size),S[i]'h=chr s i) (hs:s.length<=100000) (m:Nat)
  (IH:∀(i:Nat) (o:List Nd) (W:World),i<=s.length->s.length-i<m->o.length<=i->kP X S i o W->Calls Tryz.prog 140 #[(⟨X,0,none⟩:Addr)] W (lX X S o W (prs s m i)))
  (i:Nat) (o:List Nd) (W:World) (hi:i<=s.length) (hm:s.length-i<m) (ho:o.length<=i) (hp:kP X S i o W):
  Calls Tryz.prog 167 #[(⟨X,0,none⟩:Addr)] W (lX X S o W (fX s m i)):=by
 have HC:=hId (IH i o W hi hm ho hp);have HIH:=hId IH;have HN1:=hId (zKy X s S hS hG hs);have HSG:=hId (fun i o W hp=>zBz X s S hS hG hs i o W hp)
 have hmm:=@run_makeMap Tryz.prog;clear hG hp IH
 go_enter Tryz.func167,Tryz.ntmps167
 go_wp2_with fail
 refine HC.o.mono ?_
 cases hr:prs s m i with
 |error j=>
  have HQ:Hid (fX s m i=.error j):=by unfold Hid fX;rw[hr]
  rintro e w1 ⟨J,rfl⟩;have g:=hId J;clear J HC;simp only[gN]
  go_wp2_with fail
  exact⟨rfl,g.o,by rw[HQ.o];rfl⟩
 |ok q=>
  obtain⟨a,j⟩:=q;have HQ:Hid (fX s m i=mH s m a j):=by unfold Hid fX;rw[hr]
  obtain⟨p2,p5,p6⟩:j<=s.length/\i<=j/\(a.flat o).length<=j:=by
   obtain⟨p1,_,_,p2⟩:=bI _ _ hr;have p3:=dN a;have p4:=a.flat_len o;omega
  have HE:Hid (∀ k b,(Fm.bi k a b).flat o=b.flat (a.flat o)++[⟨k,((a.flat o).length:Int)-1,((b.flat (a.flat o)).length:Int)-1,0⟩]):=fun _ _=>rfl
  rintro e w1 ⟨J,rfl,hp1⟩;generalize a.flat o=o1 at *;have g:=hId J;have HP1:=hId hp1;have HN:=hId (HN1.o 32 j o1 w1 p2 hp1);clear J hp1 HC hr
  go_wp2_with fail
  refine HN.o.mono ?_
  by_cases hc1:j<s.length/\chr s j=32
  ·rw[kN hc1.1 hc1.2]
   rintro e w2 ⟨K,rfl,h5⟩;have HB2:=hId (g.o.trans K);have HP2:=hId h5;obtain⟨m1,m2,m3,m4,r1,r2,r3,r4,hbm,hml,hlk⟩:=zF0 w2;have hp3:=h5.below hbm;have HB3:=hId (zA HB2.o hbm (Nat.le_of_lt h5.lt))
   have HC3:=hId (HSG.o (j+1) o1 m4 hp3);have HLK:=hId hlk;have HP3:=hId hp3;clear K h5 HN hp3 hlk hbm HP1 g HP2
   go_wp2_with fail
   refine HC3.o.mono ?_;rintro e w5 ⟨rfl,h4⟩;have HB5:=hId (zA HB3.o h4 (Nat.le_of_lt HP3.o.lt));have h3:=hId (HP3.o.below h4);have hk:=HLK.o w5 (chr s (j+1)) h4
   obtain⟨d,hkn⟩:∃d:Int,d=kI (chr s (j+1)):=⟨_,rfl⟩;rw[<-hkn] at hk;have h2:=hId hkn;clear hkn h4 HC3 HP3 HLK r1 r2 r3 r4 hmm hml;have c1:=h3.o.c1
   by_cases hk0:d=0
   ·have u:Hid (fX s m i=.error (j+1)):=by
     show _=_;rw[HQ.o];exact zGV hc1 (fun h=>h.2 (h2.o▸hk0))
    have hq:(d==0)=true:=by simp[hk0]
    clear hk0
    go_wp2_with fail
    exact⟨rfl,HB5.o,by rw[u.o];rfl⟩
   have hl1:j+1<s.length:=by
    rcases Nat.lt_or_ge (j+1) s.length with h|h
    ·exact h
    refine absurd ?_ hk0;rw[h2.o]
    have:chr s (j+1)=0:=by
     unfold chr;rw[List.getD_eq_getElem?_getD,List.getElem?_eq_none (by omega)]
     rfl
    rw[this];rfl
   have hq:(d==0)=false:=by simp[hk0]
   have d1:IntKind.i64.wrap (((j+1:Nat):Int)+1)=((j+1:Nat):Int)+1:=IntWalk.i64_in _ (by omega)
   have f1:=h3.o.f1;have HP6:Hid (kP X S (j+2) o1 (w5.setCell ⟨X,1,none⟩ (.int .i64 (((j+1:Nat):Int)+1)))):=h3.o.to (j+2)
   have HB6:Hid (Below X W (w5.setCell ⟨X,1,none⟩ (.int .i64 (((j+1:Nat):Int)+1)))):=HB5.o.trans (vS _)
   generalize ((j+1:Nat):Int)=jj at *
   go_wp2_with fail
   generalize w5.setCell ⟨X,1,none⟩ (.int .i64 (jj+1))=w6 at *;clear hk c1 f1 hq d1 HB5 h3;have HN6:=hId (HN1.o 32 (j+2) o1 w6 (by omega) HP6.o)
   refine HN6.o.mono ?_;have hk1:kI (chr s (j+1))≠0:=h2.o▸hk0
   by_cases hc2:j+2<s.length/\chr s (j+2)=32
   ·rw[kN hc2.1 hc2.2]
    have HQE:Hid (fX s m i=oY s a d (prs s m (j+3))):=by
     show _=_;rw[HQ.o,h2.o];exact zGr hc1 hl1 hk1 hc2
    rintro e w7 ⟨N,rfl,hp7⟩;have h0:=hId (HB6.o.trans N);have HC7:=hId (HIH.o (j+3) o1 w7 (by omega) (by omega) (by omega) hp7)
    clear N hp7 HN6 HP6 HB6
    go_wp2_with fail
    refine HC7.o.mono ?_
    cases hr2:prs s m (j+3) with
    |error e2=>
     have u:Hid (fX s m i=.error e2):=by show _=_;rw[HQE.o,hr2];rfl
     rintro e w8 ⟨O,rfl⟩;have h1:=hId (h0.o.trans O);clear O HC7;simp only[gN]
     go_wp2_with fail
     exact⟨rfl,h1.o,by rw[u.o];rfl⟩
    |ok q2=>
     obtain⟨b,j3⟩:=q2
     obtain⟨z2,z5,z6⟩:j3<=s.length/\j+3<=j3/\(b.flat o1).length<=j3:=by
      obtain⟨r1,_,_,r2⟩:=bI _ _ hr2;have r3:=dN b;have r4:=b.flat_len o1;omega
     rintro e w8 ⟨O,rfl,hp8⟩;have HE2:Hid ((Fm.bi d a b).flat o=b.flat o1++[⟨d,(o1.length:Int)-1,((b.flat o1).length:Int)-1,0⟩]):=HE.o d b;generalize b.flat o1=o2 at *;have h1:=hId (h0.o.trans O)
     have HN8:=hId (HN1.o 41 j3 o2 w8 z2 hp8);clear O hp8 HC7
     go_wp2_with fail
     refine HN8.o.mono ?_
     by_cases hc3:j3<s.length/\chr s j3=41
     ·rw[kN hc3.1 hc3.2]
      have u:Hid (fX s m i=.ok (.bi d a b,j3+1)):=by
       show _=_;rw[HQE.o,hr2];unfold oY;simp only[kN (r:=[]) hc3.1 hc3.2];rfl
      rintro e w9 ⟨U,rfl,hp9⟩;have HB9:=hId (h1.o.trans U);have HPU:=hId (zHA X S (j3+1) o2 ⟨d,(o1.length:Int)-1,(o2.length:Int)-1,0⟩ w9 (by omega) hp9)
      clear U hp9 HN8
      go_wp2_with fail
      refine HPU.o.mono ?_;rintro e w10 ⟨rfl,hp10,hb10⟩;have HB10:=hId (HB9.o.trans hb10);have HP10:=hId hp10;clear hb10 hp10 HPU;generalize o2++[(⟨d,(o1.length:Int)-1,(o2.length:Int)-1,0⟩:Nd)]=o3 at *
      go_wp2_with fail
      go_ret
      exact⟨HB10.o,by rw[u.o];exact⟨by rw[HE2.o];rfl,by rw[HE2.o];exact HP10.o⟩⟩
     have u:Hid (fX s m i=.error j3):=by
      show _=_;rw[HQE.o,hr2];unfold oY;simp only[fM (r:=[]) (c:=41) hc3]
     rw[fM hc3];rintro e w9 ⟨U,rfl⟩;have HB9:=hId (h1.o.trans U);clear U HN8;simp only[gN]
     go_wp2_with fail
     exact⟨rfl,HB9.o,by rw[u.o];rfl⟩
   have u:Hid (fX s m i=.error (j+2)):=by
    show _=_;rw[HQ.o];exact zFT hc1 hl1 hk1 hc2
   rw[fM hc2];rintro e w7 ⟨N,rfl⟩;have h0:=hId (HB6.o.trans N);clear N HN6;simp only[gN]
   go_wp2_with fail
   exact⟨rfl,h0.o,by rw[u.o];rfl⟩
  have u:Hid (fX s m i=.error j):=by
   show _=_;rw[HQ.o];unfold mH;rw[fM hc1]
  rw[fM hc1];rintro e w2 ⟨K,rfl⟩;have HB2:=hId (g.o.trans K);clear K HN;simp only[gN]
  go_wp2_with fail
  exact⟨rfl,HB2.o,by rw[u.o];rfl⟩
theorem zKe (X:Nat) (s:List UInt8) (S:ByteArray) (e:S.size=s.length) (d:∀(i:Nat) (h:i<S.size),S[i]'h=chr s i) (m:s.length<=100000) (i:Nat) (o:List Nd) (W:World) (g:i<=s.length) (j:kP X S i o W):
  Calls Tryz.prog 165 #[(⟨X,0,none⟩:Addr),.string ⟨#[116,114,117,101]⟩] W (eN X S o W (yY s [116,114,117,101] i)):=
 zI7 X s S e d m [116,114,117,101] ⟨#[116,114,117,101]⟩ rfl (fun i h=>by
  have u:i<4:=h
  rcases(show i=0\/i=1\/i=2\/i=3 by omega) with rfl|rfl|rfl|rfl<;>rfl) (by simp) i o W g j
theorem zJy (X:Nat) (s:List UInt8) (S:ByteArray) (hS:S.size=s.length) (hG:∀(i:Nat) (h:i<S.size),S[i]'h=chr s i) (hs:s.length<=100000):∀(m i:Nat) (o:List Nd) (W:World),i<=s.length->s.length-i<m->o.length<=i->kP X S i o W->
  Calls Tryz.prog 140 #[(⟨X,0,none⟩:Addr)] W (lX X S o W (prs s m i)):=by
 intro m
 induction m with
 |zero=>intro i o W h1 h2;omega
 |succ m ih=>
  intro i o W hi hm ho hp;have HIH:=hId ih;have HPA:=hId (zK5 X s S hS hG hs m ih);have HT:=hId (zKe X s S hS hG hs);have HSG:=hId (fun i o W hp=>zBz X s S hS hG hs i o W hp)
  have HC:=hId (HSG.o i o W hp);have HP:=hId hp;clear hG hp ih
  go_enter Tryz.func140,Tryz.ntmps140
  go_wp2_with fail
  refine HC.o.mono ?_;rintro e w1 ⟨rfl,hb1⟩;have U:=hId (HP.o.below hb1);have h0:Hid (Below X W w1):=hb1.mono (Nat.le_of_lt HP.o.lt);clear hb1 HC HP;obtain⟨-,c0,c1,-,-,-⟩:=U.o
  by_cases hlt:i<s.length
  ·have hq:((i:Int)==(s.length:Int))=false:=by simp;omega
   have b1:¬(s.length<=i):=by omega
   have d1:IntKind.i64.wrap ((i:Int)+1)=(i:Int)+1:=IntWalk.i64_in _ (by omega)
   by_cases h116:chr s i=116
   ·rw[h116]
    have HQ:Hid (prs s (m+1) i=zLb (yY s [116,114,117,101] i)):=by
     show _=_;unfold prs;rw[if_neg b1,if_pos h116]
     cases yY s [116,114,117,101] i<;>rfl
    go_wp2_with fail
    go_quiet (fail)
    have d:Hid (∀ n,kP X S i o (w1.drewN n)):=fun n=>U.o.below (zC bRf n)
    have g:Hid (∀ n,Below X W (w1.drewN n)):=fun n=>zC h0.o n
    have N:=hId (d.o nq);have K:=hId (g.o nq);clear d g c0 c1 U h0;generalize w1.drewN nq=w2 at *;have d:=N;have O:=K;clear N K;have c1:=d.o.c1;have f1:=d.o.f1
    go_wp2_with fail
    have HN:=hId (HT.o i o w2 hi d.o);refine HN.o.mono ?_
    cases hn:yY s [116,114,117,101] i with
    |error j=>
     have HR:Hid (prs s (m+1) i=.error j):=by show _=_;rw[HQ.o,hn];rfl
     rintro e w3 ⟨hb3,rfl⟩;have u:=hId (O.o.trans hb3);clear hb3 HN;simp only[gN]
     go_wp2_with fail
     exact⟨rfl,u.o,by rw[HR.o];rfl⟩
    |ok j=>
     have HR:Hid (prs s (m+1) i=.ok (.tt,j)):=by show _=_;rw[HQ.o,hn];rfl
     rintro e w3 ⟨hb3,rfl,hp3⟩;have u:=hId (O.o.trans hb3);have h7:=hId (zHA X S j o ⟨1,0,0,0⟩ w3 (by omega) hp3)
     have HE:Hid (Fm.flat .tt o=o++[⟨1,0,0,0⟩]):=rfl
     clear hb3 hp3 HN
     go_wp2_with fail
     refine h7.o.mono ?_;rintro e w9 ⟨rfl,hp9,hb9⟩;have HB9:=hId (u.o.trans hb9);have HP9:=hId hp9;clear hp9 hb9 h7
     go_wp2_with fail
     go_ret
     exact⟨HB9.o,by rw[HR.o];exact⟨by rw[HE.o];exact zJ (by simp),by rw[HE.o];exact HP9.o⟩⟩
   by_cases h112:chr s i=112
   ·rw[h112]
    go_wp2_with fail
    go_quiet (fail)
    have d:Hid (∀ n,kP X S i o (w1.drewN n)):=fun n=>U.o.below (zC bRf n)
    have g:Hid (∀ n,Below X W (w1.drewN n)):=fun n=>zC h0.o n
    have N:=hId (d.o nq);have K:=hId (g.o nq);clear d g c0 c1 U h0;generalize w1.drewN nq=w2 at *;have d:=N;have O:=K;clear N K;have c1:=d.o.c1;have f1:=d.o.f1
    have h6:Hid (kP X S (i+1) o (w2.setCell ⟨X,1,none⟩ (.int .i64 ((i:Int)+1)))):=d.o.to (i+1)
    have h5:Hid (Below X W (w2.setCell ⟨X,1,none⟩ (.int .i64 ((i:Int)+1)))):=O.o.trans (vS _)
    go_wp2_with fail
    clear c1 f1 d O;generalize w2.setCell ⟨X,1,none⟩ (.int .i64 ((i:Int)+1))=w3 at *;have HP3:=h6;have u:=h5;clear h6 h5;have hxx:(chr s (i+1)).toNat<256:=UInt8.toNat_lt _
    have h3:=hId (HSG.o (i+1) o w3 HP3.o);refine h3.o.mono ?_;rintro e w4 ⟨rfl,J⟩;have HP4:=hId (HP3.o.below J);have h4:=hId (zA u.o J (Nat.le_of_lt HP3.o.lt));clear J h3 HP3 u
    obtain⟨x,hx⟩:∃x:Nat,x=(chr s (i+1)).toNat:=⟨_,rfl⟩;rw[<-hx] at hxx ⊢;have e6:IntKind.i64.wrap (x:Int)=(x:Int):=IntWalk.i64_in _ (by omega)
    have e7:IntKind.i64.wrap ((x:Int)-48)=(x:Int)-48:=IntWalk.i64_in _ (by omega)
    have c1':=HP4.o.c1;have f1':=HP4.o.f1
    by_cases hd:48<=x/\x<=57
    ·have hl2:i+1<s.length:=by
      rcases Nat.lt_or_ge (i+1) s.length with h|h
      ·exact h
      have:chr s (i+1)=0:=by
       unfold chr;rw[List.getD_eq_getElem?_getD,List.getElem?_eq_none (by omega)]
       rfl
      rw[this] at hx;have:x=0:=hx;omega
     have HR:Hid (prs s (m+1) i=.ok (.pr ((x:Int)-48),i+2)):=by
      show _=_;unfold prs;rw[if_neg b1,if_neg h116,if_pos h112,if_pos ⟨hl2,by rw[UInt8.le_iff_toNat_le,<-hx];exact hd.1,by rw[UInt8.le_iff_toNat_le,<-hx];exact hd.2⟩,<-hx]
     have q1:¬((x:Int)-48<0):=by omega
     have q2:¬((9:Int)<(x:Int)-48):=by omega
     have q3:decide ((x:Int)-48<0)=false:=by simp;omega
     have q4:decide ((9:Int)<(x:Int)-48)=false:=by simp;omega
     have d2:IntKind.i64.wrap ((i:Int)+1+1)=(i:Int)+1+1:=IntWalk.i64_in _ (by omega)
     have HP5:Hid (kP X S (i+2) o (w4.setCell ⟨X,1,none⟩ (.int .i64 ((i:Int)+1+1)))):=HP4.o.to (i+2)
     have HB5:Hid (Below X W (w4.setCell ⟨X,1,none⟩ (.int .i64 ((i:Int)+1+1)))):=h4.o.trans (vS _)
     have HE:Hid (Fm.flat (.pr ((x:Int)-48)) o=o++[⟨2,0,0,(x:Int)-48⟩]):=rfl
     have c1'':w4.cell? ⟨X,1,none⟩=some (.int .i64 ((i:Int)+1)):=c1'
     clear hx hd c1'
     go_wp2_with fail
     generalize w4.setCell ⟨X,1,none⟩ (.int .i64 ((i:Int)+1+1))=w3 at *;have h7:=hId (zHA X S (i+2) o ⟨2,0,0,(x:Int)-48⟩ w3 (by omega) HP5.o)
     have u:=HB5;clear HP5 HB5 HP4 h4
     go_wp2_with fail
     refine h7.o.mono ?_;rintro e w9 ⟨rfl,hp9,hb9⟩;have HB9:=hId (u.o.trans hb9);have HP9:=hId hp9;clear hp9 hb9 h7
     go_wp2_with fail
     go_ret
     exact⟨HB9.o,by rw[HR.o];exact⟨by rw[HE.o];exact zJ (by simp),by rw[HE.o];exact HP9.o⟩⟩
    have HR:Hid (prs s (m+1) i=.error (i+1)):=by
     show _=_;unfold prs;rw[if_neg b1,if_neg h116,if_pos h112,if_neg (fun h=>hd ⟨by have:=h.2.1;rw[UInt8.le_iff_toNat_le,<-hx] at this;exact this,by have:=h.2.2;rw[UInt8.le_iff_toNat_le,<-hx] at this;exact this⟩)]
    clear hx;have c1'':w4.cell? ⟨X,1,none⟩=some (.int .i64 ((i:Int)+1)):=c1';clear c1'
    by_cases hz:(x:Int)-48<0
    ·have q3:decide ((x:Int)-48<0)=true:=by simp;omega
     clear hd
     go_wp2_with fail
     exact⟨rfl,h4.o,by rw[HR.o];rfl⟩
    have q2:(9:Int)<(x:Int)-48:=by omega
    have q3:decide ((x:Int)-48<0)=false:=by simp;omega
    have q4:decide ((9:Int)<(x:Int)-48)=true:=by simp;omega
    clear hd
    go_wp2_with fail
    exact⟨rfl,h4.o,by rw[HR.o];rfl⟩
   by_cases h33:chr s i=33
   ·rw[h33]
    go_wp2_with fail
    go_quiet (fail)
    have d:Hid (∀ n,kP X S i o (w1.drewN n)):=fun n=>U.o.below (zC bRf n)
    have g:Hid (∀ n,Below X W (w1.drewN n)):=fun n=>zC h0.o n
    have N:=hId (d.o nq);have K:=hId (g.o nq);clear d g c0 c1 U h0;generalize w1.drewN nq=w2 at *;have d:=N;have O:=K;clear N K;have c1:=d.o.c1;have f1:=d.o.f1
    have h6:Hid (kP X S (i+1) o (w2.setCell ⟨X,1,none⟩ (.int .i64 ((i:Int)+1)))):=d.o.to (i+1)
    have h5:Hid (Below X W (w2.setCell ⟨X,1,none⟩ (.int .i64 ((i:Int)+1)))):=O.o.trans (vS _)
    go_wp2_with fail
    clear c1 f1 d O;generalize w2.setCell ⟨X,1,none⟩ (.int .i64 ((i:Int)+1))=w3 at *;have HP3:=h6;have u:=h5;clear h6 h5;have h3:=hId (HIH.o (i+1) o w3 (by omega) (by omega) (by omega) HP3.o)
    refine h3.o.mono ?_
    cases hr:prs s m (i+1) with
    |error j=>
     have HR:Hid (prs s (m+1) i=.error j):=by
      show _=_;unfold prs;rw[if_neg b1,if_neg h116,if_neg h112,if_pos h33,hr]
     rintro e w4 ⟨J,rfl⟩;have h4:=hId (u.o.trans J);clear J h3;simp only[gN]
     go_wp2_with fail
     exact⟨rfl,h4.o,by rw[HR.o];rfl⟩
    |ok q=>
     obtain⟨a,j⟩:=q
     have HR:Hid (prs s (m+1) i=.ok (.no a,j)):=by
      show _=_;unfold prs;rw[if_neg b1,if_neg h116,if_neg h112,if_pos h33,hr]
     obtain⟨p2,p5,p6⟩:j<=s.length/\i+1<=j/\(a.flat o).length<=j:=by
      obtain⟨p1,_,_,p2⟩:=bI _ _ hr;have p3:=dN a;have p4:=a.flat_len o;omega
     have HE:Hid ((Fm.no a).flat o=a.flat o++[⟨3,((a.flat o).length:Int)-1,0,0⟩]):=rfl
     rintro e w4 ⟨J,rfl,hp4⟩;generalize a.flat o=o1 at *;have u:=hId (u.o.trans J);have h7:=hId (zHA X S j o1 ⟨3,(o1.length:Int)-1,0,0⟩ w4 (by omega) hp4)
     clear J hp4 h3
     go_wp2_with fail
     refine h7.o.mono ?_;rintro e w9 ⟨rfl,hp9,hb9⟩;have HB9:=hId (u.o.trans hb9);have HP9:=hId hp9;clear hp9 hb9 h7
     go_wp2_with fail
     go_ret
     exact⟨HB9.o,by rw[HR.o];exact⟨by rw[HE.o];exact zJ (by simp),by rw[HE.o];exact HP9.o⟩⟩
   by_cases h88:chr s i=88
   ·rw[h88]
    go_wp2_with fail
    go_quiet (fail)
    have d:Hid (∀ n,kP X S i o (w1.drewN n)):=fun n=>U.o.below (zC bRf n)
    have g:Hid (∀ n,Below X W (w1.drewN n)):=fun n=>zC h0.o n
    have N:=hId (d.o nq);have K:=hId (g.o nq);clear d g c0 c1 U h0;generalize w1.drewN nq=w2 at *;have d:=N;have O:=K;clear N K;have c1:=d.o.c1;have f1:=d.o.f1
    have h6:Hid (kP X S (i+1) o (w2.setCell ⟨X,1,none⟩ (.int .i64 ((i:Int)+1)))):=d.o.to (i+1)
    have h5:Hid (Below X W (w2.setCell ⟨X,1,none⟩ (.int .i64 ((i:Int)+1)))):=O.o.trans (vS _)
    go_wp2_with fail
    clear c1 f1 d O;generalize w2.setCell ⟨X,1,none⟩ (.int .i64 ((i:Int)+1))=w3 at *;have HP3:=h6;have u:=h5;clear h6 h5;have h3:=hId (HIH.o (i+1) o w3 (by omega) (by omega) (by omega) HP3.o)
    refine h3.o.mono ?_
    cases hr:prs s m (i+1) with
    |error j=>
     have HR:Hid (prs s (m+1) i=.error j):=by
      show _=_;unfold prs;rw[if_neg b1,if_neg h116,if_neg h112,if_neg h33,if_pos h88,hr]
     rintro e w4 ⟨J,rfl⟩;have h4:=hId (u.o.trans J);clear J h3;simp only[gN]
     go_wp2_with fail
     exact⟨rfl,h4.o,by rw[HR.o];rfl⟩
    |ok q=>
     obtain⟨a,j⟩:=q
     have HR:Hid (prs s (m+1) i=.ok (.nx a,j)):=by
      show _=_;unfold prs;rw[if_neg b1,if_neg h116,if_neg h112,if_neg h33,if_pos h88,hr]
     obtain⟨p2,p5,p6⟩:j<=s.length/\i+1<=j/\(a.flat o).length<=j:=by
      obtain⟨p1,_,_,p2⟩:=bI _ _ hr;have p3:=dN a;have p4:=a.flat_len o;omega
     have HE:Hid ((Fm.nx a).flat o=a.flat o++[⟨6,((a.flat o).length:Int)-1,0,0⟩]):=rfl
     rintro e w4 ⟨J,rfl,hp4⟩;generalize a.flat o=o1 at *;have u:=hId (u.o.trans J);have h7:=hId (zHA X S j o1 ⟨6,(o1.length:Int)-1,0,0⟩ w4 (by omega) hp4)
     clear J hp4 h3
     go_wp2_with fail
     refine h7.o.mono ?_;rintro e w9 ⟨rfl,hp9,hb9⟩;have HB9:=hId (u.o.trans hb9);have HP9:=hId hp9;clear hp9 hb9 h7
     go_wp2_with fail
     go_ret
     exact⟨HB9.o,by rw[HR.o];exact⟨by rw[HE.o];exact zJ (by simp),by rw[HE.o];exact HP9.o⟩⟩
   by_cases h40:chr s i=40
   ·rw[h40]
    go_wp2_with fail
    go_quiet (fail)
    have d:Hid (∀ n,kP X S i o (w1.drewN n)):=fun n=>U.o.below (zC bRf n)
    have g:Hid (∀ n,Below X W (w1.drewN n)):=fun n=>zC h0.o n
    have N:=hId (d.o nq);have K:=hId (g.o nq);clear d g c0 c1 U h0;generalize w1.drewN nq=w2 at *;have d:=N;have O:=K;clear N K;have c1:=d.o.c1;have f1:=d.o.f1
    have h6:Hid (kP X S (i+1) o (w2.setCell ⟨X,1,none⟩ (.int .i64 ((i:Int)+1)))):=d.o.to (i+1)
    have h5:Hid (Below X W (w2.setCell ⟨X,1,none⟩ (.int .i64 ((i:Int)+1)))):=O.o.trans (vS _)
    go_wp2_with fail
    clear c1 f1 d O;generalize w2.setCell ⟨X,1,none⟩ (.int .i64 ((i:Int)+1))=w3 at *;have HP3:=h6;have u:=h5;clear h6 h5
    have HR:Hid (prs s (m+1) i=fX s m (i+1)):=by
     show _=_;unfold fX
     cases hr:prs s m (i+1) with
     |error j=>
      unfold prs;rw[if_neg b1,if_neg h116,if_neg h112,if_neg h33,if_neg h88,if_pos h40,hr]
     |ok q=>
      obtain⟨a,j⟩:=q;exact zGt hlt h40 hr
    have h3:=hId (HPA.o (i+1) o w3 (by omega) (by omega) (by omega) HP3.o)
    refine h3.o.mono ?_
    cases hpq:fX s m (i+1) with
    |error j=>
     have HR2:Hid (prs s (m+1) i=.error j):=by show _=_;rw[HR.o,hpq]
     rintro e w4 ⟨J,rfl⟩;have h4:=hId (u.o.trans J);clear J h3;simp only[gN]
     go_wp2_with fail
     exact⟨rfl,h4.o,by rw[HR2.o];rfl⟩
    |ok q=>
     obtain⟨t,j⟩:=q;have HR2:Hid (prs s (m+1) i=.ok (t,j)):=by show _=_;rw[HR.o,hpq]
     rintro e w4 ⟨J,rfl,hp4⟩;have h4:=hId (u.o.trans J);have HP4:=hId hp4;clear J hp4 h3
     go_wp2_with fail
     go_ret
     exact⟨h4.o,by rw[HR2.o];exact⟨rfl,HP4.o⟩⟩
   have HR:Hid (prs s (m+1) i=.error i):=by
    show _=_;unfold prs;rw[if_neg b1,if_neg h116,if_neg h112,if_neg h33,if_neg h88,if_neg h40]
   obtain⟨x,hx⟩:∃x:Nat,x=(chr s i).toNat:=⟨_,rfl⟩;have z116:((x:Int)==116)=false:=by rw[hx];exact(wX (a:=chr s i) (n:=116) h116).2.1
   have z112:((x:Int)==112)=false:=by rw[hx];exact(wX (a:=chr s i) (n:=112) h112).2.1
   have z33:((x:Int)==33)=false:=by rw[hx];exact(wX (a:=chr s i) (n:=33) h33).2.1
   have z88:((x:Int)==88)=false:=by rw[hx];exact(wX (a:=chr s i) (n:=88) h88).2.1
   have z40:((x:Int)==40)=false:=by rw[hx];exact(wX (a:=chr s i) (n:=40) h40).2.1
   rw[<-hx];clear hx h116 h112 h33 h88 h40
   go_wp2_with fail
   go_quiet (fail)
   have d:Hid (∀ n,kP X S i o (w1.drewN n)):=fun n=>U.o.below (zC bRf n)
   have g:Hid (∀ n,Below X W (w1.drewN n)):=fun n=>zC h0.o n
   have N:=hId (d.o nq);have K:=hId (g.o nq);clear d g c0 c1 U h0;generalize w1.drewN nq=w2 at *;have d:=N;have O:=K;clear N K;have c1:=d.o.c1;have f1:=d.o.f1
   go_wp2_with fail
   exact⟨rfl,O.o,by rw[HR.o];rfl⟩
  have HR:Hid (prs s (m+1) i=.error i):=by
   show _=_;unfold prs;rw[if_pos (by omega),show s.length=i by omega]
  have hq:((i:Int)==(s.length:Int))=true:=by simp;omega
  generalize chr s i=ch at *
  go_wp2_with fail
  go_quiet (fail)
  have d:Hid (∀ n,kP X S i o (w1.drewN n)):=fun n=>U.o.below (zC bRf n)
  have g:Hid (∀ n,Below X W (w1.drewN n)):=fun n=>zC h0.o n
  have N:=hId (d.o nq);have K:=hId (g.o nq);clear d g c0 c1 U h0;generalize w1.drewN nq=w2 at *;have d:=N;have O:=K;clear N K;have c1:=d.o.c1;have f1:=d.o.f1
  go_wp2_with fail
  exact⟨rfl,O.o,by rw[HR.o];rfl⟩
theorem zCX (p q r:Addr) (w:World):
  CallsD Tryz.prog 139 #[.pointer (some p),.pointer (some q),.pointer (some r)] .returning w fun e h w'=>e=.returned (.tuple #[])/\h=.returning/\w'=w:=by
 refine callsD_of_wpS Tryz.func139 rfl fun g cs d=>?_
 apply wpS_seq
 apply wpS_region
 simp[wpOpsS,go_sem,recoverD,d,Tryz.ntmps139,Exit.thenS]
 apply wpS_seq
 apply wpS_region
 simp[wpOpsS,go_sem,recoverD,d,Tryz.ntmps139,Exit.thenS]
 refine wpS_cond (t:=false) (by simp[Act.eval,Array.replicate]) ?_
 simp only[Bool.false_eq_true,if_false];refine wpS_of_wp (wp_skip ?_);cases g
 simp_all [bodyPostS,results,Tryz.results139]
theorem nC (V:Nat) (i:Value) (m s j:Int) (w:World) (u:w.cell? ⟨V,0,none⟩=some i) (J:w.cell? ⟨V+1,0,none⟩=some (.int .i64 m)) (K:w.cell? ⟨V+2,0,none⟩=some (.int .i64 s))
  (O:w.frozen? ⟨V,0,none⟩=false) (U:w.frozen? ⟨V+1,0,none⟩=false) (f2:w.frozen? ⟨V+2,0,none⟩=false):
  CallsD Tryz.prog 139 #[(⟨V,0,none⟩:Addr),(⟨V+1,0,none⟩:Addr),(⟨V+2,0,none⟩:Addr)] (.panicking [{v:=.iface 188 j,recovered:=false}]) w fun e h w'=>
   e=.returned (.tuple #[])/\h=.panicking [{v:=.iface 188 j,recovered:=true}]/\w'=((w.setCell ⟨V,0,none⟩ ()).setCell ⟨V+1,0,none⟩ j).setCell ⟨V+2,0,none⟩ (.int .i64 1):=by
 refine callsD_of_wpS Tryz.func139 rfl fun N cs d=>?_
 apply wpS_seq
 apply wpS_region
 simp[wpOpsS,go_sem,recoverD,d,Tryz.ntmps139,Exit.thenS]
 apply wpS_seq
 apply wpS_region
 simp[wpOpsS,go_sem,recoverD,d,Tryz.ntmps139,Exit.thenS]
 refine wpS_cond (t:=true) (by simp[Act.eval,Array.replicate]) ?_
 simp only[if_true];refine wpS_of_wp ?_;have g:∀w:World,(Instr.typeAssert (.iface 188 j) 20 188 true).run Tryz.prog w=.ok (.tuple #[j,true]) w:=fun _=>by kernel_rfl
 simp only[Array.replicate_succ,Array.replicate_zero,List.push_toArray,List.append_toArray,List.nil_append,List.cons_append,lAy];clear d
 go_wp2_with fail
 simp[bodyPostS,results,Tryz.results139]
def qN (s:List UInt8):List Nd×Int×Int:=
 match prs s (s.length+1) 0 with
 | .error j=>([],(j:Int),1)
 | .ok (t,j)=>if j<s.length then([],(j:Int),1) else(t.flat [],0,0)
def zAv (w:World) (r:List Nd×Int×Int) (e:Ending) (w':World):Prop:=
 ∃A c,e=.returned (.tuple #[.slice A r.1.length c,r.2.1,r.2.2])/\Nds w' w.heap.size A c r.1/\Below w w w'
structure eG (V:Nat) (v:Value) (a b:Int) (W:World):Prop where
 c0:W.cell? ⟨V,0,none⟩=some v
 c1:W.cell? ⟨V+1,0,none⟩=some (.int .i64 a)
 c2:W.cell? ⟨V+2,0,none⟩=some (.int .i64 b)
 f0:W.frozen? ⟨V,0,none⟩=false
 f1:W.frozen? ⟨V+1,0,none⟩=false
 f2:W.frozen? ⟨V+2,0,none⟩=false
theorem eG.below {V:Nat} {v:Value} {a b:Int} {W W':World} (h:eG V v a b W) (d:Below (V+3) W W'):eG V v a b W':=
 ⟨(d.cell (p:=⟨V,0,none⟩) (by show V<_;omega)).trans h.c0,(d.cell (p:=⟨V+1,0,none⟩) (by show V+1<_;omega)).trans h.c1,(d.cell (p:=⟨V+2,0,none⟩) (by show V+2<_;omega)).trans h.c2,
  (d.frozen (p:=⟨V,0,none⟩) (by show V<_;omega)).trans h.f0,(d.frozen (p:=⟨V+1,0,none⟩) (by show V+1<_;omega)).trans h.f1,(d.frozen (p:=⟨V+2,0,none⟩) (by show V+2<_;omega)).trans h.f2⟩
theorem eG.set {V:Nat} {v:Value} {a b:Int} {W:World} (h:eG V v a b W) (v':Value) (a' d:Int):
  eG V v' a' d (((W.setCell ⟨V,0,none⟩ v').setCell ⟨V+1,0,none⟩ a').setCell ⟨V+2,0,none⟩ d):=by
 obtain⟨e,g,i,j,m,s⟩:=h;have u:V≠V+1:=by omega
 have J:V≠V+2:=by omega
 have K:V+1≠V+2:=by omega
 refine⟨?_,?_,?_,?_,?_,?_⟩
 ·rw[World.cell?_setCell_other _ ⟨V+2,0,none⟩ ⟨V,0,none⟩ _ (by simp),World.cell?_setCell_other _ ⟨V+1,0,none⟩ ⟨V,0,none⟩ _ (by simp)]
  exact World.cell?_setCell_same' _ _ _ (by rw[e];rfl)
 ·rw[World.cell?_setCell_other _ ⟨V+2,0,none⟩ ⟨V+1,0,none⟩ _ (by simp)]
  exact World.cell?_setCell_same' _ _ _ (by rw[World.cell?_setCell_other _ ⟨V,0,none⟩ ⟨V+1,0,none⟩ _ (by simp),g];rfl)
 ·exact World.cell?_setCell_same' _ _ _ (by rw[World.cell?_setCell_other _ ⟨V+1,0,none⟩ ⟨V+2,0,none⟩ _ (by simp),World.cell?_setCell_other _ ⟨V,0,none⟩ ⟨V+2,0,none⟩ _ (by simp),i];rfl)
 ·simp only[World.frozen?_setCell];exact j
 ·simp only[World.frozen?_setCell];exact m
 simp only[World.frozen?_setCell];exact s
theorem rM {V B:Nat} {w W:World} (h:Below B w W) (d:B<=V) (u v x:Value):Below B w (((W.setCell ⟨V,0,none⟩ u).setCell ⟨V+1,0,none⟩ v).setCell ⟨V+2,0,none⟩ x):=
 ((h.setCell (p:=⟨V,0,none⟩) d _).setCell (p:=⟨V+1,0,none⟩) (by show B<=V+1;omega) _).setCell (p:=⟨V+2,0,none⟩) (by show B<=V+2;omega) _
theorem zKi (s:List UInt8) (S:ByteArray) (hS:S.size=s.length) (hG:∀(i:Nat) (h:i<S.size),S[i]'h=chr s i) (hs:s.length<=2000) (w:World):
  Calls Tryz.prog 101 #[.string S] w (zAv w (qN s)):=by
 have hmf:∀(fn:Fn) (first cap:Array Value) (w:World),(Instr.makeFunc fn first cap).run Tryz.prog w=.ok (.func fn first cap) w:=fun _ _ _ _=>rfl
 have HPN:=hId (fun X W hp=>zJy X s S hS hG (by omega) (s.length+1) 0 [] W (Nat.zero_le _) (by omega) nLe hp)
 clear hG
 go_enter_defers Tryz.func101,Tryz.ntmps101
 go_wp2_with fail
 have H4:Hid (kP (w.heap.size+1+1+1) S 0 [] ((((w.alloc (.cells #[Value.slice none 0 0] 42)).alloc (.cells #[Value.int IntKind.i64 0] 3)).alloc (.cells #[Value.int IntKind.i64 0] 32)).alloc (.cells #[Value.string S,Value.int IntKind.i64 0,Value.slice none 0 0] 192))):=
  ⟨by simp,by go_simp,by go_simp,by go_simp,by go_simp,none,0,by go_simp,World.ownsRow_nil _ _ _ _⟩
 have HB4:Hid (Below w w ((((w.alloc (.cells #[Value.slice none 0 0] 42)).alloc (.cells #[Value.int IntKind.i64 0] 3)).alloc (.cells #[Value.int IntKind.i64 0] 32)).alloc (.cells #[Value.string S,Value.int IntKind.i64 0,Value.slice none 0 0] 192))):=by show Below _ _ _;go_grown
 have J:Hid (eG w.heap.size () 0 0 ((((w.alloc (.cells #[Value.slice none 0 0] 42)).alloc (.cells #[Value.int IntKind.i64 0] 3)).alloc (.cells #[Value.int IntKind.i64 0] 32)).alloc (.cells #[Value.string S,Value.int IntKind.i64 0,Value.slice none 0 0] 192))):=
  ⟨by go_simp,by go_simp,by go_simp,by go_simp,by go_simp,by go_simp⟩
 generalize (((w.alloc (.cells #[Value.slice none 0 0] 42)).alloc (.cells #[Value.int IntKind.i64 0] 3)).alloc (.cells #[Value.int IntKind.i64 0] 32)).alloc (.cells #[Value.string S,Value.int IntKind.i64 0,Value.slice none 0 0] 192)=w4 at *
 have O:=hId (HPN.o _ _ H4.o);refine O.o.mono ?_
 cases hr:prs s (s.length+1) 0 with
 |error j=>
  have HQ:Hid (qN s=([],(j:Int),1)):=by unfold Hid qN;rw[hr]
  rintro e w5 ⟨g,rfl⟩;have d:=hId (J.o.below (g.mono (Nat.le_of_eq rfl)));have u:=hId (HB4.o.trans (g.mono (by omega)))
  clear g O J H4;simp only[gN];obtain⟨U,c1,c2,f0,f1,f2⟩:=d.o
  refine leaves_cons (f:=139) (args:=#[.pointer (some ⟨w,0,none⟩),.pointer (some ⟨w.heap.size+1,0,none⟩),.pointer (some ⟨w.heap.size+2,0,none⟩)]) (by simp) (by simp[go_sem]) ?_
  refine(nC w.heap.size () 0 0 j _ U c1 c2 f0 f1 f2).mono ?_;rintro e u' w'' ⟨rfl,rfl,rfl⟩;obtain⟨d0,d1,d2,-,-,-⟩:=d.o.set () j 1
  have m:=hId (rM u.o nLe () (.int .i64 (j:Int)) (.int .i64 1));clear U c1 c2 f0 f1 f2
  generalize ((w5.setCell ⟨w,0,none⟩ ()).setCell ⟨w.heap.size+1,0,none⟩ (.int .i64 (j:Int))).setCell ⟨w.heap.size+2,0,none⟩ (.int .i64 1)=w6 at *
  simp[Leaves,settle,results,Tryz.results101,go_sem,d0,d1,d2]
  rw[HQ.o];exact⟨none,0,rfl,Nds.none _ _,m.o⟩
 |ok q=>
  obtain⟨t,j⟩:=q
  obtain⟨p2,p6⟩:j<=s.length/\(t.flat []).length<=100000:=by
   obtain⟨p1,_,_,p2⟩:=bI _ _ hr;have p3:=dN t;have p4:=t.flat_len []
   simp at p4
   omega
  rintro e w5 ⟨g,rfl,hp5⟩;have d:=hId (J.o.below (g.mono (Nat.le_of_eq rfl)));have u:=hId (HB4.o.trans (g.mono (by omega)))
  have x1:=hp5.c1;obtain⟨T,c,x2,N⟩:=hp5.own;have HN:=hId (show ∃A K,Value.slice T (t.flat []).length c=.slice A (t.flat []).length K/\Nds w5 (w.heap.size+1+1+1+1) A K (t.flat []) from SlE.of_own N (by omega))
  clear g O J H4 hp5 N
  by_cases hj:j<s.length
  ·have HQ:Hid (qN s=([],(j:Int),1)):=by unfold Hid qN;rw[hr];simp[hj]
   have hq:decide ((j:Int)<(s.length:Int))=true:=by simp;omega
   have hq2:(j:Int)<(s.length:Int):=by omega
   clear hj
   go_wp2_with fail
   obtain⟨U,c1,c2,f0,f1,f2⟩:=d.o
   refine leaves_cons (f:=139) (args:=#[.pointer (some ⟨w,0,none⟩),.pointer (some ⟨w.heap.size+1,0,none⟩),.pointer (some ⟨w.heap.size+2,0,none⟩)]) (by simp) (by simp[go_sem]) ?_
   refine(nC w.heap.size () 0 0 j _ U c1 c2 f0 f1 f2).mono ?_;rintro e u' w'' ⟨rfl,rfl,rfl⟩;obtain⟨d0,d1,d2,-,-,-⟩:=d.o.set () j 1
   have m:=hId (rM u.o nLe () (.int .i64 (j:Int)) (.int .i64 1));clear U c1 c2 f0 f1 f2
   generalize ((w5.setCell ⟨w,0,none⟩ ()).setCell ⟨w.heap.size+1,0,none⟩ (.int .i64 (j:Int))).setCell ⟨w.heap.size+2,0,none⟩ (.int .i64 1)=w6 at *
   simp[Leaves,settle,results,Tryz.results101,go_sem,d0,d1,d2]
   rw[HQ.o];exact⟨none,0,rfl,Nds.none _ _,m.o⟩
  have HQ:Hid (qN s=(t.flat [],0,0)):=by unfold Hid qN;rw[hr];simp[hj]
  have hq:decide ((j:Int)<(s.length:Int))=false:=by simp;omega
  have hq2:¬(j:Int)<(s.length:Int):=by omega
  clear hj;generalize t.flat []=o at *;obtain⟨U,c1,c2,f0,f1,f2⟩:=d.o
  go_wp2_with fail
  refine leaves_cons (f:=139) (args:=#[.pointer (some ⟨w,0,none⟩),.pointer (some ⟨w.heap.size+1,0,none⟩),.pointer (some ⟨w.heap.size+2,0,none⟩)]) (by simp) (by simp[go_sem]) ?_
  refine(zCX ⟨w,0,none⟩ ⟨w.heap.size+1,0,none⟩ ⟨w.heap.size+2,0,none⟩ _).mono ?_;rintro e u' w'' ⟨rfl,rfl,rfl⟩;obtain⟨d0,d1,d2,-,-,-⟩:=d.o.set (.slice T o.length c) 0 0
  have m:=hId (rM u.o nLe (.slice T o.length c) (.int .i64 0) (.int .i64 0))
  have HN6:Hid (∃ A K,Value.slice T o.length c=.slice A o.length K/\Nds (((w5.setCell ⟨w,0,none⟩ (.slice T o.length c)).setCell ⟨w.heap.size+1,0,none⟩ (.int .i64 0)).setCell ⟨w.heap.size+2,0,none⟩ (.int .i64 0)) w.heap.size A K o):=by
   obtain⟨A,K,h1,h2⟩:=HN.o;refine⟨A,K,h1,?_⟩;have h3:=h2.kept (iN.set _ _ _ (p:=⟨w,0,none⟩) (.slice T o.length c) (.inl (by show w.heap.size<_;omega)))
   have h4:=h3.kept (iN.set _ _ _ (p:=⟨w.heap.size+1,0,none⟩) (.int .i64 0) (.inl (by show w.heap.size+1<_;omega)))
   exact(h4.kept (iN.set _ _ _ (p:=⟨w.heap.size+2,0,none⟩) (.int .i64 0) (.inl (by show w.heap.size+2<_;omega)))).low (by omega)
  clear U c1 c2 f0 f1 f2 HN x1 x2;simp only[Nat.add_assoc,Nat.reduceAdd] at *
  generalize ((w5.setCell ⟨w,0,none⟩ (.slice T o.length c)).setCell ⟨w.heap.size+1,0,none⟩ (.int .i64 0)).setCell ⟨w.heap.size+2,0,none⟩ (.int .i64 0)=w6 at *
  simp[Leaves,settle,results,Tryz.results101,go_sem,d0,d1,d2]
  rw[HQ.o];obtain⟨A,K,h1,h2⟩:=HN6.o;exact⟨A,K,by rw[h1],h2,m.o⟩
def sX (s:List UInt8):List Nd×Int×Int:=
 if 2000<s.length then([],0,2)
 else if(qN s).2.2=0 then(if ckF (qN s).1=0 then((qN s).1,0,0) else([],0,ckF (qN s).1))
 else([],(qN s).2.1,1)
theorem zBd (s:List UInt8):((qN s).2.2=0/\(qN s).2.1=0)\/((qN s).2.2=1/\(qN s).1=[]):=by
 unfold qN
 cases prs s (s.length+1) 0 with
 |error j=>exact .inr ⟨rfl,rfl⟩
 |ok q=>
  obtain⟨t,j⟩:=q;simp only
  split
  ·exact .inr ⟨rfl,rfl⟩
  exact .inl ⟨rfl,rfl⟩
theorem zJr (s:List UInt8) (S:ByteArray) (hS:S.size=s.length) (N:∀(i:Nat) (h:i<S.size),S[i]'h=chr s i) (w:World):
  Calls Tryz.prog 58 #[.string S] w (zAv w (sX s)):=by
 by_cases hl:2000<s.length
 ·have m:Hid (sX s=([],0,2)):=by unfold Hid sX;rw[if_pos hl]
  have hq:(2000:Int)<(s.length:Int):=by omega
  clear N
  go_enter Tryz.func58,Tryz.ntmps58
  go_wp2_with fail
  go_ret3
  rw[m.o];exact⟨none,0,rfl,Nds.none _ _,bRf⟩
 have hq:¬(2000:Int)<(s.length:Int):=by omega
 have HP:=hId (zKi s S hS N (by omega) w)
 have HC:=hId (zBd s);have m:Hid (sX s=if(qN s).2.2=0 then(if ckF (qN s).1=0 then((qN s).1,0,0) else([],0,ckF (qN s).1)) else([],(qN s).2.1,1)):=by unfold Hid sX;rw[if_neg hl]
 clear N hl;generalize qN s=r at *;obtain⟨o,a,b⟩:=r
 go_enter Tryz.func58,Tryz.ntmps58
 go_wp2_with fail
 refine HP.o.mono ?_;rintro e w1 ⟨A,c,rfl,u,hb⟩;have HN:=hId u;have J:=hId hb;have U:=u.le;have O:=u.cap;have HK:=hId (jW A c o w1 u.zero);clear u hb HP;simp only at U O ⊢
 rcases HC.o with⟨hb0,ha0⟩|⟨hb1,ho⟩
 ·obtain rfl:b=0:=hb0
  obtain rfl:a=0:=ha0
  go_wp2_with fail
  refine HK.o.mono ?_;rintro e w2 ⟨rfl,g⟩;have j:=hId (zA J.o g J.o.size);have K:=hId (HN.o.below g);clear g HK
  by_cases hc:ckF o=0
  ·have d:Hid (sX s=(o,0,0)):=by show _=_;rw[m.o];simp[hc]
   have e2:(ckF o !=0)=false:=by simp[hc]
   clear hc
   go_wp2_with fail
   go_ret3
   rw[d.o];exact⟨A,c,rfl,K.o,j.o⟩
  have d:Hid (sX s=([],0,ckF o)):=by show _=_;rw[m.o];simp[hc]
  have e2:(ckF o !=0)=true:=by simpa using hc
  clear hc
  go_wp2_with fail
  go_ret3
  rw[d.o];exact⟨none,0,rfl,Nds.none _ _,j.o⟩
 obtain rfl:b=1:=hb1
 obtain rfl:o=[]:=ho
 have d:Hid (sX s=([],a,1)):=by show _=_;rw[m.o];simp
 go_wp2_with fail
 go_ret3
 rw[d.o];exact⟨none,0,rfl,Nds.none _ _,J.o⟩


end
end Go.Proofs.YtoglgeaiiipchaaGreatDoor
