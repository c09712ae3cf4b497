import Derived.Test.YtoglgeaiiipchaaGreatDoorLRY2
import Derived.RangeFuncRecord
import Derived.Deep.Cut
import Derived.RegionTactic
import Derived.ChangeAlike
set_option linter.unusedSimpArgs false
set_option linter.unusedVariables false
set_option maxRecDepth 100000
set_option maxHeartbeats 8000000
namespace Go.Proofs.YtoglgeaiiipchaaGreatDoor
section
open Go Go.RowKit Go.Sort
structure nL (W:World) (lo:Nat) (a:Au) (A B C:Option Addr) (ca cb cc:Nat):Prop where
 f:W.ownsRow lo 3 1 (.slice A a.fs.length ca) a.fs.length (a.fs.flatMap viL)
 g:W.ownsRow lo 4 1 (.slice B a.gs.length cb) a.gs.length (a.gs.flatMap vbL)
 s:W.ownsRow lo 80 3 (.slice C a.ss.length cc) a.ss.length (a.ss.flatMap Stp.cells)
section
variable {W W':World} {lo lo':Nat} {a:Au} {A B C:Option Addr} {ca cb cc:Nat}
theorem nL.on (h:nL W lo a A B C ca cb cc) (d:Below W W W'):nL W' lo a A B C ca cb cc:=⟨zD h.f d,zD h.g d,zD h.s d⟩
theorem nL.low (h:nL W lo a A B C ca cb cc) (d:lo'<=lo):nL W lo' a A B C ca cb cc:=⟨fD h.f d,fD h.g d,fD h.s d⟩
theorem nL.rd (h:nL W lo a A B C ca cb cc) (j:a.fs.length*8<=140737488351232) (m:a.gs.length*1<=140737488351232) (u:a.ss.length*24<=140737488351232):zM W lo a A B C ca cb cc:=by
 obtain⟨O,c1,d,J⟩:=SlE.of_own (enc:=viL) (bt:=8) h.f j;obtain⟨U,c2,e,K⟩:=SlE.of_own (enc:=vbL) (bt:=1) h.g m;obtain⟨A3,c3,i,N⟩:=SlE.of_own (enc:=Stp.cells) (bt:=24) h.s u
 simp only[Value.slice.injEq] at d e i;obtain⟨rfl,_,rfl⟩:=d;obtain⟨rfl,_,rfl⟩:=e;obtain⟨rfl,_,rfl⟩:=i;exact⟨J,K,N⟩
end
theorem lI {α:Type} {enc:α->List Value} {sz bytes:Nat} {t e:TypeId} {W:World} {i:TypeInfo} {z:Value} (ht:Tryz.prog.underlying t=some (.slice e)) (hi:Tryz.prog.info? e=some i) (hz:i.zero=some z)
  (d:i.size=sz) (s:i.bytes=bytes) (K:z.cells.size=sz) (J:0<sz) (hl:∀x,(enc x).length=sz) (U:∀x,∀u∈enc x,u.oneCell'=true)
  {lo:Nat} {A:Option Addr} {c:Nat} {xs:List α} (h:SlE enc bytes W lo A c xs) (m:1<=bytes):
  ∃T j w',(Builtin.append_ #[t,t] t #[.slice (some ⟨W,0,none⟩) 0 0,.slice A xs.length c]).run Tryz.prog (W.alloc (.cells #[] e))=.ok (.slice T xs.length j) w'/\
   w'.ownsRow W.heap.size e sz (.slice T xs.length j) xs.length (xs.flatMap enc)/\Below W W w':=by
 have g:Below W W (W.alloc (.cells #[] e)):=bLa
 have hm:=h.max;have O:xs.length<=xs.length*bytes:=Nat.le_mul_of_pos_right _ m
 obtain⟨v',w',r1,N,r3,_⟩:=jC (P:=Tryz.prog) (W.alloc (.cells #[] e)) W.heap.size t t e i z sz bytes ht hi hz d s K J (.slice (some ⟨W,0,none⟩) 0 0) 0 [] (wP e sz nLe) A xs.length c (xs.flatMap enc) (zN hl xs)
  ((h.rd.below g nLe).low (Nat.zero_le _)) (fun u hu=>by
   obtain⟨x,_,hx⟩:=List.mem_flatMap.1 hu;exact U x u hx) (by unfold maxLen;omega) (by rw[Nat.zero_add];omega) (by simp)
 rw[Nat.zero_add,List.nil_append] at N;obtain⟨T,j,rfl,_⟩:=zF N
 exact⟨T,j,w',r1,N,g.grown r3 (by simp) fun k hk=>by
  have:W.heap.size=k:=by simpa[Value.ownBlock] using hk
  omega⟩
theorem zES {W:World} {lo:Nat} {A:Option Addr} {c:Nat} {xs:List Int} (h:zE W lo A c xs):
  ∃T j w',(Builtin.append_ #[22,22] 22 #[.slice (some ⟨W,0,none⟩) 0 0,.slice A xs.length c]).run Tryz.prog (W.alloc (.cells #[] 3))=.ok (.slice T xs.length j) w'/\
   w'.ownsRow W.heap.size 3 1 (.slice T xs.length j) xs.length (xs.flatMap viL)/\Below W W w':=by
 obtain⟨s,d,e,g,i⟩:=info_parts qX;exact lI Tryz.underlying22 d e g i rfl (by decide) (fun _=>rfl) (fun x u m=>by rw[List.mem_singleton.1 m];rfl) h (by decide)
theorem zC9 {W:World} {lo:Nat} {A:Option Addr} {c:Nat} {xs:List Bool} (h:xG W lo A c xs):
  ∃T j w',(Builtin.append_ #[28,28] 28 #[.slice (some ⟨W,0,none⟩) 0 0,.slice A xs.length c]).run Tryz.prog (W.alloc (.cells #[] 4))=.ok (.slice T xs.length j) w'/\
   w'.ownsRow W.heap.size 4 1 (.slice T xs.length j) xs.length (xs.flatMap vbL)/\Below W W w':=by
 obtain⟨s,d,e,g,i⟩:=info_parts fV;exact lI Tryz.underlying28 d e g i rfl (by decide) (fun _=>rfl) (fun x u m=>by rw[List.mem_singleton.1 m];rfl) h (by decide)
theorem zFI {W:World} {lo:Nat} {A:Option Addr} {c:Nat} {xs:List Stp} (h:jZ W lo A c xs):
  ∃T j w',(Builtin.append_ #[29,29] 29 #[.slice (some ⟨W,0,none⟩) 0 0,.slice A xs.length c]).run Tryz.prog (W.alloc (.cells #[] 80))=.ok (.slice T xs.length j) w'/\
   w'.ownsRow W.heap.size 80 3 (.slice T xs.length j) xs.length (xs.flatMap Stp.cells)/\Below W W w':=by
 obtain⟨s,d,e,g,i⟩:=info_parts rN
 exact lI Tryz.underlying29 d e g i rfl (by decide) (fun _=>rfl) (fun x u m=>by
  simp only[Stp.cells,List.mem_cons,List.not_mem_nil,or_false] at m
  rcases m with rfl|rfl|rfl<;>rfl) h (by decide)
theorem zG9 {W:World} {lo:Nat} {A:Option Addr} {c:Nat} {xs:List Nd} (h:Nds W lo A c xs):
  ∃T j w',(Builtin.append_ #[42,42] 42 #[.slice (some ⟨W,0,none⟩) 0 0,.slice A xs.length c]).run Tryz.prog (W.alloc (.cells #[] 63))=.ok (.slice T xs.length j) w'/\
   w'.ownsRow W.heap.size 63 4 (.slice T xs.length j) xs.length (xs.flatMap Nd.cells)/\Below W W w':=by
 obtain⟨s,d,e,g,i⟩:=info_parts zBJ
 exact lI Tryz.underlying42 d e g i rfl (by decide) (fun _=>rfl) (fun x u m=>by
  simp only[Nd.cells,List.mem_cons,List.not_mem_nil,or_false] at m
  rcases m with rfl|rfl|rfl|rfl<;>rfl) h (by decide)
theorem xU {W:World} {lo:Nat} {e:TypeId} {sz n V i:Nat} {v u:Value} {xs:List Value} (h:W.ownsRow lo e sz v n xs) (d:V<lo):(W.setCell ⟨V,i,none⟩ u).ownsRow lo e sz v n xs:=
 World.ownsRow.kept h (yQ W V i u) (.inr (fun e=>(rE h d) e.symm))
def zF7 (w:World) (a:Au) (e:Ending) (w':World):Prop:=∃A B C ca cb cc,e=.returned (.agg #[a.st,a.le,.slice A a.fs.length ca,.slice B a.gs.length cb,.slice C a.ss.length cc])/\nL w' w.heap.size a A B C ca cb cc/\Below w w w'
structure CpM (w:World) (V:Nat) (a:Au) (A B C:Option Addr) (ca cb cc:Nat) (fv gv sv:Value) (W:World):Prop where
 lt:V+1<W.heap.size
 obj:W.heap[V]?=some (.cells #[a.st,a.le,fv,gv,sv] 31 (0,0))
 res:W.heap[V+1]?=some (.cells #[(0:Int),(0:Int),(),(),()] 31 (0,0))
 below:Below V w W
 rd:zM w 0 a A B C ca cb cc
 vs:V=w.heap.size
section
variable {w W W':World} {V:Nat} {a:Au} {A B C:Option Addr} {ca cb cc:Nat} {fv gv sv:Value}
theorem CpM.on (h:CpM w V a A B C ca cb cc fv gv sv W) (d:Below W W W'):CpM w V a A B C ca cb cc fv gv sv W':=
 ⟨Nat.lt_of_lt_of_le h.lt d.size,(d.block V (Nat.lt_of_succ_lt h.lt)).trans h.obj,(d.block (V+1) h.lt).trans h.res,zA h.below d (Nat.le_of_lt (Nat.lt_of_succ_lt h.lt)),h.rd,h.vs⟩
theorem CpM.rdW (h:CpM w V a A B C ca cb cc fv gv sv W):zM W 0 a A B C ca cb cc:=h.rd.below (by rw[<-h.vs];exact h.below)
theorem CpM.set (h:CpM w V a A B C ca cb cc fv gv sv W) (i:Nat) (u:Value) {d e g:Value} (m:(#[.int .i64 a.st,.int .i64 a.le,fv,gv,sv]:Array Value).setIfInBounds i u=#[.int .i64 a.st,.int .i64 a.le,d,e,g]):CpM w V a A B C ca cb cc d e g (W.setCell ⟨V,i,none⟩ u):=by
 refine⟨by simpa[World.setCell] using h.lt,?_,?_,h.below.setCell (p:=⟨V,i,none⟩) nLe _,h.rd,h.vs⟩
 ·have j:=h.obj
  simp only[World.setCell,Array.getElem?_modify,↓reduceIte,j,Option.map_some];rw[<-m];rfl
 exact(Below.heap_setCell _ ⟨V,i,none⟩ _ _ (by simp)).trans h.res
end
theorem zEr (a:Au) (A B C:Option Addr) (ca cb cc:Nat) (w:World) (hr:zM w 0 a A B C ca cb cc):
  Calls Tryz.prog 18 #[.agg #[a.st,a.le,.slice A a.fs.length ca,.slice B a.gs.length cb,.slice C a.ss.length cc]] w (zF7 w a):=by
 have d:Hid (CpM w w.heap.size a A B C ca cb cc (.slice A a.fs.length ca) (.slice B a.gs.length cb) (.slice C a.ss.length cc) ((w.alloc (.cells #[a.st,a.le,.slice A a.fs.length ca,.slice B a.gs.length cb,.slice C a.ss.length cc] 31)).alloc (.cells #[(0:Int),(0:Int),(),(),()] 31))):=
  ⟨by simp,(Below.heap_alloc _ _ _ (by simp)).trans (World.alloc_heap_new _ _),by
   have:=World.alloc_heap_new (w.alloc (.cells #[a.st,a.le,.slice A a.fs.length ca,.slice B a.gs.length cb,.slice C a.ss.length cc] 31)) (.cells #[(0:Int),(0:Int),(),(),()] 31)
   simpa using this,(bLa).alloc (by simp) _,hr,rfl⟩
 clear hr
 go_enter Tryz.func18,Tryz.ntmps18
 go_upto_region 1 with fail
 obtain⟨V,hV⟩:∃V,V=w.heap.size:=⟨_,rfl⟩;rw[<-hV] at d ⊢;clear hV
 generalize (w.alloc (.cells #[a.st,a.le,.slice A a.fs.length ca,.slice B a.gs.length cb,.slice C a.ss.length cc] 31)).alloc (.cells #[(0:Int),(0:Int),(),(),()] 31)=W0 at *
 obtain⟨i,m,w1,h2,U,h6⟩:=zES d.o.rdW.fs;have HR:=hId h2;have h8:=hId U;have u:=hId ((d.o.on h6).set 2 (.slice i a.fs.length m) rfl)
 obtain⟨_,_,p2,p3,p4,_⟩:=zZ (d.o.on ((Below.refl _ W0).alloc nLe (.cells #[] 3))).obj;obtain⟨_,_,q2,q3,q4,_,_,f2,f3,f4⟩:=zZ (d.o.on h6).obj
 have g:Hid (W0.heap.size<=w1.heap.size/\V+1<W0.heap.size):=⟨h6.size,d.o.lt⟩
 clear h2 U h6 d
 go_upto_region 2 with(at_builtin;refine zQ rfl (.tmp 3) (.tmp 5) _ _ rfl _ _ _ rfl rfl HR.o ?_)
 have HK1:Hid ((w1.setCell ⟨V,2,none⟩ (.slice i a.fs.length m)).ownsRow W0.heap.size 3 1 (.slice i a.fs.length m) a.fs.length (a.fs.flatMap viL)):=xU h8.o (by have:=g.o.2;omega)
 have HZ1:Hid (W0.heap.size<=(w1.setCell ⟨V,2,none⟩ (.slice i a.fs.length m)).heap.size):=by have:=g.o.1;show _<=_;simpa[World.setCell] using this
 generalize w1.setCell ⟨V,2,none⟩ (.slice i a.fs.length m)=W1 at *;clear HR h8 p2 p3 p4 q2 q3 q4 f2 f3 f4;have d:=u;clear u;obtain⟨j,s,w2,h3,h0,N⟩:=zC9 d.o.rdW.gs;have HR:=hId h3;have h9:=hId h0
 have u:=hId ((d.o.on N).set 3 (.slice j a.gs.length s) rfl);obtain⟨_,_,p2,p3,p4,_⟩:=zZ (d.o.on ((Below.refl _ W1).alloc nLe (.cells #[] 4))).obj;obtain⟨_,_,q2,q3,q4,_,_,f2,f3,f4⟩:=zZ (d.o.on N).obj
 have HB2:=hId N;have h5:Hid (W1.heap.size<=w2.heap.size/\V+1<W1.heap.size):=⟨N.size,d.o.lt⟩;clear h3 h0 N d
 go_upto_region 3 with(at_builtin;refine zQ rfl (.tmp 8) (.tmp 10) _ _ rfl _ _ _ rfl rfl HR.o ?_)
 have h7:Hid ((w2.setCell ⟨V,3,none⟩ (.slice j a.gs.length s)).ownsRow W0.heap.size 3 1 (.slice i a.fs.length m) a.fs.length (a.fs.flatMap viL)):=xU (zD HK1.o HB2.o) (by have:=g.o.2;omega)
 have HK2:Hid ((w2.setCell ⟨V,3,none⟩ (.slice j a.gs.length s)).ownsRow W1.heap.size 4 1 (.slice j a.gs.length s) a.gs.length (a.gs.flatMap vbL)):=xU h9.o (by have:=h5.o.2;omega)
 have HZ2:Hid (W1.heap.size<=(w2.setCell ⟨V,3,none⟩ (.slice j a.gs.length s)).heap.size):=by have:=h5.o.1;show _<=_;simpa[World.setCell] using this
 generalize w2.setCell ⟨V,3,none⟩ (.slice j a.gs.length s)=W2 at *;clear HR h9 p2 p3 p4 q2 q3 q4 f2 f3 f4 HK1 HB2;have d:=u;clear u;obtain⟨J,K,w3,h4,h1,O⟩:=zFI d.o.rdW.ss;have HR:=hId h4;have ha:=hId h1
 have u:=hId ((d.o.on O).set 4 (.slice J a.ss.length K) rfl);obtain⟨_,_,p2,p3,p4,_⟩:=zZ (d.o.on ((Below.refl _ W2).alloc nLe (.cells #[] 80))).obj;obtain⟨_,_,q2,q3,q4,_,_,f2,f3,f4⟩:=zZ (d.o.on O).obj
 have HB3:=hId O;have HS3:Hid (W2.heap.size<=w3.heap.size/\V+1<W2.heap.size):=⟨O.size,d.o.lt⟩;clear h4 h1 O d
 go_upto_region 4 with(at_builtin;refine zQ rfl (.tmp 13) (.tmp 15) _ _ rfl _ _ _ rfl rfl HR.o ?_)
 have HQ1:Hid ((w3.setCell ⟨V,4,none⟩ (.slice J a.ss.length K)).ownsRow W0.heap.size 3 1 (.slice i a.fs.length m) a.fs.length (a.fs.flatMap viL)):=xU (zD h7.o HB3.o) (by have:=g.o.2;omega)
 have HQ2:Hid ((w3.setCell ⟨V,4,none⟩ (.slice J a.ss.length K)).ownsRow W1.heap.size 4 1 (.slice j a.gs.length s) a.gs.length (a.gs.flatMap vbL)):=xU (zD HK2.o HB3.o) (by have:=h5.o.2;omega)
 have HQ3:Hid ((w3.setCell ⟨V,4,none⟩ (.slice J a.ss.length K)).ownsRow W2.heap.size 80 3 (.slice J a.ss.length K) a.ss.length (a.ss.flatMap Stp.cells)):=xU ha.o (by have:=HS3.o.2;omega)
 generalize w3.setCell ⟨V,4,none⟩ (.slice J a.ss.length K)=W3 at *;clear HR ha p2 p3 p4 q2 q3 q4 f2 f3 f4 h7 HK2 HB3;obtain⟨y0,y1,y2,y3,y4,_⟩:=zZ u.o.obj;obtain⟨x0,x1,x2,x3,x4,g0,g1,g2,g3,g4⟩:=zZ u.o.res
 have HOO:=hId (zW u.o.res a.st a.le (.slice i a.fs.length m) (.slice j a.gs.length s) (.slice J a.ss.length K))
 have HP:Hid (zF7 w a (.returned (.agg #[a.st,a.le,.slice i a.fs.length m,.slice j a.gs.length s,.slice J a.ss.length K])) (set5 W3 (V+1) a.st a.le (.slice i a.fs.length m) (.slice j a.gs.length s) (.slice J a.ss.length K))):=by
  have k0:=u.o.vs;have k1:=g.o.2;have k2:=HZ1.o;have k3:=HZ2.o
  have hs5:∀{lo:Nat} {e:TypeId} {sz n:Nat} {v:Value} {xs:List Value},W3.ownsRow lo e sz v n xs->V+1<lo->(set5 W3 (V+1) a.st a.le (.slice i a.fs.length m) (.slice j a.gs.length s) (.slice J a.ss.length K)).ownsRow lo e sz v n xs:=fun h hV=>
   xU (xU (xU (xU (xU h hV) hV) hV) hV) hV
  exact⟨i,j,J,m,s,K,rfl,⟨fD (hs5 HQ1.o k1) (by omega),fD (hs5 HQ2.o (by omega)) (by omega),fD (hs5 HQ3.o (by omega)) (by omega)⟩,zS (by rw[<-k0];exact u.o.below) (by omega) _ _ _ _ _⟩
 clear HQ1 HQ2 HQ3 g h5 HS3 HZ1 HZ2
 go_wp2_with fail
 exact bodyPost_ret (zEm Tryz.results18 _ _ (V+1) rfl HOO.o) rfl HP.o
theorem ff {P:Prop} (h:false=true):P:=by cases h
def raDrop:Nat->Code->Code
 |0,c=>c
 |n+1,.seq _ b=>raDrop n b
 |_+1,c=>c
def zL:Code->Code
 | .seq a _=>a
 |c=>c
noncomputable def raC (n:Nat):Code:=raDrop n (Tryz.f4.body.getD .skip)
structure Ad where
 (A B C D E F G K FA:Option Addr)
 (ca cb cc cd ce cf cg ck fc:Nat)
def raF (V:Nat) (g3 v9 v10 v11 v12 v13 v14:Value) (u:Nat->Value):Array Value:=#[u 0,u 1,u 2,g3,.pointer (some ⟨V,0,none⟩),.pointer (some ⟨V+1,0,none⟩),.pointer (some ⟨V+2,0,none⟩),u 7,.bool false,v9,v10,v11,v12,v13,v14,u 15,u 16,u 17,u 18,u 19,u 20,u 21,u 22,u 23,u 24,u 25,u 26,u 27,u 28,u 29,u 30,u 31,u 32,u 33,u 34,u 35,u 36,u 37,u 38,u 39,u 40,u 41,u 42,u 43,u 44,u 45,u 46,u 47,u 48,u 49,u 50,u 51,u 52,u 53,u 54,u 55,u 56,u 57,u 58,u 59,u 60,u 61,u 62,u 63,u 64,u 65,u 66,u 67,u 68,u 69,u 70,u 71,u 72,u 73,u 74,u 75,u 76,u 77,u 78,u 79,u 80,u 81,u 82,u 83,u 84,u 85,u 86,u 87,u 88,u 89,u 90,u 91,u 92,u 93,u 94,u 95,u 96,u 97,u 98,u 99,u 100,u 101,u 102,u 103,u 104,u 105,u 106,u 107,u 108,u 109,u 110,u 111,u 112,u 113,u 114,u 115,u 116,u 117,u 118,u 119,u 120,u 121,u 122,u 123,u 124,u 125,u 126,u 127,u 128,u 129,u 130,u 131,u 132,u 133,u 134,u 135,u 136,u 137,u 138,u 139,u 140,u 141,u 142,u 143,u 144,u 145,u 146,u 147,u 148,u 149,u 150,u 151,u 152,u 153,u 154,u 155,u 156,u 157,u 158,u 159,u 160,u 161,u 162,u 163,u 164,u 165,u 166,u 167,u 168,u 169,u 170,u 171,u 172,u 173,u 174,u 175,u 176,u 177,u 178,u 179,u 180,u 181,u 182,u 183,u 184,u 185,u 186,u 187,u 188,u 189,u 190,u 191,u 192,u 193,u 194,u 195,u 196,u 197,u 198,u 199,u 200,u 201,u 202,u 203,u 204,u 205,u 206,u 207,u 208,u 209,u 210,u 211,u 212,u 213,u 214,u 215,u 216]
def RaP (V:Nat) (g3 v9 v10 v11 v12 v13 v14:Value) (a:Act):Prop:=∃u:Nat->Value,a={tmps:=raF V g3 v9 v10 v11 v12 v13 v14 u,defers:=[]}
theorem RaP.mk {V:Nat} {g3 v9 v10 v11 v12 v13 v14:Value} {a:Act} (h:a={tmps:=raF V g3 v9 v10 v11 v12 v13 v14 (fun i=>a.tmps.getD i undef),defers:=[]}):RaP V g3 v9 v10 v11 v12 v13 v14 a:=⟨_,h⟩
def r3F (V:Nat) (g3 v9 v10 v11 v12 v13 v14 v58 v59 v60 v61:Value) (u:Nat->Value):Array Value:=#[u 0,u 1,u 2,g3,.pointer (some ⟨V,0,none⟩),.pointer (some ⟨V+1,0,none⟩),.pointer (some ⟨V+2,0,none⟩),u 7,.bool false,v9,v10,v11,v12,v13,v14,u 15,u 16,u 17,u 18,u 19,u 20,u 21,u 22,u 23,u 24,u 25,u 26,u 27,u 28,u 29,u 30,u 31,u 32,u 33,u 34,u 35,u 36,u 37,u 38,u 39,u 40,u 41,u 42,u 43,u 44,u 45,u 46,u 47,u 48,u 49,u 50,u 51,u 52,u 53,u 54,u 55,u 56,u 57,v58,v59,v60,v61,u 62,u 63,u 64,u 65,u 66,u 67,u 68,u 69,u 70,u 71,u 72,u 73,u 74,u 75,u 76,u 77,u 78,u 79,u 80,u 81,u 82,u 83,u 84,u 85,u 86,u 87,u 88,u 89,u 90,u 91,u 92,u 93,u 94,u 95,u 96,u 97,u 98,u 99,u 100,u 101,u 102,u 103,u 104,u 105,u 106,u 107,u 108,u 109,u 110,u 111,u 112,u 113,u 114,u 115,u 116,u 117,u 118,u 119,u 120,u 121,u 122,u 123,u 124,u 125,u 126,u 127,u 128,u 129,u 130,u 131,u 132,u 133,u 134,u 135,u 136,u 137,u 138,u 139,u 140,u 141,u 142,u 143,u 144,u 145,u 146,u 147,u 148,u 149,u 150,u 151,u 152,u 153,u 154,u 155,u 156,u 157,u 158,u 159,u 160,u 161,u 162,u 163,u 164,u 165,u 166,u 167,u 168,u 169,u 170,u 171,u 172,u 173,u 174,u 175,u 176,u 177,u 178,u 179,u 180,u 181,u 182,u 183,u 184,u 185,u 186,u 187,u 188,u 189,u 190,u 191,u 192,u 193,u 194,u 195,u 196,u 197,u 198,u 199,u 200,u 201,u 202,u 203,u 204,u 205,u 206,u 207,u 208,u 209,u 210,u 211,u 212,u 213,u 214,u 215,u 216]
def r4F (V:Nat) (g3 v9 v10 v11 v12 v13 v14 v62 v63 v64 v65 v66 v67 v68 v69 v70:Value) (u:Nat->Value):Array Value:=#[u 0,u 1,u 2,g3,.pointer (some ⟨V,0,none⟩),.pointer (some ⟨V+1,0,none⟩),.pointer (some ⟨V+2,0,none⟩),u 7,.bool false,v9,v10,v11,v12,v13,v14,u 15,u 16,u 17,u 18,u 19,u 20,u 21,u 22,u 23,u 24,u 25,u 26,u 27,u 28,u 29,u 30,u 31,u 32,u 33,u 34,u 35,u 36,u 37,u 38,u 39,u 40,u 41,u 42,u 43,u 44,u 45,u 46,u 47,u 48,u 49,u 50,u 51,u 52,u 53,u 54,u 55,u 56,u 57,u 58,u 59,u 60,u 61,v62,v63,v64,v65,v66,v67,v68,v69,v70,u 71,u 72,u 73,u 74,u 75,u 76,u 77,u 78,u 79,u 80,u 81,u 82,u 83,u 84,u 85,u 86,u 87,u 88,u 89,u 90,u 91,u 92,u 93,u 94,u 95,u 96,u 97,u 98,u 99,u 100,u 101,u 102,u 103,u 104,u 105,u 106,u 107,u 108,u 109,u 110,u 111,u 112,u 113,u 114,u 115,u 116,u 117,u 118,u 119,u 120,u 121,u 122,u 123,u 124,u 125,u 126,u 127,u 128,u 129,u 130,u 131,u 132,u 133,u 134,u 135,u 136,u 137,u 138,u 139,u 140,u 141,u 142,u 143,u 144,u 145,u 146,u 147,u 148,u 149,u 150,u 151,u 152,u 153,u 154,u 155,u 156,u 157,u 158,u 159,u 160,u 161,u 162,u 163,u 164,u 165,u 166,u 167,u 168,u 169,u 170,u 171,u 172,u 173,u 174,u 175,u 176,u 177,u 178,u 179,u 180,u 181,u 182,u 183,u 184,u 185,u 186,u 187,u 188,u 189,u 190,u 191,u 192,u 193,u 194,u 195,u 196,u 197,u 198,u 199,u 200,u 201,u 202,u 203,u 204,u 205,u 206,u 207,u 208,u 209,u 210,u 211,u 212,u 213,u 214,u 215,u 216]
structure RaE (a b:Au) (l:La) (f:List Nd) (p:Ad) (V:Nat) (W:World):Prop where
 aa:yG W V a p.A p.B p.C p.ca p.cb p.cc
 ab:yG W (V+1) b p.D p.E p.F p.cd p.ce p.cf
 al:W.heap[V+2]?=some (.cells #[.slice p.G l.h.length p.cg,.slice p.K l.l.length p.ck] 27 (0,0))
 ra:zM W 0 a p.A p.B p.C p.ca p.cb p.cc
 rb:zM W 0 b p.D p.E p.F p.cd p.ce p.cf
 lh:zE W 0 p.G p.cg l.h
 ll:zE W 0 p.K p.ck l.l
 fr:Nds W 0 p.FA p.fc f
section
variable {a b:Au} {l:La} {f:List Nd} {p:Ad} {V:Nat} {W W':World}
theorem RaE.on (h:RaE a b l f p V W) (d:Below W W W'):RaE a b l f p V W':=
 ⟨h.aa.below d h.aa.lt,h.ab.below d h.ab.lt,(d.block _ (gLt h.al)).trans h.al,h.ra.below d,h.rb.below d,h.lh.below d,h.ll.below d,h.fr.below d⟩
end
theorem wY {W:World} {X:Nat} {p:Au} {A B C:Option Addr} {ca cb cc:Nat} (h:W.heap[X]?=some (.cells #[p.st,p.le,.slice A p.fs.length ca,.slice B p.gs.length cb,.slice C p.ss.length cc] 31 (0,0))):yG W X p A B C ca cb cc:=by
 obtain⟨d,e,g,i,j,_⟩:=zZ h;exact⟨(gLt h),d,e,g,i,j⟩
theorem zDu (W:World) (g:Nat) (d e h i j:Value):W.grownBy (set5 W g d e h i j) (some g):=
 zO (zO (zO (zO (yQ W g 0 d) (yQ _ g 1 e)) (yQ _ g 2 h)) (yQ _ g 3 i)) (yQ _ g 4 j)
theorem nP {W:World} {B:Nat} {e t:TypeId} {sz n g:Nat} {v:Value} {xs:List Value} {cs:Array Value} {m:Nat×Nat} (d:W.ownsRow B e sz v n xs) (J:W.heap[g]?=some (.cells cs t m)) (K:t≠e) (h i j s u:Value):(set5 W g h i j s u).ownsRow B e sz v n xs:=
 World.ownsRow.kept d (zDu W g h i j s u) (.inr (wG d J K))
theorem nL.set5 {W:World} {lo g:Nat} {a:Au} {A B C:Option Addr} {ca cb cc:Nat} {cs:Array Value} {m:Nat×Nat} (h:nL W lo a A B C ca cb cc) (d:W.heap[g]?=some (.cells cs 31 m)) (e i j u J:Value):nL (set5 W g e i j u J) lo a A B C ca cb cc:=
 ⟨nP h.f d (by decide) _ _ _ _ _,nP h.g d (by decide) _ _ _ _ _,nP h.s d (by decide) _ _ _ _ _⟩
structure R3I (W0:World) (a b:Au) (b1 b3 b4 b5 b6 b7:Bool) (A B C:Option Addr) (ca cb cc:Nat) (D E F:Option Addr) (cd ce cf:Nat) (X Y:Nat) (W:World):Prop where
 below:Below W0 W0 W
 ra:b1=true->nL W W0.heap.size a A B C ca cb cc
 rb:b3=true->nL W W0.heap.size b D E F cd ce cf
 x:b4=true->W0.heap.size<=X/\W.heap[X]?=some (.cells (if b6=true then #[a.st,a.le,.slice A a.fs.length ca,.slice B a.gs.length cb,.slice C a.ss.length cc] else #[(0:Int),(0:Int),(),(),()]) 31 (0,0))
 y:b5=true->W0.heap.size<=Y/\W.heap[Y]?=some (.cells (if b7=true then #[b.st,b.le,.slice D b.fs.length cd,.slice E b.gs.length ce,.slice F b.ss.length cf] else #[(0:Int),(0:Int),(),(),()]) 31 (0,0))
 xy:b4=true->b5=true->X≠Y
 h61:b6=true->b1=true
 h73:b7=true->b3=true
 h64:b6=true->b4=true
 h75:b7=true->b5=true
section
variable {W0 W W':World} {a b:Au} {b1 b3 b4 b5 b6 b7:Bool} {A B C:Option Addr} {ca cb cc:Nat} {D E F:Option Addr} {cd ce cf:Nat} {X Y:Nat}
theorem R3I.on (h:R3I W0 a b b1 b3 b4 b5 b6 b7 A B C ca cb cc D E F cd ce cf X Y W) (d:Below W W W'):R3I W0 a b b1 b3 b4 b5 b6 b7 A B C ca cb cc D E F cd ce cf X Y W':=
 ⟨zA h.below d h.below.size,fun e=>(h.ra e).on d,fun e=>(h.rb e).on d,fun e=>⟨(h.x e).1,(d.block _ (Array.getElem?_eq_some_iff.1 (h.x e).2).1).trans (h.x e).2⟩,fun e=>⟨(h.y e).1,(d.block _ (Array.getElem?_eq_some_iff.1 (h.y e).2).1).trans (h.y e).2⟩,h.xy,h.h61,h.h73,h.h64,h.h75⟩
theorem R3I.callA {m s u:Option Addr} {g i j:Nat} (h:R3I W0 a b false b3 b4 b5 b6 b7 A B C ca cb cc D E F cd ce cf X Y W) (K:Below W W W') (N:nL W' W.heap.size a m s u g i j):R3I W0 a b true b3 b4 b5 b6 b7 m s u g i j D E F cd ce cf X Y W':=by
 have d:=h.on K;have J:b6=false:=by cases e:b6 with|false=>rfl|true=>exact absurd (h.h61 e) (by decide)
 subst J;exact⟨d.below,fun _=>N.low h.below.size,d.rb,d.x,d.y,d.xy,ff,d.h73,d.h64,d.h75⟩
theorem R3I.callB {m s u:Option Addr} {g i j:Nat} (h:R3I W0 a b b1 false b4 b5 b6 b7 A B C ca cb cc D E F cd ce cf X Y W) (K:Below W W W') (N:nL W' W.heap.size b m s u g i j):R3I W0 a b b1 true b4 b5 b6 b7 A B C ca cb cc m s u g i j X Y W':=by
 have d:=h.on K;have J:b7=false:=by cases e:b7 with|false=>rfl|true=>exact absurd (h.h73 e) (by decide)
 subst J;exact⟨d.below,d.ra,fun _=>N.low h.below.size,d.x,d.y,d.xy,d.h61,ff,d.h64,d.h75⟩
theorem R3I.newA (h:R3I W0 a b b1 b3 false b5 b6 b7 A B C ca cb cc D E F cd ce cf X Y W):R3I W0 a b b1 b3 true b5 b6 b7 A B C ca cb cc D E F cd ce cf W.heap.size Y (W.alloc (.cells #[(0:Int),(0:Int),(),(),()] 31)):=by
 have d:=h.on (bRf.alloc nLe (.cells #[.int .i64 0,.int .i64 0,.slice none 0 0,.slice none 0 0,.slice none 0 0] 31));have g:b6=false:=by cases e:b6 with|false=>rfl|true=>exact absurd (h.h64 e) (by decide)
 subst g;exact⟨d.below,d.ra,d.rb,fun _=>⟨h.below.size,World.alloc_heap_new _ _⟩,d.y,fun _ e=>by have:=(Array.getElem?_eq_some_iff.1 (h.y e).2).1;omega,d.h61,d.h73,ff,d.h75⟩
theorem R3I.newB (h:R3I W0 a b b1 b3 b4 false b6 b7 A B C ca cb cc D E F cd ce cf X Y W):R3I W0 a b b1 b3 b4 true b6 b7 A B C ca cb cc D E F cd ce cf X W.heap.size (W.alloc (.cells #[(0:Int),(0:Int),(),(),()] 31)):=by
 have d:=h.on (bRf.alloc nLe (.cells #[.int .i64 0,.int .i64 0,.slice none 0 0,.slice none 0 0,.slice none 0 0] 31));have g:b7=false:=by cases e:b7 with|false=>rfl|true=>exact absurd (h.h75 e) (by decide)
 subst g;exact⟨d.below,d.ra,d.rb,d.x,fun _=>⟨h.below.size,World.alloc_heap_new _ _⟩,fun e _=>by have:=(Array.getElem?_eq_some_iff.1 (h.x e).2).1;omega,d.h61,d.h73,d.h64,ff⟩
theorem R3I.stoA (h:R3I W0 a b true b3 true b5 false b7 A B C ca cb cc D E F cd ce cf X Y W):R3I W0 a b true b3 true b5 true b7 A B C ca cb cc D E F cd ce cf X Y (set5 W X a.st a.le (.slice A a.fs.length ca) (.slice B a.gs.length cb) (.slice C a.ss.length cc)):=by
 have d:=(h.x rfl).2;rw[if_neg (by decide)] at d
 exact⟨zS h.below (h.x rfl).1 _ _ _ _ _,fun e=>(h.ra e).set5 d _ _ _ _ _,fun e=>(h.rb e).set5 d _ _ _ _ _,fun _=>⟨(h.x rfl).1,by rw[if_pos rfl];exact zW d _ _ _ _ _⟩,fun e=>⟨(h.y e).1,(pB _ _ _ _ _ _ _ (fun g=>h.xy rfl e g.symm)).trans (h.y e).2⟩,h.xy,fun _=>rfl,h.h73,fun _=>rfl,h.h75⟩
theorem R3I.stoB (h:R3I W0 a b b1 true b4 true b6 false A B C ca cb cc D E F cd ce cf X Y W):R3I W0 a b b1 true b4 true b6 true A B C ca cb cc D E F cd ce cf X Y (set5 W Y b.st b.le (.slice D b.fs.length cd) (.slice E b.gs.length ce) (.slice F b.ss.length cf)):=by
 have d:=(h.y rfl).2;rw[if_neg (by decide)] at d
 exact⟨zS h.below (h.y rfl).1 _ _ _ _ _,fun e=>(h.ra e).set5 d _ _ _ _ _,fun e=>(h.rb e).set5 d _ _ _ _ _,fun e=>⟨(h.x e).1,(pB _ _ _ _ _ _ _ (fun g=>h.xy e rfl g)).trans (h.x e).2⟩,fun _=>⟨(h.y rfl).1,by rw[if_pos rfl];exact zW d _ _ _ _ _⟩,h.xy,h.h61,fun _=>rfl,h.h64,fun _=>rfl⟩
end
def R3J (V:Nat) (g3 v11 v12 v13 v14:Value) (W0:World) (a b:Au) (p:Ad) (listed:Array Bool) (ac:Act) (W:World):Prop:=
 ∃(b0 b1 b2 b3 b4 b5 b6 b7:Bool) (v58 v59 v60 v61 v9 v10:Value) (u:Nat->Value) (A B C:Option Addr) (ca cb cc:Nat) (D E F:Option Addr) (cd ce cf:Nat) (X Y:Nat),
  listed=#[b0,b1,b2,b3,b4,b5,b6,b7]/\ac={tmps:=r3F V g3 v9 v10 v11 v12 v13 v14 v58 v59 v60 v61 u,defers:=[]}/\(b0=true->v58=.agg #[a.st,a.le,.slice p.A a.fs.length p.ca,.slice p.B a.gs.length p.cb,.slice p.C a.ss.length p.cc])/\(b1=true->v59=.agg #[a.st,a.le,.slice A a.fs.length ca,.slice B a.gs.length cb,.slice C a.ss.length cc])/\
  (b2=true->v60=.agg #[b.st,b.le,.slice p.D b.fs.length p.cd,.slice p.E b.gs.length p.ce,.slice p.F b.ss.length p.cf])/\(b3=true->v61=.agg #[b.st,b.le,.slice D b.fs.length cd,.slice E b.gs.length ce,.slice F b.ss.length cf])/\(b4=true->v9=.pointer (some ⟨X,0,none⟩))/\(b5=true->v10=.pointer (some ⟨Y,0,none⟩))/\Hid (R3I W0 a b b1 b3 b4 b5 b6 b7 A B C ca cb cc D E F cd ce cf X Y W)
structure Ra3 (W0:World) (a b:Au) (A B C:Option Addr) (ca cb cc:Nat) (D E F:Option Addr) (cd ce cf:Nat) (X Y:Nat) (W:World):Prop where
 below:Below W0 W0 W
 ra:nL W W0.heap.size a A B C ca cb cc
 rb:nL W W0.heap.size b D E F cd ce cf
 x:W.heap[X]?=some (.cells #[a.st,a.le,.slice A a.fs.length ca,.slice B a.gs.length cb,.slice C a.ss.length cc] 31 (0,0))
 y:W.heap[Y]?=some (.cells #[b.st,b.le,.slice D b.fs.length cd,.slice E b.gs.length ce,.slice F b.ss.length cf] 31 (0,0))
 lx:W0.heap.size<=X
 ly:W0.heap.size<=Y
variable {a b:Au} {l:La} {f:List Nd} {p:Ad} {V:Nat} {w W:World} {g3 v9 v10 v11 v12 v13 v14:Value} {Kn:Act->World->Prop} {Q:Exit->Act->World->Prop} {ac:Act}
theorem zLH (HE:Hid (RaE a b l f p V W)) (HK:Hid (∀ ac' W' A B C ca cb cc D E F cd ce cf X Y,RaP V g3 (.pointer (some ⟨X,0,none⟩)) (.pointer (some ⟨Y,0,none⟩)) v11 v12 v13 v14 ac'->Ra3 W a b A B C ca cb cc D E F cd ce cf X Y W'->Kn ac' W')) (ha:RaP V g3 v9 v10 v11 v12 v13 v14 ac):
  Code.wp Tryz.prog (zL (raC 2)) (Exit.then Kn Q) ac W:=by
 obtain⟨u,rfl⟩:=ha
 conv=>arg 2;whnf
 have HA:Hid (∀ W',Below W W W'->RaE a b l f p V W'):=fun W' h=>HE.o.on h
 refine tW (I:=R3J V g3 v11 v12 v13 v14 W a b p) (by kernel_rfl) ?start ?step ?done
 case start=>
  exact⟨false,false,false,false,false,false,false,false,u 58,u 59,u 60,u 61,v9,v10,u,none,none,none,0,0,0,none,none,none,0,0,0,0,0,rfl,rfl,ff,ff,ff,ff,ff,ff,
   ⟨bRf.drew,ff,ff,ff,ff,ff,ff,ff,ff,ff⟩⟩
 case done=>
  rintro listed ac' W' ⟨b0,b1,b2,b3,b4,b5,b6,b7,K,N,O,U,v9,v10,u,A,B,C,ca,cb,cc,D,E,F,cd,ce,cf,X,Y,rfl,rfl,z0,z1,z2,z3,z4,z5,m⟩ hr;obtain rfl:b0=true:=yX hr (i:=0) rfl (fun e s=>by simp at s)
  obtain rfl:b1=true:=yX hr (i:=1) rfl (fun e s _=>by simp at s;rcases s with rfl<;>rfl)
  obtain rfl:b2=true:=yX hr (i:=2) rfl (fun e s=>by simp at s)
  obtain rfl:b3=true:=yX hr (i:=3) rfl (fun e s _=>by simp at s;rcases s with rfl|rfl<;>rfl)
  obtain rfl:b4=true:=yX hr (i:=4) rfl (fun e s=>by simp at s)
  obtain rfl:b5=true:=yX hr (i:=5) rfl (fun e s=>by simp at s)
  obtain rfl:b6=true:=yX hr (i:=6) rfl (fun e s _=>by simp at s;rcases s with rfl|rfl|rfl|rfl|rfl|rfl|rfl|rfl|rfl<;>rfl)
  obtain rfl:b7=true:=yX hr (i:=7) rfl (fun e s _=>by simp at s;rcases s with rfl|rfl|rfl|rfl|rfl|rfl|rfl|rfl|rfl|rfl<;>rfl)
  have h1:=m.o.h61 rfl;have h3:=m.o.h73 rfl;have h4:=m.o.h64 rfl;have h5:=m.o.h75 rfl;obtain rfl:=z4 h4;obtain rfl:=z5 h5;have hx:=m.o.x h4;have hy:=m.o.y h5;rw[if_pos rfl] at hx hy
  exact HK.o _ _ A B C ca cb cc D E F cd ce cf X Y (RaP.mk rfl) ⟨m.o.below,m.o.ra h1,m.o.rb h3,hx.2,hy.2,hx.1,hy.1⟩
 case step=>
  rintro listed ac' W' ⟨b0,b1,b2,b3,b4,b5,b6,b7,K,N,O,U,v9,v10,u,A,B,C,ca,cb,cc,D,E,F,cd,ce,cf,X,Y,rfl,rfl,z0,z1,z2,z3,z4,z5,m⟩ i hi;obtain⟨g,o,j,d⟩:=mem_ready.1 hi
  have hi8:i<8:=by
   have:=(gLt j)
   simpa using this
  clear hi;unfold r3F
  match i,hi8,g,j,d with
  |0,_,g,j,d=>
   obtain rfl:b0=false:=g
   simp only[List.getElem?_toArray,List.getElem?_cons_zero,List.getElem?_cons_succ,Option.some.injEq] at j;subst j;obtain⟨_,c0,c1,c2,c3,c4⟩:=(HA.o _ m.o.below).aa;refine xN rfl fun K' J=>?_
   clear d;go_simp
   exact J.out _ _ ⟨true,b1,b2,b3,b4,b5,b6,b7,_,N,O,U,v9,v10,u,A,B,C,ca,cb,cc,D,E,F,cd,ce,cf,X,Y,rfl,rfl,(fun _=>rfl),z1,z2,z3,z4,z5,m⟩
  |1,_,g,j,d=>
   obtain rfl:b1=false:=g
   simp only[List.getElem?_toArray,List.getElem?_cons_zero,List.getElem?_cons_succ,Option.some.injEq] at j;subst j;obtain rfl:b0=true:=d {on:=0,ground:=.data} (by simp) rfl
   obtain rfl:=z0 rfl;have HC:=hId (zEr a p.A p.B p.C p.ca p.cb p.cc W' (HA.o _ m.o.below).ra);refine xN rfl fun K' J=>?_
   clear d;go_simp
   go_at_call 18
   refine HC.o.mono ?_;rintro e W2 ⟨A',B',C',ca',cb',cc',rfl,hr,hb⟩
   exact J.out _ _ ⟨true,true,b2,b3,b4,b5,b6,b7,_,_,O,U,v9,v10,u,A',B',C',ca',cb',cc',D,E,F,cd,ce,cf,X,Y,rfl,rfl,z0,(fun _=>rfl),z2,z3,z4,z5,m.o.callA hb hr⟩
  |2,_,g,j,d=>
   obtain rfl:b2=false:=g
   simp only[List.getElem?_toArray,List.getElem?_cons_zero,List.getElem?_cons_succ,Option.some.injEq] at j;subst j;obtain⟨_,c0,c1,c2,c3,c4⟩:=(HA.o _ m.o.below).ab;refine xN rfl fun K' J=>?_
   clear d;go_simp
   exact J.out _ _ ⟨b0,b1,true,b3,b4,b5,b6,b7,K,N,_,U,v9,v10,u,A,B,C,ca,cb,cc,D,E,F,cd,ce,cf,X,Y,rfl,rfl,z0,z1,(fun _=>rfl),z3,z4,z5,m⟩
  |3,_,g,j,d=>
   obtain rfl:b3=false:=g
   simp only[List.getElem?_toArray,List.getElem?_cons_zero,List.getElem?_cons_succ,Option.some.injEq] at j;subst j;obtain rfl:b2=true:=d {on:=2,ground:=.data} (by simp) rfl
   obtain rfl:=z2 rfl;have HC:=hId (zEr b p.D p.E p.F p.cd p.ce p.cf W' (HA.o _ m.o.below).rb);refine xN rfl fun K' J=>?_
   clear d;go_simp
   go_at_call 18
   refine HC.o.mono ?_;rintro e W2 ⟨A',B',C',ca',cb',cc',rfl,hr,hb⟩
   exact J.out _ _ ⟨b0,b1,true,true,b4,b5,b6,b7,K,N,_,_,v9,v10,u,A,B,C,ca,cb,cc,A',B',C',ca',cb',cc',X,Y,rfl,rfl,z0,z1,z2,(fun _=>rfl),z4,z5,m.o.callB hb hr⟩
  |4,_,g,j,d=>
   obtain rfl:b4=false:=g
   simp only[List.getElem?_toArray,List.getElem?_cons_zero,List.getElem?_cons_succ,Option.some.injEq] at j;subst j;refine xN rfl fun K' J=>?_
   clear d;go_simp
   exact J.out _ _ ⟨b0,b1,b2,b3,true,b5,b6,b7,K,N,O,U,_,v10,u,A,B,C,ca,cb,cc,D,E,F,cd,ce,cf,W'.heap.size,Y,rfl,rfl,z0,z1,z2,z3,(fun _=>rfl),z5,m.o.newA⟩
  |5,_,g,j,d=>
   obtain rfl:b5=false:=g
   simp only[List.getElem?_toArray,List.getElem?_cons_zero,List.getElem?_cons_succ,Option.some.injEq] at j;subst j;refine xN rfl fun K' J=>?_
   clear d;go_simp
   exact J.out _ _ ⟨b0,b1,b2,b3,b4,true,b6,b7,K,N,O,U,v9,_,u,A,B,C,ca,cb,cc,D,E,F,cd,ce,cf,X,W'.heap.size,rfl,rfl,z0,z1,z2,z3,z4,(fun _=>rfl),m.o.newB⟩
  |6,_,g,j,d=>
   obtain rfl:b6=false:=g
   simp only[List.getElem?_toArray,List.getElem?_cons_zero,List.getElem?_cons_succ,Option.some.injEq] at j;subst j;obtain rfl:b4=true:=d {on:=4,ground:=.data} (by simp) rfl
   obtain rfl:b1=true:=d {on:=1,ground:=.data} (by simp) rfl
   obtain rfl:=z1 rfl;obtain rfl:=z4 rfl;have hx:=(m.o.x rfl).2;rw[if_neg (by decide)] at hx
   obtain⟨c0,c1,c2,c3,c4,f0,f1,f2,f3,f4⟩:=zZ hx;have HI2:=hId m.o.stoA;clear hx;refine xN rfl fun K' J=>?_
   clear d;go_simp
   exact J.out _ _ ⟨b0,true,b2,b3,true,b5,true,b7,K,_,O,U,_,v10,u,A,B,C,ca,cb,cc,D,E,F,cd,ce,cf,X,Y,rfl,rfl,z0,z1,z2,z3,z4,z5,HI2⟩
  |7,_,g,j,d=>
   obtain rfl:b7=false:=g
   simp only[List.getElem?_toArray,List.getElem?_cons_zero,List.getElem?_cons_succ,Option.some.injEq] at j;subst j;obtain rfl:b5=true:=d {on:=5,ground:=.data} (by simp) rfl
   obtain rfl:b3=true:=d {on:=3,ground:=.data} (by simp) rfl
   obtain rfl:=z3 rfl;obtain rfl:=z5 rfl;have hx:=(m.o.y rfl).2;rw[if_neg (by decide)] at hx
   obtain⟨c0,c1,c2,c3,c4,f0,f1,f2,f3,f4⟩:=zZ hx;have HI2:=hId m.o.stoB;clear hx;refine xN rfl fun K' J=>?_
   clear d;go_simp
   exact J.out _ _ ⟨b0,b1,b2,true,b4,true,b6,true,K,N,O,_,v9,_,u,A,B,C,ca,cb,cc,D,E,F,cd,ce,cf,X,Y,rfl,rfl,z0,z1,z2,z3,z4,z5,HI2⟩
  |n+8,h8,_,_,_=>exact absurd h8 (by omega)
end
section
open Go Go.RowKit Go.Sort
structure R4I (W0:World) (l:La) (b0 b3 b4 b7 b9 b10:Bool) (E E':Nat) (G1:Option Addr) (cg1:Nat) (K1:Option Addr) (ck1:Nat) (Z:Nat) (W:World):Prop where
 below:Below W0 W0 W
 e0:b0=true->b3=false->W.ownsRow W0.heap.size 3 1 (.slice (some ⟨E,0,none⟩) 0 0) 0 []
 e4:b4=true->b7=false->W.ownsRow W0.heap.size 3 1 (.slice (some ⟨E',0,none⟩) 0 0) 0 []
 r3:b3=true->W.ownsRow W0.heap.size 3 1 (.slice G1 l.h.length cg1) l.h.length (l.h.flatMap viL)
 r7:b7=true->W.ownsRow W0.heap.size 3 1 (.slice K1 l.l.length ck1) l.l.length (l.l.flatMap viL)
 z:b9=true->W0.heap.size<=Z/\W.heap[Z]?=some (.cells (if b10=true then #[.slice G1 l.h.length cg1,.slice K1 l.l.length ck1] else #[(),()]) 27 (0,0))
 d04:b0=true->b4=true->b3=false->b7=false->E≠E'
 d34:b3=true->b4=true->b7=false->(Value.slice G1 l.h.length cg1).ownBlock≠some E'
 d70:b7=true->b0=true->b3=false->(Value.slice K1 l.l.length ck1).ownBlock≠some E
 h3:b10=true->b3=true
 h7:b10=true->b7=true
 h9:b10=true->b9=true
section
variable {W0 W W':World} {l:La} {b0 b3 b4 b7 b9 b10:Bool} {E E':Nat} {G1:Option Addr} {cg1:Nat} {K1:Option Addr} {ck1:Nat} {Z:Nat}
theorem R4I.on (h:R4I W0 l b0 b3 b4 b7 b9 b10 E E' G1 cg1 K1 ck1 Z W) (d:Below W W W'):R4I W0 l b0 b3 b4 b7 b9 b10 E E' G1 cg1 K1 ck1 Z W':=
 ⟨zA h.below d h.below.size,fun e g=>zD (h.e0 e g) d,fun e g=>zD (h.e4 e g) d,fun e=>zD (h.r3 e) d,fun e=>zD (h.r7 e) d,fun e=>⟨(h.z e).1,(d.block _ (Array.getElem?_eq_some_iff.1 (h.z e).2).1).trans (h.z e).2⟩,h.d04,h.d34,h.d70,h.h3,h.h7,h.h9⟩
theorem cD {B lo:Nat} (h:W.ownsRow lo 3 1 (.slice (some ⟨B,0,none⟩) 0 0) 0 []):B<W.heap.size:=(h.lt B rfl).2
theorem R4I.mk0 (h:R4I W0 l false b3 b4 b7 b9 b10 E E' G1 cg1 K1 ck1 Z W) (i:b3=false):R4I W0 l true b3 b4 b7 b9 b10 W.heap.size E' G1 cg1 K1 ck1 Z (W.alloc (.cells #[] 3)):=by
 have d:=h.on (bRf.alloc nLe (.cells #[] 3))
 exact⟨d.below,fun _ _=>wP _ _ h.below.size,d.e4,d.r3,d.r7,d.z,fun _ g _ e=>by have:=cD (h.e4 g e);omega,d.d34,fun e _ _ j=>by have:=((h.r7 e).lt _ j).2;omega,d.h3,d.h7,d.h9⟩
theorem R4I.mk4 (h:R4I W0 l b0 b3 false b7 b9 b10 E E' G1 cg1 K1 ck1 Z W) (i:b7=false):R4I W0 l b0 b3 true b7 b9 b10 E W.heap.size G1 cg1 K1 ck1 Z (W.alloc (.cells #[] 3)):=by
 have d:=h.on (bRf.alloc nLe (.cells #[] 3))
 exact⟨d.below,d.e0,fun _ _=>wP _ _ h.below.size,d.r3,d.r7,d.z,fun g _ e _=>by have:=cD (h.e0 g e);omega,fun e _ _ j=>by have:=((h.r3 e).lt _ j).2;omega,d.d70,d.h3,d.h7,d.h9⟩
theorem R4I.mkz (h:R4I W0 l b0 b3 b4 b7 false b10 E E' G1 cg1 K1 ck1 Z W):R4I W0 l b0 b3 b4 b7 true b10 E E' G1 cg1 K1 ck1 W.heap.size (W.alloc (.cells #[(),()] 27)):=by
 have d:=h.on (bRf.alloc nLe (.cells #[.slice none 0 0,.slice none 0 0] 27));have g:b10=false:=by cases e:b10 with|false=>rfl|true=>exact absurd (h.h9 e) (by decide)
 subst g;exact⟨d.below,d.e0,d.e4,d.r3,d.r7,fun _=>⟨h.below.size,World.alloc_heap_new _ _⟩,d.d04,d.d34,d.d70,ff,ff,ff⟩
theorem hU {lo B:Nat} {ys:List Int} (g:W.ownsRow lo 3 1 (.slice (some ⟨B,0,none⟩) 0 0) 0 []) {A:Option Addr} {c:Nat} (J:zE W 0 A c ys) (j:lo<=W.heap.size):
  ∃d e W',(Builtin.append_ #[22,22] 22 #[.slice (some ⟨B,0,none⟩) 0 0,.slice A ys.length c]).run Tryz.prog W=.ok (.slice d ys.length e) W'/\W'.ownsRow lo 3 1 (.slice d ys.length e) ys.length (ys.flatMap viL)/\W.grownBy W' (some B)/\
   ((Value.slice d ys.length e).ownBlock=some B\/(Value.slice d ys.length e).ownBlock=some W.heap.size):=by
 obtain⟨U,i,m,s,u⟩:=info_parts qX;have hm:=J.max
 obtain⟨v',w',K,h,N,O⟩:=jC (P:=Tryz.prog) W lo 22 22 3 U _ 1 8 Tryz.underlying22 i m s u rfl (by decide) (.slice (some ⟨B,0,none⟩) 0 0) 0 [] g A ys.length c (ys.flatMap viL) (zN (sz:=1) (fun _=>rfl) ys) J.rd (jK ys) (by unfold maxLen;omega) (by omega) j
 rw[Nat.zero_add,List.nil_append] at h;obtain⟨d,e,rfl,_⟩:=zF h;exact⟨d,e,w',K,h,N,O⟩
theorem zCF {lo B Z:Nat} {cs:Array Value} (h:W.ownsRow lo 3 1 (.slice (some ⟨B,0,none⟩) 0 0) 0 []) (d:W.heap[Z]?=some (.cells cs 27 (0,0))):Z≠B:=fun e=>wG h d (by decide) (by rw[e];rfl)
theorem R4I.app3 (h:R4I W0 l true false b4 b7 b9 b10 E E' G1 cg1 K1 ck1 Z W) {A:Option Addr} {c:Nat} (hr:zE W 0 A c l.h):
  ∃i j W',(Builtin.append_ #[22,22] 22 #[.slice (some ⟨E,0,none⟩) 0 0,.slice A l.h.length c]).run Tryz.prog W=.ok (.slice i l.h.length j) W'/\R4I W0 l true true b4 b7 b9 b10 E E' i j K1 ck1 Z W':=by
 have J:=h.e0 rfl rfl;have h6:b10=false:=by cases e:b10 with|false=>rfl|true=>exact absurd (h.h3 e) (by decide)
 subst h6;obtain⟨i,j,W',N,O,m,U⟩:=hU J hr h.below.size
 refine⟨i,j,W',N,h.below.grown m h.below.size (fun k hk=>by obtain rfl:=Option.some.inj hk;exact(J.lt _ rfl).1),fun _ e=>(by cases e),fun g d=>World.ownsRow.kept (h.e4 g d) m (.inr fun e=>h.d04 rfl g rfl d (Option.some.inj e).symm),fun _=>O,fun d=>World.ownsRow.kept (h.r7 d) m (.inr (h.d70 d rfl rfl)),
  fun K=>⟨(h.z K).1,?_⟩,fun _ _ e=>(by cases e),fun _ g d s=>?_,fun _ _ e=>(by cases e),ff,ff,ff⟩
 ·have u:=(h.z K).2
  rw[if_neg (by decide)] at u ⊢
  exact(m.block Z (gLt u) (fun e=>zCF J u (Option.some.inj e))).trans u
 have hlt:=cD (h.e4 g d)
 rcases U with h5|h5
 ·rw[h5] at s
  exact h.d04 rfl g rfl d (Option.some.inj s)
 rw[h5] at s;have:=Option.some.inj s;omega
theorem R4I.app7 (h:R4I W0 l b0 b3 true false b9 b10 E E' G1 cg1 K1 ck1 Z W) {A:Option Addr} {c:Nat} (hr:zE W 0 A c l.l):
  ∃i j W',(Builtin.append_ #[22,22] 22 #[.slice (some ⟨E',0,none⟩) 0 0,.slice A l.l.length c]).run Tryz.prog W=.ok (.slice i l.l.length j) W'/\R4I W0 l b0 b3 true true b9 b10 E E' G1 cg1 i j Z W':=by
 have J:=h.e4 rfl rfl;have h6:b10=false:=by cases e:b10 with|false=>rfl|true=>exact absurd (h.h7 e) (by decide)
 subst h6;obtain⟨i,j,W',N,O,m,U⟩:=hU J hr h.below.size
 refine⟨i,j,W',N,h.below.grown m h.below.size (fun k hk=>by obtain rfl:=Option.some.inj hk;exact(J.lt _ rfl).1),fun g d=>World.ownsRow.kept (h.e0 g d) m (.inr fun e=>h.d04 g rfl d rfl (Option.some.inj e)),fun _ e=>(by cases e),fun d=>World.ownsRow.kept (h.r3 d) m (.inr (h.d34 d rfl rfl)),fun _=>O,
  fun K=>⟨(h.z K).1,?_⟩,fun _ _ _ e=>(by cases e),fun _ _ e=>(by cases e),fun _ g d s=>?_,ff,ff,ff⟩
 ·have u:=(h.z K).2
  rw[if_neg (by decide)] at u ⊢
  exact(m.block Z (gLt u) (fun e=>zCF J u (Option.some.inj e))).trans u
 have hlt:=cD (h.e0 g d)
 rcases U with h5|h5
 ·rw[h5] at s
  exact h.d04 g rfl d rfl (Option.some.inj s).symm
 rw[h5] at s;have:=Option.some.inj s;omega
theorem zCt {lo:Nat} {e t:TypeId} {sz n g:Nat} {v:Value} {xs:List Value} {cs:Array Value} {m:Nat×Nat} (d:W.ownsRow lo e sz v n xs) (j:W.heap[g]?=some (.cells cs t m)) (s:t≠e) (h i:Value):((W.setCell ⟨g,0,none⟩ h).setCell ⟨g,1,none⟩ i).ownsRow lo e sz v n xs:=
 World.ownsRow.kept d (zO (yQ W g 0 h) (yQ _ g 1 i)) (.inr (wG d j s))
theorem R4I.sto (h:R4I W0 l b0 true b4 true true false E E' G1 cg1 K1 ck1 Z W):R4I W0 l b0 true b4 true true true E E' G1 cg1 K1 ck1 Z ((W.setCell ⟨Z,0,none⟩ (.slice G1 l.h.length cg1)).setCell ⟨Z,1,none⟩ (.slice K1 l.l.length ck1)):=by
 obtain⟨d,g⟩:=h.z rfl;rw[if_neg (by decide)] at g
 refine⟨(h.below.setCell (p:=⟨Z,0,none⟩) d _).setCell (p:=⟨Z,1,none⟩) d _,fun _ e=>(by cases e),fun _ e=>(by cases e),fun _=>zCt (h.r3 rfl) g (by decide) _ _,fun _=>zCt (h.r7 rfl) g (by decide) _ _,fun _=>⟨d,?_⟩,fun _ _ e=>(by cases e),fun _ _ e=>(by cases e),fun _ _ e=>(by cases e),fun _=>rfl,fun _=>rfl,fun _=>rfl⟩
 rw[if_pos rfl]
 simp[World.setCell,Array.getElem?_modify,g]
end
theorem vK {W:World} {V:Nat} {d e:Value} (h:W.heap[V]?=some (.cells #[d,e] 27 (0,0))):W.cell? ⟨V,0,none⟩=some d/\W.cell? ⟨V,1,none⟩=some e/\W.frozen? ⟨V,0,none⟩=false/\W.frozen? ⟨V,1,none⟩=false:=by
 refine⟨?_,?_,?_,?_⟩<;>simp[World.cell?,World.frozen?,h]
def R4K (W0:World) (l:La) (b0 b3 b4 b7 b8 b9 b10:Bool) (E E':Nat) (G1:Option Addr) (cg1:Nat) (K1:Option Addr) (ck1:Nat) (Z:Nat) (W:World):Prop:=R4I W0 l b0 b3 b4 b7 b9 b10 E E' G1 cg1 K1 ck1 Z W/\(b3=true->b0=true)/\(b7=true->b4=true)/\(b8=true->b3=true/\b7=true)
def R4J (V:Nat) (g3 v9 v10 v12 v13 v14:Value) (W0:World) (l:La) (p:Ad) (listed:Array Bool) (ac:Act) (W:World):Prop:=
 ∃(b0 b1 b2 b3 b4 b5 b6 b7 b8 b9 b10:Bool) (v62 v63 v64 v65 v66 v67 v68 v69 v70 v11:Value) (u:Nat->Value) (E E':Nat) (G1:Option Addr) (cg1:Nat) (K1:Option Addr) (ck1:Nat) (Z:Nat),
  listed=#[b0,b1,b2,b3,b4,b5,b6,b7,b8,b9,b10]/\ac={tmps:=r4F V g3 v9 v10 v11 v12 v13 v14 v62 v63 v64 v65 v66 v67 v68 v69 v70 u,defers:=[]}/\(b0=true->v62=.slice (some ⟨E,0,none⟩) 0 0)/\(b1=true->v63=.pointer (some ⟨V+2,0,none⟩))/\(b2=true->v64=.slice p.G l.h.length p.cg)/\(b3=true->v65=.slice G1 l.h.length cg1)/\
  (b4=true->v66=.slice (some ⟨E',0,none⟩) 0 0)/\(b5=true->v67=.pointer (some ⟨V+2,1,none⟩))/\(b6=true->v68=.slice p.K l.l.length p.ck)/\(b7=true->v69=.slice K1 l.l.length ck1)/\(b8=true->v70=.agg #[.slice G1 l.h.length cg1,.slice K1 l.l.length ck1])/\(b9=true->v11=.pointer (some ⟨Z,0,none⟩))/\Hid (R4K W0 l b0 b3 b4 b7 b8 b9 b10 E E' G1 cg1 K1 ck1 Z W)
structure Ra4 (W0:World) (l:La) (G1:Option Addr) (cg1:Nat) (K1:Option Addr) (ck1:Nat) (Z:Nat) (W:World):Prop where
 below:Below W0 W0 W
 rh:W.ownsRow W0.heap.size 3 1 (.slice G1 l.h.length cg1) l.h.length (l.h.flatMap viL)
 rl:W.ownsRow W0.heap.size 3 1 (.slice K1 l.l.length ck1) l.l.length (l.l.flatMap viL)
 z:W.heap[Z]?=some (.cells #[.slice G1 l.h.length cg1,.slice K1 l.l.length ck1] 27 (0,0))
 lz:W0.heap.size<=Z
variable {a b:Au} {l:La} {f:List Nd} {p:Ad} {V:Nat} {w W:World} {g3 v9 v10 v11 v12 v13 v14:Value} {Kn:Act->World->Prop} {Q:Exit->Act->World->Prop} {ac:Act}
theorem zLZ (HE:Hid (RaE a b l f p V W)) (HK:Hid (∀ ac' W' G1 cg1 K1 ck1 Z,RaP V g3 v9 v10 (.pointer (some ⟨Z,0,none⟩)) v12 v13 v14 ac'->Ra4 W l G1 cg1 K1 ck1 Z W'->Kn ac' W')) (ha:RaP V g3 v9 v10 v11 v12 v13 v14 ac):
  Code.wp Tryz.prog (zL (raC 3)) (Exit.then Kn Q) ac W:=by
 obtain⟨u,rfl⟩:=ha
 conv=>arg 2;whnf
 have HA:Hid (∀ W',Below W W W'->RaE a b l f p V W'):=fun W' h=>HE.o.on h
 refine tW (I:=R4J V g3 v9 v10 v12 v13 v14 W l p) (by kernel_rfl) ?start ?step ?done
 case start=>
  exact⟨false,false,false,false,false,false,false,false,false,false,false,u 62,u 63,u 64,u 65,u 66,u 67,u 68,u 69,u 70,v11,u,0,0,none,0,none,0,0,rfl,rfl,ff,ff,ff,ff,ff,ff,ff,ff,ff,ff,
   ⟨⟨bRf.drew,fun e _=>ff e,fun e _=>ff e,ff,ff,ff,fun e _ _ _=>ff e,fun e _ _=>ff e,fun e _ _=>ff e,ff,ff,ff⟩,ff,ff,ff⟩⟩
 case done=>
  rintro listed ac' W' ⟨b0,b1,b2,b3,b4,b5,b6,b7,b8,b9,b10,O,U,h0,v65,h2,h4,h5,v69,h6,v11,u,E,E',G1,cg1,K1,ck1,Z,rfl,rfl,z0,z1,z2,z3,z4,z5,z6,z7,z8,z9,m⟩ hr
  obtain rfl:b0=true:=yX hr (i:=0) rfl (fun e J=>by simp at J)
  obtain rfl:b1=true:=yX hr (i:=1) rfl (fun e J=>by simp at J)
  obtain rfl:b2=true:=yX hr (i:=2) rfl (fun e J _=>by simp at J;rcases J with rfl<;>rfl)
  obtain rfl:b3=true:=yX hr (i:=3) rfl (fun e J _=>by simp at J;rcases J with rfl|rfl<;>rfl)
  obtain rfl:b4=true:=yX hr (i:=4) rfl (fun e J=>by simp at J)
  obtain rfl:b5=true:=yX hr (i:=5) rfl (fun e J=>by simp at J)
  obtain rfl:b6=true:=yX hr (i:=6) rfl (fun e J _=>by simp at J;rcases J with rfl<;>rfl)
  obtain rfl:b7=true:=yX hr (i:=7) rfl (fun e J _=>by simp at J;rcases J with rfl|rfl|rfl<;>rfl)
  obtain rfl:b8=true:=yX hr (i:=8) rfl (fun e J _=>by simp at J;rcases J with rfl|rfl<;>rfl)
  obtain rfl:b9=true:=yX hr (i:=9) rfl (fun e J=>by simp at J)
  obtain rfl:b10=true:=yX hr (i:=10) rfl (fun e J _=>by simp at J;rcases J with rfl|rfl|rfl|rfl|rfl|rfl|rfl|rfl|rfl|rfl|rfl|rfl|rfl<;>rfl)
  obtain rfl:=z9 rfl;have h1:=m.o.1;have hz:=h1.z rfl;rw[if_pos rfl] at hz;exact HK.o _ _ G1 cg1 K1 ck1 Z (RaP.mk rfl) ⟨h1.below,h1.r3 rfl,h1.r7 rfl,hz.2,hz.1⟩
 case step=>
  rintro listed ac' W' ⟨b0,b1,b2,b3,b4,b5,b6,b7,b8,b9,b10,O,U,h0,v65,h2,h4,h5,v69,h6,v11,u,E,E',G1,cg1,K1,ck1,Z,rfl,rfl,z0,z1,z2,z3,z4,z5,z6,z7,z8,z9,m⟩ i hi;obtain⟨g,o,j,d⟩:=mem_ready.1 hi
  have hi8:i<11:=by
   have:=(gLt j)
   simpa using this
  clear hi;unfold r4F
  match i,hi8,g,j,d with
  |0,_,g,j,d=>
   obtain rfl:b0=false:=g
   simp only[List.getElem?_toArray,List.getElem?_cons_zero,List.getElem?_cons_succ,Option.some.injEq] at j;subst j;have h3:b3=false:=by cases e:b3 with|false=>rfl|true=>exact ff (m.o.2.1 e)
   have s:Hid (R4K W l true b3 b4 b7 b8 b9 b10 W'.heap.size E' G1 cg1 K1 ck1 Z (W'.alloc (.cells #[] 3))):=⟨m.o.1.mk0 h3,fun _=>rfl,m.o.2.2⟩
   refine xN rfl fun K' N=>?_
   clear d;go_simp
   exact N.out _ _ ⟨true,b1,b2,b3,b4,b5,b6,b7,b8,b9,b10,_,U,h0,v65,h2,h4,h5,v69,h6,v11,u,W'.heap.size,E',G1,cg1,K1,ck1,Z,rfl,rfl,(fun _=>rfl),z1,z2,z3,z4,z5,z6,z7,z8,z9,s⟩
  |1,_,g,j,d=>
   obtain rfl:b1=false:=g
   simp only[List.getElem?_toArray,List.getElem?_cons_zero,List.getElem?_cons_succ,Option.some.injEq] at j;subst j;refine xN rfl fun K' N=>?_
   clear d;go_simp
   exact N.out _ _ ⟨b0,true,b2,b3,b4,b5,b6,b7,b8,b9,b10,O,_,h0,v65,h2,h4,h5,v69,h6,v11,u,E,E',G1,cg1,K1,ck1,Z,rfl,rfl,z0,(fun _=>rfl),z2,z3,z4,z5,z6,z7,z8,z9,m⟩
  |2,_,g,j,d=>
   obtain rfl:b2=false:=g
   simp only[List.getElem?_toArray,List.getElem?_cons_zero,List.getElem?_cons_succ,Option.some.injEq] at j;subst j;obtain rfl:b1=true:=d {on:=1,ground:=.data} (by simp) rfl
   obtain rfl:=z1 rfl;obtain⟨c0,c1,_⟩:=vK (HA.o _ m.o.1.below).al;refine xN rfl fun K' N=>?_
   clear d;go_simp
   exact N.out _ _ ⟨b0,true,true,b3,b4,b5,b6,b7,b8,b9,b10,O,_,_,v65,h2,h4,h5,v69,h6,v11,u,E,E',G1,cg1,K1,ck1,Z,rfl,rfl,z0,z1,(fun _=>rfl),z3,z4,z5,z6,z7,z8,z9,m⟩
  |3,_,g,j,d=>
   obtain rfl:b3=false:=g
   simp only[List.getElem?_toArray,List.getElem?_cons_zero,List.getElem?_cons_succ,Option.some.injEq] at j;subst j;obtain rfl:b0=true:=d {on:=0,ground:=.data} (by simp) rfl
   obtain rfl:b2=true:=d {on:=2,ground:=.data} (by simp) rfl
   obtain rfl:=z0 rfl;obtain rfl:=z2 rfl;obtain⟨A',c',W2,hrun,hI2⟩:=m.o.1.app3 (HA.o _ m.o.1.below).lh;have HR:=hId hrun
   have s:Hid (R4K W l true true b4 b7 b8 b9 b10 E E' A' c' K1 ck1 Z W2):=⟨hI2,fun _=>rfl,m.o.2.2.1,fun e=>⟨rfl,(m.o.2.2.2 e).2⟩⟩
   have hz8:Hid (b8=true->False):=fun e=>ff (m.o.2.2.2 e).1
   clear hrun hI2;refine xN rfl fun K' N=>?_
   clear d;refine nO rfl (.tmp 62) (.tmp 64) _ _ rfl (.slice (some ⟨E,0,none⟩) 0 0) (.slice p.G l.h.length p.cg) (.slice A' l.h.length c') (by go_simp) (by go_simp) HR.o ?_
   simp only[lAy]
   exact N.out _ _ ⟨true,b1,true,true,b4,b5,b6,b7,b8,b9,b10,_,U,_,_,h2,h4,h5,v69,h6,v11,u,E,E',A',c',K1,ck1,Z,rfl,rfl,z0,z1,z2,(fun _=>rfl),z4,z5,z6,z7,(fun e=>(hz8.o e).elim),z9,s⟩
  |4,_,g,j,d=>
   obtain rfl:b4=false:=g
   simp only[List.getElem?_toArray,List.getElem?_cons_zero,List.getElem?_cons_succ,Option.some.injEq] at j;subst j;have h7:b7=false:=by cases e:b7 with|false=>rfl|true=>exact ff (m.o.2.2.1 e)
   have s:Hid (R4K W l b0 b3 true b7 b8 b9 b10 E W'.heap.size G1 cg1 K1 ck1 Z (W'.alloc (.cells #[] 3))):=⟨m.o.1.mk4 h7,m.o.2.1,fun _=>rfl,m.o.2.2.2⟩
   refine xN rfl fun K' N=>?_
   clear d;go_simp
   exact N.out _ _ ⟨b0,b1,b2,b3,true,b5,b6,b7,b8,b9,b10,O,U,h0,v65,_,h4,h5,v69,h6,v11,u,E,W'.heap.size,G1,cg1,K1,ck1,Z,rfl,rfl,z0,z1,z2,z3,(fun _=>rfl),z5,z6,z7,z8,z9,s⟩
  |5,_,g,j,d=>
   obtain rfl:b5=false:=g
   simp only[List.getElem?_toArray,List.getElem?_cons_zero,List.getElem?_cons_succ,Option.some.injEq] at j;subst j;refine xN rfl fun K' N=>?_
   clear d;go_simp
   exact N.out _ _ ⟨b0,b1,b2,b3,b4,true,b6,b7,b8,b9,b10,O,U,h0,v65,h2,_,h5,v69,h6,v11,u,E,E',G1,cg1,K1,ck1,Z,rfl,rfl,z0,z1,z2,z3,z4,(fun _=>rfl),z6,z7,z8,z9,m⟩
  |6,_,g,j,d=>
   obtain rfl:b6=false:=g
   simp only[List.getElem?_toArray,List.getElem?_cons_zero,List.getElem?_cons_succ,Option.some.injEq] at j;subst j;obtain rfl:b5=true:=d {on:=5,ground:=.data} (by simp) rfl
   obtain rfl:=z5 rfl;obtain⟨c0,c1,_⟩:=vK (HA.o _ m.o.1.below).al;refine xN rfl fun K' N=>?_
   clear d;go_simp
   exact N.out _ _ ⟨b0,b1,b2,b3,b4,true,true,b7,b8,b9,b10,O,U,h0,v65,h2,_,_,v69,h6,v11,u,E,E',G1,cg1,K1,ck1,Z,rfl,rfl,z0,z1,z2,z3,z4,z5,(fun _=>rfl),z7,z8,z9,m⟩
  |7,_,g,j,d=>
   obtain rfl:b7=false:=g
   simp only[List.getElem?_toArray,List.getElem?_cons_zero,List.getElem?_cons_succ,Option.some.injEq] at j;subst j;obtain rfl:b4=true:=d {on:=4,ground:=.data} (by simp) rfl
   obtain rfl:b6=true:=d {on:=6,ground:=.data} (by simp) rfl
   obtain rfl:=z4 rfl;obtain rfl:=z6 rfl;obtain⟨A',c',W2,hrun,hI2⟩:=m.o.1.app7 (HA.o _ m.o.1.below).ll;have HR:=hId hrun
   have s:Hid (R4K W l b0 b3 true true b8 b9 b10 E E' G1 cg1 A' c' Z W2):=⟨hI2,m.o.2.1,fun _=>rfl,fun e=>⟨(m.o.2.2.2 e).1,rfl⟩⟩
   have hz8:Hid (b8=true->False):=fun e=>ff (m.o.2.2.2 e).2
   clear hrun hI2;refine xN rfl fun K' N=>?_
   clear d;refine nO rfl (.tmp 66) (.tmp 68) _ _ rfl (.slice (some ⟨E',0,none⟩) 0 0) (.slice p.K l.l.length p.ck) (.slice A' l.l.length c') (by go_simp) (by go_simp) HR.o ?_
   simp only[lAy]
   exact N.out _ _ ⟨b0,b1,b2,b3,true,b5,true,true,b8,b9,b10,O,U,h0,v65,_,h4,_,_,h6,v11,u,E,E',G1,cg1,A',c',Z,rfl,rfl,z0,z1,z2,z3,z4,z5,z6,(fun _=>rfl),(fun e=>(hz8.o e).elim),z9,s⟩
  |8,_,g,j,d=>
   obtain rfl:b8=false:=g
   simp only[List.getElem?_toArray,List.getElem?_cons_zero,List.getElem?_cons_succ,Option.some.injEq] at j;subst j;obtain rfl:b3=true:=d {on:=3,ground:=.data} (by simp) rfl
   obtain rfl:b7=true:=d {on:=7,ground:=.data} (by simp) rfl
   obtain rfl:=z3 rfl;obtain rfl:=z7 rfl;have s:Hid (R4K W l b0 true b4 true true b9 b10 E E' G1 cg1 K1 ck1 Z W'):=⟨m.o.1,m.o.2.1,m.o.2.2.1,fun _=>⟨rfl,rfl⟩⟩
   refine xN rfl fun K' N=>?_
   clear d;go_simp
   exact N.out _ _ ⟨b0,b1,b2,true,b4,b5,b6,true,true,b9,b10,O,U,h0,_,h2,h4,h5,_,_,v11,u,E,E',G1,cg1,K1,ck1,Z,rfl,rfl,z0,z1,z2,z3,z4,z5,z6,z7,(fun _=>rfl),z9,s⟩
  |9,_,g,j,d=>
   obtain rfl:b9=false:=g
   simp only[List.getElem?_toArray,List.getElem?_cons_zero,List.getElem?_cons_succ,Option.some.injEq] at j;subst j
   have s:Hid (R4K W l b0 b3 b4 b7 b8 true b10 E E' G1 cg1 K1 ck1 W'.heap.size (W'.alloc (.cells #[(),()] 27))):=⟨m.o.1.mkz,m.o.2⟩
   refine xN rfl fun K' N=>?_
   clear d;go_simp
   exact N.out _ _ ⟨b0,b1,b2,b3,b4,b5,b6,b7,b8,true,b10,O,U,h0,v65,h2,h4,h5,v69,h6,_,u,E,E',G1,cg1,K1,ck1,W'.heap.size,rfl,rfl,z0,z1,z2,z3,z4,z5,z6,z7,z8,(fun _=>rfl),s⟩
  |10,_,g,j,d=>
   obtain rfl:b10=false:=g
   simp only[List.getElem?_toArray,List.getElem?_cons_zero,List.getElem?_cons_succ,Option.some.injEq] at j;subst j;obtain rfl:b9=true:=d {on:=9,ground:=.data} (by simp) rfl
   obtain rfl:b8=true:=d {on:=8,ground:=.data} (by simp) rfl
   obtain rfl:=z8 rfl;obtain rfl:=z9 rfl;obtain⟨h3,h7⟩:=m.o.2.2.2 rfl;subst h3;subst h7;have hz:=(m.o.1.z rfl).2;rw[if_neg (by decide)] at hz
   obtain⟨c0,c1,f0,f1⟩:=vK hz;have s:Hid (R4K W l b0 true b4 true true true true E E' G1 cg1 K1 ck1 Z ((W'.setCell ⟨Z,0,none⟩ (.slice G1 l.h.length cg1)).setCell ⟨Z,1,none⟩ (.slice K1 l.l.length ck1))):=⟨m.o.1.sto,m.o.2⟩
   obtain rfl:=z3 rfl;obtain rfl:=z7 rfl;clear hz;refine xN rfl fun K' N=>?_
   clear d;go_simp
   exact N.out _ _ ⟨b0,b1,b2,true,b4,b5,b6,true,true,true,true,O,U,h0,_,h2,h4,h5,_,_,_,u,E,E',G1,cg1,K1,ck1,Z,rfl,rfl,z0,z1,z2,z3,z4,z5,z6,z7,z8,z9,s⟩
  |n+11,h8,_,_,_=>exact absurd h8 (by omega)
end
section
open Go Go.RowKit Go.Sort
def Kin (v v':Value):Prop:=v'=v\/((∃ n,v=.int .i64 n)/\∃n,v'=.int .i64 n)\/((∃ b,v=.bool b)/\∃b,v'=.bool b)
theorem Kin.refl (v:Value):Kin v v:=.inl rfl
theorem Kin.trans {a b c:Value} (h:Kin a b) (k:Kin b c):Kin a c:=by
 rcases h with rfl|⟨h1,n,rfl⟩|⟨h1,n,rfl⟩
 ·exact k
 ·rcases k with rfl|⟨_,k⟩|⟨⟨_,k⟩,_⟩
  ·exact .inr (.inl ⟨h1,n,rfl⟩)
  ·exact .inr (.inl ⟨h1,k⟩)
  cases k
 rcases k with rfl|⟨⟨_,k⟩,_⟩|⟨_,k⟩
 ·exact .inr (.inr ⟨h1,n,rfl⟩)
 ·cases k
 exact .inr (.inr ⟨h1,k⟩)
structure Spl (L:Nat) (w w':World):Prop where
 below:Below L w w'
 kin:∀b o v,w.cell? ⟨b,o,none⟩=some v->∃v',w'.cell? ⟨b,o,none⟩=some v'/\Kin v v'
 fz:∀b o,b<w.heap.size->w'.frozen? ⟨b,o,none⟩=w.frozen? ⟨b,o,none⟩
theorem Spl.refl (L:Nat) (w:World):Spl L w w:=⟨bRf,fun _ _ v h=>⟨v,h,Kin.refl v⟩,fun _ _ _=>rfl⟩
theorem Spl.trans {L:Nat} {a b c:World} (h:Spl L a b) (k:Spl L b c):Spl L a c:=
 ⟨h.below.trans k.below,fun x o v i=>by
  obtain⟨s,e,j⟩:=h.kin x o v i;obtain⟨u,g,m⟩:=k.kin x o s e;exact⟨u,g,j.trans m⟩,fun x o d=>(k.fz x o (Nat.lt_of_lt_of_le d h.below.size)).trans (h.fz x o d)⟩
theorem Spl.of {L:Nat} {w w':World} (h:Below w w w') (e:L<=w.heap.size):Spl L w w':=
 ⟨h.mono e,fun b o v d=>⟨v,(h.cell (p:=⟨b,o,none⟩) (World.block_lt_of_cell? w ⟨b,o,none⟩ d)).trans d,Kin.refl v⟩,fun b o g=>h.frozen (p:=⟨b,o,none⟩) g⟩
theorem Spl.set {L:Nat} {w:World} {b o:Nat} {u g:Value} (h:w.cell? ⟨b,o,none⟩=some u) (j:L<=b) (m:Kin u g):Spl L w (w.setCell ⟨b,o,none⟩ g):=by
 refine⟨bRf.setCell (p:=⟨b,o,none⟩) j _,fun i s v d=>?_,fun _ _ _=>eU _ _ _ _⟩
 by_cases e:(⟨i,s,none⟩:Addr)=⟨b,o,none⟩
 ·rw[e] at d ⊢
  rw[d] at h;obtain rfl:=Option.some.inj h;exact⟨g,World.cell?_setCell_same _ _ _ d,m⟩
 exact⟨v,(World.cell?_setCell_other _ _ _ _ (fun h=>e h.symm)).trans d,Kin.refl v⟩
theorem Spl.drew (L:Nat) (w:World):Spl L w w.drew:=⟨bRf.drew,fun _ _ v h=>⟨v,h,Kin.refl v⟩,fun _ _ _=>rfl⟩
def IsI (v:Value):Prop:=∃n,v=.int .i64 n
def tE (v:Value):Prop:=∃b,v=.bool b
theorem IsI.kin {v v':Value} (h:IsI v) (k:Kin v v'):IsI v':=by
 rcases k with rfl|⟨_,k⟩|⟨⟨_,k⟩,_⟩
 ·exact h
 ·exact k
 obtain⟨n,rfl⟩:=h;cases k
theorem tE.kin {v v':Value} (h:tE v) (k:Kin v v'):tE v':=by
 rcases k with rfl|⟨⟨_,k⟩,_⟩|⟨_,k⟩
 ·exact h
 ·obtain⟨n,rfl⟩:=h;cases k
 exact k
theorem Kin.slice {A:Option Addr} {n c:Nat} {v:Value} (k:Kin (.slice A n c) v):v=.slice A n c:=by
 rcases k with rfl|⟨⟨_,k⟩,_⟩|⟨⟨_,k⟩,_⟩
 ·rfl
 ·cases k
 cases k
def Wr (P:Value->Prop) (w:World) (L:Nat) (A:Option Addr) (n:Nat):Prop:=
 0<n->∃b off,A=some ⟨b,off,none⟩/\L<=b/\b<w.heap.size/\∀j,j<n->(∃ v,w.cell? ⟨b,off+j,none⟩=some v/\P v)/\w.frozen? ⟨b,off+j,none⟩=false
theorem Wr.spl {P:Value->Prop} (m:∀{v v'},P v->Kin v v'->P v') {w w':World} {L:Nat} {A:Option Addr} {n:Nat} (h:Wr P w L A n) (k:Spl L w w'):Wr P w' L A n:=by
 intro u;obtain⟨b,off,e,g,d,i⟩:=h u;refine⟨b,off,e,g,Nat.lt_of_lt_of_le d k.below.size,fun j s=>?_⟩
 obtain⟨⟨v,J,K⟩,N⟩:=i j s;obtain⟨v',O,U⟩:=k.kin b (off+j) v J;exact⟨⟨v',O,m K U⟩,(k.fz b (off+j) d).trans N⟩
theorem SlE.wr {α:Type} {enc:α->List Value} {bt:Nat} {w:World} {lo L:Nat} {A:Option Addr} {c:Nat} {xs:List α} {P:Value->Prop} (h:SlE enc bt w lo A c xs) (i:0<lo) (N:∀x,∀u∈enc x,P u) (K:L<=lo):Wr P w L A (xs.flatMap enc).length:=by
 intro g;obtain⟨b,off,e,m,s,J⟩:=h.rd (fun e=>by rw[e] at g;exact absurd g (Nat.lt_irrefl _))
 refine⟨b,off,e,Nat.le_trans K m,s,fun j d=>⟨⟨_,J j _ (List.getElem?_eq_getElem d),?_⟩,h.fz i b off e j d⟩⟩
 obtain⟨x,_,O⟩:=List.mem_flatMap.1 (List.getElem_mem d);exact N x _ O
theorem zAu {α:Type} {enc:α->List Value} (d:∀x,(enc x).length=1) (xs:List α):(xs.flatMap enc).length=xs.length:=by rw[zN d];omega
theorem zE.wr {w:World} {lo L:Nat} {A:Option Addr} {c:Nat} {xs:List Int} (h:zE w lo A c xs) (d:0<lo) (e:L<=lo):Wr IsI w L A xs.length:=by
 have:=SlE.wr (P:=IsI) h d (fun x u g=>⟨x,by simpa using g⟩) e
 rwa[zAu (fun _=>rfl)] at this
theorem xG.wr {w:World} {lo L:Nat} {A:Option Addr} {c:Nat} {xs:List Bool} (h:xG w lo A c xs) (d:0<lo) (e:L<=lo):Wr tE w L A xs.length:=by
 have:=SlE.wr (P:=tE) h d (fun x u g=>⟨x,by simpa using g⟩) e
 rwa[zAu (fun _=>rfl)] at this
theorem jZ.wr {w:World} {lo L:Nat} {A:Option Addr} {c:Nat} {xs:List Stp} (h:jZ w lo A c xs) (e:0<lo) (g:L<=lo):Wr IsI w L A (xs.length*3):=by
 have:=SlE.wr (P:=IsI) h e (fun x u d=>by
  simp only[Stp.cells,List.mem_cons,List.not_mem_nil,or_false] at d
  rcases d with rfl|rfl|rfl<;>exact⟨_,rfl⟩) g
 rwa[zN (sz:=3) (fun _=>rfl)] at this
theorem Nds.wr {w:World} {lo L:Nat} {A:Option Addr} {c:Nat} {xs:List Nd} (h:Nds w lo A c xs) (e:0<lo) (g:L<=lo):Wr IsI w L A (xs.length*4):=by
 have:=SlE.wr (P:=IsI) h e (fun x u d=>by
  simp only[Nd.cells,List.mem_cons,List.not_mem_nil,or_false] at d
  rcases d with rfl|rfl|rfl|rfl<;>exact⟨_,rfl⟩) g
 rwa[zN (sz:=4) (fun _=>rfl)] at this
def zAI (L:Nat) (w:World) (e:Ending) (w':World):Prop:=e=.returned (.tuple #[])/\Spl L w w'
theorem bE (A:Option Addr) (n c L:Nat) (w:World) (j:Wr IsI w L A n) (N:n<=c) (u:c<=9223372036854775807):
  Calls Tryz.prog 33 #[.slice A n c] w (zAI L w):=by
 have s:=hId j;clear j
 go_enter Tryz.func33,Tryz.ntmps33
 go_wp2_with fail
 go_loopw [2] (fun i wr=>∃k:Nat,k<=n/\i=(k:Int)/\Hid (Spl L w wr)) (fun i _=>n-(intOf i).toNat)
 case atStart=>exact⟨0,Nat.zero_le _,rfl,Spl.refl _ _⟩
 obtain⟨k,O,rfl,e⟩:=hrel
 by_cases hkl:k<n
 ·have J:(k:Int)<(n:Int):=by omega
  obtain⟨b,off,rfl,h,_,d⟩:=(s.o.spl IsI.kin e.o) (by omega)
  obtain⟨⟨v,K,U,rfl⟩,z3⟩:=d k hkl;have g:Hid (Spl L w (wr.setCell ⟨b,off+k,none⟩ (.int .i64 (-7)))):=e.o.trans (Spl.set K h (.inr (.inl ⟨⟨_,rfl⟩,_,rfl⟩)));clear d h
  go_wp2_with fail
  go_roundw
  case rel=>exact⟨k+1,by omega,by go_num,g.o⟩
  case measure=>simp[intOf];omega
 have J:¬(k:Int)<(n:Int):=by omega
 have m:Hid (zAI L w (.returned (.tuple #[])) wr):=⟨rfl,e.o⟩
 go_wp2_with fail
 go_end0
 exact m.o
theorem zCf {P:Value->Prop} {w:World} {L:Nat} {A:Option Addr} {n k:Nat} (h:Wr P w L A n) (j:k<n):∃b off,A=some ⟨b,off,none⟩/\L<=b/\b<w.heap.size/\(∃ v,w.cell? ⟨b,off+k,none⟩=some v/\P v)/\w.frozen? ⟨b,off+k,none⟩=false:=by
 obtain⟨b,off,e,d,g,i⟩:=h (by omega)
 exact⟨b,off,e,d,g,i k j⟩
structure SpO (W:World) (V:Nat) (A B C:Option Addr) (na nb nc ca cb cc:Nat):Prop where
 f:W.cell? ⟨V,2,none⟩=some (.slice A na ca)
 g:W.cell? ⟨V,3,none⟩=some (.slice B nb cb)
 s:W.cell? ⟨V,4,none⟩=some (.slice C nc cc)
theorem SpO.spl {L:Nat} {W W':World} {V:Nat} {A B C:Option Addr} {j m u ca cb cc:Nat} (h:SpO W V A B C j m u ca cb cc) (k:Spl L W W'):SpO W' V A B C j m u ca cb cc:=by
 obtain⟨O,d,J⟩:=k.kin _ _ _ h.f;obtain⟨U,e,K⟩:=k.kin _ _ _ h.g;obtain⟨v3,i,N⟩:=k.kin _ _ _ h.s;rw[J.slice] at d;rw[K.slice] at e;rw[N.slice] at i;exact⟨d,e,i⟩
theorem zBC (st le:Int) (A B C:Option Addr) (g h e ca cb cc L:Nat) (w:World) (hA:Wr IsI w L A g) (hB:Wr tE w L B h) (hC:Wr IsI w L C (e*3)) (h1:g<=ca) (h2:h<=cb) (h3:e<=cc) (m1:ca<=9223372036854775807) (m2:cb<=9223372036854775807) (m3:cc<=9223372036854775807) (hc3:e<=1000000000000000) (hL:L<=w.heap.size):
  Calls Tryz.prog 32 #[.agg #[st,le,.slice A g ca,.slice B h cb,.slice C e cc]] w (zAI L w):=by
 have HA:=hId hA;have HB:=hId hB;have HC:=hId hC;clear hA hB hC;have O:Hid (Spl L w (w.alloc (.cells #[st,le,.slice A g ca,.slice B h cb,.slice C e cc] 31))):=Spl.of (bLa) hL
 have m:Hid (SpO (w.alloc (.cells #[st,le,.slice A g ca,.slice B h cb,.slice C e cc] 31)) w.heap.size A B C g h e ca cb cc):=by
  obtain⟨_,_,u,J,K,_⟩:=zZ (World.alloc_heap_new w (.cells #[st,le,.slice A g ca,.slice B h cb,.slice C e cc] 31));exact⟨u,J,K⟩
 go_enter Tryz.func32,Tryz.ntmps32
 go_upto_region 1 with fail
 obtain⟨V,hV⟩:∃V,V=w.heap.size:=⟨_,rfl⟩;rw[<-hV] at m ⊢;clear hV hL;generalize w.alloc (.cells #[st,le,.slice A g ca,.slice B h cb,.slice C e cc] 31)=W0 at *
 go_wp2_with fail
 go_loopw [2] (fun i wr=>∃k:Nat,k<=g/\i=(k:Int)/\Hid (Spl L W0 wr)) (fun i _=>g-(intOf i).toNat)
 case atStart=>exact⟨0,Nat.zero_le _,rfl,Spl.refl _ _⟩
 obtain⟨k,hk,rfl,d⟩:=hrel;obtain⟨u,J,K⟩:=m.o.spl d.o
 by_cases hkl:k<g
 ·have q1:(k:Int)<(g:Int):=by omega
  obtain⟨b,off,rfl,s,_,⟨v,z1,z2,rfl⟩,z3⟩:=zCf ((HA.o.spl IsI.kin O.o).spl IsI.kin d.o) hkl;have j:Hid (Spl L W0 (wr.setCell ⟨b,off+k,none⟩ (.int .i64 (-7)))):=d.o.trans (Spl.set z1 s (.inr (.inl ⟨⟨_,rfl⟩,_,rfl⟩)))
  clear s J K
  go_wp2_with fail
  go_roundw
  case rel=>exact⟨k+1,by omega,by go_num,j.o⟩
  case measure=>simp[intOf];omega
 have q1:¬(k:Int)<(g:Int):=by omega
 have U:=hId (O.o.trans d.o);have N:=hId (m.o.spl d.o);clear J K d O m hkl
 go_wp2_with fail
 clear u q1;generalize wr=w1 at *
 go_loopw [3] (fun i wr=>∃k:Nat,k<=h/\i=(k:Int)/\Hid (Spl L w1 wr)) (fun i _=>h-(intOf i).toNat)
 case atStart=>exact⟨0,Nat.zero_le _,rfl,Spl.refl _ _⟩
 obtain⟨k2,hk2,rfl,d⟩:=hrel;obtain⟨u,J,K⟩:=N.o.spl d.o
 by_cases hkl:k2<h
 ·have q1:(k2:Int)<(h:Int):=by omega
  obtain⟨b,off,rfl,s,_,⟨v,z1,z2,rfl⟩,z3⟩:=zCf ((HB.o.spl tE.kin U.o).spl tE.kin d.o) hkl
  have j:Hid (Spl L w1 (wr.drew.setCell ⟨b,off+k2,none⟩ (.bool (!z2)))):=(d.o.trans (Spl.drew L wr)).trans (Spl.set (w:=wr.drew) z1 s (.inr (.inr ⟨⟨_,rfl⟩,_,rfl⟩)))
  clear s u K
  go_wp2_with fail
  go_region
  all_goals
   go_wp2_with fail
   go_roundw
   case rel=>exact⟨k2+1,by omega,by go_num,j.o⟩
   case measure=>simp[intOf];omega
 have q1:¬(k2:Int)<(h:Int):=by omega
 have HS3:=hId (U.o.trans d.o);have HO3:=hId (N.o.spl d.o);clear u K d U N hkl
 go_wp2_with fail
 clear J q1;generalize wr=w2 at *
 go_loopw [4] (fun i wr=>∃k:Nat,k<=e/\i=(k:Int)/\Hid (Spl L w2 wr)) (fun i _=>e-(intOf i).toNat)
 case atStart=>exact⟨0,Nat.zero_le _,rfl,Spl.refl _ _⟩
 obtain⟨k3,hk3,rfl,d⟩:=hrel;obtain⟨u,J,K⟩:=HO3.o.spl d.o
 by_cases hkl:k3<e
 ·have q1:(k3:Int)<(e:Int):=by omega
  obtain⟨b,off,rfl,s,_,⟨v,z1,z2,rfl⟩,z3⟩:=zCf (k:=k3*3) ((HC.o.spl IsI.kin HS3.o).spl IsI.kin d.o) (by omega)
  have j:Hid (Spl L w2 (wr.setCell ⟨b,off+k3*3,none⟩ (.int .i64 (-7)))):=d.o.trans (Spl.set z1 s (.inr (.inl ⟨⟨_,rfl⟩,_,rfl⟩)))
  clear s u J
  go_wp2_with fail
  go_roundw
  case rel=>exact⟨k3+1,by omega,by go_num,j.o⟩
  case measure=>simp[intOf];omega
 have q1:¬(k3:Int)<(e:Int):=by omega
 have HP:Hid (zAI L w (.returned (.tuple #[])) wr):=⟨rfl,HS3.o.trans d.o⟩
 go_wp2_with fail
 go_end0
 exact HP.o
end
end Go.Proofs.YtoglgeaiiipchaaGreatDoor
