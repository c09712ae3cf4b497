import Derived.Test.YtoglgeaiiipchaaGreatDoorLRY22
set_option linter.unusedSimpArgs false
set_option linter.unusedVariables false
set_option maxRecDepth 100000
set_option maxHeartbeats 8000000
namespace Go.Proofs.YtoglgeaiiipchaaGreatDoor
section
open Go Go.RowKit Go.Shelf
def kE:La:=⟨[],[0]⟩
def zAB:La:=⟨[1],[0]⟩
def zKk:La:=⟨[0],[0,0]⟩
theorem zFi (xs:List Int):xs.flatMap (fun n:Int=>[Value.int .i64 n])=xs.map (Value.int .i64):=by
 induction xs with
 |nil=>rfl
 |cons x r ih=>rw[List.flatMap_cons,List.map_cons,ih];rfl
theorem zBG {W:World} {b:Nat} {t:TypeId} {e:Nat×Nat} (xs:List Int) (h:W.heap[b]?=some (.cells (xs.map (Value.int .i64)).toArray t e)) (g:xs.length<=1000):zE W 0 (some ⟨b,0,none⟩) xs.length xs:=by
 refine⟨nLe,by omega,by omega,fun _=>⟨b,0,rfl,Nat.zero_le _,(gLt h),fun j u d=>?_⟩,Fz.zero⟩
 simp only[World.cell?,h,Nat.zero_add];rw[zFi] at d
 simpa using d
def zD6 (w:World):World:=(w.alloc (.cells #[(),.slice (some ⟨w.heap.size+1,0,none⟩) 1 1] 27)).alloc (.cells #[(0:Int)] 3)
theorem zEy (w:World):zE (zD6 w) w.heap.size (some ⟨w.heap.size+1,0,none⟩) 1 [0]/\Below w w (zD6 w):=by
 refine⟨?_,by unfold zD6;go_grown⟩
 refine⟨by decide,by omega,by decide,fun _=>⟨_,0,rfl,by omega,by unfold zD6;simp,fun j u d=>?_⟩,fun _ b off e j _=>by injection e with e;injection e with e1 e2;subst e1;unfold zD6;exact vR (.inl (by simp))⟩
 match j,d with
 |0,d=>simp at d;subst d;unfold zD6;go_simp
 |j+1,d=>simp at d
theorem zHj (w:World) (lo:Nat):zE w lo none 0 []:=⟨nLe,by omega,by decide,Rd.nil,Fz.no⟩
theorem zLh (w:World):Calls Tryz.prog 41 #[] w (zFQ w kE):=by
 have d:Hid (zFQ w kE (.returned (.agg #[(),.slice (some ⟨w.heap.size+1,0,none⟩) 1 1])) (zD6 w)):=
  ⟨none,some ⟨w.heap.size+1,0,none⟩,0,1,rfl,zHj _ _,(zEy w).1,(zEy w).2⟩
 go_enter Tryz.func41,Tryz.ntmps41
 go_wp2_with fail
 exact bodyPost_ret (by simp[results,Tryz.results41,go_sem]) rfl d.o
theorem zBh:ckL kE 2=0:=by decide +kernel
theorem zCk:tkB yT kE=true:=by
 have d:wK yT kE=0:=by unfold wK;rw[if_pos bJ];exact zBh
 have e:pV yT kE.at=true:=wQ.2 ⟨fun _=>0,by simp[yT],fun i=>by
  have:kE.at i=0:=by unfold La.at kE;simp[Nat.mod_one]
  rw[this]
  simp[yT],fun n=>⟨n,nLe,by unfold Au.good;simp[yT]⟩⟩
 unfold tkB;rw[d,e];rfl
theorem zIt:tkB yT zAB=false:=by
 have e:pV yT zAB.at=false:=by
  cases h:pV yT zAB.at with
  |false=>rfl
  |true=>
   obtain⟨r,g,d,_⟩:=wQ.1 h;have:=d 0
   simp[yT,La.at,zAB] at this
 unfold tkB;rw[e,Bool.and_false]
theorem zD7:wK yT kE=0/\wK yT zAB=0:=by
 unfold wK;rw[if_pos bJ,if_pos bJ];exact⟨zBh,by decide +kernel⟩
theorem dL:zGu zKk 2=kE/\ckL zKk 2=0/\atL zAB 2 0=1/\atE zAB 2 0=0/\ckL kE 1=0:=by
 refine⟨by decide +kernel,by decide +kernel,by decide +kernel,by decide +kernel,by decide +kernel⟩
theorem zFa (A B:Option Addr) (w:World) (j:zE w 0 A 1 [0]) (m:zE w 0 B 2 [0,0]):
  Calls Tryz.prog 24 #[.agg #[.slice A 1 1,.slice B 2 2],(2:Int)] w fun e w'=>∃A B ca cb,e=.returned (.tuple #[.agg #[.slice A 0 ca,.slice B 1 cb],(0:Int)])/\zE w' 0 A ca []/\zE w' 0 B cb [0]/\Below w w w':=by
 have:=zG4 A B 1 2 zKk 2 w j m;rw[dL.1,dL.2.1] at this;refine this.mono ?_;rintro e w' ⟨A,B,ca,cb,d,g,h,i⟩;exact⟨A,B,ca,cb,d,g.zero,h.zero,i⟩
theorem zBc (w:World):Calls Tryz.prog 41 #[] w fun e w'=>∃A B ca cb,e=.returned (.agg #[.slice A 0 ca,.slice B 1 cb])/\zE w' 0 A ca []/\zE w' 0 B cb [0]/\Below w w w':=
 (zLh w).mono fun e w' ⟨A,B,ca,cb,d,g,h,i⟩=>⟨A,B,ca,cb,d,g.zero,h.zero,i⟩
theorem zKc (A B:Option Addr) (w:World) (d:zE w 0 A 1 [1]) (e:zE w 0 B 1 [0]):
  Calls Tryz.prog 39 #[.agg #[.slice A 1 1,.slice B 1 1],(2:Int),(0:Int)] w (zCs w 1 0):=by
 have:=At_ A B 1 1 zAB 2 0 w d e (by decide)
 rwa[dL.2.2.1,dL.2.2.2.1] at this
theorem zE2 (A B C D E:Option Addr) (ca cb cc cd ce:Nat) (w:World) (h:zM w 0 yT A B C ca cb cc) (d:zE w 0 D cd []) (g:zE w 0 E ce [0]):
  Calls Tryz.prog 11 #[.agg #[(1:Int),(2:Int),.slice A 1 ca,.slice B 1 cb,.slice C 1 cc],.agg #[.slice D 0 cd,.slice E 1 ce]] w fun e w'=>e=.returned (.tuple #[true,(0:Int)])/\Below w w w':=by
 have:=eY yT A B C D E ca cb cc cd ce kE w h d g;unfold bW at this
 rwa[zCk,zD7.1] at this
theorem zF3 (A B C D E:Option Addr) (ca cb cc cd ce:Nat) (w:World) (h:zM w 0 yT A B C ca cb cc) (d:zE w 0 D cd [1]) (g:zE w 0 E ce [0]):
  Calls Tryz.prog 11 #[.agg #[(1:Int),(2:Int),.slice A 1 ca,.slice B 1 cb,.slice C 1 cc],.agg #[.slice D 1 cd,.slice E 1 ce]] w fun e w'=>e=.returned (.tuple #[false,(0:Int)])/\Below w w w':=by
 have:=eY yT A B C D E ca cb cc cd ce zAB w h d g;unfold bW at this
 rwa[zIt,zD7.2] at this
theorem zC3 (A B:Option Addr) (ca cb:Nat) (w:World) (d:zE w 0 A ca []) (g:zE w 0 B cb [0]):
  Calls Tryz.prog 42 #[.agg #[.slice A 0 ca,.slice B 1 cb],(1:Int)] w fun e w'=>e=.returned (.int .i64 0)/\Below w w w':=by
 have:=fY A B ca cb kE 1 w d g
 rwa[dL.2.2.2.2] at this
theorem zFD (A B C D:Option Addr) (ca cb cc cd:Nat) (w:World) (g:zE w 0 A ca []) (h:zE w 0 B cb [0]) (d:zE w 0 C cc []) (e:zE w 0 D cd [0]):
  Calls Tryz.prog 29 #[.agg #[.slice A 0 ca,.slice B 1 cb],.agg #[.slice C 0 cc,.slice D 1 cd]] w (xX w true):=
 eX A B C D ca cb cc cd kE kE w g h d e
theorem pJ {W:World} {b:Nat} {t:TypeId} {d:Nat×Nat} {x:Int} (h:W.heap[b]?=some (.cells #[x] t d)):zE W 0 (some ⟨b,0,none⟩) 1 [x]:=zBG [x] h (by simp)
theorem zCr {W:World} {b:Nat} {t:TypeId} {d:Nat×Nat} {x y:Int} (h:W.heap[b]?=some (.cells #[x,y] t d)):zE W 0 (some ⟨b,0,none⟩) 2 [x,y]:=zBG [x,y] h (by simp)
theorem bN (W:World) (d e:Obj):((W.alloc d).alloc e).heap[W.heap.size]?=some d/\((W.alloc d).alloc e).heap[W.heap.size+1]?=some e/\Below W W ((W.alloc d).alloc e):=
 ⟨by rw[Below.heap_alloc _ _ _ (by simp)];exact World.alloc_heap_new _ _,by have:=World.alloc_heap_new (W.alloc d) e;rwa[World.size_alloc] at this,(bLa).alloc (by simp) _⟩
theorem zD9 (w:World):Calls Tryz.prog 8 #[] w (xX w true):=by
 have H1:=hId (bN w (.cells #[(0:Int)] 3) (.cells #[(0:Int),(0:Int)] 3))
 go_enter Tryz.func8,Tryz.ntmps8
 go_wp2_with fail
 refine(zFa _ _ _ (pJ H1.o.1) (zCr H1.o.2.1)).mono ?_;rintro e K ⟨s,u,d,g,rfl,hlh,hll,hc⟩;have j:Below K K (K.alloc (.cells #[.slice s 0 d,.slice u 1 g] 27)):=bLa
 have h4:Hid (Below w w (K.alloc (.cells #[.slice s 0 d,.slice u 1 g] 27))):=zA (zA H1.o.2.2 hc H1.o.2.2.size) j (Nat.le_trans H1.o.2.2.size hc.size)
 have HLH:=hId (hlh.below j);have HLL:=hId (hll.below j);have HX:Hid ((K.alloc (.cells #[.slice s 0 d,.slice u 1 g] 27)).heap[K.heap.size]?=some (.cells #[.slice s 0 d,.slice u 1 g] 27)):=World.alloc_heap_new _ _
 have H2:=hId (bN (K.alloc (.cells #[.slice s 0 d,.slice u 1 g] 27)) (.cells #[(1:Int)] 3) (.cells #[(0:Int)] 3));rw[World.size_alloc] at H2;clear H1 hc hlh hll j
 go_wp2_with fail
 refine(zKc _ _ _ (pJ H2.o.1) (pJ H2.o.2.1)).mono ?_;rintro e w2 ⟨rfl,hb2⟩;obtain⟨X,hX⟩:∃X,X=K.heap.size:=⟨_,rfl⟩;rw[<-hX] at HX ⊢
 have hXl:X<(K.alloc (.cells #[.slice s 0 d,.slice u 1 g] 27)).heap.size:=by simp[hX]
 have i:=zA (show Below (K.alloc (.cells #[.slice s 0 d,.slice u 1 g] 27)).heap.size _ _ by rw[World.size_alloc];exact H2.o.2.2) hb2 (by simp)
 have hb:Hid (w2.heap[X]?=some (.cells #[.slice s 0 d,.slice u 1 g] 27)):=(i.block X hXl).trans HX.o
 have h5:Hid (Below w w w2):=zA h4.o i h4.o.size
 have h1:=hId (HLH.o.below i);have h2:=hId (HLL.o.below i);clear H2 hb2 i HX HLH HLL h4 hXl hX
 go_wp2_with fail
 refine(tU w2).mono ?_;rintro e w3 ⟨A3,B3,C3,ca3,cb3,cc3,rfl,hr3,i⟩;have h6:=hId i;have HR3:=hId hr3;clear i hr3
 go_wp2_with fail
 refine(zBc w3).mono ?_;rintro e w4 ⟨D4,E4,cd4,ce4,rfl,hh4,hl4,hd⟩;have h8:=hId (zA h6.o hd h6.o.size);have HR4:=hId (HR3.o.below hd);have HH4:=hId hh4;have HL4:=hId hl4;clear hd hh4 hl4 HR3 h6
 go_wp2_with fail
 refine(zE2 A3 B3 C3 D4 E4 ca3 cb3 cc3 cd4 ce4 w4 HR4.o HH4.o HL4.o).mono ?_;rintro e w5 ⟨rfl,hb5⟩;have h9:=hId (zA h8.o hb5 h8.o.size);clear hb5 HH4 HL4 HR4 h8
 go_wp2_with fail
 refine(tU w5).mono ?_;rintro e w6 ⟨A6,B6,C6,ca6,cb6,cc6,rfl,hr6,hb6⟩;have O:=hId (zA h9.o hb6 h9.o.size);have HR6:=hId hr6;have H6:=hId (bN w6 (.cells #[(1:Int)] 3) (.cells #[(0:Int)] 3));clear hb6 hr6 h9
 go_wp2_with fail
 refine(zF3 A6 B6 C6 _ _ ca6 cb6 cc6 1 1 _ (HR6.o.below H6.o.2.2) (pJ H6.o.1) (pJ H6.o.2.1)).mono ?_;rintro e N ⟨rfl,hb7⟩;have J:Hid (Below w2 w2 N):=zA (zA O.o H6.o.2.2 O.o.size) hb7 (Nat.le_trans O.o.size H6.o.2.2.size)
 clear H6 hb7 O HR6;have h3:X<w2.heap.size:=(gLt hb.o);have HX7:Hid (N.heap[X]?=some (.cells #[.slice s 0 d,.slice u 1 g] 27)):=(J.o.block X h3).trans hb.o;have HLH7:=hId (h1.o.below J.o);have HLL7:=hId (h2.o.below J.o)
 have HW7:Hid (Below w w N):=zA h5.o J.o h5.o.size
 clear hb h1 h2 J h5 h3
 go_wp2_with fail
 have h:Hid (∀ W,Below N N W->W.cell? ⟨X,0,none⟩=some (.slice s 0 d)/\W.cell? ⟨X,1,none⟩=some (.slice u 1 g)):=by
  intro W hW;have hl:X<N.heap.size:=(gLt HX7.o);have h7:=(hW.block X hl).trans HX7.o;exact⟨by simp[World.cell?,h7],by simp[World.cell?,h7]⟩
 obtain⟨x0,x1⟩:=h.o N bRf;have hw7:N.heap.size<=N.heap.size:=nLe
 go_region_held3 (fun w'=>w'.cell? ⟨X,0,none⟩=some (.slice s 0 d)/\w'.cell? ⟨X,1,none⟩=some (.slice u 1 g))
  (first|go_keep|exact⟨q0,q1⟩)
  (first
   |(go_at_call 29;refine(zFD s u _ _ d g _ _ _ (HLH7.o.below m.o) (HLL7.o.below m.o) HHC.o HLC.o).mono ?_;rintro e wd ⟨rfl,hbd⟩;have ha:=hId (zA m.o hbd m.o.size);have q0:=(h.o _ ha.o).1;have q1:=(h.o _ ha.o).2)
   |(go_at_call 41;refine(zBc _).mono ?_;rintro e wc ⟨Dc,Ec,cdc,cec,rfl,hhc,hlc,hbc⟩;have m:=hId (zA h0.o hbc h0.o.size);have HHC:=hId hhc;have HLC:=hId hlc;have q0:=(h.o _ m.o).1;have q1:=(h.o _ m.o).2)
   |(go_at_call 42;refine(zC3 _ _ _ _ _ HHA.o HLA.o).mono ?_;rintro e wb ⟨rfl,hbb⟩;have h0:=hId (zA U.o hbb U.o.size);have q0:=(h.o _ h0.o).1;have q1:=(h.o _ h0.o).2)
   |(go_at_call 41;refine(zBc _).mono ?_;rintro e wa ⟨Da,Ea,cda,cea,rfl,hha,hla,j⟩;have U:=hId (zA ((Below.refl _ N).drew) j hw7);have HHA:=hId hha;have HLA:=hId hla;have q0:=(h.o _ U.o).1;have q1:=(h.o _ U.o).2))
 all_goals
  have HP:Hid (xX w true (.returned (.bool true)) wd):=⟨rfl,zA HW7.o ha.o HW7.o.size⟩
  clear q0 q1 x0 x1 j hbb hbc hbd h hhc hlc hha hla
  go_wp2_with fail
  go_ret
  exact HP.o
def rB (f:List Nd):List UInt8:=if ckF f=0 then(zB f (f.length-1)).show else[]
theorem zGX (F:Option Addr) (fc:Nat) (f:List Nd) (w:World) (i:Nds w 0 F fc f):
  Calls Tryz.prog 56 #[.slice F f.length fc] w fun e w'=>e=.returned (.tuple #[.string (sb (rB f)),(ckF f)])/\Below w w w':=by
 have h1:=i.le;have h0:=i.cap;have J:=hId (jW F fc f w i);have N:=hId i;clear i
 go_enter Tryz.func56,Tryz.ntmps56
 go_wp2_with fail
 refine J.o.mono ?_;rintro e w1 ⟨rfl,g⟩;have d:=hId g;clear g J
 by_cases hc:ckF f=0
 ·have u:=cM.1 hc
  have hn:=u.pos;have s:f.length-1<f.length:=by omega
  have O:=hId (zLp f F fc w N.o u (f.length-1) s w1 d.o);have m:Hid (rB f=(zB f (f.length-1)).show):=by unfold Hid rB;rw[if_pos hc]
  have K:=hId hc;have e1:((f.length:Int)-1)=((f.length-1:Nat):Int):=by omega
  have U:(ckF f !=0)=false:=by simp[hc]
  clear hc u hn
  go_wp2_with fail
  refine O.o.mono ?_;rintro e w2 ⟨rfl,h⟩;have j:=hId (zA d.o h d.o.size);clear h
  go_wp2_with fail
  go_ret2
  exact⟨zGn (by rw[m.o]) K.o.symm,j.o⟩
 have m:Hid (rB f=[]):=by unfold Hid rB;rw[if_neg hc]
 have U:(ckF f !=0)=true:=by simpa using hc
 clear hc
 go_wp2
 go_ret2
 exact⟨zGn (by rw[m.o];rfl) rfl,d.o⟩
end
section
open Go Go.RowKit
def kB:List Nd:=[⟨2,0,0,0⟩,⟨2,0,0,1⟩,⟨7,0,1,0⟩]
theorem zIs {w':World} {b:Nat} (e:b<w'.heap.size) (h:w'.heap[b]?=some (.cells #[Value.int IntKind.i64 2,Value.int IntKind.i64 0,Value.int IntKind.i64 0,Value.int IntKind.i64 0,
   Value.int IntKind.i64 2,Value.int IntKind.i64 0,Value.int IntKind.i64 0,Value.int IntKind.i64 1,
   Value.int IntKind.i64 7,Value.int IntKind.i64 0,Value.int IntKind.i64 1,Value.int IntKind.i64 0] 63)):Nds w' 0 (some ⟨b,0,none⟩) 3 kB:=by
 refine⟨by decide,by omega,by decide,fun _=>⟨b,0,rfl,Nat.zero_le _,e,fun j u d=>?_⟩,Fz.zero⟩
 simp only[World.cell?,h];simp only[kB,List.flatMap_cons,List.flatMap_nil,Nd.cells,List.cons_append,List.nil_append,List.append_nil] at d
 simpa using d
def zEb (w:World) (e:Ending) (w':World):Prop:=∃b,e=.returned (.slice (some ⟨b,0,none⟩) 3 3)/\Nds w' 0 (some ⟨b,0,none⟩) 3 kB/\Below w w w'
theorem rC (w:World):Calls Tryz.prog 57 #[] w (zEb w):=by
 have d:Hid (zEb w (.returned (.slice (some ⟨w,0,none⟩) 3 3)) (w.alloc (.cells #[Value.int IntKind.i64 2,Value.int IntKind.i64 0,Value.int IntKind.i64 0,Value.int IntKind.i64 0,
   Value.int IntKind.i64 2,Value.int IntKind.i64 0,Value.int IntKind.i64 0,Value.int IntKind.i64 1,
   Value.int IntKind.i64 7,Value.int IntKind.i64 0,Value.int IntKind.i64 1,Value.int IntKind.i64 0] 63))):=
  ⟨_,rfl,zIs (by simp) Array.getElem?_push_size,bLa⟩
 go_enter Tryz.func57,Tryz.ntmps57
 go_wp2_with fail
 go_ret
 exact d.o
end
section
open Go Go.RowKit Go.Sort
def zDq:List Nd:=[⟨2,0,0,0⟩,⟨3,0,0,0⟩,⟨2,0,0,1⟩,⟨3,2,0,0⟩,⟨8,1,3,0⟩]
def zIA:List UInt8:=[40,112,48,32,85,32,112,49,41]
def zLC:List UInt8:=[40,33,112,48,32,82,32,33,112,49,41]
theorem zJS:rB kB=zIA:=by decide +kernel
theorem zGh:ckF kB=0:=by decide +kernel
theorem zJ2:zAH kB=zDq:=by decide +kernel
theorem zKh:zBm kB=0:=by decide +kernel
theorem zJD:rB zDq=zLC:=by decide +kernel
theorem zJE:ckF zDq=0:=by decide +kernel
theorem zJ9:sX zIA=(kB,0,0):=by decide +kernel
theorem zIx {b:Nat} {w:World} (d:Nds w 0 (some ⟨b,0,none⟩) 3 kB):Calls Tryz.prog 56 #[.slice (some ⟨b,0,none⟩) 3 3] w fun e w'=>e=.returned (.tuple #[.string ⟨#[40,112,48,32,85,32,112,49,41]⟩,(0:Int)])/\Below w w w':=by
 have:=zGX _ _ kB w d;rw[zJS,zGh] at this;exact this
theorem zIr {b:Nat} {w:World} (d:Nds w 0 (some ⟨b,0,none⟩) 3 kB):Calls Tryz.prog 59 #[.slice (some ⟨b,0,none⟩) 3 3] w fun e w'=>e=.returned (.int .i64 0)/\Below w w w':=by
 have:=jW _ _ kB w d;rw[zGh] at this;exact this
theorem zH1 (w:World):Calls Tryz.prog 58 #[.string ⟨#[40,112,48,32,85,32,112,49,41]⟩] w fun e w'=>∃A c,e=.returned (.tuple #[.slice A 3 c,(0:Int),(0:Int)])/\Nds w' w.heap.size A c kB/\Below w w w':=by
 have:=zJr zIA (sb zIA) (aM _) (zJJ _) w;rw[zJ9] at this;exact this
theorem zGE {b:Nat} {w:World} (d:Nds w 0 (some ⟨b,0,none⟩) 3 kB):Calls Tryz.prog 25 #[.slice (some ⟨b,0,none⟩) 3 3] w fun e w'=>∃A c,e=.returned (.tuple #[.slice A 5 c,(0:Int)])/\Nds w' w.heap.size A c zDq/\Below w w w':=by
 have:=zEk _ _ kB w d;rw[zJ2,zKh] at this;exact this
theorem zIo {A:Option Addr} {c:Nat} {w:World} (d:Nds w 0 A c zDq):Calls Tryz.prog 56 #[.slice A 5 c] w fun e w'=>e=.returned (.tuple #[.string ⟨#[40,33,112,48,32,82,32,33,112,49,41]⟩,(0:Int)])/\Below w w w':=by
 have:=zGX _ _ zDq w d;rw[zJD,zJE] at this;exact this
theorem zJM {A B:Option Addr} {ca cb:Nat} {w:World} (d:Nds w 0 A ca kB) (g:Nds w 0 B cb kB):Calls Tryz.prog 30 #[.slice A 3 ca,.slice B 3 cb] w fun e w'=>e=.returned (.bool true)/\Below w w w':=by
 have:=sF A B ca cb kB kB w d g;rw[show decide (kB=kB)=true by simp] at this
 exact this
def zJt (w:World) (e:Ending) (w':World):Prop:=e=.returned (.bool true)/\Below w w w'
theorem oP (w:World):Calls Tryz.prog 14 #[] w (zJt w):=by
 go_enter Tryz.func14,Tryz.ntmps14
 go_wp2_with fail
 refine(rC w).mono ?_;rintro e w1 ⟨b1,rfl,hk,hh⟩;have K:=hId hh;have h6:=hId (zIx hk);clear hh hk
 go_wp2_with fail
 refine h6.o.mono ?_;rintro e w2 ⟨rfl,hi⟩;have O:=hId (zA K.o hi K.o.size);clear hi h6
 go_wp2_with fail
 refine(zH1 w2).mono ?_;rintro e w3 ⟨A3,c3,rfl,d,hj⟩;have U:=hId (zA O.o hj O.o.size);have ho:=hId d;have hp:=d.le;have hr:=d.cap;simp only[kB,List.length_cons,List.length_nil] at hp;clear hj d
 go_wp2_with fail
 refine(rC w3).mono ?_;rintro e w4 ⟨b4,rfl,hl,i⟩;have h0:=hId (zA U.o i U.o.size);have hb:=hId (ho.o.below i);have h7:=hId (zGE hl);clear i hl
 go_wp2_with fail
 refine h7.o.mono ?_;rintro e w5 ⟨A5,c5,rfl,g,j⟩;have h1:=hId (zA h0.o j h0.o.size);have hc:=hId (hb.o.below j);have h8:=hId (zIo g.zero);have hq:=g.le;have hs:=g.cap
 simp only[zDq,List.length_cons,List.length_nil] at hq;clear j g h7
 go_wp2_with fail
 refine h8.o.mono ?_;rintro e w6 ⟨rfl,m⟩;have h2:=hId (zA h1.o m h1.o.size);have hd:=hId (hc.o.below m);clear m h8
 go_wp2_with fail
 refine(rC w6).mono ?_;rintro e w7 ⟨b7,rfl,hm,s⟩;have h3:=hId (zA h2.o s h2.o.size);have he:=hId (hd.o.below s);have h9:=hId (zIr hm);clear s hm
 go_wp2_with fail
 refine h9.o.mono ?_;rintro e w8 ⟨rfl,u⟩;have h4:=hId (zA h3.o u h3.o.size);have hf:=hId (he.o.below u);clear u h9
 go_wp2_with fail
 refine(rC w8).mono ?_;rintro e w9 ⟨b9,rfl,hn,J⟩;have h5:=hId (zA h4.o J h4.o.size);have hg:=hId (hf.o.below J);have ha:=hId (zJM hg.o.zero hn);clear J hn
 go_wp2_with fail
 refine ha.o.mono ?_;rintro e ht ⟨rfl,h⟩;have N:=hId (zA h5.o h h5.o.size);clear h ha
 go_wp2_with fail
 go_ret
 exact⟨rfl,N.o⟩
end
section
open Go Go.RowKit Go.Shelf
def pZ (f:List Nd) (l:La):Bool:=if ckT f l=0 then gB (kU l f) (f.length-1) 0 else false
theorem zGv {a a':Bool} {b d:Int} (e:a=a') (g:b=d):Ending.returned (.tuple #[a,b])=Ending.returned (.tuple #[a',d]):=by rw[e,g]
theorem zLf {f:List Nd} {l:La} (h:ckT f l=0):ckF f=0/\ckL l 8=0:=by
 unfold ckT at h
 split at h
 ·exact⟨by assumption,h⟩
 rename_i h1;exact absurd h h1
theorem uU (l:La) (f:List Nd):∀r∈kU l f,r.length=l.n:=bO l f f.length
theorem eJ (l:La) (f:List Nd):(kU l f).length=f.length:=jA l f f.length
theorem zIk {f:List Nd} {l:La} (h:ckT f l=0):0<f.length/\f.length<=12/\l.n<=8000/\0<l.n/\l.h.length<l.n:=by
 obtain⟨d,e⟩:=zLf h;have a:=zDN d;have b:=lZ e;unfold La.n;omega
theorem zJZ (F:Option Addr) (fc:Nat) (f:List Nd) (A B:Option Addr) (ca cb:Nat) (l:La) (w:World) (hf:Nds w 0 F fc f) (hh:zE w 0 A ca l.h) (hl:zE w 0 B cb l.l):
  Calls Tryz.prog 60 #[.slice F f.length fc,.agg #[.slice A l.h.length ca,.slice B l.l.length cb]] w fun e w'=>e=.returned (.tuple #[.bool (pZ f l),(ckT f l)])/\Below w w w':=by
 have hle:=hf.le;have hcp:=hf.cap;have K:=hId ((Below.refl w.heap.size w).alloc nLe (.cells #[Value.slice A l.h.length ca,Value.slice B l.l.length cb] 27))
 have HT:=hId (zDO F fc f A B ca cb l (w.alloc (.cells #[Value.slice A l.h.length ca,Value.slice B l.l.length cb] 27)) (hf.below K.o) (hh.below K.o) (hl.below K.o))
 go_enter Tryz.func60,Tryz.ntmps60
 go_wp2_with fail
 refine HT.o.mono ?_;rintro e w1 ⟨u,N⟩;have s:=hId (zA K.o u (by simp))
 clear u
 by_cases hc:ckT f l=0
 ·rw[if_pos hc] at N
  obtain⟨v,gs,rfl,i⟩:=N;obtain⟨T,tc,hv,j⟩:=zF i.own;clear j;subst hv;have hlim:=zIk hc;have m:=eJ l f;have d:=i.rows (by omega) (fun r hr=>by rw[uU l f r hr];omega)
  have hk:f.length-1<(kU l f).length:=by omega
  have hcp2:=d.cap;have J:=d.le;obtain⟨b,o,rfl,hbl,A',c',h1,g⟩:=d.rd (f.length-1) hk;have hrl:((kU l f)[f.length-1]).length=l.n:=uU l f _ (List.getElem_mem hk)
  have h0:0<((kU l f)[f.length-1]).length:=by omega
  have hcp3:=g.cap;have hle3:=g.le;obtain⟨b2,o2,rfl,_,_,U⟩:=xG.at_ g h0;rw[Nat.add_zero] at U
  have O:=hId (show pZ f l=((kU l f)[f.length-1])[0] by
   unfold pZ;rw[if_pos hc]
   simp[gB,hk,h0])
  have HC:=hId hc;have e1:((f.length:Int)-1)=((f.length-1:Nat):Int):=by omega
  have e2:(ckT f l !=0)=false:=by simp[hc]
  have hn:f.length-1<f.length:=by omega
  clear i d hrl g hc;generalize (kU l f)[f.length-1]=rw1 at *;rw[m];rw[m] at J;have h00:(0:Int)<(rw1.length:Int):=by omega
  clear m
  go_wp2_with fail
  go_ret2
  exact⟨zGv O.o.symm HC.o.symm,s.o⟩
 rw[if_neg hc] at N;subst N;have O:=hId (show pZ f l=false by unfold pZ;rw[if_neg hc])
 have e2:(ckT f l !=0)=true:=by simpa using hc
 clear hc
 go_wp2
 go_ret2
 exact⟨zGv O.o.symm rfl,s.o⟩
def dE:La:=⟨[1,2],[0]⟩
theorem zAJ:ckT kB dE=0:=by decide +kernel
theorem zGZ:kU dE kB=[[true,false,false],[false,true,false],[true,true,false]]:=by decide +kernel
def hbW (w:World):World:=((w.alloc (.cells #[Value.int IntKind.i64 1,Value.int IntKind.i64 2] 3)).alloc
   (.cells #[Value.int IntKind.i64 0] 3)).alloc
 (Obj.cells
  #[Value.slice (some ⟨w,0,none⟩) 2 2,
   Value.slice (some ⟨w.heap.size+1,0,none⟩) 1 1]
  27)
structure HbW (w W:World):Prop where
 below:Below w w W
 size:W.heap.size=w.heap.size+1+1+1
 l0:W.cell? ⟨w.heap.size+1+1,0,none⟩=some (.slice (some ⟨w,0,none⟩) 2 2)
 l1:W.cell? ⟨w.heap.size+1+1,1,none⟩=some (.slice (some ⟨w.heap.size+1,0,none⟩) 1 1)
 h:zE W 0 (some ⟨w,0,none⟩) 2 dE.h
 l:zE W 0 (some ⟨w.heap.size+1,0,none⟩) 1 dE.l
theorem zJW (w:World):HbW w (hbW w):=by
 unfold hbW;refine⟨by go_grown,by simp,by go_simp,by go_simp,?_,?_⟩
 ·refine⟨by decide,by omega,by decide,fun _=>⟨_,0,rfl,Nat.zero_le _,by simp;omega,fun j u d=>?_⟩,Fz.zero⟩
  match j,d with
  |0,d=>simp[dE] at d;subst d;go_simp
  |1,d=>simp[dE] at d;subst d;go_simp
  |j+2,d=>simp[dE] at d
 refine⟨by decide,by omega,by decide,fun _=>⟨_,0,rfl,Nat.zero_le _,by simp,fun j u d=>?_⟩,Fz.zero⟩
 match j,d with
 |0,d=>simp[dE] at d;subst d;go_simp
 |j+1,d=>simp[dE] at d
theorem zEY {fb V:Nat} {w:World} (d:Nds w 0 (some ⟨fb,0,none⟩) 3 kB) (g:zE w 0 (some ⟨V,0,none⟩) 2 dE.h) (i:zE w 0 (some ⟨V+1,0,none⟩) 1 dE.l):
  Calls Tryz.prog 60 #[.slice (some ⟨fb,0,none⟩) 3 3,.agg #[.slice (some ⟨V,0,none⟩) 2 2,.slice (some ⟨V+1,0,none⟩) 1 1]] w fun e w'=>e=.returned (.tuple #[true,(0:Int)])/\Below w w w':=by
 have:=zJZ _ _ kB _ _ _ _ dE w d g i;rw[show pZ kB dE=true by decide +kernel,zAJ] at this
 exact this
theorem zFH {w:World} {lo:Nat} {v:Value} {gs:List Nat} (h:tT w lo v [[true,false,false],[false,true,false],[true,true,false]] gs):
  ∃j m e g,v=.slice (some ⟨j,m,none⟩) 3 e/\3<=e/\e<=9223372036854775807/\w.cell? ⟨j,m+2,none⟩=some (.slice (some ⟨g,0,none⟩) 3 3)/\w.cell? ⟨g,0,none⟩=some (.bool true)/\w.cell? ⟨g,1,none⟩=some (.bool true)/\w.cell? ⟨g,2,none⟩=some (.bool false):=by
 obtain⟨A,c,U,s,u,J,_⟩:=zF h.own;have O:=h.len
 match gs,O with
 |[g0,g1,g2],_=>
  obtain⟨b,off,K,_,hb,N⟩:=J (by simp)
  obtain⟨d,h5,h6⟩:=h.row 2 (by decide) (by simp)
  refine⟨b,off,c,g2,by rw[U,K];rfl,s,u,N 2 _ rfl,(d.cell (i:=0) (by decide)).1,(d.cell (i:=1) (by decide)).1,(d.cell (i:=2) (by decide)).1⟩
theorem zEU {fb V:Nat} {w:World} (hf:Nds w 0 (some ⟨fb,0,none⟩) 3 kB) (hh:zE w 0 (some ⟨V,0,none⟩) 2 dE.h) (hl:zE w 0 (some ⟨V+1,0,none⟩) 1 dE.l):
  Calls Tryz.prog 27 #[.slice (some ⟨fb,0,none⟩) 3 3,.agg #[.slice (some ⟨V,0,none⟩) 2 2,.slice (some ⟨V+1,0,none⟩) 1 1]] w fun e w'=>
   ∃i j d g,e=.returned (.tuple #[.slice (some ⟨i,j,none⟩) 3 d,(0:Int)])/\3<=d/\d<=9223372036854775807/\w'.cell? ⟨i,j+2,none⟩=some (.slice (some ⟨g,0,none⟩) 3 3)/\w'.cell? ⟨g,0,none⟩=some (.bool true)/\w'.cell? ⟨g,1,none⟩=some (.bool true)/\w'.cell? ⟨g,2,none⟩=some (.bool false)/\Below w w w':=by
 have:=zDO _ _ kB _ _ _ _ dE w hf hh hl;refine Calls.mono this ?_;rintro e w' ⟨U,m⟩;rw[zAJ,if_pos rfl,zGZ] at m;obtain⟨v,gs,rfl,ht⟩:=m;obtain⟨i,j,d,g,rfl,s,u,J,K,N,O⟩:=zFH ht
 exact⟨i,j,d,g,rfl,s,u,J,K,N,O,U⟩
theorem zB3 (w:World):Calls Tryz.prog 15 #[] w fun e w'=>e=.returned (.bool true)/\Below w w w':=by
 have u:=hId (zJW w)
 go_enter Tryz.func15,Tryz.ntmps15
 go_wp2_with fail
 change Code.wp _ _ _ _ (hbW w);generalize hbW w=W0 at *;obtain⟨V,hV⟩:∃V,V=w.heap.size:=⟨_,rfl⟩;obtain⟨X,hX⟩:∃X,X=w.heap.size+1+1:=⟨_,rfl⟩
 have HWV:Hid (W0.cell? ⟨X,0,none⟩=some (.slice (some ⟨V,0,none⟩) 2 2)/\W0.cell? ⟨X,1,none⟩=some (.slice (some ⟨V+1,0,none⟩) 1 1)/\X<W0.heap.size/\zE W0 0 (some ⟨V,0,none⟩) 2 dE.h/\zE W0 0 (some ⟨V+1,0,none⟩) 1 dE.l):=by
  rw[hX,hV];exact⟨u.o.l0,u.o.l1,by have:=u.o.size;omega,u.o.h,u.o.l⟩
 rw[<-hX,<-hV];have HV:=hId hV;clear hX hV;obtain⟨x0,x1,x2,HI,HL⟩:=HWV.o;have U:=hId HI;have h1:=hId HL;clear HI HL
 go_region_held3 (fun w'=>w'.cell? ⟨X,0,none⟩=some (.slice (some ⟨V,0,none⟩) 2 2)/\w'.cell? ⟨X,1,none⟩=some (.slice (some ⟨V+1,0,none⟩) 1 1))
  (first|go_keep|exact⟨m,s⟩)
  (first
   |(go_at_call 57;refine(rC _).mono ?_;rintro e w3 ⟨fb,rfl,hf,K⟩;have d:Below W0 W0 w3:=(Below.refl _ W0).drew.trans K;have x3:X<w3.heap.size:=by{have:=d.size;omega};have m:=(qZ d x2).trans x0;have s:=(qZ d x2).trans x1)
   |(go_at_call 60;refine(zEY (fb:=fb) (V:=V) (w:=w3) hf (U.o.below d) (h1.o.below d)).mono ?_;rintro e w4 ⟨rfl,i⟩;have q2:=(qZ i x3).trans m;have q3:=(qZ i x3).trans s;clear m s;have m:=q2;have s:=q3))
 have y0:=m;have y1:=s;clear m s q2 q3 x0 x1 x2 hf K;have x4:X<w4.heap.size:=by have:=i.size;omega
 have h0:=hId ((U.o.below d).below i);have h2:=hId ((h1.o.below d).below i)
 have O:Hid (Below V w w4):=by
  rw[HV.o];exact zA (zA u.o.below d u.o.below.size) i (by have:=d.size;have:=u.o.size;omega)
 have hV4:V<w4.heap.size:=by have:=O.o.size;have:=u.o.size;have:=d.size;have:=i.size;rw[HV.o];omega
 clear d i x3
 go_wp2_with fail
 go_region_held3 (fun w'=>w'.cell? ⟨X,0,none⟩=some (.slice (some ⟨V,0,none⟩) 2 2)/\w'.cell? ⟨X,1,none⟩=some (.slice (some ⟨V+1,0,none⟩) 1 1))
  (first|go_keep|exact⟨m,s⟩)
  (first
   |(go_at_call 57;refine(rC _).mono ?_;rintro e w5 ⟨fb,rfl,hf,N⟩;have j:Below w4 w4 w5:=(Below.refl _ w4).drew.trans N;have x5:X<w5.heap.size:=by{have:=j.size;omega};have m:=(qZ j x4).trans y0;have s:=(qZ j x4).trans y1)
   |(go_at_call 27;refine(zEU (fb:=fb) (V:=V) (w:=w5) hf (h0.o.below j) (h2.o.below j)).mono ?_;rintro e w6 ⟨tb,tq,tc,g,rfl,t1,t2,t3,t4,t5,t6,J⟩;have q2:=(qZ J x5).trans m;have q3:=(qZ J x5).trans s;clear m s;have m:=q2;have s:=q3))
 clear m s q2 q3 y0 y1 hf N
 have HP:Hid (Below w w w6):=by
  have:=zA (zA O.o j (by omega)) J (by have:=j.size;omega)
  rw[HV.o] at this;exact this
 clear j J
 go_wp2_with fail
 go_ret
 exact⟨rfl,HP.o⟩
end
section
theorem zDX {a b:Au} (h:fC a b=0):ckA (qH a b)=0/\(qH a b).st=a.st+b.st/\(qH a b).le=a.le/\∀u,xJ (qH a b) u↔xJ a u\/xJ b u:=by
 have j:qH a b=jG a b:=if_pos h
 have g:jE a b=0:=by
  unfold fC at h
  split at h
  ·assumption
  exact h
 unfold fC at h;rw[if_pos g] at h
 have m:¬(300<a.st+b.st\/6000<(a.ss.length:Int)+b.ss.length):=by
  split at h
  ·cases h
  assumption
 obtain⟨d,e,i⟩:=bH.1 g;rw[j];exact⟨zFc d e (by omega) (by omega) i,rfl,rfl,zBi (yP.1 d).1 (yP.1 e).1⟩
theorem zCL {a b:Au} (h:gW a b=0):ckA (gH a b)=0/\(gH a b).st=3*a.st*b.st/\(gH a b).le=a.le/\∀u,xJ (gH a b) u↔xJ a u/\xJ b u:=by
 have N:gH a b=fO a b (dd (zR (rG a b))):=if_pos h
 have m:jE a b=0:=by
  unfold gW at h
  split at h
  ·assumption
  exact h
 unfold gW at h;rw[if_pos m] at h
 have hn:¬(300<3*a.st*b.st\/6000<jP a b):=by
  split at h
  ·cases h
  assumption
 obtain⟨J,K,U⟩:=bH.1 m;obtain⟨g,O⟩:=yP.1 J;obtain⟨i,sb⟩:=yP.1 K;have d:=zKa (a:=a) (b:=b) (fun s e=>(g.sr s e).1) (fun s e=>(i.sr s e).1)
 have e:=zAW (rG a b);have j:=Nat.le_trans e.len (zBb a b);rw[N];exact⟨(zGJ (g.fit O) (i.fit sb) d e).ok (by show 3*a.st*b.st<=300;omega) (by show(dd (zR (rG a b))).length<=6000;omega),rfl,rfl,zD4 g i (zHT g i d e)⟩
def vV:Au:=⟨1,2,[],[false],[]⟩
theorem zIG:ckA vV=0:=by decide +kernel
theorem zCK (u:Nat->Int):¬xJ vV u:=fun⟨r,d,_,_⟩=>by simp[vV] at d
theorem rH:xJ yT kE.at:=by
 have h:=zCk;unfold tkB at h;rw[zD7.1] at h;exact wQ.1 (by simpa using h)
theorem zI9:fC yT vV=0:=by decide +kernel
theorem zGH:gW yT yT=0:=by decide +kernel
theorem zKU:tkB (qH yT vV) kE=true/\wK (qH yT vV) kE=0:=by
 obtain⟨e,j,g,h⟩:=zDX zI9;have d:wK (qH yT vV) kE=0:=by unfold wK;rw[if_pos e,g];exact zBh
 have i:pV (qH yT vV) kE.at=true:=wQ.2 ((h _).2 (.inl rH))
 exact⟨by unfold tkB;rw[d,i];rfl,d⟩
end
section
open Go Go.RowKit Go.Shelf Go.Sort
def aD (w:World):World:=(w.alloc (.cells #[(1:Int),(2:Int),(),.slice (some ⟨w.heap.size+1,0,none⟩) 1 1,()] 31)).alloc (.cells #[false] 4)
theorem zCl (w:World):zM (aD w) w.heap.size vV none (some ⟨w.heap.size+1,0,none⟩) none 0 1 0/\Below w w (aD w):=by
 refine⟨⟨⟨by decide,by omega,by decide,Rd.nil,Fz.no⟩,?_,⟨by decide,by omega,by decide,Rd.nil,Fz.no⟩⟩,by unfold aD;go_grown⟩
 refine⟨by decide,by omega,by decide,fun _=>⟨_,0,rfl,by omega,by unfold aD;simp,fun j u d=>?_⟩,fun _ b off e j _=>by injection e with e;injection e with e1 e2;subst e1;unfold aD;exact vR (.inl (by simp))⟩
 match j,d with
 |0,d=>simp[vV] at d;subst d;unfold aD;go_simp
 |j+1,d=>simp[vV] at d
theorem zGI (w:World):Calls Tryz.prog 61 #[] w fun e w'=>∃A B C ca cb cc,e=.returned (.agg #[(1:Int),(2:Int),.slice A 0 ca,.slice B 1 cb,.slice C 0 cc])/\zM w' 0 vV A B C ca cb cc/\Below w w w':=by
 have d:Hid (∃ A B C ca cb cc,Ending.returned (.agg #[(1:Int),(2:Int),(),.slice (some ⟨w.heap.size+1,0,none⟩) 1 1,()])=.returned (.agg #[(1:Int),(2:Int),.slice A 0 ca,.slice B 1 cb,.slice C 0 cc])/\zM (aD w) 0 vV A B C ca cb cc/\Below w w (aD w)):=
  ⟨_,_,_,_,_,_,rfl,(zCl w).1.low (Nat.zero_le _),(zCl w).2⟩
 go_enter Tryz.func61,Tryz.ntmps61
 go_wp2_with fail
 exact bodyPost_ret (by simp[results,Tryz.results61,go_sem]) rfl d.o
theorem zEJ (A B C D E F:Option Addr) (ca cb cc cd ce cf:Nat) (w:World) (d:zM w 0 yT A B C ca cb cc) (e:zM w 0 vV D E F cd ce cf):
  Calls Tryz.prog 21 #[.agg #[(1:Int),(2:Int),.slice A 1 ca,.slice B 1 cb,.slice C 1 cc],.agg #[(1:Int),(2:Int),.slice D 0 cd,.slice E 1 ce,.slice F 0 cf]] w (dC w (qH yT vV) 0):=by
 have h:=zEF yT vV A B C D E F ca cb cc cd ce cf w d e;rw[zI9] at h;exact h
theorem zHN (A B C D E F:Option Addr) (ca cb cc cd ce cf:Nat) (w:World) (d:zM w 0 yT A B C ca cb cc) (e:zM w 0 yT D E F cd ce cf):
  Calls Tryz.prog 22 #[.agg #[(1:Int),(2:Int),.slice A 1 ca,.slice B 1 cb,.slice C 1 cc],.agg #[(1:Int),(2:Int),.slice D 1 cd,.slice E 1 ce,.slice F 1 cf]] w (dC w (gH yT yT) 0):=by
 have h:=zJd yT yT A B C D E F ca cb cc cd ce cf w d e;rw[zGH] at h;exact h
theorem zGN (a:Au) (A B C:Option Addr) (ca cb cc:Nat) (w:World) (K:zM w 0 a A B C ca cb cc) (i:ckA a=0) (u:Nat->Int) (O:xJ a u):
  Calls Tryz.prog 23 #[.agg #[a.st,a.le,.slice A a.fs.length ca,.slice B a.gs.length cb,.slice C a.ss.length cc]] w fun e w'=>∃(H L:Option Addr) (g h s j:Nat),e=.returned (.tuple #[.agg #[.slice H s g,.slice L j h],true,(0:Int)])/\0<j/\Below w w w':=by
 refine(zGF a A B C ca cb cc w K).mono ?_;rintro e w' ⟨⟨H,L,g,h,U,ll,b,rfl,_,_,d⟩,m⟩;obtain⟨J,N⟩:=yP.1 i
 cases b with
 |false=>exact absurd O (d.2.2 i u)
 |true=>
  rw[i];exact⟨H,L,g,h,_,_,rfl,(d.2.fits (J.fit N)).2.2,m⟩
theorem zEX (A B C:Option Addr) (ca cb cc:Nat) (w:World) (m:zM w 0 vV A B C ca cb cc):
  Calls Tryz.prog 23 #[.agg #[(1:Int),(2:Int),.slice A 0 ca,.slice B 1 cb,.slice C 0 cc]] w fun e w'=>∃(H L:Option Addr) (d g j s:Nat),e=.returned (.tuple #[.agg #[.slice H j d,.slice L s g],false,(0:Int)])/\Below w w w':=by
 refine(zGF vV A B C ca cb cc w m).mono ?_;rintro e w' ⟨⟨H,L,d,g,u,J,b,rfl,_,_,h⟩,i⟩
 cases b with
 |true=>exact absurd h.2.takes (zCK _)
 |false=>exact⟨H,L,d,g,_,_,by rw[zIG],i⟩
theorem zG2 (p:Au) (d:tkB p kE=true/\wK p kE=0) (A B C D E:Option Addr) (ca cb cc cd ce:Nat) (w:World) (i:zM w 0 p A B C ca cb cc) (g:zE w 0 D cd []) (h:zE w 0 E ce [0]):
  Calls Tryz.prog 11 #[.agg #[p.st,p.le,.slice A p.fs.length ca,.slice B p.gs.length cb,.slice C p.ss.length cc],.agg #[.slice D 0 cd,.slice E 1 ce]] w fun e w'=>e=.returned (.tuple #[true,(0:Int)])/\Below w w w':=by
 have:=eY p A B C D E ca cb cc cd ce kE w i g h;unfold bW at this
 rwa[d.1,d.2] at this
theorem zDz (w:World):Calls Tryz.prog 16 #[] w (xX w true):=by
 go_enter Tryz.func16,Tryz.ntmps16
 go_wp2_with fail
 refine(tU _).mono ?_;rintro e w1 ⟨A1,B1,C1,ca1,cb1,cc1,rfl,hr1,hb1⟩;have HR1:=hId hr1;have hh:=hId hb1;clear hr1 hb1
 go_wp2_with fail
 refine(zGI _).mono ?_;rintro e w2 ⟨A2,B2,C2,ca2,cb2,cc2,rfl,hr2,hp⟩;have h8:=hId (HR1.o.below hp);have HR2:=hId hr2;have hi:=hId (zA hh.o hp hh.o.size);clear hr2 hp HR1 hh
 go_wp2_with fail
 refine(zEJ _ _ _ _ _ _ _ _ _ _ _ _ _ h8.o HR2.o).mono ?_;rintro e w3 ⟨A3,B3,C3,i,j,m,rfl,hr3,hb3⟩;have hj:=hId (zA hi.o hb3 hi.o.size);have HEN:=hId zKU;have HR3:=hId (hr3.low (Nat.zero_le _));clear hr3 hb3 h8 HR2 hi
 generalize qH yT vV=p at *;have d:Below w3 w3 (w3.alloc (.cells #[p.st,p.le,.slice A3 p.fs.length i,.slice B3 p.gs.length j,.slice C3 p.ss.length m] 31)):=bLa
 have HX:Hid ((w3.alloc (.cells #[p.st,p.le,.slice A3 p.fs.length i,.slice B3 p.gs.length j,.slice C3 p.ss.length m] 31)).heap[w3.heap.size]?=some (.cells #[p.st,p.le,.slice A3 p.fs.length i,.slice B3 p.gs.length j,.slice C3 p.ss.length m] 31 (0,0))):=World.alloc_heap_new _ _
 have HR4:=hId (HR3.o.below d);have h1:=hId (zA hj.o d hj.o.size);clear d HR3 hj
 go_upto_region 2 with fail
 obtain⟨X,hX⟩:∃X,X=w3.heap.size:=⟨_,rfl⟩;rw[<-hX] at HX ⊢;clear hX;generalize w3.alloc (.cells #[p.st,p.le,.slice A3 p.fs.length i,.slice B3 p.gs.length j,.slice C3 p.ss.length m] 31)=W4 at *
 go_wp2_with fail
 refine(tU _).mono ?_;rintro e w5 ⟨A5,B5,C5,ca5,cb5,cc5,rfl,hr5,hb5⟩;have HR5:=hId hr5;have hk:=hId hb5;clear hr5 hb5
 go_wp2_with fail
 refine(tU _).mono ?_;rintro e w6 ⟨A6,B6,C6,ca6,cb6,cc6,rfl,hr6,hq⟩;have ha:=hId (HR5.o.below hq);have HR6:=hId hr6;have hl:=hId (zA hk.o hq hk.o.size);clear hr6 hq HR5 hk
 go_wp2_with fail
 refine(zHN _ _ _ _ _ _ _ _ _ _ _ _ _ ha.o HR6.o).mono ?_;rintro e w7 ⟨A7,B7,C7,h4,h5,h6,rfl,hr7,hb7⟩;have hm:=hId (zA hl.o hb7 hl.o.size)
 have ho:Hid (ckA (gH yT yT)=0/\xJ (gH yT yT) kE.at):=⟨(zCL zGH).1,((zCL zGH).2.2.2 _).2 ⟨rH,rH⟩⟩
 have HR7:=hId (hr7.low (Nat.zero_le _));clear hr7 hb7 ha HR6 hl;generalize gH yT yT=q at *
 have d:Below w7 w7 (w7.alloc (.cells #[q.st,q.le,.slice A7 q.fs.length h4,.slice B7 q.gs.length h5,.slice C7 q.ss.length h6] 31)):=bLa
 have HY:Hid ((w7.alloc (.cells #[q.st,q.le,.slice A7 q.fs.length h4,.slice B7 q.gs.length h5,.slice C7 q.ss.length h6] 31)).heap[w7.heap.size]?=some (.cells #[q.st,q.le,.slice A7 q.fs.length h4,.slice B7 q.gs.length h5,.slice C7 q.ss.length h6] 31 (0,0))):=World.alloc_heap_new _ _
 have HR8:=hId (HR7.o.below d);have h2:=hId (zA hm.o d hm.o.size);clear d HR7 hm
 go_upto_region 3 with fail
 obtain⟨Y,hY⟩:∃Y,Y=w7.heap.size:=⟨_,rfl⟩;rw[<-hY] at HY ⊢;clear hY;generalize w7.alloc (.cells #[q.st,q.le,.slice A7 q.fs.length h4,.slice B7 q.gs.length h5,.slice C7 q.ss.length h6] 31)=W8 at *
 obtain⟨y0,y1,y2,y3,y4,_⟩:=zZ HY.o
 go_wp2_with fail
 refine(zGN q _ _ _ _ _ _ _ HR8.o ho.o.1 _ ho.o.2).mono ?_;rintro e w9 ⟨H9,L9,K,N,h0,s,rfl,hl9,hr⟩;have O:Below w9 w9 (w9.alloc (.cells #[.slice H9 h0 K,.slice L9 s N] 27)):=bLa
 have HZ:Hid ((w9.alloc (.cells #[.slice H9 h0 K,.slice L9 s N] 27)).heap[w9.heap.size]?=some (.cells #[.slice H9 h0 K,.slice L9 s N] 27 (0,0))):=World.alloc_heap_new _ _
 have u:=hId (zA (zA h2.o hr h2.o.size) O (Nat.le_trans h2.o.size hr.size));clear O hr y0 y1 y2 y3 y4 h2 HR8 HY
 go_upto_region 4 with fail
 obtain⟨Z,hZ⟩:∃Z,Z=w9.heap.size:=⟨_,rfl⟩;rw[<-hZ] at HZ ⊢;clear hZ;generalize w9.alloc (.cells #[.slice H9 h0 K,.slice L9 s N] 27)=W9 at *
 go_wp2_with fail
 refine(zGI _).mono ?_;rintro e w10 ⟨A10,B10,C10,ca10,cb10,cc10,rfl,hf,hd⟩;have h9:=hId hf;have h:=hId hd;clear hf hd
 go_wp2_with fail
 refine(zEX _ _ _ _ _ _ _ h9.o).mono ?_;rintro e h7 ⟨H11,L11,hb,hc,he,hg,rfl,U⟩;have O:Below h7 h7 (h7.alloc (.cells #[.slice H11 he hb,.slice L11 hg hc] 27)):=bLa
 have g:=hId (zA (zA h.o U h.o.size) O (Nat.le_trans h.o.size U.size));clear O U h9 h
 go_upto_region 5 with fail
 generalize h7.alloc (.cells #[.slice H11 he hb,.slice L11 hg hc] 27)=W11 at *
 have J:Hid (∀ W,Below W11 W11 W->(W.cell? ⟨X,0,none⟩=some (.int .i64 p.st)/\W.cell? ⟨X,1,none⟩=some (.int .i64 p.le)/\W.cell? ⟨X,2,none⟩=some (.slice A3 p.fs.length i)/\W.cell? ⟨X,3,none⟩=some (.slice B3 p.gs.length j)/\W.cell? ⟨X,4,none⟩=some (.slice C3 p.ss.length m))/\(W.cell? ⟨Z,0,none⟩=some (.slice H9 h0 K)/\W.cell? ⟨Z,1,none⟩=some (.slice L9 s N))):=fun W hW=>by
  have hx0:=(u.o.block X (gLt HX.o)).trans HX.o;have hx1:=(g.o.block X (gLt hx0)).trans hx0;have hx:=(hW.block X (gLt hx1)).trans hx1;have hz1:=(g.o.block Z (gLt HZ.o)).trans HZ.o;have hz:=(hW.block Z (gLt hz1)).trans hz1
  obtain⟨a0,a1,a2,a3,a4,_⟩:=zZ hx;obtain⟨b0,b1,_,_⟩:=eR hz;exact⟨⟨a0,a1,a2,a3,a4⟩,b0,b1⟩
 have HR11:=hId ((HR4.o.below u.o).below g.o);have HW:Hid (Below w w W11):=zA (zA h1.o u.o h1.o.size) g.o (Nat.le_trans h1.o.size u.o.size);have HL9:=hId hl9;obtain⟨⟨x0,x1,x2,x3,x4⟩,z0,z1⟩:=J.o W11 bRf
 clear h1 u g HX HZ HR4 ho hl9
 go_region_held3 (fun w'=>(w'.cell? ⟨X,0,none⟩=some (.int .i64 p.st)/\w'.cell? ⟨X,1,none⟩=some (.int .i64 p.le)/\w'.cell? ⟨X,2,none⟩=some (.slice A3 p.fs.length i)/\w'.cell? ⟨X,3,none⟩=some (.slice B3 p.gs.length j)/\w'.cell? ⟨X,4,none⟩=some (.slice C3 p.ss.length m)))
  (first|go_keep|exact(J.o _ ((Below.refl _ W11).drew)).1|exact qq)
  (first
   |(go_at_call 11;refine(zG2 p HEN.o _ _ _ _ _ _ _ _ _ _ _ (HR11.o.below h3.o) HHA.o HLA.o).mono ?_;rintro e wb ⟨rfl,hbb⟩;have hn:=hId (zA h3.o hbb h3.o.size);have qq:=(J.o _ hn.o).1)
   |(go_at_call 41;refine(zBc _).mono ?_;rintro e wa ⟨Da,Ea,cda,cea,rfl,hha,hla,d⟩;have h3:=hId (zA ((Below.refl _ W11).drew) d nLe);have HHA:=hId hha;have HLA:=hId hla;have qq:=(J.o _ h3.o).1))
 all_goals
  have HP:Hid (xX w true (.returned (.bool (decide (0<s)))) wb):=⟨by rw[decide_eq_true HL9.o],zA HW.o hn.o HW.o.size⟩
  obtain⟨_,zz0,zz1⟩:=J.o _ hn.o
  go_wp2_with fail
  go_ret
  exact HP.o
end
section
open Go Go.RowKit Go.Maps Go.Shelf Go.Sort
theorem zIj {l:La} {letters:Int} (h:ckL l letters=0):∀m,0<=l.at m/\l.at m<letters:=by
 have j:=zDZ h
 have e:nN (bU letters) l.h=false/\nN (bU letters) l.l=false:=by
  unfold ckL at h
  split at h
  ·simp at h
  split at h
  ·simp at h
  split at h
  ·simp at h
  rename_i h5
  simpa using h5
 have i:∀xs:List Int,nN (bU letters) xs=false->∀k,k<xs.length->0<=xs.getD k 0/\xs.getD k 0<letters:=fun xs d k g=>by
  unfold nN at d;rw[List.any_eq_false] at d;have:=d xs[k] (List.getElem_mem g);rw[List.getD_eq_getElem?_getD,List.getElem?_eq_getElem g];unfold bU at this
  simp at this ⊢
  omega
 intro m;unfold La.at
 split
 ·rename_i hm
  exact i _ e.1 _ hm
 exact i _ e.2 _ (Nat.mod_lt _ (by omega))
theorem zAb {f:List Nd} {r:Au} (d:zD5 f r) (g:ckF f=0) (l:La):tkB r l=pZ f l/\wK r l=ckT f l:=by
 have h:wK r l=ckL l 8:=by unfold wK;rw[if_pos d.ok,d.le]
 have i:ckT f l=ckL l 8:=by unfold ckT;rw[if_pos g]
 refine⟨?_,by rw[h,i]⟩
 unfold tkB pZ;rw[h,i]
 by_cases hl:ckL l 8=0
 ·have e:=cM.1 g
  have m:0<l.l.length:=by have:=zDZ hl;omega
  have s:=zEL m e (f.length-1) (by have:=e.pos;omega) 0 f.length (by have:=e.pos;omega)
  have j:0<l.n:=by unfold La.n;omega
  rw[mF j] at s;have K:=d.takes l.at (zIj hl);have J:=wQ (a:=r) (u:=l.at);rw[hl,if_pos rfl];show(true&&pV r l.at)=gB (yA l f f.length) (f.length-1) 0;rw[Bool.true_and]
  cases hx:pV r l.at<;>cases hy:gB (yA l f f.length) (f.length-1) 0<;>simp_all
 rw[if_neg hl]
 simp[hl]
theorem zF9 {W:World} {X:Nat} {p:Au} {A B C:Option Addr} {ca cb cc:Nat} (h:W.heap[X]?=some (.cells #[p.st,p.le,.slice A p.fs.length ca,.slice B p.gs.length cb,.slice C p.ss.length cc] 31 (0,0))):yG W X p A B C ca cb cc:=by
 obtain⟨d,e,g,i,j,_⟩:=zZ h;exact⟨(gLt h),d,e,g,i,j⟩
def zGm:La:=⟨[],[1]⟩
theorem zBe:ckF kB=0:=by decide +kernel
theorem zFs (r:Au) (h:zD5 kB r) (A B C D E:Option Addr) (ca cb cc cd ce:Nat) (w:World) (m:zM w 0 r A B C ca cb cc) (i:zE w 0 D cd [1,2]) (j:zE w 0 E ce [0]):
  Calls Tryz.prog 11 #[.agg #[r.st,r.le,.slice A r.fs.length ca,.slice B r.gs.length cb,.slice C r.ss.length cc],.agg #[.slice D 2 cd,.slice E 1 ce]] w fun e w'=>e=.returned (.tuple #[true,(0:Int)])/\Below w w w':=by
 have:=eY r A B C D E ca cb cc cd ce dE w m i j;unfold bW at this;obtain⟨d,g⟩:=zAb h zBe dE;rw[d,g,show pZ kB dE=true by decide +kernel,zAJ] at this
 exact this
theorem zFr (r:Au) (h:zD5 kB r) (A B C E:Option Addr) (ca cb cc ce:Nat) (w:World) (j:zM w 0 r A B C ca cb cc) (i:zE w 0 E ce [1]):
  Calls Tryz.prog 11 #[.agg #[r.st,r.le,.slice A r.fs.length ca,.slice B r.gs.length cb,.slice C r.ss.length cc],.agg #[(),.slice E 1 ce]] w fun e w'=>e=.returned (.tuple #[false,(0:Int)])/\Below w w w':=by
 have:=eY r A B C none E ca cb cc 0 ce zGm w j ⟨nLe,by omega,by simp[zGm],Rd.nil,Fz.no⟩ i
 unfold bW at this;obtain⟨d,g⟩:=zAb h zBe zGm;rw[d,g,show pZ kB zGm=false by decide +kernel,show ckT kB zGm=0 by decide +kernel] at this
 exact this
theorem oO (w:World):Calls Tryz.prog 17 #[] w (xX w true):=by
 go_enter Tryz.func17,Tryz.ntmps17
 go_wp2_with fail
 refine(rC w).mono ?_;rintro e w1 ⟨b,rfl,h2,U⟩;have h:=hId U;have N:Hid (Calls Tryz.prog 26 #[.slice (some ⟨b,0,none⟩) 3 3] w1 (zAY kB w1)):=iM kB (some ⟨b,0,none⟩) 3 w1 h2;clear U h2
 go_wp2_with fail
 refine N.o.mono ?_;rintro e u ⟨r,A,B,C,ca,cb,cc,hS,_,rfl,h3,m⟩;rw[zBe];have HS:=hId (hS zBe)
 have d:Below u u (u.alloc (.cells #[r.st,r.le,.slice A r.fs.length ca,.slice B r.gs.length cb,.slice C r.ss.length cc] 31)):=bLa
 have hX:=World.alloc_heap_new u (.cells #[r.st,r.le,.slice A r.fs.length ca,.slice B r.gs.length cb,.slice C r.ss.length cc] 31);have J:=hId ((h3.low (Nat.zero_le _)).below d)
 have j:=hId (zA (zA h.o m h.o.size) d (Nat.le_trans h.o.size m.size));clear hS h3 m d N h
 go_upto_region 2 with fail
 obtain⟨X,O⟩:∃X,X=u.heap.size:=⟨_,rfl⟩;rw[<-O] at hX ⊢;clear O;generalize u.alloc (.cells #[r.st,r.le,.slice A r.fs.length ca,.slice B r.gs.length cb,.slice C r.ss.length cc] 31)=W3 at *
 have HA:=hId (zF9 hX);clear hX;obtain⟨_,x0,x1,x2,x3,x4⟩:=HA.o;have s:=hId (bN W3 (.cells #[(1:Int),(2:Int)] 3) (.cells #[(0:Int)] 3))
 go_wp2_with fail
 refine(zFs r HS.o _ _ _ _ _ _ _ _ _ _ _ (J.o.below s.o.2.2) (zCr s.o.1) (pJ s.o.2.1)).mono ?_;rintro e w5 ⟨rfl,h0⟩;have g:=hId (zA s.o.2.2 h0 s.o.2.2.size);have K:=hId (J.o.below g.o);clear x0 x1 x2 x3 x4 h0 s
 obtain⟨_,x0,x1,x2,x3,x4⟩:=HA.o.below g.o HA.o.lt;have d:Below w5 w5 (w5.alloc (.cells #[(1:Int)] 3)):=bLa;have HI:=hId (World.alloc_heap_new w5 (.cells #[(1:Int)] 3));have i:=hId d;clear d
 go_wp2_with fail
 refine(zFr r HS.o _ _ _ _ _ _ _ _ _ (K.o.below i.o) (pJ HI.o)).mono ?_;rintro e w6 ⟨rfl,h1⟩
 have HP:Hid (xX w true (.returned (.bool true)) w6):=⟨rfl,zA (zA j.o (zA g.o i.o g.o.size) j.o.size) h1 (Nat.le_trans j.o.size (Nat.le_trans g.o.size i.o.size))⟩
 clear h1 x0 x1 x2 x3 x4
 go_wp2_with fail
 go_ret
 exact HP.o
end
section
open Go Go.RowKit Go.Sort
structure Far (R:Nat) (ex:List Nat) (W W':World):Prop where
 os:W'.os=W.os
 tape:W'.tape=W.tape
 output:W'.output=W.output
 size:W.heap.size<=W'.heap.size
 block:∀k,k<R->k∉ex->W'.heap[k]?=W.heap[k]?
section
variable {R:Nat} {ex:List Nat} {W W' W'':World}
theorem Far.refl (R:Nat) (ex:List Nat) (W:World):Far R ex W W:=⟨rfl,rfl,rfl,nLe,fun _ _ _=>rfl⟩
theorem Far.trans (h:Far R ex W W') (k:Far R ex W' W''):Far R ex W W'':=⟨k.os.trans h.os,k.tape.trans h.tape,k.output.trans h.output,Nat.le_trans h.size k.size,fun j d e=>(k.block j d e).trans (h.block j d e)⟩
theorem Far.below {B:Nat} (h:Below B W W') (d:R<=B):Far R ex W W':=⟨h.os,h.tape,h.output,h.size,fun j e _=>h.block j (by omega)⟩
theorem Far.up {d:List Nat} (h:Far R ex W W') (e:∀k∈ex,k∈d):Far R d W W':=⟨h.os,h.tape,h.output,h.size,fun j g m=>h.block j g fun i=>m (e j i)⟩
theorem Far.set (W:World) {g i:Nat} (v:Value) (d:g∈ex):Far R ex W (W.setCell ⟨g,i,none⟩ v):=⟨rfl,rfl,rfl,by simp[World.setCell],fun j _ h=>Below.heap_setCell _ _ _ _ fun e=>h (by rw[show j=g from e];exact d)⟩
theorem Far.to (h:Far R ex W W') {B:Nat} (g:B<=R) (d:∀k∈ex,B<=k):Below B W W':=⟨h.os,h.tape,h.output,h.size,fun j i=>h.block j (by omega) fun e=>by have:=d j e;omega⟩
theorem Far.blk (h:Far R ex W W') {k:Nat} {o:Option Obj} (d:k<R) (e:k∉ex) (g:W.heap[k]?=o):W'.heap[k]?=o:=(h.block k d e).trans g
theorem Far.au (h:Far R ex W W') {V:Nat} {a:Au} {A B C:Option Addr} {ca cb cc:Nat} (d:yG W V a A B C ca cb cc) (g:V<R) (i:V∉ex):yG W' V a A B C ca cb cc:=by
 have e:=h.block V g i;have c:=fun o=>World.cell?_of_block (w:=W) (w':=W') (a:=⟨V,o,none⟩) e
 exact⟨Nat.lt_of_lt_of_le d.lt h.size,(c 0).trans d.c0,(c 1).trans d.c1,(c 2).trans d.c2,(c 3).trans d.c3,(c 4).trans d.c4⟩
end
structure AuP (B G:Nat) (st le:Int) (fs:List Int) (gs:List Bool) (ss:List Stp) (fv gv sv:Value) (W:World):Prop where
 sz:B<=W.heap.size
 obj:W.heap[G]?=some (.cells #[st,le,fv,gv,sv] 31 (0,0))
 f:W.ownsRow B 3 1 fv fs.length (fs.flatMap viL)
 g:W.ownsRow B 4 1 gv gs.length (gs.flatMap vbL)
 s:W.ownsRow B 80 3 sv ss.length (ss.flatMap Stp.cells)
section
variable {B G:Nat} {st le:Int} {fs:List Int} {gs:List Bool} {ss:List Stp} {fv gv sv:Value} {W W':World}
theorem AuP.lt (h:AuP B G st le fs gs ss fv gv sv W):G<W.heap.size:=(gLt h.obj)
theorem AuP.on (h:AuP B G st le fs gs ss fv gv sv W) (d:Below W W W'):AuP B G st le fs gs ss fv gv sv W':=
 ⟨Nat.le_trans h.sz d.size,(d.block G h.lt).trans h.obj,zD h.f d,zD h.g d,zD h.s d⟩
theorem zBx {w i m:World} {e:TypeId} {size n:Nat} {v:Value} {xs:List Value} (s:w.ownsRow B e size v n xs) (u:B<=w.heap.size) (d:Below w w i) (g:i.grownBy m v.ownBlock) (k:Nat) (x:Value):Far B [G] w (m.setCell ⟨G,k,none⟩ x):=by
 refine⟨g.os.trans d.os,g.tape.trans d.tape,g.output.trans d.output,by have:=d.size;have:=g.size;simp[World.setCell];omega,fun j J h=>?_⟩
 rw[Below.heap_setCell _ _ _ _ (fun e=>h (by rw[show j=G from e];exact List.mem_singleton.2 rfl)),g.block j (by have:=d.size;omega) (fun e=>by have:=(s.lt j e.symm).1;omega)]
 exact d.block j (by omega)
theorem AuP.appF (h:AuP B G st le fs gs ss fv gv sv W) (x:Int) (hl:fs.length<=1000000000):
  mO G 2 fv 22 3 #[x] fs.length W (fun v' W'=>AuP B G st le (fs++[x]) gs ss v' gv sv W'/\Far B [G] W W'):=by
 obtain⟨i0,N,O,U,h0⟩:=info_parts qX;have hlt:=h.lt;have i:Below W W (W.alloc (.cells #[x] 3)):=bLa;obtain⟨A1,c1,e1,J,K,_⟩:=zF h.f
 obtain⟨v3,w3,hr,e,j,hat⟩:=jC (P:=Tryz.prog) (W.alloc (.cells #[x] 3)) B 22 22 3 i0 _ 1 8 Tryz.underlying22 N O U h0 rfl (by decide) _ fs.length _ (zD h.f i) (some ⟨W,0,none⟩) 1 1 [.int .i64 x] rfl
  (Rd.new W #[x] 3) (by simp[Value.oneCell']) (by simp only[maxLen];omega) (by omega) (by have:=h.sz;simp;omega)
 obtain⟨m,u,rfl,_,_,_⟩:=zF e;have d:=wH h.obj h.f (by decide) i j
 obtain⟨_,_,q,_,_,_,_,fz,_,_⟩:=zZ d
 refine⟨A1,c1,e1,J,K,m,u,w3,by rw[<-e1];exact hr,q,fz,j,⟨⟨by have h1:=j.size;have h2:=i.size;have h3:=h.sz;simp only[World.setCell,Array.size_modify];omega,mV d _,?own,xQ (B:=B) h.g h.f (by decide) i j d (by decide) 2 (.slice m (fs.length+1) u),xQ (B:=B) h.s h.f (by decide) i j d (by decide) 2 (.slice m (fs.length+1) u)⟩,zBx h.f h.sz i j 2 _⟩⟩
 have:=yM e d (by decide) 2 (.slice m (fs.length+1) u)
 rw[show(fs++[x]).length=fs.length+1 by simp,show(fs++[x]).flatMap viL=fs.flatMap viL++[.int .i64 x] by simp[viL]]
 exact this
theorem AuP.appG (h:AuP B G st le fs gs ss fv gv sv W) (x:Bool) (hl:gs.length<=1000000000):
  mO G 3 gv 28 4 #[x] gs.length W (fun v' W'=>AuP B G st le fs (gs++[x]) ss fv v' sv W'/\Far B [G] W W'):=by
 obtain⟨i0,N,O,U,h0⟩:=info_parts fV;have hlt:=h.lt;have i:Below W W (W.alloc (.cells #[x] 4)):=bLa;obtain⟨A1,c1,e1,J,K,_⟩:=zF h.g
 obtain⟨v3,w3,hr,e,j,hat⟩:=jC (P:=Tryz.prog) (W.alloc (.cells #[x] 4)) B 28 28 4 i0 _ 1 1 Tryz.underlying28 N O U h0 rfl (by decide) _ gs.length _ (zD h.g i) (some ⟨W,0,none⟩) 1 1 [.bool x] rfl
  (Rd.new W #[x] 4) (by simp[Value.oneCell']) (by simp only[maxLen];omega) (by omega) (by have:=h.sz;simp;omega)
 obtain⟨m,u,rfl,_,_,_⟩:=zF e;have d:=wH h.obj h.g (by decide) i j
 obtain⟨_,_,_,q,_,_,_,_,fz,_⟩:=zZ d
 refine⟨A1,c1,e1,J,K,m,u,w3,by rw[<-e1];exact hr,q,fz,j,⟨⟨by have h1:=j.size;have h2:=i.size;have h3:=h.sz;simp only[World.setCell,Array.size_modify];omega,oQ d _,xQ (B:=B) h.f h.g (by decide) i j d (by decide) 3 (.slice m (gs.length+1) u),?own,xQ (B:=B) h.s h.g (by decide) i j d (by decide) 3 (.slice m (gs.length+1) u)⟩,zBx h.g h.sz i j 3 _⟩⟩
 have:=yM e d (by decide) 3 (.slice m (gs.length+1) u)
 rw[show(gs++[x]).length=gs.length+1 by simp,show(gs++[x]).flatMap vbL=gs.flatMap vbL++[.bool x] by simp[vbL]]
 exact this
theorem AuP.appS (h:AuP B G st le fs gs ss fv gv sv W) (x:Stp) (hl:ss.length<=1000000000):
  mO G 4 sv 29 80 #[x.f,x.l,x.t] ss.length W (fun v' W'=>AuP B G st le fs gs (ss++[x]) fv gv v' W'/\Far B [G] W W'):=by
 obtain⟨i0,N,O,U,h0⟩:=info_parts rN;have hlt:=h.lt;have i:Below W W (W.alloc (.cells #[x.f,x.l,x.t] 80)):=bLa;obtain⟨A1,c1,e1,J,K,_⟩:=zF h.s
 obtain⟨v3,w3,hr,e,j,hat⟩:=jC (P:=Tryz.prog) (W.alloc (.cells #[x.f,x.l,x.t] 80)) B 29 29 80 i0 _ 3 24 Tryz.underlying29 N O U h0 rfl (by decide) _ ss.length _ (zD h.s i) (some ⟨W,0,none⟩) 1 1 [.int .i64 x.f,.int .i64 x.l,.int .i64 x.t] rfl
  (Rd.new W #[x.f,x.l,x.t] 80) (by simp[Value.oneCell']) (by simp only[maxLen];omega) (by omega) (by have:=h.sz;simp;omega)
 obtain⟨m,u,rfl,_,_,_⟩:=zF e;have d:=wH h.obj h.s (by decide) i j
 obtain⟨_,_,_,_,q,_,_,_,_,fz⟩:=zZ d
 refine⟨A1,c1,e1,J,K,m,u,w3,by rw[<-e1];exact hr,q,fz,j,⟨⟨by have h1:=j.size;have h2:=i.size;have h3:=h.sz;simp only[World.setCell,Array.size_modify];omega,wR d _,xQ (B:=B) h.f h.s (by decide) i j d (by decide) 4 (.slice m (ss.length+1) u),xQ (B:=B) h.g h.s (by decide) i j d (by decide) 4 (.slice m (ss.length+1) u),?own⟩,zBx h.s h.sz i j 4 _⟩⟩
 have:=yM e d (by decide) 4 (.slice m (ss.length+1) u)
 rw[show(ss++[x]).length=ss.length+1 by simp,show(ss++[x]).flatMap Stp.cells=ss.flatMap Stp.cells++[.int .i64 x.f,.int .i64 x.l,.int .i64 x.t] by simp[Stp.cells]]
 exact this
theorem AuP.rd (h:AuP B G st le fs gs ss fv gv sv W) (m:fs.length<=1000000000) (u:gs.length<=1000000000) (J:ss.length<=1000000000):∃A d C ca cb cc,fv=.slice A fs.length ca/\gv=.slice d gs.length cb/\sv=.slice C ss.length cc/\zM W B ⟨st,le,fs,gs,ss⟩ A d C ca cb cc:=by
 obtain⟨A,ca,rfl,e⟩:=SlE.of_own (enc:=viL) (bt:=8) h.f (by omega)
 obtain⟨B,cb,rfl,i⟩:=SlE.of_own (enc:=vbL) (bt:=1) h.g (by omega)
 obtain⟨C,cc,rfl,j⟩:=SlE.of_own (enc:=Stp.cells) (bt:=24) h.s (by omega)
 exact⟨A,B,C,ca,cb,cc,rfl,rfl,rfl,e,i,j⟩
end
theorem AuP.states {B G:Nat} {st le:Int} {fs:List Int} {gs:List Bool} {ss:List Stp} {fv gv sv:Value} {W:World} (h:AuP B G st le fs gs ss fv gv sv W) (d:Int):AuP B G d le fs gs ss fv gv sv (W.setCell ⟨G,0,none⟩ d):=
 ⟨by have:=h.sz;simpa[World.setCell] using this,zAk h.obj _,yM h.f h.obj (by decide) 0 _,yM h.g h.obj (by decide) 0 _,yM h.s h.obj (by decide) 0 _⟩
theorem AuP.low {B G:Nat} {st le:Int} {fs:List Int} {gs:List Bool} {ss:List Stp} {fv gv sv:Value} {W:World} (h:AuP B G st le fs gs ss fv gv sv W) {p:Addr} (d:p.block<B) (i:p.block≠G) (u:Value):AuP B G st le fs gs ss fv gv sv (W.setCell p u):=
 ⟨by have:=h.sz;simpa[World.setCell] using this,(Below.heap_setCell _ p u G (fun e=>i e.symm)).trans h.obj,kV h.f d _,kV h.g d _,kV h.s d _⟩
end
section
structure TrI (a:Au) (N:Nat) (xs:List Bool):Prop where
 len:xs.length=N
 snd:∀q:Int,0<=q->kp xs q=true->Rch a q
 fst:∀q∈a.fs,kp xs q=true
theorem zKF (n:Nat) (q:Int):kp (List.replicate n false) q=false:=by
 unfold kp;exact kL n q.toNat
theorem TrI.start {a:Au} (g:vG a) {N:Nat} (j:(N:Int)=a.st):TrI a N (qM a.fs (List.replicate N false)):=by
 have e:=uM a.fs (List.replicate N false) (fun q d=>by have:=g.fr q d;simp;omega)
 refine⟨by rw[pA,List.length_replicate],fun q i d=>?_,fun q d=>(e q (g.fr q d).1).2 (.inr d)⟩
 rcases(e q i).1 d with h|h
 ·rw[zKF] at h;cases h
 exact .first h
theorem TrI.set {a:Au} (m:vG a) {N:Nat} (u:(N:Int)=a.st) {xs:List Bool} (h:TrI a N xs) {s:Stp} (g:s∈a.ss) (i:kp xs s.f=true):TrI a N (xs.set s.t.toNat true):=by
 have r:=m.sr s g;have j:s.t<(xs.length:Int):=by rw[h.len];omega
 refine⟨by rw[List.length_set];exact h.len,fun q e d=>?_,fun q d=>zEc (h.fst q d)⟩
 rcases(zCU r.2.1.1 e j).1 d with h1|h1
 ·exact h.snd q e h1
 rw[h1];exact .step (h.snd s.f r.1.1 i) g
theorem TrI.done {a:Au} (m:vG a) {N:Nat} (g:(N:Int)=a.st) {xs:List Bool} (h:TrI a N xs) (i:∀s∈a.ss,kp xs s.f=true->kp xs s.t=true):nK a xs:=by
 refine⟨by rw[h.len];exact g,fun q d e=>⟨h.snd q d,fun j=>?_⟩⟩
 clear d e
 induction j with
 |first hf=>exact h.fst _ hf
 |step _ hs ih=>exact i _ hs ih
def xS (keep:List Bool) (n k:Nat):List Int:=(List.range n).map fun i=>if i<k/\keep.getD i false=true then(pos keep i:Int) else 0
theorem aR (keep:List Bool) (n k:Nat):(xS keep n k).length=n:=by simp[xS]
theorem zCo (keep:List Bool) (n:Nat):xS keep n 0=List.replicate n 0:=by
 refine List.ext_getElem (by simp[xS]) fun i d e=>by simp[xS]
theorem zDl (keep:List Bool) {n k:Nat} (g:keep.getD k false=true):(xS keep n k).set k (pos keep k:Int)=xS keep n (k+1):=by
 refine List.ext_getElem (by simp[xS]) fun i j d=>?_
 rw[List.getElem_set];simp only[xS,List.getElem_map,List.getElem_range]
 split
 ·rename_i e
  subst e;rw[if_pos ⟨by omega,g⟩]
 split
 ·rename_i h;rw[if_pos ⟨by omega,h.2⟩]
 rename_i h;rw[if_neg (fun d=>h ⟨by omega,d.2⟩)]
theorem zCH (keep:List Bool) {n k:Nat} (d:keep.getD k false=false):xS keep n (k+1)=xS keep n k:=by
 unfold xS;refine List.map_congr_left fun i _=>?_
 by_cases e:i=k
 ·subst e
  rw[if_neg (by rw[d];simp),if_neg (by rw[d];simp)]
 by_cases h:i<k/\keep.getD i false=true
 ·rw[if_pos h,if_pos ⟨by omega,h.2⟩]
 rw[if_neg h,if_neg (fun g=>h ⟨by omega,g.2⟩)]
theorem zCZ (keep:List Bool) {n i:Nat} (h:i<n) (d:keep.getD i false=true):(xS keep n n).getD i 0=(pos keep i:Int):=by
 unfold xS;rw[List.getD_eq_getElem?_getD,List.getElem?_map,List.getElem?_range h];show(if i<n/\keep.getD i false=true then(pos keep i:Int) else 0)=_
 rw[if_pos ⟨h,d⟩]
end
section
open Go Go.RowKit Go.Sort
structure TfM (W1:World) (T G R:Nat) (tr:List Int) (st le:Int) (fs:List Int) (gs:List Bool) (ss:List Stp) (fv gv sv:Value) (W:World):Prop where
 far:Far R [T,G] W1 W
 tR:T<R
 gR:G<R
 ne:T≠G
 row:vU W T tr
 au:AuP R G st le fs gs ss fv gv sv W
section
variable {W1:World} {T G R:Nat} {tr:List Int} {st le:Int} {fs:List Int} {gs:List Bool} {ss:List Stp} {fv gv sv:Value} {W W':World}
theorem TfM.on (h:TfM W1 T G R tr st le fs gs ss fv gv sv W) (d:Below W W W'):TfM W1 T G R tr st le fs gs ss fv gv sv W':=
 ⟨h.far.trans (Far.below d h.au.sz),h.tR,h.gR,h.ne,h.row.below d h.row.lt,h.au.on d⟩
theorem TfM.put (h:TfM W1 T G R tr st le fs gs ss fv gv sv W) (i:Nat) (v:Int):TfM W1 T G R (tr.set i v) st le fs gs ss fv gv sv (W.setCell ⟨T,i,none⟩ v):=
 ⟨h.far.trans (Far.set W _ (by simp)),h.tR,h.gR,h.ne,h.row.set_ i v,h.au.low (p:=⟨T,i,none⟩) h.tR h.ne _⟩
theorem TfM.states (h:TfM W1 T G R tr st le fs gs ss fv gv sv W) (d:Int):TfM W1 T G R tr d le fs gs ss fv gv sv (W.setCell ⟨G,0,none⟩ d):=
 ⟨h.far.trans (Far.set W _ (by simp)),h.tR,h.gR,h.ne,h.row.set_far h.ne _,h.au.states d⟩
theorem TfM.step {m:Int} {d:List Int} {g:List Bool} {j:List Stp} {e i s:Value} (h:TfM W1 T G R tr st le fs gs ss fv gv sv W) (u:AuP R G m le d g j e i s W'/\Far R [G] W W'):TfM W1 T G R tr m le d g j e i s W':=
 ⟨h.far.trans (u.2.up (by simp)),h.tR,h.gR,h.ne,u.2.blk h.tR (by simpa using h.ne) h.row,u.1⟩
end
theorem zF2 {d:Func} {p:Tmp} (h:d.results=#[.cell p 31]) (tmps:Array Value) (w:World) (V:Nat) {e g i j m:Value} (u:tmps[p]?=some (.pointer (some ⟨V,0,none⟩)))
  (s:w.heap[V]?=some (.cells #[e,g,i,j,m] 31 (0,0))):(results d tmps).run Tryz.prog w=.ok (.agg #[e,g,i,j,m]) w:=by
 obtain⟨J,K,N,O,U,_⟩:=zZ s
 simp[results,h,go_sem,u,J,K,N,O,U]
end
end Go.Proofs.YtoglgeaiiipchaaGreatDoor
