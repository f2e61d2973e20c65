/- Whole: a part of the proof. No conditions. -/
import Derived.Test.YtjhnnnfnkjighaaGreatDoorQ24
set_option linter.unusedVariables false
set_option linter.unusedSimpArgs false
set_option maxRecDepth 100000
namespace Go.Proofs.YtjhnnnfnkjighaaGreatDoor
open Go.Sp Go.RowKit
structure sS (S:WS):Prop where
 heap:S.heap.bn=0
 ld:S.ld=false
 cD:S.cD.row=[]
 bQ:∀H∈S.bQ,H.fi.bn=0/\H.dA.bn=0/\H.ca.bn=0/\H.th=none/\H.ij=[]
theorem ak1 {K:Bool->Prop} (hk:K true):still au (Op.equal 118 (an #[aa 0,aa 0,aa 0,aa 0]) (an #[aa 0,aa 0,aa 0,aa 0])) K:=⟨true,λw=>by kernel_rfl,hk⟩
theorem MU {α:Type} {s:AS α} (hs:bx s) (hc:s.bn=0):cq 0 s.sp=[]:=by have h:=F3 hs;rw[hc,qw,fk] at h;exact m5 h
section
variable {O w:ao} {F:HP} {k:Nat} {S:WS} {P:WP} {I:WI} {aj:Int} {H:dr} {κ:eA}
theorem Uu (h:V O (WH k I S*F) w):ae 9 #[al k] w λv w'=>∃p c,v=af p S.heap.bn c/\V O (WH k I S*F) w':=by
 apply aaQ;refine aG h λk1 w1 h1=>ay (ajB h1.p1) ?_;rintro _ w2 ⟨rfl,rfl⟩;refine gK<|ay (Hp.SC h1) ?_;rintro _ w3 ⟨ka,rfl,h2⟩;obtain⟨P,hI,h3⟩:=WH.aK h2.p2;have eP:P.heap=I.heap:=congrArg WI.heap hI;obtain⟨hi,a,PP,h4⟩:=gF.aK (WO.wC h3);rw[eP] at h4;have xX:=hi.topB.bn;have DY:=F3 hi.ok;obtain⟨X,hX⟩:∃X:HP,X=ab ka #[al I.heap] 73*(Hp.HH I.heap a 1048576 PP S.heap*(bT P k S*(tR P k S*F))):=⟨_,rfl⟩;have h5:V O (UA k1 ((fH 0 S.heap.sp).take 0) X*cW) w3:=UA.aI (p:=none) (n:=0) (c:=0) rfl ((fE 26 1 bS h4.cQ).aF (by rw[hX];show aE 26 1 bS none 0 0 []*(cW*(_*(_*(_*(_*(ab k1 #[aP] 25*F))))))=ab k1 #[aP] 25*_;ac_rfl));refine i6<|j7 ⟨O,_,_,(fH 0 S.heap.sp).map Hp.Hj,λj=>UA k1 ((fH 0 S.heap.sp).take j) X,λ_=>bM False,rfl,⟨_,_,Tryz.func29,rfl⟩,(h5.e1).Ah,?_,Hp.SD (b:=I.heap) (P:=PP) (top:=1048576) (a:=a) hi.ok (λw h=> ?_) (λw h=> ?_),?_,?_,?_⟩
 .intro x hx;obtain⟨q,_,rfl⟩:=fC.1 hx;rfl
 .obtain⟨p,c,h⟩:=UA.aK (h.cQ.e1);rw[hX] at h;exact h.right.right.left.left
 .obtain⟨p,c,h⟩:=UA.aK (h.cQ.e1);rw[hX] at h;exact h.right.right.left.right.left
 .intro j x hx G G' T w4 hT h6;rw[eZ] at hx;obtain⟨y,hy,rfl⟩:=dd.1 hx;have iM:=(ct.1 hy).1;refine⟨y,rfl,hT _ _ _ h6 λw5 h7=> ?_⟩;refine UA.push (x:=y) (by rw[fB];omega) h7 λw7 h8=> ?_;have e:(fH 0 S.heap.sp).take (j+1)=(fH 0 S.heap.sp).take j++[y]:=by rw[fV,hy];rfl
  dsimp only;rw[e];exact h8
 .intro D w9 h6;rw[fk] at h6;dsimp only at h6;rw[j4] at h6;obtain⟨p,c,h7⟩:=UA.aK (h6.e1);refine aN (fS h7 rfl)<|iL (h7.p1.e3) λdn h8=>⟨p,c,by rw[DY],?_⟩;have h9:=h8.right.right;rw[hX,<-eP] at h9;exact WH.aI hI (WO.zy S.heap (gF.aI hi h9.right))
 .intro D c w9 h6;exact(V.nJ h6).elim
theorem ak2 (hE:sS S) (h:V O (WH k I S*F) w):ae 36 #[al k] w λv w'=>v=aC true/\V O (WH k I S*F) w':=by
 obtain⟨gJ,hl,hm⟩:=WH.bj h;apply ZX;refine aw rfl<|aq<|aN gJ ⟨λn w' m=>∃j:Nat,n=j/\j<=S.bQ.length/\m=S.bQ.length- j/\w'=w,⟨_,0,rfl,by omega,rfl,rfl⟩,?_⟩;rintro u _ w1 m ⟨j,rfl,hj,rfl,rfl⟩;refine bU (λaQ=> ?_) (λbW=> ?_)
 .obtain⟨H,Uv⟩:∃H,S.bQ[j]?=some H:=⟨_,gm (by omega)⟩;have hH:ch S (j:Int)=some H:=by rw[Em];exact Uv
  obtain⟨_,_,_,ht,hq⟩:=hE.bQ H (dF Uv);obtain⟨κ,bB,zI⟩:=WH.ba hH h;obtain⟨P,hI,h1⟩:=WH.aK h;have kF:P.bw[(j:Int).toNat]?=some κ:=by rw[mj hI];exact bB
  obtain⟨tp,tc,lh⟩:=WO.HD hH ht kF h1;refine zI _<|aq<|aN lh<|aw rfl<|aq<|bh (WO.Ej hH kF h1)<|ay (Ei hH kF h1) ?_;rintro _ w2 ⟨rfl,rfl⟩;rw[hq];exact bI<|aw rfl<|aY (by omega) (by omega) ⟨_,by omega,j+1,by omega,by omega,rfl,rfl⟩
 .obtain⟨P,hI,h1⟩:=WH.aK h;obtain⟨_,h2⟩:=iW.aK (WO.D6 h1);refine aq<|bh (WO.cell (i:=6) h1 rfl)<|ay (Jz h2) ?_;rintro _ w3 ⟨rfl,rfl⟩;rw[hE.cD];exact bI ⟨rfl,h⟩
theorem sS.rf (hE:sS S) (h:V O (WH k I S*F) w):vm S aj=[]:=by
 unfold vm;cases hH:ch S aj with
 |none=>rfl
 |some H=>
  obtain⟨P,hI,h1⟩:=WH.aK h;obtain⟨κ,bB,_⟩:=WO.pR hH h1;obtain⟨Y,_,hr,_⟩:=WO.fi hH bB h1;obtain⟨ho,_⟩:=ji.aK hr;have hm:H∈S.bQ:=by
   unfold ch at hH;split at hH
   .cases hH
   .exact dF hH
  dsimp only;rw[MU ho (hE.bQ H hm).1];rfl
theorem MV (hH:ch S aj=some H):H∈S.bQ:=by
 unfold ch at hH;split at hH
 .cases hH
 .exact dF hH
theorem ak3 (hE:sS S) (h0:0<=aj) (h:V O (WH k I S*F) w):ae 132 #[al k,aa aj] w λv w'=>v=aP/\V O (WH k I S*F) w':=by
 have hx:=hE.rf (aj:=aj) h;apply aba;refine aG h λk1 w1 h1=>ay (Up h1) ?_;rintro _ w2 ⟨ka,kb,ta,tb,rfl,h2⟩;refine i6<|j7 ⟨O,_,_,vm S aj,λj=>ab kb #[aa aj] tb*(ab ka #[al k] ta*(WH k I S*(ab k1 #[aP] 188*F))),λ_=>bM False,rfl,⟨_,_,Tryz.func126,rfl⟩,h2.aF (by ac_rfl),?_,Uq (X:=ab k1 #[aP] 188*F) (ta:=ta) (tb:=tb) (k:=k) (I:=I) h0 (λw h=>h),?_,?_,?_⟩
 .intro x gY;rw[hx] at gY;cases gY
 .intro j x gY G G' T w3 hT h4;rw[hx] at gY;simp at gY
 .intro D w8 h5;have h6:V O (fw D*(ab k1 #[aP] 188*(ab kb #[aa aj] tb*(ab ka #[al k] ta*(WH k I S*F))))) w8:=h5.aF (by dsimp only;ac_rfl);exact aN (fS h6.p1 rfl)<|iL h6 λw9 h7=>⟨rfl,h7.right.right.right⟩
 .intro D c w8 h5;exact(V.nJ h5).elim
theorem ak4 {ka kb:Nat} {ta tb:TypeId} {X:HP} {bG:Nat->HP} (hE:sS S) (h0:0<=aj) (hP:∀w,V O (bG 0) w->V O (ab kb #[aa aj] tb*(ab ka #[al k] ta*(WH k I S*X))) w): iD au O 297 #[al ka,al kb] bG []:=by
 intro f b c B Bx cA hB hy F w h;show ae _ #[.func f b c,al ka,al kb] w _;apply aaK;have hp:=hP _ (hB 0 _ h.left);refine bh (fS hp.p1 rfl)<|az (n:=aj) (fS hp rfl)<|ay (HM h0 hp.p2) ?_;rintro _ w2 ⟨rfl,rfl⟩;cases hH:ch S aj with
 |none=>have hn:=WH.BZ h0 hH hp.p2;exact gK<|aW (by unfold tX;rw[hn];rfl) (.inl h)
 |some H=>
  obtain⟨κ,bB,_⟩:=WH.ba hH hp.p2;have hv:tX I aj=some (aD κ.kh):=by unfold tX;rw[bB];rfl
  rw[hv];obtain⟨P,hI,hq⟩:=WH.aK hp.p2;obtain⟨tp,tc,lh⟩:=WO.HD hH (hE.bQ H (MV hH)).2.2.2.1 (by rw[mj hI];exact bB) hq;refine gK<|aw rfl<|aq<|aN lh ⟨λn w' m=>n=0/\w'=w2,⟨0,rfl,rfl⟩,?_⟩;rintro u _ w3 m ⟨rfl,rfl⟩;exact aw rfl (.inl h)
theorem ak5 (hE:sS S) (h0:0<=aj) (h:V O (WH k I S*F) w):ae 133 #[al k,aa aj] w λv w'=>v=aP/\V O (WH k I S*F) w':=by
 apply abb;refine aG h λk1 w1 h1=>ay (K:=λv w'=>∃ka kb ta tb,v=.func (.func 297) #[] #[al ka,al kb]/\V O (ab kb #[aa aj] tb*(ab ka #[al k] ta*(ab k1 #[aP] 188*(WH k I S*F)))) w') ?_ ?_
 .apply aaF;exact aG h1 λk1 w1 h1=>aG h1 λk2 w2 h2=>⟨k1,k2,_,_,rfl,h2⟩
 rintro _ w2 ⟨ka,kb,ta,tb,rfl,h2⟩;refine i6<|j7 ⟨O,_,_,[],λj=>ab kb #[aa aj] tb*(ab ka #[al k] ta*(WH k I S*(ab k1 #[aP] 188*F))),λ_=>bM False,rfl,⟨_,_,Tryz.func297,rfl⟩,h2.aF (by ac_rfl),?_,ak4 (X:=ab k1 #[aP] 188*F) (ta:=ta) (tb:=tb) (k:=k) (I:=I) hE h0 (λw h=>h),?_,?_,?_⟩
 .intro x gY;cases gY
 .intro j x gY G G' T w3 hT h4;simp at gY
 .intro D w8 h5;have h6:V O (fw D*(ab k1 #[aP] 188*(ab kb #[aa aj] tb*(ab ka #[al k] ta*(WH k I S*F))))) w8:=h5.aF (by dsimp only;ac_rfl);exact aN (fS h6.p1 rfl)<|iL h6 λw9 h7=>⟨rfl,h7.right.right.right⟩
 .intro D c w8 h5;exact(V.nJ h5).elim
theorem ak6 (hE:sS S) (h:V O (WH k I S*F) w):ae 66 #[al k] w λv w'=>(∃p c,v=af p 0 c)/\V O (WH k I S*F) w':=by
 apply aa7;refine⟨λp l c n w' m=>l=0/\(0<=n/\n<=4)/\m=(4- n).toNat/\V O (own 139 2 p 0 c []*(WH k I S*F)) w',⟨_,rfl,by decide,rfl,V.iZ 139 2 h⟩,?_⟩;rintro u p _ c n w1 m ⟨rfl,hn,rfl,h1⟩;refine bU (λaQ=> ?_) (λbW=> ?_)
 .refine ay (ak3 hE hn.1 h1.p1) ?_;rintro _ w2 ⟨rfl,h2⟩;refine iE<|lW Hp.Hd (m:=0) (news:=[]) h2.p1 (Rd.nil _ _ _) (by simp) (by decide) (by decide) λp' c' w3 h3=>ay (ak5 hE hn.1 h3.p1) ?_;rintro _ w4 ⟨rfl,h4⟩;refine iE<|lW Hp.Hd (m:=0) (news:=[]) h4.p1 (Rd.nil _ _ _) (by simp) (by decide) (by decide) λp2 c2 w5 h5=>aY (by omega) (by omega) ⟨_,?_,rfl,by omega,rfl,h5⟩;omega
 .exact⟨⟨p,c,rfl⟩,h1.right⟩
end
section
variable {O w:ao} {F:HP} {k:Nat} {S:WS} {P:WP} {I:WI} {aj:Int} {H:dr} {κ:eA}
theorem ak7 {kk tt:Nat} {bG:Nat->HP} (hP:∀w,V O (bG 0) w->V O (ab kk #[ag none] tt) w):iD au O 222 #[al kk] bG []:=by intro f b c B Bx cA hB hy F w h;show ae _ #[.func f b c,al kk] w _;apply NX;refine aG h λk1 w1 h1=>bh ((hP _ (hB 0 _ h1.right.left)).cell (i:=0) rfl)<|aW rfl (.inl h1.right)
theorem ak8 {kk tt:Nat} {bG:Nat->HP} (hP:∀w,V O (bG 0) w->V O (ab kk #[ag none] tt) w):iD au O 134 #[al kk] bG []:=by intro f b c B Bx cA hB hy F w h;show ae _ #[.func f b c,al kk] w _;apply NW;refine aG h λk1 w1 h1=>bh ((hP _ (hB 0 _ h1.right.left)).cell (i:=0) rfl)<|aW rfl (.inl h1.right)
theorem ak9 (hE:sS S) (h0:0<=aj) (h:V O (WH k I S*F) w):ae 65 #[al k,aa aj] w λv w'=>v=aa 0/\V O (WH k I S*F) w':=by
 apply aa6;refine aG h λk1 w1 h1=>bD (i:=0) h1 (by simp) λw2 h2=> ?_;have h2:V O (WH k I S*(ab k1 #[aa 0] 3*F)) w2:=h2.p1;refine ay (akY h0 h2) ?_;rintro _ w3 ⟨rfl,rfl⟩;refine gK<|ay (Q0 h2) ?_;rintro _ w4 ⟨ka,ta,rfl,h3⟩;have fin:∀(Q X:HP),(∀w,V O (Q*X) w->V O (WH k I S*F) w)->V O (ab k1 #[aa 0] 3*(Q*X)) w4->iD au O 222 #[al ka] (λ_=>ab k1 #[aa 0] 3*(Q*X)) []->iR au (.func (.func 222) #[] #[al ka]) 1 (λMW N7 J8 T9 w5=>∃(fh:Int),MW=#[ah fh]/\T9 w5 λw6=>ax .i64 (aD k1) w6 λDO=>arith .i64 (DO+1) λMX=>st (aD k1) (aa MX) w6 λw7=>N7 w7) (λD13 w8=>ax .i64 (aD k1) w8 λLx=>gP D13 w8 λw9=>(aa Lx=aa 0/\V O (WH k I S*F) w9)) (λD15 c16 dn=>jmp c16 False []) w4:=by
  intro Q X px hs py;refine j7 ⟨O,_,_,[],λ_=>ab k1 #[aa 0] 3*(Q*X),λ_=>bM False,rfl,⟨_,_,Tryz.func222,rfl⟩,hs,?_,py,?_,?_,?_⟩
  .intro x hx;cases hx
  .intro j x hx;simp at hx
  .intro D w8 h5;exact az (n:=0) (fS (h5.p1) rfl)<|iL h5 λw9 h7=>⟨rfl,px _ h7.right⟩
  .intro D c w8 h5;exact(V.nJ h5).elim
 cases hH:ch S aj with
 |none=>have hn:=WH.BZ h0 hH h2;rw[hn] at h3;have h3:V O (ab k1 #[aa 0] 3*(ab ka #[ag none] ta*(WH k I S*F))) w4:=h3.aF (by show ab ka #[ag none] ta*_=_;ac_rfl);exact i6<|fin _ _ (λw h=>h.right) h3 (ak7 (λw h=>h.right.left))
 |some H=>
  obtain⟨κ,bB,_⟩:=WH.ba hH h2;rw[bB] at h3;obtain⟨P,hI,h4⟩:=WH.aK h3.p1;obtain⟨Y,_,h5,bt⟩:=WO.dA hH (by rw[mj hI];exact bB) h4;obtain⟨a,PP,h6⟩:=eE.aK h5;have hl:cB H.dA=[]:=MU (PO.ok h6) (hE.bQ H (MV hH)).2.1;obtain⟨qL,Q,X,h7,kF,_,hQ,alc⟩:=WO.rY hH h4;have MY:P.bw[aj.toNat]?=some κ:=by rw[mj hI];exact bB
  rw[MY] at kF;cases kF;have ep:Q.kp=κ.kp:=congrArg eA.kp hQ;have h8:=HO.BO h7;rw[ep] at h8;obtain⟨a,PP,h9⟩:=eE.aK h8;have aV:V O (ab k1 #[aa 0] 3*((PO κ.kp a PP H.dA*ab ka #[al κ.kp] ta)*(ve Q κ.kh aj H*(X*F)))) w4:=h9.aF (by show PO κ.kp a PP H.dA*(ve Q κ.kh aj H*(X*(ab ka #[al κ.kp] ta*_)))=_;ac_rfl);have py:=Q1 (O:=O) (k:=κ.kp) (a:=a) (P:=PP) (S:=H.dA) (kk:=ka) (tt:=ta) (bG:=λ_=>ab k1 #[aa 0] 3*((PO κ.kp a PP H.dA*ab ka #[al κ.kp] ta)*(ve Q κ.kh aj H*(X*F)))) (λw h=>h.right.left.right) (λw h=>h.right.left.left);rw[hl] at py;refine i6<|fin _ _ (λw h=> ?_) aV py;have bu:V O (PO κ.kp a PP H.dA*(ve Q κ.kh aj H*(X*F))) w:=(h.a.p1).right;have bA:=eE.aI bu;rw[<-ep] at bA;have bN:=alc F _ _ _ hQ (HO.D9 _ bA);rw[rX (H:={H with dA:=H.dA}) hH] at bN;exact WH.aI hI bN
theorem ald (hE:sS S) (h0:0<=aj) (h:V O (WH k I S*F) w):ae 37 #[al k,aa aj] w λv w'=>v=aa 0/\V O (WH k I S*F) w':=by
 apply aa4;refine aG h λk1 w1 h1=>bD (i:=0) h1 (by simp) λw2 h2=> ?_;have h2:V O (WH k I S*(ab k1 #[aa 0] 3*F)) w2:=h2.p1;refine ay (akX h0 h2) ?_;rintro _ w3 ⟨rfl,rfl⟩;refine gK<|ay (QN h2) ?_;rintro _ w4 ⟨ka,ta,rfl,h3⟩;have fin:∀(Q X:HP),(∀w,V O (Q*X) w->V O (WH k I S*F) w)->V O (ab k1 #[aa 0] 3*(Q*X)) w4->iD au O 134 #[al ka] (λ_=>ab k1 #[aa 0] 3*(Q*X)) []->iR au (.func (.func 134) #[] #[al ka]) 2 (λMW N7 J8 T9 w5=>∃(KR:aM) (DO:Int),MW=#[an KR,ah DO]/\T9 w5 λw6=>ax .i64 (aD k1) w6 λMX=>arith .i64 (MX+1) λxG=>st (aD k1) (aa xG) w6 λw7=>N7 w7) (λD14 w8=>ax .i64 (aD k1) w8 λLy=>gP D14 w8 λw9=>(aa Ly=aa 0/\V O (WH k I S*F) w9)) (λD16 c17 dn=>jmp c17 False []) w4:=by
  intro Q X px hs py;refine j7 ⟨O,_,_,[],λ_=>ab k1 #[aa 0] 3*(Q*X),λ_=>bM False,rfl,⟨_,_,Tryz.func134,rfl⟩,hs,?_,py,?_,?_,?_⟩
  .intro x hx;cases hx
  .intro j x hx;simp at hx
  .intro D w8 h5;exact az (n:=0) (fS (h5.p1) rfl)<|iL h5 λw9 h7=>⟨rfl,px _ h7.right⟩
  .intro D c w8 h5;exact(V.nJ h5).elim
 cases hH:ch S aj with
 |none=>have hn:=WH.BZ h0 hH h2;rw[hn] at h3;have h3:V O (ab k1 #[aa 0] 3*(ab ka #[ag none] ta*(WH k I S*F))) w4:=h3.aF (by show ab ka #[ag none] ta*_=_;ac_rfl);exact i6<|fin _ _ (λw h=>h.right) h3 (ak8 (λw h=>h.right.left))
 |some H=>
  obtain⟨κ,bB,_⟩:=WH.ba hH h2;rw[bB] at h3;obtain⟨P,hI,h4⟩:=WH.aK h3.p1;have MY:P.bw[aj.toNat]?=some κ:=by rw[mj hI];exact bB
  obtain⟨Y,_,h8,bt⟩:=WO.T5 hH MY h4;obtain⟨a,PP,h9⟩:=dD.aK h8;have hl:cB H.ca=[]:=MU (SO.ok h9) (hE.bQ H (MV hH)).2.2.1;have aV:V O (ab k1 #[aa 0] 3*((SO κ.ks aj a PP H.ca*ab ka #[al κ.ks] ta)*(Y*F))) w4:=h9.aF (by show SO κ.ks aj a PP H.ca*(Y*(ab ka #[al κ.ks] ta*_))=_;ac_rfl);have py:=QO (O:=O) (k:=κ.ks) (ox:=aj) (a:=a) (P:=PP) (S:=H.ca) (kk:=ka) (tt:=ta) (bG:=λ_=>ab k1 #[aa 0] 3*((SO κ.ks aj a PP H.ca*ab ka #[al κ.ks] ta)*(Y*F))) (λw h=>h.right.left.right) (λw h=>h.right.left.left) (by intro j q hq;rw[hl] at hq;simp at hq);rw[hl] at py;refine i6<|fin _ _ (λw h=> ?_) aV py;have bu:V O (SO κ.ks aj a PP H.ca*(Y*F)) w:=(h.a.p1).right;have bN:=bt F _ _ (dD.aI bu);rw[rX (H:={H with ca:=H.ca}) hH] at bN;exact WH.aI hI bN
theorem Uw (h:V O (WH k I S*F) w):ae 12 #[al I.cD] w λv w'=>v=aa S.cD.row.length/\w'=w:=by obtain⟨P,hI,h1⟩:=WH.aK h;have e:P.cD=I.cD:=congrArg WI.cD hI;obtain⟨_,h2⟩:=iW.aK (WO.D6 h1);rw[e] at h2;refine ay (Jz h2) ?_;rintro _ w3 ⟨rfl,rfl⟩;exact⟨rfl,rfl⟩
theorem alg (hE:sS S) (h:V O (WH k I S*F) w):ae 33 #[al k] w λv w'=>v=an #[aa 0,aa 0,aa 0,aa 0]/\V O (WH k I S*F) w':=by
 apply aa3;refine aG h λk1 w1 h1=>⟨λs n w' m=>s=0/\(0<=n/\n<=4)/\m=(4- n).toNat/\V O (ab k1 #[aa 0,aa 0,aa 0,aa 0] 118*(WH k I S*F)) w',⟨_,rfl,by decide,rfl,h1⟩,?_⟩;rintro u _ n w2 m ⟨rfl,hn,rfl,h2⟩;refine bU (λaQ=> ?_) (λbW=> ?_)
 .refine ay (ak9 hE hn.1 h2.p1) ?_;rintro _ w3 ⟨rfl,h3⟩;refine bI<|aY (by decide) (by decide)<|aY (by omega) (by omega) ⟨_,?_,rfl,by omega,rfl,h3.p1⟩;omega
 .refine ay (Uu h2.p1) ?_;rintro _ w4 ⟨p,c,rfl,h3⟩;refine iE<|ay (ak6 hE h3) ?_;rintro _ w5 ⟨⟨p2,c2,rfl⟩,h4⟩;refine iE<|ay (Ty h4) ?_;rintro _ w6 ⟨rfl,rfl⟩;refine gK<|ay (Uw h4) ?_;rintro _ w7 ⟨rfl,rfl⟩;rw[hE.cD,hE.heap];exact bI<|bL h4.p1 rfl rfl (by simp[Value.oneCell']) λw8 h5=>bz h5 rfl ⟨rfl,h5.right⟩
end
def jD (a:nq):aM:=(lu (aa a.kind) (aa a.aj) (ah a.dR) (ah a.ed) (aa 0) (ah 0) (aa a.n) (aa a.pG))
theorem zK {a:nq} (h:a.kind≠1):wF a (jD a):=⟨rfl,by simp[jD,Value.oneCell'],rfl,rfl,rfl,rfl,rfl,rfl,λe=>absurd e h⟩
structure GI where
 kg:Nat
 kp:Nat
 k:Nat
 I:WI
def iP (k:Nat):aM:=#[al k,aP,aP,aP,aP,aP,aP,aP,aP,aP]
def MZ (x:GI) (p:av) (c:Nat) (g:GM):HP:=ab x.kg #[al x.kp,aa (x.I.bw.length:Int),af p g.l.length c] 44*(aE 50 6 eF p g.l.length c g.l*(ab x.kp (iP x.k) 80*WH x.k x.I g.w))
def cM (x:GI) (g:GM):HP:=ex λ(p:av)=>ex λ(c:Nat)=>MZ x p c g
section
variable {O w:ao} {F:HP} {x:GI} {g:GM}
theorem cM.aK (h:V O (cM x g*F) w):∃p c,V O (ab x.kg #[al x.kp,aa (x.I.bw.length:Int),af p g.l.length c] 44*(aE 50 6 eF p g.l.length c g.l*(ab x.kp (iP x.k) 80*(WH x.k x.I g.w*F)))) w:=by obtain⟨p,h⟩:=h.ex;obtain⟨c,h⟩:=h.ex;exact⟨p,c,h.aF (by unfold MZ;ac_rfl)⟩
theorem cM.aI {p:av} {c n:Nat} (hn:n=g.l.length) (h:V O (ab x.kg #[al x.kp,aa (x.I.bw.length:Int),af p n c] 44*(aE 50 6 eF p n c g.l*(ab x.kp (iP x.k) 80*(WH x.k x.I g.w*F)))) w):V O (cM x g*F) w:=by subst hn;exact V.bO p (V.bO c (h.aF (by unfold MZ;ac_rfl)))
theorem Ux (h:V O (ab x.kp (iP x.k) 80*F) w):ae 10 #[al x.kp] w λv w'=>v=al x.k/\w'=w:=by apply aaR;exact aw rfl<|aq<|bh (aB h (i:=0) rfl) ⟨rfl,rfl⟩
theorem cM.world (h:V O (cM x g*F) w):w.cell? ((aD x.kg).add 0)=some (al x.kp)/\ae 10 #[al x.kp] w (λv w'=>v=al x.k/\w'=w)/\∃Y,V O (WH x.k x.I g.w*(Y*F)) w/\∀F' w',V O (WH x.k x.I g.w*(Y*F')) w'->V O (cM x g*F') w':=by obtain⟨p,c,h1⟩:=cM.aK h;refine⟨aB h1 (i:=0) rfl,Ux h1.p2,_,h1.aF (B:=WH x.k x.I g.w*((ab x.kg #[al x.kp,aa (x.I.bw.length:Int),af p g.l.length c] 44*(aE 50 6 eF p g.l.length c g.l*ab x.kp (iP x.k) 80))*F)) (by ac_rfl),λF' w' h2=>cM.aI rfl (h2.aF (by ac_rfl))⟩
theorem cM.bQ (h:V O (cM x g*F) w):w.cell? ((aD x.kg).add 1)=some (aa (x.I.bw.length:Int))/\x.I.bw.length=g.w.bQ.length:=by obtain⟨p,c,h1⟩:=cM.aK h;exact⟨aB h1 (i:=1) rfl,(WH.bj h1.p3).2.1⟩
theorem HN {a:nq} {A:aM} {r:GM×List TM×Int} (hA:wF a A) (hm:mg g a=some r) (h:V O (cM x g*F) w): ae 8 #[al x.kg,an A] w λv w'=>∃q d,v=ak #[af q r.2.1.length d,aa r.2.2]/\V O (aE 50 6 eF q r.2.1.length d r.2.1*(cM x r.1*F)) w':=by
 unfold mg at hm;obtain⟨r1,fA,hm⟩:=bZ.1 hm;split at hm
 .cases hm
 rename_i hl;cases hm;apply aaP;refine aG h λk1 w1 h1=> ?_;have h1:=h1.drew;obtain⟨p,c,h2⟩:=cM.aK h1.p1;refine aq<|bh (aB h2 (i:=0) rfl)<|bz h1 hA.sz<|ay (Ux h2.p2) ?_;rintro _ w2 ⟨rfl,rfl⟩;refine gK<|IP h1<|ay (Uo hA fA h2.p3) ?_;rintro _ w3 ⟨q,d,rfl,eB,h3⟩;have h4:V O (aE 50 6 eF p g.l.length c g.l*(ab x.kg #[al x.kp,aa (x.I.bw.length:Int),af p g.l.length c] 44*(aE 50 6 eF q r1.2.1.length d r1.2.1*(ab x.kp (iP x.k) 80*(WH x.k x.I r1.1*F))))) w3:=(h3.p4.p1.p3.p4.p5).right;refine⟨_,_,_,_,rfl,aq<|aN (aB h4.p1 (i:=2) rfl)<|xc (zs:=r1.2.1) Hq m3 D4 h4 (V.rd (t:=50) (c:=d) h4.p2.left) (by simp only[maxLen];omega) (by omega) λp' c' w4 h5=>aq<| ?_⟩;rw[du,dc];refine bD (i:=2) h5.p1 (by simp) λw5 h6=>⟨q,d,rfl,?_⟩;have h7:V O (ab x.kg #[al x.kp,aa (x.I.bw.length:Int),af p' (g.l.length+r1.2.1.length) c'] 44*(aE 50 6 eF p' (g.l.length+r1.2.1.length) c' (g.l++r1.2.1)*(ab x.kp (iP x.k) 80*(WH x.k x.I r1.1*(aE 50 6 eF q r1.2.1.length d r1.2.1*F))))) w5:=h6.aF (by show ab x.kg #[al x.kp,aa (x.I.bw.length:Int),af p' (g.l.length+r1.2.1.length) c'] 44*_=_;ac_rfl);exact(cM.aI (x:=x) (g:=⟨r1.1,g.l++r1.2.1⟩) (by simp) h7).p1
theorem HQ {a:nq} {A:aM} {r:GM×Int} (hA:wF a A) (hm:Bi g a=some r) (h:V O (cM x g*F) w): ae 7 #[al x.kg,an A] w λv w'=>v=ah r.2/\V O (cM x r.1*F) w':=by
 unfold Bi at hm;obtain⟨r1,fA,rfl⟩:=dd.1 hm;apply aaO;refine aG h λk1 w1 h1=>bz h1 hA.sz<|ay (HN hA fA h1.p1) ?_;rintro _ w2 ⟨q,d,rfl,h2⟩;have fin:V O (cM x r1.1*F) w2:=h2.right.p1.right;refine⟨_,_,_,_,rfl,?_⟩;by_cases e:r1.2.2=0
 .rw[if_neg (by simp[e])];refine aw (by simp[e]) ?_;cases hl:r1.2.1 with
  |nil=>exact aW rfl ⟨rfl,fin⟩
  |cons t l=>
   rw[hl] at h2;refine aw (by simp;omega)<|dC m3 h2.left (by decide) (by decide) (y:=t) rfl λgb hg=>az (n:=t.kind) (cU m3 (j:=0) h2.left hg (i:=0) (y:=t) rfl (by decide) rfl) ?_;by_cases ek:t.kind=1
   .refine aw (by simp[ek])<|dC m3 h2.left (by decide) (by decide) (y:=t) rfl λgb hg=>az (n:=t.dR) (cU m3 (j:=1) h2.left hg (i:=0) (y:=t) rfl (by decide) rfl) ⟨?_,fin⟩;dsimp only;rw[if_pos ek]
   .refine aW (by simpa using ek) ⟨?_,fin⟩;dsimp only;rw[if_neg ek]
 .rw[if_pos e];exact aW (by simpa using e) ⟨rfl,fin⟩
end
theorem Uy {α:Type} {f:GM×Bool->α->Option (GM×Bool)}:∀l:List α,l.foldl (λ(r:Option (GM×Bool)) x=>r.bind λr=>f r x) none=none
 |[]=>rfl
 |_::l=>by rw[o0];exact Uy l
section
variable {O w:ao} {F:HP} {x:GI} {g:GM}
theorem tY {a:nq} {r:GM×List TM×Int} (ha:a.kind≠1) (hm:mg g a=some r) (h:V O (cM x g*F) w): ae 8 #[al x.kg,an (jD a)] w λv w'=>∃(p:av) (l c:Nat) (n:Int),v=ak #[af p l c,aa n]/\n=r.2.2/\V O (cM x r.1*F) w':=by refine ay (HN (zK ha) hm h) ?_;rintro _ w' ⟨q,d,rfl,h2⟩;exact⟨_,_,_,_,rfl,rfl,h2.right⟩
theorem Uz {r:GM×Bool} (hm:Bj 3000 g=some r) (h:V O (cM x g*F) w):ae 22 #[al x.kg] w λv w'=>v=aC r.2/\V O (cM x r.1*F) w':=by
 apply aaX;refine⟨λn w' m=>∃(j:Nat) (g1:GM),n=j/\j<=3000/\m=3000- j/\Bj (3000- j) g1=some r/\V O (cM x g1*F) w',⟨_,0,g,rfl,by decide,rfl,hm,h⟩,?_⟩;clear hm h;rintro u _ w1 m ⟨j,g1,rfl,hj,rfl,hm,h1⟩;refine bU (λaQ=> ?_) (λbW=> ?_);rotate_left
 .have e:3000- j=0:=by omega
  rw[e] at hm;cases hm;exact⟨rfl,h1⟩
 have e:3000- j=(3000- (j+1))+1:=by omega
 rw[e] at hm;unfold Bj at hm;obtain⟨r1,fA,hm⟩:=bZ.1 hm;obtain⟨q,hq,hm⟩:=bZ.1 hm;refine ay (tY (a:=⟨22,0,0,0,0,0⟩) (by decide) fA h1) ?_;rintro _ w2 ⟨p,l,c,n8,rfl,rfl,h2⟩;refine⟨_,_,_,_,rfl,?_⟩;unfold Qv at hq;obtain⟨_,hL⟩:=cM.bQ h2;rw[<-hL] at hq;refine⟨λbb n w' m=>∃(a2:Nat) (g2:GM) (b:Bool),n=a2/\a2<=x.I.bw.length/\m=x.I.bw.length- a2/\((List.range x.I.bw.length).drop a2).foldl (λ(r:Option (GM×Bool)) (aj:Nat)=>r.bind λr=>(mg r.1 ⟨21,aj,0,0,0,0⟩).map λq=>(q.1,r.2||decide (q.2.2=0))) (some (g2,b))=some q/\bb=(decide (r1.2.2=0)||b)/\V O (cM x g2*F) w',⟨_,0,r1.1,false,rfl,pb _,rfl,hq,?_,h2⟩,?_⟩
 .rw[sX];simp
 clear h2 hq hL;rintro u bb _ w3 m ⟨a,g2,b,rfl,DY,rfl,hq,rfl,h3⟩;obtain⟨jH,hL⟩:=cM.bQ h3;refine aq<|az jH<|bU (λoJ=> ?_) (λbW=> ?_)
 .have hx:(List.range x.I.bw.length)[a]?=some a:=by rw[zM];omega
  rw[ll (by simp;omega),o0,gg,List.getElem_range] at hq;cases hg:mg g2 ⟨21,(a:Int),0,0,0,0⟩ with
  |none=>rw[hg,Option.map_none,Uy] at hq;cases hq
  |some s=>
   rw[hg,qR] at hq;refine ay (tY (a:=⟨21,(a:Int),0,0,0,0⟩) (show(21:Int)≠1 by decide) hg h3) ?_;rintro _ w4 ⟨p,l,c,OP,rfl,rfl,h4⟩;refine⟨_,_,_,_,rfl,?_⟩;have qc:(x.I.bw.length:Int)<=9223372036854775807:=by obtain⟨_,_,Y,hw,_⟩:=cM.world h4;exact(WH.bj hw).2.2
   refine cy (λhb=> ?_) (λhb=> ?_)
   .refine aY (by omega) (by omega) ⟨_,?_,a+1,s.1,_,by omega,by omega,rfl,hq,?_,h4⟩
    .omega
    .rw[sX];simp only[Bool.or_eq_true,decide_eq_true_eq] at hb ⊢;rcases hb with hb|hb<;>simp[hb]
   .refine aY (by omega) (by omega) ⟨_,?_,a+1,s.1,_,by omega,by omega,rfl,hq,?_,h4⟩
    .omega
    .simp only[B9] at hb;rw[hb.1,hb.2,sX];simp
 .rw[mJ (by simp;omega)] at hq;cases hq;refine cy (λhb=> ?_) (λhb=> ?_)
  .have hb:(decide (r1.2.2=0)||b)=false:=by revert hb;cases(decide (r1.2.2=0)||b)<;>simp
   rw[if_neg (by rw[hb];decide)] at hm;cases hm;exact⟨rfl,h3⟩
  .have hb:(decide (r1.2.2=0)||b)=true:=by revert hb;cases(decide (r1.2.2=0)||b)<;>simp
   rw[if_pos hb] at hm;exact aY (by omega) (by omega) ⟨_,by omega,j+1,g2,by omega,by omega,rfl,hm,h3⟩
end
def B0:TM:=⟨0,0,0,0,0,0⟩
section
variable {O w:ao} {F:HP} {x:GI} {g:GM}
theorem UB {aj dR n pG ed:Int} {g':GM} {t:TM} (hm:Bk g aj dR n pG ed=some (g',some t)) (h:V O (cM x g*F) w): ae 13 #[al x.kg,an (jD ⟨0,aj,dR,ed,n,pG⟩)] w λv w'=>v=ak #[an (eF t).toArray,aC true]/\V O (cM x g'*F) w':=by
 unfold Bk at hm;obtain⟨r,hr,hm⟩:=bZ.1 hm;split at hm
 .cases hm
 rename_i hz;have hz:=iA.1 hz;split at hm;rotate_left
 .cases hm
 rename_i u hu;obtain⟨q,hq,hm⟩:=dd.1 hm;simp only[Prod.mk.injEq] at hm;obtain⟨rfl,hf⟩:=hm;apply aaS;refine aG h λk1 w1 h1=>aG h1 λk2 w2 h2=> ?_;have h2:V O (ab k1 (jD ⟨0,aj,dR,ed,n,pG⟩) 35*(ab k2 (eF B0).toArray 50*(cM x g*F))) w2:=h2.p1;rw[du,dc];refine bD (i:=0) h2 (by simp[jD]) λw3 h3=> ?_;have h3:V O (ab k1 (jD ⟨5,aj,dR,ed,n,pG⟩) 35*(ab k2 (eF B0).toArray 50*(cM x g*F))) w3:=h3;refine bz h3 rfl<|ay (HN (zK (show(5:Int)≠1 by decide)) hr h3.p2) ?_;rintro _ w4 ⟨p5,c5,rfl,h4⟩;rw[hz,hu];rw[hu] at h4;have h5:V O (cM x r.1*(aE 50 6 eF p5 1 c5 [u]*(ab k2 (eF B0).toArray 50*F))) w4:=(h4.aF (B:=ab k1 (jD ⟨5,aj,dR,ed,n,pG⟩) 35*(cM x r.1*(aE 50 6 eF p5 1 c5 [u]*(ab k2 (eF B0).toArray 50*F)))) (by show aE 50 6 eF p5 1 c5 [u]*_=_;ac_rfl)).right;obtain⟨p,c,h6⟩:=cM.aK h5;refine⟨_,_,_,_,rfl,aw rfl<|aw rfl<|aq<|aN (aB h6 (i:=2) rfl)<|ay (Uz hq h5) ?_⟩;rintro _ w7 ⟨rfl,h7⟩;refine cR ⟨λn w' m=>∃j:Nat,n=j/\m=q.1.l.length- j/\(q.1.l.drop j).find? (λv=>decide (v.kind=3)&&decide (v.dR=u.dR))=some t/\V O (cM x q.1*(aE 50 6 eF p5 1 c5 [u]*(ab k2 (eF B0).toArray 50*F))) w',⟨_,_,rfl,rfl,hf,h7⟩,?_⟩;clear h1 h2 h3 h4 h5 h6 h7;rintro u1 _ w8 m ⟨j,rfl,rfl,hf,h8⟩;have iM:j<q.1.l.length:=by
  rcases sY j q.1.l.length with e|e
  .exact e
  .rw[mJ e] at hf;cases hf
 rw[ll iM,List.find?_cons] at hf;have hy:q.1.l[j]?=some q.1.l[j]:=gm iM;generalize q.1.l[j]=y at hf hy;obtain⟨p1,c1,h9⟩:=cM.aK h8;have pL:=aB h9 (i:=2) rfl;have M0:=h9.drew;have M1:=aB M0 (i:=2) rfl;have hT:=M0.p1.left;have UC:V O (aE 50 6 eF p5 1 c5 [u]) w8.drew:=(M0.right.right.right.right).left;have hbound:(q.1.l.length:Int)<=9223372036854775807:=by
  have hc:=V.po (t:=50) (sz:=6) (c:=c1) (xs:=q.1.l.flatMap eF) (p:=p1) (l:=q.1.l.length) hT;rcases hc.2 with⟨_,e⟩|⟨g',cap,cur,e,_,_,q1,q2,_⟩
  .omega
  .simp only[maxLen] at q2;omega
 have next:(q.1.l.drop (j+1)).find? (λv=>decide (v.kind=3)&&decide (v.dR=u.dR))=some t->arith .i64 ((j:Int)+1) λMQ=>∃UD,UD<q.1.l.length- j/\∃j2:Nat,MQ=j2/\UD=q.1.l.length- j2/\(q.1.l.drop j2).find? (λv=>decide (v.kind=3)&&decide (v.dR=u.dR))=some t/\V O (cM x q.1*(aE 50 6 eF p5 1 c5 [u]*(ab k2 (eF B0).toArray 50*F))) w8.drew:=λmI=>aY (by omega) (by omega) ⟨_,by omega,j+1,by omega,rfl,mI,h8.drew⟩
 refine aq<|aN pL<|aW (by simp;omega)<|aq<|aN M1<|dC m3 hT (by decide) (by omega) (by rw[cu];exact hy) λgb hg=> ?_;rw[cu];refine az (n:=y.kind) (cU m3 (j:=0) hT hg hy (by decide) rfl) ?_;by_cases e3:y.kind=3
 .refine aW (by simp[e3])<|aq<|aN M1<|dC m3 hT (by decide) (by omega) (by rw[cu];exact hy) λgb hg=> ?_;rw[cu];refine az (n:=y.dR) (cU m3 (j:=1) hT hg hy (by decide) rfl)<|dC m3 UC (by decide) (by decide) (y:=u) rfl λgb2 pz=>az (n:=u.dR) (cU m3 (j:=1) UC pz (i:=0) (y:=u) rfl (by decide) rfl) ?_;by_cases er:y.dR=u.dR
  .rw[show(decide (y.kind=3)&&decide (y.dR=u.dR))=true by simp[e3,er]] at hf;cases hf;refine aW (by simp[er])<|aq<|aN M1<|dC m3 hT (by decide) (by omega) (by rw[cu];exact hy) λgb hg=> ?_;rw[cu];refine vK m3 hT hg hy<|bL (h8.drew.p2) rfl rfl (by simpa using D4 _) λw9 aV=>bz aV rfl ⟨rfl,?_⟩;exact(aV.p2.p1.g1).right
  .rw[show(decide (y.kind=3)&&decide (y.dR=u.dR))=false by simp[er]] at hf;exact aw (by simpa using er) (next hf)
 .rw[show(decide (y.kind=3)&&decide (y.dR=u.dR))=false by simp[e3]] at hf;exact aw (by simpa using e3) (next hf)
theorem alh {g':GM} (hm:Kw g=some g') (h:V O (cM x g*F) w):ae 24 #[al x.kg] w λv w'=>v=aT/\V O (cM x g'*F) w':=by
 unfold Kw at hm;obtain⟨g6,qN,hm⟩:=bZ.1 hm;obtain⟨r7,hr7,hm⟩:=bZ.1 hm;obtain⟨r8,Bz,rfl⟩:=dd.1 hm;apply aaZ;refine⟨λn w' m=>∃(j:Nat) (g1:GM),n=j/\j<=6/\m=6- j/\Gv (6- j) g1=some g6/\V O (cM x g1*F) w',⟨_,0,g,rfl,by decide,rfl,qN,h⟩,?_⟩;clear h qN;rintro u _ w1 m ⟨j,g1,rfl,hj,rfl,qN,h1⟩;refine bU (λaQ=> ?_) (λbW=> ?_)
 .have e:6- j=(6- (j+1))+1:=by omega
  rw[e] at qN;unfold Gv at qN;obtain⟨r1,fA,qN⟩:=bZ.1 qN;obtain⟨q,hq,qN⟩:=bZ.1 qN;obtain⟨r2,fp,qN⟩:=bZ.1 qN;refine ay (tY (a:=⟨25,0,0,0,0,0⟩) (by decide) fA h1) ?_;rintro _ w2 ⟨p,l,c,n8,rfl,_,h2⟩;refine⟨_,_,_,_,rfl,ay (Uz hq h2) ?_⟩;rintro _ w3 ⟨rfl,h3⟩;refine cR<|ay (tY (a:=⟨20,0,0,0,1048576,0⟩) (by decide) fp h3) ?_;rintro _ w4 ⟨p,l,c,n8,rfl,_,h4⟩;exact⟨_,_,_,_,rfl,aY (by omega) (by omega) ⟨_,by omega,j+1,r2.1,by omega,by omega,rfl,qN,h4⟩⟩
 .have e:6- j=0:=by omega
  rw[e] at qN;cases qN;refine ay (tY (a:=⟨25,0,0,0,0,0⟩) (by decide) hr7 h1) ?_;rintro _ w2 ⟨p,l,c,n8,rfl,_,h2⟩;refine⟨_,_,_,_,rfl,ay (tY (a:=⟨19,0,0,0,0,0⟩) (by decide) Bz h2) ?_⟩;rintro _ w3 ⟨p,l,c,n8,rfl,_,h3⟩;exact⟨_,_,_,_,rfl,rfl,h3⟩
end
theorem alj:fe au 458 30 (an (gA dW)) 16 16:=⟨by kernel_rfl,by kernel_rfl,rfl,by decide⟩
section
variable {O w:ao} {F:HP} {k:Nat} {m:List jz} {dl:Int} {r:rP} {P:BA}
theorem alk {c:jz} {j:Int} (hm:BB m) (hp:P.ys.map cL.x=m/\kj P.H P.q P.ys) (h0:0<=j) (hj:m[j.toNat]?=some c) (hR:∀O w,V O F w->V O (dp P k m dl r) w) (h:V O F w): ae 195 #[al k,aa 0,aa j] w λv w'=>∃(y:cL) (H:HP),v=ak #[an (dN y).toArray,aa 0]/\y.x=c/\oe H y/\V O (H*F) w':=by
 have aQ:=(ct.1 hj).1;have nz:P.ys.length=m.length:=by rw[<-hp.1,fk]
 apply N2;refine aG h λk1 w1 h1=> ?_;have hr:=(hR _ _ h1.right).cQ.e1;refine ay (K:=λv w'=>v=al P.km/\w'=w1) ?_ ?_
 .apply N1;exact aw rfl<|aw rfl<|aq<|aN (aB (dp.at hr) (i:=0) rfl)<|aw rfl<|aq<|aN (aB (dp.at hr) (i:=0) rfl)<|dp.BC hr λa ha=>bh ha ⟨rfl,rfl⟩
 rintro _ w2 ⟨rfl,rfl⟩;have h3:=dp.mo hr;have hc:(dE m).length<=P.cf:=((dp.at hr).right.right.right.left).vJ;have hG:bd (ab k1 mM 66*F) 1 P.pf (dE m).length (bc (dE m)):=λw0 w1 hs=>dp.lC (A:=cW) (F:=cW) _ _ (((hR _ _ hs.right).cQ.e1).cQ);refine gK<|aw rfl<|aw (by simp;omega)<|aq<|aN (p:=P.q) (l:=P.ys.length) (c:=P.d) ?_<|aw (by simp;omega)<|aq<|aN (aB h3 (i:=0) rfl)<|ay (Lv hm.ok hm.len hG hm.fN rfl hc h1) ?_
 .rw[jG];exact aB h3 (i:=1) rfl
 rintro _ w3 ⟨ys,q,d,H,rfl,hx,hG,h4⟩;obtain⟨y,hy,uQ⟩:∃y,ys[j.toNat]?=some y/\y.x=c:=by rw[<-hx,eZ,dd] at hj;exact hj
 refine⟨_,_,rfl,aG h4 λrO w4 h5=>bL h5 rfl rfl (by simp[Value.oneCell']) λw5 h6=>aN (aB h6 (i:=0) rfl)<|kZ fT (by decide) (hG.v5 _ _ h6.right.left) h0 hy λa ha=>nu (fT y) ha ?_⟩;obtain⟨Z,hZ⟩:∃Z:aM,(mM:aM)=Z:=⟨_,rfl⟩;have DN:Z.size=19:=by rw[<-hZ];rfl
 rw[hZ] at h6;refine bL h6.p2 DN (by simp[fT]) (by simpa using sL y) λw6 h7=>bz h7 (by simp[fT]) ⟨y,H,rfl,uQ,hG.Bw y (dF hy),?_⟩;exact(h7).right.right
def cY (m:List jz) (j:Nat) (x:aM) (H:HP):Prop:=∃y:cL,m[j]?=some y.x/\x=#[aa 0,an (dN y).toArray]/\oe H y
theorem alm {ka:Nat} {ta:TypeId} {bG:Nat->HP} (hm:BB m) (hp:P.ys.map cL.x=m/\kj P.H P.q P.ys) (hl:m.length<=1000) (hk:∀O j w,V O (bG j) w->V O (ab ka #[al k] ta) w) (hR:∀O j w,V O (bG j) w->V O (dp P k m dl r) w): IB au O 360 #[al ka] bG m.length (cY m):=by
 intro f b c B Bx cA hB hy F w h;show ae _ #[.func f b c,al ka] w _;apply ZK;have nz:P.ys.length=m.length:=by rw[<-hp.1,fk]
 have M3:=hk _ _ _ (hB _ 0 _ h.left);have hr:=(hR _ _ _ (hB _ 0 _ h.left)).cQ.e1;refine bh (M3.cell (i:=0) rfl)<|aw rfl<|bh (M3.cell (i:=0) rfl)<|aq<|aN (aB (dp.at hr) (i:=0) rfl) ⟨λn w' mm=>(n=0/\mm=1/\w'=w)\/(n=1/\mm=0/\V O (B m.length*F) w'),⟨1,.inl ⟨rfl,rfl,rfl⟩⟩,?_⟩;rintro u _ w1 mm (⟨rfl,rfl,rfl⟩|⟨rfl,rfl,h1⟩);rotate_left
 .exact aw rfl (.inl h1)
 have h3:=dp.mo hr;refine aW rfl<|dp.BC hr λa ha=>bh ha<|aq<|aN (p:=P.q) (l:=P.ys.length) (c:=P.d) ?_ ⟨λn w' mm=>∃j:Nat,n=j/\j<=m.length/\mm=m.length- j/\V O (B j*F) w',⟨_,0,rfl,by omega,rfl,h⟩,?_⟩
 .rw[jG];exact aB h3 (i:=1) rfl
 clear M3 hr h3 h;rintro u _ w2 mm ⟨j,rfl,hj,rfl,h2⟩;refine bU (λaQ=> ?_) (λbW=> ?_);rotate_left
 .have e:j=m.length:=by omega
  subst e;exact aY (by decide) (by decide) ⟨0,by decide,.inr ⟨rfl,rfl,h2⟩⟩
 have iM:j<m.length:=by omega
 have Fh:m[j]?=some m[j]:=gm iM;have oV:=hk _ _ _ (hB _ j _ h2.left);refine bh (oV.cell (i:=0) rfl)<|ay (alk (c:=m[j]) hm hp (by omega) (by rw[cu];exact Fh) (λO w hs=>hR _ _ _ (hB _ j _ hs.left)) h2) ?_;rintro _ w3 ⟨y,H,rfl,uQ,hG,h4⟩;refine⟨_,_,rfl,aG h4 λsu w4 h5=>bL h5 rfl (by simp[fT]) (by simpa using sL y) λw5 h6=>bz h6 (by simp[fT])<|nH (hy j _ H iM ⟨y,by rw[Fh,uQ],rfl,hG⟩ (ab su (dN y).toArray 66*F) _ (h6.p1.p2)) ?_⟩;rintro v w6 (⟨rfl,h7⟩|⟨rfl,h7⟩)
 .exact cR<|aw rfl<|aY (by omega) (by omega) ⟨_,by omega,j+1,by omega,by omega,rfl,h7.p1.right⟩
 .exact cR<|aW rfl (.inr (h7.p1.right))
def iK (k1 n:Nat):HP:=ex λ(p:av)=>ex λ(c:Nat)=>ex λ(xs:dB)=>ab k1 #[af p n c] 458*own 30 16 p n c xs
theorem iK.aK {k1 n:Nat} (h:V O (iK k1 n*F) w):∃p c xs,V O (ab k1 #[af p n c] 458*(own 30 16 p n c xs*F)) w:=by obtain⟨p,h⟩:=h.ex;obtain⟨c,h⟩:=h.ex;obtain⟨xs,h⟩:=h.ex;exact⟨p,c,xs,h.a⟩
theorem iK.aI {k1 n:Nat} {p:av} {c:Nat} {xs:dB} (h:V O (ab k1 #[af p n c] 458*(own 30 16 p n c xs*F)) w):V O (iK k1 n*F) w:=V.bO p (V.bO c (V.bO xs (h.g1)))
theorem iK.push {k1 n:Nat} {g:aM} {K:ao->Prop} {p:av} {c:Nat} {xs:dB} (hn:n<=100000) (hg:g.size=16) (h1:∀u∈g.toList,u.oneCell'=true) (h:V O (ab k1 #[af p n c] 458*(own 30 16 p n c xs*F)) w) (hk:∀w',V O (iK k1 (n+1)*F) w'->K w'): new g 30 w λnr w9=>bR au (Builtin.append_ #[458,458] 458 #[af p n c,af (aU nr) 1 1]) w9 λp19 l19 c19 dn=>st (aD k1) (af p19 l19 c19) dn λdP=>K dP:=by refine aG h λnr w9 h2=>lW alj (m:=1) h2.p2 (h2.left.uk (sz:=16) (l:=1) (by simp[hg])) h1 (by simp only[maxLen];omega) (by omega) λp' c' dn h3=> ?_;have h4:V O (ab k1 #[af p n c] 458*(own 30 16 p' (n+1) c' (xs++g.toList)*F)) dn:=(h3.p2.p2).right;exact bD (i:=0) h4 (by simp) λdP h5=>hk dP (iK.aI h5)
theorem alq (y:cL):(dN y).toArray.extract 0 (0+16)=(bc y.id).toArray:=(uX y).2.2.2
theorem alr (f:oT):(ic f).toArray.extract 0 (0+16)=(bc f.id).toArray:=by
 have hl:(bc f.id).length=16:=by rw[dh];exact jy.len f.ok
 apply cT;rw[pV,oZ];show((bc f.id++[aa f.base]).drop 0).take (0+16- 0)=bc f.id;rw[m9,sU (by omega),eW (by omega)]
theorem UE (l:aJ) (h:l.length=16):((bc l).toArray).size=16/\∀u∈((bc l).toArray).toList,u.oneCell'=true:=⟨by simp[dh,h],jt l⟩
end
section
variable {O w:ao} {F:HP} {k:Nat} {S:WS} {I:WI}
theorem als {kp:Nat} (h:V O (ab kp (iP k) 80*(WH k I S*F)) w):ae 217 #[al kp] w λv w'=>(∃p l c p2 l2 c2,v=ak #[af p l c,af p2 l2 c2])/\V O (ab kp (iP k) 80*(WH k I S*F)) w':=by
 apply abc;refine aG h λk1 w1 h1=>aG h1 λk2 w2 h2=>aq<|bh (aB h2.p2 (i:=0) rfl)<|ay (Tz h2.p3) ?_;rintro _ w3 ⟨rfl,rfl⟩;refine gK<|ay (K:=λv w'=>∃ka ta,v=.func (.func 360) #[] #[al ka]/\V O (ab ka #[al I.eV] ta*(ab k2 #[aP] 458*(ab k1 #[aP] 458*(ab kp (iP k) 80*(WH k I S*F))))) w') ?_ ?_
 .apply ZC;exact aG h2 λk1 w1 h1=>⟨k1,_,rfl,h1⟩
 rintro _ w4 ⟨ka,ta,rfl,h3⟩;obtain⟨P,hI,h4⟩:=WH.aK (h3.p4);have eP:P.eV=I.eV:=congrArg WI.eV hI;obtain⟨M4,h5⟩:=gH.aK (WO.zA h4);obtain⟨RP,hp,h6⟩:=dU.aK h5;rw[eP] at h6;obtain⟨X,hX⟩:∃X:HP,X=dp RP I.eV jP 1 ⟨S.ld,S.c0,S.c2,S.cK⟩*(ab ka #[al I.eV] ta*(bT P k S*(wA P k S*(ab kp (iP k) 80*F)))):=⟨_,rfl⟩;have h7:V O (iK k1 0*(iK k2 0*X)) w4:=by have h8:=V.iZ 30 16 (V.iZ 30 16 h6);refine iK.aI (p:=none) (c:=0) (xs:=[]) ?_;have h9:V O (iK k2 0*(ab k1 #[aP] 458*(own 30 16 none 0 0 []*X))) w4:=iK.aI (p:=none) (c:=0) (xs:=[]) (h8.aF (by rw[hX];ac_rfl));exact h9.p2.p2
 have jK:∀{w':ao} {G:HP},V O (G*X) w'->V O (ab kp (iP k) 80*(WH k I S*F)) w':=λ{w' G} hs=>by have h8:=hs.right;rw[hX,<-eP] at h8;have h9:=WO.wD S.ld S.c0 S.c2 S.cK (gH.aI M4 (dU.aI hp (h8.p3.p3.p2)));exact((WH.aI hI h9).p1.right).p1
 refine i6 ⟨O,360,_,jP.length,cY jP,λj=>iK k1 j*((ex λn:Nat=>bM (n<=3*j)*iK k2 n)*X),λ_=>bM False,rfl,⟨_,_,Tryz.func360,rfl⟩,?_,?_,alm (k:=I.eV) (r:=⟨S.ld,S.c0,S.c2,S.cK⟩) (dl:=1) (ta:=ta) Ho hp (by decide) (λO j w hs=> ?_) (λO j w hs=> ?_),?_,?_,?_⟩
 .exact(V.bO 0 ((V.eL (p:=(0:Nat)<=3*0) (by decide) h7.p1).g1)).p1
 .rintro j x H _ ⟨y,_,rfl,_⟩;rfl
 .have:=hs.right.right;rw[hX] at this;exact this.right.left
 .have:=hs.right.right;rw[hX] at this;exact this.left
 .rintro j x H UF ⟨y,uQ,rfl,hG⟩ G G' T w5 hT h8;have hyf:y.cz.length<=3:=by
   have hj2:j=0\/j=1:=by have:jP.length=2:=rfl;omega
   rcases hj2 with rfl|rfl
   .have:y.x=wz:=by simpa[jP] using uQ.symm
    have:=congrArg (λc=>c.cz.length) this;exact Nat.le_of_eq this
   .have:y.x=SP:=by simpa[jP] using uQ.symm
    have:=congrArg (λc=>c.cz.length) this;exact Nat.le_trans (Nat.le_of_eq this) (by decide)
  have UF:j<2:=UF;refine⟨_,_,rfl,aG h8 λwE w6 h9=>bL h9 rfl (by simp[fT]) (by simpa using sL y) λw7 aV=>hT (ab wE (dN y).toArray 66*(H*(iK k1 j*((ex λn:Nat=>bM (n<=3*j)*iK k2 n)*X)))) _ _ (aV.aF (by dsimp only;ac_rfl)) λw8 bu=> ?_⟩;obtain⟨n,bA⟩:=(bu.a.p1.a.p1.a.p1.a.p2.p3.p4.p3).ex;have bA:=bA.a;have hn:=bA.bM;have bA:=bA.right;obtain⟨p1,c1,M5,bN⟩:=iK.aK (bA.p2.p2.p3);have b8:=UE y.id (jy.len y.ok);refine aN (fS bN rfl)<|ff bN.p2 (by simp[fT]) ?_;rw[alq];refine⟨b8.1,iK.push (by omega) b8.1 b8.2 bN λdP bY=> ?_⟩;obtain⟨uY,_,_,_⟩:=uX y;refine aN (aB bY.p1 (i:=16) uY) ⟨λx w' mm=>∃i:Nat,x=i/\i<=y.cz.length/\mm=y.cz.length- i/\V O (iK k2 (n+i)*(iK k1 (j+1)*(ab wE (dN y).toArray 66*(H*(X*G'))))) w',⟨_,0,rfl,by omega,rfl,bY.aF (by rw[sZ];ac_rfl)⟩,?_⟩;clear h8 h9 aV bu bA bN bY;rintro u _ fF mm ⟨i,rfl,hi,rfl,cE⟩;refine bU (λaQ=> ?_) (λbW=> ?_)
  .have uW:i<y.cz.length:=by omega
   have UG:y.cz[i]?=some y.cz[i]:=gm uW;generalize y.cz[i]=fc at UG;have fQ:=hG.cz _ _ (cE.right.right.right.left);have bf:=UE fc.id (jy.len fc.ok);refine kZ nw (by decide) fQ (by omega) (by rw[cu];exact UG) λa ha=>nu (nw fc) ha<|aG cE λk28 fZ df=>bL df rfl (by simp[nw]) (by simpa using DD fc) λdH dZ=> ?_;obtain⟨p2,c2,M6,fO⟩:=iK.aK dZ.p1;refine aN (fS fO rfl)<|ff fO.p2 (by simp[nw]) ?_;rw[alr];refine⟨bf.1,iK.push (by omega) bf.1 bf.2 fO λnN fq=>aY (by omega) (by omega) ⟨_,by omega,i+1,by omega,by omega,rfl,?_⟩⟩;exact fq.p1.right
  .have ei:i=y.cz.length:=by omega
   refine(V.bO (f:=λn:Nat=>bM (n<=3*(j+1))*iK k2 n) (n+i) ((V.eL (p:=n+i<=3*(j+1)) (by omega) (cE.aF (B:=iK k2 (n+i)*((ab wE (dN y).toArray 66*H)*(iK k1 (j+1)*(X*G')))) (by ac_rfl))).g1)).aF (B:=(ab wE (dN y).toArray 66*H)*((iK k1 (j+1)*((ex λn:Nat=>bM (n<=3*(j+1))*iK k2 n)*X))*G')) (by ac_rfl)|>.right
 .intro D nL h8;obtain⟨n,h9⟩:=(h8.aF (B:=(ex λn:Nat=>bM (n<=3*jP.length)*iK k2 n)*(iK k1 jP.length*(fw D*X))) (by dsimp only;ac_rfl)).ex;have h9:=(h9.a).right.drew;obtain⟨p2,c2,M6,aV⟩:=iK.aK h9;obtain⟨p1,c1,M5,bu⟩:=iK.aK aV.p2;have bA:V O (ab k1 #[af p1 jP.length c1] 458*(ab k2 #[af p2 n c2] 458*(fw D*(own 30 16 p1 jP.length c1 M5*(own 30 16 p2 n c2 M6*X))))) nL.drew:=bu.p4.p3.p2;refine aN (fS bA rfl)<|aN (fS bA.p1 rfl)<|bD (i:=0) bA (by simp) λrp bN=>⟨fS bN.p1 rfl,bD (i:=0) bN.p1 (by simp) λqt bY=> ?_⟩;have bY:V O (fw D*(ab k2 #[af p2 n c2] 458*(ab k1 #[af p1 jP.length c1] 458*((own 30 16 p1 jP.length c1 M5*own 30 16 p2 n c2 M6)*X)))) qt:=bY.aF (by show ab k2 #[af p2 n c2] 458*(ab k1 #[af p1 jP.length c1] 458*_)=_;ac_rfl);refine iL bY λtr cE=>aN (fS cE.p1 rfl)<|aN (fS cE rfl) ⟨⟨_,_,_,_,_,_,rfl⟩,jK cE.right.right⟩
 .intro D c AI h8;exact(V.nJ h8).elim
end
def oY (kind i:Int):aM:=#[aa kind,aa 0,aa i,aa 0,aa 0]
section
variable {O w:ao} {F:HP} {k:Nat} {S:WS} {I:WI} {x:GI} {g:GM}
theorem alv {p:av} {c:Nat} {i:Int}:kN au 219 #[af p 0 c,aa i] (ah 0):=by intro w;apply abd;exact aW rfl ⟨rfl,rfl⟩
theorem alw {kp:Nat} {kind i:Int} (hk:kind=8\/kind=11\/kind=14) (h:V O (ab kp (iP k) 80*(WH k I S*F)) w): ae 128 #[al kp,an (oY kind i)] w λv w'=>v=an (jD ⟨kind,0,0,0,0,0⟩)/\V O (ab kp (iP k) 80*(WH k I S*F)) w':=by
 apply aa8;refine aG h λk1 w1 h1=>aG h1 λk2 w2 h2=>az (n:=kind) (aB h2.p1 (i:=0) rfl)<|az (n:=0) (aB h2.p1 (i:=1) rfl)<|aG h2 λk5 w3 h3=>bL h3 rfl rfl (by simp[Value.oneCell']) λw4 h4=>aw rfl ?_;have h5:V O (ab kp (iP k) 80*(WH k I S*(ab k5 (jD ⟨kind,0,0,0,0,0⟩) 35*(ab k2 (jD ⟨0,0,0,0,0,0⟩) 35*(ab k1 (oY kind i) 117*F))))) w4:=h4.aF (by show ab k5 (jD ⟨kind,0,0,0,0,0⟩) 35*(ab k2 (jD ⟨0,0,0,0,0,0⟩) 35*(ab k1 (oY kind i) 117*_))=_;ac_rfl);have dk:∀{w:ao},V O (ab kp (iP k) 80*(WH k I S*(ab k5 (jD ⟨kind,0,0,0,0,0⟩) 35*(ab k2 (jD ⟨0,0,0,0,0,0⟩) 35*(ab k1 (oY kind i) 117*F))))) w->V O (ab k1 (oY kind i) 117*(ab kp (iP k) 80*(WH k I S*(ab k5 (jD ⟨kind,0,0,0,0,0⟩) 35*(ab k2 (jD ⟨0,0,0,0,0,0⟩) 35*F))))) w:=λhs=>hs.p4;refine⟨λp l c w'=>∃wx,p=none/\l=0/\c=0/\w'=wx/\V O (ab kp (iP k) 80*(WH k I S*(ab k5 (jD ⟨kind,0,0,0,0,0⟩) 35*(ab k2 (jD ⟨0,0,0,0,0,0⟩) 35*(ab k1 (oY kind i) 117*F))))) wx,?_,?_⟩
 .have hd:=h5.drew;refine az (n:=0) (aB (dk h5) (i:=1) rfl)<|aW rfl<|az (n:=0) (aB (dk h5) (i:=1) rfl)<|aW rfl<|az (n:=0) (aB (dk hd) (i:=1) rfl)<|aq<|lY (by decide) (by decide)<|aN (p:=none) (l:=0) (c:=0) ?_ ⟨_,rfl,rfl,rfl,rfl,hd⟩;rw[jG,jG];exact aB hd (i:=1) rfl
 rintro u _ _ _ w6 ⟨wx,rfl,rfl,rfl,rfl,h6⟩;refine ay (als h6) ?_;rintro _ w7 ⟨⟨p,l,c,p2,l2,c2,rfl⟩,h7⟩;have fin:∀{ww:ao} {i5:Nat},i5<10->(iP k)[i5]?=some aP->V O (ab kp (iP k) 80*(WH k I S*(ab k5 (jD ⟨kind,0,0,0,0,0⟩) 35*(ab k2 (jD ⟨0,0,0,0,0,0⟩) 35*(ab k1 (oY kind i) 117*F))))) ww->ax .i64 ((aD k1).add 2) ww λn87=>ae 219 #[aP,aa n87] ww λv88 w46=>bp .u64 v88 λn89=>st ((aD k5).add 3) (ah n89) w46 λHR=>aA (aD k5) 43 HR λg90=>aS au (aD k2) 43 g90 HR λM7=>aA (aD k2) 43 M7 λg91=>(an g91=an (jD ⟨kind,0,0,0,0,0⟩)/\V O (ab kp (iP k) 80*(WH k I S*F)) M7):=by intro ww i5 _ _ hs;refine az (n:=i) (aB (dk hs) (i:=2) rfl)<|fY alv<|bI ?_;rw[du,dc];refine bD (i:=3) hs.p2 (by simp[jD]) λHR h8=> ?_;have h8:V O (ab k5 (jD ⟨kind,0,0,0,0,0⟩) 35*(ab k2 (jD ⟨0,0,0,0,0,0⟩) 35*(ab kp (iP k) 80*(WH k I S*(ab k1 (oY kind i) 117*F))))) HR:=h8.aF (by show ab k5 (jD ⟨kind,0,0,0,0,0⟩) 35*_=_;ac_rfl);refine bz h8 rfl<|bL h8.p1 rfl rfl (by simp[jD,Value.oneCell']) λM7 h9=>bz h9 rfl ⟨rfl,?_⟩;exact(h9.p4.p2.p2.g2).right
 refine⟨_,_,_,_,_,_,rfl,az (n:=kind) (aB (dk h7) (i:=0) rfl) ?_⟩;have hd:=h7.drew;have c5:∀j,(iP k)[1+j]?=some aP->w7.drew.cell? (((aD kp).add 1).add j)=some aP:=λj hj=>by rw[jG];exact aB hd hj
 rcases hk with rfl|rfl|rfl
 .refine aw rfl ⟨λb w'=>b=false/\w'=w7,aw rfl<|aw rfl<|aw rfl ⟨rfl,rfl⟩,?_⟩;rintro u _ dH ⟨rfl,rfl⟩;refine aw rfl<|aw rfl<|aw rfl<|aw rfl<|aw rfl<|aw rfl ⟨λb w'=>b=true/\w'=dH,aw rfl ⟨rfl,rfl⟩,?_⟩;rintro u _ HT ⟨rfl,rfl⟩;exact aW rfl<|aq<|aN (c5 4 rfl)<|fin (i5:=5) (by decide) rfl hd
 .refine aw rfl ⟨λb w'=>b=false/\w'=w7,aw rfl<|aw rfl<|aw rfl ⟨rfl,rfl⟩,?_⟩;rintro u _ dH ⟨rfl,rfl⟩;refine aw rfl<|aw rfl<|aw rfl<|aw rfl<|aw rfl<|aw rfl ⟨λb w'=>b=false/\w'=dH,aw rfl ⟨rfl,rfl⟩,?_⟩;rintro u _ HT ⟨rfl,rfl⟩;refine aw rfl ⟨λb w'=>b=true/\w'=HT,aw rfl ⟨rfl,rfl⟩,?_⟩;rintro u _ w49 ⟨rfl,rfl⟩;exact aW rfl<|aq<|aN (c5 5 rfl)<|fin (i5:=6) (by decide) rfl hd
 .refine aw rfl ⟨λb w'=>b=false/\w'=w7,aw rfl<|aw rfl<|aw rfl ⟨rfl,rfl⟩,?_⟩;rintro u _ dH ⟨rfl,rfl⟩;refine aw rfl<|aw rfl<|aw rfl<|aw rfl<|aw rfl<|aw rfl ⟨λb w'=>b=false/\w'=dH,aw rfl ⟨rfl,rfl⟩,?_⟩;rintro u _ HT ⟨rfl,rfl⟩;refine aw rfl ⟨λb w'=>b=false/\w'=HT,aw rfl ⟨rfl,rfl⟩,?_⟩;rintro u _ w49 ⟨rfl,rfl⟩;exact aw rfl<|aW rfl<|aq<|aN (c5 6 rfl)<|fin (i5:=7) (by decide) rfl hd
theorem alE {p:av} {kind i:Int} (hk:kind=8\/kind=11\/kind=14) (h:V O F w):ae 129 #[ag p,an (oY kind i)] w λv w'=>v=ag none/\V O F w':=by
 apply aa9;refine aG h λk1 w1 h1=>az (n:=kind) (aB h1 (i:=0) rfl) ?_;rcases hk with rfl|rfl|rfl
 all_goals
  refine⟨λb w'=>b=false/\w'=w1,aw rfl<|aw rfl<|aw rfl<|aw rfl<|aw rfl ⟨rfl,rfl⟩,?_⟩;rintro u _ w2 ⟨rfl,rfl⟩;exact aw rfl<|aw rfl<|aw rfl<|aw rfl<|aw rfl ⟨rfl,h1.right⟩
theorem M8 {kind i:Int} {g':GM} (hk:kind=8\/kind=11\/kind=14) (hm:De g kind=some g') (h:V O (cM x g*F) w): ae 32 #[al x.kg,an (oY kind i)] w λv w'=>(∃(p:av) (l c:Nat) (n:Int),v=ak #[af p l c,aa n])/\V O (cM x g'*F) w':=by
 unfold De at hm;obtain⟨r,hr,hm⟩:=bZ.1 hm;split at hm
 .cases hm
 rename_i hl;cases hm;unfold mg at hr;obtain⟨r1,fA,hr⟩:=bZ.1 hr;split at hr
 .cases hr
 rename_i eB;cases hr;have hl:r1.2.1.length=0:=iA.1 hl;have alF:r1.2.1=[]:=m5 hl;apply aa2;refine aG h λk1 w1 h1=> ?_;have h1:=h1.drew;obtain⟨p,c,h2⟩:=cM.aK h1.p1;have h3:V O (ab x.kp (iP x.k) 80*(WH x.k x.I g.w*(ab x.kg #[al x.kp,aa (x.I.bw.length:Int),af p g.l.length c] 44*(aE 50 6 eF p g.l.length c g.l*(ab k1 (oY kind i) 117*F))))) w1.drew:=h2.aF (by show _*(_*(_*(_*(ab k1 (oY kind i) 117*F))))=_;ac_rfl);refine aq<|bh (aB h2 (i:=0) rfl)<|bz h1 rfl<|ay (K:=λv w'=>∃q d,v=ak #[af q 0 d,aa r1.2.2]/\V O (ab x.kp (iP x.k) 80*(WH x.k x.I r1.1*(ab x.kg #[al x.kp,aa (x.I.bw.length:Int),af p g.l.length c] 44*(aE 50 6 eF p g.l.length c g.l*(ab k1 (oY kind i) 117*F))))) w') ?_ ?_
 .apply aa5;refine aG h3 λk2 w2 h4=>aw rfl<| ?_;have h4:V O (ab x.kp (iP x.k) 80*(WH x.k x.I g.w*(ab k2 (oY kind i) 117*(ab x.kg #[al x.kp,aa (x.I.bw.length:Int),af p g.l.length c] 44*(aE 50 6 eF p g.l.length c g.l*(ab k1 (oY kind i) 117*F)))))) w2.drew:=h4.drew.aF (by show ab k2 (oY kind i) 117*_=_;ac_rfl);refine aq<|bh (aB h4 (i:=0) rfl)<|bz h4.p2 rfl<|ay (alw hk h4) ?_;rintro _ w3 ⟨rfl,h5⟩;have oV:(⟨kind,0,0,0,0,0⟩:nq).kind≠1:=by show kind≠1;rcases hk with rfl|rfl|rfl<;>decide
  refine nI ⟨aB h5 (i:=0) rfl,ay (Uo (zK oV) fA h5.p1) ?_⟩;rintro _ w4 ⟨q,d,rfl,_,h6⟩;rw[hl];refine⟨_,_,_,_,rfl,bz h6.right.p2 rfl<|ay (alE hk h6.right) ?_⟩;rintro _ w5 ⟨rfl,h7⟩;refine gK ⟨λn w' m=>n=0/\w'=w5,⟨0,rfl,rfl⟩,?_⟩;rintro u _ w6 m ⟨rfl,rfl⟩;exact aw rfl ⟨q,d,rfl,(h7.p1.p2).right⟩
 rintro _ w2 ⟨q,d,rfl,h4⟩;have h5:V O (aE 50 6 eF p g.l.length c g.l*(ab x.kg #[al x.kp,aa (x.I.bw.length:Int),af p g.l.length c] 44*(ab x.kp (iP x.k) 80*(WH x.k x.I r1.1*F)))) w2:=(h4.p2.p3.p4).right;refine⟨_,_,_,_,rfl,aq<|aN (aB h5.p1 (i:=2) rfl)<|xc (zs:=[]) (m:=0) Hq m3 D4 h5 (Rd.nil _ _ _) (by simp only[maxLen];omega) (by omega) λp' c' w4 h6=>aq<| ?_⟩;rw[du,dc];refine bD (i:=2) h6.p1 (by simp) λw5 h7=>⟨⟨_,_,_,_,rfl⟩,?_⟩;have h8:V O (ab x.kg #[al x.kp,aa (x.I.bw.length:Int),af p' (g.l.length+0) c'] 44*(aE 50 6 eF p' (g.l.length+0) c' (g.l++[])*(ab x.kp (iP x.k) 80*(WH x.k x.I r1.1*F)))) w5:=h7;rw[alF];exact cM.aI (x:=x) (g:=⟨r1.1,g.l++[]⟩) (by simp) h8
end
theorem alG (S:WS) (j:Nat):Kt S j=nD S (j:Int):=by unfold Kt nD;rw[Em];cases S.bQ[j]?<;>rfl
theorem alH {g:GM} (h:Kx g=true):sS g.w:=by unfold Kx at h;simp only[m6,decide_eq_true_eq,Bool.not_eq_true',se,Option.isNone_iff_eq_none] at h;exact⟨h.1,h.2.1,h.2.2.1,λH hH=>by have:=h.2.2.2 H hH;exact⟨this.1,this.2.1,this.2.2.1,this.2.2.2.1,this.2.2.2.2⟩⟩
section
variable {O w:ao} {F:HP} {k:Nat} {S:WS} {I:WI} {x:GI} {g:GM}
theorem C3 {g':GM} (hm:Kv g=some g') (h:V O (cM x g*F) w):ae 23 #[al x.kg] w λv w'=>v=aT/\V O (cM x g'*F) w':=by
 unfold Kv at hm;obtain⟨g1,wq,hm⟩:=bZ.1 hm;obtain⟨_,UH⟩:=cM.bQ h;rw[<-UH] at wq;have hbound:(x.I.bw.length:Int)<=9223372036854775807:=by obtain⟨_,_,Y,hw,_⟩:=cM.world h;exact(WH.bj hw).2.2
 apply aaY;refine⟨λn w' m=>∃(a:Nat) (g2:GM),n=a/\a<=x.I.bw.length/\m=x.I.bw.length- a/\((List.range x.I.bw.length).drop a).foldl (λ(g:Option GM) (aj:Nat)=>g.bind λg=>Ku g aj) (some g2)=some g1/\V O (cM x g2*F) w',⟨_,0,g,rfl,pb _,rfl,wq,h⟩,?_⟩;clear h wq UH;rintro u _ w1 m ⟨a,g2,rfl,DY,rfl,wq,h1⟩;obtain⟨jH,hL⟩:=cM.bQ h1;refine aq<|az jH<|bU (λaQ=> ?_) (λbW=> ?_)
 .obtain⟨g3,jQ,wq⟩:=HG (x:=a) (by rw[zM];omega) wq;obtain⟨mQ,rE,Y,hw,px⟩:=cM.world h1;unfold Ku at jQ;rw[alG] at jQ;refine aq<|bh mQ<|ay rE ?_;rintro _ w2 ⟨rfl,rfl⟩;refine gK<|ay (ak0 (aj:=(a:Int)) (by omega) hw) ?_;rintro _ w3 ⟨p,c,rfl,h2⟩;have eB:=Ut (aj:=(a:Int)) hw;have h3:V O (cM x g2*(aE 26 1 bS p (nD g2.w (a:Int)).length c (nD g2.w (a:Int))*F)) w3:=px _ _ (h2.p2.p2);obtain⟨l,hl⟩:∃l,l=nD g2.w (a:Int):=⟨_,rfl⟩;rw[<-hl] at h3 jQ eB ⊢;refine iE ⟨λn w' m=>∃(i:Nat) (g4:GM),n=i/\i<=l.length/\m=l.length- i/\(l.drop i).foldl (λ(g:Option GM) (h:Int)=>g.bind λg=>Bl 72 g a h) (some g4)=some g3/\V O (cM x g4*(aE 26 1 bS p l.length c l*F)) w',⟨_,0,g2,rfl,pb _,rfl,jQ,h3⟩,?_⟩;clear h1 h2 h3 jQ hw px rE mQ;rintro u _ w4 m ⟨i,g4,rfl,uW,rfl,jQ,h4⟩;refine bU (λoJ=> ?_) (λbW=> ?_)
  .have hy:l[i]?=some (l[i]'(by omega)):=gm (by omega);generalize l[i]'(by omega)=y at hy;obtain⟨g5,kG,jQ⟩:=HG hy jQ;refine⟨λn w' m=>∃(t:Nat) (g6:GM),n=t/\t<=72/\m=72- t/\Bl (72- t) g6 a y=some g5/\V O (cM x g6*(aE 26 1 bS p l.length c l*F)) w',⟨_,0,g4,rfl,by decide,rfl,kG,h4⟩,?_⟩;clear h4 kG;rintro u _ w5 m ⟨t,g6,rfl,ht,rfl,kG,h5⟩;refine bU (λann=> ?_) (λbW=> ?_)
   .have e:72- t=(72- (t+1))+1:=by omega
    rw[e] at kG;unfold Bl at kG;obtain⟨r,hr,kG⟩:=bZ.1 kG;refine dC gL h5.p1.left (by decide) (by omega) (by rw[cu];exact hy) λgb hg=> ?_;rw[cu];refine az (n:=y) (by have:=cU gL (j:=0) h5.p1.left hg hy (by decide) rfl;rwa[Sp.add_zero] at this)<|ay (tY (a:=⟨3,(a:Int),y,0,0,0⟩) (show(3:Int)≠1 by decide) hr h5) ?_;rintro _ w6 ⟨p7,l7,c7,n28,rfl,rfl,h6⟩;refine⟨_,_,_,_,rfl,?_⟩;split at kG
    .rename_i cp;cases kG;exact aW (by simpa using cp)<|aY (by omega) (by omega) ⟨_,by omega,i+1,r.1,by omega,by omega,rfl,jQ,h6⟩
    .rename_i he;exact aw (by simpa using iA.1 he)<|aY (by omega) (by omega) ⟨_,by omega,t+1,r.1,by omega,by omega,rfl,kG,h6⟩
   .have e:72- t=0:=by omega
    rw[e] at kG;unfold Bl at kG;cases kG;exact aY (by omega) (by omega) ⟨_,by omega,i+1,g5,by omega,by omega,rfl,jQ,h5⟩
  .have:=HI (by omega) jQ;subst this;exact aY (by omega) (by omega) ⟨_,by omega,a+1,g4,by omega,by omega,rfl,wq,h4.p1.right⟩
 .have:=HI (by simp;omega) wq;subst this;refine⟨λn w' m=>∃(a:Nat) (g3:GM),n=a/\a<=70/\m=70- a/\Df (70- a) g3=some g'/\V O (cM x g3*F) w',⟨_,0,g2,rfl,by decide,rfl,hm,h1⟩,?_⟩;clear h1 hm;rintro u _ w7 m ⟨b,g3,rfl,hb,rfl,hm,h2⟩;refine bU (λaQ=> ?_) (λxg=> ?_)
  .have e:70- b=(70- (b+1))+1:=by omega
   rw[e] at hm;unfold Df at hm;obtain⟨r1,fA,hm⟩:=bZ.1 hm;obtain⟨r2,fp,hm⟩:=bZ.1 hm;obtain⟨r3,yT,hm⟩:=bZ.1 hm;refine ay (M8 (kind:=8) (i:=(b:Int)) (.inl rfl) fA h2) ?_;rintro _ w8 ⟨⟨p,l,c,n,rfl⟩,h3⟩;refine⟨_,_,_,_,rfl,ay (M8 (kind:=11) (i:=(b:Int)) (.inr (.inl rfl)) fp h3) ?_⟩;rintro _ w9 ⟨⟨p,l,c,n,rfl⟩,h4⟩;refine⟨_,_,_,_,rfl,ay (M8 (kind:=14) (i:=(b:Int)) (.inr (.inr rfl)) yT h4) ?_⟩;rintro _ dn ⟨⟨p,l,c,n,rfl⟩,h5⟩;exact⟨_,_,_,_,rfl,aY (by omega) (by omega) ⟨_,by omega,b+1,r3,by omega,by omega,rfl,hm,h5⟩⟩
  .have e:70- b=0:=by omega
   rw[e] at hm;unfold Df at hm;cases hm;exact⟨rfl,h2⟩
theorem alI (h:V O (WH k I S*F) w):ae 35 #[al I.eV,aa 0] w λv w'=>v=aC S.ld/\V O (WH k I S*F) w':=by obtain⟨P,hI,h1⟩:=WH.aK h;have e:P.eV=I.eV:=congrArg WI.eV hI;obtain⟨hp,h2⟩:=gH.aK (WO.zA h1);rw[e] at h2;refine ay (agK h2) ?_;rintro _ w3 ⟨rfl,h3⟩;rw[<-e] at h3;exact⟨rfl,WH.aI hI (WO.wD S.ld S.c0 S.c2 S.cK (gH.aI hp h3))⟩
theorem alJ (hE:sS g.w) (h:V O (cM x g*F) w):ae 25 #[al x.kg] w λv w'=>v=aC true/\V O (cM x g*F) w':=by obtain⟨mQ,rE,Y,hw,px⟩:=cM.world h;have hbound:=(WH.bj hw).2.2;apply aa0;refine aq<|bh mQ<|ay rE ?_;rintro _ w1 ⟨rfl,rfl⟩;refine gK<|ay (alg hE hw) ?_;rintro _ w2 ⟨rfl,h2⟩;refine nI<|ak1<|aw rfl<|ay (Tz h2) ?_;rintro _ w3 ⟨rfl,rfl⟩;refine gK<|ay (alI h2) ?_;rintro _ w4 ⟨rfl,h3⟩;rw[hE.ld];refine cR<|aw rfl<|ay (ak2 hE h3) ?_;rintro _ w5 ⟨rfl,h4⟩;refine cR<|aw rfl ⟨λn w' m=>∃a:Nat,n=a/\a<=x.I.bw.length/\m=x.I.bw.length- a/\V O (WH x.k x.I g.w*(Y*F)) w',⟨_,0,rfl,pb _,rfl,h4⟩,?_⟩;clear h2 h3 h4;rintro u _ w6 m ⟨a,rfl,DY,rfl,h5⟩;obtain⟨jH,_⟩:=cM.bQ (px _ _ h5);refine aq<|az jH<|bU (λaQ=> ?_) (λbW=>⟨rfl,px _ _ h5⟩);refine ay (ald hE (aj:=(a:Int)) (by omega) h5) ?_;rintro _ w7 ⟨rfl,h6⟩;exact bI<|aw rfl<|aY (by omega) (by omega) ⟨_,by omega,a+1,by omega,by omega,rfl,h6⟩
end
theorem sT {b:Nat} {cs:aM} {t:TypeId} {sz l:Nat} {xs:dB} (hl:cs.size=l*sz) (hx:cs.toList=xs):bd (ab b cs t) sz (aU b) l xs:=by subst hx;exact bd.ob hl
theorem UI {A:HP} {sz L l:Nat} {p:av} {ys xs:dB} (h:bd A sz p L ys) (hl:l<=L) (hx:xs=ys.take (l*sz)):bd A sz p l xs:=by
 subst hx;intro O w hs;have hr:=h O w hs;refine⟨?_,λh0=>hr.2.1 (by omega),λa e j u hj=>hr.2.2 a e j u ?_⟩
 .rw[fB,hr.1];have:=pT sz hl;omega
 .rw[vp] at hj;split at hj
  .exact hj
  .cases hj
def yg (k2 k3 k4 k5 k6 k7:Nat):List zi:=[⟨Gl,some (aD k2),6⟩,⟨Gm,some (aD k3),3⟩,⟨[⟨10,0,0⟩,⟨3,0,0⟩,⟨11,0,0⟩],some (aD k4),3⟩,
 ⟨[⟨2,0,0⟩,⟨8,0,0⟩,⟨11,0,0⟩],some (aD k5),3⟩,⟨[⟨2,0,0⟩,⟨8,0,4⟩,⟨1,1,0⟩,⟨5,0,0⟩,⟨11,0,0⟩],some (aD k6),5⟩,⟨[⟨9,1,0⟩,⟨3,0,0⟩,⟨11,0,0⟩],some (aD k7),3⟩]
def Ew (k2 k3 k4 k5 k6 k7 k8 k9:Nat):List cL:=[⟨oz 100,[vd,x4,BI],2,yg k2 k3 k4 k5 k6 k7,some (aD k9),3,some (aD k8),6,by decide⟩,⟨oz 101,[vd,x4],2,(yg k2 k3 k4 k5 k6 k7).take 3,some (aD k9),3,some (aD k8),6,by decide⟩]
theorem alK {H:HP} {k2 k3 k4 k5 k6 k7 k8 k9 v7:Nat} (bA:bd H 19 (aU v7) 2 ((Ew k2 k3 k4 k5 k6 k7 k8 k9).flatMap dN)) (h9:bd H 17 (aU k9) 3 ([vd,x4,BI].flatMap ic)) (h8:bd H 1 (aU k8) 6 ((yg k2 k3 k4 k5 k6 k7).flatMap oU)) (hm:∀m∈yg k2 k3 k4 k5 k6 k7,bd H 3 m.p m.l.length (m.l.flatMap j3)):kj H (aU v7) (Ew k2 k3 k4 k5 k6 k7 k8 k9):=by
 refine⟨bA,λy hy=> ?_⟩;simp only[Ew,pa,Cf,or_false] at hy;rcases hy with rfl|rfl
 .exact⟨h9,h8,hm⟩
 .refine⟨UI h9 (show 2<=3 by decide) ?_,UI h8 (show 3<=6 by decide) ?_,λm h=>hm m (pU h)⟩
  .simp[ic,bc,vd,x4,BI,oz]
  .simp[yg,oU]
theorem UJ {b c sz:Nat} {hi:Int} {K:av->Nat->Nat->Prop} (h0:0<=hi) (hc:hi<=(c:Int)) (mQ:0<c) (hk:K (aU b) hi.toNat c):fD (aU b) c sz 0 hi K:=by
 refine oI (by omega) h0 hc ?_;have e:(if c=(0:Int).toNat then some (aD b) else(aU b).map (·.add ((0:Int).toNat*sz)))=some (aD b):=by rw[if_neg (by simp;omega)];simp[Sp.add_zero]
 rw[e];simpa using hk
def HU (aj:Int):aM:=#[aa 1,aa aj,ah 0,ah 0,ar,ar,ar,ar,ar,ar,ar,ar,ar,ar,ar,ar,ar,ar,ar,.int .u8 100,aa 0,ar,ar,ar,ar,ar,ar,ar,ar,ar,ar,ar,ar,ar,ar,ar,ar,.string ByteArray.empty,ah 0,aP,aa 0,aa 0,aC false]
theorem alL {aj:Int}:wF ⟨1,aj,0,0,0,0⟩ (HU aj):=⟨rfl,by simp[HU,Value.oneCell'],rfl,rfl,rfl,rfl,rfl,rfl,λ_=>rfl⟩
section
variable {O w:ao} {F:HP}
theorem UK (h:V O F w):ae 18 #[] w λv w'=>∃(p:av) (c:Nat) (ys:List cL) (H:HP),v=an #[af p ys.length c]/\ys.map cL.x=jP/\kj H p ys/\V O (H*F) w':=by
 apply aaW;refine aG h λk1 w1 h1=>aG h1 λk2 w2 h2=>aG h2 λk3 w3 h3=>aG h3 λk4 w4 h4=>aG h4 λk5 w5 h5=>aG h5 λk6 w6 h6=>aG h6 λk7 w7 h7=>aG h7 λk8 w8 h8=>⟨rfl,rfl,aG h8 λk9 w9 h9=>⟨rfl,UJ (by decide) (by decide) (by decide)<|UJ (by decide) (by decide) (by decide) ⟨rfl,aG h9.drew λv7 dn aV=> ?_⟩⟩⟩;clear h h1 h2 h3 h4 h5 h6 h7 h8 h9;have bu:=aV.aF (B:=ab k1 #[aP] 69*((ab v7 _ _*(ab k9 _ _*(ab k8 _ _*(ab k2 _ _*(ab k3 _ _*(ab k4 _ _*(ab k5 _ _*(ab k6 _ _*ab k7 _ _))))))))*F)) (by ac_rfl);refine bL bu rfl rfl (by simp[Value.oneCell']) λdP bA=>bz bA rfl ?_;refine⟨some (aD v7),2,Ew k2 k3 k4 k5 k6 k7 k8 k9,_,rfl,rfl,alK ?_ ?_ ?_ ?_,bA.right⟩
 .refine bd.left (sT ?_ ?_)
  .exact(show(38:Nat)=2*19 by decide)
  .simp[dN,bc,oz,yg,Ew]
 .refine bd.right (bd.left (sT ?_ ?_))
  .exact(show(51:Nat)=3*17 by decide)
  .simp[ic,bc,vd,x4,BI,oz]
 .refine bd.right (bd.right (bd.left (sT ?_ ?_)))
  .exact(show(6:Nat)=6*1 by decide)
  .simp[yg,oU,Gl,Gm]
 .intro m hm;simp only[yg,pa,Cf,or_false] at hm;rcases hm with rfl|rfl|rfl|rfl|rfl|rfl
  .exact bd.right (bd.right (bd.right (bd.left (sT rfl rfl))))
  .exact bd.right (bd.right (bd.right (bd.right (bd.left (sT rfl rfl)))))
  .exact bd.right (bd.right (bd.right (bd.right (bd.right (bd.left (sT rfl rfl))))))
  .exact bd.right (bd.right (bd.right (bd.right (bd.right (bd.right (bd.left (sT rfl rfl)))))))
  .exact bd.right (bd.right (bd.right (bd.right (bd.right (bd.right (bd.right (bd.left (sT rfl rfl))))))))
  .exact bd.right (bd.right (bd.right (bd.right (bd.right (bd.right (bd.right (bd.right (sT rfl rfl))))))))
theorem M9 {x:GI} {g:GM} {aj:Int} {r:GM×Int} (hm:Dd g aj=some r) (h:V O (cM x g*F) w): ae 6 #[al x.kg,aa aj] w λv w'=>v=ah r.2/\V O (cM x r.1*F) w':=by
 unfold Dd at hm;obtain⟨r1,fA,rfl⟩:=dd.1 hm;apply aaN;refine ay (UK h) ?_;rintro _ w1 ⟨p,c,ys,H,rfl,nz,hG,h1⟩;obtain⟨y,hy,alM⟩:∃y,ys[0]?=some y/\y.id=oz 100:=by
  have:(ys.map cL.x)[0]?=some wz:=by rw[nz];rfl
  rw[eZ,dd] at this;obtain⟨y,h1,h2⟩:=this;exact⟨y,h1,by have:=congrArg jz.id h2;exact this⟩
 refine nI<|abk rfl<|kZ fT (by decide) (hG.v5 _ _ h1.left) (by decide) (y:=y) hy λa ha=> ?_;have gk:=(uX y).2.2.2;rw[alM] at gk;refine oF (vs:=(bc (oz 100)).toArray) rfl (λj hj=> ?_) ⟨rfl,?_⟩
 .rw[Sp.add_zero];have aQ:j<(dN y).length:=by rw[fT];omega
  refine Eq.trans (ha j _ (gm aQ)) ?_;rw[<-gk];have:j<min 16 (dN y).toArray.size:=by simp only[Ce,fT];omega
  simp[this,hj]
 obtain⟨A,hA,yv⟩:∃A:aM,A=HU aj/\A=(((((((((#[]++#[aa 1])++#[aa aj])++#[ah 0])++#[ah 0])++(bc (oz 100)).toArray)++#[aa 0,ar,ar,ar,ar,ar,ar,ar,ar,ar,ar,ar,ar,ar,ar,ar,ar,.string ByteArray.empty,ah 0,aP])++#[aa 0])++#[aa 0])++#[aC false]):=⟨_,rfl,by apply cT;simp[HU,bc,oz]⟩;rw[<-yv,hA];refine ay (HN alL fA h1.right) ?_;rintro _ w2 ⟨q,d,rfl,h2⟩;have fin:V O (cM x r1.1*F) w2:=h2.right;refine⟨_,_,_,_,rfl,?_⟩;by_cases e:r1.2.2=0
 .rw[if_neg (by simp[e])];refine aw (by simp[e]) ?_;cases hl:r1.2.1 with
  |nil=>exact aW rfl ⟨rfl,fin⟩
  |cons t l=>rw[hl] at h2;exact aw (by simp;omega)<|dC m3 h2.left (by decide) (by decide) (y:=t) rfl λgb hg=>az (n:=t.dR) (cU m3 (j:=1) h2.left hg (i:=0) (y:=t) rfl (by decide) rfl) ⟨rfl,fin⟩
 .rw[if_pos e];exact aW (by simpa using e) ⟨rfl,fin⟩
end
end Go.Proofs.YtjhnnnfnkjighaaGreatDoor
