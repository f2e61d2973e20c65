/- Whole: a part of the proof. No conditions. -/
import Derived.Test.YtjhnnnfnkjighaaGreatDoorQ18
set_option linter.unusedVariables false
set_option linter.unusedSimpArgs false
set_option maxRecDepth 100000
namespace Go.Proofs.YtjhnnnfnkjighaaGreatDoor.Lt
open Go.Proofs.YtjhnnnfnkjighaaGreatDoor
open Go.Sp Go.RowKit
theorem tD {O w:ao} {F:HP} {a:Nat} {s:AS GE} {x:GE} (h:V O (Ar a s*F) w) (hs:bx s): ae 214 #[al a,an (bP x).toArray] w λv w'=>v=ak #[ah (put s x).2.1,aa (put s x).2.2]/\V O (Ar a (put s x).1*F) w':=by
 apply Xq;refine aG h λk1 Dr h=> ?_;obtain⟨p,c,q,d,h⟩:=Ar.aK (h.p1);generalize nZ:ab k1 (bP x).toArray 166*F=F' at h;have kx:∀{w A B C},V O (A*(B*(C*F'))) w->∀{K},K (bP x).toArray->aA (aD k1) 37 w K:=by intro w A B C h K hk;rw[<-nZ] at h;exact bz h.right.right.right (dw _) hk
 have fin:∀{w a s},V O (Ar a s*F') w->V O (Ar a s*F) w:=by intro w a s h;rw[<-nZ] at h;exact h.p1.right
 have hl:=hs.len;have hm:=hs.ie;have hb:=hs.lE;refine aw rfl<|aq<|aN (h.left.cell (i:=2) rfl) ?_;rcases nQ hs x with⟨fr,i,y,cv,hy,dk,bt⟩|⟨cv,fy,bt⟩|⟨cv,fy,bt⟩
 .have aQ:=(ct.1 hy).1;have hg:=hs.g y (dF hy);have iQ:s.fr.length=fr.length+1:=by simp[cv]
  refine⟨λn w=>n=(i:Int)/\∃q' d',V O (ab a #[aa s.aR,aH s.first,af p s.sp.length c,af q' fr.length d',aa s.bn] 253*(aE 440 39 bl p s.sp.length c s.sp*(aE 3 1 dm q' fr.length d' fr*F'))) w,?_,?_⟩
  .refine aq<|aN (h.left.cell (i:=3) rfl)<|aW (by simp;omega)<|aq<|aN (h.left.cell (i:=3) rfl)<|aY (by omega) (by omega) ?_;have nU:s.fr[((s.fr.length:Int)- 1).toNat]?=some i:=by
    have e:((s.fr.length:Int)- 1).toNat=fr.length:=by omega
    rw[e,cv];simp
   refine dC iN h.right.right.left (by decide) (by omega) nU λg hg=>az (cU iN (j:=0) h.right.right.left hg nU (by decide) rfl)<|aq<|aN (h.left.cell (i:=3) rfl)<|aY (by omega) (by omega) ?_;have h3:=h.p2;refine ur (h3:V O (own 3 1 q s.fr.length d (s.fr.flatMap dm)*_) Dr) (by omega) (by omega) ?_;have e:((s.fr.length:Int)- 1).toNat=fr.length:=by omega
   rw[e];have h4:=yD iN h3 (show fr.length<=s.fr.length by omega);rw[cv,qS rfl] at h4;refine aq<|bD (i:=3) h4.p1 (by simp) λw5 h5=>⟨rfl,q,d,h5.aF ?_⟩;show ab a #[aa s.aR,aH s.first,af p s.sp.length c,af q fr.length d,aa s.bn] 253*_=_;ac_rfl
  .rintro u n w5 ⟨rfl,q',d',h5⟩;have dQ:s.sp[(i:Int).toNat]?=some y:=by rw[cu];exact hy
   refine aq<|aN (h5.left.cell (i:=2) rfl)<|dC bE h5.right.left (by decide) (by omega) dQ λg hg=>kx h5 ?_;rw[cu];refine rh bE (o:=0) (n:=37) (y':=⟨x,y.g,y.st⟩) h5.p1 hg hy (by decide) (dw _) (fJ _) (sK _ _ _ _) λw6 h6=> ?_;refine g8 bE (y:=⟨x,y.g,y.st⟩) (y':=⟨x,y.g,1⟩) h6 hg (by simp[aQ]) (by decide) (tM _ _ _ _ rfl) λw7 h7=> ?_;rw[jF] at h7;have h7:=h7.p1;refine aq<|az (h7.left.cell (i:=4) rfl)<|aY (by omega) (by omega)<|aq<|bD (i:=4) h7 (by simp) λw8 h8=> ?_;refine az (cU bE (j:=37) (y:=⟨x,y.g,1⟩) h8.right.left hg (by simp[aQ]) (by decide) (mW _))<|fY (kV (i:=i) (g:=y.g) (by omega) (by omega) (by omega))<|bI ?_;rw[bt];exact⟨rfl,fin (Ar.aI (l:=s.sp.length) (m:=fr.length) (p:=p) (q:=q') (c:=c) (d:=d') h8)⟩
 .rw[bt];refine⟨λ_ _=>False,?_,λ_ _ _ h=>h.elim⟩;exact aq<|aN (h.left.cell (i:=3) rfl)<|aw (by simp[cv])<|aq<|az (h.left.cell (i:=0) rfl)<|aW (by simp[fy]) ⟨rfl,fin (Ar.aI h)⟩
 .have e0:s.fr.length=0:=by rw[cv];rfl
  refine⟨λn w=>n=(s.sp.length:Int)/\∃p' c',V O (ab a #[aa s.aR,aH s.first,af p' (s.sp.length+1) c',af q 0 d,aa s.bn] 253*(aE 440 39 bl p' (s.sp.length+1) c' (s.sp++[⟨cx,s.first,0⟩])*(aE 3 1 dm q 0 d []*F'))) w,?_,?_⟩
  .rw[e0,cv] at h;have hd:=h.drew;refine aq<|aN (h.left.cell (i:=3) rfl)<|aw (by simp)<|aq<|az (h.left.cell (i:=0) rfl)<|aw (by simp;omega)<|aq<|aN (hd.left.cell (i:=2) rfl)<|aq<|az (hd.left.cell (i:=1) rfl) ⟨rfl,aG hd λk w3 h3=> ?_⟩;refine ju nT bE (by decide) kT (x:=⟨cx,s.first,0⟩) (h3.aF (B:=_*(aE 440 39 bl p s.sp.length c s.sp*(ab a #[aa s.aR,aH s.first,af p s.sp.length c,af q 0 d,aa s.bn] 253*(aE 3 1 dm q 0 d []*F')))) (by ac_rfl)) rfl (by simp only[maxLen];omega) (by omega) λp' c' w4 h4=> ?_;refine aq<|bD (i:=2) h4.p1 (by simp) λw5 h5=>⟨rfl,p',c',?_⟩;exact h5
  .rintro u n w5 ⟨rfl,p',c',h5⟩;have hy:(s.sp++[⟨cx,s.first,0⟩])[s.sp.length]?=some (⟨cx,s.first,0⟩:bK GE):=by simp
   have dQ:(s.sp++[⟨cx,s.first,0⟩])[(s.sp.length:Int).toNat]?=some (⟨cx,s.first,0⟩:bK GE):=by simp
   have pq:=hs.qu;have oQ:=hs.qv;refine aq<|aN (h5.left.cell (i:=2) rfl)<|dC bE h5.right.left (by decide) (by omega) dQ λg hg=>kx h5 ?_;rw[cu];refine rh bE (o:=0) (n:=37) (y':=⟨x,s.first,0⟩) h5.p1 hg hy (by decide) (dw _) (fJ _) (sK _ _ _ _) λw6 h6=> ?_;refine g8 bE (y:=⟨x,s.first,0⟩) (y':=⟨x,s.first,1⟩) h6 hg (by simp) (by decide) (tM _ _ _ _ rfl) λw7 h7=> ?_;rw[jF] at h7;have h7:=h7.p1;refine aq<|az (h7.left.cell (i:=4) rfl)<|aY (by omega) (by omega)<|aq<|bD (i:=4) h7 (by simp) λw8 h8=> ?_;refine az (cU bE (j:=37) (y:=⟨x,s.first,1⟩) h8.right.left hg (by simp) (by decide) (mW _))<|fY (kV (i:=s.sp.length) (g:=s.first) (by omega) (by omega) (by omega))<|bI ?_;rw[bt];refine⟨rfl,fin (Ar.aI (l:=s.sp.length+1) (m:=0) (p:=p') (q:=q) (c:=c') (d:=d) ?_)⟩;have e:(s.sp++[(⟨cx,s.first,0⟩:bK GE)]).set s.sp.length (⟨x,s.first,1⟩:bK GE)=s.sp++[⟨x,s.first,1⟩]:=by simp
   rw[<-e];exact h8
theorem tE {O w:ao} {F:HP} {a:Nat} {s:AS GE} {h:Int} (hh:V O (Ar a s*F) w) (hs:bx s) (h0:0<=h) (h1:h<=18446744073709551615): ae 115 #[al a,ah h] w λv w'=>v=ak #[an (bP (cI cx s h).2.1).toArray,aa (cI cx s h).2.2]/\V O (Ar a (cI cx s h).1*F) w':=by
 apply Xf;refine aG hh λk1 w1 h2=>aG h2 λk2 w2 h3=> ?_;obtain⟨p,c,q,d,h3⟩:=Ar.aK (h3.aF (B:=Ar a s*(ab k2 (bP cx).toArray 166*(ab k1 (bP cx).toArray 166*F))) (by show ab k2 (bP cx).toArray 166*(ab k1 (bP cx).toArray 166*_)=_;ac_rfl));refine ay (nk h3 h0 h1) ?_;cases hf:find s h with
 |none=>rintro _ w3 ⟨rfl,rfl⟩;rw[yQ hf];have h4:=h3.p3.p4;exact⟨_,_,rfl,aW rfl<|bz h4.right rfl<|bL h4 rfl rfl (fJ cx) λw4 h5=>bz h5 rfl ⟨rfl,Ar.aI h5.right.right⟩⟩
 |some i=>
  rintro _ w3 ⟨rfl,g,hg,rfl⟩;obtain⟨y,hy,dk,_⟩:=(l6 hs).1 hf;rw[uH hf hy];have aQ:=(ct.1 hy).1;have rz:=hs.g y (dF hy);have hb:=hs.lE;have hl:=hs.len;have hm:=hs.ie;have hp:=xu (P:=λz:bK GE=>z.st==1) hy (by simp[dk]);have hk:=hs.bn;obtain⟨dg,nV,cp⟩:∃dg:Int,dg=(if y.g<4294967295 then 0 else 2)/\dg≠1:=⟨_,rfl,by split<;>decide⟩;refine⟨_,_,rfl,aw rfl<|aq<|wZ bE (o:=0) (n:=37) h3.right.left hg hy (by decide) (uU y)<|aG h3 λlG w5 h5=>bL h5 rfl (dw _) (fJ _) λw6 h6=> ?_⟩;have h6:=h6.p3.p2.p3;generalize nZ:ab lG (bP y.x).toArray 166*(ab k2 (bP cx).toArray 166*(ab k1 (bP cx).toArray 166*F))=F' at h6;have Dt:∀{w A B C},V O (A*(B*(C*F'))) w->∀{K},K (bP cx).toArray->aA (aD k2) 37 w K:=by intro w A B C h K hk;rw[<-nZ] at h;exact bz h.right.right.right.right (dw _) hk
  have fin:∀{w s'} {n:Int},n=0->V O (Ar a s'*F') w->aA (aD lG) 37 w λDu=>aS au (aD k1) 37 Du w λdH=>aA (aD k1) 37 dH λDv=>(λv w'=>v=ak #[an (bP y.x).toArray,aa n]/\V O (Ar a s'*F) w') (ak #[an Dv,aa 0]) dH:=by rintro w s' n rfl h;rw[<-nZ] at h;have h:=h.p2.p2.p3;exact bz h.right (dw _)<|bL h rfl (dw _) (fJ _) λw4 h5=>bz h5 (dw _) ⟨rfl,h5.right.right.right⟩
  refine Dt h6<|aq<|rh bE (o:=0) (n:=37) (y':=⟨cx,y.g,y.st⟩) h6 hg hy (by decide) (dw _) (fJ _) (sK _ _ _ _) λw7 h7=>aq ?_;refine g8 bE (y:=⟨cx,y.g,y.st⟩) (y':=⟨cx,y.g,dg⟩) h7 hg (by simp[aQ]) (by decide) (tM _ _ _ _ (by simp[cp])) λw8 h8=> ?_;rw[jF] at h8;have h8:=h8.p1;refine aq<|az (h8.left.cell (i:=4) rfl)<|aY (by omega) (by omega)<|aq<|bD (i:=4) h8 (by simp) λw4 h4=> ?_;have h4:V O (ab a #[aa s.aR,aH s.first,af p s.sp.length c,af q s.fr.length d,aa ((s.bn- 1:Nat):Int)] 253*(aE 440 39 bl p s.sp.length c (s.sp.set i ⟨cx,y.g,dg⟩)*(aE 3 1 dm q s.fr.length d s.fr*F'))) w4:=by
   have e:((s.bn- 1:Nat):Int)=(s.bn:Int)- 1:=by omega
   rw[e];exact h4
  have kW:(s.sp.set i ⟨cx,y.g,dg⟩)[i]?=some (⟨cx,y.g,dg⟩:bK GE):=by simp[aQ]
  refine aq<|az (cU bE (j:=37) h4.right.left hg kW (by decide) (mW _))<|bU (λaQ=> ?_) (λbW=> ?_)
  .have e0:dg=0:=by rw[nV,if_pos aQ]
   subst e0;refine aq<|az (cU bE (j:=37) h4.right.left hg kW (by decide) (mW _))<|gX (by dsimp only;omega) (by dsimp only at aQ ⊢;omega)<|aq<|g8 bE (y':=⟨cx,y.g+1,0⟩) h4.p1 hg kW (by decide) (Dq _ _ _ _) λw5 h5=> ?_;rw[jF] at h5;have h5:=h5.p1;refine aq<|aN (h5.left.cell (i:=3) rfl)<|aG h5 λk w6 h6=> ?_;refine ju nR iN (by decide) Ap (x:=i) (h6.aF (B:=_*(aE 3 1 dm q s.fr.length d s.fr*(ab a #[aa s.aR,aH s.first,af p s.sp.length c,af q s.fr.length d,aa ((s.bn- 1:Nat):Int)] 253*(aE 440 39 bl p s.sp.length c (s.sp.set i ⟨cx,y.g+1,0⟩)*F')))) (by ac_rfl)) rfl (by simp only[maxLen];omega) (by omega) λp' c' w7 h7=> ?_;refine aq<|bD (i:=3) h7.p1 (by simp) λw8 h8=>fin rfl ?_;rcases l8 (z:=cx) hy with⟨_,hd⟩|⟨hn,_⟩
   .rw[hd];exact Ar.aI (l:=s.sp.length) (m:=s.fr.length+1) (p:=p) (q:=p') (c:=c) (d:=c') (h8.aF (by show ab a #[aa s.aR,aH s.first,af p s.sp.length c,af p' (s.fr.length+1) c',aa ((s.bn- 1:Nat):Int)] 253*_=_;ac_rfl))
   .exact absurd aQ hn
  .have e0:dg=2:=by rw[nV,if_neg bW]
   subst e0;refine fin rfl ?_;rcases l8 (z:=cx) hy with⟨hn,_⟩|⟨_,hd⟩
   .exact absurd hn bW
   .rw[hd];exact Ar.aI h4
end Go.Proofs.YtjhnnnfnkjighaaGreatDoor.Lt
namespace Go.Proofs.YtjhnnnfnkjighaaGreatDoor
open Go.Sp Go.RowKit
theorem ahz:fe au 344 539 (an #[aa 0,.string ByteArray.empty,ah 0,aC false,aH 0,aC false]) 6 48:=⟨by kernel_rfl,by kernel_rfl,rfl,by decide⟩
def Sd (r:Nat):HP:=gR (λx:Int=>ah x) (λx:Int=>ah x) (λ_=>True) r (λ_=>none)
def mZ (k:Nat):HP:=ex λ(p:av)=>ex λ(r:Nat)=>ab k #[ag p,.map (some r)] 236*Sd r
def lM (k:Nat):HP:=ex λ(a:Nat)=>ab k #[al a] 250*ab a #[aa 256,aH 1,aP,aP,aa 0] 346
theorem ahA:oM au 234 26 26 (λx:Int=>ah x) (λ_=>True):=AE (by kernel_rfl) (by kernel_rfl)
theorem ahB (w:ao):(zeroValue 26).run au w=.ok (ah 0) w:=by kernel_rfl
section
variable {O w:ao} {F:HP} {k:Nat}
theorem ahC (h:V O F w):ae 45 #[aa 256] w λv w'=>∃k,v=ak #[al k,aa 0]/\V O (mZ k*F) w':=by
 apply X5;refine ay (K:=λv w'=>∃p,v=ak #[ag p,aa 0]/\V O F w') ?_ ?_
 .apply W9;exact aw rfl<|aw rfl<|aw rfl<|aG h λk1 w1 h1=>⟨_,rfl,h1.right⟩
 rintro _ w1 ⟨p,rfl,h1⟩;refine⟨_,_,rfl,aw rfl<|xh (λx:Int=>ah x) (λx:Int=>ah x) (λ_=>True) h1 λr w2 h2=>aG h2 λk5 w3 h3=>⟨k5,rfl,?_⟩⟩;exact V.bO p (V.bO r (h3.g1))
theorem ahD {h:Int} (hh:V O (mZ k*F) w):ae 148 #[al k,ah h] w λv w'=>v=aC false/\V O (mZ k*F) w':=by have h0:=hh;obtain⟨p,h1⟩:=hh.ex;obtain⟨r,h1⟩:=h1.ex;have h2:V O (ab k #[ag p,.map (some r)] 236*(Sd r*F)) w:=h1.a;apply Yi;refine aw rfl<|aq<|kK (aB h2 (i:=1) rfl)<|xj ahA (x:=h) h2.p1 trivial (ahB w) ⟨_,_,rfl,aw rfl ⟨rfl,h0⟩⟩
theorem ahE (h:V O F w):ae 47 #[aa 256] w λv w'=>∃k,v=ak #[al k,aa 0]/\V O (lM k*F) w':=by
 apply X7;refine ay (K:=λv w'=>∃a,v=ak #[al a,aa 0]/\V O (ab a #[aa 256,aH 1,aP,aP,aa 0] 346*F) w') ?_ ?_
 .apply Xb;exact aw rfl<|aw rfl<|aw rfl<|aG h λk1 w1 h1=>⟨_,rfl,h1⟩
 rintro _ w1 ⟨a,rfl,h1⟩;exact⟨_,_,rfl,aw rfl<|aG h1 λk4 w2 h2=>⟨k4,rfl,V.bO a (h2.g1)⟩⟩
theorem ahF {kk tt a:Nat} {bG:Nat->HP} (hP:∀w,V O (bG 0) w->V O (ab kk #[al a] tt) w) (hA:∀w,V O (bG 0) w->V O (ab a #[aa 256,aH 1,aP,aP,aa 0] 346) w): iD au O 277 #[al kk] bG []:=by intro f b c B Bx cA hB hy F w h;show ae _ #[.func f b c,al kk] w _;apply Xt;refine bh ((hP _ (hB 0 _ h.left)).cell (i:=0) rfl)<|aw rfl<|aG h λk2 w1 h1=>bh ((hP _ (hB 0 _ h1.right.left)).cell (i:=0) rfl)<|aq<|aN (aB (hA _ (hB 0 _ h1.right.left)).cQ.e1 (i:=2) rfl) ?_;refine lW ahz (V.lx (t:=539) (sz:=6) (n:=0) h1 rfl (by decide)) (Rd.nil _ _ _) (by simp) (by decide) (by decide) λp6 c6 w2 h3=> ?_;refine⟨λn w m=>n=0/\V O (B 0*F) w,⟨0,rfl,h3.right⟩,?_⟩;rintro u _ w3 _ ⟨rfl,h4⟩;exact aw rfl (.inl h4)
theorem ahG {h:Int} (hh:V O (lM k*F) w):ae 149 #[al k,ah h] w λv w'=>v=aa 0/\V O (lM k*F) w':=by
 obtain⟨a,h1⟩:=hh.ex;have h2:V O (ab k #[al a] 250*(ab a #[aa 256,aH 1,aP,aP,aa 0] 346*F)) w:=h1.a;apply Yj;refine aG h2 λk1 w1 h3=>aG h3 λk2 w2 h4=>bh (fS h4.p1 rfl)<|aw rfl<|aG h4 λk4 w3 h5=>pK h5 (by simp) λw4 h6=>bh (fS h6.p2 rfl)<|aq<|bh (aB h6.p3 (i:=0) rfl)<|ay (K:=λv w'=>∃kk,v=.func (.func 277) #[] #[al kk]/\V O (ab kk #[al a] 244*(ab k4 #[aa 0] 3*(ab a #[aa 256,aH 1,aP,aP,aa 0] 346*(ab k #[al a] 250*F)))) w') ?_ ?_
 .apply Xl;refine aG h6 λkk w5 h7=>⟨kk,rfl,?_⟩;exact(h7.aF (B:=(ab k2 #[ah h] 26*ab k1 #[al k] 85)*_) (by show ab kk _ 244*(ab k4 _ 3*(ab k2 _ 26*(ab k1 _ 85*(ab k _ 250*(ab a _ 346*F)))))=_;simp only[Array.setIfInBounds];ac_rfl)).right
 rintro _ w5 ⟨kk,rfl,h7⟩;refine i6<|j7 ⟨O,_,_,[],λj=>ab kk #[al a] 244*(ab k4 #[aa 0] 3*(ab a #[aa 256,aH 1,aP,aP,aa 0] 346*(ab k #[al a] 250*F))),λc=>bM False,rfl,⟨_,_,Tryz.func277,rfl⟩,h7,by simp,ahF (λw h=>h.left) (λw h=>h.right.right.left),by simp,?_,?_⟩
 .intro D w6 h8;refine az (n:=0) (fS h8.p2 rfl)<|iL h8 λw7 h9=>⟨rfl,V.bO a ?_⟩;exact(h9.right.right).p1.g1
 .intro D c w6 h8;exact(h8.e1.cQ.e1.left.left.cQ.e1).bM.elim
theorem ahH {a:Nat} {s:AS kX} {h:Int} {x:kX} (hh:V O (Rf.Ar a s*F) w) (hs:bx s) (h0:0<=h) (h1:h<=18446744073709551615) (hp:(bg s h).isSome=true): ae 210 #[al a,ah h,an (Rf.bP x).toArray] w λv w'=>v=aa 0/\V O (Rf.Ar a (cF s h x)*F) w':=by
 apply Xp;refine aG hh λk1 w1 h2=> ?_;obtain⟨p,c,q,d,h3⟩:=Rf.Ar.aK h2.p1;refine ay (Rf.nk h3 h0 h1) ?_;cases hf:find s h with
 |none=>rw[bg,hf] at hp;cases hp
 |some i=>
  rintro _ w2 ⟨rfl,g,hg,rfl⟩;obtain⟨y,hy,dk,_⟩:=(l6 hs).1 hf;refine⟨_,_,rfl,aw rfl<|bz h3.p3 (Rf.dw x)<|aq<|rh Rf.bE (o:=0) (n:=19) (y':=⟨x,y.g,y.st⟩) h3.p1 hg hy (by decide) (Rf.dw _) (Rf.fJ _) (Rf.sK _ _ _ _) λw3 h4=>⟨rfl,?_⟩⟩;have e:cF s h x={s with sp:=s.sp.set i ⟨x,y.g,y.st⟩}:=by rw[cF,hf];exact uM hy
  rw[e];have hl:s.sp.length=(s.sp.set i ⟨x,y.g,y.st⟩).length:=by simp
  exact Rf.Ar.aI (l:=s.sp.length) ((h4.p1.p3).right)
end
end Go.Proofs.YtjhnnnfnkjighaaGreatDoor
namespace Go.Proofs.YtjhnnnfnkjighaaGreatDoor.Hp
open Go.Proofs.YtjhnnnfnkjighaaGreatDoor
abbrev gS:Nat:=181
abbrev dI:Nat:=183
abbrev C4:Nat:=179
end Go.Proofs.YtjhnnnfnkjighaaGreatDoor.Hp
namespace Go.Proofs.YtjhnnnfnkjighaaGreatDoor.Hp
open Go.Proofs.YtjhnnnfnkjighaaGreatDoor
open Go.Sp Go.RowKit
abbrev cJ:=Option Nat
def nj (x:cJ):av:=x.map λk=>(aD k)
def PV (x:cJ):Value:=ag (nj x)
def bl (y:bK cJ):dB:=[PV y.x,aH y.g,aC (y.st==1)]
theorem bE (y:bK cJ):(bl y).length=3:=rfl
theorem kT (y:bK cJ):∀u∈bl y,u.oneCell'=true:=by simp[bl,PV,Value.oneCell']
def Ar (a:Nat) (s:AS cJ):HP:=ex λp=>ex λl=>ex λc=>ex λq=>ex λm=>ex λd=>
 ab a #[aa s.aR,aH s.first,af p l c,af q m d,aa s.bn] gS*(aE dI 3 bl p l c s.sp*aE 3 1 dm q m d s.fr)
theorem Ar.aK {O w:ao} {F:HP} {a:Nat} {s:AS cJ} (h:V O (Ar a s*F) w):∃p c q d,V O (ab a #[aa s.aR,aH s.first,af p s.sp.length c,af q s.fr.length d,aa s.bn] gS*(aE dI 3 bl p s.sp.length c s.sp*(aE 3 1 dm q s.fr.length d s.fr*F))) w:=by obtain⟨p,h⟩:=V.ex h;obtain⟨l,h⟩:=V.ex h;obtain⟨c,h⟩:=V.ex h;obtain⟨q,h⟩:=V.ex h;obtain⟨m,h⟩:=V.ex h;obtain⟨d,h⟩:=V.ex h;have h:=h.a.p1.a.p2;have e1:=nK bE (by decide) h.right.left;have e2:=nK iN (by decide) h.right.right.left;subst e1 e2;exact⟨p,c,q,d,h⟩
theorem Ar.aI {O w:ao} {F:HP} {a l m:Nat} {aR first:Int} {sp:List (bK cJ)} {fr:List Nat} {bn:Nat} {p q:av} {c d:Nat} (h:V O (ab a #[aa aR,aH first,af p l c,af q m d,aa bn] gS*(aE dI 3 bl p l c sp*(aE 3 1 dm q m d fr*F))) w):V O (Ar a ⟨aR,first,sp,fr,bn⟩*F) w:=V.bO p (V.bO l (V.bO c (V.bO q (V.bO m (V.bO d (h.aF (by ac_rfl)))))))
theorem tA {O w:ao} {F:HP} {aR first:Int} (h:V O F w) (h0:1<=aR) (h1:aR<=65536) (h2:first≠0): ae 75 #[aa aR,aH first] w λv w'=>∃a,v=ak #[al a,aa 0]/\V O (Ar a ⟨aR,first,[],[],0⟩*F) w':=by apply WM;exact aw (by simp;omega)<|aw (by simp;omega)<|aw (by simp;exact h2)<|aG h λb w2 h2=>⟨b,rfl,Ar.aI (l:=0) (m:=0) ((fE dI 3 bl (fE 3 1 dm h2)).aF (by ac_rfl))⟩
theorem sE {h:Int} (h0:0<=h) (h1:h<=18446744073709551615):kN au 274 #[ah h] (ak #[aa (h%4294967296- 1),aH (h/ 4294967296)]):=by
 intro w;apply Am;refine Aq<|aY (by omega) (by omega)<|aY (by omega) (by omega)<|uq (by omega) (by simp only[IntKind.bits];omega) ?_;have e:(2:Int)^(32:Int).toNat=4294967296:=by decide
 rw[e];exact gX (by omega) (by omega) ⟨rfl,rfl⟩
theorem tB {i:Nat} {g:Int} (hi:i<4294967295) (h0:0<=g) (h1:g<=4294967295):gr .or .u64 (g*2^32) ((i:Int)+1)=hd i g:=by
 obtain⟨n,rfl⟩:∃n:Nat,g=n:=⟨g.toNat,by omega⟩;have:=yE (x:=i+1) (b:=n) (i:=32) (by omega) (by omega) (by omega);have e1:((n*2^32:Nat):Int)=(n:Int)*2^32:=by simp
 rw[e1] at this;rw[show(i:Int)+1=((i+1:Nat):Int) by omega,this,hd];omega
theorem kV {i:Nat} {g:Int} (hi:i<4294967295) (h0:0<=g) (h1:g<=4294967295):kN au 62 #[aa i,aH g] (ah (hd i g)):=by intro w;apply Al;refine fx (by omega) (by omega)<|yF (n:=32) (by omega) (by omega) (by omega)<|aY (by omega) (by omega)<|fx (by omega) (by omega) ?_;rw[tB hi h0 h1];exact⟨rfl,rfl⟩
theorem nk {O w:ao} {F:HP} {a c:Nat} {s:AS cJ} {p q:av} {m d:Nat} {h:Int} (hh:V O (ab a #[aa s.aR,aH s.first,af p s.sp.length c,af q m d,aa s.bn] gS*(aE dI 3 bl p s.sp.length c s.sp*F)) w) (h0:0<=h) (h1:h<=18446744073709551615): ae 302 #[al a,ah h] w λv w'=>w'=w/\ match find s h with
   |none=>v=ak #[ag none,aa 0]
   |some i=>∃g,p=some (aD g)/\v=ak #[ag (some ⟨g,i*3,none⟩),aa i]:=by
 apply WZ;have hc:w.cell? ⟨a,2,none⟩=some (af p s.sp.length c):=hh.left.cell (i:=2) rfl;refine fY (sE h0 h1) ⟨_,_,rfl,aw rfl<|bU (λaQ=> ?_) (λbW=>aq<|aN hc<|bU (λxg=> ?_) (λoJ=>aq<|aN hc ?_))⟩
 .rw[find,if_pos (by omega)];exact⟨rfl,rfl⟩
 .rw[find,if_neg (by omega),ua (by omega)];exact⟨rfl,rfl⟩
 .obtain⟨y,hy⟩:∃y,s.sp[(h%4294967296- 1).toNat]?=some y:=⟨s.sp[(h%4294967296- 1).toNat]'(by omega),by simp⟩;have hT:=hh.right.left;refine dC bE hT (by decide) (by omega) hy λg hg=>gQ (cU bE (j:=2) hT hg hy (by decide) rfl)<|cy (λhb=> ?_) (λhb=>az (cU bE (j:=1) hT hg hy (by decide) rfl)<|cy (λhn=> ?_) (λhn=> ?_))
  .have hb:y.st≠1:=by simpa using hb
   rw[find,if_neg (by omega),hy];simp[hb]
  .have hn:y.g≠h/ 4294967296:=by simpa using hn
   rw[find,if_neg (by omega),hy];simp[hn]
  .have hb:y.st=1:=by simpa using hb
   have hn:y.g=h/ 4294967296:=by simpa using hn
   rw[find,if_neg (by omega),hy];simp only[hb,hn,and_self,if_true];refine⟨trivial,g,hg,?_⟩;rw[zN (by omega)]
theorem tC {O w:ao} {F:HP} {a:Nat} {s:AS cJ} {h:Int} (hh:V O (Ar a s*F) w) (h0:0<=h) (h1:h<=18446744073709551615): ae 230 #[al a,ah h] w λv w'=>w'=w/\ match(find s h).bind (s.sp[·]?) with
   |none=>v=ak #[ag none,aa 2]
   |some y=>v=ak #[PV y.x,aa 0]:=by
 apply WT;obtain⟨p,c,q,d,hh⟩:=Ar.aK hh;refine ay (nk hh h0 h1) ?_;cases hf:find s h with
 |none=>rintro _ w1 ⟨rfl,rfl⟩;exact⟨_,_,rfl,aW rfl ⟨rfl,rfl⟩⟩
 |some i=>
  rintro _ w1 ⟨rfl,g,hg,rfl⟩;have hy:∃y,s.sp[i]?=some y:=by
   unfold find at hf;split at hf
   .cases hf
   split at hf
   .rename_i y hy;split at hf
    .cases hf;exact⟨y,hy⟩
    .cases hf
   .cases hf
  obtain⟨y,hy⟩:=hy;rw[gg,hy];exact⟨_,_,rfl,aw rfl<|aq<|bh (n:=nj y.x) (cU bE (j:=0) hh.right.left hg hy (by decide) rfl) ⟨rfl,rfl⟩⟩
theorem nT:fe au C4 dI (an #[ag none,aH 0,aC false]) 3 16:=⟨by kernel_rfl,by kernel_rfl,rfl,by decide⟩
theorem tD {O w:ao} {F:HP} {a:Nat} {s:AS cJ} {x:cJ} (h:V O (Ar a s*F) w) (hs:bx s): ae 279 #[al a,PV x] w λv w'=>v=ak #[ah (put s x).2.1,aa (put s x).2.2]/\V O (Ar a (put s x).1*F) w':=by
 apply WX;obtain⟨p,c,q,d,h⟩:=Ar.aK h;have hl:=hs.len;have hm:=hs.ie;have hb:=hs.lE;refine aw rfl<|aq<|aN (h.left.cell (i:=2) rfl) ?_;rcases nQ hs x with⟨fr,i,y,cv,hy,dk,bt⟩|⟨cv,fy,bt⟩|⟨cv,fy,bt⟩
 .have aQ:=(ct.1 hy).1;have hg:=hs.g y (dF hy);have iQ:s.fr.length=fr.length+1:=by simp[cv]
  refine⟨λn w=>n=(i:Int)/\∃q' d',V O (ab a #[aa s.aR,aH s.first,af p s.sp.length c,af q' fr.length d',aa s.bn] gS*(aE dI 3 bl p s.sp.length c s.sp*(aE 3 1 dm q' fr.length d' fr*F))) w,?_,?_⟩
  .refine aq<|aN (h.left.cell (i:=3) rfl)<|aW (by simp;omega)<|aq<|aN (h.left.cell (i:=3) rfl)<|aY (by omega) (by omega) ?_;have nU:s.fr[((s.fr.length:Int)- 1).toNat]?=some i:=by
    have e:((s.fr.length:Int)- 1).toNat=fr.length:=by omega
    rw[e,cv];simp
   refine dC iN h.right.right.left (by decide) (by omega) nU λg hg=>az (cU iN (j:=0) h.right.right.left hg nU (by decide) rfl)<|aq<|aN (h.left.cell (i:=3) rfl)<|aY (by omega) (by omega) ?_;have h3:=h.p2;refine ur (h3:V O (own 3 1 q s.fr.length d (s.fr.flatMap dm)*_) w) (by omega) (by omega) ?_;have e:((s.fr.length:Int)- 1).toNat=fr.length:=by omega
   rw[e];have h4:=yD iN h3 (show fr.length<=s.fr.length by omega);rw[cv,qS rfl] at h4;refine aq<|bD (i:=3) h4.p1 (by simp) λw5 h5=>⟨rfl,q,d,h5.aF ?_⟩;show ab a #[aa s.aR,aH s.first,af p s.sp.length c,af q fr.length d,aa s.bn] gS*_=_;ac_rfl
  .rintro u n w5 ⟨rfl,q',d',h5⟩;have dQ:s.sp[(i:Int).toNat]?=some y:=by rw[cu];exact hy
   refine aq<|aN (h5.left.cell (i:=2) rfl)<|dC bE h5.right.left (by decide) (by omega) dQ λg hg=> ?_;rw[cu];refine g8 bE (y':=⟨x,y.g,y.st⟩) h5.p1 hg hy (by decide) rfl λw6 h6=> ?_;refine g8 bE (y:=⟨x,y.g,y.st⟩) (y':=⟨x,y.g,1⟩) h6 hg (by simp[aQ]) (by decide) rfl λw7 h7=> ?_;rw[jF] at h7;have h7:=h7.p1;refine aq<|az (h7.left.cell (i:=4) rfl)<|aY (by omega) (by omega)<|aq<|bD (i:=4) h7 (by simp) λw8 h8=> ?_;refine az (cU bE (j:=1) (y:=⟨x,y.g,1⟩) h8.right.left hg (by simp[aQ]) (by decide) rfl)<|fY (kV (i:=i) (g:=y.g) (by omega) (by omega) (by omega))<|bI ?_;rw[bt];refine⟨rfl,Ar.aI (l:=s.sp.length) (m:=fr.length) (p:=p) (q:=q') (c:=c) (d:=d') ?_⟩;exact h8
 .rw[bt];refine⟨λ_ _=>False,?_,λ_ _ _ h=>h.elim⟩;refine aq<|aN (h.left.cell (i:=3) rfl)<|aw (by simp[cv])<|aq<|az (h.left.cell (i:=0) rfl)<|aW (by simp[fy]) ⟨rfl,?_⟩;exact Ar.aI h
 .have e0:s.fr.length=0:=by rw[cv];rfl
  refine⟨λn w=>n=(s.sp.length:Int)/\∃p' c',V O (ab a #[aa s.aR,aH s.first,af p' (s.sp.length+1) c',af q 0 d,aa s.bn] gS*(aE dI 3 bl p' (s.sp.length+1) c' (s.sp++[⟨none,s.first,0⟩])*(aE 3 1 dm q 0 d []*F))) w,?_,?_⟩
  .rw[e0,cv] at h;have hd:=h.drew;refine aq<|aN (h.left.cell (i:=3) rfl)<|aw (by simp)<|aq<|az (h.left.cell (i:=0) rfl)<|aw (by simp;omega)<|aq<|aN (hd.left.cell (i:=2) rfl)<|aq<|az (hd.left.cell (i:=1) rfl) ⟨rfl,aG hd λk w3 h3=> ?_⟩;refine ju nT bE (by decide) kT (x:=⟨none,s.first,0⟩) (h3.aF (B:=_*(aE dI 3 bl p s.sp.length c s.sp*(ab a #[aa s.aR,aH s.first,af p s.sp.length c,af q 0 d,aa s.bn] gS*(aE 3 1 dm q 0 d []*F)))) (by ac_rfl)) rfl (by simp only[maxLen];omega) (by omega) λp' c' w4 h4=> ?_;refine aq<|bD (i:=2) h4.p1 (by simp) λw5 h5=>⟨rfl,p',c',?_⟩;exact h5
  .rintro u n w5 ⟨rfl,p',c',h5⟩;have hy:(s.sp++[⟨none,s.first,0⟩])[s.sp.length]?=some (⟨none,s.first,0⟩:bK cJ):=by simp
   have dQ:(s.sp++[⟨none,s.first,0⟩])[(s.sp.length:Int).toNat]?=some (⟨none,s.first,0⟩:bK cJ):=by simp
   have pq:=hs.qu;have oQ:=hs.qv;refine aq<|aN (h5.left.cell (i:=2) rfl)<|dC bE h5.right.left (by decide) (by omega) dQ λg hg=> ?_;rw[cu];refine g8 bE (y':=⟨x,s.first,0⟩) h5.p1 hg hy (by decide) rfl λw6 h6=> ?_;refine g8 bE (y:=⟨x,s.first,0⟩) (y':=⟨x,s.first,1⟩) h6 hg (by simp) (by decide) rfl λw7 h7=> ?_;rw[jF] at h7;have h7:=h7.p1;refine aq<|az (h7.left.cell (i:=4) rfl)<|aY (by omega) (by omega)<|aq<|bD (i:=4) h7 (by simp) λw8 h8=> ?_;refine az (cU bE (j:=1) (y:=⟨x,s.first,1⟩) h8.right.left hg (by simp) (by decide) rfl)<|fY (kV (i:=s.sp.length) (g:=s.first) (by omega) (by omega) (by omega))<|bI ?_;rw[bt];refine⟨rfl,Ar.aI (l:=s.sp.length+1) (m:=0) (p:=p') (q:=q) (c:=c') (d:=d) ?_⟩;have e:(s.sp++[(⟨none,s.first,0⟩:bK cJ)]).set s.sp.length (⟨x,s.first,1⟩:bK cJ)=s.sp++[⟨x,s.first,1⟩]:=by simp
   rw[<-e];exact h8
theorem tE {O w:ao} {F:HP} {a:Nat} {s:AS cJ} {h:Int} (hh:V O (Ar a s*F) w) (hs:bx s) (h0:0<=h) (h1:h<=18446744073709551615): ae 235 #[al a,ah h] w λv w'=>v=ak #[PV (cI none s h).2.1,aa (cI none s h).2.2]/\V O (Ar a (cI none s h).1*F) w':=by
 apply WU;obtain⟨p,c,q,d,hh⟩:=Ar.aK hh;refine ay (nk hh h0 h1) ?_;cases hf:find s h with
 |none=>rintro _ w1 ⟨rfl,rfl⟩;rw[yQ hf];exact⟨_,_,rfl,aW rfl ⟨rfl,Ar.aI hh⟩⟩
 |some i=>
  rintro _ w1 ⟨rfl,g,hg,rfl⟩;obtain⟨y,hy,dk,_⟩:=(l6 hs).1 hf;rw[uH hf hy];have aQ:=(ct.1 hy).1;have rz:=hs.g y (dF hy);have hb:=hs.lE;have hl:=hs.len;have hm:=hs.ie;have hp:=xu (P:=λz:bK cJ=>z.st==1) hy (by simp[dk]);have hk:=hs.bn;obtain⟨dg,nV,cp⟩:∃dg:Int,dg=(if y.g<4294967295 then 0 else 2)/\dg≠1:=⟨_,rfl,by split<;>decide⟩;refine⟨_,_,rfl,aw rfl<|aq<|bh (n:=nj y.x) (cU bE (j:=0) hh.right.left hg hy (by decide) rfl)<|aq ?_⟩;refine g8 bE (y':=⟨none,y.g,1⟩) hh.p1 hg hy (by decide) (by simp[bl,dk,PV,nj]) λw2 h2=>aq ?_;refine g8 bE (y:=⟨none,y.g,1⟩) (y':=⟨none,y.g,dg⟩) h2 hg (by simp[aQ]) (by decide) (by simp[bl,cp]) λw3 h3=> ?_;rw[jF] at h3;have h3:=h3.p1;refine aq<|az (h3.left.cell (i:=4) rfl)<|aY (by omega) (by omega)<|aq<|bD (i:=4) h3 (by simp) λw4 h4=> ?_;have h4:V O (ab a #[aa s.aR,aH s.first,af p s.sp.length c,af q s.fr.length d,aa ((s.bn- 1:Nat):Int)] gS*(aE dI 3 bl p s.sp.length c (s.sp.set i ⟨none,y.g,dg⟩)*(aE 3 1 dm q s.fr.length d s.fr*F))) w4:=by
   have e:((s.bn- 1:Nat):Int)=(s.bn:Int)- 1:=by omega
   rw[e];exact h4
  have kW:(s.sp.set i ⟨none,y.g,dg⟩)[i]?=some (⟨none,y.g,dg⟩:bK cJ):=by simp[aQ]
  refine aq<|az (cU bE (j:=1) h4.right.left hg kW (by decide) rfl)<|bU (λaQ=> ?_) (λbW=> ?_)
  .have e0:dg=0:=by rw[nV,if_pos aQ]
   subst e0;refine aq<|az (cU bE (j:=1) h4.right.left hg kW (by decide) rfl)<|gX (by dsimp only;omega) (by dsimp only at aQ ⊢;omega)<|aq<|g8 bE (y':=⟨none,y.g+1,0⟩) h4.p1 hg kW (by decide) rfl λw5 h5=> ?_;rw[jF] at h5;have h5:=h5.p1;refine aq<|aN (h5.left.cell (i:=3) rfl)<|aG h5 λk w6 h6=> ?_;refine ju nR iN (by decide) Ap (x:=i) (h6.aF (B:=_*(aE 3 1 dm q s.fr.length d s.fr*(ab a #[aa s.aR,aH s.first,af p s.sp.length c,af q s.fr.length d,aa ((s.bn- 1:Nat):Int)] gS*(aE dI 3 bl p s.sp.length c (s.sp.set i ⟨none,y.g+1,0⟩)*F)))) (by ac_rfl)) rfl (by simp only[maxLen];omega) (by omega) λp' c' w7 h7=> ?_;refine aq<|bD (i:=3) h7.p1 (by simp) λw8 h8=>⟨rfl,?_⟩;rcases l8 (z:=(none:cJ)) hy with⟨_,hd⟩|⟨hn,_⟩
   .rw[hd];exact Ar.aI (l:=s.sp.length) (m:=s.fr.length+1) (p:=p) (q:=p') (c:=c) (d:=c') (h8.aF (by show ab a #[aa s.aR,aH s.first,af p s.sp.length c,af p' (s.fr.length+1) c',aa ((s.bn- 1:Nat):Int)] gS*_=_;ac_rfl))
   .exact absurd aQ hn
  .have e0:dg=2:=by rw[nV,if_neg bW]
   subst e0;refine⟨rfl,?_⟩;rcases l8 (z:=(none:cJ)) hy with⟨hn,_⟩|⟨_,hd⟩
   .exact absurd hn bW
   .rw[hd];exact Ar.aI h4
def jf (p:Int×cJ):aM:=#[ah p.1,PV p.2]
def kc (p:Nat×bK cJ):Int×cJ:=(hd p.1 p.2.g,p.2.x)
theorem xy {O w:ao} {F:HP} {x:av} (h:V O F w): ae 30 #[ag x] w λv w'=>∃k t,v=.func (.func 61) #[] #[al k]/\V O (ab k #[ag x] t*F) w':=by apply WJ;exact aG h λk w1 h1=>⟨k,_,rfl,h1⟩
theorem KO {O:ao} {k a t:Nat} {s:AS cJ} {bG:Nat->HP} (hs:bx s) (hP:∀w,V O (bG 0) w->V O (ab k #[al a] t) w) (hA:∀w,V O (bG 0) w->V O (Ar a s) w): iD au O 61 #[al k] bG ((cq 0 s.sp).map λp=>jf (kc p)):=by
 intro f b c B Bx cA hB hy F w h;show ae _ #[.func f b c,al k] w _;apply NV;have hl:=hs.len;have hm:=hs.ie;refine bh ((hP _ (hB 0 _ h.left)).cell (i:=0) rfl)<|aw rfl<|aG h λk2 w1 h1=> ?_;have gO:=hP _ (hB 0 _ h1.right.left);obtain⟨p,c5,q,d,h2⟩:=Ar.aK ((hA _ (hB 0 _ h1.right.left)).cQ.e1);refine bh (gO.cell (i:=0) rfl)<|aq<|aN (h2.left.cell (i:=2) rfl) ?_;have hT:V O (own dI 3 p s.sp.length c5 (s.sp.flatMap bl)) w1:=h2.right.left;refine lW nT (V.lx (t:=dI) (sz:=3) (n:=0) h1 rfl (by decide)) hT.rd (λu hu=> ?_) (by simp only[maxLen];omega) (by omega) λp6 c6 w2 h3=> ?_
 .obtain⟨y,_,hu⟩:=zR.1 hu;exact kT y u hu
 rw[dc] at h3 ⊢;have h3:V O (aE dI 3 bl p6 s.sp.length c6 s.sp*(B 0*F)) w2:=h3;refine⟨λn w m=>0<=n/\n<=s.sp.length/\m=s.sp.length- n.toNat/\V O (aE dI 3 bl p6 s.sp.length c6 s.sp*(B (cq 0 (s.sp.take n.toNat)).length*F)) w,⟨_,by omega,by omega,rfl,h3⟩,?_⟩;rintro u n w3 m ⟨h0,h1,rfl,h4⟩;refine bU (λaQ=> ?_) (λbW=>.inl ?_)
 .obtain⟨i,rfl⟩:∃i:Nat,n=i:=⟨n.toNat,by omega⟩;rw[cu] at h4;have hi:i<s.sp.length:=by omega
  obtain⟨y,eT⟩:∃y,s.sp[i]?=some y:=⟨s.sp[i],by simp[hi]⟩;have dQ:s.sp[(i:Int).toNat]?=some y:=by rw[cu];exact eT
  have rz:=hs.g y (dF eT);have e1:((i:Int)+1).toNat=i+1:=by omega
  have e2:s.sp.take (i+1)=s.sp.take i++[y]:=by rw[fV,eT];rfl
  have e3:(s.sp.take i).length=i:=by rw[fB];omega
  refine dC bE h4.left (by decide) (by omega) dQ λg hg=>oF (vs:=(bl y).toArray) rfl (λj hj=> ?_)<|aG h4 λk3 w4 h5=>bL h5 rfl rfl (λu hu=>kT y u hu) λw5 h6=> ?_
  .rw[cu];exact(cU bE (j:=j) (v:=(bl y)[j]'(by rw[bE];exact hj)) h4.left hg eT hj (by simp[bE,hj])).trans (by simp[bE,hj])
  have h6:=h6.drew;have cl:∀(j:Nat) {v:Value},(bl y).toArray[j]?=some v->w5.drew.cell? ((aD k3).add j)=some v:=by intro j v hv;rw[du,dc];exact h6.left.cell hv
  refine gQ (cl 2 rfl)<|cy (λht=> ?_) (λhf=> ?_)
  .have ht:y.st=1:=by simpa using ht
   refine az (cl 1 rfl)<|bh (n:=nj y.x) (cl 0 rfl)<|fY (kV (i:=i) (g:=y.g) (by omega) (by omega) (by omega))<|bI ⟨cl 0 rfl,?_⟩;have hx:((cq 0 s.sp).map λp=>jf (kc p))[(cq 0 (s.sp.take i)).length]?=some (jf (hd i y.g,y.x)):=by
    have e4:s.sp=s.sp.take i++(y::s.sp.drop (i+1)):=by
     conv=>lhs;rw[<-mK i s.sp,ll hi]
     rw[gm hi] at eT;cases eT;rfl
    have e5:cq 0 s.sp=cq 0 (s.sp.take i)++(i,y)::cq (i+1) (s.sp.drop (i+1)):=by conv=>lhs;rw[e4,AR,e3,dc,cq,if_pos ht]
    rw[eZ,e5];simp[kc]
   refine nH (hy _ _ hx (ab k3 (bl y).toArray dI*(aE dI 3 bl p6 s.sp.length c6 s.sp*F)) _ (h6.aF (by ac_rfl))) ?_;rintro v w7 (⟨rfl,h7⟩|⟨rfl,h7⟩)
   .refine cR<|aw rfl<|aY (by omega) (by omega) ⟨_,?_,by omega,by omega,rfl,?_⟩
    .omega
    .rw[e1,e2,sB,if_pos ht,gp];exact(h7.p2.p2).right
   .exact cR<|aW rfl<|.inr ((h7.p2.p2.g1).right)
  .have hf:y.st≠1:=by simpa using hf
   refine aY (by omega) (by omega) ⟨_,by omega,by omega,by omega,rfl,?_⟩;rw[e1,e2,sB,if_neg hf,jS];exact h6.right
 .have e:s.sp.take n.toNat=s.sp:=by rw[eW];omega
  rw[e] at h4;rw[fk];exact h4.right
structure Loc where
 pl:av
 cl:Nat
 pi:av
 ci:Nat
abbrev PO:=Option (Nat×OM×Loc)
def lN (x:PO):cJ:=x.map (·.1)
def zu (x:PO):OM:=match x with|some q=>q.2.1|none=>z0
def jO (x:Int×Int):dB:=[aa x.1,ah x.2]
theorem wm (x:Int×Int):(jO x).length=2:=rfl
theorem ahI (x:Int×Int):∀u∈jO x,u.oneCell'=true:=by simp[jO,Value.oneCell']
def iI (x:Int×Int):aM:=#[aa x.1,ah x.2]
theorem DS (x:Int×Int):∀u∈(iI x).toList,u.oneCell'=true:=by simp[iI,Value.oneCell']
theorem Hd:fe au 188 139 (an (iI (0,0))) 2 16:=⟨by kernel_rfl,by kernel_rfl,rfl,by decide⟩
def oA (o:OM) (L:Loc):aM:=#[aH o.cn,ah o.ou,aa o.va,af L.pl o.ln.length L.cl,af L.pi o.cj.length L.ci]
def u0 (o:OM) (L:Loc):HP:=aE 139 2 jO L.pl o.ln.length L.cl o.ln*aE 26 1 bS L.pi o.cj.length L.ci o.cj
def iq (k:Nat) (o:OM) (L:Loc):HP:=ab k (oA o L) 350*u0 o L
def qH (x:PO):HP:=match x with|some q=>iq q.1 q.2.1 q.2.2|none=>cW
def ky:List (bK PO)->HP
 |[]=>cW
 |y::ys=>qH y.x*ky ys
theorem He {ys:List (bK PO)} {i:Nat} {y:bK PO} (h:ys[i]?=some y):ky ys=qH y.x*ky (ys.eraseIdx i):=by
 induction ys generalizing i with
 |nil=>simp at h
 |cons z ys ih=>
  cases i with
  |zero=>simp at h;subst h;rfl
  |succ i=>rw[B4,ky,ky,ih (by simpa using h)];ac_rfl
theorem LL {ys:List (bK PO)} {i:Nat} {z:bK PO} (h:i<ys.length):ky (ys.set i z)=qH z.x*ky (ys.eraseIdx i):=by
 have e:=He (ys:=ys.set i z) (i:=i) (y:=z) (by simp[h]);rw[e];congr 2;apply qQ;intro j;rw[B6,B6];split
 .rw[jR,if_neg (by omega)]
 .rw[jR,if_neg (by omega)]
theorem ahJ {ys:List (bK PO)} {z:bK PO}:ky (ys++[z])=qH z.x*ky ys:=by
 induction ys with
 |nil=>rfl
 |cons y ys ih=>rw[pX,ky,ky,ih];ac_rfl
abbrev PM:=Int->Option Nat
def sN (P:PM) (h:Int) (k:Option Nat):PM:=λx=>if x=h then k else P x
structure mF (P:PM) (S:HS) (s:AS PO):Prop where
 om:cN zu s=S
 sm:∀y∈s.sp,y.st=1->∃q,y.x=some q
 ptr:∀h,P h=(bg s h).bind lN
def wo (a:Nat) (top:Int):aM:=#[aH top,al a]
def HH (b a:Nat) (top:Int) (P:PM) (S:HS):HP:=ex λs:AS PO=>bM (mF P S s)*(ab b (wo a top) 111*(Ar a (cN lN s)*ky s.sp))
section
variable {O w:ao} {F:HP} {b a:Nat} {top:Int} {P:PM} {S:HS}
theorem HH.aK (h:V O (HH b a top P S*F) w):∃s,mF P S s/\V O (ab b (wo a top) 111*(Ar a (cN lN s)*(ky s.sp*F))) w:=by obtain⟨s,h⟩:=V.ex h;have h:=h.a.p1.a.p1.a.p2.p3;exact⟨s,h.bM,h.right⟩
theorem HH.aI {s:AS PO} (hs:mF P S s) (h:V O (ab b (wo a top) 111*(Ar a (cN lN s)*(ky s.sp*F))) w):V O (HH b a top P S*F) w:=V.bO s ((h.eL hs).g3)
theorem mF.ok {s:AS PO} (h:mF P S s) (hs:bx S):bx s:=P6 (h.om▸hs)
theorem mF.get {s:AS PO} (hs:mF P S s) (ho:bx S) {h:Int} {o:OM} (hp:bg S h=some o):∃i y k L,find s h=some i/\s.sp[i]?=some y/\y.st=1/\h=hd i y.g/\y.x=some (k,o,L)/\P h=some k/\bg s h=some (some (k,o,L)):=by have cA:=hs.ok ho;rw[<-hs.om,CY cA] at hp;obtain⟨x,hx,e⟩:=dd.1 hp;obtain⟨i,y,h1,h2,h3,h4,h5⟩:=tz cA hx;obtain⟨⟨k,o',L⟩,hq⟩:=hs.sm y (dF h2) h3;rw[<-h5,hq] at e;have e:o'=o:=e;subst e;refine⟨i,y,k,L,h1,h2,h3,h4,hq,?_,by rw[hx,<-h5,hq]⟩;rw[hs.ptr,hx,<-h5,hq];rfl
theorem mF.AN {s:AS PO} (hs:mF P S s) (ho:bx S) {h:Int} (hp:bg S h=none):bg s h=none/\P h=none/\find s h=none:=by
 have cA:=hs.ok ho;rw[<-hs.om,CY cA] at hp;have hx:bg s h=none:=by simpa using hp
 refine⟨hx,by rw[hs.ptr,hx];rfl,?_⟩;cases hf:find s h with
 |none=>rfl
 |some i=>obtain⟨y,hy,_⟩:=(l6 cA).1 hf;rw[bg,hf,gg,hy] at hx;cases hx
theorem mF.up {s:AS PO} (hs:mF P S s) (ho:bx S) {h:Int} {o o':OM} {k:Nat} {L L':Loc} (hp:bg s h=some (some (k,o,L))):mF P (cF S h o') (cF s h (some (k,o',L'))):=by
 have cA:=hs.ok ho;refine⟨?_,?_,λx=> ?_⟩
 .rw[P4 cA,hs.om];rfl
 .intro y hy h1;unfold cF at hy;split at hy
  .rename_i i hi;obtain⟨z,hz,_⟩:=(l6 cA).1 hi;rw[uM hz] at hy;rcases pS hy with hy|rfl
   .exact hs.sm y hy h1
   .exact⟨_,rfl⟩
  .exact hs.sm y hy h1
 .rw[nS cA hp];split
  .rename_i e;rw[e,hs.ptr,hp];rfl
  .exact hs.ptr x
theorem u6 {k:Nat} {o:OM} {L:Loc} (h:V O (iq k o L*F) w) {i:Nat} {v:Value} (hv:(oA o L)[i]?=some v):w.cell? ((aD k).add i)=some v:=aB (show V O (ab k (oA o L) 350*u0 o L) w from h.left) hv
theorem HH.at (h:V O (HH b a top P S*F) w) (ho:bx S) {x:Int} {o:OM} (hp:bg S x=some o): ∃k L R,P x=some k/\V O (iq k o L*(R*F)) w/\∀(o':OM) (L':Loc) (F':HP) (w':ao),V O (iq k o' L'*(R*F')) w'->V O (HH b a top P (cF S x o')*F') w':=by
 obtain⟨s,hs,h⟩:=HH.aK h;obtain⟨i,y,k,L,h1,h2,h3,h4,h5,h6,h7⟩:=hs.get ho hp;refine⟨k,L,ab b (wo a top) 111*(Ar a (cN lN s)*ky (s.sp.eraseIdx i)),h6,h.aF ?_,λo' L' F' w' h'=> ?_⟩
 .rw[He h2,h5,qH];ac_rfl
 .refine HH.aI (hs.up ho (o':=o') (L':=L') h7) (h'.aF ?_);have e1:cN lN (cF s x (some (k,o',L')))=cN lN s:=by unfold cF;rw[h1];exact PZ λz hz=>by rw[h2] at hz;cases hz;rw[h5];rfl
  have e2:ky (cF s x (some (k,o',L'))).sp=iq k o' L'*ky (s.sp.eraseIdx i):=by unfold cF;rw[h1];dsimp only;rw[uM h2];exact LL (ct.1 h2).1
  rw[e1,e2];ac_rfl
theorem HH.c0 (h:V O (HH b a top P S*F) w):w.cell? ((aD b).add 0)=some (aH top):=by obtain⟨s,_,h⟩:=HH.aK h;exact aB h (i:=0) rfl
theorem HH.c1 (h:V O (HH b a top P S*F) w):w.cell? ((aD b).add 1)=some (al a):=by obtain⟨s,_,h⟩:=HH.aK h;exact aB h (i:=1) rfl
theorem HH.ptr (h:V O (HH b a top P S*F) w) (ho:bx S) {x:Int} {o:OM} (hp:bg S x=some o):∃k,P x=some k:=by obtain⟨k,_,_,hk,_⟩:=HH.at h ho hp;exact⟨k,hk⟩
theorem ahK {aR:Int} (h:V O F w) (h0:1<=aR) (h1:aR<=256) (ht:top≠0): ae 44 #[aa aR,aH top] w λv w'=>∃b a,v=ak #[al b,aa 0]/\V O (HH b a top (λ_=>none) ⟨aR,1,[],[],0⟩*F) w':=by
 apply X4;refine aw (by simp;omega)<|aw (by simp;omega)<|aw (by simpa using ht)<|ay (tA h h0 (by omega) (by decide)) ?_;rintro _ w1 ⟨a,rfl,h2⟩;refine⟨_,_,rfl,aG h2 λb w2 h3=>⟨b,a,rfl,?_⟩⟩;refine HH.aI (s:=⟨aR,1,[],[],0⟩) ⟨rfl,λy hy=>(by cases hy),λh=> ?_⟩ ((h3.cQ).aF (by show cW*(ab b (wo a top) 111*(Ar a ⟨aR,1,[],[],0⟩*F))=ab b (wo a top) 111*(Ar a ⟨aR,1,[],[],0⟩*(cW*F));ac_rfl));have:bg (⟨aR,1,[],[],0⟩:AS PO) h=none:=by
  unfold bg find;split
  .rfl
  .simp
 rw[this];rfl
theorem rR {h:Int} (hh:V O (HH b a top P S*F) w) (ho:bx S) (h0:0<=h) (h1:h<=18446744073709551615): ae 141 #[al b,ah h] w λv w'=>w'=w/\ ((bg S h=none/\v=ak #[ag none,aa 2])\/∃k o,bg S h=some o/\P h=some k/\v=ak #[al k,aa 0]):=by
 apply Ye;refine aw rfl<|aq<|bh (HH.c1 hh) ?_;obtain⟨s,hs,h2⟩:=HH.aK hh;refine ay (tC (h2.p1) h0 h1) ?_;rintro v w1 ⟨rfl,hv⟩;rw[FZ (hs.ok ho)] at hv;cases hp:bg S h with
 |none=>obtain⟨_,_,hf⟩:=hs.AN ho hp;rw[hf] at hv;cases hv;exact⟨_,_,rfl,rfl,.inl ⟨rfl,rfl⟩⟩
 |some o=>obtain⟨i,y,k,L,q1,q2,q3,q4,q5,q6,q7⟩:=hs.get ho hp;rw[q1,gg,uK,q2] at hv;have hv:v=ak #[PV (lN y.x),aa 0]:=hv;rw[q5] at hv;subst hv;exact⟨_,_,rfl,rfl,.inr ⟨k,o,rfl,q6,rfl⟩⟩
def ahL (r:Option Int):Value:=match r with|some n=>ak #[ah n,aa 0]|none=>ak #[ah 0,aa 2]
theorem Hf {h:Int} (hh:V O (HH b a top P S*F) w) (ho:bx S) (h0:0<=h) (h1:h<=18446744073709551615): ae 140 #[al b,ah h] w λv w'=>w'=w/\v=ahL (whole S h):=by
 apply Yd;refine ay (rR hh ho h0 h1) ?_;rintro _ w1 ⟨rfl,⟨hp,rfl⟩|⟨k,o,hp,hk,rfl⟩⟩
 .exact⟨_,_,rfl,aW rfl ⟨rfl,by rw[JV hp];rfl⟩⟩
 .obtain⟨k',L,R,cV,h2,_⟩:=HH.at hh ho hp;rw[hk] at cV;cases cV;have c1:w1.cell? ((aD k).add 1)=some (ah o.ou):=u6 h2 (i:=1) rfl;rw[Ga hp];refine⟨_,_,rfl,aw rfl<|aq<|az c1<|cy (λcp=>aq<|az c1 ⟨rfl,?_⟩) (λhe=>⟨rfl,?_⟩)⟩
  .have cp:o.ou≠0:=by simpa using cp
   rw[if_pos cp];rfl
  .have he:o.ou=0:=by simpa using he
   rw[if_neg (by simp[he])];rfl
theorem ahM {h:Int} (hh:V O (HH b a top P S*F) w) (hs:dv top S) (h0:0<=h) (h1:h<=18446744073709551615): ae 340 #[al b,ah h] w λv w'=>w'=w/\ ((whole S h=none/\v=ak #[ag none,aa 2])\/∃x k o,whole S h=some x/\bg S x=some o/\P x=some k/\v=ak #[al k,aa 0]):=by
 apply Yv;refine ay (Hf hh hs.ok h0 h1) ?_;rintro _ w1 ⟨rfl,rfl⟩;cases hw:whole S h with
 |none=>exact⟨_,_,rfl,aW rfl ⟨rfl,.inl ⟨rfl,rfl⟩⟩⟩
 |some x=>
  obtain⟨o,hp,_⟩:=hs.whole hw;have hr:=ni hs.ok hp;refine⟨_,_,rfl,aw rfl<|ay (rR hh hs.ok (by omega) (by omega)) ?_⟩;rintro _ w2 ⟨rfl,⟨cG,rfl⟩|⟨k,o',cG,hk,rfl⟩⟩
  .rw[hp] at cG;cases cG
  .exact⟨_,_,rfl,rfl,.inr ⟨x,k,o',rfl,cG,hk,rfl⟩⟩
def xQ (S:HS) (h:Int):Int:=match(whole S h).bind (bg S) with|some o=>o.cn|none=>0
theorem Se {h:Int} (hh:V O (HH b a top P S*F) w) (hs:dv top S) (h0:0<=h) (h1:h<=18446744073709551615): ae 280 #[al b,ah h] w λv w'=>v=ak #[aH (ke top S h).2.1,aa (ke top S h).2.2]/\V O (HH b a top P (ke top S h).1*F) w':=by
 apply Yt;refine ay (ahM hh hs h0 h1) ?_;rintro _ w1 ⟨rfl,⟨hw,rfl⟩|⟨x,k,o,hw,hp,hk,rfl⟩⟩
 .refine⟨_,_,rfl,aW rfl ?_⟩;rw[ke,hw];exact⟨rfl,hh⟩
 .have hh:=hh.drew;obtain⟨k',L,R,cV,h2,cl⟩:=HH.at hh hs.ok hp;rw[hk] at cV;cases cV;have hr:=hs.fN x o hp;have ht:=hs.tp;have hcn:=hr.cn;have h3:V O (ab k (oA o L) 350*(u0 o L*(R*F))) w1.drew:=h2.aF (by rw[iq];ac_rfl);have c0:=aB h3 (i:=0) (v:=aH o.cn) rfl;rw[ke,hw];simp only[hp];refine⟨_,_,rfl,aw rfl<|aq<|az c0<|aq<|az (HH.c0 hh)<|cy (λhe=> ?_) (λcp=> ?_)⟩
  .have he:o.cn=top:=by simpa using he
   rw[if_pos he];exact⟨rfl,hh⟩
  .have cp:o.cn≠top:=by simpa using cp
   rw[if_neg cp];refine aq<|az c0<|gX (by omega) (by omega)<|aq<|bD (i:=0) h3 (by simp[oA]) λw2 h4=> ?_;have h4:V O (ab k (oA {o with cn:=o.cn+1} L) 350*(u0 o L*(R*F))) w2:=h4;exact aq<|az (aB h4 (i:=0) rfl) ⟨rfl,cl {o with cn:=o.cn+1} L F w2 (h4.aF (by rw[iq];show _=ab k _ _*u0 o L*_;ac_rfl))⟩
end
section
variable {O w:ao} {F:HP} {b a:Nat} {top:Int} {P:PM} {S:HS}
theorem ahO {s:AS PO} (hs:bx s) {q:Nat×OM×Loc} (h:V O (iq q.1 q.2.1 q.2.2*(ky s.sp*F)) w):V O (ky (put s (some q)).1.sp*F) w:=by
 rcases nQ hs (some q) with⟨fr,i,y,cv,hy,dk,bt⟩|⟨cv,fy,bt⟩|⟨cv,fy,bt⟩<;>rw[bt]<;>dsimp only
 .rw[LL (ct.1 hy).1];rw[He hy] at h;exact(h.p1.a.p2.p1).right.aF (by show _=qH (some q)*_*_;rw[qH];ac_rfl)
 .exact h.right
 .rw[ahJ];exact h.aF (by show _=qH (some q)*_*_;rw[qH];ac_rfl)
theorem ahP {s:AS PO} {i:Nat} {y:bK PO} (hy:s.sp[i]?=some y) (h:V O (ky (s.sp.eraseIdx i)*F) w):V O (ky (jX none s i).sp*F) w:=by
 have aQ:=(ct.1 hy).1;rcases l8 (z:=(none:PO)) hy with⟨_,hd⟩|⟨_,hd⟩<;>rw[hd]<;>dsimp only<;>rw[LL aQ]
 .exact(h.cQ).aF (by show cW*_=qH none*_*_;rw[qH];ac_rfl)
 .exact(h.cQ).aF (by show cW*_=qH none*_*_;rw[qH];ac_rfl)
theorem mF.JT {s:AS PO} (hs:mF P S s) (ho:bx S) {q:Nat×OM×Loc} (he:(put S q.2.1).2.2=0):mF (sN P (put S q.2.1).2.1 (some q.1)) (put S q.2.1).1 (put s (some q)).1:=by
 have cA:=hs.ok ho;have hm:=AT (f:=zu) cA (some q);rw[hs.om] at hm;have hm:put S q.2.1=(cN zu (put s (some q)).1,(put s (some q)).2):=hm;have xx:(put s (some q)).2.2=0:=by rw[hm] at he;exact he
 refine⟨by rw[hm],λy hy h1=> ?_,λx=> ?_⟩
 .rcases nQ cA (some q) with⟨fr,i,z,cv,hz,dk,bt⟩|⟨cv,fy,bt⟩|⟨cv,fy,bt⟩<;>rw[bt] at hy
  .rcases pS hy with hy|rfl
   .exact hs.sm y hy h1
   .exact⟨q,rfl⟩
  .exact hs.sm y hy h1
  .rcases fj.1 hy with hy|hy
   .exact hs.sm y hy h1
   .rw[mL] at hy;subst hy;exact⟨q,rfl⟩
 .rw[qx cA xx,hm];unfold sN;dsimp only;split
  .rfl
  .exact hs.ptr x
theorem mF.rm {s:AS PO} (hs:mF P S s) (ho:bx S) {h:Int} {x:PO} (hp:bg s h=some x):mF (sN P h none) (gz z0 S h) (gz none s h):=by
 have cA:=hs.ok ho;obtain⟨i,y,h1,h2,h3,h4,h5⟩:=tz cA hp;refine⟨?_,λz hz rb=> ?_,λh'=> ?_⟩
 .have:=P5 (f:=zu) cA none h;rw[hs.om] at this;exact this.symm
 .rw[vS cA (e:=x) h1 h2] at hz;rcases l8 (z:=(none:PO)) h2 with⟨_,hd⟩|⟨_,hd⟩<;>rw[hd] at hz<;>(rcases pS hz with hz|rfl)
  .exact hs.sm z hz rb
  .cases rb
  .exact hs.sm z hz rb
  .cases rb
 .rw[yU cA hp];unfold sN;split
  .rfl
  .exact hs.ptr h'
theorem Sf {k:Nat} {o:OM} {L:Loc} (hh:V O (iq k o L*(HH b a top P S*F)) w) (ho:bx S): ae 279 #[al a,al k] w λv w'=>v=ak #[ah (put S o).2.1,aa (put S o).2.2]/\ (((put S o).2.2=0/\V O (HH b a top (sN P (put S o).2.1 (some k)) (put S o).1*F) w')\/((put S o).2.2≠0/\V O (HH b a top P S*F) w')):=by
 obtain⟨s,hs,h2⟩:=HH.aK (hh.p1);have cA:=hs.ok ho;refine ay (tD (x:=lN (some (k,o,L))) (h2.p1) cA.cN) ?_;rw[AT cA];rintro _ w1 ⟨rfl,h3⟩;have hm:=AT (f:=zu) cA (some (k,o,L));rw[hs.om] at hm;have hm:put S o=(cN zu (put s (some (k,o,L))).1,(put s (some (k,o,L))).2):=hm;have qc:(put S o).2=(put s (some (k,o,L))).2:=by rw[hm]
 refine⟨by rw[qc],?_⟩;by_cases he:(put S o).2.2=0
 .refine .inl ⟨he,HH.aI (hs.JT ho (q:=(k,o,L)) he) ?_⟩;have h4:=ahO cA (q:=(k,o,L)) (h3.aF (B:=iq k o L*(ky s.sp*(ab b (wo a top) 111*(Ar a (cN lN (put s (some (k,o,L))).1)*F)))) (by ac_rfl));exact h4.p2.p2
 .refine .inr ⟨he,HH.aI hs ?_⟩;have xx:(put s (some (k,o,L))).2.2≠0:=by rw[<-qc];exact he
  rw[ue cA xx] at h3;exact(h3.aF (B:=iq k o L*(ab b (wo a top) 111*(Ar a (cN lN s)*(ky s.sp*F)))) (by ac_rfl)).right
theorem Sg {h:Int} {o:OM} (hh:V O (HH b a top P S*F) w) (ho:bx S) (hp:bg S h=some o): ae 235 #[al a,ah h] w λv w'=>∃k L,v=ak #[al k,aa 0]/\P h=some k/\V O (iq k o L*(HH b a top (sN P h none) (gz z0 S h)*F)) w':=by
 obtain⟨s,hs,h2⟩:=HH.aK hh;have cA:=hs.ok ho;obtain⟨i,y,k,L,q1,q2,q3,q4,q5,q6,q7⟩:=hs.get ho hp;have hr:=ni ho hp;refine ay (tE (h2.p1) cA.cN (by omega) hr.2) ?_;have e:cI (none:cJ) (cN lN s) h=(cN lN (cI none s h).1,lN (cI none s h).2.1,(cI none s h).2.2):=JP (f:=lN) cA none h;have e2:cI none s h=(jX none s i,some (k,o,L),0):=by rw[uH q1 q2,q5]
 rw[e];rintro _ w1 ⟨rfl,h3⟩;rw[e2] at h3 ⊢;refine⟨k,L,rfl,q6,?_⟩;have h3:V O (Ar a (cN lN (jX none s i))*(ab b (wo a top) 111*(ky s.sp*F))) w1:=h3;rw[He q2,q5,qH] at h3;have h4:=ahP q2 (h3.p2.a.p1);have yW:gz none s h=jX none s i:=vS cA (e:=(none:PO)) q1 q2;refine(HH.aI (F:=iq k o L*F) (s:=gz none s h) (hs.rm ho q7) ?_).p1;rw[yW];exact h4.p2.p3
def oo (l:aJ):dB:=l.map λx=>ah x
def FL (f b:Nat) (wt gn fo:aJ):HP:=ex λpw=>ex λcw=>ex λpg=>ex λcg=>ex λpf=>ex λcf=>
 ab f #[al b,af pw wt.length cw,af pg gn.length cg,af pf fo.length cf] 363*(jx 26 pw wt.length cw (oo wt)*(aE 26 1 bS pg gn.length cg gn*aE 26 1 bS pf fo.length cf fo))
section
variable {f:Nat} {wt gn fo:aJ}
theorem FL.aK (h:V O (FL f b wt gn fo*F) w):∃pw cw pg cg pf cf,V O (ab f #[al b,af pw wt.length cw,af pg gn.length cg,af pf fo.length cf] 363*(jx 26 pw wt.length cw (oo wt)*(aE 26 1 bS pg gn.length cg gn*(aE 26 1 bS pf fo.length cf fo*F)))) w:=by obtain⟨pw,h⟩:=V.ex h;obtain⟨cw,h⟩:=V.ex h;obtain⟨pg,h⟩:=V.ex h;obtain⟨cg,h⟩:=V.ex h;obtain⟨pf,h⟩:=V.ex h;obtain⟨cf,h⟩:=V.ex h;exact⟨pw,cw,pg,cg,pf,cf,h.aF (by ac_rfl)⟩
theorem FL.aI {lw lg lf cw cg cf:Nat} {pw pg pf:av} (h:V O (ab f #[al b,af pw lw cw,af pg lg cg,af pf lf cf] 363*(jx 26 pw lw cw (oo wt)*(aE 26 1 bS pg lg cg gn*(aE 26 1 bS pf lf cf fo*F)))) w) (h1:lw=wt.length) (h2:lg=gn.length) (h3:lf=fo.length):V O (FL f b wt gn fo*F) w:=by subst h1 h2 h3;exact V.bO pw (V.bO cw (V.bO pg (V.bO cg (V.bO pf (V.bO cf (h.g3))))))
theorem FL.start (h:V O (ab f #[al b,aP,aP,aP] 363*F) w):V O (FL f b [] [] []*F) w:=FL.aI (P9 26 (fE 26 1 bS (fE 26 1 bS h))|>.aF (by ac_rfl)) rfl rfl rfl
theorem FL.c0 (h:V O (FL f b wt gn fo*F) w):w.cell? ((aD f).add 0)=some (al b):=by obtain⟨pw,cw,pg,cg,pf,cf,h⟩:=FL.aK h;exact aB h (i:=0) rfl
theorem LM {x:Int×Int} (hh:V O (FL f b wt gn fo*(HH b a top P S*F)) w) (hs:dv top S) (hx:AX x) (hl:wt.length<=100000) (hf:fo.length<=100000): ae 236 #[al f,an (iI x)] w λv w'=>v=aT/\V O (FL f b (fR S wt fo x).2.1 gn (fR S wt fo x).2.2*(HH b a top P (fR S wt fo x).1*F)) w':=by
 apply Yr;have re:=hx.2;refine aG hh λk1 w1 h1=> ?_;have h1:V O (ab k1 (iI x) 139*(FL f b wt gn fo*(HH b a top P S*F))) w1:=h1;refine az (n:=x.1) (aB h1 (i:=0) rfl)<|cy (λe1=> ?_) (λe1=> ?_)
 .have e1:x.1=1:=by simpa using e1
  have h1:=h1.drew;have xU:=h1.p1.p2;refine aq<|bh (FL.c0 h1.right)<|az (n:=x.2) (aB h1 (i:=1) rfl)<|ay (Hf xU hs.ok re.1 re.2) ?_;rintro _ w2 ⟨rfl,rfl⟩;cases hw:whole S x.2 with
  |none=>
   refine⟨_,_,rfl,aW rfl ⟨rfl,?_⟩⟩;have e:fR S wt fo x=(S,wt,fo):=by simp[fR,e1,hw]
   rw[e];exact h1.right
  |some y=>
   obtain⟨o,hp,h0⟩:=hs.whole hw;have hr:=ni hs.ok hp;refine⟨_,_,rfl,aw rfl<|aq<|bh (FL.c0 h1.right)<|ay (rR xU hs.ok (by omega) hr.2) ?_⟩;rintro _ w3 ⟨rfl,⟨cG,rfl⟩|⟨k,o',cG,hk,rfl⟩⟩
   .rw[hp] at cG;cases cG
   rw[hp] at cG;cases cG;obtain⟨k',L,R,cV,h3,cl⟩:=HH.at xU hs.ok hp;rw[hk] at cV;cases cV;have tG:=hs.fN y o hp;have htp:=hs.tp;have hcn:=tG.cn;have h4:V O (ab k (oA o L) 350*(u0 o L*(R*(FL f b wt gn fo*(ab k1 (iI x) 139*F))))) w1.drew:=h3.aF (by rw[iq];ac_rfl);refine⟨_,_,rfl,aq<|az (n:=o.cn) (aB h4 (i:=0) rfl)<|bU (λss=> ?_) (λhz=> ?_)⟩
   .refine aq<|az (n:=o.cn) (aB h4 (i:=0) rfl)<|gX (by omega) (by omega)<|aq<|bD (i:=0) h4 (by simp[oA]) λw4 h5=> ?_;have h5:V O (ab k (oA {o with cn:=o.cn- 1} L) 350*(u0 o L*(R*(FL f b wt gn fo*(ab k1 (iI x) 139*F))))) w4:=h5;have h6:=cl {o with cn:=o.cn- 1} L (FL f b wt gn fo*(ab k1 (iI x) 139*F)) w4 (h5.aF (by rw[iq];show _=ab k _ _*u0 o L*_;ac_rfl));refine aq<|az (n:=o.cn- 1) (aB h5 (i:=0) rfl)<|cy (λhz=> ?_) (λLN=> ?_)
    .have hz:o.cn=1:=by
      have:o.cn- 1=0:=by simpa using hz
      omega
     have e:fR S wt fo x=(cF S y {o with cn:=o.cn- 1},wt++[y],fo):=by simp[fR,e1,hw,hp,ss,hz]
     rw[e];obtain⟨pw,cw,pg,cg,pf,cf,h7⟩:=FL.aK (h6.p1);refine aq<|aN (aB h7 (i:=1) rfl)<|aG h7 λlL w5 h8=> ?_;refine Qc uI (h8.p2.p1) rfl (by simp only[maxLen];omega) (by omega) λp' c' w6 h9=> ?_;refine aq<|bD (i:=1) (h9.p1) (by simp) λw7 aV=>⟨rfl,?_⟩;have e2:oo wt++[ah y]=oo (wt++[y]):=by simp[oo]
     rw[e2] at aV;exact((FL.aI (wt:=wt++[y]) (aV:V O (ab f #[al b,af p' (wt.length+1) c',af pg gn.length cg,af pf fo.length cf] 363*_) w7) (by simp) rfl rfl).p2).right
    .have LN:¬o.cn=1:=by
      have:¬o.cn- 1=0:=by simpa using LN
      omega
     have e:fR S wt fo x=(cF S y {o with cn:=o.cn- 1},wt,fo):=by simp[fR,e1,hw,hp,ss,LN]
     rw[e];exact⟨rfl,(h6.p1.p2).right⟩
   .have e:fR S wt fo x=(S,wt,fo):=by simp[fR,e1,hw,hp,hz]
    rw[e];exact⟨rfl,h1.right⟩
 have e1:x.1≠1:=by simpa using e1
 refine cy (λe2=> ?_) (λe2=> ?_)
 .have e2:x.1=2:=by simpa using e2
  have e:fR S wt fo x=(S,wt,fo++[x.2]):=by simp[fR,e2]
  rw[e];have h1:=h1.drew;obtain⟨pw,cw,pg,cg,pf,cf,h7⟩:=FL.aK (h1.p2.p2);refine aq<|aN (aB h7 (i:=3) rfl)<|az (n:=x.2) (aB h1 (i:=1) rfl)<|aG h7 λk30 w5 h8=> ?_;refine ju uI gL (by decide) uu (x:=x.2) (h8.p4.p1) rfl (by simp only[maxLen];omega) (by omega) λp' c' w6 h9=> ?_;refine aq<|bD (i:=3) (h9.p3.p3.p3) (by simp) λw7 aV=>⟨rfl,?_⟩;exact((FL.aI (fo:=fo++[x.2]) (aV:V O (ab f #[al b,af pw wt.length cw,af pg gn.length cg,af p' (fo.length+1) c'] 363*_) w7) rfl rfl (by simp)).p2).right
 .have e2:x.1≠2:=by simpa using e2
  have e:fR S wt fo x=(S,wt,fo):=by simp[fR,e1,e2]
  rw[e];exact⟨rfl,h1.right⟩
end
end
end Go.Proofs.YtjhnnnfnkjighaaGreatDoor.Hp
