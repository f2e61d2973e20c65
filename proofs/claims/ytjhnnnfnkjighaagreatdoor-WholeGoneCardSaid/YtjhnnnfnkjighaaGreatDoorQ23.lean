/- Whole: a part of the proof. No conditions. -/
import Derived.Test.YtjhnnnfnkjighaaGreatDoorQ22
set_option linter.unusedVariables false
set_option linter.unusedSimpArgs false
set_option maxRecDepth 100000
namespace Go.Proofs.YtjhnnnfnkjighaaGreatDoor
open Go.Sp Go.RowKit
theorem TH (f:eX) (kg:Option Nat) (e:QE) (x:Int):(cP f kg e).setIfInBounds 7 (ah x)=cP {f with wt:=x} kg e:=by apply cT;simp[cP]
theorem MD (f:eX) (kg:Option Nat) (e:QE) (x:Bool):(cP f kg e).setIfInBounds 8 (aC x)=cP {f with rd:=x} kg e:=by apply cT;simp[cP]
theorem TI (f:eX) (kg:Option Nat) (e:QE) (x:Int):(cP f kg e).setIfInBounds 9 (aa x)=cP {f with rs:=x} kg e:=by apply cT;simp[cP]
theorem TJ (f:eX) (kg:Option Nat) (e:QE) (x:Int):(cP f kg e).setIfInBounds 10 (aa x)=cP {f with cd:=x} kg e:=by apply cT;simp[cP]
theorem ajL (f:eX) (kg:Option Nat) (e:QE) (x:Int):(cP f kg e).setIfInBounds 36 (ah x)=cP {f with cl:=x} kg e:=by have hl:=qF e;apply cT;simp only[cP,rZ];rw[lp _ _ (by simp),lp _ _ (by simp[hl])];simp[hl]
section
variable {O w:ao} {F:HP} {k:Nat} {S:WS} {P:WP} {I:WI} {aj:Int} {H:dr} {κ:eA}
theorem vj {f f':eX} {kf i:Nat} {kg:Option Nat} {e:QE} {t:TypeId} {v:Value} {K:ao->Prop} (hi:i<37) (he:(cP f kg e).setIfInBounds i v=cP f' kg e) (h:V O (ab kf (cP f kg e) t*F) w) (hk:∀w',V O (ab kf (cP f' kg e) t*F) w'->K w'):st ((aD kf).add i) v w K:=by rw[du,dc];refine bD h (by rw[Ee];exact hi) λw' h'=>hk w' ?_;rw[he] at h';exact h'
theorem F8 {f:eX} {kf:Nat} {slot:Int} {S':WS} (hm:Ba {bV S aj {H with th:=some f} with run:=none} (y4 1048576 S.heap f.ob slot f.arg)=some S') (cp:(y4 1048576 S.heap f.ob slot f.arg).1=0) (hk:f.arg.1=0\/f.arg.1=1) (hb:hB f.arg.2=true) (gZ:hB f.ob=true) (iv:f.md=0) (hH:ch S aj=some H) (h:V O (WH k I (bV S aj {H with th:=some (eQ kf)})*(gE kf f*F)) w): ae 181 #[al k,al kf,aa slot,an (fv f.arg)] w λv w'=>v=aT/\V O (WH k I S'*F) w':=by
 obtain⟨P,hI,h⟩:=WH.aK h;have tU:({P with run:=none}:WP).im=I:=hI;have hb:=tT hb;have gZ:=tT gZ;apply aau;refine aG h λk1 w1 h1=>aq<|WO.clear h1.p1 λw2 h2=>⟨λw'=>w'=w2,az (n:=f.arg.1) (aB h2.p1 (i:=0) rfl)<|aw (by rcases hk with e|e<;>simp[e]) rfl,?_⟩;rintro u w4 rfl;have h2:=h2.drew;obtain⟨kg,e,he,h3⟩:=gE.aK (h2.p2);refine aq<|bh (WO.cell (i:=1) h2 rfl)<|aq<|az (n:=f.ob) (aB h3 (i:=0) rfl)<|bz h2.p1 rfl ?_;have lR:ch {bV S aj {H with th:=some (eQ kf)} with run:=none} aj=some {H with th:=some (eQ kf)}:=(x8 (S:=bV S aj {H with th:=some (eQ kf)}) rfl).trans (sR hH);have h4:V O (WO {P with run:=none} k {bV S aj {H with th:=some (eQ kf)} with run:=none}*(gE kf f*(ab k1 (fv f.arg) 139*F))) w4.drew:=h2.aF (by ac_rfl);have h5:=WO.MA lR rfl iv h4;have e5:bV {bV S aj {H with th:=some (eQ kf)} with run:=none} aj {{H with th:=some (eQ kf)} with th:=some f}={bV S aj {H with th:=some f} with run:=none}:=by simp[bV]
 rw[e5] at h5;obtain⟨hi,a,PP,h6⟩:=gF.aK (WO.wC h5);refine ay (Hp.aia (slot:=slot) (x:=f.arg) h6 hi ⟨by rcases hk with e|e<;>rw[e]<;>decide,hb⟩ gZ.1 gZ.2) ?_;rintro v w5 ho;obtain⟨p,l,c,q,m,d,e',rfl,hz,Ec⟩:=Mn (P:={P with run:=none}) (S:={bV S aj {H with th:=some f} with run:=none}) (I:=I) (aj:=0) hm (λhn=>absurd cp hn) hi tU ho;refine⟨_,_,_,_,_,_,_,rfl,aw (by simp[hz.2 cp])<|ay Ec ?_⟩;rintro _ w6 ⟨rfl,h7⟩;exact⟨rfl,rfl,h7.p1.right⟩
theorem ajM {f:eX} {S':WS} (hm:Kf S aj f=some S') (hH:ch S aj=some H) (ht:H.th=some f) (iv:f.md=0) (h:V O (WH k I S*F) w): ae 102 #[al k,aa aj,aa 0] w λv w'=>v=aT/\V O (WH k I S'*F) w':=by
 obtain⟨P,hI,h⟩:=WH.aK h;obtain⟨kf,h⟩:=WO.Mz hH ht iv h;obtain⟨kg,e,he,h1⟩:=gE.aK (h.p1);have h1:V O (WO P k (bV S aj {H with th:=some (eQ kf)})*(ab kf (cP f kg e) 284*(rV kg f.fr*F))) w:=h1.p2;clear h;have kE:=sR (H':={H with th:=some (eQ kf)}) hH;obtain⟨κ,bB,h0⟩:=WO.pR kE h1;obtain⟨tp,tc,q,d,lh,tV,yd,_,_⟩:=WO.HA kE rfl bB h1;unfold Kf at hm;rw[hH,gg] at hm;apply aac;refine aq<|aN (WO.cell (i:=0) h1 rfl)<|WO.lj h1 bB h0<|aq<|aN lh<|fM tV (by decide) (by decide) λa ha=>aN (p:=q) (l:=1) (c:=d) (tV.get ha rfl)<|ay (MB yd) ?_;rintro _ w1 ⟨rfl,rfl⟩;refine gK<|aq<|az (n:=f.ob) (aB h1.p1 (i:=0) rfl) ?_;split at hm
 .rename_i e0;have h1:=h1.drew;refine aW (by simp[e0])<|aq<|az (n:=f.rs) (aB h1.p1 (i:=9) rfl)<|aq<|az (n:=f.cd) (aB h1.p1 (i:=10) rfl)<|ay (TF hm hH he (WH.aI hI h1)) ?_;rintro _ w2 ⟨rfl,h2⟩;exact⟨rfl,rfl,h2.p1.right⟩
 rename_i e0;obtain⟨o,ho,hm⟩:=bZ.1 hm;obtain⟨g,hg,hm⟩:=bZ.1 hm;split at hm
 .cases hm
 rename_i hc;have ajN:g.code.length<=32:=by
  rcases sY 32 g.code.length with q|q
  .exact absurd (.inr q) hc
  .exact q
 obtain⟨r,hr,hm⟩:=bZ.1 hm;split at hm
 .cases hm
 rename_i hv;have uO: -9223372036854775808<=r.2.2.2:=lT.1 λq=>hv (.inl q);have z8:r.2.2.2<=9223372036854775807:=lT.1 λq=>hv (.inr (.inl q));have ME:hB f.ob=true:=by
  cases q:hB f.ob with
  |true=>rfl
  |false=>exact absurd (.inr (.inr q)) hv
 have gZ:=tT ME;rw[hg] at h1;obtain⟨vk,TK,h1⟩:∃vk,kg=some vk/\V O (WO P k (bV S aj {H with th:=some (eQ kf)})*(ab kf (cP f kg e) 284*(mX vk g*F))) w1:=by
  cases kg with
  |some vk=>exact⟨vk,rfl,h1⟩
  |none=>exact(V.bM (h1.p2:V O (bM False*_) w1)).elim
 have h1:=h1.drew;obtain⟨hi,a1,PP,h2⟩:=gF.aK (WO.wC h1);refine aw (by simpa using e0)<|aq<|bh (WO.cell (i:=1) h1 rfl)<|aq<|az (n:=f.ob) (aB h1.p1 (i:=0) rfl)<|ay (Hp.aik (h:=f.ob) h2 hi.ok gZ.1 gZ.2) ?_;rintro _ w2 ⟨rfl,rfl⟩;have eva:Hp.zx (bV S aj {H with th:=some (eQ kf)}).heap f.ob=(o.va,0):=by show Hp.zx S.heap f.ob=_;unfold Hp.zx;rw[ho]
 rw[eva];have gO:V O (ab kf (cP f kg e) 284*(WO P k (bV S aj {H with th:=some (eQ kf)})*(mX vk g*F))) w1.drew:=h1.p1;refine⟨_,_,rfl,aq<|az (n:=f.rs) (aB gO (i:=9) rfl)<|aq<|vj (by decide) (TH f kg e 0) gO λw3 h3=>aq<|vj (by decide) (MD _ kg e false) h3 λw4 h4=>aq<|vj (by decide) (TI _ kg e 0) h4 λw5 h5=>aq<|vj (by decide) (TJ _ kg e 0) h5 λw6 h6=> ?_⟩;obtain⟨f1,oQ⟩:∃f1:eX,f1={f with wt:=0,rd:=false,rs:=0,cd:=0}:=⟨_,rfl⟩;have h6:V O (ab kf (cP f1 kg e) 284*(WO P k (bV S aj {H with th:=some (eQ kf)})*(mX vk g*F))) w6:=by rw[oQ];exact h6
 have f1b:f1.bk=f.bk:=by rw[oQ]
 have MF:f1.ob=f.ob:=by rw[oQ]
 have f1m:f1.mt=f.mt:=by rw[oQ]
 have f1n:f1.n=f.n:=by rw[oQ]
 have f1a:f1.arg=f.arg:=by rw[oQ]
 have hp4:(cP f1 kg e)[4]?=some (al vk):=by rw[TK];rfl
 refine aq<|bh (aB h6 (i:=4) hp4)<|ay (afs ajN hr (h6.p2)) ?_;rintro _ w7 ⟨rfl,hN⟩;have store:∀{G:HP} {w8:ao},V O (WO P k (bV S aj {H with th:=some (eQ kf)})*G) w8->ae 180 #[al P.heap,ah f.ob,aa r.2.2.2] w8 λv w'=>(∃n,v=aa n)/\V O (WO P k (bV {S with heap:=cF S.heap f.ob {o with va:=r.2.2.2}} aj {H with th:=some (eQ kf)})*G) w':=by
  intro G w8 hs;obtain⟨hi,a1,PP,h9⟩:=gF.aK (WO.wC hs);have hinv:=(aed hi (h:=f.ob) (n:=r.2.2.2) ⟨uO,z8⟩).1;refine ay (Hp.ail (h:=f.ob) (n:=r.2.2.2) h9 hi.ok gZ.1 gZ.2) ?_;rintro _ w9 ⟨rfl,aV⟩;have est:rF (bV S aj {H with th:=some (eQ kf)}).heap f.ob r.2.2.2=(cF S.heap f.ob {o with va:=r.2.2.2},0):=by show rF S.heap f.ob _=_;unfold rF;rw[ho]
  rw[est] at aV hinv;exact⟨⟨_,rfl⟩,WO.zy (S:=bV S aj {H with th:=some (eQ kf)}) _ (gF.aI hinv aV)⟩
 have cv:=afr _ _ _ _ hr;have BT:ch {S with heap:=cF S.heap f.ob {o with va:=r.2.2.2}} aj=some H:=(x8 (S:=S) rfl).trans hH;rcases hN with⟨oV,hN⟩|⟨LY,hN⟩
 .have hN:V O (WO P k (bV S aj {H with th:=some (eQ kf)})*(ab kf (cP f1 kg e) 284*F)) w7:=hN.p1;rw[if_pos oV] at hm;obtain⟨S2,gu,hm⟩:=bZ.1 hm;have ev:DC r.2.1 r.2.2.1=#[aa 1,aa 0,aa 0,aa r.2.2.1,aa 0]:=by rw[DC,if_pos oV]
  rw[ev];refine⟨_,_,rfl,aG hN λxR w8 h8=>bL h8 rfl rfl (by simp[Value.oneCell']) λw9 h9=> ?_⟩;have h9:=h9.drew;refine aq<|bh (WO.cell (i:=1) h9.p1 rfl)<|aq<|az (n:=f.ob) (aB h9.p2 (i:=0) (by rw[<-MF];rfl))<|ay (store h9.p1) ?_;rintro _ dn ⟨⟨n,rfl⟩,aV⟩;have hd:=aV.drew;have MG:=hd.p1;refine bI<|az (n:=1) (aB aV.p1 (i:=0) rfl)<|aW rfl<|aq<|az (n:=f.ob) (aB hd.p2 (i:=0) (by rw[<-MF];rfl))<|aq<|az (n:=f.mt) (aB hd.p2 (i:=2) (by rw[<-f1m];rfl))<|az (n:=r.2.2.1) (aB MG (i:=3) rfl)<|aq<|az (n:=f.n) (aB hd.p2 (i:=3) (by rw[<-f1n];rfl)) ?_;have hT:=TD (a:=aj) (H:={H with th:=some (eQ kf)}) gu;rw[yc] at hT;refine ay (x6 (t:=⟨4,f.ob,f.mt,r.2.2.1,f.n,0⟩) hT (WH.aI hI hd)) ?_;rintro _ dP ⟨rfl,bu⟩;refine⟨rfl,az (n:=r.2.2.1) (aB bu.p1 (i:=3) rfl) ?_⟩;have lR:ch S2 aj=some {H with th:=some {f with fr:=if r.2.1=1 then none else some r.1,wt:=0,rd:=false,rs:=0,cd:=0}}:=(x8 (TC gu)).trans (sR BT);have he2:e.y=({f with fr:=if r.2.1=1 then none else some r.1,wt:=0,rd:=false,rs:=0,cd:=0}:eX).bk:=he;have MH:cP f1 kg e=cP {f with fr:=if r.2.1=1 then none else some r.1,wt:=0,rd:=false,rs:=0,cd:=0} kg e:=by rw[oQ];rfl
  rw[MH] at bu;refine ay (TF hm lR he2 (bu.aF (B:=WH k I (bV S2 aj {{H with th:=some {f with fr:=if r.2.1=1 then none else some r.1,wt:=0,rd:=false,rs:=0,cd:=0}} with th:=some (eQ kf)})*(ab kf (cP {f with fr:=if r.2.1=1 then none else some r.1,wt:=0,rd:=false,rs:=0,cd:=0} kg e) 284*(ab xR #[aa 1,aa 0,aa 0,aa r.2.2.1,aa 0] 405*F))) (by show WH k I (bV S2 aj {H with th:=some (eQ kf)})*_=WH k I (bV S2 aj {H with th:=some (eQ kf)})*_;ac_rfl))) ?_;rintro _ fF ⟨rfl,bA⟩;exact⟨rfl,rfl,bA.p1.right⟩
 .have oV:¬r.2.1=1:=by omega
  simp only[if_neg oV,if_pos LY] at hm;split at hm
  .cases hm
  rename_i DW;have ha:f.arg.1=0\/f.arg.1=1:=by
   rcases vt (f.arg.1=0) with q|q
   .exact .inl q
   .rcases vt (f.arg.1=1) with q2|q2
    .exact .inr q2
    .exact absurd (.inl ⟨q,q2⟩) DW
  have TL:hB f.arg.2=true:=by
   cases q:hB f.arg.2 with
   |true=>rfl
   |false=>exact absurd (.inr (.inl q)) DW
  have vb:=iA.1 λq=>DW (.inr (.inr q));have ev:DC r.2.1 r.2.2.1=#[aa 3,aa r.2.2.1,aa 0,aa 0,aa 0]:=by rw[DC,if_neg oV]
  rw[ev];have hN:V O (WO P k (bV S aj {H with th:=some (eQ kf)})*(ab kf (cP f1 kg e) 284*(mX vk r.1*F))) w7:=hN.p1.p2;refine⟨_,_,rfl,aG hN λxR w8 h8=>bL h8 rfl rfl (by simp[Value.oneCell']) λw9 h9=> ?_⟩;have h9:=h9.drew;refine aq<|bh (WO.cell (i:=1) h9.p1 rfl)<|aq<|az (n:=f.ob) (aB h9.p2 (i:=0) (by rw[<-MF];rfl))<|ay (store h9.p1) ?_;rintro _ dn ⟨⟨n,rfl⟩,aV⟩;have hd:=aV.drew;have MG:=hd.p1;refine bI<|az (n:=3) (aB aV.p1 (i:=0) rfl)<|aw rfl<|aW rfl<|az (n:=r.2.2.1) (aB MG (i:=1) rfl)<|aq<|ff hd.p2 (by rw[Ee];decide) ?_;rw[Tr,f1a];obtain⟨f2,mI⟩:∃f2:eX,f2={f with fr:=some r.1,wt:=0,rd:=false,rs:=0,cd:=0}:=⟨_,rfl⟩;have MH:cP f1 kg e=cP f2 kg e:=by rw[oQ,mI];rfl
  rw[MH] at hd;have bu:V O (gE kf f2*(WO P k (bV {S with heap:=cF S.heap f.ob {o with va:=r.2.2.2}} aj {H with th:=some (eQ kf)})*(ab xR #[aa 3,aa r.2.2.1,aa 0,aa 0,aa 0] 405*F))) dn.drew:=gE.aI (kg:=kg) (e:=e) (by rw[mI];exact he) (hd.aF (by rw[TK,mI];show _=_*(mX vk r.1*_);ac_rfl));rw[<-mI] at hm;have MI:f2.ob=f.ob:=by rw[mI]
  have f2a:f2.arg=f.arg:=by rw[mI]
  rw[<-f2a] at ha TL vb hm ⊢;rw[<-MI] at ME vb hm;refine ay (F8 (S':=S') (S:={S with heap:=cF S.heap f.ob {o with va:=r.2.2.2}}) (f:=f2) (kf:=kf) (slot:=r.2.2.1) (H:=H) ?_ ?_ ha TL ME (by rw[mI];exact iv) BT (WH.aI hI bu.p1)) ?_
  .rw[<-MI];exact hm
  .rw[<-MI];exact vb
  rintro _ fF ⟨rfl,bA⟩;exact⟨rfl,rfl,bA.p1.right⟩
end
theorem TN {S:WS} {h m n:Int} {arg:LK} {r:WS×Option eX×Int} (hm:Bf S h m n arg=some r):r.1.bQ=S.bQ/\∀f,r.2.1=some f->f.md=0/\f.bk=dX/\r.1.run=none:=by
 unfold Bf at hm;obtain⟨c,hc,hm⟩:=bZ.1 hm;obtain⟨r1,fA,hm⟩:=bZ.1 hm;split at hm
 .cases hm;exact⟨Mr fA,λf hf=>by cases hf⟩
 obtain⟨r2,fp,hm⟩:=bZ.1 hm;split at hm
 .cases hm
 obtain⟨S3,oX,rfl⟩:=dd.1 hm;refine⟨(S4 oX).trans ((Mr fp).trans (Mr fA)),λf hf=> ?_⟩;cases hf;refine⟨rfl,rfl,?_⟩;have e1:S3.run=r2.1.run:=by
  unfold vW at oX;split at oX
  .split at oX<;>split at oX<;>cases oX<;>rfl
  split at oX
  .split at oX<;>split at oX<;>cases oX<;>rfl
  .cases oX
 rw[e1];unfold xB at fp;split at fp
 .cases fp
 dsimp only at fp;split at fp
 .cases fp;rfl
 split at fp
 .cases fp
 .cases fp;rfl
theorem ajW {S:WS} {aj:Int} {lk:LK} {bm:aJ} {m n:Int} {r:WS×Int} (hm:Db S aj lk bm m n=some r):r.1.bQ=S.bQ:=by
 unfold Db at hm;obtain⟨H,_,hm⟩:=bZ.1 hm;obtain⟨x,_,hm⟩:=bZ.1 hm;obtain⟨y,_,hm⟩:=bZ.1 hm;split at hm
 .cases hm
 obtain⟨q,hq,hm⟩:=bZ.1 hm;split at hm
 .cases hm;exact(TE hq).trans rfl
 .cases hm
theorem MJ {α:Type} {s:AS α} {h:Int}:(match(find s h).bind (s.sp[·]?) with|none=>bg s h=none|some y=>bg s h=some y.x):=by
 unfold bg;cases find s h with
 |none=>simp
 |some i=>simp only[gg];cases s.sp[i]?<;>simp
theorem TO {α:Type} {z:α} {s:AS α} {h:Int} (hp:bg s h=none):cI z s h=(s,z,2):=by
 unfold cI;unfold bg at hp;cases hf:find s h with
 |none=>rfl
 |some i=>
  rw[hf,gg] at hp;cases hy:s.sp[i]? with
  |none=>rw[gg,hy];rfl
  |some y=>rw[hy] at hp;cases hp
theorem TP {α:Type} {z x:α} {s:AS α} {h:Int} (hp:bg s h=some x):(cI z s h).2.1=x/\(cI z s h).2.2=0:=by
 unfold cI;unfold bg at hp;cases hf:find s h with
 |none=>rw[hf] at hp;cases hp
 |some i=>
  rw[hf,gg] at hp;cases hy:s.sp[i]? with
  |none=>rw[hy] at hp;cases hp
  |some y=>rw[hy] at hp;cases hp;rw[gg,hy];exact⟨rfl,rfl⟩
section
variable {O w:ao} {F:HP} {k:Nat} {S:WS} {P:WP} {I:WI} {aj:Int} {H:dr} {κ:eA}
theorem WO.dA (hH:ch S aj=some H) (bB:P.bw[aj.toNat]?=some κ) (h:V O (WO P k S*F) w):∃Y,w.cell? ((aD κ.kh).add 4)=some (al κ.kp)/\V O (eE κ.kp H.dA*Y) w/\ ∀s w',V O (eE κ.kp s*Y) w'->V O (WO P k (bV S aj {H with dA:=s})*F) w':=by obtain⟨qL,Q,Y,h1,gd,h0,hQ,bt⟩:=WO.rW hH h;rw[bB] at gd;cases gd;have e:Q.kp=κ.kp:=congrArg eA.kp hQ;have h2:=HO.BO h1;have h3:=HO.cell h1 (i:=4) (v:=al Q.kp) rfl;rw[e] at h2 h3;exact⟨_,h3,h2,λs w' hs=>bt _ _ _ hQ (HO.D9 _ (by rw[e];exact hs))⟩
theorem WO.fi (hH:ch S aj=some H) (bB:P.bw[aj.toNat]?=some κ) (h:V O (WO P k S*F) w):∃Y,w.cell? ((aD κ.kh).add 2)=some (al κ.kr)/\V O (ji κ.kr H.fi*Y) w/\ ∀s w',V O (ji κ.kr s*Y) w'->V O (WO P k (bV S aj {H with fi:=s})*F) w':=by obtain⟨qL,Q,Y,h1,gd,h0,hQ,bt⟩:=WO.rW hH h;rw[bB] at gd;cases gd;have e:Q.kr=κ.kr:=congrArg eA.kr hQ;have h2:=HO.SU h1;have h3:=HO.cell h1 (i:=2) (v:=al Q.kr) rfl;rw[e] at h2 h3;exact⟨_,h3,h2,λs w' hs=>bt _ _ _ hQ (HO.SV _ (by rw[e];exact hs))⟩
theorem WO.ij (hH:ch S aj=some H) (bB:P.bw[aj.toNat]?=some κ) (h:V O (WO P k S*F) w):∃Y,w.cell? ((aD κ.kh).add 6)=some (al κ.kq)/\V O (mi κ.kq H.ij*Y) w/\ ∀s w',V O (mi κ.kq s*Y) w'->V O (WO P k (bV S aj {H with ij:=s})*F) w':=by obtain⟨qL,Q,Y,h1,gd,h0,hQ,bt⟩:=WO.rW hH h;rw[bB] at gd;cases gd;have e:Q.kq=κ.kq:=congrArg eA.kq hQ;have h2:=HO.aiY h1;have h3:=HO.cell h1 (i:=6) (v:=al Q.kq) rfl;rw[e] at h2 h3;exact⟨_,h3,h2,λs w' hs=>bt _ _ _ hQ (HO.aiZ _ (by rw[e];exact hs))⟩
theorem BU {hn:Int} (h0:0<=hn) (h1:hn<=18446744073709551615) (hH:ch S aj=some H) (bB:P.bw[aj.toNat]?=some κ) (h:V O (WO P k S*F) w):ae 124 #[al κ.kr,ah hn] w λv w'=>V O (WO P k S*F) w'/\ match bg H.fi hn with
  |none=>v=ak #[an (Rf.bP J9).toArray,aa 2]
  |some x=>v=ak #[an (Rf.bP x).toArray,aa 0]:=by
 obtain⟨Y,_,h2,bt⟩:=WO.fi hH bB h;obtain⟨ho,h3⟩:=ji.aK h2;refine ay (Rf.tC h3 ho h0 h1) ?_;rintro v w' ⟨h4,hv⟩;have h5:=bt _ _ (ji.aI ho h4);rw[rX (H:={H with fi:=H.fi}) hH] at h5;refine⟨h5,?_⟩;have hp:=MJ (s:=H.fi) (h:=hn);split at hv
 .rename_i e;rw[e] at hp;rw[show bg H.fi hn=none from hp];exact hv
 .rename_i y e;rw[e] at hp;rw[show bg H.fi hn=some y.x from hp];exact hv
theorem WO.TQ {c:Int} {K:ao->Prop} (h:V O (WO P k S*F) w) (hk:∀w',V O (WO P k {S with ft:=c}*F) w'->K w'):st ((aD k).add 14) (ah c) w K:=by have h1:V O (bT P k S*(dO 0 P.bw S.bQ*iX P k S*F)) w:=h.aF (by rw[WO.bQ];ac_rfl);refine bT.set (P':=P) (S':={S with ft:=c}) (i:=9) (by decide) h1 rfl rfl rfl rfl rfl (by simp) λw' h2=>hk w' ?_;rw[WO.bQ];exact h2.aF (by show bT P k {S with ft:=c}*(dO 0 P.bw S.bQ*iX P k S*F)=dO 0 P.bw S.bQ*(bT P k {S with ft:=c}*iX P k S)*F;ac_rfl)
theorem ajX {f:eX} {kf:Nat} {kg:Option Nat} {e:QE} {t:TypeId} {lk:LK} {bm:aJ} {m n:Int} {r:WS×Int} (hm:Db S aj lk bm m n=some r) (h:V O (WH k I S*(ab kf (cP f kg e) t*F)) w): ae 272 #[al k,aa aj,al kf,an (fv lk),an (gA bm),aa m,aa n,an (fv (0,0))] w λv w'=>v=aa 0/\V O (WH k I r.1*(ab kf (cP {f with wt:=r.2,rd:=false} kg e) t*F)) w':=by
 unfold Db at hm;obtain⟨H,hH,hm⟩:=bZ.1 hm;obtain⟨x,hx,hm⟩:=bZ.1 hm;obtain⟨y,hy,hm⟩:=bZ.1 hm;split at hm
 .cases hm
 rename_i hc;have c0:0<=m:=lT.1 λq=>hc (.inl q);have c1:m<=7:=lT.1 λq=>hc (.inr (.inl q));have c2:0<=S.ft:=lT.1 λq=>hc (.inr (.inr (.inl (.inl q))));have c3:S.ft<=1000000:=lT.1 λq=>hc (.inr (.inr (.inl (.inr q))));have c4:vX bm=true:=by
  cases q:vX bm with
  |true=>rfl
  |false=>exact absurd (.inr (.inr (.inr (.inl q)))) hc
 have c5:hB lk.2=true:=by
  cases q:hB lk.2 with
  |true=>rfl
  |false=>exact absurd (.inr (.inr (.inr (.inr q)))) hc
 have hg:=Eb c4;have hl:=tT c5;obtain⟨q,hq,hm⟩:=bZ.1 hm;split at hm;rotate_left
 .cases hm
 rename_i hz;cases hm;have lF:jb (⟨1,aj,x.ox,0,S.ft+1,ik y,m,n,0,[]⟩:PK):=by
  unfold oR at hq;split at hq
  .rename_i e;exact Hw e.2
  .cases hq
 have Au: -9223372036854775808<=x.ox/\x.ox<=9223372036854775807:=lF.to;obtain⟨P,hI,h⟩:=WH.aK h;obtain⟨κ,bB,h0⟩:=WO.pR hH h;have ajY:gr .and .u64 lk.2 1152921504606846975=lk.2%1152921504606846976:=Mm hl.1 hl.2;apply aaI;refine aG h λk1 w1 h1=>aG h1 λk2 w2 h2=>aG h2 λk3 w3 h3=> ?_;have h3:V O (WO P k S*(ab kf (cP f kg e) t*(ab k1 (fv lk) 139*(ab k2 (gA bm) 30*(ab k3 (fv (0,0)) 139*F))))) w3:=h3.p1.p2.p4.p4;obtain⟨Y,MK,h4,bt⟩:=WO.dA hH bB h3;refine aq<|aN (WO.cell (i:=0) h3 rfl)<|WO.lj h3 bB h0<|aq<|bh MK<|az (n:=lk.2) (aB h3.p2 (i:=1) rfl) ?_;rw[ajY];refine ay (aeQ hx h4) ?_;rintro _ w4 ⟨rfl,h5⟩;have h6:=bt _ _ h5;rw[rX (H:={H with dA:=H.dA}) hH] at h6;obtain⟨Y2,_,h7,BQ⟩:=WO.dA hH bB h6;refine⟨_,_,_,rfl,aw rfl<|bz h6.p3 (iO hg.1)<|ay (aeU hg hx hy h7) ?_⟩;rintro _ w5 ⟨rfl,h8⟩;have h9:=BQ _ _ h8;rw[rX (H:={H with dA:=H.dA}) hH] at h9;have zH:=uV y;refine⟨_,_,rfl,aG h9 λLz w6 aV=>bL aV rfl (iO zH.1) (λu hu=>jt _ u (by simpa[gA] using hu)) λw7 bu=>aw rfl<|aw (by simpa using c0)<|aw (by simp;omega) ⟨λp l c w'=>p=none/\l=0/\c=0/\w'=w7,?_,?_⟩⟩
 .refine az (n:=0) (aB (bu.p5) (i:=0) rfl)<|aw rfl ⟨rfl,rfl,rfl,rfl⟩
 rintro u _ _ _ fF ⟨rfl,rfl,rfl,rfl⟩;have bA:V O (WO P k S*(ab Lz (gA (ik y)) 30*(ab kf (cP f kg e) t*F))) fF:=(bu.p1.p5.p5.p5.g2).right;refine aq<|az (n:=S.ft) (WO.cell (i:=9) bA rfl)<|fx (by omega) (by omega)<|aq<|WO.TQ bA λfZ bN=> ?_;have bN:=bN.drew;refine aq<|bh (WO.cell (i:=6) bN rfl)<|aY Au.1 Au.2<|aq<|az (n:=S.ft+1) (WO.cell (i:=9) bN rfl)<|bz bN.p1 (iO zH.1) ⟨iO zH.1,?_⟩;have ep:((((((((((#[]++#[aa 1])++#[aa aj])++#[aa x.ox])++#[ah 0])++#[ah (S.ft+1)])++gA (ik y))++#[aa m])++#[aa n])++#[aa 0])++#[aP])=bC ⟨1,aj,x.ox,0,S.ft+1,ik y,m,n,0,[]⟩ aP:=by apply cT;simp[bC,jI,mv,gA]
 rw[ep];refine ay (Hx hq rfl bN) ?_;rintro _ dH ⟨⟨sq,rfl⟩,bY⟩;rw[hz];have ML:q.1.ft=S.ft+1:=by
  unfold oR at hq;split at hq
  .cases hq;rfl
  .cases hq
 have cE:V O (ab kf (cP f kg e) t*(WO P k q.1*F)) dH:=(bY.p1.right.p1);refine⟨_,_,rfl,aw rfl<|aq<|az (n:=S.ft+1) (by have:=WO.cell (i:=9) bY rfl;rw[ML] at this;exact this)<|aq<|vj (by decide) (TH f kg e _) cE λrp df=>aq<|vj (by decide) (MD _ kg e false) df λqt dZ=>⟨rfl,(WH.aI hI dZ.p1)⟩⟩
end
theorem ajZ:cP qC none cH=#[ah 0,aa 0,aa 0,aa 0,ag none,aa 0,ah 0,ah 0,aC false,aa 0,aa 0,aa 0,aa 0,aa 0,ah 0,ah 0,ar,ar,ar,ar,ar,ar,ar,ar,ar,ar,ar,ar,ar,ar,ar,ar,aa 0,aa 0,aa 0,aP,ah 0]:=by apply cT;simp[cP,gB,cH,jI,mv,dX,dW,bc,qC,List.replicate]
section
variable {O w:ao} {F:HP} {k:Nat} {S:WS} {P:WP} {I:WI} {aj:Int} {H:dr} {κ:eA}
theorem aj0 {x:kX} {m n ed:Int} {A:aM} {r:WS×Int} (q8:A[3]?=some (ah ed)) (TR:A[40]?=some (aa n)) (TS:A[41]?=some (aa m)) (hb:hB ed=true) (aj1:x.bm.length=16) (hm:Gp S aj x m n ed=some r) (h:V O (WH k I S*F) w): ae 212 #[al k,aa aj,an (Rf.bP x).toArray,an A] w λv w'=>v=aa r.2/\V O (WH k I r.1*F) w':=by
 have hb:=tT hb;unfold Gp at hm;obtain⟨H,hH,hm⟩:=bZ.1 hm;split at hm
 .cases hm
 rename_i hc;have ht:H.th=none:=by
  cases q:H.th with
  |none=>rfl
  |some f=>exact absurd (.inl (by rw[q];rfl)) hc
 obtain⟨arg,MM,hm⟩:=bZ.1 hm;obtain⟨q,hq,hm⟩:=bZ.1 hm;split at hm
 .cases hm
 rename_i j8;obtain⟨H2,lR,hm⟩:=bZ.1 hm;obtain⟨S3,oX,rfl⟩:=dd.1 hm;obtain⟨P,hI,h⟩:=WH.aK h;obtain⟨κ,bB,h0⟩:=WO.pR hH h;have zF:I.bw[aj.toNat]?=some κ:=by rw[<-mj hI];exact bB
 obtain⟨c0,c1,c2,c3⟩:=Tn aj1;apply aaD;refine aG h λk1 w1 h1=>aG h1 λk2 w2 h2=>aq<|aN (WO.cell (i:=0) h2.p2 rfl)<|WO.lj h2.p2 bB h0<|aG h2 λk7 w3 h3=>bL h3 rfl rfl (by simp[Value.oneCell']) λw4 h4=> ?_;have h4:V O (WO P k S*(ab k7 (fv (0,0)) 139*(ab k2 A 35*(ab k1 (Rf.bP x).toArray 141*F)))) w4:=h4.aF (by show ab k7 (fv (0,0)) 139*_=_;ac_rfl);refine⟨λw'=>V O (WO P k S*(ab k7 (fv arg) 139*(ab k2 A 35*(ab k1 (Rf.bP x).toArray 141*F)))) w',?_,?_⟩
 .refine az (n:=ed) (aB h4.p2 q8) ?_;split at MM
  .rename_i e0;cases MM;exact aw (by simp[e0]) h4
  rename_i e0;obtain⟨y,hy,rfl⟩:=dd.1 MM;have h4:=h4.drew;obtain⟨Y,pL,_,_⟩:=WO.fi hH bB h4;have elk:(Rf.bP y).toArray.extract 0 (0+2)=fv y.lk:=by apply cT;simp[Rf.bP,fv]
  have fin:∀{kk:Nat} {w5:ao} {X:HP},V O (ab kk (Rf.bP y).toArray 141*(WO P k S*(ab k7 (fv (0,0)) 139*(ab k2 A 35*(ab k1 (Rf.bP x).toArray 141*F))))) w5->aA ((aD kk).add 0) 2 w5 λg17=>aS au (aD k7) 2 g17 w5 λw8=>V O (WO P k S*(ab k7 (fv y.lk) 139*(ab k2 A 35*(ab k1 (Rf.bP x).toArray 141*F)))) w8:=by intro kk w5 X h5;refine ff h5 (by simp[Rf.dJ]) ?_;rw[elk];exact bL (h5.right.p1) rfl rfl (by simp[fv,Value.oneCell']) λw8 h8=>h8.p1
  refine aW (by simpa using e0)<|aq<|bh pL<|az (n:=ed) (aB h4.p2 q8) ⟨?_,?_⟩
  .refine ay (BU hb.1 hb.2 hH bB h4) ?_;rintro v w5 ⟨h5,hv⟩;rw[hy] at hv;refine⟨_,_,hv,aG h5 λmh w6 h6=>bL h6 rfl (Rf.dw _) (Rf.fJ _) λw7 h7=>aw rfl (fin (X:=cW) h7)⟩
  .refine aG h4 λnr w9 h9=>ay (BU hb.1 hb.2 hH bB h9.p1) ?_;rintro v w5 ⟨h5,hv⟩;rw[hy] at hv;exact⟨_,_,hv,bL h5.p1 rfl (Rf.dw _) (Rf.fJ _) λw7 h7=>aw rfl (fin (X:=cW) h7)⟩
 intro u fZ bN;refine ay (MC hH ht bB bN) ?_;rintro _ dH ⟨rfl,rfl⟩;refine cR<|aw rfl ⟨λp w'=>∃kf,p=some (aD kf)/\q.2.md=0/\q.1.bQ=S.bQ/\V O (WH k I q.1*(gE kf q.2*F)) w',?_,?_⟩
 .refine az (n:=x.lk.1) (by rw[jG];exact aB bN.p3 c0) ?_;split at hq
  .rename_i e1;obtain⟨r1,fA,hq⟩:=bZ.1 hq;obtain⟨f,hf,rfl⟩:=dd.1 hq;obtain⟨g1,g2⟩:=TN fA;refine aW (by simp[e1])<|az (n:=x.lk.2) (by rw[jG];exact aB bN.p3 c1)<|az (n:=m) (aB bN.p2 TS)<|az (n:=n) (aB bN.p2 TR)<|bz bN.p1 rfl<|ay (Tp fA (WH.aI hI bN)) ?_;rintro _ kQ (⟨e,_⟩|⟨f',kf,e,rfl,cE⟩)
   .rw[hf] at e;cases e
   .rw[hf] at e;cases e;refine⟨_,_,rfl,aw rfl ⟨kf,rfl,(g2 f hf).1,g1,?_⟩⟩;exact(cE.p4.p4.p4.g2).right
  .rename_i e1;split at hq
   .cases hq
   rename_i ea;obtain⟨r1,fA,rfl⟩:=dd.1 hq;have hg0:=ajW fA;refine aw (by simpa using e1)<|aG bN λHB nM df=> ?_;rw[<-ajZ] at df;have df:V O (WO P k S*(ab HB (cP qC none cH) 284*(ab k7 (fv arg) 139*(ab k2 A 35*(ab k1 (Rf.bP x).toArray 141*F))))) nM:=df.p1;have e2:(Rf.bP x).toArray.extract 2 (2+16)=gA x.bm:=c2;refine ff (df.p4) (by simp[Rf.dJ]) ?_;rw[c3];refine ff (df.p4) (by simp[Rf.dJ]) ?_;rw[e2];refine az (n:=m) (aB df.p3 TS)<|az (n:=n) (aB df.p3 TR)<|bz df.p2 rfl ?_;have hz:arg=(0,0):=iA.1 ea;rw[hz];refine ay (ajX fA (WH.aI hI df)) ?_;rintro _ nN ⟨rfl,dZ⟩;refine bI<|aw rfl ⟨HB,rfl,rfl,hg0,?_⟩;have fO:V O (ab HB (cP {qC with wt:=r1.2,rd:=false} none cH) 284*(cW*(WH k I r1.1*F))) nN:=((dZ.aF (B:=(ab k7 (fv arg) 139*(ab k2 A 35*ab k1 (Rf.bP x).toArray 141))*(ab HB (cP {qC with wt:=r1.2,rd:=false} none cH) 284*(WH k I r1.1*F))) (by ac_rfl)).right).cQ.p1;exact(gE.aI (f:={qC with wt:=r1.2}) (kg:=none) (e:=cH) rfl fO).p1
 rintro u _ nL ⟨kf,rfl,iv,TT,fO⟩;obtain⟨P,hI,fO⟩:=WH.aK fO;have bB:P.bw[aj.toNat]?=some κ:=by rw[mj hI];exact zF
 have cb:0<=q.1.ft/\q.1.ft<=2000000:=⟨lT.1 λe=>j8 (.inl e),lT.1 λe=>j8 (.inr e)⟩;refine aq<|az (n:=q.1.ft) (WO.cell (i:=9) fO rfl)<|fx (by omega) (by omega)<|aq<|WO.TQ fO λrp fq=>aq<|az (n:=q.1.ft+1) (WO.cell (i:=9) fq rfl) ?_;obtain⟨kg,e,he,jd⟩:=gE.aK fq.p1;refine aq<|vj (by decide) (ajL q.2 kg e _) jd λqt my=> ?_;obtain⟨f2,mI⟩:∃f2:eX,f2={q.2 with cl:=q.1.ft+1}:=⟨_,rfl⟩;have oN:V O (WO P k {q.1 with ft:=q.1.ft+1}*(gE kf f2*F)) qt:=(gE.aI (f:=f2) (kg:=kg) (e:=e) (by rw[mI];exact he) (by rw[mI];exact my)).p1;have aj5:ch {q.1 with ft:=q.1.ft+1} aj=some H:=(x8 (S:=S) TT).trans hH;have eH:H2=H:=by have:=(x8 (S:=S) TT).trans hH;rw[lR] at this;cases this;rfl
 subst eH;obtain⟨tp,tc,lh,hN⟩:=WO.TB (f:=f2) (by rw[mI];exact iv) aj5 ht bB oN;refine aq<|aN lh<|hN _ λFR rq TU=> ?_;rw[mI] at TU;refine aq<|az (n:=q.1.ft+1) TU ?_;rw[<-mI] at oX;refine ay (x6 (t:=⟨2,q.1.ft+1,0,0,0,0⟩) oX (WH.aI hI rq)) ?_;rintro _ Jr ⟨rfl,sv⟩;exact⟨rfl,rfl,sv⟩
end
theorem aj6 (e:QE):(gC e).extract 5 (5+16)=gA e.y.ip:=by apply cT;rw[pV,oZ];show(((_:dB)++(bc e.y.ip++mv e.y _)).drop 5).take (5+16- 5)=_;have hl:=dh e.y.ip;have df:=e.ok.ip;rw[Ey (by simp)];simp only[EI,m9,List.drop_nil,m8];rw[sU (by omega),eW (by omega)];rfl
theorem MN (e:QE) (j:Nat):(gC e)[21+j]?=(mv e.y (af e.q 0 e.d))[j]?:=CN e.ok.ip j
theorem aj7 (f:eX) (kg:Option Nat) (e e':QE):((cP f kg e).toList.take 11++(gC e').toList++(cP f kg e).toList.drop (11+25)).toArray=cP f kg e':=by have hl:=qF e;have Qh:=qF e';have e1:(cP f kg e).toList=([ah f.ob,aa f.md,aa f.mt,aa f.n,ag (kg.map λk=>(aD k)),aa f.arg.1,ah f.arg.2,ah f.wt,aC f.rd,aa f.rs,aa f.cd]:dB)++(gB e++[ah f.cl]):=rfl;rw[e1];apply cT;show _=([ah f.ob,aa f.md,aa f.mt,aa f.n,ag (kg.map λk=>(aD k)),aa f.arg.1,ah f.arg.2,ah f.wt,aC f.rd,aa f.rs,aa f.cd]:dB)++(gB e'++[ah f.cl]);rw[sU (by simp),ub];rw[mJ (by simp)];simp only[iB,yk,m8];rw[show 11+25- (0+1+1+1+1+1+1+1+1+1+1+1)=(gB e).length by omega,zS];simp[KV,<-KV]
theorem MO:fe au 167 3 (aa 0) 1 8:=⟨by kernel_rfl,by kernel_rfl,rfl,by decide⟩
section
variable {O w:ao} {F:HP} {k:Nat} {S:WS} {P:WP} {I:WI} {aj:Int} {H:dr} {κ:eA}
theorem aj8 {e:QE} {x0:av} (h:V O F w):ae 174 #[ag x0,aa aj,an (gC e)] w λv w'=>v=ak #[an (fv (0,0)),aa 0]/\V O F w':=by apply aar;refine aG h λk1 w1 h1=>aG h1 λk2 w2 h2=>aN (p:=e.q) (l:=0) (c:=e.d) (aB h2.p1 (MN e 3))<|aW rfl<|bL h2 rfl rfl (by simp[Value.oneCell']) λw3 h3=>bz h3 rfl ⟨rfl,h3.right.right⟩
theorem mi.aK {b:Nat} {q:List PK} (h:V O (mi b q*F) w):∃l,l.map (·.y)=q/\V O (gV b l*F) w:=by obtain⟨l,h⟩:=h.ex;have h:=h.a;exact⟨l,h.bM,h.right⟩
theorem mi.aI {b:Nat} {q:List PK} {l:List QE} (hl:l.map (·.y)=q) (h:V O (gV b l*F) w):V O (mi b q*F) w:=V.bO l ((V.eL hl h).g1)
theorem aj9 {S':WS} (hm:Kg S aj=some S') (h:V O (WH k I S*F) w):ae 101 #[al k,aa aj] w λv w'=>v=aT/\V O (WH k I S'*F) w':=by
 unfold Kg at hm;obtain⟨H,hH,hm⟩:=bZ.1 hm;split at hm
 .cases hm
 rename_i p q hq;split at hm
 .cases hm
 rename_i hc;have ht:H.th=none:=by
  cases q:H.th with
  |none=>rfl
  |some f=>exact absurd (.inr (by rw[q];rfl)) hc
 obtain⟨P,hI,h⟩:=WH.aK h;obtain⟨κ,bB,h0⟩:=WO.pR hH h;have zF:I.bw[aj.toNat]?=some κ:=by rw[<-mj hI];exact bB
 obtain⟨Y,G3,h1,bt⟩:=WO.ij hH bB h;rw[hq] at h1;obtain⟨l,hl,h2⟩:=mi.aK h1;obtain⟨e,l,rfl⟩:∃e l',l=e::l':=by
  cases l with
  |nil=>cases hl
  |cons e l=>exact⟨e,l,rfl⟩
 simp only[jo,List.cons.injEq] at hl;obtain⟨rfl,hlq⟩:=hl;apply aab;refine aq<|aN (WO.cell (i:=0) h rfl)<|WO.lj h bB h0<|aq<|bh G3<|ay (afg h2) ?_;rintro _ w1 ⟨rfl,h3⟩;have h4:=bt _ _ (mi.aI hlq h3);obtain⟨S1,fW⟩:∃S1,S1=bV S aj {H with ij:=q}:=⟨_,rfl⟩;obtain⟨H1,MP⟩:∃H1:dr,H1={H with ij:=q}:=⟨_,rfl⟩;have kE:ch S1 aj=some H1:=by rw[fW,MP];exact sR hH
 have EW:H1.th=none:=by rw[MP];exact ht
 have akb:H1.ca=H.ca:=by rw[MP]
 rw[<-fW] at h4 hm;rw[<-akb] at hm;clear bt h2 h1 h3 h;refine⟨_,_,rfl,aG h4 λlG w2 h5=>bL h5 rfl (oa e) (zf e) λw3 h6=>bz h6 (oa e)<|ay (aj8 h6) ?_⟩;rintro _ w4 ⟨rfl,h7⟩;refine⟨_,_,rfl,aG h7 λwE w5 h8=>bL h8 rfl rfl (by simp[fv,Value.oneCell']) λw6 h9=> ?_⟩;have aV:V O (WO P k S1*(ab wE (fv (0,0)) 139*(ab lG (gC e) 150*F))) w6:=h9.p2;clear h4 h5 h6 h7 h8 h9;have bu:=aV.drew;obtain⟨Y2,m4,_,_⟩:=WO.ca kE bB bu;refine⟨λHC DA w'=>V O (WO P k S1*(ab wE (fv (0,0)) 139*(ab lG (gC e) 150*F))) w'/\((ki H1.ca e.y.ip=none/\HC=10/\DA=0)\/∃hn s,ki H1.ca e.y.ip=some (hn,s)/\HC=0/\DA=s.tg),?_,?_⟩
 .refine aW rfl<|aq<|bh m4<|ff bu.p2 (by rw[oa];decide) ?_;rw[aj6];refine ay (Mw ⟨e.ok.ip,e.ok.rk⟩ kE bB bu) ?_;rintro _ w7 ⟨rfl,_,bA⟩;unfold xF;cases hf:ki H1.ca e.y.ip with
  |none=>exact⟨_,_,_,rfl,bA,.inl ⟨rfl,rfl,rfl⟩⟩
  |some x=>exact⟨_,_,_,rfl,bA,.inr ⟨x.1,x.2,rfl,rfl,rfl⟩⟩
 clear aV bu m4;rintro u HC DA w8 ⟨bA,ye⟩;refine ay (MC kE EW bB bA) ?_;rintro _ w9 ⟨rfl,rfl⟩;refine cR ⟨λMQ w'=>MQ=HC/\w'=w9,?_,?_⟩
 .rcases ye with⟨_,rfl,_⟩|⟨_,_,_,rfl,_⟩
  .exact aw rfl ⟨rfl,rfl⟩
  .exact aW rfl<|aw rfl ⟨rfl,rfl⟩
 rintro u _ dn ⟨rfl,rfl⟩;rcases ye with⟨hf,rfl,rfl⟩|⟨hn,s,hf,rfl,rfl⟩
 .rw[hf] at hm;refine⟨λn p w'=>n=10/\w'=dn,aw rfl ⟨rfl,rfl⟩,?_⟩;rintro u _ p fF ⟨rfl,rfl⟩;refine bz bA.p1 rfl<|ay (BP (x:=(0,0)) (S':={S1 with run:=none}) (by simp[rI,hB]) (WH.aI hI bA)) ?_;rintro _ fZ ⟨rfl,bN⟩;refine⟨rfl,aW rfl<|bz bN.p2 (oa e)<|ay (Tw hm bN) ?_⟩;rintro _ dH ⟨rfl,bY⟩;exact⟨rfl,rfl,(bY.p2.p2.g1).right⟩
 .rw[hf] at hm;obtain⟨r,hr,hm⟩:=bZ.1 hm;split at hm
  .cases hm
  rename_i f te;obtain⟨H2,lR,rfl⟩:=dd.1 hm;obtain⟨g1,g2⟩:=TN hr;obtain⟨g3,g4,g5⟩:=g2 f te;refine⟨λn p w'=>n=0/\∃kf,p=some (aD kf)/\V O (WH k I r.1*(gE kf f*(ab wE (fv (0,0)) 139*(ab lG (gC e) 150*F)))) w',?_,?_⟩
  .refine aW rfl<|az (n:=e.y.md) (aB bA.p2 (MN e 0))<|az (n:=e.y.n) (aB bA.p2 (MN e 1))<|bz bA.p1 rfl<|ay (Tp hr (WH.aI hI bA)) ?_;rintro _ dP (⟨e1,_⟩|⟨f',kf,e1,rfl,bN⟩)
   .rw[te] at e1;cases e1
   .rw[te] at e1;cases e1;exact⟨_,_,rfl,rfl,kf,rfl,bN⟩
  rintro u _ _ fF ⟨rfl,kf,rfl,bN⟩;have er:({r.1 with run:=none}:WS)=r.1:=by rw[<-g5]
  refine bz bN.p2 rfl<|ay (BP (x:=(0,0)) (S':={r.1 with run:=none}) (by simp[rI,hB]) bN) ?_;rintro _ fZ ⟨rfl,bY⟩;rw[er] at bY;obtain⟨P,hI,bY⟩:=WH.aK bY;have bB:P.bw[aj.toNat]?=some κ:=by rw[mj hI];exact zF
  obtain⟨kg,e0,xl,cE⟩:=gE.aK bY.p1;refine⟨rfl,aw rfl<|bz bY.p3 (oa e)<|aq<|As (o:=11) cE (by rw[Ee];decide) (oa e) (zf e) λkQ df=> ?_⟩;rw[aj7] at df;obtain⟨f2,mI⟩:∃f2:eX,f2={f with bk:=e.y}:=⟨_,rfl⟩;have dZ:V O (WO P k r.1*(gE kf f2*F)) kQ:=by have fO:V O (gE kf f2*(WO P k r.1*(ab wE (fv (0,0)) 139*(ab lG (gC e) 150*F)))) kQ:=gE.aI (f:=f2) (kg:=kg) (e:=e) (by rw[mI]) (by rw[mI];exact df);exact(fO.p1.p3.p3.g1).right
  have eH:H2=H1:=by have:=(x8 (S:=S1) g1).trans kE;rw[lR] at this;cases this;rfl
  subst eH;obtain⟨tp,tc,lh,hN⟩:=WO.TB (f:=f2) (by rw[mI];exact g3) lR EW bB dZ;refine aW rfl<|aq<|aN lh<|hN _ λrp fq _=>⟨rfl,?_⟩;rw[mI] at fq;exact WH.aI hI fq
end
section
variable {O w:ao} {F:HP} {k:Nat} {S:WS} {P:WP} {I:WI} {aj:Int} {H:dr} {κ:eA}
theorem Ei (hH:ch S aj=some H) (bB:P.bw[aj.toNat]?=some κ) (h:V O (WO P k S*F) w):ae 68 #[al κ.kq] w λv w'=>v=aa H.ij.length/\w'=w:=by obtain⟨Y,_,h1,_⟩:=WO.ij hH bB h;obtain⟨l,hl,h2⟩:=mi.aK h1;refine ay (KW h2) ?_;rintro _ w' ⟨rfl,rfl⟩;rw[<-hl,fk];exact⟨rfl,rfl⟩
theorem WO.Ej (hH:ch S aj=some H) (bB:P.bw[aj.toNat]?=some κ) (h:V O (WO P k S*F) w):w.cell? ((aD κ.kh).add 6)=some (al κ.kq):=by obtain⟨Y,hc,_,_⟩:=WO.ij hH bB h;exact hc
theorem WO.HD (hH:ch S aj=some H) (ht:H.th=none) (bB:P.bw[aj.toNat]?=some κ) (h:V O (WO P k S*F) w):∃tp tc,w.cell? ((aD κ.kh).add 7)=some (af tp 0 tc):=by obtain⟨qL,Q,X,h1,kF,_,hQ,_⟩:=WO.rY hH h;rw[bB] at kF;cases kF;have h3:=HO.cell h1 (i:=7) (v:=af Q.tp (sQ H.th) Q.tc) rfl;rw[ht] at h3;exact⟨_,_,h3⟩
theorem akc {r:WS×Int} (hm:Kh S aj=some r) (h:V O (WH k I S*F) w):ae 57 #[al k,aa aj,aa 0] w λv w'=>v=aa r.2/\V O (WH k I r.1*F) w':=by
 unfold Kh at hm;obtain⟨H,hH,hm⟩:=bZ.1 hm;obtain⟨P,hI,h⟩:=WH.aK h;obtain⟨κ,bB,h0⟩:=WO.pR hH h;apply Z2;split at hm
 .rename_i f ht;split at hm
  .cases hm
  rename_i iv;have iv:f.md=0:=iA.1 iv;obtain⟨kf,h⟩:=WO.Mz hH ht iv h;obtain⟨kg,e,he,h1⟩:=gE.aK h.p1;obtain⟨B,hB⟩:∃B:HP,B=WO P k (bV S aj {H with th:=some (eQ kf)})*(ab kf (cP f kg e) 284*(rV kg f.fr*F)):=⟨_,rfl⟩;have h2:V O B w:=by rw[hB];exact h1.p2
  have TV:∀{w:ao} {G:HP},V O (G*B) w->V O (WO P k (bV S aj {H with th:=some (eQ kf)})*(ab kf (cP f kg e) 284*(rV kg f.fr*(G*F)))) w:=λhs=>hs.aF (by rw[hB];ac_rfl);have kE:=sR (H':={H with th:=some (eQ kf)}) hH;have jK:∀{w:ao} {G:HP},V O (G*B) w->V O (WH k I S*F) w:=λ{w G} hs=>by
   have h3:V O (gE kf f*(WO P k (bV S aj {H with th:=some (eQ kf)})*F)) w:=gE.aI he ((hs.right.aF (B:=ab kf (cP f kg e) 284*(rV kg f.fr*(WO P k (bV S aj {H with th:=some (eQ kf)})*F))) (by rw[hB];ac_rfl)));have h4:=WO.MA kE rfl iv h3.p1;rw[yc] at h4;have e4:bV S aj {{H with th:=some (eQ kf)} with th:=some f}=S:=by
    have:({{H with th:=some (eQ kf)} with th:=some f}:dr)=H:=by rw[<-ht]
    rw[this];exact rX hH
   rw[e4] at h4;exact WH.aI hI h4
  have BV:=TV h2.cQ;obtain⟨tp,tc,q,d,lh,tV,yd,_,_⟩:=WO.HA kE rfl bB BV;obtain⟨run,eK⟩:∃b:Bool,b=decide (f.wt=0\/f.rd=true):=⟨_,rfl⟩;refine aq<|aN (WO.cell (i:=0) BV rfl)<|WO.lj BV bB h0<|aq<|aN lh ⟨λp l c b n w' m=>(n=0/\m=1/\p=none/\l=0/\c=0/\b=true/\w'=w)\/(n=1/\m=0/\((run=true/\b=false/\l=1/\V O (own 3 1 p 1 c [aa 0]*B) w')\/(run=false/\p=none/\b=true/\l=0/\c=0/\w'=w))),⟨1,.inl ⟨rfl,rfl,rfl,rfl,rfl,rfl,rfl⟩⟩,?_⟩;rintro u p l c b n w1 m (⟨rfl,rfl,rfl,rfl,rfl,rfl,rfl⟩|⟨rfl,rfl,ye⟩)
  .refine aW rfl<|fM tV (by decide) (by decide) λa ha=>aN (p:=q) (l:=1) (c:=d) (tV.get ha rfl)<|ay (MB yd) ?_;rintro _ w2 ⟨rfl,rfl⟩;refine gK<|ay (ajD (F:=WO P k (bV S aj {H with th:=some (eQ kf)})*(rV kg f.fr*(cW*F))) BV.p1) ?_;rintro _ w3 ⟨rfl,rfl⟩;rw[<-eK];cases hb:run with
   |true=>refine cR<|aW rfl<|aG h2 λMu w4 h4=>oG MO ((V.iZ 3 1 h4).p1) rfl (by decide) (by decide) λp' c' w5 h5=>aY (by decide) (by decide) ⟨0,by decide,.inr ⟨rfl,rfl,.inl ⟨rfl,rfl,rfl,h5⟩⟩⟩
   |false=>exact cR<|aw rfl<|aY (by decide) (by decide) ⟨0,by decide,.inr ⟨rfl,rfl,.inr ⟨rfl,rfl,rfl,rfl,rfl,rfl⟩⟩⟩
  .refine aw rfl ?_;rcases ye with⟨rfl,rfl,rfl,h3⟩|⟨rfl,rfl,rfl,rfl,rfl,rfl⟩
   .rw[if_pos (by simpa using eK.symm)] at hm;split at hm
    .cases hm
    rename_i hmq;obtain⟨S2,gu,rfl⟩:=dd.1 hm;have MR:=TV h3;have ML:=WO.Ej kE bB MR;refine⟨λp' l' c' w'=>p'=p/\l'=1/\c'=c/\w'=w1,?_,?_⟩
    .refine aq<|bh ML<|ay (Ei kE bB MR) ?_;rintro _ w6 ⟨rfl,rfl⟩;refine bI<|bU (λaQ=> ?_) (λ_=>⟨rfl,rfl,rfl,rfl⟩);have ake:H.pF=false:=by
      cases hmn:H.pF with
      |false=>rfl
      |true=>refine absurd ⟨hmn,?_⟩ hmq;intro e0;simp[e0] at aQ
     refine ay (ajE kE rfl bB MR) ?_;rintro _ w7 ⟨rfl,rfl⟩;exact cR<|aw ake<|aw rfl ⟨rfl,rfl,rfl,rfl⟩
    rintro u _ _ _ fF ⟨rfl,rfl,rfl,rfl⟩;refine aw rfl<|uo (by decide) (by decide) ⟨λn w'=>n=0/\w'=fF,aw rfl ⟨rfl,rfl⟩,?_⟩;rintro u _ fZ ⟨rfl,rfl⟩;have fQ:=h3.left.rd;refine fM fQ (by decide) (by decide) λa ha=>az (n:=0) (fQ.get ha rfl)<|aw rfl<|fM fQ (by decide) (by decide) λa2 yw=>az (n:=0) (fQ.get yw rfl)<|ay (ajM gu hH ht iv (jK h3)) ?_;rintro _ dH ⟨rfl,bY⟩;exact⟨rfl,rfl,bY⟩
   .rw[if_neg (by simpa using eK.symm)] at hm;split at hm;rotate_left
    .cases hm
    rename_i hq;cases hm;refine⟨λp' l' c' w'=>l'=0/\w'=w1,?_,?_⟩
    .refine aq<|bh (WO.Ej kE bB BV)<|ay (Ei kE bB BV) ?_;rintro _ w6 ⟨rfl,rfl⟩;exact bI<|aw (by simp[hq]) ⟨rfl,rfl⟩
    rintro u _ _ _ fF ⟨rfl,rfl⟩;exact aW rfl ⟨rfl,jK h2.cQ⟩
 .rename_i ht;obtain⟨tp,tc,lh⟩:=WO.HD hH ht bB h;refine aq<|aN (WO.cell (i:=0) h rfl)<|WO.lj h bB h0<|aq<|aN lh ⟨λp l c b n w' m=>n=0/\p=none/\l=0/\c=0/\b=true/\w'=w,⟨0,rfl,rfl,rfl,rfl,rfl,rfl⟩,?_⟩;rintro u _ _ _ _ _ w1 m ⟨rfl,rfl,rfl,rfl,rfl,rfl⟩;refine aw rfl ?_;split at hm
  .rename_i hq;cases hm;refine⟨λp' l' c' w'=>l'=0/\w'=w1,?_,?_⟩
   .refine aq<|bh (WO.Ej hH bB h)<|ay (Ei hH bB h) ?_;rintro _ w6 ⟨rfl,rfl⟩;exact bI<|aw (by simp[hq]) ⟨rfl,rfl⟩
   rintro u _ _ _ fF ⟨rfl,rfl⟩;exact aW rfl ⟨rfl,WH.aI hI h⟩
  .rename_i hq;obtain⟨S2,gu,rfl⟩:=dd.1 hm;refine⟨λp' l' c' w'=>l'=1/\V O (own 3 1 p' 1 c' [aa (-1)]*(WO P k S*F)) w',?_,?_⟩
   .refine aq<|bh (WO.Ej hH bB h)<|ay (Ei hH bB h) ?_;rintro _ w6 ⟨rfl,rfl⟩;have eB:0<H.ij.length:=by
     cases hqq:H.ij with
     |nil=>exact absurd hqq hq
     |cons a l=>simp
    refine bI<|aW (by simp;omega)<|ay (MC hH ht bB h) ?_;rintro _ w7 ⟨rfl,rfl⟩;exact cR<|aW rfl<|aG h λLA w8 h8=>oG MO ((V.iZ 3 1 h8).p1) rfl (by decide) (by decide) λp' c' w9 h9=>⟨rfl,h9⟩
   rintro u p' _ c' fF ⟨rfl,bA⟩;refine aw rfl<|uo (by decide) (by decide) ⟨λn w'=>n=0/\w'=fF,aw rfl ⟨rfl,rfl⟩,?_⟩;rintro u _ fZ ⟨rfl,rfl⟩;have fQ:=bA.left.rd;refine fM fQ (by decide) (by decide) λa ha=>az (n:= -1) (fQ.get ha rfl)<|aW rfl<|ay (aj9 gu (WH.aI hI bA.right)) ?_;rintro _ dH ⟨rfl,bY⟩;exact⟨rfl,rfl,bY⟩
end
theorem TW {p:PK} {v:Value} (df:p.ip.length=16):(bC p v).extract 5 (5+16)=gA p.ip:=by apply cT;rw[pV,oZ];show(((_:dB)++(bc p.ip++mv p v)).drop 5).take (5+16- 5)=_;have hl:=dh p.ip;rw[Ey (by simp)];simp only[EI,m9,List.drop_nil,m8];rw[sU (by omega),eW (by omega)];rfl
section
variable {O w:ao} {F:HP} {k:Nat} {S:WS} {P:WP} {I:WI} {aj:Int} {H:dr} {κ:eA}
theorem akh {p:PK} {v:Value} {S':WS} (dV:jb p) (h1c:∀u∈(bC p v).toList,u.oneCell'=true) (hH:ch S aj=some H) (bB:P.bw[aj.toNat]?=some κ) (hI:P.im=I) (hm:(match H.th with|none=>some S|some f=>if f.md≠0 then none else if f.wt=p.cl/\f.wt≠0/\f.rd=false then some (bV S aj {H with th:=some {f with rd:=true,rs:=p.n,cd:=p.cd}}) else some S)=some S') (h:V O (WO P k S*F) w):ae 156 #[al k,al κ.kh,an (bC p v)] w λv w'=>v=aT/\V O (WH k I S'*F) w':=by
 apply aao;refine aG h λk1 w1 h1=>aq ?_;have h1:=h1.p1;split at hm
 .rename_i ht;cases hm;obtain⟨tp,tc,lh⟩:=WO.HD hH ht bB h1;refine aN lh ⟨λn w' m=>n=0/\w'=w1,⟨0,rfl,rfl⟩,?_⟩;rintro u _ w2 m ⟨rfl,rfl⟩;exact aw rfl ⟨rfl,WH.aI hI h1.p1.right⟩
 rename_i f ht;split at hm
 .cases hm
 rename_i iv;have iv:f.md=0:=iA.1 iv;obtain⟨kf,h2⟩:=WO.Mz hH ht iv h1;obtain⟨kg,e,he,h3⟩:=gE.aK h2.p1;have h3:V O (WO P k (bV S aj {H with th:=some (eQ kf)})*(ab kf (cP f kg e) 284*(rV kg f.fr*(ab k1 (bC p v) 150*F)))) w1:=h3.p2;have kE:=sR (H':={H with th:=some (eQ kf)}) hH;have jK:∀{w:ao} {f':eX},f'.md=0->f'.fr=f.fr->f'.bk=f.bk->V O (WO P k (bV S aj {H with th:=some (eQ kf)})*(ab kf (cP f' kg e) 284*(rV kg f.fr*(ab k1 (bC p v) 150*F)))) w->V O (WH k I (bV S aj {H with th:=some f'})*F) w:=by intro w f' e1 e2 e3 hs;have h4:V O (gE kf f'*(WO P k (bV S aj {H with th:=some (eQ kf)})*F)) w:=gE.aI (by rw[e3];exact he) ((hs.aF (B:=ab k1 (bC p v) 150*(ab kf (cP f' kg e) 284*(rV kg f'.fr*(WO P k (bV S aj {H with th:=some (eQ kf)})*F)))) (by rw[e2];ac_rfl)).right);have h5:=WO.MA kE rfl e1 h4.p1;rw[yc] at h5;exact WH.aI hI h5
 have nc:bV S aj {H with th:=some f}=S:=by
  have:({H with th:=some f}:dr)=H:=by rw[<-ht]
  rw[this];exact rX hH
 obtain⟨tp,tc,q,d,lh,tV,yd,_,_⟩:=WO.HA kE rfl bB h3;obtain⟨B,hB⟩:∃B:HP,B=WO P k (bV S aj {H with th:=some (eQ kf)})*(ab kf (cP f kg e) 284*(rV kg f.fr*(ab k1 (bC p v) 150*F))):=⟨_,rfl⟩;refine aN lh ⟨λn w' m=>(n=0/\m=1/\w'=w1)\/(n=1/\m=0/\¬(f.wt=p.cl/\f.wt≠0/\f.rd=false)/\V O B w'),⟨1,.inl ⟨rfl,rfl,rfl⟩⟩,?_⟩;rintro u _ w2 m (⟨rfl,rfl,rfl⟩|⟨rfl,rfl,ml,h4⟩);rotate_left
 .rw[if_neg ml] at hm;cases hm;have:=jK iv rfl rfl (by rw[hB] at h4;exact h4);rw[nc] at this;exact aw rfl ⟨rfl,this⟩
 refine aW rfl<|fM tV (by decide) (by decide) λa ha=>aN (p:=q) (l:=1) (c:=d) (tV.get ha rfl) ⟨λn w' m=>(n=0/\m=1/\w'=w2)\/(n=1/\m=0/\¬(f.wt=p.cl/\f.wt≠0/\f.rd=false)/\V O B w'),⟨1,.inl ⟨rfl,rfl,rfl⟩⟩,?_⟩;rintro u _ w3 m (⟨rfl,rfl,rfl⟩|⟨rfl,rfl,ml,h4⟩);rotate_left
 .exact aw rfl<|aY (by decide) (by decide) ⟨0,by decide,.inr ⟨rfl,rfl,ml,h4⟩⟩
 have h3:=h3.drew;refine aW rfl<|fM yd (by decide) (by decide) λa ha=>bh (n:=some (aD kf)) (yd.get ha rfl) ⟨λb w'=>b=decide (f.wt=p.cl/\f.wt≠0/\f.rd=false)/\w'=w3.drew,?_,?_⟩
 .refine aq<|az (n:=f.wt) (aB h3.p1 (i:=7) rfl)<|az (n:=p.cl) (aB (h3.right.right.p1) (i:=4) rfl) ?_;by_cases e1:f.wt=p.cl
  .refine aW (by simp[e1])<|aq<|az (n:=f.wt) (aB h3.p1 (i:=7) rfl) ?_;by_cases e2:f.wt=0
   .exact aw (by simp[e2]) ⟨by simp[e2],rfl⟩
   .exact aW (by simpa using e2)<|aq<|gQ (n:=f.rd) (aB h3.p1 (i:=8) rfl) ⟨by cases f.rd<;>simp[e1,e2]<;>(rw[<-e1];exact e2),rfl⟩
  .exact aw (by simpa using e1) ⟨by simp[e1],rfl⟩
 rintro u b w4 ⟨rfl,rfl⟩;refine bU (λaki=> ?_) (λml=> ?_)
 .rw[if_pos aki] at hm;cases hm;have h4:V O (ab kf (cP f kg e) 284*(ab k1 (bC p v) 150*(WO P k (bV S aj {H with th:=some (eQ kf)})*(rV kg f.fr*F)))) w3.drew.drew:=h3.drew.p3.p2;have c1:(bC p v)[22]?=some (aa p.n):=CN dV.ip 1;have c2:(bC p v)[23]?=some (aa p.cd):=CN dV.ip 2;refine az (n:=p.n) (aB h4.p1 c1)<|az (n:=p.cd) (aB h4.p1 c2)<|aq<|vj (by decide) (MD f kg e true) h4 λw5 h5=>⟨aB h5.p1 c2,aB h5.p1 c1,aq<|vj (by decide) (TI _ kg e p.n) h5 λw6 h6=>⟨aB h6.p1 c2,aq<|vj (by decide) (TJ _ kg e p.cd) h6 λw7 h7=>⟨rfl,?_⟩⟩⟩;exact jK (f':={f with rd:=true,rs:=p.n,cd:=p.cd}) iv rfl rfl (h7.aF (by ac_rfl))
 .exact aY (by decide) (by decide) ⟨0,by decide,.inr ⟨rfl,rfl,ml,by rw[hB];exact h3⟩⟩
theorem akj {p:PK} {v:Value} {s':AS cC} {k7 k1:Nat} {t7 t1:TypeId} (dV:jb p) (pq:0<=p.fr) (HE:0<=p.n) (Ek:p.n<=4294967295) (hH:ch S p.to=some H) (bB:P.bw[p.to.toNat]?=some κ) (hs:uR H.ca p.ip p.fr p.n=some s') (h:V O (WO P k S*(ab k7 #[al κ.kh] t7*(ab k1 (bC p v) t1*F))) w): ae 158 #[al k7,al k1] w λv' w'=>(∃e,v'=aa e)/\V O (WO P k (bV S p.to {H with ca:=s'})*(ab k7 #[al κ.kh] t7*(ab k1 (bC p v) t1*F))) w':=by have h:=h.drew;obtain⟨Y,m4,h1,bt⟩:=WO.ca hH bB h;have c1:(bC p v)[22]?=some (aa p.n):=CN dV.ip 1;have cv: -9223372036854775808<=p.fr/\p.fr<=9223372036854775807:=dV.fr;apply aaq;refine bh (fS h.p1 rfl)<|aq<|bh m4<|ff h.p2 (by rw[jc dV.ip];decide) ?_;rw[TW dV.ip];refine az (n:=p.fr) (aB h.p2 (i:=1) rfl)<|fx pq (by omega)<|az (n:=p.n) (aB h.p2 c1)<|gX HE Ek<|ay (QB ⟨dV.ip,dV.rk⟩ HE h1 hs) ?_;rintro _ w1 ⟨⟨e,rfl⟩,h2⟩;exact bI ⟨⟨_,rfl⟩,bt _ _ h2⟩
theorem akk {p:PK} {q:av} {m d:Nat} {S':WS} (dV:jb p) (ru:p.rs=[]->m=0) (hm:Kk S p=some S') (h:V O (WH k I S*F) w): ae 89 #[al k,an (bC p (af q m d))] w λv w'=>v=aT/\V O (WH k I S'*F) w':=by
 unfold Kk at hm;obtain⟨H,hH,hm⟩:=bZ.1 hm;obtain⟨P,hI,h⟩:=WH.aK h;obtain⟨κ,bB,h0⟩:=WO.pR hH h;have hto: -9223372036854775808<=p.to/\p.to<=9223372036854775807:=dV.to;apply Z7;refine aG h λk1 w1 h1=> ?_;have h1:=h1.drew;refine aq<|aN (WO.cell (i:=0) h1.p1 rfl)<|az (n:=p.to) (aB h1 (i:=2) rfl)<|WO.lj h1.p1 bB h0<|aG h1 λk7 w2 h2=> ?_;have h2:V O (ab k7 #[ag none] 128*(ab k1 (bC p (af q m d)) 150*(WO P k S*F))) w2:=h2;refine bD (i:=0) h2 (by simp) λw3 h3=> ?_;have h3:V O (WO P k S*(ab k7 #[al κ.kh] 128*(ab k1 (bC p (af q m d)) 150*F))) w3:=h3.aF (by show ab k7 #[al κ.kh] 128*_=_;ac_rfl);have fin:∀{w':ao} {S1:WS},V O (WH k I S1*(ab k7 #[al κ.kh] 128*(ab k1 (bC p (af q m d)) 150*F))) w'->V O (WH k I S1*F) w':=λhs=>hs.p1.right.p1.right;have hd:=h3.drew;refine az (n:=p.kd) (aB h3.p2 (i:=0) rfl) ?_;split at hm
 .rename_i e1;split at hm;rotate_left
  .cases hm
  rename_i hc;cases hm;have MS:=ru hc.2;subst MS;obtain⟨Y,G3,h4,bt⟩:=WO.ij hH bB hd;obtain⟨κ2,Q,X,hX,HF,_,hQ,_⟩:=WO.rY hH h3;rw[bB] at HF;cases HF;obtain⟨l,hl,h5⟩:=mi.aK h4;obtain⟨e,DP⟩:∃e:QE,e=⟨p,q,d,dV,hc.2⟩:=⟨_,rfl⟩;have hea:bC p (af q 0 d)=gC e:=by rw[DP];rfl
  have hey:e.y=p:=by rw[DP]
  refine aW (by simp[e1])<|bh (fS h3.p1 rfl)<|aq<|gQ (n:=false) (HO.cell hX (i:=1) rfl)<|aw rfl<|bh (fS hd.p1 rfl)<|aq<|bh G3<|bz hd.p2 (jc dV.ip) ?_;rw[hea];refine ay (afc (e:=e) (by rw[<-fk (f:=(·.y)),hl];exact hc.1) h5) ?_;rintro _ w5 ⟨rfl,h6⟩;have h7:=bt _ _ (mi.aI (q:=H.ij++[p]) (by rw[nF,hl];simp[hey]) h6);exact bI<|aw rfl<|aw rfl ⟨rfl,fin (WH.aI hI h7)⟩
 rename_i e1;refine aw (by simpa using e1) ?_;split at hm
 .rename_i e2;refine aW (by simp[e2])<|bh (fS h3.p1 rfl)<|bz h3.p2 (jc dV.ip)<|ay (akh dV yJ hH bB hI hm h3) ?_;rintro _ w8 ⟨rfl,h8⟩;exact⟨rfl,rfl,fin h8⟩
 rename_i e2;refine aw (by simpa using e2) ?_;split at hm
 .cases hm
 rename_i hr;have pq:0<=p.fr:=lT.1 λe=>hr (.inl e);have HE:0<=p.n:=lT.1 λe=>hr (.inr (.inl e));have Ek:p.n<=4294967295:=lT.1 λe=>hr (.inr (.inr e));have cv: -9223372036854775808<=p.fr/\p.fr<=9223372036854775807:=dV.fr;split at hm
 .rename_i e4;refine aW (by simp[e4])<|az (n:=p.to) (aB h3.p2 (i:=2) rfl)<|fx h0 (by omega)<|ff h3.p2 (by rw[jc dV.ip];decide) ?_;rw[TW dV.ip];refine ay (Mp (S':=S') ⟨dV.ip,dV.rk⟩ h0 hH ?_ hI h3) ?_
  .unfold release at hm;rw[hH] at hm;dsimp only at hm;split at hm
   .rename_i hf;cases hm;exact .inl ⟨hf,rfl⟩
   .rename_i hn x hf;have main:∀s',uR H.ca p.ip p.fr p.n=some s'->changed S p.to x.tg s'=some S'->∃h x s',ki H.ca p.ip=some (h,x)/\changed S p.to x.tg s'=some S'/\∀G w1,V O (WO P k S*(G*(ab k7 #[al κ.kh] 128*(ab k1 (bC p (af q m d)) 150*F)))) w1->gi au (.func 158) #[] #[al k7,al k1] #[] w1 λv w2=>(∃e,v=aa e)/\V O (WO P k (bV S p.to {H with ca:=s'})*(G*(ab k7 #[al κ.kh] 128*(ab k1 (bC p (af q m d)) 150*F)))) w2:=by intro s' hs hc;refine⟨hn,x,s',hf,hc,λG w1 h4=>Bt Tryz.func158 rfl<|ay (akj (F:=G*F) dV pq HE Ek hH bB hs (h4.aF (by ac_rfl))) ?_⟩;rintro v w2 ⟨he,h5⟩;exact⟨he,h5.p3.p1⟩
    split at hm
    .rename_i aQ;exact .inr (main _ (by rw[uR,hf];simp[aQ]) hm)
    .rename_i bW;obtain⟨cs,dT,hm⟩:=bZ.1 hm;exact .inr (main _ (by rw[uR,hf];simp[bW,dT]) hm)
  .rintro _ w4 ⟨⟨e,rfl⟩,h4⟩;exact bI ⟨rfl,fin h4⟩
 rename_i e4;refine aw (by simpa using e4) ?_;split at hm;rotate_left
 .cases hm
 rename_i e5;refine aw (by simp[e5])<|aW (by simp[e5])<|bh (fS hd.p1 rfl) ?_;obtain⟨Y,yb,h4,bt⟩:=WO.Hy hH bB hd;obtain⟨⟨hl,BW,El⟩,h5⟩:=jB.aK h4;refine aq<|bh yb<|az (n:=p.fr) (aB hd.p2 (i:=1) rfl)<|fx pq (by omega)<|ay (adK (key:=p.fr) h5) ?_;rintro _ dP ⟨rfl,h6⟩;refine bI ⟨rfl,?_⟩;split at hm
 .rename_i z hz;cases hm;obtain⟨a,b⟩:=z;rw[hz,BS] at h6;by_cases ea:a=p.fr
  .rw[if_pos ea];rw[if_pos (by simp[ea])] at h6;have eu:fg (λx=>if x=a then some b else none) p.fr (some H.bX)=lk [(a,H.bX)]:=by rw[BS,ea];funext x;by_cases q:x=p.fr<;>simp[fg,q]
   rw[eu] at h6;exact fin (WH.aI hI (bt H.bX [(a,H.bX)] _ (jB.aI ⟨by simp,BW,by simpa using BW⟩ h6)))
  .rw[if_neg ea];rw[if_neg (by simp;exact λe=>ea e.symm),<-BS,<-hz] at h6;have h7:=bt H.bX H.gU _ (jB.aI ⟨hl,BW,El⟩ h6);rw[rX (H:={H with bX:=H.bX,gU:=H.gU}) hH] at h7;exact fin (WH.aI hI h7)
 .rename_i hz;cases hm;rw[if_neg (by simp[hz,lk])] at h6;have h7:=bt H.bX H.gU _ (jB.aI ⟨hl,BW,El⟩ h6);rw[rX (H:={H with bX:=H.bX,gU:=H.gU}) hH] at h7;exact fin (WH.aI hI h7)
 .cases hm
end
structure wF (a:nq) (A:aM):Prop where
 sz:A.size=43
 aZ:∀u∈A.toList,u.oneCell'=true
 kind:A[0]?=some (aa a.kind)
 aj:A[1]?=some (aa a.aj)
 dR:A[2]?=some (ah a.dR)
 ed:A[3]?=some (ah a.ed)
 n:A[40]?=some (aa a.n)
 pG:A[41]?=some (aa a.pG)
 id:a.kind=1->A.extract 4 (4+16)=gA (oz 100)
theorem TX {α β:Type} {f:α->β->Option α}:∀l:List β,l.foldl (λ(S:Option α) x=>S.bind λS=>f S x) none=none
 |[]=>rfl
 |_::l=>by rw[o0];exact TX l
theorem HG {α β:Type} {f:α->β->Option α} {l:List β} {j:Nat} {x:β} {T S':α} (hx:l[j]?=some x) (h:(l.drop j).foldl (λ(S:Option α) x=>S.bind λS=>f S x) (some T)=some S'):∃T1,f T x=some T1/\(l.drop (j+1)).foldl (λ(S:Option α) x=>S.bind λS=>f S x) (some T1)=some S':=by
 obtain⟨hj,rfl⟩:=ct.1 hx;rw[ll hj,o0,gg] at h;cases hf:f T l[j] with
 |none=>rw[hf,TX] at h;cases h
 |some T1=>rw[hf] at h;exact⟨T1,rfl,h⟩
theorem HI {α β:Type} {f:α->β->Option α} {l:List β} {j:Nat} {T S':α} (hj:l.length<=j) (h:(l.drop j).foldl (λ(S:Option α) x=>S.bind λS=>f S x) (some T)=some S'):T=S':=by rw[mJ hj] at h;cases h;rfl
section
variable {O w:ao} {F:HP} {k:Nat} {S:WS} {P:WP} {I:WI} {aj:Int} {H:dr} {κ:eA}
theorem TY {i:Int} (hI:P.im=I) (h:V O (WO P k S*F) w):ae 86 #[al P.cD,aa i] w λv w'=>∃q m d,v=ak #[an (bC (ia S.cD i).2.1 (af q m d)),aa (ia S.cD i).2.2]/\(ia S.cD i).2.1.ip.length=16/\V O (WO P k {S with cD:=(ia S.cD i).1}*F) w':=by obtain⟨⟨hM,hn⟩,h1⟩:=iW.aK (WO.D6 h);refine ay (Qo (i:=i) h1 hM) ?_;rintro v w' ⟨q,m,d,G,rfl,_,_,h2⟩;obtain⟨A8,lF⟩:=hM.J1 (i:=i);exact⟨q,m,d,rfl,lF.ip,WO.Mi _ S.sn (iW.aI ⟨A8,hn⟩ h2.right)⟩
theorem TZ {i:Int} (hI:P.im=I) (h:V O (WO P k S*F) w):ae 88 #[al P.cD,aa i] w λv w'=>∃q m d,v=ak #[an (bC (gM S.cD i).2.1 (af q m d)),aC (gM S.cD i).2.2.1,aa (gM S.cD i).2.2.2]/\jb (gM S.cD i).2.1/\((gM S.cD i).2.1.rs=[]->m=0)/\V O (WO P k {S with cD:=(gM S.cD i).1}*F) w':=by obtain⟨⟨hM,hn⟩,h1⟩:=iW.aK (WO.D6 h);refine ay (aeg (i:=i) h1 hM) ?_;rintro v w' ⟨q,m,d,G,rfl,_,hG,h2⟩;obtain⟨A8,lF,_⟩:=hM.del (i:=i);refine⟨q,m,d,rfl,lF,λe=> ?_,WO.Mi _ S.sn (iW.aI ⟨A8,hn⟩ h2.right)⟩;have hr:=hG _ _ h2.left;rw[e] at hr;have:=hr.1;simp at this;omega
theorem akm {a:nq} {A:aM} {r:WS×Int} (hA:wF a A) (hk:a.kind=22\/a.kind=23) (hm:(if a.kind=22 then Gr S a.n else(let r:=ia S.cD a.n;some ({S with cD:=r.1},r.2.2)))=some r) (h:V O (WH k I S*F) w): ae 53 #[al k,an A] w λv w'=>v=aa r.2/\V O (WH k I r.1*F) w':=by
 obtain⟨P,hI,h⟩:=WH.aK h;apply Z0;refine aG h λk1 w1 h1=>az (n:=a.kind) (aB h1 hA.kind) ?_;have h1:=h1.p1;have hd:=h1.drew;rcases hk with e|e
 .rw[if_pos e] at hm;refine aw (by simp[e])<|aw (by simp[e])<|aq<|bh (WO.cell (i:=6) hd rfl)<|az (n:=a.n) (aB hd.p1 hA.n) ?_;unfold Gr at hm;dsimp only at hm;have body:∀{kk:Nat} {q:av} {m d:Nat} {w':ao},jb (gM S.cD a.n).2.1->((gM S.cD a.n).2.1.rs=[]->m=0)->V O (ab kk (bC (gM S.cD a.n).2.1 (af q m d)) 150*(WO P k {S with cD:=(gM S.cD a.n).1}*(ab k1 A 35*F))) w'->br (((gM S.cD a.n).2.2.2:Int)==0) (br (gM S.cD a.n).2.2.1 (aA (aD kk) 25 w' λg27=>ae 89 #[al k,an g27] w' λv28 fF=>v28=aT/\(aa (gM S.cD a.n).2.2.2=aa r.2/\V O (WH k I r.1*F) fF)) (aa (gM S.cD a.n).2.2.2=aa r.2/\V O (WH k I r.1*F) w')) (aa (gM S.cD a.n).2.2.2=aa r.2/\V O (WH k I r.1*F) w'):=by
   intro kk q m d w' dV ru h2;have stay:¬((gM S.cD a.n).2.2.2=0/\(gM S.cD a.n).2.2.1=true)->aa (gM S.cD a.n).2.2.2=aa r.2/\V O (WH k I r.1*F) w':=by intro hn;rw[if_neg hn] at hm;cases hm;exact⟨rfl,WH.aI hI (h2.right.p1.right)⟩
   by_cases e0:(gM S.cD a.n).2.2.2=0
   .cases e1:(gM S.cD a.n).2.2.1 with
    |false=>exact aW (by simp[e0])<|aw rfl (stay (by simp[e1]))
    |true=>rw[if_pos ⟨e0,e1⟩] at hm;obtain⟨S2,gu,rfl⟩:=dd.1 hm;refine aW (by simp[e0])<|aW rfl<|mw h2 dV.ip<|ay (akk dV ru gu (WH.aI hI h2.p1)) ?_;rintro _ w3 ⟨rfl,h3⟩;exact⟨rfl,by rw[e0],h3.p1.right.p1.right⟩
   .exact aw (by simpa using e0) (stay (by simp[e0]))
  refine⟨?_,?_⟩
  .refine ay (TZ hI hd) ?_;rintro _ w2 ⟨q,m,d,rfl,dV,ru,h2⟩;exact⟨_,_,_,rfl,aG h2 λvR w3 h3=>uP h3 rfl dV.ip λw4 h4=>body dV ru h4⟩
  .refine aG hd λk29 w3 h3=>ay (TZ hI h3.p1) ?_;rintro _ w2 ⟨q,m,d,rfl,dV,ru,h2⟩;exact⟨_,_,_,rfl,uP h2.p1 rfl dV.ip λw4 h4=>body dV ru h4⟩
 .rw[if_neg (by omega)] at hm;cases hm;refine aW (by simp[e])<|aq<|bh (WO.cell (i:=6) hd rfl)<|az (n:=a.n) (aB hd.p1 hA.n) ⟨?_,?_⟩
  .refine ay (TY hI hd) ?_;rintro _ w2 ⟨q,m,d,rfl,zH,h2⟩;exact⟨_,_,rfl,aG h2 λk9 w3 h3=>uP h3 rfl zH λw4 h4=>⟨rfl,WH.aI hI (h4.right.p1.right)⟩⟩
  .refine aG hd λlG w3 h3=>ay (TY hI h3.p1) ?_;rintro _ w2 ⟨q,m,d,rfl,zH,h2⟩;exact⟨_,_,rfl,uP h2.p1 rfl zH λw4 h4=>⟨rfl,WH.aI hI (h4.right.p1.right)⟩⟩
end
end Go.Proofs.YtjhnnnfnkjighaaGreatDoor
