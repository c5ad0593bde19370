import Derived.Test.YtafhnfcahhlanaaLB5
set_option linter.unusedVariables false
set_option linter.unusedSimpArgs false
set_option maxHeartbeats 1000000
namespace Go.Proofs.Ytafhnfcahhlanaa
open Go.Sx Go.RowKit
open Go.Lp (S D dt sg ex ry)
def exA (P:Lp.Sys) (k j:Nat):Int:=if j=P.n then P.B k else P.A k j
theorem idx_lt {P:Lp.Sys} {p:Nat→Bool} {i:Nat} (h:i∈P.idx p):i<P.N∧p i=true:=by
  have:=List.mem_filter.1 h
  exact⟨List.mem_range.1 this.1,this.2⟩
theorem rows_map (L:List Cond) (f:Cond→List Int) (l:List Nat):((cI l).map fun i=>f (cAt L i.toNat))=l.map fun i=>f (cAt L i):=by
  rw[cI,List.map_map]
  exact List.map_congr_left fun i _=>by simp
theorem Lk.getA {L:List Cond} {P:Lp.Sys} (k:Lk L P) {i:Nat} (hi:i<P.N) {j:Nat} (hj:j≤P.n):fn ((cAt L i).1++[(cAt L i).2]) j=exA P i j:=by
  have hl:=k.len i hi
  unfold fn exA
  by_cases e:j=P.n
  · subst e
    rw[if_pos rfl,←k.B i hi,←hl]
    simp[List.getD_eq_getElem?_getD]
  · rw[if_neg e,←k.A i hi j (by omega),List.getD_eq_getElem?_getD,List.getD_eq_getElem?_getD,List.getElem?_append_left (by omega)]
theorem Lk.det {L:List Cond} {P:Lp.Sys} (k:Lk L P) (p:Nat→Bool) (cols:List Nat) (hl:(P.idx p).length=cols.length) (h4:cols.length≤4) (hc:∀c∈cols,c≤P.n):
    detC (rowsM L (cI (P.idx p))) (cI cols)=D ((P.idx p).map (exA P)) cols∧-24000000000000≤D ((P.idx p).map (exA P)) cols∧D ((P.idx p).map (exA P)) cols≤24000000000000:=by
  have e:rowsM L (cI (P.idx p))=(P.idx p).map fun i=>(cAt L i).1++[(cAt L i).2]:=rows_map L (fun c=>c.1++[c.2]) _
  have e2:D (((P.idx p).map fun i=>(cAt L i).1++[(cAt L i).2]).map fn) cols=D ((P.idx p).map (exA P)) cols:=by
    rw[List.map_map]
    exact D_congr _ _ _ _ fun i hi c hcc=>k.getA (idx_lt hi).1 (hc c hcc)
  have hs:small ((P.idx p).map fun i=>(cAt L i).1++[(cAt L i).2]) cols:=by
    intro r hr c hcc
    obtain⟨i,hi,rfl⟩:=List.mem_map.1 hr
    have hi:=(idx_lt hi).1
    have:=k.getA hi (hc c hcc)
    unfold fn at this
    rw[this]
    unfold exA
    split
    · exact k.sB i hi
    · exact k.sA i hi c (by have:=hc c hcc;omega)
  obtain⟨d1,d2,d3⟩:=detC_D _ cols (by rw[List.length_map,hl]) (by rw[List.length_map,hl];exact h4) hs
  have:=fct_le (m:=(P.idx p).length) (by omega)
  rw[List.length_map]at d2 d3
  rw[e,d1,←e2]
  exact⟨rfl,by omega,by omega⟩
theorem set_mem {n k v c:Nat} (h:c∈(List.range n).set k v) (hv:v≤n):c≤n:=by
  rcases List.mem_or_eq_of_mem_set h with h|h
  · have:=List.mem_range.1 h;omega
  · omega
theorem cI_set (cols:List Nat) (k v:Nat):(cI cols).set k (v:Int)=cI (cols.set k v):=by
  rw[cI,cI,List.map_set]
theorem sign_of {d:Int} (h1 : -24000000000000≤d) (h2:d≤24000000000000) (h:d≠0):absW d=d.natAbs∧W ((absW d).tdiv d)=d.sign∧d.sign*d=d.natAbs∧(d.sign=1∨d.sign = -1):=by
  have ea:absW d=d.natAbs:=by
    unfold absW
    rw[show W (0-d)=0-d from W_id (by omega) (by omega)]
    split<;>omega
  have es:d.sign*d=d.natAbs:=Int.sign_mul_self d
  have et:(d.natAbs:Int).tdiv d=d.sign:=by
    rw[←es]
    exact Int.mul_tdiv_cancel _ h
  have e1:d.sign=1∨d.sign = -1:=by
    rcases Int.lt_trichotomy d 0 with q|q|q
    · exact .inr (Int.sign_eq_neg_one_of_neg q)
    · exact absurd q h
    · exact .inl (Int.sign_eq_one_of_pos q)
  refine⟨ea,?_,es,e1⟩
  rw[ea,et]
  rcases e1 with q|q<;>rw[q]<;>rfl
def dP (P:Lp.Sys) (p:Nat→Bool):Int:=D ((P.idx p).map P.A) (List.range P.n)
def dK (P:Lp.Sys) (p:Nat→Bool) (k:Nat):Int:=D ((P.idx p).map (exA P)) ((List.range P.n).set k P.n)
theorem Lk.over {L:List Cond} {P:Lp.Sys} (k:Lk L P) {p:Nat→Bool} (hp:(P.idx p).length=P.n):overM L P.n (cI (P.idx p))=dP P p∧-24000000000000≤dP P p∧dP P p≤24000000000000:=by
  have h:=k.det p (List.range P.n) (by rw[hp,List.length_range]) (by rw[List.length_range];exact k.n4) fun c hc=>by have:=List.mem_range.1 hc;omega
  have e:D ((P.idx p).map (exA P)) (List.range P.n)=dP P p:=D_congr _ _ _ _ fun i _ c hc=>if_neg (by have:=List.mem_range.1 hc;omega)
  rw[e]at h
  exact h
theorem Lk.nums {L:List Cond} {P:Lp.Sys} (k:Lk L P) {p:Nat→Bool} (hp:(P.idx p).length=P.n) (hd:dP P p≠0):(cornN L P.n (cI (P.idx p))).length=P.n∧∀j,j<P.n→(cornN L P.n (cI (P.idx p))).getD j 0=(dP P p).sign*dK P p j∧-24000000000000≤(dP P p).sign*dK P p j∧(dP P p).sign*dK P p j≤24000000000000:=by
  obtain⟨o1,o2,o3⟩:=k.over hp
  refine⟨by simp[cornN,numsM],fun j hj=>?_⟩
  have hv:∀rows q,(numsM rows P.n q).getD j 0=numM rows P.n q j:=fun rows q=>by simp[numsM,List.getD_eq_getElem?_getD,List.getElem?_map,List.getElem?_range hj]
  have h:=k.det p ((List.range P.n).set j P.n) (by rw[hp,List.length_set,List.length_range]) (by rw[List.length_set,List.length_range];exact k.n4) fun c hc=>set_mem hc (Nat.le_refl _)
  have hs:=sign_of o2 o3 hd
  rw[cornN,hv,numM,o1,hs.2.1]
  have:(placesL P.n).set j (P.n:Int)=cI ((List.range P.n).set j P.n):=cI_set _ _ _
  rw[this,h.1]
  show W (dK P p j*(dP P p).sign)=_∧_
  have h2 : -24000000000000≤dK P p j:=h.2.1
  have h3:dK P p j≤24000000000000:=h.2.2
  rw[Int.mul_comm]
  rcases hs.2.2.2 with q|q<;>rw[q]
  · exact⟨W_id (by omega) (by omega),by omega,by omega⟩
  · exact⟨W_id (by omega) (by omega),by omega,by omega⟩
structure Pt0 (P:Lp.Sys) (r:Rat):Prop where
  len:r.1.length=P.n
  o1:1≤r.2
  o2:r.2≤24000000000000
  nums:∀j,j<P.n→-24000000000000≤r.1.getD j 0∧r.1.getD j 0≤24000000000000
  feas:P.feas (fn r.1) r.2
theorem Lk.corner_some {L:List Cond} {P:Lp.Sys} (k:Lk L P) {p:Nat→Bool} (hp:(P.idx p).length=P.n) {r:Rat} (h:cornerM L P.n (cI (P.idx p))=some r):
    Pt0 P r∧dP P p≠0∧∃g:Int,0<g∧r.2*g=(dP P p).natAbs∧∀j,j<P.n→r.1.getD j 0*g=(dP P p).sign*dK P p j:=by
  obtain⟨o1,o2,o3⟩:=k.over hp
  unfold cornerM at h
  split at h
  · cases h
  rename_i hd
  rw[o1]at hd h
  split at h
  rotate_left
  · cases h
  rename_i hk
  cases h
  have hs:=sign_of o2 o3 hd
  obtain⟨hl,hn⟩:=k.nums hp hd
  rw[hs.1]at hk ⊢
  have hpos:1≤((dP P p).natAbs:Int):=by omega
  obtain⟨g,g0,g1,g2,g3,g4⟩:=low_spec (l:=cornN L P.n (cI (P.idx p))) (o:=((dP P p).natAbs:Int)) (fun j hj=>by
    obtain⟨a,b,c⟩:=hn j (by omega)
    rw[a];omega) hpos (by omega)
  rw[hl]at g4
  have hf:=(k.keeps (nums:=cornN L P.n (cI (P.idx p))) (o:=((dP P p).natAbs:Int)) (fun j hj=>by
    obtain⟨a,b,c⟩:=hn j (by omega)
    rw[a];omega) (by omega) (by omega)).1 hk
  refine⟨⟨by simp[lowL,hl],g2,by show lowO _ _≤_;omega,fun j hj=>?_,by show 0<lowO _ _;omega,fun i hi=>?_⟩,hd,g,g0,g1,fun j hj=>?_⟩
  · have a:=g4 j hj
    obtain⟨b,c,d⟩:=hn j hj
    show _≤(lowL _ _).getD j 0∧(lowL _ _).getD j 0≤_
    rw[b]at a
    omega
  · have e:dt P.n (P.A i) (fn (cornN L P.n (cI (P.idx p))))=g*dt P.n (P.A i) (fn (lowL (cornN L P.n (cI (P.idx p))) ((dP P p).natAbs:Int))):=by
      rw[←Go.Lp.dt_mul_right]
      exact dt_congr (fun _ _=>rfl) fun j hj=>by
        have:=(g4 j hj).1
        show (cornN L P.n (cI (P.idx p))).getD j 0=g*(lowL _ _).getD j 0
        rw[←this,Int.mul_comm]
    have:=hf i hi
    rw[e]at this
    have e3:P.B i*((dP P p).natAbs:Int)=g*(P.B i*lowO (cornN L P.n (cI (P.idx p))) ((dP P p).natAbs:Int)):=by
      calc P.B i*((dP P p).natAbs:Int)=P.B i*(lowO (cornN L P.n (cI (P.idx p))) ((dP P p).natAbs:Int)*g):=by rw[g1]
        _=_:=by grind
    rw[e3]at this
    exact Int.le_of_mul_le_mul_left this g0
  · rw[(g4 j hj).1]
    exact (hn j hj).1
theorem Lk.corner_of {L:List Cond} {P:Lp.Sys} (k:Lk L P) {r:Rat} (h:r∈cornersM L P.n):Pt0 P r:=by
  obtain⟨set,hs,hr⟩:=List.mem_filterMap.1 h
  obtain⟨p,e,hp⟩:=choose_nat hs
  rw[←k.N]at e hp
  rw[e]at hr
  exact (k.corner_some hp hr).1
theorem Lk.corner_in {L:List Cond} {P:Lp.Sys} (k:Lk L P) {x:Nat→Int} {o:Int} (h:P.corner x o):∃r∈cornersM L P.n,∀j,j<P.n→r.1.getD j 0*o=r.2*x j:=by
  obtain⟨⟨o0,hf⟩,p,hp,ht,hd⟩:=h
  obtain⟨o1,o2,o3⟩:=k.over hp
  have hd:dP P p≠0:=hd
  have hs:=sign_of o2 o3 hd
  obtain⟨hl,hn⟩:=k.nums hp hd
  have cr:∀j,j<P.n→dK P p j*o=dP P p*x j:=fun j hj=>by
    have h:=Go.Lp.cramer k.n4 (exA P) (P.idx p) hp x o (fun i hi=>by
      have hi:=idx_lt hi
      rw[show exA P i P.n=P.B i from if_pos rfl,←ht i hi.1 hi.2]
      exact dt_congr (fun j hj=>if_neg (by omega)) fun _ _=>rfl) j hj
    have e:D ((P.idx p).map (exA P)) (List.range P.n)=dP P p:=D_congr _ _ _ _ fun i _ c hc=>if_neg (by have:=List.mem_range.1 hc;omega)
    rw[e]at h
    exact h
  have cr2:∀j,j<P.n→(dP P p).sign*dK P p j*o=(dP P p).natAbs*x j:=fun j hj=>by
    rw[Int.mul_assoc,cr j hj,←Int.mul_assoc,hs.2.2.1]
  have hk:keepsM L (cornN L P.n (cI (P.idx p))) ((dP P p).natAbs:Int)=true:=by
    refine (k.keeps (fun j hj=>?_) (by omega) (by omega)).2 fun i hi=>?_
    · obtain⟨a,b,c⟩:=hn j hj
      rw[a];omega
    · have e:o*dt P.n (P.A i) (fn (cornN L P.n (cI (P.idx p))))=(dP P p).natAbs*dt P.n (P.A i) x:=by
        rw[←Go.Lp.dt_mul_right,←Go.Lp.dt_mul_right]
        exact dt_congr (fun _ _=>rfl) fun j hj=>by
          show o*(cornN L P.n (cI (P.idx p))).getD j 0=_
          rw[(hn j hj).1,Int.mul_comm,cr2 j hj]
      refine Int.le_of_mul_le_mul_left ?_ o0
      rw[e,←Int.mul_assoc,Int.mul_comm o,Int.mul_comm]
      exact Int.mul_le_mul_of_nonneg_left (hf i hi) (by omega)
  have hsome:cornerM L P.n (cI (P.idx p))=some (lowL (cornN L P.n (cI (P.idx p))) ((dP P p).natAbs:Int),lowO (cornN L P.n (cI (P.idx p))) ((dP P p).natAbs:Int)):=by
    rw[cornerM,o1,if_neg hd,hs.1,if_pos hk]
  refine⟨_,List.mem_filterMap.2 ⟨_,choose_all L.length P.n p (by rw[←k.N];exact hp),by rw[←k.N];exact hsome⟩,fun j hj=>?_⟩
  obtain⟨_,_,g,g0,g1,g2⟩:=k.corner_some hp hsome
  have a:=g2 j hj
  have b:=cr2 j hj
  refine Int.eq_of_mul_eq_mul_left (show g≠0 by omega) ?_
  rw[←Int.mul_assoc,←Int.mul_assoc,Int.mul_comm g,Int.mul_comm g,a,g1,b]
def bR (n:Nat):Int:=if n≤3 then 2000000 else 24000000000000
theorem bR_in (n:Nat):0≤bR n∧bR n≤24000000000000:=by
  unfold bR
  split<;>decide
theorem fct_bR {m n:Nat} (h:m+1=n) (h4:n≤4):fct m≤bR n:=by
  subst h
  match m,h4 with
  |0,_=>decide
  |1,_=>decide
  |2,_=>decide
  |3,_=>decide
theorem Lk.ryX {L:List Cond} {P:Lp.Sys} (k:Lk L P) {p:Nat→Bool} (hp:(P.idx p).length+1=P.n) {j:Nat} (hj:j<P.n):rayX (rowsR L (cI (P.idx p))) P.n j=ry ((P.idx p).map P.A) P.n j∧-(bR P.n)≤ry ((P.idx p).map P.A) P.n j∧ry ((P.idx p).map P.A) P.n j≤bR P.n:=by
  have hcl:((List.range P.n).eraseIdx j).length=(P.idx p).length:=by
    rw[List.length_eraseIdx_of_lt (by rw[List.length_range];exact hj),List.length_range];omega
  have hcm:∀c∈(List.range P.n).eraseIdx j,c<P.n:=fun c hc=>List.mem_range.1 (List.mem_of_mem_eraseIdx hc)
  have e:rowsR L (cI (P.idx p))=(P.idx p).map fun i=>(cAt L i).1:=rows_map L (fun c=>c.1) _
  have e2:D (((P.idx p).map fun i=>(cAt L i).1).map fn) ((List.range P.n).eraseIdx j)=D ((P.idx p).map P.A) ((List.range P.n).eraseIdx j):=by
    rw[List.map_map]
    exact D_congr _ _ _ _ fun i hi c hc=>k.A i (idx_lt hi).1 c (hcm c hc)
  have hs:small ((P.idx p).map fun i=>(cAt L i).1) ((List.range P.n).eraseIdx j):=by
    intro r hr c hc
    obtain⟨i,hi,rfl⟩:=List.mem_map.1 hr
    have hi:=(idx_lt hi).1
    rw[k.A i hi c (hcm c hc)]
    exact k.sA i hi c (hcm c hc)
  obtain⟨d1,d2,d3⟩:=detC_D _ ((List.range P.n).eraseIdx j) (by rw[List.length_map,hcl]) (by rw[List.length_map];have:=k.n4;omega) hs
  have:=fct_bR hp k.n4
  have hbR:=bR_in P.n
  rw[List.length_map]at d2 d3
  rw[e2]at d1 d2 d3
  have e3:(placesL P.n).eraseIdx j=cI ((List.range P.n).eraseIdx j):=cI_erase _ _
  rw[rayX,e,e3,d1]
  show (if j % 2=1 then W (0-D ((P.idx p).map P.A) ((List.range P.n).eraseIdx j)) else D ((P.idx p).map P.A) ((List.range P.n).eraseIdx j))=sg j*D ((P.idx p).map P.A) ((List.range P.n).eraseIdx j)∧-(bR P.n)≤sg j*D ((P.idx p).map P.A) ((List.range P.n).eraseIdx j)∧sg j*D ((P.idx p).map P.A) ((List.range P.n).eraseIdx j)≤bR P.n
  unfold sg
  rcases Nat.mod_two_eq_zero_or_one j with h|h
  · rw[if_neg (by omega),if_pos h];omega
  · rw[if_pos h,if_neg (by omega),W_id (by omega) (by omega)];omega
structure Dr0 (P:Lp.Sys) (r:List Int):Prop where
  len:r.length=P.n
  nums:∀j,j<P.n→-(bR P.n)≤r.getD j 0∧r.getD j 0≤bR P.n
  dir:P.dir (fn r)
theorem Lk.keeps0 {L:List Cond} {P:Lp.Sys} (k:Lk L P) (hB:∀i,i<P.N→P.B i=0) {nums:List Int} (h1:∀j,j<P.n→-(bR P.n)≤nums.getD j 0∧nums.getD j 0≤bR P.n):keepsM L nums 1=true↔P.dir (fn nums):=by
  have hbR:=bR_in P.n
  rw[k.keeps (fun j hj=>by have:=h1 j hj;omega) (by decide) (by decide)]
  constructor
  · intro h i hi
    have:=h i hi
    rw[hB i hi]at this
    omega
  · intro h i hi
    have:=h i hi
    rw[hB i hi]
    omega
theorem Lk.rays {L:List Cond} {P:Lp.Sys} (k:Lk L P) (hB:∀i,i<P.N→P.B i=0) {p:Nat→Bool} (hp:(P.idx p).length+1=P.n) (hz:(∃j,j<P.n∧ry ((P.idx p).map P.A) P.n j≠0)∨0<divM (rayL (rowsR L (cI (P.idx p))) P.n)):
    ∃g:Int,0<g∧0<divM (rayL (rowsR L (cI (P.idx p))) P.n) ∧
      ((ray0 L P.n (cI (P.idx p))).length=P.n∧∀j,j<P.n→(ray0 L P.n (cI (P.idx p))).getD j 0*g=ry ((P.idx p).map P.A) P.n j∧-(bR P.n)≤(ray0 L P.n (cI (P.idx p))).getD j 0∧(ray0 L P.n (cI (P.idx p))).getD j 0≤bR P.n) ∧
      ((ray1 L P.n (cI (P.idx p))).length=P.n∧∀j,j<P.n→(ray1 L P.n (cI (P.idx p))).getD j 0*g = -(ry ((P.idx p).map P.A) P.n j)∧-(bR P.n)≤(ray1 L P.n (cI (P.idx p))).getD j 0∧(ray1 L P.n (cI (P.idx p))).getD j 0≤bR P.n):=by
  have hlen:=rayL_len (rowsR L (cI (P.idx p))) P.n
  have hbR:=bR_in P.n
  have hget:∀j,j<P.n→(rayL (rowsR L (cI (P.idx p))) P.n).getD j 0=ry ((P.idx p).map P.A) P.n j:=fun j hj=>by rw[rayL_get _ _ _ hj];exact (k.ryX hp hj).1
  have hb:∀j,j<(rayL (rowsR L (cI (P.idx p))) P.n).length→-9223372036854775808<(rayL (rowsR L (cI (P.idx p))) P.n).getD j 0∧(rayL (rowsR L (cI (P.idx p))) P.n).getD j 0≤9223372036854775807:=fun j hj=>by
    have:=(k.ryX hp (j:=j) (by omega)).2
    rw[hget j (by omega)];omega
  have hg0:0<divM (rayL (rowsR L (cI (P.idx p))) P.n):=by
    rcases hz with⟨j,hj,h⟩|h
    · refine Nat.pos_of_ne_zero fun e=>h ?_
      have:=divN_zero _ (Nat.le_refl _) e hb j (by omega)
      rw[hget j hj]at this
      exact this
    · exact h
  have hm:max1 (divM (rayL (rowsR L (cI (P.idx p))) P.n):Int)=(divM (rayL (rowsR L (cI (P.idx p))) P.n):Int):=by
    unfold max1
    split<;>omega
  have hd:=divM_dvd hb
  refine⟨(divM (rayL (rowsR L (cI (P.idx p))) P.n):Int),by omega,hg0,⟨by rw[ray0,divX_len,hlen],fun j hj=>?_⟩,by rw[ray1,divX_len,negW_len,hlen],fun j hj=>?_⟩
  · have b:=(k.ryX hp hj).2
    have d:=hd j (by omega)
    rw[hget j hj]at d
    have t:=tdiv_dvd (g:=(divM (rayL (rowsR L (cI (P.idx p))) P.n):Int)) (by omega) d (by omega) (by omega)
    rw[ray0,divX_get _ _ _ (by omega),hm,hget j hj]
    omega
  · have b:=(k.ryX hp hj).2
    have d:=hd j (by omega)
    rw[hget j hj]at d
    have t:=tdiv_dvd (x:=-(ry ((P.idx p).map P.A) P.n j)) (g:=(divM (rayL (rowsR L (cI (P.idx p))) P.n):Int)) (by omega) (Int.dvd_neg.2 d) (by omega) (by omega)
    rw[ray1,divX_get _ _ _ (by rw[negW_len];omega),hm,negW_get _ _ (by omega),hget j hj,W_id (x:=0-ry ((P.idx p).map P.A) P.n j) (by omega) (by omega),show 0-ry ((P.idx p).map P.A) P.n j = -(ry ((P.idx p).map P.A) P.n j) by omega]
    omega
theorem Lk.ray_of {L:List Cond} {P:Lp.Sys} (k:Lk L P) (hB:∀i,i<P.N→P.B i=0) (h0:0<P.n) {r:List Int} (h:r∈raysM L P.n):Dr0 P r:=by
  obtain⟨set,hs,hr⟩:=List.mem_flatMap.1 h
  obtain⟨p,e,hp⟩:=choose_nat hs
  rw[←k.N]at e hp
  have e:set=cI (P.idx p):=e
  have hp:(P.idx p).length=P.n-1:=hp
  rw[e]at hr
  unfold raysOf rayOk at hr
  have key:∀x,(bif decide ((divM (rayL (rowsR L (cI (P.idx p))) P.n):Int)>0)&&keepsM L x 1 then [x] else [])=[x]∨(bif decide ((divM (rayL (rowsR L (cI (P.idx p))) P.n):Int)>0)&&keepsM L x 1 then [x] else [])=[]:=fun x=>by
    cases decide ((divM (rayL (rowsR L (cI (P.idx p))) P.n):Int)>0)&&keepsM L x 1
    · exact .inr rfl
    · exact .inl rfl
  have hx:∀x,r∈(bif decide ((divM (rayL (rowsR L (cI (P.idx p))) P.n):Int)>0)&&keepsM L x 1 then [x] else [])→r=x∧0<divM (rayL (rowsR L (cI (P.idx p))) P.n)∧keepsM L x 1=true:=fun x hm=>by
    cases hq:decide ((divM (rayL (rowsR L (cI (P.idx p))) P.n):Int)>0)&&keepsM L x 1 with
    |false=>rw[hq]at hm;cases hm
    |true=>
      rw[hq]at hm
      have hm:r=x:=by simpa using hm
      rw[Bool.and_eq_true]at hq
      have:=of_decide_eq_true hq.1
      exact⟨hm,by omega,hq.2⟩
  rcases List.mem_append.1 hr with hr|hr
  · obtain⟨rfl,hg,hk⟩:=hx _ hr
    obtain⟨g,g0,g1,⟨l0,r0⟩,_⟩:=k.rays hB (p:=p) (by omega) (.inr hg)
    exact⟨l0,fun j hj=>(r0 j hj).2,(k.keeps0 hB fun j hj=>(r0 j hj).2).1 hk⟩
  · obtain⟨rfl,hg,hk⟩:=hx _ hr
    obtain⟨g,g0,g1,_,l0,r0⟩:=k.rays hB (p:=p) (by omega) (.inr hg)
    exact⟨l0,fun j hj=>(r0 j hj).2,(k.keeps0 hB fun j hj=>(r0 j hj).2).1 hk⟩
theorem Lk.ray_in {L:List Cond} {P:Lp.Sys} (k:Lk L P) (hB:∀i,i<P.N→P.B i=0) {r:Nat→Int} (h:P.ray r):∃x∈raysM L P.n,∃g:Int,0<g∧∀j,j<P.n→x.getD j 0*g=r j:=by
  obtain⟨hd,p,hp,hz,hr⟩:=h
  obtain⟨g,g0,g1,⟨l0,r0⟩,l1,r1⟩:=k.rays hB hp (.inl hz)
  have hin:∀x,x=ray0 L P.n (cI (P.idx p))∨x=ray1 L P.n (cI (P.idx p))→keepsM L x 1=true→x∈raysM L P.n:=fun x hx hk=>by
    refine List.mem_flatMap.2 ⟨_,choose_all L.length (P.n-1) p (by rw[←k.N];show (P.idx p).length=_;omega),?_⟩
    rw[←k.N]
    show x∈raysOf L P.n (cI (P.idx p))
    have ok:rayOk L P.n (cI (P.idx p)) x=true:=by
      rw[rayOk,hk,Bool.and_true]
      exact decide_eq_true (by omega)
    rw[raysOf]
    rcases hx with rfl|rfl
    · rw[ok]
      exact List.mem_append_left _ List.mem_cons_self
    · rw[ok]
      exact List.mem_append_right _ List.mem_cons_self
  have dirOf:∀x:List Int,(∀j,j<P.n→x.getD j 0*g=r j)→P.dir (fn x):=fun x hx i hi=>by
    have e:dt P.n (P.A i) r=g*dt P.n (P.A i) (fn x):=by
      rw[←Go.Lp.dt_mul_right]
      exact dt_congr (fun _ _=>rfl) fun j hj=>by rw[←hx j hj,Int.mul_comm];rfl
    have:=hd i hi
    rw[e]at this
    exact Int.nonneg_of_mul_nonneg_right this g0
  rcases hr with hr|hr
  · have hx:∀j,j<P.n→(ray0 L P.n (cI (P.idx p))).getD j 0*g=r j:=fun j hj=>by rw[(r0 j hj).1,hr j hj]
    exact⟨_,hin _ (.inl rfl) ((k.keeps0 hB fun j hj=>(r0 j hj).2).2 (dirOf _ hx)),g,g0,hx⟩
  · have hx:∀j,j<P.n→(ray1 L P.n (cI (P.idx p))).getD j 0*g=r j:=fun j hj=>by rw[(r1 j hj).1,hr j hj]
    exact⟨_,hin _ (.inr rfl) ((k.keeps0 hB fun j hj=>(r1 j hj).2).2 (dirOf _ hx)),g,g0,hx⟩
end Go.Proofs.Ytafhnfcahhlanaa
namespace Go.Proofs.Ytafhnfcahhlanaa
open Go.Sx Go.RowKit
open Go.Lp (S D dt sg ex ry un)
theorem check_rows {p:Prob} (h:checkM p=0):∀i,i<p.rows.length→∀k,k<p.obj.length→-1000≤(p.rows.getD i []).getD k 0∧(p.rows.getD i []).getD k 0≤1000:=by
  obtain⟨n0,n3,m4,hll,hrl⟩:=check_ok h
  unfold checkM at h
  split at h
  · cases h
  split at h
  · cases h
  split at h
  · cases h
  split at h
  · cases h
  split at h
  · cases h
  rename_i g5
  intro i hi k hk
  have hm:p.rows.getD i []∈p.rows:=by
    rw[List.getD_eq_getElem?_getD,List.getElem?_eq_getElem hi]
    exact List.getElem_mem hi
  exact badB2_no (anyI_no (q:=badB2) (by
    have:=anyRow_no g5 _ hm
    unfold anyBad at this
    unfold anyI
    rw[this];decide) k (by rw[hrl _ hm];exact hk))
def lpOf (p:Prob):Lp.LP:=⟨p.obj.length,p.rows.length,fun i j=>(p.rows.getD i []).getD j 0,fun i=>p.lim.getD i 0,fun j=>p.obj.getD j 0⟩
theorem cAt_left {α β:Type} (f:Nat→Cond) (g:Nat→Cond) (n m i:Nat) (h:i<n):cAt ((List.range n).map f++(List.range m).map g) i=f i:=by
  rw[cAt,List.getD_eq_getElem?_getD,List.getElem?_append_left (by simp;exact h)]
  simp[List.getElem?_range h]
theorem cAt_right (f:Nat→Cond) (g:Nat→Cond) (n m i:Nat) (h:n≤i) (h2:i<n+m):cAt ((List.range n).map f++(List.range m).map g) i=g (i-n):=by
  rw[cAt,List.getD_eq_getElem?_getD,List.getElem?_append_right (by simp;exact h)]
  simp[List.getElem?_range (show i-n<m by omega)]
theorem unitL_get (n p j:Nat) (h:j<n):(unitL n p).getD j 0=un p j:=by
  simp[unitL,List.getD_eq_getElem?_getD,List.getElem?_map,List.getElem?_range h,un]
theorem un_in (p j:Nat) : -1000≤un p j∧un p j≤1000:=by
  unfold un;split<;>decide
theorem colL_g (p:Prob) (k i:Nat) (h:i<p.rows.length):(colL p k).getD i 0=(p.rows.getD i []).getD k 0:=by
  simp[colL,List.getD_eq_getElem?_getD,List.getElem?_map,List.getElem?_eq_getElem h]
theorem lkP {p:Prob} (h:checkM p=0) (f:Int) (hf:f=0∨f=1) (P:Lp.Sys) (e1:P.n=(lpOf p).P.n) (e2:P.N=(lpOf p).P.N) (e3:P.A=(lpOf p).P.A) (e4:∀k,P.B k=f*(lpOf p).P.B k):Lk (primalM p f) P:=by
  obtain⟨n0,n3,m4,hll,hrl⟩:=check_ok h
  obtain⟨hobj,hlim⟩:=check_obj h
  have hrows:=check_rows h
  have hN:P.N=p.obj.length+p.rows.length:=e2
  have hn:P.n=p.obj.length:=e1
  have hA:∀k,P.A k=if k<p.obj.length then un k else fun j=>-((p.rows.getD (k-p.obj.length) []).getD j 0):=fun k=>by rw[e3];rfl
  have hB:∀k,P.B k=f*(if k<p.obj.length then 0 else -(p.lim.getD (k-p.obj.length) 0)):=fun k=>by rw[e4];rfl
  have hlen:∀i,i<p.rows.length→(p.rows.getD i []).length=p.obj.length:=fun i hi=>by
    rw[List.getD_eq_getElem?_getD,List.getElem?_eq_getElem hi]
    exact hrl _ (List.getElem_mem hi)
  refine⟨by omega,by omega,by rw[hN,primalM_len],fun k hk=>?_,fun k hk j hj=>?_,fun k hk=>?_,fun k hk j hj=>?_,fun k hk=>?_⟩
  · rw[hn]
    by_cases q:k<p.obj.length
    · rw[primalM,cAt_left (α:=Int) (β:=Int) _ _ _ _ _ q];exact unitL_len _ _
    · rw[primalM,cAt_right _ _ _ _ _ (by omega) (by omega),negRow,negW_len];exact hlen _ (by omega)
  · rw[hA]
    by_cases q:k<p.obj.length
    · rw[primalM,cAt_left (α:=Int) (β:=Int) _ _ _ _ _ q,if_pos q];exact unitL_get _ _ _ (by omega)
    · have b:=hrows (k-p.obj.length) (by omega) j (by omega)
      rw[primalM,cAt_right _ _ _ _ _ (by omega) (by omega),if_neg q,negRow]
      show (negW _).getD j 0=_
      rw[negW_get _ _ (by rw[hlen _ (by omega)];omega),W_id (by omega) (by omega)];omega
  · rw[hB]
    by_cases q:k<p.obj.length
    · rw[primalM,cAt_left (α:=Int) (β:=Int) _ _ _ _ _ q,if_pos q];omega
    · have b:=hlim (k-p.obj.length) (by omega)
      rw[primalM,cAt_right _ _ _ _ _ (by omega) (by omega),if_neg q,negRow]
      show W (W (0-f)*_)=_
      rcases hf with rfl|rfl
      · rw[show W (0-0)=0 by decide,Int.zero_mul,Int.zero_mul];decide
      · rw[show W (0-1) = -1 by decide,W_id (by omega) (by omega)];omega
  · rw[hA]
    split
    · exact un_in _ _
    · have b:=hrows (k-p.obj.length) (by omega) j (by omega)
      show -1000≤-(_)∧-(_)≤(1000:Int)
      omega
  · rw[hB]
    split
    · omega
    · have b:=hlim (k-p.obj.length) (by omega)
      rcases hf with rfl|rfl<;>omega
theorem lkP1 {p:Prob} (h:checkM p=0):Lk (primalM p 1) (lpOf p).P:=lkP h 1 (.inr rfl) _ rfl rfl rfl fun k=>(Int.one_mul _).symm
theorem lkP0 {p:Prob} (h:checkM p=0):Lk (primalM p 0) (lpOf p).P.hom:=lkP h 0 (.inl rfl) _ rfl rfl rfl fun k=>(Int.zero_mul _).symm
theorem lkQ {p:Prob} (h:checkM p=0) (f:Int) (hf:f=0∨f=1) (P:Lp.Sys) (e1:P.n=(lpOf p).Q.n) (e2:P.N=(lpOf p).Q.N) (e3:P.A=(lpOf p).Q.A) (e4:∀k,P.B k=f*(lpOf p).Q.B k):Lk (dualM p f) P:=by
  obtain⟨n0,n3,m4,hll,hrl⟩:=check_ok h
  obtain⟨hobj,hlim⟩:=check_obj h
  have hrows:=check_rows h
  have hN:P.N=p.rows.length+p.obj.length:=e2
  have hn:P.n=p.rows.length:=e1
  have hA:∀k,P.A k=if k<p.rows.length then un k else fun i=>(p.rows.getD i []).getD (k-p.rows.length) 0:=fun k=>by rw[e3];rfl
  have hB:∀k,P.B k=f*(if k<p.rows.length then 0 else p.obj.getD (k-p.rows.length) 0):=fun k=>by rw[e4];rfl
  refine⟨by omega,by omega,by rw[hN,dualM_len],fun k hk=>?_,fun k hk j hj=>?_,fun k hk=>?_,fun k hk j hj=>?_,fun k hk=>?_⟩
  · rw[hn]
    by_cases q:k<p.rows.length
    · rw[dualM,cAt_left (α:=Int) (β:=Int) _ _ _ _ _ q];exact unitL_len _ _
    · rw[dualM,cAt_right _ _ _ _ _ (by omega) (by omega),colM];exact colL_len _ _
  · rw[hA]
    by_cases q:k<p.rows.length
    · rw[dualM,cAt_left (α:=Int) (β:=Int) _ _ _ _ _ q,if_pos q];exact unitL_get _ _ _ (by omega)
    · rw[dualM,cAt_right _ _ _ _ _ (by omega) (by omega),if_neg q,colM]
      exact colL_g _ _ _ (by omega)
  · rw[hB]
    by_cases q:k<p.rows.length
    · rw[dualM,cAt_left (α:=Int) (β:=Int) _ _ _ _ _ q,if_pos q];omega
    · have b:=hobj (k-p.rows.length) (by omega)
      rw[dualM,cAt_right _ _ _ _ _ (by omega) (by omega),if_neg q,colM]
      show W (f*_)=_
      rcases hf with rfl|rfl
      · rw[Int.zero_mul];decide
      · rw[W_id (by omega) (by omega)]
  · rw[hA]
    split
    · exact un_in _ _
    · exact hrows j (by omega) (k-p.rows.length) (by omega)
  · rw[hB]
    split
    · omega
    · have b:=hobj (k-p.rows.length) (by omega)
      rcases hf with rfl|rfl<;>omega
theorem lkQ1 {p:Prob} (h:checkM p=0):Lk (dualM p 1) (lpOf p).Q:=lkQ h 1 (.inr rfl) _ rfl rfl rfl fun k=>(Int.one_mul _).symm
theorem lkQ0 {p:Prob} (h:checkM p=0):Lk (dualM p 0) (lpOf p).Q.hom:=lkQ h 0 (.inl rfl) _ rfl rfl rfl fun k=>(Int.zero_mul _).symm
theorem Lk.cornOk {L:List Cond} {P:Lp.Sys} (k:Lk L P):CornOk L P.n:=by
  intro set hs ho hk
  obtain⟨p,e,hp⟩:=choose_nat hs
  rw[←k.N]at e hp
  have e:set=cI (P.idx p):=e
  subst e
  obtain⟨o1,o2,o3⟩:=k.over hp
  rw[o1]at ho ⊢
  have s:=sign_of o2 o3 ho
  obtain⟨hl,hn⟩:=k.nums hp ho
  rw[s.1]
  have:=(gL_spec (l:=cornN L P.n (cI (P.idx p))) (o:=((dP P p).natAbs:Int)) (fun j hj=>by
    obtain⟨a,b,c⟩:=hn j (by omega)
    rw[a];omega) (by omega) (by omega)).1
  omega
theorem Lk.bestOk {L:List Cond} {P:Lp.Sys} (k:Lk L P) {by_:List Int} (hl:by_.length=P.n) (hb:∀j,j<P.n→-1000≤by_.getD j 0∧by_.getD j 0≤1000):BestOk by_ L P.n:=by
  intro x hx
  have q:=k.corner_of hx
  have:=dot_small (a:=by_) (b:=x.1) (n:=P.n) (by have:=k.n4;omega) hl q.len hb (fun j hj=>by have:=q.nums j hj;omega)
  refine⟨by omega,fun j hj=>?_⟩
  have:=q.nums j (by rw[←q.len];exact hj)
  omega
theorem negW_in {l:List Int} (h:∀j,j<l.length→-1000≤l.getD j 0∧l.getD j 0≤1000):∀j,j<l.length→(negW l).getD j 0 = -(l.getD j 0):=fun j hj=>by
  have:=h j hj
  rw[negW_get _ _ hj,W_id (by omega) (by omega)];omega
theorem zerosL_get (n j:Nat):(zerosL n).getD j 0=0:=by
  unfold zerosL
  rw[List.getD_eq_getElem?_getD,List.getElem?_replicate]
  split<;>rfl
theorem fine_of {p:Prob} (h:checkM p=0):Fine p:=by
  obtain⟨n0,n3,m4,hll,hrl⟩:=check_ok h
  obtain⟨hobj,hlim⟩:=check_obj h
  refine⟨(lkP1 h).cornOk,(lkP1 h).bestOk (by simp[zerosL];rfl) (fun j _=>by rw[zerosL_get];decide),(lkP1 h).bestOk rfl hobj,(lkQ1 h).cornOk,(lkQ1 h).bestOk (by rw[negW_len,hll];rfl) (fun j hj=>?_)⟩
  have hj:j<p.rows.length:=hj
  have:=hlim j (by omega)
  rw[negW_in hlim j (by omega)]
  omega
theorem sgnU_pos {p q:Nat}:sgnU p q>0↔q<p:=by
  unfold sgnU
  split
  · omega
  · split<;>omega
theorem cmp_pos {v w o q:Int} (h1 : -4611686018427387904<v) (h2:v<4611686018427387904) (h3:1≤o) (h4:o<4611686018427387904) (h5 : -4611686018427387904<w) (h6:w<4611686018427387904) (h7:1≤q) (h8:q<4611686018427387904):
    cmpM v o w q>0↔w*o<v*q:=by
  obtain⟨O,rfl⟩:∃O:Nat,o=O:=⟨o.toNat,by omega⟩
  obtain⟨Q,rfl⟩:∃Q:Nat,q=Q:=⟨q.toNat,by omega⟩
  by_cases ha:v<0
  · by_cases hc:w<0
    · obtain⟨V,hV⟩:∃V:Nat,v = -(V:Int):=⟨(-v).toNat,by omega⟩
      obtain⟨X,hX⟩:∃X:Nat,w = -(X:Int):=⟨(-w).toNat,by omega⟩
      subst hV hX
      have w1:W (0 - -(V:Int))=(V:Int):=by rw[show (0 - -(V:Int))=(V:Int) by omega];exact IntWalk.i64_in _ (by omega)
      have w2:W (0 - -(X:Int))=(X:Int):=by rw[show (0 - -(X:Int))=(X:Int) by omega];exact IntWalk.i64_in _ (by omega)
      rw[cmpM,if_pos ⟨ha,hc⟩,w1,w2,cmp0,if_neg (by omega),if_neg (by omega),cmpU,toU_nat _ (by omega),toU_nat _ (by omega),toU_nat _ (by omega),toU_nat _ (by omega),sgnU_pos,Int.neg_mul,Int.neg_mul]
      constructor
      · intro e
        have:(V:Int)*Q<X*O:=by exact_mod_cast e
        omega
      · intro e
        have:(V:Int)*Q<X*O:=by omega
        exact_mod_cast this
    · rw[cmpM,if_neg (by omega),cmp0,if_pos ha]
      have p1:v*Q<0:=Int.mul_neg_of_neg_of_pos ha (by omega)
      have p2:0≤w*O:=Int.mul_nonneg (by omega) (by omega)
      omega
  · by_cases hc:w<0
    · rw[cmpM,if_neg (by omega),cmp0,if_neg ha,if_pos hc]
      have p1:w*O<0:=Int.mul_neg_of_neg_of_pos hc (by omega)
      have p2:0≤v*Q:=Int.mul_nonneg (by omega) (by omega)
      omega
    · obtain⟨V,rfl⟩:∃V:Nat,v=V:=⟨v.toNat,by omega⟩
      obtain⟨X,rfl⟩:∃X:Nat,w=X:=⟨w.toNat,by omega⟩
      rw[cmpM,if_neg (by omega),cmp0,if_neg ha,if_neg hc,cmpU,toU_nat _ (by omega),toU_nat _ (by omega),toU_nat _ (by omega),toU_nat _ (by omega),sgnU_pos]
      constructor
      · intro e
        exact_mod_cast e
      · intro e
        exact_mod_cast e
theorem frac_trans {a b c o q s:Int} (ho:0<o) (hq:0<q) (hs:0<s) (h1:a*q≤b*o) (h2:b*s≤c*q):a*s≤c*o:=by
  have e1:a*s*q≤b*s*o:=by
    have:=Int.mul_le_mul_of_nonneg_right h1 (show 0≤s by omega)
    grind
  have e2:b*s*o≤c*o*q:=by
    have:=Int.mul_le_mul_of_nonneg_right h2 (show 0≤o by omega)
    grind
  exact Int.le_of_mul_le_mul_right (Int.le_trans e1 e2) hq
theorem bestM_max {by_:List Int} {xs:List Rat} (hx:∀x∈xs,-4611686018427387904<dotL by_ x.1∧dotL by_ x.1<4611686018427387904∧1≤x.2∧x.2<4611686018427387904):
    ∀s:List Rat,(∀x∈s,x∈xs)→(s=[]∧bestM by_ s=none)∨∃b,bestM by_ s=some b∧b∈s∧∀x∈s,dotL by_ x.1*b.2≤dotL by_ b.1*x.2:=by
  have key:∀s:List Rat,(∀x∈s.reverse,x∈xs)→(s=[]∧bestM by_ s.reverse=none)∨∃b,bestM by_ s.reverse=some b∧b∈s∧∀x∈s,dotL by_ x.1*b.2≤dotL by_ b.1*x.2:=by
    intro s
    induction s with
    |nil=>exact fun _=>.inl ⟨rfl,rfl⟩
    |cons y s ih=>
      intro hs
      right
      rw[List.reverse_cons,bestM_snoc]
      have hy:=hx y (hs y (by simp))
      rcases ih (fun x h=>hs x (by simp at h ⊢;exact .inl h)) with⟨e,hn⟩|⟨b,hb,hm,hmax⟩
      · rw[hn,bstep,if_pos (takes_none _ _)]
        refine⟨y,rfl,List.mem_cons_self,fun x hxm=>?_⟩
        rw[e]at hxm
        have:x=y:=by simpa using hxm
        rw[this];exact Int.le_refl _
      · have hbx:=hx b (hs b (by simp;exact .inl hm))
        have hcur:cur (some b)=b:=rfl
        have hc:cOf by_ (some b) y=cmpM (dotL by_ y.1) y.2 (dotL by_ b.1) b.2:=rfl
        rw[hb,bstep]
        split
        · rename_i ht
          refine⟨y,rfl,List.mem_cons_self,fun x hxm=>?_⟩
          have hle:dotL by_ b.1*y.2≤dotL by_ y.1*b.2:=by
            rw[takes,hc,Bool.or_eq_true,Bool.and_eq_true]at ht
            rcases ht with ht|ht
            · have:=(cmp_pos hy.1 hy.2.1 hy.2.2.1 hy.2.2.2 hbx.1 hbx.2.1 hbx.2.2.1 hbx.2.2.2).1 (of_decide_eq_true ht)
              omega
            · have:=(cmp_zero hy.1 hy.2.1 hy.2.2.1 hy.2.2.2 hbx.1 hbx.2.1 hbx.2.2.1 hbx.2.2.2).1 ht.1
              omega
          rcases List.mem_cons.1 hxm with rfl|hxm
          · exact Int.le_refl _
          · have hxx:=hx x (hs x (by simp;exact .inl hxm))
            exact frac_trans (by omega) (by omega) (by omega) (hmax x hxm) hle
        · rename_i ht
          refine⟨b,rfl,List.mem_cons_of_mem _ hm,fun x hxm=>?_⟩
          rcases List.mem_cons.1 hxm with rfl|hxm
          · have hn:¬(dotL by_ b.1*x.2<dotL by_ x.1*b.2):=fun hlt=>ht (by
              rw[takes,hc,Bool.or_eq_true]
              exact .inl (decide_eq_true ((cmp_pos hy.1 hy.2.1 hy.2.2.1 hy.2.2.2 hbx.1 hbx.2.1 hbx.2.2.1 hbx.2.2.2).2 hlt)))
            omega
          · exact hmax x hxm
  intro s hs
  have:=key s.reverse (by simpa using hs)
  simpa using this
theorem leastM_some {wm:List Int→Bool} {n:Nat}:∀s:List (List Int),((leastM wm n s).isSome=true↔∃x∈s,wm x=true)∧∀x,leastM wm n s=some x→wm x=true:=by
  have key:∀s:List (List Int),((leastM wm n s.reverse).isSome=true↔∃x∈s,wm x=true)∧∀x,leastM wm n s.reverse=some x→wm x=true:=by
    intro s
    induction s with
    |nil=>exact⟨⟨fun h=>(by cases h),fun⟨x,h,_⟩=>(by cases h)⟩,fun x h=>(by cases h)⟩
    |cons y s ih=>
      obtain⟨i1,i2⟩:=ih
      rw[List.reverse_cons,leastM_snoc,lstep]
      split
      · rename_i ht
        rw[takeL,Bool.and_eq_true]at ht
        exact⟨⟨fun _=>⟨y,List.mem_cons_self,ht.1⟩,fun _=>rfl⟩,fun x h=>by cases h;exact ht.1⟩
      · rename_i ht
        refine⟨⟨fun h=>?_,fun⟨x,hx,hw⟩=>?_⟩,i2⟩
        · obtain⟨x,hx,hw⟩:=i1.1 h
          exact⟨x,List.mem_cons_of_mem _ hx,hw⟩
        · rcases List.mem_cons.1 hx with rfl|hx
          · cases ho:leastM wm n s.reverse with
            |some _=>rfl
            |none=>exact absurd (by rw[takeL,hw,ho];rfl) ht
          · exact i1.2 ⟨x,hx,hw⟩
  intro s
  have:=key s.reverse
  simpa using this
end Go.Proofs.Ytafhnfcahhlanaa
namespace Go.Proofs.Ytafhnfcahhlanaa
open Go.Sx Go.RowKit
open Go.Lp (S D dt sg ex ry un)
theorem dot_obj {p:Prob} (hc:checkM p=0) {l:List Int} {o:Int} (hi:inM l o=true) (hl:l.length=p.obj.length):dotL p.obj l=dt (lpOf p).n (lpOf p).c (fn l):=by
  obtain⟨n0,n3,m4,hll,hrl⟩:=check_ok hc
  exact dot_S (n:=p.obj.length) (by omega) rfl (check_obj hc).1 fun k hk=>inM_nums hi k (by rw[hl];exact hk)
theorem dot_lim {p:Prob} (hc:checkM p=0) {l:List Int} {o:Int} (hi:inM l o=true) (hl:l.length=p.rows.length):dotL p.lim l=dt (lpOf p).m (lpOf p).b (fn l):=by
  obtain⟨n0,n3,m4,hll,hrl⟩:=check_ok hc
  exact dot_S (n:=p.rows.length) (by omega) hll (fun k hk=>(check_obj hc).2 k (by omega)) fun k hk=>inM_nums hi k (by rw[hl];exact hk)
theorem corners_small {p:Prob} (hc:checkM p=0) (by_:List Int) (hl:by_.length=p.obj.length) (hb:∀j,j<p.obj.length→-1000≤by_.getD j 0∧by_.getD j 0≤1000):∀x∈cornersM (primalM p 1) p.obj.length,-4611686018427387904<dotL by_ x.1∧dotL by_ x.1<4611686018427387904∧1≤x.2∧x.2<4611686018427387904:=by
  obtain⟨n0,n3,m4,hll,hrl⟩:=check_ok hc
  intro x hx
  have q:=(lkP1 hc).corner_of hx
  have:=dot_small (a:=by_) (b:=x.1) (n:=p.obj.length) (by omega) hl q.len hb (fun j hj=>by have:=q.nums j hj;omega)
  have:=q.o1
  have:=q.o2
  omega
theorem duals_small {p:Prob} (hc:checkM p=0) (by_:List Int) (hl:by_.length=p.rows.length) (hb:∀j,j<p.rows.length→-1000≤by_.getD j 0∧by_.getD j 0≤1000):∀x∈cornersM (dualM p 1) p.rows.length,-4611686018427387904<dotL by_ x.1∧dotL by_ x.1<4611686018427387904∧1≤x.2∧x.2<4611686018427387904:=by
  obtain⟨n0,n3,m4,hll,hrl⟩:=check_ok hc
  intro x hx
  have q:=(lkQ1 hc).corner_of hx
  have:=dot_small (a:=by_) (b:=x.1) (n:=p.rows.length) (by omega) hl q.len hb (fun j hj=>by have:=q.nums j hj;omega)
  have:=q.o1
  have:=q.o2
  omega
theorem best_mem {by_:List Int} {L:List Cond} {n:Nat} {b:Rat} (h:bestM by_ (cornersM L n)=some b):b∈cornersM L n:=bestM_mem by_ _ _ (fun _ h=>h) b h
theorem first_iff {p:Prob} (hc:checkM p=0):(firstM p).isSome=true↔∃x o,(lpOf p).P.feas x o:=by
  obtain⟨n0,n3,m4,hll,hrl⟩:=check_ok hc
  constructor
  · intro h
    obtain⟨b,hb⟩:=Option.isSome_iff_exists.1 h
    have q:=(lkP1 hc).corner_of (best_mem hb)
    exact⟨_,_,q.feas⟩
  · rintro⟨x,o,hx⟩
    have hne:cornersM (primalM p 1) p.obj.length≠[]:=by
      rcases (lpOf p).P.to_corner ((lpOf p).P_ok (show p.obj.length≤4 by omega)) (fun _=>0) x o hx with⟨x',o',hco,_⟩|⟨d,_,h⟩
      · obtain⟨r,hr,_⟩:=(lkP1 hc).corner_in hco
        intro e
        have hr:r∈cornersM (primalM p 1) p.obj.length:=hr
        rw[e]at hr
        cases hr
      · have:dt (lpOf p).P.n (fun _=>0) d=0:=Go.Lp.S_zero fun j _=>Int.zero_mul _
        omega
    rcases bestM_max (by_:=zerosL p.obj.length) (corners_small hc _ (by simp[zerosL]) fun j _=>by rw[zerosL_get];decide) _ (fun _ h=>h) with⟨e,_⟩|⟨b,hb,_⟩
    · exact absurd e hne
    · rw[firstM,hb];rfl
theorem first_rows {p:Prob} (hc:checkM p=0) (hf:(firstM p).isSome=false):0<p.rows.length:=by
  rcases Nat.eq_zero_or_pos p.rows.length with e|e
  · exfalso
    have:(firstM p).isSome=true:=(first_iff hc).2 ⟨fun _=>0,1,by decide,fun i hi=>by
      have hi:i<p.obj.length+p.rows.length:=hi
      show (if i<p.obj.length then 0 else _)*1≤_
      rw[if_pos (by omega)]
      rw[Go.Lp.dt_zero _ _ _ fun _ _=>rfl]
      decide⟩
    rw[hf]at this
    cases this
  · exact e
end Go.Proofs.Ytafhnfcahhlanaa
set_option maxRecDepth 8000
set_option maxHeartbeats 2000000
namespace Go.Proofs.Ytafhnfcahhlanaa
open Go.Sx Go.RowKit
theorem solveC (p:Prob) (pv:Value) (vs0:Nat→Value) (w:World) (hp:ProbAt w pv p vs0) (h1:p.obj.length≤100000) (h2:p.rows.length≤100000) (h3:p.lim.length≤100000) (h4:∀r∈p.rows,r.length≤100000):
    Calls Try.prog 11 #[pv] w fun e w'=>∃u:Cho,e=.returned (solV (solveM p) u)∧Below w.heap.size w w'∧solR (solveM p) u w'∧(∀k,solS (solveM p) u k→w.heap.size≤k∧k<w'.heap.size)∧Steady (solS (solveM p) u) (solR (solveM p) u):=
  (solve_any p pv vs0 w hp h1 h2 h3 h4 (fun hc hf=>first_rows hc hf) fun hc=>fine_of hc).mono fun e w' h=>h.cho
end Go.Proofs.Ytafhnfcahhlanaa
namespace Go.Proofs.Ytafhnfcahhlanaa
open Go.Sx Go.RowKit
open Go.Lp (S D dt sg ex ry un)
def mx (o:Int):Int:=if 1>o then 1 else o
end Go.Proofs.Ytafhnfcahhlanaa
set_option maxHeartbeats 2000000
namespace Go.Proofs.Ytafhnfcahhlanaa
open Go.Sx Go.RowKit
theorem intsAt_of {w:World} {A:Option Addr} {n c:Nat} {l:List Int} (hn:n=l.length) (hr:RdRow w A n 1 (elI l)) (hc:n≤c):IntsAt w (.slice A n c) l:=by
  subst hn
  exact⟨A,c,rfl,hr,fun _=>hc⟩
end Go.Proofs.Ytafhnfcahhlanaa
namespace Go.Proofs.Ytafhnfcahhlanaa
open Go.Sx Go.RowKit
open Go.Lp (S D dt sg ex ry un)
theorem getD_app {α:Type} (l:List α) (x d:α) (i:Nat) (h:i<l.length):(l++[x]).getD i d=l.getD i d:=by
  rw[List.getD_eq_getElem?_getD,List.getD_eq_getElem?_getD,List.getElem?_append_left h]
end Go.Proofs.Ytafhnfcahhlanaa
namespace Go.Proofs.Ytafhnfcahhlanaa
open Go.Sx Go.RowKit
def detU (F:List (List Int)→Int) (M:List (List Int)):Nat→Int×Int
  |0=>(0,1)
  |k+1=>(W ((detU F M k).1+W (W ((detU F M k).2*(M.getD 0 []).getD k 0)*F (M.tail.map fun r=>r.eraseIdx k))),W (0-(detU F M k).2))
def detW:Nat→List (List Int)→Int
  |0,_=>1
  |n+1,M=>(detU (detW n) M (n+1)).1
theorem catE_erase (row:List Int) (k n:Nat) (hk:k<n+1) (hl:row.length=n+1) (j:Nat) (hj:j<n):catE (catE (elI []) 0 fun i=>elI row (0+i)) (0+(k-0)) (fun i=>elI row (k+1+i)) j=elI (row.eraseIdx k) j:=by
  unfold catE
  by_cases h:j<0+(k-0)
  · rw[if_pos h,if_neg (by omega)]
    show [I (row.getD _ 0)]=[I _]
    rw[List.getD_eq_getElem?_getD,List.getD_eq_getElem?_getD,List.getElem?_eraseIdx,if_pos (by omega)]
    congr 5
    omega
  · rw[if_neg h]
    show [I (row.getD _ 0)]=[I _]
    rw[show k+1+(j-(0+(k-0)))=j+1 by omega,List.getD_eq_getElem?_getD,List.getD_eq_getElem?_getD,List.getElem?_eraseIdx,if_neg (by omega)]
theorem refDet_any:∀(n:Nat) (M:List (List Int)) (v:Value) (vs:Nat→Value) (w:World),M.length=n→n≤100→(∀i,i<n→(M.getD i []).length=n)→MatAt w v M vs→Calls Try.prog 99 #[v] w fun e w'=>e=.returned (I (detW n M))∧Below w.heap.size w w':=by
  intro n
  induction n with
  |zero=>
    intro M v vs w hM _ _ hv
    obtain⟨A,c,rfl,hA,_⟩:=hv
    rw[hM]at hA ⊢
    refine enterSay [] [.c (.k (.slice A 0 c))] [] Try.func99 rfl 61 Try.ntmps99 rfl rfl ⟨trivial,trivial⟩ trivial ?_
    refine G.seqR tfine rfl trivial ?_
    refine G.seq ?_
    refine G.seqR tfine rfl trivial ?_
    refine G.cond_true rfl ?_
    refine G.seqR tfine rfl trivial ?_
    exact G.ret (retK.plain tfine rfl rfl)
  |succ n ih=>
    intro M v vs w hM hn hrow hv
    obtain⟨A,c,rfl,hA,_,hri⟩:=hv
    rw[hM]at hA hri ⊢
    refine enterIn _ Try.func99 rfl 61 Try.ntmps99 [.c (.inp 1000 A (n+1) c)] [⟨1000,A,1,n+1,fun i=>[vs i]⟩] rfl rfl ⟨hA,trivial⟩ ⟨.inl ⟨rfl,rfl,rfl⟩,trivial⟩ ?_
    refine G.seqR tfine rfl trivial ?_
    refine G.seq ?_
    refine G.seqR tfine rfl trivial ?_
    refine G.cond (b:=(((n+1:Nat):Int)==0)) rfl (fun h=>?_) (fun h=>?_)
    · have h:(((n+1:Nat):Int))=0:=by simpa using h
      omega
    refine G.skip ?_
    refine G.seqR tfine rfl trivial ?_
    refine G.seq ?_
    refine G.seqR tfine rfl trivial ?_
    refine G.tellAs 990 rfl rfl ?_
    refine G.block (G.loop (fun k:Nat=>St.of [(0,.v (.c (.inp 1000 A (n+1) c))),(3,.v (.c (.k (I (detU (detW n) M k).1)))),(4,.v (.c (.k (I (detU (detW n) M k).2)))),(5,.v (.c (.k (I k))))] [(990,.say (· < w.heap.size) (asOf w)),(1000,.ro 1 (n+1) (fun i=>[vs i]))])
      (fun k=>k≤n+1) (fun k=>n+1-k) 0 (Nat.zero_le _) (St.le_of rfl ⟨⟨_,rfl,Blk.le_refl _⟩,⟨_,rfl,Blk.le_refl _⟩,trivial⟩ ⟨rfl,rfl,rfl,rfl,trivial⟩) ?_)
    rintro k hk
    refine G.seq ?_
    refine G.seqR tfine rfl trivial ?_
    refine G.cond (b:=decide ((k:Int)<((n+1:Nat):Int))) rfl (fun h5=>?_) (fun h5=>?_)
    rotate_left
    · have h5:=of_decide_eq_false h5
      have:k=n+1:=by omega
      subst this
      refine G.exit ?_
      refine G.seqR tfine rfl trivial ?_
      exact G.ret (retK.plain tfine rfl rfl)
    have h5:=of_decide_eq_true h5
    have hlt:k<n+1:=by omega
    refine G.skip ?_
    refine G.seq ?_
    refine G.block ?_
    obtain⟨sm,hsm⟩:∃sm,sm=M.tail.map fun r=>r.eraseIdx k:=⟨_,rfl⟩
    have hsml:sm.length=n:=by rw[hsm];simp[hM]
    have hsmi:∀i,i<n→sm.getD i []=(M.getD (i+1) []).eraseIdx k:=fun i hi=>by
      rw[hsm]
      cases M with
      |nil=>simp at hM
      |cons r M=>
        have:M.length=n:=by simpa using hM
        simp[List.getD_eq_getElem?_getD,List.getElem?_map,List.getElem?_eq_getElem (show i<M.length by omega)]
    have hsmr:∀i,i<n→(sm.getD i []).length=n:=fun i hi=>by
      rw[hsmi i hi,List.length_eraseIdx_of_lt (by rw[hrow (i+1) (by omega)];omega),hrow (i+1) (by omega)];rfl
    refine G.seqC tfine rfl trivial ?_
    refine GO.steps (Steps.emptyOwn tfine 1 (fun _:Nat=>([undef]:List Value)) rfl rfl rfl rfl rfl rfl rfl rfl rfl) ?_
    refine GO.fin tfine rfl trivial ?_
    refine G.rn 18 63 rfl trivial rfl rfl rfl ?_
    refine G.seq ?_
    refine G.seqR tfine rfl trivial ?_
    refine G.tellF 839 (fun w=>∀j,j<0→IntsAt w undef (sm.getD j [])) (fun w j hj=>by omega) rfl ?_
    refine G.block (G.loop (fun z:Nat×Nat×(Nat→Value)×(Nat→Prop)=>St.of [(0,.v (.c (.inp 1000 A (n+1) c))),(3,.v (.c (.k (I (detU (detW n) M k).1)))),(4,.v (.c (.k (I (detU (detW n) M k).2)))),(5,.v (.c (.k (I k)))),(6,.v (.c (.slc 63 0 1 z.1 z.2.1))),(7,.v (.c (.k (I ((z.1+1:Nat):Int)))))] [(990,.say (· < w.heap.size) (asOf w)),(1000,.ro 1 (n+1) (fun i=>[vs i])),(63,.arr 22 1 z.1 (fun j=>[z.2.2.1 j]) ((z.2.1-z.1)*1)),(839,.say z.2.2.2 (fun w=>∀j,j<z.1→IntsAt w (z.2.2.1 j) (sm.getD j [])))])
      (fun z=>z.1≤n∧z.1≤z.2.1) (fun z=>n-z.1) (0,0,(fun _=>undef),fun _=>False) ⟨Nat.zero_le _,Nat.le_refl _⟩ (St.le_of rfl ⟨⟨_,rfl,Blk.le_refl _⟩,⟨_,rfl,Blk.le_refl _⟩,⟨_,rfl,Blk.le_refl _⟩,⟨_,rfl,Blk.le_refl _⟩,trivial⟩ ⟨rfl,rfl,rfl,rfl,rfl,rfl,trivial⟩) ?_)
    rintro⟨i,cp,us,SR⟩ ⟨hi,hcp⟩
    simp only at hi hcp
    refine G.seq ?_
    refine G.seqR tfine rfl trivial ?_
    refine G.cond (b:=decide (((i+1:Nat):Int)<((n+1:Nat):Int))) rfl (fun h6=>?_) (fun h6=>?_)
    · have h6:=of_decide_eq_true h6
      have hil:i<n:=by omega
      obtain⟨row,hrw⟩:∃row,row=M.getD (i+1) []:=⟨_,rfl⟩
      have hrl:row.length=n+1:=by rw[hrw];exact hrow (i+1) (by omega)
      obtain⟨Aq,cq,hvq,hAq,hcq⟩:=hri (i+1) (by omega)
      rw[←hrw,hrl]at hvq hAq hcq
      have hcq:=hcq (by omega)
      refine G.skip ?_
      refine G.seq ?_
      refine G.block ?_
      refine G.seq ?_
      apply G.drawC (ch:=fun j=>match j with|7=>some (accF 25 32 (0+(k-0)) 1 3 (catE (elI []) 0 fun i=>elI row (0+i)))|15=>some (conN 32 40 w.heap.size (0+(k-0)+(n+1-(k+1))) 1 (catE (catE (elI []) 0 fun i=>elI row (0+i)) (0+(k-0)) fun i=>elI row (k+1+i)))|_=>none)
        (cls:=[0,0,0,6,14,0,62,127,0,0,768,1792,0,4096,16128,32767,65535]) (X:=[(0,25),(7,25),(7,32),(15,32),(15,40)]) hmix rfl rfl rfl
      · intro cc
        refine GC.step 0 rfl rfl (Steps.emptyOwn tfine 1 (elI []) rfl rfl rfl rfl rfl rfl rfl rfl rfl) rfl ?_
        refine GC.more tfine 1 rfl rfl rfl ?_ ?_
        · first|trivial|(simp[AllP,condB];done)|(simp only[AllP];and_intros<;>first|trivial|decide|omega)|(simp[AllP,condB];intros;and_intros<;>first|assumption|omega)|(simp[AllP,condB];intros;simp_all;done)
        rw[Int.toNat_natCast]
        refine GC.step 6 rfl rfl (Steps.sliceK tfine (A:=Aq) (n:=n+1) (cap:=cq) 0 k rfl rfl rfl rfl rfl rfl (congrArg (fun v=>TV.v (.c (.k v))) hvq) (.inl ⟨rfl,rfl⟩) (.inr ⟨_,rfl,rfl⟩) (Nat.zero_le _) (by omega)) rfl ?_
        refine GC.choice 7 rfl _ rfl (StepsC.appendMany (n:=0) (c:=0) (room:=0) 990 (fun i=>elI row (0+i)) apT35 rfl rfl rfl rfl rfl rfl rfl rfl rfl (Nat.le_refl _) (Nat.le_refl _) rfl rfl rfl (fun w1 h=>(hAq.asOf h).sub hcq (by omega)) rfl rfl (fun k _=>rfl) (fun k _ u hu=>by simp[elI]at hu;subst hu;rfl) (fun k hk=>rfl) (by unfold maxLen;omega) (by omega)) rfl accF_nm rfl ?_
        refine GC.more tfine 8 rfl rfl rfl ?_ ?_
        · first|trivial|(simp[AllP,condB];done)|(simp only[AllP];and_intros<;>first|trivial|decide|omega)|(simp[AllP,condB];intros;and_intros<;>first|assumption|omega)|(simp[AllP,condB];intros;simp_all;done)
        rw[Int.toNat_natCast]
        refine GC.step 14 rfl rfl (Steps.sliceK tfine (A:=Aq) (n:=n+1) (cap:=cq) (k+1) (n+1) rfl rfl rfl rfl rfl rfl (congrArg (fun v=>TV.v (.c (.k v))) hvq) (.inr ⟨_,rfl,(by show TV.v (.c (.k (I (W ((k:Int)+1)))))=_;rw[W_id (by omega) (by omega)];rfl)⟩) (.inl ⟨rfl,rfl⟩) (by omega) (by omega)) rfl ?_
        refine GC.choice 15 rfl _ rfl (StepsC.appendManyS (n:=0+(k-0)) (c:=capN (0+(k-0)) (cc 7)) (room:=(capN (0+(k-0)) (cc 7)-(0+(k-0)))*1) 990 (fun i=>elI row (k+1+i)) apT35 rfl rfl rfl rfl rfl rfl rfl rfl rfl (Nat.le_refl _) (capN_le _ _) rfl rfl rfl (fun w1 h=>(hAq.asOf h).sub hcq (by omega)) rfl rfl (fun k _=>rfl) (fun k _ u hu=>by simp[elI]at hu;subst hu;rfl) (fun k' hk'=>by unfold catE;split<;>rfl) (by unfold maxLen;omega) (by omega)) rfl conN_nm rfl ?_
        refine GC.more tfine 16 rfl rfl rfl trivial ?_
        refine GC.nil ?_
        refine G.regC tfine rfl trivial ?_
        refine GO.choice (StepsC.appendOwnZ (n:=i) (c:=cp) (room:=(cp-i)*1) (R:=newV w.heap.size (0+(k-0)+(n+1-(k+1))) 1 (catE (catE (elI []) 0 fun i=>elI row (0+i)) (0+(k-0)) fun i=>elI row (k+1+i))) 40 39 (cc 15) [] apLL rfl rfl rfl rfl rfl rfl rfl rfl rfl (Nat.le_refl _) rfl rfl rfl rfl (fun u hu=>by cases hu) (fun k hk=>rfl) (by unfold maxLen;omega) (by omega) rfl rfl rfl rfl rfl rfl (fun u=>steady_newV)) fun uu=>?_
        refine GO.fin tfine rfl trivial ?_
        obtain⟨v,hv⟩:∃v,v=slV (0+(k-0)+(n+1-(k+1))) (pr2 uu):=⟨_,rfl⟩
        obtain⟨cp2,hcp2⟩:∃cp2,cp2=capN (i+1) (pr1 uu):=⟨_,rfl⟩
        have hcl:i+1≤cp2:=by rw[hcp2];exact capN_le _ _
        refine G.weaken (st':=St.of [(0,.v (.c (.inp 1000 A (n+1) c))),(3,.v (.c (.k (I (detU (detW n) M k).1)))),(4,.v (.c (.k (I (detU (detW n) M k).2)))),(5,.v (.c (.k (I k)))),(6,.v (.c (.slc 44 0 1 (i+1) cp2))),(7,.v (.c (.k (I ((i+1:Nat):Int)))))] [(990,.say (· < w.heap.size) (asOf w)),(1000,.ro 1 (n+1) (fun i=>[vs i])),(44,.arr 22 1 (i+1) (elN (fun j=>[us j]) i [v]) ((cp2-(i+1))*1)),(839,.say SR (fun w=>∀j,j<i→IntsAt w (us j) (sm.getD j []))),(39,.say (sb v) (newV w.heap.size (0+(k-0)+(n+1-(k+1))) 1 (catE (catE (elI []) 0 fun i=>elI row (0+i)) (0+(k-0)) fun i=>elI row (k+1+i)) v))])
          (St.le_of rfl ⟨⟨_,rfl,Blk.le_refl _⟩,⟨_,rfl,Blk.le_refl _⟩,⟨_,rfl,by rw[hv,hcp2];exact Blk.le_refl _⟩,⟨_,rfl,Blk.le_refl _⟩,⟨_,rfl,by rw[hv];exact Blk.le_refl _⟩,trivial⟩ ⟨rfl,rfl,rfl,rfl,by rw[hcp2];rfl,rfl,trivial⟩) ?_
        clear hv hcp2
        have hnew:∀w1,newV w.heap.size (0+(k-0)+(n+1-(k+1))) 1 (catE (catE (elI []) 0 fun i=>elI row (0+i)) (0+(k-0)) fun i=>elI row (k+1+i)) v w1→IntsAt w1 v (sm.getD i []):=fun w1 h=>by
          refine IntsAt.of h.1 (by rw[hsmr i hil];omega) fun j hj=>?_
          rw[hsmr i hil]at hj
          rw[hsmi i hil,←hrw]
          exact catE_erase row k n hlt hrl j hj
        obtain⟨us',hus⟩:∃us':Nat→Value,us'=fun j=>if j=i then v else us j:=⟨_,rfl⟩
        have hso:∀j,j<i→us' j=us j:=fun j hj=>by rw[hus];simp only;rw[if_neg (by omega)]
        have hsn:us' i=v:=by rw[hus];simp
        refine G.bothS 839 839 39 (fun k=>SR k∨sb v k) (fun w=>∀j,j<i+1→IntsAt w (us' j) (sm.getD j [])) rfl rfl (fun k hk=>hk) (fun s1 s2 w1 w2 a1 a2 a3 j hj=>?_) (fun w ha hb j hj=>?_) (fun b hb=>⟨_,_,(Option.some.inj hb).symm⟩) ?_
        · by_cases e:j=i
          · subst e
            have h3:=a3 j hj
            rw[hsn]at h3 ⊢
            exact steady_ints w1 w2 (fun k hk=>a1 k (.inr hk)) a2 h3
          · have h3:=s1 w1 w2 (fun k hk=>a1 k (.inl hk)) a2 (fun j' hj'=>by have:=a3 j' (by omega);rwa [hso j' hj']at this) j (by omega)
            rw[hso j (by omega)]
            exact h3
        · by_cases e:j=i
          · subst e
            rw[hsn]
            exact hnew w hb
          · rw[hso j (by omega)]
            exact ha j (by omega)
        refine G.rn 44 63 rfl trivial rfl rfl rfl ?_
        refine G.reg tfine rfl trivial ?_
        refine⟨(i+1,cp2,us',fun k=>SR k∨sb v k),⟨by simp only;omega,hcl⟩,(by show n-(i+1)<n-i;omega),?_⟩
        exact St.le_of rfl ⟨⟨_,rfl,Blk.le_refl _⟩,⟨_,rfl,Blk.le_refl _⟩,⟨_,rfl,rfl,rfl,Nat.le_refl _,(fun q hq=>by
          by_cases e:q=i
          · subst e
            rw[elN_eq]
            show [us' q]=_
            rw[hsn]
          · rw[elN_lt (by omega)]
            show [us' q]=_
            rw[hso q (by omega)]),Nat.le_refl _⟩,⟨_,rfl,Blk.le_refl _⟩,trivial⟩ ⟨rfl,rfl,rfl,rfl,rfl,by first|rfl|(simp[up,I,rnS,rnTV,rnAV,rnAC];rw[IntWalk.i64_in _ (by omega)]),trivial⟩
      ·
        intro c c' j hj h
        have hj:j<17:=hj
        rcases j with _|_|_|_|_|_|_|_|_|_|_|_|_|_|_|_|_|j
        all_goals first|rfl|(show some _=some _;(try rw[h 7 (.inl rfl)]);(try rw[h 7 (.inr ⟨rfl,rfl⟩)]);(try rw[h 15 (.inl rfl)]);(try rw[h 15 (.inr ⟨rfl,rfl⟩)]);done)|exact absurd hj (by omega)
    have h6:=of_decide_eq_false h6
    have hin:i=n:=by omega
    subst hin
    obtain⟨row,hrw⟩:∃row,row=M.getD 0 []:=⟨_,rfl⟩
    have hrl:row.length=i+1:=by rw[hrw];exact hrow 0 (by omega)
    obtain⟨Aq,cq,hvq,hAq,hcq⟩:=hri 0 (by omega)
    rw[←hrw,hrl]at hvq hAq hcq
    refine G.exit ?_
    refine G.seqDraw hmix [0,0,0,4,12,0,60,124,254,0,512,2046,4095,8191] [(4,703)] rfl rfl rfl ?_
    refine GD.op1 tfine 0 rfl rfl trivial rfl ?_
    refine GD.op1 tfine 1 rfl rfl trivial rfl ?_
    refine GD.op1 tfine 2 rfl rfl trivial rfl ?_
    refine GD.op1 tfine 3 rfl rfl ?_ rfl ?_
    · first|trivial|(simp[AllP,condB];done)|(simp only[AllP];and_intros<;>first|trivial|decide|omega)|(simp[AllP,condB];intros;and_intros<;>first|assumption|omega)|(simp[AllP,condB];intros;simp_all;done)
    refine GD.stepF 4 rfl (Steps.opOpen (v:=vs 0) tfine 990 703 Aq (i+1) cq 1 (elI row) rfl ?_ rfl hvq rfl rfl (fun w1 h=>hAq.asOf h) (fun k hk=>sb_lt hAq k hk) rfl rfl) rfl ?_
    · first|trivial|(simp[AllP,condB];done)|(simp only[AllP];and_intros<;>first|trivial|decide|omega)|(simp[AllP,condB];intros;and_intros<;>first|assumption|omega)|(simp[AllP,condB];intros;simp_all;done)
    refine GD.more tfine 5 rfl rfl ?_ ?_
    · first|trivial|(simp[AllP,condB];done)|(simp only[AllP];and_intros<;>first|trivial|decide|omega)|(simp[AllP,condB];intros;and_intros<;>first|assumption|omega)|(simp[AllP,condB];intros;simp_all;done)
    refine GD.call (v:=I (detW i sm)) 10 rfl rfl rfl rfl rfl (fun args w=>Try.call99 args w) (fun m' hle ρ w1 hs hok=>?_) ?_
    · have hF1:=hs.rdArr (hle.at (y:=63) rfl) 0 i (by omega)
      have:=ih sm (.slice (some ⟨(ρ 63).1,(ρ 63).2+0*1,none⟩) i cp) us w1 hsml (by omega) hsmr ⟨_,cp,by rw[hsml],by rw[hsml];exact hF1.congr fun q hq=>by rw[Nat.zero_add],fun _=>by rw[hsml];exact hcp,fun q hq=>(hs.ok 839 _ (hle.at rfl)).1 q (by rw[←hsml];exact hq)⟩
      exact this
    refine GD.fin tfine 11 rfl rfl ?_ ?_
    · first|trivial|(simp[AllP,condB];done)|(simp only[AllP];and_intros<;>first|trivial|decide|omega)|(simp[AllP,condB];intros;and_intros<;>first|assumption|omega)|(simp[AllP,condB];intros;simp_all;done)
    refine G.reg tfine rfl trivial ?_
    refine G.reg tfine rfl trivial ?_
    rw[IntWalk.i64_in ((k:Int)+1) (by omega)]
    refine⟨k+1,by omega,(by show i+1-(k+1)<i+1-k;omega),?_⟩
    exact St.le_of rfl ⟨⟨_,rfl,Blk.le_refl _⟩,⟨_,rfl,Blk.le_refl _⟩,trivial⟩ ⟨rfl,by rw[detU,←hsm,←hrw];rfl,rfl,by simp[up,I],trivial⟩
end Go.Proofs.Ytafhnfcahhlanaa
namespace Go.Proofs.Ytafhnfcahhlanaa
open Go.Sx Go.RowKit
def rowU (u:Cho) (j:Nat):Value:=match u.1 with
  |.agg cs=>cs.getD (j+1) undef
  |_=>undef
def mkU (v:Value) (n:Nat) (us:Nat→Value) (S:Nat→Prop):Cho:=(.agg (v::(List.range n).map us).toArray,S)
theorem mkU_pr (v:Value) (n:Nat) (us:Nat→Value) (S:Nat→Prop):pr1 (mkU v n us S)=(v,S):=by
  simp[pr1,mkU]
theorem mkU_row (v:Value) (n:Nat) (us:Nat→Value) (S:Nat→Prop) (j:Nat) (h:j<n):rowU (mkU v n us S) j=us j:=by
  simp[rowU,mkU,h]
def matR (M:List (List Int)) (u:Cho) (w:World):Prop:=MatAt w (slV M.length (pr1 u)) M (rowU u)∧(∀k,sb (slV M.length (pr1 u)) k→u.2 k)∧∀j,j<M.length→∀k,sb (rowU u j) k→u.2 k
theorem matR_steady {M:List (List Int)} {u:Cho}:Steady u.2 (matR M u):=by
  rintro w1 w2 h1 h2 ⟨⟨A,c,e,h3,h4,h5⟩,h6,h7⟩
  refine⟨⟨A,c,e,?_,h4,fun j hj=>steady_ints w1 w2 (fun k hk=>h1 k (h7 j hj k hk)) h2 (h5 j hj)⟩,h6,h7⟩
  rw[e]at h6
  exact steady_row (cap:=c) w1 w2 (fun k hk=>h1 k (h6 k hk)) h2 h3
def MatA (M:List (List Int)) (w w':World) (e:Ending):Prop:=∃u:Cho,e=.returned (slV M.length (pr1 u))∧Below w.heap.size w w'∧matR M u w'∧(∀k,u.2 k→w.heap.size≤k∧k<w'.heap.size)∧Steady u.2 (matR M u)
theorem MatA.of {M:List (List Int)} {w w':World} {A:Option Addr} {c:Nat} {us:Nat→Value} {SR:Nat→Prop} (hb:Below w.heap.size w w') (hr:RdRow w' A M.length 1 (fun j=>[us j])) (hc:M.length≤c) (hi:∀j,j<M.length→IntsAt w' (us j) (M.getD j [])) (hA:∀k,sb (.slice A M.length c) k→w.heap.size≤k∧k<w'.heap.size) (hS:∀k,SR k→w.heap.size≤k∧k<w'.heap.size) (hU:∀j,j<M.length→∀k,sb (us j) k→SR k):MatA M w w' (.returned (.slice A M.length c)):=by
  have e1:slV M.length (pr1 (mkU (.slice A M.length c) M.length us fun k=>SR k∨sb (.slice A M.length c) k))=.slice A M.length c:=by rw[mkU_pr];exact slV_eq hc
  refine⟨mkU (.slice A M.length c) M.length us fun k=>SR k∨sb (.slice A M.length c) k,by rw[e1],hb,⟨⟨A,c,e1,hr.congr fun i hi=>by rw[mkU_row _ _ _ _ _ hi],fun _=>hc,fun j hj=>by rw[mkU_row _ _ _ _ _ hj];exact hi j hj⟩,fun k hk=>?_,fun j hj k hk=>?_⟩,?_,matR_steady⟩
  · rw[e1]at hk;exact .inr hk
  · rw[mkU_row _ _ _ _ _ hj]at hk
    exact .inl (hU j hj k hk)
  · rintro k (hk|hk)
    · exact hS k hk
    · exact hA k hk
theorem ret_mat {w:World} {N:Nat} {fn:Func} {st:St} {M:List (List Int)} {g c X Y:Nat} {us:Nat→Value} {SR:Nat→Prop} (h:resP TT st fn.results.toList=.mk (.slice (some ⟨g,0,none⟩) M.length c)) (hg:w.heap.size≤g) (hc:M.length≤c) (hS:∀k,SR k→w.heap.size≤k) (hU:∀j,j<M.length→∀k,sb (us j) k→SR k)
    (hX:st.m X=some (.say (·=g) fun w=>RdRow w (some ⟨g,0,none⟩) M.length 1 (fun j=>[us j]))) (hY:st.m Y=some (.say SR (fun w=>∀j,j<M.length→IntsAt w (us j) (M.getD j [])))):
    retK Try.prog ⟨w,[],N,none,[]⟩ fn (fun e w'=>MatA M w w' e) .ret st:=by
  refine⟨.inl rfl,fun ρ a w' hs=>⟨_,results_run tfine hs h,?_⟩⟩
  obtain⟨x1,x2,_⟩:=hs.mem.ok X _ hX
  obtain⟨y1,y2,y3⟩:=hs.mem.ok Y _ hY
  refine MatA.of hs.mem.fr.toBelow x1 hc y1 ?_ (fun k hk=>⟨hS k hk,y2 k hk⟩) hU
  rintro k ⟨_,a,e,rfl⟩
  cases e
  exact⟨hg,x2 _ rfl⟩
def chR:Nat→Nat→Nat→List (List Int)
  |0,_,_=>[[]]
  |m+1,fr,al=>(List.range' fr (al-fr)).flatMap fun i=>(chR m (i+1) al).map fun l=>(i:Int)::l
def chQ (m al fr t:Nat):List (List Int):=(List.range' fr t).flatMap fun i=>(chR m (i+1) al).map fun l=>(i:Int)::l
theorem chQ_succ (m al fr t:Nat):chQ m al fr (t+1)=chQ m al fr t++(chR m (fr+t+1) al).map fun l=>((fr+t:Nat):Int)::l:=by
  rw[chQ,List.range'_1_concat,List.flatMap_append]
  simp[chQ]
theorem chQ_pre (m al fr:Nat):∀d t,∃r,chQ m al fr (t+d)=chQ m al fr t++r
  |0,t=>⟨[],by simp⟩
  |d+1,t=>by
    obtain⟨r,h⟩:=chQ_pre m al fr d t
    exact⟨r++_,by rw[←Nat.add_assoc,chQ_succ,h,List.append_assoc]⟩
theorem ch_len:∀(m fr al:Nat),(chR m fr al).length≤2 ^ (al-fr)
  |0,fr,al=>by simp[chR];exact Nat.one_le_two_pow
  |m+1,fr,al=>by
    have key:∀t,t≤al-fr→(chQ m al fr t).length+2 ^ (al-fr-t)≤2 ^ (al-fr):=by
      intro t
      induction t with
      |zero=>intro _;simp[chQ]
      |succ t ih=>
        intro ht
        have i1:=ih (by omega)
        have i2:=ch_len m (fr+t+1) al
        rw[chQ_succ,List.length_append,List.length_map]
        have e:al-fr-t=(al-fr-(t+1))+1:=by omega
        have e2:al-(fr+t+1)=al-fr-(t+1):=by omega
        rw[e,Nat.pow_succ]at i1
        rw[e2]at i2
        omega
    exact Nat.le_trans (Nat.le_add_right _ _) (key (al-fr) (Nat.le_refl _))
theorem ch_row:∀(m fr al:Nat) (l:List Int),l∈chR m fr al→l.length=m∧∀x∈l,(fr:Int)≤x∧x<al
  |0,_,_,l,h=>by
    have:l=[]:=by simpa[chR] using h
    subst this
    exact⟨rfl,fun x hx=>by cases hx⟩
  |m+1,fr,al,l,h=>by
    obtain⟨i,hi,h⟩:=List.mem_flatMap.1 h
    obtain⟨r,hr,rfl⟩:=List.mem_map.1 h
    have hi:=List.mem_range'_1.1 hi
    obtain⟨e,hx⟩:=ch_row m (i+1) al r hr
    refine⟨by simp[e],fun x hx'=>?_⟩
    rcases List.mem_cons.1 hx' with rfl|hx'
    · omega
    · have:=hx x hx'
      omega
theorem ch_at {m fr al t k:Nat} (ht:t<al-fr) (hk:k<(chR m (fr+t+1) al).length):(chQ m al fr t).length+k<(chR (m+1) fr al).length∧(chR (m+1) fr al).getD ((chQ m al fr t).length+k) []=((fr+t:Nat):Int)::(chR m (fr+t+1) al).getD k []:=by
  obtain⟨r,h⟩:=chQ_pre m al fr (al-fr-(t+1)) (t+1)
  rw[show t+1+(al-fr-(t+1))=al-fr by omega,chQ_succ]at h
  have e:chR (m+1) fr al=chQ m al fr t++((chR m (fr+t+1) al).map fun l=>((fr+t:Nat):Int)::l)++r:=h
  rw[e]
  refine⟨by simp;omega,?_⟩
  rw[List.getD_eq_getElem?_getD,List.getElem?_append_left (by simp;omega),List.getElem?_append_right (by omega),Nat.add_sub_cancel_left,List.getElem?_map,List.getD_eq_getElem?_getD,List.getElem?_eq_getElem hk]
  rfl
theorem refChoices_any:∀(m fr al:Nat) (w:World),fr≤al→al≤20→m≤20→Calls Try.prog 84 #[I fr,I al,I m] w fun e w'=>MatA (chR m fr al) w w' e:=by
  intro m
  induction m with
  |zero=>
    intro fr al w h1 h2 _
    refine enterIn _ Try.func84 rfl 45 Try.ntmps84 [.c (.k (I fr)),.c (.k (I al)),.c (.k (I (0:Nat)))] [] rfl rfl trivial ⟨trivial,trivial,trivial,trivial⟩ ?_
    refine G.seqR tfine rfl trivial ?_
    refine G.seq ?_
    refine G.seqR tfine rfl trivial ?_
    refine G.cond_true rfl ?_
    refine G.seqC tfine rfl trivial ?_
    refine GO.emptySliceS tfine rfl rfl rfl rfl rfl rfl rfl fun A0 hA0=>?_
    refine GO.fin tfine rfl trivial ?_
    refine G.varArr 14 rfl ?_
    refine G.tellF 839 (fun w=>∀j,j<1→IntsAt w (.slice A0 0 0) (([[]]:List (List Int)).getD j [])) (fun w j hj=>⟨A0,0,by
      have:j=0:=by omega
      subst this;rfl,by
      have:j=0:=by omega
      subst this;exact RdRow.nil _ _ _ _,fun h=>by
      have:j=0:=by omega
      subst this;cases h⟩) rfl ?_
    refine G.freezeArr 14 6 rfl rfl (Nat.le_refl _) fun g hg=>?_
    have hg:w.heap.size≤g:=hg.elim id (fun h=>by cases h)
    exact G.ret (ret_mat (M:=[[]]) (us:=fun _=>.slice A0 0 0) (X:=14) (Y:=839) rfl hg (Nat.le_refl _) (fun k hk=>hk.elim) (fun j hj k hk=>absurd hk.1 (Nat.lt_irrefl 0)) rfl rfl)
  |succ m ih=>
    intro fr al w h1 h2 hm
    obtain⟨tot,htot⟩:∃tot,tot=chR (m+1) fr al:=⟨_,rfl⟩
    have htl:tot.length≤1048576:=by
      rw[htot]
      exact Nat.le_trans (ch_len _ _ _) (Nat.le_trans (Nat.pow_le_pow_right (by decide) (show al-fr≤20 by omega)) (by decide))
    obtain⟨off,hoff⟩:∃off:Nat→Nat,off=fun t=>(chQ m al fr t).length:=⟨_,rfl⟩
    have hoff1:∀t,off (t+1)=off t+(chR m (fr+t+1) al).length:=fun t=>by
      rw[hoff]
      simp only
      rw[chQ_succ,List.length_append,List.length_map]
    have hoffe:off (al-fr)=tot.length:=by rw[hoff,htot];rfl
    have hat:∀t k,t<al-fr→k<(chR m (fr+t+1) al).length→off t+k<tot.length∧tot.getD (off t+k) []=((fr+t:Nat):Int)::(chR m (fr+t+1) al).getD k []:=fun t k a b=>by
      rw[hoff,htot]
      exact ch_at a b
    rw[←htot]
    refine enterIn _ Try.func84 rfl 45 Try.ntmps84 [.c (.k (I fr)),.c (.k (I al)),.c (.k (I ((m+1:Nat):Int)))] [] rfl rfl trivial ⟨trivial,trivial,trivial,trivial⟩ ?_
    refine G.seqR tfine rfl trivial ?_
    refine G.seq ?_
    refine G.seqR tfine rfl trivial ?_
    refine G.cond (b:=(((m+1:Nat):Int)==0)) rfl (fun h=>?_) (fun h=>?_)
    · have h:(((m+1:Nat):Int))=0:=by simpa using h
      omega
    refine G.skip ?_
    refine G.seqC tfine rfl trivial ?_
    refine GO.steps (Steps.emptyOwn tfine 1 (fun _:Nat=>([undef]:List Value)) rfl rfl rfl rfl rfl rfl rfl rfl rfl) ?_
    refine GO.fin tfine rfl trivial ?_
    refine G.rn 15 63 rfl trivial rfl rfl rfl ?_
    refine G.seq ?_
    refine G.seqR tfine rfl trivial ?_
    refine G.tellF 839 (fun w=>∀j,j<0→IntsAt w undef (tot.getD j [])) (fun w j hj=>by omega) rfl ?_
    refine G.block (G.loop (fun z:Nat×Nat×(Nat→Value)×(Nat→Prop)=>St.of [(0,.v (.c (.k (I fr)))),(1,.v (.c (.k (I al)))),(2,.v (.c (.k (I ((m+1:Nat):Int))))),(7,.v (.c (.slc 63 0 1 (off z.1) z.2.1))),(8,.v (.c (.k (I ((fr+z.1:Nat):Int)))))] [(63,.arr 22 1 (off z.1) (fun j=>[z.2.2.1 j]) ((z.2.1-off z.1)*1)),(839,.say z.2.2.2 (fun w=>∀j,j<off z.1→IntsAt w (z.2.2.1 j) (tot.getD j [])))])
      (fun z=>z.1≤al-fr∧off z.1≤z.2.1∧(∀k,z.2.2.2 k→w.heap.size≤k)∧∀j,j<off z.1→∀k,sb (z.2.2.1 j) k→z.2.2.2 k) (fun z=>al-fr-z.1) (0,0,(fun _=>undef),fun _=>False) ⟨Nat.zero_le _,by rw[hoff];exact Nat.le_refl _,fun k hk=>hk.elim,fun j hj=>by rw[hoff]at hj;exact absurd hj (Nat.not_lt_zero j)⟩ ?_ ?_)
    · have e0:off 0=0:=by rw[hoff];rfl
      simp only[e0,Nat.add_zero]
      exact St.le_of rfl ⟨⟨_,rfl,Blk.le_refl _⟩,⟨_,rfl,Blk.le_refl _⟩,trivial⟩ ⟨rfl,rfl,rfl,rfl,rfl,trivial⟩
    rintro⟨t,cp,us,SR⟩ ⟨ht,hcp,hSR,hU⟩
    simp only at ht hcp hSR hU
    refine G.seq ?_
    refine G.seqR tfine rfl trivial ?_
    refine G.cond (b:=decide (((fr+t:Nat):Int)<(al:Int))) rfl (fun h5=>?_) (fun h5=>?_)
    rotate_left
    · have h5:=of_decide_eq_false h5
      have:t=al-fr:=by omega
      subst this
      rw[hoffe]at hcp hU ⊢
      refine G.exit ?_
      refine G.freezeArr 63 7 rfl rfl (Nat.le_refl _) fun g hg=>?_
      have hg:w.heap.size≤g:=hg.elim id (fun h=>by cases h)
      refine G.seqR tfine rfl trivial ?_
      exact G.ret (ret_mat (X:=63) (Y:=839) rfl hg hcp hSR hU rfl rfl)
    have h5:=of_decide_eq_true h5
    have htt:t<al-fr:=by omega
    refine G.skip ?_
    refine G.seq ?_
    refine G.block ?_
    refine G.seqC tfine rfl trivial ?_
    obtain⟨rest,hrest⟩:∃rest,rest=chR m (fr+t+1) al:=⟨_,rfl⟩
    refine GO.callSay 871 (fun u=>slV rest.length (pr1 u)) (fun u=>u.2) (matR rest) rfl rfl rfl rfl rfl (fun args w=>Try.call84 args w) (fun ρ w1 hs hok=>?_) fun ur=>?_
    · have:=ih (fr+t+1) al w1 (by omega) h2 (by omega)
      rw[←hrest]at this
      have e:(List.map (AV.conc ρ) [AV.c (.k (I (W (((fr+t:Nat):Int)+1)))),AV.c (.k (I al)),AV.c (.k (I (W (((m+1:Nat):Int)-1))))]++List.map (Cap.conc ρ) []).toArray=#[I ((fr+t+1:Nat):Int),I al,I (m:Int)]:=by
        rw[W_id (by omega) (by omega),W_id (by omega) (by omega)]
        simp[AV.conc,AC.conc]
      rw[←e]at this
      exact this
    refine GO.fin tfine rfl trivial ?_
    have hoffn:off (t+1)=off t+rest.length:=by rw[hoff1,hrest]
    have hat2:∀k,k<rest.length→off t+k<tot.length∧tot.getD (off t+k) []=((fr+t:Nat):Int)::rest.getD k []:=fun k hk=>by rw[hrest]at hk ⊢;exact hat t k htt hk
    have hrl:rest.length≤1048576:=by
      rw[hrest]
      exact Nat.le_trans (ch_len _ _ _) (Nat.le_trans (Nat.pow_le_pow_right (by decide) (show al-(fr+t+1)≤20 by omega)) (by decide))
    refine G.fact (φ:=(∀k,sb (slV rest.length (pr1 ur)) k→ur.2 k)∧∀j,j<rest.length→(∃A c,rowU ur j=.slice A (rest.getD j []).length c)∧∀k,sb (rowU ur j) k→ur.2 k) 871 rfl (fun w1 h=>by
      obtain⟨⟨_,_,_,_,_,hi⟩,q1,q2⟩:=h
      refine⟨q1,fun j hj=>⟨?_,q2 j hj⟩⟩
      obtain⟨A,c,e,_⟩:=hi j hj
      exact⟨A,c,e⟩) fun hlit=>?_
    refine G.openSay 871 709 9 (el:=fun i=>[rowU ur i]) (sz:=1) rfl (fun w1 h=>by
      obtain⟨⟨A,c,e,h1,_⟩,_,_⟩:=h
      injection e with e1 e2 e3
      rw[←e1]at h1
      exact h1) hlit.1 rfl rfl rfl ?_
    refine G.seqR tfine rfl trivial ?_
    refine G.block (G.loop (fun z:Nat×Nat×(Nat→Value)×(Nat→Prop)=>St.of [(0,.v (.c (.k (I fr)))),(1,.v (.c (.k (I al)))),(2,.v (.c (.k (I ((m+1:Nat):Int))))),(7,.v (.c (.slc 63 0 1 (off t+z.1) z.2.1))),(8,.v (.c (.k (I ((fr+t:Nat):Int))))),(9,.v (.c (.inp 709 (adrK (pr1 ur)) rest.length (capN rest.length (pr1 ur))))),(10,.v (.c (.k (I z.1))))] [(63,.arr 22 1 (off t+z.1) (fun j=>[z.2.2.1 j]) ((z.2.1-(off t+z.1))*1)),(839,.say z.2.2.2 (fun w=>∀j,j<off t+z.1→IntsAt w (z.2.2.1 j) (tot.getD j []))),(871,.say ur.2 (matR rest ur)),(709,.ro 1 rest.length (fun i=>[rowU ur i]))])
      (fun z=>z.1≤rest.length∧off t+z.1≤z.2.1∧(∀k,z.2.2.2 k→w.heap.size≤k)∧∀j,j<off t+z.1→∀k,sb (z.2.2.1 j) k→z.2.2.2 k) (fun z=>rest.length-z.1) (0,cp,us,SR) ⟨Nat.zero_le _,hcp,hSR,hU⟩ (St.le_of rfl ⟨⟨_,rfl,Blk.le_refl _⟩,⟨_,rfl,Blk.le_refl _⟩,⟨_,rfl,Blk.le_refl _⟩,⟨_,rfl,Blk.le_refl _⟩,trivial⟩ ⟨rfl,rfl,rfl,rfl,rfl,rfl,rfl,trivial⟩) ?_)
    clear hcp hSR hU
    rintro⟨k,cp,us,SR⟩ ⟨hk,hcp,hSR,hU⟩
    simp only at hk hcp hSR hU
    refine G.seq ?_
    refine G.seqR tfine rfl trivial ?_
    refine G.cond (b:=decide ((k:Int)<(rest.length:Int))) rfl (fun h6=>?_) (fun h6=>?_)
    rotate_left
    · have h6:=of_decide_eq_false h6
      have:k=rest.length:=by omega
      subst this
      rw[←hoffn]at hcp hU ⊢
      refine G.exit ?_
      refine G.reg tfine rfl trivial ?_
      rw[IntWalk.i64_in (((fr+t:Nat):Int)+1) (by omega)]
      refine⟨(t+1,cp,us,SR),⟨by omega,hcp,hSR,hU⟩,(by show al-fr-(t+1)<al-fr-t;omega),?_⟩
      exact St.le_of rfl ⟨⟨_,rfl,Blk.le_refl _⟩,⟨_,rfl,Blk.le_refl _⟩,trivial⟩ ⟨rfl,rfl,rfl,rfl,by simp[up,I];omega,trivial⟩
    have h6:=of_decide_eq_true h6
    have hkk:k<rest.length:=by omega
    obtain⟨row,hrow⟩:∃row,row=rest.getD k []:=⟨_,rfl⟩
    obtain⟨⟨Aq,cq,hvq⟩,hsbq⟩:=hlit.2 k hkk
    rw[←hrow]at hvq
    have hrow20:row.length≤20:=by
      have:row∈chR m (fr+t+1) al:=by
        rw[hrow,←hrest,List.getD_eq_getElem?_getD,List.getElem?_eq_getElem hkk]
        exact List.getElem_mem hkk
      rw[(ch_row _ _ _ _ this).1]
      omega
    obtain⟨hlt,htk⟩:=hat2 k hkk
    rw[←hrow]at htk
    refine G.skip ?_
    refine G.seq ?_
    refine G.block ?_
    refine G.regC tfine rfl ?_ ?_
    · first|trivial|(simp[AllP,condB];done)|(simp only[AllP];and_intros<;>first|trivial|decide|omega)|(simp[AllP,condB];intros;and_intros<;>first|assumption|omega)|(simp[AllP,condB];intros;simp_all;done)
    rw[Int.toNat_natCast]
    refine GO.varArr 36 rfl ?_
    refine GO.choice (StepsC.appendManyS (n:=1) (c:=1) (room:=0) (A:=Aq) (n2:=row.length) (c2:=cq) 871 (elI row) apT35 rfl rfl rfl rfl rfl rfl rfl rfl rfl (Nat.le_refl _) (Nat.le_refl _) rfl (congrArg (fun v=>TV.v (.c (.k v))) hvq) rfl (fun w1 h=>?_) rfl rfl (fun k _=>rfl) (fun k _ u hu=>by simp[elI]at hu;subst hu;rfl) (fun k hk=>rfl) ?_ ?_) fun u1=>?_
    · obtain⟨⟨_,_,_,_,_,hi⟩,_,_⟩:=h
      have:=hi k hkk
      rw[hvq,←hrow]at this
      exact (intsAt_row this).2
    · unfold maxLen;omega
    · omega
    refine GO.more tfine rfl trivial ?_
    refine GO.choice (StepsC.appendOwnZ (n:=off t+k) (c:=cp) (room:=(cp-(off t+k))*1) (R:=newV w.heap.size (1+row.length) 1 (catE (fun _=>[I ((fr+t:Nat):Int)]) 1 (elI row))) 41 39 u1 [] apLL rfl rfl rfl rfl rfl rfl rfl rfl rfl (Nat.le_refl _) rfl rfl rfl rfl (fun u hu=>by cases hu) (fun k hk=>rfl) (by unfold maxLen;omega) (by omega) rfl rfl rfl rfl rfl rfl (fun u=>steady_newV)) fun uu=>?_
    refine GO.fin tfine rfl trivial ?_
    obtain⟨v,hv⟩:∃v,v=slV (1+row.length) (pr2 uu):=⟨_,rfl⟩
    obtain⟨cp2,hcp2⟩:∃cp2,cp2=capN (off t+k+1) (pr1 uu):=⟨_,rfl⟩
    have hcl:off t+k+1≤cp2:=by rw[hcp2];exact capN_le _ _
    refine G.weaken (st':=St.of [(0,.v (.c (.k (I fr)))),(1,.v (.c (.k (I al)))),(2,.v (.c (.k (I ((m+1:Nat):Int))))),(7,.v (.c (.slc 43 0 1 (off t+k+1) cp2))),(8,.v (.c (.k (I ((fr+t:Nat):Int))))),(9,.v (.c (.inp 709 (adrK (pr1 ur)) rest.length (capN rest.length (pr1 ur))))),(10,.v (.c (.k (I k))))] [(43,.arr 22 1 (off t+k+1) (elN (fun j=>[us j]) (off t+k) [v]) ((cp2-(off t+k+1))*1)),(839,.say SR (fun w=>∀j,j<off t+k→IntsAt w (us j) (tot.getD j []))),(871,.say ur.2 (matR rest ur)),(709,.ro 1 rest.length (fun i=>[rowU ur i])),(39,.say (sb v) (newV w.heap.size (1+row.length) 1 (catE (fun _=>[I ((fr+t:Nat):Int)]) 1 (elI row)) v))])
      (St.le_of rfl ⟨⟨_,rfl,by rw[hv,hcp2];exact Blk.le_refl _⟩,⟨_,rfl,Blk.le_refl _⟩,⟨_,rfl,Blk.le_refl _⟩,⟨_,rfl,Blk.le_refl _⟩,⟨_,rfl,by rw[hv];exact Blk.le_refl _⟩,trivial⟩ ⟨rfl,rfl,rfl,by rw[hcp2];rfl,rfl,rfl,rfl,trivial⟩) ?_
    clear hv hcp2
    have hnew:∀w1,newV w.heap.size (1+row.length) 1 (catE (fun _=>[I ((fr+t:Nat):Int)]) 1 (elI row)) v w1→IntsAt w1 v (tot.getD (off t+k) []):=fun w1 h=>by
      rw[htk]
      refine IntsAt.of h.1 (by simp;omega) fun j hj=>?_
      unfold catE
      cases j with
      |zero=>rfl
      |succ j=>rw[if_neg (by omega),Nat.add_sub_cancel];simp[elI]
    refine G.fact (φ:=∀k,sb v k→w.heap.size≤k) 39 rfl (fun w1 h=>h.2) fun hvlo=>?_
    obtain⟨N,hN⟩:∃N,N=off t+k:=⟨_,rfl⟩
    rw[←hN]at hcl hU hnew ⊢
    obtain⟨us',hus⟩:∃us':Nat→Value,us'=fun j=>if j=N then v else us j:=⟨_,rfl⟩
    have hso:∀j,j<N→us' j=us j:=fun j hj=>by rw[hus];simp only;rw[if_neg (by omega)]
    have hsn:us' N=v:=by rw[hus];simp
    refine G.bothS 839 839 39 (fun k=>SR k∨sb v k) (fun w=>∀j,j<N+1→IntsAt w (us' j) (tot.getD j [])) rfl rfl (fun k hk=>hk) (fun s1 s2 w1 w2 a1 a2 a3 j hj=>?_) (fun w ha hb j hj=>?_) (fun b hb=>⟨_,_,(Option.some.inj hb).symm⟩) ?_
    · by_cases e:j=N
      · subst e
        have h3:=a3 j hj
        rw[hsn]at h3 ⊢
        exact steady_ints w1 w2 (fun k hk=>a1 k (.inr hk)) a2 h3
      · have h3:=s1 w1 w2 (fun k hk=>a1 k (.inl hk)) a2 (fun j' hj'=>by have:=a3 j' (by omega);rwa [hso j' hj']at this) j (by omega)
        rw[hso j (by omega)]
        exact h3
    · by_cases e:j=N
      · subst e
        rw[hsn]
        exact hnew w hb
      · rw[hso j (by omega)]
        exact ha j (by omega)
    refine G.rn 43 63 rfl trivial rfl rfl rfl ?_
    refine G.reg tfine rfl trivial ?_
    refine⟨(k+1,cp2,us',fun k=>SR k∨sb v k),⟨by simp only;omega,by simp only;omega,fun k hk=>hk.elim (hSR k) (hvlo k),fun j hj k' hk'=>?_⟩,(by show rest.length-(k+1)<rest.length-k;omega),?_⟩
    · by_cases e:j=N
      · subst e
        simp only[hsn]at hk'
        exact .inr hk'
      · simp only[hso j (by omega)]at hk'
        exact .inl (hU j (by omega) k' hk')
    have e1:off t+(k+1)=N+1:=by omega
    simp only[e1]
    exact St.le_of rfl ⟨⟨_,rfl,rfl,rfl,Nat.le_refl _,(fun q hq=>by
        by_cases e:q=N
        · subst e
          rw[elN_eq]
          show [us' q]=_
          rw[hsn]
        · rw[elN_lt (by omega)]
          show [us' q]=_
          rw[hso q (by omega)]),Nat.le_refl _⟩,⟨_,rfl,Blk.le_refl _⟩,⟨_,rfl,Blk.le_refl _⟩,⟨_,rfl,Blk.le_refl _⟩,trivial⟩ ⟨rfl,rfl,rfl,rfl,rfl,rfl,by first|rfl|(simp[up,I,rnS,rnTV,rnAV,rnAC];rw[IntWalk.i64_in _ (by omega)]),trivial⟩
end Go.Proofs.Ytafhnfcahhlanaa
namespace Go.Proofs.Ytafhnfcahhlanaa
open Go.Sx Go.RowKit
theorem snocSay {E:Env} {K:Exit→St→Prop} {c:Code} {t:Nat→TV} {m:Mem} (Y d2 N:Nat) {SR Sv:Nat→Prop} {us:Nat→Value} {tot:Nat→List Int} {v:Value} {R':World→Prop} (h1:m Y=some (.say SR (fun w=>∀j,j<N→IntsAt w (us j) (tot j)))) (h2:m d2=some (.say Sv R')) (hSv:∀k,sb v k→Sv k) (hnew:∀w,R' w→IntsAt w v (tot N))
    (k:∀us':Nat→Value,(∀j,j<N→us' j=us j)→us' N=v→G Try.prog E K c ⟨t,up m Y (some (.say (fun k=>SR k∨sb v k) (fun w=>∀j,j<N+1→IntsAt w (us' j) (tot j))))⟩):G Try.prog E K c ⟨t,m⟩:=by
  obtain⟨us',hus⟩:∃us':Nat→Value,us'=fun j=>if j=N then v else us j:=⟨_,rfl⟩
  have hso:∀j,j<N→us' j=us j:=fun j hj=>by rw[hus];simp only;rw[if_neg (by omega)]
  have hsn:us' N=v:=by rw[hus];simp
  refine G.bothS Y Y d2 (fun k=>SR k∨sb v k) (fun w=>∀j,j<N+1→IntsAt w (us' j) (tot j)) h1 h2 (fun k hk=>hk.imp id (hSv k)) (fun s1 s2 w1 w2 a1 a2 a3 j hj=>?_) (fun w ha hb j hj=>?_) (fun b hb=>⟨SR,_,by rw[h1]at hb;exact (Option.some.inj hb).symm⟩) (k us' hso hsn)
  · by_cases e:j=N
    · subst e
      have h3:=a3 j hj
      rw[hsn]at h3 ⊢
      exact steady_ints w1 w2 (fun k hk=>a1 k (.inr hk)) a2 h3
    · have h3:=s1 w1 w2 (fun k hk=>a1 k (.inl hk)) a2 (fun j' hj'=>by have:=a3 j' (by omega);rwa [hso j' hj']at this) j (by omega)
      rw[hso j (by omega)]
      exact h3
  · by_cases e:j=N
    · subst e
      rw[hsn]
      exact hnew w hb
    · rw[hso j (by omega)]
      exact ha j (by omega)
theorem G_joinS {E:Env} {K:Exit→St→Prop} {α:Type} (S:α→St) (pre:α→Prop) {x y:Code} {st:St} (h2:∀z,pre z→G Try.prog E K y (S z)) (h1:(∀z,pre z→∀st,St.le E (S z) st→G Try.prog E K y st)→G Try.prog E (thenK (G Try.prog E K y) K) x st):G Try.prog E K (.seq x y) st:=
  G.seq (h1 fun z hz st hle=>G.weaken hle (h2 z hz))
theorem snoc_row {us us':Nat→Value} {N:Nat} {v:Value} (h1:∀j,j<N→us' j=us j) (h2:us' N=v):∀q,q<N+1→elN (fun j=>[us j]) N [v] q=[us' q]:=fun q hq=>by
  by_cases e:q=N
  · subst e;rw[elN_eq,h2]
  · rw[elN_lt (by omega),h1 q (by omega)]
theorem snoc_row' {us us':Nat→Value} {N:Nat} {v:Value} (h1:∀j,j<N→us' j=us j) (h2:us' N=v):∀q,q<N+1→[us' q]=elN (fun j=>[us j]) N [v] q:=fun q hq=>(snoc_row h1 h2 q hq).symm
theorem snoc_U {SR:Nat→Prop} {us us':Nat→Value} {N:Nat} {v:Value} (h1:∀j,j<N→us' j=us j) (h2:us' N=v) (hU:∀j,j<N→∀k,sb (us j) k→SR k):∀j,j<N+1→∀k,sb (us' j) k→SR k∨sb v k:=fun j hj k hk=>by
  by_cases e:j=N
  · subst e;rw[h2]at hk;exact .inr hk
  · rw[h1 j (by omega)]at hk;exact .inl (hU j (by omega) k hk)
theorem pick_fun {α:Type} {n:Nat} {p:Nat→α→Prop} (d:α) (h:∀i,i<n→∃a,p i a):∃f:Nat→α,∀i,i<n→p i (f i):=
  ⟨fun i=>if hi:i<n then Classical.choose (h i hi) else d,fun i hi=>by
    simp only[dif_pos hi]
    exact Classical.choose_spec (h i hi)⟩
theorem ConsAt.lit {w:World} {v:Value} {L:List Cond} {vs:Nat→Value} (h:ConsAt w v L vs):∃f:Nat→Option Addr×Nat,(∀i,i<L.length→vs i=.slice (f i).1 (cAt L i).1.length (f i).2)∧ConsAt w v L (fun i=>.slice (f i).1 (cAt L i).1.length (f i).2):=by
  obtain⟨A,c,e,h1,h2,h3⟩:=h
  obtain⟨f,hf⟩:=pick_fun (n:=L.length) (p:=fun i (a:Option Addr×Nat)=>vs i=.slice a.1 (cAt L i).1.length a.2) (none,0) (fun i hi=>by
    obtain⟨A,c,e,_⟩:=h3 i hi
    exact⟨(A,c),e⟩)
  exact⟨f,hf,A,c,e,h1.congr fun i hi=>by rw[elC,elC,hf i hi],h2,fun i hi=>by have:=h3 i hi;rw[hf i hi]at this;exact this⟩
theorem MatAt.lit {w:World} {v:Value} {M:List (List Int)} {vs:Nat→Value} (h:MatAt w v M vs):∃f:Nat→Option Addr×Nat,(∀i,i<M.length→vs i=.slice (f i).1 (M.getD i []).length (f i).2)∧MatAt w v M (fun i=>.slice (f i).1 (M.getD i []).length (f i).2):=by
  obtain⟨A,c,e,h1,h2,h3⟩:=h
  obtain⟨f,hf⟩:=pick_fun (n:=M.length) (p:=fun i (a:Option Addr×Nat)=>vs i=.slice a.1 (M.getD i []).length a.2) (none,0) (fun i hi=>by
    obtain⟨A,c,e,_⟩:=h3 i hi
    exact⟨(A,c),e⟩)
  exact⟨f,hf,A,c,e,h1.congr fun i hi=>by rw[hf i hi],h2,fun i hi=>by have:=h3 i hi;rw[hf i hi]at this;exact this⟩
theorem set_el (l:List Int) (v:Int) (k q:Nat) (hq:q<l.length):elI (l.set k v) q=bif Nat.beq q (0+(k:Int).toNat) then [Value.int .i64 v] else elI l q:=by
  rw[Int.toNat_natCast,Nat.zero_add]
  by_cases e:q=k
  · subst e
    rw[Nat.beq_refl,cond_true]
    simp[elI,hq]
  · rw[nbeq e,cond_false]
    simp[elI,List.getD_eq_getElem?_getD,List.getElem?_set,Ne.symm e]
def ptCol (L:List Cond) (set:List Int) (k:Nat):List (List Int):=set.map fun i=>(cAt L i.toNat).1.set k (cAt L i.toNat).2
def ptD (L:List Cond) (set:List Int):Int:=detW set.length (rowsR L set)
def ptNums (L:List Cond) (set:List Int):List Int:=(List.range set.length).map fun k=>detW set.length (ptCol L set k)
def pointM (L:List Cond) (set:List Int):Option Rat:=if ptD L set=0 then none else if ptD L set<0 then some (lowL (negW (ptNums L set)) (W (0-ptD L set)),lowO (negW (ptNums L set)) (W (0-ptD L set))) else some (lowL (ptNums L set) (ptD L set),lowO (ptNums L set) (ptD L set))
def PtA (lo:Nat) (o:Option Rat) (w w':World) (e:Ending):Prop:=∃u:Cho,e=.returned (.tuple #[.agg #[slV (cur o).1.length u,I (cur o).2],.bool o.isSome])∧Below w.heap.size w w'∧newI lo (cur o).1 (slV (cur o).1.length u) w'∧(∀k,sb (slV (cur o).1.length u) k→w.heap.size≤k∧k<w'.heap.size)∧Steady (sb (slV (cur o).1.length u)) (newI lo (cur o).1 (slV (cur o).1.length u))
theorem PtA.nil {lo:Nat} {w w':World} (hb:Below w.heap.size w w'):PtA lo none w w' (.returned (.tuple #[.agg #[.slice none 0 0,I 0],.bool false])):=
  ⟨(.slice none 0 0,fun _=>False),rfl,hb,⟨⟨none,0,rfl,RdRow.nil _ _ _ _,fun h=>by cases h⟩,fun k hk=>(nil_sb hk).elim⟩,fun k hk=>(nil_sb hk).elim,newI_steady⟩
theorem shortC (A:Option Addr) (c0:Nat) (l:List Int) (over:Int) (lo:Nat) (w:World) (hlo:lo≤w.heap.size) (hA:RdRow w A l.length 1 (elI l)) (hn:l.length≤100000) (h1:1≤over) (h2:over≤9223372036854775807) (hl:∀k,k<l.length→-9223372036854775808<l.getD k 0∧l.getD k 0≤9223372036854775807):
    Calls Try.prog 69 #[.agg #[.slice A l.length c0,I over]] w fun e w'=>∃u:Cho,e=.returned (.agg #[slV (lowL l over).length u,I (lowO l over)])∧Below w.heap.size w w'∧newI lo (lowL l over) (slV (lowL l over).length u) w'∧(∀k,sb (slV (lowL l over).length u) k→w.heap.size≤k∧k<w'.heap.size)∧Steady (sb (slV (lowL l over).length u)) (newI lo (lowL l over) (slV (lowL l over).length u)):=by
  refine (refShorten_any A c0 l over w hA hn h1 h2 hl).mono ?_
  rintro e w' ⟨h,hb⟩
  obtain⟨A1,c1,rfl,hc,hr⟩:=h.rat
  have hs:=rdNew_sb hr (c:=c1)
  refine⟨(.slice A1 (lowL l over).length c1,fun _=>False),by rw[slV_eq hc],hb,?_,by rw[slV_eq hc];exact hs,newI_steady⟩
  rw[slV_eq hc]
  exact⟨⟨A1,c1,rfl,hr.rd,fun _=>hc⟩,fun k hk=>Nat.le_trans hlo (hs k hk).1⟩
theorem refPoint_any (AL As:Option Addr) (cL cs:Nat) (L:List Cond) (set:List Int) (vs:Nat→Value) (w:World) (hL0:ConsAt w (.slice AL L.length cL) L vs) (hA:RdRow w As set.length 1 (elI set)) (lo:Nat) (hlo:lo≤w.heap.size) (hn:set.length≤100) (hin:∀i,i<set.length→0≤set.getD i 0∧set.getD i 0<L.length) (hrow:∀i,i<L.length→(cAt L i).1.length=set.length)
    (hd : -24000000000000≤ptD L set∧ptD L set≤24000000000000) (hb:∀k,k<set.length→-24000000000000≤(ptNums L set).getD k 0∧(ptNums L set).getD k 0≤24000000000000):
    Calls Try.prog 85 #[.slice AL L.length cL,.slice As set.length cs] w fun e w'=>PtA lo (pointM L set) w w' e:=by
  obtain⟨f,hx0,hL⟩:=hL0.lit
  clear hx0 hL0 vs
  obtain⟨vs,hvs⟩:∃vs:Nat→Value,vs=fun i=>.slice (f i).1 (cAt L i).1.length (f i).2:=⟨_,rfl⟩
  rw[←hvs]at hL
  obtain⟨_,_,e,hAL,hcL,hri⟩:=hL
  cases e
  have hLl:0<set.length→L.length≤cL:=fun h=>hcL (by have:=hin 0 h;omega)
  obtain⟨n,hsn⟩:∃n,n=set.length:=⟨_,rfl⟩
  rw[←hsn]at hA hn hin hrow hb hLl ⊢
  have hq:∀i,i<n→(set.getD i 0).toNat<L.length:=fun i hi=>by have:=hin i hi;omega
  have hri2:∀i,i<n→IntsAt w (vs (set.getD i 0).toNat) ((rowsR L set).getD i []):=fun i hi=>by
    rw[rowsR_get L set i (by omega)]
    exact hri _ (hq i hi)
  have hrl2:∀i,i<n→((rowsR L set).getD i []).length=n:=fun i hi=>by
    rw[rowsR_get L set i (by omega)]
    exact hrow _ (hq i hi)
  subst hvs
  refine enterIn _ Try.func85 rfl 90 Try.ntmps85 [.c (.inp 1000 AL L.length cL),.c (.inp 1001 As n cs)] [⟨1000,AL,2,L.length,elC L (fun i=>.slice (f i).1 (cAt L i).1.length (f i).2)⟩,⟨1001,As,1,n,elI set⟩] rfl rfl ⟨hAL,hA,trivial⟩ ⟨.inl ⟨rfl,rfl,rfl⟩,.inr ⟨nx rfl,.inl ⟨rfl,rfl,rfl⟩⟩,trivial⟩ ?_
  refine G.seqR tfine rfl trivial ?_
  refine G.seqR tfine rfl trivial ?_
  refine G.seqC tfine rfl trivial ?_
  refine GO.steps (Steps.emptyOwn tfine 1 (fun j:Nat=>([.slice (f (set.getD j 0).toNat).1 (cAt L (set.getD j 0).toNat).1.length (f (set.getD j 0).toNat).2]:List Value)) rfl rfl rfl rfl rfl rfl rfl rfl rfl) ?_
  refine GO.fin tfine rfl trivial ?_
  refine G.rn 17 63 rfl trivial rfl rfl rfl ?_
  refine G.seq ?_
  refine G.seqR tfine rfl trivial ?_
  refine G.tellAs 990 rfl rfl ?_
  refine G.block (G.loop (fun z:Nat×Nat=>St.of [(0,.v (.c (.inp 1000 AL L.length cL))),(1,.v (.c (.inp 1001 As n cs))),(4,.v (.c (.ptr 4 0 0 0))),(5,.v (.c (.k (.bool false)))),(6,.v (.c (.k (I n)))),(7,.v (.c (.slc 63 0 1 z.1 z.2))),(8,.v (.c (.k (I z.1))))] [(4,.var 29 [.k (.slice none 0 0),.k (I 0)]),(990,.say (· < w.heap.size) (asOf w)),(1000,.ro 2 L.length (elC L (fun i=>.slice (f i).1 (cAt L i).1.length (f i).2))),(1001,.ro 1 n (elI set)),(63,.arr 22 1 z.1 (fun j=>[.slice (f (set.getD j 0).toNat).1 (cAt L (set.getD j 0).toNat).1.length (f (set.getD j 0).toNat).2]) ((z.2-z.1)*1))])
    (fun z=>z.1≤n∧z.1≤z.2) (fun z=>n-z.1) (0,0) ⟨Nat.zero_le _,Nat.le_refl _⟩ (St.le_of rfl ⟨⟨_,rfl,Blk.le_refl _⟩,⟨_,rfl,Blk.le_refl _⟩,⟨_,rfl,Blk.le_refl _⟩,⟨_,rfl,Blk.le_refl _⟩,⟨_,rfl,Blk.le_refl _⟩,trivial⟩ ⟨rfl,rfl,rfl,rfl,rfl,rfl,rfl,trivial⟩) ?_)
  rintro⟨i,cp⟩ ⟨hi,hcp⟩
  simp only at hi hcp
  refine G.seq ?_
  refine G.seqR tfine rfl trivial ?_
  refine G.cond (b:=decide ((i:Int)<(n:Int))) rfl (fun h5=>?_) (fun h5=>?_)
  · have h5:=of_decide_eq_true h5
    have hlt:i<n:=by omega
    obtain⟨Aq,cq,hvq,hAq,hcq⟩:=hri2 i hlt
    refine G.skip ?_
    refine G.seq ?_
    refine G.block ?_
    have:=hin i hlt
    refine G.regC tfine rfl ?_ ?_
    · first|trivial|(simp[AllP,condB];done)|(simp only[AllP];and_intros<;>first|trivial|decide|omega)|(simp[AllP,condB];intros;and_intros<;>first|assumption|omega)|(simp[AllP,condB];intros;simp_all;done)
    rw[Int.toNat_natCast]
    refine GO.choice (StepsC.appendOwn1 (n:=i) (c:=cp) (room:=(cp-i)*1) [.slice (f (set.getD i 0).toNat).1 (cAt L (set.getD i 0).toNat).1.length (f (set.getD i 0).toNat).2] apLL rfl rfl rfl rfl rfl rfl rfl rfl rfl (Nat.le_refl _) rfl rfl rfl rfl (fun u hu=>by simp at hu;subst hu;rfl) (fun k hk=>rfl) (by unfold maxLen;omega) (by omega)) fun uu=>?_
    refine GO.fin tfine rfl trivial ?_
    obtain⟨cp2,hcp2⟩:∃cp2,cp2=capN (i+1) uu:=⟨_,rfl⟩
    have hcl:i+1≤cp2:=by rw[hcp2];exact capN_le _ _
    refine G.weaken (st':=St.of [(0,.v (.c (.inp 1000 AL L.length cL))),(1,.v (.c (.inp 1001 As n cs))),(4,.v (.c (.ptr 4 0 0 0))),(5,.v (.c (.k (.bool false)))),(6,.v (.c (.k (I n)))),(7,.v (.c (.slc 33 0 1 (i+1) cp2))),(8,.v (.c (.k (I i))))] [(4,.var 29 [.k (.slice none 0 0),.k (I 0)]),(990,.say (· < w.heap.size) (asOf w)),(1000,.ro 2 L.length (elC L (fun i=>.slice (f i).1 (cAt L i).1.length (f i).2))),(1001,.ro 1 n (elI set)),(33,.arr 22 1 (i+1) (elN (fun j=>[.slice (f (set.getD j 0).toNat).1 (cAt L (set.getD j 0).toNat).1.length (f (set.getD j 0).toNat).2]) i [.slice (f (set.getD i 0).toNat).1 (cAt L (set.getD i 0).toNat).1.length (f (set.getD i 0).toNat).2]) ((cp2-(i+1))*1))])
      (St.le_of rfl ⟨⟨_,rfl,Blk.le_refl _⟩,⟨_,rfl,Blk.le_refl _⟩,⟨_,rfl,Blk.le_refl _⟩,⟨_,rfl,Blk.le_refl _⟩,⟨_,rfl,by rw[hcp2];exact Blk.le_refl _⟩,trivial⟩ ⟨rfl,rfl,rfl,rfl,rfl,by rw[hcp2];rfl,rfl,trivial⟩) ?_
    clear hcp2
    refine G.rn 33 63 rfl trivial rfl rfl rfl ?_
    refine G.reg tfine rfl trivial ?_
    refine⟨(i+1,cp2),⟨by simp only;omega,hcl⟩,(by show n-(i+1)<n-i;omega),?_⟩
    exact St.le_of rfl ⟨⟨_,rfl,Blk.le_refl _⟩,⟨_,rfl,Blk.le_refl _⟩,⟨_,rfl,Blk.le_refl _⟩,⟨_,rfl,Blk.le_refl _⟩,⟨_,rfl,rfl,rfl,Nat.le_refl _,(fun q hq=>by
        by_cases e:q=i
        · subst e;rw[elN_eq]
        · rw[elN_lt (by omega)]),Nat.le_refl _⟩,trivial⟩ ⟨rfl,rfl,rfl,rfl,rfl,rfl,by first|rfl|(simp[up,I,rnS,rnTV,rnAV,rnAC];rw[IntWalk.i64_in _ (by omega)]),trivial⟩
  have h5:=of_decide_eq_false h5
  have:i=n:=by omega
  subst i
  refine G.exit ?_
  have hdet:∀w1 (ρ:Val),Below w.heap.size w w1→RdRow w1 (some ⟨(ρ 63).1,(ρ 63).2+0*1,none⟩) n 1 (fun j=>[.slice (f (set.getD j 0).toNat).1 (cAt L (set.getD j 0).toNat).1.length (f (set.getD j 0).toNat).2])→Calls Try.prog 99 #[.slice (some ⟨(ρ 63).1,(ρ 63).2+0*1,none⟩) n cp] w1 fun e w'=>e=.returned (I (ptD L set))∧Below w1.heap.size w1 w':=fun w1 ρ hb hr=>by
    have hl:(rowsR L set).length=n:=by rw[rowsR_len,hsn]
    have:=refDet_any n (rowsR L set) (.slice (some ⟨(ρ 63).1,(ρ 63).2+0*1,none⟩) n cp) (fun j=>.slice (f (set.getD j 0).toNat).1 (cAt L (set.getD j 0).toNat).1.length (f (set.getD j 0).toNat).2) w1 hl hn hrl2 ⟨_,cp,by rw[hl],by rw[hl];exact hr,fun _=>by rw[hl];exact hcp,fun j hj=>(hri2 j (by omega)).below hb⟩
    rw[ptD,←hsn]
    exact this
  refine G.seqC tfine rfl trivial ?_
  refine GO.callPlain (v:=I (ptD L set)) rfl rfl rfl rfl (fun args w=>Try.call99 args w) (fun ρ w1 hs hok=>hdet w1 ρ hs.fr.toBelow ((hs.rdArr (x:=63) rfl 0 n (by omega)).congr fun q hq=>by rw[Nat.zero_add])) ?_
  refine GO.fin tfine rfl trivial ?_
  refine G.seq ?_
  refine G.seqR tfine rfl trivial ?_
  refine G.cond (b:=ptD L set==0) rfl (fun h=>?_) (fun h=>?_)
  · have h:ptD L set=0:=by simpa using h
    refine G.seqR tfine rfl trivial ?_
    refine G.ret ⟨.inl rfl,fun ρ a w' hs=>⟨_,results_run tfine hs rfl,?_⟩⟩
    rw[pointM,if_pos h]
    exact PtA.nil hs.mem.fr.toBelow
  have hd0:ptD L set≠0:=by simpa using h
  have hpl:(ptNums L set).length=n:=by simp[ptNums,hsn]
  refine G.skip ?_
  refine G.seqR tfine rfl trivial ?_
  refine G.newNil 833 1 (elI []) rfl ?_
  refine G.seq ?_
  refine G.seqR tfine rfl trivial ?_
  refine G.block (G.loop (fun z:Nat×Nat=>St.of [(0,.v (.c (.inp 1000 AL L.length cL))),(1,.v (.c (.inp 1001 As n cs))),(4,.v (.c (.ptr 4 0 0 0))),(5,.v (.c (.k (.bool false)))),(6,.v (.c (.k (I n)))),(7,.v (.c (.slc 63 0 1 n cp))),(9,.v (.c (.k (I (ptD L set))))),(10,.v (.c (.ptr 10 0 0 0))),(11,.v (.c (.k (I z.1))))] [(4,.var 29 [.k (.slice none 0 0),.k (I 0)]),(990,.say (· < w.heap.size) (asOf w)),(1000,.ro 2 L.length (elC L (fun i=>.slice (f i).1 (cAt L i).1.length (f i).2))),(1001,.ro 1 n (elI set)),(63,.arr 22 1 n (fun j=>[.slice (f (set.getD j 0).toNat).1 (cAt L (set.getD j 0).toNat).1.length (f (set.getD j 0).toNat).2]) ((cp-n)*1)),(10,.var 29 [accV 833 1 z.1 z.2,.k (I (ptD L set))]),(833,accB 3 1 z.1 z.2 (elI ((ptNums L set).take z.1)))])
    (fun z=>z.1≤n∧z.1≤z.2) (fun z=>n-z.1) (0,0) ⟨Nat.zero_le _,Nat.le_refl _⟩ (St.le_of rfl ⟨⟨_,rfl,Blk.le_refl _⟩,⟨_,rfl,Blk.le_refl _⟩,⟨_,rfl,Blk.le_refl _⟩,⟨_,rfl,Blk.le_refl _⟩,⟨_,rfl,Blk.le_refl _⟩,⟨_,rfl,Blk.le_refl _⟩,⟨_,rfl,Blk.le_refl _⟩,trivial⟩ ⟨rfl,rfl,rfl,rfl,rfl,rfl,rfl,rfl,rfl,trivial⟩) ?_)
  rintro⟨k,kp⟩ ⟨hk,hkp⟩
  simp only at hk hkp
  refine G.seq ?_
  refine G.seqR tfine rfl trivial ?_
  refine G.cond (b:=decide ((k:Int)<(n:Int))) rfl (fun h5=>?_) (fun h5=>?_)
  · have h5:=of_decide_eq_true h5
    have hlt:k<n:=by omega
    have hcol:∀i,i<n→(ptCol L set k).getD i []=(cAt L (set.getD i 0).toNat).1.set k (cAt L (set.getD i 0).toNat).2:=fun i hi=>by
      simp[ptCol,List.getD_eq_getElem?_getD,List.getElem?_map,List.getElem?_eq_getElem (show i<set.length by omega)]
    have hcoll:(ptCol L set k).length=n:=by simp[ptCol,hsn]
    have hcolr:∀i,i<n→((ptCol L set k).getD i []).length=n:=fun i hi=>by
      rw[hcol i hi,List.length_set]
      exact hrow _ (hq i hi)
    rcases k with _|k
    · refine G.skip ?_
      refine G.seq ?_
      refine G.block ?_
      refine G.seqC tfine rfl trivial ?_
      refine GO.steps (Steps.emptyOwn tfine 1 (fun j:Nat=>([undef]:List Value)) rfl rfl rfl rfl rfl rfl rfl rfl rfl) ?_
      refine GO.fin tfine rfl trivial ?_
      refine G.rn 46 64 rfl trivial rfl rfl rfl ?_
      refine G.seq ?_
      refine G.seqR tfine rfl trivial ?_
      refine G.tellF 839 (fun w=>∀j,j<0→IntsAt w undef ((ptCol L set 0).getD j [])) (fun w j hj=>by omega) rfl ?_
      refine G.block (G.loop (fun z:Nat×Nat×(Nat→Value)×(Nat→Prop)=>St.of [(0,.v (.c (.inp 1000 AL L.length cL))),(1,.v (.c (.inp 1001 As n cs))),(4,.v (.c (.ptr 4 0 0 0))),(5,.v (.c (.k (.bool false)))),(6,.v (.c (.k (I n)))),(7,.v (.c (.slc 63 0 1 n cp))),(9,.v (.c (.k (I (ptD L set))))),(10,.v (.c (.ptr 10 0 0 0))),(11,.v (.c (.k (I (0:Nat))))),(12,.v (.c (.slc 64 0 1 z.1 z.2.1))),(13,.v (.c (.k (I z.1))))] [(4,.var 29 [.k (.slice none 0 0),.k (I 0)]),(990,.say (· < w.heap.size) (asOf w)),(1000,.ro 2 L.length (elC L (fun i=>.slice (f i).1 (cAt L i).1.length (f i).2))),(1001,.ro 1 n (elI set)),(63,.arr 22 1 n (fun j=>[.slice (f (set.getD j 0).toNat).1 (cAt L (set.getD j 0).toNat).1.length (f (set.getD j 0).toNat).2]) ((cp-n)*1)),(10,.var 29 [accV 833 1 0 kp,.k (I (ptD L set))]),(833,accB 3 1 0 kp (elI ((ptNums L set).take 0))),(64,.arr 22 1 z.1 (fun j=>[z.2.2.1 j]) ((z.2.1-z.1)*1)),(839,.say z.2.2.2 (fun w=>∀j,j<z.1→IntsAt w (z.2.2.1 j) ((ptCol L set 0).getD j [])))])
        (fun z=>z.1≤n∧z.1≤z.2.1) (fun z=>n-z.1) (0,0,(fun _=>undef),fun _=>False) ⟨Nat.zero_le _,Nat.le_refl _⟩ (St.le_of rfl ⟨⟨_,rfl,Blk.le_refl _⟩,⟨_,rfl,Blk.le_refl _⟩,⟨_,rfl,Blk.le_refl _⟩,⟨_,rfl,Blk.le_refl _⟩,⟨_,rfl,Blk.le_refl _⟩,⟨_,rfl,Blk.le_refl _⟩,⟨_,rfl,Blk.le_refl _⟩,⟨_,rfl,Blk.le_refl _⟩,⟨_,rfl,Blk.le_refl _⟩,trivial⟩ ⟨rfl,rfl,rfl,rfl,rfl,rfl,rfl,rfl,rfl,rfl,rfl,trivial⟩) ?_)
      rintro⟨i,cq,us,SR⟩ ⟨hi,hcq⟩
      simp only at hi hcq
      refine G.seq ?_
      refine G.seqR tfine rfl trivial ?_
      refine G.cond (b:=decide ((i:Int)<(n:Int))) rfl (fun h6=>?_) (fun h6=>?_)
      · have h6:=of_decide_eq_true h6
        have hil:i<n:=by omega
        obtain⟨Aq,cqq,hvq,hAq,hcqq⟩:=hri2 i hil
        have hrq:(rowsR L set).getD i []=(cAt L (set.getD i 0).toNat).1:=rowsR_get L set i (by omega)
        have hln:(cAt L (set.getD i 0).toNat).1.length=n:=hrow _ (hq i hil)
        rw[hrq]at hvq hAq
        have hvq:Value.slice (f (set.getD i 0).toNat).1 (cAt L (set.getD i 0).toNat).1.length (f (set.getD i 0).toNat).2=.slice Aq (cAt L (set.getD i 0).toNat).1.length cqq:=hvq
        have hvq0:Value.slice (f (set.getD (0+i) 0).toNat).1 (cAt L (set.getD (0+i) 0).toNat).1.length (f (set.getD (0+i) 0).toNat).2=.slice Aq (cAt L (set.getD i 0).toNat).1.length cqq:=by rw[Nat.zero_add];exact hvq
        have hin2:=hin i hil
        refine G.skip ?_
        refine G.seq ?_
        refine G.block ?_
        refine G.seqC tfine rfl trivial ?_
        refine GO.steps (Steps.emptyOwn tfine 1 (elI []) rfl rfl rfl rfl rfl rfl rfl rfl rfl) ?_
        refine GO.more tfine rfl ?_ ?_
        · first|trivial|(simp[AllP,condB];done)|(simp only[AllP];and_intros<;>first|trivial|decide|omega)|(simp[AllP,condB];intros;and_intros<;>first|assumption|omega)|(simp[AllP,condB];intros;simp_all;done)
        rw[Int.toNat_natCast]
        refine GO.choice (StepsC.appendMany (n:=0) (c:=0) (room:=0) (A:=Aq) (n2:=(cAt L (set.getD i 0).toNat).1.length) (c2:=cqq) 990 (elI (cAt L (set.getD i 0).toNat).1) apT35 rfl rfl rfl rfl rfl rfl rfl rfl rfl (Nat.le_refl _) (Nat.le_refl _) rfl (congrArg (fun v=>TV.v (.c (.k v))) hvq0) rfl (fun w1 h=>hAq.asOf h) rfl rfl (fun k _=>rfl) (fun k _ u hu=>by simp[elI]at hu;subst hu;rfl) (fun k hk=>rfl) (by unfold maxLen;omega) (by omega)) fun uu=>?_
        refine GO.fin tfine rfl trivial ?_
        obtain⟨cr,hcr⟩:∃cr,cr=capN (0+(cAt L (set.getD i 0).toNat).1.length) uu:=⟨_,rfl⟩
        have hcrl:n≤cr:=by
          have:=capN_le (0+(cAt L (set.getD i 0).toNat).1.length) uu
          rw[hcr];omega
        refine G.weaken (st':=St.of [(0,.v (.c (.inp 1000 AL L.length cL))),(1,.v (.c (.inp 1001 As n cs))),(4,.v (.c (.ptr 4 0 0 0))),(5,.v (.c (.k (.bool false)))),(6,.v (.c (.k (I n)))),(7,.v (.c (.slc 63 0 1 n cp))),(9,.v (.c (.k (I (ptD L set))))),(10,.v (.c (.ptr 10 0 0 0))),(11,.v (.c (.k (I (0:Nat))))),(12,.v (.c (.slc 64 0 1 i cq))),(13,.v (.c (.k (I i)))),(14,.v (.c (.slc 57 0 1 n cr)))] [(4,.var 29 [.k (.slice none 0 0),.k (I 0)]),(990,.say (· < w.heap.size) (asOf w)),(1000,.ro 2 L.length (elC L (fun i=>.slice (f i).1 (cAt L i).1.length (f i).2))),(1001,.ro 1 n (elI set)),(63,.arr 22 1 n (fun j=>[.slice (f (set.getD j 0).toNat).1 (cAt L (set.getD j 0).toNat).1.length (f (set.getD j 0).toNat).2]) ((cp-n)*1)),(10,.var 29 [accV 833 1 0 kp,.k (I (ptD L set))]),(833,accB 3 1 0 kp (elI ((ptNums L set).take 0))),(64,.arr 22 1 i (fun j=>[us j]) ((cq-i)*1)),(839,.say SR (fun w=>∀j,j<i→IntsAt w (us j) ((ptCol L set 0).getD j []))),(57,.arr 3 1 n (elI (cAt L (set.getD i 0).toNat).1) ((cr-n)*1))])
          (St.le_of rfl ⟨⟨_,rfl,Blk.le_refl _⟩,⟨_,rfl,Blk.le_refl _⟩,⟨_,rfl,Blk.le_refl _⟩,⟨_,rfl,Blk.le_refl _⟩,⟨_,rfl,Blk.le_refl _⟩,⟨_,rfl,Blk.le_refl _⟩,⟨_,rfl,Blk.le_refl _⟩,⟨_,rfl,Blk.le_refl _⟩,⟨_,rfl,Blk.le_refl _⟩,⟨_,rfl,rfl,rfl,(by omega),(fun q hq=>by unfold catE;rw[if_neg (Nat.not_lt_zero _)];rfl),(by rw[←hcr];have:=hln;simp only[Nat.zero_add,this];exact Nat.le_refl _)⟩,trivial⟩ ⟨rfl,rfl,rfl,rfl,rfl,rfl,rfl,rfl,rfl,rfl,rfl,(by rw[hcr];simp only[Nat.zero_add,hln];rfl),trivial⟩) ?_
        clear hcr
        refine G.seqR tfine rfl ?_ ?_
        · simp only[AllP,Int.toNat_natCast,Nat.zero_add];and_intros<;>first|trivial|omega
        refine G.weaken (st':=St.of [(0,.v (.c (.inp 1000 AL L.length cL))),(1,.v (.c (.inp 1001 As n cs))),(4,.v (.c (.ptr 4 0 0 0))),(5,.v (.c (.k (.bool false)))),(6,.v (.c (.k (I n)))),(7,.v (.c (.slc 63 0 1 n cp))),(9,.v (.c (.k (I (ptD L set))))),(10,.v (.c (.ptr 10 0 0 0))),(11,.v (.c (.k (I (0:Nat))))),(12,.v (.c (.slc 64 0 1 i cq))),(13,.v (.c (.k (I i)))),(14,.v (.c (.slc 57 0 1 n cr)))] [(4,.var 29 [.k (.slice none 0 0),.k (I 0)]),(990,.say (· < w.heap.size) (asOf w)),(1000,.ro 2 L.length (elC L (fun i=>.slice (f i).1 (cAt L i).1.length (f i).2))),(1001,.ro 1 n (elI set)),(63,.arr 22 1 n (fun j=>[.slice (f (set.getD j 0).toNat).1 (cAt L (set.getD j 0).toNat).1.length (f (set.getD j 0).toNat).2]) ((cp-n)*1)),(10,.var 29 [accV 833 1 0 kp,.k (I (ptD L set))]),(833,accB 3 1 0 kp (elI ((ptNums L set).take 0))),(64,.arr 22 1 i (fun j=>[us j]) ((cq-i)*1)),(839,.say SR (fun w=>∀j,j<i→IntsAt w (us j) ((ptCol L set 0).getD j []))),(57,.arr 3 1 n (elI ((cAt L (set.getD i 0).toNat).1.set 0 (cAt L (set.getD i 0).toNat).2)) ((cr-n)*1))])
          (St.le_of rfl ⟨⟨_,rfl,Blk.le_refl _⟩,⟨_,rfl,Blk.le_refl _⟩,⟨_,rfl,Blk.le_refl _⟩,⟨_,rfl,Blk.le_refl _⟩,⟨_,rfl,Blk.le_refl _⟩,⟨_,rfl,Blk.le_refl _⟩,⟨_,rfl,Blk.le_refl _⟩,⟨_,rfl,Blk.le_refl _⟩,⟨_,rfl,Blk.le_refl _⟩,⟨_,rfl,rfl,rfl,Nat.le_refl _,(fun q hq=>set_el (cAt L (set.getD i 0).toNat).1 (cAt L (set.getD i 0).toNat).2 0 q (by rw[hln];exact hq)),Nat.le_refl _⟩,trivial⟩ ⟨rfl,rfl,rfl,rfl,rfl,rfl,rfl,rfl,rfl,rfl,rfl,rfl,trivial⟩) ?_
        refine G.freezeArr 57 14 rfl rfl (Nat.le_refl _) fun g hg=>?_
        have hg:w.heap.size≤g:=hg.elim id (fun h=>by cases h)
        refine G.regC tfine rfl trivial ?_
        refine GO.choice (StepsC.appendOwn1 (n:=i) (c:=cq) (room:=(cq-i)*1) [.slice (some ⟨g,0,none⟩) n cr] apLL rfl rfl rfl rfl rfl rfl rfl rfl rfl (Nat.le_refl _) rfl rfl rfl rfl (fun u hu=>by simp at hu;subst hu;rfl) (fun k hk=>rfl) (by unfold maxLen;omega) (by omega)) fun uu=>?_
        refine GO.fin tfine rfl trivial ?_
        obtain⟨cq2,hcq2⟩:∃cq2,cq2=capN (i+1) uu:=⟨_,rfl⟩
        have hcl2:i+1≤cq2:=by rw[hcq2];exact capN_le _ _
        refine G.weaken (st':=St.of [(0,.v (.c (.inp 1000 AL L.length cL))),(1,.v (.c (.inp 1001 As n cs))),(4,.v (.c (.ptr 4 0 0 0))),(5,.v (.c (.k (.bool false)))),(6,.v (.c (.k (I n)))),(7,.v (.c (.slc 63 0 1 n cp))),(9,.v (.c (.k (I (ptD L set))))),(10,.v (.c (.ptr 10 0 0 0))),(11,.v (.c (.k (I (0:Nat))))),(12,.v (.c (.slc 72 0 1 (i+1) cq2))),(13,.v (.c (.k (I i))))] [(4,.var 29 [.k (.slice none 0 0),.k (I 0)]),(990,.say (· < w.heap.size) (asOf w)),(1000,.ro 2 L.length (elC L (fun i=>.slice (f i).1 (cAt L i).1.length (f i).2))),(1001,.ro 1 n (elI set)),(63,.arr 22 1 n (fun j=>[.slice (f (set.getD j 0).toNat).1 (cAt L (set.getD j 0).toNat).1.length (f (set.getD j 0).toNat).2]) ((cp-n)*1)),(10,.var 29 [accV 833 1 0 kp,.k (I (ptD L set))]),(833,accB 3 1 0 kp (elI ((ptNums L set).take 0))),(72,.arr 22 1 (i+1) (elN (fun j=>[us j]) i [.slice (some ⟨g,0,none⟩) n cr]) ((cq2-(i+1))*1)),(839,.say SR (fun w=>∀j,j<i→IntsAt w (us j) ((ptCol L set 0).getD j []))),(57,.say (·=g) (fun w=>RdRow w (some ⟨g,0,none⟩) n 1 (elI ((cAt L (set.getD i 0).toNat).1.set 0 (cAt L (set.getD i 0).toNat).2))))])
          (St.le_of rfl ⟨⟨_,rfl,Blk.le_refl _⟩,⟨_,rfl,Blk.le_refl _⟩,⟨_,rfl,Blk.le_refl _⟩,⟨_,rfl,Blk.le_refl _⟩,⟨_,rfl,Blk.le_refl _⟩,⟨_,rfl,Blk.le_refl _⟩,⟨_,rfl,Blk.le_refl _⟩,⟨_,rfl,by rw[hcq2];exact Blk.le_refl _⟩,⟨_,rfl,Blk.le_refl _⟩,⟨_,rfl,Blk.le_refl _⟩,trivial⟩ ⟨rfl,rfl,rfl,rfl,rfl,rfl,rfl,rfl,rfl,by rw[hcq2];rfl,rfl,trivial⟩) ?_
        clear hcq2
        refine snocSay 839 57 i (tot:=fun j=>(ptCol L set 0).getD j []) (v:=.slice (some ⟨g,0,none⟩) n cr) rfl rfl (fun k hk=>by obtain⟨_,a,e,rfl⟩:=hk;cases e;rfl) (fun w1 h=>by
          rw[hcol i hil]
          exact intsAt_of (by rw[List.length_set,hln]) h hcrl) fun us' hs1 hs2=>?_
        refine G.rn 72 64 rfl trivial rfl rfl rfl ?_
        refine G.reg tfine rfl trivial ?_
        refine⟨(i+1,cq2,us',fun k=>SR k∨sb (.slice (some ⟨g,0,none⟩) n cr) k),⟨by simp only;omega,hcl2⟩,(by show n-(i+1)<n-i;omega),?_⟩
        exact St.le_of rfl ⟨⟨_,rfl,Blk.le_refl _⟩,⟨_,rfl,Blk.le_refl _⟩,⟨_,rfl,Blk.le_refl _⟩,⟨_,rfl,Blk.le_refl _⟩,⟨_,rfl,Blk.le_refl _⟩,⟨_,rfl,Blk.le_refl _⟩,⟨_,rfl,Blk.le_refl _⟩,⟨_,rfl,rfl,rfl,Nat.le_refl _,snoc_row' hs1 hs2,Nat.le_refl _⟩,⟨_,rfl,Blk.le_refl _⟩,trivial⟩ ⟨rfl,rfl,rfl,rfl,rfl,rfl,rfl,rfl,rfl,rfl,by first|rfl|(simp[up,I,rnS,rnTV,rnAV,rnAC];rw[IntWalk.i64_in _ (by omega)]),trivial⟩
      have h6:=of_decide_eq_false h6
      have:i=n:=by omega
      subst this
      refine G.exit ?_
      obtain⟨v,hv⟩:∃v,v=detW i (ptCol L set 0):=⟨_,rfl⟩
      have hvl:(ptNums L set).take (0+1)=(ptNums L set).take 0++[v]:=by
        rw[List.take_succ_eq_append_getElem (by omega)]
        congr 2
        rw[hv]
        simp[ptNums,←hsn]
      have hlk:((ptNums L set).take 0).length=0:=by rw[List.length_take];omega
      have hsnn:∀j,j<0+1→elI ((ptNums L set).take (0+1)) j=elN (elI ((ptNums L set).take 0)) 0 [I v] j:=fun j hj=>by
        have:=elI_snoc ((ptNums L set).take 0) v j (by rw[hlk];exact hj)
        rw[hlk]at this
        rw[hvl,this]
      apply G.drawC (ch:=fun j=>match j with|5=>some (accF 833 78 (0+1) 1 3 (elN (elI ((ptNums L set).take 0)) 0 [I v]))|_=>none) (cls:=[0,1,0,4,12,31,63,127]) (X:=[(5,78),(5,833),(7,10)]) hmix rfl rfl rfl
      · intro cc
        refine GC.more tfine 0 rfl rfl rfl trivial ?_
        refine GC.step 3 rfl rfl (tv:=toTV (I v)) (ms:=[]) (Steps.callPlain rfl rfl rfl rfl (fun args w=>Try.call99 args w) (fun m' hle ρ w1 hs hok=>?_)) rfl ?_
        · have hF1:=hs.rdArr (hle.at (y:=64) rfl) 0 i (by omega)
          have:=refDet_any i (ptCol L set 0) (.slice (some ⟨(ρ 64).1,(ρ 64).2+0*1,none⟩) i cq) us w1 hcoll (by omega) hcolr ⟨_,cq,by rw[hcoll],by rw[hcoll];exact hF1.congr fun q hq=>by rw[Nat.zero_add],fun _=>by rw[hcoll];exact hcq,fun q hq=>(hs.ok 839 _ (hle.at rfl)).1 q (by rw[←hcoll];exact hq)⟩
          rw[←hv]at this
          exact this
        refine GC.more tfine 4 rfl rfl rfl trivial ?_
        refine GC.choice 5 rfl _ rfl (StepsC.appendAcc (n:=0) (c:=kp) [I v] apT35 rfl rfl rfl rfl rfl rfl rfl rfl rfl rfl rfl rfl rfl (fun u hu=>by simp at hu;subst hu;rfl) (fun k hk=>rfl) (by unfold maxLen;omega) (by omega)) rfl accF_nm rfl ?_
        refine GC.more tfine 6 rfl rfl rfl trivial ?_
        refine GC.nil ?_
        refine G.weaken (st':=St.of [(0,.v (.c (.inp 1000 AL L.length cL))),(1,.v (.c (.inp 1001 As i cs))),(4,.v (.c (.ptr 4 0 0 0))),(5,.v (.c (.k (.bool false)))),(6,.v (.c (.k (I i)))),(7,.v (.c (.slc 63 0 1 i cp))),(9,.v (.c (.k (I (ptD L set))))),(10,.v (.c (.ptr 10 0 0 0))),(11,.v (.c (.k (I (0:Nat)))))] [(4,.var 29 [.k (.slice none 0 0),.k (I 0)]),(990,.say (· < w.heap.size) (asOf w)),(1000,.ro 2 L.length (elC L (fun i=>.slice (f i).1 (cAt L i).1.length (f i).2))),(1001,.ro 1 i (elI set)),(63,.arr 22 1 i (fun j=>[.slice (f (set.getD j 0).toNat).1 (cAt L (set.getD j 0).toNat).1.length (f (set.getD j 0).toNat).2]) ((cp-i)*1)),(10,.var 29 [.slc 78 0 1 (0+1) (capN (0+1) (cc 5)),.k (I (ptD L set))]),(78,.arr 3 1 (0+1) (elN (elI ((ptNums L set).take 0)) 0 [I v]) ((capN (0+1) (cc 5)-(0+1))*1))])
          (St.le_of rfl ⟨⟨_,rfl,Blk.le_refl _⟩,⟨_,rfl,Blk.le_refl _⟩,⟨_,rfl,Blk.le_refl _⟩,⟨_,rfl,Blk.le_refl _⟩,⟨_,rfl,Blk.le_refl _⟩,⟨_,rfl,Blk.le_refl _⟩,⟨_,rfl,Blk.le_refl _⟩,trivial⟩ ⟨rfl,rfl,rfl,rfl,rfl,rfl,rfl,rfl,rfl,trivial⟩) ?_
        refine G.rn 78 833 rfl trivial rfl rfl rfl ?_
        refine G.reg tfine rfl trivial ?_
        refine⟨(0+1,capN (0+1) (cc 5)),⟨by simp only;omega,capN_le _ _⟩,(by show i-(0+1)<i-0;omega),?_⟩
        exact St.le_of rfl ⟨⟨_,rfl,Blk.le_refl _⟩,⟨_,rfl,Blk.le_refl _⟩,⟨_,rfl,Blk.le_refl _⟩,⟨_,rfl,Blk.le_refl _⟩,⟨_,rfl,Blk.le_refl _⟩,⟨_,rfl,Blk.le_refl _⟩,⟨_,rfl,rfl,rfl,Nat.le_refl _,hsnn,Nat.le_refl _⟩,trivial⟩ ⟨rfl,rfl,rfl,rfl,rfl,rfl,rfl,rfl,by first|rfl|(simp[up,I,rnS,rnTV,rnAV,rnAC];rw[IntWalk.i64_in _ (by omega)]),trivial⟩
      ·
        intro c c' j hj h
        have hj:j<8:=hj
        rcases j with _|_|_|_|_|_|_|_|j
        all_goals first|rfl|(show some _=some _;(try rw[h 5 (.inl rfl)]);(try rw[h 5 (.inr ⟨rfl,rfl⟩)]);done)|exact absurd hj (by omega)
    · refine G.skip ?_
      refine G.seq ?_
      refine G.block ?_
      refine G.seqC tfine rfl trivial ?_
      refine GO.steps (Steps.emptyOwn tfine 1 (fun j:Nat=>([undef]:List Value)) rfl rfl rfl rfl rfl rfl rfl rfl rfl) ?_
      refine GO.fin tfine rfl trivial ?_
      refine G.rn 46 64 rfl trivial rfl rfl rfl ?_
      refine G.seq ?_
      refine G.seqR tfine rfl trivial ?_
      refine G.tellF 839 (fun w=>∀j,j<0→IntsAt w undef ((ptCol L set (k+1)).getD j [])) (fun w j hj=>by omega) rfl ?_
      refine G.block (G.loop (fun z:Nat×Nat×(Nat→Value)×(Nat→Prop)=>St.of [(0,.v (.c (.inp 1000 AL L.length cL))),(1,.v (.c (.inp 1001 As n cs))),(4,.v (.c (.ptr 4 0 0 0))),(5,.v (.c (.k (.bool false)))),(6,.v (.c (.k (I n)))),(7,.v (.c (.slc 63 0 1 n cp))),(9,.v (.c (.k (I (ptD L set))))),(10,.v (.c (.ptr 10 0 0 0))),(11,.v (.c (.k (I ((k+1):Nat))))),(12,.v (.c (.slc 64 0 1 z.1 z.2.1))),(13,.v (.c (.k (I z.1))))] [(4,.var 29 [.k (.slice none 0 0),.k (I 0)]),(990,.say (· < w.heap.size) (asOf w)),(1000,.ro 2 L.length (elC L (fun i=>.slice (f i).1 (cAt L i).1.length (f i).2))),(1001,.ro 1 n (elI set)),(63,.arr 22 1 n (fun j=>[.slice (f (set.getD j 0).toNat).1 (cAt L (set.getD j 0).toNat).1.length (f (set.getD j 0).toNat).2]) ((cp-n)*1)),(10,.var 29 [accV 833 1 (k+1) kp,.k (I (ptD L set))]),(833,accB 3 1 (k+1) kp (elI ((ptNums L set).take (k+1)))),(64,.arr 22 1 z.1 (fun j=>[z.2.2.1 j]) ((z.2.1-z.1)*1)),(839,.say z.2.2.2 (fun w=>∀j,j<z.1→IntsAt w (z.2.2.1 j) ((ptCol L set (k+1)).getD j [])))])
        (fun z=>z.1≤n∧z.1≤z.2.1) (fun z=>n-z.1) (0,0,(fun _=>undef),fun _=>False) ⟨Nat.zero_le _,Nat.le_refl _⟩ (St.le_of rfl ⟨⟨_,rfl,Blk.le_refl _⟩,⟨_,rfl,Blk.le_refl _⟩,⟨_,rfl,Blk.le_refl _⟩,⟨_,rfl,Blk.le_refl _⟩,⟨_,rfl,Blk.le_refl _⟩,⟨_,rfl,Blk.le_refl _⟩,⟨_,rfl,Blk.le_refl _⟩,⟨_,rfl,Blk.le_refl _⟩,⟨_,rfl,Blk.le_refl _⟩,trivial⟩ ⟨rfl,rfl,rfl,rfl,rfl,rfl,rfl,rfl,rfl,rfl,rfl,trivial⟩) ?_)
      rintro⟨i,cq,us,SR⟩ ⟨hi,hcq⟩
      simp only at hi hcq
      refine G.seq ?_
      refine G.seqR tfine rfl trivial ?_
      refine G.cond (b:=decide ((i:Int)<(n:Int))) rfl (fun h6=>?_) (fun h6=>?_)
      · have h6:=of_decide_eq_true h6
        have hil:i<n:=by omega
        obtain⟨Aq,cqq,hvq,hAq,hcqq⟩:=hri2 i hil
        have hrq:(rowsR L set).getD i []=(cAt L (set.getD i 0).toNat).1:=rowsR_get L set i (by omega)
        have hln:(cAt L (set.getD i 0).toNat).1.length=n:=hrow _ (hq i hil)
        rw[hrq]at hvq hAq
        have hvq:Value.slice (f (set.getD i 0).toNat).1 (cAt L (set.getD i 0).toNat).1.length (f (set.getD i 0).toNat).2=.slice Aq (cAt L (set.getD i 0).toNat).1.length cqq:=hvq
        have hvq0:Value.slice (f (set.getD (0+i) 0).toNat).1 (cAt L (set.getD (0+i) 0).toNat).1.length (f (set.getD (0+i) 0).toNat).2=.slice Aq (cAt L (set.getD i 0).toNat).1.length cqq:=by rw[Nat.zero_add];exact hvq
        have hin2:=hin i hil
        refine G.skip ?_
        refine G.seq ?_
        refine G.block ?_
        refine G.seqC tfine rfl trivial ?_
        refine GO.steps (Steps.emptyOwn tfine 1 (elI []) rfl rfl rfl rfl rfl rfl rfl rfl rfl) ?_
        refine GO.more tfine rfl ?_ ?_
        · first|trivial|(simp[AllP,condB];done)|(simp only[AllP];and_intros<;>first|trivial|decide|omega)|(simp[AllP,condB];intros;and_intros<;>first|assumption|omega)|(simp[AllP,condB];intros;simp_all;done)
        rw[Int.toNat_natCast]
        refine GO.choice (StepsC.appendMany (n:=0) (c:=0) (room:=0) (A:=Aq) (n2:=(cAt L (set.getD i 0).toNat).1.length) (c2:=cqq) 990 (elI (cAt L (set.getD i 0).toNat).1) apT35 rfl rfl rfl rfl rfl rfl rfl rfl rfl (Nat.le_refl _) (Nat.le_refl _) rfl (congrArg (fun v=>TV.v (.c (.k v))) hvq0) rfl (fun w1 h=>hAq.asOf h) rfl rfl (fun k _=>rfl) (fun k _ u hu=>by simp[elI]at hu;subst hu;rfl) (fun k hk=>rfl) (by unfold maxLen;omega) (by omega)) fun uu=>?_
        refine GO.fin tfine rfl trivial ?_
        obtain⟨cr,hcr⟩:∃cr,cr=capN (0+(cAt L (set.getD i 0).toNat).1.length) uu:=⟨_,rfl⟩
        have hcrl:n≤cr:=by
          have:=capN_le (0+(cAt L (set.getD i 0).toNat).1.length) uu
          rw[hcr];omega
        refine G.weaken (st':=St.of [(0,.v (.c (.inp 1000 AL L.length cL))),(1,.v (.c (.inp 1001 As n cs))),(4,.v (.c (.ptr 4 0 0 0))),(5,.v (.c (.k (.bool false)))),(6,.v (.c (.k (I n)))),(7,.v (.c (.slc 63 0 1 n cp))),(9,.v (.c (.k (I (ptD L set))))),(10,.v (.c (.ptr 10 0 0 0))),(11,.v (.c (.k (I ((k+1):Nat))))),(12,.v (.c (.slc 64 0 1 i cq))),(13,.v (.c (.k (I i)))),(14,.v (.c (.slc 57 0 1 n cr)))] [(4,.var 29 [.k (.slice none 0 0),.k (I 0)]),(990,.say (· < w.heap.size) (asOf w)),(1000,.ro 2 L.length (elC L (fun i=>.slice (f i).1 (cAt L i).1.length (f i).2))),(1001,.ro 1 n (elI set)),(63,.arr 22 1 n (fun j=>[.slice (f (set.getD j 0).toNat).1 (cAt L (set.getD j 0).toNat).1.length (f (set.getD j 0).toNat).2]) ((cp-n)*1)),(10,.var 29 [accV 833 1 (k+1) kp,.k (I (ptD L set))]),(833,accB 3 1 (k+1) kp (elI ((ptNums L set).take (k+1)))),(64,.arr 22 1 i (fun j=>[us j]) ((cq-i)*1)),(839,.say SR (fun w=>∀j,j<i→IntsAt w (us j) ((ptCol L set (k+1)).getD j []))),(57,.arr 3 1 n (elI (cAt L (set.getD i 0).toNat).1) ((cr-n)*1))])
          (St.le_of rfl ⟨⟨_,rfl,Blk.le_refl _⟩,⟨_,rfl,Blk.le_refl _⟩,⟨_,rfl,Blk.le_refl _⟩,⟨_,rfl,Blk.le_refl _⟩,⟨_,rfl,Blk.le_refl _⟩,⟨_,rfl,Blk.le_refl _⟩,⟨_,rfl,Blk.le_refl _⟩,⟨_,rfl,Blk.le_refl _⟩,⟨_,rfl,Blk.le_refl _⟩,⟨_,rfl,rfl,rfl,(by omega),(fun q hq=>by unfold catE;rw[if_neg (Nat.not_lt_zero _)];rfl),(by rw[←hcr];have:=hln;simp only[Nat.zero_add,this];exact Nat.le_refl _)⟩,trivial⟩ ⟨rfl,rfl,rfl,rfl,rfl,rfl,rfl,rfl,rfl,rfl,rfl,(by rw[hcr];simp only[Nat.zero_add,hln];rfl),trivial⟩) ?_
        clear hcr
        refine G.seqR tfine rfl ?_ ?_
        · simp only[AllP,Int.toNat_natCast,Nat.zero_add];and_intros<;>first|trivial|omega
        refine G.weaken (st':=St.of [(0,.v (.c (.inp 1000 AL L.length cL))),(1,.v (.c (.inp 1001 As n cs))),(4,.v (.c (.ptr 4 0 0 0))),(5,.v (.c (.k (.bool false)))),(6,.v (.c (.k (I n)))),(7,.v (.c (.slc 63 0 1 n cp))),(9,.v (.c (.k (I (ptD L set))))),(10,.v (.c (.ptr 10 0 0 0))),(11,.v (.c (.k (I ((k+1):Nat))))),(12,.v (.c (.slc 64 0 1 i cq))),(13,.v (.c (.k (I i)))),(14,.v (.c (.slc 57 0 1 n cr)))] [(4,.var 29 [.k (.slice none 0 0),.k (I 0)]),(990,.say (· < w.heap.size) (asOf w)),(1000,.ro 2 L.length (elC L (fun i=>.slice (f i).1 (cAt L i).1.length (f i).2))),(1001,.ro 1 n (elI set)),(63,.arr 22 1 n (fun j=>[.slice (f (set.getD j 0).toNat).1 (cAt L (set.getD j 0).toNat).1.length (f (set.getD j 0).toNat).2]) ((cp-n)*1)),(10,.var 29 [accV 833 1 (k+1) kp,.k (I (ptD L set))]),(833,accB 3 1 (k+1) kp (elI ((ptNums L set).take (k+1)))),(64,.arr 22 1 i (fun j=>[us j]) ((cq-i)*1)),(839,.say SR (fun w=>∀j,j<i→IntsAt w (us j) ((ptCol L set (k+1)).getD j []))),(57,.arr 3 1 n (elI ((cAt L (set.getD i 0).toNat).1.set (k+1) (cAt L (set.getD i 0).toNat).2)) ((cr-n)*1))])
          (St.le_of rfl ⟨⟨_,rfl,Blk.le_refl _⟩,⟨_,rfl,Blk.le_refl _⟩,⟨_,rfl,Blk.le_refl _⟩,⟨_,rfl,Blk.le_refl _⟩,⟨_,rfl,Blk.le_refl _⟩,⟨_,rfl,Blk.le_refl _⟩,⟨_,rfl,Blk.le_refl _⟩,⟨_,rfl,Blk.le_refl _⟩,⟨_,rfl,Blk.le_refl _⟩,⟨_,rfl,rfl,rfl,Nat.le_refl _,(fun q hq=>set_el (cAt L (set.getD i 0).toNat).1 (cAt L (set.getD i 0).toNat).2 (k+1) q (by rw[hln];exact hq)),Nat.le_refl _⟩,trivial⟩ ⟨rfl,rfl,rfl,rfl,rfl,rfl,rfl,rfl,rfl,rfl,rfl,rfl,trivial⟩) ?_
        refine G.freezeArr 57 14 rfl rfl (Nat.le_refl _) fun g hg=>?_
        have hg:w.heap.size≤g:=hg.elim id (fun h=>by cases h)
        refine G.regC tfine rfl trivial ?_
        refine GO.choice (StepsC.appendOwn1 (n:=i) (c:=cq) (room:=(cq-i)*1) [.slice (some ⟨g,0,none⟩) n cr] apLL rfl rfl rfl rfl rfl rfl rfl rfl rfl (Nat.le_refl _) rfl rfl rfl rfl (fun u hu=>by simp at hu;subst hu;rfl) (fun k hk=>rfl) (by unfold maxLen;omega) (by omega)) fun uu=>?_
        refine GO.fin tfine rfl trivial ?_
        obtain⟨cq2,hcq2⟩:∃cq2,cq2=capN (i+1) uu:=⟨_,rfl⟩
        have hcl2:i+1≤cq2:=by rw[hcq2];exact capN_le _ _
        refine G.weaken (st':=St.of [(0,.v (.c (.inp 1000 AL L.length cL))),(1,.v (.c (.inp 1001 As n cs))),(4,.v (.c (.ptr 4 0 0 0))),(5,.v (.c (.k (.bool false)))),(6,.v (.c (.k (I n)))),(7,.v (.c (.slc 63 0 1 n cp))),(9,.v (.c (.k (I (ptD L set))))),(10,.v (.c (.ptr 10 0 0 0))),(11,.v (.c (.k (I ((k+1):Nat))))),(12,.v (.c (.slc 72 0 1 (i+1) cq2))),(13,.v (.c (.k (I i))))] [(4,.var 29 [.k (.slice none 0 0),.k (I 0)]),(990,.say (· < w.heap.size) (asOf w)),(1000,.ro 2 L.length (elC L (fun i=>.slice (f i).1 (cAt L i).1.length (f i).2))),(1001,.ro 1 n (elI set)),(63,.arr 22 1 n (fun j=>[.slice (f (set.getD j 0).toNat).1 (cAt L (set.getD j 0).toNat).1.length (f (set.getD j 0).toNat).2]) ((cp-n)*1)),(10,.var 29 [accV 833 1 (k+1) kp,.k (I (ptD L set))]),(833,accB 3 1 (k+1) kp (elI ((ptNums L set).take (k+1)))),(72,.arr 22 1 (i+1) (elN (fun j=>[us j]) i [.slice (some ⟨g,0,none⟩) n cr]) ((cq2-(i+1))*1)),(839,.say SR (fun w=>∀j,j<i→IntsAt w (us j) ((ptCol L set (k+1)).getD j []))),(57,.say (·=g) (fun w=>RdRow w (some ⟨g,0,none⟩) n 1 (elI ((cAt L (set.getD i 0).toNat).1.set (k+1) (cAt L (set.getD i 0).toNat).2))))])
          (St.le_of rfl ⟨⟨_,rfl,Blk.le_refl _⟩,⟨_,rfl,Blk.le_refl _⟩,⟨_,rfl,Blk.le_refl _⟩,⟨_,rfl,Blk.le_refl _⟩,⟨_,rfl,Blk.le_refl _⟩,⟨_,rfl,Blk.le_refl _⟩,⟨_,rfl,Blk.le_refl _⟩,⟨_,rfl,by rw[hcq2];exact Blk.le_refl _⟩,⟨_,rfl,Blk.le_refl _⟩,⟨_,rfl,Blk.le_refl _⟩,trivial⟩ ⟨rfl,rfl,rfl,rfl,rfl,rfl,rfl,rfl,rfl,by rw[hcq2];rfl,rfl,trivial⟩) ?_
        clear hcq2
        refine snocSay 839 57 i (tot:=fun j=>(ptCol L set (k+1)).getD j []) (v:=.slice (some ⟨g,0,none⟩) n cr) rfl rfl (fun k hk=>by obtain⟨_,a,e,rfl⟩:=hk;cases e;rfl) (fun w1 h=>by
          rw[hcol i hil]
          exact intsAt_of (by rw[List.length_set,hln]) h hcrl) fun us' hs1 hs2=>?_
        refine G.rn 72 64 rfl trivial rfl rfl rfl ?_
        refine G.reg tfine rfl trivial ?_
        refine⟨(i+1,cq2,us',fun k=>SR k∨sb (.slice (some ⟨g,0,none⟩) n cr) k),⟨by simp only;omega,hcl2⟩,(by show n-(i+1)<n-i;omega),?_⟩
        exact St.le_of rfl ⟨⟨_,rfl,Blk.le_refl _⟩,⟨_,rfl,Blk.le_refl _⟩,⟨_,rfl,Blk.le_refl _⟩,⟨_,rfl,Blk.le_refl _⟩,⟨_,rfl,Blk.le_refl _⟩,⟨_,rfl,Blk.le_refl _⟩,⟨_,rfl,Blk.le_refl _⟩,⟨_,rfl,rfl,rfl,Nat.le_refl _,snoc_row' hs1 hs2,Nat.le_refl _⟩,⟨_,rfl,Blk.le_refl _⟩,trivial⟩ ⟨rfl,rfl,rfl,rfl,rfl,rfl,rfl,rfl,rfl,rfl,by first|rfl|(simp[up,I,rnS,rnTV,rnAV,rnAC];rw[IntWalk.i64_in _ (by omega)]),trivial⟩
      have h6:=of_decide_eq_false h6
      have:i=n:=by omega
      subst this
      refine G.exit ?_
      obtain⟨v,hv⟩:∃v,v=detW i (ptCol L set (k+1)):=⟨_,rfl⟩
      have hvl:(ptNums L set).take ((k+1)+1)=(ptNums L set).take (k+1)++[v]:=by
        rw[List.take_succ_eq_append_getElem (by omega)]
        congr 2
        rw[hv]
        simp[ptNums,←hsn]
      have hlk:((ptNums L set).take (k+1)).length=(k+1):=by rw[List.length_take];omega
      have hsnn:∀j,j<(k+1)+1→elI ((ptNums L set).take ((k+1)+1)) j=elN (elI ((ptNums L set).take (k+1))) (k+1) [I v] j:=fun j hj=>by
        have:=elI_snoc ((ptNums L set).take (k+1)) v j (by rw[hlk];exact hj)
        rw[hlk]at this
        rw[hvl,this]
      apply G.drawC (ch:=fun j=>match j with|5=>some (accF 833 78 ((k+1)+1) 1 3 (elN (elI ((ptNums L set).take (k+1))) (k+1) [I v]))|_=>none) (cls:=[0,1,0,4,12,31,63,127]) (X:=[(5,78),(5,833),(7,10)]) hmix rfl rfl rfl
      · intro cc
        refine GC.more tfine 0 rfl rfl rfl trivial ?_
        refine GC.step 3 rfl rfl (tv:=toTV (I v)) (ms:=[]) (Steps.callPlain rfl rfl rfl rfl (fun args w=>Try.call99 args w) (fun m' hle ρ w1 hs hok=>?_)) rfl ?_
        · have hF1:=hs.rdArr (hle.at (y:=64) rfl) 0 i (by omega)
          have:=refDet_any i (ptCol L set (k+1)) (.slice (some ⟨(ρ 64).1,(ρ 64).2+0*1,none⟩) i cq) us w1 hcoll (by omega) hcolr ⟨_,cq,by rw[hcoll],by rw[hcoll];exact hF1.congr fun q hq=>by rw[Nat.zero_add],fun _=>by rw[hcoll];exact hcq,fun q hq=>(hs.ok 839 _ (hle.at rfl)).1 q (by rw[←hcoll];exact hq)⟩
          rw[←hv]at this
          exact this
        refine GC.more tfine 4 rfl rfl rfl trivial ?_
        refine GC.choice 5 rfl _ rfl (StepsC.appendAcc (n:=(k+1)) (c:=kp) [I v] apT35 rfl rfl rfl rfl rfl rfl rfl rfl rfl rfl rfl rfl rfl (fun u hu=>by simp at hu;subst hu;rfl) (fun k hk=>rfl) (by unfold maxLen;omega) (by omega)) rfl accF_nm rfl ?_
        refine GC.more tfine 6 rfl rfl rfl trivial ?_
        refine GC.nil ?_
        refine G.weaken (st':=St.of [(0,.v (.c (.inp 1000 AL L.length cL))),(1,.v (.c (.inp 1001 As i cs))),(4,.v (.c (.ptr 4 0 0 0))),(5,.v (.c (.k (.bool false)))),(6,.v (.c (.k (I i)))),(7,.v (.c (.slc 63 0 1 i cp))),(9,.v (.c (.k (I (ptD L set))))),(10,.v (.c (.ptr 10 0 0 0))),(11,.v (.c (.k (I ((k+1):Nat)))))] [(4,.var 29 [.k (.slice none 0 0),.k (I 0)]),(990,.say (· < w.heap.size) (asOf w)),(1000,.ro 2 L.length (elC L (fun i=>.slice (f i).1 (cAt L i).1.length (f i).2))),(1001,.ro 1 i (elI set)),(63,.arr 22 1 i (fun j=>[.slice (f (set.getD j 0).toNat).1 (cAt L (set.getD j 0).toNat).1.length (f (set.getD j 0).toNat).2]) ((cp-i)*1)),(10,.var 29 [.slc 78 0 1 ((k+1)+1) (capN ((k+1)+1) (cc 5)),.k (I (ptD L set))]),(78,.arr 3 1 ((k+1)+1) (elN (elI ((ptNums L set).take (k+1))) (k+1) [I v]) ((capN ((k+1)+1) (cc 5)-((k+1)+1))*1))])
          (St.le_of rfl ⟨⟨_,rfl,Blk.le_refl _⟩,⟨_,rfl,Blk.le_refl _⟩,⟨_,rfl,Blk.le_refl _⟩,⟨_,rfl,Blk.le_refl _⟩,⟨_,rfl,Blk.le_refl _⟩,⟨_,rfl,Blk.le_refl _⟩,⟨_,rfl,Blk.le_refl _⟩,trivial⟩ ⟨rfl,rfl,rfl,rfl,rfl,rfl,rfl,rfl,rfl,trivial⟩) ?_
        refine G.rn 78 833 rfl trivial rfl rfl rfl ?_
        refine G.reg tfine rfl trivial ?_
        refine⟨((k+1)+1,capN ((k+1)+1) (cc 5)),⟨by simp only;omega,capN_le _ _⟩,(by show i-((k+1)+1)<i-(k+1);omega),?_⟩
        exact St.le_of rfl ⟨⟨_,rfl,Blk.le_refl _⟩,⟨_,rfl,Blk.le_refl _⟩,⟨_,rfl,Blk.le_refl _⟩,⟨_,rfl,Blk.le_refl _⟩,⟨_,rfl,Blk.le_refl _⟩,⟨_,rfl,Blk.le_refl _⟩,⟨_,rfl,rfl,rfl,Nat.le_refl _,hsnn,Nat.le_refl _⟩,trivial⟩ ⟨rfl,rfl,rfl,rfl,rfl,rfl,rfl,rfl,by first|rfl|(simp[up,I,rnS,rnTV,rnAV,rnAC];rw[IntWalk.i64_in _ (by omega)]),trivial⟩
      ·
        intro c c' j hj h
        have hj:j<8:=hj
        rcases j with _|_|_|_|_|_|_|_|j
        all_goals first|rfl|(show some _=some _;(try rw[h 5 (.inl rfl)]);(try rw[h 5 (.inr ⟨rfl,rfl⟩)]);done)|exact absurd hj (by omega)
  have h5:=of_decide_eq_false h5
  have:k=n:=by omega
  subst this
  refine G.exit ?_
  rw[List.take_of_length_le (by omega)]
  have hnb:∀j,j<k→-24000000000000≤(ptNums L set).getD j 0∧(ptNums L set).getD j 0≤24000000000000:=hb
  refine G.seq ?_
  refine G.seqR tfine rfl trivial ?_
  refine G.cond (b:=decide (ptD L set<0)) rfl (fun h7=>?_) (fun h7=>?_)
  · have h7:=of_decide_eq_true h7
    obtain⟨q,hqn⟩:∃q,k=q+1:=⟨k-1,by
      rcases Nat.eq_zero_or_pos k with e|e
      · exfalso
        have:ptD L set=1:=by rw[ptD,←hsn,e];rfl
        omega
      · omega⟩
    rw[hqn]at hkp hpl ⊢
    have hng:∀j,j<(negW (ptNums L set)).length→(negW (ptNums L set)).getD j 0 = -((ptNums L set).getD j 0):=fun j hj=>by
      rw[negW_len,hpl]at hj
      have:=hnb j (by omega)
      rw[negW_get _ _ (by omega),W_id (by omega) (by omega)];omega
    have hwd:W (0-ptD L set) = -(ptD L set):=by rw[W_id (by omega) (by omega)];omega
    refine G.regC tfine rfl trivial ?_
    refine GO.callSay 835 (fun u=>slV (q+1) u) (fun u=>sb (slV (q+1) u)) (fun u=>newI w.heap.size (negW (ptNums L set)) (slV (q+1) u)) rfl rfl rfl rfl rfl (fun args w=>Try.call46 args w) (fun ρ w1 hs hok=>?_) fun um=>?_
    · have hF1:=hs.rdArr (x:=833) rfl 0 (q+1) (by omega)
      have:=refMinusC (A:=some ⟨(ρ 833).1,(ρ 833).2+0*1,none⟩) (c0:=kp) (l:=ptNums L set) w.heap.size hs.fr.size (by rw[hpl];exact hF1.congr fun i hi=>by rw[Nat.zero_add]) (by omega)
      rw[hpl]at this
      exact this
    refine GO.fin tfine rfl trivial ?_
    refine G.seqC tfine rfl trivial ?_
    refine GO.callSay 836 (fun u=>.agg #[slV (lowL (negW (ptNums L set)) (W (0-ptD L set))).length u,I (lowO (negW (ptNums L set)) (W (0-ptD L set)))]) (fun u=>sb (slV (lowL (negW (ptNums L set)) (W (0-ptD L set))).length u)) (fun u=>newI w.heap.size (lowL (negW (ptNums L set)) (W (0-ptD L set))) (slV (lowL (negW (ptNums L set)) (W (0-ptD L set))).length u)) rfl rfl rfl rfl rfl (fun args w=>Try.call69 args w) (fun ρ w1 hs hok=>?_) fun us=>?_
    · have h8:=(hs.ok 835 _ rfl).1.1
      obtain⟨A8,c8,e8,h9,_⟩:=h8
      have:=shortC A8 c8 (negW (ptNums L set)) (W (0-ptD L set)) w.heap.size w1 hs.fr.size h9 (by rw[negW_len];omega) (by omega) (by omega) (fun j hj=>by
        have e:=hng j hj
        rw[negW_len,hpl]at hj
        have:=hnb j (by omega)
        omega)
      rw[←e8]at this
      exact this
    refine GO.fin tfine rfl trivial ?_
    refine G.ret ⟨.inl rfl,fun ρ a w' hs=>⟨_,results_run tfine hs rfl,?_⟩⟩
    have hpm:pointM L set=some (lowL (negW (ptNums L set)) (W (0-ptD L set)),lowO (negW (ptNums L set)) (W (0-ptD L set))):=by rw[pointM,if_neg hd0,if_pos h7]
    obtain⟨x1,x2,_⟩:=hs.mem.ok 836 _ rfl
    rw[hpm]
    exact⟨us,rfl,hs.mem.fr.toBelow,⟨x1.1,fun k hk=>Nat.le_trans hlo (x1.2 k hk)⟩,fun k hk=>⟨x1.2 k hk,x2 k hk⟩,newI_steady⟩
  have h7:=of_decide_eq_false h7
  refine G.skip ?_
  have hpm:pointM L set=some (lowL (ptNums L set) (ptD L set),lowO (ptNums L set) (ptD L set)):=by rw[pointM,if_neg hd0,if_neg h7]
  have hsh:∀(A8:Option Addr) (c8:Nat) (w1:World),w.heap.size≤w1.heap.size→RdRow w1 A8 (ptNums L set).length 1 (elI (ptNums L set))→_:=fun A8 c8 w1 hlo h9=>shortC A8 c8 (ptNums L set) (ptD L set) w.heap.size w1 hlo h9 (by omega) (by omega) (by omega) (fun j hj=>by
    rw[hpl]at hj
    have:=hnb j (by omega)
    omega)
  rw[hpl]at hsh
  rcases hk0:k with _|q
  · rw[hk0]at hsh
    refine G.seqC tfine rfl trivial ?_
    refine GO.callSay 836 (fun u=>.agg #[slV (lowL (ptNums L set) (ptD L set)).length u,I (lowO (ptNums L set) (ptD L set))]) (fun u=>sb (slV (lowL (ptNums L set) (ptD L set)).length u)) (fun u=>newI w.heap.size (lowL (ptNums L set) (ptD L set)) (slV (lowL (ptNums L set) (ptD L set)).length u)) rfl rfl rfl rfl rfl (fun args w=>Try.call69 args w) (fun ρ w1 hs hok=>hsh none 0 w1 hs.fr.size (RdRow.nil _ _ _ _)) fun us=>?_
    refine GO.fin tfine rfl trivial ?_
    refine G.ret ⟨.inl rfl,fun ρ a w' hs=>⟨_,results_run tfine hs rfl,?_⟩⟩
    obtain⟨x1,x2,_⟩:=hs.mem.ok 836 _ rfl
    rw[hpm]
    exact⟨us,rfl,hs.mem.fr.toBelow,⟨x1.1,fun k hk=>Nat.le_trans hlo (x1.2 k hk)⟩,fun k hk=>⟨x1.2 k hk,x2 k hk⟩,newI_steady⟩
  · rw[hk0]at hsh
    refine G.seqC tfine rfl trivial ?_
    refine GO.callSay 836 (fun u=>.agg #[slV (lowL (ptNums L set) (ptD L set)).length u,I (lowO (ptNums L set) (ptD L set))]) (fun u=>sb (slV (lowL (ptNums L set) (ptD L set)).length u)) (fun u=>newI w.heap.size (lowL (ptNums L set) (ptD L set)) (slV (lowL (ptNums L set) (ptD L set)).length u)) rfl rfl rfl rfl rfl (fun args w=>Try.call69 args w) (fun ρ w1 hs hok=>?_) fun us=>?_
    · have hF1:=hs.rdArr (x:=833) rfl 0 (q+1) (by omega)
      exact hsh (some ⟨(ρ 833).1,(ρ 833).2+0*1,none⟩) kp w1 hs.fr.size (hF1.congr fun i hi=>by rw[Nat.zero_add])
    refine GO.fin tfine rfl trivial ?_
    refine G.ret ⟨.inl rfl,fun ρ a w' hs=>⟨_,results_run tfine hs rfl,?_⟩⟩
    obtain⟨x1,x2,_⟩:=hs.mem.ok 836 _ rfl
    rw[hpm]
    exact⟨us,rfl,hs.mem.fr.toBelow,⟨x1.1,fun k hk=>Nat.le_trans hlo (x1.2 k hk)⟩,fun k hk=>⟨x1.2 k hk,x2 k hk⟩,newI_steady⟩
end Go.Proofs.Ytafhnfcahhlanaa
namespace Go.Proofs.Ytafhnfcahhlanaa
open Go.Sx Go.RowKit
def conU (L:List Cond) (u:Cho) (w:World):Prop:=ConsAt w (slV L.length (pr1 u)) L (rowU u)∧(∀k,sb (slV L.length (pr1 u)) k→u.2 k)∧∀j,j<L.length→∀k,sb (rowU u j) k→u.2 k
theorem conU_steady {L:List Cond} {u:Cho}:Steady u.2 (conU L u):=by
  rintro w1 w2 h1 h2 ⟨⟨A,c,e,h3,h4,h5⟩,h6,h7⟩
  refine⟨⟨A,c,e,?_,h4,fun j hj=>steady_ints w1 w2 (fun k hk=>h1 k (h7 j hj k hk)) h2 (h5 j hj)⟩,h6,h7⟩
  rw[e]at h6
  exact steady_row (cap:=c) w1 w2 (fun k hk=>h1 k (h6 k hk)) h2 h3
def ConU (L:List Cond) (w w':World) (e:Ending):Prop:=∃u:Cho,e=.returned (slV L.length (pr1 u))∧Below w.heap.size w w'∧conU L u w'∧(∀k,u.2 k→w.heap.size≤k∧k<w'.heap.size)∧Steady u.2 (conU L u)
theorem ConU.of {L:List Cond} {w w':World} {A:Option Addr} {c:Nat} {us:Nat→Value} {SR:Nat→Prop} (hb:Below w.heap.size w w') (hr:RdRow w' A L.length 2 (fun j=>[us j,I (cAt L j).2])) (hc:L.length≤c) (hi:∀j,j<L.length→IntsAt w' (us j) (cAt L j).1) (hA:∀k,sb (.slice A L.length c) k→w.heap.size≤k∧k<w'.heap.size) (hS:∀k,SR k→w.heap.size≤k∧k<w'.heap.size) (hU:∀j,j<L.length→∀k,sb (us j) k→SR k):ConU L w w' (.returned (.slice A L.length c)):=by
  have e1:slV L.length (pr1 (mkU (.slice A L.length c) L.length us fun k=>SR k∨sb (.slice A L.length c) k))=.slice A L.length c:=by rw[mkU_pr];exact slV_eq hc
  refine⟨mkU (.slice A L.length c) L.length us fun k=>SR k∨sb (.slice A L.length c) k,by rw[e1],hb,⟨⟨A,c,e1,hr.congr fun i hi=>by rw[elC,mkU_row _ _ _ _ _ hi],fun _=>hc,fun j hj=>by rw[mkU_row _ _ _ _ _ hj];exact hi j hj⟩,fun k hk=>?_,fun j hj k hk=>?_⟩,?_,conU_steady⟩
  · rw[e1]at hk;exact .inr hk
  · rw[mkU_row _ _ _ _ _ hj]at hk
    exact .inl (hU j hj k hk)
  · rintro k (hk|hk)
    · exact hS k hk
    · exact hA k hk
theorem ret_conU {w:World} {N:Nat} {fn:Func} {st:St} {L:List Cond} {g c X Y:Nat} {us:Nat→Value} {SR:Nat→Prop} (h:resP TT st fn.results.toList=.mk (.slice (some ⟨g,0,none⟩) L.length c)) (hg:w.heap.size≤g) (hc:L.length≤c) (hS:∀k,SR k→w.heap.size≤k) (hU:∀j,j<L.length→∀k,sb (us j) k→SR k)
    (hX:st.m X=some (.say (·=g) fun w=>RdRow w (some ⟨g,0,none⟩) L.length 2 (fun j=>[us j,I (cAt L j).2]))) (hY:st.m Y=some (.say SR (fun w=>∀j,j<L.length→IntsAt w (us j) (cAt L j).1))):
    retK Try.prog ⟨w,[],N,none,[]⟩ fn (fun e w'=>ConU L w w' e) .ret st:=by
  refine⟨.inl rfl,fun ρ a w' hs=>⟨_,results_run tfine hs h,?_⟩⟩
  obtain⟨x1,x2,_⟩:=hs.mem.ok X _ hX
  obtain⟨y1,y2,y3⟩:=hs.mem.ok Y _ hY
  refine ConU.of hs.mem.fr.toBelow x1 hc y1 ?_ (fun k hk=>⟨hS k hk,y2 k hk⟩) hU
  rintro k ⟨_,a,e,rfl⟩
  cases e
  exact⟨hg,x2 _ rfl⟩
theorem fm_at {α β:Type} (f:α→Option β) (d:β) (s:List α) (i:Nat) (hi:i<s.length):
    match f s[i] with
    |some b=>((s.take i).filterMap f).length<(s.filterMap f).length∧(s.filterMap f).getD ((s.take i).filterMap f).length d=b∧((s.take (i+1)).filterMap f).length=((s.take i).filterMap f).length+1
    |none=>((s.take (i+1)).filterMap f).length=((s.take i).filterMap f).length:=by
  have e1:s.take (i+1)=s.take i++[s[i]]:=List.take_succ_eq_append_getElem hi
  cases hf:f s[i] with
  |none=>simp only;rw[e1,List.filterMap_append];simp[hf]
  |some b=>
    have e2:s.filterMap f=(s.take i).filterMap f++(b::(s.drop (i+1)).filterMap f):=by
      conv=>lhs;rw[←List.take_append_drop (i+1) s,e1]
      rw[List.filterMap_append,List.filterMap_append]
      simp[hf]
    simp only
    refine⟨by rw[e2];simp,by rw[e2];simp[List.getD_eq_getElem?_getD],by rw[e1,List.filterMap_append];simp[hf]⟩
def keepP (L:List Cond) (set:List Int):Option Rat:=match pointM L set with
  |none=>none
  |some r=>if keepsM L r.1 r.2=true then some r else none
def cornR (L:List Cond) (n:Nat):List Rat:=(chR n 0 L.length).filterMap (keepP L)
def Small (L:List Cond) (set:List Int):Prop:=(-24000000000000≤ptD L set∧ptD L set≤24000000000000)∧∀k,k<set.length→-24000000000000≤(ptNums L set).getD k 0∧(ptNums L set).getD k 0≤24000000000000
theorem point_len {L:List Cond} {set:List Int} {r:Rat} (h:pointM L set=some r):r.1.length=set.length:=by
  unfold pointM at h
  split at h
  · cases h
  split at h
  · cases h;simp[lowL,negW,ptNums]
  · cases h;simp[lowL,ptNums]
theorem apRa:ApT Try.prog 68 29 2 32 (.agg #[.slice none 0 0,I 0]):=⟨by kernel_rfl,by kernel_rfl,rfl,by decide⟩
theorem refCorners_any (AL:Option Addr) (cL n:Nat) (L:List Cond) (vs:Nat→Value) (w:World) (hL:ConsAt w (.slice AL L.length cL) L vs) (hl:L.length≤20) (hn:n≤20) (hrow:∀i,i<L.length→(cAt L i).1.length=n) (hsm:∀set∈chR n 0 L.length,Small L set):
    Calls Try.prog 41 #[.slice AL L.length cL,I n] w fun e w'=>ConU (cornR L n) w w' e:=by
  have hL0:=hL
  obtain⟨_,_,e,hAL,hcL,hri⟩:=hL
  cases e
  obtain⟨C,hC⟩:∃C,C=cornR L n:=⟨_,rfl⟩
  obtain⟨sets,hsets⟩:∃sets,sets=chR n 0 L.length:=⟨_,rfl⟩
  have hCs:C=sets.filterMap (keepP L):=by rw[hC,hsets];rfl
  have hsl:sets.length≤1048576:=by
    rw[hsets]
    exact Nat.le_trans (ch_len _ _ _) (Nat.le_trans (Nat.pow_le_pow_right (by decide) (show L.length-0≤20 by omega)) (by decide))
  have hCl:C.length≤1048576:=by rw[hCs];exact Nat.le_trans (List.length_filterMap_le _ _) hsl
  rw[←hsets]at hsm
  have hmem:∀i,(hi:i<sets.length)→sets.getD i []=sets[i]:=fun i hi=>by rw[List.getD_eq_getElem?_getD,List.getElem?_eq_getElem hi];rfl
  have hset:∀i,i<sets.length→(sets.getD i []).length=n∧∀x∈sets.getD i [],0≤x∧x<L.length:=fun i hi=>by
    have hm:sets.getD i []∈chR n 0 L.length:=by rw[←hsets,hmem i hi];exact List.getElem_mem hi
    have:=ch_row n 0 L.length _ hm
    exact⟨this.1,fun x hx=>by have:=this.2 x hx;omega⟩
  obtain⟨off,hoff⟩:∃off:Nat→Nat,off=fun i=>((sets.take i).filterMap (keepP L)).length:=⟨_,rfl⟩
  have hoffn:∀i,i<sets.length→keepP L (sets.getD i [])=none→off (i+1)=off i:=fun i hi hk=>by
    have:=fm_at (keepP L) (([],0):Rat) sets i hi
    rw[←hmem i hi,hk]at this
    rw[hoff];exact this
  have hoffs:∀i r,i<sets.length→keepP L (sets.getD i [])=some r→off i<C.length∧cAt C (off i)=r∧off (i+1)=off i+1:=fun i r hi hk=>by
    have:=fm_at (keepP L) (([],0):Rat) sets i hi
    rw[←hmem i hi,hk]at this
    rw[hoff,hCs];exact this
  have hoffe:off sets.length=C.length:=by rw[hoff,hCs];simp
  rw[←hC]
  refine enterIn _ Try.func41 rfl 41 Try.ntmps41 [.c (.inp 1000 AL L.length cL),.c (.k (I n))] [⟨1000,AL,2,L.length,elC L vs⟩] rfl rfl ⟨hAL,trivial⟩ ⟨.inl ⟨rfl,rfl,rfl⟩,trivial,trivial⟩ ?_
  refine G.seqR tfine rfl trivial ?_
  refine G.seqC tfine rfl trivial ?_
  refine GO.steps (Steps.emptyOwn tfine 2 (fun j:Nat=>([undef,I (cAt C j).2]:List Value)) rfl rfl rfl rfl rfl rfl rfl rfl rfl) ?_
  refine GO.fin tfine rfl trivial ?_
  refine G.rn 10 63 rfl trivial rfl rfl rfl ?_
  refine G.seqC tfine rfl trivial ?_
  refine GO.callSay 871 (fun u=>slV sets.length (pr1 u)) (fun u=>u.2) (matR sets) rfl rfl rfl rfl rfl (fun args w=>Try.call84 args w) (fun ρ w1 hs hok=>?_) fun ur=>?_
  · have:=refChoices_any n 0 L.length w1 (Nat.zero_le _) hl hn
    rw[←hsets]at this
    exact this
  refine GO.fin tfine rfl trivial ?_
  refine G.fact (φ:=(∀k,sb (slV sets.length (pr1 ur)) k→ur.2 k)∧∀j,j<sets.length→(∃A c,rowU ur j=.slice A (sets.getD j []).length c)∧∀k,sb (rowU ur j) k→ur.2 k) 871 rfl (fun w1 h=>by
    obtain⟨⟨_,_,_,_,_,hi⟩,q1,q2⟩:=h
    refine⟨q1,fun j hj=>⟨?_,q2 j hj⟩⟩
    obtain⟨A,c,e,_⟩:=hi j hj
    exact⟨A,c,e⟩) fun hlit=>?_
  refine G.openSay 871 709 6 (el:=fun i=>[rowU ur i]) (sz:=1) rfl (fun w1 h=>by
    obtain⟨⟨A,c,e,h1,_⟩,_,_⟩:=h
    injection e with e1 e2 e3
    rw[←e1]at h1
    exact h1) hlit.1 rfl rfl rfl ?_
  refine G.seq ?_
  refine G.seqR tfine rfl trivial ?_
  refine G.tellAs 990 rfl rfl ?_
  refine G.tellF 839 (fun w=>∀j,j<0→IntsAt w undef (cAt C j).1) (fun w j hj=>by omega) rfl ?_
  refine G.block (G.loop (fun z:Nat×Nat×(Nat→Value)×(Nat→Prop)=>St.of [(0,.v (.c (.inp 1000 AL L.length cL))),(1,.v (.c (.k (I n)))),(6,.v (.c (.inp 709 (adrK (pr1 ur)) sets.length (capN sets.length (pr1 ur))))),(5,.v (.c (.slc 63 0 2 (off z.1) z.2.1))),(7,.v (.c (.k (I z.1))))] [(871,.say ur.2 (matR sets ur)),(709,.ro 1 sets.length (fun i=>[rowU ur i])),(990,.say (· < w.heap.size) (asOf w)),(1000,.ro 2 L.length (elC L vs)),(63,.arr 29 2 (off z.1) (fun j=>[z.2.2.1 j,I (cAt C j).2]) ((z.2.1-off z.1)*2)),(839,.say z.2.2.2 (fun w=>∀j,j<off z.1→IntsAt w (z.2.2.1 j) (cAt C j).1))])
    (fun z=>z.1≤sets.length∧off z.1≤z.2.1∧off z.1≤C.length∧(∀k,z.2.2.2 k→w.heap.size≤k)∧∀j,j<off z.1→∀k,sb (z.2.2.1 j) k→z.2.2.2 k) (fun z=>sets.length-z.1) (0,0,(fun _=>undef),fun _=>False) ⟨Nat.zero_le _,by rw[hoff];exact Nat.le_refl _,by rw[hoff];exact Nat.zero_le _,fun k hk=>hk.elim,fun j hj=>by rw[hoff]at hj;exact absurd hj (Nat.not_lt_zero j)⟩ ?_ ?_)
  · have e0:off 0=0:=by rw[hoff];rfl
    simp only[e0]
    exact St.le_of rfl ⟨⟨_,rfl,Blk.le_refl _⟩,⟨_,rfl,Blk.le_refl _⟩,⟨_,rfl,Blk.le_refl _⟩,⟨_,rfl,Blk.le_refl _⟩,⟨_,rfl,Blk.le_refl _⟩,⟨_,rfl,Blk.le_refl _⟩,trivial⟩ ⟨rfl,rfl,rfl,rfl,rfl,trivial⟩
  rintro⟨i,cp,us,SR⟩ ⟨hi,hcp,hoC,hSR,hU⟩
  simp only at hi hcp hoC hSR hU
  refine G.seq ?_
  refine G.seqR tfine rfl trivial ?_
  refine G.cond (b:=decide ((i:Int)<(sets.length:Int))) rfl (fun h5=>?_) (fun h5=>?_)
  rotate_left
  · have h5:=of_decide_eq_false h5
    have:i=sets.length:=by omega
    subst this
    rw[hoffe]at hcp hU ⊢
    refine G.exit ?_
    refine G.freezeArr 63 5 rfl rfl (Nat.le_refl _) fun g hg=>?_
    have hg:w.heap.size≤g:=hg.elim id (fun h=>by cases h)
    refine G.seqR tfine rfl trivial ?_
    exact G.ret (ret_conU (X:=63) (Y:=839) rfl hg hcp hSR hU rfl rfl)
  have h5:=of_decide_eq_true h5
  have hii:i<sets.length:=by omega
  obtain⟨set,hst⟩:∃set,set=sets.getD i []:=⟨_,rfl⟩
  obtain⟨hsl1,hsx⟩:=hset i hii
  obtain⟨⟨Aq,cq,hvq⟩,hsbq⟩:=hlit.2 i hii
  have hsmi:Small L set:=hsm _ (by rw[hst,hmem i hii];exact List.getElem_mem hii)
  rw[←hst]at hsl1 hsx hvq
  refine G.skip ?_
  refine G.seq ?_
  refine G.block ?_
  refine G.seqC tfine rfl ?_ ?_
  · first|trivial|(simp[AllP,condB];done)|(simp only[AllP];and_intros<;>first|trivial|decide|omega)|(simp[AllP,condB];intros;and_intros<;>first|assumption|omega)|(simp[AllP,condB];intros;simp_all;done)
  rw[Int.toNat_natCast]
  obtain⟨o,ho⟩:∃o,o=pointM L set:=⟨_,rfl⟩
  refine GO.callSay 872 (fun u=>.tuple #[.agg #[slV (cur o).1.length u,I (cur o).2],.bool o.isSome]) (fun u=>sb (slV (cur o).1.length u)) (fun u=>newI w.heap.size (cur o).1 (slV (cur o).1.length u)) rfl rfl rfl rfl rfl (fun args w=>Try.call85 args w) (fun ρ w1 hs hok=>?_) fun upt=>?_
  · show Calls Try.prog _ #[.slice AL L.length cL,rowU ur i] w1 _
    obtain⟨⟨_,_,_,_,_,hi2⟩,_,_⟩:=(hs.ok 871 _ rfl).1
    have h9:=hi2 i hii
    rw[hvq,←hst]at h9
    rw[hvq,ho]
    exact refPoint_any AL Aq cL cq L set vs w1 (hL0.below hs.fr.toBelow) (intsAt_row h9).2 w.heap.size hs.fr.size (by omega) (fun j hj=>by
      have:=hsx (set.getD j 0) (by rw[List.getD_eq_getElem?_getD,List.getElem?_eq_getElem hj];exact List.getElem_mem hj)
      exact this) (fun j hj=>by rw[hrow j hj,hsl1]) hsmi.1 hsmi.2
  refine GO.fin tfine rfl trivial ?_
  refine G.seqC tfine rfl ?_ ?_
  · first|trivial|(simp[AllP,condB];done)|(simp only[AllP];and_intros<;>first|trivial|decide|omega)|(simp[AllP,condB];intros;and_intros<;>first|assumption|omega)|(simp[AllP,condB];intros;simp_all;done)
  refine GO.callGuard (.bool (keepsM L (cur o).1 (cur o).2)) rfl rfl rfl (by first|exact trivial|exact⟨id,trivial⟩|exact⟨id,id,trivial⟩|exact⟨id,id,id,trivial⟩) rfl rfl (fun args w=>Try.call60 args w) rfl (fun hct m' hle ρ w1 hs hok=>?_) ?_
  · have hct:o.isSome=true:=hct
    obtain⟨r,hr⟩:=Option.isSome_iff_exists.1 hct
    have hrl:=point_len (ho.symm.trans hr)
    have hcl:(cur o).1.length=n:=by rw[hr];exact hrl.trans hsl1
    obtain⟨A8,c8,e8,h9,_⟩:=(hs.ok 872 _ (hle.at rfl)).1.1
    have:=refKeeps_any (.slice AL L.length cL) L vs A8 c8 (cur o).1 (cur o).2 w1 (hL0.below hs.fr.toBelow) h9 (fun j hj=>by rw[hrow j hj,hcl];exact Nat.le_refl _) (by omega) (by omega)
    rw[←e8]at this
    exact this
  refine GO.fin tfine rfl ?_ ?_
  · first|trivial|(simp[AllP,condB];done)|(simp only[AllP];and_intros<;>first|trivial|decide|omega)|(simp[AllP,condB];intros;and_intros<;>first|assumption|omega)|(simp[AllP,condB];intros;simp_all;done)
  obtain⟨kb,hkb⟩:∃kb,kb=(o.isSome&&keepsM L (cur o).1 (cur o).2):=⟨_,rfl⟩
  refine G.cond (b:=kb) (by rw[hkb];cases o<;>rfl) (fun h6=>?_) (fun h6=>?_)
  · rw[h6]at hkb
    have hkb:=(Bool.and_eq_true_iff.1 hkb.symm)
    obtain⟨r,hr⟩:=Option.isSome_iff_exists.1 hkb.1
    have hrl:=point_len (ho.symm.trans hr)
    have hkp:keepP L (sets.getD i [])=some r:=by
      rw[←hst,keepP,←ho,hr]
      have:=hkb.2
      rw[hr]at this
      simp only
      rw[if_pos (show keepsM L r.1 r.2=true from this)]
    obtain⟨o1,o2,o3⟩:=hoffs i r hii hkp
    have hcu:cur o=r:=by rw[hr];rfl
    refine G.regC tfine rfl trivial ?_
    refine GO.choice (StepsC.appendOwnZ (n:=off i) (c:=cp) (room:=(cp-off i)*2) (R:=newI w.heap.size (cur o).1) 872 840 upt [I (cur o).2] apRa rfl rfl rfl rfl rfl rfl rfl rfl rfl (Nat.le_refl _) rfl rfl rfl rfl (fun u hu=>by simp at hu;subst hu;rfl) (fun k hk=>rfl) (by unfold maxLen;omega) (by omega) rfl rfl rfl rfl rfl rfl (fun u=>newI_steady)) fun uu=>?_
    refine GO.fin tfine rfl trivial ?_
    obtain⟨v,hv⟩:∃v,v=slV (cur o).1.length (pr2 uu):=⟨_,rfl⟩
    obtain⟨cp2,hcp2⟩:∃cp2,cp2=capN (off i+1) (pr1 uu):=⟨_,rfl⟩
    have hcl:off i+1≤cp2:=by rw[hcp2];exact capN_le _ _
    refine G.weaken (st':=St.of [(0,.v (.c (.inp 1000 AL L.length cL))),(1,.v (.c (.k (I n)))),(6,.v (.c (.inp 709 (adrK (pr1 ur)) sets.length (capN sets.length (pr1 ur))))),(5,.v (.c (.slc 39 0 2 (off i+1) cp2))),(7,.v (.c (.k (I i))))] [(871,.say ur.2 (matR sets ur)),(709,.ro 1 sets.length (fun i=>[rowU ur i])),(990,.say (· < w.heap.size) (asOf w)),(1000,.ro 2 L.length (elC L vs)),(39,.arr 29 2 (off i+1) (elN (fun j=>[us j,I (cAt C j).2]) (off i) [v,I (cur o).2]) ((cp2-(off i+1))*2)),(839,.say SR (fun w=>∀j,j<off i→IntsAt w (us j) (cAt C j).1)),(840,.say (sb v) (newI w.heap.size (cur o).1 v))])
      (St.le_of rfl ⟨⟨_,rfl,Blk.le_refl _⟩,⟨_,rfl,Blk.le_refl _⟩,⟨_,rfl,Blk.le_refl _⟩,⟨_,rfl,Blk.le_refl _⟩,⟨_,rfl,by rw[hv,hcp2];exact Blk.le_refl _⟩,⟨_,rfl,Blk.le_refl _⟩,⟨_,rfl,by rw[hv];exact Blk.le_refl _⟩,trivial⟩ ⟨rfl,rfl,rfl,by rw[hcp2];rfl,rfl,trivial⟩) ?_
    clear hv hcp2
    refine G.fact (φ:=∀k,sb v k→w.heap.size≤k) 840 rfl (fun w1 h=>h.2) fun hvlo=>?_
    refine snocSay 839 840 (off i) (tot:=fun j=>(cAt C j).1) (v:=v) rfl rfl (fun k hk=>hk) (fun w1 h=>by rw[o2,←hcu];exact h.ints) fun us' hs1 hs2=>?_
    refine G.rn 39 63 rfl trivial rfl rfl rfl ?_
    refine G.reg tfine rfl trivial ?_
    refine⟨(i+1,cp2,us',fun k=>SR k∨sb v k),⟨by simp only;omega,by rw[o3];exact hcl,by rw[o3];exact o1,fun k hk=>hk.elim (hSR k) (hvlo k),by rw[o3];exact snoc_U hs1 hs2 hU⟩,(by show sets.length-(i+1)<sets.length-i;omega),?_⟩
    simp only[o3]
    exact St.le_of rfl ⟨⟨_,rfl,Blk.le_refl _⟩,⟨_,rfl,Blk.le_refl _⟩,⟨_,rfl,Blk.le_refl _⟩,⟨_,rfl,Blk.le_refl _⟩,⟨_,rfl,rfl,rfl,Nat.le_refl _,(fun q hq=>by
        by_cases e:q=off i
        · subst e
          rw[elN_eq]
          show [us' (off i),I (cAt C (off i)).2]=_
          rw[hs2,o2,←hcu]
        · rw[elN_lt (by omega)]
          show [us' q,_]=[us q,_]
          rw[hs1 q (by omega)]),Nat.le_refl _⟩,⟨_,rfl,Blk.le_refl _⟩,trivial⟩ ⟨rfl,rfl,rfl,rfl,by first|rfl|(simp[up,I,rnS,rnTV,rnAV,rnAC];rw[IntWalk.i64_in _ (by omega)]),trivial⟩
  · have hkp:keepP L (sets.getD i [])=none:=by
      rw[←hst,keepP,←ho]
      cases hoo:o with
      |none=>rfl
      |some r=>
        simp only
        rw[if_neg fun hk=>?_]
        rw[hoo]at hkb
        have:kb=true:=by rw[hkb];exact hk
        rw[h6]at this
        cases this
    have o3:=hoffn i hii hkp
    refine G.skip ?_
    refine G.reg tfine rfl trivial ?_
    rw[IntWalk.i64_in ((i:Int)+1) (by omega)]
    refine⟨(i+1,cp,us,SR),⟨by simp only;omega,by rw[o3];exact hcp,by rw[o3];exact hoC,hSR,by rw[o3];exact hU⟩,(by show sets.length-(i+1)<sets.length-i;omega),?_⟩
    simp only[o3]
    exact St.le_of rfl ⟨⟨_,rfl,Blk.le_refl _⟩,⟨_,rfl,Blk.le_refl _⟩,⟨_,rfl,Blk.le_refl _⟩,⟨_,rfl,Blk.le_refl _⟩,⟨_,rfl,Blk.le_refl _⟩,⟨_,rfl,Blk.le_refl _⟩,trivial⟩ ⟨rfl,rfl,rfl,rfl,by simp[up,I],trivial⟩
end Go.Proofs.Ytafhnfcahhlanaa
namespace Go.Proofs.Ytafhnfcahhlanaa
open Go.Sx Go.RowKit
def Tame (r:Rat):Prop:=(∀k,k<r.1.length→-4611686018427387904<r.1.getD k 0∧r.1.getD k 0<4611686018427387904)∧0≤r.2∧r.2<4611686018427387904
theorem refBefore_any (A B:Option Addr) (c d:Nat) (a b:List Int) (ao bo:Int) (w:World) (hA:RdRow w A a.length 1 (elI a)) (hB:RdRow w B b.length 1 (elI b)) (hab:a.length=b.length) (hn:a.length≤100000) (ha:Tame (a,ao)) (hb:Tame (b,bo)):
    Calls Try.prog 87 #[.agg #[.slice A a.length c,I ao],.agg #[.slice B b.length d,I bo]] w fun e w'=>e=.returned (.bool (decide (ordM a ao b bo<0)))∧Below w.heap.size w w':=by
  refine enterPlain tfine Try.func87 rfl 33 Try.ntmps87 [.agg [.inp 1000 A a.length c,.k (I ao)],.agg [.inp 1001 B b.length d,.k (I bo)]] [⟨1000,A,1,a.length,elI a⟩,⟨1001,B,1,b.length,elI b⟩] rfl rfl ⟨hA,hB,trivial⟩ ⟨⟨.inl ⟨rfl,rfl,rfl⟩,trivial,trivial⟩,⟨.inr ⟨nx rfl,.inl ⟨rfl,rfl,rfl⟩⟩,trivial,trivial⟩,trivial⟩ ?_
  refine G.seqR tfine rfl trivial ?_
  refine G.seq ?_
  refine G.seqR tfine rfl trivial ?_
  refine G.block (G.loop (fun k:Nat=>St.of [(2,.v (.c (.ptr 2 0 0 0))),(3,.v (.c (.ptr 3 0 0 0))),(5,.v (.c (.k (I k))))] [(2,.var 29 [.inp 1000 A a.length c,.k (I ao)]),(3,.var 29 [.inp 1001 B b.length d,.k (I bo)]),(1000,.ro 1 a.length (elI a)),(1001,.ro 1 b.length (elI b))])
    (fun k=>k≤a.length∧ordM a ao b bo=ordN a ao b bo k (a.length-k)) (fun k=>a.length-k) 0 ⟨by omega,by simp[ordM]⟩ (St.le_of rfl ⟨⟨_,rfl,Blk.le_refl _⟩,⟨_,rfl,Blk.le_refl _⟩,⟨_,rfl,Blk.le_refl _⟩,⟨_,rfl,Blk.le_refl _⟩,trivial⟩ ⟨rfl,rfl,rfl,trivial⟩) ?_)
  rintro k ⟨hk,hr⟩
  refine G.seq ?_
  refine G.seqR tfine rfl trivial ?_
  refine G.cond (b:=decide ((k:Int)<(a.length:Int))) rfl (fun h2=>?_) (fun h2=>?_)
  rotate_left
  · have h2:=of_decide_eq_false h2
    have:k=a.length:=by omega
    subst this
    refine G.exit ?_
    refine G.seqR tfine rfl trivial ?_
    exact G.ret (endK.ret rfl (by rw[hr];simp[ordN]))
  have h2:=of_decide_eq_true h2
  have hlt:k<a.length:=by omega
  obtain⟨cc,hcc⟩:∃cc,cc=cmpM (a.getD k 0) ao (b.getD k 0) bo:=⟨_,rfl⟩
  have hor:ordN a ao b bo k (a.length-k)=if cc≠0 then cc else ordN a ao b bo (k+1) (a.length-(k+1)):=by
    rw[show a.length-k=(a.length-(k+1))+1 by omega,hcc];rfl
  have a1:=ha.1 k hlt
  have b1:=hb.1 k (by show k<b.length;omega)
  refine G.skip ?_
  refine G.seq ?_
  refine G.block ?_
  refine G.seqDraw hmix [0,1,0,7,15,0,32,0,128,0,896,1920,0,4096,16383,32767] [] rfl rfl rfl ?_
  refine GD.more tfine 0 rfl rfl ?_ ?_
  · first|trivial|(simp[AllP,condB];done)|(simp only[AllP];and_intros<;>first|trivial|decide|omega)|(simp[AllP,condB];intros;and_intros<;>first|assumption|omega)|(simp[AllP,condB];intros;simp_all;done)
  rw[Int.toNat_natCast]
  refine GD.call (v:=I cc) 14 rfl rfl rfl rfl rfl (fun args w=>Try.call24 args w) (fun m' hle ρ w1 hs hok=>by rw[hcc];exact refCmp_any _ _ _ _ a1.1 a1.2 ha.2.1 ha.2.2 b1.1 b1.2 hb.2.1 hb.2.2 w1) ?_
  refine GD.fin tfine 15 rfl rfl trivial ?_
  refine G.seqR tfine rfl trivial ?_
  refine G.cond (b:=cc != 0) rfl (fun h3=>?_) (fun h3=>?_)
  · have h3:cc≠0:=by simpa using h3
    refine G.seqR tfine rfl trivial ?_
    exact G.ret (endK.ret rfl (by rw[hr,hor,if_pos h3]))
  · have h3:¬cc≠0:=by simpa using h3
    refine G.skip ?_
    refine G.reg tfine rfl trivial ?_
    rw[IntWalk.i64_in ((k:Int)+1) (by omega)]
    exact⟨k+1,⟨by omega,by rw[hr,hor,if_neg h3]⟩,(by show a.length-(k+1)<a.length-k;omega),St.le_of rfl ⟨⟨_,rfl,Blk.le_refl _⟩,⟨_,rfl,Blk.le_refl _⟩,⟨_,rfl,Blk.le_refl _⟩,⟨_,rfl,Blk.le_refl _⟩,trivial⟩ ⟨rfl,rfl,by simp[up,I],trivial⟩⟩
def rV (f:Nat→Option Addr×Nat) (C:List Rat) (j:Nat):Value:=.slice (f j).1 (cAt C j).1.length (f j).2
theorem bestM_cons (by_:List Int) (C:List Rat) (h:0<C.length):bestM by_ (C.take 1)=some (cAt C 0):=by
  cases C with
  |nil=>cases h
  |cons x C=>
    show bstep by_ none x=_
    rw[bstep,if_pos (takes_none _ _)];rfl
theorem bestM_take (by_:List Int) (C:List Rat) (i:Nat) (h:i<C.length):bestM by_ (C.take (i+1))=bstep by_ (bestM by_ (C.take i)) (cAt C i):=by
  rw[List.take_succ_eq_append_getElem h,bestM_snoc,cAt,List.getD_eq_getElem?_getD,List.getElem?_eq_getElem h];rfl
def BeA (v:Value) (r:Rat) (S:Nat→Prop) (w w':World) (e:Ending):Prop:=∃u:Cho,e=.returned (.agg #[slV r.1.length u,I r.2])∧Below w.heap.size w w'∧IntsAt w' (slV r.1.length u) r.1∧(∀k,sb (slV r.1.length u) k→(w.heap.size≤k∨S k)∧k<w'.heap.size)∧Steady (sb (slV r.1.length u)) (fun w=>IntsAt w (slV r.1.length u) r.1)
theorem ints_lt {w:World} {v:Value} {l:List Int} (h:IntsAt w v l):∀k,sb v k→k<w.heap.size:=by
  obtain⟨A,c,rfl,h1,_⟩:=h
  exact fun k hk=>sb_lt h1 k hk
theorem refBest_any (AL B:Option Addr) (cL cB:Nat) (C:List Rat) (vs:Nat→Value) (by_:List Int) (n:Nat) (S:Nat→Prop) (w:World) (hL:ConsAt w (.slice AL C.length cL) C vs) (hB:RdRow w B by_.length 1 (elI by_)) (hby:by_.length=n) (hn:n≤8) (hC0:0<C.length) (hCl:C.length≤1048576) (hlen:∀i,i<C.length→(cAt C i).1.length=n)
    (hT:∀i,i<C.length→Tame (cAt C i)∧-4611686018427387904<dotL by_ (cAt C i).1∧dotL by_ (cAt C i).1<4611686018427387904) (hS:∀i,i<C.length→∀k,sb (vs i) k→S k):
    Calls Try.prog 47 #[.slice AL C.length cL,.slice B by_.length cB] w fun e w'=>BeA (.slice AL C.length cL) (cur (bestM by_ C)) S w w' e:=by
  obtain⟨f,hx0,hL⟩:=hL.lit
  have hS:∀i,i<C.length→∀k,sb (rV f C i) k→S k:=fun i hi=>by rw[rV,←hx0 i hi];exact hS i hi
  clear hx0
  obtain⟨_,_,e,hAL,hcL,hri⟩:=hL
  cases e
  have hri:∀i,i<C.length→IntsAt w (rV f C i) (cAt C i).1:=hri
  have hrow:∀i,i<C.length→∀{w1},Below w.heap.size w w1→RdRow w1 (f i).1 (cAt C i).1.length 1 (elI (cAt C i).1):=fun i hi w1 hb=>(intsAt_row ((hri i hi).below hb)).2
  refine enterIn _ Try.func47 rfl 55 Try.ntmps47 [.c (.inp 1000 AL C.length cL),.c (.inp 1001 B by_.length cB)] [⟨1000,AL,2,C.length,elC C (rV f C)⟩,⟨1001,B,1,by_.length,elI by_⟩] rfl rfl ⟨hAL,hB,trivial⟩ ⟨.inl ⟨rfl,rfl,rfl⟩,.inr ⟨nx rfl,.inl ⟨rfl,rfl,rfl⟩⟩,trivial⟩ ?_
  refine G.seqR tfine rfl trivial ?_
  refine G.seqR tfine rfl ?_ ?_
  · first|trivial|(simp[AllP,condB];done)|(simp only[AllP];and_intros<;>first|trivial|decide|omega)|(simp[AllP,condB];intros;and_intros<;>first|assumption|omega)|(simp[AllP,condB];intros;simp_all;done)
  refine G.seq ?_
  refine G.seqR tfine rfl trivial ?_
  refine G.block (G.loop (fun z:Nat×Nat=>St.of [(0,.v (.c (.inp 1000 AL C.length cL))),(1,.v (.c (.inp 1001 B by_.length cB))),(4,.v (.c (.ptr 4 0 0 0))),(5,.v (.c (.ptr 5 0 0 0))),(6,.v (.c (.k (I z.1))))]
      [(4,.var 29 [.k (.slice none 0 0),.k (I 0)]),(5,.var 29 [.k (rV f C z.2),.k (I (cAt C z.2).2)]),(1000,.ro 2 C.length (elC C (rV f C))),(1001,.ro 1 by_.length (elI by_))])
    (fun z=>z.1≤C.length∧z.2<C.length∧0<z.1∧bestM by_ (C.take z.1)=some (cAt C z.2)) (fun z=>C.length-z.1) (1,0) ⟨hC0,hC0,by decide,bestM_cons by_ C hC0⟩ (St.le_of rfl ⟨⟨_,rfl,Blk.le_refl _⟩,⟨_,rfl,Blk.le_refl _⟩,⟨_,rfl,Blk.le_refl _⟩,⟨_,rfl,Blk.le_refl _⟩,trivial⟩ ⟨rfl,rfl,rfl,rfl,rfl,trivial⟩) ?_)
  rintro⟨i,j⟩ ⟨hi,hj,hi0,hbest⟩
  simp only at hi hj hi0 hbest
  refine G.seq ?_
  refine G.seqR tfine rfl trivial ?_
  refine G.cond (b:=decide ((i:Int)<(C.length:Int))) rfl (fun h5=>?_) (fun h5=>?_)
  rotate_left
  · have h5:=of_decide_eq_false h5
    have:i=C.length:=by omega
    subst this
    rw[List.take_length]at hbest
    refine G.exit ?_
    refine G.seqR tfine rfl trivial ?_
    refine G.ret ⟨.inl rfl,fun ρ a w' hs=>⟨_,results_run tfine hs rfl,?_⟩⟩
    have hb:=hs.mem.fr.toBelow
    rw[hbest]
    have hin:=(hri j hj).below hb
    have e:slV (cAt C j).1.length (rV f C j,fun _=>False)=rV f C j:=ints_slV hin _
    refine⟨(rV f C j,fun _=>False),by show _=Ending.returned (.agg #[slV (cAt C j).1.length (rV f C j,fun _=>False),I (cAt C j).2]);rw[e],hb,by show IntsAt w' (slV (cAt C j).1.length (rV f C j,fun _=>False)) (cAt C j).1;rw[e];exact hin,fun k hk=>?_,fun w1 w2 h1 h2 h=>steady_ints w1 w2 h1 h2 h⟩
    have hk:sb (slV (cAt C j).1.length (rV f C j,fun _=>False)) k:=hk
    rw[e]at hk
    exact⟨.inr (hS j hj k hk),ints_lt hin k hk⟩
  have h5:=of_decide_eq_true h5
  have hii:i<C.length:=by omega
  obtain⟨t1,t2,t3⟩:=hT i hii
  obtain⟨u1,u2,u3⟩:=hT j hj
  have hli:=hlen i hii
  have hlj:=hlen j hj
  refine G.skip ?_
  refine G.seq ?_
  refine G.block ?_
  obtain⟨cc,hcc⟩:∃cc,cc=cmpM (dotL by_ (cAt C i).1) (cAt C i).2 (dotL by_ (cAt C j).1) (cAt C j).2:=⟨_,rfl⟩
  refine G.seqDraw hmix [0,0,0,6,14,30,63,0,0,384,896,1920,0,0,8192,28799,0,65536,262143,524287] [] rfl rfl rfl ?_
  refine GD.more tfine 0 rfl rfl ?_ ?_
  · first|trivial|(simp[AllP,condB];done)|(simp only[AllP];and_intros<;>first|trivial|decide|omega)|(simp[AllP,condB];intros;and_intros<;>first|assumption|omega)|(simp[AllP,condB];intros;simp_all;done)
  rw[Int.toNat_natCast]
  refine GD.call (v:=I (dotL by_ (cAt C i).1)) 6 rfl rfl rfl rfl rfl (fun args w=>Try.call61 args w) (fun m' hle ρ w1 hs hok=>refDot_any B (f i).1 cB (f i).2 by_ (cAt C i).1 w1 (hB.below hs.fr.toBelow) (hrow i hii hs.fr.toBelow) (by omega) (by omega)) ?_
  refine GD.more tfine 7 rfl rfl ?_ ?_
  · first|trivial|(simp[AllP,condB];done)|(simp only[AllP];and_intros<;>first|trivial|decide|omega)|(simp[AllP,condB];intros;and_intros<;>first|assumption|omega)|(simp[AllP,condB];intros;simp_all;done)
  rw[Int.toNat_natCast]
  refine GD.call (v:=I (dotL by_ (cAt C j).1)) 15 rfl rfl rfl rfl rfl (fun args w=>Try.call61 args w) (fun m' hle ρ w1 hs hok=>refDot_any B (f j).1 cB (f j).2 by_ (cAt C j).1 w1 (hB.below hs.fr.toBelow) (hrow j hj hs.fr.toBelow) (by omega) (by omega)) ?_
  refine GD.more tfine 16 rfl rfl trivial ?_
  refine GD.call (v:=I cc) 18 rfl rfl rfl rfl rfl (fun args w=>Try.call24 args w) (fun m' hle ρ w1 hs hok=>by rw[hcc];exact refCmp_any _ _ _ _ t2 t3 t1.2.1 t1.2.2 u2 u3 u1.2.1 u1.2.2 w1) ?_
  refine GD.fin tfine 19 rfl rfl trivial ?_
  obtain⟨od,hod⟩:∃od,od=decide (ordM (cAt C i).1 (cAt C i).2 (cAt C j).1 (cAt C j).2<0):=⟨_,rfl⟩
  refine G.seqDraw hmix [0,1,3,7,15,31,63,63,255,511,63,2047,4095,8191] [] rfl rfl rfl ?_
  refine GD.more tfine 0 rfl rfl ?_ ?_
  · first|trivial|(simp[AllP,condB];done)|(simp only[AllP];and_intros<;>first|trivial|decide|omega)|(simp[AllP,condB];intros;and_intros<;>first|assumption|omega)|(simp[AllP,condB];intros;simp_all;done)
  refine GD.stepF 11 rfl (Steps.callGuard (v:=.bool od) rfl rfl rfl (by first|exact trivial|exact⟨fun h=>h,fun h=>h,trivial⟩|(simp[AllP,condB];done)) rfl rfl (fun args w=>Try.call87 args w) rfl (fun hct m' hle ρ w1 hs hok=>?_)) rfl ?_
  · rw[hod]
    exact refBefore_any (f i).1 (f j).1 (f i).2 (f j).2 (cAt C i).1 (cAt C j).1 (cAt C i).2 (cAt C j).2 w1 (hrow i hii hs.fr.toBelow) (hrow j hj hs.fr.toBelow) (by omega) (by omega) t1 u1
  refine GD.fin tfine 12 rfl rfl ?_ ?_
  · first|trivial|(simp[AllP,condB];done)|(simp only[AllP];and_intros<;>first|trivial|decide|omega)|(simp[AllP,condB];intros;and_intros<;>first|assumption|omega)|(simp[AllP,condB];intros;simp_all;done)
  have htk:takes by_ (some (cAt C j)) (cAt C i)=(decide (cc>0)||(cc==0&&od)):=by rw[hcc,hod];rfl
  have hnext:bestM by_ (C.take (i+1))=if (decide (cc>0)||(cc==0&&od))=true then some (cAt C i) else some (cAt C j):=by rw[bestM_take by_ C i hii,hbest,bstep,htk]
  refine G.cond (b:=decide (cc>0)||(cc==0&&od)) rfl (fun h6=>?_) (fun h6=>?_)
  · refine G.reg tfine rfl ?_ ?_
    · first|trivial|(simp[AllP,condB];done)|(simp only[AllP];and_intros<;>first|trivial|decide|omega)|(simp[AllP,condB];intros;and_intros<;>first|assumption|omega)|(simp[AllP,condB];intros;simp_all;done)
    rw[Int.toNat_natCast]
    refine G.reg tfine rfl trivial ?_
    rw[IntWalk.i64_in ((i:Int)+1) (by omega)]
    exact⟨(i+1,i),⟨by simp only;omega,hii,by simp only;omega,by rw[hnext,if_pos h6]⟩,(by show C.length-(i+1)<C.length-i;omega),St.le_of rfl ⟨⟨_,rfl,Blk.le_refl _⟩,⟨_,rfl,Blk.le_refl _⟩,⟨_,rfl,Blk.le_refl _⟩,⟨_,rfl,Blk.le_refl _⟩,trivial⟩ ⟨rfl,rfl,rfl,rfl,by simp[up,I],trivial⟩⟩
  · refine G.skip ?_
    refine G.reg tfine rfl trivial ?_
    rw[IntWalk.i64_in ((i:Int)+1) (by omega)]
    exact⟨(i+1,j),⟨by simp only;omega,hj,by simp only;omega,by rw[hnext,if_neg (by rw[h6];decide)]⟩,(by show C.length-(i+1)<C.length-i;omega),St.le_of rfl ⟨⟨_,rfl,Blk.le_refl _⟩,⟨_,rfl,Blk.le_refl _⟩,⟨_,rfl,Blk.le_refl _⟩,⟨_,rfl,Blk.le_refl _⟩,trivial⟩ ⟨rfl,rfl,rfl,rfl,by simp[up,I],trivial⟩⟩
end Go.Proofs.Ytafhnfcahhlanaa
namespace Go.Proofs.Ytafhnfcahhlanaa
open Go.Sx Go.RowKit
def takeR (by_:List Int) (o:Option (List Int)) (x:List Int):Bool:=decide (dotL by_ x>0)&&(o.isNone||decide (ordM x 1 (curL o) 1<0))
def rstep (by_:List Int) (o:Option (List Int)) (x:List Int):Option (List Int):=if takeR by_ o x=true then some x else o
def rayM (by_:List Int) (xs:List (List Int)):Option (List Int):=xs.foldl (rstep by_) none
theorem rayM_take (by_:List Int) (M:List (List Int)) (i:Nat) (h:i<M.length):rayM by_ (M.take (i+1))=rstep by_ (rayM by_ (M.take i)) (M.getD i []):=by
  rw[List.take_succ_eq_append_getElem h,List.getD_eq_getElem?_getD,List.getElem?_eq_getElem h,rayM,List.foldl_append]
  rfl
def oL (M:List (List Int)) (jo:Option Nat):Option (List Int):=jo.map fun j=>M.getD j []
def oF (f:Nat→Option Addr×Nat) (A0:Option Addr) (jo:Option Nat):Option Addr×Nat:=match jo with
  |none=>(A0,0)
  |some j=>f j
def RayA (o:Option (List Int)) (S:Nat→Prop) (w w':World) (e:Ending):Prop:=∃u:Cho,e=.returned (.tuple #[slV (curL o).length u,.bool o.isSome])∧Below w.heap.size w w'∧IntsAt w' (slV (curL o).length u) (curL o)∧(∀k,sb (slV (curL o).length u) k→(w.heap.size≤k∨S k)∧k<w'.heap.size)∧Steady (sb (slV (curL o).length u)) (fun w=>IntsAt w (slV (curL o).length u) (curL o))
theorem refRay_any (AL B:Option Addr) (cL cB:Nat) (M:List (List Int)) (vs:Nat→Value) (by_:List Int) (n:Nat) (S:Nat→Prop) (w:World) (hL:MatAt w (.slice AL M.length cL) M vs) (hB:RdRow w B by_.length 1 (elI by_)) (hby:by_.length=n) (hn:n≤8) (hCl:M.length≤1048576) (hlen:∀i,i<M.length→(M.getD i []).length=n)
    (hT:∀i,i<M.length→Tame (M.getD i [],1)) (hS:∀i,i<M.length→∀k,sb (vs i) k→S k):
    Calls Try.prog 43 #[.slice AL M.length cL,.slice B by_.length cB] w fun e w'=>RayA (rayM by_ M) S w w' e:=by
  obtain⟨f,hx0,hL⟩:=hL.lit
  have hS:∀i,i<M.length→∀k,sb (.slice (f i).1 (M.getD i []).length (f i).2) k→S k:=fun i hi=>by rw[←hx0 i hi];exact hS i hi
  clear hx0
  obtain⟨_,_,e,hAL,hcL,hri⟩:=hL
  cases e
  have hri:∀i,i<M.length→IntsAt w (.slice (f i).1 (M.getD i []).length (f i).2) (M.getD i []):=hri
  have hrow:∀i,i<M.length→∀{w1},Below w.heap.size w w1→RdRow w1 (f i).1 (M.getD i []).length 1 (elI (M.getD i [])):=fun i hi w1 hb=>(intsAt_row ((hri i hi).below hb)).2
  refine enterIn _ Try.func43 rfl 41 Try.ntmps43 [.c (.inp 1000 AL M.length cL),.c (.inp 1001 B by_.length cB)] [⟨1000,AL,1,M.length,fun i=>[.slice (f i).1 (M.getD i []).length (f i).2]⟩,⟨1001,B,1,by_.length,elI by_⟩] rfl rfl ⟨hAL,hB,trivial⟩ ⟨.inl ⟨rfl,rfl,rfl⟩,.inr ⟨nx rfl,.inl ⟨rfl,rfl,rfl⟩⟩,trivial⟩ ?_
  refine G.seqR tfine rfl trivial ?_
  refine G.seqC tfine rfl trivial ?_
  refine GO.emptySliceS tfine rfl rfl rfl rfl rfl rfl rfl fun A0 hA0=>?_
  refine GO.fin tfine rfl trivial ?_
  refine G.seq ?_
  refine G.seqR tfine rfl trivial ?_
  refine G.block (G.loop (fun z:Nat×Option Nat=>St.of [(0,.v (.c (.inp 1000 AL M.length cL))),(1,.v (.c (.inp 1001 B by_.length cB))),(6,.v (.c (.k (.slice (oF f A0 z.2).1 (curL (oL M z.2)).length (oF f A0 z.2).2)))),(7,.v (.c (.k (.bool z.2.isSome)))),(8,.v (.c (.k (I z.1))))]
      [(1000,.ro 1 M.length (fun i=>[.slice (f i).1 (M.getD i []).length (f i).2])),(1001,.ro 1 by_.length (elI by_))])
    (fun z=>z.1≤M.length∧(∀j,z.2=some j→j<M.length)∧rayM by_ (M.take z.1)=oL M z.2) (fun z=>M.length-z.1) (0,none) ⟨Nat.zero_le _,fun j hj=>(by cases hj),rfl⟩ (St.le_of rfl ⟨⟨_,rfl,Blk.le_refl _⟩,⟨_,rfl,Blk.le_refl _⟩,trivial⟩ ⟨rfl,rfl,rfl,rfl,rfl,trivial⟩) ?_)
  rintro⟨i,jo⟩ ⟨hi,hjo,hbest⟩
  simp only at hi hjo hbest
  have hcurl:∀j,jo=some j→(curL (oL M jo)).length=n:=fun j hj=>by rw[hj];exact hlen j (hjo j hj)
  refine G.seq ?_
  refine G.seqR tfine rfl trivial ?_
  refine G.cond (b:=decide ((i:Int)<(M.length:Int))) rfl (fun h5=>?_) (fun h5=>?_)
  rotate_left
  · have h5:=of_decide_eq_false h5
    have:i=M.length:=by omega
    subst this
    rw[List.take_length]at hbest
    refine G.exit ?_
    refine G.seqR tfine rfl trivial ?_
    refine G.ret ⟨.inl rfl,fun ρ a w' hs=>⟨_,results_run tfine hs rfl,?_⟩⟩
    have hb:=hs.mem.fr.toBelow
    rw[hbest]
    have hiss:(oL M jo).isSome=jo.isSome:=by cases jo<;>rfl
    have hin:IntsAt w' (.slice (oF f A0 jo).1 (curL (oL M jo)).length (oF f A0 jo).2) (curL (oL M jo)):=by
      cases hj:jo with
      |none=>exact⟨A0,0,rfl,RdRow.nil _ _ _ _,fun h=>by cases h⟩
      |some j=>exact (hri j (hjo j hj)).below hb
    have e:slV (curL (oL M jo)).length (.slice (oF f A0 jo).1 (curL (oL M jo)).length (oF f A0 jo).2,fun _=>False)=.slice (oF f A0 jo).1 (curL (oL M jo)).length (oF f A0 jo).2:=ints_slV hin _
    refine⟨(.slice (oF f A0 jo).1 (curL (oL M jo)).length (oF f A0 jo).2,fun _=>False),by rw[e,hiss],hb,by rw[e];exact hin,fun k hk=>?_,fun w1 w2 h1 h2 h=>steady_ints w1 w2 h1 h2 h⟩
    rw[e]at hk
    refine⟨.inr ?_,ints_lt hin k hk⟩
    cases hj:jo with
    |none=>rw[hj]at hk;exact absurd hk.1 (Nat.lt_irrefl 0)
    |some j=>rw[hj]at hk;exact hS j (hjo j hj) k hk
  have h5:=of_decide_eq_true h5
  have hii:i<M.length:=by omega
  have t1:=hT i hii
  have hli:=hlen i hii
  refine G.skip ?_
  refine G.seq ?_
  refine G.block ?_
  obtain⟨dd,hdd⟩:∃dd,dd=dotL by_ (M.getD i []):=⟨_,rfl⟩
  refine G.seq ?_
  refine G.seqC tfine rfl ?_ ?_
  · first|trivial|(simp[AllP,condB];done)|(simp only[AllP];and_intros<;>first|trivial|decide|omega)|(simp[AllP,condB];intros;and_intros<;>first|assumption|omega)|(simp[AllP,condB];intros;simp_all;done)
  rw[Int.toNat_natCast]
  refine GO.callPlain (v:=I dd) rfl rfl rfl rfl (fun args w=>Try.call61 args w) (fun ρ w1 hs hok=>by rw[hdd];exact refDot_any B (f i).1 cB (f i).2 by_ (M.getD i []) w1 (hB.below hs.fr.toBelow) (hrow i hii hs.fr.toBelow) (by omega) (by omega)) ?_
  refine GO.fin tfine rfl trivial ?_
  refine G.cond (b:=decide (dd≤0)) rfl (fun h6=>?_) (fun h6=>?_)
  · have h6:=of_decide_eq_true h6
    have hnext:rayM by_ (M.take (i+1))=oL M jo:=by
      rw[rayM_take by_ M i hii,rstep,if_neg,hbest]
      rw[takeR,←hdd,decide_eq_false (by omega)]
      simp
    refine G.exit ?_
    refine G.reg tfine rfl trivial ?_
    rw[IntWalk.i64_in ((i:Int)+1) (by omega)]
    exact⟨(i+1,jo),⟨by simp only;omega,hjo,hnext⟩,(by show M.length-(i+1)<M.length-i;omega),St.le_of rfl ⟨⟨_,rfl,Blk.le_refl _⟩,⟨_,rfl,Blk.le_refl _⟩,trivial⟩ ⟨rfl,rfl,rfl,rfl,by simp[up,I],trivial⟩⟩
  have h6:=of_decide_eq_false h6
  refine G.skip ?_
  obtain⟨od,hod⟩:∃od,od=decide (ordM (M.getD i []) 1 (curL (oL M jo)) 1<0):=⟨_,rfl⟩
  refine G.seqC tfine rfl ?_ ?_
  · first|trivial|(simp[AllP,condB];done)|(simp only[AllP];and_intros<;>first|trivial|decide|omega)|(simp[AllP,condB];intros;and_intros<;>first|assumption|omega)|(simp[AllP,condB];intros;simp_all;done)
  rw[Int.toNat_natCast]
  refine GO.callGuard (.bool od) rfl rfl rfl (by first|exact trivial|exact⟨id,trivial⟩|exact⟨id,id,trivial⟩|exact⟨id,id,id,trivial⟩|(simp[AllP,condB];done)) rfl rfl (fun args w=>Try.call87 args w) rfl (fun hct m' hle ρ w1 hs hok=>?_) ?_
  · have hct:(!(!jo.isSome))=true:=hct
    obtain⟨j,hj⟩:=Option.isSome_iff_exists.1 (by simpa using hct)
    have hjl:=hjo j hj
    have hl:=hlen j hjl
    subst hj
    rw[hod]
    exact refBefore_any (f i).1 (f j).1 (f i).2 (f j).2 (M.getD i []) (M.getD j []) 1 1 w1 (hrow i hii hs.fr.toBelow) (hrow j hjl hs.fr.toBelow) (by omega) (by omega) t1 (hT j hjl)
  refine GO.fin tfine rfl ?_ ?_
  · first|trivial|(simp[AllP,condB];done)|(simp only[AllP];and_intros<;>first|trivial|decide|omega)|(simp[AllP,condB];intros;and_intros<;>first|assumption|omega)|(simp[AllP,condB];intros;simp_all;done)
  have hnext:rayM by_ (M.take (i+1))=if (!jo.isSome||od)=true then some (M.getD i []) else oL M jo:=by
    rw[rayM_take by_ M i hii,rstep,hbest]
    have:takeR by_ (oL M jo) (M.getD i [])=(!jo.isSome||od):=by
      rw[takeR,←hdd,decide_eq_true (by omega:dd>0),hod]
      cases jo<;>simp[oL]
    rw[this]
  refine G.cond (b:=!jo.isSome||od) rfl (fun h7=>?_) (fun h7=>?_)
  · refine G.reg tfine rfl ?_ ?_
    · first|trivial|(simp[AllP,condB];done)|(simp only[AllP];and_intros<;>first|trivial|decide|omega)|(simp[AllP,condB];intros;and_intros<;>first|assumption|omega)|(simp[AllP,condB];intros;simp_all;done)
    rw[Int.toNat_natCast]
    refine G.reg tfine rfl trivial ?_
    rw[IntWalk.i64_in ((i:Int)+1) (by omega)]
    exact⟨(i+1,some i),⟨by simp only;omega,fun j hj=>by cases hj;exact hii,by rw[hnext,if_pos h7];rfl⟩,(by show M.length-(i+1)<M.length-i;omega),St.le_of rfl ⟨⟨_,rfl,Blk.le_refl _⟩,⟨_,rfl,Blk.le_refl _⟩,trivial⟩ ⟨rfl,rfl,rfl,rfl,by simp[up,I],trivial⟩⟩
  · refine G.skip ?_
    refine G.reg tfine rfl trivial ?_
    rw[IntWalk.i64_in ((i:Int)+1) (by omega)]
    exact⟨(i+1,jo),⟨by simp only;omega,hjo,by rw[hnext,if_neg (by rw[h7];decide)]⟩,(by show M.length-(i+1)<M.length-i;omega),St.le_of rfl ⟨⟨_,rfl,Blk.le_refl _⟩,⟨_,rfl,Blk.le_refl _⟩,trivial⟩ ⟨rfl,rfl,rfl,rfl,by simp[up,I],trivial⟩⟩
end Go.Proofs.Ytafhnfcahhlanaa
namespace Go.Proofs.Ytafhnfcahhlanaa
open Go.Sx Go.RowKit
def lnS:Nat→Int
  |0=>1
  |k+1=>W (0-lnS k)
def lnM (L:List Cond) (set:List Int) (k:Nat):List (List Int):=set.map fun i=>(cAt L i.toNat).1.eraseIdx k
def lnX (L:List Cond) (set:List Int) (k:Nat):Int:=W (lnS k*detW set.length (lnM L set k))
def lineL (L:List Cond) (set:List Int) (n:Nat):List Int:=(List.range n).map (lnX L set)
def smN (L:List Cond) (set:List Int):Nat→Bool
  |0=>false
  |k+1=>smN L set k||(lnX L set k != 0)
theorem lineL_get (L:List Cond) (set:List Int) (n k:Nat) (h:k<n):(lineL L set n).getD k 0=lnX L set k:=by
  simp[lineL,List.getD_eq_getElem?_getD,List.getElem?_map,List.getElem?_range h]
def LnA (lo:Nat) (l:List Int) (b:Bool) (w w':World) (e:Ending):Prop:=∃u:Cho,e=.returned (.tuple #[slV l.length u,.bool b])∧Below w.heap.size w w'∧newI lo l (slV l.length u) w'∧(∀k,sb (slV l.length u) k→w.heap.size≤k∧k<w'.heap.size)∧Steady (sb (slV l.length u)) (newI lo l (slV l.length u))
theorem refLine_any (AL As:Option Addr) (cL cs n:Nat) (L:List Cond) (set:List Int) (vs:Nat→Value) (w:World) (hL0:ConsAt w (.slice AL L.length cL) L vs) (hA:RdRow w As set.length 1 (elI set)) (lo:Nat) (hlo:lo≤w.heap.size) (hn:n≤100) (hsl:set.length+1=n) (hin:∀i,i<set.length→0≤set.getD i 0∧set.getD i 0<L.length) (hrow:∀i,i<L.length→(cAt L i).1.length=n):
    Calls Try.prog 88 #[.slice AL L.length cL,.slice As set.length cs,I n] w fun e w'=>LnA lo (lineL L set n) (smN L set n) w w' e:=by
  obtain⟨f,hx0,hL⟩:=hL0.lit
  clear hx0 hL0 vs
  obtain⟨_,_,e,hAL,hcL,hri⟩:=hL
  cases e
  have hri:∀i,i<L.length→IntsAt w (.slice (f i).1 (cAt L i).1.length (f i).2) (cAt L i).1:=hri
  have hq:∀i,i<set.length→(set.getD i 0).toNat<L.length:=fun i hi=>by have:=hin i hi;omega
  have hll:(lineL L set n).length=n:=by simp[lineL]
  refine enterIn _ Try.func88 rfl 67 Try.ntmps88 [.c (.inp 1000 AL L.length cL),.c (.inp 1001 As set.length cs),.c (.k (I n))] [⟨1000,AL,2,L.length,elC L (fun i=>.slice (f i).1 (cAt L i).1.length (f i).2)⟩,⟨1001,As,1,set.length,elI set⟩] rfl rfl ⟨hAL,hA,trivial⟩ ⟨.inl ⟨rfl,rfl,rfl⟩,.inr ⟨nx rfl,.inl ⟨rfl,rfl,rfl⟩⟩,trivial,trivial⟩ ?_
  refine G.seqR tfine rfl trivial ?_
  refine G.seqC tfine rfl trivial ?_
  refine GO.steps (Steps.emptyOwn tfine 1 (elI (lineL L set n)) rfl rfl rfl rfl rfl rfl rfl rfl rfl) ?_
  refine GO.fin tfine rfl trivial ?_
  refine G.rn 16 65 rfl trivial rfl rfl rfl ?_
  refine G.seqR tfine rfl trivial ?_
  refine G.seq ?_
  refine G.seqR tfine rfl trivial ?_
  refine G.tellAs 990 rfl rfl ?_
  refine G.block (G.loop (fun z:Nat×Nat=>St.of [(0,.v (.c (.inp 1000 AL L.length cL))),(1,.v (.c (.inp 1001 As set.length cs))),(2,.v (.c (.k (I n)))),(8,.v (.c (.slc 65 0 1 z.1 z.2))),(9,.v (.c (.k (.bool (smN L set z.1))))),(10,.v (.c (.k (I (lnS z.1))))),(11,.v (.c (.k (I z.1))))] [(990,.say (· < w.heap.size) (asOf w)),(1000,.ro 2 L.length (elC L (fun i=>.slice (f i).1 (cAt L i).1.length (f i).2))),(1001,.ro 1 set.length (elI set)),(65,.arr 3 1 z.1 (elI (lineL L set n)) ((z.2-z.1)*1))])
    (fun z=>z.1≤n∧z.1≤z.2) (fun z=>n-z.1) (0,0) ⟨Nat.zero_le _,Nat.le_refl _⟩ (St.le_of rfl ⟨⟨_,rfl,Blk.le_refl _⟩,⟨_,rfl,Blk.le_refl _⟩,⟨_,rfl,Blk.le_refl _⟩,⟨_,rfl,Blk.le_refl _⟩,trivial⟩ ⟨rfl,rfl,rfl,rfl,rfl,rfl,rfl,trivial⟩) ?_)
  rintro⟨k,co⟩ ⟨hk,hco⟩
  simp only at hk hco
  refine G.seq ?_
  refine G.seqR tfine rfl trivial ?_
  refine G.cond (b:=decide ((k:Int)<(n:Int))) rfl (fun h5=>?_) (fun h5=>?_)
  rotate_left
  · have h5:=of_decide_eq_false h5
    have:k=n:=by omega
    subst this
    refine G.exit ?_
    refine G.freezeArr 65 8 rfl rfl (Nat.le_refl _) fun g hg=>?_
    have hg:w.heap.size≤g:=hg.elim id (fun h=>by cases h)
    refine G.seqR tfine rfl trivial ?_
    refine G.ret ⟨.inl rfl,fun ρ a w' hs=>⟨_,results_run tfine hs rfl,?_⟩⟩
    obtain⟨x1,x2,_⟩:=hs.mem.ok 65 _ rfl
    have hin2:IntsAt w' (.slice (some ⟨g,0,none⟩) k co) (lineL L set k):=intsAt_of hll.symm x1 hco
    have e:slV (lineL L set k).length (.slice (some ⟨g,0,none⟩) k co,fun _=>False)=.slice (some ⟨g,0,none⟩) k co:=ints_slV hin2 _
    have hsb:∀k',sb (.slice (some ⟨g,0,none⟩) k co) k'→k'=g:=fun k' hk'=>by obtain⟨_,a,e,rfl⟩:=hk';cases e;rfl
    refine⟨(.slice (some ⟨g,0,none⟩) k co,fun _=>False),by rw[e],hs.mem.fr.toBelow,?_,?_,newI_steady⟩
    · rw[e]
      obtain⟨A,c,e3,h3,h4⟩:=hin2
      exact⟨⟨A,c,e3,h3,h4⟩,fun k' hk'=>by rw[hsb k' hk'];omega⟩
    · rw[e]
      exact fun k' hk'=>by rw[hsb k' hk'];exact⟨hg,x2 _ rfl⟩
  have h5:=of_decide_eq_true h5
  have hlt:k<n:=by omega
  obtain⟨sm,hsm⟩:∃sm,sm=lnM L set k:=⟨_,rfl⟩
  have hsml:sm.length=set.length:=by rw[hsm];simp[lnM]
  have hsmi:∀i,i<set.length→sm.getD i []=(cAt L (set.getD i 0).toNat).1.eraseIdx k:=fun i hi=>by
    rw[hsm]
    simp[lnM,List.getD_eq_getElem?_getD,List.getElem?_map,List.getElem?_eq_getElem hi]
  have hsmr:∀i,i<set.length→(sm.getD i []).length=set.length:=fun i hi=>by
    rw[hsmi i hi,List.length_eraseIdx_of_lt (by rw[hrow _ (hq i hi)];exact hlt),hrow _ (hq i hi)];omega
  refine G.skip ?_
  refine G.seq ?_
  refine G.block ?_
  refine G.seqC tfine rfl trivial ?_
  refine GO.steps (Steps.emptyOwn tfine 1 (fun _:Nat=>([undef]:List Value)) rfl rfl rfl rfl rfl rfl rfl rfl rfl) ?_
  refine GO.fin tfine rfl trivial ?_
  refine G.rn 22 63 rfl trivial rfl rfl rfl ?_
  refine G.seq ?_
  refine G.seqR tfine rfl trivial ?_
  refine G.tellF 839 (fun w=>∀j,j<0→IntsAt w undef (sm.getD j [])) (fun w j hj=>by omega) rfl ?_
  refine G.block (G.loop (fun z:Nat×Nat×(Nat→Value)×(Nat→Prop)=>St.of [(0,.v (.c (.inp 1000 AL L.length cL))),(1,.v (.c (.inp 1001 As set.length cs))),(2,.v (.c (.k (I n)))),(8,.v (.c (.slc 65 0 1 k co))),(9,.v (.c (.k (.bool (smN L set k))))),(10,.v (.c (.k (I (lnS k))))),(11,.v (.c (.k (I k)))),(12,.v (.c (.slc 63 0 1 z.1 z.2.1))),(13,.v (.c (.k (I z.1))))] [(990,.say (· < w.heap.size) (asOf w)),(1000,.ro 2 L.length (elC L (fun i=>.slice (f i).1 (cAt L i).1.length (f i).2))),(1001,.ro 1 set.length (elI set)),(65,.arr 3 1 k (elI (lineL L set n)) ((co-k)*1)),(63,.arr 22 1 z.1 (fun j=>[z.2.2.1 j]) ((z.2.1-z.1)*1)),(839,.say z.2.2.2 (fun w=>∀j,j<z.1→IntsAt w (z.2.2.1 j) (sm.getD j [])))])
    (fun z=>z.1≤set.length∧z.1≤z.2.1) (fun z=>set.length-z.1) (0,0,(fun _=>undef),fun _=>False) ⟨Nat.zero_le _,Nat.le_refl _⟩ (St.le_of rfl ⟨⟨_,rfl,Blk.le_refl _⟩,⟨_,rfl,Blk.le_refl _⟩,⟨_,rfl,Blk.le_refl _⟩,⟨_,rfl,Blk.le_refl _⟩,⟨_,rfl,Blk.le_refl _⟩,⟨_,rfl,Blk.le_refl _⟩,trivial⟩ ⟨rfl,rfl,rfl,rfl,rfl,rfl,rfl,rfl,rfl,trivial⟩) ?_)
  rintro⟨i,cp,us,SR⟩ ⟨hi,hcp⟩
  simp only at hi hcp
  refine G.seq ?_
  refine G.seqR tfine rfl trivial ?_
  refine G.cond (b:=decide ((i:Int)<(set.length:Int))) rfl (fun h6=>?_) (fun h6=>?_)
  · have h6:=of_decide_eq_true h6
    have hil:i<set.length:=by omega
    obtain⟨row,hrw⟩:∃row,row=(cAt L (set.getD i 0).toNat).1:=⟨_,rfl⟩
    have hrl:row.length=n:=by rw[hrw];exact hrow _ (hq i hil)
    obtain⟨Aq,cq,hvq,hAq,hcq⟩:=hri _ (hq i hil)
    rw[←hrw,hrl]at hvq hAq hcq
    have hcq:=hcq (by omega)
    have hin2:=hin i hil
    refine G.skip ?_
    refine G.seq ?_
    refine G.block ?_
    refine G.seqR tfine rfl ?_ ?_
    · first|trivial|(simp[AllP,condB];done)|(simp only[AllP];and_intros<;>first|trivial|decide|omega)|(simp[AllP,condB];intros;and_intros<;>first|assumption|omega)|(simp[AllP,condB];intros;simp_all;done)
    rw[Int.toNat_natCast]
    apply G.drawC (ch:=fun j=>match j with|5=>some (accF 38 42 (0+(k-0)) 1 3 (catE (elI []) 0 fun i=>elI row (0+i)))|10=>some (conN 42 47 w.heap.size (0+(k-0)+(n-(k+1))) 1 (catE (catE (elI []) 0 fun i=>elI row (0+i)) (0+(k-0)) fun i=>elI row (k+1+i)))|12=>some (accZ 63 49 840 i 1 22 (fun j=>[us j]) (0+(k-0)+(n-(k+1))) (newV w.heap.size (0+(k-0)+(n-(k+1))) 1 (catE (catE (elI []) 0 fun i=>elI row (0+i)) (0+(k-0)) fun i=>elI row (k+1+i))) [])|_=>none)
      (cls:=[0,0,0,0,12,30,0,0,128,448,1022,2046,4095,8191]) (X:=[(1,38),(5,38),(5,42),(10,42),(10,47),(12,63),(12,49),(12,840)]) hmix rfl rfl rfl
    · intro cc
      refine GC.more tfine 0 rfl rfl rfl trivial ?_
      refine GC.step 1 rfl rfl (Steps.emptyOwn tfine 1 (elI []) rfl rfl rfl rfl rfl rfl rfl rfl rfl) rfl ?_
      refine GC.more tfine 2 rfl rfl rfl trivial ?_
      refine GC.step 4 rfl rfl (Steps.sliceK tfine (A:=Aq) (n:=n) (cap:=cq) 0 k rfl rfl rfl rfl rfl rfl (congrArg (fun v=>TV.v (.c (.k v))) (by rw[←hrl,hrw]at hvq;rw[←hrl,hrw];exact hvq)) (.inl ⟨rfl,rfl⟩) (.inr ⟨_,rfl,rfl⟩) (Nat.zero_le _) (by omega)) rfl ?_
      refine GC.choice 5 rfl _ rfl (StepsC.appendMany (n:=0) (c:=0) (room:=0) 990 (fun i=>elI row (0+i)) apT35 rfl rfl rfl rfl rfl rfl rfl rfl rfl (Nat.le_refl _) (Nat.le_refl _) rfl rfl rfl (fun w1 h=>(hAq.asOf h).sub hcq (by omega)) rfl rfl (fun k _=>rfl) (fun k _ u hu=>by simp[elI]at hu;subst hu;rfl) (fun k hk=>rfl) (by unfold maxLen;omega) (by omega)) rfl accF_nm rfl ?_
      refine GC.more tfine 6 rfl rfl rfl trivial ?_
      refine GC.step 9 rfl rfl (Steps.sliceK tfine (A:=Aq) (n:=n) (cap:=cq) (k+1) n rfl rfl rfl rfl rfl rfl (congrArg (fun v=>TV.v (.c (.k v))) (by rw[←hrl,hrw]at hvq;rw[←hrl,hrw];exact hvq)) (.inr ⟨_,rfl,(by show TV.v (.c (.k (I (W ((k:Int)+1)))))=_;rw[W_id (by omega) (by omega)];rfl)⟩) (.inl ⟨rfl,rfl⟩) (by omega) (by omega)) rfl ?_
      refine GC.choice 10 rfl _ rfl (StepsC.appendManyS (n:=0+(k-0)) (c:=capN (0+(k-0)) (cc 5)) (room:=(capN (0+(k-0)) (cc 5)-(0+(k-0)))*1) 990 (fun i=>elI row (k+1+i)) apT35 rfl rfl rfl rfl rfl rfl rfl rfl rfl (Nat.le_refl _) (capN_le _ _) rfl rfl rfl (fun w1 h=>(hAq.asOf h).sub hcq (by omega)) rfl rfl (fun k _=>rfl) (fun k _ u hu=>by simp[elI]at hu;subst hu;rfl) (fun k' hk'=>by unfold catE;split<;>rfl) (by unfold maxLen;omega) (by omega)) rfl conN_nm rfl ?_
      refine GC.more tfine 11 rfl rfl rfl trivial ?_
      refine GC.choice 12 rfl _ rfl (StepsC.appendOwnZ (n:=i) (c:=cp) (room:=(cp-i)*1) (R:=newV w.heap.size (0+(k-0)+(n-(k+1))) 1 (catE (catE (elI []) 0 fun i=>elI row (0+i)) (0+(k-0)) fun i=>elI row (k+1+i))) 47 840 (cc 10) [] apLL rfl rfl rfl rfl rfl rfl rfl rfl rfl (Nat.le_refl _) rfl rfl rfl rfl (fun u hu=>by cases hu) (fun k hk=>rfl) (by unfold maxLen;omega) (by omega) rfl rfl rfl rfl rfl rfl (fun u=>steady_newV)) rfl accZ_nm rfl ?_
      refine GC.more tfine 13 rfl rfl rfl trivial ?_
      refine GC.nil ?_
      obtain⟨v,hv⟩:∃v,v=slV (0+(k-0)+(n-(k+1))) (pr2 (cc 12)):=⟨_,rfl⟩
      obtain⟨cp2,hcp2⟩:∃cp2,cp2=capN (i+1) (pr1 (cc 12)):=⟨_,rfl⟩
      have hcl:i+1≤cp2:=by rw[hcp2];exact capN_le _ _
      refine G.weaken (st':=St.of [(0,.v (.c (.inp 1000 AL L.length cL))),(1,.v (.c (.inp 1001 As set.length cs))),(2,.v (.c (.k (I n)))),(8,.v (.c (.slc 65 0 1 k co))),(9,.v (.c (.k (.bool (smN L set k))))),(10,.v (.c (.k (I (lnS k))))),(11,.v (.c (.k (I k)))),(12,.v (.c (.slc 49 0 1 (i+1) cp2))),(13,.v (.c (.k (I i))))] [(990,.say (· < w.heap.size) (asOf w)),(1000,.ro 2 L.length (elC L (fun i=>.slice (f i).1 (cAt L i).1.length (f i).2))),(1001,.ro 1 set.length (elI set)),(65,.arr 3 1 k (elI (lineL L set n)) ((co-k)*1)),(49,.arr 22 1 (i+1) (elN (fun j=>[us j]) i [v]) ((cp2-(i+1))*1)),(839,.say SR (fun w=>∀j,j<i→IntsAt w (us j) (sm.getD j []))),(840,.say (sb v) (newV w.heap.size (0+(k-0)+(n-(k+1))) 1 (catE (catE (elI []) 0 fun i=>elI row (0+i)) (0+(k-0)) fun i=>elI row (k+1+i)) v))])
        (St.le_of rfl ⟨⟨_,rfl,Blk.le_refl _⟩,⟨_,rfl,Blk.le_refl _⟩,⟨_,rfl,Blk.le_refl _⟩,⟨_,rfl,Blk.le_refl _⟩,⟨_,rfl,by rw[hv,hcp2];exact Blk.le_refl _⟩,⟨_,rfl,Blk.le_refl _⟩,⟨_,rfl,by rw[hv];exact Blk.le_refl _⟩,trivial⟩ ⟨rfl,rfl,rfl,rfl,rfl,rfl,rfl,by rw[hcp2];rfl,rfl,trivial⟩) ?_
      clear hv hcp2
      refine snocSay 839 840 i (tot:=fun j=>sm.getD j []) (v:=v) rfl rfl (fun k hk=>hk) (fun w1 h=>by
        refine IntsAt.of h.1 (by rw[hsmr i hil];omega) fun j hj=>?_
        rw[hsmr i hil]at hj
        rw[hsmi i hil,←hrw]
        exact catE_erase row k set.length (by omega) (by omega) j hj) fun us' hs1 hs2=>?_
      refine G.rn 49 63 rfl trivial rfl rfl rfl ?_
      refine G.reg tfine rfl trivial ?_
      refine⟨(i+1,cp2,us',fun k=>SR k∨sb v k),⟨by simp only;omega,hcl⟩,(by show set.length-(i+1)<set.length-i;omega),?_⟩
      exact St.le_of rfl ⟨⟨_,rfl,Blk.le_refl _⟩,⟨_,rfl,Blk.le_refl _⟩,⟨_,rfl,Blk.le_refl _⟩,⟨_,rfl,Blk.le_refl _⟩,⟨_,rfl,rfl,rfl,Nat.le_refl _,snoc_row' hs1 hs2,Nat.le_refl _⟩,⟨_,rfl,Blk.le_refl _⟩,trivial⟩ ⟨rfl,rfl,rfl,rfl,rfl,rfl,rfl,rfl,by first|rfl|(simp[Sx.up,I,rnS,rnTV,rnAV,rnAC];rw[IntWalk.i64_in _ (by omega)]),trivial⟩
    ·
      intro c c' j hj h
      have hj:j<14:=hj
      rcases j with _|_|_|_|_|_|_|_|_|_|_|_|_|_|j
      all_goals first|rfl|(show some _=some _;(try rw[h 5 (.inl rfl)]);(try rw[h 5 (.inr ⟨rfl,rfl⟩)]);(try rw[h 10 (.inl rfl)]);(try rw[h 10 (.inr ⟨rfl,rfl⟩)]);(try rw[h 12 (.inl rfl)]);(try rw[h 12 (.inr ⟨rfl,rfl⟩)]);done)|exact absurd hj (by omega)
  have h6:=of_decide_eq_false h6
  have hin0:i=set.length:=by omega
  subst hin0
  refine G.exit ?_
  refine G.seqC tfine rfl trivial ?_
  refine GO.callPlain (v:=I (detW set.length sm)) rfl rfl rfl rfl (fun args w=>Try.call99 args w) (fun ρ w1 hs hok=>?_) ?_
  · have hF1:=hs.rdArr (x:=63) rfl 0 set.length (by omega)
    have:=refDet_any set.length sm (.slice (some ⟨(ρ 63).1,(ρ 63).2+0*1,none⟩) set.length cp) us w1 hsml (by omega) hsmr ⟨_,cp,by rw[hsml],by rw[hsml];exact hF1.congr fun q hq=>by rw[Nat.zero_add],fun _=>by rw[hsml];exact hcp,fun q hq=>(hs.ok 839 _ rfl).1 q (by rw[←hsml];exact hq)⟩
    exact this
  refine GO.fin tfine rfl trivial ?_
  obtain⟨x,hx⟩:∃x,x=lnX L set k:=⟨_,rfl⟩
  have hx1:IntKind.i64.wrap (lnS k*detW set.length sm)=x:=by rw[hx,lnX,←hsm]
  rw[hx1]
  refine G.seqR tfine rfl ?_ ?_
  · first|trivial|(simp[AllP,condB];done)|(simp only[AllP];and_intros<;>first|trivial|decide|omega)|(simp[AllP,condB];intros;and_intros<;>first|assumption|omega)|(simp[AllP,condB];intros;simp_all;done)
  refine G.seqC tfine rfl trivial ?_
  refine GO.choice (StepsC.appendOwn1 (n:=k) (c:=co) (room:=(co-k)*1) [I x] apT35 rfl rfl rfl rfl rfl rfl rfl rfl rfl (Nat.le_refl _) rfl rfl rfl rfl (fun u hu=>by simp at hu;subst hu;rfl) (fun k hk=>rfl) (by unfold maxLen;omega) (by omega)) fun uu=>?_
  refine GO.fin tfine rfl trivial ?_
  refine G.reg tfine rfl trivial ?_
  obtain⟨co2,hco2⟩:∃co2,co2=capN (k+1) uu:=⟨_,rfl⟩
  have hcl:k+1≤co2:=by rw[hco2];exact capN_le _ _
  refine G.weaken (st':=St.of [(0,.v (.c (.inp 1000 AL L.length cL))),(1,.v (.c (.inp 1001 As set.length cs))),(2,.v (.c (.k (I n)))),(8,.v (.c (.slc 62 0 1 (k+1) co2))),(9,.v (.c (.k (.bool (smN L set k||(x != 0)))))),(10,.v (.c (.k (I (W (0-lnS k)))))),(11,.v (.c (.k (I k))))] [(990,.say (· < w.heap.size) (asOf w)),(1000,.ro 2 L.length (elC L (fun i=>.slice (f i).1 (cAt L i).1.length (f i).2))),(1001,.ro 1 set.length (elI set)),(62,.arr 3 1 (k+1) (elN (elI (lineL L set n)) k [I x]) ((co2-(k+1))*1))])
    (St.le_of rfl ⟨⟨_,rfl,Blk.le_refl _⟩,⟨_,rfl,Blk.le_refl _⟩,⟨_,rfl,Blk.le_refl _⟩,⟨_,rfl,by rw[hco2];exact Blk.le_refl _⟩,trivial⟩ ⟨rfl,rfl,rfl,by rw[hco2];rfl,rfl,rfl,rfl,trivial⟩) ?_
  clear hco2
  refine G.rn 62 65 rfl trivial rfl rfl rfl ?_
  refine G.reg tfine rfl trivial ?_
  refine⟨(k+1,co2),⟨by simp only;omega,hcl⟩,(by show n-(k+1)<n-k;omega),?_⟩
  exact St.le_of rfl ⟨⟨_,rfl,Blk.le_refl _⟩,⟨_,rfl,Blk.le_refl _⟩,⟨_,rfl,Blk.le_refl _⟩,⟨_,rfl,rfl,rfl,Nat.le_refl _,(fun q hq=>by
    by_cases e:q=k
    · subst e
      rw[elN_eq,hx,←lineL_get L set n q (by omega)];rfl
    · rw[elN_lt (by omega)]),Nat.le_refl _⟩,trivial⟩ ⟨rfl,rfl,rfl,rfl,by rw[smN,←hx];rfl,rfl,by first|rfl|(simp[Sx.up,I,rnS,rnTV,rnAV,rnAC];rw[IntWalk.i64_in _ (by omega)]),trivial⟩
end Go.Proofs.Ytafhnfcahhlanaa
set_option maxHeartbeats 4000000
namespace Go.Proofs.Ytafhnfcahhlanaa
open Go.Sx Go.RowKit
def gK (dl:List Int):Nat→Nat
  |0=>0
  |k+1=>Nat.gcd (gK dl k) (dl.getD k 0).natAbs
def shL (dl:List Int) (g:Nat):List Int:=dl.map fun x=>W (x.tdiv (g:Int))
def partR (L0:List Cond) (n:Nat) (dl:List Int):List (List Int):=if keepsM L0 dl 1=true then [shL dl (gK dl n)] else []
def rayOfR (L0:List Cond) (n:Nat) (set:List Int):List (List Int):=if smN L0 set n=true then partR L0 n (lineL L0 set n)++partR L0 n (negW (lineL L0 set n)) else []
def raysR (L:List Cond) (n:Nat):List (List Int):=(chR (n-1) 0 L.length).flatMap (rayOfR (homL L) n)
def Bd (dl:List Int) (n:Nat):Prop:=dl.length=n∧(∀k,k<n→-24000000000000≤dl.getD k 0∧dl.getD k 0≤24000000000000)
theorem gK_le {dl:List Int} {n:Nat} (h:Bd dl n):∀k,k≤n→gK dl k≤24000000000000
  |0,_=>Nat.zero_le _
  |k+1,hk=>by
    have h1:=gK_le h k (by omega)
    have h2:=h.2 k (by omega)
    rw[gK]
    rcases Nat.eq_zero_or_pos (gK dl k) with e|e
    · rw[e,Nat.gcd_zero_left];omega
    · exact Nat.le_trans (Nat.gcd_le_left _ e) h1
theorem gK_neg {dl:List Int} {n:Nat} (h:Bd dl n):∀k,k≤n→gK (negW dl) k=gK dl k
  |0,_=>rfl
  |k+1,hk=>by
    have h2:=h.2 k (by omega)
    rw[gK,gK,gK_neg h k (by omega),negW_get _ _ (by rw[h.1];omega),W_id (by omega) (by omega)]
    congr 1
    omega
theorem Bd.neg {dl:List Int} {n:Nat} (h:Bd dl n):Bd (negW dl) n:=⟨by rw[negW_len,h.1],fun k hk=>by
  have h2:=h.2 k hk
  rw[negW_get _ _ (by rw[h.1];omega),W_id (by omega) (by omega)];omega⟩
theorem sm_pos {L:List Cond} {set:List Int} {n:Nat}:∀k,k≤n→smN L set k=true→gK (lineL L set n) k≠0
  |0,_,h=>by cases h
  |k+1,hk,h=>by
    rw[smN,Bool.or_eq_true]at h
    intro hg
    rw[gK,Nat.gcd_eq_zero_iff]at hg
    rcases h with h|h
    · exact sm_pos k (by omega) h hg.1
    · rw[lineL_get _ _ _ _ (by omega)]at hg
      have:lnX L set k≠0:=by simpa using h
      omega
theorem flat_at {α β:Type} (f:α→List β) (s:List α) (i:Nat) (hi:i<s.length):∃r,s.flatMap f=(s.take i).flatMap f++(f s[i]++r)∧(s.take (i+1)).flatMap f=(s.take i).flatMap f++f s[i]:=by
  have e1:s.take (i+1)=s.take i++[s[i]]:=List.take_succ_eq_append_getElem hi
  refine⟨(s.drop (i+1)).flatMap f,?_,by rw[e1,List.flatMap_append];simp⟩
  conv=>lhs;rw[←List.take_append_drop (i+1) s,e1]
  rw[List.flatMap_append,List.flatMap_append]
  simp
theorem homL_lenR (L:List Cond):(homL L).length=L.length:=by simp[homL]
theorem homL_atR (L:List Cond) (i:Nat) (h:i<L.length):cAt (homL L) i=((cAt L i).1,0):=by
  simp[homL,cAt,List.getD_eq_getElem?_getD,List.getElem?_map,List.getElem?_eq_getElem h]
theorem getD_pre (s r:List (List Int)) (x:List Int):(s++(x::r)).getD s.length []=x:=by
  simp[List.getD_eq_getElem?_getD]
theorem refRays_any (AL:Option Addr) (cL n:Nat) (L:List Cond) (vs:Nat→Value) (w:World) (hL0:ConsAt w (.slice AL L.length cL) L vs) (hl:L.length≤20) (hn0:0<n) (hn:n≤20) (hrow:∀i,i<L.length→(cAt L i).1.length=n) (hbd:∀set∈chR (n-1) 0 L.length,Bd (lineL (homL L) set n) n):
    Calls Try.prog 44 #[.slice AL L.length cL,I n] w fun e w'=>MatA (raysR L n) w w' e:=by
  obtain⟨f,hx0,hL⟩:=hL0.lit
  clear hx0 hL0 vs
  obtain⟨_,_,e,hAL,hcL,hri⟩:=hL
  cases e
  have hri:∀i,i<L.length→IntsAt w (.slice (f i).1 (cAt L i).1.length (f i).2) (cAt L i).1:=hri
  obtain⟨tot,htot⟩:∃tot,tot=raysR L n:=⟨_,rfl⟩
  obtain⟨sets,hsets⟩:∃sets,sets=chR (n-1) 0 L.length:=⟨_,rfl⟩
  obtain⟨L0,hL0⟩:∃L0,L0=homL L:=⟨_,rfl⟩
  rw[←hL0,←hsets]at hbd
  have hts:tot=sets.flatMap (rayOfR L0 n):=by rw[htot,hsets,hL0];rfl
  have hsl:sets.length≤1048576:=by
    rw[hsets]
    exact Nat.le_trans (ch_len _ _ _) (Nat.le_trans (Nat.pow_le_pow_right (by decide) (show L.length-0≤20 by omega)) (by decide))
  have hmem:∀i,(hi:i<sets.length)→sets.getD i []=sets[i]:=fun i hi=>by rw[List.getD_eq_getElem?_getD,List.getElem?_eq_getElem hi];rfl
  have hset:∀i,i<sets.length→(sets.getD i []).length+1=n∧∀x∈sets.getD i [],0≤x∧x<L.length:=fun i hi=>by
    have hm:sets.getD i []∈chR (n-1) 0 L.length:=by rw[←hsets,hmem i hi];exact List.getElem_mem hi
    have:=ch_row (n-1) 0 L.length _ hm
    exact⟨by omega,fun x hx=>by have:=this.2 x hx;omega⟩
  obtain⟨off,hoff⟩:∃off:Nat→Nat,off=fun i=>((sets.take i).flatMap (rayOfR L0 n)).length:=⟨_,rfl⟩
  have hat:∀i,i<sets.length→∃s r,s.length=off i∧tot=s++(rayOfR L0 n (sets.getD i [])++r)∧off (i+1)=off i+(rayOfR L0 n (sets.getD i [])).length:=fun i hi=>by
    obtain⟨r,e1,e2⟩:=flat_at (rayOfR L0 n) sets i hi
    refine⟨(sets.take i).flatMap (rayOfR L0 n),r,by rw[hoff],by rw[hts,e1,hmem i hi],?_⟩
    rw[hoff]
    simp only
    rw[e2,List.length_append,hmem i hi]
  have hoffe:off sets.length=tot.length:=by rw[hoff,hts];simp
  have htl:tot.length≤2097152:=by
    have:∀i,i≤sets.length→off i≤2*i:=by
      intro i
      induction i with
      |zero=>intro _;rw[hoff];simp
      |succ i ih=>
        intro hi
        obtain⟨s,r,_,_,e⟩:=hat i (by omega)
        have h2:(rayOfR L0 n (sets.getD i [])).length≤2:=by
          unfold rayOfR partR
          split
          · split<;>split<;>simp
          · simp
        have:=ih (by omega)
        omega
    have:=this sets.length (Nat.le_refl _)
    omega
  rw[←htot]
  refine enterIn _ Try.func44 rfl 101 Try.ntmps44 [.c (.inp 1000 AL L.length cL),.c (.k (I n))] [⟨1000,AL,2,L.length,elC L (fun i=>.slice (f i).1 (cAt L i).1.length (f i).2)⟩] rfl rfl ⟨hAL,trivial⟩ ⟨.inl ⟨rfl,rfl,rfl⟩,trivial,trivial⟩ ?_
  refine G.seqR tfine rfl trivial ?_
  refine G.seqC tfine rfl trivial ?_
  refine GO.steps (Steps.emptyOwn tfine 2 (fun j=>[.slice (f j).1 (cAt L j).1.length (f j).2,I 0]) rfl rfl rfl rfl rfl rfl rfl rfl rfl) ?_
  refine GO.fin tfine rfl trivial ?_
  refine G.rn 17 64 rfl trivial rfl rfl rfl ?_
  refine G.seq ?_
  refine G.seqR tfine rfl trivial ?_
  refine G.tellAs 990 rfl rfl ?_
  refine G.block (G.loop (fun z:Nat×Nat=>St.of [(0,.v (.c (.inp 1000 AL L.length cL))),(1,.v (.c (.k (I n)))),(5,.v (.c (.slc 64 0 2 z.1 z.2))),(6,.v (.c (.k (I z.1))))] [(990,.say (· < w.heap.size) (asOf w)),(1000,.ro 2 L.length (elC L (fun i=>.slice (f i).1 (cAt L i).1.length (f i).2))),(64,.arr 106 2 z.1 (fun j=>[.slice (f j).1 (cAt L j).1.length (f j).2,I 0]) ((z.2-z.1)*2))])
    (fun z=>z.1≤L.length∧z.1≤z.2) (fun z=>L.length-z.1) (0,0) ⟨Nat.zero_le _,Nat.le_refl _⟩ (St.le_of rfl ⟨⟨_,rfl,Blk.le_refl _⟩,⟨_,rfl,Blk.le_refl _⟩,⟨_,rfl,Blk.le_refl _⟩,trivial⟩ ⟨rfl,rfl,rfl,rfl,trivial⟩) ?_)
  rintro⟨i,cz⟩ ⟨hi,hcz⟩
  simp only at hi hcz
  refine G.seq ?_
  refine G.seqR tfine rfl trivial ?_
  refine G.cond (b:=decide ((i:Int)<(L.length:Int))) rfl (fun h5=>?_) (fun h5=>?_)
  · have h5:=of_decide_eq_true h5
    have hlt:i<L.length:=by omega
    refine G.skip ?_
    refine G.seq ?_
    refine G.block ?_
    refine G.regC tfine rfl ?_ ?_
    · first|trivial|(simp[AllP,condB];done)|(simp only[AllP];and_intros<;>first|trivial|decide|omega)|(simp[AllP,condB];intros;and_intros<;>first|assumption|omega)|(simp[AllP,condB];intros;simp_all;done)
    rw[Int.toNat_natCast]
    refine GO.choice (StepsC.appendOwn1 (n:=i) (c:=cz) (room:=(cz-i)*2) [.slice (f i).1 (cAt L i).1.length (f i).2,I 0] apRe rfl rfl rfl rfl rfl rfl rfl rfl rfl (Nat.le_refl _) rfl rfl rfl rfl (fun u hu=>by simp at hu;rcases hu with rfl|rfl<;>rfl) (fun k hk=>rfl) (by unfold maxLen;omega) (by omega)) fun uu=>?_
    refine GO.fin tfine rfl trivial ?_
    obtain⟨c2,hc2⟩:∃c2,c2=capN (i+1) uu:=⟨_,rfl⟩
    have hcl:i+1≤c2:=by rw[hc2];exact capN_le _ _
    refine G.weaken (st':=St.of [(0,.v (.c (.inp 1000 AL L.length cL))),(1,.v (.c (.k (I n)))),(5,.v (.c (.slc 32 0 2 (i+1) c2))),(6,.v (.c (.k (I i))))] [(990,.say (· < w.heap.size) (asOf w)),(1000,.ro 2 L.length (elC L (fun i=>.slice (f i).1 (cAt L i).1.length (f i).2))),(32,.arr 106 2 (i+1) (elN (fun j=>[.slice (f j).1 (cAt L j).1.length (f j).2,I 0]) i [.slice (f i).1 (cAt L i).1.length (f i).2,I 0]) ((c2-(i+1))*2))])
      (St.le_of rfl ⟨⟨_,rfl,Blk.le_refl _⟩,⟨_,rfl,Blk.le_refl _⟩,⟨_,rfl,by rw[hc2];exact Blk.le_refl _⟩,trivial⟩ ⟨rfl,rfl,by rw[hc2];rfl,rfl,trivial⟩) ?_
    clear hc2
    refine G.rn 32 64 rfl trivial rfl rfl rfl ?_
    refine G.reg tfine rfl trivial ?_
    refine⟨(i+1,c2),⟨by simp only;omega,hcl⟩,(by show L.length-(i+1)<L.length-i;omega),?_⟩
    exact St.le_of rfl ⟨⟨_,rfl,Blk.le_refl _⟩,⟨_,rfl,Blk.le_refl _⟩,⟨_,rfl,rfl,rfl,Nat.le_refl _,(fun q hq=>by
        by_cases e:q=i
        · subst e;rw[elN_eq]
        · rw[elN_lt (by omega)]),Nat.le_refl _⟩,trivial⟩ ⟨rfl,rfl,rfl,by first|rfl|(simp[Sx.up,I,rnS,rnTV,rnAV,rnAC];rw[IntWalk.i64_in _ (by omega)]),trivial⟩
  have h5:=of_decide_eq_false h5
  have:i=L.length:=by omega
  subst this
  refine G.exit ?_
  have hcon:∀w1 (ρ:Val),Below w.heap.size w w1→RdRow w1 (some ⟨(ρ 64).1,(ρ 64).2+0*2,none⟩) L.length 2 (fun j=>[.slice (f j).1 (cAt L j).1.length (f j).2,I 0])→ConsAt w1 (.slice (some ⟨(ρ 64).1,(ρ 64).2+0*2,none⟩) L0.length cz) L0 (fun i=>.slice (f i).1 (cAt L i).1.length (f i).2):=fun w1 ρ hb hr=>by
    refine⟨_,cz,rfl,?_,fun _=>by rw[hL0,homL_lenR];exact hcz,fun i hi=>?_⟩
    · rw[hL0,homL_lenR]
      exact hr.congr fun i hi=>by rw[elC,homL_atR L i hi]
    · rw[hL0,homL_lenR]at hi
      rw[hL0,homL_atR L i hi]
      exact (hri i hi).below hb
  have hl0:L0.length=L.length:=by rw[hL0,homL_lenR]
  have hrow0:∀i,i<L0.length→(cAt L0 i).1.length=n:=fun i hi=>by rw[hl0]at hi;rw[hL0,homL_atR L i hi];exact hrow i hi
  refine G.seqC tfine rfl trivial ?_
  refine GO.steps (Steps.emptyOwn tfine 1 (fun _:Nat=>([undef]:List Value)) rfl rfl rfl rfl rfl rfl rfl rfl rfl) ?_
  refine GO.fin tfine rfl trivial ?_
  refine G.rn 33 63 rfl trivial rfl rfl rfl ?_
  refine G.seq ?_
  refine G.seqR tfine rfl trivial ?_
  refine G.cond (b:=((n:Int)==0)) rfl (fun h=>?_) (fun h=>?_)
  · have h:(n:Int)=0:=by simpa using h
    omega
  refine G.skip ?_
  refine G.seqC tfine rfl trivial ?_
  refine GO.callSay 871 (fun u=>slV sets.length (pr1 u)) (fun u=>u.2) (matR sets) rfl rfl rfl rfl rfl (fun args w=>Try.call84 args w) (fun ρ w1 hs hok=>?_) fun ur=>?_
  · have:=refChoices_any (n-1) 0 L.length w1 (Nat.zero_le _) hl (by omega)
    rw[←hsets]at this
    have e:(List.map (AV.conc ρ) [AV.c (.k (I 0)),AV.c (.k (I L.length)),AV.c (.k (I (W ((n:Int)-1))))]++List.map (Cap.conc ρ) []).toArray=#[I ((0:Nat):Int),I L.length,I ((n-1:Nat):Int)]:=by
      rw[W_id (by omega) (by omega)]
      simp[AV.conc,AC.conc]
      omega
    rw[←e]at this
    exact this
  refine GO.fin tfine rfl trivial ?_
  refine G.fact (φ:=(∀k,sb (slV sets.length (pr1 ur)) k→ur.2 k)∧∀j,j<sets.length→(∃A c,rowU ur j=.slice A (sets.getD j []).length c)∧∀k,sb (rowU ur j) k→ur.2 k) 871 rfl (fun w1 h=>by
    obtain⟨⟨_,_,_,_,_,hi⟩,q1,q2⟩:=h
    refine⟨q1,fun j hj=>⟨?_,q2 j hj⟩⟩
    obtain⟨A,c,e,_⟩:=hi j hj
    exact⟨A,c,e⟩) fun hlit=>?_
  refine G.openSay 871 709 8 (el:=fun i=>[rowU ur i]) (sz:=1) rfl (fun w1 h=>by
    obtain⟨⟨A,c,e,h1,_⟩,_,_⟩:=h
    injection e with e1 e2 e3
    rw[←e1]at h1
    exact h1) hlit.1 rfl rfl rfl ?_
  refine G.seq ?_
  refine G.seqR tfine rfl trivial ?_
  refine G.tellF 839 (fun w=>∀j,j<0→IntsAt w undef (tot.getD j [])) (fun w j hj=>by omega) rfl ?_
  refine G.block (G.loop (fun z:Nat×Nat×(Nat→Value)×(Nat→Prop)=>St.of [(0,.v (.c (.inp 1000 AL L.length cL))),(1,.v (.c (.k (I n)))),(5,.v (.c (.slc 64 0 2 L.length cz))),(7,.v (.c (.slc 63 0 1 (off z.1) z.2.1))),(8,.v (.c (.inp 709 (adrK (pr1 ur)) sets.length (capN sets.length (pr1 ur))))),(9,.v (.c (.k (I z.1))))] [(990,.say (· < w.heap.size) (asOf w)),(1000,.ro 2 L.length (elC L (fun i=>.slice (f i).1 (cAt L i).1.length (f i).2))),(64,.arr 106 2 L.length (fun j=>[.slice (f j).1 (cAt L j).1.length (f j).2,I 0]) ((cz-L.length)*2)),(871,.say ur.2 (matR sets ur)),(709,.ro 1 sets.length (fun i=>[rowU ur i])),(63,.arr 22 1 (off z.1) (fun j=>[z.2.2.1 j]) ((z.2.1-(off z.1))*1)),(839,.say z.2.2.2 (fun w=>∀j,j<off z.1→IntsAt w (z.2.2.1 j) (tot.getD j [])))])
    (fun z=>z.1≤sets.length∧off z.1≤z.2.1∧(∀k,z.2.2.2 k→w.heap.size≤k)∧∀j,j<off z.1→∀k,sb (z.2.2.1 j) k→z.2.2.2 k) (fun z=>sets.length-z.1) (0,0,(fun _=>undef),fun _=>False) ⟨Nat.zero_le _,by rw[hoff];exact Nat.le_refl _,fun k hk=>hk.elim,fun j hj=>by rw[hoff]at hj;exact absurd hj (Nat.not_lt_zero j)⟩ ?_ ?_)
  · have e0:off 0=0:=by rw[hoff];rfl
    simp only[e0]
    exact St.le_of rfl ⟨⟨_,rfl,Blk.le_refl _⟩,⟨_,rfl,Blk.le_refl _⟩,⟨_,rfl,Blk.le_refl _⟩,⟨_,rfl,Blk.le_refl _⟩,⟨_,rfl,Blk.le_refl _⟩,⟨_,rfl,Blk.le_refl _⟩,⟨_,rfl,Blk.le_refl _⟩,trivial⟩ ⟨rfl,rfl,rfl,rfl,rfl,rfl,trivial⟩
  rintro⟨i,cp,us,SR⟩ ⟨hi,hcp,hSR,hU⟩
  simp only at hi hcp hSR hU
  refine G.seq ?_
  refine G.seqR tfine rfl trivial ?_
  refine G.cond (b:=decide ((i:Int)<(sets.length:Int))) rfl (fun h5=>?_) (fun h5=>?_)
  rotate_left
  · have h5:=of_decide_eq_false h5
    have:i=sets.length:=by omega
    subst this
    rw[hoffe]at hcp hU ⊢
    refine G.exit ?_
    refine G.freezeArr 63 7 rfl rfl (Nat.le_refl _) fun g hg=>?_
    have hg:w.heap.size≤g:=hg.elim id (fun h=>by cases h)
    refine G.seqR tfine rfl trivial ?_
    exact G.ret (ret_mat (X:=63) (Y:=839) rfl hg hcp hSR hU rfl rfl)
  have h5:=of_decide_eq_true h5
  have hii:i<sets.length:=by omega
  obtain⟨set,hst⟩:∃set,set=sets.getD i []:=⟨_,rfl⟩
  obtain⟨hsl1,hsx⟩:=hset i hii
  obtain⟨⟨Aq,cq,hvq⟩,hsbq⟩:=hlit.2 i hii
  have hbi:Bd (lineL L0 set n) n:=hbd _ (by rw[hst,hmem i hii];exact List.getElem_mem hii)
  obtain⟨s0,r0,hs0,hts0,hoffn⟩:=hat i hii
  rw[←hst]at hsl1 hsx hvq hts0 hoffn
  obtain⟨ln,hln⟩:∃ln,ln=lineL L0 set n:=⟨_,rfl⟩
  obtain⟨sm,hsm⟩:∃sm,sm=smN L0 set n:=⟨_,rfl⟩
  rw[←hln]at hbi
  refine G.skip ?_
  refine G.seq ?_
  refine G.block ?_
  refine G.seqC tfine rfl ?_ ?_
  · first|trivial|(simp[AllP,condB];done)|(simp only[AllP];and_intros<;>first|trivial|decide|omega)|(simp[AllP,condB];intros;and_intros<;>first|assumption|omega)|(simp[AllP,condB];intros;simp_all;done)
  rw[Int.toNat_natCast]
  refine GO.callSay 850 (fun u=>.tuple #[slV n u,.bool sm]) (fun u=>sb (slV n u)) (fun u=>newI w.heap.size ln (slV n u)) rfl rfl rfl rfl rfl (fun args w=>Try.call88 args w) (fun ρ w1 hs hok=>?_) fun ud=>?_
  · obtain⟨⟨_,_,_,_,_,hi2⟩,_,_⟩:=(hs.ok 871 _ rfl).1
    have h9:=hi2 i hii
    rw[hvq,←hst]at h9
    have hF1:=hs.rdArr (x:=64) rfl 0 L.length (by omega)
    have:=refLine_any (some ⟨(ρ 64).1,(ρ 64).2+0*2,none⟩) Aq cz cq n L0 set _ w1 (hcon w1 ρ hs.fr.toBelow (hF1.congr fun q hq=>by rw[Nat.zero_add])) (intsAt_row h9).2 w.heap.size hs.fr.size (by omega) hsl1 (fun j hj=>by
      have:=hsx (set.getD j 0) (by rw[List.getD_eq_getElem?_getD,List.getElem?_eq_getElem hj];exact List.getElem_mem hj)
      rw[hl0]
      exact this) hrow0
    rw[←hln,←hsm,hl0]at this
    unfold LnA at this
    rw[hbi.1]at this
    show Calls Try.prog _ #[_,rowU ur i,_] w1 _
    rw[hvq]
    exact this
  refine GO.fin tfine rfl trivial ?_
  refine G.seq ?_
  refine G.seqR tfine rfl trivial ?_
  refine G.cond (b:=!sm) rfl (fun h6=>?_) (fun h6=>?_)
  · have hr0:rayOfR L0 n set=[]:=by rw[rayOfR,if_neg];rw[←hsm];simpa using h6
    rw[hr0,List.length_nil,Nat.add_zero]at hoffn
    refine G.exit ?_
    refine G.reg tfine rfl trivial ?_
    rw[IntWalk.i64_in ((i:Int)+1) (by omega)]
    refine⟨(i+1,cp,us,SR),⟨by simp only;omega,by simp only[hoffn];exact hcp,hSR,by simp only[hoffn];exact hU⟩,(by show sets.length-(i+1)<sets.length-i;omega),?_⟩
    simp only[hoffn]
    exact St.le_of rfl ⟨⟨_,rfl,Blk.le_refl _⟩,⟨_,rfl,Blk.le_refl _⟩,⟨_,rfl,Blk.le_refl _⟩,⟨_,rfl,Blk.le_refl _⟩,⟨_,rfl,Blk.le_refl _⟩,⟨_,rfl,Blk.le_refl _⟩,⟨_,rfl,Blk.le_refl _⟩,trivial⟩ ⟨rfl,rfl,rfl,rfl,rfl,by simp[Sx.up,I],trivial⟩
  have hsmt:sm=true:=by simpa using h6
  refine G.skip ?_
  obtain⟨dlt,hdlt⟩:∃dlt:Nat→List Int,dlt=fun t=>Nat.rec ln (fun _ d=>negW d) t:=⟨_,rfl⟩
  have hd0:dlt 0=ln:=congrFun hdlt 0
  have hd1:∀t,dlt (t+1)=negW (dlt t):=fun t=>(congrFun hdlt (t+1)).trans (congrArg negW (congrFun hdlt t).symm)
  obtain⟨pos,hpos⟩:∃pos:Nat→Nat,pos=fun t=>Nat.rec (off i) (fun t p=>p+(partR L0 n (dlt t)).length) t:=⟨_,rfl⟩
  have hp0:pos 0=off i:=congrFun hpos 0
  have hp1:∀t,pos (t+1)=pos t+(partR L0 n (dlt t)).length:=fun t=>(congrFun hpos (t+1)).trans (congrArg (fun p=>p+(partR L0 n (dlt t)).length) (congrFun hpos t).symm)
  have hbt:∀t,Bd (dlt t) n∧gK (dlt t) n≠0:=fun t=>by
    induction t with
    |zero=>rw[hd0,hln];exact⟨by rw[←hln];exact hbi,sm_pos n (Nat.le_refl _) (by rw[←hsm];exact hsmt)⟩
    |succ t ih=>rw[hd1];exact⟨ih.1.neg,by rw[gK_neg ih.1 n (Nat.le_refl _)];exact ih.2⟩
  have hray:rayOfR L0 n set=partR L0 n (dlt 0)++partR L0 n (dlt 1):=by rw[rayOfR,if_pos (by rw[←hsm];exact hsmt),hd1,hd0,hln]
  have hp2:pos 2=off (i+1):=by rw[hoffn,hray,List.length_append,hp1,hp1,hp0];omega
  have hP:∀t,t<2→keepsM L0 (dlt t) 1=true→pos t<tot.length∧tot.getD (pos t) []=shL (dlt t) (gK (dlt t) n)∧pos (t+1)=pos t+1:=fun t ht hk=>by
    have hpt:partR L0 n (dlt t)=[shL (dlt t) (gK (dlt t) n)]:=by rw[partR,if_pos hk]
    have key:∃s r,s.length=pos t∧tot=s++(shL (dlt t) (gK (dlt t) n)::r):=by
      rcases (show t=0∨t=1 by omega) with rfl|rfl
      · refine⟨s0,partR L0 n (dlt 1)++r0,by rw[hs0,hp0],?_⟩
        rw[hts0,hray,hpt]
        simp
      · refine⟨s0++partR L0 n (dlt 0),r0,by rw[List.length_append,hs0,hp1,hp0],?_⟩
        rw[hts0,hray,hpt]
        simp
    obtain⟨s,r,e1,e2⟩:=key
    refine⟨by rw[e2,←e1];simp,by rw[e2,←e1];exact getD_pre _ _ _,by rw[hp1,hpt];rfl⟩
  have hN:∀t,t<2→keepsM L0 (dlt t) 1=false→pos (t+1)=pos t:=fun t ht hk=>by rw[hp1,partR,if_neg (by rw[hk];decide)];rfl
  have hpe:pos 2≤tot.length:=by rw[hp2,hoffn,hts0,List.length_append,List.length_append,hs0];omega
  refine G.seqR tfine rfl trivial ?_
  rw[←hd0]
  rw[←hp0]at hcp hU ⊢
  refine G.block (G.loop (fun z:Nat×Cho×Nat×(Nat→Value)×(Nat→Prop)=>St.of [(0,.v (.c (.inp 1000 AL L.length cL))),(1,.v (.c (.k (I n)))),(5,.v (.c (.slc 64 0 2 L.length cz))),(7,.v (.c (.slc 63 0 1 (pos z.1) z.2.2.1))),(8,.v (.c (.inp 709 (adrK (pr1 ur)) sets.length (capN sets.length (pr1 ur))))),(9,.v (.c (.k (I i)))),(10,.v (.c (.k (slV n z.2.1)))),(12,.v (.c (.k (I z.1))))] [(990,.say (· < w.heap.size) (asOf w)),(1000,.ro 2 L.length (elC L (fun i=>.slice (f i).1 (cAt L i).1.length (f i).2))),(64,.arr 106 2 L.length (fun j=>[.slice (f j).1 (cAt L j).1.length (f j).2,I 0]) ((cz-L.length)*2)),(871,.say ur.2 (matR sets ur)),(709,.ro 1 sets.length (fun i=>[rowU ur i])),(63,.arr 22 1 (pos z.1) (fun j=>[z.2.2.2.1 j]) ((z.2.2.1-pos z.1)*1)),(839,.say z.2.2.2.2 (fun w=>∀j,j<pos z.1→IntsAt w (z.2.2.2.1 j) (tot.getD j []))),(850,.say (sb (slV n z.2.1)) (newI w.heap.size (dlt z.1) (slV n z.2.1)))])
    (fun z=>z.1≤2∧pos z.1≤z.2.2.1∧(∀k,z.2.2.2.2 k→w.heap.size≤k)∧∀j,j<pos z.1→∀k,sb (z.2.2.2.1 j) k→z.2.2.2.2 k) (fun z=>2-z.1) (0,ud,cp,us,SR) ⟨Nat.zero_le _,hcp,hSR,hU⟩ (St.le_of rfl ⟨⟨_,rfl,Blk.le_refl _⟩,⟨_,rfl,Blk.le_refl _⟩,⟨_,rfl,Blk.le_refl _⟩,⟨_,rfl,Blk.le_refl _⟩,⟨_,rfl,Blk.le_refl _⟩,⟨_,rfl,Blk.le_refl _⟩,⟨_,rfl,Blk.le_refl _⟩,⟨_,rfl,Blk.le_refl _⟩,trivial⟩ ⟨rfl,rfl,rfl,rfl,rfl,rfl,rfl,rfl,trivial⟩) ?_)
  clear hcp hSR hU
  rintro⟨t,ud,cp,us,SR⟩ ⟨ht,hcp,hSR,hU⟩
  simp only at ht hcp hSR hU
  refine G.seq ?_
  refine G.seqR tfine rfl trivial ?_
  refine G.cond (b:=decide ((t:Int)<2)) rfl (fun h7=>?_) (fun h7=>?_)
  rotate_left
  · have h7:=of_decide_eq_false h7
    have:t=2:=by omega
    subst this
    rw[hp2]at hcp hU ⊢
    refine G.exit ?_
    refine G.reg tfine rfl trivial ?_
    rw[IntWalk.i64_in ((i:Int)+1) (by omega)]
    refine⟨(i+1,cp,us,SR),⟨by simp only;omega,hcp,hSR,hU⟩,(by show sets.length-(i+1)<sets.length-i;omega),?_⟩
    exact St.le_of rfl ⟨⟨_,rfl,Blk.le_refl _⟩,⟨_,rfl,Blk.le_refl _⟩,⟨_,rfl,Blk.le_refl _⟩,⟨_,rfl,Blk.le_refl _⟩,⟨_,rfl,Blk.le_refl _⟩,⟨_,rfl,Blk.le_refl _⟩,⟨_,rfl,Blk.le_refl _⟩,trivial⟩ ⟨rfl,rfl,rfl,rfl,rfl,by simp[Sx.up,I],trivial⟩
  have h7:=of_decide_eq_true h7
  have ht2:t<2:=by omega
  obtain⟨dl,hdl⟩:∃dl,dl=dlt t:=⟨_,rfl⟩
  obtain⟨hbd2,hg0⟩:=hbt t
  have hPt:=hP t ht2
  have hNt:=hN t ht2
  rw[←hdl]at hbd2 hg0 hPt hNt ⊢
  obtain⟨N,hNN⟩:∃N,N=pos t:=⟨_,rfl⟩
  rw[←hNN]at hcp hU hPt hNt ⊢
  refine G.skip ?_
  refine G.seq ?_
  refine G.block ?_
  refine G.openSay 850 705 10 (el:=elI dl) (sz:=1) rfl (fun w1 h=>by
    obtain⟨⟨A,c,e,h1,_⟩,_⟩:=h
    rw[hbd2.1]at e h1
    injection e with e1 e2 e3
    rw[←e1]at h1
    exact h1) (fun k hk=>hk) rfl rfl rfl ?_
  refine G_joinS (fun z:Nat×(Nat→Value)×(Nat→Prop)=>St.of [(0,.v (.c (.inp 1000 AL L.length cL))),(1,.v (.c (.k (I n)))),(5,.v (.c (.slc 64 0 2 L.length cz))),(7,.v (.c (.slc 63 0 1 (pos (t+1)) z.1))),(8,.v (.c (.inp 709 (adrK (pr1 ur)) sets.length (capN sets.length (pr1 ur))))),(9,.v (.c (.k (I i)))),(10,.v (.c (.inp 705 (adrK ud) n (capN n ud)))),(12,.v (.c (.k (I t))))] [(990,.say (· < w.heap.size) (asOf w)),(1000,.ro 2 L.length (elC L (fun i=>.slice (f i).1 (cAt L i).1.length (f i).2))),(64,.arr 106 2 L.length (fun j=>[.slice (f j).1 (cAt L j).1.length (f j).2,I 0]) ((cz-L.length)*2)),(871,.say ur.2 (matR sets ur)),(709,.ro 1 sets.length (fun i=>[rowU ur i])),(63,.arr 22 1 (pos (t+1)) (fun j=>[z.2.1 j]) ((z.1-pos (t+1))*1)),(839,.say z.2.2 (fun w=>∀j,j<pos (t+1)→IntsAt w (z.2.1 j) (tot.getD j []))),(850,.say (sb (slV n ud)) (newI w.heap.size dl (slV n ud))),(705,.ro 1 n (elI dl))])
    (fun z=>pos (t+1)≤z.1∧(∀k,z.2.2 k→w.heap.size≤k)∧∀j,j<pos (t+1)→∀k,sb (z.2.1 j) k→z.2.2 k) ?_ fun hcont=>?_
  · rintro⟨cp2,us2,SR2⟩ ⟨hcp2,hSR2,hU2⟩
    simp only at hcp2 hSR2 hU2
    refine G.regC tfine rfl trivial ?_
    refine GO.callSay 851 (fun u=>slV n u) (fun u=>sb (slV n u)) (fun u=>newI w.heap.size (negW dl) (slV n u)) rfl rfl rfl rfl rfl (fun args w=>Try.call46 args w) (fun ρ w1 hs hok=>?_) fun um=>?_
    · have h8:=(hs.ok 850 _ rfl).1.1
      obtain⟨A8,c8,e8,h9,_⟩:=h8
      rw[hbd2.1]at e8 h9
      have:=refMinusC (A:=A8) (c0:=c8) (l:=dl) w.heap.size hs.fr.size (by rw[hbd2.1];exact h9) (by rw[hbd2.1];omega)
      rw[hbd2.1,←e8]at this
      exact this
    refine GO.fin tfine rfl trivial ?_
    refine G.bothS 850 851 851 (sb (slV n um)) (newI w.heap.size (negW dl) (slV n um)) rfl rfl (fun k hk=>.inl hk) (fun s1 _=>s1) (fun w1 h1 _=>h1) (fun b hb=>⟨_,_,(Option.some.inj hb).symm⟩) ?_
    refine G.reg tfine rfl trivial ?_
    rw[IntWalk.i64_in ((t:Int)+1) (by omega)]
    refine⟨(t+1,um,cp2,us2,SR2),⟨by simp only;omega,hcp2,hSR2,hU2⟩,(by show 2-(t+1)<2-t;omega),?_⟩
    simp only[hd1,←hdl]
    exact St.le_of rfl ⟨⟨_,rfl,Blk.le_refl _⟩,⟨_,rfl,Blk.le_refl _⟩,⟨_,rfl,Blk.le_refl _⟩,⟨_,rfl,Blk.le_refl _⟩,⟨_,rfl,Blk.le_refl _⟩,⟨_,rfl,Blk.le_refl _⟩,⟨_,rfl,Blk.le_refl _⟩,⟨_,rfl,Blk.le_refl _⟩,trivial⟩ ⟨rfl,rfl,rfl,rfl,rfl,rfl,rfl,by simp[Sx.up,I],trivial⟩
  obtain⟨kb,hkb⟩:∃kb,kb=keepsM L0 dl 1:=⟨_,rfl⟩
  refine G.seqC tfine rfl trivial ?_
  refine GO.callPlain (v:=.bool kb) rfl rfl rfl rfl (fun args w=>Try.call60 args w) (fun ρ w1 hs hok=>?_) ?_
  · have h8:=(hs.ok 850 _ rfl).1.1
    obtain⟨A8,c8,e8,h9,_⟩:=h8
    have hF1:=hs.rdArr (x:=64) rfl 0 L.length (by omega)
    have:=refKeeps_any _ L0 _ A8 c8 dl 1 w1 (hcon w1 ρ hs.fr.toBelow (hF1.congr fun q hq=>by rw[Nat.zero_add])) h9 (fun j hj=>by rw[hrow0 j hj,hbd2.1];exact Nat.le_refl _) (by rw[hbd2.1];omega) (by omega)
    rw[←hkb,hbd2.1,hl0]at this
    rw[hbd2.1]at e8
    rw[←e8]at this
    exact this
  refine GO.fin tfine rfl trivial ?_
  refine G.cond (b:=kb) rfl (fun h8=>?_) (fun h8=>?_)
  rotate_left
  · have e:=hNt (by rw[←hkb];exact h8)
    refine G.skip ?_
    refine hcont (cp,us,SR) ⟨by rw[e];exact hcp,hSR,by rw[e];exact hU⟩ _ ?_
    simp only[e]
    exact St.le_of rfl ⟨⟨_,rfl,Blk.le_refl _⟩,⟨_,rfl,Blk.le_refl _⟩,⟨_,rfl,Blk.le_refl _⟩,⟨_,rfl,Blk.le_refl _⟩,⟨_,rfl,Blk.le_refl _⟩,⟨_,rfl,Blk.le_refl _⟩,⟨_,rfl,Blk.le_refl _⟩,⟨_,rfl,Blk.le_refl _⟩,⟨_,rfl,Blk.le_refl _⟩,trivial⟩ ⟨rfl,rfl,rfl,rfl,rfl,rfl,rfl,rfl,trivial⟩
  obtain⟨o1,o2,o3⟩:=hPt (by rw[←hkb];exact h8)
  refine G.seqR tfine rfl trivial ?_
  refine G.seq ?_
  refine G.seqR tfine rfl trivial ?_
  refine G.block (G.loop (fun k:Nat=>St.of [(0,.v (.c (.inp 1000 AL L.length cL))),(1,.v (.c (.k (I n)))),(5,.v (.c (.slc 64 0 2 L.length cz))),(7,.v (.c (.slc 63 0 1 (N) cp))),(8,.v (.c (.inp 709 (adrK (pr1 ur)) sets.length (capN sets.length (pr1 ur))))),(9,.v (.c (.k (I i)))),(10,.v (.c (.inp 705 (adrK ud) n (capN n ud)))),(12,.v (.c (.k (I t)))),(13,.v (.c (.k (I (gK dl k))))),(14,.v (.c (.k (I k))))] [(990,.say (· < w.heap.size) (asOf w)),(1000,.ro 2 L.length (elC L (fun i=>.slice (f i).1 (cAt L i).1.length (f i).2))),(64,.arr 106 2 L.length (fun j=>[.slice (f j).1 (cAt L j).1.length (f j).2,I 0]) ((cz-L.length)*2)),(871,.say ur.2 (matR sets ur)),(709,.ro 1 sets.length (fun i=>[rowU ur i])),(63,.arr 22 1 (N) (fun j=>[us j]) ((cp-(N))*1)),(839,.say SR (fun w=>∀j,j<N→IntsAt w (us j) (tot.getD j []))),(850,.say (sb (slV n ud)) (newI w.heap.size dl (slV n ud))),(705,.ro 1 n (elI dl))])
    (fun k=>k≤n) (fun k=>n-k) 0 (Nat.zero_le _) (St.le_of rfl ⟨⟨_,rfl,Blk.le_refl _⟩,⟨_,rfl,Blk.le_refl _⟩,⟨_,rfl,Blk.le_refl _⟩,⟨_,rfl,Blk.le_refl _⟩,⟨_,rfl,Blk.le_refl _⟩,⟨_,rfl,Blk.le_refl _⟩,⟨_,rfl,Blk.le_refl _⟩,⟨_,rfl,Blk.le_refl _⟩,⟨_,rfl,Blk.le_refl _⟩,trivial⟩ ⟨rfl,rfl,rfl,rfl,rfl,rfl,rfl,rfl,rfl,rfl,trivial⟩) ?_)
  rintro k hk
  refine G.seq ?_
  refine G.seqR tfine rfl trivial ?_
  refine G.cond (b:=decide ((k:Int)<(n:Int))) rfl (fun h9=>?_) (fun h9=>?_)
  · have h9:=of_decide_eq_true h9
    have hkn:k<n:=by omega
    have hb1:=hbd2.2 k hkn
    have hgl:=gK_le hbd2 k (by omega)
    refine G.skip ?_
    refine G.seq ?_
    refine G.block ?_
    refine G.regC tfine rfl ?_ ?_
    · first|trivial|(simp[AllP,condB];done)|(simp only[AllP];and_intros<;>first|trivial|decide|omega)|(simp[AllP,condB];intros;and_intros<;>first|assumption|omega)|(simp[AllP,condB];intros;simp_all;done)
    rw[Int.toNat_natCast]
    refine GO.callPlain (v:=I (gK dl (k+1))) rfl rfl rfl rfl (fun args w=>Try.call89 args w) (fun ρ w1 hs hok=>refDiv_any (gK dl k) (dl.getD k 0) w1 (by omega) (by omega) (by omega)) ?_
    refine GO.fin tfine rfl trivial ?_
    refine G.reg tfine rfl trivial ?_
    rw[IntWalk.i64_in ((k:Int)+1) (by omega)]
    exact⟨k+1,by omega,(by show n-(k+1)<n-k;omega),St.le_of rfl ⟨⟨_,rfl,Blk.le_refl _⟩,⟨_,rfl,Blk.le_refl _⟩,⟨_,rfl,Blk.le_refl _⟩,⟨_,rfl,Blk.le_refl _⟩,⟨_,rfl,Blk.le_refl _⟩,⟨_,rfl,Blk.le_refl _⟩,⟨_,rfl,Blk.le_refl _⟩,⟨_,rfl,Blk.le_refl _⟩,⟨_,rfl,Blk.le_refl _⟩,trivial⟩ ⟨rfl,rfl,rfl,rfl,rfl,rfl,rfl,rfl,rfl,by simp[Sx.up,I],trivial⟩⟩
  have h9:=of_decide_eq_false h9
  have:k=n:=by omega
  subst this
  refine G.exit ?_
  obtain⟨g,hg⟩:∃g,g=gK dl k:=⟨_,rfl⟩
  rw[←hg]at hg0 o2 ⊢
  have hgl:g≤24000000000000:=by rw[hg];exact gK_le hbd2 k (Nat.le_refl _)
  obtain⟨sh,hsh⟩:∃sh,sh=shL dl g:=⟨_,rfl⟩
  have hshl:sh.length=k:=by rw[hsh,shL,List.length_map,hbd2.1]
  have hshg:∀j,j<k→sh.getD j 0=W ((dl.getD j 0).tdiv (g:Int)):=fun j hj=>by
    rw[hsh]
    simp[shL,List.getD_eq_getElem?_getD,List.getElem?_map,List.getElem?_eq_getElem (show j<dl.length by rw[hbd2.1];exact hj)]
  refine G.seqC tfine rfl trivial ?_
  refine GO.steps (Steps.emptyOwn tfine 1 (elI sh) rfl rfl rfl rfl rfl rfl rfl rfl rfl) ?_
  refine GO.fin tfine rfl trivial ?_
  refine G.rn 79 66 rfl trivial rfl rfl rfl ?_
  refine G.seq ?_
  refine G.seqR tfine rfl trivial ?_
  refine G.block (G.loop (fun z:Nat×Nat=>St.of [(0,.v (.c (.inp 1000 AL L.length cL))),(1,.v (.c (.k (I k)))),(5,.v (.c (.slc 64 0 2 L.length cz))),(7,.v (.c (.slc 63 0 1 (N) cp))),(8,.v (.c (.inp 709 (adrK (pr1 ur)) sets.length (capN sets.length (pr1 ur))))),(9,.v (.c (.k (I i)))),(10,.v (.c (.inp 705 (adrK ud) k (capN k ud)))),(12,.v (.c (.k (I t)))),(13,.v (.c (.k (I g)))),(15,.v (.c (.slc 66 0 1 z.1 z.2))),(16,.v (.c (.k (I z.1))))] [(990,.say (· < w.heap.size) (asOf w)),(1000,.ro 2 L.length (elC L (fun i=>.slice (f i).1 (cAt L i).1.length (f i).2))),(64,.arr 106 2 L.length (fun j=>[.slice (f j).1 (cAt L j).1.length (f j).2,I 0]) ((cz-L.length)*2)),(871,.say ur.2 (matR sets ur)),(709,.ro 1 sets.length (fun i=>[rowU ur i])),(63,.arr 22 1 (N) (fun j=>[us j]) ((cp-(N))*1)),(839,.say SR (fun w=>∀j,j<N→IntsAt w (us j) (tot.getD j []))),(850,.say (sb (slV k ud)) (newI w.heap.size dl (slV k ud))),(705,.ro 1 k (elI dl)),(66,.arr 3 1 z.1 (elI sh) ((z.2-z.1)*1))])
    (fun z=>z.1≤k∧z.1≤z.2) (fun z=>k-z.1) (0,0) ⟨Nat.zero_le _,Nat.le_refl _⟩ (St.le_of rfl ⟨⟨_,rfl,Blk.le_refl _⟩,⟨_,rfl,Blk.le_refl _⟩,⟨_,rfl,Blk.le_refl _⟩,⟨_,rfl,Blk.le_refl _⟩,⟨_,rfl,Blk.le_refl _⟩,⟨_,rfl,Blk.le_refl _⟩,⟨_,rfl,Blk.le_refl _⟩,⟨_,rfl,Blk.le_refl _⟩,⟨_,rfl,Blk.le_refl _⟩,⟨_,rfl,Blk.le_refl _⟩,trivial⟩ ⟨rfl,rfl,rfl,rfl,rfl,rfl,rfl,rfl,rfl,rfl,rfl,trivial⟩) ?_)
  rintro⟨m,cs⟩ ⟨hm,hcs⟩
  simp only at hm hcs
  refine G.seq ?_
  refine G.seqR tfine rfl trivial ?_
  refine G.cond (b:=decide ((m:Int)<(k:Int))) rfl (fun h9=>?_) (fun h9=>?_)
  · have h9:=of_decide_eq_true h9
    have hmk:m<k:=by omega
    refine G.skip ?_
    refine G.seq ?_
    refine G.block ?_
    refine G.regC tfine rfl ?_ ?_
    · first|trivial|(simp[AllP,condB];done)|(simp only[AllP];and_intros<;>first|trivial|decide|omega)|(simp[AllP,condB];intros;and_intros<;>first|assumption|omega)|(simp[AllP,condB];intros;simp_all;done)
    rw[Int.toNat_natCast]
    refine GO.choice (StepsC.appendOwn1 (n:=m) (c:=cs) (room:=(cs-m)*1) [I (W ((dl.getD m 0).tdiv (g:Int)))] apT35 rfl rfl rfl rfl rfl rfl rfl rfl rfl (Nat.le_refl _) rfl rfl rfl rfl (fun u hu=>by simp at hu;subst hu;rfl) (fun k hk=>rfl) (by unfold maxLen;omega) (by omega)) fun uu=>?_
    refine GO.fin tfine rfl trivial ?_
    obtain⟨c2,hc2⟩:∃c2,c2=capN (m+1) uu:=⟨_,rfl⟩
    have hcl:m+1≤c2:=by rw[hc2];exact capN_le _ _
    refine G.weaken (st':=St.of [(0,.v (.c (.inp 1000 AL L.length cL))),(1,.v (.c (.k (I k)))),(5,.v (.c (.slc 64 0 2 L.length cz))),(7,.v (.c (.slc 63 0 1 (N) cp))),(8,.v (.c (.inp 709 (adrK (pr1 ur)) sets.length (capN sets.length (pr1 ur))))),(9,.v (.c (.k (I i)))),(10,.v (.c (.inp 705 (adrK ud) k (capN k ud)))),(12,.v (.c (.k (I t)))),(13,.v (.c (.k (I g)))),(15,.v (.c (.slc 93 0 1 (m+1) c2))),(16,.v (.c (.k (I m))))] [(990,.say (· < w.heap.size) (asOf w)),(1000,.ro 2 L.length (elC L (fun i=>.slice (f i).1 (cAt L i).1.length (f i).2))),(64,.arr 106 2 L.length (fun j=>[.slice (f j).1 (cAt L j).1.length (f j).2,I 0]) ((cz-L.length)*2)),(871,.say ur.2 (matR sets ur)),(709,.ro 1 sets.length (fun i=>[rowU ur i])),(63,.arr 22 1 (N) (fun j=>[us j]) ((cp-(N))*1)),(839,.say SR (fun w=>∀j,j<N→IntsAt w (us j) (tot.getD j []))),(850,.say (sb (slV k ud)) (newI w.heap.size dl (slV k ud))),(705,.ro 1 k (elI dl)),(93,.arr 3 1 (m+1) (elN (elI sh) m [I (W ((dl.getD m 0).tdiv (g:Int)))]) ((c2-(m+1))*1))])
      (St.le_of rfl ⟨⟨_,rfl,Blk.le_refl _⟩,⟨_,rfl,Blk.le_refl _⟩,⟨_,rfl,Blk.le_refl _⟩,⟨_,rfl,Blk.le_refl _⟩,⟨_,rfl,Blk.le_refl _⟩,⟨_,rfl,Blk.le_refl _⟩,⟨_,rfl,Blk.le_refl _⟩,⟨_,rfl,Blk.le_refl _⟩,⟨_,rfl,Blk.le_refl _⟩,⟨_,rfl,by rw[hc2];exact Blk.le_refl _⟩,trivial⟩ ⟨rfl,rfl,rfl,rfl,rfl,rfl,rfl,rfl,rfl,by rw[hc2];rfl,rfl,trivial⟩) ?_
    clear hc2
    refine G.rn 93 66 rfl trivial rfl rfl rfl ?_
    refine G.reg tfine rfl trivial ?_
    refine⟨(m+1,c2),⟨by simp only;omega,hcl⟩,(by show k-(m+1)<k-m;omega),?_⟩
    exact St.le_of rfl ⟨⟨_,rfl,Blk.le_refl _⟩,⟨_,rfl,Blk.le_refl _⟩,⟨_,rfl,Blk.le_refl _⟩,⟨_,rfl,Blk.le_refl _⟩,⟨_,rfl,Blk.le_refl _⟩,⟨_,rfl,Blk.le_refl _⟩,⟨_,rfl,Blk.le_refl _⟩,⟨_,rfl,Blk.le_refl _⟩,⟨_,rfl,Blk.le_refl _⟩,⟨_,rfl,rfl,rfl,Nat.le_refl _,(fun q hq=>by
        by_cases e:q=m
        · subst e
          rw[elN_eq,←hshg q hmk];rfl
        · rw[elN_lt (by omega)]),Nat.le_refl _⟩,trivial⟩ ⟨rfl,rfl,rfl,rfl,rfl,rfl,rfl,rfl,rfl,rfl,by first|rfl|(simp[Sx.up,I,rnS,rnTV,rnAV,rnAC];rw[IntWalk.i64_in _ (by omega)]),trivial⟩
  have h9:=of_decide_eq_false h9
  have:m=k:=by omega
  subst this
  refine G.exit ?_
  refine G.freezeArr 66 15 rfl rfl (Nat.le_refl _) fun ga hga=>?_
  have hga:w.heap.size≤ga:=hga.elim id (fun h=>by cases h)
  refine G.regC tfine rfl trivial ?_
  refine GO.choice (StepsC.appendOwn1 (n:=N) (c:=cp) (room:=(cp-N)*1) [.slice (some ⟨ga,0,none⟩) m cs] apLL rfl rfl rfl rfl rfl rfl rfl rfl rfl (Nat.le_refl _) rfl rfl rfl rfl (fun u hu=>by simp at hu;subst hu;rfl) (fun k hk=>rfl) (by unfold maxLen;omega) (by omega)) fun uu=>?_
  refine GO.fin tfine rfl trivial ?_
  obtain⟨c2,hc2⟩:∃c2,c2=capN (N+1) uu:=⟨_,rfl⟩
  have hcl:N+1≤c2:=by rw[hc2];exact capN_le _ _
  refine G.weaken (st':=St.of [(0,.v (.c (.inp 1000 AL L.length cL))),(1,.v (.c (.k (I m)))),(5,.v (.c (.slc 64 0 2 L.length cz))),(7,.v (.c (.slc 97 0 1 (N+1) c2))),(8,.v (.c (.inp 709 (adrK (pr1 ur)) sets.length (capN sets.length (pr1 ur))))),(9,.v (.c (.k (I i)))),(10,.v (.c (.inp 705 (adrK ud) m (capN m ud)))),(12,.v (.c (.k (I t))))] [(990,.say (· < w.heap.size) (asOf w)),(1000,.ro 2 L.length (elC L (fun i=>.slice (f i).1 (cAt L i).1.length (f i).2))),(64,.arr 106 2 L.length (fun j=>[.slice (f j).1 (cAt L j).1.length (f j).2,I 0]) ((cz-L.length)*2)),(871,.say ur.2 (matR sets ur)),(709,.ro 1 sets.length (fun i=>[rowU ur i])),(97,.arr 22 1 (N+1) (elN (fun j=>[us j]) N [.slice (some ⟨ga,0,none⟩) m cs]) ((c2-(N+1))*1)),(839,.say SR (fun w=>∀j,j<N→IntsAt w (us j) (tot.getD j []))),(850,.say (sb (slV m ud)) (newI w.heap.size dl (slV m ud))),(705,.ro 1 m (elI dl)),(66,.say (·=ga) (fun w=>RdRow w (some ⟨ga,0,none⟩) m 1 (elI sh)))])
    (St.le_of rfl ⟨⟨_,rfl,Blk.le_refl _⟩,⟨_,rfl,Blk.le_refl _⟩,⟨_,rfl,Blk.le_refl _⟩,⟨_,rfl,Blk.le_refl _⟩,⟨_,rfl,Blk.le_refl _⟩,⟨_,rfl,by rw[hc2];exact Blk.le_refl _⟩,⟨_,rfl,Blk.le_refl _⟩,⟨_,rfl,Blk.le_refl _⟩,⟨_,rfl,Blk.le_refl _⟩,⟨_,rfl,Blk.le_refl _⟩,trivial⟩ ⟨rfl,rfl,rfl,by rw[hc2];rfl,rfl,rfl,rfl,rfl,trivial⟩) ?_
  clear hc2
  refine snocSay 839 66 N (tot:=fun j=>tot.getD j []) (v:=.slice (some ⟨ga,0,none⟩) m cs) rfl rfl (fun k hk=>by obtain⟨_,a,e,rfl⟩:=hk;cases e;rfl) (fun w1 h=>by
    rw[o2,←hsh]
    exact intsAt_of hshl.symm h hcs) fun us' hs1 hs2=>?_
  refine G.rn 97 63 rfl trivial rfl rfl rfl ?_
  refine hcont (c2,us',fun k=>SR k∨sb (.slice (some ⟨ga,0,none⟩) m cs) k) ⟨by simp only[o3];exact hcl,fun k hk=>hk.elim (hSR k) fun h=>by
    obtain⟨_,a,e,rfl⟩:=h
    cases e
    exact hga,by simp only[o3];exact snoc_U hs1 hs2 hU⟩ _ ?_
  simp only[o3]
  exact St.le_of rfl ⟨⟨_,rfl,Blk.le_refl _⟩,⟨_,rfl,Blk.le_refl _⟩,⟨_,rfl,Blk.le_refl _⟩,⟨_,rfl,Blk.le_refl _⟩,⟨_,rfl,Blk.le_refl _⟩,⟨_,rfl,rfl,rfl,Nat.le_refl _,snoc_row' hs1 hs2,Nat.le_refl _⟩,⟨_,rfl,Blk.le_refl _⟩,⟨_,rfl,Blk.le_refl _⟩,⟨_,rfl,Blk.le_refl _⟩,trivial⟩ ⟨rfl,rfl,rfl,rfl,rfl,rfl,rfl,rfl,trivial⟩
end Go.Proofs.Ytafhnfcahhlanaa
