/-
  Lemmas and contracts that the proofs over this seat use (PolParsesLaw, Laid, Laid2); no statement of the seat is claimed in this text, and nothing is assumed in it.
-/
import Derived.Test.YtgklmpooonnmiaaGreatDoorK27
import Derived.Test.YtgklmpooonnmiaaGreatDoorK35
import Derived.Test.YtgklmpooonnmiaaGreatDoorK23
import Derived.Test.YtgklmpooonnmiaaGreatDoorRows
import Derived.Test.YtgklmpooonnmiaaGreatDoorK1
import Derived.ProofKit
import Derived.LaidMore
import Derived.OpenShut
import Derived.Carry
import Derived.MakeChecks
import Derived.LaidHandle
set_option linter.unusedVariables false
set_option linter.unusedSimpArgs false
namespace Go.Proofs.YtgklmpooonnmiaaGreatDoor
open Go.RowKit
mutual
theorem Ex.same_self (pl:Bool):∀ x:Ex,Ex.same pl x x=true
 | .mk op s n L p=>by rw [Ex.same,Ex.sames_self pl L];simp
theorem Ex.sames_self (pl:Bool):∀ L:List Ex,Ex.sames pl L L=true
 | []=>by rw [Ex.sames]
 | x :: r=>by rw [Ex.sames,Ex.same_self pl x,Ex.sames_self pl r];rfl
end
theorem Ru.sames_self (pl:Bool):∀ L:List Ru,Ru.sames pl L L=true
 | []=>by rw [Ru.sames]
 | x :: r=>by rw [Ru.sames,Ru.sames_self pl r];unfold Ru.same;rw [Ex.sames_self];simp
set_option maxHeartbeats 4000000 in
set_option maxRecDepth 100000 in
theorem parses_law (w:World) (s:ByteArray) (hs:s.size ≤ maxLen) (hL:Least w) (hE:ErrT w) (hlt:0 < w.heap.size) :
  Calls Tryz.prog 3 #[.string s] w fun e w'=>e=.returned (.bool true) ∧ Fr [] w w':=by
 have HL:=Lib.hid hL
 have HE:=Lib.hid hE
 have HLT:=Lib.hid hlt
 have HAL:=Lib.hid (pol_alive w hL)
 clear hL hE hlt
 by_cases h3000:s.size > 3000
 ·have a2:(s.size:Int) > 3000:=by omega
  go_enter Tryz.func3,Tryz.ntmps3
  go_wp2_with fail
  refine HAL.out.mono ?_
  rintro e w1 ⟨rfl,hF⟩
  have HF:=Lib.hid hF
  clear hF
  go_wp2_with fail
  go_ret
  exact ⟨rfl,HF.out⟩
 have a2:¬ (s.size:Int) > 3000:=by omega
 go_enter Tryz.func3,Tryz.ntmps3
 go_wp2_with fail
 refine HAL.out.mono ?_
 rintro e w1 ⟨rfl,hF⟩
 have HF:=Lib.hid hF
 clear hF
 go_wp2_with fail
 refine (pol_parse w1 s hs (HL.out.fr HF.out (by simp))).mono ?_
 rintro e w2 ⟨v,ev,rfl,hr,hev,hf⟩
 have HF2:=Lib.hid (HF.out.trans0 hf)
 have HEV:=Lib.hid hev
 obtain ⟨q1,c1,f1,rfl,hA⟩:=hr.ra
 have HA:=Lib.hid hA
 clear hr hev hf hA
 go_wp2_with fail
 refine (ref_parse w2 s hs).mono ?_
 rintro e w3 ⟨v,rfl,hr,hf⟩
 obtain ⟨q2,c2,f2,rfl,hB⟩:=hr.ra
 have HF3:=Lib.hid (HF2.out.trans0 hf)
 have HA1:=Lib.hid (HA.out.fr hf)
 have HEV3:=Lib.hid (HEV.out.fr hf)
 have HB:=Lib.hid hB
 clear hr hf hB HA HEV
 obtain ⟨⟨E,L⟩,hR⟩:∃ R,Pol.parse s=R:=⟨_,rfl⟩
 simp only [hR] at HA1 HB HEV3 ⊢
 clear hR
 have n0:(E.num == E.num)=true:=beq_iff_eq.2 rfl
 have p0:(E.pos == E.pos)=true:=beq_iff_eq.2 rfl
 go_wp2_with fail
 refine (law_num w3 _ E ev HEV3.out (HE.out.fr HLT.out HF3.out (by simp)) (Nat.lt_of_lt_of_le HLT.out HF3.out.size)).mono ?_
 rintro e w4 ⟨rfl,hf⟩
 have HF4:=Lib.hid (HF3.out.trans0 hf)
 have HEV4:=Lib.hid (HEV3.out.fr hf)
 have HA2:=Lib.hid (HA1.out.fr hf)
 have HB2:=Lib.hid (HB.out.fr hf)
 clear hf HA1 HB
 go_wp2_with fail
 refine (law_pos w4 _ E ev HEV4.out (HE.out.fr HLT.out HF4.out (by simp)) (Nat.lt_of_lt_of_le HLT.out HF4.out.size)).mono ?_
 rintro e w5 ⟨rfl,hf⟩
 have HF5:=Lib.hid (HF4.out.trans0 hf)
 have HA3:=Lib.hid (HA2.out.fr hf)
 have HB3:=Lib.hid (HB2.out.fr hf)
 clear hf HA2 HB2
 have HSM:=Lib.hid (ref_Same_true w5 q1 q2 c1 c2 f1 f2 L L HA3.out HB3.out)
 rw [Ru.sames_self] at HSM
 go_wp2_with fail
 refine HSM.out.mono ?_
 rintro e w6 ⟨rfl,hf⟩
 have HF6:=Lib.hid (HF5.out.trans0 hf)
 clear hf HSM
 go_wp2_with fail
 go_ret
 exact ⟨rfl,HF6.out⟩
end Go.Proofs.YtgklmpooonnmiaaGreatDoor

namespace Go.Proofs.YtgklmpooonnmiaaGreatDoor
open Go.ChangeShapes Go.WideShapes Go.ChangeAt Go.RowKit
theorem own:ownKnob Tryz.prog.godebug=none:=by kernel_rfl
theorem gLeast:Tryz.prog.globalNamed "warrant/utf.least" = some 1:=by kernel_rfl
theorem tLeast:(Tryz.prog.globals[1]?).map (·.type)=some 155:=by kernel_rfl
theorem laidOut:laidOutB Tryz.prog=true:=by kernel_rfl
theorem row_of_var {P:Program} {W:World} {n:String} {g:Nat} {cs:Array Value} (hg:P.globalNamed n=some g) (h:W.var? P n=some cs):∃ t fr,W.heap[g]?=some (.cells cs t fr):=by
 unfold World.var? at h
 rw [hg] at h
 simp only [Option.bind_some] at h
 split at h
 ·rename_i cs' t fr hh
  cases h
  exact ⟨t,fr,hh⟩
 ·cases h
set_option maxRecDepth 100000 in
theorem least_of_laid {W:World} (h:laidMet Tryz.prog [("warrant/utf.least", Rows.laid_warrant_utf_least)] W):Least W:=by
 obtain ⟨ps,⟨g0,t0,cs0,f0,p0,q0,hg0,ht0,hv0,hd0,_,_⟩,_⟩:=h
 obtain rfl:=Option.some.inj (gLeast.symm.trans hg0)
 obtain rfl:=Option.some.inj (tLeast.symm.trans ht0)
 obtain ⟨xs,m1,rfl,hx1,hlen,hn3,hel⟩:=DataW.trod_array Tryz.underlying155 hd0
 have c3:Tryz.prog.cellsOf 3=1:=by kernel_rfl
 have c24:Tryz.prog.cellsOf 155=5:=by kernel_rfl
 have h0:=hel 0 (by decide)
 have h1:=hel 1 (by decide)
 have h2:=hel 2 (by decide)
 have h3:=hel 3 (by decide)
 have h4:=hel 4 (by decide)
 simp only [Rows.laid_warrant_utf_least,Prod.mk.injEq,DataW.agg.injEq] at hx1
 rw [c24] at hlen
 rw [c3] at h0 h1 h2 h3 h4
 obtain ⟨l1⟩:=cs0
 match xs,hn3,hx1,h0,h1,h2,h3,h4 with
 | [x0,x1,x2,x3,x4],_,hx1,h0,h1,h2,h3,h4 =>
  match l1,hlen with
  | [v0,v1,v2,v3,v4],_ =>
   simp only [List.map_cons,List.map_nil,List.cons.injEq] at hx1
   obtain ⟨k0,a0,b0,_⟩:=DataW.trod_int Tryz.underlying3 (show DataW.trod _ Tryz.prog W 0 _ false m1 3 _=some x0 from h0)
   obtain ⟨k1,a1,b1,_⟩:=DataW.trod_int Tryz.underlying3 (show DataW.trod _ Tryz.prog W 0 _ false m1 3 _=some x1 from h1)
   obtain ⟨k2,a2,b2,_⟩:=DataW.trod_int Tryz.underlying3 (show DataW.trod _ Tryz.prog W 0 _ false m1 3 _=some x2 from h2)
   obtain ⟨k3,a3,b3,_⟩:=DataW.trod_int Tryz.underlying3 (show DataW.trod _ Tryz.prog W 0 _ false m1 3 _=some x3 from h3)
   obtain ⟨k4,a4,b4,_⟩:=DataW.trod_int Tryz.underlying3 (show DataW.trod _ Tryz.prog W 0 _ false m1 3 _=some x4 from h4)
   subst b0 b1 b2 b3 b4
   simp at a0 a1 a2 a3 a4 hx1
   obtain ⟨⟨e0,e1,e2,e3,e4⟩,_⟩:=hx1
   subst a0 a1 a2 a3 a4 e0 e1 e2 e3 e4
   exact row_of_var gLeast hv0
theorem trodAll_kept {H:Type} {enc:TypeId × Value → H} {P:Program} (hl:laidOutB P=true) {W W':World} (hb:Below W.heap.size W W') (ts:List TypeId) :
  ∀ {vs : List Value} {ds : List (DataW H)} {ps : List MemPlace}, (ts.all fun t => P.readableRec t && decide (t < P.types.size)) = true → DataW.TrodAll enc P W 0 (fun _ => true) true ts vs ds ps →
    (∀ x ∈ ps,x.block < W.heap.size) → DataW.TrodAll enc P W' 0 (fun b=>decide (b < W.heap.size)) true ts vs ds ps:=by
 induction ts with
 | nil =>
  intro vs ds ps _ h _
  obtain ⟨rfl,rfl,rfl⟩:=trodAll_nil h
  exact trodAll_mk0
 | cons t ts ih =>
  intro vs ds ps ht h hlt
  obtain ⟨v,vs',d,ds',p,q,rfl,rfl,rfl,hd,hrest⟩:=trodAll_cons h
  rw [List.all_cons,Bool.and_eq_true,Bool.and_eq_true] at ht
  exact trodAll_cons_mk (Below.trod hl ht.1.1 (of_decide_eq_true ht.1.2) hd hb (fun x hx=>hlt x (by simp [hx]))) (ih ht.2 hrest (fun x hx=>hlt x (by simp [hx])))
end Go.Proofs.YtgklmpooonnmiaaGreatDoor

namespace Go.Proofs.YtgklmpooonnmiaaGreatDoor
open Go.ChangeShapes Go.WideShapes Go.ChangeAt Go.RowKit
theorem gErrT:Tryz.prog.globalNamed "errors.errorType" = some 0:=by kernel_rfl
theorem rtRow:(Tryz.prog.cutTypes.find? (·.1 == "internal/reflectlite.rtype")).map (·.2)=some 137:=by kernel_rfl
theorem oneRow:((List.range 189).filter fun t=>Tryz.prog.rowNamed t [101,114,114,111,114])=[25]:=by kernel_rfl
theorem typesSize:Tryz.prog.types.size=189:=by kernel_rfl
set_option maxRecDepth 100000 in
theorem errT_of_laid {W:World} (h:handlesMet Tryz.prog [("errors.errorType", Rows.laid_errors_errorType)] W):ErrT W ∧ 0 < W.heap.size:=by
 obtain ⟨name,u,ty,e1,e2,e3,e4,e5⟩:=h _ (List.mem_singleton.2 rfl)
 have en:name=[101,114,114,111,114]:=(Option.some.inj e1).symm
 subst en
 obtain rfl:=Option.some.inj (rtRow.symm.trans e2)
 have hm:ty ∈ (List.range 189).filter fun t=>Tryz.prog.rowNamed t [101,114,114,111,114]:=List.mem_filter.2 ⟨List.mem_range.2 (by rw [← typesSize];exact e3),e4⟩
 rw [oneRow] at hm
 obtain rfl:=List.mem_singleton.1 hm
 have hh:typeHandle Tryz.prog 25=.pointer (some ⟨3,25,none⟩):=by kernel_rfl
 rw [hh] at e5
 have hc:ErrT W:=by
  have:=World.var?_cell gErrT e5 0
  unfold ErrT
  simpa using this
 exact ⟨hc,World.block_lt_of_cell? W _ hc⟩
theorem laid2_parts {W:World} (h:laidMetH Tryz.prog [("errors.errorType", Rows.laid_errors_errorType),("warrant/utf.least", Rows.laid_warrant_utf_least)] W) :
  Least W ∧ ErrT W ∧ 0 < W.heap.size:=by
 have h':laidMet Tryz.prog [("warrant/utf.least", Rows.laid_warrant_utf_least)] W ∧ handlesMet Tryz.prog [("errors.errorType", Rows.laid_errors_errorType)] W:=h
 exact ⟨least_of_laid h'.1,errT_of_laid h'.2⟩
end Go.Proofs.YtgklmpooonnmiaaGreatDoor
