/- Joined parts of the proof. The walk of column's chunk -/
import Derived.Test.YtocckceefcmeaaaGreatDoorPk16
import Derived.Test.YtocckceefcmeaaaGreatDoorPk10
import Derived.Test.YtocckceefcmeaaaGreatDoorProg
import Derived.Test.YtocckceefcmeaaaGreatDoorPk9
set_option linter.unusedVariables false
set_option linter.unusedSimpArgs false
set_option maxRecDepth 100000
set_option maxHeartbeats 16000000
namespace Go.Proofs.YtocckceefcmeaaaGreatDoor.Cl
open Go Go.RowKit Go.Proofs Go.Proofs.YtocckceefcmeaaaGreatDoor.Vc Go.Proofs.YtocckceefcmeaaaGreatDoor.Ax
attribute [local irreducible] loadVar storeVar Instr.indexAt Instr.index Instr.sliceAt Instr.makeSlice Instr.lookup Instr.mapUpdate Instr.range Instr.next Instr.entry Instr.makeMap Builtin.append_ Builtin.copy_ Builtin.len_ Builtin.min_ Builtin.max_ Builtin.cap_ Builtin.delete_ Builtin.clear_ convert binOp eqGuard Op.unary Calls
section
attribute [local irreducible] best ints en bd ji dsT
def uK (l:List Ev):By:=ji (l.map (·.client))++ints (l.map (·.seq))++ints (l.map (·.kind))++ints (l.map (·.time))++ji (l.map (·.id))++ji (l.map (·.name))++ji (l.map (·.other))++ints (l.map (·.ver))++ints (l.map (·.arm))++ints (l.map (·.val))
def wG (l:List Ev):By:=num (kK l).1++num (kK l).2++num ((uK l).length:Int)++uK l
def Bv (l:List Ev)(i:Nat):By:=
 match i with
 | 0=> []
 | 1=>ji (l.map (·.client))++ints (l.map (·.seq))++ints (l.map (·.kind))++ints (l.map (·.time))
 | 2=>ji (l.map (·.client))++ints (l.map (·.seq))++ints (l.map (·.kind))++ints (l.map (·.time))++ji (l.map (·.id))
 | 3=>ji (l.map (·.client))++ints (l.map (·.seq))++ints (l.map (·.kind))++ints (l.map (·.time))++ji (l.map (·.id))++ji (l.map (·.name))
 | _=>uK l
def pfN (b x y z:By)(j:Nat):By:=
 match j with
 | 0=>b
 | 1=>b++x
 | 2=>b++x++y
 | _=>b++x++y++z
abbrev bZ:List (List FV):= [[fV 143, .lst 1 [[fV 144],[fV 145],[fV 146]]],
  [fV 147, .v (.slice none 0 0)],[fV 148, .v (.slice none 0 0)],[fV 149, .lst 1 [[fV 150],[fV 151],[fV 152]]]]
structure OW (l:List Ev):Prop where
 ne:l≠ []
 len:l.length≤16
 ok : ∀e∈l,e.ok
 s1 : ∀e∈l,e.client.length≤200
 s2 : ∀e∈l,e.id.length≤200
 s3 : ∀e∈l,e.name.length≤200
 s4 : ∀e∈l,e.other.length≤200
 tm : ∀e∈l, -4611686018427387904≤e.time∧e.time≤4611686018427387904
theorem jd {l:List Ev}{f:Ev→By}(h : ∀e∈l,(f e).length≤200):yD (l.map f):=fun s hs=>by
 obtain⟨e,he,rfl⟩:=List.mem_map.1 hs
 exact h e he
theorem all_map {l:List Ev}{f:Ev→Int}(h : ∀e∈l,I64 (f e)):cO (l.map f):=fun s hs=>by
 obtain⟨e,he,rfl⟩:=List.mem_map.1 hs
 exact h e he
theorem oI {l:List Ev}(h:OW l)(i:Nat):(Bv l i).length≤70000:=by
 have hl:=h.len
 have t1:=mJ (l.map (·.client)) (jd h.s1) (by rw [List.length_map];omega)
 have t2:=mJ (l.map (·.id)) (jd h.s2) (by rw [List.length_map];omega)
 have t3:=mJ (l.map (·.name)) (jd h.s3) (by rw [List.length_map];omega)
 have t4:=mJ (l.map (·.other)) (jd h.s4) (by rw [List.length_map];omega)
 have i1:=bY (l.map (·.seq)) (by rw [List.length_map];omega)
 have i2:=bY (l.map (·.kind)) (by rw [List.length_map];omega)
 have i3:=bY (l.map (·.time)) (by rw [List.length_map];omega)
 have i4:=bY (l.map (·.ver)) (by rw [List.length_map];omega)
 have i5:=bY (l.map (·.arm)) (by rw [List.length_map];omega)
 have i6:=bY (l.map (·.val)) (by rw [List.length_map];omega)
 simp only [List.length_map]at t1 t2 t3 t4
 match i with
 | 0=>simp [Bv]
 | 1=>simp only [Bv,List.length_append];omega
 | 2=>simp only [Bv,List.length_append];omega
 | 3=>simp only [Bv,List.length_append];omega
 | n+4=>simp only [Bv,uK,List.length_append];omega
theorem Hz {l:List Ev}(h:OW l):I64 (kK l).1∧I64 (kK l).2:=by
 cases l with
 | nil=>exact absurd rfl h.ne
 | cons e r=>
  have:=XL (a:=e.time) (h.tm e List.mem_cons_self) h.tm
  unfold kK I64
  simp only
  omega
theorem Oz (l:List Ev)(h:OW l):bD Tryz.prog GS 123 [el l] 0 [] (Is (.bH [iv (kK l).1,iv (kK l).2])):=by
 cases l with
 | nil=>exact absurd rfl h.ne
 | cons e r=>exact Tm e r (by have:=h.len;omega)
theorem XM (l:List Ev)(h:OW l):bD Tryz.prog GS 87 [el l] 0 [] (Is (bs (wG l))):=by
 have hlen:=h.len
 refine au Tryz.func87 rfl mixed (by kernel_rfl) ?_
 conv=>whnf
 (refine aj [] (by kernel_rfl) (MC l h.ne (by omega)) ?_ ?_;(focus trivial))
 rintro _ _ _ ⟨rfl,rfl,rfl⟩
 conv=>whnf
 (refine aj [] (by kernel_rfl) (Hy) ?_ ?_;(focus trivial))
 rintro _ _ _ ⟨rfl,rfl,rfl⟩
 conv=>whnf
 refine bg ZR 3 [3,18] (fun i:Nat=> [(3, .own 2),(18,iv i)]) (fun i=> [(2, .rows 5 1 ((Bv l i).map dW)),(1, .rows 160 2 bZ),(0, .rows 95 10 (l.map jg))]) (fun i=>i≤4) (fun i=>4-i) [(2, .nil)] [] 0 (by kernel_rfl) (fun _=>rfl) rfl (Nat.zero_le _) ⟨rfl,⟨rfl,rfl,rfl⟩,⟨rfl,rfl,rfl⟩,trivial⟩ ⟨trivial,rfl,trivial⟩ ?_
 intro i hi
 have hcs:i=0∨i=1∨i=2∨i=3∨i=4:=by omega
 rcases hcs with rfl | rfl | rfl | rfl | rfl
 ·conv=>whnf
  refine bC.mk' 0 rfl (by decide) ?_
  conv=>whnf
  refine aS.at rfl ?_
  conv=>whnf
  refine bg Ec 5 [6,24] (fun k:Nat=> [(6, .own 4),(24,iv k)]) (fun k=> [(4, .rows 9 1 (((l.take k).map (·.client)).map xK)),(3, .var 160 ((bZ.getD 0 []).map FV.up)),(2, .rows 5 1 ((Bv l 0).map dW)),(1, .rows 160 2 bZ),(0, .rows 95 10 (l.map jg))]) (fun k=>k≤l.length) (fun k=>l.length-k) [(4, .nil)] [] 0 (by kernel_rfl) (fun _=>rfl) rfl (Nat.zero_le _) ⟨rfl,(by trivial),⟨rfl,rfl,rfl⟩,⟨rfl,rfl,rfl⟩,⟨rfl,rfl,rfl⟩,trivial⟩ ⟨trivial,rfl,trivial⟩ ?_
  intro k hk
  conv=>whnf
  refine ah (fun hb=> ?_) (fun hb=> ?_)
  ·have hlt:k<l.length:=by simp at hb;omega
   conv=>whnf
   (refine aP Lc [4,5,6] (by kernel_rfl) ?_;conv=>whnf)
   refine bC.mk' k rfl (fQ hlt) ?_
   conv=>whnf
   (refine eX (by kernel_rfl) (au Tryz.func143 rfl mixed (by kernel_rfl) ?_);(conv=>whnf))
   refine jw (.ep 0 k 0) ?_ rfl ?_ ?_
   rotate_left 1
   ·trivial
   ·trivial
   conv=>whnf
   refine aS.aA (List.getElem?_eq_getElem hlt) ?_
   conv=>whnf
   refine ay.mk (aG (by simp only [List.length_map,List.length_append,List.length_cons,List.length_nil,List.length_take];omega) (by kernel_rfl)) ?_
   conv=>whnf
   refine aI.i64 (by omega) ?_
   conv=>whnf
   refine aF (k+1) [(4, .lab 6)] [] rfl (by show l.length -(k+1)<l.length-k;omega) hlt ⟨⟨rfl,rfl, ?_⟩,(by trivial),⟨rfl,rfl,rfl⟩,⟨rfl,rfl,rfl⟩,⟨rfl,rfl,rfl⟩,trivial⟩ ⟨rfl,rfl,trivial⟩
   rw [List.take_succ_eq_append_getElem hlt,List.map_append]
   exact(nP _ _).symm
  have hke:k=l.length:=by simp at hb;omega
  subst hke
  rw [List.take_length]
  conv=>whnf
  have hml:(l.map (·.client)).length≤512:=by rw [List.length_map];omega
  (refine aj [4] (by kernel_rfl) (bD.up (Aw (l.map (·.client)) hml (jd h.s1)) GS) ?_ ?_;(focus trivial))
  rintro _ _ _ ⟨rfl,rfl,rfl⟩
  conv=>whnf
  have hx0:(ji (l.map (·.client))).length≤8500:=by have:=mJ (l.map (·.client)) (jd h.s1) hml;rw [List.length_map]at this;omega
  have hbd:=oI h 0
  refine ay.mk (aG (by simp only [List.length_map];omega) (by kernel_rfl)) ?_
  conv=>whnf
  refine bg Ed 7 [3,46] (fun j:Nat=> [(3, .own 6),(46,iv j)]) (fun j=> [(6, .rows 5 1 ((pfN (Bv l 0++ji (l.map (·.client))) (ints (l.map (·.seq))) (ints (l.map (·.kind))) (ints (l.map (·.time))) j).map dW)),(3, .var 160 ((bZ.getD 0 []).map FV.up)),(1, .rows 160 2 bZ),(0, .rows 95 10 (l.map jg))]) (fun j=>j≤3) (fun j=>3-j) [(6, .lab 5)] [] 0 (by kernel_rfl) (fun _=>rfl) rfl (Nat.zero_le _) ⟨⟨rfl,rfl,List.map_append.symm⟩,(by trivial),⟨rfl,rfl,rfl⟩,⟨rfl,rfl,rfl⟩,trivial⟩ ⟨rfl,rfl,trivial⟩ ?_
  have hy1:=bY (l.map (·.seq)) (by rw [List.length_map];omega)
  have hy2:=bY (l.map (·.kind)) (by rw [List.length_map];omega)
  intro j hj
  have hcj:j=0∨j=1∨j=2∨j=3:=by omega
  rcases hcj with rfl | rfl | rfl | rfl
  ·conv=>whnf
   refine bC.mk' 0 rfl (by decide) ?_
   conv=>whnf
   refine aS.at rfl ?_
   conv=>whnf
   refine bg vV 8 [10,52] (fun k:Nat=> [(10, .own 7),(52,iv k)]) (fun k=> [(7, .rows 3 1 (((l.take k).map (·.seq)).map oM)),(6, .rows 5 1 ((Bv l 0++ji (l.map (·.client))).map dW)),(3, .var 160 ((bZ.getD 0 []).map FV.up)),(1, .rows 160 2 bZ),(0, .rows 95 10 (l.map jg))]) (fun k=>k≤l.length) (fun k=>l.length-k) [(7, .nil)] [] 0 (by kernel_rfl) (fun _=>rfl) rfl (Nat.zero_le _) ⟨rfl,⟨rfl,rfl,rfl⟩,(by trivial),⟨rfl,rfl,rfl⟩,⟨rfl,rfl,rfl⟩,trivial⟩ ⟨trivial,rfl,trivial⟩ ?_
   intro k hk
   conv=>whnf
   refine ah (fun hb=> ?_) (fun hb=> ?_)
   ·have hlt:k<l.length:=by simp at hb;omega
    conv=>whnf
    refine bC.mk' k rfl (fQ hlt) ?_
    conv=>whnf
    (refine eX (by kernel_rfl) (au Tryz.func144 rfl mixed (by kernel_rfl) ?_);(conv=>whnf))
    refine jw (.ep 0 k 1) ?_ rfl ?_ ?_
    rotate_left 1
    ·exact⟨⟨rfl,rfl,rfl⟩,⟨rfl,rfl,rfl⟩,(by trivial),⟨rfl,rfl,rfl⟩,⟨rfl,rfl,rfl⟩,trivial⟩
    ·trivial
    conv=>whnf
    refine aS.aA (List.getElem?_eq_getElem hlt) ?_
    conv=>whnf
    refine ay.mk (aG (by simp only [List.length_map,List.length_append,List.length_cons,List.length_nil,List.length_take];omega) (by kernel_rfl)) ?_
    conv=>whnf
    refine aI.i64 (by omega) ?_
    conv=>whnf
    refine aF (k+1) [(7, .lab 9)] [] rfl (by show l.length -(k+1)<l.length-k;omega) hlt ⟨⟨rfl,rfl, ?_⟩,⟨rfl,rfl,rfl⟩,(by trivial),⟨rfl,rfl,rfl⟩,⟨rfl,rfl,rfl⟩,trivial⟩ ⟨rfl,rfl,trivial⟩
    rw [List.take_succ_eq_append_getElem hlt,List.map_append,List.map_append]
    rfl
   have hke:k=l.length:=by simp at hb;omega
   subst hke
   rw [List.take_length]
   conv=>whnf
   have hml:(l.map (·.seq)).length≤512:=by rw [List.length_map];omega
   (refine aj [7] (by kernel_rfl) (bD.up (lS (l.map (·.seq)) (all_map fun e he=>(h.ok e he).seq) hml) GS) ?_ ?_;(focus trivial))
   rintro _ _ _ ⟨rfl,rfl,rfl⟩
   conv=>whnf
   have hx:=bY (l.map (·.seq)) hml
   refine ay.mk (aG (by simp only [List.length_map,List.length_append];omega) (by kernel_rfl)) ?_
   conv=>whnf
   refine aI.i64 (by decide) ?_
   conv=>whnf
   exact aF (0+1) [(6, .lab 8)] [] rfl (by decide) (by decide) ⟨⟨rfl,rfl,List.map_append.symm⟩,(by trivial),⟨rfl,rfl,rfl⟩,⟨rfl,rfl,rfl⟩,trivial⟩ ⟨rfl,rfl,trivial⟩
  ·conv=>whnf
   refine bC.mk' 1 rfl (by decide) ?_
   conv=>whnf
   refine aS.at rfl ?_
   conv=>whnf
   refine bg vV 8 [10,52] (fun k:Nat=> [(10, .own 7),(52,iv k)]) (fun k=> [(7, .rows 3 1 (((l.take k).map (·.kind)).map oM)),(6, .rows 5 1 ((Bv l 0++ji (l.map (·.client))++ints (l.map (·.seq))).map dW)),(3, .var 160 ((bZ.getD 0 []).map FV.up)),(1, .rows 160 2 bZ),(0, .rows 95 10 (l.map jg))]) (fun k=>k≤l.length) (fun k=>l.length-k) [(7, .nil)] [] 0 (by kernel_rfl) (fun _=>rfl) rfl (Nat.zero_le _) ⟨rfl,⟨rfl,rfl,rfl⟩,(by trivial),⟨rfl,rfl,rfl⟩,⟨rfl,rfl,rfl⟩,trivial⟩ ⟨trivial,rfl,trivial⟩ ?_
   intro k hk
   conv=>whnf
   refine ah (fun hb=> ?_) (fun hb=> ?_)
   ·have hlt:k<l.length:=by simp at hb;omega
    conv=>whnf
    refine bC.mk' k rfl (fQ hlt) ?_
    conv=>whnf
    (refine eX (by kernel_rfl) (au Tryz.func145 rfl mixed (by kernel_rfl) ?_);(conv=>whnf))
    refine jw (.ep 0 k 2) ?_ rfl ?_ ?_
    rotate_left 1
    ·exact⟨⟨rfl,rfl,rfl⟩,⟨rfl,rfl,rfl⟩,(by trivial),⟨rfl,rfl,rfl⟩,⟨rfl,rfl,rfl⟩,trivial⟩
    ·trivial
    conv=>whnf
    refine aS.aA (List.getElem?_eq_getElem hlt) ?_
    conv=>whnf
    refine ay.mk (aG (by simp only [List.length_map,List.length_append,List.length_cons,List.length_nil,List.length_take];omega) (by kernel_rfl)) ?_
    conv=>whnf
    refine aI.i64 (by omega) ?_
    conv=>whnf
    refine aF (k+1) [(7, .lab 9)] [] rfl (by show l.length -(k+1)<l.length-k;omega) hlt ⟨⟨rfl,rfl, ?_⟩,⟨rfl,rfl,rfl⟩,(by trivial),⟨rfl,rfl,rfl⟩,⟨rfl,rfl,rfl⟩,trivial⟩ ⟨rfl,rfl,trivial⟩
    rw [List.take_succ_eq_append_getElem hlt,List.map_append,List.map_append]
    rfl
   have hke:k=l.length:=by simp at hb;omega
   subst hke
   rw [List.take_length]
   conv=>whnf
   have hml:(l.map (·.kind)).length≤512:=by rw [List.length_map];omega
   (refine aj [7] (by kernel_rfl) (bD.up (lS (l.map (·.kind)) (all_map fun e he=>(h.ok e he).kind) hml) GS) ?_ ?_;(focus trivial))
   rintro _ _ _ ⟨rfl,rfl,rfl⟩
   conv=>whnf
   have hx:=bY (l.map (·.kind)) hml
   refine ay.mk (aG (by simp only [List.length_map,List.length_append];omega) (by kernel_rfl)) ?_
   conv=>whnf
   refine aI.i64 (by decide) ?_
   conv=>whnf
   exact aF (1+1) [(6, .lab 8)] [] rfl (by decide) (by decide) ⟨⟨rfl,rfl,List.map_append.symm⟩,(by trivial),⟨rfl,rfl,rfl⟩,⟨rfl,rfl,rfl⟩,trivial⟩ ⟨rfl,rfl,trivial⟩
  ·conv=>whnf
   refine bC.mk' 2 rfl (by decide) ?_
   conv=>whnf
   refine aS.at rfl ?_
   conv=>whnf
   refine bg vV 8 [10,52] (fun k:Nat=> [(10, .own 7),(52,iv k)]) (fun k=> [(7, .rows 3 1 (((l.take k).map (·.time)).map oM)),(6, .rows 5 1 ((Bv l 0++ji (l.map (·.client))++ints (l.map (·.seq))++ints (l.map (·.kind))).map dW)),(3, .var 160 ((bZ.getD 0 []).map FV.up)),(1, .rows 160 2 bZ),(0, .rows 95 10 (l.map jg))]) (fun k=>k≤l.length) (fun k=>l.length-k) [(7, .nil)] [] 0 (by kernel_rfl) (fun _=>rfl) rfl (Nat.zero_le _) ⟨rfl,⟨rfl,rfl,rfl⟩,(by trivial),⟨rfl,rfl,rfl⟩,⟨rfl,rfl,rfl⟩,trivial⟩ ⟨trivial,rfl,trivial⟩ ?_
   intro k hk
   conv=>whnf
   refine ah (fun hb=> ?_) (fun hb=> ?_)
   ·have hlt:k<l.length:=by simp at hb;omega
    conv=>whnf
    refine bC.mk' k rfl (fQ hlt) ?_
    conv=>whnf
    (refine eX (by kernel_rfl) (au Tryz.func146 rfl mixed (by kernel_rfl) ?_);(conv=>whnf))
    refine jw (.ep 0 k 3) ?_ rfl ?_ ?_
    rotate_left 1
    ·exact⟨⟨rfl,rfl,rfl⟩,⟨rfl,rfl,rfl⟩,(by trivial),⟨rfl,rfl,rfl⟩,⟨rfl,rfl,rfl⟩,trivial⟩
    ·trivial
    conv=>whnf
    refine aS.aA (List.getElem?_eq_getElem hlt) ?_
    conv=>whnf
    refine ay.mk (aG (by simp only [List.length_map,List.length_append,List.length_cons,List.length_nil,List.length_take];omega) (by kernel_rfl)) ?_
    conv=>whnf
    refine aI.i64 (by omega) ?_
    conv=>whnf
    refine aF (k+1) [(7, .lab 9)] [] rfl (by show l.length -(k+1)<l.length-k;omega) hlt ⟨⟨rfl,rfl, ?_⟩,⟨rfl,rfl,rfl⟩,(by trivial),⟨rfl,rfl,rfl⟩,⟨rfl,rfl,rfl⟩,trivial⟩ ⟨rfl,rfl,trivial⟩
    rw [List.take_succ_eq_append_getElem hlt,List.map_append,List.map_append]
    rfl
   have hke:k=l.length:=by simp at hb;omega
   subst hke
   rw [List.take_length]
   conv=>whnf
   have hml:(l.map (·.time)).length≤512:=by rw [List.length_map];omega
   (refine aj [7] (by kernel_rfl) (bD.up (lS (l.map (·.time)) (all_map fun e he=>(h.ok e he).time) hml) GS) ?_ ?_;(focus trivial))
   rintro _ _ _ ⟨rfl,rfl,rfl⟩
   conv=>whnf
   have hx:=bY (l.map (·.time)) hml
   refine ay.mk (aG (by simp only [List.length_map,List.length_append];omega) (by kernel_rfl)) ?_
   conv=>whnf
   refine aI.i64 (by decide) ?_
   conv=>whnf
   exact aF (2+1) [(6, .lab 8)] [] rfl (by decide) (by decide) ⟨⟨rfl,rfl,List.map_append.symm⟩,(by trivial),⟨rfl,rfl,rfl⟩,⟨rfl,rfl,rfl⟩,trivial⟩ ⟨rfl,rfl,trivial⟩
  ·conv=>whnf
   refine aI.i64 (by decide) ?_
   conv=>whnf
   exact aF 1 [(2, .lab 6)] [] rfl (by decide) (by decide) ⟨⟨rfl,rfl,rfl⟩,⟨rfl,rfl,rfl⟩,⟨rfl,rfl,rfl⟩,trivial⟩ ⟨rfl,rfl,trivial⟩
 ·conv=>whnf
  refine bC.mk' 1 rfl (by decide) ?_
  conv=>whnf
  refine aS.at rfl ?_
  conv=>whnf
  refine bg Ec 5 [6,24] (fun k:Nat=> [(6, .own 4),(24,iv k)]) (fun k=> [(4, .rows 9 1 (((l.take k).map (·.id)).map xK)),(3, .var 160 ((bZ.getD 1 []).map FV.up)),(2, .rows 5 1 ((Bv l 1).map dW)),(1, .rows 160 2 bZ),(0, .rows 95 10 (l.map jg))]) (fun k=>k≤l.length) (fun k=>l.length-k) [(4, .nil)] [] 0 (by kernel_rfl) (fun _=>rfl) rfl (Nat.zero_le _) ⟨rfl,(by trivial),⟨rfl,rfl,rfl⟩,⟨rfl,rfl,rfl⟩,⟨rfl,rfl,rfl⟩,trivial⟩ ⟨trivial,rfl,trivial⟩ ?_
  intro k hk
  conv=>whnf
  refine ah (fun hb=> ?_) (fun hb=> ?_)
  ·have hlt:k<l.length:=by simp at hb;omega
   conv=>whnf
   (refine aP Lc [4,5,6] (by kernel_rfl) ?_;conv=>whnf)
   refine bC.mk' k rfl (fQ hlt) ?_
   conv=>whnf
   (refine eX (by kernel_rfl) (au Tryz.func147 rfl mixed (by kernel_rfl) ?_);(conv=>whnf))
   refine jw (.ep 0 k 4) ?_ rfl ?_ ?_
   rotate_left 1
   ·trivial
   ·trivial
   conv=>whnf
   refine aS.aA (List.getElem?_eq_getElem hlt) ?_
   conv=>whnf
   refine ay.mk (aG (by simp only [List.length_map,List.length_append,List.length_cons,List.length_nil,List.length_take];omega) (by kernel_rfl)) ?_
   conv=>whnf
   refine aI.i64 (by omega) ?_
   conv=>whnf
   refine aF (k+1) [(4, .lab 6)] [] rfl (by show l.length -(k+1)<l.length-k;omega) hlt ⟨⟨rfl,rfl, ?_⟩,(by trivial),⟨rfl,rfl,rfl⟩,⟨rfl,rfl,rfl⟩,⟨rfl,rfl,rfl⟩,trivial⟩ ⟨rfl,rfl,trivial⟩
   rw [List.take_succ_eq_append_getElem hlt,List.map_append]
   exact(nP _ _).symm
  have hke:k=l.length:=by simp at hb;omega
  subst hke
  rw [List.take_length]
  conv=>whnf
  have hml:(l.map (·.id)).length≤512:=by rw [List.length_map];omega
  (refine aj [4] (by kernel_rfl) (bD.up (Aw (l.map (·.id)) hml (jd h.s2)) GS) ?_ ?_;(focus trivial))
  rintro _ _ _ ⟨rfl,rfl,rfl⟩
  conv=>whnf
  have hx1:(ji (l.map (·.id))).length≤8500:=by have:=mJ (l.map (·.id)) (jd h.s2) hml;rw [List.length_map]at this;omega
  have hbd:=oI h 1
  refine ay.mk (aG (by simp only [List.length_map];omega) (by kernel_rfl)) ?_
  conv=>whnf
  refine bg Ed 6 [3,46] (fun j:Nat=> [(3, .own 5),(46,iv 0)]) (fun j=> [(5, .rows 5 1 ((Bv l 1++ji (l.map (·.id))).map dW)),(1, .rows 160 2 bZ),(0, .rows 95 10 (l.map jg))]) (fun j=>j=0) (fun j=>j) [] [] 0 (by kernel_rfl) (fun _=>rfl) rfl rfl ⟨⟨rfl,rfl,List.map_append.symm⟩,⟨rfl,rfl,rfl⟩,⟨rfl,rfl,rfl⟩,trivial⟩ ⟨⟨rfl,rfl⟩,rfl,trivial⟩ ?_
  intro j hj
  conv=>whnf
  refine aI.i64 (by decide) ?_
  conv=>whnf
  exact aF (1+1) [(2, .lab 5)] [] rfl (by decide) (by decide) ⟨⟨rfl,rfl,rfl⟩,⟨rfl,rfl,rfl⟩,⟨rfl,rfl,rfl⟩,trivial⟩ ⟨rfl,rfl,trivial⟩
 ·conv=>whnf
  refine bC.mk' 2 rfl (by decide) ?_
  conv=>whnf
  refine aS.at rfl ?_
  conv=>whnf
  refine bg Ec 5 [6,24] (fun k:Nat=> [(6, .own 4),(24,iv k)]) (fun k=> [(4, .rows 9 1 (((l.take k).map (·.name)).map xK)),(3, .var 160 ((bZ.getD 2 []).map FV.up)),(2, .rows 5 1 ((Bv l 2).map dW)),(1, .rows 160 2 bZ),(0, .rows 95 10 (l.map jg))]) (fun k=>k≤l.length) (fun k=>l.length-k) [(4, .nil)] [] 0 (by kernel_rfl) (fun _=>rfl) rfl (Nat.zero_le _) ⟨rfl,(by trivial),⟨rfl,rfl,rfl⟩,⟨rfl,rfl,rfl⟩,⟨rfl,rfl,rfl⟩,trivial⟩ ⟨trivial,rfl,trivial⟩ ?_
  intro k hk
  conv=>whnf
  refine ah (fun hb=> ?_) (fun hb=> ?_)
  ·have hlt:k<l.length:=by simp at hb;omega
   conv=>whnf
   (refine aP Lc [4,5,6] (by kernel_rfl) ?_;conv=>whnf)
   refine bC.mk' k rfl (fQ hlt) ?_
   conv=>whnf
   (refine eX (by kernel_rfl) (au Tryz.func148 rfl mixed (by kernel_rfl) ?_);(conv=>whnf))
   refine jw (.ep 0 k 5) ?_ rfl ?_ ?_
   rotate_left 1
   ·trivial
   ·trivial
   conv=>whnf
   refine aS.aA (List.getElem?_eq_getElem hlt) ?_
   conv=>whnf
   refine ay.mk (aG (by simp only [List.length_map,List.length_append,List.length_cons,List.length_nil,List.length_take];omega) (by kernel_rfl)) ?_
   conv=>whnf
   refine aI.i64 (by omega) ?_
   conv=>whnf
   refine aF (k+1) [(4, .lab 6)] [] rfl (by show l.length -(k+1)<l.length-k;omega) hlt ⟨⟨rfl,rfl, ?_⟩,(by trivial),⟨rfl,rfl,rfl⟩,⟨rfl,rfl,rfl⟩,⟨rfl,rfl,rfl⟩,trivial⟩ ⟨rfl,rfl,trivial⟩
   rw [List.take_succ_eq_append_getElem hlt,List.map_append]
   exact(nP _ _).symm
  have hke:k=l.length:=by simp at hb;omega
  subst hke
  rw [List.take_length]
  conv=>whnf
  have hml:(l.map (·.name)).length≤512:=by rw [List.length_map];omega
  (refine aj [4] (by kernel_rfl) (bD.up (Aw (l.map (·.name)) hml (jd h.s3)) GS) ?_ ?_;(focus trivial))
  rintro _ _ _ ⟨rfl,rfl,rfl⟩
  conv=>whnf
  have hx2:(ji (l.map (·.name))).length≤8500:=by have:=mJ (l.map (·.name)) (jd h.s3) hml;rw [List.length_map]at this;omega
  have hbd:=oI h 2
  refine ay.mk (aG (by simp only [List.length_map];omega) (by kernel_rfl)) ?_
  conv=>whnf
  refine bg Ed 6 [3,46] (fun j:Nat=> [(3, .own 5),(46,iv 0)]) (fun j=> [(5, .rows 5 1 ((Bv l 2++ji (l.map (·.name))).map dW)),(1, .rows 160 2 bZ),(0, .rows 95 10 (l.map jg))]) (fun j=>j=0) (fun j=>j) [] [] 0 (by kernel_rfl) (fun _=>rfl) rfl rfl ⟨⟨rfl,rfl,List.map_append.symm⟩,⟨rfl,rfl,rfl⟩,⟨rfl,rfl,rfl⟩,trivial⟩ ⟨⟨rfl,rfl⟩,rfl,trivial⟩ ?_
  intro j hj
  conv=>whnf
  refine aI.i64 (by decide) ?_
  conv=>whnf
  exact aF (2+1) [(2, .lab 5)] [] rfl (by decide) (by decide) ⟨⟨rfl,rfl,rfl⟩,⟨rfl,rfl,rfl⟩,⟨rfl,rfl,rfl⟩,trivial⟩ ⟨rfl,rfl,trivial⟩
 ·conv=>whnf
  refine bC.mk' 3 rfl (by decide) ?_
  conv=>whnf
  refine aS.at rfl ?_
  conv=>whnf
  refine bg Ec 5 [6,24] (fun k:Nat=> [(6, .own 4),(24,iv k)]) (fun k=> [(4, .rows 9 1 (((l.take k).map (·.other)).map xK)),(3, .var 160 ((bZ.getD 3 []).map FV.up)),(2, .rows 5 1 ((Bv l 3).map dW)),(1, .rows 160 2 bZ),(0, .rows 95 10 (l.map jg))]) (fun k=>k≤l.length) (fun k=>l.length-k) [(4, .nil)] [] 0 (by kernel_rfl) (fun _=>rfl) rfl (Nat.zero_le _) ⟨rfl,(by trivial),⟨rfl,rfl,rfl⟩,⟨rfl,rfl,rfl⟩,⟨rfl,rfl,rfl⟩,trivial⟩ ⟨trivial,rfl,trivial⟩ ?_
  intro k hk
  conv=>whnf
  refine ah (fun hb=> ?_) (fun hb=> ?_)
  ·have hlt:k<l.length:=by simp at hb;omega
   conv=>whnf
   (refine aP Lc [4,5,6] (by kernel_rfl) ?_;conv=>whnf)
   refine bC.mk' k rfl (fQ hlt) ?_
   conv=>whnf
   (refine eX (by kernel_rfl) (au Tryz.func149 rfl mixed (by kernel_rfl) ?_);(conv=>whnf))
   refine jw (.ep 0 k 6) ?_ rfl ?_ ?_
   rotate_left 1
   ·trivial
   ·trivial
   conv=>whnf
   refine aS.aA (List.getElem?_eq_getElem hlt) ?_
   conv=>whnf
   refine ay.mk (aG (by simp only [List.length_map,List.length_append,List.length_cons,List.length_nil,List.length_take];omega) (by kernel_rfl)) ?_
   conv=>whnf
   refine aI.i64 (by omega) ?_
   conv=>whnf
   refine aF (k+1) [(4, .lab 6)] [] rfl (by show l.length -(k+1)<l.length-k;omega) hlt ⟨⟨rfl,rfl, ?_⟩,(by trivial),⟨rfl,rfl,rfl⟩,⟨rfl,rfl,rfl⟩,⟨rfl,rfl,rfl⟩,trivial⟩ ⟨rfl,rfl,trivial⟩
   rw [List.take_succ_eq_append_getElem hlt,List.map_append]
   exact(nP _ _).symm
  have hke:k=l.length:=by simp at hb;omega
  subst hke
  rw [List.take_length]
  conv=>whnf
  have hml:(l.map (·.other)).length≤512:=by rw [List.length_map];omega
  (refine aj [4] (by kernel_rfl) (bD.up (Aw (l.map (·.other)) hml (jd h.s4)) GS) ?_ ?_;(focus trivial))
  rintro _ _ _ ⟨rfl,rfl,rfl⟩
  conv=>whnf
  have hx3:(ji (l.map (·.other))).length≤8500:=by have:=mJ (l.map (·.other)) (jd h.s4) hml;rw [List.length_map]at this;omega
  have hbd:=oI h 3
  refine ay.mk (aG (by simp only [List.length_map];omega) (by kernel_rfl)) ?_
  conv=>whnf
  refine bg Ed 7 [3,46] (fun j:Nat=> [(3, .own 6),(46,iv j)]) (fun j=> [(6, .rows 5 1 ((pfN (Bv l 3++ji (l.map (·.other))) (ints (l.map (·.ver))) (ints (l.map (·.arm))) (ints (l.map (·.val))) j).map dW)),(3, .var 160 ((bZ.getD 3 []).map FV.up)),(1, .rows 160 2 bZ),(0, .rows 95 10 (l.map jg))]) (fun j=>j≤3) (fun j=>3-j) [(6, .lab 5)] [] 0 (by kernel_rfl) (fun _=>rfl) rfl (Nat.zero_le _) ⟨⟨rfl,rfl,List.map_append.symm⟩,(by trivial),⟨rfl,rfl,rfl⟩,⟨rfl,rfl,rfl⟩,trivial⟩ ⟨rfl,rfl,trivial⟩ ?_
  have hy1:=bY (l.map (·.ver)) (by rw [List.length_map];omega)
  have hy2:=bY (l.map (·.arm)) (by rw [List.length_map];omega)
  intro j hj
  have hcj:j=0∨j=1∨j=2∨j=3:=by omega
  rcases hcj with rfl | rfl | rfl | rfl
  ·conv=>whnf
   refine bC.mk' 0 rfl (by decide) ?_
   conv=>whnf
   refine aS.at rfl ?_
   conv=>whnf
   refine bg vV 8 [10,52] (fun k:Nat=> [(10, .own 7),(52,iv k)]) (fun k=> [(7, .rows 3 1 (((l.take k).map (·.ver)).map oM)),(6, .rows 5 1 ((Bv l 3++ji (l.map (·.other))).map dW)),(3, .var 160 ((bZ.getD 3 []).map FV.up)),(1, .rows 160 2 bZ),(0, .rows 95 10 (l.map jg))]) (fun k=>k≤l.length) (fun k=>l.length-k) [(7, .nil)] [] 0 (by kernel_rfl) (fun _=>rfl) rfl (Nat.zero_le _) ⟨rfl,⟨rfl,rfl,rfl⟩,(by trivial),⟨rfl,rfl,rfl⟩,⟨rfl,rfl,rfl⟩,trivial⟩ ⟨trivial,rfl,trivial⟩ ?_
   intro k hk
   conv=>whnf
   refine ah (fun hb=> ?_) (fun hb=> ?_)
   ·have hlt:k<l.length:=by simp at hb;omega
    conv=>whnf
    refine bC.mk' k rfl (fQ hlt) ?_
    conv=>whnf
    (refine eX (by kernel_rfl) (au Tryz.func150 rfl mixed (by kernel_rfl) ?_);(conv=>whnf))
    refine jw (.ep 0 k 7) ?_ rfl ?_ ?_
    rotate_left 1
    ·exact⟨⟨rfl,rfl,rfl⟩,⟨rfl,rfl,rfl⟩,(by trivial),⟨rfl,rfl,rfl⟩,⟨rfl,rfl,rfl⟩,trivial⟩
    ·trivial
    conv=>whnf
    refine aS.aA (List.getElem?_eq_getElem hlt) ?_
    conv=>whnf
    refine ay.mk (aG (by simp only [List.length_map,List.length_append,List.length_cons,List.length_nil,List.length_take];omega) (by kernel_rfl)) ?_
    conv=>whnf
    refine aI.i64 (by omega) ?_
    conv=>whnf
    refine aF (k+1) [(7, .lab 9)] [] rfl (by show l.length -(k+1)<l.length-k;omega) hlt ⟨⟨rfl,rfl, ?_⟩,⟨rfl,rfl,rfl⟩,(by trivial),⟨rfl,rfl,rfl⟩,⟨rfl,rfl,rfl⟩,trivial⟩ ⟨rfl,rfl,trivial⟩
    rw [List.take_succ_eq_append_getElem hlt,List.map_append,List.map_append]
    rfl
   have hke:k=l.length:=by simp at hb;omega
   subst hke
   rw [List.take_length]
   conv=>whnf
   have hml:(l.map (·.ver)).length≤512:=by rw [List.length_map];omega
   (refine aj [7] (by kernel_rfl) (bD.up (lS (l.map (·.ver)) (all_map fun e he=>(h.ok e he).ver) hml) GS) ?_ ?_;(focus trivial))
   rintro _ _ _ ⟨rfl,rfl,rfl⟩
   conv=>whnf
   have hx:=bY (l.map (·.ver)) hml
   refine ay.mk (aG (by simp only [List.length_map,List.length_append];omega) (by kernel_rfl)) ?_
   conv=>whnf
   refine aI.i64 (by decide) ?_
   conv=>whnf
   exact aF (0+1) [(6, .lab 8)] [] rfl (by decide) (by decide) ⟨⟨rfl,rfl,List.map_append.symm⟩,(by trivial),⟨rfl,rfl,rfl⟩,⟨rfl,rfl,rfl⟩,trivial⟩ ⟨rfl,rfl,trivial⟩
  ·conv=>whnf
   refine bC.mk' 1 rfl (by decide) ?_
   conv=>whnf
   refine aS.at rfl ?_
   conv=>whnf
   refine bg vV 8 [10,52] (fun k:Nat=> [(10, .own 7),(52,iv k)]) (fun k=> [(7, .rows 3 1 (((l.take k).map (·.arm)).map oM)),(6, .rows 5 1 ((Bv l 3++ji (l.map (·.other))++ints (l.map (·.ver))).map dW)),(3, .var 160 ((bZ.getD 3 []).map FV.up)),(1, .rows 160 2 bZ),(0, .rows 95 10 (l.map jg))]) (fun k=>k≤l.length) (fun k=>l.length-k) [(7, .nil)] [] 0 (by kernel_rfl) (fun _=>rfl) rfl (Nat.zero_le _) ⟨rfl,⟨rfl,rfl,rfl⟩,(by trivial),⟨rfl,rfl,rfl⟩,⟨rfl,rfl,rfl⟩,trivial⟩ ⟨trivial,rfl,trivial⟩ ?_
   intro k hk
   conv=>whnf
   refine ah (fun hb=> ?_) (fun hb=> ?_)
   ·have hlt:k<l.length:=by simp at hb;omega
    conv=>whnf
    refine bC.mk' k rfl (fQ hlt) ?_
    conv=>whnf
    (refine eX (by kernel_rfl) (au Tryz.func151 rfl mixed (by kernel_rfl) ?_);(conv=>whnf))
    refine jw (.ep 0 k 8) ?_ rfl ?_ ?_
    rotate_left 1
    ·exact⟨⟨rfl,rfl,rfl⟩,⟨rfl,rfl,rfl⟩,(by trivial),⟨rfl,rfl,rfl⟩,⟨rfl,rfl,rfl⟩,trivial⟩
    ·trivial
    conv=>whnf
    refine aS.aA (List.getElem?_eq_getElem hlt) ?_
    conv=>whnf
    refine ay.mk (aG (by simp only [List.length_map,List.length_append,List.length_cons,List.length_nil,List.length_take];omega) (by kernel_rfl)) ?_
    conv=>whnf
    refine aI.i64 (by omega) ?_
    conv=>whnf
    refine aF (k+1) [(7, .lab 9)] [] rfl (by show l.length -(k+1)<l.length-k;omega) hlt ⟨⟨rfl,rfl, ?_⟩,⟨rfl,rfl,rfl⟩,(by trivial),⟨rfl,rfl,rfl⟩,⟨rfl,rfl,rfl⟩,trivial⟩ ⟨rfl,rfl,trivial⟩
    rw [List.take_succ_eq_append_getElem hlt,List.map_append,List.map_append]
    rfl
   have hke:k=l.length:=by simp at hb;omega
   subst hke
   rw [List.take_length]
   conv=>whnf
   have hml:(l.map (·.arm)).length≤512:=by rw [List.length_map];omega
   (refine aj [7] (by kernel_rfl) (bD.up (lS (l.map (·.arm)) (all_map fun e he=>(h.ok e he).arm) hml) GS) ?_ ?_;(focus trivial))
   rintro _ _ _ ⟨rfl,rfl,rfl⟩
   conv=>whnf
   have hx:=bY (l.map (·.arm)) hml
   refine ay.mk (aG (by simp only [List.length_map,List.length_append];omega) (by kernel_rfl)) ?_
   conv=>whnf
   refine aI.i64 (by decide) ?_
   conv=>whnf
   exact aF (1+1) [(6, .lab 8)] [] rfl (by decide) (by decide) ⟨⟨rfl,rfl,List.map_append.symm⟩,(by trivial),⟨rfl,rfl,rfl⟩,⟨rfl,rfl,rfl⟩,trivial⟩ ⟨rfl,rfl,trivial⟩
  ·conv=>whnf
   refine bC.mk' 2 rfl (by decide) ?_
   conv=>whnf
   refine aS.at rfl ?_
   conv=>whnf
   refine bg vV 8 [10,52] (fun k:Nat=> [(10, .own 7),(52,iv k)]) (fun k=> [(7, .rows 3 1 (((l.take k).map (·.val)).map oM)),(6, .rows 5 1 ((Bv l 3++ji (l.map (·.other))++ints (l.map (·.ver))++ints (l.map (·.arm))).map dW)),(3, .var 160 ((bZ.getD 3 []).map FV.up)),(1, .rows 160 2 bZ),(0, .rows 95 10 (l.map jg))]) (fun k=>k≤l.length) (fun k=>l.length-k) [(7, .nil)] [] 0 (by kernel_rfl) (fun _=>rfl) rfl (Nat.zero_le _) ⟨rfl,⟨rfl,rfl,rfl⟩,(by trivial),⟨rfl,rfl,rfl⟩,⟨rfl,rfl,rfl⟩,trivial⟩ ⟨trivial,rfl,trivial⟩ ?_
   intro k hk
   conv=>whnf
   refine ah (fun hb=> ?_) (fun hb=> ?_)
   ·have hlt:k<l.length:=by simp at hb;omega
    conv=>whnf
    refine bC.mk' k rfl (fQ hlt) ?_
    conv=>whnf
    (refine eX (by kernel_rfl) (au Tryz.func152 rfl mixed (by kernel_rfl) ?_);(conv=>whnf))
    refine jw (.ep 0 k 9) ?_ rfl ?_ ?_
    rotate_left 1
    ·exact⟨⟨rfl,rfl,rfl⟩,⟨rfl,rfl,rfl⟩,(by trivial),⟨rfl,rfl,rfl⟩,⟨rfl,rfl,rfl⟩,trivial⟩
    ·trivial
    conv=>whnf
    refine aS.aA (List.getElem?_eq_getElem hlt) ?_
    conv=>whnf
    refine ay.mk (aG (by simp only [List.length_map,List.length_append,List.length_cons,List.length_nil,List.length_take];omega) (by kernel_rfl)) ?_
    conv=>whnf
    refine aI.i64 (by omega) ?_
    conv=>whnf
    refine aF (k+1) [(7, .lab 9)] [] rfl (by show l.length -(k+1)<l.length-k;omega) hlt ⟨⟨rfl,rfl, ?_⟩,⟨rfl,rfl,rfl⟩,(by trivial),⟨rfl,rfl,rfl⟩,⟨rfl,rfl,rfl⟩,trivial⟩ ⟨rfl,rfl,trivial⟩
    rw [List.take_succ_eq_append_getElem hlt,List.map_append,List.map_append]
    rfl
   have hke:k=l.length:=by simp at hb;omega
   subst hke
   rw [List.take_length]
   conv=>whnf
   have hml:(l.map (·.val)).length≤512:=by rw [List.length_map];omega
   (refine aj [7] (by kernel_rfl) (bD.up (lS (l.map (·.val)) (all_map fun e he=>(h.ok e he).val) hml) GS) ?_ ?_;(focus trivial))
   rintro _ _ _ ⟨rfl,rfl,rfl⟩
   conv=>whnf
   have hx:=bY (l.map (·.val)) hml
   refine ay.mk (aG (by simp only [List.length_map,List.length_append];omega) (by kernel_rfl)) ?_
   conv=>whnf
   refine aI.i64 (by decide) ?_
   conv=>whnf
   exact aF (2+1) [(6, .lab 8)] [] rfl (by decide) (by decide) ⟨⟨rfl,rfl,List.map_append.symm⟩,(by trivial),⟨rfl,rfl,rfl⟩,⟨rfl,rfl,rfl⟩,trivial⟩ ⟨rfl,rfl,trivial⟩
  ·conv=>whnf
   refine aI.i64 (by decide) ?_
   conv=>whnf
   exact aF 4 [(2, .lab 6)] [] rfl (by decide) (by decide) ⟨⟨rfl,rfl,rfl⟩,⟨rfl,rfl,rfl⟩,⟨rfl,rfl,rfl⟩,trivial⟩ ⟨rfl,rfl,trivial⟩
 ·conv=>whnf
  have hr:=Hz h
  have hbl:=oI h 4
  have n1:=bF (kK l).1
  have n2:=bF (kK l).2
  have n3:=bF ((uK l).length:Int)
  change (uK l).length≤70000 at hbl
  (refine aj [0] (by kernel_rfl) (Oz l h) ?_ ?_;(focus trivial))
  rintro _ _ _ ⟨rfl,rfl,rfl⟩
  conv=>whnf
  (refine aj [] (by kernel_rfl) (bD.up (iD [] (kK l).1 hr.1 (by simp)) GS) ?_ ?_;(focus trivial))
  rintro _ _ _ ⟨rfl,rfl,rfl⟩
  conv=>whnf
  (refine aj [3] (by kernel_rfl) (bD.up (iD (num (kK l).1) (kK l).2 hr.2 (by omega)) GS) ?_ ?_;(focus trivial))
  rintro _ _ _ ⟨rfl,rfl,rfl⟩
  conv=>whnf
  have e4:((Bv l 4).map dW).length=(uK l).length:=List.length_map _
  rw [e4]
  (refine aj [4] (by kernel_rfl) (bD.up (iD (num (kK l).1++num (kK l).2) ((uK l).length:Int) (bW (by omega)) (by rw [List.length_append];omega)) GS) ?_ ?_;(focus trivial))
  rintro _ _ _ ⟨rfl,rfl,rfl⟩
  conv=>whnf
  refine ay.mk (aG (by rw [e4];simp only [List.length_map,List.length_append];omega) (by kernel_rfl)) ?_
  conv=>whnf
  refine aV (bs (wG l)) 0 [] [] [6] ⟨rfl,rfl,rfl⟩ rfl trivial ⟨rfl,rfl, ?_⟩
  show (num (kK l).1++num (kK l).2++num ((uK l).length:Int)).map dW++(uK l).map dW=(wG l).map dW
  rw [←List.map_append]
  rfl
end
end Go.Proofs.YtocckceefcmeaaaGreatDoor.Cl
namespace Go.Proofs.YtocckceefcmeaaaGreatDoor.Ax
open Go Go.RowKit Go.Proofs Go.Proofs.YtocckceefcmeaaaGreatDoor.Vc
attribute [local irreducible] loadVar storeVar Instr.indexAt Instr.index Instr.sliceAt Instr.makeSlice Instr.lookup Instr.mapUpdate Instr.range Instr.next Instr.entry Instr.makeMap Builtin.append_ Builtin.copy_ Builtin.len_ Builtin.min_ Builtin.max_ Builtin.cap_ Builtin.delete_ Builtin.clear_ convert binOp eqGuard Op.unary Calls
def YQ (l:List (List FV))(i:Nat):List (List FV):=(l.drop (16*i)).take 16
def OX (l:List (List FV)):Nat:=(l.length+15)/16
def JX (l:List (List FV)):List (List AV):=(List.range (OX l)).map fun i=> [.lst 10 (YQ l i)]
theorem aaX (G:Glob)(l:List (List FV))(hl:l.length≤1000000):AIt Tryz.prog G 119 [.fp [.lst 10 l] 0, .fp [.v (.int .i64 16)] 0] (JX l):=by
 intro n σ F vs W lp J hG hF hr hst hkp hy h0
 match vs,hr with
 | [v1,v2],⟨r1,r2,_⟩=>
 cases r1 with
 | fp f1=>
 cases r2 with
 | fp f2=>
 cases f1 with
 | fp _ _ b1 o1 hb1 aeD adb=>
 cases f2 with
 | fp _ _ b2 o2 hb2 aeE ade=>
 obtain⟨x1,hc1,_⟩:=aeD 0 Nat.zero_lt_one
 obtain⟨x2,hc2,_⟩:=aeE 0 Nat.zero_lt_one
 have hx1:=adb 0 _ x1 rfl hc1
 have hx2:=ade 0 _ x2 rfl hc2
 cases hx2
 obtain⟨oa,m,c,rfl⟩ : ∃oa m c,x1 = .slice oa m c:=by cases hx1;exact⟨_,_,_,rfl⟩
 have hm:m=l.length:=by cases hx1;assumption
 subst hm
 refine GK Tryz.func119 rfl (by kernel_rfl) (Nat.le_of_ble_eq_true rfl) rfl (by kernel_rfl) ?_
 conv=>whnf
 refine lD (X:=Nat) Vf (fun i=> [(4, .int .i64 (16*i:Nat))]) (fun i w'=>i≤OX l∧J i w') (fun i=>OX l-i) 0 (by kernel_rfl) ⟨rfl,trivial⟩ ⟨Nat.zero_le _,h0⟩ ?_
 rintro i w' j ⟨hi,hJ⟩
 obtain⟨k1,k2,k3⟩:=hkp i w' hJ
 have c1:w'.cell? ⟨b1,o1+0,none⟩=some (.slice oa l.length c):=by rw [iZ (k3 b1 hb1)];exact hc1
 have c2:w'.cell? ⟨b2,o2+0,none⟩=some (.int .i64 16):=by rw [iZ (k3 b2 hb2)];exact hc2
 conv=>whnf
 refine eP rfl c1 ?_
 conv=>whnf
 apply ah<;>intro h
 ·have hlt:16*i<l.length:=by simp at h;omega
  have hin:i<OX l:=by unfold OX;omega
  conv=>whnf
  have c1d:w'.drew.cell? ⟨b1,o1+0,none⟩=some (.slice oa l.length c):=c1
  have c2d:w'.drew.cell? ⟨b2,o2+0,none⟩=some (.int .i64 16):=c2
  have hlc:l.length≤c:=by cases hx1;assumption
  (refine iY Vg (by kernel_rfl) ?_;conv=>whnf)
  repeat (first
   | (refine eP rfl c1d ?_;conv=>whnf)
   | (refine eP rfl c2d ?_;conv=>whnf)
   | (refine gK.mk rfl ?_;conv=>whnf)
   | (refine IL (sz:=10) (lo:=16*i) rfl rfl rfl (Nat.le_of_lt hlt) ?_;conv=>whnf))
  have we:IntKind.i64.wrap (((16*i:Nat):Int)+min 16 ((l.length-16*i:Nat):Int))=((16*i+min 16 (l.length-16*i):Nat):Int):=by
   have e1:(min 16 ((l.length-16*i:Nat):Int))=((min 16 (l.length-16*i):Nat):Int):=by omega
   rw [e1, ←Int.natCast_add]
   exact IntWalk.i64_in _ (by omega)
  rw [we]
  refine dZ (o8 (E:=95) (sz:=10) (i:=16*i) (j:=16*i+min 16 (l.length-16*i)) (m:=16*i+min 16 (l.length-16*i)) rfl rfl (.inr ⟨_,rfl⟩) (.inr ⟨_,rfl⟩) (.inr ⟨_,rfl⟩) (by omega) (Nat.le_refl _) (by omega)) ?_
  have hJd:J i w'.drew:=hst i w' _ hJ (BZ (Below.refl _ _))
  have hch:YQ l i=(l.take (16*i+min 16 (l.length-16*i))).drop (16*i):=by
   unfold YQ
   rw [List.drop_take,show 16*i+min 16 (l.length-16*i)-16*i=min 16 (l.length-16*i) by omega]
   rcases Nat.le_total 16 (l.length-16*i)with h | h
   ·rw [Nat.min_eq_left h]
   ·rw [Nat.min_eq_right h,List.take_of_length_le (by rw [List.length_drop];exact h),List.take_of_length_le (by rw [List.length_drop];exact Nat.le_refl _)]
  have hfr:dV F w'.drew (.lst 10 (YQ l i)) (.slice (oP oa (16*i) 10 (16*i+min 16 (l.length-16*i))) (16*i+min 16 (l.length-16*i)-16*i) (16*i+min 16 (l.length-16*i)-16*i)):=by
   rw [hch]
   exact dV.part (dV.mono (w':=w'.drew) (fun b hb=>⟨hb,k3 b hb⟩) hx1) (by omega) (by omega) (Nat.le_refl _) (by omega)
  obtain⟨fn,tmps,assign,body,hyr,hR⟩:=hy i [.lst 10 (YQ l i)] w'.drew [.slice (oP oa (16*i) 10 (16*i+min 16 (l.length-16*i))) (16*i+min 16 (l.length-16*i)-16*i) (16*i+min 16 (l.length-16*i)-16*i)] (by unfold JX;rw [List.getElem?_map,List.getElem?_range hin];rfl) hJd ⟨.lst hfr,trivial⟩
  conv=>whnf
  refine⟨⟨fn,tmps,assign,body,hyr,RoundIn.mono hR ?_⟩⟩
  rintro e W2 ⟨rfl,hJ2⟩
  refine⟨_,rfl, ?_⟩
  obtain⟨m1,m2,m3⟩:=hkp (i+1) W2 hJ2
  have c3:W2.cell? ⟨b2,o2+0,none⟩=some (.int .i64 16):=by rw [iZ (m3 b2 hb2)];exact hc2
  conv=>whnf
  refine eP rfl c3 ?_
  conv=>whnf
  refine kM.mk ⟨_, ?_,(i+1),rfl,⟨?_,trivial⟩,hin,hJ2⟩
  ·show OX l -(i+1)<OX l-i;omega
  show Value.int .i64 (IntKind.i64.wrap (((16*i:Nat):Int)+16)) = .int .i64 ((16*(i+1):Nat):Int)
  congr 1
  rw [show ((16*i:Nat):Int)+16=((16*(i+1):Nat):Int) by omega]
  exact IntWalk.i64_in _ (by omega)
 ·have hge:l.length≤16*i:=by simp at h;omega
  have hie:i=OX l:=by unfold OX at hi ⊢;omega
  subst hie
  conv=>whnf
  refine⟨?_⟩
  have:(JX l).length=OX l:=by unfold JX;simp
  rw [this]
  exact hJ
theorem aaY (G:Glob)(l:List (List FV)):bD Tryz.prog G 86 [.lst 10 l, .v (.int .i64 16)] 0 [] (Is (.fn (.func 119) [] [.fp [.lst 10 l] 0, .fp [.v (.int .i64 16)] 0])):=by
 refine au Tryz.func86 rfl (by kernel_rfl) (by kernel_rfl) ?_
 conv=>whnf
 exact Wh [(0,41,[.lst 10 l]),(1,3,[.v (.int .i64 16)])] ⟨rfl,rfl,rfl⟩ (fun p hp=>by
  rcases List.mem_cons.1 hp with rfl | hp
  ·rfl
  ·rw [List.mem_singleton.1 hp];rfl)
end Go.Proofs.YtocckceefcmeaaaGreatDoor.Ax
namespace Go.Proofs.YtocckceefcmeaaaGreatDoor.Cl
open Go Go.RowKit Go.Proofs Go.Proofs.YtocckceefcmeaaaGreatDoor.Vc Go.Proofs.YtocckceefcmeaaaGreatDoor.Ax Go.Proofs.YtocckceefcmeaaaGreatDoor.Ky
attribute [local irreducible] loadVar storeVar Instr.indexAt Instr.index Instr.sliceAt Instr.makeSlice Instr.lookup Instr.mapUpdate Instr.range Instr.next Instr.entry Instr.makeMap Builtin.append_ Builtin.copy_ Builtin.len_ Builtin.min_ Builtin.max_ Builtin.cap_ Builtin.delete_ Builtin.clear_ convert binOp eqGuard Op.unary Calls
section
attribute [local irreducible] best ints en bd ji dsT
structure EvV (e:Ev):Prop where
 s1:e.client.length≤200
 s2:e.id.length≤200
 s3:e.name.length≤200
 s4:e.other.length≤200
 tm : -4611686018427387904≤e.time∧e.time≤4611686018427387904
theorem adf {e:Ev}(h:uJ e=0):EvV e:=by
 have key : ∀s:By,Hw s=true→s.length≤200:=fun s hs=>by
  have:(⟨s.toArray⟩:ByteArray).size≤32:=N8 hs
  have e:(⟨s.toArray⟩:ByteArray).size=s.length:=rfl
  omega
 unfold uJ at h
 split at h
 ·simp at h
 rename_i h1
 split at h
 ·simp at h
 rename_i h2
 split at h
 ·simp at h
 rename_i h3
 split at h
 ·simp at h
 split at h
 ·simp at h
 split at h
 ·simp at h
 rename_i h4
 have h1:e.kind=1∨e.kind=2∨e.kind=3:=Classical.byContradiction h1
 have k1:Hw e.client=true:=by cases hk:Hw e.client<;>simp_all
 have k2:Hw e.id=true:=by cases hk:Hw e.id<;>simp_all
 refine⟨key _ k1,key _ k2, ?_, ?_,by omega⟩
 ·rcases h1 with c | c | c
  ·exact key _ (by cases hk:Hw e.name<;>simp_all)
  ·exact key _ (by cases hk:Hw e.name<;>simp_all)
  ·have:e.name = []:=Classical.byContradiction fun hn=>h4 (.inr (.inr ⟨c, .inl hn⟩))
   rw [this];simp
 ·rcases h1 with c | c | c
  ·have:e.other = []:=Classical.byContradiction fun hn=>h4 (.inl ⟨c, .inl hn⟩)
   rw [this];simp
  ·have:e.other = []:=Classical.byContradiction fun hn=>h4 (.inr (.inl ⟨c, .inl hn⟩))
   rw [this];simp
  ·exact key _ (by cases hk:Hw e.other<;>simp_all)
def ch (l:List Ev)(i:Nat):List Ev:=(l.drop (16*i)).take 16
def nC (l:List Ev):Nat:=(l.length+15)/16
def Az (l:List Ev)(i:Nat):By:=num (l.length:Int)++(List.range i).flatMap fun j=>wG (ch l j)
def tab (l:List Ev):By:=Az l (nC l)
def kL (l:List Ev):Int:=match l with | []=>0 | e::r=>if uJ e≠0 then uJ e else kL r
def kD (l:List Ev):Int:=if 512<l.length then 5 else kL l
def Ir (l:List Ev):By:=if kD l=0 then tab l else []
theorem OA {l:List Ev}{i:Nat}(hi:i<l.length)(h:kL (l.take i)=0):kL (l.take (i+1))=uJ l[i]∧(uJ l[i]≠0→kL l=uJ l[i]):=by
 induction l generalizing i with
 | nil=>simp at hi
 | cons e r ih=>
  cases i with
  | zero=>
   simp only [List.take_succ_cons,List.take_zero,kL,List.getElem_cons_zero]
   by_cases hc:uJ e=0
   ·simp [hc]
   ·simp [hc]
  | succ i=>
   simp only [List.take_succ_cons,kL,List.getElem_cons_succ]at h ⊢
   by_cases hc:uJ e=0
   ·simp only [hc,ne_eq,not_true,if_false]at h ⊢
    exact ih (by simpa using hi) h
   ·simp only [hc,ne_eq,not_false_eq_true,if_true]at h
theorem AA {l:List Ev}(h:kL l=0) : ∀e∈l,uJ e=0:=by
 induction l with
 | nil=>intro e he;cases he
 | cons x r ih=>
  unfold kL at h
  by_cases hc:uJ x=0
  ·rw [if_neg (by simp [hc])]at h
   intro e he
   rcases List.mem_cons.1 he with rfl | he
   ·exact hc
   ·exact ih h e he
  ·rw [if_pos hc]at h;exact absurd h hc
theorem JY {l:List Ev}(hok : ∀e∈l,e.ok)(hv : ∀e∈l,uJ e=0){i:Nat}(hi:i<nC l):OW (ch l i):=by
 have sub : ∀e∈ch l i,e∈l:=fun e he=>List.mem_of_mem_drop (List.mem_of_mem_take he)
 have hV : ∀e∈ch l i,EvV e:=fun e he=>adf (hv e (sub e he))
 refine⟨fun h0=> ?_,by unfold ch;rw [List.length_take];omega,fun e he=>hok e (sub e he),fun e he=>(hV e he).s1,fun e he=>(hV e he).s2,fun e he=>(hV e he).s3,fun e he=>(hV e he).s4,fun e he=>(hV e he).tm⟩
 have:=congrArg List.length h0
 unfold ch at this
 rw [List.length_take,List.length_drop]at this
 unfold nC at hi
 simp at this
 omega
theorem XO (l:List Ev)(i:Nat):YQ (l.map jg) i=(ch l i).map jg:=by unfold YQ ch;rw [List.map_take,List.map_drop]
theorem Dc (l:List Ev)(i:Nat):Az l (i+1)=Az l i++wG (ch l i):=by
 unfold Az;rw [List.range_succ,List.flatMap_append];simp
theorem MF {l:List Ev}(h:OW l):(wG l).length≤70040:=by
 have:=oI h 4
 change (uK l).length≤70000 at this
 have n1:=bF (kK l).1
 have n2:=bF (kK l).2
 have n3:=bF ((uK l).length:Int)
 unfold wG
 simp only [List.length_append]
 omega
theorem HY {l:List Ev}(hok : ∀e∈l,e.ok)(hv : ∀e∈l,uJ e=0) : ∀i,i≤nC l→(Az l i).length≤10+70040*i:=by
 intro i
 induction i with
 | zero=>intro _;have:=bF (l.length:Int);unfold Az;simp;omega
 | succ i ih=>
  intro hi
  have h1:=ih (by omega)
  have h2:=MF (JY hok hv (show i<nC l by omega))
  rw [Dc,List.length_append]
  omega
theorem tX (l:List Ev)(hok : ∀e∈l,e.ok)(hl:l.length≤1000000):bD Tryz.prog GS 56 [el l] 0 [] (Is (.bH [bs (Ir l),iv (kD l)])):=by
 refine V8 Tryz.func56 rfl mixed (by kernel_rfl) ?_
 conv=>whnf
 apply ah<;>intro h
 ·have h5:512<l.length:=by simp at h;omega
  conv=>whnf
  refine aV (.bH [bs (Ir l),iv (kD l)]) 0 [] [] [] ⟨rfl,rfl,rfl⟩ rfl trivial ?_
  unfold Ir kD
  simp only [h5,if_true]
  exact⟨rfl,rfl,trivial⟩
 have h5:l.length≤512:=by simp at h;omega
 have e5:kD l=kL l:=by unfold kD;rw [if_neg (by omega)]
 conv=>whnf
 refine bg ZI 0 [14] (fun i:Nat=> [(14,iv i)]) (fun _=> []) (fun i=>i≤l.length∧kL (l.take i)=0) (fun i=>l.length-i) [] [] 0 (by kernel_rfl) (fun _=>rfl) rfl ⟨Nat.zero_le _,rfl⟩ trivial ⟨rfl,trivial⟩ ?_
 rintro i ⟨hi,hz⟩
 conv=>whnf
 apply ah<;>intro h
 ·have hlt:i<l.length:=by simp at h;omega
  have hk:=OA hlt hz
  conv=>whnf
  refine bC.mk' i rfl (fQ hlt) ?_
  conv=>whnf
  refine aS.aA (List.getElem?_eq_getElem hlt) ?_
  conv=>whnf
  (refine bf [] (by kernel_rfl) (XJ l[i] (hok _ (List.getElem_mem hlt))) rfl ?_ ?_;(focus trivial))
  generalize uJ l[i]=c at *
  conv=>whnf
  apply ah<;>intro h
  ·have hc:c≠0:=by simpa using h
   conv=>whnf
   refine aV (.bH [bs (Ir l),iv (kD l)]) 0 [] [] [] ⟨rfl,rfl,rfl⟩ rfl trivial ?_
   have e6:kD l=c:=by rw [e5];exact hk.2 hc
   unfold Ir
   rw [e6,if_neg hc]
   exact⟨rfl,rfl,trivial⟩
  ·have hc:c=0:=by simpa using h
   conv=>whnf
   refine aI.i64 (by omega) ?_
   conv=>whnf
   exact aF (i+1) [] [] rfl (by show l.length -(i+1)<l.length-i;omega) ⟨hlt,hk.1.trans hc⟩ trivial ⟨rfl,trivial⟩
 have hie:i=l.length:=by simp at h;omega
 subst hie
 rw [List.take_length]at hz
 have hv:=AA hz
 rw [hz]at e5
 have etb:Ir l=tab l:=by unfold Ir;rw [if_pos e5]
 rw [etb,e5]
 conv=>whnf
 rw [List.length_map]
 (refine aj [] (by kernel_rfl) (bD.up (iD [] (l.length:Int) (bW (by omega)) (by simp)) GS) ?_ ?_;(focus trivial))
 rintro _ _ _ ⟨rfl,rfl,rfl⟩
 conv=>whnf
 (refine aj [] (by kernel_rfl) (aaY GS (l.map jg)) ?_ ?_;(focus trivial))
 rintro _ _ _ ⟨rfl,rfl,rfl⟩
 conv=>whnf
 have hnC:(JX (l.map jg)).length=nC l:=by unfold JX OX nC;simp
 refine aag (aaX GS (l.map jg) (by rw [List.length_map];omega)) 3 (fun i=> [(1, .var 22 [.own 2]),(2, .rows 5 1 ((Az l i).map dW))]) [(2, .lab 0)] [] rfl (by kernel_rfl) rfl (fun x hx=> ?_) rfl ⟨⟨rfl,rfl,trivial⟩,⟨rfl,rfl, ?_⟩,trivial⟩ (fun i x hx=> ?_) ?_
 ·obtain⟨j,_,rfl⟩:=List.mem_map.1 hx
  rfl
 ·show ([]++num (l.length:Int)).map dW=(Az l 0).map dW
  unfold Az
  simp
 ·have hlt:i<nC l:=by
   rw [←hnC]
   exact(List.getElem?_eq_some_iff.1 hx).1
  have hx':x = [.lst 10 ((ch l i).map jg)]:=by
   unfold JX at hx
   rw [List.getElem?_map,List.getElem?_range (by unfold OX;rw [List.length_map];exact hlt)]at hx
   injection hx with hx
   rw [←hx];show [AV.lst 10 (YQ (l.map jg) i)]=_;rw [XO]
  subst hx'
  conv=>whnf
  have XP:=JY hok hv hlt
  have hcl:=MF XP
  have hta:=HY hok hv i (by omega)
  have hnc:nC l≤32:=by unfold nC;omega
  (refine aP aci [] (by kernel_rfl) ?_;conv=>whnf)
  repeat' (first
   | (refine And.intro ?_ ?_<;>(conv=>whnf))
   | ((refine aj [] (by kernel_rfl) (XM (ch l i) XP) ?_ ?_;(focus trivial));rintro _ _ _ ⟨rfl,rfl,rfl⟩;conv=>whnf)
   | (refine ay.mk (aG (by simp only [List.length_map];omega) (by kernel_rfl)) ?_;conv=>whnf))
  refine aah [(2, .lab 3)] [] rfl ⟨⟨rfl,rfl,trivial⟩,⟨rfl,rfl, ?_⟩,trivial⟩
  rw [Dc,List.map_append]
 ·rw [hnC]
  conv=>whnf
  exact aV (.bH [bs (tab l),iv 0]) 0 [] [] [2] ⟨rfl,rfl,rfl⟩ rfl trivial ⟨⟨rfl,rfl,rfl⟩,rfl,trivial⟩
end
end Go.Proofs.YtocckceefcmeaaaGreatDoor.Cl
