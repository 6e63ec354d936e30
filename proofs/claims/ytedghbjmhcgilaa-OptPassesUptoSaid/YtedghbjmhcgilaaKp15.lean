import Derived.Lib.AppendIntMem
import Derived.Lib.OwnBridge
import Derived.Test.YtedghbjmhcgilaaKp11
import Derived.Test.YtedghbjmhcgilaaKp12
import Derived.Test.YtedghbjmhcgilaaKp14
set_option linter.unusedVariables false
set_option linter.unusedSimpArgs false
section
namespace Go.Proofs.Ytedghbjmhcgilaa.A
open Go.RowKit Go.Shelf Go.Lib Go.Sort Go.Proofs.YtedghbjmhcgilaaW.PrintWords Go.Proofs.YtedghbjmhcgilaaW.PrintLast Go.Proofs.YtedghbjmhcgilaaW.PrintMore
open Go.Proofs.Ytedghbjmhcgilaa.POpt
def lineCells (L : List S37) : List Value := L.flatMap (fun x => [.int .i64 x.f0, .int .i64 x.f1])
theorem lineCells_len (L : List S37) : (lineCells L).length = L.length * 2 := by
  induction L with
  | nil => rfl
  | cons x L ih => simp only [lineCells, List.flatMap_cons, List.length_append] at *; rw [ih]; simp; omega
theorem lineCells_reps (W : World) (base : Nat) (ok : Nat → Prop) (L : List S37) : Reps (k37.M W base ok) 2 L (lineCells L) := by
  refine ⟨lineCells_len L, ?_⟩
  induction L with
  | nil => intro j p h; simp at h
  | cons x L ih =>
    intro j p h
    cases j with
    | zero =>
      simp only [List.getElem?_cons_zero, Option.some.injEq] at h
      subst h
      exact k37_mkM _ _ _ x
    | succ j =>
      simp only [List.getElem?_cons_succ] at h
      have := ih j p h
      have e : (lineCells (x :: L)).drop ((j + 1) * 2) = (lineCells L).drop (j * 2) := by
        show ([Value.int .i64 x.f0, .int .i64 x.f1] ++ lineCells L).drop ((j + 1) * 2) = _
        rw [show (j + 1) * 2 = 2 + j * 2 by omega, ← List.drop_drop]
        rfl
      rw [e]; exact this
theorem below_grow {B : Nat} {w0 w : World} (h : Below B w0 w) (hB : B ≤ w.heap.size) (os : Array Obj) : Below B w0 (grow w os) :=
  ⟨h.os, h.tape, h.output, by simp [grow]; have := h.size; omega, fun k hk => by
    rw [← h.block k hk]
    simp only [grow]
    rw [Array.getElem?_append_left (by omega)]⟩
theorem sorted_row {W : World} {base : Nat} {ok : Nat → Prop} {g n cap : Nat} {R : List S37} (h : k37.R 37 W base ok (.slice (some ⟨g, 0, none⟩) n cap) R) (L : List S37) (hL : L.length = n) (q : Nat) (os : Array Obj) (F : Array Value) (hF : F.toList = lineCells L) :
    k37.R 37 (grow (putRow id (Sort.ahead W q) g 0 F) os) base ok (.slice (some ⟨g, 0, none⟩) n cap) L ∧ Below base W (grow (putRow id (Sort.ahead W q) g 0 F) os) ∧ ∀ k, k < W.heap.size → k ≠ g → (grow (putRow id (Sort.ahead W q) g 0 F) os).heap[k]? = W.heap[k]? := by
  obtain ⟨g', cells, hA, hbg, hgl, hok, hh, hn, hnc⟩ := (by exact (show ∃ g' cells, (some ⟨g, 0, none⟩ : Option Addr) = some ⟨g', 0, none⟩ ∧ base ≤ g' ∧ g' < W.heap.size ∧ ok g' ∧ W.heap[g']? = some (.cells cells 37 (0, 0)) ∧ n = R.length ∧ n ≤ cap from by
    obtain ⟨hok, inner, ho, hr⟩ := h
    rcases ho.2 with ⟨e0, _⟩ | ⟨g', cap', cur, e0, hb, hg, hn, hm, hs, ht⟩
    · cases e0
    · injection e0 with e1 e2 e3
      injection e1 with e1
      injection e1 with e1
      subst e1; subst e3
      exact ⟨g, cur, rfl, hb, (Array.getElem?_eq_some_iff.1 hg).1, hok g rfl, hg, e2, by omega⟩))
  injection hA with hA
  injection hA with hA
  subst hA
  have hsz : F.size = n * 2 := by rw [← Array.length_toList, hF, lineCells_len, hL]
  have hps : (putRow id (Sort.ahead W q) g 0 F).heap.size = W.heap.size := by simp [putRow, mapBlock, Sort.ahead]
  refine ⟨?_, below_grow (below_putRow (Below.refl base W) hbg) (by rw [hps]; omega) os, fun k h1 h2 => ?_⟩
  · obtain ⟨_, inner, ho, hr⟩ := h
    refine ⟨fun k hk => by have : g = k := by simpa [Value.ownBlock] using hk
                           subst this; exact hok, lineCells L, ?_, ?_⟩
    · have hown : (putRow id (Sort.ahead W q) g 0 F).ownsRow base 37 2 (.slice (some ⟨g, 0, none⟩) n cap) n (lineCells L) := by
        rcases ho.2 with ⟨e0, _⟩ | ⟨g', cap', cur, e0, hb, hg, hnn, hm, hs, ht⟩
        · cases e0
        · injection e0 with e1 e2 e3
          injection e1 with e1
          injection e1 with e1
          subst e1; subst e3
          refine ⟨by rw [lineCells_len, hL], .inr ⟨g, cap, putCells id 0 F cur, rfl, hb, ?_, hnc, hm, (by have hs' : cur.size = cap * 2 := hs; simpa [putCells] using hs'), ?_⟩⟩
          · simp [putRow, mapBlock, Sort.ahead, Array.getElem?_modify, hg, onCells]
          · have hs' : cur.size = cap * 2 := hs
            apply List.ext_getElem?
            intro j
            rw [List.getElem?_take, ← hF, Array.getElem?_toList, Array.getElem?_toList]
            by_cases hj : j < n * 2
            · have hjc : j < cur.size := by omega
              simp only [if_pos hj, putCells, Array.getElem?_mapIdx, Array.getElem?_eq_getElem hjc, Option.map_some]
              rw [if_pos (by simp; omega), Array.getElem?_eq_getElem (by omega)]
              simp [getElem!_pos, show j < F.size by omega]
            · rw [if_neg hj, Array.getElem?_eq_none (by omega)]
      rw [hL]
      exact Lib.ownsRow_grow hown 0 os
    · exact lineCells_reps _ _ _ L
  · simp only [grow]
    rw [Array.getElem?_append_left (by rw [hps]; exact h1)]
    simp [putRow, mapBlock, Sort.ahead, Array.getElem?_modify, Ne.symm h2]
def sortRows (R:List S37):List S37:=R.mergeSort (fun x y=>!decide (y.f0 < x.f0))
theorem sortRows_len (R:List S37):(sortRows R).length=R.length:=List.length_mergeSort _
def tagged (R:List S37) (h:∀ x ∈ R,0≤x.f0∧x.f0≤4611686018427387904):List (TagLine R):=R.attach.map fun x=>⟨x.1,x.2,h x.1 x.2⟩
theorem tagged_map (R:List S37) (h:∀ x ∈ R,0≤x.f0∧x.f0≤4611686018427387904):(tagged R h).map Subtype.val=R:=by
 unfold tagged
 rw [List.map_map]
 show R.attach.map (fun x=>x.1)=R
 simp
theorem isAgg37 (w:World):(isAgg 37).run Try.prog w=.ok true w:=by kernel_rfl
theorem sizeOf37 (w:World):(Go.sizeOf 37).run Try.prog w=.ok 2 w:=by kernel_rfl
theorem lineCells_at (L:List S37):∀ j,(h:j < L.length)→(lineCells L)[j*2]?=some (.int .i64 L[j].f0)∧(lineCells L)[j*2+1]?=some (.int .i64 L[j].f1):=by
 induction L with
 | nil=>intro j h;simp at h
 | cons x L ih =>
  intro j h
  have e:lineCells (x :: L)=.int .i64 x.f0 :: .int .i64 x.f1 :: lineCells L:=rfl
  cases j with
  | zero=>rw [e];exact ⟨rfl,rfl⟩
  | succ j =>
   have:=ih j (by simpa using h)
   rw [e,show (j+1)*2=j*2+1+1 by omega]
   exact this
theorem flat_lines {R:List S37} [Inhabited (TagLine R)] (d:List (TagLine R)):(flatK encLine 2 d.toArray).toList=lineCells (d.map Subtype.val):=by
 apply List.ext_getElem?
 intro i
 by_cases hi:i < d.length*2
 ·have hi2:i / 2 < d.length:=by omega
  have hm:i / 2 < (d.map Subtype.val).length:=by simp;exact hi2
  obtain ⟨l1,l2⟩:=lineCells_at (d.map Subtype.val) (i / 2) hm
  have hsz:i < (flatK encLine 2 d.toArray).size:=by simp;exact hi
  have hg:=get_flatK encLine 2 d.toArray i (by simp;exact hi)
  rw [getElem!_pos _ i hsz] at hg
  rw [Array.getElem?_toList,Array.getElem?_eq_getElem hsz,hg]
  have hd:d.toArray[i / 2]! = d[i / 2]:=by simp [getElem!_pos,hi2]
  rw [hd]
  have:i=i / 2*2∨i=i / 2*2+1:=by omega
  rcases this with e | e
  ·have e2:i % 2=0:=by omega
   conv=>rhs;rw [e]
   rw [l1,e2]
   simp [encLine]
  ·have e2:i % 2=1:=by omega
   conv=>rhs;rw [e]
   rw [l2,e2]
   simp [encLine]
 ·rw [List.getElem?_eq_none (by simp;omega),List.getElem?_eq_none (by rw [lineCells_len];simp;omega)]
theorem sortRows_tagged (R:List S37) (h:∀ x ∈ R,0≤x.f0∧x.f0≤4611686018427387904):((tagged R h).mergeSort fun x y=>!(ltOf byTag) y x).map Subtype.val=sortRows R:=by
 unfold sortRows
 rw [List.map_mergeSort (s:=fun x y:S37=>!decide (y.f0 < x.f0)) (fun a _ b _=>by rw [ltTag]),tagged_map]
theorem holds_lines {W:World} {base:Nat} {ok:Nat→Prop} {g n cap:Nat} {R:List S37} [Inhabited (TagLine R)] (h:k37.R 37 W base ok (.slice (some ⟨g,0,none⟩) n cap) R) (ht:∀ x ∈ R,0≤x.f0∧x.f0≤4611686018427387904):HoldsK encLine 2 W g 0 (tagged R ht).toArray:=by
 intro j hj
 obtain ⟨hn,hnc,hC⟩:=Kd.R_reads' h
 have hlen:(tagged R ht).length=R.length:=by simp [tagged]
 simp only [size_flatK,List.size_toArray,hlen] at hj
 have hj2:j / 2 < R.length:=by omega
 obtain ⟨g',cells,hA,hbg,hgl,hok,hh,_,_⟩:=R_shape h (by omega) (by show 0 < 2;omega)
 injection hA with hA
 injection hA with hA
 subst hA
 refine ⟨?_,bk_f hh _⟩
 obtain ⟨ad,ead,q0,q1⟩:=at_T37 hC ((j / 2:Nat):Int) (by omega) (by omega)
 injection ead with ead
 subst ead
 simp only [Int.toNat_natCast,Addr.add_lit,Nat.zero_add] at q0 q1
 rw [Nat.zero_add]
 have er:rdR R ((j / 2:Nat):Int)=R[j / 2]:=by
  show R.getD ((j / 2:Nat):Int).toNat z37=_
  rw [Int.toNat_natCast,List.getD_eq_getElem?_getD,List.getElem?_eq_getElem hj2];rfl
 rw [er] at q0 q1
 have hg:=get_flatK encLine 2 (tagged R ht).toArray j (by rw [List.size_toArray,hlen];exact hj)
 show _=some (id _)
 rw [id,hg]
 have hd:(tagged R ht).toArray[j / 2]! = (tagged R ht)[j / 2]'(by rw [hlen];exact hj2):=by simp [getElem!_pos,hlen,hj2]
 have hd1:((tagged R ht)[j / 2]'(by rw [hlen];exact hj2)).1=R[j / 2]:=by simp [tagged]
 rw [hd]
 have:j=j / 2*2∨j=j / 2*2+1:=by omega
 rcases this with e | e
 ·have e2:j % 2=0:=by omega
  conv=>lhs;rw [e]
  rw [q0,e2]
  simp [encLine,hd1]
 ·have e2:j % 2=1:=by omega
  conv=>lhs;rw [e]
  rw [q1,e2]
  simp [encLine,hd1]
theorem sort_calls {W:World} {base:Nat} {ok:Nat→Prop} {A:Option Addr} {n cap:Nat} {R:List S37} (h:k37.R 37 W base ok (.slice A n cap) R) (h0:0 < n) (hn:n < 4611686018427387904)
  (ht:∀ x ∈ R,0≤x.f0∧x.f0≤4611686018427387904) (hu:∀ x ∈ R,∀ y ∈ R,x.f0=y.f0→x=y) :
  Calls Try.prog 35 #[.slice A n cap,.func (.func 36) #[] #[]] W fun e w'=>e=.returned (.tuple #[])∧k37.R 37 w' base ok (.slice A n cap) (sortRows R)∧Below base W w'∧∀ k,k < W.heap.size→some k≠(Value.slice A n cap).ownBlock→w'.heap[k]?=W.heap[k]?:=by
 have hnR:=(Kd.R_reads' h).1
 obtain ⟨g,cells,hA,hbg,hgl,hok,hh,_,_⟩:=R_shape h h0 (by show 0 < 2;omega)
 subst hA
 haveI:Inhabited (TagLine R):=⟨⟨R[0]'(by omega),List.getElem_mem _,ht _ (List.getElem_mem _)⟩⟩
 have eg:∀ args w,(callFunc 36 args).run Try.prog w=.ok (.enter 36 args) w:=enters_of Try.func36 (by kernel_rfl) rfl
 have hds:(tagged R ht).toArray.size=n:=by simp [tagged,hnR]
 have hH:=holds_lines h ht
 have hcon:=AnyQ.slices_SortFunc_total Try.sortLine 2 isAgg37 sizeOf37 (encLine (R:=R)) (fun _=>rfl) (fun x v hv=>by simp [encLine] at hv;rcases hv with rfl | rfl <;> rfl) byTag swoTag 36 #[] g 0 cap (tagged R ht).toArray W eg (fun _ _ _ _ x y=>Tables1_calls x y _) hH hgl (by omega) (fun x y h1 h2=>by
  rw [ltTag] at h1 h2
  simp at h1 h2
  exact Subtype.ext (hu _ x.2.1 _ y.2.1 (by omega)))
 have hF:(flatK encLine 2 ((tagged R ht).toArray.toList.mergeSort fun x y=>!(ltOf byTag) y x).toArray).toList=lineCells (sortRows R):=by
  rw [flat_lines,sortRows_tagged]
 rw [hds] at hcon
 change Calls Try.prog 35 _ _ _ at hcon
 simp only [sortWorldK,putRowK] at hcon
 generalize flatK encLine 2 ((tagged R ht).toArray.toList.mergeSort fun x y=>!(ltOf byTag) y x).toArray=F at hF hcon
 refine hcon.mono ?_
 rintro e w' ⟨he,q,os,hw⟩
 obtain ⟨r1,r2,r3⟩:=sorted_row h (sortRows R) (by rw [sortRows_len,hnR]) q os F hF
 rw [hw]
 exact ⟨he,r1,r2,fun k h1 h2=>r3 k h1 (fun e=>h2 (by subst e;rfl))⟩
end Go.Proofs.Ytedghbjmhcgilaa.A
end
section
namespace Go.Proofs.Ytedghbjmhcgilaa.A
open Go.RowKit Go.Shelf Go.Proofs.YtedghbjmhcgilaaW.PrintWords Go.Proofs.YtedghbjmhcgilaaW.PrintLast Go.Proofs.YtedghbjmhcgilaaW.PrintMore
open Go.Proofs.Ytedghbjmhcgilaa.POpt
def hasTag (R:List S37) (t:Int):Bool:=R.any (fun r=>r.f0 == t)
def addTag (R:List S37) (t:Int) (at_:Nat):List S37:=if hasTag R t=true then R else R ++ [⟨t,(at_:Int)+1⟩]
def tabGo (l0:List S35):Nat→List S37→Nat→List S37 × Nat
 | 0,R,a=>(R,a)
 | f+1,R,a =>
  if a < l0.length∧(l0.getD a z35).f0=2 then
   if (l0.getD a z35).f2≤(a:Int) then (addTag R (l0.getD a z35).f1 a,a) else tabGo l0 f (addTag R (l0.getD a z35).f1 a) (l0.getD a z35).f2.toNat
  else (R,a)
theorem hasTag_add (R:List S37) (t:Int) (a:Nat) (x:Int):hasTag (addTag R t a) x=(x == t || hasTag R x):=by
 unfold addTag
 by_cases h:hasTag R t=true
 ·rw [if_pos h]
  by_cases hx:x=t
  ·subst hx;simp [h]
  ·simp [hx]
 ·rw [if_neg h]
  unfold hasTag
  rw [List.any_append]
  simp only [List.any_cons,List.any_nil,Bool.or_false]
  rw [Bool.or_comm]
  congr 1
  by_cases hx:t=x
  ·subst hx;simp
  ·rw [beq_eq_false_iff_ne.mpr hx,beq_eq_false_iff_ne.mpr (fun e=>hx e.symm)]
def Rising (L:List S37):Prop:=L.Pairwise (fun x y=>x.f0 < y.f0)
theorem rising_unique:∀ {A B:List S37},Rising A→Rising B→(∀ x,x ∈ A↔x ∈ B)→A=B
 | [],[],_,_,_=>rfl
 | [],b :: B,_,_,h=>by have:=(h b).2 (by simp);simp at this
 | a :: A,[],_,_,h=>by have:=(h a).1 (by simp);simp at this
 | a :: A,b :: B,hA,hB,h=>by
  have hA':=List.pairwise_cons.1 hA
  have hB':=List.pairwise_cons.1 hB
  have hab:a=b:=by
   rcases List.mem_cons.1 ((h a).1 (by simp)) with e | e
   ·exact e
   ·rcases List.mem_cons.1 ((h b).2 (by simp)) with e2 | e2
    ·exact e2.symm
    ·have:=hA'.1 b e2;have:=hB'.1 a e;omega
  subst hab
  have:A=B:=rising_unique hA'.2 hB'.2 (fun x=>by
   constructor
   ·intro hx
    rcases List.mem_cons.1 ((h x).1 (List.mem_cons_of_mem _ hx)) with e | e
    ·subst e;have:=hA'.1 x hx;omega
    ·exact e
   ·intro hx
    rcases List.mem_cons.1 ((h x).2 (List.mem_cons_of_mem _ hx)) with e | e
    ·subst e;have:=hB'.1 x hx;omega
    ·exact e)
  rw [this]
def Once (R:List S37):Prop:=R.Pairwise (fun x y=>x.f0≠y.f0)
theorem hasTag_iff {R:List S37} {t:Int}:hasTag R t=true↔∃ x ∈ R,x.f0=t:=by
 unfold hasTag;rw [List.any_eq_true];simp
theorem once_add {R:List S37} (h:Once R) (t:Int) (a:Nat):Once (addTag R t a):=by
 unfold addTag
 by_cases ht:hasTag R t=true
 ·rw [if_pos ht];exact h
 ·rw [if_neg ht]
  unfold Once
  rw [List.pairwise_append]
  refine ⟨h,by simp,fun x hx y hy=>?_⟩
  simp only [List.mem_singleton] at hy
  subst hy
  intro e
  exact ht (hasTag_iff.2 ⟨x,hx,e⟩)
theorem mem_sortRows {R:List S37} {x:S37}:x ∈ sortRows R↔x ∈ R:=by
 unfold sortRows;exact List.mem_mergeSort
theorem rising_sort {R:List S37} (h:Once R):Rising (sortRows R):=by
 have hp:(sortRows R).Perm R:=List.mergeSort_perm R _
 have h1:Once (sortRows R):=(hp.pairwise_iff (R:=fun x y:S37=>x.f0≠y.f0) (fun hxy e=>hxy e.symm)).2 h
 have h2:(sortRows R).Pairwise (fun x y=>(!decide (y.f0 < x.f0))=true):=List.pairwise_mergeSort (le:=fun x y:S37=>!decide (y.f0 < x.f0)) (fun a b c h1 h2=>by simp at *;omega) (fun a b=>by simp;omega) R
 refine List.Pairwise.imp₂ (fun x y hn hle=>?_) h1 h2
 simp at hle
 omega
def insRef (t dst:Int):List S37→Bool→List S37
 | [],done=>if done then [] else [⟨t,dst⟩]
 | r :: rs,done =>
  let d1:=if r.f0=t then true else done
  if r.f0 > t∧d1=false then ⟨t,dst⟩ :: r :: insRef t dst rs true else r :: insRef t dst rs d1
theorem insRef_true (t dst:Int):∀ L:List S37,insRef t dst L true=L
 | []=>rfl
 | r :: rs=>by
  have ih:=insRef_true t dst rs
  unfold insRef
  simp [ih]
theorem insRef_mem (t dst:Int):∀ {L:List S37},Rising L→∀ x,x ∈ insRef t dst L false↔x ∈ (if hasTag L t=true then L else L ++ [⟨t,dst⟩])
 | [],_,x=>by simp [insRef,hasTag]
 | r :: rs,h,x=>by
  have h':=List.pairwise_cons.1 h
  have ih:=insRef_mem t dst h'.2 x
  unfold insRef
  by_cases e:r.f0=t
  ·have:hasTag (r :: rs) t=true:=hasTag_iff.2 ⟨r,by simp,e⟩
   simp [e,this,insRef_true]
  ·by_cases g:r.f0 > t
   ·have hn:¬ hasTag (r :: rs) t=true:=by
     intro hh
     obtain ⟨y,hy,hyt⟩:=hasTag_iff.1 hh
     rcases List.mem_cons.1 hy with rfl | hy
     ·exact e hyt
     ·have:=h'.1 y hy;omega
    simp [e,g,hn,insRef_true]
    constructor
    ·rintro (h | h | h) <;> simp [h]
    ·rintro (h | h | h) <;> simp [h]
   ·have hh:hasTag (r :: rs) t=hasTag rs t:=by unfold hasTag;simp [e]
    rw [hh]
    simp only [e,g,if_false,false_and,List.mem_cons,ih]
    by_cases ht:hasTag rs t=true
    ·simp [ht]
    ·simp [ht]
theorem insRef_rising (t dst:Int):∀ {L:List S37},Rising L→Rising (insRef t dst L false)
 | [],_=>by simp [insRef,Rising]
 | r :: rs,h=>by
  have h':=List.pairwise_cons.1 h
  have ih:=insRef_rising t dst h'.2
  unfold insRef
  by_cases e:r.f0=t
  ·simp [e,insRef_true];exact h
  ·by_cases g:r.f0 > t
   ·simp [e,g,insRef_true]
    refine List.pairwise_cons.2 ⟨fun x hx=>?_,h⟩
    rcases List.mem_cons.1 hx with rfl | hx
    ·exact g
    ·have:=h'.1 x hx;show t < x.f0;omega
   ·simp only [e,g,if_false,false_and]
    refine List.pairwise_cons.2 ⟨fun x hx=>?_,ih⟩
    have:=(insRef_mem t dst h'.2 x).1 hx
    by_cases ht:hasTag rs t=true
    ·rw [if_pos ht] at this;exact h'.1 x this
    ·rw [if_neg ht] at this
     rcases List.mem_append.1 this with hx | hx
     ·exact h'.1 x hx
     ·simp only [List.mem_singleton] at hx;subst hx;show r.f0 < t;omega
theorem sort_add {R:List S37} (h:Once R) (t:Int) (a:Nat):sortRows (addTag R t a)=insRef t ((a:Int)+1) (sortRows R) false:=by
 refine rising_unique (rising_sort (once_add h t a)) (insRef_rising _ _ (rising_sort h)) fun x=>?_
 rw [mem_sortRows,insRef_mem _ _ (rising_sort h)]
 have hh:hasTag (sortRows R) t=hasTag R t:=by
  rw [Bool.eq_iff_iff,hasTag_iff,hasTag_iff]
  constructor
  ·rintro ⟨x,hx,e⟩;exact ⟨x,mem_sortRows.1 hx,e⟩
  ·rintro ⟨x,hx,e⟩;exact ⟨x,mem_sortRows.2 hx,e⟩
 rw [hh]
 unfold addTag
 by_cases ht:hasTag R t=true
 ·simp [ht,mem_sortRows]
 ·simp [ht,mem_sortRows]
def at5 (l:List S35) (i:Nat):S35:=l.getD i z35
theorem at5_lt {l:List S35} {i:Nat} (h:i < l.length):at5 l i=l[i]:=by simp [at5,h]
theorem at5_set {l:List S35} {i j:Nat} {x:S35} (hi:i < l.length):at5 (l.set i x) j=if j=i then x else at5 l j:=by
 unfold at5
 rw [List.getD_eq_getElem?_getD,List.getD_eq_getElem?_getD,List.getElem?_set]
 by_cases h:j=i
 ·subst h;simp [hi]
 ·simp [h,Ne.symm h]
structure GoodD (l:List S35) (r:List S37):Prop where
 pos:0 < l.length
 head:(at5 l 0).f0=1
 last:(at5 l (l.length - 1)).f0=4
 op:∀ i,i < l.length→1≤(at5 l i).f0∧(at5 l i).f0≤15
 tag:∀ i,i < l.length→(at5 l i).f0=1→i=0
 cas:∀ i,i < l.length→(at5 l i).f0=2→(i:Int) < (at5 l i).f2∧(at5 l i).f2 < l.length
 jump:∀ i,i < l.length→(at5 l i).f0=3→(i:Int) < (at5 l i).f1∧(at5 l i).f1 < l.length
 go:∀ i,i < l.length→(at5 l i).f0=4→(at5 l i).f1=0∨((i:Int) < (at5 l i).f1∧(at5 l i).f1 < l.length)
 rows:∀ y ∈ r,0 < y.f1∧y.f1 < l.length
 rowsJ:∀ y ∈ r,∀ i,i < l.length→(at5 l i).f0=3→(i:Int) < y.f1
 bare:r=[]→∀ i,i < l.length→(at5 l i).f0≠3
structure GoodE (l:List S35):Prop where
 pos:0 < l.length
 op:∀ i,i < l.length→16≤(at5 l i).f0∧(at5 l i).f0≤25
 fin:∀ i,i < l.length→((at5 l i).f0=24↔i=l.length - 1)
 has:∀ i,i < l.length→(at5 l i).f0=16→(i:Int) < (at5 l i).f2∧(at5 l i).f2 < l.length
def tabRef (l0:List S35):Nat→List S37→Nat→List S37 × Nat
 | 0,R,a=>(R,a)
 | f+1,R,a=>if (at5 l0 a).f0=2 then tabRef l0 f (insRef (at5 l0 a).f1 ((a:Int)+1) R false) (at5 l0 a).f2.toNat else (R,a)
theorem tab_same {l0:List S35} {r:List S37} (hg:GoodD l0 r):∀ (f:Nat) (R:List S37) (a:Nat),a < l0.length→l0.length - a≤f→Once R →
  (∀ x ∈ R,∃ i,i < l0.length∧1≤i∧(at5 l0 i).f0=2∧x.f0=(at5 l0 i).f1∧x.f1=(i:Int)+1)→1≤a →
  ∃ R' a',tabGo l0 f R a=(R',a')∧tabRef l0 f (sortRows R) a=(sortRows R',a')∧Once R'∧a' < l0.length∧a≤a'∧(at5 l0 a').f0≠2∧((at5 l0 a).f0=2→a < a') ∧
   (∀ x ∈ R',∃ i,i < l0.length∧1≤i∧(at5 l0 i).f0=2∧x.f0=(at5 l0 i).f1∧x.f1=(i:Int)+1)∧((R≠[]∨(at5 l0 a).f0=2)→R'≠[]):=by
 intro f
 induction f with
 | zero=>intro R a ha hf;omega
 | succ f ih =>
  intro R a ha hf hR hm h1
  by_cases h2:(at5 l0 a).f0=2
  ·obtain ⟨c1,c2⟩:=hg.cas a ha h2
   have e1:tabGo l0 (f+1) R a=tabGo l0 f (addTag R (at5 l0 a).f1 a) (at5 l0 a).f2.toNat:=by
    rw [tabGo,if_pos ⟨ha,h2⟩,if_neg (by show ¬ (at5 l0 a).f2≤(a:Int);omega)];rfl
   have e2:tabRef l0 (f+1) (sortRows R) a=tabRef l0 f (sortRows (addTag R (at5 l0 a).f1 a)) (at5 l0 a).f2.toNat:=by
    rw [tabRef,if_pos h2,sort_add hR]
   have hm':∀ x ∈ addTag R (at5 l0 a).f1 a,∃ i,i < l0.length∧1≤i∧(at5 l0 i).f0=2∧x.f0=(at5 l0 i).f1∧x.f1=(i:Int)+1:=by
    intro x hx
    unfold addTag at hx
    split at hx
    ·exact hm x hx
    ·rcases List.mem_append.1 hx with hx | hx
     ·exact hm x hx
     ·simp only [List.mem_singleton] at hx;subst hx;exact ⟨a,ha,h1,h2,rfl,rfl⟩
   obtain ⟨R',a',q1,q2,q3,q4,q5,q6,q7,q8,q9⟩:=ih (addTag R (at5 l0 a).f1 a) (at5 l0 a).f2.toNat (by omega) (by omega) (once_add hR _ _) hm' (by omega)
   refine ⟨R',a',e1.trans q1,e2.trans q2,q3,q4,by omega,q6,fun _=>by omega,q8,fun _=>q9 (.inl ?_)⟩
   unfold addTag
   split
   ·next ht=>obtain ⟨x,hx,_⟩:=hasTag_iff.1 ht;exact List.ne_nil_of_mem hx
   ·simp
  ·refine ⟨R,a,?_,?_,hR,ha,Nat.le_refl _,h2,fun h=>absurd h h2,hm,fun h=>h.resolve_right h2⟩
   ·rw [tabGo,if_neg (fun h=>h2 h.2)]
   ·rw [tabRef,if_neg h2]
def tabP (l0:List S35) (l2:List S37):List S35 × List S37 :=
 if 0 < l2.length∨l0.length < 2∨(at5 l0 1).f0≠2 then (l0,l2) else (l0.set 1 ⟨3,((tabGo l0 l0.length [] 1).2:Int),0,0,0⟩,sortRows (tabGo l0 l0.length [] 1).1)
def tabRefP (l0:List S35) (l2:List S37):List S35 × List S37 :=
 if 0 < l2.length∨l0.length < 2∨(at5 l0 1).f0≠2 then (l0,l2) else (l0.set 1 ⟨3,((tabRef l0 l0.length [] 1).2:Int),0,0,0⟩,(tabRef l0 l0.length [] 1).1)
theorem sortRows_nil:sortRows []=[]:=by unfold sortRows;exact List.mergeSort_nil
theorem tabP_ref {l0:List S35} {l2:List S37} (hg:GoodD l0 l2):tabRefP l0 l2=tabP l0 l2:=by
 unfold tabP tabRefP
 by_cases h:0 < l2.length∨l0.length < 2∨(at5 l0 1).f0≠2
 ·rw [if_pos h,if_pos h]
 ·rw [if_neg h,if_neg h]
  obtain ⟨R',a',q1,q2,_⟩:=tab_same hg l0.length [] 1 (by omega) (by omega) List.Pairwise.nil (by simp) (Nat.le_refl _)
  rw [sortRows_nil] at q2
  rw [q1,q2]
theorem tabP_good {l0:List S35} {l2:List S37} (hg:GoodD l0 l2):GoodD (tabP l0 l2).1 (tabP l0 l2).2:=by
 unfold tabP
 by_cases h:0 < l2.length∨l0.length < 2∨(at5 l0 1).f0≠2
 ·rw [if_pos h];exact hg
 ·rw [if_neg h]
  have h2:(at5 l0 1).f0=2:=by false_or_by_contra;exact h (.inr (.inr ‹_›))
  have hl:2≤l0.length:=by omega
  have hr:l2=[]:=List.eq_nil_of_length_eq_zero (by omega)
  obtain ⟨R',a',q1,q2,q3,q4,q5,q6,q7,q8,q9⟩:=tab_same hg l0.length [] 1 (by omega) (by omega) List.Pairwise.nil (by simp) (Nat.le_refl _)
  rw [q1]
  have q7:=q7 h2
  have q9:=q9 (.inr h2)
  have hnj:=hg.bare hr
  have hs:∀ j,at5 (l0.set 1 ⟨3,(a':Int),0,0,0⟩) j=if j=1 then ⟨3,(a':Int),0,0,0⟩ else at5 l0 j:=fun j=>at5_set (by omega)
  refine ⟨by simp;omega,by rw [hs,if_neg (by omega)];exact hg.head,?_,?_,?_,?_,?_,?_,?_,?_,?_⟩
  ·rw [hs,List.length_set,if_neg]
   ·exact hg.last
   ·intro e
    have:=hg.last
    rw [e,h2] at this
    omega
  ·intro i hi
   rw [List.length_set] at hi
   rw [hs];split
   ·exact ⟨by show (1:Int)≤3;omega,by show (3:Int)≤15;omega⟩
   ·exact hg.op i hi
  ·intro i hi
   rw [List.length_set] at hi
   rw [hs];split
   ·intro h;have h:(3:Int)=1:=h;omega
   ·exact hg.tag i hi
  ·intro i hi
   rw [List.length_set] at *
   rw [hs];split
   ·intro h;have h:(3:Int)=2:=h;omega
   ·exact hg.cas i hi
  ·intro i hi
   rw [List.length_set] at *
   rw [hs];split
   ·next e=>intro _;subst e;show ((1:Nat):Int) < (a':Int)∧(a':Int) < _;omega
   ·exact hg.jump i hi
  ·intro i hi
   rw [List.length_set] at *
   rw [hs];split
   ·intro h;have h:(3:Int)=4:=h;omega
   ·exact hg.go i hi
  ·intro y hy
   obtain ⟨i,i1,i2,i3,i4,i5⟩:=q8 y (mem_sortRows.1 hy)
   have:=hg.cas i i1 i3
   rw [List.length_set]
   omega
  ·intro y hy j hj
   rw [List.length_set] at hj
   obtain ⟨i,i1,i2,i3,i4,i5⟩:=q8 y (mem_sortRows.1 hy)
   rw [hs];split
   ·next e=>intro _;omega
   ·intro h;exact absurd h (hnj j hj)
  ·intro e
   exfalso
   change sortRows R'=[] at e
   refine q9 ?_
   cases R' with
   | nil=>rfl
   | cons x L=>have:x ∈ sortRows (x :: L):=mem_sortRows.2 (by simp);rw [e] at this;simp at this
def cnt (out : List Bool) (i : Nat) : Nat := ((out.take i).filter (!·)).length
def stays (out : List Bool) (i : Nat) : Prop := out.getD i true = false
theorem stays_lt {out : List Bool} {i : Nat} (h : stays out i) : i < out.length := by
  unfold stays at h
  rw [List.getD_eq_getElem?_getD] at h
  false_or_by_contra
  rw [List.getElem?_eq_none (by omega)] at h
  simp at h
theorem cnt_zero (out : List Bool) : cnt out 0 = 0 := by simp [cnt]
theorem cnt_succ_stay {out : List Bool} {i : Nat} (h : stays out i) : cnt out (i + 1) = cnt out i + 1 := by
  have hl := stays_lt h
  unfold cnt
  have hb : out[i] = false := by unfold stays at h; simpa [hl] using h
  rw [List.take_succ_eq_append_getElem hl, List.filter_append, hb]
  simp
theorem cnt_succ_out {out : List Bool} {i : Nat} (h : ¬ stays out i) : cnt out (i + 1) = cnt out i := by
  unfold cnt
  by_cases hl : i < out.length
  · have hb : out[i] = true := by
      unfold stays at h
      simpa [hl] using h
    rw [List.take_succ_eq_append_getElem hl, List.filter_append, hb]
    simp
  · rw [List.take_of_length_le (by omega), List.take_of_length_le (by omega)]
theorem cnt_succ_le (out : List Bool) (i : Nat) : cnt out i ≤ cnt out (i + 1) := by
  by_cases h : stays out i
  · rw [cnt_succ_stay h]; omega
  · rw [cnt_succ_out h]; omega
theorem cnt_mono (out : List Bool) {i j : Nat} (h : i ≤ j) : cnt out i ≤ cnt out j := by
  induction j with
  | zero => have : i = 0 := by omega
            subst this; exact Nat.le_refl _
  | succ j ih =>
    by_cases e : i = j + 1
    · subst e; exact Nat.le_refl _
    · exact Nat.le_trans (ih (by omega)) (cnt_succ_le out j)
theorem cnt_lt {out : List Bool} {i j : Nat} (hs : stays out i) (h : i < j) : cnt out i < cnt out j := by
  have := cnt_succ_stay hs
  have := cnt_mono out (show i + 1 ≤ j by omega)
  omega
theorem cnt_le (out : List Bool) (i : Nat) : cnt out i ≤ i := by
  unfold cnt
  exact Nat.le_trans (List.length_filter_le _ _) (by simp; omega)
theorem cnt_inj {out : List Bool} {i j : Nat} (hi : stays out i) (hj : stays out j) (h : cnt out i = cnt out j) : i = j := by
  false_or_by_contra
  rcases Nat.lt_or_ge i j with g | g
  · have := cnt_lt hi g; omega
  · have := cnt_lt hj (show j < i by omega); omega
theorem cnt_ex {out : List Bool} : ∀ {n j : Nat}, j < cnt out n → ∃ i, i < n ∧ stays out i ∧ cnt out i = j := by
  intro n
  induction n with
  | zero => intro j h; rw [cnt_zero] at h; omega
  | succ n ih =>
    intro j h
    by_cases hs : stays out n
    · rw [cnt_succ_stay hs] at h
      by_cases e : j = cnt out n
      · exact ⟨n, by omega, hs, e.symm⟩
      · obtain ⟨i, h1, h2, h3⟩ := ih (show j < cnt out n by omega)
        exact ⟨i, by omega, h2, h3⟩
    · rw [cnt_succ_out hs] at h
      obtain ⟨i, h1, h2, h3⟩ := ih h
      exact ⟨i, by omega, h2, h3⟩
theorem kept_step {l : List S35} {out : List Bool} {k : Nat} (hk : k < l.length) (hl : out.length = l.length) : keptAt l out (k + 1) = if out[k] then keptAt l out k else keptAt l out k ++ [l[k]] := by
  unfold keptAt
  have hz : k < (l.zip out).length := by simp; omega
  rw [List.take_succ_eq_append_getElem hz, List.getElem_zip, List.filter_append, List.map_append]
  cases out[k] <;> simp
theorem kept_len {l : List S35} {out : List Bool} (hl : out.length = l.length) : ∀ k, k ≤ l.length → (keptAt l out k).length = cnt out k := by
  intro k
  induction k with
  | zero => intro _; simp [keptAt, cnt]
  | succ k ih =>
    intro hk
    rw [kept_step (by omega) hl]
    by_cases hs : stays out k
    · have hb : out[k] = false := by unfold stays at hs; simpa [show k < out.length by omega] using hs
      rw [cnt_succ_stay hs, hb]
      simp [ih (by omega)]
    · have hb : out[k] = true := by unfold stays at hs; simpa [show k < out.length by omega] using hs
      rw [cnt_succ_out hs, hb]
      simp [ih (by omega)]
theorem kept_at {l : List S35} {out : List Bool} (hl : out.length = l.length) : ∀ k, k ≤ l.length → ∀ i, i < k → stays out i → at5 (keptAt l out k) (cnt out i) = at5 l i := by
  intro k
  induction k with
  | zero => intro _ i hi; omega
  | succ k ih =>
    intro hk i hi hs
    rw [kept_step (by omega) hl]
    have hlen := kept_len hl k (by omega)
    by_cases e : i = k
    · subst e
      have hb : out[i] = false := by unfold stays at hs; simpa [show i < out.length by omega] using hs
      rw [hb]
      unfold at5
      simp only [List.getD_eq_getElem?_getD]
      rw [if_neg (by simp), List.getElem?_append_right (by omega), hlen, Nat.sub_self]
      simp [show i < l.length by omega]
    · have hlt := cnt_lt hs (show i < k by omega)
      have := ih (by omega) i (by omega) hs
      split
      · exact this
      · unfold at5 at *
        simp only [List.getD_eq_getElem?_getD] at *
        rw [List.getElem?_append_left (by omega)]
        exact this
theorem at5_map {φ : S35 → S35} {l : List S35} {i : Nat} (h : i < l.length) : at5 (l.map φ) i = φ (at5 l i) := by
  unfold at5; simp [h]
def namesStay (out : List Bool) (x : S35) : Prop := ∀ j, namedOff x.f0 = some j → 0 ≤ getF x j ∧ stays out (getF x j).toNat
theorem toNow_stay {out : List Bool} {n : Nat} (hn : out.length = n) (op c : Int) (h0 : 0 ≤ c) (h : stays out c.toNat) : toNow out n op c = (cnt out c.toNat : Int) := by
  have := stays_lt h
  unfold toNow nowAt
  rw [if_pos ⟨h0, by omega, h⟩]
  rfl
def withoutP (l : List S35) (r : List S37) (out : List Bool) : List S35 × List S37 := ((keptAt l out l.length).map (placed (toNow out l.length)), r.map (placedR (toNow out l.length)))
theorem placed_f0 (φ : Int → Int → Int) (x : S35) : (placed φ x).f0 = x.f0 := by
  unfold placed
  split
  · unfold setF; split <;> rfl
  · rfl
theorem placed_3 (φ : Int → Int → Int) {x : S35} (h : x.f0 = 3) : placed φ x = { x with f1 := φ 3 x.f1 } := by
  unfold placed namedOff; simp [h, setF, getF]
theorem placed_4 (φ : Int → Int → Int) {x : S35} (h : x.f0 = 4) : placed φ x = { x with f1 := φ 4 x.f1 } := by
  unfold placed namedOff; simp [h, setF, getF]
theorem placed_2 (φ : Int → Int → Int) {x : S35} (h : x.f0 = 2) : placed φ x = { x with f2 := φ 2 x.f2 } := by
  unfold placed namedOff; simp [h, setF, getF]
theorem placed_16 (φ : Int → Int → Int) {x : S35} (h : x.f0 = 16) : placed φ x = { x with f2 := φ 16 x.f2 } := by
  unfold placed namedOff; simp [h, setF, getF]
theorem placed_else (φ : Int → Int → Int) {x : S35} (h2 : x.f0 ≠ 2) (h3 : x.f0 ≠ 3) (h4 : x.f0 ≠ 4) (h16 : x.f0 ≠ 16) : placed φ x = x := by
  unfold placed namedOff; simp [h2, h3, h4, h16]
theorem named_2 {x : S35} (h : x.f0 = 2) : namedOff x.f0 = some 2 := by unfold namedOff; simp [h]
theorem named_3 {x : S35} (h : x.f0 = 3) : namedOff x.f0 = some 1 := by unfold namedOff; simp [h]
theorem named_4 {x : S35} (h : x.f0 = 4) : namedOff x.f0 = some 1 := by unfold namedOff; simp [h]
theorem named_16 {x : S35} (h : x.f0 = 16) : namedOff x.f0 = some 2 := by unfold namedOff; simp [h]
theorem without_at {l : List S35} {r : List S37} {out : List Bool} (hl : out.length = l.length) {i : Nat} (h : stays out i) : at5 (withoutP l r out).1 (cnt out i) = placed (toNow out l.length) (at5 l i) := by
  have hi := stays_lt h
  unfold withoutP
  rw [at5_map (by rw [kept_len hl _ (Nat.le_refl _)]; exact cnt_lt h (by omega)), kept_at hl _ (Nat.le_refl _) i (by omega) h]
theorem without_len {l : List S35} {r : List S37} {out : List Bool} (hl : out.length = l.length) : (withoutP l r out).1.length = cnt out l.length := by
  unfold withoutP; simp [kept_len hl _ (Nat.le_refl _)]
theorem without_ex {l : List S35} {r : List S37} {out : List Bool} (hl : out.length = l.length) {j : Nat} (h : j < (withoutP l r out).1.length) : ∃ i, i < l.length ∧ stays out i ∧ cnt out i = j ∧ at5 (withoutP l r out).1 j = placed (toNow out l.length) (at5 l i) := by
  rw [without_len hl] at h
  obtain ⟨i, h1, h2, h3⟩ := cnt_ex h
  exact ⟨i, h1, h2, h3, by rw [← h3]; exact without_at hl h2⟩
theorem without_good {l : List S35} {r : List S37} {out : List Bool} (hg : GoodD l r) (hl : out.length = l.length) (h0 : stays out 0) (hz : stays out (l.length - 1)) (hn : ∀ i, stays out i → namesStay out (at5 l i)) (hr : ∀ y ∈ r, stays out y.f1.toNat) :
    GoodD (withoutP l r out).1 (withoutP l r out).2 := by
  have hp := hg.pos
  have c0 : cnt out 0 = 0 := cnt_zero out
  have hlen := without_len (r := r) hl
  have hlast : cnt out (l.length - 1) + 1 = cnt out l.length := by
    have := cnt_succ_stay hz
    rw [show l.length - 1 + 1 = l.length by omega] at this
    omega
  have hin : ∀ i, stays out i → cnt out i < cnt out l.length := fun i h => cnt_lt h (by have := stays_lt h; omega)
  refine ⟨by omega, ?_, ?_, ?_, ?_, ?_, ?_, ?_, ?_, ?_, ?_⟩
  · have := without_at (r := r) hl h0
    rw [c0] at this
    rw [this, placed_f0]; exact hg.head
  · rw [hlen, show cnt out l.length - 1 = cnt out (l.length - 1) by omega, without_at hl hz, placed_f0]; exact hg.last
  · intro j hj
    obtain ⟨i, h1, h2, h3, h4⟩ := without_ex hl hj
    rw [h4, placed_f0]; exact hg.op i h1
  · intro j hj ht
    obtain ⟨i, h1, h2, h3, h4⟩ := without_ex hl hj
    rw [h4, placed_f0] at ht
    have := hg.tag i h1 ht
    subst this
    omega
  · intro j hj ht
    obtain ⟨i, h1, h2, h3, h4⟩ := without_ex hl hj
    rw [h4, placed_f0] at ht
    obtain ⟨q1, q2⟩ := hg.cas i h1 ht
    obtain ⟨s1, s2⟩ := hn i h2 2 (named_2 ht)
    rw [h4, placed_2 _ ht]
    have e : getF (at5 l i) 2 = (at5 l i).f2 := rfl
    rw [e] at s1 s2
    show (j : Int) < toNow out l.length 2 (at5 l i).f2 ∧ toNow out l.length 2 (at5 l i).f2 < _
    rw [toNow_stay hl _ _ s1 s2, hlen]
    have := cnt_lt h2 (show i < (at5 l i).f2.toNat by omega)
    have := hin _ s2
    omega
  · intro j hj ht
    obtain ⟨i, h1, h2, h3, h4⟩ := without_ex hl hj
    rw [h4, placed_f0] at ht
    obtain ⟨q1, q2⟩ := hg.jump i h1 ht
    obtain ⟨s1, s2⟩ := hn i h2 1 (named_3 ht)
    rw [h4, placed_3 _ ht]
    have e : getF (at5 l i) 1 = (at5 l i).f1 := rfl
    rw [e] at s1 s2
    show (j : Int) < toNow out l.length 3 (at5 l i).f1 ∧ toNow out l.length 3 (at5 l i).f1 < _
    rw [toNow_stay hl _ _ s1 s2, hlen]
    have := cnt_lt h2 (show i < (at5 l i).f1.toNat by omega)
    have := hin _ s2
    omega
  · intro j hj ht
    obtain ⟨i, h1, h2, h3, h4⟩ := without_ex hl hj
    rw [h4, placed_f0] at ht
    obtain ⟨s1, s2⟩ := hn i h2 1 (named_4 ht)
    rw [h4, placed_4 _ ht]
    have e : getF (at5 l i) 1 = (at5 l i).f1 := rfl
    rw [e] at s1 s2
    show toNow out l.length 4 (at5 l i).f1 = 0 ∨ (j : Int) < toNow out l.length 4 (at5 l i).f1 ∧ toNow out l.length 4 (at5 l i).f1 < _
    rw [toNow_stay hl _ _ s1 s2, hlen]
    have := hin _ s2
    rcases hg.go i h1 ht with q | ⟨q1, q2⟩
    · left; rw [q]; show ((cnt out 0 : Nat) : Int) = 0; omega
    · have := cnt_lt h2 (show i < (at5 l i).f1.toNat by omega)
      right; omega
  · intro y hy
    obtain ⟨x, hx, rfl⟩ := List.mem_map.1 hy
    obtain ⟨q1, q2⟩ := hg.rows x hx
    have hs := hr x hx
    show 0 < toNow out l.length 3 x.f1 ∧ toNow out l.length 3 x.f1 < _
    rw [toNow_stay hl _ _ (by omega) hs, hlen]
    have := cnt_lt h0 (show 0 < x.f1.toNat by omega)
    have := hin _ hs
    omega
  · intro y hy j hj ht
    obtain ⟨x, hx, rfl⟩ := List.mem_map.1 hy
    obtain ⟨i, h1, h2, h3, h4⟩ := without_ex hl hj
    rw [h4, placed_f0] at ht
    have q := hg.rowsJ x hx i h1 ht
    have hs := hr x hx
    have q1 := hg.rows x hx
    show (j : Int) < toNow out l.length 3 x.f1
    rw [toNow_stay hl _ _ (by omega) hs]
    have := cnt_lt h2 (show i < x.f1.toNat by omega)
    omega
  · intro e j hj
    obtain ⟨i, h1, h2, h3, h4⟩ := without_ex hl hj
    rw [h4, placed_f0]
    refine hg.bare ?_ i h1
    exact List.map_eq_nil_iff.1 e
theorem without_goodE {l : List S35} {out : List Bool} (hg : GoodE l) (hl : out.length = l.length) (hz : stays out (l.length - 1)) (hn : ∀ i, stays out i → namesStay out (at5 l i)) :
    GoodE (withoutP l [] out).1 := by
  have hp := hg.pos
  have hlen := without_len (r := []) hl
  have hlast : cnt out (l.length - 1) + 1 = cnt out l.length := by
    have := cnt_succ_stay hz
    rw [show l.length - 1 + 1 = l.length by omega] at this
    omega
  have hin : ∀ i, stays out i → cnt out i < cnt out l.length := fun i h => cnt_lt h (by have := stays_lt h; omega)
  refine ⟨by omega, ?_, ?_, ?_⟩
  · intro j hj
    obtain ⟨i, h1, h2, h3, h4⟩ := without_ex hl hj
    rw [h4, placed_f0]; exact hg.op i h1
  · intro j hj
    obtain ⟨i, h1, h2, h3, h4⟩ := without_ex hl hj
    rw [h4, placed_f0, hg.fin i h1, hlen]
    constructor
    · intro e; subst e; omega
    · intro e; exact cnt_inj h2 hz (by omega)
  · intro j hj ht
    obtain ⟨i, h1, h2, h3, h4⟩ := without_ex hl hj
    rw [h4, placed_f0] at ht
    obtain ⟨q1, q2⟩ := hg.has i h1 ht
    obtain ⟨s1, s2⟩ := hn i h2 2 (named_16 ht)
    rw [h4, placed_16 _ ht]
    have e : getF (at5 l i) 2 = (at5 l i).f2 := rfl
    rw [e] at s1 s2
    show (j : Int) < toNow out l.length 16 (at5 l i).f2 ∧ toNow out l.length 16 (at5 l i).f2 < _
    rw [toNow_stay hl _ _ s1 s2, hlen]
    have := cnt_lt h2 (show i < (at5 l i).f2.toNat by omega)
    have := hin _ s2
    omega
theorem mark_len' (n:Nat) (T:List Bool) (c:Int):(mark n T c).length=T.length:=by unfold mark;split <;> simp
theorem mark_get {n:Nat} {T:List Bool} (hT:T.length=n) (c:Int) (j:Nat) (hj:j < n):(mark n T c).getD j false=(T.getD j false || decide ((j:Int)=c)):=by
 unfold mark
 by_cases h:0≤c∧c < n
 ·rw [if_pos h,List.getD_eq_getElem?_getD,List.getElem?_set]
  by_cases e:c.toNat=j
  ·rw [if_pos e,if_pos (by omega)]
   have:(j:Int)=c:=by omega
   simp [this]
  ·rw [if_neg e]
   have:¬ (j:Int)=c:=by omega
   simp [this,List.getD_eq_getElem?_getD]
 ·rw [if_neg h]
  have:¬ (j:Int)=c:=by omega
  simp [this]
theorem marks_get {n:Nat} (L:List Int):∀ {T:List Bool},T.length=n→∀ j,j < n→(L.foldl (mark n) T).getD j false=(T.getD j false || decide ((j:Int) ∈ L)):=by
 induction L with
 | nil=>intro T hT j hj;simp
 | cons c L ih =>
  intro T hT j hj
  rw [List.foldl_cons,ih (by rw [mark_len'];exact hT) j hj,mark_get hT c j hj]
  simp only [List.mem_cons,Bool.decide_or,Bool.or_assoc]
theorem targets_get (l0:List S35) (l1:List S37) (j:Nat) (hj:j < l0.length):(targets l0 l1).getD j false=decide ((j:Int) ∈ vals l0 l1):=by
 unfold targets
 rw [marks_get _ (by simp) j hj]
 simp [hj]
theorem at5_mem {l:List S35} {i:Nat} (h:i < l.length):at5 l i ∈ l:=by rw [at5_lt h];exact List.getElem_mem h
theorem vals_step {l0:List S35} {l1:List S37} {i j:Nat} (hi:i < l0.length) (h:namedOff (at5 l0 i).f0=some j):getF (at5 l0 i) j ∈ vals l0 l1:=by
 unfold vals
 refine List.mem_append_left _ (List.mem_filterMap.2 ⟨at5 l0 i,at5_mem hi,?_⟩)
 rw [h];rfl
theorem vals_row {l0:List S35} {l1:List S37} {y:S37} (h:y ∈ l1):y.f1 ∈ vals l0 l1:=by
 unfold vals
 exact List.mem_append_right _ (List.mem_map.2 ⟨y,h,rfl⟩)
structure FI (l:List S35) (T:List Bool) (s:List S35) (o:List Bool) (i:Nat):Prop where
 ls:s.length=l.length
 lo:o.length=l.length
 rest:∀ j,i≤j→at5 s j=at5 l j∧(j < l.length→stays o j)
 is:∀ j,j < l.length→¬ stays o j→0 < j∧j < i∧stays o (j - 1)∧fz (at5 l (j - 1)) (at5 l j)=some (at5 s (j - 1))∧T.getD j false=false∧at5 s j=at5 l j
 at_:∀ j,j < l.length→stays o j→at5 s j=at5 l j∨(j+1 < l.length∧¬ stays o (j+1)∧fz (at5 l j) (at5 l (j+1))=some (at5 s j))
theorem stays_set {o:List Bool} {i j:Nat} (hi:i < o.length):stays (o.set i true) j↔j≠i∧stays o j:=by
 unfold stays
 rw [List.getD_eq_getElem?_getD,List.getD_eq_getElem?_getD,List.getElem?_set]
 by_cases h:i=j
 ·subst h;simp [hi]
 ·simp [h,Ne.symm h]
theorem fuse_inv {l:List S35} {T:List Bool}:∀ (f:Nat) (s:List S35) (o:List Bool) (i:Nat),FI l T s o i→∃ i',FI l T (fuseGo T f s o i).1 (fuseGo T f s o i).2 i':=by
 intro f
 induction f with
 | zero=>intro s o i h;exact ⟨i,h⟩
 | succ f ih =>
  intro s o i h
  rw [fuseGo]
  by_cases hi:i+1 < s.length
  ·rw [if_pos hi]
   have hil:i+1 < l.length:=by rw [← h.ls];exact hi
   have h1:=(h.rest i (Nat.le_refl _))
   have h2:=(h.rest (i+1) (by omega))
   have e1:s.getD i z35=at5 l i:=h1.1
   have e2:s.getD (i+1) z35=at5 l (i+1):=h2.1
   rw [e1,e2]
   have step:FI l T s o (i+1):=⟨h.ls,h.lo,fun j hj=>h.rest j (by omega),fun j hj hs=>by
    obtain ⟨a,b,c⟩:=h.is j hj hs
    exact ⟨a,by omega,c⟩,h.at_⟩
   cases hz:fz (at5 l i) (at5 l (i+1)) with
   | none=>exact ih s o (i+1) step
   | some z =>
    by_cases ht:T.getD (i+1) false=false
    ·simp only [ht,if_true]
     refine ih _ _ (i+2) ⟨by simp;exact h.ls,by simp;exact h.lo,?_,?_,?_⟩
     ·intro j hj
      rw [at5_set (by omega),if_neg (by omega)]
      refine ⟨(h.rest j (by omega)).1,fun hjl=>(stays_set (by rw [h.lo];exact hil)).2 ⟨by omega,(h.rest j (by omega)).2 hjl⟩⟩
     ·intro j hj hs
      by_cases e:j=i+1
      ·subst e
       refine ⟨by omega,by omega,(stays_set (by rw [h.lo];exact hil)).2 ⟨by omega,by simpa using h1.2 (by omega)⟩,?_,ht,?_⟩
       ·rw [at5_set (by omega)];simpa using hz
       ·rw [at5_set (by omega),if_neg (by omega)];exact h2.1
      ·have hs':¬ stays o j:=fun q=>hs ((stays_set (by rw [h.lo];exact hil)).2 ⟨e,q⟩)
       obtain ⟨a,b,c,d,g,g2⟩:=h.is j hj hs'
       refine ⟨a,by omega,(stays_set (by rw [h.lo];exact hil)).2 ⟨by omega,c⟩,?_,g,?_⟩
       ·rw [at5_set (by omega),if_neg (by omega)];exact d
       ·rw [at5_set (by omega),if_neg (by omega)];exact g2
     ·intro j hj hs
      obtain ⟨hne,hs'⟩:=(stays_set (by rw [h.lo];exact hil)).1 hs
      by_cases e:j=i
      ·subst e
       right
       refine ⟨hil,fun q=>((stays_set (by rw [h.lo];exact hil)).1 q).1 rfl,?_⟩
       rw [at5_set (by omega),if_pos rfl];exact hz
      ·rw [at5_set (by omega),if_neg e]
       rcases h.at_ j hj hs' with q | ⟨q1,q2,q3⟩
       ·exact .inl q
       ·exact .inr ⟨q1,fun q=>q2 ((stays_set (by rw [h.lo];exact hil)).1 q).2,q3⟩
    ·simp only [ht]
     exact ih s o (i+1) step
  ·rw [if_neg hi];exact ⟨i,h⟩
theorem fuse_end (l0:List S35) (l1:List S37):∃ i,FI l0 (targets l0 l1) (fuseEnd l0 l1).1 (fuseEnd l0 l1).2 i:=by
 unfold fuseEnd
 refine fuse_inv _ _ _ 0 ⟨rfl,by simp,fun j _=>⟨rfl,fun hj=>by simp [stays,hj]⟩,fun j hj hs=>absurd (by simp [stays,hj]) hs,fun j hj _=>.inl rfl⟩
theorem fz_cases {x y z:S35} (h:fz x y=some z):(x.f0=5∧y.f0=7∧z.f0=14)∨(x.f0=5∧y.f0=8∧z.f0=15)∨(x.f0=17∧y.f0=18∧z.f0=25):=by
 unfold fz at h
 repeat' split at h
 all_goals first | (injection h with h;subst h;simp_all) | cases h
theorem fuseP_eq (l0:List S35) (l1:List S37):fuseP l0 l1=withoutP (fuseEnd l0 l1).1 l1 (fuseEnd l0 l1).2:=by
 obtain ⟨i,h⟩:=fuse_end l0 l1
 unfold fuseP withoutP
 rw [h.ls]
section
variable {l:List S35} {r:List S37} {s:List S35} {o:List Bool} {i:Nat}
theorem FI.or (h:FI l (targets l r) s o i) {j:Nat} (hj:j < l.length):at5 s j=at5 l j∨(j+1 < l.length∧fz (at5 l j) (at5 l (j+1))=some (at5 s j)):=by
 by_cases hs:stays o j
 ·rcases h.at_ j hj hs with q | ⟨q1,_,q3⟩
  ·exact .inl q
  ·exact .inr ⟨q1,q3⟩
 ·exact .inl (h.is j hj hs).2.2.2.2.2
theorem FI.goodD (h:FI l (targets l r) s o i) (hg:GoodD l r):GoodD s r:=by
 have hor:=fun {j} hj=>FI.or h (j:=j) hj
 have key:∀ j,j < l.length→at5 s j=at5 l j∨((at5 l j).f0=5∧((at5 s j).f0=14∨(at5 s j).f0=15)):=by
  intro j hj
  rcases hor hj with q | ⟨q1,q2⟩
  ·exact .inl q
  ·have o1:=hg.op j hj
   rcases fz_cases q2 with ⟨a,b,c⟩ | ⟨a,b,c⟩ | ⟨a,b,c⟩
   ·exact .inr ⟨a,.inl c⟩
   ·exact .inr ⟨a,.inr c⟩
   ·omega
 have hls:=h.ls
 have hp:=hg.pos
 refine ⟨by omega,?_,?_,?_,?_,?_,?_,?_,?_,?_,?_⟩
 ·have:=hg.head
  rcases key 0 hp with q | ⟨q1,q2⟩
  ·rw [q];exact this
  ·omega
 ·have:=hg.last
  rw [hls]
  rcases key (l.length - 1) (by omega) with q | ⟨q1,q2⟩
  ·rw [q];exact this
  ·omega
 ·intro j hj
  have:=hg.op j (by omega)
  rcases key j (by omega) with q | ⟨q1,q2⟩
  ·rw [q];exact this
  ·omega
 ·intro j hj
  rcases key j (by omega) with q | ⟨q1,q2⟩
  ·rw [q];exact hg.tag j (by omega)
  ·omega
 ·intro j hj
  rw [hls]
  rcases key j (by omega) with q | ⟨q1,q2⟩
  ·rw [q];exact hg.cas j (by omega)
  ·omega
 ·intro j hj
  rw [hls]
  rcases key j (by omega) with q | ⟨q1,q2⟩
  ·rw [q];exact hg.jump j (by omega)
  ·omega
 ·intro j hj
  rw [hls]
  rcases key j (by omega) with q | ⟨q1,q2⟩
  ·rw [q];exact hg.go j (by omega)
  ·omega
 ·intro y hy;rw [hls];exact hg.rows y hy
 ·intro y hy j hj
  rcases key j (by omega) with q | ⟨q1,q2⟩
  ·rw [q];exact hg.rowsJ y hy j (by omega)
  ·omega
 ·intro e j hj
  rcases key j (by omega) with q | ⟨q1,q2⟩
  ·rw [q];exact hg.bare e j (by omega)
  ·omega
theorem FI.outD (h:FI l (targets l r) s o i) {j:Nat} (hj:j < l.length) (hs:¬ stays o j):((at5 l j).f0=7∨(at5 l j).f0=8∨(at5 l j).f0=18)∧0 < j∧¬ ((j:Int) ∈ vals l r):=by
 obtain ⟨a,b,c,d,e,f⟩:=h.is j hj hs
 refine ⟨?_,a,?_⟩
 ·rcases fz_cases d with ⟨_,q,_⟩ | ⟨_,q,_⟩ | ⟨_,q,_⟩ <;> omega
 ·rw [targets_get l r j hj] at e;simpa using e
theorem FI.conds (h:FI l (targets l r) s o i) (hg:GoodD l r):o.length=s.length∧stays o 0∧stays o (s.length - 1)∧(∀ j,stays o j→namesStay o (at5 s j))∧(∀ y ∈ r,stays o y.f1.toNat):=by
 have hp:=hg.pos
 have nm:∀ p:Int,0≤p→p < l.length→p ∈ vals l r→stays o p.toNat:=by
  intro p h0 h1 hv
  false_or_by_contra
  rename_i hs
  obtain ⟨_,_,hn⟩:=h.outD (j:=p.toNat) (by omega) hs
  rw [show ((p.toNat:Nat):Int)=p by omega] at hn
  exact hn hv
 refine ⟨by rw [h.lo,h.ls],?_,?_,?_,?_⟩
 ·false_or_by_contra
  rename_i hs
  have:=(h.outD hp hs).2.1
  omega
 ·rw [h.ls]
  false_or_by_contra
  rename_i hs
  have:=(h.outD (j:=l.length - 1) (by omega) hs).1
  have:=hg.last
  omega
 ·intro j hs
  have hj:j < l.length:=by have:=stays_lt hs;have:=h.lo;omega
  rcases h.or hj with q | ⟨q1,q2⟩
  ·intro k hk
   rw [q] at hk ⊢
   have hv:=vals_step (l1:=r) hj hk
   by_cases h2:(at5 l j).f0=2
   ·rw [named_2 h2] at hk;injection hk with hk;subst hk
    have:=hg.cas j hj h2
    have e:getF (at5 l j) 2=(at5 l j).f2:=rfl
    rw [e] at hv ⊢
    exact ⟨by omega,nm _ (by omega) (by omega) hv⟩
   ·by_cases h3:(at5 l j).f0=3
    ·rw [named_3 h3] at hk;injection hk with hk;subst hk
     have:=hg.jump j hj h3
     have e:getF (at5 l j) 1=(at5 l j).f1:=rfl
     rw [e] at hv ⊢
     exact ⟨by omega,nm _ (by omega) (by omega) hv⟩
    ·by_cases h4:(at5 l j).f0=4
     ·rw [named_4 h4] at hk;injection hk with hk;subst hk
      have:=hg.go j hj h4
      have e:getF (at5 l j) 1=(at5 l j).f1:=rfl
      rw [e] at hv ⊢
      exact ⟨by omega,nm _ (by omega) (by omega) hv⟩
     ·have:=hg.op j hj
      unfold namedOff at hk
      rw [if_neg h3,if_neg h4,if_neg h2,if_neg (by omega)] at hk
      cases hk
  ·intro k hk
   exfalso
   have e:(at5 s j).f0=14∨(at5 s j).f0=15∨(at5 s j).f0=25:=by
    rcases fz_cases q2 with ⟨_,_,q⟩ | ⟨_,_,q⟩ | ⟨_,_,q⟩ <;> omega
   unfold namedOff at hk
   rw [if_neg (by omega),if_neg (by omega),if_neg (by omega),if_neg (by omega)] at hk
   cases hk
 ·intro y hy
  have:=hg.rows y hy
  exact nm _ (by omega) (by omega) (vals_row hy)
end
theorem fuseP_good {l:List S35} {r:List S37} (hg:GoodD l r):GoodD (fuseP l r).1 (fuseP l r).2:=by
 obtain ⟨i,h⟩:=fuse_end l r
 obtain ⟨c1,c2,c3,c4,c5⟩:=h.conds hg
 rw [fuseP_eq]
 exact without_good (h.goodD hg) c1 c2 c3 c4 c5
section
variable {l:List S35} {s:List S35} {o:List Bool} {i:Nat}
theorem FI.goodE (h:FI l (targets l []) s o i) (hg:GoodE l):GoodE s:=by
 have key:∀ j,j < l.length→at5 s j=at5 l j∨((at5 l j).f0=17∧(at5 s j).f0=25∧j+1 < l.length):=by
  intro j hj
  rcases FI.or h hj with q | ⟨q1,q2⟩
  ·exact .inl q
  ·have o1:=hg.op j hj
   rcases fz_cases q2 with ⟨a,b,c⟩ | ⟨a,b,c⟩ | ⟨a,b,c⟩
   ·omega
   ·omega
   ·exact .inr ⟨a,c,q1⟩
 have hls:=h.ls
 have hp:=hg.pos
 refine ⟨by omega,?_,?_,?_⟩
 ·intro j hj
  have:=hg.op j (by omega)
  rcases key j (by omega) with q | ⟨q1,q2,q3⟩
  ·rw [q];exact this
  ·omega
 ·intro j hj
  rw [hls]
  rcases key j (by omega) with q | ⟨q1,q2,q3⟩
  ·rw [q];exact hg.fin j (by omega)
  ·constructor
   ·intro e;omega
   ·intro e;omega
 ·intro j hj
  rw [hls]
  rcases key j (by omega) with q | ⟨q1,q2,q3⟩
  ·rw [q];exact hg.has j (by omega)
  ·intro e;omega
theorem FI.condsE (h:FI l (targets l []) s o i) (hg:GoodE l):o.length=s.length∧stays o (s.length - 1)∧(∀ j,stays o j→namesStay o (at5 s j)):=by
 have hp:=hg.pos
 refine ⟨by rw [h.lo,h.ls],?_,?_⟩
 ·rw [h.ls]
  false_or_by_contra
  rename_i hs
  have:=(h.outD (j:=l.length - 1) (by omega) hs).1
  have:=(hg.fin (l.length - 1) (by omega)).2 rfl
  omega
 ·intro j hs
  have hj:j < l.length:=by have:=stays_lt hs;have:=h.lo;omega
  rcases h.or hj with q | ⟨q1,q2⟩
  ·intro k hk
   rw [q] at hk ⊢
   have hv:=vals_step (l1:=[]) hj hk
   have:=hg.op j hj
   by_cases h2:(at5 l j).f0=16
   ·rw [named_16 h2] at hk;injection hk with hk;subst hk
    have:=hg.has j hj h2
    have e:getF (at5 l j) 2=(at5 l j).f2:=rfl
    rw [e] at hv ⊢
    refine ⟨by omega,?_⟩
    false_or_by_contra
    rename_i hs2
    obtain ⟨_,_,hn⟩:=h.outD (j:=(at5 l j).f2.toNat) (by omega) hs2
    rw [show (((at5 l j).f2.toNat:Nat):Int)=(at5 l j).f2 by omega] at hn
    exact hn hv
   ·unfold namedOff at hk
    rw [if_neg (by omega),if_neg (by omega),if_neg (by omega),if_neg h2] at hk
    cases hk
  ·intro k hk
   exfalso
   have e:(at5 s j).f0=14∨(at5 s j).f0=15∨(at5 s j).f0=25:=by
    rcases fz_cases q2 with ⟨_,_,q⟩ | ⟨_,_,q⟩ | ⟨_,_,q⟩ <;> omega
   unfold namedOff at hk
   rw [if_neg (by omega),if_neg (by omega),if_neg (by omega),if_neg (by omega)] at hk
   cases hk
end
theorem fuseP_goodE {l:List S35} (hg:GoodE l):GoodE (fuseP l []).1:=by
 obtain ⟨i,h⟩:=fuse_end l []
 obtain ⟨c1,c3,c4⟩:=h.condsE hg
 rw [fuseP_eq]
 exact without_goodE (h.goodE hg) c1 c3 c4
end Go.Proofs.Ytedghbjmhcgilaa.A
end
section
namespace Go.Proofs.Ytedghbjmhcgilaa.A
open Go.RowKit Go.Proofs.YtedghbjmhcgilaaW.PrintWords Go.Proofs.YtedghbjmhcgilaaW.PrintLast Go.Proofs.YtedghbjmhcgilaaW.PrintMore
open Go.Proofs.Ytedghbjmhcgilaa.POpt
theorem w64i {x:Int} (h:-9223372036854775808≤x∧x≤9223372036854775807):wrap64 x=x:=by unfold wrap64;omega
theorem rd35 (l:List S35) (i:Nat):rdQ l (i:Int)=at5 l i:=by unfold rdQ at5;rw [Int.toNat_natCast]
def at2 (l:List S37) (i:Nat):S37:=l.getD i z37
theorem rd37 (l:List S37) (i:Nat):rdR l (i:Int)=at2 l i:=by unfold rdR at2;rw [Int.toNat_natCast]
theorem at2_lt {l:List S37} {i:Nat} (h:i < l.length):at2 l i=l[i]:=by simp [at2,h]
def numS (bs:List S30) (x:S35):Bool:=N.numB bs x.f0 x.f1 x.f2 x.f3 x.f4
def okD (bs:List S30) (n i:Nat) (x:S35):Bool :=
 (decide (1≤x.f0) && (decide (x.f0≤15) && (!(x.f0 == 1 && decide (0 < i)) && numS bs x))) && (!(x.f0 == 2 && (decide (x.f2≤i) || decide (x.f2 ≥ n))) && (!(x.f0 == 3 && (decide (x.f1≤i) || decide (x.f1 ≥ n))) && !(x.f0 == 4 && (decide (x.f1 < 0) || (decide (x.f1 ≥ n) || (decide (x.f1 > 0) && decide (x.f1≤i)))))))
def jl (l:List S35):Nat→Nat→Int→Int→Int × Int
 | 0,_,J,L=>(J,L)
 | p+1,i,J,L=>if (at5 l i).f0=3 then jl l p (i+1) (J+1) i else jl l p (i+1) J L
def rowsB (n:Nat) (L:Int) (r:List S37):Bool:=r.all fun y=>N.isTagB y.f0 && (decide (L < y.f1) && decide (y.f1 < n))
def decB (bs:List S30) (l:List S35) (r:List S37):Bool :=
 (decide (0 < l.length) && ((at5 l (l.length - 1)).f0 == 4 && (at5 l 0).f0 == 1)) && ((List.range l.length).all (fun j=>okD bs l.length j (at5 l j)) && ((decide ((jl l l.length 0 0 0).1 > 0) == decide (0 < r.length)) && rowsB l.length (jl l l.length 0 0 0).2 r))
theorem decB_bad {bs:List S30} {l:List S35} {r:List S37} {i:Nat} (hi:i < l.length) (h:okD bs l.length i (at5 l i)=false):decB bs l r=false:=by
 unfold decB
 have:(List.range l.length).all (fun j=>okD bs l.length j (at5 l j))=false:=by
  rw [List.all_eq_false]
  exact ⟨i,List.mem_range.2 hi,by simp [h]⟩
 rw [this]
 simp
structure Met3 (l:List S35) (i:Nat) (J L:Int):Prop where
 j0:0≤J∧J≤i
 none_:J=0→∀ j,j < i→(at5 l j).f0≠3
 some_:0 < J→∃ j,j < i∧(at5 l j).f0=3
 last:∀ j,j < i→(at5 l j).f0=3→(j:Int)≤L
 l0:0≤L
theorem Met3.next {l:List S35} {i:Nat} {J L:Int} (h:Met3 l i J L):Met3 l (i+1) (if (at5 l i).f0=3 then J+1 else J) (if (at5 l i).f0=3 then (i:Int) else L):=by
 have h0:=h.j0
 by_cases h3:(at5 l i).f0=3
 ·rw [if_pos h3,if_pos h3]
  refine ⟨by omega,fun h=>by omega,fun _=>⟨i,by omega,h3⟩,fun j hj _=>by omega,by omega⟩
 ·rw [if_neg h3,if_neg h3]
  refine ⟨by omega,fun hh j hj=>?_,fun hh=>?_,fun j hj hj3=>?_,h.l0⟩
  ·by_cases ej:j=i
   ·subst ej;exact h3
   ·exact h.none_ hh j (by omega)
  ·obtain ⟨j,h1,h2⟩:=h.some_ hh
   exact ⟨j,by omega,h2⟩
  ·by_cases ej:j=i
   ·subst ej;exact absurd hj3 h3
   ·exact h.last j (by omega) hj3
theorem jl_met {l:List S35}:∀ (p i:Nat) (J L:Int),Met3 l i J L→Met3 l (i+p) (jl l p i J L).1 (jl l p i J L).2:=by
 intro p
 induction p with
 | zero=>intro i J L h;exact h
 | succ p ih =>
  intro i J L h
  have hn:=h.next
  rw [jl]
  by_cases h3:(at5 l i).f0=3
  ·rw [if_pos h3] at *
   rw [if_pos h3] at hn
   have:=ih _ _ _ hn
   rwa [show i+1+p=i+(p+1) by omega] at this
  ·rw [if_neg h3] at *
   rw [if_neg h3] at hn
   have:=ih _ _ _ hn
   rwa [show i+1+p=i+(p+1) by omega] at this
theorem met_zero (l:List S35):Met3 l 0 0 0:=⟨by omega,fun _ j hj=>by omega,fun h=>by omega,fun j hj=>by omega,by omega⟩
structure DecOK (bs:List S30) (l:List S35) (r:List S37):Prop where
 good:GoodD l r
 num:∀ x ∈ l,numS bs x=true
 tags:∀ y ∈ r,N.isTagB y.f0=true
theorem okD_facts {bs:List S30} {n i:Nat} {x:S35} (h:okD bs n i x=true):(1≤x.f0∧x.f0≤15)∧(x.f0=1→i=0)∧numS bs x=true∧(x.f0=2→(i:Int) < x.f2∧x.f2 < n)∧(x.f0=3→(i:Int) < x.f1∧x.f1 < n)∧(x.f0=4→x.f1=0∨((i:Int) < x.f1∧x.f1 < n)):=by
 unfold okD at h
 simp only [Bool.and_eq_true,decide_eq_true_eq,Bool.not_eq_true',Bool.and_eq_false_iff,Bool.or_eq_false_iff,decide_eq_false_iff_not,beq_eq_false_iff_ne] at h
 obtain ⟨⟨h1,h2,h3,h4⟩,h5,h6,h7⟩:=h
 refine ⟨⟨h1,h2⟩,fun e=>?_,h4,fun e=>?_,fun e=>?_,fun e=>?_⟩
 ·rcases h3 with h | h
  ·exact absurd e h
  ·omega
 ·rcases h5 with h | h
  ·exact absurd e h
  ·omega
 ·rcases h6 with h | h
  ·exact absurd e h
  ·omega
 ·rcases h7 with h | h
  ·exact absurd e h
  ·obtain ⟨a,b,c⟩:=h
   by_cases z:x.f1=0
   ·exact .inl z
   ·right
    rcases c with c | c
    ·omega
    ·omega
theorem decB_ok {bs:List S30} {l:List S35} {r:List S37} (h:decB bs l r=true):DecOK bs l r:=by
 unfold decB at h
 simp only [Bool.and_eq_true,decide_eq_true_eq,beq_iff_eq,List.all_eq_true,List.mem_range] at h
 obtain ⟨⟨h0,h4,h1⟩,hall,hj,hr⟩:=h
 have hm:=jl_met l.length 0 0 0 (met_zero l)
 rw [Nat.zero_add] at hm
 unfold rowsB at hr
 simp only [List.all_eq_true,Bool.and_eq_true,decide_eq_true_eq] at hr
 have F:=fun i hi=>okD_facts (hall i hi)
 refine ⟨⟨h0,h1,h4,fun i hi=>(F i hi).1,fun i hi=>(F i hi).2.1,fun i hi=>(F i hi).2.2.2.1,fun i hi=>(F i hi).2.2.2.2.1,fun i hi=>(F i hi).2.2.2.2.2,fun y hy=>?_,fun y hy j hjl h3=>?_,fun e j hjl=>?_⟩,fun x hx=>?_,fun y hy=>(hr y hy).1⟩
 ·have:=(hr y hy).2;have:=hm.l0;omega
 ·have:=(hr y hy).2;have:=hm.last j hjl h3;omega
 ·subst e
  have hJ:(jl l l.length 0 0 0).1=0:=by
   have:=hm.j0
   false_or_by_contra
   have hJ:(jl l l.length 0 0 0).1 > 0:=by omega
   simp [hJ] at hj
  exact hm.none_ hJ j hjl
 ·obtain ⟨i,hi,rfl⟩:=List.mem_iff_getElem.1 hx
  have:=(F i hi).2.2.1
  rwa [at5_lt hi] at this
end Go.Proofs.Ytedghbjmhcgilaa.A
end
