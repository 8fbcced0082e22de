/- Texts JD J15 of the proof, joined. -/
import Derived.Test.YtaalbcfpacpgfaaGreatZaJC
import Derived.Test.YtaalbcfpacpgfaaGreatZaJ9
set_option linter.unusedVariables false
set_option linter.unusedSimpArgs false
namespace Go.Proofs.YtaalbcfpacpgfaaGreat
open Go.RowKit Go.Lib Go.Vfs Go.Par Go.Shelf
attribute [local go_sem] Oper.semAt_some
theorem Calm.do {st:St} {fs:List File} {k d:Nat} (h:Calm st.files k d) (h2:Calm fs k d):Calm (doSt st fs).1.files k d:=by
 unfold doSt
 split
 ·exact h
 ·exact h2
theorem do_power {st:St} {fs:List File} (h:st.power≤9223372036854775807):(doSt st fs).1.power≤9223372036854775807:=by
 unfold doSt
 split
 ·exact h
 ·show dec st.power≤_;unfold dec;split <;> omega
def encR (g:Nat) (ps:List (List UInt8)):List UInt8:=(ps.map (frameB g)).flatten
theorem encR_cons (g:Nat) (p:List UInt8) (ps:List (List UInt8)):encR g (p :: ps)=frameB g p ++ encR g ps:=by simp [encR]
theorem encR_snoc (g:Nat) (a:List (List UInt8)) (p:List UInt8):encR g (a ++ [p])=encR g a ++ frameB g p:=by simp [encR]
def frL (g:Nat):Nat→List (List UInt8)→List Fr
 | _,[]=>[]
 | i,p :: ps=>⟨g,p,i,i+12+p.length⟩ :: frL g (i+12+p.length) ps
theorem frL_pays (g:Nat):∀ (i:Nat) (ps:List (List UInt8)),(frL g i ps).map Fr.pay=ps
 | _,[]=>rfl
 | i,p :: ps=>by simp [frL,frL_pays g _ ps]
theorem frL_gens (g:Nat):∀ (i:Nat) (ps:List (List UInt8)),∀ x∈frL g i ps,x.gen=g
 | _,[]=>by simp [frL]
 | i,p :: ps=>by
  intro x hx
  rcases List.mem_cons.1 hx with rfl|hx
  ·rfl
  ·exact frL_gens g _ ps x hx
theorem frL_length (g:Nat):∀ (i:Nat) (ps:List (List UInt8)),(frL g i ps).length=ps.length
 | _,[]=>rfl
 | i,p :: ps=>by simp [frL,frL_length g _ ps]
theorem frL_end (g:Nat):∀ (i:Nat) (ps:List (List UInt8)),((frL g i ps).getLast?.map Fr.stop).getD i=i+(encR g ps).length
 | i,[]=>by simp [frL,encR]
 | i,p :: ps=>by
  have h:=frL_end g (i+12+p.length) ps
  rw [encR_cons,List.length_append,frameB_length]
  cases hp:frL g (i+12+p.length) ps with
  | nil =>
   rw [hp] at h
   simp [frL,hp] at h ⊢
   have:ps=[]:=List.eq_nil_of_length_eq_zero (by rw [←frL_length g (i+12+p.length) ps,hp];rfl)
   subst this
   simp [encR]
   omega
  | cons y ys =>
   rw [hp] at h
   rw [show frL g i (p :: ps)=⟨g,p,i,i+12+p.length⟩ :: frL g (i+12+p.length) ps from rfl,hp,List.getLast?_cons_cons]
   cases hl:(y :: ys).getLast? with
   | none=>simp at hl
   | some z =>
    rw [hl] at h
    simp at h ⊢
    omega
theorem frameB_eq (g:Nat) (p r:List UInt8):frameB g p ++ r=be4 g ++ (be4 p.length ++ (be4 (crc (be4 g ++ be4 p.length ++ p)) ++ (p ++ r))):=by simp [frameB]
theorem drop_past (a x:List UInt8) (k:Nat):(a ++ x).drop (a.length+k)=x.drop k:=by rw [←List.drop_drop];simp
theorem frAt_frame {b a r:List UInt8} {g:Nat} {p:List UInt8} (hg:g < 4294967296) (hp:p.length≤65536) (hb:b=a ++ (frameB g p ++ r)):frAt b a.length=some ⟨g,p,a.length,a.length+12+p.length⟩:=by
 have hC:=crc_lt (be4 g ++ be4 p.length ++ p)
 have hbl:b.length=a.length+(12+p.length+r.length):=by rw [hb,List.length_append,List.length_append,frameB_length]
 have hx:b=a ++ (be4 g ++ (be4 p.length ++ (be4 (crc (be4 g ++ be4 p.length ++ p)) ++ (p ++ r)))):=by rw [hb,frameB_eq]
 have d0:b.drop a.length=be4 g ++ (be4 p.length ++ (be4 (crc (be4 g ++ be4 p.length ++ p)) ++ (p ++ r))):=by
  have:=drop_past a (be4 g ++ (be4 p.length ++ (be4 (crc (be4 g ++ be4 p.length ++ p)) ++ (p ++ r)))) 0
  rw [←hx] at this;simpa using this
 have d4:b.drop (a.length+4)=be4 p.length ++ (be4 (crc (be4 g ++ be4 p.length ++ p)) ++ (p ++ r)):=by rw [hx,drop_past];rfl
 have d8:b.drop (a.length+8)=be4 (crc (be4 g ++ be4 p.length ++ p)) ++ (p ++ r):=by rw [hx,drop_past];rfl
 have d12:b.drop (a.length+12)=p ++ r:=by rw [hx,drop_past];rfl
 have n4:num4 (b.drop (a.length+4))=p.length:=by rw [d4,num4_be4 _ (by omega)]
 have n8:num4 (b.drop (a.length+8))=crc (be4 g ++ be4 p.length ++ p):=by rw [d8,num4_be4 _ hC]
 have n0:num4 (b.drop a.length)=g:=by rw [d0,num4_be4 _ hg]
 have t8:(b.drop a.length).take 8=be4 g ++ be4 p.length:=by rw [d0];rfl
 have tp:(b.drop (a.length+12)).take p.length=p:=by rw [d12];simp
 unfold frAt
 rw [n4,n8,n0,t8,tp,if_neg (by omega),if_neg (by omega),if_neg (by simp)]
theorem frsF_enc {b:List UInt8} {g:Nat} (hg:g < 4294967296):∀ (ps:List (List UInt8)) (a q:List UInt8) (f i:Nat),b=a ++ (encR g ps ++ q)→i=a.length→(∀ p∈ps,p.length≤65536)→ps.length < f →
  (frsF b f i).map (·.1)=frL g i ps ++ (frsF b (f - ps.length) (i+(encR g ps).length)).map (·.1)
 | [],a,q,f,i,hb,hi,hp,hf=>by simp [frL,encR]
 | p :: ps,a,q,f,i,hb,hi,hp,hf=>by
  obtain ⟨f,rfl⟩:∃ f',f=f'+1:=⟨f - 1,by simp at hf;omega⟩
  have hx:frAt b i=some ⟨g,p,i,i+12+p.length⟩:=by
   rw [hi]
   exact frAt_frame hg (hp p (by simp)) (r:=encR g ps ++ q) (by rw [hb,encR_cons];simp)
  rw [frsF_some hx,List.map_cons]
  have ih:=frsF_enc (b:=b) hg ps (a ++ frameB g p) q f (i+12+p.length) (by rw [hb,encR_cons];simp) (by rw [List.length_append,frameB_length];omega) (fun y hy=>hp y (by simp [hy])) (by simp at hf;omega)
  simp only at ih ⊢
  rw [ih,show f+1 - (p :: ps).length=f - ps.length by simp,encR_cons,List.length_append,frameB_length,show i+(12+p.length+(encR g ps).length)=i+12+p.length+(encR g ps).length by omega]
  rfl
theorem encR_count (g:Nat):∀ ps:List (List UInt8),ps.length≤(encR g ps).length
 | []=>by simp
 | p :: ps=>by rw [encR_cons,List.length_append,frameB_length,List.length_cons];have:=encR_count g ps;omega
theorem frs_enc {b q:List UInt8} {g:Nat} (hg:g < 4294967296) {ps:List (List UInt8)} (hb:b=encR g ps ++ q) (hp:∀ p∈ps,p.length≤65536) (hn:frAt b (encR g ps).length=none):(frs b).map (·.1)=frL g 0 ps:=by
 have hc:=encR_count g ps
 have h:=frsF_enc (b:=b) hg ps [] q (b.length+1) 0 hb rfl hp (by rw [hb,List.length_append];omega)
 unfold frs
 rw [h,Nat.zero_add,frsF_none hn]
 simp
theorem frAt_end {b:List UInt8} {i:Nat} (h:b.length≤i):frAt b i=none:=by unfold frAt;rw [if_pos (by omega)]
section
variable {b:List UInt8}
theorem pays_frL {g:Nat} {ps:List (List UInt8)} {l:List (FrOf b)} (h:l.map (·.1)=frL g 0 ps):pays l=ps:=by
 have:pays l=(l.map (·.1)).map Fr.pay:=by simp [pays]
 rw [this,h,frL_pays]
theorem endOf_frL {g:Nat} {ps:List (List UInt8)} {l:List (FrOf b)} (h:l.map (·.1)=frL g 0 ps):endOf l=(encR g ps).length:=by
 have:endOf l=((l.map (·.1)).getLast?.map Fr.stop).getD 0:=by unfold endOf;rw [List.getLast?_map,Option.map_map];rfl
 rw [this,h,frL_end];omega
theorem gens_frL {g:Nat} {ps:List (List UInt8)} {l:List (FrOf b)} (h:l.map (·.1)=frL g 0 ps):∀ x∈l,x.1.gen=g:=fun x hx =>
 frL_gens g 0 ps x.1 (h ▸ List.mem_map_of_mem hx)
end
attribute [local go_sem] Oper.semAt_some
theorem segS_cells {S:Nat→Prop} {w:World} {v:Value} {xs:List Value} (h:SegS S w v xs):SegS (fun k=>S k∧∃ o,w.heap[k]? = some o∧o.isCells=true) w v xs:=by
 obtain ⟨A,c,h1,h2,h3,h4⟩:=h
 refine ⟨A,c,h1,h2,h3,fun hl=>?_⟩
 obtain ⟨b,off,e,hb,hc⟩:=h4 hl
 refine ⟨b,off,e,⟨hb,?_⟩,hc⟩
 have:=hc 0 hl
 rw [List.getElem?_eq_getElem hl] at this
 exact cells_of_cell this
def GF (W:World) (pj B:Nat) (u:Value) (k:Nat):Prop:=k=pj∨u.ownBlock=some k∨(B≤k∧u.ownBlock≠some k∧∃ o,W.heap[k]? = some o∧o.isCells=true)
theorem JV.fresh {W:World} {pj p gen B:Nat} {u:Value} {us:List Value} {rows:List (List UInt8)} (hhead:W.heap[pj]? = some (.cells #[.pointer (some ⟨p,0,none⟩),.int .u32 (gen:Nat),u,.slice none 0 0] 95 (0,0)))
  (hown:Par.Own W B 24 u us) (hl:us.length=rows.length) (hB:pj < B) (hc:∀ i,i < rows.length→SegS (fun k=>B≤k∧u.ownBlock≠some k) W (us.getD i (.bool false)) (byteCells (rows.getD i []))) (hg:gen < 4294967296) :
  JV W pj p gen u (.slice none 0 0) us [] rows [] (GF W pj B u):=by
 have hlt:=hown.lt
 refine ⟨hhead,?_,World.ownsRow_nil W 0 24 1,fun i hi=>(segS_cells (hc i hi)).keep fun k ⟨⟨h1,h2⟩,h3⟩=>⟨⟨.inr (.inr ⟨h1,h2,h3⟩),by omega,h2,fun e=>by cases e⟩,rfl⟩,fun i hi=>by simp at hi,.inl rfl,fun g e=>⟨.inr (.inl e),by have:=hlt g e;omega⟩,fun g e=>by simp [Value.ownBlock] at e,fun k hk=>?_,hg⟩
 ·have:=hown.base (Nat.zero_le B)
  unfold Par.Own at this
  rwa [hl] at this
 ·rcases hk with rfl | hk | ⟨-,-,hk⟩
  ·exact ⟨_,hhead,rfl⟩
  ·exact own_cel hown k hk
  ·exact hk
end Go.Proofs.YtaalbcfpacpgfaaGreat
