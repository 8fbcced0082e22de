/- Merged of V29 V30. -/
import Derived.Deep.QuietTactic
import Derived.BigQuiet
import Derived.Test.YtaalbcfpacpgfaaGreatZaM3
set_option linter.unusedVariables false
set_option linter.unusedSimpArgs false
namespace Go.Proofs.YtaalbcfpacpgfaaGreat
open Go.RowKit Go.Lib Go.Vfs Go.Par
theorem Calm.short {fs:List File} {k d:Nat} (h:Calm fs k d):∀ f∈fs,f.name.length≤100000:=fun f hf=>by have:=name_len (h.names f hf);omega
theorem slice_from (A:Option Addr) (n c N:Nat) (w:World) (h:N≤n):(Instr.slice 24 (.slice A n c) (some (.int .i64 (N:Int))) none none).run Tryz.prog w=.ok (sliced A N n c 1) w:=by
 have ht':Tryz.prog.underlying 24=some (.slice (Tryz.prog.elem 24)):=by simp [Program.elem,Tryz.underlying24]
 have he:Tryz.prog.elem 24=5:=by simp [Program.elem,Tryz.underlying24]
 rw [run_slice_l w 24 _ _ _ ht' .i64 _ (by omega) (by omega),he,Tryz.sizeOf5]
 simp [Result.andThen]
theorem seg_take {w:World} {B:Nat} {A:Option Addr} {c:Nat} {l:List UInt8} (h:Seg w B (.slice A l.length c) (byteCells l)) (k:Nat) (hk:k≤l.length):k≤c∧Seg w B (.slice A k c) (byteCells (l.take k)):=by
 have hh:Seg w B (.slice A (l.take k ++ l.drop k).length c) (byteCells (l.take k ++ l.drop k)):=by rw [List.take_append_drop];exact h
 have hl:(l.take k).length=k:=by simp;omega
 have:=seg_front hh
 rw [hl] at this
 exact this
theorem seg_drop {w:World} {B:Nat} {A:Option Addr} {c:Nat} {l:List UInt8} (h:Seg w B (.slice A l.length c) (byteCells l)) (k:Nat) (hk:k≤l.length):∃ A2 c2,sliced A k l.length c 1=.slice A2 (l.length - k) c2∧Seg w B (.slice A2 (l.length - k) c2) (byteCells (l.drop k)):=by
 obtain ⟨A',c',e,h2,h3,h4⟩:=h
 rw [byteCells_length] at e h2 h4
 cases e
 have hl:(byteCells (l.drop k)).length=l.length - k:=by rw [byteCells_length];simp
 by_cases hkl:k < l.length
 ·obtain ⟨b,off,e,hb,hc⟩:=h4 (by omega)
  subst e
  have hs:sliced (some ⟨b,off,none⟩) k l.length c 1=.slice (some ⟨b,off+k,none⟩) (l.length - k) (c - k):=by
   have hne:¬ c=k:=by omega
   unfold sliced
   by_cases h0:k=0
   ·subst h0;simp [Addr.add]
   ·simp [Addr.add,hne]
    omega
  refine ⟨_,_,hs,_,c - k,by rw [hl],by omega,by omega,fun hp=>⟨b,off+k,rfl,hb,fun i hi=>?_⟩⟩
  rw [hl] at hi
  rw [Nat.add_assoc,hc _ (by omega)]
  simp [byteCells]
 ·have he:l.drop k=[]:=List.drop_eq_nil_of_le (by omega)
  have hs:∃ A2,sliced A k l.length c 1=.slice A2 (l.length - k) (c - k):=by
   unfold sliced
   split <;> exact ⟨_,rfl⟩
  obtain ⟨A2,hs⟩:=hs
  refine ⟨A2,c - k,hs,A2,c - k,by rw [hl],by omega,by omega,fun h=>by omega⟩
theorem rows_nil (S:Nat→Prop) (w:World):RowsAt S w (.slice none 0 0) []:=⟨[],rfl,⟨none,0,rfl,by simp,by simp [maxLen],fun h=>by simp at h⟩,fun i hi=>by simp at hi⟩
end Go.Proofs.YtaalbcfpacpgfaaGreat
