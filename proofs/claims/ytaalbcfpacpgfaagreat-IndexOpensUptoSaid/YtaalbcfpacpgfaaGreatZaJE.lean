/- Merged of JQ JV J17. -/
import Derived.Test.YtaalbcfpacpgfaaGreatZaJ15
import Derived.Test.YtaalbcfpacpgfaaGreatZaJ16
set_option linter.unusedVariables false
set_option linter.unusedSimpArgs false
namespace Go.Proofs.YtaalbcfpacpgfaaGreat
open Go.RowKit Go.Lib Go.Vfs Go.Par Go.Shelf
theorem four_of:∀ a:List UInt8,a.length=4→∃ c0 c1 c2 c3,a=[c0,c1,c2,c3]
 | [c0,c1,c2,c3],_=>⟨c0,c1,c2,c3,rfl⟩
 | [],h | [_],h | [_,_],h | [_,_,_],h | _ :: _ :: _ :: _ :: _ :: _,h=>by simp at h
theorem num4_list {n:Nat} (hn:n < 4294967296) (a t:List UInt8) (ha:a.length=4) (h:num4 (a ++ t)=n):a=be4 n:=by
 obtain ⟨c0,c1,c2,c3,rfl⟩:=four_of a ha
 unfold num4 at h
 simp at h
 have h0:=c0.toNat_lt;have h1:=c1.toNat_lt;have h2:=c2.toNat_lt;have h3:=c3.toNat_lt
 unfold be4
 have a0:c0=(n / 16777216 % 256).toUInt8:=UInt8.toNat_inj.1 (by rw [u8_mod];omega)
 have a1:c1=(n / 65536 % 256).toUInt8:=UInt8.toNat_inj.1 (by rw [u8_mod];omega)
 have a2:c2=(n / 256 % 256).toUInt8:=UInt8.toNat_inj.1 (by rw [u8_mod];omega)
 have a3:c3=(n % 256).toUInt8:=UInt8.toNat_inj.1 (by rw [u8_mod];omega)
 rw [←a0,←a1,←a2,←a3]
structure V3 (fs:List File) (nx bs lg:Option File):Prop where
 nx:findL File.name nNext fs=nx
 bs:findL File.name nBase fs=bs
 lg:findL File.name nLog fs=lg
theorem V3.nil:V3 [] none none none:=⟨rfl,rfl,rfl⟩
section
variable {fs:List File} {nx bs lg:Option File} {pw:Int}
theorem V3.hasN (h:V3 fs nx bs lg):hasF fs nNext=nx.isSome:=by rw [hasF_find,h.nx]
theorem do_on (hp:pw≠0) (fs fs':List File):doSt ⟨pw,fs⟩ fs'=(⟨dec pw,fs'⟩,0):=by simp [doSt,hp]
end
theorem V3.op1 {fs:List File} {bs lg:Option File} {pw:Int} (h:V3 fs none bs lg):open1 ⟨pw,fs⟩=(⟨pw,fs⟩,0):=by unfold open1;rw [if_neg (by rw [h.hasN];decide)]
def logRecs (lg:Option File) (g:Nat):List (List UInt8):=match lg with | none=>[] | some f=>pays (sameGen g (frs f.data))
def logBad (lg:Option File) (g:Nat):Bool:=match lg with | none=>false | some f=>decide (endOf (sameGen g (frs f.data)) < f.data.length)
def baseOk (bs:Option File):Option (Nat × List (List UInt8)):=match bs with | none=>some (0,[]) | some f=>baseOf f.data
structure JH (B:Nat) (w0 w:World) (pj p:Nat) (st:St) (gen:Nat) (base log:List (List UInt8)) (F G:Nat→Prop):Prop where
 jf:JF w pj p st gen base log F G
 fnew:∀ k,F k→B≤k
 gnew:∀ k,G k→B≤k
 below:Below B w0 w
section
variable {B:Nat} {w0 w w':World} {pj p gen:Nat} {st:St} {base log:List (List UInt8)} {F G:Nat→Prop}
theorem JH.size (h:JH B w0 w pj p st gen base log F G) (hB:B≤w0.heap.size):B≤w.heap.size:=Nat.le_trans hB h.below.size
theorem JH.go (h:JH B w0 w pj p st gen base log F G) (hB:B≤w0.heap.size) (hb:Below w.heap.size w w'):JH B w0 w' pj p st gen base log F G :=
 ⟨h.jf.below hb,h.fnew,h.gnew,h.below.trans (hb.mono (h.size hB))⟩
theorem JH.op (h:JH B w0 w pj p st gen base log F G) (hB:B≤w0.heap.size) {st':St} {gen':Nat} {base' log':List (List UInt8)} (hp:JPost w pj p F G st' gen' base' log' w'):∃ F' G',JH B w0 w' pj p st' gen' base' log' F' G'∧Kept (fun k=>F k∨G k) w w'∧Grows w F F'∧Grows w G G':=by
 obtain ⟨F',G',h1,h2,h3,h4⟩:=hp
 have hs:=h.size hB
 refine ⟨F',G',⟨h1,fun k hk=>?_,fun k hk=>?_,h.below.trans (h2.below hs fun k hk=>?_)⟩,h2,h3,h4⟩
 ·rcases h3 k hk with a | a
  ·exact h.fnew k a
  ·omega
 ·rcases h4 k hk with a | a
  ·exact h.gnew k a
  ·omega
 ·rcases hk with hk | hk
  ·exact h.fnew k hk
  ·exact h.gnew k hk
theorem JH.lt (h:JH B w0 w pj p st gen base log F G):∀ k,(F k∨G k)→k < w.heap.size:=fun k hk=>by
 rcases hk with hk|hk
 ·exact h.jf.fs.lt k hk
 ·exact h.jf.js.lt k hk
end
theorem encR_len (g:Nat):∀ ps:List (List UInt8),(encR g ps).length=12 * ps.length+ps.flatten.length
 | []=>rfl
 | p :: ps=>by rw [encR_cons,List.length_append,frameB_length,encR_len g ps,List.flatten_cons,List.length_append,List.length_cons];omega
theorem open_new:openSt ⟨-1,[]⟩=(⟨-1,[]⟩,.ok (0,[],[])):=rfl
end Go.Proofs.YtaalbcfpacpgfaaGreat
