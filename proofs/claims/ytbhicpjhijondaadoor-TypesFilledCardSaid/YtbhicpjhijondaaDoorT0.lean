/- Types as trees; a type in memory; rows of types that a call has made. No function of the program in sight. -/
import Derived.Test.YtbhicpjhijondaaDoorMemS
namespace Go.Typ
open Go.RowKit Go.Lib Go.Vfs Go.Par
set_option linter.unusedVariables false

/-- a type: its kind, number, name and arguments. -/
inductive Ty where
  | mk (kind num : Int) (name : ByteArray) (args : List Ty)

def Ty.kind : Ty → Int | .mk k _ _ _ => k
def Ty.num : Ty → Int | .mk _ n _ _ => n
def Ty.name : Ty → ByteArray | .mk _ _ s _ => s
def Ty.args : Ty → List Ty | .mk _ _ _ ts => ts
theorem Ty.eta (T : Ty) : T = .mk T.kind T.num T.name T.args := by cases T; rfl
theorem Ty.ext' {T U : Ty} (h1 : T.kind = U.kind) (h2 : T.num = U.num) (h3 : T.name = U.name) (h4 : T.args = U.args) : T = U := by
  cases T; cases U; simp only [Ty.kind, Ty.num, Ty.name, Ty.args] at *; subst h1 h2 h3 h4; rfl

mutual
/-- how many parts. -/
def Ty.parts : Ty → Nat
  | .mk _ _ _ ts => 1 + partsL ts
def partsL : List Ty → Nat
  | [] => 0
  | a :: ts => a.parts + partsL ts
end
theorem Ty.parts_pos (T : Ty) : 0 < T.parts := by cases T; simp only [Ty.parts]; omega
theorem parts_mem {a : Ty} : ∀ {ts : List Ty}, a ∈ ts → a.parts ≤ partsL ts
  | b :: bs, h => by
    simp only [partsL]
    rcases List.mem_cons.1 h with rfl | h
    · omega
    · have := parts_mem h; omega
theorem length_parts : ∀ ts : List Ty, ts.length ≤ partsL ts
  | [] => by simp
  | a :: ts => by have := length_parts ts; have := a.parts_pos; simp only [partsL, List.length_cons]; omega
theorem Ty.parts_eq (T : Ty) : T.parts = 1 + partsL T.args := by cases T; rfl
theorem Ty.parts_arg {T : Ty} {i : Nat} (h : i < T.args.length) : (T.args[i]).parts < T.parts := by
  have := parts_mem (List.getElem_mem h)
  rw [T.parts_eq]; omega
/-- induction over a type's arguments. -/
theorem Ty.ind {p : Ty → Prop} (h : ∀ T, (∀ i (hi : i < T.args.length), p T.args[i]) → p T) (T : Ty) : p T := by
  have key : ∀ n, ∀ T : Ty, T.parts ≤ n → p T := by
    intro n
    induction n with
    | zero => intro T hT; have := T.parts_pos; omega
    | succ n ih => intro T hT; exact h T fun i hi => ih _ (by have := Ty.parts_arg hi; omega)
  exact key _ T (Nat.le_refl _)

/-- a part of a struct's value. -/
def fld : Value → Nat → Value
  | .agg xs, j => xs.getD j (.bool false)
  | _, _ => .bool false
/-- the four cells of a type's value. -/
def cells4 (v : Value) : List Value := [fld v 0, fld v 1, fld v 2, fld v 3]
def tyV (k num : Int) (name : ByteArray) (A : Option Addr) (n c : Nat) : Value := .agg #[.int .i64 k, .int .i64 num, .string name, .slice A n c]

/-- the type T lies in memory as the value v; its rows lie in the blocks S. -/
inductive TyAt (S : Nat → Prop) (W : World) : Value → Ty → Prop
  | mk (k num : Int) (name : ByteArray) (ts : List Ty) (A : Option Addr) (c : Nat) (vs : Nat → Value) (hc : ts.length ≤ c) (hm : c ≤ maxLen) (hn : name.size ≤ 9223372036854775807)
      (hcell : 0 < ts.length → ∃ b off, A = some ⟨b, off, none⟩ ∧ S b ∧ ∀ i, i < ts.length → ∀ j, j < 4 → W.cell? ⟨b, off + i * 4 + j, none⟩ = some (fld (vs i) j))
      (hsub : ∀ i (h : i < ts.length), TyAt S W (vs i) (ts[i])) : TyAt S W (tyV k num name A ts.length c) (.mk k num name ts)

theorem tyV_inj {k num k' num' : Int} {name name' : ByteArray} {A A' : Option Addr} {n c n' c' : Nat} (h : tyV k num name A n c = tyV k' num' name' A' n' c') : k = k' ∧ num = num' ∧ name = name' ∧ A = A' ∧ n = n' ∧ c = c' := by
  injection h with h
  have h0 := congrArg (fun a => a[0]?) h
  have h1 := congrArg (fun a => a[1]?) h
  have h2 := congrArg (fun a => a[2]?) h
  have h3 := congrArg (fun a => a[3]?) h
  simp at h0 h1 h2 h3
  exact ⟨h0, h1, h2, h3⟩
section
variable {S S' : Nat → Prop} {W W' : World} {v : Value} {T T' : Ty}
theorem TyAt.keep (h : TyAt S W v T) (hk : ∀ b, S b → S' b ∧ W'.heap[b]? = W.heap[b]?) : TyAt S' W' v T := by
  induction h with
  | mk k num name ts A c vs hc hm hn hcell hsub ih =>
    refine .mk k num name ts A c vs hc hm hn (fun h0 => ?_) ih
    obtain ⟨b, off, e, hb, hat⟩ := hcell h0
    exact ⟨b, off, e, (hk b hb).1, fun i hi j hj => by rw [World.cell?_of_block (w := W) (a := ⟨b, _, none⟩) ((hk b hb).2)]; exact hat i hi j hj⟩
theorem TyAt.sub (h : TyAt S W v T) (hS : ∀ b, S b → S' b) : TyAt S' W v T := h.keep fun b hb => ⟨hS b hb, rfl⟩
theorem TyAt.blw (h : TyAt (· < W.heap.size) W v T) (hb : Below W.heap.size W W') : TyAt (· < W'.heap.size) W' v T :=
  h.keep fun b hk => ⟨Nat.lt_of_lt_of_le hk hb.size, hb.block b hk⟩
theorem TyAt.form (h : TyAt S W v T) : ∃ A c, v = tyV T.kind T.num T.name A T.args.length c ∧ T.args.length ≤ c ∧ c ≤ maxLen ∧ T.name.size ≤ 9223372036854775807 := by
  cases h with
  | mk k num name ts A c vs hc hm hn hcell hsub => exact ⟨A, c, rfl, hc, hm, hn⟩
/-- an argument's value and its cells. -/
theorem TyAt.arg {k num : Int} {name : ByteArray} {A : Option Addr} {n c : Nat} (h : TyAt S W (tyV k num name A n c) T) {i : Nat} (hi : i < T.args.length) :
    ∃ b off A' c', A = some ⟨b, off, none⟩ ∧ S b ∧ TyAt S W (tyV T.args[i].kind T.args[i].num T.args[i].name A' T.args[i].args.length c') T.args[i] ∧
      W.cell? ⟨b, off + i * 4, none⟩ = some (.int .i64 T.args[i].kind) ∧ W.cell? ⟨b, off + i * 4 + 1, none⟩ = some (.int .i64 T.args[i].num) ∧
      W.cell? ⟨b, off + i * 4 + 2, none⟩ = some (.string T.args[i].name) ∧ W.cell? ⟨b, off + i * 4 + 3, none⟩ = some (.slice A' T.args[i].args.length c') := by
  generalize hv : tyV k num name A n c = v at h
  cases h with
  | mk k' num' name' ts A' c' vs hc hm hn hcell hsub =>
    obtain ⟨rfl, rfl, rfl, rfl, rfl, rfl⟩ := tyV_inj hv
    obtain ⟨b, off, e, hb, hat⟩ := hcell (by simp only [Ty.args] at hi; omega)
    have hs := hsub i hi
    obtain ⟨A2, c2, e2, _⟩ := hs.form
    refine ⟨b, off, A2, c2, e, hb, by show TyAt S W (tyV ts[i].kind ts[i].num ts[i].name A2 ts[i].args.length c2) ts[i]; rw [← e2]; exact hs, ?_⟩
    have h0 := hat i hi 0 (by omega)
    have h1 := hat i hi 1 (by omega)
    have h2 := hat i hi 2 (by omega)
    have h3 := hat i hi 3 (by omega)
    rw [e2] at h0 h1 h2 h3
    exact ⟨h0, h1, h2, h3⟩
theorem TyAt.tail {k num : Int} {name : ByteArray} {A : Option Addr} {n c : Nat} (h : TyAt S W (tyV k num name A n c) T) : k = T.kind ∧ num = T.num ∧ name = T.name ∧ n = T.args.length ∧ n ≤ c ∧ c ≤ maxLen := by
  obtain ⟨A', c', e, h1, h2, h3⟩ := h.form
  obtain ⟨rfl, rfl, rfl, rfl, rfl, rfl⟩ := tyV_inj e
  exact ⟨rfl, rfl, rfl, rfl, h1, h2⟩
/-- what lies in memory is one type. -/
theorem TyAt.one (h : TyAt S W v T) (h' : TyAt S' W v T') : T = T' := by
  induction T using Ty.ind generalizing v T' with
  | h T ih =>
    obtain ⟨A, c, rfl, _⟩ := h.form
    obtain ⟨e1, e2, e3, e4, _⟩ := h'.tail
    refine Ty.ext' e1 e2 e3 (List.ext_getElem e4 fun i hi hi' => ?_)
    obtain ⟨b, off, A1, c1, rfl, _, ht, x0, x1, x2, x3⟩ := h.arg hi
    obtain ⟨b', off', A2, c2, eA, _, ht', y0, y1, y2, y3⟩ := h'.arg hi'
    injection eA with eA
    injection eA with eb eo
    subst eb eo
    rw [x0] at y0; rw [x1] at y1; rw [x2] at y2; rw [x3] at y3
    injection y0 with y0; injection y0 with _ y0
    injection y1 with y1; injection y1 with _ y1
    injection y2 with y2; injection y2 with y2
    injection y3 with y3; injection y3 with y3 y4 y5
    refine ih i hi ht ?_
    rw [y0, y1, y2, y3, y4, y5]
    exact ht'
/-- rows at the same place are the same. -/
theorem TyAt.same_row {k num k' num' : Int} {name name' : ByteArray} {A : Option Addr} {n c n' c' : Nat} (h : TyAt S W (tyV k num name A n c) T) (h' : TyAt S' W (tyV k' num' name' A n' c') T') (hn : n = n') : T.args = T'.args := by
  obtain ⟨e1, e2, e3, e4, _⟩ := h.tail
  obtain ⟨f1, f2, f3, f4, _⟩ := h'.tail
  refine List.ext_getElem (by omega) fun i hi hi' => ?_
  obtain ⟨b, off, A1, c1, rfl, _, ht, x0, x1, x2, x3⟩ := h.arg hi
  obtain ⟨b', off', A2, c2, eA, _, ht', y0, y1, y2, y3⟩ := h'.arg hi'
  injection eA with eA
  injection eA with eb eo
  subst eb eo
  rw [x0] at y0; rw [x1] at y1; rw [x2] at y2; rw [x3] at y3
  injection y0 with y0; injection y0 with _ y0
  injection y1 with y1; injection y1 with _ y1
  injection y2 with y2; injection y2 with y2
  injection y3 with y3; injection y3 with y3 y4 y5
  refine TyAt.one (S' := S') ht ?_
  rw [y0, y1, y2, y3, y4, y5]
  exact ht'
end
end Go.Typ
