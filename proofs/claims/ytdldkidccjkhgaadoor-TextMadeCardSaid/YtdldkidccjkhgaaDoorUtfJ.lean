import Derived.Test.YtdldkidccjkhgaaDoorUtfX
import Derived.Test.YtdldkidccjkhgaaDoorU8j
namespace Go.Proofs.YtdldkidccjkhgaaDoor
open Go.RowKit Go.Par

def ListPost (w : World) (o : Option (List Int)) (e : Ending) (w' : World) : Prop :=
  Below w.heap.size w w' ∧ match o with
    | some rs => ∃ v, e = .returned (.tuple #[v, .int .i64 0]) ∧ Own w' w.heap.size 3 v (ints rs)
    | none => e = .returned (.tuple #[.slice none 0 0, .int .i64 40])

theorem ListPost.bad {w w' : World} {o : Option (List Int)} (h : o = none) (hb : Below w.heap.size w w') : ListPost w o (.returned (.tuple #[.slice none 0 0, .int .i64 40])) w' := by
  subst h; exact ⟨hb, rfl⟩
theorem ListPost.good {w w' : World} {o : Option (List Int)} {rs : List Int} {v : Value} (h : o = some rs) (hb : Below w.heap.size w w') (hown : Own w' w.heap.size 3 v (ints rs)) : ListPost w o (.returned (.tuple #[v, .int .i64 0])) w' := by
  subst h; exact ⟨hb, v, rfl, hown⟩

set_option maxHeartbeats 1000000 in
theorem join_any (v : Value) (zs : List Int) (B : Nat) (w : World) (hsg : Seg w B v (ints zs)) (hB : B ≤ w.heap.size) (hl : zs.length ≤ 1000000) :
    Calls Tryd.prog 37 #[v] w (ListPost w (joinZ zs)) := by
  obtain ⟨A, c, rfl, hc, hm, hat⟩ := hsg.open_ints
  clear hsg
  go_enter Tryd.func37, Tryd.ntmps37
  go_wp2
  go_loopw [4, 5, 6, 7] (fun v i _ _ wr => ∃ k acc, k ≤ zs.length ∧ acc.length ≤ k ∧ i = .int .i64 (k : Nat) ∧ Own wr w.heap.size 3 v (ints acc) ∧ JoinAt zs acc k ∧ Below w.heap.size w wr) (fun _ i _ _ _ => zs.length - (intOf i).toNat)
  case atStart => exact ⟨0, [], by omega, by simp, rfl, Own.nil _ _ _, JoinAt.start zs, Below.refl _ _⟩
  case round =>
    obtain ⟨k, acc, hk, hal, rfl, hown, hj, hbw⟩ := hrel
    have hsz := hbw.size
    by_cases hlt : k < zs.length
    · obtain ⟨b, off, x, rfl, hb, hcell, Hx⟩ := (hat.below (hbw.mono hB)).int hlt
      by_cases h0 : x < 0 ∨ 65536 ≤ x
      · have hlo : Par.lone (zs.getD k 0) = false := by rw [Hx.out]; simp [Par.lone, isR]; omega
        have hpr : k + 1 < zs.length → Par.pair (zs.getD k 0) (zs.getD (k + 1) 0) = false := fun _ => by rw [Hx.out]; simp [Par.pair]; omega
        have hno := Lib.hid (hj.bad hlt hlo hpr)
        clear hlo hpr hat
        rcases h0 with h0 | h0
        · go_wp2
          go_ret2
          exact ListPost.bad hno.out hbw
        · have h00 : ¬ x < 0 := by omega
          go_wp2
          go_ret2
          exact ListPost.bad hno.out hbw
      · have h00 : ¬ x < 0 := by omega
        have h01 : ¬ 65536 ≤ x := by omega
        clear h0
        by_cases hs : 55296 ≤ x ∧ x < 56320
        · obtain ⟨hs1, hs2⟩ := hs
          have hlo : Par.lone (zs.getD k 0) = false := by rw [Hx.out]; simp [Par.lone, isR]; omega
          by_cases hlt2 : k + 1 < zs.length
          · obtain ⟨b', off', y, e', hb', hcell2, Hy⟩ := (hat.below (hbw.mono hB)).int hlt2
            injection e' with e'
            injection e' with e1 e2
            subst e1 e2
            clear hat
            by_cases hy : 56320 ≤ y ∧ y < 57344
            · obtain ⟨hy1, hy2⟩ := hy
              have hpr : Par.pair (zs.getD k 0) (zs.getD (k + 1) 0) = true := by rw [Hx.out, Hy.out, pair_iff]; omega
              have hjn := Lib.hid (hj.pair hlt2 hpr)
              have hRc := isR_comb hpr
              rw [Hx.out, Hy.out] at hRc
              have hce : comb x y = 65536 + (x - 55296) * 1024 + y - 56320 := rfl
              have HR : Hid (isR (65536 + (x - 55296) * 1024 + y - 56320) = true) := hRc
              clear hlo hpr hRc hce
              have hown3 := hown.alloc (.cells #[.int .i64 (65536 + (x - 55296) * 1024 + y - 56320)] 3)
              have hsg := Seg.new wr 3 #[.int .i64 (65536 + (x - 55296) * 1024 + y - 56320)] (ints [65536 + (x - 55296) * 1024 + y - 56320]) rfl (by simp [ints, maxLen])
              go_wp2_with (first | (go_at_call 59; refine (isRune_any _ _).mono ?_; rintro e w' ⟨rfl, rfl⟩; rw [HR.out]) | (at_builtin; refine wpList_app _ rfl _ _ _ rfl w.heap.size 3 _ intE _ _ rfl hown3 _ _ (ints [65536 + (x - 55296) * 1024 + y - 56320]) rfl hsg (one_ints _) ?c1 ?c2 ?_))
              case c1 => rw [ints_length, ints_length]; simp; omega
              case c2 => first | omega | (simp; omega)
              intro v2 w2 hown4 hg2 hat2
              have hb3 : Below w.heap.size w w2 := below_app (hbw.alloc hsz _) hown3 hg2 (by simp; omega)
              go_wp2
              go_roundw
              case rel => exact ⟨k + 2, acc ++ [65536 + (x - 55296) * 1024 + y - 56320], by omega, by simp; omega, by go_num, by rw [ints_append]; exact hown4, by have := hjn.out; rw [Hx.out, Hy.out] at this; exact this, hb3⟩
              case measure => simp [intOf]; omega
            · have hpr : k + 1 < zs.length → Par.pair (zs.getD k 0) (zs.getD (k + 1) 0) = false := fun _ => by rw [Hx.out, Hy.out]; simp [Par.pair]; omega
              by_cases hy1 : 56320 ≤ y
              · have hy2 : ¬ y < 57344 := by omega
                clear hy
                have hno := Lib.hid (hj.bad hlt hlo hpr)
                have hR : isR x = false := by simp [isR]; omega
                have HR := Lib.hid hR
                clear hlo hpr hR 
                go_wp2_with (go_at_call 59; refine (isRune_any x _).mono ?_; rintro e w' ⟨rfl, rfl⟩; rw [HR.out])
                go_wp2
                go_ret2
                exact ListPost.bad hno.out hbw
              · clear hy
                have hno := Lib.hid (hj.bad hlt hlo hpr)
                have hR : isR x = false := by simp [isR]; omega
                have HR := Lib.hid hR
                clear hlo hpr hR 
                go_wp2_with (go_at_call 59; refine (isRune_any x _).mono ?_; rintro e w' ⟨rfl, rfl⟩; rw [HR.out])
                go_wp2
                go_ret2
                exact ListPost.bad hno.out hbw
          · have hpr : k + 1 < zs.length → Par.pair (zs.getD k 0) (zs.getD (k + 1) 0) = false := fun h => absurd h hlt2
            have hno := Lib.hid (hj.bad hlt hlo hpr)
            have hR : isR x = false := by simp [isR]; omega
            have HR := Lib.hid hR
            clear hlo hpr hR hat
            go_wp2_with (go_at_call 59; refine (isRune_any x _).mono ?_; rintro e w' ⟨rfl, rfl⟩; rw [HR.out])
            go_wp2
            go_ret2
            exact ListPost.bad hno.out hbw
        · by_cases hR : isR x = true
          · have hlo : Par.lone (zs.getD k 0) = true := by rw [Hx.out, lone_iff]; exact ⟨hR, by omega⟩
            have hjn := Lib.hid (hj.lone hlt hlo)
            have HR := Lib.hid hR
            clear hlo hR hat
            have hown3 := hown.alloc (.cells #[.int .i64 x] 3)
            have hsg := Seg.new wr 3 #[.int .i64 x] (ints [x]) rfl (by simp [ints, maxLen])
            by_cases hs1 : 55296 ≤ x
            · have hs2 : ¬ x < 56320 := by omega
              clear hs
              go_wp2_with (first | (go_at_call 59; refine (isRune_any _ _).mono ?_; rintro e w' ⟨rfl, rfl⟩; rw [HR.out]) | (at_builtin; refine wpList_app _ rfl _ _ _ rfl w.heap.size 3 _ intE _ _ rfl hown3 _ _ (ints [x]) rfl hsg (one_ints _) ?d1 ?d2 ?_))
              case d1 => rw [ints_length, ints_length]; simp; omega
              case d2 => first | omega | (simp; omega)
              intro v2 w2 hown4 hg2 hat2
              have hb3 : Below w.heap.size w w2 := below_app (hbw.alloc hsz _) hown3 hg2 (by simp; omega)
              go_wp2
              go_roundw
              case rel => exact ⟨k + 1, acc ++ [x], by omega, by simp; omega, by go_num, by rw [ints_append]; exact hown4, by have := hjn.out; rw [Hx.out] at this; exact this, hb3⟩
              case measure => simp [intOf]; omega
            · clear hs
              go_wp2_with (first | (go_at_call 59; refine (isRune_any _ _).mono ?_; rintro e w' ⟨rfl, rfl⟩; rw [HR.out]) | (at_builtin; refine wpList_app _ rfl _ _ _ rfl w.heap.size 3 _ intE _ _ rfl hown3 _ _ (ints [x]) rfl hsg (one_ints _) ?f1 ?f2 ?_))
              case f1 => rw [ints_length, ints_length]; simp; omega
              case f2 => first | omega | (simp; omega)
              intro v2 w2 hown4 hg2 hat2
              have hb3 : Below w.heap.size w w2 := below_app (hbw.alloc hsz _) hown3 hg2 (by simp; omega)
              go_wp2
              go_roundw
              case rel => exact ⟨k + 1, acc ++ [x], by omega, by simp; omega, by go_num, by rw [ints_append]; exact hown4, by have := hjn.out; rw [Hx.out] at this; exact this, hb3⟩
              case measure => simp [intOf]; omega
          · have hRf : isR x = false := by simpa using hR
            have hlo : Par.lone (zs.getD k 0) = false := by rw [Hx.out]; simp [Par.lone, hRf]
            have hpr : k + 1 < zs.length → Par.pair (zs.getD k 0) (zs.getD (k + 1) 0) = false := fun _ => by rw [Hx.out]; simp [Par.pair]; omega
            have hno := Lib.hid (hj.bad hlt hlo hpr)
            have HR := Lib.hid hRf
            clear hlo hpr hR hRf hat
            by_cases hs1 : 55296 ≤ x
            · have hs2 : ¬ x < 56320 := by omega
              clear hs
              go_wp2_with (go_at_call 59; refine (isRune_any x _).mono ?_; rintro e w' ⟨rfl, rfl⟩; rw [HR.out])
              go_wp2
              go_ret2
              exact ListPost.bad hno.out hbw
            · clear hs
              go_wp2_with (go_at_call 59; refine (isRune_any x _).mono ?_; rintro e w' ⟨rfl, rfl⟩; rw [HR.out])
              go_wp2
              go_ret2
              exact ListPost.bad hno.out hbw
    · have hkl : k = zs.length := by omega
      have HKL := Lib.hid hkl; clear hkl
      clear hat
      go_wp2
      go_ret2
      rw [HKL.out] at hj
      exact ListPost.good hj.done hbw hown
end Go.Proofs.YtdldkidccjkhgaaDoor
